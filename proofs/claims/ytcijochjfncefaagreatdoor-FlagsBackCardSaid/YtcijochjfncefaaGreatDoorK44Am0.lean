/- A part of my own abstract layer. -/
import Derived.Laws.AppendOwn
import Derived.Laws.World
import Derived.Calls
import Derived.Tactics
import Derived.MapKept
import Derived.Laws.Entries
import Derived.Laws.Strings
import Derived.Laws.Slices
import Derived.WalkArith
namespace Go.AM

inductive Ty where
  | bool | int (k : IntKind) | str | unit | err
  | pair (a b : Ty) | list (t : Ty) | arr (n : Nat) (t : Ty) | named (n : Nat) | ptr (t : Ty)
  deriving DecidableEq

def Ty.den (T : Nat → Type) : Ty → Type
  | .bool => Bool | .int _ => Int | .str => List UInt8 | .unit => Unit | .err => Nat
  | .pair a b => a.den T × b.den T | .list t => List (t.den T) | .arr _ t => List (t.den T) | .named n => T n | .ptr t => Option (t.den T)

def Ty.width (wd : Nat → Nat) : Ty → Nat
  | .pair a b => a.width wd + b.width wd | .unit => 0 | .arr n t => n * t.width wd | .named n => wd n | _ => 1

def Ty.flat (fl : Nat → Bool) : Ty → Bool
  | .pair a b => a.flat fl && b.flat fl | .arr _ t => t.flat fl | .named n => fl n | .list _ => false | .ptr _ => false | _ => true

def Ty.isAgg : Ty → Bool
  | .pair _ _ | .unit | .arr _ _ | .named _ => true
  | _ => false

structure Univ where
  T : Nat → Type
  body : Nat → Ty
  out : (n : Nat) → T n → (body n).den T
  inn : (n : Nat) → (body n).den T → T n
  out_inn : ∀ n x, out n (inn n x) = x
  inn_out : ∀ n x, inn n (out n x) = x
  wd : Nat → Nat
  wd_ok : ∀ n, (body n).width wd = wd n
  fl : Nat → Bool
  fl_ok : ∀ n, fl n = true → (body n).flat fl = true

structure Out where
  ev : Nat → Value
  ev_one : ∀ k, (ev k).oneCell' = true
  ev_if : ∀ k, ∃ T v, ev k = .iface T v
  gl : Nat → Option Value := fun _ => none
  pl : Nat → Prop := fun _ => False
  gc : Nat → Option (Array Value) := fun _ => none

def Out.Glob (O : Out) (S : Nat → Prop) (w : World) : Prop :=
  (∀ g v, O.gl g = some v → S g ∧ w.cell? ⟨g, 0, none⟩ = some v) ∧ (∀ b, O.pl b → S b ∧ ∃ c t, w.heap[b]? = some (.cells c t (0, 0))) ∧ ∀ g arr, O.gc g = some arr → S g ∧ ∃ t, w.heap[g]? = some (.cells arr t (0, 0))

theorem Out.Glob.mono {O : Out} {S S' : Nat → Prop} {w w' : World} (h : O.Glob S w) (hw : ∀ b, S b → w'.heap[b]? = w.heap[b]?) (hS : ∀ b, S b → S' b) : O.Glob S' w' :=
  ⟨fun g v hg => ⟨hS g (h.1 g v hg).1, by rw [← (h.1 g v hg).2]; simp only [World.cell?]; rw [hw g (h.1 g v hg).1]⟩, fun b hb => ⟨hS b (h.2.1 b hb).1, by rw [hw b (h.2.1 b hb).1]; exact (h.2.1 b hb).2⟩, fun g arr hg => ⟨hS g (h.2.2 g arr hg).1, by rw [hw g (h.2.2 g arr hg).1]; exact (h.2.2 g arr hg).2⟩⟩

abbrev Univ.D (U : Univ) (t : Ty) : Type := t.den U.T

section
variable (U : Univ) (O : Out)

def unkE : Nat := 1000000007
inductive Rd (S : Nat → Prop) (w : World) : (t : Ty) → t.den U.T → List Value → Prop
  | bool (b : Bool) : Rd S w .bool b [.bool b]
  | int (k : IntKind) (n : Int) : Rd S w (.int k) n [.int k n]
  | str (s : ByteArray) : Rd S w .str s.data.toList [.string s]
  | unit : Rd S w .unit () []
  | err0 : Rd S w .err (0 : Nat) [.nilIface]
  | err (k : Nat) : Rd S w .err (k + 1 : Nat) [O.ev k]
  | errU (T : TypeId) (v : Value) : Rd S w .err (unkE : Nat) [.iface T v]
  | pair {a b : Ty} {x : a.den U.T} {y : b.den U.T} {c1 c2 : List Value} : Rd S w a x c1 → Rd S w b y c2 → Rd S w (.pair a b) (x, y) (c1 ++ c2)
  | named (n : Nat) (x : U.T n) {cs : List Value} : Rd S w (U.body n) (U.out n x) cs → Rd S w (.named n) x cs
  | lnil (t : Ty) : Rd S w (.list t) ([] : List (t.den U.T)) [.slice none 0 0]
  | lemp (t : Ty) (a : Addr) (cap : Nat) : Rd S w (.list t) ([] : List (t.den U.T)) [.slice (some a) 0 cap]
  | list (t : Ty) (xs : List (t.den U.T)) (b o cap : Nat) (cs : Nat → List Value) (hS : S b) (hcap : xs.length ≤ cap)
      (hel : ∀ (i : Nat) (h : i < xs.length), Rd S w t xs[i] (cs i))
      (hc : ∀ i j : Nat, i < xs.length → j < t.width U.wd → w.cell? ⟨b, o + (i * t.width U.wd + j), none⟩ = (cs i)[j]?) :
      Rd S w (.list t) xs [.slice (some ⟨b, o, none⟩) xs.length cap]
  | arr (n : Nat) (t : Ty) (xs : List (t.den U.T)) (cs : Nat → List Value) (hn : xs.length = n)
      (hel : ∀ (i : Nat) (h : i < xs.length), Rd S w t xs[i] (cs i)) :
      Rd S w (.arr n t) xs ((List.range n).flatMap cs)
  | pnil (t : Ty) : Rd S w (.ptr t) (none : Option (t.den U.T)) [.pointer none]
  | pto (t : Ty) (x : t.den U.T) (b o : Nat) (cs : List Value) (hS : S b) (hx : Rd S w t x cs) (hc : ∀ j, j < t.width U.wd → w.cell? ⟨b, o + j, none⟩ = cs[j]?) : Rd S w (.ptr t) (some x : Option (t.den U.T)) [.pointer (some ⟨b, o, none⟩)]
end

section
variable {U : Univ} {O : Out} {S S' : Nat → Prop} {w w' : World}

theorem Rd.mono {t : Ty} {x : t.den U.T} {cs : List Value} (h : Rd U O S w t x cs) (hw : ∀ b, S b → w'.heap[b]? = w.heap[b]?) (hS : ∀ b, S b → S' b) : Rd U O S' w' t x cs := by
  induction h with
  | bool b => exact .bool b
  | int k n => exact .int k n
  | str s => exact .str s
  | unit => exact .unit
  | err0 => exact .err0
  | err k => exact .err k
  | errU T v => exact .errU T v
  | pair _ _ h1 h2 => exact .pair h1 h2
  | named n x _ h => exact .named n x h
  | lnil t => exact .lnil t
  | lemp t a cap => exact .lemp t a cap
  | list t xs b o cap cs hb hcap hel hc ih =>
    refine .list t xs b o cap cs (hS b hb) hcap ih fun i j hi hj => ?_
    rw [← hc i j hi hj]
    exact World.cell?_of_block (hw b hb)
  | arr n t xs cs hn hel ih => exact .arr n t xs cs hn ih
  | pnil t => exact .pnil t
  | pto t x b o cs hb hx hc ih => exact .pto t x b o cs (hS b hb) ih fun j hj => (World.cell?_of_block (hw b hb)).trans (hc j hj)

theorem flatMap_range_length (n k : Nat) (cs : Nat → List Value) (h : ∀ i, i < n → (cs i).length = k) : ((List.range n).flatMap cs).length = n * k := by
  induction n with
  | zero => simp
  | succ n ih =>
    rw [List.range_succ, List.flatMap_append, List.length_append, ih fun i hi => h i (by omega)]
    simp [h n (by omega), Nat.succ_mul]

theorem Rd.length {t : Ty} {x : t.den U.T} {cs : List Value} (h : Rd U O S w t x cs) : cs.length = t.width U.wd := by
  induction h with
  | pair _ _ h1 h2 => simp [Ty.width, h1, h2]
  | named n x _ h => rw [h]; exact U.wd_ok n
  | arr n t xs cs hn hel ih => exact flatMap_range_length n _ cs fun i hi => ih i (by omega)
  | _ => rfl

theorem Rd.one {t : Ty} {x : t.den U.T} {cs : List Value} (h : Rd U O S w t x cs) : ∀ c ∈ cs, c.oneCell' = true := by
  induction h with
  | pair _ _ h1 h2 => intro c hc; rcases List.mem_append.1 hc with h | h; exact h1 c h; exact h2 c h
  | named n x _ h => exact h
  | arr n t xs cs hn hel ih =>
    intro c hc
    obtain ⟨i, hi, hc⟩ := List.mem_flatMap.1 hc
    exact ih i (by rw [hn]; exact List.mem_range.1 hi) c hc
  | err k => intro c hc; simp at hc; subst hc; exact O.ev_one k
  | unit => intro c hc; cases hc
  | _ => intro c hc; simp at hc; subst hc; rfl

theorem Rd.flat {t : Ty} {x : t.den U.T} {cs : List Value} (h : Rd U O S w t x cs) : t.flat U.fl = true → Rd U O S' w' t x cs := by
  induction h with
  | bool b => exact fun _ => .bool b
  | int k n => exact fun _ => .int k n
  | str s => exact fun _ => .str s
  | unit => exact fun _ => .unit
  | err0 => exact fun _ => .err0
  | err k => exact fun _ => .err k
  | errU T v => exact fun _ => .errU T v
  | pair _ _ h1 h2 => intro hf; simp only [Ty.flat, Bool.and_eq_true] at hf; exact .pair (h1 hf.1) (h2 hf.2)
  | named n x _ h => intro hf; exact .named n x (h (U.fl_ok n hf))
  | lnil t => intro hf; cases hf
  | lemp t a cap => intro hf; cases hf
  | list t xs b o cap cs hb hcap hel hc ih => intro hf; cases hf
  | arr n t xs cs hn hel ih => intro hf; exact .arr n t xs cs hn fun i hi => ih i hi hf
  | pnil t => intro hf; cases hf
  | pto t x b o cs hb hx hc ih => intro hf; cases hf
end

inductive AVal (U : Univ) where
  | junk
  | lit (v : Value)
  | p (t : Ty) (x : t.den U.T)
  | pp (t : Ty) (x : t.den U.T)
  | loc (n off : Nat)
  | eloc (n wd i off : Nat)
  | vec (n wd off len : Nat)
  | mp (n : Nat)
  | opt (b : Bool) (n : Nat)
  | sel (b : Bool) (n wd len : Nat) (t : Ty) (x : t.den U.T)
  | clo (f : FuncId) (caps : List (AVal U))
  | agg (vs : List (AVal U))
  | tup (vs : List (AVal U))

inductive Blk (U : Univ) where
  | box (us : List (AVal U))
  | row (e : TypeId) (t : Ty) (xs : List (t.den U.T)) (fx : Bool)
  | map (t : Ty) (kvs : List (List UInt8 × t.den U.T))
  | opt (b : Bool) (B : Blk U)
  | mapE (t : Ty) (es : Array MapEntry) (clock : Nat) (ys : List (List UInt8 × t.den U.T))
  | iter (m : Nat) (t : Ty) (es : Array MapEntry) (clock : Nat) (ys left : List (List UInt8 × t.den U.T)) (cur : Option (List UInt8 × t.den U.T))
  | mapM (wd : Nat) (ys : List (List UInt8 × Value)) (cur : Option (List UInt8 × Nat × Nat))

abbrev Lay := Nat → Option (Nat × Nat)

def mkV : Bool → List Value → Value
  | true, cs => .agg cs.toArray
  | false, cs => cs.headD undef

section
variable (U : Univ) (O : Out) (S : Nat → Prop) (ι : Lay) (w : World)

mutual
def VV : AVal U → Value → Prop
  | .junk, _ => True
  | .lit v, u => u = v ∧ v.oneCell' = true
  | .p t x, u => ∃ cs, Rd U O S w t x cs ∧ u = mkV t.isAgg cs
  | .pp t x, u => ∃ b o cs, u = .pointer (some ⟨b, o, none⟩) ∧ S b ∧ Rd U O S w t x cs ∧ ∀ j, j < t.width U.wd → w.cell? ⟨b, o + j, none⟩ = cs[j]?
  | .loc n off, u => ∃ b c, ι n = some (b, c) ∧ u = .pointer (some ⟨b, off, none⟩)
  | .eloc n wd i off, u => ∃ b c, ι n = some (b, c) ∧ u = .pointer (some ⟨b, i * wd + off, none⟩)
  | .vec n wd off len, u => (ι n = none ∧ off = 0 ∧ len = 0 ∧ u = .slice none 0 0) ∨
      ∃ b c o, ι n = some (b, c) ∧ off + len ≤ c ∧ u = .slice (some ⟨b, o, none⟩) len (c - off) ∧ (o = off * wd ∨ (off = c ∧ 0 < off))
  | .mp n, u => ∃ b c, ι n = some (b, c) ∧ u = .map (some b)
  | .opt q n, u => (q = true → ∃ b c, ι n = some (b, c) ∧ u = .pointer (some ⟨b, 0, none⟩)) ∧ (q = false → u = .pointer none)
  | .sel q n wd len t x, u => (q = true → (ι n = none ∧ (0 : Nat) = 0 ∧ len = 0 ∧ u = .slice none 0 0) ∨
      ∃ b c o, ι n = some (b, c) ∧ 0 + len ≤ c ∧ u = .slice (some ⟨b, o, none⟩) len (c - 0) ∧ (o = 0 * wd ∨ ((0 : Nat) = c ∧ (0 : Nat) < 0))) ∧ (q = false → ∃ cs, Rd U O S w t x cs ∧ u = mkV t.isAgg cs)
  | .clo f caps, u => ∃ vs, VVs caps vs ∧ u = .func (.func f) #[] vs.toArray
  | .agg vs, u => ∃ us, VVs vs us ∧ u = .agg (us.flatMap fun v => v.cells.toList).toArray
  | .tup vs, u => ∃ us, VVs vs us ∧ u = .tuple us.toArray
def VVs : List (AVal U) → List Value → Prop
  | [], us => us = []
  | v :: vs, us => ∃ u us', us = u :: us' ∧ VV v u ∧ VVs vs us'
end

mutual
def AVal.names : AVal U → List Nat
  | .loc n _ | .eloc n _ _ _ | .vec n _ _ _ | .mp n | .opt _ n | .sel _ n _ _ _ _ => [n]
  | .clo _ vs | .agg vs | .tup vs => AVal.namesL vs
  | _ => []
def AVal.namesL : List (AVal U) → List Nat
  | [] => []
  | v :: vs => AVal.names v ++ AVal.namesL vs
end
end

def EntsR (U : Univ) (O : Out) (S : Nat → Prop) (w : World) (t : Ty) : List MapEntry → List (List UInt8 × t.den U.T) → Prop
  | [], ys => ys = []
  | e :: es, ys => ∃ y r, ys = y :: r ∧ (∃ s : ByteArray, e.key = .string s ∧ s.data.toList = y.1) ∧ (∃ cs, Rd U O S w t y.2 cs ∧ e.val = mkV t.isAgg cs) ∧ EntsR U O S w t es r

def EntsG {α : Type} (R : List UInt8 × α → Value → Prop) : List MapEntry → List (List UInt8 × α) → Prop
  | [], ys => ys = []
  | e :: es, ys => ∃ y r, ys = y :: r ∧ (∃ s : ByteArray, e.key = .string s ∧ s.data.toList = y.1) ∧ R y e.val ∧ EntsG R es r

def remOf {α : Type} (seen : Array Nat) : List MapEntry → List α → List α
  | e :: es, y :: ys => if seen.contains e.born then remOf seen es ys else y :: remOf seen es ys
  | _, _ => []

def BR (U : Univ) (O : Out) (S : Nat → Prop) (ι : Lay) (w : World) (n : Nat) : Blk U → Prop
  | .box us => ∃ b c vs arr e, ι n = some (b, c) ∧ VVs U O S ι w us vs ∧ (∀ v ∈ vs, ∀ x ∈ v.cells.toList, x.oneCell' = true) ∧ arr.toList = vs.flatMap (fun v => v.cells.toList) ∧ w.heap[b]? = some (.cells arr e (0, 0))
  | .row e t xs fx => (ι n = none ∧ xs = [] ∧ fx = false) ∨
      ∃ (b c : Nat) (arr : Array Value) (cs : Nat → List Value), ι n = some (b, c) ∧ w.heap[b]? = some (.cells arr e (0, 0)) ∧ arr.size = c * t.width U.wd ∧ c ≤ maxLen ∧ xs.length ≤ c ∧ (fx = true → xs.length = c) ∧
        (∀ (i : Nat) (h : i < xs.length), Rd U O S w t xs[i] (cs i)) ∧ ∀ i j : Nat, i < xs.length → j < t.width U.wd → arr[i * t.width U.wd + j]? = (cs i)[j]?
  | .map t kvs => ∃ b c es clock ys, ι n = some (b, c) ∧ w.heap[b]? = some (.map es clock) ∧ MapKept.Stamped es clock ∧ EntsR U O S w t es.toList ys ∧ ys.Perm kvs ∧
      kvs.Pairwise fun x y => Op.bytesLess x.1 y.1 = true
  | .opt q B => q = true → BR U O S ι w n B
  | .mapE t es clock ys => ∃ b c, ι n = some (b, c) ∧ w.heap[b]? = some (.map es clock) ∧ MapKept.Stamped es clock ∧ EntsR U O S w t es.toList ys
  | .iter m _ es clock ys left cur => ∃ b c mb mc seen, ι n = some (b, c) ∧ ι m = some (mb, mc) ∧ w.heap[b]? = some (.mapIter (some mb) clock seen clock) ∧ left.Perm (remOf seen es.toList ys) ∧
      ∀ y, cur = some y → ∃ (j : Nat) (e : MapEntry), es.toList[j]? = some e ∧ ys[j]? = some y ∧ ∃ pre : Array Nat, seen = pre.push e.born
  | .mapM _ ys none => ∃ b c es clock, ι n = some (b, c) ∧ w.heap[b]? = some (.map es clock) ∧ MapKept.Stamped es clock ∧ EntsG (fun y u => u = y.2) es.toList ys
  | .mapM wd ys (some x) => ∃ b c es clock, ι n = some (b, c) ∧ w.heap[b]? = some (.map es clock) ∧ MapKept.Stamped es clock ∧ EntsG (fun y u => if y.1 = x.1 then VV U O S ι w (.vec x.2.1 wd 0 x.2.2) u else u = y.2) es.toList ys

def Blk.names (U : Univ) : Blk U → List Nat
  | .box us => AVal.namesL U us
  | .row _ _ _ _ => []
  | .map _ _ => []
  | .opt _ B => Blk.names U B
  | .mapE _ _ _ _ => []
  | .iter m _ _ _ _ _ _ => [m]
  | .mapM _ _ none => []
  | .mapM _ _ (some x) => [x.2.1]

end Go.AM

namespace Go.AM

section
variable {U : Univ} {O : Out} {S S' : Nat → Prop} {ι ι' : Lay} {w w' : World}

mutual
theorem VV.mono (hw : ∀ b, S b → w'.heap[b]? = w.heap[b]?) (hS : ∀ b, S b → S' b) :
    ∀ (v : AVal U) (u : Value), (∀ n ∈ AVal.names U v, ι' n = ι n) → VV U O S ι w v u → VV U O S' ι' w' v u
  | .junk, _, _, _ => by simp [VV]
  | .lit v, u, _, h => by simpa [VV] using h
  | .p t x, u, _, h => by
    simp only [VV] at h ⊢
    obtain ⟨cs, h1, h2⟩ := h
    exact ⟨cs, h1.mono hw hS, h2⟩
  | .pp t x, u, _, h => by
    simp only [VV] at h ⊢
    obtain ⟨b, o, cs, h1, h2, h3, h4⟩ := h
    exact ⟨b, o, cs, h1, hS b h2, h3.mono hw hS, fun j hj => (World.cell?_of_block (hw b h2)).trans (h4 j hj)⟩
  | .loc n off, u, hn, h => by
    simp only [VV] at h ⊢
    rw [hn n (by simp [AVal.names])]; exact h
  | .eloc n wd i off, u, hn, h => by
    simp only [VV] at h ⊢
    rw [hn n (by simp [AVal.names])]; exact h
  | .vec n wd off len, u, hn, h => by
    simp only [VV] at h ⊢
    rw [hn n (by simp [AVal.names])]; exact h
  | .mp n, u, hn, h => by
    simp only [VV] at h ⊢
    rw [hn n (by simp [AVal.names])]; exact h
  | .sel q n wd len t x, u, hn, h => by
    simp only [VV] at h ⊢
    rw [hn n (by simp [AVal.names])]
    exact ⟨h.1, fun hq => by obtain ⟨cs, h1, h2⟩ := h.2 hq; exact ⟨cs, h1.mono hw hS, h2⟩⟩
  | .opt q n, u, hn, h => by
    simp only [VV] at h ⊢
    rw [hn n (by simp [AVal.names])]; exact h
  | .clo f vs, u, hn, h => by
    simp only [VV] at h ⊢
    obtain ⟨us, h1, h2⟩ := h
    exact ⟨us, VVs.mono hw hS vs us (by simpa [AVal.names] using hn) h1, h2⟩
  | .agg vs, u, hn, h => by
    simp only [VV] at h ⊢
    obtain ⟨us, h1, h2⟩ := h
    exact ⟨us, VVs.mono hw hS vs us (by simpa [AVal.names] using hn) h1, h2⟩
  | .tup vs, u, hn, h => by
    simp only [VV] at h ⊢
    obtain ⟨us, h1, h2⟩ := h
    exact ⟨us, VVs.mono hw hS vs us (by simpa [AVal.names] using hn) h1, h2⟩
theorem VVs.mono (hw : ∀ b, S b → w'.heap[b]? = w.heap[b]?) (hS : ∀ b, S b → S' b) :
    ∀ (vs : List (AVal U)) (us : List Value), (∀ n ∈ AVal.namesL U vs, ι' n = ι n) → VVs U O S ι w vs us → VVs U O S' ι' w' vs us
  | [], us, _, h => by simpa [VVs] using h
  | v :: vs, us, hn, h => by
    simp only [VVs] at h ⊢
    obtain ⟨u, us', h1, h2, h3⟩ := h
    exact ⟨u, us', h1, VV.mono hw hS v u (fun n hm => hn n (by simp [AVal.namesL, hm])) h2,
      VVs.mono hw hS vs us' (fun n hm => hn n (by simp [AVal.namesL, hm])) h3⟩
end

theorem EntsR.mono {t : Ty} (hw : ∀ b, S b → w'.heap[b]? = w.heap[b]?) (hS : ∀ b, S b → S' b) : ∀ {es : List MapEntry} {ys : List (List UInt8 × t.den U.T)}, EntsR U O S w t es ys → EntsR U O S' w' t es ys
  | [], _, h => h
  | _ :: _, _, ⟨y, r, h1, h2, ⟨cs, h3, h4⟩, h5⟩ => ⟨y, r, h1, h2, ⟨cs, h3.mono hw hS, h4⟩, EntsR.mono hw hS h5⟩

theorem EntsG.mono {α : Type} {R R' : List UInt8 × α → Value → Prop} : ∀ {es : List MapEntry} {ys : List (List UInt8 × α)}, (∀ y ∈ ys, ∀ u, R y u → R' y u) → EntsG R es ys → EntsG R' es ys
  | [], _, _, h => h
  | _ :: _, _, hR, ⟨y, r, h1, h2, h3, h4⟩ => by
    subst h1
    exact ⟨y, r, rfl, h2, hR y List.mem_cons_self _ h3, EntsG.mono (fun z hz => hR z (List.mem_cons_of_mem _ hz)) h4⟩

theorem BR.mono (hw : ∀ b, S b → w'.heap[b]? = w.heap[b]?) (hS : ∀ b, S b → S' b) {n : Nat} {B : Blk U} (hn : ι' n = ι n) (hns : ∀ m ∈ Blk.names U B, ι' m = ι m)
    (hb : ∀ b c, ι n = some (b, c) → w'.heap[b]? = w.heap[b]?) (h : BR U O S ι w n B) : BR U O S' ι' w' n B := by
  induction B with
  | box us =>
    obtain ⟨b, c, vs, arr, e, h1, h2, h3, h4, h5⟩ := h
    exact ⟨b, c, vs, arr, e, hn.trans h1, VVs.mono hw hS us vs hns h2, h3, h4, (hb b c h1).trans h5⟩
  | row e t xs fx =>
    rcases h with ⟨h1, h2⟩ | ⟨b, c, arr, cs, h1, h2, h3, h4, h5, h6, h7, h8⟩
    · exact .inl ⟨hn.trans h1, h2⟩
    · exact .inr ⟨b, c, arr, cs, hn.trans h1, (hb b c h1).trans h2, h3, h4, h5, h6, fun i hi => (h7 i hi).mono hw hS, h8⟩
  | map t kvs =>
    obtain ⟨b, c, es, clock, ys, h1, h2, h3, h4, h5, h6⟩ := h
    exact ⟨b, c, es, clock, ys, hn.trans h1, (hb b c h1).trans h2, h3, h4.mono hw hS, h5, h6⟩
  | opt q B ih => exact fun hq => ih hns (h hq)
  | mapE t es clock ys =>
    obtain ⟨b, c, h1, h2, h3, h4⟩ := h
    exact ⟨b, c, hn.trans h1, (hb b c h1).trans h2, h3, h4.mono hw hS⟩
  | iter m t es clock ys left cur =>
    obtain ⟨b, c, mb, mc, seen, h1, h2, h3, h4⟩ := h
    exact ⟨b, c, mb, mc, seen, hn.trans h1, (hns m (by simp [Blk.names])).trans h2, (hb b c h1).trans h3, h4⟩
  | mapM wd ys cur =>
    cases cur with
    | none =>
      obtain ⟨b, c, es, clock, h1, h2, h3, h4⟩ := h
      exact ⟨b, c, es, clock, hn.trans h1, (hb b c h1).trans h2, h3, h4⟩
    | some x =>
      obtain ⟨b, c, es, clock, h1, h2, h3, h4⟩ := h
      refine ⟨b, c, es, clock, hn.trans h1, (hb b c h1).trans h2, h3, h4.mono fun y hy u hu => ?_⟩
      split at hu
      · rename_i e
        rw [if_pos e]
        exact VV.mono hw hS _ _ (fun m hm => hns m (by simpa [AVal.names, Blk.names] using hm)) hu
      · rename_i e
        rw [if_neg e]; exact hu
end

structure St (U : Univ) where
  sl : List (Nat × AVal U)
  hp : List (Nat × Blk U)

structure LSpec (U : Univ) where
  rs : List (Nat × AVal U) := []
  ro : List (Nat × Blk U) := []
  cb : List (Nat × Blk U) := []
  ws : AVal U := .junk
  pb : List (Nat × Blk U) := []
  nn : List Nat := []

abbrev nm {α : Type} (l : List (Nat × α)) : List Nat := l.map (·.1)

structure Nx (U : Univ) (O : Out) (s : LSpec U) (S : Nat → Prop) (ι : Lay) (w : World) (S' : Nat → Prop) (ι' : Lay) (w' : World) : Prop where
  os : w'.os = w.os
  tape : w'.tape = w.tape
  output : w'.output = w.output
  size : w.heap.size ≤ w'.heap.size
  sub : ∀ b, S b → S' b
  new : ∀ b, S' b → S b ∨ w.heap.size ≤ b ∨ ∃ m ∈ nm s.cb, ∃ c, ι m = some (b, c)
  lt : ∀ b, S' b → b < w'.heap.size
  keep : ∀ b, b < w.heap.size → (∀ n ∈ nm s.cb, ∀ c, ι n ≠ some (b, c)) → w'.heap[b]? = w.heap[b]?
  lay : ∀ n, n ∉ s.nn → ι' n = ι n
  blk : ∀ x ∈ s.pb, BR U O S' ι' w' x.1 x.2
  plc : ∀ n ∈ nm s.pb, ∀ b c, ι' n = some (b, c) → ¬ S' b ∧ b < w'.heap.size ∧ (w.heap.size ≤ b ∨ ∃ m ∈ nm s.cb, ∃ c', ι m = some (b, c'))
  sep : ∀ n ∈ nm s.pb, ∀ m ∈ nm s.pb, n ≠ m → ∀ b c c', ι' n = some (b, c) → ι' m ≠ some (b, c')

structure Own (S : Nat → Prop) (ι : Lay) (w : World) (ns : List Nat) : Prop where
  out : ∀ n ∈ ns, ∀ b c, ι n = some (b, c) → ¬ S b ∧ b < w.heap.size
  sep : ∀ n ∈ ns, ∀ m ∈ ns, n ≠ m → ∀ b c c', ι n = some (b, c) → ι m ≠ some (b, c')

def opWp (P : Program) (ops : Array Oper) (Q : Exit → Act → World → Prop) (o : Oper) (K : Act → World → Prop) (a : Act) (w : World) : Prop :=
  if Region.wanted o (yielded ops a.tmps) then o.wp P a w K Q ∨ (o.asks P a w ∧ LetsOut Q) else K (a.put o.dst undef) w

def SOk (U : Univ) (O : Out) (P : Program) (ops : Array Oper) (o : Oper) (s : LSpec U) : Prop :=
  ∀ (S : Nat → Prop) (ι : Lay) (w : World) (a : Act), (∀ b, S b → b < w.heap.size) → O.Glob S w →
    (∀ x ∈ s.rs, VV U O S ι w x.2 (a.tmps.getD x.1 undef)) → (∀ x ∈ s.ro, BR U O S ι w x.1 x.2) → (∀ x ∈ s.cb, BR U O S ι w x.1 x.2) →
    Own S ι w (nm s.ro ++ nm s.cb) →
    ∀ (K : Act → World → Prop) (Q : Exit → Act → World → Prop),
      (∀ u S' ι' w', Nx U O s S ι w S' ι' w' → VV U O S' ι' w' s.ws u → K (a.put o.dst u) w') → opWp P ops Q o K a w

def setA {α : Type} (l : List (Nat × α)) (d : Nat) (v : α) : List (Nat × α) :=
  match l with
  | [] => [(d, v)]
  | x :: l => if x.1 = d then (d, v) :: l.filter (fun y => !(y.1 == d)) else x :: setA l d v

theorem mem_setA_iff {α : Type} {l : List (Nat × α)} {d : Nat} {v : α} {x : Nat × α} : x ∈ setA l d v ↔ x = (d, v) ∨ (x ∈ l ∧ x.1 ≠ d) := by
  induction l with
  | nil => simp [setA]
  | cons y l ih =>
    unfold setA
    split
    · rename_i hy
      rw [List.mem_cons, List.mem_filter, List.mem_cons]
      constructor
      · rintro (h | ⟨h1, h2⟩)
        · exact .inl h
        · exact .inr ⟨.inr h1, by simpa using h2⟩
      · rintro (h | ⟨h1 | h1, h2⟩)
        · exact .inl h
        · exact absurd (h1 ▸ hy) h2
        · exact .inr ⟨h1, by simpa using h2⟩
    · rename_i hy
      rw [List.mem_cons, ih, List.mem_cons]
      constructor
      · rintro (h | h | ⟨h1, h2⟩)
        · exact .inr ⟨.inl h, by rw [h]; exact hy⟩
        · exact .inl h
        · exact .inr ⟨.inr h1, h2⟩
      · rintro (h | ⟨h1 | h1, h2⟩)
        · exact .inr (.inl h)
        · exact .inl h1
        · exact .inr (.inr ⟨h1, h2⟩)

theorem mem_setA {α : Type} {l : List (Nat × α)} {d : Nat} {v : α} {x : Nat × α} (h : x ∈ setA l d v) : x = (d, v) ∨ (x ∈ l ∧ x.1 ≠ d) := by
  induction l with
  | nil => simp [setA] at h; exact .inl h
  | cons y l ih =>
    unfold setA at h
    split at h
    · rcases List.mem_cons.1 h with h | h
      · exact .inl h
      · obtain ⟨h1, h2⟩ := List.mem_filter.1 h
        exact .inr ⟨List.mem_cons_of_mem _ h1, by simpa using h2⟩
    · rename_i hy
      rcases List.mem_cons.1 h with h | h
      · exact .inr ⟨by simp [h], by rw [h]; exact hy⟩
      · rcases ih h with h | ⟨h, h'⟩
        · exact .inl h
        · exact .inr ⟨List.mem_cons_of_mem _ h, h'⟩

def St.setS {U : Univ} (st : St U) (d : Option Nat) (v : AVal U) : List (Nat × AVal U) :=
  match d with
  | some d => setA st.sl d v
  | none => st.sl

def St.next {U : Univ} (st : St U) (s : LSpec U) (d : Option Nat) : St U :=
  { sl := st.setS d s.ws, hp := (st.hp.filter fun x => !(nm s.cb).contains x.1) ++ s.pb }

def St.names {U : Univ} (st : St U) : List Nat :=
  nm st.hp ++ st.sl.flatMap (fun x => AVal.names U x.2) ++ st.hp.flatMap (fun x => Blk.names U x.2)

def K0 : Nat := 100000

structure Base where
  S : Nat → Prop
  w : World
  A : Nat → Prop
  ι : Lay
  n : Nat

structure Rel (U : Univ) (O : Out) (B : Base) (S : Nat → Prop) (ι : Lay) (st : St U) (a : Act) (w : World) : Prop where
  tmps : a.tmps.size = B.n
  dfr : a.defers = []
  sl : ∀ x ∈ st.sl, VV U O S ι w x.2 (a.tmps.getD x.1 undef)
  hp : ∀ x ∈ st.hp, BR U O S ι w x.1 x.2
  own : Own S ι w (nm st.hp)
  mine : ∀ n ∈ nm st.hp, ∀ b c, ι n = some (b, c) → B.w.heap.size ≤ b ∨ B.A b
  lt : ∀ b, S b → b < w.heap.size
  gl : O.Glob S w
  sub : ∀ b, B.S b → S b
  new : ∀ b, S b → B.S b ∨ B.w.heap.size ≤ b ∨ B.A b
  os : w.os = B.w.os
  tape : w.tape = B.w.tape
  output : w.output = B.w.output
  size : B.w.heap.size ≤ w.heap.size
  keep : ∀ b, b < B.w.heap.size → ¬ B.A b → w.heap[b]? = B.w.heap[b]?
  lay : ∀ n, K0 ≤ n → ι n = B.ι n

structure Fits {U : Univ} (st : St U) (s : LSpec U) : Prop where
  rs : ∀ x ∈ s.rs, x ∈ st.sl
  ro : ∀ x ∈ s.ro, x ∈ st.hp
  cb : ∀ x ∈ s.cb, x ∈ st.hp
  nn : ∀ n ∈ s.nn, n ∉ st.names
  pn : ∀ n ∈ nm s.pb, n ∈ s.nn ∨ n ∈ nm s.cb
  lo : ∀ n ∈ s.nn, n < K0

theorem mem_nm {α : Type} {l : List (Nat × α)} {x : Nat × α} (h : x ∈ l) : x.1 ∈ nm l := List.mem_map.2 ⟨x, h, rfl⟩

section
variable {U : Univ} {O : Out} {P : Program} {B : Base} {S S' : Nat → Prop} {ι ι' : Lay} {st : St U} {s : LSpec U} {a : Act} {w w' : World}

theorem Act.put_size (a : Act) (d : Option Tmp) (v : Value) : (a.put d v).tmps.size = a.tmps.size := by
  cases d <;> simp [Act.put]

theorem Act.put_defers' (a : Act) (d : Option Tmp) (v : Value) : (a.put d v).defers = a.defers := by
  cases d <;> simp [Act.put]

theorem Act.getD_put_same (a : Act) (d : Nat) (v : Value) (h : d < a.tmps.size) : (a.put (some d) v).tmps.getD d undef = v := by
  simp [Act.put, h]

theorem Act.getD_put_other (a : Act) (d t : Nat) (v : Value) (h : t ≠ d) : (a.put (some d) v).tmps.getD t undef = a.tmps.getD t undef := by
  simp [Act.put, Array.getElem?_setIfInBounds_ne (Ne.symm h)]

theorem mem_next_hp {d : Option Nat} {n : Nat} (h : n ∈ nm (st.next s d).hp) : n ∈ nm (st.hp.filter (fun x => !(nm s.cb).contains x.1)) ∨ n ∈ nm s.pb := by
  have h' : n ∈ List.map _ (_ ++ _) := h
  rw [List.map_append] at h'
  exact List.mem_append.1 h'

theorem Rel.stable (hR : Rel U O B S ι st a w) (hF : Fits st s) (hN : Nx U O s S ι w S' ι' w') : ∀ b, S b → w'.heap[b]? = w.heap[b]? := by
  intro b hb
  refine hN.keep b (hR.lt b hb) fun n hn c hc => ?_
  obtain ⟨x, hx, rfl⟩ := List.mem_map.1 hn
  exact (hR.own.out x.1 (mem_nm (hF.cb x hx)) b c hc).1 hb

theorem Rel.next (hR : Rel U O B S ι st a w) (hF : Fits st s) (hN : Nx U O s S ι w S' ι' w') {u : Value} (hu : VV U O S' ι' w' s.ws u)
    {d : Option Nat} (hd : ∀ t, d = some t → t < B.n) : Rel U O B S' ι' (st.next s d) (a.put d u) w' := by
  have hst := hR.stable hF hN
  have hlayS : ∀ x ∈ st.sl, ∀ n ∈ AVal.names U x.2, ι' n = ι n := fun x hx n hn => hN.lay n fun hnn =>
    hF.nn n hnn (by simp only [St.names, List.mem_append, List.mem_flatMap]; exact .inl (.inr ⟨x, hx, hn⟩))
  have hlayB : ∀ x ∈ st.hp, ∀ n ∈ Blk.names U x.2, ι' n = ι n := fun x hx n hn => hN.lay n fun hnn =>
    hF.nn n hnn (by simp only [St.names, List.mem_append, List.mem_flatMap]; exact .inr ⟨x, hx, hn⟩)
  have hlayN : ∀ n ∈ nm st.hp, ι' n = ι n := fun n hn => hN.lay n fun hnn => hF.nn n hnn (by simp only [St.names, List.mem_append]; exact .inl (.inl hn))
  have hcb : ∀ n ∈ nm s.cb, n ∈ nm st.hp := fun n hn => by obtain ⟨x, hx, rfl⟩ := List.mem_map.1 hn; exact mem_nm (hF.cb x hx)
  have hrest : ∀ x ∈ st.hp.filter (fun x => !(nm s.cb).contains x.1), x ∈ st.hp ∧ x.1 ∉ nm s.cb := fun x hx => by
    obtain ⟨h1, h2⟩ := List.mem_filter.1 hx
    exact ⟨h1, by simpa using h2⟩
  have hrestn : ∀ n ∈ nm (st.hp.filter (fun x => !(nm s.cb).contains x.1)), n ∈ nm st.hp ∧ n ∉ nm s.cb := fun n hn => by
    obtain ⟨x, hx, rfl⟩ := List.mem_map.1 hn
    exact ⟨mem_nm (hrest x hx).1, (hrest x hx).2⟩
  have hkeepN : ∀ n ∈ nm st.hp, n ∉ nm s.cb → ∀ b c, ι n = some (b, c) → w'.heap[b]? = w.heap[b]? := fun n hn hnc b c hb =>
    hN.keep b (hR.own.out n hn b c hb).2 fun m hm c' hm' => by
      by_cases e : m = n
      · exact hnc (e ▸ hm)
      · exact hR.own.sep m (hcb m hm) n hn e b c' c hm' hb
  refine ⟨by rw [Act.put_size]; exact hR.tmps, by rw [Act.put_defers']; exact hR.dfr, ?_, ?_, ⟨?_, ?_⟩, ?_, hN.lt, hR.gl.mono hst hN.sub, fun b hb => hN.sub b (hR.sub b hb), ?_,
    hN.os.trans hR.os, hN.tape.trans hR.tape, hN.output.trans hR.output, Nat.le_trans hR.size hN.size, ?_, fun n hn => (hN.lay n fun hin => absurd (hF.lo n hin) (by omega)).trans (hR.lay n hn)⟩
  · intro x hx
    cases d with
    | none => exact VV.mono hst hN.sub _ _ (hlayS x hx) (hR.sl x hx)
    | some d =>
      rcases mem_setA hx with rfl | ⟨h1, h2⟩
      · rw [Act.getD_put_same a d u (by rw [hR.tmps]; exact hd d rfl)]; exact hu
      · rw [Act.getD_put_other a d x.1 u h2]
        exact VV.mono hst hN.sub _ _ (hlayS x h1) (hR.sl x h1)
  · intro x hx
    rcases List.mem_append.1 hx with hx | hx
    · obtain ⟨h1, h2⟩ := hrest x hx
      exact BR.mono hst hN.sub (hlayN _ (mem_nm h1)) (hlayB x h1) (hkeepN x.1 (mem_nm h1) h2) (hR.hp x h1)
    · exact hN.blk x hx
  · intro n hn b c hb
    rcases mem_next_hp hn with hn | hn
    · have hn := hrestn n hn
      rw [hlayN n hn.1] at hb
      have h1 := hR.own.out n hn.1 b c hb
      refine ⟨fun hS' => ?_, Nat.lt_of_lt_of_le h1.2 hN.size⟩
      rcases hN.new b hS' with h | h | ⟨m, hm, c', hc'⟩
      · exact h1.1 h
      · exact absurd h1.2 (by omega)
      · exact hR.own.sep n hn.1 m (hcb m hm) (fun e => hn.2 (e ▸ hm)) b c c' hb hc'
    · have := hN.plc n hn b c hb
      exact ⟨this.1, this.2.1⟩
  · intro n hn m hm hne b c c' hb hb'
    rcases mem_next_hp hn with hn | hn <;> rcases mem_next_hp hm with hm | hm
    · have hn := hrestn n hn
      have hm := hrestn m hm
      rw [hlayN n hn.1] at hb
      rw [hlayN m hm.1] at hb'
      exact hR.own.sep n hn.1 m hm.1 hne b c c' hb hb'
    · have hn := hrestn n hn
      rw [hlayN n hn.1] at hb
      rcases (hN.plc m hm b c' hb').2.2 with h | ⟨k, hk, c'', hk'⟩
      · exact absurd (hR.own.out n hn.1 b c hb).2 (by omega)
      · by_cases e : n = k
        · exact hn.2 (e ▸ hk)
        · exact hR.own.sep n hn.1 k (hcb k hk) e b c c'' hb hk'
    · have hm := hrestn m hm
      rw [hlayN m hm.1] at hb'
      rcases (hN.plc n hn b c hb).2.2 with h | ⟨k, hk, c'', hk'⟩
      · exact absurd (hR.own.out m hm.1 b c' hb').2 (by omega)
      · by_cases e : m = k
        · exact hm.2 (e ▸ hk)
        · exact hR.own.sep m hm.1 k (hcb k hk) e b c' c'' hb' hk'
    · exact hN.sep n hn m hm hne b c c' hb hb'
  · intro n hn b c hb
    rcases mem_next_hp hn with hn | hn
    · have hn := hrestn n hn
      rw [hlayN n hn.1] at hb
      exact hR.mine n hn.1 b c hb
    · rcases (hN.plc n hn b c hb).2.2 with h | ⟨k, hk, c'', hk'⟩
      · exact .inl (Nat.le_trans hR.size h)
      · exact hR.mine k (hcb k hk) b c'' hk'
  · intro b hb
    rcases hN.new b hb with h | h | ⟨m, hm, c', hc'⟩
    · exact hR.new b h
    · exact .inr (.inl (Nat.le_trans hR.size h))
    · exact .inr (hR.mine m (hcb m hm) b c' hc')
  · intro b hb hA
    rw [← hR.keep b hb hA]
    refine hN.keep b (Nat.lt_of_lt_of_le hb hR.size) fun n hn c hc => ?_
    rcases hR.mine n (hcb n hn) b c hc with h | h
    · omega
    · exact hA h

theorem SOk.use {ops : Array Oper} {o : Oper} (hs : SOk U O P ops o s) (hR : Rel U O B S ι st a w) (hF : Fits st s) (hd : ∀ t, o.dst = some t → t < B.n)
    {K : Act → World → Prop} {Q : Exit → Act → World → Prop} (h : ∀ S' ι' a' w', Rel U O B S' ι' (st.next s o.dst) a' w' → K a' w') : opWp P ops Q o K a w := by
  refine hs S ι w a hR.lt hR.gl (fun x hx => hR.sl x (hF.rs x hx)) (fun x hx => hR.hp x (hF.ro x hx)) (fun x hx => hR.hp x (hF.cb x hx)) ⟨fun n hn => ?_, fun n hn m hm => ?_⟩ K Q
    fun u S' ι' w' hN hu => h S' ι' _ w' (hR.next hF hN hu hd)
  all_goals
    have hin : ∀ n ∈ nm s.ro ++ nm s.cb, n ∈ nm st.hp := fun n hn => by
      rcases List.mem_append.1 hn with h | h <;> obtain ⟨x, hx, rfl⟩ := List.mem_map.1 h
      · exact mem_nm (hF.ro x hx)
      · exact mem_nm (hF.cb x hx)
  · exact hR.own.out n (hin n hn)
  · exact hR.own.sep n (hin n hn) m (hin m hm)

inductive Chain (U : Univ) (O : Out) (P : Program) (ops : Array Oper) (N : Nat) : St U → List Oper → St U → Prop
  | nil (st : St U) : Chain U O P ops N st [] st
  | cons {st : St U} {o : Oper} {s : LSpec U} {rest : List Oper} {st' : St U} : SOk U O P ops o s → Fits st s → (∀ t, o.dst = some t → t < N) →
      Chain U O P ops N (st.next s o.dst) rest st' → Chain U O P ops N st (o :: rest) st'

theorem Chain.wp {ops : Array Oper} {st st' : St U} {l : List Oper} (hC : Chain U O P ops B.n st l st') {Q : Exit → Act → World → Prop}
    (hQ : ∀ S ι a w, Rel U O B S ι st' a w → Q .normal a w) : ∀ {S : Nat → Prop} {ι : Lay} {a : Act} {w : World}, Rel U O B S ι st a w → wpList P ops Q l a w := by
  generalize hn : B.n = N at hC
  induction hC with
  | nil st => exact fun hR => hQ _ _ _ _ hR
  | cons hs hF hd _ ih =>
    intro S ι a w hR
    have := hs.use (Q := Q) hR hF (fun t ht => hn ▸ hd t ht) (K := wpList P ops Q _) fun S' ι' a' w' hR' => ih hQ hR'
    unfold opWp at this
    unfold wpList
    exact this
end
end Go.AM

namespace Go.AM

mutual
def AVal.ren {U : Univ} (ρ : Nat → Nat) : AVal U → AVal U
  | .junk => .junk | .lit v => .lit v | .p t x => .p t x | .pp t x => .pp t x
  | .loc n o => .loc (ρ n) o | .eloc n wd i o => .eloc (ρ n) wd i o | .vec n wd o l => .vec (ρ n) wd o l | .mp n => .mp (ρ n) | .opt q n => .opt q (ρ n) | .sel q n wd l t x => .sel q (ρ n) wd l t x
  | .clo f vs => .clo f (AVal.renL ρ vs) | .agg vs => .agg (AVal.renL ρ vs) | .tup vs => .tup (AVal.renL ρ vs)
def AVal.renL {U : Univ} (ρ : Nat → Nat) : List (AVal U) → List (AVal U)
  | [] => []
  | v :: vs => AVal.ren ρ v :: AVal.renL ρ vs
end

def Blk.ren {U : Univ} (ρ : Nat → Nat) : Blk U → Blk U
  | .box us => .box (AVal.renL ρ us)
  | .row e t xs fx => .row e t xs fx
  | .map t kvs => .map t kvs
  | .opt q B => .opt q (Blk.ren ρ B)
  | .mapE t es clock ys => .mapE t es clock ys
  | .iter m t es clock ys left cur => .iter (ρ m) t es clock ys left cur
  | .mapM wd ys none => .mapM wd ys none
  | .mapM wd ys (some x) => .mapM wd ys (some (x.1, ρ x.2.1, x.2.2))

def renB {U : Univ} (ρ : Nat → Nat) (l : List (Nat × Blk U)) : List (Nat × Blk U) := l.map fun x => (ρ x.1, x.2.ren ρ)

section
variable {U : Univ} {O : Out} {S : Nat → Prop} {ι : Lay} {w : World} {ρ : Nat → Nat}
mutual
theorem VV.ren : ∀ (v : AVal U) (u : Value), VV U O S ι w (v.ren ρ) u ↔ VV U O S (fun n => ι (ρ n)) w v u
  | .junk, u => by simp [VV, AVal.ren]
  | .lit v, u => by simp [VV, AVal.ren]
  | .p t x, u => by simp [VV, AVal.ren]
  | .pp t x, u => by simp [VV, AVal.ren]
  | .loc n o, u => by simp [VV, AVal.ren]
  | .eloc n wd i o, u => by simp [VV, AVal.ren]
  | .vec n wd o l, u => by simp [VV, AVal.ren]
  | .mp n, u => by simp [VV, AVal.ren]
  | .opt q n, u => by simp [VV, AVal.ren]
  | .sel q n wd l t x, u => by simp [VV, AVal.ren]
  | .clo f vs, u => by simp only [VV, AVal.ren, VVs.ren vs]
  | .agg vs, u => by simp only [VV, AVal.ren, VVs.ren vs]
  | .tup vs, u => by simp only [VV, AVal.ren, VVs.ren vs]
theorem VVs.ren : ∀ (vs : List (AVal U)) (us : List Value), VVs U O S ι w (AVal.renL ρ vs) us ↔ VVs U O S (fun n => ι (ρ n)) w vs us
  | [], us => by simp [VVs, AVal.renL]
  | v :: vs, us => by simp only [VVs, AVal.renL, VV.ren v, VVs.ren vs]
end

theorem BR.ren (n : Nat) (B : Blk U) : BR U O S ι w (ρ n) (B.ren ρ) ↔ BR U O S (fun n => ι (ρ n)) w n B := by
  induction B with
  | box us => simp only [BR, Blk.ren, VVs.ren us]
  | row e t xs fx => simp only [BR, Blk.ren]
  | map t kvs => simp only [BR, Blk.ren]
  | opt q B ih => simp only [BR, Blk.ren, ih]
  | mapE t es clock ys => simp only [BR, Blk.ren]
  | iter m t es clock ys left cur => simp only [BR, Blk.ren]
  | mapM wd ys cur =>
    cases cur with
    | none => simp [BR, Blk.ren]
    | some x => simp only [BR, Blk.ren, VV]
end

mutual
theorem AVal.names_ren {U : Univ} (ρ : Nat → Nat) : ∀ v : AVal U, AVal.names U (v.ren ρ) = (AVal.names U v).map ρ
  | .junk | .lit _ | .p _ _ | .pp _ _ | .loc _ _ | .eloc _ _ _ _ | .vec _ _ _ _ | .mp _ | .opt _ _ | .sel _ _ _ _ _ _ => by simp [AVal.names, AVal.ren]
  | .clo f vs => by simp [AVal.names, AVal.ren, AVal.namesL_ren ρ vs]
  | .agg vs => by simp [AVal.names, AVal.ren, AVal.namesL_ren ρ vs]
  | .tup vs => by simp [AVal.names, AVal.ren, AVal.namesL_ren ρ vs]
theorem AVal.namesL_ren {U : Univ} (ρ : Nat → Nat) : ∀ vs : List (AVal U), AVal.namesL U (AVal.renL ρ vs) = (AVal.namesL U vs).map ρ
  | [] => by simp [AVal.namesL, AVal.renL]
  | v :: vs => by simp [AVal.namesL, AVal.renL, AVal.names_ren ρ v, AVal.namesL_ren ρ vs]
end

theorem Blk.names_ren {U : Univ} (ρ : Nat → Nat) (B : Blk U) : Blk.names U (B.ren ρ) = (Blk.names U B).map ρ := by
  induction B with
  | opt q B ih => simpa [Blk.names, Blk.ren] using ih
  | mapM wd ys cur => cases cur <;> simp [Blk.names, Blk.ren]
  | _ => simp [Blk.names, Blk.ren, AVal.namesL_ren]

structure CSpec (U : Univ) where
  ar : List (AVal U)
  bs : List (Nat × Blk U) := []
  r : AVal U
  bs' : List (Nat × Blk U) := []
  nn : List Nat := []

def CSpec.l {U : Univ} (c : CSpec U) : LSpec U := { cb := c.bs, pb := c.bs', ws := c.r, nn := c.nn }

def CSpec.all {U : Univ} (c : CSpec U) : List Nat :=
  AVal.namesL U c.ar ++ nm c.bs ++ c.bs.flatMap (fun x => Blk.names U x.2) ++ AVal.names U c.r ++ nm c.bs' ++ c.bs'.flatMap (fun x => Blk.names U x.2) ++ c.nn

def CSpec.ren {U : Univ} (c : CSpec U) (ρ : Nat → Nat) : CSpec U := { ar := AVal.renL ρ c.ar, bs := renB ρ c.bs, r := c.r.ren ρ, bs' := renB ρ c.bs', nn := c.nn.map ρ }

def COk (U : Univ) (O : Out) (P : Program) (f : FuncId) (c : CSpec U) : Prop :=
  ∀ (S : Nat → Prop) (ι : Lay) (w : World) (vs : List Value), (∀ b, S b → b < w.heap.size) → O.Glob S w → VVs U O S ι w c.ar vs → (∀ x ∈ c.bs, BR U O S ι w x.1 x.2) →
    Own S ι w (nm c.bs) →
    Calls P f vs.toArray w fun e w' => ∃ u S' ι', e = .returned u ∧ Nx U O c.l S ι w S' ι' w' ∧ VV U O S' ι' w' c.r u

def FOk (U : Univ) (O : Out) (P : Program) (f : FuncId) (sp : CSpec U → Prop) : Prop := ∀ c, sp c → COk U O P f c

def InjOn (ρ : Nat → Nat) (l : List Nat) : Prop := ∀ m ∈ l, ∀ n ∈ l, ρ m = ρ n → m = n

theorem nm_renB {U : Univ} (ρ : Nat → Nat) (l : List (Nat × Blk U)) : nm (renB ρ l) = (nm l).map ρ := by simp [nm, renB, Function.comp_def]

theorem COk.ren {U : Univ} {O : Out} {P : Program} {f : FuncId} {c : CSpec U} (h : COk U O P f c) (ρ : Nat → Nat) (hi : InjOn ρ c.all) : COk U O P f (c.ren ρ) := by
  intro S ι w vs hlt hgl has hbs hown
  have hmem : ∀ {n : Nat} {l : List Nat}, n ∈ l.map ρ → ∃ k ∈ l, ρ k = n := fun h => List.mem_map.1 h
  have hown' : Own S (fun n => ι (ρ n)) w (nm c.bs) := by
    have hall : ∀ n ∈ nm c.bs, n ∈ c.all := fun n hn => by simp only [CSpec.all, List.mem_append]; exact .inl (.inl (.inl (.inl (.inl (.inr hn)))))
    refine ⟨fun n hn b cc hb => hown.out (ρ n) ?_ b cc hb, fun n hn m hm hne b cc cc' hb => hown.sep (ρ n) ?_ (ρ m) ?_ (fun e => hne (hi n (hall n hn) m (hall m hm) e)) b cc cc' hb⟩
    all_goals (show _ ∈ nm (renB ρ c.bs); rw [nm_renB]; exact List.mem_map.2 ⟨_, ‹_›, rfl⟩)
  refine (h S (fun n => ι (ρ n)) w vs hlt hgl ((VVs.ren _ _).1 has) (fun x hx => (BR.ren x.1 x.2).1 (hbs (ρ x.1, x.2.ren ρ) (List.mem_map.2 ⟨x, hx, rfl⟩))) hown').mono ?_
  rintro e w' ⟨u, S', κ, rfl, hN, hu⟩
  let ι' : Lay := fun m => match c.nn.find? (fun k => ρ k == m) with | some k => κ k | none => ι m
  have hι : ∀ k ∈ c.all, ι' (ρ k) = κ k := by
    intro k hk
    show (match c.nn.find? (fun j => ρ j == ρ k) with | some k => κ k | none => ι (ρ k)) = κ k
    cases hf : c.nn.find? (fun j => ρ j == ρ k) with
    | some j =>
      have hj := List.find?_some hf
      have hjn := List.mem_of_find?_eq_some hf
      have : j = k := hi j (by simp only [CSpec.all, List.mem_append]; exact .inr hjn) k hk (by simpa using hj)
      simp [this]
    | none =>
      have hnk : k ∉ c.nn := fun hin => by
        have := List.find?_eq_none.1 hf k hin
        simp at this
      exact (hN.lay k hnk).symm
  have hallr : ∀ n ∈ AVal.names U c.r, n ∈ c.all := fun n hn => by simp only [CSpec.all, List.mem_append]; exact .inl (.inl (.inl (.inr hn)))
  have hallb : ∀ n ∈ nm c.bs', n ∈ c.all := fun n hn => by simp only [CSpec.all, List.mem_append]; exact .inl (.inl (.inr hn))
  have hallbs : ∀ n ∈ nm c.bs, n ∈ c.all := fun n hn => by simp only [CSpec.all, List.mem_append]; exact .inl (.inl (.inl (.inl (.inl (.inr hn)))))
  have hallbb : ∀ x ∈ c.bs', ∀ n ∈ Blk.names U x.2, n ∈ c.all := fun x hx n hn => by
    simp only [CSpec.all, List.mem_append, List.mem_flatMap]; exact .inl (.inr ⟨x, hx, hn⟩)
  refine ⟨u, S', ι', rfl, ⟨hN.os, hN.tape, hN.output, hN.size, hN.sub, ?_, hN.lt, ?_, ?_, ?_, ?_, ?_⟩, ?_⟩
  · intro b hb
    refine (hN.new b hb).imp id (Or.imp id ?_)
    rintro ⟨m, hm, c', hm'⟩
    refine ⟨ρ m, ?_, c', hm'⟩
    show _ ∈ nm (renB ρ c.bs)
    rw [nm_renB]; exact List.mem_map.2 ⟨m, hm, rfl⟩
  · intro b hb hnot
    refine hN.keep b hb fun n hn cc hcc => hnot (ρ n) ?_ cc hcc
    show _ ∈ nm (renB ρ c.bs)
    rw [nm_renB]; exact List.mem_map.2 ⟨n, hn, rfl⟩
  · intro n hn
    show (match c.nn.find? (fun j => ρ j == n) with | some k => κ k | none => ι n) = ι n
    cases hf : c.nn.find? (fun j => ρ j == n) with
    | none => rfl
    | some j =>
      exact absurd (List.mem_map.2 ⟨j, List.mem_of_find?_eq_some hf, by simpa using List.find?_some hf⟩) hn
  · intro x hx
    obtain ⟨y, hy, rfl⟩ := List.mem_map.1 hx
    refine (BR.ren y.1 y.2).2 (BR.mono (fun _ _ => rfl) (fun _ h => h) (hι _ (hallb _ (mem_nm hy))) (fun m hm => hι m (hallbb y hy m hm)) (fun _ _ _ => rfl) (hN.blk y hy))
  · intro n hn b cc hb
    have hn' : n ∈ nm (renB ρ c.bs') := hn
    rw [nm_renB] at hn'
    obtain ⟨k, hk, rfl⟩ := hmem hn'
    rw [hι k (hallb k hk)] at hb
    obtain ⟨h1, h2, h3⟩ := hN.plc k hk b cc hb
    refine ⟨h1, h2, h3.imp id ?_⟩
    rintro ⟨m, hm, c', hm'⟩
    refine ⟨ρ m, ?_, c', hm'⟩
    show _ ∈ nm (renB ρ c.bs)
    rw [nm_renB]; exact List.mem_map.2 ⟨m, hm, rfl⟩
  · intro n hn m hm hne b cc cc' hb
    have hn' : n ∈ nm (renB ρ c.bs') := hn
    have hm' : m ∈ nm (renB ρ c.bs') := hm
    rw [nm_renB] at hn' hm'
    obtain ⟨k, hk, rfl⟩ := hmem hn'
    obtain ⟨j, hj, rfl⟩ := hmem hm'
    rw [hι k (hallb k hk)] at hb
    rw [hι j (hallb j hj)]
    exact hN.sep k hk j hj (fun e => hne (by rw [e])) b cc cc' hb
  · exact (VV.ren _ _).2 (VV.mono (fun _ _ => rfl) (fun _ h => h) _ _ (fun n hn => hι n (hallr n hn)) hu)

theorem run_enter {P : Program} {f : FuncId} {fn : Func} (hf : P.funcs[f]? = some fn) (hname : (fn.name == "runtime.NumGoroutine") = false) (hb : fn.body.isSome = true)
    (args : Array Value) (w : World) : (callFunc f args).run P w = .ok (.enter f args) w := by
  have h1 : fn.name ≠ "runtime.NumGoroutine" := by simpa using hname
  obtain ⟨c, hc⟩ := Option.isSome_iff_exists.1 hb
  simp [callFunc, hf, h1, hc]

structure HasBody (P : Program) (f : FuncId) : Prop where
  h : ∃ fn, P.funcs[f]? = some fn ∧ (fn.name == "runtime.NumGoroutine") = false ∧ fn.body.isSome = true

theorem opWp_plain {P : Program} {ops : Array Oper} {Q : Exit → Act → World → Prop} {o : Oper} {K : Act → World → Prop} {a : Act} {w : World} (hg : o.guard = none)
    (h : o.wp P a w K Q) : opWp P ops Q o K a w := by
  unfold opWp
  rw [if_pos (by simp [Region.wanted, hg])]
  exact .inl h

end Go.AM

namespace Go.AM

section
variable {U : Univ} {O : Out} {S : Nat → Prop} {ι : Lay} {w : World}

theorem VV.bool_iff {b : Bool} {u : Value} : VV U O S ι w (.p .bool b) u ↔ u = .bool b := by
  simp only [VV]
  constructor
  · rintro ⟨cs, h, rfl⟩
    cases h; rfl
  · rintro rfl; exact ⟨_, .bool b, rfl⟩

theorem VV.int_iff {k : IntKind} {n : Int} {u : Value} : VV U O S ι w (.p (.int k) n) u ↔ u = .int k n := by
  simp only [VV]
  constructor
  · rintro ⟨cs, h, rfl⟩
    cases h; rfl
  · rintro rfl; exact ⟨_, .int k n, rfl⟩

theorem VV.str_iff {s : List UInt8} {u : Value} : VV U O S ι w (.p .str s) u ↔ ∃ b : ByteArray, u = .string b ∧ b.data.toList = s := by
  simp only [VV]
  constructor
  · rintro ⟨cs, h, rfl⟩
    cases h with
    | str b => exact ⟨b, rfl, rfl⟩
  · rintro ⟨b, rfl, rfl⟩; exact ⟨_, .str b, rfl⟩

theorem VV.list_iff {t : Ty} {xs : List (t.den U.T)} {u : Value} : VV U O S ι w (.p (.list t) xs) u ↔
    (xs = [] ∧ u = .slice none 0 0) ∨ (xs = [] ∧ ∃ a cap, u = .slice (some a) 0 cap) ∨ ∃ (b o cap : Nat) (cs : Nat → List Value), u = .slice (some ⟨b, o, none⟩) xs.length cap ∧ S b ∧ xs.length ≤ cap ∧
      (∀ (i : Nat) (h : i < xs.length), Rd U O S w t xs[i] (cs i)) ∧ ∀ i j : Nat, i < xs.length → j < t.width U.wd → w.cell? ⟨b, o + (i * t.width U.wd + j), none⟩ = (cs i)[j]? := by
  simp only [VV]
  constructor
  · rintro ⟨cs, h, rfl⟩
    cases h with
    | lnil => exact .inl ⟨rfl, rfl⟩
    | lemp _ a cap => exact .inr (.inl ⟨rfl, a, cap, rfl⟩)
    | list _ _ b o cap cs hS hcap hel hc => exact .inr (.inr ⟨b, o, cap, cs, rfl, hS, hcap, hel, hc⟩)
  · rintro (⟨rfl, rfl⟩ | ⟨rfl, a, cap, rfl⟩ | ⟨b, o, cap, cs, rfl, hS, hcap, hel, hc⟩)
    · exact ⟨_, .lnil t, rfl⟩
    · exact ⟨_, .lemp t a cap, rfl⟩
    · exact ⟨_, .list t xs b o cap cs hS hcap hel hc, rfl⟩
end

inductive Opd (U : Univ) : List (Nat × AVal U) → Operand → AVal U → Prop
  | tmp {rs : List (Nat × AVal U)} {t : Nat} {v : AVal U} (h : (t, v) ∈ rs) : Opd U rs (.tmp t) v
  | int (rs : List (Nat × AVal U)) (k : IntKind) (n : Int) : Opd U rs (.const (.int k n)) (.p (.int k) n)
  | bool (rs : List (Nat × AVal U)) (b : Bool) : Opd U rs (.const (.bool b)) (.p .bool b)
  | str (rs : List (Nat × AVal U)) (b : ByteArray) : Opd U rs (.const (.string b)) (.p .str b.data.toList)
  | lit (rs : List (Nat × AVal U)) (v : Value) (h : v.oneCell' = true) : Opd U rs (.const v) (.lit v)
  | lnil (rs : List (Nat × AVal U)) (t : Ty) : Opd U rs (.const (.slice none 0 0)) (.p (.list t) ([] : List (t.den U.T)))
  | err0 (rs : List (Nat × AVal U)) : Opd U rs (.const .nilIface) (.p .err (0 : Nat))
  | func (rs : List (Nat × AVal U)) (f : FuncId) : Opd U rs (.func f) (.clo f [])
  | glob (rs : List (Nat × AVal U)) (g : Nat) : Opd U rs (.global g) (.lit (.pointer (some ⟨g, 0, none⟩)))
  | data (rs : List (Nat × AVal U)) (t : Ty) (x : t.den U.T) (v : Value) (h : ∀ O S w, ∃ cs, Rd U O S w t x cs ∧ v = mkV t.isAgg cs) : Opd U rs (.const v) (.p t x)
  | junk (rs : List (Nat × AVal U)) (x : Operand) : Opd U rs x .junk

section
variable {U : Univ} {O : Out} {P : Program} {S : Nat → Prop} {ι : Lay} {w : World} {rs : List (Nat × AVal U)} {a : Act} {ops : Array Oper} {o : Oper}

theorem Opd.ev {x : Operand} {v : AVal U} (h : Opd U rs x v) (hr : ∀ x ∈ rs, VV U O S ι w x.2 (a.tmps.getD x.1 undef)) : VV U O S ι w v (a.eval x) := by
  cases h with
  | tmp h => exact hr _ h
  | int k n => exact VV.int_iff.2 rfl
  | bool b => exact VV.bool_iff.2 rfl
  | str b => exact VV.str_iff.2 ⟨b, rfl, rfl⟩
  | lit v h => simp [VV, Act.eval, h]
  | lnil t => exact VV.list_iff.2 (.inl ⟨rfl, rfl⟩)
  | err0 => exact ⟨_, .err0, rfl⟩
  | func f => exact ⟨[], rfl, rfl⟩
  | glob g => exact ⟨rfl, rfl⟩
  | data t x v h => exact h O S w
  | junk => exact trivial

theorem Nx.refl (s : LSpec U) (_ : s.cb = []) (hpb : s.pb = []) (hlt : ∀ b, S b → b < w.heap.size) : Nx U O s S ι w S ι w :=
  ⟨rfl, rfl, rfl, Nat.le_refl _, fun _ h => h, fun _ h => .inl h, hlt, fun _ _ _ => rfl, fun _ _ => rfl, by simp [hpb], by simp [hpb], by simp [hpb]⟩

theorem sok_val {ro : List (Nat × Blk U)} {v : AVal U} (hg : o.guard = none)
    (h : ∀ (S : Nat → Prop) (ι : Lay) (w : World) (a : Act), (∀ x ∈ rs, VV U O S ι w x.2 (a.tmps.getD x.1 undef)) → (∀ x ∈ ro, BR U O S ι w x.1 x.2) →
      ∃ u, (execOp a.eval o).run P w = .ok (.value u) w ∧ VV U O S ι w v u) : SOk U O P ops o { rs := rs, ro := ro, ws := v } := by
  intro S ι w a hlt hgl hrs hro hcb hown K Q hK
  obtain ⟨u, hu, hv⟩ := h S ι w a hrs hro
  refine opWp_plain hg ?_
  unfold Oper.wp
  rw [hu]
  exact hK u S ι w (Nx.refl _ rfl rfl hlt) hv

theorem sok_move {x : Operand} {v : AVal U} (hg : o.guard = none) (ho : o.op = .move x ∨ o.op = .assign x) (hx : Opd U rs x v) : SOk U O P ops o { rs := rs, ws := v } :=
  sok_val hg fun S ι w a hr _ => ⟨a.eval x, by rcases ho with ho | ho <;> simp [execOp, ho], hx.ev hr⟩

theorem sok_pickT {c x y : Operand} {b : Bool} {v : AVal U} (hg : o.guard = none) (ho : o.op = .pick c x y) (hc : Opd U rs c (.p .bool b)) (hb : b = true) (hv : Opd U rs x v) :
    SOk U O P ops o { rs := rs, ws := v } :=
  sok_val hg fun S ι w a hr _ => ⟨a.eval x, by
    have := VV.bool_iff.1 (hc.ev hr)
    simp [execOp, ho, this, asBool, hb], hv.ev hr⟩
theorem sok_pickF {c x y : Operand} {b : Bool} {v : AVal U} (hg : o.guard = none) (ho : o.op = .pick c x y) (hc : Opd U rs c (.p .bool b)) (hb : b = false) (hv : Opd U rs y v) :
    SOk U O P ops o { rs := rs, ws := v } :=
  sok_val hg fun S ι w a hr _ => ⟨a.eval y, by
    have := VV.bool_iff.1 (hc.ev hr)
    simp [execOp, ho, this, asBool, hb], hv.ev hr⟩

def vOf (s : Sem Value) : Sem Next := do pure (.value (← s))
theorem run_vOf {s : Sem Value} {u : Value} {w' : World} (h : s.run P w = .ok u w') : (vOf s).run P w = .ok (.value u) w' := by
  unfold vOf
  simp only [Sem.run_bind, h, Result.andThen_ok, Sem.run_pure]

theorem exec_un {ρ : Operand → Value} {op : UnOp} {t : TypeId} {x : Operand} (ho : o.op = .unOp op t x) : execOp ρ o = vOf (Op.unary op (ρ x)) := by unfold execOp; rw [ho]; rfl
theorem exec_bin {ρ : Operand → Value} {op : BinOp} {t t' : TypeId} {x y : Operand} (ho : o.op = .binOp op t x y t') :
    execOp ρ o = vOf (do eqGuard op t x y (ρ x) (ρ y); binOp op t (ρ x) (ρ y)) := by unfold execOp; rw [ho]; rfl
theorem exec_extract {ρ : Operand → Value} {x : Operand} {i : Nat} (ho : o.op = .extract x i) : execOp ρ o = vOf (Instr.extract (ρ x) i) := by unfold execOp; rw [ho]; rfl
theorem exec_index {ρ : Operand → Value} {t : TypeId} {x y : Operand} (ho : o.op = .index t x y) : execOp ρ o = vOf (Instr.index t (ρ x) (ρ y)) := by unfold execOp; rw [ho]; rfl
theorem exec_slice {ρ : Operand → Value} {t : TypeId} {x : Operand} {lo hi mx : Option Operand} (ho : o.op = .slice t x lo hi mx) : execOp ρ o = vOf (Instr.sliceAt t (ρ x) (lo.map ρ) (hi.map ρ) (mx.map ρ)) := by unfold execOp; rw [ho]; rfl
theorem exec_convert {ρ : Operand → Value} {t t' : TypeId} {x : Operand} (ho : o.op = .convert t t' x) : execOp ρ o = vOf (convert t t' (ρ x)) := by unfold execOp; rw [ho]; rfl
theorem exec_builtin {ρ : Operand → Value} {b : Builtin} {as : Array Operand} {ts : Array TypeId} (ho : o.op = .call { callee := .builtin b, args := as, argTypes := ts }) :
    execOp ρ o = builtin b ts o.type (as.map fun | .const _ => true | _ => false) (as.map ρ) := by
  unfold execOp; rw [ho]; rfl

theorem sok_v {ro : List (Nat × Blk U)} {v : AVal U} (hg : o.guard = none) (X : (Operand → Value) → Sem Value) (ho : ∀ ρ, execOp ρ o = vOf (X ρ))
    (h : ∀ (S : Nat → Prop) (ι : Lay) (w : World) (a : Act), (∀ x ∈ rs, VV U O S ι w x.2 (a.tmps.getD x.1 undef)) → (∀ x ∈ ro, BR U O S ι w x.1 x.2) →
      ∃ u, (X a.eval).run P w = .ok u w ∧ VV U O S ι w v u) : SOk U O P ops o { rs := rs, ro := ro, ws := v } :=
  sok_val hg fun S ι w a hrs hro => by
    obtain ⟨u, h1, h2⟩ := h S ι w a hrs hro
    exact ⟨u, by rw [ho]; exact run_vOf h1, h2⟩

theorem sok_not {t : TypeId} {x : Operand} {b : Bool} (hg : o.guard = none) (ho : o.op = .unOp .not t x) (hx : Opd U rs x (.p .bool b)) :
    SOk U O P ops o { rs := rs, ws := .p .bool (!b) } :=
  sok_v hg _ (fun _ => exec_un ho) fun S ι w a hr _ => ⟨.bool !b, by rw [VV.bool_iff.1 (hx.ev hr)]; rfl, VV.bool_iff.2 rfl⟩

theorem sok_neg {t : TypeId} {x : Operand} {k : IntKind} {n : Int} (hg : o.guard = none) (ho : o.op = .unOp .neg t x) (hx : Opd U rs x (.p (.int k) n)) :
    SOk U O P ops o { rs := rs, ws := .p (.int k) (k.wrap (0 - n)) } :=
  sok_v hg _ (fun _ => exec_un ho) fun S ι w a hr _ => ⟨.int k (k.wrap (0 - n)), by rw [VV.int_iff.1 (hx.ev hr)]; rfl, VV.int_iff.2 rfl⟩

def arith (op : BinOp) (k : IntKind) (a b : Int) : Option Int :=
  match op with
  | .add => some (k.wrap (a + b)) | .sub => some (k.wrap (a - b)) | .mul => some (k.wrap (a * b))
  | .and => some (bits .and k a b) | .or => some (bits .or k a b) | .xor => some (bits .xor k a b) | .andNot => some (bits .andNot k a b)
  | _ => none
def cmpI (op : BinOp) (a b : Int) : Option Bool :=
  match op with
  | .eql => some (a == b) | .neq => some (a != b) | .lss => some (decide (a < b)) | .leq => some (decide (a ≤ b)) | .gtr => some (decide (a > b)) | .geq => some (decide (a ≥ b))
  | _ => none
def cmpS (op : BinOp) (a b : List UInt8) : Option Bool :=
  match op with
  | .eql => some (a == b) | .neq => some (!(a == b)) | .lss => some (Op.bytesLess a b) | .leq => some (Op.bytesLess a b || a == b)
  | .gtr => some (!(Op.bytesLess a b || a == b)) | .geq => some (!(Op.bytesLess a b))
  | _ => none

theorem sok_arith {op : BinOp} {t t' : TypeId} {x y : Operand} {k : IntKind} {m n r : Int} (hg : o.guard = none) (ho : o.op = .binOp op t x y t')
    (hx : Opd U rs x (.p (.int k) m)) (hy : Opd U rs y (.p (.int k) n)) (hr : arith op k m n = some r) : SOk U O P ops o { rs := rs, ws := .p (.int k) r } :=
  sok_v hg _ (fun _ => exec_bin ho) fun S ι w a hrs _ => ⟨.int k r, by
    rw [VV.int_iff.1 (hx.ev hrs), VV.int_iff.1 (hy.ev hrs)]
    cases op <;> simp only [arith, Option.some.injEq, reduceCtorEq] at hr <;> subst hr <;> simp [go_sem, Op.intArith], VV.int_iff.2 rfl⟩

theorem sok_cmp {op : BinOp} {t t' : TypeId} {x y : Operand} {k : IntKind} {m n : Int} {r : Bool} (hg : o.guard = none) (ho : o.op = .binOp op t x y t')
    (hx : Opd U rs x (.p (.int k) m)) (hy : Opd U rs y (.p (.int k) n)) (hr : cmpI op m n = some r) : SOk U O P ops o { rs := rs, ws := .p .bool r } :=
  sok_v hg _ (fun _ => exec_bin ho) fun S ι w a hrs _ => ⟨.bool r, by
    rw [VV.int_iff.1 (hx.ev hrs), VV.int_iff.1 (hy.ev hrs)]
    cases op <;> simp only [cmpI, Option.some.injEq, reduceCtorEq] at hr <;> subst hr <;> simp [go_sem], VV.bool_iff.2 rfl⟩

theorem sok_cmpS {op : BinOp} {t t' : TypeId} {x y : Operand} {m n : List UInt8} {r : Bool} (hg : o.guard = none) (ho : o.op = .binOp op t x y t')
    (hx : Opd U rs x (.p .str m)) (hy : Opd U rs y (.p .str n)) (hr : cmpS op m n = some r) : SOk U O P ops o { rs := rs, ws := .p .bool r } :=
  sok_v hg _ (fun _ => exec_bin ho) fun S ι w a hrs _ => ⟨.bool r, by
    obtain ⟨b, hb, rfl⟩ := VV.str_iff.1 (hx.ev hrs)
    obtain ⟨c, hc, rfl⟩ := VV.str_iff.1 (hy.ev hrs)
    rw [hb, hc]
    cases op <;> simp only [cmpS, Option.some.injEq, reduceCtorEq] at hr <;> subst hr <;> rw [eqGuard_at_string] <;> simp only [Sem.run_bind, Sem.run_pure, Result.andThen_ok] <;>
      simp [binOp, Op.stringOp, ByteArray.toList_eq], VV.bool_iff.2 rfl⟩

theorem run_equal_bool (t : TypeId) (ht : P.underlying t = some .bool) (m n : Bool) (w : World) : (Op.equal t (.bool m) (.bool n)).run P w = .ok (m == n) w := by
  show (Op.equalIn (9999 + 1) t (.bool m) (.bool n)).run P w = _
  unfold Op.equalIn
  rw [Sem.run_bind, run_underlying ht]
  rfl

theorem sok_eqB {t t' : TypeId} {x y : Operand} {m n : Bool} (hg : o.guard = none) (ho : o.op = .binOp .eql t x y t') (ht : P.underlying t = some .bool)
    (hx : Opd U rs x (.p .bool m)) (hy : Opd U rs y (.p .bool n)) : SOk U O P ops o { rs := rs, ws := .p .bool (m == n) } :=
  sok_v hg _ (fun _ => exec_bin ho) fun S ι w a hrs _ => ⟨.bool (m == n), by
    rw [VV.bool_iff.1 (hx.ev hrs), VV.bool_iff.1 (hy.ev hrs), eqGuard_at_bool]
    simp only [binOp, Sem.run_bind, Sem.run_pure, Result.andThen_ok, run_equal_bool t ht], VV.bool_iff.2 rfl⟩

theorem sok_neB {t t' : TypeId} {x y : Operand} {m n : Bool} (hg : o.guard = none) (ho : o.op = .binOp .neq t x y t') (ht : P.underlying t = some .bool)
    (hx : Opd U rs x (.p .bool m)) (hy : Opd U rs y (.p .bool n)) : SOk U O P ops o { rs := rs, ws := .p .bool (!(m == n)) } :=
  sok_v hg _ (fun _ => exec_bin ho) fun S ι w a hrs _ => ⟨.bool (!(m == n)), by
    rw [VV.bool_iff.1 (hx.ev hrs), VV.bool_iff.1 (hy.ev hrs), eqGuard_at_bool]
    simp only [binOp, Sem.run_bind, Sem.run_pure, Result.andThen_ok, run_equal_bool t ht], VV.bool_iff.2 rfl⟩

theorem sok_cat {t t' : TypeId} {x y : Operand} {m n : List UInt8} (hg : o.guard = none) (ho : o.op = .binOp .add t x y t')
    (hx : Opd U rs x (.p .str m)) (hy : Opd U rs y (.p .str n)) (hr : m.length + n.length ≤ 9223372036854775807) : SOk U O P ops o { rs := rs, ws := .p .str (m ++ n) } :=
  sok_v hg _ (fun _ => exec_bin ho) fun S ι w a hrs _ => by
    obtain ⟨b, hb, rfl⟩ := VV.str_iff.1 (hx.ev hrs)
    obtain ⟨c, hc, rfl⟩ := VV.str_iff.1 (hy.ev hrs)
    refine ⟨.string (b ++ c), ?_, VV.str_iff.2 ⟨b ++ c, rfl, by simp⟩⟩
    rw [hb, hc, eqGuard_at_string]
    have h : ¬ ((b.size + c.size : Nat) : Int) > IntKind.i64.max := by
      rw [IntKind.max_i64]
      simp only [Array.length_toList] at hr
      have h1 : b.size = b.data.size := rfl
      have h2 : c.size = c.data.size := rfl
      omega
    simp only [Sem.run_bind, Sem.run_pure, Result.andThen_ok]
    simp only [binOp, Op.stringOp, if_neg h, Sem.run_pure]

theorem sok_extract {x : Operand} {i : Nat} {vs : List (AVal U)} {v : AVal U} (hg : o.guard = none) (ho : o.op = .extract x i) (hx : Opd U rs x (.tup vs)) (hv : vs[i]? = some v) :
    SOk U O P ops o { rs := rs, ws := v } :=
  sok_v hg _ (fun _ => exec_extract ho) fun S ι w a hrs _ => by
    have h := hx.ev hrs
    simp only [VV] at h
    obtain ⟨us, hus, hu⟩ := h
    have key : ∀ (vs : List (AVal U)) (us : List Value) (i : Nat) (v : AVal U), VVs U O S ι w vs us → vs[i]? = some v → ∃ u, us[i]? = some u ∧ VV U O S ι w v u := by
      intro vs
      induction vs with
      | nil => intro us i v _ h; simp at h
      | cons v0 vs ih =>
        intro us i v hvs h
        simp only [VVs] at hvs
        obtain ⟨u, us', rfl, h1, h2⟩ := hvs
        cases i with
        | zero => simp at h; subst h; exact ⟨u, rfl, h1⟩
        | succ i => simpa using ih us' i v h2 (by simpa using h)
    obtain ⟨u, h1, h2⟩ := key vs us i v hus hv
    refine ⟨u, ?_, h2⟩
    rw [hu]
    simp [Instr.extract, h1]

def idx {α : Type} (l : List α) (i : Int) : Option α := if 0 ≤ i then l[i.toNat]? else none
def sub {α : Type} (l : List α) (lo hi : Int) : Option (List α) := if 0 ≤ lo ∧ lo ≤ hi ∧ hi ≤ (l.length : Int) then some ((l.take hi.toNat).drop lo.toNat) else none

theorem sok_indexS {t : TypeId} {x y : Operand} {k : IntKind} {s : List UInt8} {i : Int} {c : UInt8} (hg : o.guard = none) (ho : o.op = .index t x y) (ht : P.underlying t = some .string)
    (hx : Opd U rs x (.p .str s)) (hy : Opd U rs y (.p (.int k) i)) (hi : idx s i = some c) : SOk U O P ops o { rs := rs, ws := .p (.int .u8) (c.toNat : Int) } :=
  sok_v hg _ (fun _ => exec_index ho) fun S ι w a hrs _ => ⟨.int .u8 (c.toNat : Int), by
    obtain ⟨b, hb, rfl⟩ := VV.str_iff.1 (hx.ev hrs)
    rw [hb, VV.int_iff.1 (hy.ev hrs)]
    unfold idx at hi
    split at hi
    · rename_i h0
      have h2 : b[i.toNat]? = some c := by
        rw [List.getElem?_eq_some_iff] at hi
        obtain ⟨hlt, hc⟩ := hi
        simp only [Array.length_toList] at hlt
        have h1 : i.toNat < b.size := hlt
        rw [getElem?_pos b i.toNat h1]
        rw [← hc]
        rfl
      have h3 : (if 0 ≤ i then b[i.toNat]? else none) = some c := by rw [if_pos h0, h2]
      simp only [Instr.index, asIntOf, Sem.run_bind, Sem.run_pure, Result.andThen_ok, run_underlying ht, h3]
    · exact absurd hi (by simp), VV.int_iff.2 rfl⟩

inductive Bd (U : Univ) (rs : List (Nat × AVal U)) (d : Int) : Option Operand → Int → Prop
  | no : Bd U rs d none d
  | at {x : Operand} {k : IntKind} {n : Int} : Opd U rs x (.p (.int k) n) → Bd U rs d (some x) n

theorem run_sliceBound (k : IntKind) (n : Int) (y : Nat) (code : BoundsCode) (w : World) (h : 0 ≤ n ∧ n ≤ (y : Int)) : (Instr.sliceBound (.int k n) y code).run P w = .ok n.toNat w := by
  simp only [Instr.sliceBound, asIntOf, Sem.run_bind, Sem.run_pure, Result.andThen_ok, if_pos h]

theorem Bd.ev {d : Int} {x : Option Operand} {n : Int} (h : Bd U rs d x n) (hr : ∀ x ∈ rs, VV U O S ι w x.2 (a.tmps.getD x.1 undef)) : (x = none ∧ n = d) ∨ ∃ y k, x = some y ∧ a.eval y = .int k n := by
  cases h with
  | no => exact .inl ⟨rfl, rfl⟩
  | «at» h => exact .inr ⟨_, _, rfl, VV.int_iff.1 (h.ev hr)⟩

theorem run_sliceBounds (isS : Bool) (len cap : Nat) {lo hi : Option Operand} {l h : Int} (hl : Bd U rs 0 lo l) (hh : Bd U rs (len : Int) hi h)
    (hr : ∀ x ∈ rs, VV U O S ι w x.2 (a.tmps.getD x.1 undef)) (h0 : 0 ≤ l) (h1 : l ≤ h) (h2 : h ≤ (cap : Int)) (w' : World) :
    (Instr.sliceBounds isS len cap (lo.map a.eval) (hi.map a.eval) none).run P w' = .ok (l.toNat, h.toNat, cap) w' := by
  have hb1 : ∀ (k : IntKind) (code : BoundsCode), (Instr.sliceBound (.int k h) cap code).run P w' = .ok h.toNat w' := fun k code => run_sliceBound k h cap code w' ⟨by omega, h2⟩
  have hb2 : ∀ (k : IntKind) (code : BoundsCode), (Instr.sliceBound (.int k l) h.toNat code).run P w' = .ok l.toNat w' := fun k code => run_sliceBound k l h.toNat code w' ⟨h0, by omega⟩
  rcases hh.ev hr with ⟨rfl, rfl⟩ | ⟨y, k, rfl, hy⟩ <;> rcases hl.ev hr with ⟨rfl, rfl⟩ | ⟨y', k', rfl, hy'⟩ <;>
    simp [Instr.sliceBounds, *] at *

theorem toList_extract (b : ByteArray) (l h : Nat) : (b.extract l h).data.toList = (b.data.toList.take h).drop l := by
  rw [ByteArray.data_extract, Array.toList_extract, List.extract_eq_drop_take']

theorem sok_sliceS {t : TypeId} {x : Operand} {lo hi : Option Operand} {s r : List UInt8} {l h : Int} (hg : o.guard = none) (ho : o.op = .slice t x lo hi none) (ht : P.underlying t = some .string)
    (hx : Opd U rs x (.p .str s)) (hl : Bd U rs 0 lo l) (hh : Bd U rs (s.length : Int) hi h) (hr : sub s l h = some r) : SOk U O P ops o { rs := rs, ws := .p .str r } :=
  sok_v hg _ (fun _ => exec_slice ho) fun S ι w a hrs _ => by
    obtain ⟨b, hb, rfl⟩ := VV.str_iff.1 (hx.ev hrs)
    unfold sub at hr
    split at hr
    · rename_i hc
      injection hr with hr
      refine ⟨.string (b.extract l.toNat h.toNat), ?_, VV.str_iff.2 ⟨_, rfl, by rw [toList_extract, hr]⟩⟩
      have hsz : b.data.toList.length = b.size := rfl
      rw [hsz] at hh hc
      rw [hb]
      have hsb := run_sliceBounds (P := P) false b.size b.size hl hh hrs hc.1 hc.2.1 hc.2.2 w
      simp only [Instr.sliceAt, Instr.slice, Sem.run_bind, Result.andThen_ok, run_underlying ht, Option.map_none, Option.isSome_none, Bool.false_eq_true, if_false, Sem.run_pure, hsb]
    · exact absurd hr (by simp)

structure TyOk (P : Program) (U : Univ) (T : TypeId) (t : Ty) : Prop where
  info : ∃ i, P.info? T = some i ∧ i.size = t.width U.wd
  agg : ∃ d, P.underlying T = some d ∧ (match d with | .struct _ | .array _ _ => true | _ => false) = t.isAgg
structure SlOk (P : Program) (U : Univ) (T E : TypeId) (t : Ty) : Prop where
  under : P.underlying T = some (.slice E)
  el : TyOk P U E t

theorem run_sizeOf {T : TypeId} {t : Ty} (h : TyOk P U T t) (w : World) : (sizeOf T).run P w = .ok (t.width U.wd) w := by
  obtain ⟨i, hi, hs⟩ := h.info
  simp [sizeOf, typeInfo, hi, hs]

theorem sok_sliceL {T E : TypeId} {t : Ty} {x : Operand} {lo hi : Option Operand} {s r : List (t.den U.T)} {l h : Int} (hg : o.guard = none) (ho : o.op = .slice T x lo hi none) (ht : SlOk P U T E t)
    (hx : Opd U rs x (.p (.list t) s)) (hl : Bd U rs 0 lo l) (hh : Bd U rs (s.length : Int) hi h) (hr : sub s l h = some r) : SOk U O P ops o { rs := rs, ws := .p (.list t) r } :=
  sok_v hg _ (fun _ => exec_slice ho) fun S ι w a hrs _ => by
    unfold sub at hr
    split at hr
    · rename_i hc
      injection hr with hr
      have hrun : ∀ (base : Option Addr) (cap : Nat), s.length ≤ cap → a.eval x = .slice base s.length cap →
          (Instr.sliceAt T (a.eval x) (lo.map a.eval) (hi.map a.eval) (Option.map a.eval none)).run P w =
            .ok (.slice (if cap = l.toNat then base else base.map (·.add (l.toNat * t.width U.wd))) (h.toNat - l.toNat) (cap - l.toNat)) w := fun base cap hcap hv => by
        have hsb := run_sliceBounds (P := P) true s.length cap hl hh hrs hc.1 hc.2.1 (by omega) w
        rw [hv]
        simp only [Instr.sliceAt, Instr.slice, Sem.run_bind, Result.andThen_ok, run_underlying ht.under, Option.map_none, hsb, run_sizeOf ht.el, Sem.run_pure]
      rcases VV.list_iff.1 (hx.ev hrs) with ⟨rfl, hv⟩ | ⟨rfl, ad, cap, hv⟩ | ⟨b, o', cap, cs, hv, hS, hcap, hel, hcell⟩
      rotate_left
      · have hl0 : l.toNat = 0 := by simp at hc; omega
        have hh0 : h.toNat = 0 := by simp at hc; omega
        refine ⟨_, hrun (some ad) cap (by simp) hv, ?_⟩
        rw [hl0, hh0]
        refine VV.list_iff.2 (.inr (.inl ⟨by rw [← hr]; simp, ad, cap, ?_⟩))
        split <;> simp [Addr.add]
      rotate_left
      · have hl0 : l.toNat = 0 := by simp at hc; omega
        have hh0 : h.toNat = 0 := by simp at hc; omega
        refine ⟨_, hrun none 0 (by simp) hv, ?_⟩
        rw [hl0, hh0]
        refine VV.list_iff.2 (.inl ⟨by rw [← hr]; simp, by simp⟩)
      · refine ⟨_, hrun _ cap hcap hv, ?_⟩
        have hrl : r.length = h.toNat - l.toNat := by rw [← hr]; simp; omega
        rw [← hrl]
        by_cases hlc : cap = l.toNat
        · have hr0 : r = [] := List.eq_nil_of_length_eq_zero (by omega)
          subst hr0
          rw [if_pos hlc]
          exact VV.list_iff.2 (.inr (.inr ⟨b, o', _, cs, rfl, hS, by simp, fun i hi => absurd hi (by simp), fun i j hi => absurd hi (by simp)⟩))
        · rw [if_neg hlc]
          have hri : ∀ (i : Nat) (hi : i < r.length), ∃ h' : l.toNat + i < s.length, r[i] = s[l.toNat + i] := fun i hi => by
            refine ⟨by omega, ?_⟩
            subst hr
            simp
          refine VV.list_iff.2 (.inr (.inr ⟨b, o' + l.toNat * t.width U.wd, cap - l.toNat, fun i => cs (l.toNat + i), ?_, hS, by omega, fun i hi => ?_, fun i j hi hj => ?_⟩))
          · simp [Addr.add_lit]
          · obtain ⟨h', e⟩ := hri i hi
            rw [e]; exact hel _ h'
          · obtain ⟨h', e⟩ := hri i hi
            have := hcell (l.toNat + i) j h' hj
            rw [Nat.add_mul] at this
            rw [← this]
            congr 2
            omega
    · exact absurd hr (by simp)

theorem exec_len {ρ : Operand → Value} {x : Operand} {T : TypeId} (ho : o.op = .call { callee := .builtin .len, args := #[x], argTypes := #[T] }) :
    execOp ρ o = vOf (Builtin.len_ #[T] o.type #[ρ x]) := by rw [exec_builtin ho]; simp [builtin, vOf]

theorem sok_lenS {T : TypeId} {x : Operand} {s : List UInt8} (hg : o.guard = none) (ho : o.op = .call { callee := .builtin .len, args := #[x], argTypes := #[T] }) (ht : P.underlying T = some .string)
    (hx : Opd U rs x (.p .str s)) : SOk U O P ops o { rs := rs, ws := .p (.int .i64) (s.length : Int) } :=
  sok_v hg _ (fun _ => exec_len ho) fun S ι w a hrs _ => by
    obtain ⟨b, hb, rfl⟩ := VV.str_iff.1 (hx.ev hrs)
    refine ⟨.int .i64 (b.data.toList.length : Int), ?_, VV.int_iff.2 rfl⟩
    rw [hb]
    simp [Builtin.len_, run_underlying ht, goInt]

theorem sok_lenL {T E : TypeId} {t : Ty} {x : Operand} {s : List (t.den U.T)} (hg : o.guard = none) (ho : o.op = .call { callee := .builtin .len, args := #[x], argTypes := #[T] })
    (ht : P.underlying T = some (.slice E)) (hx : Opd U rs x (.p (.list t) s)) : SOk U O P ops o { rs := rs, ws := .p (.int .i64) (s.length : Int) } :=
  sok_v hg _ (fun _ => exec_len ho) fun S ι w a hrs _ => by
    refine ⟨.int .i64 (s.length : Int), ?_, VV.int_iff.2 rfl⟩
    rcases VV.list_iff.1 (hx.ev hrs) with ⟨rfl, hv⟩ | ⟨rfl, ad, cap, hv⟩ | ⟨b, o', cap, cs, hv, _⟩ <;> rw [hv] <;> simp [Builtin.len_, run_underlying ht, goInt]

theorem sok_lenV {T E : TypeId} {x : Operand} {n wd off len : Nat} (hg : o.guard = none) (ho : o.op = .call { callee := .builtin .len, args := #[x], argTypes := #[T] })
    (ht : P.underlying T = some (.slice E)) (hx : Opd U rs x (.vec n wd off len)) : SOk U O P ops o { rs := rs, ws := .p (.int .i64) (len : Int) } :=
  sok_v hg _ (fun _ => exec_len ho) fun S ι w a hrs _ => by
    refine ⟨.int .i64 (len : Int), ?_, VV.int_iff.2 rfl⟩
    rcases (by simpa only [VV] using hx.ev hrs : _) with ⟨_, _, rfl, hv⟩ | ⟨b, c, o', _, _, hv, _⟩ <;> rw [hv] <;> simp [Builtin.len_, run_underlying ht, goInt]
end
end Go.AM

namespace Go.AM

section
variable {U : Univ} {O : Out} {P : Program} {B : Base}

abbrev PostQ (U : Univ) : Type := Exit → St U → Prop

def post (U : Univ) (O : Out) (B : Base) (Q : PostQ U) : Exit → Act → World → Prop := fun e a w => ∃ st, Q e st ∧ ∃ S ι, Rel U O B S ι st a w

def WpC (U : Univ) (O : Out) (P : Program) (B : Base) (c : Code) (st : St U) (Q : PostQ U) : Prop :=
  ∀ S ι a w, Rel U O B S ι st a w → c.wp P (post U O B Q) a w

def thenQ (N : St U → Prop) (Q : PostQ U) : PostQ U
  | .normal, st => N st
  | e, st => Q e st

def blockQ (id : Nat) (Q : PostQ U) : PostQ U
  | .exit id', st => if id' = id then Q .normal st else Q (.exit id') st
  | e, st => Q e st

theorem WpC.mono {c : Code} {st : St U} {Q Q' : PostQ U} (h : WpC U O P B c st Q) (hq : ∀ e st, Q e st → Q' e st) : WpC U O P B c st Q' :=
  fun S ι a w hR => wp_mono (h S ι a w hR) fun _ _ _ ⟨st', hQ, r⟩ => ⟨st', hq _ _ hQ, r⟩

theorem WpC.seq {x y : Code} {st : St U} {Q : PostQ U} (h : WpC U O P B x st (thenQ (fun st' => WpC U O P B y st' Q) Q)) : WpC U O P B (.seq x y) st Q := by
  intro S ι a w hR
  refine wp_seq (wp_mono (h S ι a w hR) ?_)
  rintro e a' w' ⟨st', hQ, S', ι', hR'⟩
  cases e with
  | normal => exact hQ S' ι' a' w' hR'
  | _ => exact ⟨st', hQ, S', ι', hR'⟩

theorem WpC.skip {st : St U} {Q : PostQ U} (h : Q .normal st) : WpC U O P B .skip st Q := fun S ι _ _ hR => wp_skip ⟨st, h, S, ι, hR⟩
theorem WpC.ret {st : St U} {Q : PostQ U} (h : Q .ret st) : WpC U O P B .ret st Q := fun S ι _ _ hR => wp_ret ⟨st, h, S, ι, hR⟩
theorem WpC.exit {id : Nat} {st : St U} {Q : PostQ U} (h : Q (.exit id) st) : WpC U O P B (.exit id) st Q := fun S ι _ _ hR => wp_exit ⟨st, h, S, ι, hR⟩

theorem WpC.block {id : Nat} {c : Code} {st : St U} {Q : PostQ U} (h : WpC U O P B c st (blockQ id Q)) : WpC U O P B (.block id c) st Q := by
  intro S ι a w hR
  refine wp_block (wp_mono (h S ι a w hR) ?_)
  rintro e a' w' ⟨st', hQ, hR'⟩
  cases e with
  | exit id' =>
    simp only [blockQ] at hQ
    simp only [Exit.inBlock]
    split
    · rename_i e; rw [if_pos e] at hQ; exact ⟨st', hQ, hR'⟩
    · rename_i e; rw [if_neg e] at hQ; exact ⟨st', hQ, hR'⟩
  | _ => exact ⟨st', hQ, hR'⟩

theorem WpC.cond {x : Operand} {b : Bool} {c d : Code} {st : St U} {Q : PostQ U} (hx : Opd U st.sl x (.p .bool b)) (h1 : b = true → WpC U O P B c st Q) (h2 : b = false → WpC U O P B d st Q) :
    WpC U O P B (.cond x c d) st Q := fun S ι a w hR =>
  wp_cond_split (VV.bool_iff.1 (hx.ev hR.sl)) (fun e => h1 e S ι a w hR) (fun e => h2 e S ι a w hR)

structure St.Le (st' st : St U) : Prop where
  sl : ∀ x ∈ st'.sl, x ∈ st.sl
  hp : ∀ x ∈ st'.hp, x ∈ st.hp

theorem Rel.weak {st st' : St U} (h : St.Le st' st) {S : Nat → Prop} {ι : Lay} {a : Act} {w : World} (hR : Rel U O B S ι st a w) : Rel U O B S ι st' a w := by
  have hn : ∀ n ∈ nm st'.hp, n ∈ nm st.hp := fun n hn => by obtain ⟨x, hx, rfl⟩ := List.mem_map.1 hn; exact mem_nm (h.hp x hx)
  exact { hR with
    sl := fun x hx => hR.sl x (h.sl x hx)
    hp := fun x hx => hR.hp x (h.hp x hx)
    own := ⟨fun n hm => hR.own.out n (hn n hm), fun n hn' m hm => hR.own.sep n (hn n hn') m (hn m hm)⟩
    mine := fun n hm => hR.mine n (hn n hm) }

theorem WpC.weak {c : Code} {st st' : St U} {Q : PostQ U} (h : St.Le st' st) (hc : WpC U O P B c st' Q) : WpC U O P B c st Q :=
  fun S ι a w hR => hc S ι a w (hR.weak h)

def lookA {α : Type} : List (Nat × α) → Nat → Option α
  | [], _ => none
  | x :: l, t => if x.1 = t then some x.2 else lookA l t

theorem lookA_mem {α : Type} {l : List (Nat × α)} {t : Nat} {v : α} (h : lookA l t = some v) : (t, v) ∈ l := by
  induction l with
  | nil => cases h
  | cons x l ih =>
    unfold lookA at h
    split at h
    · rename_i e; obtain ⟨a, b⟩ := x; simp at e h; subst e h; exact List.mem_cons_self
    · exact List.mem_cons_of_mem _ (ih h)

def takeA {α : Type} (l : List (Nat × α)) (ts : List Nat) : List (Nat × α) := ts.filterMap fun t => (lookA l t).map fun v => (t, v)
theorem mem_takeA {α : Type} {l : List (Nat × α)} {ts : List Nat} {x : Nat × α} (h : x ∈ takeA l ts) : x ∈ l := by
  obtain ⟨t, _, h⟩ := List.mem_filterMap.1 h
  cases hl : lookA l t with
  | none => rw [hl] at h; cases h
  | some v => rw [hl] at h; simp at h; subst h; exact lookA_mem hl

def St.keep (st : St U) (ts ns : List Nat) : St U := ⟨takeA st.sl ts, takeA st.hp ns⟩
theorem St.keep_le (st : St U) (ts ns : List Nat) : St.Le (st.keep ts ns) st := ⟨fun _ hx => mem_takeA hx, fun _ hx => mem_takeA hx⟩

theorem WpC.keep {c : Code} {st : St U} {Q : PostQ U} (ts ns : List Nat) (hc : WpC U O P B c (st.keep ts ns) Q) : WpC U O P B c st Q := hc.weak (st.keep_le ts ns)

theorem thenQ_normal {N : St U → Prop} {Q : PostQ U} {st : St U} (h : N st) : thenQ N Q .normal st := h
theorem thenQ_ret {N : St U → Prop} {Q : PostQ U} {st : St U} (h : Q .ret st) : thenQ N Q .ret st := h
theorem thenQ_exit {N : St U → Prop} {Q : PostQ U} {st : St U} {id : Nat} (h : Q (.exit id) st) : thenQ N Q (.exit id) st := h
theorem blockQ_normal {id : Nat} {Q : PostQ U} {st : St U} (h : Q .normal st) : blockQ id Q .normal st := h
theorem blockQ_ret {id : Nat} {Q : PostQ U} {st : St U} (h : Q .ret st) : blockQ id Q .ret st := h
theorem blockQ_hit {id : Nat} {Q : PostQ U} {st : St U} (h : Q .normal st) : blockQ id Q (.exit id) st := by simp only [blockQ, if_true]; exact h
theorem blockQ_pass {id id' : Nat} {Q : PostQ U} {st : St U} (hne : id' ≠ id) (h : Q (.exit id') st) : blockQ id Q (.exit id') st := by simp only [blockQ, if_neg hne]; exact h

theorem WpC.region {id : Nat} {ops : Array Oper} {st st' : St U} {Q : PostQ U} (hC : Chain U O P ops B.n st ops.toList st') (hQ : Q .normal st') :
    WpC U O P B (.region id ops false) st Q := fun S ι a w hR => by
  refine wp_region_list ?_
  exact hC.wp (fun S ι a w hR => ⟨st', hQ, S, ι, hR⟩) hR

theorem wp_loop_n {c : Code} {Q : Exit → Act → World → Prop} (I : Nat → Act → World → Prop)
    (round : ∀ n a w, I n a w → c.wp P (Exit.then (fun a' w' => ∃ m, m < n ∧ I m a' w') Q) a w) (n : Nat) (a : Act) (w : World) (h : I n a w) : (Code.loop c).wp P Q a w := by
  intro b k cs
  have key : ∀ n a w, I n a w → ∃ e a' w', Q e a' w' ∧ Arrives P (lone (b.at a (.code c :: .inLoop c :: k)) cs w) b k cs e a' w' := by
    intro n
    induction n using Nat.strongRecOn with
    | _ n ih =>
      intro a w hI
      obtain ⟨e, a₁, w₁, hq, harr⟩ := round n a w hI b (.inLoop c :: k) cs
      cases e with
      | normal =>
        obtain ⟨m, hlt, hI₁⟩ := hq
        obtain ⟨e₂, a₂, w₂, hq₂, harr₂⟩ := ih m hlt a₁ w₁ hI₁
        exact ⟨e₂, a₂, w₂, hq₂, .of_steps (Steps.trans harr (.one step_inLoop)) harr₂⟩
      | exit id => exact ⟨_, a₁, w₁, hq, .pass (x := .inLoop c) rfl (fun _ _ => .inl (by simp)) harr⟩
      | goto l => exact ⟨_, a₁, w₁, hq, .pass (x := .inLoop c) rfl (fun _ _ => .inl (by simp)) harr⟩
      | ret => exact ⟨_, a₁, w₁, hq, .pass (x := .inLoop c) rfl (fun _ _ => .inl (by simp)) harr⟩
      | panic ch => exact ⟨_, a₁, w₁, hq, .pass (x := .inLoop c) rfl (fun _ _ => .inl (by simp)) harr⟩
      | outgrown => exact ⟨_, a₁, w₁, hq, .pass (x := .inLoop c) rfl (fun _ _ => .inl (by simp)) harr⟩
  obtain ⟨e, a', w', hq, harr⟩ := key n a w h
  exact ⟨e, a', w', hq, .of_steps (.one step_loop) harr⟩

theorem WpC.loop {c : Code} {st : St U} {Q : PostQ U} (I : Nat → St U → Prop) (n : Nat) (h0 : I n st)
    (round : ∀ n st, I n st → WpC U O P B c st (thenQ (fun st' => ∃ m, m < n ∧ I m st') Q)) : WpC U O P B (.loop c) st Q := by
  intro S ι a w hR
  refine wp_loop_n (fun n a w => ∃ st, I n st ∧ ∃ S ι, Rel U O B S ι st a w) ?_ n a w ⟨st, h0, S, ι, hR⟩
  rintro n a w ⟨st, hI, S, ι, hR⟩
  refine wp_mono (round n st hI S ι a w hR) ?_
  rintro e a' w' ⟨st', hQ, S', ι', hR'⟩
  cases e with
  | normal => obtain ⟨m, hm, hI'⟩ := hQ; exact ⟨m, hm, st', hI', S', ι', hR'⟩
  | _ => exact ⟨st', hQ, S', ι', hR'⟩

def enum {α : Type} : Nat → List α → List (Nat × α)
  | _, [] => []
  | k, x :: l => (k, x) :: enum (k + 1) l

theorem VVs.enum {S : Nat → Prop} {ι : Lay} {w : World} : ∀ (as : List (AVal U)) (vs : List Value) (k : Nat), VVs U O S ι w as vs →
    as.length = vs.length ∧ ∀ x ∈ AM.enum k as, k ≤ x.1 ∧ ∃ u, vs[x.1 - k]? = some u ∧ VV U O S ι w x.2 u
  | [], vs, k, h => by simp only [VVs] at h; subst h; exact ⟨rfl, fun x hx => by cases hx⟩
  | v :: as, vs, k, h => by
    simp only [VVs] at h
    obtain ⟨u, us, rfl, h1, h2⟩ := h
    obtain ⟨h3, h4⟩ := VVs.enum as us (k + 1) h2
    refine ⟨by simp [h3], fun x hx => ?_⟩
    rcases List.mem_cons.1 hx with rfl | hx
    · exact ⟨Nat.le_refl _, u, by simp, h1⟩
    · obtain ⟨h5, u', h6, h7⟩ := h4 x hx
      refine ⟨by omega, u', ?_, h7⟩
      have : x.1 - k = (x.1 - (k + 1)) + 1 := by omega
      rw [this]; simpa using h6

def RetV (U : Univ) (O : Out) (P : Program) (fn : Func) (st : St U) (r : AVal U) : Prop :=
  ∀ (B : Base) S ι a w, Rel U O B S ι st a w → ∃ u, (results fn a.tmps).run P w = .ok u w ∧ VV U O S ι w r u

def Ends (U : Univ) (O : Out) (P : Program) (fn : Func) (c : CSpec U) : PostQ U
  | .normal, st | .ret, st => RetV U O P fn st c.r ∧ ∀ x ∈ c.bs', x ∈ st.hp
  | _, _ => False

structure NamesOk (c : CSpec U) : Prop where
  bs : ∀ n ∈ nm c.bs, K0 ≤ n
  nn : ∀ n ∈ c.nn, n < K0
  r : ∀ n ∈ AVal.names U c.r, n ∈ c.nn ∨ K0 ≤ n
  bs' : ∀ n ∈ nm c.bs', n ∈ c.nn ∨ K0 ≤ n
  bb : ∀ x ∈ c.bs', ∀ n ∈ Blk.names U x.2, n ∈ c.nn ∨ K0 ≤ n
  pl : ∀ n ∈ nm c.bs', n ∈ c.nn ∨ n ∈ nm c.bs

theorem cok_of_wp {f : FuncId} {fn : Func} {code : Code} (hf : P.funcs[f]? = some fn) (hb : fn.body = some code) {c : CSpec U} {k : Nat} (hk : fn.ntmps = k) (hle : c.ar.length ≤ k) (hc : NamesOk c)
    (h : ∀ B : Base, B.n = k → WpC U O P B code ⟨enum 0 c.ar, c.bs⟩ (Ends U O P fn c)) : COk U O P f c := by
  intro S ι w vs hlt hgl has hbs hown
  refine calls_of_wp hf hb ?_
  obtain ⟨hlen, hen⟩ := VVs.enum c.ar vs 0 has
  let B : Base := { S := S, w := w, A := fun b => ∃ n ∈ nm c.bs, ∃ cc, ι n = some (b, cc), ι := ι, n := k }
  have hsz : (vs.toArray ++ Array.replicate (fn.ntmps - vs.toArray.size) undef).size = k := by simp; omega
  refine wp_mono (h B rfl S ι _ w ⟨hsz, rfl, fun x hx => ?_, hbs, hown, fun n hn b cc hb => .inr ⟨n, hn, cc, hb⟩, hlt, hgl, fun b hb => hb, fun b hb => .inl hb, rfl, rfl, rfl, Nat.le_refl _,
    fun _ _ _ => rfl, fun _ _ => rfl⟩) ?_
  · obtain ⟨_, u, hu, hv⟩ := hen x hx
    have hlt' : x.1 < vs.length := by
      rcases Nat.lt_or_ge x.1 vs.length with h | h
      · exact h
      · rw [Nat.sub_zero, List.getElem?_eq_none h] at hu; cases hu
    have : (vs.toArray ++ Array.replicate (fn.ntmps - vs.toArray.size) undef).getD x.1 undef = u := by
      rw [Array.getD_eq_getD_getElem?, Array.getElem?_append_left (by simpa using hlt')]
      simp only [Nat.sub_zero] at hu
      simp [hu]
    rw [this]; exact hv
  · rintro e a' w' ⟨st, hQ, S', ι', hR⟩
    have key : RetV U O P fn st c.r ∧ (∀ x ∈ c.bs', x ∈ st.hp) → a'.defers = [] ∧ ∃ v, (results fn a'.tmps).run P w' = .ok v w' ∧
        ∃ u S' ι', Ending.returned v = .returned u ∧ Nx U O c.l S ι w S' ι' w' ∧ VV U O S' ι' w' c.r u := by
      rintro ⟨hr, hb'⟩
      obtain ⟨u, hu, hv⟩ := hr B S' ι' a' w' hR
      refine ⟨hR.dfr, u, hu, u, S', fun n => if n ∈ c.nn then ι' n else ι n, rfl, ?_, ?_⟩
      · have hι : ∀ n, (n ∈ c.nn ∨ K0 ≤ n) → (if n ∈ c.nn then ι' n else ι n) = ι' n := fun n hn => by
          split
          · rfl
          · rename_i hnn; exact (hR.lay n (hn.resolve_left hnn)).symm
        have hst : ∀ n ∈ nm c.bs', n ∈ nm st.hp := fun n hn => by obtain ⟨x, hx, rfl⟩ := List.mem_map.1 hn; exact mem_nm (hb' x hx)
        refine ⟨hR.os, hR.tape, hR.output, hR.size, hR.sub, hR.new, hR.lt, fun b hb hnot => hR.keep b hb ?_, fun n hn => if_neg hn, fun x hx => ?_, fun n hn b cc hb => ?_, fun n hn m hm hne b cc cc' hb => ?_⟩
        · rintro ⟨n, hn, cc, hcc⟩; exact hnot n hn cc hcc
        · exact BR.mono (fun _ _ => rfl) (fun _ h => h) (hι _ (hc.bs' _ (mem_nm hx))) (fun m hm => hι m (hc.bb x hx m hm)) (fun _ _ _ => rfl) (hR.hp x (hb' x hx))
        · rw [hι n (hc.bs' n hn)] at hb
          have h1 := hR.own.out n (hst n hn) b cc hb
          exact ⟨h1.1, h1.2, (hR.mine n (hst n hn) b cc hb)⟩
        · rw [hι n (hc.bs' n hn)] at hb
          rw [hι m (hc.bs' m hm)]
          exact hR.own.sep n (hst n hn) m (hst m hm) hne b cc cc' hb
      · refine VV.mono (fun _ _ => rfl) (fun _ h => h) _ _ (fun n hn => ?_) hv
        rcases hc.r n hn with h | h
        · exact if_pos h
        · show (if n ∈ c.nn then ι' n else ι n) = ι' n
          split
          · rfl
          · exact (hR.lay n h).symm
    cases e with
    | normal => exact key hQ
    | ret => exact key hQ
    | _ => exact hQ.elim
end
end Go.AM

namespace Go.AM

inductive Opds (U : Univ) (rs : List (Nat × AVal U)) : List Operand → List (AVal U) → Prop
  | nil : Opds U rs [] []
  | cons {x : Operand} {v : AVal U} {xs : List Operand} {vs : List (AVal U)} : Opd U rs x v → Opds U rs xs vs → Opds U rs (x :: xs) (v :: vs)

theorem Opds.ev {U : Univ} {O : Out} {S : Nat → Prop} {ι : Lay} {w : World} {a : Act} {rs : List (Nat × AVal U)} {xs : List Operand} {vs : List (AVal U)} (h : Opds U rs xs vs)
    (hr : ∀ x ∈ rs, VV U O S ι w x.2 (a.tmps.getD x.1 undef)) : VVs U O S ι w vs (xs.map a.eval) := by
  induction h with
  | nil => simp [VVs]
  | cons h _ ih => exact ⟨_, _, rfl, h.ev hr, ih⟩

mutual
def AVal.flat (U : Univ) : AVal U → Bool
  | .p t _ => t.flat U.fl
  | .sel _ _ _ _ t _ => t.flat U.fl
  | .pp _ _ => false
  | .clo _ vs | .agg vs | .tup vs => AVal.flatL U vs
  | _ => true
def AVal.flatL (U : Univ) : List (AVal U) → Bool
  | [] => true
  | v :: vs => AVal.flat U v && AVal.flatL U vs
end
def Blk.flat (U : Univ) : Blk U → Bool
  | .box us => AVal.flatL U us
  | .row _ t _ _ => t.flat U.fl
  | .map t _ => t.flat U.fl
  | .opt _ B => Blk.flat U B
  | .mapE t _ _ _ => t.flat U.fl
  | .iter _ _ _ _ _ _ _ => true
  | .mapM _ _ _ => true

section
variable {U : Univ} {O : Out} {S S' : Nat → Prop} {ι : Lay} {w : World}
mutual
theorem VV.flat : ∀ (v : AVal U) (u : Value), AVal.flat U v = true → VV U O S ι w v u → VV U O S' ι w v u
  | .junk, _, _, _ => by simp [VV]
  | .lit v, u, _, h => by simpa [VV] using h
  | .p t x, u, hf, h => by
    simp only [VV] at h ⊢
    obtain ⟨cs, h1, h2⟩ := h
    exact ⟨cs, h1.flat (by simpa [AVal.flat] using hf), h2⟩
  | .pp t x, u, hf, h => by simp [AVal.flat] at hf
  | .loc n off, u, _, h => by simpa [VV] using h
  | .eloc n wd i off, u, _, h => by simpa [VV] using h
  | .vec n wd off len, u, _, h => by simpa only [VV] using h
  | .mp n, u, _, h => by simpa [VV] using h
  | .opt q n, u, _, h => by simpa only [VV] using h
  | .sel q n wd len t x, u, hf, h => by
    simp only [VV] at h ⊢
    exact ⟨h.1, fun hq => by obtain ⟨cs, h1, h2⟩ := h.2 hq; exact ⟨cs, h1.flat (by simpa [AVal.flat] using hf), h2⟩⟩
  | .clo f vs, u, hf, h => by
    simp only [VV] at h ⊢
    obtain ⟨us, h1, h2⟩ := h
    exact ⟨us, VVs.flat vs us (by simpa [AVal.flat] using hf) h1, h2⟩
  | .agg vs, u, hf, h => by
    simp only [VV] at h ⊢
    obtain ⟨us, h1, h2⟩ := h
    exact ⟨us, VVs.flat vs us (by simpa [AVal.flat] using hf) h1, h2⟩
  | .tup vs, u, hf, h => by
    simp only [VV] at h ⊢
    obtain ⟨us, h1, h2⟩ := h
    exact ⟨us, VVs.flat vs us (by simpa [AVal.flat] using hf) h1, h2⟩
theorem VVs.flat : ∀ (vs : List (AVal U)) (us : List Value), AVal.flatL U vs = true → VVs U O S ι w vs us → VVs U O S' ι w vs us
  | [], us, _, h => by simpa [VVs] using h
  | v :: vs, us, hf, h => by
    simp only [AVal.flatL, Bool.and_eq_true] at hf
    simp only [VVs] at h ⊢
    obtain ⟨u, us', h1, h2, h3⟩ := h
    exact ⟨u, us', h1, VV.flat v u hf.1 h2, VVs.flat vs us' hf.2 h3⟩
end

theorem EntsR.flat {t : Ty} (hf : t.flat U.fl = true) : ∀ {es : List MapEntry} {ys : List (List UInt8 × t.den U.T)}, EntsR U O S w t es ys → EntsR U O S' w t es ys
  | [], _, h => h
  | _ :: _, _, ⟨y, r, h1, h2, ⟨cs, h3, h4⟩, h5⟩ => ⟨y, r, h1, h2, ⟨cs, h3.flat hf, h4⟩, EntsR.flat hf h5⟩

theorem BR.flat {n : Nat} {B : Blk U} (hf : Blk.flat U B = true) (h : BR U O S ι w n B) : BR U O S' ι w n B := by
  induction B with
  | box us =>
    obtain ⟨b, c, vs, arr, e, h1, h2, h3, h4, h5⟩ := h
    exact ⟨b, c, vs, arr, e, h1, VVs.flat us vs hf h2, h3, h4, h5⟩
  | row e t xs fx =>
    rcases h with ⟨h1, h2⟩ | ⟨b, c, arr, cs, h1, h2, h3, h4, h5, h6, h7, h8⟩
    · exact .inl ⟨h1, h2⟩
    · exact .inr ⟨b, c, arr, cs, h1, h2, h3, h4, h5, h6, fun i hi => (h7 i hi).flat hf, h8⟩
  | map t kvs =>
    obtain ⟨b, c, es, clock, ys, h1, h2, h3, h4, h5, h6⟩ := h
    exact ⟨b, c, es, clock, ys, h1, h2, h3, h4.flat hf, h5, h6⟩
  | opt q B ih => exact fun hq => ih hf (h hq)
  | mapE t es clock ys =>
    obtain ⟨b, c, h1, h2, h3, h4⟩ := h
    exact ⟨b, c, h1, h2, h3, h4.flat hf⟩
  | iter m t es clock ys left cur => exact h
  | mapM wd ys cur => cases cur <;> exact h
end

inductive View (U : Univ) (vw : List (Nat × Blk U)) : AVal U → AVal U → Prop
  | same (v : AVal U) : View U vw v v
  | row {n e : Nat} {t : Ty} {xs : List (t.den U.T)} {fx : Bool} (off len : Nat) (h : (n, Blk.row e t xs fx) ∈ vw) (hl : off + len ≤ xs.length) :
      View U vw (.vec n (t.width U.wd) off len) (.p (.list t) ((xs.drop off).take len))
  | nilL (t : Ty) : View U vw (.lit (.slice none 0 0)) (.p (.list t) ([] : List (t.den U.T)))
  | nilE : View U vw (.lit .nilIface) (.p .err (0 : Nat))
  | agg {us : List (AVal U)} {n : Nat} {x : U.T n} (h : ∀ (O : Out) (S : Nat → Prop) (ι : Lay) (w : World) (u : Value), (∀ x ∈ vw, BR U O S ι w x.1 x.2) → VV U O S ι w (.agg us) u →
      VV U O (fun b => S b ∨ ∃ n ∈ nm vw, ∃ c, ι n = some (b, c)) ι w (.p (.named n) x) u) : View U vw (.agg us) (.p (.named n) x)

inductive Views (U : Univ) (vw : List (Nat × Blk U)) : List (AVal U) → List (AVal U) → Prop
  | nil : Views U vw [] []
  | cons {v v' : AVal U} {vs vs' : List (AVal U)} : View U vw v v' → Views U vw vs vs' → Views U vw (v :: vs) (v' :: vs')

section
variable {U : Univ} {O : Out} {P : Program} {S : Nat → Prop} {ι : Lay} {w : World}

def Shown (ι : Lay) (ns : List Nat) : Nat → Prop := fun b => ∃ n ∈ ns, ∃ c, ι n = some (b, c)

theorem View.ev {vw : List (Nat × Blk U)} {v v' : AVal U} {u : Value} (h : View U vw v v') (hb : ∀ x ∈ vw, BR U O S ι w x.1 x.2) (hu : VV U O S ι w v u) :
    VV U O (fun b => S b ∨ Shown ι (nm vw) b) ι w v' u := by
  cases h with
  | same => exact VV.mono (fun _ _ => rfl) (fun _ h => .inl h) _ _ (fun _ _ => rfl) hu
  | nilL t => obtain ⟨rfl, _⟩ := hu; exact ⟨_, .lnil t, rfl⟩
  | nilE => obtain ⟨rfl, _⟩ := hu; exact ⟨_, .err0, rfl⟩
  | agg h => exact h O S ι w u hb hu
  | @row n e t xs fx off len hin hl =>
    simp only [VV] at hu
    have hB := hb _ hin
    rcases hu with ⟨hn, rfl, rfl, rfl⟩ | ⟨b, c, o, hn, hoc, rfl, ho⟩
    · exact VV.list_iff.2 (.inl ⟨by simp, rfl⟩)
    · rcases hB with ⟨h1, _⟩ | ⟨b', c', arr, cs, h1, h2, h3, h4, h5, h6, h7, h8⟩
      · rw [hn] at h1; cases h1
      · skip
        rw [hn] at h1
        obtain ⟨rfl, rfl⟩ : b = b' ∧ c = c' := by simpa using h1
        have hlen : ((xs.drop off).take len).length = len := by simp; omega
        refine VV.list_iff.2 (.inr (.inr ⟨b, o, c - off, fun i => cs (off + i), by rw [hlen], .inr ⟨n, mem_nm hin, c, hn⟩, by omega, fun i hi => ?_, fun i j hi hj => ?_⟩))
        · have : ((xs.drop off).take len)[i] = xs[off + i]'(by omega) := by simp
          rw [this]
          exact (h7 (off + i) (by omega)).mono (fun _ _ => rfl) (fun _ h => .inl h)
        · rw [hlen] at hi
          rw [← h8 (off + i) j (by omega) hj]
          have ho' : o = off * t.width U.wd := by
            rcases ho with ho | ho
            · exact ho
            · omega
          subst ho'
          simp only [World.cell?, h2, Option.isSome_none, Bool.false_eq_true, if_false]
          congr 1
          rw [Nat.add_mul]; omega

theorem Views.ev {vw : List (Nat × Blk U)} {vs vs' : List (AVal U)} (h : Views U vw vs vs') (hb : ∀ x ∈ vw, BR U O S ι w x.1 x.2) :
    ∀ {us : List Value}, VVs U O S ι w vs us → VVs U O (fun b => S b ∨ Shown ι (nm vw) b) ι w vs' us := by
  induction h with
  | nil => intro us h; simpa [VVs] using h
  | cons hv _ ih =>
    intro us h
    simp only [VVs] at h ⊢
    obtain ⟨u, us', rfl, h1, h2⟩ := h
    exact ⟨u, us', rfl, hv.ev hb h1, ih h2⟩

def CSpec.flat (c : CSpec U) : Bool := AVal.flat U c.r && c.bs'.all fun x => Blk.flat U x.2

end
end Go.AM
