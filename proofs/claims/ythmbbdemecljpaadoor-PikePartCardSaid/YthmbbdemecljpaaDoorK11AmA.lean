/- The abstract layer, part A: codes of types, data, what cells read as, abstract values and owned blocks. -/
import Derived.Laws.AppendOwn
import Derived.Laws.World
import Derived.Calls
import Derived.Tactics
import Derived.MapKept
namespace Go.AM

inductive Ty where
  | bool | int (k : IntKind) | str | unit | err
  | pair (a b : Ty) | list (t : Ty) | arr (n : Nat) (t : Ty) | named (n : Nat) | ptr (t : Ty)
  deriving DecidableEq

def Ty.den (T : Nat → Type) : Ty → Type
  | .bool => Bool | .int _ => Int | .str => List UInt8 | .unit => Unit | .err => Nat
  | .pair a b => a.den T × b.den T | .list t => List (t.den T) | .arr _ t => List (t.den T) | .named n => T n | .ptr t => Option (t.den T)

def Ty.width (wd : Nat → Nat) : Ty → Nat
  | .pair a b => a.width wd + b.width wd | .unit => 0 | .arr n t => n * t.width wd | .named n => wd n | _ => 1

def Ty.flat (fl : Nat → Bool) : Ty → Bool
  | .pair a b => a.flat fl && b.flat fl | .arr _ t => t.flat fl | .named n => fl n | .list _ => false | .ptr _ => false | _ => true

def Ty.isAgg : Ty → Bool
  | .pair _ _ | .unit | .arr _ _ | .named _ => true
  | _ => false

structure Univ where
  T : Nat → Type
  body : Nat → Ty
  out : (n : Nat) → T n → (body n).den T
  inn : (n : Nat) → (body n).den T → T n
  out_inn : ∀ n x, out n (inn n x) = x
  inn_out : ∀ n x, inn n (out n x) = x
  wd : Nat → Nat
  wd_ok : ∀ n, (body n).width wd = wd n
  fl : Nat → Bool
  fl_ok : ∀ n, fl n = true → (body n).flat fl = true

/-- What is known from outside: the errors' values. -/
structure Out where
  ev : Nat → Value
  ev_one : ∀ k, (ev k).oneCell' = true
  ev_if : ∀ k, ∃ T v, ev k = .iface T v
  gl : Nat → Option Value := fun _ => none
  pl : Nat → Prop := fun _ => False
  gc : Nat → Option (Array Value) := fun _ => none

/-- Package-level variables of one cell that hold what is known of them, in memory that nobody turns. -/
def Out.Glob (O : Out) (S : Nat → Prop) (w : World) : Prop :=
  (∀ g v, O.gl g = some v → S g ∧ w.cell? ⟨g, 0, none⟩ = some v) ∧ (∀ b, O.pl b → S b ∧ ∃ c t, w.heap[b]? = some (.cells c t (0, 0))) ∧ ∀ g arr, O.gc g = some arr → S g ∧ ∃ t, w.heap[g]? = some (.cells arr t (0, 0))

theorem Out.Glob.mono {O : Out} {S S' : Nat → Prop} {w w' : World} (h : O.Glob S w) (hw : ∀ b, S b → w'.heap[b]? = w.heap[b]?) (hS : ∀ b, S b → S' b) : O.Glob S' w' :=
  ⟨fun g v hg => ⟨hS g (h.1 g v hg).1, by rw [← (h.1 g v hg).2]; simp only [World.cell?]; rw [hw g (h.1 g v hg).1]⟩, fun b hb => ⟨hS b (h.2.1 b hb).1, by rw [hw b (h.2.1 b hb).1]; exact (h.2.1 b hb).2⟩, fun g arr hg => ⟨hS g (h.2.2 g arr hg).1, by rw [hw g (h.2.2 g arr hg).1]; exact (h.2.2 g arr hg).2⟩⟩

abbrev Univ.D (U : Univ) (t : Ty) : Type := t.den U.T

section
variable (U : Univ) (O : Out)

/-- The cells 'cs' read as the datum x of type t; memory that is reached lies in blocks of S. -/
inductive Rd (S : Nat → Prop) (w : World) : (t : Ty) → t.den U.T → List Value → Prop
  | bool (b : Bool) : Rd S w .bool b [.bool b]
  | int (k : IntKind) (n : Int) : Rd S w (.int k) n [.int k n]
  | str (s : ByteArray) : Rd S w .str s.data.toList [.string s]
  | unit : Rd S w .unit () []
  | err0 : Rd S w .err (0 : Nat) [.nilIface]
  | err (k : Nat) : Rd S w .err (k + 1 : Nat) [O.ev k]
  | pair {a b : Ty} {x : a.den U.T} {y : b.den U.T} {c1 c2 : List Value} : Rd S w a x c1 → Rd S w b y c2 → Rd S w (.pair a b) (x, y) (c1 ++ c2)
  | named (n : Nat) (x : U.T n) {cs : List Value} : Rd S w (U.body n) (U.out n x) cs → Rd S w (.named n) x cs
  | lnil (t : Ty) : Rd S w (.list t) ([] : List (t.den U.T)) [.slice none 0 0]
  | lemp (t : Ty) (a : Addr) (cap : Nat) : Rd S w (.list t) ([] : List (t.den U.T)) [.slice (some a) 0 cap]
  | list (t : Ty) (xs : List (t.den U.T)) (b o cap : Nat) (cs : Nat → List Value) (hS : S b) (hcap : xs.length ≤ cap)
      (hel : ∀ (i : Nat) (h : i < xs.length), Rd S w t xs[i] (cs i))
      (hc : ∀ i j : Nat, i < xs.length → j < t.width U.wd → w.cell? ⟨b, o + (i * t.width U.wd + j), none⟩ = (cs i)[j]?) :
      Rd S w (.list t) xs [.slice (some ⟨b, o, none⟩) xs.length cap]
  | arr (n : Nat) (t : Ty) (xs : List (t.den U.T)) (cs : Nat → List Value) (hn : xs.length = n)
      (hel : ∀ (i : Nat) (h : i < xs.length), Rd S w t xs[i] (cs i)) :
      Rd S w (.arr n t) xs ((List.range n).flatMap cs)
  | pnil (t : Ty) : Rd S w (.ptr t) (none : Option (t.den U.T)) [.pointer none]
  | pto (t : Ty) (x : t.den U.T) (b o : Nat) (cs : List Value) (hS : S b) (hx : Rd S w t x cs) (hc : ∀ j, j < t.width U.wd → w.cell? ⟨b, o + j, none⟩ = cs[j]?) : Rd S w (.ptr t) (some x : Option (t.den U.T)) [.pointer (some ⟨b, o, none⟩)]
end

section
variable {U : Univ} {O : Out} {S S' : Nat → Prop} {w w' : World}

theorem Rd.mono {t : Ty} {x : t.den U.T} {cs : List Value} (h : Rd U O S w t x cs) (hw : ∀ b, S b → w'.heap[b]? = w.heap[b]?) (hS : ∀ b, S b → S' b) : Rd U O S' w' t x cs := by
  induction h with
  | bool b => exact .bool b
  | int k n => exact .int k n
  | str s => exact .str s
  | unit => exact .unit
  | err0 => exact .err0
  | err k => exact .err k
  | pair _ _ h1 h2 => exact .pair h1 h2
  | named n x _ h => exact .named n x h
  | lnil t => exact .lnil t
  | lemp t a cap => exact .lemp t a cap
  | list t xs b o cap cs hb hcap hel hc ih =>
    refine .list t xs b o cap cs (hS b hb) hcap ih fun i j hi hj => ?_
    rw [← hc i j hi hj]
    exact World.cell?_of_block (hw b hb)
  | arr n t xs cs hn hel ih => exact .arr n t xs cs hn ih
  | pnil t => exact .pnil t
  | pto t x b o cs hb hx hc ih => exact .pto t x b o cs (hS b hb) ih fun j hj => (World.cell?_of_block (hw b hb)).trans (hc j hj)

theorem flatMap_range_length (n k : Nat) (cs : Nat → List Value) (h : ∀ i, i < n → (cs i).length = k) : ((List.range n).flatMap cs).length = n * k := by
  induction n with
  | zero => simp
  | succ n ih =>
    rw [List.range_succ, List.flatMap_append, List.length_append, ih fun i hi => h i (by omega)]
    simp [h n (by omega), Nat.succ_mul]

theorem Rd.length {t : Ty} {x : t.den U.T} {cs : List Value} (h : Rd U O S w t x cs) : cs.length = t.width U.wd := by
  induction h with
  | pair _ _ h1 h2 => simp [Ty.width, h1, h2]
  | named n x _ h => rw [h]; exact U.wd_ok n
  | arr n t xs cs hn hel ih => exact flatMap_range_length n _ cs fun i hi => ih i (by omega)
  | _ => rfl

theorem Rd.one {t : Ty} {x : t.den U.T} {cs : List Value} (h : Rd U O S w t x cs) : ∀ c ∈ cs, c.oneCell' = true := by
  induction h with
  | pair _ _ h1 h2 => intro c hc; rcases List.mem_append.1 hc with h | h; exact h1 c h; exact h2 c h
  | named n x _ h => exact h
  | arr n t xs cs hn hel ih =>
    intro c hc
    obtain ⟨i, hi, hc⟩ := List.mem_flatMap.1 hc
    exact ih i (by rw [hn]; exact List.mem_range.1 hi) c hc
  | err k => intro c hc; simp at hc; subst hc; exact O.ev_one k
  | unit => intro c hc; cases hc
  | _ => intro c hc; simp at hc; subst hc; rfl

/-- Data without slices in it: no memory is reached. -/
theorem Rd.flat {t : Ty} {x : t.den U.T} {cs : List Value} (h : Rd U O S w t x cs) : t.flat U.fl = true → Rd U O S' w' t x cs := by
  induction h with
  | bool b => exact fun _ => .bool b
  | int k n => exact fun _ => .int k n
  | str s => exact fun _ => .str s
  | unit => exact fun _ => .unit
  | err0 => exact fun _ => .err0
  | err k => exact fun _ => .err k
  | pair _ _ h1 h2 => intro hf; simp only [Ty.flat, Bool.and_eq_true] at hf; exact .pair (h1 hf.1) (h2 hf.2)
  | named n x _ h => intro hf; exact .named n x (h (U.fl_ok n hf))
  | lnil t => intro hf; cases hf
  | lemp t a cap => intro hf; cases hf
  | list t xs b o cap cs hb hcap hel hc ih => intro hf; cases hf
  | arr n t xs cs hn hel ih => intro hf; exact .arr n t xs cs hn fun i hi => ih i hi hf
  | pnil t => intro hf; cases hf
  | pto t x b o cs hb hx hc ih => intro hf; cases hf
end

inductive AVal (U : Univ) where
  | junk
  | lit (v : Value)
  | p (t : Ty) (x : t.den U.T)
  | pp (t : Ty) (x : t.den U.T)
  | loc (n off : Nat)
  | eloc (n wd i off : Nat)
  | vec (n wd off len : Nat)
  | mp (n : Nat)
  | opt (b : Bool) (n : Nat)
  | clo (f : FuncId) (caps : List (AVal U))
  | agg (vs : List (AVal U))
  | tup (vs : List (AVal U))

inductive Blk (U : Univ) where
  | box (us : List (AVal U))
  | row (e : TypeId) (t : Ty) (xs : List (t.den U.T)) (fx : Bool)
  | map (t : Ty) (kvs : List (List UInt8 × t.den U.T))
  | opt (b : Bool) (B : Blk U)
  | mapE (t : Ty) (es : Array MapEntry) (clock : Nat) (ys : List (List UInt8 × t.den U.T))
  | iter (m : Nat) (t : Ty) (es : Array MapEntry) (clock : Nat) (ys left : List (List UInt8 × t.den U.T)) (cur : Option (List UInt8 × t.den U.T))

/-- Where a name's block lies: its number, and how many elements it has room for. -/
abbrev Lay := Nat → Option (Nat × Nat)

def mkV : Bool → List Value → Value
  | true, cs => .agg cs.toArray
  | false, cs => cs.headD undef

section
variable (U : Univ) (O : Out) (S : Nat → Prop) (ι : Lay) (w : World)

mutual
def VV : AVal U → Value → Prop
  | .junk, _ => True
  | .lit v, u => u = v ∧ v.oneCell' = true
  | .p t x, u => ∃ cs, Rd U O S w t x cs ∧ u = mkV t.isAgg cs
  | .pp t x, u => ∃ b o cs, u = .pointer (some ⟨b, o, none⟩) ∧ S b ∧ Rd U O S w t x cs ∧ ∀ j, j < t.width U.wd → w.cell? ⟨b, o + j, none⟩ = cs[j]?
  | .loc n off, u => ∃ b c, ι n = some (b, c) ∧ u = .pointer (some ⟨b, off, none⟩)
  | .eloc n wd i off, u => ∃ b c, ι n = some (b, c) ∧ u = .pointer (some ⟨b, i * wd + off, none⟩)
  | .vec n wd off len, u => (ι n = none ∧ off = 0 ∧ len = 0 ∧ u = .slice none 0 0) ∨
      ∃ b c o, ι n = some (b, c) ∧ off + len ≤ c ∧ u = .slice (some ⟨b, o, none⟩) len (c - off) ∧ (o = off * wd ∨ (off = c ∧ 0 < off))
  | .mp n, u => ∃ b c, ι n = some (b, c) ∧ u = .map (some b)
  | .opt q n, u => (q = true → ∃ b c, ι n = some (b, c) ∧ u = .pointer (some ⟨b, 0, none⟩)) ∧ (q = false → u = .pointer none)
  | .clo f caps, u => ∃ vs, VVs caps vs ∧ u = .func (.func f) #[] vs.toArray
  | .agg vs, u => ∃ us, VVs vs us ∧ u = .agg (us.flatMap fun v => v.cells.toList).toArray
  | .tup vs, u => ∃ us, VVs vs us ∧ u = .tuple us.toArray
def VVs : List (AVal U) → List Value → Prop
  | [], us => us = []
  | v :: vs, us => ∃ u us', us = u :: us' ∧ VV v u ∧ VVs vs us'
end

mutual
def AVal.names : AVal U → List Nat
  | .loc n _ | .eloc n _ _ _ | .vec n _ _ _ | .mp n | .opt _ n => [n]
  | .clo _ vs | .agg vs | .tup vs => AVal.namesL vs
  | _ => []
def AVal.namesL : List (AVal U) → List Nat
  | [] => []
  | v :: vs => AVal.names v ++ AVal.namesL vs
end
end

/-- A map's entries, in their order in memory, read as keys with values. -/
def EntsR (U : Univ) (O : Out) (S : Nat → Prop) (w : World) (t : Ty) : List MapEntry → List (List UInt8 × t.den U.T) → Prop
  | [], ys => ys = []
  | e :: es, ys => ∃ y r, ys = y :: r ∧ (∃ s : ByteArray, e.key = .string s ∧ s.data.toList = y.1) ∧ (∃ cs, Rd U O S w t y.2 cs ∧ e.val = mkV t.isAgg cs) ∧ EntsR U O S w t es r

/-- What of a map a range has not seen. -/
def remOf {α : Type} (seen : Array Nat) : List MapEntry → List α → List α
  | e :: es, y :: ys => if seen.contains e.born then remOf seen es ys else y :: remOf seen es ys
  | _, _ => []

/-- What an owned block holds. -/
def BR (U : Univ) (O : Out) (S : Nat → Prop) (ι : Lay) (w : World) (n : Nat) : Blk U → Prop
  | .box us => ∃ b c vs arr e, ι n = some (b, c) ∧ VVs U O S ι w us vs ∧ (∀ v ∈ vs, ∀ x ∈ v.cells.toList, x.oneCell' = true) ∧ arr.toList = vs.flatMap (fun v => v.cells.toList) ∧ w.heap[b]? = some (.cells arr e (0, 0))
  | .row e t xs fx => (ι n = none ∧ xs = [] ∧ fx = false) ∨
      ∃ (b c : Nat) (arr : Array Value) (cs : Nat → List Value), ι n = some (b, c) ∧ w.heap[b]? = some (.cells arr e (0, 0)) ∧ arr.size = c * t.width U.wd ∧ c ≤ maxLen ∧ xs.length ≤ c ∧ (fx = true → xs.length = c) ∧
        (∀ (i : Nat) (h : i < xs.length), Rd U O S w t xs[i] (cs i)) ∧ ∀ i j : Nat, i < xs.length → j < t.width U.wd → arr[i * t.width U.wd + j]? = (cs i)[j]?
  | .map t kvs => ∃ b c es clock ys, ι n = some (b, c) ∧ w.heap[b]? = some (.map es clock) ∧ MapKept.Stamped es clock ∧ EntsR U O S w t es.toList ys ∧ ys.Perm kvs ∧
      kvs.Pairwise fun x y => Op.bytesLess x.1 y.1 = true
  | .opt q B => q = true → BR U O S ι w n B
  | .mapE t es clock ys => ∃ b c, ι n = some (b, c) ∧ w.heap[b]? = some (.map es clock) ∧ MapKept.Stamped es clock ∧ EntsR U O S w t es.toList ys
  | .iter m _ es clock ys left cur => ∃ b c mb mc seen, ι n = some (b, c) ∧ ι m = some (mb, mc) ∧ w.heap[b]? = some (.mapIter (some mb) clock seen clock) ∧ left.Perm (remOf seen es.toList ys) ∧
      ∀ y, cur = some y → ∃ (j : Nat) (e : MapEntry), es.toList[j]? = some e ∧ ys[j]? = some y ∧ ∃ pre : Array Nat, seen = pre.push e.born

def Blk.names (U : Univ) : Blk U → List Nat
  | .box us => AVal.namesL U us
  | .row _ _ _ _ => []
  | .map _ _ => []
  | .opt _ B => Blk.names U B
  | .mapE _ _ _ _ => []
  | .iter m _ _ _ _ _ _ => [m]

end Go.AM
