/- A part of my own abstract layer. -/
import Derived.Test.YtldepagjdbcmgaaGreatDoorK25AmM1
import Derived.Scope
namespace Go.AM
open Go
set_option linter.unusedVariables false
section
variable {U : Univ} {O : Out} {P : Program} {B : Base}
def noGotoQ (Q : PostQ U) : PostQ U
  | .goto _, _ => False
  | e, st => Q e st
end
section
variable {U : Univ} {O : Out}
theorem Conv.freezeP {st : St U} (t n : Nat) (ty : Ty) (x : ty.den U.T) (us : List (AVal U)) (hin : (t, AVal.loc n 0) ∈ st.sl) (hx : Expl U ty x us) (hb : (n, Blk.box us) ∈ st.hp) (hn : ∀ x ∈ st.hp, n ∉ Blk.names U x.2) :
    Conv U O st ⟨setA st.sl t (.p (.ptr ty) (some x : Option (ty.den U.T))), st.hp.filter fun x => !(x.1 == n)⟩ := by
  intro B S ι a w hR
  have hB := hR.hp _ hb
  have hmem : ∀ x ∈ st.hp.filter (fun x => !(x.1 == n)), x ∈ st.hp ∧ x.1 ≠ n := fun x hx => by
    obtain ⟨h1, h2⟩ := List.mem_filter.1 hx
    exact ⟨h1, by simpa using h2⟩
  have hmn : ∀ k ∈ nm (st.hp.filter fun x => !(x.1 == n)), k ∈ nm st.hp ∧ k ≠ n := fun k hk => by
    obtain ⟨x, hx, rfl⟩ := List.mem_map.1 hk
    exact ⟨mem_nm (hmem x hx).1, (hmem x hx).2⟩
  have hnin : n ∈ nm st.hp := mem_nm hb
  obtain ⟨b, c, vs, arr, e, h1, h2, h3, h4, h5⟩ := hB
  refine ⟨fun b => S b ∨ ∃ c, ι n = some (b, c), ι, { hR with sl := fun y hy => ?_, hp := fun x hx => ?_, own := ⟨fun k hk b c hb => ?_, fun k hk j hj => hR.own.sep k (hmn k hk).1 j (hmn j hj).1⟩, mine := (fun k hk => hR.mine k (hmn k hk).1), lt := fun b h => ?_, gl := hR.gl.mono (fun _ _ => rfl) (fun _ h => .inl h), sub := fun b h => .inl (hR.sub b h), new := fun b h => ?_ }⟩
  · rcases mem_setA hy with rfl | ⟨h6, _⟩
    · obtain ⟨b', c', h7, h8⟩ := hR.sl _ hin
      rw [h1] at h7
      obtain ⟨rfl, rfl⟩ : b = b' ∧ c = c' := by simpa using h7
      have hr := (hx.of h2).mono (S' := fun b => S b ∨ ∃ c, ι n = some (b, c)) (fun _ _ => rfl) (fun _ h => .inl h)
      refine ⟨[a.tmps.getD t undef], ?_, rfl⟩
      show Rd U O _ w (.ptr ty) _ [a.tmps.getD t undef]
      rw [h8]
      refine .pto ty x b 0 (cellsOf vs) (.inr ⟨c, h1⟩) hr fun j hj => ?_
      rw [cell_of_row w b _ arr _ (0, 0) h5, Nat.zero_add, ← Array.getElem?_toList, h4]; rfl
    · exact VV.mono (fun _ _ => rfl) (fun _ h => .inl h) _ _ (fun _ _ => rfl) (hR.sl y h6)
  · exact BR.mono (fun _ _ => rfl) (fun _ h => .inl h) rfl (fun _ _ => rfl) (fun _ _ _ => rfl) (hR.hp x (hmem x hx).1)
  · refine ⟨fun h => ?_, (hR.own.out k (hmn k hk).1 b c hb).2⟩
    rcases h with h | ⟨c', h⟩
    · exact (hR.own.out k (hmn k hk).1 b c hb).1 h
    · exact hR.own.sep k (hmn k hk).1 n hnin (hmn k hk).2 b c c' hb h
  · rcases h with h | ⟨c, h⟩
    · exact hR.lt b h
    · exact (hR.own.out n hnin b c h).2
  · rcases h with h | ⟨c, h⟩
    · exact hR.new b h
    · exact .inr (hR.mine n hnin b c h)
theorem Conv.freezeQ {st : St U} (t n : Nat) (ty : Ty) (x : ty.den U.T) (us : List (AVal U)) (hin : (t, AVal.loc n 0) ∈ st.sl) (hx : Expl U ty x us) (hb : (n, Blk.box us) ∈ st.hp) (hn : ∀ x ∈ st.hp, n ∉ Blk.names U x.2) :
    Conv U O st ⟨setA st.sl t (.pp ty x), st.hp.filter fun x => !(x.1 == n)⟩ := by
  intro B S ι a w hR
  have hB := hR.hp _ hb
  have hmem : ∀ x ∈ st.hp.filter (fun x => !(x.1 == n)), x ∈ st.hp ∧ x.1 ≠ n := fun x hx => by
    obtain ⟨h1, h2⟩ := List.mem_filter.1 hx
    exact ⟨h1, by simpa using h2⟩
  have hmn : ∀ k ∈ nm (st.hp.filter fun x => !(x.1 == n)), k ∈ nm st.hp ∧ k ≠ n := fun k hk => by
    obtain ⟨x, hx, rfl⟩ := List.mem_map.1 hk
    exact ⟨mem_nm (hmem x hx).1, (hmem x hx).2⟩
  have hnin : n ∈ nm st.hp := mem_nm hb
  obtain ⟨b, c, vs, arr, e, h1, h2, h3, h4, h5⟩ := hB
  refine ⟨fun b => S b ∨ ∃ c, ι n = some (b, c), ι, { hR with sl := fun y hy => ?_, hp := fun x hx => ?_, own := ⟨fun k hk b c hb => ?_, fun k hk j hj => hR.own.sep k (hmn k hk).1 j (hmn j hj).1⟩, mine := (fun k hk => hR.mine k (hmn k hk).1), lt := fun b h => ?_, gl := hR.gl.mono (fun _ _ => rfl) (fun _ h => .inl h), sub := fun b h => .inl (hR.sub b h), new := fun b h => ?_ }⟩
  · rcases mem_setA hy with rfl | ⟨h6, _⟩
    · obtain ⟨b', c', h7, h8⟩ := hR.sl _ hin
      rw [h1] at h7
      obtain ⟨rfl, rfl⟩ : b = b' ∧ c = c' := by simpa using h7
      have hr := (hx.of h2).mono (S' := fun b => S b ∨ ∃ c, ι n = some (b, c)) (fun _ _ => rfl) (fun _ h => .inl h)
      refine ⟨b, 0, cellsOf vs, h8, .inr ⟨c, h1⟩, hr, fun j hj => ?_⟩
      rw [cell_of_row w b _ arr _ (0, 0) h5, Nat.zero_add, ← Array.getElem?_toList, h4]; rfl
    · exact VV.mono (fun _ _ => rfl) (fun _ h => .inl h) _ _ (fun _ _ => rfl) (hR.sl y h6)
  · exact BR.mono (fun _ _ => rfl) (fun _ h => .inl h) rfl (fun _ _ => rfl) (fun _ _ _ => rfl) (hR.hp x (hmem x hx).1)
  · refine ⟨fun h => ?_, (hR.own.out k (hmn k hk).1 b c hb).2⟩
    rcases h with h | ⟨c', h⟩
    · exact (hR.own.out k (hmn k hk).1 b c hb).1 h
    · exact hR.own.sep k (hmn k hk).1 n hnin (hmn k hk).2 b c c' hb h
  · rcases h with h | ⟨c, h⟩
    · exact hR.lt b h
    · exact (hR.own.out n hnin b c h).2
  · rcases h with h | ⟨c, h⟩
    · exact hR.new b h
    · exact .inr (hR.mine n hnin b c h)
end
section
variable {U : Univ} {O : Out} {P : Program} {S : Nat → Prop} {ι : Lay} {w : World} {rs : List (Nat × AVal U)} {a : Act} {ops : Array Oper} {o : Oper}
theorem ptrV_p {t : Ty} {q : Option (t.den U.T)} : PtrV U (.p (.ptr t) q) q.isNone := fun O S ι w u ⟨cs, hr, hu⟩ => by
  cases hr with
  | pnil => exact ⟨none, hu, rfl⟩
  | pto _ x b o cs => exact ⟨some _, hu, rfl⟩
theorem sok_nilCheckP {t : Ty} {x : Operand} {q : Option (t.den U.T)} {y : t.den U.T} (hg : o.guard = none) (ho : o.op = .nilCheck x) (hx : Opd U rs x (.p (.ptr t) q)) (hq : q = some y) : SOk U O P ops o { rs := rs, ws := .pp t y } :=
  sok_val hg fun S ι w a hrs _ => by
    subst hq
    obtain ⟨cs, hr, hu⟩ := hx.ev hrs
    cases hr with
    | pto _ _ b o' cs hS hx' hc =>
    refine ⟨a.eval x, ?_, b, o', cs, hu, hS, hx', hc⟩
    unfold execOp
    rw [ho]
    have hu' : a.eval x = .pointer (some ⟨b, o', none⟩) := hu
    simp only [hu', Sem.run_pure]
end
end Go.AM
namespace Go.AM

inductive Ob (U : Univ) where
  | o (t : Ty) (x : Option (t.den U.T))
  | u (x : Option UInt8)
  | p (q : Prop)
  | n (k : Nat)
  | b (k : Bool)
  | v (x : AVal U)
  | k (x : Blk U)
  | w (o : Oper)

def opAt (ops : Array Oper) (i : Nat) : Oper := ops.toList.getD i default
inductive IT (U : Univ) (O : Out) (P : Program) (ops : Array Oper) where
  | v (t : Ty) {q : Option (t.den U.T)} {x : t.den U.T} (h : q = some x)
  | u {q : Option UInt8} {x : UInt8} (h : q = some x)
  | g {p : Prop} (h : p)
  | t {b : Bool} (h : b = true)
  | f {b : Bool} (h : b = false)
  | c {f : FuncId} {c : CSpec U} (h : COk U O P f c)
  | e (i : Nat) {s : LSpec U} (h : SOk U O P ops { opAt ops i with guard := none } s)

structure Tab (U : Univ) where
  ty : List (TypeId × Ty) := []
  sl : List (TypeId × TypeId × Ty) := []
  fd : List (TypeId × Nat × Nat × Ty) := []
  un : TypeId → Option TypeDesc
  ro : List (TypeId × TypeId × Ty × Nat) := []
  mp : List (TypeId × TypeId × TypeId) := []
  zd : List (TypeId × AVal U) := []
  az : List (TypeId × List (AVal U)) := []
  bz : List (TypeId × List (AVal U) × List (Nat × Nat × Ty)) := []
  hb : List FuncId := []

def AllP {α : Type} (Q : α → Prop) : List α → Prop
  | [] => True
  | x :: l => Q x ∧ AllP Q l
theorem AllP.c {α : Type} {Q : α → Prop} {x : α} {l : List α} (h : Q x) (hl : AllP Q l) : AllP Q (x :: l) := ⟨h, hl⟩
theorem AllP.z {α : Type} {Q : α → Prop} : AllP Q [] := trivial
theorem AllP.mem {α : Type} {Q : α → Prop} : ∀ {l : List α}, AllP Q l → ∀ x ∈ l, Q x
  | _ :: _, h, _, .head _ => h.1
  | _ :: _, h, _, .tail _ hx => AllP.mem h.2 _ hx

def ZdOk (P : Program) (U : Univ) (T : TypeId) : AVal U → Prop
  | .p t z => ZeroOk P U T t z
  | _ => False
structure TbOk (P : Program) (U : Univ) (b : Tab U) : Prop where
  ty : AllP (fun x => TyOk P U x.1 x.2) b.ty
  sl : AllP (fun x => SlOk P U x.1 x.2.1 x.2.2) b.sl
  fd : AllP (fun x => ∃ F, FdOk P U x.1 x.2.1 x.2.2.1 F x.2.2.2) b.fd
  un : ∀ T d, b.un T = some d → P.underlying T = some d
  ro : AllP (fun x => RowOk P U x.1 x.2.1 x.2.2.1 x.2.2.2) b.ro
  mp : AllP (fun x => MapOk P x.1 x.2.1 x.2.2) b.mp
  zd : AllP (fun x => ZdOk P U x.1 x.2) b.zd
  az : AllP (fun x => ∃ v cs, (P.info? x.1).bind (·.zero) = some v ∧ v.cells.toList = cs ∧ ZU U x.2 cs) b.az
  bz : AllP (fun x => ∃ z pl, lays P x.1 = some (z, pl) ∧ ZU U x.2.1 z ∧ (List.range x.2.2.length).map pl = x.2.2.map fun y => some (y.1, y.2.1)) b.bz
  hb : AllP (fun x => HasBody P x) b.hb

def AVal.int? {U : Univ} : AVal U → Option (IntKind × Int)
  | .p (.int k) n => some (k, n)
  | _ => none
def AVal.str? {U : Univ} : AVal U → Option (List UInt8)
  | .p .str s => some s
  | _ => none
def AVal.bool? {U : Univ} : AVal U → Option Bool
  | .p .bool s => some s
  | _ => none
def AVal.asP {U : Univ} (t : Ty) : AVal U → Option (t.den U.T)
  | .p t' x => if h : t' = t then some (h ▸ x) else none
  | _ => none

section
variable {U : Univ}
theorem AVal.int?_eq {v : AVal U} {k : IntKind} {n : Int} (h : v.int? = some (k, n)) : v = .p (.int k) n := by
  unfold AVal.int? at h
  split at h
  · cases h; rfl
  · cases h
theorem AVal.bool?_eq {v : AVal U} {s : Bool} (h : v.bool? = some s) : v = .p .bool s := by
  unfold AVal.bool? at h
  split at h
  · cases h; rfl
  · cases h
theorem AVal.asP_eq {t : Ty} {v : AVal U} {x : t.den U.T} (h : v.asP t = some x) : v = .p t x := by
  unfold AVal.asP at h
  split at h
  · split at h
    · rename_i h'; subst h'; cases h; rfl
    · cases h
  · cases h

def opd (rs : List (Nat × AVal U)) : Operand → Option (AVal U)
  | .tmp t => lookA rs t
  | .const (.int k n) => some (.p (.int k) n)
  | .const (.bool b) => some (.p .bool b)
  | .const (.string b) => some (.p .str b.data.toList)
  | .const v => bif v.oneCell' then some (.lit v) else none
  | .global g => some (.lit (.pointer (some ⟨g, 0, none⟩)))
  | .func f => some (.clo f [])
theorem opd_ok {rs : List (Nat × AVal U)} {x : Operand} {v : AVal U} (h : opd rs x = some v) : Opd U rs x v := by
  unfold opd at h
  split at h
  · exact .tmp (lookA_mem h)
  · cases h; exact .int _ _ _
  · cases h; exact .bool _ _
  · cases h; exact .str _ _
  · rename_i w _ _ _
    cases hw : w.oneCell' with
    | true => rw [hw] at h; cases h; exact .lit _ _ hw
    | false => rw [hw] at h; cases h
  · cases h; exact .glob _ _
  · cases h; exact .func _ _

def opdP (rs : List (Nat × AVal U)) (t : Ty) : Operand → Option (t.den U.T)
  | .const (.slice none 0 0) => match t with
    | .list _ => some []
    | _ => none
  | .const .nilIface => match t with
    | .err => some (0 : Nat)
    | _ => none
  | x => (opd rs x).bind (AVal.asP t)
theorem opdP_ok {rs : List (Nat × AVal U)} {t : Ty} {x : Operand} {v : t.den U.T} (h : opdP rs t x = some v) : Opd U rs x (.p t v) := by
  unfold opdP at h
  split at h
  · split at h
    · cases h; exact .lnil _ _
    · cases h
  · split at h
    · cases h; exact .err0 _
    · cases h
  · obtain ⟨w, h1, h2⟩ := bind_some h
    rw [← AVal.asP_eq h2]; exact opd_ok h1

def tmpsOf : List Operand → List Nat
  | [] => []
  | .tmp t :: l => t :: tmpsOf l
  | _ :: l => tmpsOf l
def rsOf (sl : List (Nat × AVal U)) (xs : List Operand) : List (Nat × AVal U) := takeA sl (tmpsOf xs)

structure VR (U : Univ) where
  v : AVal U
  L : List (Ob U) := []
  R : List (Ob U) := []
variable {O : Out} {P : Program} {ops : Array Oper}

def binI (op : BinOp) (k : IntKind) (m n : Int) (it : Option (IT U O P ops)) : Option (VR U) :=
  match arith op k m n with
  | some r => some { v := .p (.int k) r }
  | none => match cmpI op m n with
    | some r => some { v := .p .bool r }
    | none => match it with
      | some (@IT.g _ _ _ _ p _) => match op with
        | .quo => some { v := .p (.int k) (k.wrap (Int.tdiv m n)), L := [.p p], R := [.p (n ≠ 0)] }
        | .rem => some { v := .p (.int k) (Int.tmod m n), L := [.p p], R := [.p (n ≠ 0)] }
        | _ => none
      | _ => none
def isShift : BinOp → Bool | .shl => true | .shr => true | _ => false
def binK (op : BinOp) (k : IntKind) (m n : Int) (it : Option (IT U O P ops)) : Option (VR U) :=
  match it with
  | some (@IT.g _ _ _ _ p _) => match op with
    | .shl => some { v := .p (.int k) (k.wrap (m * 2 ^ (min n.toNat k.bits))), L := [.p p], R := [.p ((0 : Int) ≤ n)] }
    | .shr => some { v := .p (.int k) (m.fdiv (2 ^ (min n.toNat k.bits))), L := [.p p], R := [.p ((0 : Int) ≤ n)] }
    | _ => none
  | _ => match op with
    | .shl => bif (decide (0 ≤ n)) then some { v := .p (.int k) (k.wrap (m * 2 ^ (min n.toNat k.bits))) } else none
    | .shr => bif (decide (0 ≤ n)) then some { v := .p (.int k) (m.fdiv (2 ^ (min n.toNat k.bits))) } else none
    | _ => none
def binS (op : BinOp) (m n : List UInt8) (it : Option (IT U O P ops)) : Option (VR U) :=
  match cmpS op m n with
  | some r => some { v := .p .bool r }
  | none => match op, it with
    | .add, some (@IT.g _ _ _ _ p _) => some { v := .p .str (m ++ n), L := [.p p], R := [.p (m.length + n.length ≤ 9223372036854775807)] }
    | _, _ => none
def isIfc : Option TypeDesc → Bool | some (.interface _) => true | _ => false
def isPtr : Option TypeDesc → Bool | some (.pointer _) => true | _ => false
def isBoolD : Option TypeDesc → Bool | some .bool => true | _ => false
def isStrD : Option TypeDesc → Bool | some .string => true | _ => false
def isNilI : Operand → Bool | .const .nilIface => true | _ => false
def isNilP : Operand → Bool | .const (.pointer none) => true | _ => false
def ptrNil : AVal U → Option Bool
  | .loc _ _ => some false
  | .lit (.pointer none) => some true
  | .opt q _ => some (!q)
  | .p (.ptr _) q => some (Option.isNone q)
  | _ => none
def stBin (tb : Tab U) (rs : List (Nat × AVal U)) (op : BinOp) (t : TypeId) (x y : Operand) (it : Option (IT U O P ops)) : Option (VR U) :=
  (opd rs x).bind fun vx =>
  bif isNilP y then
    bif isPtr (tb.un t) then (ptrNil vx).bind fun q => match op with
      | .eql => some { v := .p .bool q }
      | .neq => some { v := .p .bool (!q) }
      | _ => none
    else none
  else bif isNilI y then
    bif isIfc (tb.un t) then (vx.asP .err).bind fun k => (errIs op k).bind fun r => some { v := .p .bool r } else none
  else (opd rs y).bind fun vy => match vx with
    | .p (.int k) m => bif isShift op then vy.int?.bind fun n => binK op k m n.2 it else (vy.asP (.int k)).bind fun n => binI op k m n it
    | .p .str m => (vy.asP .str).bind fun n => binS op m n it
    | .p .bool m => (vy.asP .bool).bind fun (n : Bool) => bif isBoolD (tb.un t) then (match op with
      | .eql => some { v := .p .bool (BEq.beq (α := Bool) m n) }
      | .neq => some { v := .p .bool (!(BEq.beq (α := Bool) m n)) }
      | _ => none) else none
    | _ => none
def stUn (rs : List (Nat × AVal U)) (op : UnOp) (x : Operand) : Option (VR U) :=
  (opd rs x).bind fun vx => match vx, op with
    | .p .bool b, .not => some { v := .p .bool (!b) }
    | .p (.int k) n, .neg => some { v := .p (.int k) (k.wrap (Int.sub 0 n)) }
    | .p (.int k) n, .xor => some { v := .p (.int k) (bits .xor k (if k.signed then -1 else k.max) n) }
    | _, _ => none
end

section
variable {U : Univ} {O : Out} {P : Program} {S : Nat → Prop} {ι : Lay} {w : World} {rs : List (Nat × AVal U)} {a : Act} {ops : Array Oper} {o : Oper} {tb : Tab U}

theorem bif_some {α : Type} {b : Bool} {x : Option α} {y : α} (h : (bif b then x else none) = some y) : b = true ∧ x = some y := by
  cases b with
  | true => exact ⟨rfl, h⟩
  | false => cases h

theorem binI_ok {op : BinOp} {t t' : TypeId} {x y : Operand} {k : IntKind} {m n : Int} {it : Option (IT U O P ops)} {r : VR U} (hg : o.guard = none) (ho : o.op = .binOp op t x y t')
    (hx : Opd U rs x (.p (.int k) m)) (hy : Opd U rs y (.p (.int k) n)) (h : binI op k m n it = some r) (e : r.L = r.R) : SOk U O P ops o { rs := rs, ws := r.v } := by
  unfold binI at h
  split at h
  · rename_i r' hr; cases h; exact sok_arith hg ho hx hy hr
  split at h
  · rename_i r' hr; cases h; exact sok_cmp hg ho hx hy hr
  split at h
  · rename_i p hp
    split at h
    · cases h; simp only [List.cons.injEq, Ob.p.injEq, and_true] at e
      exact sok_quo hg ho hx hy (e ▸ hp)
    · cases h; simp only [List.cons.injEq, Ob.p.injEq, and_true] at e
      exact sok_rem hg ho hx hy (e ▸ hp)
    · cases h
  · cases h
theorem binK_ok {op : BinOp} {t t' : TypeId} {x y : Operand} {k k' : IntKind} {m n : Int} {it : Option (IT U O P ops)} {r : VR U} (hg : o.guard = none) (ho : o.op = .binOp op t x y t')
    (hx : Opd U rs x (.p (.int k) m)) (hy : Opd U rs y (.p (.int k') n)) (h : binK op k m n it = some r) (e : r.L = r.R) : SOk U O P ops o { rs := rs, ws := r.v } := by
  unfold binK at h
  split at h
  · rename_i p hp
    split at h
    · cases h; simp only [List.cons.injEq, Ob.p.injEq, and_true] at e
      exact sok_shl hg ho hx hy (e ▸ hp)
    · cases h; simp only [List.cons.injEq, Ob.p.injEq, and_true] at e
      exact sok_shr hg ho hx hy (e ▸ hp)
    · cases h
  · split at h
    · obtain ⟨h1, h2⟩ := bif_some h; cases h2; exact sok_shl hg ho hx hy (of_decide_eq_true h1)
    · obtain ⟨h1, h2⟩ := bif_some h; cases h2; exact sok_shr hg ho hx hy (of_decide_eq_true h1)
    · cases h
theorem binS_ok {op : BinOp} {t t' : TypeId} {x y : Operand} {m n : List UInt8} {it : Option (IT U O P ops)} {r : VR U} (hg : o.guard = none) (ho : o.op = .binOp op t x y t')
    (hx : Opd U rs x (.p .str m)) (hy : Opd U rs y (.p .str n)) (h : binS op m n it = some r) (e : r.L = r.R) : SOk U O P ops o { rs := rs, ws := r.v } := by
  unfold binS at h
  split at h
  · rename_i r' hr; cases h; exact sok_cmpS hg ho hx hy hr
  split at h
  · rename_i p hp _
    cases h; simp only [List.cons.injEq, Ob.p.injEq, and_true] at e
    exact sok_cat hg ho hx hy (e ▸ hp)
  · cases h
theorem TbOk.un' (ht : TbOk P U tb) {T : TypeId} {d : TypeDesc} (h : tb.un T = some d) : P.underlying T = some d := ht.un _ _ h
theorem ptrNil_ok {v : AVal U} {q : Bool} (h : ptrNil v = some q) : PtrV U v q := by
  unfold ptrNil at h
  split at h
  · cases h; exact ptrV_loc
  · cases h; exact ptrV_nil
  · cases h; exact ptrV_opt
  · cases h; exact ptrV_p
  · cases h
theorem stBin_ok (htb : TbOk P U tb) {op : BinOp} {t t' : TypeId} {x y : Operand} {it : Option (IT U O P ops)} {r : VR U} (hg : o.guard = none) (ho : o.op = .binOp op t x y t')
    (h : stBin tb rs op t x y it = some r) (e : r.L = r.R) : SOk U O P ops o { rs := rs, ws := r.v } := by
  unfold stBin at h
  obtain ⟨vx, hx, h'⟩ := bind_some h; replace h := h'; clear h'
  have hx := opd_ok hx
  cases hn : isNilP y with
  | true =>
    rw [hn, cond_true] at h
    obtain ⟨hp, h'⟩ := bif_some h; replace h := h'; clear h'
    obtain ⟨q, hq, h'⟩ := bind_some h; replace h := h'; clear h'
    have hy : y = .const (.pointer none) := by
      unfold isNilP at hn; split at hn
      · rfl
      · cases hn
    subst hy
    obtain ⟨E, hE⟩ : ∃ E, tb.un t = some (.pointer E) := by
      unfold isPtr at hp; split at hp
      · exact ⟨_, by assumption⟩
      · cases hp
    split at h
    · cases h; exact sok_eqPN hg ho (htb.un' hE) hx (ptrNil_ok hq)
    · cases h; exact sok_nePN hg ho (htb.un' hE) hx (ptrNil_ok hq)
    · cases h
  | false =>
  rw [hn, cond_false] at h
  cases hi : isNilI y with
  | true =>
    rw [hi, cond_true] at h
    obtain ⟨hp, h'⟩ := bif_some h; replace h := h'; clear h'
    obtain ⟨k, hk, h'⟩ := bind_some h; replace h := h'; clear h'
    obtain ⟨r', hr, h'⟩ := bind_some h; replace h := h'; clear h'
    have hy : y = .const .nilIface := by
      unfold isNilI at hi; split at hi
      · rfl
      · cases hi
    subst hy
    obtain ⟨ms, hE⟩ : ∃ E, tb.un t = some (.interface E) := by
      unfold isIfc at hp; split at hp
      · exact ⟨_, by assumption⟩
      · cases hp
    rw [AVal.asP_eq hk] at hx
    cases h; exact sok_errNil hg ho (htb.un' hE) hx hr
  | false =>
  rw [hi, cond_false] at h
  obtain ⟨vy, hy, h'⟩ := bind_some h; replace h := h'; clear h'
  have hy := opd_ok hy
  split at h
  · cases hs : isShift op with
    | true =>
      rw [hs, cond_true] at h
      obtain ⟨⟨k', n⟩, hv, h1⟩ := bind_some h
      rw [AVal.int?_eq hv] at hy
      exact binK_ok hg ho hx hy h1 e
    | false =>
      rw [hs, cond_false] at h
      obtain ⟨n, hv, h1⟩ := bind_some h
      rw [AVal.asP_eq hv] at hy
      exact binI_ok hg ho hx hy h1 e
  · obtain ⟨n, hv, h'⟩ := bind_some h; replace h := h'; clear h'
    rw [AVal.asP_eq hv] at hy
    exact binS_ok hg ho hx hy h e
  · obtain ⟨n, hv, h'⟩ := bind_some h; replace h := h'; clear h'
    rw [AVal.asP_eq hv] at hy
    obtain ⟨hb, h'⟩ := bif_some h; replace h := h'; clear h'
    have hE : tb.un t = some .bool := by
      unfold isBoolD at hb; split at hb
      · assumption
      · cases hb
    split at h
    · cases h; exact sok_eqB hg ho (htb.un' hE) hx hy
    · cases h; exact sok_neB hg ho (htb.un' hE) hx hy
    · cases h
  · cases h
theorem stUn_ok {op : UnOp} {t : TypeId} {x : Operand} {r : VR U} (hg : o.guard = none) (ho : o.op = .unOp op t x) (h : stUn rs op x = some r) : SOk U O P ops o { rs := rs, ws := r.v } := by
  unfold stUn at h
  obtain ⟨vx, hx, h'⟩ := bind_some h; replace h := h'; clear h'
  have hx := opd_ok hx
  split at h
  · cases h; exact sok_not hg ho hx
  · cases h; exact sok_neg hg ho hx
  · cases h; exact sok_compl hg ho hx
  · cases h
end
end Go.AM
namespace Go.AM

section
variable (U : Univ)
def dfst {a b : Ty} (x : (Ty.pair a b).den U.T) : a.den U.T := Prod.fst x
def dsnd {a b : Ty} (x : (Ty.pair a b).den U.T) : b.den U.T := Prod.snd x
def dpair {a b : Ty} (x : a.den U.T) (y : b.den U.T) : (Ty.pair a b).den U.T := (x, y)
def compD : Nat → (t : Ty) → t.den U.T → Nat → (t' : Ty) → Option (t'.den U.T)
  | 0, _, _, _, _ => none
  | f + 1, t, x, o, t' => if h : t = t' ∧ o = 0 then some (h.1 ▸ x) else
    match t, x with
    | .pair a b, x => bif Nat.blt o (a.width U.wd) then compD f a (dfst U x) o t' else compD f b (dsnd U x) (o - a.width U.wd) t'
    | .named n, x => compD f (U.body n) (U.out n x) o t'
    | _, _ => none
def setD : Nat → (t : Ty) → t.den U.T → Nat → (t' : Ty) → t'.den U.T → Option (t.den U.T)
  | 0, _, _, _, _, _ => none
  | f + 1, t, x, o, t', z => if h : t' = t ∧ o = 0 then some (h.1 ▸ z) else
    match t, x with
    | .pair a b, x => bif Nat.blt o (a.width U.wd) then (setD f a (dfst U x) o t' z).bind fun y => some (dpair U y (dsnd U x)) else (setD f b (dsnd U x) (o - a.width U.wd) t' z).bind fun y => some (dpair U (dfst U x) y)
    | .named n, x => (setD f (U.body n) (U.out n x) o t' z).bind fun y => some (U.inn n y)
    | _, _ => none
def explD : Nat → (t : Ty) → t.den U.T → List (AVal U)
  | 0, t, x => [.p t x]
  | f + 1, .pair a b, x => explD f a (dfst U x) ++ explD f b (dsnd U x)
  | _ + 1, .unit, _ => []
  | f + 1, .named n, x => explD f (U.body n) (U.out n x)
  | _ + 1, t, x => [.p t x]
def implD : Nat → (t : Ty) → List (AVal U) → Option (t.den U.T × List (AVal U))
  | 0, _, _ => none
  | f + 1, .pair a b, us => (implD f a us).bind fun x => (implD f b x.2).bind fun y => some (dpair U x.1 y.1, y.2)
  | _ + 1, .unit, us => some ((), us)
  | f + 1, .named n, us => (implD f (U.body n) us).bind fun x => some (U.inn n x.1, x.2)
  | _ + 1, t, us => match us with
    | v :: r => (v.asP t).bind fun x => some (x, r)
    | [] => none
def cutU : List (AVal U) → Nat → Option (List (AVal U) × List (AVal U))
  | us, 0 => some ([], us)
  | [], _ + 1 => none
  | v :: us, n + 1 => bif Nat.ble v.wid (n + 1) then (cutU us (n + 1 - v.wid)).bind fun x => some (v :: x.1, x.2) else none
def inU : List (AVal U) → Nat → Option (List (AVal U) × AVal U × Nat × List (AVal U))
  | [], _ => none
  | v :: us, n => bif Nat.blt n v.wid then some ([], v, n, us) else (inU us (n - v.wid)).bind fun x => some (v :: x.1, x.2)
end

section
variable {U : Univ}
theorem blt_no {a b : Nat} (h : Nat.blt a b = false) : ¬ a < b := fun h' => by
  rw [show Nat.blt a b = true from Nat.ble_eq_true_of_le h'] at h; cases h
theorem compD_ok : ∀ (f : Nat) {t : Ty} {x : t.den U.T} {o : Nat} {t' : Ty} {z : t'.den U.T}, compD U f t x o t' = some z → Comp U t x o t' z
  | 0, _, _, _, _, _, h => by cases h
  | f + 1, t, x, o, t', z, h => by
    by_cases e : t = t' ∧ o = 0
    · unfold compD at h; rw [dif_pos e] at h
      obtain ⟨rfl, rfl⟩ := e; cases h; exact .here _ _
    · unfold compD at h; rw [dif_neg e] at h
      cases t with
      | pair a b =>
        have h : (bif Nat.blt o (a.width U.wd) then compD U f a (dfst U x) o t' else compD U f b (dsnd U x) (o - a.width U.wd) t') = some z := h
        cases hb : Nat.blt o (a.width U.wd) with
        | true => rw [hb, cond_true] at h; exact .fst (compD_ok f h)
        | false => rw [hb, cond_false] at h; exact .snd (compD_ok f h) (by have := blt_no hb; omega)
      | named n => exact .named (compD_ok f h)
      | _ => cases h
theorem setD_ok : ∀ (f : Nat) {t : Ty} {x : t.den U.T} {o : Nat} {t' : Ty} {z : t'.den U.T} {y : t.den U.T}, setD U f t x o t' z = some y → CompS U t x o t' z y
  | 0, _, _, _, _, _, _, h => by cases h
  | f + 1, t, x, o, t', z, y, h => by
    by_cases e : t' = t ∧ o = 0
    · unfold setD at h; rw [dif_pos e] at h
      obtain ⟨rfl, rfl⟩ := e; cases h; exact .here
    · unfold setD at h; rw [dif_neg e] at h
      cases t with
      | pair a b =>
        have h : (bif Nat.blt o (a.width U.wd) then (setD U f a (dfst U x) o t' z).bind fun y => some (dpair U y (dsnd U x)) else (setD U f b (dsnd U x) (o - a.width U.wd) t' z).bind fun y => some (dpair U (dfst U x) y)) = some y := h
        cases hb : Nat.blt o (a.width U.wd) with
        | true =>
          rw [hb, cond_true] at h
          obtain ⟨y', h1, h2⟩ := bind_some h
          cases h2; exact .fst (setD_ok f h1)
        | false =>
          rw [hb, cond_false] at h
          obtain ⟨y', h1, h2⟩ := bind_some h
          cases h2; exact .snd (setD_ok f h1) (by have := blt_no hb; omega)
      | named n =>
        have h : ((setD U f (U.body n) (U.out n x) o t' z).bind fun y => some (U.inn n y)) = some y := h
        obtain ⟨y', h1, h2⟩ := bind_some h
        cases h2; exact .named (by rw [U.out_inn]; exact setD_ok f h1)
      | _ => cases h
theorem explD_ok : ∀ (f : Nat) (t : Ty) (x : t.den U.T), Expl U t x (explD U f t x)
  | 0, t, x => .one _ _
  | f + 1, t, x => by
    cases t with
    | pair a b => exact .pair (explD_ok f a (dfst U x)) (explD_ok f b (dsnd U x))
    | unit => exact .unit
    | named n => exact .named (explD_ok f _ _)
    | _ => exact .one _ _
theorem implOne {t : Ty} {us r : List (AVal U)} {x : t.den U.T} (h : (match us with | v :: r => (v.asP t).bind fun x => some (x, r) | [] => none) = some (x, r)) : ∃ ms, us = ms ++ r ∧ Expl U t x ms := by
  cases us with
  | nil => cases h
  | cons v us =>
    obtain ⟨y, h1, h2⟩ := bind_some h
    cases h2
    rw [AVal.asP_eq h1]
    exact ⟨[_], rfl, .one _ _⟩
theorem implD_ok : ∀ (f : Nat) {t : Ty} {us r : List (AVal U)} {x : t.den U.T}, implD U f t us = some (x, r) → ∃ ms, us = ms ++ r ∧ Expl U t x ms
  | 0, _, _, _, _, h => by cases h
  | f + 1, t, us, r, x, h => by
    cases t with
    | pair a b =>
      have h : ((implD U f a us).bind fun x => (implD U f b x.2).bind fun y => some (dpair U x.1 y.1, y.2)) = some (x, r) := h
      obtain ⟨y, h1, h2⟩ := bind_some h
      obtain ⟨y', h3, h4⟩ := bind_some h2
      obtain ⟨m1, e1, g1⟩ := implD_ok f h1
      obtain ⟨m2, e2, g2⟩ := implD_ok f h3
      cases h4
      exact ⟨m1 ++ m2, by rw [e1, e2, List.append_assoc], .pair g1 g2⟩
    | unit => cases h; exact ⟨[], rfl, .unit⟩
    | named n =>
      have h : ((implD U f (U.body n) us).bind fun x => some (U.inn n x.1, x.2)) = some (x, r) := h
      obtain ⟨y, h1, h2⟩ := bind_some h
      obtain ⟨m1, e1, g1⟩ := implD_ok f h1
      cases h2
      exact ⟨m1, e1, .named (by rw [U.out_inn]; exact g1)⟩
    | _ => exact implOne h
theorem cutU_ok : ∀ {us : List (AVal U)} {n : Nat} {a b : List (AVal U)}, cutU U us n = some (a, b) → us = a ++ b ∧ unitsW a = n
  | us, 0, _, _, h => by unfold cutU at h; cases h; exact ⟨rfl, rfl⟩
  | [], _ + 1, _, _, h => by cases h
  | v :: us, n + 1, a, b, h => by
    unfold cutU at h
    obtain ⟨h1, h2⟩ := bif_some h
    obtain ⟨y, h3, h4⟩ := bind_some h2
    cases h4
    obtain ⟨e1, e2⟩ := cutU_ok h3
    have := Nat.le_of_ble_eq_true h1
    exact ⟨by rw [List.cons_append, ← e1], by simp only [unitsW, List.map_cons, List.sum_cons] at e2 ⊢; omega⟩
theorem inU_ok : ∀ {us : List (AVal U)} {n : Nat} {a : List (AVal U)} {v : AVal U} {k : Nat} {b : List (AVal U)}, inU U us n = some (a, v, k, b) → us = a ++ [v] ++ b ∧ n = unitsW a + k
  | [], _, _, _, _, _, h => by cases h
  | v :: us, n, a, v', k, b, h => by
    unfold inU at h
    cases hb : Nat.blt n v.wid with
    | true => rw [hb, cond_true] at h; cases h; exact ⟨rfl, by simp [unitsW]⟩
    | false =>
      rw [hb, cond_false] at h
      obtain ⟨⟨y1, y2, y3, y4⟩, h3, h4⟩ := bind_some h
      cases h4
      obtain ⟨e1, e2⟩ := inU_ok h3
      have := blt_no hb
      exact ⟨by rw [e1]; rfl, by simp only [unitsW, List.map_cons, List.sum_cons] at e2 ⊢; omega⟩

def madeD (t : Ty) (us : List (AVal U)) : Option (AVal U) :=
  match t with
  | .named n => match implD U 32 (.named n) us with
    | some (x, []) => some (.p (.named n) x)
    | _ => some (.agg us)
  | t => match us with
    | [v] => match v.asP t with
      | some x => some (.p t x)
      | none => bif t.isAgg then some (.agg us) else bif v.isHand then some v else none
    | us => bif t.isAgg then some (.agg us) else none
theorem madeD_ok {t : Ty} {us : List (AVal U)} {v : AVal U} (h : madeD t us = some v) : Made U t us v := by
  unfold madeD at h
  split at h
  · split at h
    · rename_i he
      obtain ⟨m, e, g⟩ := implD_ok _ he
      rw [List.append_nil] at e
      cases h; rw [e]; exact .data g
    · cases h; exact .agg rfl
  · split at h
    · split at h
      · rename_i he; cases h; rw [AVal.asP_eq he]; exact .data (.one _ _)
      · rename_i _ _ _ v' _
        cases ha : t.isAgg with
        | true => rw [ha] at h; cases h; exact .agg ha
        | false =>
          rw [ha, cond_false] at h
          obtain ⟨h1, h2⟩ := bif_some h
          cases h2; exact .hand h1 ha
    · obtain ⟨h1, h2⟩ := bif_some h
      cases h2; exact .agg h1
def unitsD (v : AVal U) : Option (List (AVal U)) :=
  match v with
  | .p t x => some (explD U 32 t x)
  | .agg us => some us
  | v => bif v.unit then some [v] else none
theorem unitsD_ok {v : AVal U} {us : List (AVal U)} (h : unitsD v = some us) : Units U v us := by
  unfold unitsD at h
  split at h
  · cases h; exact .data (explD_ok _ _ _)
  · cases h; exact .agg
  · obtain ⟨h1, h2⟩ := bif_some h
    cases h2; exact .hand h1

variable {O : Out} {P : Program} {ops : Array Oper} {o : Oper} {rs : List (Nat × AVal U)} {tb : Tab U}
theorem SOk.ws {s : LSpec U} {v : AVal U} (h : SOk U O P ops o s) (hv : ∀ S ι w u, VV U O S ι w s.ws u → VV U O S ι w v u) : SOk U O P ops o { s with ws := v } :=
  fun S ι w a h1 h2 h3 h4 h5 h6 K Q hK => h S ι w a h1 h2 h3 h4 h5 h6 K Q fun u S' ι' w' hN hu => hK u S' ι' w' ⟨hN.os, hN.tape, hN.output, hN.size, hN.sub, hN.new, hN.lt, hN.keep, hN.lay, hN.blk, hN.plc, hN.sep⟩ (hv _ _ _ _ hu)

theorem sok_indexA2 {T E : TypeId} {t : Ty} {n off N : Nat} {x y : Operand} {k : IntKind} {i : Int} (hg : o.guard = none) (ho : o.op = .indexAddr T x y) (hT : P.underlying T = some (.array N E)) (hE : TyOk P U E t)
    (hx : Opd U rs x (.loc n off)) (hq : off % t.width U.wd = 0) (hy : Opd U rs y (.p (.int k) i)) (hi : 0 ≤ i ∧ i < (N : Int)) :
    SOk U O P ops o { rs := rs, ws := .eloc n (t.width U.wd) i.toNat off } := by
  have hq' : off = off / t.width U.wd * t.width U.wd := by have := Nat.div_add_mod off (t.width U.wd); rw [hq, Nat.mul_comm] at this; exact this.symm
  refine SOk.ws (sok_indexA hg ho hT hE hx hq' hy hi) fun S ι w u h => ?_
  obtain ⟨b, c, h1, h2⟩ := h
  refine ⟨b, c, h1, ?_⟩
  rw [h2]
  have : (off / t.width U.wd + i.toNat) * t.width U.wd + 0 = i.toNat * t.width U.wd + off := by rw [Nat.add_mul, ← hq']; omega
  rw [this]
end
end Go.AM
namespace Go.AM

structure MR (U : Univ) where
  v : AVal U := .junk
  ro : List (Nat × Blk U) := []
  cb : List (Nat × Blk U) := []
  pb : List (Nat × Blk U) := []
  nn : List Nat := []
  L : List (Ob U) := []
  R : List (Ob U) := []
def MR.spec {U : Univ} (r : MR U) (rs : List (Nat × AVal U)) : LSpec U := { rs := rs, ro := r.ro, cb := r.cb, ws := r.v, pb := r.pb, nn := r.nn }

section
variable {U : Univ} {O : Out} {P : Program} {ops : Array Oper}
def bdOf (rs : List (Nat × AVal U)) (d : Int) : Option Operand → Option Int
  | none => some d
  | some x => (opd rs x).bind fun v => v.int?.bind fun k => some k.2
def stMove (rs : List (Nat × AVal U)) (x : Operand) : MR U := { v := (opd rs x).getD .junk }
def stPick (rs : List (Nat × AVal U)) (kn : Option (IT U O P ops)) (c x y : Operand) : Option (MR U) :=
  (opd rs c).bind fun vc => vc.bool?.bind fun b => match kn with
    | some (@IT.t _ _ _ _ b' _) => (opd rs x).bind fun v => some { v := v, L := [.b b], R := [.b b'] }
    | some (@IT.f _ _ _ _ b' _) => (opd rs y).bind fun v => some { v := v, L := [.b b], R := [.b b'] }
    | _ => match b with
      | true => (opd rs x).bind fun v => some { v := v }
      | false => (opd rs y).bind fun v => some { v := v }
def stIdxA (tb : Tab U) (rs : List (Nat × AVal U)) (T : TypeId) (x y : Operand) (it : Option (IT U O P ops)) : Option (MR U) :=
  (opd rs x).bind fun vx => (opd rs y).bind fun vy => vy.int?.bind fun i => match vx, it with
    | .p (.list t) xs, some (@IT.v _ _ _ _ t2 q e _) => (lookA tb.sl T).bind fun s => bif decide (s.2 = t) then some { v := .pp t2 e, L := [.o t2 q], R := [.o t (idx xs i.2)] } else none
    | .vec n wd off len, some (@IT.g _ _ _ _ p _) => (lookA tb.sl T).bind fun s => bif wd == s.2.width U.wd then some { v := .eloc n wd (off + i.2.toNat) 0, L := [.p p], R := [.p (0 ≤ i.2 ∧ i.2 < (len : Int))] } else none
    | .loc n off, some (@IT.g _ _ _ _ p _) => (tb.un T).bind fun d => match d with
      | .array N E => (lookA tb.ty E).bind fun t => bif off % t.width U.wd == 0 then some { v := .eloc n (t.width U.wd) i.2.toNat off, L := [.p p], R := [.p (0 ≤ i.2 ∧ i.2 < (N : Int))] } else none
      | _ => none
    | _, _ => none
def stIdx (tb : Tab U) (rs : List (Nat × AVal U)) (T : TypeId) (x y : Operand) (it : Option (IT U O P ops)) : Option (MR U) :=
  (opd rs x).bind fun vx => (opd rs y).bind fun vy => vy.int?.bind fun i => match vx, it with
    | .p .str s, some (@IT.u _ _ _ _ q c _) => bif isStrD (tb.un T) then some { v := .p (.int .u8) (c.toNat : Int), L := [.u q], R := [.u (idx s i.2)] } else none
    | .p (.arr N t) xs, some (@IT.v _ _ _ _ t2 q e _) => (tb.un T).bind fun d => match d with
      | .array N' E => (lookA tb.ty E).bind fun t' => bif N' == N && decide (t' = t) then some { v := .p t2 e, L := [.o t2 q], R := [.o t (idx xs i.2)] } else none
      | _ => none
    | _, _ => none
def stSlice (tb : Tab U) (rs : List (Nat × AVal U)) (hp : List (Nat × Blk U)) (T : TypeId) (x : Operand) (lo hi : Option Operand) (it : Option (IT U O P ops)) : Option (MR U) :=
  (opd rs x).bind fun vx => (bdOf rs 0 lo).bind fun l => match vx with
    | .p .str s => (bdOf rs (s.length : Int) hi).bind fun h => match it with
      | some (@IT.v _ _ _ _ t2 q e _) => bif isStrD (tb.un T) then some { v := .p t2 e, L := [.o t2 q], R := [.o .str (sub s l h)] } else none
      | _ => none
    | .p (.list t) s => (bdOf rs ((s : List (t.den U.T)).length : Int) hi).bind fun h => match it with
      | some (@IT.v _ _ _ _ t2 q e _) => (lookA tb.sl T).bind fun z => bif decide (z.2 = t) then some { v := .p t2 e, L := [.o t2 q], R := [.o (.list t) (sub s l h)] } else none
      | _ => none
    | .vec n wd off len => (bdOf rs (len : Int) hi).bind fun h => match it with
      | some (@IT.g _ _ _ _ p _) => (lookA tb.sl T).bind fun z => match lookA hp n with
        | some (.row E t xs fx) => bif decide (z = (E, t)) && wd == t.width U.wd then some { v := .vec n wd (off + l.toNat) (h.toNat - l.toNat), ro := [(n, .row E t xs fx)], L := [.p p], R := [.p (0 ≤ l ∧ l ≤ h ∧ off + h.toNat ≤ xs.length)] } else none
        | _ => none
      | _ => none
    | .lit (.slice none 0 0) => (bdOf rs 0 hi).bind fun h => (lookA tb.sl T).bind fun _ => some { v := .lit (.slice none 0 0), L := [.n l.natAbs, .n h.natAbs], R := [.n 0, .n 0] }
    | _ => none
def lookF : List (TypeId × Nat × Nat × Ty) → Nat → Nat → Option (Nat × Ty)
  | [], _, _ => none
  | x :: l, T, f => bif x.1 == T && x.2.1 == f then some x.2.2 else lookF l T f
def fdOf (tb : Tab U) (T : TypeId) (f : Nat) : Option (Nat × Ty) := lookF tb.fd T f
def stFdA (tb : Tab U) (rs : List (Nat × AVal U)) (T : TypeId) (x : Operand) (f : Nat) : Option (MR U) :=
  (opd rs x).bind fun vx => (fdOf tb T f).bind fun y => bif y.2.width U.wd == 0 then none else match vx with
    | .pp t X => (compD U 32 t X y.1 y.2).bind fun z => some { v := .pp y.2 z }
    | .loc n b => some { v := .loc n (b + y.1) }
    | .eloc n wd i b => some { v := .eloc n wd i (b + y.1) }
    | _ => none
def stFd (tb : Tab U) (rs : List (Nat × AVal U)) (T : TypeId) (x : Operand) (f : Nat) : Option (MR U) :=
  (opd rs x).bind fun vx => (fdOf tb T f).bind fun y => match vx with
    | .p t X => bif t.isAgg then (compD U 32 t X y.1 y.2).bind fun z => some { v := .p y.2 z } else none
    | _ => none
def allU (us : List (AVal U)) : Bool := us.all AVal.unit
def ldBox (us : List (AVal U)) (n off : Nat) (t : Ty) : Option (MR U) :=
  match (cutU U us off).bind fun x => (cutU U x.2 (t.width U.wd)).bind fun y => some (x.1, y.1, y.2) with
  | some (pre, mid, post) => bif allU pre && allU mid then (madeD t mid).bind fun v => some { v := v, ro := [(n, .box (pre ++ mid ++ post))] } else none
  | none => (inU U us off).bind fun x => match x with
    | (pre, .p t0 X, k, post) => bif allU pre then (compD U 32 t0 X k t).bind fun z => some { v := .p t z, ro := [(n, .box (pre ++ [.p t0 X] ++ post))] } else none
    | _ => none
def stLoad (tb : Tab U) (rs : List (Nat × AVal U)) (hp : List (Nat × Blk U)) (T : TypeId) (x : Operand) (it : Option (IT U O P ops)) : Option (MR U) :=
  (opd rs x).bind fun vx => (lookA tb.ty T).bind fun t => match vx with
    | .pp t' X => (AVal.asP t (.p t' X)).bind fun z => some { v := .p t z }
    | .loc n off => match lookA hp n with
      | some (.box us) => ldBox us n off t
      | _ => none
    | .eloc n wd i off => match lookA hp n, it with
      | some (.row E t0 xs fx), some (@IT.v _ _ _ _ t2 q e _) => bif wd == t0.width U.wd then (compD U 32 t2 e off t).bind fun z => some { v := .p t z, ro := [(n, .row E t0 xs fx)], L := [.o t2 q], R := [.o t0 xs[i]?] } else none
      | some (.box us), some (@IT.v _ _ _ _ t2 q e _) => (inU U us off).bind fun x => match x with
        | (pre, .p (.arr N te) X, k, post) => bif allU pre && wd == te.width U.wd then (compD U 32 t2 e k t).bind fun z => some { v := .p t z, ro := [(n, .box (pre ++ [.p (.arr N te) X] ++ post))], L := [.o t2 q], R := [.o te (getElem? (coll := List (te.den U.T)) X i)] } else none
        | _ => none
      | _, _ => none
    | _ => none
end

section
variable {U : Univ} {O : Out} {P : Program} {ops : Array Oper} {o : Oper} {rs : List (Nat × AVal U)} {tb : Tab U} {hp : List (Nat × Blk U)} {r : MR U}
theorem ob_o {t t' : Ty} {x : Option (t.den U.T)} {y : Option (t'.den U.T)} (h : Ob.o t x = Ob.o t' y) : ∃ e : t = t', e ▸ x = y := by
  cases h; exact ⟨rfl, rfl⟩
theorem beqN {a b : Nat} (h : (a == b) = true) : a = b := by simpa using h
theorem TbOk.ty' (ht : TbOk P U tb) {T : TypeId} {d : Ty} (h : lookA tb.ty T = some d) : TyOk P U T d := ht.ty.mem _ (lookA_mem h)
theorem TbOk.sl' (ht : TbOk P U tb) {T : TypeId} {d : TypeId × Ty} (h : lookA tb.sl T = some d) : SlOk P U T d.1 d.2 := ht.sl.mem _ (lookA_mem h)
theorem TbOk.ro' (ht : TbOk P U tb) {T : TypeId} {d : TypeId × Ty × Nat} (h : lookA tb.ro T = some d) : RowOk P U T d.1 d.2.1 d.2.2 := ht.ro.mem _ (lookA_mem h)
theorem lookF_mem : ∀ {l : List (TypeId × Nat × Nat × Ty)} {T f : Nat} {d : Nat × Ty}, lookF l T f = some d → ∃ x ∈ l, x.1 = T ∧ x.2.1 = f ∧ x.2.2 = d
  | [], _, _, _, h => by cases h
  | x :: l, T, f, d, h => by
    unfold lookF at h
    cases hb : x.1 == T && x.2.1 == f with
    | true =>
      rw [hb, cond_true] at h
      rw [Bool.and_eq_true] at hb
      exact ⟨x, .head _, beqN hb.1, beqN hb.2, Option.some.inj h⟩
    | false =>
      rw [hb, cond_false] at h
      obtain ⟨y, hy, h1⟩ := lookF_mem h
      exact ⟨y, .tail _ hy, h1⟩
theorem TbOk.fd' (ht : TbOk P U tb) {T : TypeId} {f : Nat} {d : Nat × Ty} (h : fdOf tb T f = some d) : ∃ F, FdOk P U T f d.1 F d.2 := by
  obtain ⟨x, hx, rfl, rfl, rfl⟩ := lookF_mem h
  exact ht.fd.mem _ hx
theorem TbOk.str' (ht : TbOk P U tb) {T : TypeId} (h : isStrD (tb.un T) = true) : P.underlying T = some .string := by
  unfold isStrD at h; split at h
  · exact ht.un' (by assumption)
  · cases h
theorem none_in {α : Type} (l : List α) : ∀ x ∈ ([] : List α) ++ [], x ∈ l := fun _ h => by cases h
theorem one_in {α : Type} {y : α} {l : List α} (h : y ∈ l) : ∀ x ∈ [y] ++ ([] : List α), x ∈ l := fun _ hx => by
  rcases List.mem_cons.1 hx with rfl | hx
  · exact h
  · cases hx
theorem one_in' {α : Type} {y : α} {l : List α} (h : y ∈ l) : ∀ x ∈ ([] : List α) ++ [y], x ∈ l := one_in h

abbrev OkM (U : Univ) (O : Out) (P : Program) (ops : Array Oper) (o : Oper) (rs : List (Nat × AVal U)) (hp : List (Nat × Blk U)) (r : MR U) : Prop :=
  SOk U O P ops o (r.spec rs) ∧ ∀ x ∈ r.ro ++ r.cb, x ∈ hp

theorem stMove_ok {x : Operand} (hg : o.guard = none) (ho : o.op = .move x ∨ o.op = .assign x) : OkM U O P ops o rs hp (stMove rs x) := by
  refine ⟨?_, none_in _⟩
  unfold stMove MR.spec
  cases h : opd rs x with
  | none => exact sok_move hg ho (.junk _ _)
  | some v => exact sok_move hg ho (opd_ok h)
theorem stPick_ok {c x y : Operand} {kn : Option (IT U O P ops)} (hg : o.guard = none) (ho : o.op = .pick c x y) (h : stPick rs kn c x y = some r) (e : r.L = r.R) : OkM U O P ops o rs hp r := by
  unfold stPick at h
  obtain ⟨vc, hc, h1⟩ := bind_some h
  obtain ⟨b, hb, h2⟩ := bind_some h1
  replace hc := opd_ok hc
  rw [AVal.bool?_eq hb] at hc
  clear h h1
  split at h2
  · rename_i b' hb'
    obtain ⟨v, hv, h3⟩ := bind_some h2
    cases h3; simp only [List.cons.injEq, Ob.b.injEq, and_true] at e
    exact ⟨sok_pickT hg ho hc (e.trans hb') (opd_ok hv), none_in _⟩
  · rename_i b' hb'
    obtain ⟨v, hv, h3⟩ := bind_some h2
    cases h3; simp only [List.cons.injEq, Ob.b.injEq, and_true] at e
    exact ⟨sok_pickF hg ho hc (e.trans hb') (opd_ok hv), none_in _⟩
  · split at h2
    · obtain ⟨v, hv, h3⟩ := bind_some h2
      cases h3; exact ⟨sok_pickT hg ho hc rfl (opd_ok hv), none_in _⟩
    · obtain ⟨v, hv, h3⟩ := bind_some h2
      cases h3; exact ⟨sok_pickF hg ho hc rfl (opd_ok hv), none_in _⟩
theorem stIdxA_ok (htb : TbOk P U tb) {T : TypeId} {x y : Operand} {it : Option (IT U O P ops)} (hg : o.guard = none) (ho : o.op = .indexAddr T x y) (h : stIdxA tb rs T x y it = some r) (e : r.L = r.R) : OkM U O P ops o rs hp r := by
  unfold stIdxA at h
  obtain ⟨vx, hx, h1⟩ := bind_some h
  obtain ⟨vy, hy, h2⟩ := bind_some h1
  obtain ⟨⟨k, i⟩, hi, h3⟩ := bind_some h2
  replace hx := opd_ok hx
  replace hy := opd_ok hy
  rw [AVal.int?_eq hi] at hy
  clear h h1 h2
  split at h3
  · rename_i hq
    obtain ⟨s, hs, h4⟩ := bind_some h3
    obtain ⟨hd, h5⟩ := bif_some h4
    have hd := of_decide_eq_true hd
    subst hd; cases h5
    simp only [List.cons.injEq, and_true] at e
    obtain ⟨rfl, e⟩ := ob_o e
    exact ⟨sok_indexL hg ho (htb.sl' hs) hx hy (e.symm.trans hq), none_in _⟩
  · rename_i hp
    obtain ⟨s, hs, h4⟩ := bind_some h3
    obtain ⟨hd, h5⟩ := bif_some h4
    have hd := beqN hd
    subst hd; cases h5
    simp only [List.cons.injEq, Ob.p.injEq, and_true] at e
    exact ⟨sok_indexV hg ho (htb.sl' hs) hx hy (e ▸ hp), none_in _⟩
  · rename_i hp
    obtain ⟨d, hd, h4⟩ := bind_some h3
    clear h3
    split at h4
    · obtain ⟨t, ht, h5⟩ := bind_some h4
      obtain ⟨hm, h6⟩ := bif_some h5
      cases h6
      simp only [List.cons.injEq, Ob.p.injEq, and_true] at e
      exact ⟨sok_indexA2 hg ho (htb.un' hd) (htb.ty' ht) hx (beqN hm) hy (e ▸ hp), none_in _⟩
    · cases h4
  · cases h3
theorem stIdx_ok (htb : TbOk P U tb) {T : TypeId} {x y : Operand} {it : Option (IT U O P ops)} (hg : o.guard = none) (ho : o.op = .index T x y) (h : stIdx tb rs T x y it = some r) (e : r.L = r.R) : OkM U O P ops o rs hp r := by
  unfold stIdx at h
  obtain ⟨vx, hx, h1⟩ := bind_some h
  obtain ⟨vy, hy, h2⟩ := bind_some h1
  obtain ⟨⟨k, i⟩, hi, h3⟩ := bind_some h2
  replace hx := opd_ok hx
  replace hy := opd_ok hy
  rw [AVal.int?_eq hi] at hy
  clear h h1 h2
  split at h3
  · rename_i hq
    obtain ⟨hs, h4⟩ := bif_some h3
    cases h4
    simp only [List.cons.injEq, Ob.u.injEq, and_true] at e
    exact ⟨sok_indexS hg ho (htb.str' hs) hx hy (e.symm.trans hq), none_in _⟩
  · rename_i hq
    obtain ⟨d, hd, h4⟩ := bind_some h3
    clear h3
    split at h4
    · obtain ⟨t', ht, h5⟩ := bind_some h4
      obtain ⟨hm, h6⟩ := bif_some h5
      rw [Bool.and_eq_true] at hm
      have h7 := beqN hm.1
      have h8 := of_decide_eq_true hm.2
      subst h7 h8
      cases h6
      simp only [List.cons.injEq, and_true] at e
      obtain ⟨rfl, e⟩ := ob_o e
      exact ⟨sok_indexR hg ho (htb.un' hd) (htb.ty' ht) hx hy (e.symm.trans hq), none_in _⟩
    · cases h4
  · cases h3
theorem bdOf_ok {d n : Int} {x : Option Operand} (h : bdOf rs d x = some n) : Bd U rs d x n := by
  cases x with
  | none => cases h; exact .no
  | some x =>
    obtain ⟨v, hv, h1⟩ := bind_some h
    obtain ⟨⟨k, i⟩, hi, h3⟩ := bind_some h1
    cases h3
    have hv := opd_ok hv
    rw [AVal.int?_eq hi] at hv
    exact .at hv
theorem stSlice_ok (htb : TbOk P U tb) {T : TypeId} {x : Operand} {lo hi : Option Operand} {it : Option (IT U O P ops)} (hg : o.guard = none) (ho : o.op = .slice T x lo hi none) (h : stSlice tb rs hp T x lo hi it = some r) (e : r.L = r.R) : OkM U O P ops o rs hp r := by
  unfold stSlice at h
  obtain ⟨vx, hx, h1⟩ := bind_some h
  obtain ⟨l, hl, h2⟩ := bind_some h1
  replace hx := opd_ok hx
  replace hl := bdOf_ok hl
  clear h h1
  split at h2
  · obtain ⟨n, hh, h3⟩ := bind_some h2
    replace hh := bdOf_ok hh
    clear h2
    split at h3
    · rename_i hq
      obtain ⟨hs, h4⟩ := bif_some h3
      cases h4
      simp only [List.cons.injEq, and_true] at e
      obtain ⟨rfl, e⟩ := ob_o e
      exact ⟨sok_sliceS hg ho (htb.str' hs) hx hl hh (e.symm.trans hq), none_in _⟩
    · cases h3
  · obtain ⟨n, hh, h3⟩ := bind_some h2
    replace hh := bdOf_ok hh
    clear h2
    split at h3
    · rename_i hq
      obtain ⟨z, hs, h4⟩ := bind_some h3
      obtain ⟨hd, h5⟩ := bif_some h4
      have hd := of_decide_eq_true hd
      subst hd; cases h5
      simp only [List.cons.injEq, and_true] at e
      obtain ⟨rfl, e⟩ := ob_o e
      exact ⟨sok_sliceL hg ho (htb.sl' hs) hx hl hh (e.symm.trans hq), none_in _⟩
    · cases h3
  · obtain ⟨n', hh, h3⟩ := bind_some h2
    replace hh := bdOf_ok hh
    clear h2
    split at h3
    · rename_i hp'
      obtain ⟨z, hs, h4⟩ := bind_some h3
      clear h3
      split at h4
      · rename_i hb
        obtain ⟨hm, h5⟩ := bif_some h4
        rw [Bool.and_eq_true] at hm
        have h7 := of_decide_eq_true hm.1
        have h8 := beqN hm.2
        subst h7 h8
        cases h5
        simp only [List.cons.injEq, Ob.p.injEq, and_true] at e
        have hp' := e ▸ hp'
        exact ⟨sok_sliceV hg ho (htb.sl' hs) hx hl hh hp'.1 hp'.2.1 hp'.2.2, one_in (lookA_mem hb)⟩
      · cases h4
    · cases h3
  · obtain ⟨n', hh, h3⟩ := bind_some h2
    replace hh := bdOf_ok hh
    obtain ⟨z, hs, h4⟩ := bind_some h3
    cases h4
    simp only [List.cons.injEq, Ob.n.injEq, and_true] at e
    obtain rfl : l = 0 := by omega
    obtain rfl : n' = 0 := by omega
    exact ⟨sok_sliceNil hg ho (htb.sl' hs) hx hl hh, none_in _⟩
  · cases h2
theorem stFdA_ok (htb : TbOk P U tb) {T : TypeId} {x : Operand} {f : Nat} (hg : o.guard = none) (ho : o.op = .fieldAddr T x f) (h : stFdA tb rs T x f = some r) : OkM U O P ops o rs hp r := by
  unfold stFdA at h
  obtain ⟨vx, hx, h1⟩ := bind_some h
  obtain ⟨y, hf, h2⟩ := bind_some h1
  replace hx := opd_ok hx
  obtain ⟨F, hF⟩ := htb.fd' hf
  cases hw : y.2.width U.wd == 0 with
  | true => rw [hw] at h2; cases h2
  | false =>
    have hw' : y.2.width U.wd ≠ 0 := by simpa using hw
    rw [hw, cond_false] at h2
    clear h h1
    split at h2
    · obtain ⟨z, hz, h3⟩ := bind_some h2
      cases h3; exact ⟨sok_fieldP hg ho hF hw' hx (compD_ok _ hz), none_in _⟩
    · cases h2; exact ⟨sok_fieldB hg ho hF hw' hx, none_in _⟩
    · cases h2; exact ⟨sok_fieldE hg ho hF hw' hx, none_in _⟩
    · cases h2
theorem stFd_ok (htb : TbOk P U tb) {T : TypeId} {x : Operand} {f : Nat} (hg : o.guard = none) (ho : o.op = .field T x f) (h : stFd tb rs T x f = some r) : OkM U O P ops o rs hp r := by
  unfold stFd at h
  obtain ⟨vx, hx, h1⟩ := bind_some h
  obtain ⟨y, hf, h2⟩ := bind_some h1
  replace hx := opd_ok hx
  obtain ⟨F, hF⟩ := htb.fd' hf
  clear h h1
  split at h2
  · obtain ⟨ha, h3⟩ := bif_some h2
    obtain ⟨z, hz, h4⟩ := bind_some h3
    cases h4; exact ⟨sok_field hg ho hF ha hx (compD_ok _ hz), none_in _⟩
  · cases h2
theorem cut2_ok {us pre mid post : List (AVal U)} {off w : Nat} (h : ((cutU U us off).bind fun x => (cutU U x.2 w).bind fun y => some (x.1, y.1, y.2)) = some (pre, mid, post)) : us = pre ++ mid ++ post ∧ unitsW pre = off ∧ unitsW mid = w := by
  obtain ⟨⟨a, b⟩, h1, h2⟩ := bind_some h
  obtain ⟨⟨c, d⟩, h3, h4⟩ := bind_some h2
  cases h4
  obtain ⟨e1, e2⟩ := cutU_ok h1
  obtain ⟨e3, e4⟩ := cutU_ok h3
  exact ⟨by rw [e1, show b = c ++ d from e3, List.append_assoc], e2, e4⟩
theorem ldBox_ok {T : TypeId} {t : Ty} {x : Operand} {us : List (AVal U)} {n off : Nat} (hg : o.guard = none) (ho : o.op = .load T x) (ht : TyOk P U T t) (hx : Opd U rs x (.loc n off)) (hb : (n, Blk.box us) ∈ hp) (h : ldBox us n off t = some r) : OkM U O P ops o rs hp r := by
  unfold ldBox at h
  split at h
  · rename_i hc
    obtain ⟨e1, e2, e3⟩ := cut2_ok hc
    obtain ⟨ha, h1⟩ := bif_some h
    rw [Bool.and_eq_true] at ha
    obtain ⟨v, hv, h2⟩ := bind_some h1
    cases h2
    exact ⟨sok_loadB _ _ _ hg ho ht hx ha.1 e2 ha.2 e3 (madeD_ok hv), one_in (e1 ▸ hb)⟩
  · obtain ⟨y, hy, h1⟩ := bind_some h
    clear h
    split at h1
    · obtain ⟨ha, h2⟩ := bif_some h1
      obtain ⟨z, hz, h3⟩ := bind_some h2
      obtain ⟨e1, e2⟩ := inU_ok hy
      cases h3
      exact ⟨sok_loadU _ _ hg ho ht hx (.loc _ _) ha rfl e2 (compD_ok _ hz), one_in (e1 ▸ hb)⟩
    · cases h1
theorem stLoad_ok (htb : TbOk P U tb) {T : TypeId} {x : Operand} {it : Option (IT U O P ops)} (hg : o.guard = none) (ho : o.op = .load T x) (h : stLoad tb rs hp T x it = some r) (e : r.L = r.R) : OkM U O P ops o rs hp r := by
  unfold stLoad at h
  obtain ⟨vx, hx, h1⟩ := bind_some h
  obtain ⟨t, ht, h2⟩ := bind_some h1
  replace hx := opd_ok hx
  replace ht := htb.ty' ht
  clear h h1
  split at h2
  · obtain ⟨z, hz, h3⟩ := bind_some h2
    cases h3
    have := AVal.asP_eq hz
    cases this
    exact ⟨sok_loadP hg ho ht hx, none_in _⟩
  · split at h2
    · exact ldBox_ok hg ho ht hx (lookA_mem (by assumption)) h2
    · cases h2
  · split at h2
    · rename_i hq hb
      obtain ⟨hw, h3⟩ := bif_some h2
      have hw := beqN hw
      obtain ⟨z, hz, h4⟩ := bind_some h3
      cases h4
      simp only [List.cons.injEq, and_true] at e
      obtain ⟨rfl, e⟩ := ob_o e
      subst hw
      exact ⟨sok_loadE hg ho ht hx (e.symm.trans hq) (compD_ok _ hz), one_in (lookA_mem hb)⟩
    · rename_i hq hb
      obtain ⟨y, hy, h3⟩ := bind_some h2
      clear h2
      split at h3
      · obtain ⟨ha, h4⟩ := bif_some h3
        rw [Bool.and_eq_true] at ha
        have hw := beqN ha.2
        obtain ⟨z, hz, h5⟩ := bind_some h4
        cases h5
        simp only [List.cons.injEq, and_true] at e
        obtain ⟨rfl, e⟩ := ob_o e
        obtain ⟨e1, e2⟩ := inU_ok hy
        subst hw
        exact ⟨sok_loadU _ _ hg ho ht hx (.eloc _ _ _ _ rfl) ha.1 rfl (by rw [e2, Nat.add_left_comm]) (.arr (e.symm.trans hq) (compD_ok _ hz) rfl), one_in (e1 ▸ lookA_mem hb)⟩
      · cases h3
    · cases h2
  · cases h2
end
end Go.AM
