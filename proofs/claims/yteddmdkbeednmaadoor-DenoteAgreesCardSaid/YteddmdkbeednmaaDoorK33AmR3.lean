/- A part of my own abstract layer. -/
import Derived.Test.YteddmdkbeednmaaDoorK33AmM3
namespace Go.AM

structure MR (U : Univ) where
  v : AVal U := .junk
  ro : List (Nat × Blk U) := []
  cb : List (Nat × Blk U) := []
  pb : List (Nat × Blk U) := []
  nn : List Nat := []
  L : List (Ob U) := []
  R : List (Ob U) := []
def MR.spec {U : Univ} (r : MR U) (rs : List (Nat × AVal U)) : LSpec U := { rs := rs, ro := r.ro, cb := r.cb, ws := r.v, pb := r.pb, nn := r.nn }

section
variable {U : Univ} {O : Out} {P : Program} {ops : Array Oper}
def bdOf (rs : List (Nat × AVal U)) (d : Int) : Option Operand → Option Int
  | none => some d
  | some x => (opd rs x).bind fun v => v.int?.bind fun k => some k.2
def stMove (rs : List (Nat × AVal U)) (x : Operand) : MR U := { v := (opd rs x).getD .junk }
def stPick (rs : List (Nat × AVal U)) (kn : Option (IT U O P ops)) (c x y : Operand) : Option (MR U) :=
  (opd rs c).bind fun vc => vc.bool?.bind fun b => match kn with
    | some (@IT.t _ _ _ _ b' _) => (opd rs x).bind fun v => some { v := v, L := [.b b], R := [.b b'] }
    | some (@IT.f _ _ _ _ b' _) => (opd rs y).bind fun v => some { v := v, L := [.b b], R := [.b b'] }
    | _ => match b with
      | true => (opd rs x).bind fun v => some { v := v }
      | false => (opd rs y).bind fun v => some { v := v }
def stIdxA (tb : Tab U) (rs : List (Nat × AVal U)) (T : TypeId) (x y : Operand) (it : Option (IT U O P ops)) : Option (MR U) :=
  (opd rs x).bind fun vx => (opd rs y).bind fun vy => vy.int?.bind fun i => match vx, it with
    | .p (.list t) xs, some (@IT.v _ _ _ _ t2 q e _) => (lookA tb.sl T).bind fun s => bif decide (s.2 = t) then some { v := .pp t2 e, L := [.o t2 q], R := [.o t (idx xs i.2)] } else none
    | .vec n wd off len, some (@IT.g _ _ _ _ p _) => (lookA tb.sl T).bind fun s => bif wd == s.2.width U.wd then some { v := .eloc n wd (off + i.2.toNat) 0, L := [.p p], R := [.p (0 ≤ i.2 ∧ i.2 < (len : Int))] } else none
    | .loc n off, some (@IT.g _ _ _ _ p _) => (tb.un T).bind fun d => match d with
      | .array N E => (lookA tb.ty E).bind fun t => bif off % t.width U.wd == 0 then some { v := .eloc n (t.width U.wd) i.2.toNat off, L := [.p p], R := [.p (0 ≤ i.2 ∧ i.2 < (N : Int))] } else none
      | _ => none
    | _, _ => none
def stIdx (tb : Tab U) (rs : List (Nat × AVal U)) (T : TypeId) (x y : Operand) (it : Option (IT U O P ops)) : Option (MR U) :=
  (opd rs x).bind fun vx => (opd rs y).bind fun vy => vy.int?.bind fun i => match vx, it with
    | .p .str s, some (@IT.u _ _ _ _ q c _) => bif isStrD (tb.un T) then some { v := .p (.int .u8) (c.toNat : Int), L := [.u q], R := [.u (idx s i.2)] } else none
    | .p (.arr N t) xs, some (@IT.v _ _ _ _ t2 q e _) => (tb.un T).bind fun d => match d with
      | .array N' E => (lookA tb.ty E).bind fun t' => bif N' == N && decide (t' = t) then some { v := .p t2 e, L := [.o t2 q], R := [.o t (idx xs i.2)] } else none
      | _ => none
    | _, _ => none
def stSlice (tb : Tab U) (rs : List (Nat × AVal U)) (hp : List (Nat × Blk U)) (T : TypeId) (x : Operand) (lo hi : Option Operand) (it : Option (IT U O P ops)) : Option (MR U) :=
  (opd rs x).bind fun vx => (bdOf rs 0 lo).bind fun l => match vx with
    | .p .str s => (bdOf rs (s.length : Int) hi).bind fun h => match it with
      | some (@IT.v _ _ _ _ t2 q e _) => bif isStrD (tb.un T) then some { v := .p t2 e, L := [.o t2 q], R := [.o .str (sub s l h)] } else none
      | _ => none
    | .p (.list t) s => (bdOf rs ((s : List (t.den U.T)).length : Int) hi).bind fun h => match it with
      | some (@IT.v _ _ _ _ t2 q e _) => (lookA tb.sl T).bind fun z => bif decide (z.2 = t) then some { v := .p t2 e, L := [.o t2 q], R := [.o (.list t) (sub s l h)] } else none
      | _ => none
    | .vec n wd off len => (bdOf rs (len : Int) hi).bind fun h => match it with
      | some (@IT.g _ _ _ _ p _) => (lookA tb.sl T).bind fun z => match lookA hp n with
        | some (.row E t xs fx) => bif decide (z = (E, t)) && wd == t.width U.wd then some { v := .vec n wd (off + l.toNat) (h.toNat - l.toNat), ro := [(n, .row E t xs fx)], L := [.p p], R := [.p (0 ≤ l ∧ l ≤ h ∧ off + h.toNat ≤ xs.length)] } else none
        | _ => none
      | _ => none
    | .lit (.slice none 0 0) => (bdOf rs 0 hi).bind fun h => (lookA tb.sl T).bind fun _ => some { v := .lit (.slice none 0 0), L := [.n l.natAbs, .n h.natAbs], R := [.n 0, .n 0] }
    | _ => none
def lookF : List (TypeId × Nat × Nat × Ty) → Nat → Nat → Option (Nat × Ty)
  | [], _, _ => none
  | x :: l, T, f => bif x.1 == T && x.2.1 == f then some x.2.2 else lookF l T f
def fdOf (tb : Tab U) (T : TypeId) (f : Nat) : Option (Nat × Ty) := lookF tb.fd T f
def stFdA (tb : Tab U) (rs : List (Nat × AVal U)) (T : TypeId) (x : Operand) (f : Nat) : Option (MR U) :=
  (opd rs x).bind fun vx => (fdOf tb T f).bind fun y => bif y.2.width U.wd == 0 then none else match vx with
    | .pp t X => (compD U 32 t X y.1 y.2).bind fun z => some { v := .pp y.2 z }
    | .loc n b => some { v := .loc n (b + y.1) }
    | .eloc n wd i b => some { v := .eloc n wd i (b + y.1) }
    | _ => none
def stFd (tb : Tab U) (rs : List (Nat × AVal U)) (T : TypeId) (x : Operand) (f : Nat) : Option (MR U) :=
  (opd rs x).bind fun vx => (fdOf tb T f).bind fun y => match vx with
    | .p t X => bif t.isAgg then (compD U 32 t X y.1 y.2).bind fun z => some { v := .p y.2 z } else none
    | _ => none
def allU (us : List (AVal U)) : Bool := us.all AVal.unit
def ldBox (us : List (AVal U)) (n off : Nat) (t : Ty) : Option (MR U) :=
  match (cutU U us off).bind fun x => (cutU U x.2 (t.width U.wd)).bind fun y => some (x.1, y.1, y.2) with
  | some (pre, mid, post) => bif allU pre && allU mid then (madeD t mid).bind fun v => some { v := v, ro := [(n, .box (pre ++ mid ++ post))] } else none
  | none => (inU U us off).bind fun x => match x with
    | (pre, .p t0 X, k, post) => bif allU pre then (compD U 32 t0 X k t).bind fun z => some { v := .p t z, ro := [(n, .box (pre ++ [.p t0 X] ++ post))] } else none
    | _ => none
def stLoad (tb : Tab U) (rs : List (Nat × AVal U)) (hp : List (Nat × Blk U)) (T : TypeId) (x : Operand) (it : Option (IT U O P ops)) : Option (MR U) :=
  (opd rs x).bind fun vx => (lookA tb.ty T).bind fun t => match vx with
    | .pp t' X => (AVal.asP t (.p t' X)).bind fun z => some { v := .p t z }
    | .loc n off => match lookA hp n with
      | some (.box us) => ldBox us n off t
      | _ => none
    | .eloc n wd i off => match lookA hp n, it with
      | some (.row E t0 xs fx), some (@IT.v _ _ _ _ t2 q e _) => bif wd == t0.width U.wd then (compD U 32 t2 e off t).bind fun z => some { v := .p t z, ro := [(n, .row E t0 xs fx)], L := [.o t2 q], R := [.o t0 xs[i]?] } else none
      | some (.box us), some (@IT.v _ _ _ _ t2 q e _) => (inU U us off).bind fun x => match x with
        | (pre, .p (.arr N te) X, k, post) => bif allU pre && wd == te.width U.wd then (compD U 32 t2 e k t).bind fun z => some { v := .p t z, ro := [(n, .box (pre ++ [.p (.arr N te) X] ++ post))], L := [.o t2 q], R := [.o te (getElem? (coll := List (te.den U.T)) X i)] } else none
        | _ => none
      | _, _ => none
    | _ => none
end

section
variable {U : Univ} {O : Out} {P : Program} {ops : Array Oper} {o : Oper} {rs : List (Nat × AVal U)} {tb : Tab U} {hp : List (Nat × Blk U)} {r : MR U}
theorem ob_o {t t' : Ty} {x : Option (t.den U.T)} {y : Option (t'.den U.T)} (h : Ob.o t x = Ob.o t' y) : ∃ e : t = t', e ▸ x = y := by
  cases h; exact ⟨rfl, rfl⟩
theorem beqN {a b : Nat} (h : (a == b) = true) : a = b := by simpa using h
theorem TbOk.ty' (ht : TbOk P U tb) {T : TypeId} {d : Ty} (h : lookA tb.ty T = some d) : TyOk P U T d := ht.ty.mem _ (lookA_mem h)
theorem TbOk.sl' (ht : TbOk P U tb) {T : TypeId} {d : TypeId × Ty} (h : lookA tb.sl T = some d) : SlOk P U T d.1 d.2 := ht.sl.mem _ (lookA_mem h)
theorem TbOk.ro' (ht : TbOk P U tb) {T : TypeId} {d : TypeId × Ty × Nat} (h : lookA tb.ro T = some d) : RowOk P U T d.1 d.2.1 d.2.2 := ht.ro.mem _ (lookA_mem h)
theorem lookF_mem : ∀ {l : List (TypeId × Nat × Nat × Ty)} {T f : Nat} {d : Nat × Ty}, lookF l T f = some d → ∃ x ∈ l, x.1 = T ∧ x.2.1 = f ∧ x.2.2 = d
  | [], _, _, _, h => by cases h
  | x :: l, T, f, d, h => by
    unfold lookF at h
    cases hb : x.1 == T && x.2.1 == f with
    | true =>
      rw [hb, cond_true] at h
      rw [Bool.and_eq_true] at hb
      exact ⟨x, .head _, beqN hb.1, beqN hb.2, Option.some.inj h⟩
    | false =>
      rw [hb, cond_false] at h
      obtain ⟨y, hy, h1⟩ := lookF_mem h
      exact ⟨y, .tail _ hy, h1⟩
theorem TbOk.fd' (ht : TbOk P U tb) {T : TypeId} {f : Nat} {d : Nat × Ty} (h : fdOf tb T f = some d) : ∃ F, FdOk P U T f d.1 F d.2 := by
  obtain ⟨x, hx, rfl, rfl, rfl⟩ := lookF_mem h
  exact ht.fd.mem _ hx
theorem TbOk.str' (ht : TbOk P U tb) {T : TypeId} (h : isStrD (tb.un T) = true) : P.underlying T = some .string := by
  unfold isStrD at h; split at h
  · exact ht.un' (by assumption)
  · cases h
theorem none_in {α : Type} (l : List α) : ∀ x ∈ ([] : List α) ++ [], x ∈ l := fun _ h => by cases h
theorem one_in {α : Type} {y : α} {l : List α} (h : y ∈ l) : ∀ x ∈ [y] ++ ([] : List α), x ∈ l := fun _ hx => by
  rcases List.mem_cons.1 hx with rfl | hx
  · exact h
  · cases hx
theorem one_in' {α : Type} {y : α} {l : List α} (h : y ∈ l) : ∀ x ∈ ([] : List α) ++ [y], x ∈ l := one_in h

abbrev OkM (U : Univ) (O : Out) (P : Program) (ops : Array Oper) (o : Oper) (rs : List (Nat × AVal U)) (hp : List (Nat × Blk U)) (r : MR U) : Prop :=
  SOk U O P ops o (r.spec rs) ∧ ∀ x ∈ r.ro ++ r.cb, x ∈ hp

theorem stMove_ok {x : Operand} (hg : o.guard = none) (ho : o.op = .move x ∨ o.op = .assign x) : OkM U O P ops o rs hp (stMove rs x) := by
  refine ⟨?_, none_in _⟩
  unfold stMove MR.spec
  cases h : opd rs x with
  | none => exact sok_move hg ho (.junk _ _)
  | some v => exact sok_move hg ho (opd_ok h)
theorem stPick_ok {c x y : Operand} {kn : Option (IT U O P ops)} (hg : o.guard = none) (ho : o.op = .pick c x y) (h : stPick rs kn c x y = some r) (e : r.L = r.R) : OkM U O P ops o rs hp r := by
  unfold stPick at h
  obtain ⟨vc, hc, h1⟩ := bind_some h
  obtain ⟨b, hb, h2⟩ := bind_some h1
  replace hc := opd_ok hc
  rw [AVal.bool?_eq hb] at hc
  clear h h1
  split at h2
  · rename_i b' hb'
    obtain ⟨v, hv, h3⟩ := bind_some h2
    cases h3; simp only [List.cons.injEq, Ob.b.injEq, and_true] at e
    exact ⟨sok_pickT hg ho hc (e.trans hb') (opd_ok hv), none_in _⟩
  · rename_i b' hb'
    obtain ⟨v, hv, h3⟩ := bind_some h2
    cases h3; simp only [List.cons.injEq, Ob.b.injEq, and_true] at e
    exact ⟨sok_pickF hg ho hc (e.trans hb') (opd_ok hv), none_in _⟩
  · split at h2
    · obtain ⟨v, hv, h3⟩ := bind_some h2
      cases h3; exact ⟨sok_pickT hg ho hc rfl (opd_ok hv), none_in _⟩
    · obtain ⟨v, hv, h3⟩ := bind_some h2
      cases h3; exact ⟨sok_pickF hg ho hc rfl (opd_ok hv), none_in _⟩
theorem stIdxA_ok (htb : TbOk P U tb) {T : TypeId} {x y : Operand} {it : Option (IT U O P ops)} (hg : o.guard = none) (ho : o.op = .indexAddr T x y) (h : stIdxA tb rs T x y it = some r) (e : r.L = r.R) : OkM U O P ops o rs hp r := by
  unfold stIdxA at h
  obtain ⟨vx, hx, h1⟩ := bind_some h
  obtain ⟨vy, hy, h2⟩ := bind_some h1
  obtain ⟨⟨k, i⟩, hi, h3⟩ := bind_some h2
  replace hx := opd_ok hx
  replace hy := opd_ok hy
  rw [AVal.int?_eq hi] at hy
  clear h h1 h2
  split at h3
  · rename_i hq
    obtain ⟨s, hs, h4⟩ := bind_some h3
    obtain ⟨hd, h5⟩ := bif_some h4
    have hd := of_decide_eq_true hd
    subst hd; cases h5
    simp only [List.cons.injEq, and_true] at e
    obtain ⟨rfl, e⟩ := ob_o e
    exact ⟨sok_indexL hg ho (htb.sl' hs) hx hy (e.symm.trans hq), none_in _⟩
  · rename_i hp
    obtain ⟨s, hs, h4⟩ := bind_some h3
    obtain ⟨hd, h5⟩ := bif_some h4
    have hd := beqN hd
    subst hd; cases h5
    simp only [List.cons.injEq, Ob.p.injEq, and_true] at e
    exact ⟨sok_indexV hg ho (htb.sl' hs) hx hy (e ▸ hp), none_in _⟩
  · rename_i hp
    obtain ⟨d, hd, h4⟩ := bind_some h3
    clear h3
    split at h4
    · obtain ⟨t, ht, h5⟩ := bind_some h4
      obtain ⟨hm, h6⟩ := bif_some h5
      cases h6
      simp only [List.cons.injEq, Ob.p.injEq, and_true] at e
      exact ⟨sok_indexA2 hg ho (htb.un' hd) (htb.ty' ht) hx (beqN hm) hy (e ▸ hp), none_in _⟩
    · cases h4
  · cases h3
theorem stIdx_ok (htb : TbOk P U tb) {T : TypeId} {x y : Operand} {it : Option (IT U O P ops)} (hg : o.guard = none) (ho : o.op = .index T x y) (h : stIdx tb rs T x y it = some r) (e : r.L = r.R) : OkM U O P ops o rs hp r := by
  unfold stIdx at h
  obtain ⟨vx, hx, h1⟩ := bind_some h
  obtain ⟨vy, hy, h2⟩ := bind_some h1
  obtain ⟨⟨k, i⟩, hi, h3⟩ := bind_some h2
  replace hx := opd_ok hx
  replace hy := opd_ok hy
  rw [AVal.int?_eq hi] at hy
  clear h h1 h2
  split at h3
  · rename_i hq
    obtain ⟨hs, h4⟩ := bif_some h3
    cases h4
    simp only [List.cons.injEq, Ob.u.injEq, and_true] at e
    exact ⟨sok_indexS hg ho (htb.str' hs) hx hy (e.symm.trans hq), none_in _⟩
  · rename_i hq
    obtain ⟨d, hd, h4⟩ := bind_some h3
    clear h3
    split at h4
    · obtain ⟨t', ht, h5⟩ := bind_some h4
      obtain ⟨hm, h6⟩ := bif_some h5
      rw [Bool.and_eq_true] at hm
      have h7 := beqN hm.1
      have h8 := of_decide_eq_true hm.2
      subst h7 h8
      cases h6
      simp only [List.cons.injEq, and_true] at e
      obtain ⟨rfl, e⟩ := ob_o e
      exact ⟨sok_indexR hg ho (htb.un' hd) (htb.ty' ht) hx hy (e.symm.trans hq), none_in _⟩
    · cases h4
  · cases h3
theorem bdOf_ok {d n : Int} {x : Option Operand} (h : bdOf rs d x = some n) : Bd U rs d x n := by
  cases x with
  | none => cases h; exact .no
  | some x =>
    obtain ⟨v, hv, h1⟩ := bind_some h
    obtain ⟨⟨k, i⟩, hi, h3⟩ := bind_some h1
    cases h3
    have hv := opd_ok hv
    rw [AVal.int?_eq hi] at hv
    exact .at hv
theorem stSlice_ok (htb : TbOk P U tb) {T : TypeId} {x : Operand} {lo hi : Option Operand} {it : Option (IT U O P ops)} (hg : o.guard = none) (ho : o.op = .slice T x lo hi none) (h : stSlice tb rs hp T x lo hi it = some r) (e : r.L = r.R) : OkM U O P ops o rs hp r := by
  unfold stSlice at h
  obtain ⟨vx, hx, h1⟩ := bind_some h
  obtain ⟨l, hl, h2⟩ := bind_some h1
  replace hx := opd_ok hx
  replace hl := bdOf_ok hl
  clear h h1
  split at h2
  · obtain ⟨n, hh, h3⟩ := bind_some h2
    replace hh := bdOf_ok hh
    clear h2
    split at h3
    · rename_i hq
      obtain ⟨hs, h4⟩ := bif_some h3
      cases h4
      simp only [List.cons.injEq, and_true] at e
      obtain ⟨rfl, e⟩ := ob_o e
      exact ⟨sok_sliceS hg ho (htb.str' hs) hx hl hh (e.symm.trans hq), none_in _⟩
    · cases h3
  · obtain ⟨n, hh, h3⟩ := bind_some h2
    replace hh := bdOf_ok hh
    clear h2
    split at h3
    · rename_i hq
      obtain ⟨z, hs, h4⟩ := bind_some h3
      obtain ⟨hd, h5⟩ := bif_some h4
      have hd := of_decide_eq_true hd
      subst hd; cases h5
      simp only [List.cons.injEq, and_true] at e
      obtain ⟨rfl, e⟩ := ob_o e
      exact ⟨sok_sliceL hg ho (htb.sl' hs) hx hl hh (e.symm.trans hq), none_in _⟩
    · cases h3
  · obtain ⟨n', hh, h3⟩ := bind_some h2
    replace hh := bdOf_ok hh
    clear h2
    split at h3
    · rename_i hp'
      obtain ⟨z, hs, h4⟩ := bind_some h3
      clear h3
      split at h4
      · rename_i hb
        obtain ⟨hm, h5⟩ := bif_some h4
        rw [Bool.and_eq_true] at hm
        have h7 := of_decide_eq_true hm.1
        have h8 := beqN hm.2
        subst h7 h8
        cases h5
        simp only [List.cons.injEq, Ob.p.injEq, and_true] at e
        have hp' := e ▸ hp'
        exact ⟨sok_sliceV hg ho (htb.sl' hs) hx hl hh hp'.1 hp'.2.1 hp'.2.2, one_in (lookA_mem hb)⟩
      · cases h4
    · cases h3
  · obtain ⟨n', hh, h3⟩ := bind_some h2
    replace hh := bdOf_ok hh
    obtain ⟨z, hs, h4⟩ := bind_some h3
    cases h4
    simp only [List.cons.injEq, Ob.n.injEq, and_true] at e
    obtain rfl : l = 0 := by omega
    obtain rfl : n' = 0 := by omega
    exact ⟨sok_sliceNil hg ho (htb.sl' hs) hx hl hh, none_in _⟩
  · cases h2
theorem stFdA_ok (htb : TbOk P U tb) {T : TypeId} {x : Operand} {f : Nat} (hg : o.guard = none) (ho : o.op = .fieldAddr T x f) (h : stFdA tb rs T x f = some r) : OkM U O P ops o rs hp r := by
  unfold stFdA at h
  obtain ⟨vx, hx, h1⟩ := bind_some h
  obtain ⟨y, hf, h2⟩ := bind_some h1
  replace hx := opd_ok hx
  obtain ⟨F, hF⟩ := htb.fd' hf
  cases hw : y.2.width U.wd == 0 with
  | true => rw [hw] at h2; cases h2
  | false =>
    have hw' : y.2.width U.wd ≠ 0 := by simpa using hw
    rw [hw, cond_false] at h2
    clear h h1
    split at h2
    · obtain ⟨z, hz, h3⟩ := bind_some h2
      cases h3; exact ⟨sok_fieldP hg ho hF hw' hx (compD_ok _ hz), none_in _⟩
    · cases h2; exact ⟨sok_fieldB hg ho hF hw' hx, none_in _⟩
    · cases h2; exact ⟨sok_fieldE hg ho hF hw' hx, none_in _⟩
    · cases h2
theorem stFd_ok (htb : TbOk P U tb) {T : TypeId} {x : Operand} {f : Nat} (hg : o.guard = none) (ho : o.op = .field T x f) (h : stFd tb rs T x f = some r) : OkM U O P ops o rs hp r := by
  unfold stFd at h
  obtain ⟨vx, hx, h1⟩ := bind_some h
  obtain ⟨y, hf, h2⟩ := bind_some h1
  replace hx := opd_ok hx
  obtain ⟨F, hF⟩ := htb.fd' hf
  clear h h1
  split at h2
  · obtain ⟨ha, h3⟩ := bif_some h2
    obtain ⟨z, hz, h4⟩ := bind_some h3
    cases h4; exact ⟨sok_field hg ho hF ha hx (compD_ok _ hz), none_in _⟩
  · cases h2
theorem cut2_ok {us pre mid post : List (AVal U)} {off w : Nat} (h : ((cutU U us off).bind fun x => (cutU U x.2 w).bind fun y => some (x.1, y.1, y.2)) = some (pre, mid, post)) : us = pre ++ mid ++ post ∧ unitsW pre = off ∧ unitsW mid = w := by
  obtain ⟨⟨a, b⟩, h1, h2⟩ := bind_some h
  obtain ⟨⟨c, d⟩, h3, h4⟩ := bind_some h2
  cases h4
  obtain ⟨e1, e2⟩ := cutU_ok h1
  obtain ⟨e3, e4⟩ := cutU_ok h3
  exact ⟨by rw [e1, show b = c ++ d from e3, List.append_assoc], e2, e4⟩
theorem ldBox_ok {T : TypeId} {t : Ty} {x : Operand} {us : List (AVal U)} {n off : Nat} (hg : o.guard = none) (ho : o.op = .load T x) (ht : TyOk P U T t) (hx : Opd U rs x (.loc n off)) (hb : (n, Blk.box us) ∈ hp) (h : ldBox us n off t = some r) : OkM U O P ops o rs hp r := by
  unfold ldBox at h
  split at h
  · rename_i hc
    obtain ⟨e1, e2, e3⟩ := cut2_ok hc
    obtain ⟨ha, h1⟩ := bif_some h
    rw [Bool.and_eq_true] at ha
    obtain ⟨v, hv, h2⟩ := bind_some h1
    cases h2
    exact ⟨sok_loadB _ _ _ hg ho ht hx ha.1 e2 ha.2 e3 (madeD_ok hv), one_in (e1 ▸ hb)⟩
  · obtain ⟨y, hy, h1⟩ := bind_some h
    clear h
    split at h1
    · obtain ⟨ha, h2⟩ := bif_some h1
      obtain ⟨z, hz, h3⟩ := bind_some h2
      obtain ⟨e1, e2⟩ := inU_ok hy
      cases h3
      exact ⟨sok_loadU _ _ hg ho ht hx (.loc _ _) ha rfl e2 (compD_ok _ hz), one_in (e1 ▸ hb)⟩
    · cases h1
theorem stLoad_ok (htb : TbOk P U tb) {T : TypeId} {x : Operand} {it : Option (IT U O P ops)} (hg : o.guard = none) (ho : o.op = .load T x) (h : stLoad tb rs hp T x it = some r) (e : r.L = r.R) : OkM U O P ops o rs hp r := by
  unfold stLoad at h
  obtain ⟨vx, hx, h1⟩ := bind_some h
  obtain ⟨t, ht, h2⟩ := bind_some h1
  replace hx := opd_ok hx
  replace ht := htb.ty' ht
  clear h h1
  split at h2
  · obtain ⟨z, hz, h3⟩ := bind_some h2
    cases h3
    have := AVal.asP_eq hz
    cases this
    exact ⟨sok_loadP hg ho ht hx, none_in _⟩
  · split at h2
    · exact ldBox_ok hg ho ht hx (lookA_mem (by assumption)) h2
    · cases h2
  · split at h2
    · rename_i hq hb
      obtain ⟨hw, h3⟩ := bif_some h2
      have hw := beqN hw
      obtain ⟨z, hz, h4⟩ := bind_some h3
      cases h4
      simp only [List.cons.injEq, and_true] at e
      obtain ⟨rfl, e⟩ := ob_o e
      subst hw
      exact ⟨sok_loadE hg ho ht hx (e.symm.trans hq) (compD_ok _ hz), one_in (lookA_mem hb)⟩
    · rename_i hq hb
      obtain ⟨y, hy, h3⟩ := bind_some h2
      clear h2
      split at h3
      · obtain ⟨ha, h4⟩ := bif_some h3
        rw [Bool.and_eq_true] at ha
        have hw := beqN ha.2
        obtain ⟨z, hz, h5⟩ := bind_some h4
        cases h5
        simp only [List.cons.injEq, and_true] at e
        obtain ⟨rfl, e⟩ := ob_o e
        obtain ⟨e1, e2⟩ := inU_ok hy
        subst hw
        exact ⟨sok_loadU _ _ hg ho ht hx (.eloc _ _ _ _ rfl) ha.1 rfl (by rw [e2, Nat.add_left_comm]) (.arr (e.symm.trans hq) (compD_ok _ hz) rfl), one_in (e1 ▸ lookA_mem hb)⟩
      · cases h3
    · cases h2
  · cases h2
end
end Go.AM
namespace Go.AM

section
variable {U : Univ} {O : Out} {P : Program} {ops : Array Oper}
def opdC (rs : List (Nat × AVal U)) (t : Ty) : Operand → Option (AVal U)
  | .const (.slice none 0 0) => match t with
    | .list e => some (.p (.list e) ([] : List (e.den U.T)))
    | _ => opd rs (.const (.slice none 0 0))
  | .const .nilIface => match t with
    | .err => some (.p .err (0 : Nat))
    | _ => opd rs (.const .nilIface)
  | x => opd rs x
def isVec1 : List (AVal U) → Bool
  | [.vec _ _ _ _] => true
  | _ => false
def stStore (tb : Tab U) (rs : List (Nat × AVal U)) (hp : List (Nat × Blk U)) (T : TypeId) (x y : Operand) (it : Option (IT U O P ops)) : Option (MR U) :=
  (opd rs x).bind fun vx => (lookA tb.ty T).bind fun t => match vx with
    | .loc n off => match lookA hp n with
      | some (.box us) => match (cutU U us off).bind fun x => (cutU U x.2 (t.width U.wd)).bind fun y => some (x.1, y.1, y.2) with
        | some (pre, mid, post) => (bif isVec1 mid then opd rs y else opdC rs t y).bind fun v => (unitsD v).bind fun mid' =>
            bif (allU pre && allU mid) && (allU mid' && unitsW mid' == t.width U.wd) then some { cb := [(n, .box (pre ++ mid ++ post))], pb := [(n, .box (pre ++ mid' ++ post))] } else none
        | none => (inU U us off).bind fun z => match z with
          | (pre, .p t0 X, k, post) => (opdP rs t y).bind fun zz => (setD U 32 t0 X k t zz).bind fun X' => bif allU pre then some { cb := [(n, .box (pre ++ [.p t0 X] ++ post))], pb := [(n, .box (pre ++ [.p t0 X'] ++ post))] } else none
          | _ => none
      | _ => none
    | .eloc n wd i off => match lookA hp n, it with
      | some (.row E t0 xs fx), some (@IT.v _ _ _ _ t2 q e _) => bif wd == t0.width U.wd then (opdP rs t y).bind fun zz => (setD U 32 t2 e off t zz).bind fun e2 => (AVal.asP t0 (.p t2 e2)).bind fun e' =>
          some { cb := [(n, .row E t0 xs fx)], pb := [(n, .row E t0 (upd xs i e') fx)], L := [.o t2 q], R := [.o t0 xs[i]?] } else none
      | some (.box us), some (@IT.v _ _ _ _ t2 q e _) => (inU U us off).bind fun z => match z with
        | (pre, .p (.arr N te) X, k, post) => bif allU pre && wd == te.width U.wd then (opdP rs t y).bind fun zz => (setD U 32 t2 e k t zz).bind fun e2 => (AVal.asP te (.p t2 e2)).bind fun e' =>
            some { cb := [(n, .box (pre ++ [.p (.arr N te) X] ++ post))], pb := [(n, .box (pre ++ [.p (.arr N te) (upd (α := te.den U.T) X i e')] ++ post))], L := [.o t2 q], R := [.o te (getElem? (coll := List (te.den U.T)) X i)] } else none
        | _ => none
      | _, _ => none
    | _ => none
def stNil (rs : List (Nat × AVal U)) (x : Operand) (it : Option (IT U O P ops)) : Option (MR U) :=
  (opd rs x).bind fun v => bif v.isPtr then some { v := v } else match v, it with
    | .p (.ptr t) q, some (@IT.v _ _ _ _ t2 q2 y _) => some { v := .pp t2 y, L := [.o t2 q2], R := [.o t q] }
    | _, _ => none
def stExt (rs : List (Nat × AVal U)) (x : Operand) (i : Nat) : Option (MR U) :=
  (opd rs x).bind fun v => match v with
    | .tup vs => vs[i]?.bind fun v => some { v := v }
    | _ => none
def intD : Option TypeDesc → Option IntKind | some (.int k) => some k | _ => none
def slD : Option TypeDesc → Option TypeId | some (.slice E) => some E | _ => none
def stConv (tb : Tab U) (rs : List (Nat × AVal U)) (hp : List (Nat × Blk U)) (T1 T2 : TypeId) (x : Operand) : Option (MR U) :=
  (opd rs x).bind fun v => match v with
    | .p (.int k) n => (intD (tb.un T1)).bind fun k1 => (intD (tb.un T2)).bind fun k2 => bif decide (k1 = k) then some { v := .p (.int k2) (k2.wrap n) } else none
    | .vec n 1 0 len => (slD (tb.un T1)).bind fun E => (intD (tb.un E)).bind fun k => match lookA hp n with
      | some (.row E' (.int .u8) xs fx) => bif (decide (k = .u8) && E' == E) && isStrD (tb.un T2) then some { v := .p .str (txtOf xs), ro := [(n, .row E' (.int .u8) xs fx)], L := [.n len], R := [.n (List.length (α := Int) xs)] } else none
      | _ => none
    | _ => none
def stLen (tb : Tab U) (rs : List (Nat × AVal U)) (hp : List (Nat × Blk U)) (T : TypeId) (x : Operand) : Option (MR U) :=
  (opd rs x).bind fun v => match v with
    | .p .str s => bif isStrD (tb.un T) then some { v := .p (.int .i64) (List.length (α := UInt8) s : Int) } else none
    | .p (.list t) s => (slD (tb.un T)).bind fun _ => some { v := .p (.int .i64) (List.length (α := t.den U.T) s : Int) }
    | .vec _ _ _ len => (slD (tb.un T)).bind fun _ => some { v := .p (.int .i64) (len : Int) }
    | .lit (.slice none 0 0) => (slD (tb.un T)).bind fun _ => some { v := .p (.int .i64) (0 : Int) }
    | .mp n => (lookA tb.mp T).bind fun _ => match lookA hp n with
      | some (.map t kvs) => some { v := .p (.int .i64) (kvs.length : Int), ro := [(n, .map t kvs)] }
      | _ => none
    | _ => none
def stLook (tb : Tab U) (rs : List (Nat × AVal U)) (hp : List (Nat × Blk U)) (T : TypeId) (m x : Operand) (c : Bool) : Option (MR U) :=
  (lookA tb.mp T).bind fun KE => (lookA tb.zd KE.2).bind fun z => (opd rs m).bind fun vm => (opdP rs .str x).bind fun k => match vm, z with
    | .mp n, .p t' z => match lookA hp n with
      | some (.map t kvs) => (AVal.asP t (.p t' z)).bind fun z' => match c with
        | false => some { v := .p t ((mget k kvs).getD z'), ro := [(n, .map t kvs)] }
        | true => some { v := .tup [.p t ((mget k kvs).getD z'), .p .bool (mget k kvs).isSome], ro := [(n, .map t kvs)] }
      | _ => none
    | _, _ => none
def stMapU (tb : Tab U) (rs : List (Nat × AVal U)) (hp : List (Nat × Blk U)) (T : TypeId) (m x y : Operand) : Option (MR U) :=
  (lookA tb.mp T).bind fun _ => (opd rs m).bind fun vm => (opdP rs .str x).bind fun k => match vm with
    | .mp n => match lookA hp n with
      | some (.map t kvs) => (opdP rs t y).bind fun v => some { cb := [(n, .map t kvs)], pb := [(n, .map t (mput k v kvs))] }
      | _ => none
    | _ => none
def stDel (tb : Tab U) (rs : List (Nat × AVal U)) (hp : List (Nat × Blk U)) (T K : TypeId) (m x : Operand) : Option (MR U) :=
  (lookA tb.mp T).bind fun KE => bif KE.1 == K then (opd rs m).bind fun vm => (opdP rs .str x).bind fun k => (match vm with
    | .mp n => match lookA hp n with
      | some (.map t kvs) => some { v := .tup [], cb := [(n, .map t kvs)], pb := [(n, .map t (mdel k kvs))] }
      | _ => none
    | _ => none) else none
def stMkMap (tb : Tab U) (T : TypeId) (d : Nat) : Option (MR U) :=
  (lookA tb.mp T).bind fun KE => (lookA tb.ty KE.2).bind fun t => some { v := .mp d, pb := [(d, .map t [])], nn := [d] }
def opdL (rs : List (Nat × AVal U)) : List Operand → Option (List (AVal U))
  | [] => some []
  | x :: l => (opd rs x).bind fun v => (opdL rs l).bind fun vs => some (v :: vs)
def opdPL (rs : List (Nat × AVal U)) (t : Ty) : List Operand → Option (List (t.den U.T))
  | [] => some []
  | x :: l => (opdP rs t x).bind fun v => (opdPL rs t l).bind fun vs => some (v :: vs)
def stFunc (rs : List (Nat × AVal U)) (f : Fn) (fs cs : Array Operand) : Option (MR U) :=
  match f with
  | .func f => bif fs.toList.isEmpty then (opdL rs cs.toList).bind fun vs => some { v := .clo f vs } else none
  | _ => none
def stMkSl (tb : Tab U) (rs : List (Nat × AVal U)) (T : TypeId) (x y : Operand) (d : Nat) (it : Option (IT U O P ops)) : Option (MR U) :=
  (lookA tb.ro T).bind fun z => (lookA tb.zd z.1).bind fun zv => (AVal.asP z.2.1 zv).bind fun zz => (opd rs x).bind fun vx => (opd rs y).bind fun vy => vx.int?.bind fun l => vy.int?.bind fun c => match it with
    | some (@IT.g _ _ _ _ p _) => bif Nat.ble z.2.2 32768 then some { v := .vec d (z.2.1.width U.wd) 0 l.2.toNat, pb := [(d, .row z.1 z.2.1 (List.replicate c.2.toNat zz) true)], nn := [d], L := [.p p], R := [.p (0 ≤ l.2 ∧ l.2 ≤ c.2 ∧ c.2 ≤ (LIM : Nat))] } else none
    | _ => none
def stBox (tb : Tab U) (rs : List (Nat × AVal U)) (T : TypeId) (x : Operand) (d : Nat) : Option (MR U) :=
  (lookA tb.ty T).bind fun t => (opdC rs t x).bind fun v => (unitsD v).bind fun us => bif allU us && !(AVal.namesL U us).contains d then some { v := .loc d 0, pb := [(d, .box us)], nn := [d] } else none
def stAlloc (tb : Tab U) (T : TypeId) (d : Nat) : Option (MR U) :=
  (lookA tb.az T).bind fun us => bif (AVal.namesL U us).contains d then none else some { v := .loc d 0, pb := [(d, .box us)], nn := [d] }
def fillD (rs : List (Nat × AVal U)) (pl : List (Nat × Nat × Ty)) : List (Nat × Operand) → List (AVal U) → Option (List (AVal U))
  | [], us => some us
  | (i, x) :: l, us => pl[i]?.bind fun y => ((cutU U us y.1).bind fun x => (cutU U x.2 y.2.1).bind fun y => some (x.1, y.1, y.2)).bind fun c => (opdC rs y.2.2 x).bind fun v => (unitsD v).bind fun mid' =>
      bif (allU c.1 && allU c.2.1) && (allU mid' && unitsW mid' == y.2.1) then fillD rs pl l (c.1 ++ mid' ++ c.2.2) else none
def stBuild (tb : Tab U) (rs : List (Nat × AVal U)) (T : TypeId) (ps : Array (Nat × Operand)) : Option (MR U) :=
  (lookA tb.bz T).bind fun b => (lookA tb.ty T).bind fun t => (fillD rs b.2 ps.toList b.1).bind fun us => bif t.isAgg then (madeD t us).bind fun v => some { v := v } else none
def stBSl (tb : Tab U) (rs : List (Nat × AVal U)) (T : TypeId) (n : Nat) (ps : Array (Nat × Operand)) (d : Nat) : Option (MR U) :=
  (lookA tb.ro T).bind fun z => bif (decide (ps.toList.map (·.1) = List.range' 0 n) && ps.toList.length == n) && Nat.ble (n * z.2.1.width U.wd) 16777216 then (opdPL rs z.2.1 (ps.toList.map (·.2))).bind fun xs =>
    some { v := .vec d (z.2.1.width U.wd) 0 xs.length, pb := [(d, .row z.1 z.2.1 xs true)], nn := [d] } else none
def viewL (hp : List (Nat × Blk U)) (t : Ty) : AVal U → Option (List (t.den U.T) × List (Nat × Blk U) × List (Ob U) × List (Ob U))
  | .lit (.slice none 0 0) => some ([], [], [], [])
  | .vec m wd off len => match lookA hp m with
    | some (.row E t' ys fx) => (AVal.asP (.list t) (.p (.list t') ys)).bind fun zs => bif wd == t'.width U.wd && off == 0 then some (zs, [(m, .row E t' ys fx)], [.n len], [.n ys.length]) else none
    | _ => none
  | v => (v.asP (.list t)).bind fun xs => some (xs, [], [], [])
def stApp (tb : Tab U) (rs : List (Nat × AVal U)) (hp : List (Nat × Blk U)) (T : TypeId) (x y : Operand) (d : Nat) (it : Option (IT U O P ops)) : Option (MR U) :=
  (lookA tb.ro T).bind fun z => (opd rs x).bind fun vx => (opd rs y).bind fun vy => (viewL hp z.2.1 vy).bind fun w => match it with
    | some (@IT.g _ _ _ _ p _) => bif Nat.ble z.2.2 32768 then (match vx with
      | .lit (.slice none 0 0) => some { v := .vec d (z.2.1.width U.wd) 0 w.1.length, ro := w.2.1, pb := [(d, .row z.1 z.2.1 w.1 false)], nn := [d], L := .p p :: w.2.2.1, R := .p (w.1.length ≤ LIM) :: w.2.2.2 }
      | .vec n wd off len => match lookA hp n with
        | some (.row E t xs fx) => (AVal.asP (.list z.2.1) (.p (.list t) xs)).bind fun (zs : List (z.2.1.den U.T)) => bif ((wd == t.width U.wd && off == 0) && E == z.1) && !(nm w.2.1).contains n then
            some { v := .vec d (z.2.1.width U.wd) 0 (List.length (zs ++ w.1)), ro := w.2.1, cb := [(n, .row E t xs fx)], pb := [(d, .row z.1 z.2.1 (zs ++ w.1) false)], nn := [d], L := .p p :: .n len :: w.2.2.1, R := .p (List.length zs + w.1.length ≤ LIM) :: .n xs.length :: w.2.2.2 } else none
        | _ => none
      | _ => none) else none
    | _ => none
end

section
variable {U : Univ} {O : Out} {P : Program} {ops : Array Oper} {o : Oper} {rs : List (Nat × AVal U)} {tb : Tab U} {hp : List (Nat × Blk U)} {r : MR U}
theorem opdC_ok {t : Ty} {x : Operand} {v : AVal U} (h : opdC rs t x = some v) : Opd U rs x v := by
  unfold opdC at h
  split at h
  · split at h
    · cases h; exact .lnil _ _
    · exact opd_ok h
  · split at h
    · cases h; exact .err0 _
    · exact opd_ok h
  · exact opd_ok h
theorem stStore_ok (htb : TbOk P U tb) {T : TypeId} {x y : Operand} {it : Option (IT U O P ops)} (hg : o.guard = none) (hd : o.dst = none) (ho : o.op = .store T x y) (h : stStore tb rs hp T x y it = some r) (e : r.L = r.R) : OkM U O P ops o rs hp r := by
  unfold stStore at h
  obtain ⟨vx, hx, h1⟩ := bind_some h
  obtain ⟨t, ht, h2⟩ := bind_some h1
  replace hx := opd_ok hx
  replace ht := htb.ty' ht
  clear h h1
  split at h2
  · split at h2
    · rename_i us hb
      split at h2
      · rename_i pre mid post hc
        obtain ⟨e1, e2, e3⟩ := cut2_ok hc
        obtain ⟨v, hv, h3⟩ := bind_some h2
        obtain ⟨mid', hm, h4⟩ := bind_some h3
        obtain ⟨ha, h5⟩ := bif_some h4
        simp only [Bool.and_eq_true] at ha
        have hv' : Opd U rs y v := by
          cases hv1 : isVec1 mid with
          | true => rw [hv1] at hv; exact opd_ok hv
          | false => rw [hv1] at hv; exact opdC_ok hv
        cases h5
        exact ⟨sok_storeB _ _ _ hg hd ho ht hx hv' (unitsD_ok hm) ha.1.1 e2 ha.1.2 e3 ha.2.1 (beqN ha.2.2), one_in' (e1 ▸ lookA_mem hb)⟩
      · obtain ⟨z, hz, h3⟩ := bind_some h2
        clear h2
        split at h3
        · obtain ⟨zz, hzz, h4⟩ := bind_some h3
          obtain ⟨X', hX, h5⟩ := bind_some h4
          obtain ⟨ha, h6⟩ := bif_some h5
          obtain ⟨e1, e2⟩ := inU_ok hz
          cases h6
          exact ⟨sok_storeU _ _ hg hd ho ht hx (.loc _ _) (opdP_ok hzz) ha rfl e2 (setD_ok _ hX), one_in' (e1 ▸ lookA_mem hb)⟩
        · cases h3
    · cases h2
  · split at h2
    · rename_i hq hb
      obtain ⟨hw, h3⟩ := bif_some h2
      replace hw := beqN hw
      obtain ⟨zz, hzz, h4⟩ := bind_some h3
      obtain ⟨e2, he2, h5⟩ := bind_some h4
      obtain ⟨e', he', h6⟩ := bind_some h5
      cases h6
      simp only [List.cons.injEq, and_true] at e
      obtain ⟨rfl, e⟩ := ob_o e
      cases AVal.asP_eq he'
      subst hw
      exact ⟨sok_storeE hg hd ho ht hx (opdP_ok hzz) (e.symm.trans hq) (setD_ok _ he2), one_in' (lookA_mem hb)⟩
    · rename_i hq hb
      obtain ⟨z, hz, h3⟩ := bind_some h2
      clear h2
      split at h3
      · obtain ⟨hw, h4⟩ := bif_some h3
        rw [Bool.and_eq_true] at hw
        obtain ⟨ha, hw⟩ := hw
        replace hw := beqN hw
        obtain ⟨zz, hzz, h5⟩ := bind_some h4
        obtain ⟨e2, he2, h6⟩ := bind_some h5
        obtain ⟨e', he', h7⟩ := bind_some h6
        cases h7
        simp only [List.cons.injEq, and_true] at e
        obtain ⟨rfl, e⟩ := ob_o e
        cases AVal.asP_eq he'
        obtain ⟨e3, e4⟩ := inU_ok hz
        subst hw
        exact ⟨sok_storeU _ _ hg hd ho ht hx (.eloc _ _ _ _ rfl) (opdP_ok hzz) ha rfl (by rw [e4, Nat.add_left_comm]) (.arr (e.symm.trans hq) (setD_ok _ he2) rfl), one_in' (e3 ▸ lookA_mem hb)⟩
      · cases h3
    · cases h2
  · cases h2
theorem stNil_ok {x : Operand} {it : Option (IT U O P ops)} (hg : o.guard = none) (ho : o.op = .nilCheck x) (h : stNil rs x it = some r) (e : r.L = r.R) : OkM U O P ops o rs hp r := by
  unfold stNil at h
  obtain ⟨v, hx, h1⟩ := bind_some h
  replace hx := opd_ok hx
  clear h
  cases hp' : v.isPtr with
  | true => rw [hp'] at h1; cases h1; exact ⟨sok_nilCheck hg ho hx hp', none_in _⟩
  | false =>
    rw [hp', cond_false] at h1
    split at h1
    · rename_i hq
      cases h1
      simp only [List.cons.injEq, and_true] at e
      obtain ⟨rfl, e⟩ := ob_o e
      exact ⟨sok_nilCheckP hg ho hx (e.symm.trans hq), none_in _⟩
    · cases h1
theorem stExt_ok {x : Operand} {i : Nat} (hg : o.guard = none) (ho : o.op = .extract x i) (h : stExt rs x i = some r) : OkM U O P ops o rs hp r := by
  unfold stExt at h
  obtain ⟨v, hx, h1⟩ := bind_some h
  replace hx := opd_ok hx
  clear h
  split at h1
  · obtain ⟨w, hw, h2⟩ := bind_some h1
    cases h2; exact ⟨sok_extract hg ho hx hw, none_in _⟩
  · cases h1
theorem intD_eq {d : Option TypeDesc} {k : IntKind} (h : intD d = some k) : d = some (.int k) := by
  unfold intD at h; split at h
  · cases h; rfl
  · cases h
theorem slD_eq {d : Option TypeDesc} {k : TypeId} (h : slD d = some k) : d = some (.slice k) := by
  unfold slD at h; split at h
  · cases h; rfl
  · cases h
theorem stConv_ok (htb : TbOk P U tb) {T1 T2 : TypeId} {x : Operand} (hg : o.guard = none) (ho : o.op = .convert T1 T2 x) (h : stConv tb rs hp T1 T2 x = some r) (e : r.L = r.R) : OkM U O P ops o rs hp r := by
  unfold stConv at h
  obtain ⟨v, hx, h1⟩ := bind_some h
  replace hx := opd_ok hx
  clear h
  split at h1
  · obtain ⟨k1, hk1, h2⟩ := bind_some h1
    obtain ⟨k2, hk2, h3⟩ := bind_some h2
    obtain ⟨hd, h4⟩ := bif_some h3
    have hd := of_decide_eq_true hd
    subst hd; cases h4
    exact ⟨sok_convI hg ho (htb.un' (intD_eq hk1)) (htb.un' (intD_eq hk2)) hx, none_in _⟩
  · obtain ⟨E, hE, h2⟩ := bind_some h1
    obtain ⟨k2, hk2, h3⟩ := bind_some h2
    clear h1 h2
    split at h3
    · rename_i hb
      obtain ⟨hd, h4⟩ := bif_some h3
      simp only [Bool.and_eq_true] at hd
      have h5 := of_decide_eq_true hd.1.1
      have h6 := beqN hd.1.2
      subst h5 h6; cases h4
      simp only [List.cons.injEq, Ob.n.injEq, and_true] at e
      subst e
      exact ⟨sok_strOf hg ho (htb.un' (slD_eq hE)) (htb.un' (intD_eq hk2)) (htb.str' hd.2) hx, one_in (lookA_mem hb)⟩
    · cases h3
  · cases h1
theorem TbOk.mp' (ht : TbOk P U tb) {T : TypeId} {d : TypeId × TypeId} (h : lookA tb.mp T = some d) : MapOk P T d.1 d.2 := ht.mp.mem _ (lookA_mem h)
theorem stLen_ok (htb : TbOk P U tb) {T : TypeId} {x : Operand} (hg : o.guard = none) (ho : o.op = .call { callee := .builtin .len, args := #[x], argTypes := #[T] }) (h : stLen tb rs hp T x = some r) : OkM U O P ops o rs hp r := by
  unfold stLen at h
  obtain ⟨v, hx, h1⟩ := bind_some h
  replace hx := opd_ok hx
  clear h
  split at h1
  · obtain ⟨hs, h2⟩ := bif_some h1
    cases h2; exact ⟨sok_lenS hg ho (htb.str' hs) hx, none_in _⟩
  · obtain ⟨E, hE, h2⟩ := bind_some h1
    cases h2; exact ⟨sok_lenL hg ho (htb.un' (slD_eq hE)) hx, none_in _⟩
  · obtain ⟨E, hE, h2⟩ := bind_some h1
    cases h2; exact ⟨sok_lenV hg ho (htb.un' (slD_eq hE)) hx, none_in _⟩
  · obtain ⟨E, hE, h2⟩ := bind_some h1
    cases h2; exact ⟨sok_lenNil hg ho (htb.un' (slD_eq hE)) hx, none_in _⟩
  · obtain ⟨E, hE, h2⟩ := bind_some h1
    clear h1
    split at h2
    · cases h2; exact ⟨sok_lenM hg ho (htb.mp' hE) hx, one_in (lookA_mem (by assumption))⟩
    · cases h2
  · cases h1
theorem TbOk.zd' (ht : TbOk P U tb) {T : TypeId} {d : AVal U} (h : lookA tb.zd T = some d) : ZdOk P U T d := ht.zd.mem _ (lookA_mem h)
theorem stLook_ok (htb : TbOk P U tb) {T : TypeId} {m x : Operand} {c : Bool} (hg : o.guard = none) (ho : o.op = .lookup T m x c) (h : stLook tb rs hp T m x c = some r) : OkM U O P ops o rs hp r := by
  unfold stLook at h
  obtain ⟨KE, hK, h1⟩ := bind_some h
  obtain ⟨z, hz, h2⟩ := bind_some h1
  obtain ⟨vm, hm, h3⟩ := bind_some h2
  obtain ⟨k, hk, h4⟩ := bind_some h3
  replace hm := opd_ok hm
  replace hz := htb.zd' hz
  clear h h1 h2 h3
  split at h4
  · split at h4
    · rename_i hb
      obtain ⟨z', hz', h5⟩ := bind_some h4
      clear h4
      cases AVal.asP_eq hz'
      split at h5
      · cases h5; exact ⟨sok_lookup hg ho (htb.mp' hK) hz hm (opdP_ok hk), one_in (lookA_mem hb)⟩
      · cases h5; exact ⟨sok_lookup2 hg ho (htb.mp' hK) hz hm (opdP_ok hk), one_in (lookA_mem hb)⟩
    · cases h4
  · cases h4
theorem stMapU_ok (htb : TbOk P U tb) {T : TypeId} {m x y : Operand} (hg : o.guard = none) (hd : o.dst = none) (ho : o.op = .mapUpdate T m x y) (h : stMapU tb rs hp T m x y = some r) : OkM U O P ops o rs hp r := by
  unfold stMapU at h
  obtain ⟨KE, hK, h1⟩ := bind_some h
  obtain ⟨vm, hm, h3⟩ := bind_some h1
  obtain ⟨k, hk, h4⟩ := bind_some h3
  replace hm := opd_ok hm
  clear h h1 h3
  split at h4
  · split at h4
    · rename_i hb
      obtain ⟨v, hv, h5⟩ := bind_some h4
      cases h5; exact ⟨sok_mapUpdate hg hd ho (htb.mp' hK) hm (opdP_ok hk) (opdP_ok hv), one_in' (lookA_mem hb)⟩
    · cases h4
  · cases h4
theorem stDel_ok (htb : TbOk P U tb) {T K : TypeId} {m x : Operand} (hg : o.guard = none) (ho : o.op = .call { callee := .builtin .delete, args := #[m, x], argTypes := #[T, K] }) (h : stDel tb rs hp T K m x = some r) : OkM U O P ops o rs hp r := by
  unfold stDel at h
  obtain ⟨KE, hK, h1⟩ := bind_some h
  obtain ⟨he, h2⟩ := bif_some h1
  obtain ⟨vm, hm, h3⟩ := bind_some h2
  obtain ⟨k, hk, h4⟩ := bind_some h3
  replace hm := opd_ok hm
  have he := beqN he
  subst he
  clear h h1 h2 h3
  split at h4
  · split at h4
    · rename_i hb
      cases h4; exact ⟨sok_delete hg ho (htb.mp' hK) hm (opdP_ok hk), one_in' (lookA_mem hb)⟩
    · cases h4
  · cases h4
theorem stMkMap_ok {T : TypeId} {d : Nat} (hg : o.guard = none) (hd : o.dst = some d) (ho : o.op = .makeMap T none) (h : stMkMap tb T d = some r) : OkM U O P ops o rs hp r := by
  unfold stMkMap at h
  obtain ⟨KE, hK, h1⟩ := bind_some h
  obtain ⟨t, ht, h2⟩ := bind_some h1
  cases h2; exact ⟨sok_makeMap hg hd ho, none_in _⟩
theorem opdL_ok : ∀ {xs : List Operand} {vs : List (AVal U)}, opdL rs xs = some vs → Opds U rs xs vs
  | [], _, h => by cases h; exact .nil
  | x :: l, _, h => by
    obtain ⟨v, hv, h1⟩ := bind_some h
    obtain ⟨vs, hvs, h2⟩ := bind_some h1
    cases h2; exact .cons (opd_ok hv) (opdL_ok hvs)
theorem opdPL_ok {t : Ty} : ∀ {xs : List Operand} {vs : List (t.den U.T)}, opdPL rs t xs = some vs → OpdsP U rs t xs vs ∧ xs.length = vs.length
  | [], _, h => by cases h; exact ⟨.nil, rfl⟩
  | x :: l, _, h => by
    obtain ⟨v, hv, h1⟩ := bind_some h
    obtain ⟨vs, hvs, h2⟩ := bind_some h1
    cases h2; exact ⟨.cons (opdP_ok hv) (opdPL_ok hvs).1, by rw [List.length_cons, List.length_cons, (opdPL_ok hvs).2]⟩
theorem stFunc_ok {f : Fn} {fs cs : Array Operand} (hg : o.guard = none) (ho : o.op = .makeFunc f fs cs) (h : stFunc rs f fs cs = some r) : OkM U O P ops o rs hp r := by
  unfold stFunc at h
  split at h
  · obtain ⟨he, h1⟩ := bif_some h
    obtain ⟨vs, hvs, h2⟩ := bind_some h1
    have hfs : fs = #[] := by
      have : fs.toList = [] := by simpa using he
      exact Array.toList_eq_nil_iff.1 this
    subst hfs
    cases h2; exact ⟨sok_makeFunc hg ho (opdL_ok hvs), none_in _⟩
  · cases h
theorem stMkSl_ok (htb : TbOk P U tb) {T : TypeId} {x y : Operand} {d : Nat} {it : Option (IT U O P ops)} (hg : o.guard = none) (hd : o.dst = some d) (ho : o.op = .makeSlice T x y) (h : stMkSl tb rs T x y d it = some r) (e : r.L = r.R) : OkM U O P ops o rs hp r := by
  unfold stMkSl at h
  obtain ⟨z, hz, h1⟩ := bind_some h
  obtain ⟨zv, hzv, h2⟩ := bind_some h1
  obtain ⟨zz, hzz, h3⟩ := bind_some h2
  obtain ⟨vx, hx, h4⟩ := bind_some h3
  obtain ⟨vy, hy, h5⟩ := bind_some h4
  obtain ⟨⟨kl, l⟩, hl, h6⟩ := bind_some h5
  obtain ⟨⟨kc, c⟩, hc, h7⟩ := bind_some h6
  replace hx := opd_ok hx
  replace hy := opd_ok hy
  rw [AVal.int?_eq hl] at hx
  rw [AVal.int?_eq hc] at hy
  replace hzv := htb.zd' hzv
  rw [AVal.asP_eq hzz] at hzv
  clear h h1 h2 h3 h4 h5 h6
  split at h7
  · rename_i hp'
    obtain ⟨hb, h8⟩ := bif_some h7
    cases h8
    simp only [List.cons.injEq, Ob.p.injEq, and_true] at e
    have hp' := e ▸ hp'
    exact ⟨sok_makeSlice hg hd ho (htb.ro' hz) (Nat.le_of_ble_eq_true hb) hzv hx hy hp'.1 hp'.2.1 hp'.2.2, none_in _⟩
  · cases h7
theorem stBox_ok {T : TypeId} {x : Operand} {d : Nat} (hg : o.guard = none) (hd : o.dst = some d) (ho : o.op = .box T x) (h : stBox tb rs T x d = some r) : OkM U O P ops o rs hp r := by
  unfold stBox at h
  obtain ⟨t, ht, h1⟩ := bind_some h
  obtain ⟨v, hv, h2⟩ := bind_some h1
  obtain ⟨us, hus, h3⟩ := bind_some h2
  obtain ⟨ha, h4⟩ := bif_some h3
  rw [Bool.and_eq_true] at ha
  cases h4; exact ⟨sok_box hg hd ho (opdC_ok hv) (unitsD_ok hus) ha.1 (notin_of (by simpa using ha.2)), none_in _⟩
theorem stAlloc_ok (htb : TbOk P U tb) {T : TypeId} {d : Nat} (hg : o.guard = none) (hd : o.dst = some d) (ho : o.op = .alloc T) (h : stAlloc tb T d = some r) : OkM U O P ops o rs hp r := by
  unfold stAlloc at h
  obtain ⟨us, hus, h1⟩ := bind_some h
  obtain ⟨v, cs, hz, hc, hu⟩ := htb.az.mem _ (lookA_mem hus)
  cases hn : (AVal.namesL U us).contains d with
  | true => rw [hn] at h1; cases h1
  | false => rw [hn] at h1; cases h1; exact ⟨sok_allocZ hg hd ho hz hc hu hn, none_in _⟩
theorem fillD_ok {pl : List (Nat × Nat × Ty)} {pf : Nat → Option (Nat × Nat)} (hp : ∀ i y, pl[i]? = some y → pf i = some (y.1, y.2.1)) : ∀ {l : List (Nat × Operand)} {us us' : List (AVal U)}, fillD rs pl l us = some us' → Filled U rs pf l us us'
  | [], _, _, h => by cases h; exact .nil _
  | (i, x) :: l, us, us', h => by
    obtain ⟨y, hy, h1⟩ := bind_some h
    obtain ⟨⟨pre, mid, post⟩, hc, h2⟩ := bind_some h1
    obtain ⟨v, hv, h3⟩ := bind_some h2
    obtain ⟨mid', hm, h4⟩ := bind_some h3
    obtain ⟨ha, h5⟩ := bif_some h4
    simp only [Bool.and_eq_true] at ha
    obtain ⟨e1, e2, e3⟩ := cut2_ok hc
    have e4 := beqN ha.2.2
    exact .cons pre mid mid' post (opdC_ok hv) (unitsD_ok hm) e1 ha.1.1 ha.1.2 ha.2.1 (by rw [hp i y hy, e2, e4]) (by rw [e3, e4]) (fillD_ok hp h5)
theorem stBuild_ok (htb : TbOk P U tb) {T : TypeId} {ps : Array (Nat × Operand)} (hg : o.guard = none) (ho : o.op = .build T ps) (h : stBuild tb rs T ps = some r) : OkM U O P ops o rs hp r := by
  unfold stBuild at h
  obtain ⟨b, hb, h1⟩ := bind_some h
  obtain ⟨t, ht, h2⟩ := bind_some h1
  obtain ⟨us, hus, h3⟩ := bind_some h2
  obtain ⟨ha, h4⟩ := bif_some h3
  obtain ⟨v, hv, h5⟩ := bind_some h4
  obtain ⟨z, pl, hl, hz, hpl'⟩ := htb.bz.mem _ (lookA_mem hb)
  have hpl : ∀ i y, b.2[i]? = some y → pl i = some (y.1, y.2.1) := fun i y hy => by
    have hi : i < b.2.length := (List.getElem?_eq_some_iff.1 hy).1
    have h1 := congrArg (·[i]?) hpl'
    simp only [List.getElem?_map, List.getElem?_range hi, hy, Option.map_some, Option.some.injEq] at h1
    exact h1
  cases h5; exact ⟨sok_build hg ho hl hz (fillD_ok hpl hus) ha (madeD_ok hv), none_in _⟩
theorem parts_of : ∀ (l : List (Nat × Operand)) (k n : Nat), l.map (·.1) = List.range' k n → l = ((l.map (·.2)).zipIdx k).map fun x => (x.2, x.1)
  | [], _, _, _ => rfl
  | (i, x) :: l, k, n, h => by
    cases n with
    | zero => cases h
    | succ n =>
      rw [List.range'_succ, List.map_cons, List.cons.injEq] at h
      obtain ⟨h1, h2⟩ := h
      have := parts_of l (k + 1) n h2
      simp only [List.map_cons, List.zipIdx_cons, List.cons.injEq]
      exact ⟨by rw [← h1], this⟩
theorem stBSl_ok (htb : TbOk P U tb) {T : TypeId} {n : Nat} {ps : Array (Nat × Operand)} {d : Nat} (hg : o.guard = none) (hd : o.dst = some d) (ho : o.op = .buildSlice T n ps) (h : stBSl tb rs T n ps d = some r) : OkM U O P ops o rs hp r := by
  unfold stBSl at h
  obtain ⟨z, hz, h1⟩ := bind_some h
  obtain ⟨ha, h2⟩ := bif_some h1
  obtain ⟨xs, hx, h3⟩ := bind_some h2
  simp only [Bool.and_eq_true] at ha
  have h4 := of_decide_eq_true ha.1.1
  have h5 := beqN ha.1.2
  have h6 := Nat.le_of_ble_eq_true ha.2
  have h7 := parts_of _ _ _ h4
  obtain ⟨h8, h9⟩ := opdPL_ok hx
  have h10 : (ps.toList.map (·.2)).length = n := by rw [List.length_map, h5]
  cases h3
  exact ⟨sok_buildSlice hg hd (by rw [ho, h10]) h7 (htb.ro' hz) h8 (by rw [h10]; exact h6), none_in _⟩
theorem viewL_ok {t : Ty} {v : AVal U} {w : List (t.den U.T) × List (Nat × Blk U) × List (Ob U) × List (Ob U)} (h : viewL hp t v = some w) (e : w.2.2.1 = w.2.2.2) : View U w.2.1 v (.p (.list t) w.1) ∧ ∀ x ∈ w.2.1, x ∈ hp := by
  unfold viewL at h
  split at h
  · cases h; exact ⟨.nilL _, fun _ h => by cases h⟩
  · split at h
    · rename_i hb
      obtain ⟨zs, hzs, h1⟩ := bind_some h
      obtain ⟨ha, h2⟩ := bif_some h1
      rw [Bool.and_eq_true] at ha
      have h3 := beqN ha.1
      have h4 := beqN ha.2
      subst h3 h4
      cases AVal.asP_eq hzs
      cases h2
      simp only [List.cons.injEq, Ob.n.injEq, and_true] at e
      subst e
      exact ⟨.whole (.head _), fun x hx => by rcases List.mem_cons.1 hx with rfl | hx; exact lookA_mem hb; cases hx⟩
    · cases h
  · obtain ⟨xs, hx, h1⟩ := bind_some h
    cases h1
    rw [AVal.asP_eq hx]
    exact ⟨.same _, fun _ h => by cases h⟩
theorem stApp_ok (htb : TbOk P U tb) {T : TypeId} {x y : Operand} {d : Nat} {it : Option (IT U O P ops)} (hg : o.guard = none) (hd : o.dst = some d) (ho : o.op = .call { callee := .builtin .append, args := #[x, y], argTypes := #[T, T] }) (h : stApp tb rs hp T x y d it = some r) (e : r.L = r.R) : OkM U O P ops o rs hp r := by
  unfold stApp at h
  obtain ⟨z, hz, h1⟩ := bind_some h
  obtain ⟨vx, hx, h2⟩ := bind_some h1
  obtain ⟨vy, hy, h3⟩ := bind_some h2
  obtain ⟨w, hw, h4⟩ := bind_some h3
  replace hx := opd_ok hx
  replace hy := opd_ok hy
  replace hz := htb.ro' hz
  clear h h1 h2 h3
  split at h4
  · rename_i hp'
    obtain ⟨hb, h5⟩ := bif_some h4
    replace hb := Nat.le_of_ble_eq_true hb
    clear h4
    split at h5
    · cases h5
      simp only [List.cons.injEq, Ob.p.injEq] at e
      obtain ⟨h6, h7⟩ := viewL_ok hw e.2
      exact ⟨sok_appendN hg hd ho hz hb hx hy h6 (e.1 ▸ hp'), fun x hx => h7 x (by simpa using hx)⟩
    · split at h5
      · rename_i hbl
        obtain ⟨zs, hzs, h6⟩ := bind_some h5
        obtain ⟨ha, h7⟩ := bif_some h6
        simp only [Bool.and_eq_true] at ha
        have h8 := beqN ha.1.1.1
        have h9 := beqN ha.1.1.2
        have h10 := beqN ha.1.2
        subst h8 h9
        cases AVal.asP_eq hzs
        cases h7
        simp only [List.cons.injEq, Ob.p.injEq, Ob.n.injEq] at e
        obtain ⟨h11, h12⟩ := viewL_ok hw e.2.2
        obtain ⟨e1, e2, _⟩ := e
        subst e2 h10
        refine ⟨sok_append' hg hd ho hz hb hx hy h11 (by simpa using ha.2) (e1 ▸ hp'), fun x hx => ?_⟩
        rcases List.mem_append.1 hx with hx | hx
        · exact h12 x hx
        · rcases List.mem_cons.1 hx with rfl | hx
          · exact lookA_mem hbl
          · cases hx
      · cases h5
    · cases h5
  · cases h4
end
end Go.AM
namespace Go.AM

section
variable {U : Univ} {O : Out} {P : Program} {ops : Array Oper}
def view1 (hp : List (Nat × Blk U)) (v a : AVal U) : Option (List (Nat × Blk U) × List (Ob U) × List (Ob U)) :=
  match a, v with
  | .p (.list t) x, .vec m wd off len => match lookA hp m with
    | some (.row E t' ys fx) => (AVal.asP (.list t) (.p (.list t') ys)).bind fun zs => bif wd == t'.width U.wd && off == 0 then some ([(m, .row E t' ys fx)], [.n len, .o (.list t) (some x)], [.n ys.length, .o (.list t) (some zs)]) else none
    | _ => none
  | .p (.list t) x, .lit (.slice none 0 0) => some ([], [.o (.list t) (some x)], [.o (.list t) (some [])])
  | .p .err x, .lit .nilIface => some ([], [.o .err (some x)], [.o .err (some (0 : Nat))])
  | a, v => some ([], [.v v], [.v a])
def viewsD (hp : List (Nat × Blk U)) : List (AVal U) → List (AVal U) → Option (List (Nat × Blk U) × List (Ob U) × List (Ob U))
  | [], [] => some ([], [], [])
  | v :: vs, a :: as => (view1 hp v a).bind fun x => (viewsD hp vs as).bind fun y => some (x.1 ++ y.1, x.2.1 ++ y.2.1, x.2.2 ++ y.2.2)
  | _, _ => none
def holdD (hp : List (Nat × Blk U)) : List (Nat × Blk U) → Option (List (Ob U) × List (Ob U))
  | [] => some ([], [])
  | x :: l => (lookA hp x.1).bind fun b => (holdD hp l).bind fun y => some (.k b :: y.1, .k x.2 :: y.2)
def holdS (sl : List (Nat × AVal U)) : List (Nat × AVal U) → Option (List (Ob U) × List (Ob U))
  | [] => some ([], [])
  | x :: l => (lookA sl x.1).bind fun b => (holdS sl l).bind fun y => some (.v b :: y.1, .v x.2 :: y.2)
def calleeD (rs : List (Nat × AVal U)) (x : Operand) : Option (FuncId × List (AVal U)) :=
  (opd rs x).bind fun v => match v with
    | .clo f caps => some (f, caps)
    | _ => none
def stCall (tb : Tab U) (rs : List (Nat × AVal U)) (hp : List (Nat × Blk U)) (x : Operand) (as : Array Operand) (it : Option (IT U O P ops)) : Option (MR U) :=
  match it with
  | some (@IT.c _ _ _ _ f c _) => (calleeD rs x).bind fun fc => bif fc.1 == f && tb.hb.contains f then
      (opdL rs as.toList).bind fun vs => (viewsD hp (vs ++ fc.2) c.ar).bind fun w => (holdD hp c.bs).bind fun z => bif (nm w.1).all (fun n => !(nm c.bs).contains n) then
        (bif w.1.isEmpty || c.flat then some { v := c.r, ro := w.1, cb := c.bs, pb := c.bs', nn := c.nn, L := w.2.1 ++ z.1, R := w.2.2 ++ z.2 }
         else some { v := c.r, cb := w.1 ++ c.bs, pb := c.bs', nn := c.nn, L := w.2.1 ++ z.1, R := w.2.2 ++ z.2 }) else none else none
  | _ => none
end

section
variable {U : Univ} {O : Out} {P : Program} {ops : Array Oper} {o : Oper} {rs : List (Nat × AVal U)} {tb : Tab U} {hp : List (Nat × Blk U)} {r : MR U}
theorem app_inj {α : Type} {a b c d : List α} (h : a ++ c = b ++ d) (hl : a.length = b.length) : a = b ∧ c = d := List.append_inj h hl
theorem view1_ok {v a : AVal U} {w : List (Nat × Blk U) × List (Ob U) × List (Ob U)} (h : view1 hp v a = some w) (e : w.2.1 = w.2.2) {vw : List (Nat × Blk U)} (hw : ∀ x ∈ w.1, x ∈ vw) : View U vw v a ∧ ∀ x ∈ w.1, x ∈ hp := by
  unfold view1 at h
  split at h
  · split at h
    · rename_i hb
      obtain ⟨zs, hzs, h1⟩ := bind_some h
      obtain ⟨ha, h2⟩ := bif_some h1
      rw [Bool.and_eq_true] at ha
      have h3 := beqN ha.1
      have h4 := beqN ha.2
      subst h3 h4
      cases AVal.asP_eq hzs
      cases h2
      simp only [List.cons.injEq, Ob.n.injEq, and_true] at e
      obtain ⟨e1, e2⟩ := e
      cases e2
      subst e1
      exact ⟨.whole (hw _ (.head _)), fun x hx => by rcases List.mem_cons.1 hx with rfl | hx; exact lookA_mem hb; cases hx⟩
    · cases h
  · cases h
    simp only [List.cons.injEq, and_true] at e
    cases e
    exact ⟨.nilL _, fun _ h => by cases h⟩
  · cases h
    simp only [List.cons.injEq, and_true] at e
    cases e
    exact ⟨.nilE, fun _ h => by cases h⟩
  · cases h
    simp only [List.cons.injEq, Ob.v.injEq, and_true] at e
    subst e
    exact ⟨.same _, fun _ h => by cases h⟩
theorem view1_len {v a : AVal U} {w : List (Nat × Blk U) × List (Ob U) × List (Ob U)} (h : view1 hp v a = some w) : w.2.1.length = w.2.2.length := by
  unfold view1 at h
  split at h
  · split at h
    · obtain ⟨zs, hzs, h1⟩ := bind_some h
      obtain ⟨ha, h2⟩ := bif_some h1
      cases h2; rfl
    · cases h
  · cases h; rfl
  · cases h; rfl
  · cases h; rfl
theorem viewsD_len : ∀ {vs as : List (AVal U)} {w : List (Nat × Blk U) × List (Ob U) × List (Ob U)}, viewsD hp vs as = some w → w.2.1.length = w.2.2.length
  | [], [], _, h => by cases h; rfl
  | v :: vs, a :: as, w, h => by
    obtain ⟨x, hx, h1⟩ := bind_some h
    obtain ⟨y, hy, h2⟩ := bind_some h1
    cases h2
    simp only [List.length_append, view1_len hx, viewsD_len hy]
  | [], _ :: _, _, h => by cases h
  | _ :: _, [], _, h => by cases h
theorem viewsD_ok : ∀ {vs as : List (AVal U)} {w : List (Nat × Blk U) × List (Ob U) × List (Ob U)}, viewsD hp vs as = some w → w.2.1 = w.2.2 → ∀ {vw : List (Nat × Blk U)}, (∀ x ∈ w.1, x ∈ vw) → Views U vw vs as ∧ ∀ x ∈ w.1, x ∈ hp
  | [], [], _, h, _, _, _ => by cases h; exact ⟨.nil, fun _ h => by cases h⟩
  | v :: vs, a :: as, w, h, e, vw, hw => by
    obtain ⟨x, hx, h1⟩ := bind_some h
    obtain ⟨y, hy, h2⟩ := bind_some h1
    cases h2
    obtain ⟨e1, e2⟩ := app_inj e (view1_len hx)
    obtain ⟨g1, g2⟩ := view1_ok hx e1 fun z hz => hw z (List.mem_append.2 (.inl hz))
    obtain ⟨g3, g4⟩ := viewsD_ok hy e2 fun z hz => hw z (List.mem_append.2 (.inr hz))
    exact ⟨.cons g1 g3, fun z hz => (List.mem_append.1 hz).elim (g2 z) (g4 z)⟩
  | [], _ :: _, _, h, _, _, _ => by cases h
  | _ :: _, [], _, h, _, _, _ => by cases h
theorem holdD_ok : ∀ {l : List (Nat × Blk U)} {z : List (Ob U) × List (Ob U)}, holdD hp l = some z → z.1 = z.2 → ∀ x ∈ l, x ∈ hp
  | [], _, _, _, _, h => by cases h
  | x :: l, z, h, e, y, hy => by
    obtain ⟨b, hb, h1⟩ := bind_some h
    obtain ⟨w, hw, h2⟩ := bind_some h1
    cases h2
    simp only [List.cons.injEq, Ob.k.injEq] at e
    rcases List.mem_cons.1 hy with rfl | hy
    · have := lookA_mem hb; rw [e.1] at this; exact this
    · exact holdD_ok hw e.2 y hy
theorem holdS_ok {sl : List (Nat × AVal U)} : ∀ {l : List (Nat × AVal U)} {z : List (Ob U) × List (Ob U)}, holdS sl l = some z → z.1 = z.2 → ∀ x ∈ l, x ∈ sl
  | [], _, _, _, _, h => by cases h
  | x :: l, z, h, e, y, hy => by
    obtain ⟨b, hb, h1⟩ := bind_some h
    obtain ⟨w, hw, h2⟩ := bind_some h1
    cases h2
    simp only [List.cons.injEq, Ob.v.injEq] at e
    rcases List.mem_cons.1 hy with rfl | hy
    · have := lookA_mem hb; rw [e.1] at this; exact this
    · exact holdS_ok hw e.2 y hy
theorem holdS_len {sl : List (Nat × AVal U)} : ∀ {l : List (Nat × AVal U)} {z : List (Ob U) × List (Ob U)}, holdS sl l = some z → z.1.length = z.2.length
  | [], _, h => by cases h; rfl
  | x :: l, z, h => by
    obtain ⟨b, hb, h1⟩ := bind_some h
    obtain ⟨w, hw, h2⟩ := bind_some h1
    cases h2
    simp only [List.length_cons, holdS_len hw]
theorem calleeD_ok {x : Operand} {fc : FuncId × List (AVal U)} (h : calleeD rs x = some fc) : Callee U rs x fc.1 fc.2 := by
  unfold calleeD at h
  obtain ⟨v, hv, h1⟩ := bind_some h
  replace hv := opd_ok hv
  split at h1
  · cases h1; exact .clo hv
  · cases h1
theorem stCall_ok (htb : TbOk P U tb) {x : Operand} {as : Array Operand} {ts : Array TypeId} {it : Option (IT U O P ops)} (hg : o.guard = none) (ho : o.op = .call { callee := .value x, args := as, argTypes := ts })
    (h : stCall tb rs hp x as it = some r) (e : r.L = r.R) : OkM U O P ops o rs hp r := by
  unfold stCall at h
  split at h
  · rename_i f c hc
    obtain ⟨fc, hf, h1⟩ := bind_some h
    obtain ⟨ha, h2⟩ := bif_some h1
    rw [Bool.and_eq_true] at ha
    obtain ⟨vs, hvs, h3⟩ := bind_some h2
    obtain ⟨w, hw, h4⟩ := bind_some h3
    obtain ⟨z, hz, h5⟩ := bind_some h4
    obtain ⟨hn, h6⟩ := bif_some h5
    clear h h1 h2 h3 h4 h5
    have hfe : fc.1 = f := beqN ha.1
    have hb : HasBody P f := htb.hb.mem _ (by simpa using ha.2)
    have hcal := calleeD_ok hf
    rw [hfe] at hcal
    have hd : ∀ n ∈ nm w.1, n ∉ nm c.bs := fun n hn' => by
      have := List.all_eq_true.1 hn n hn'
      simpa using this
    cases hfl : w.1.isEmpty || c.flat with
    | true =>
      rw [hfl, cond_true] at h6
      cases h6
      obtain ⟨e1, e2⟩ := app_inj e (viewsD_len hw)
      obtain ⟨g1, g2⟩ := viewsD_ok hw e1 (vw := w.1) fun _ h => h
      refine ⟨sok_callV hg ho hcal hb hc (opdL_ok hvs) g1 hd ?_, fun y hy => (List.mem_append.1 hy).elim (g2 y) (holdD_ok hz e2 y)⟩
      rw [Bool.or_eq_true] at hfl
      exact hfl.imp (fun h => by simpa using h) id
    | false =>
      rw [hfl, cond_false] at h6
      cases h6
      obtain ⟨e1, e2⟩ := app_inj e (viewsD_len hw)
      obtain ⟨g1, g2⟩ := viewsD_ok hw e1 (vw := w.1) fun _ h => h
      exact ⟨sok_callF hg ho hcal hb hc (opdL_ok hvs) g1 hd, fun y hy => (List.mem_append.1 (List.nil_append _ ▸ hy)).elim (g2 y) (holdD_ok hz e2 y)⟩
  · cases h
end

section
variable {U : Univ} {O : Out} {P : Program} {ops : Array Oper}
structure SR (U : Univ) where
  s : LSpec U
  L : List (Ob U) := []
  R : List (Ob U) := []
def MR.sr (rs : List (Nat × AVal U)) (r : MR U) : SR U := ⟨r.spec rs, r.L, r.R⟩
def VR.sr (rs : List (Nat × AVal U)) (r : VR U) : SR U := ⟨{ rs := rs, ws := r.v }, r.L, r.R⟩
def stBuiltin (tb : Tab U) (rs : List (Nat × AVal U)) (hp : List (Nat × Blk U)) (b : Builtin) (as : List Operand) (ts : List TypeId) (d : Option Nat) (it : Option (IT U O P ops)) : Option (MR U) :=
  match b, as, ts with
  | .len, [x], [T] => stLen tb rs hp T x
  | .append, [x, y], [T, T'] => bif T == T' then d.bind fun d => stApp tb rs hp T x y d it else none
  | .delete, [m, x], [T, K] => stDel tb rs hp T K m x
  | _, _, _ => none
def stepD (tb : Tab U) (st : St U) (fact : Nat → Option (IT U O P ops)) (o : Oper) (it : Option (IT U O P ops)) : Option (SR U) :=
  let rs := rsOf st.sl o.op.operands.toList
  match o.op with
  | .move x => some ((stMove rs x).sr rs)
  | .assign x => some ((stMove rs x).sr rs)
  | .pick c x y => (stPick rs (match c with | .tmp t => fact t | _ => none) c x y).bind fun r => some (r.sr rs)
  | .binOp op t x y _ => (stBin tb rs op t x y it).bind fun r => some (r.sr rs)
  | .unOp op _ x => (stUn rs op x).bind fun r => some (r.sr rs)
  | .indexAddr T x y => (stIdxA tb rs T x y it).bind fun r => some (r.sr rs)
  | .index T x y => (stIdx tb rs T x y it).bind fun r => some (r.sr rs)
  | .slice T x lo hi mx => match mx with
    | none => (stSlice tb rs st.hp T x lo hi it).bind fun r => some (r.sr rs)
    | some _ => none
  | .fieldAddr T x f => (stFdA tb rs T x f).bind fun r => some (r.sr rs)
  | .field T x f => (stFd tb rs T x f).bind fun r => some (r.sr rs)
  | .load T x => (stLoad tb rs st.hp T x it).bind fun r => some (r.sr rs)
  | .store T x y => match o.dst with
    | none => (stStore tb rs st.hp T x y it).bind fun r => some (r.sr rs)
    | some _ => none
  | .nilCheck x => (stNil rs x it).bind fun r => some (r.sr rs)
  | .extract x i => (stExt rs x i).bind fun r => some (r.sr rs)
  | .convert T1 T2 x => (stConv tb rs st.hp T1 T2 x).bind fun r => some (r.sr rs)
  | .lookup T m x c => (stLook tb rs st.hp T m x c).bind fun r => some (r.sr rs)
  | .mapUpdate T m x y => match o.dst with
    | none => (stMapU tb rs st.hp T m x y).bind fun r => some (r.sr rs)
    | some _ => none
  | .makeMap T x => match x with
    | none => o.dst.bind fun d => (stMkMap tb T d).bind fun r => some (r.sr rs)
    | some _ => none
  | .makeFunc f fs cs => (stFunc rs f fs cs).bind fun r => some (r.sr rs)
  | .makeSlice T x y => o.dst.bind fun d => (stMkSl tb rs T x y d it).bind fun r => some (r.sr rs)
  | .box T x => o.dst.bind fun d => (stBox tb rs T x d).bind fun r => some (r.sr rs)
  | .alloc T => o.dst.bind fun d => (stAlloc tb T d).bind fun r => some (r.sr rs)
  | .build T ps => (stBuild tb rs T ps).bind fun r => some (r.sr rs)
  | .buildSlice T n ps => o.dst.bind fun d => (stBSl tb rs T n ps d).bind fun r => some (r.sr rs)
  | .call c => match c.callee with
    | .value x => (stCall tb rs st.hp x c.args it).bind fun r => some (r.sr rs)
    | .builtin b => (stBuiltin tb rs st.hp b c.args.toList c.argTypes.toList o.dst it).bind fun r => some (r.sr rs)
    | _ => none
  | _ => none
end

section
variable {U : Univ} {O : Out} {P : Program} {ops : Array Oper} {o : Oper} {tb : Tab U} {st : St U}
theorem rsOf_in {sl : List (Nat × AVal U)} {xs : List Operand} : ∀ x ∈ rsOf sl xs, x ∈ sl := fun _ h => mem_takeA h
abbrev OkS (U : Univ) (O : Out) (P : Program) (ops : Array Oper) (o : Oper) (st : St U) (r : SR U) : Prop :=
  SOk U O P ops o r.s ∧ (∀ x ∈ r.s.rs, x ∈ st.sl) ∧ ∀ x ∈ r.s.ro ++ r.s.cb, x ∈ st.hp
theorem okM_sr {rs : List (Nat × AVal U)} {r : MR U} (h : OkM U O P ops o rs st.hp r) (hr : ∀ x ∈ rs, x ∈ st.sl) : OkS U O P ops o st (r.sr rs) := ⟨h.1, hr, h.2⟩
theorem okV_sr {rs : List (Nat × AVal U)} {r : VR U} (h : SOk U O P ops o { rs := rs, ws := r.v }) (hr : ∀ x ∈ rs, x ∈ st.sl) : OkS U O P ops o st (r.sr rs) := ⟨h, hr, none_in _⟩
theorem arr1 {α : Type} {as : Array α} {x : α} (h : as.toList = [x]) : as = #[x] := by rw [← h]
theorem arr2 {α : Type} {as : Array α} {x y : α} (h : as.toList = [x, y]) : as = #[x, y] := by rw [← h]
theorem stepD_ok (htb : TbOk P U tb) {fact : Nat → Option (IT U O P ops)} {it : Option (IT U O P ops)} {r : SR U} (hg : o.guard = none) (h : stepD tb st fact o it = some r) (e : r.L = r.R) : OkS U O P ops o st r := by
  unfold stepD at h
  dsimp only at h
  generalize hrs : rsOf st.sl o.op.operands.toList = rs at h
  have hr : ∀ x ∈ rs, x ∈ st.sl := hrs ▸ rsOf_in
  clear hrs
  split at h
  · rename_i ho; cases h; exact okM_sr (stMove_ok hg (.inl ho)) hr
  · rename_i ho; cases h; exact okM_sr (stMove_ok hg (.inr ho)) hr
  · rename_i ho; obtain ⟨q, hq, h1⟩ := bind_some h; cases h1; exact okM_sr (stPick_ok hg ho hq e) hr
  · rename_i ho; obtain ⟨q, hq, h1⟩ := bind_some h; cases h1; exact okV_sr (stBin_ok htb hg ho hq e) hr
  · rename_i ho; obtain ⟨q, hq, h1⟩ := bind_some h; cases h1; exact okV_sr (stUn_ok hg ho hq) hr
  · rename_i ho; obtain ⟨q, hq, h1⟩ := bind_some h; cases h1; exact okM_sr (stIdxA_ok htb hg ho hq e) hr
  · rename_i ho; obtain ⟨q, hq, h1⟩ := bind_some h; cases h1; exact okM_sr (stIdx_ok htb hg ho hq e) hr
  · rename_i ho
    split at h
    · obtain ⟨q, hq, h1⟩ := bind_some h; cases h1; exact okM_sr (stSlice_ok htb hg ho hq e) hr
    · cases h
  · rename_i ho; obtain ⟨q, hq, h1⟩ := bind_some h; cases h1; exact okM_sr (stFdA_ok htb hg ho hq) hr
  · rename_i ho; obtain ⟨q, hq, h1⟩ := bind_some h; cases h1; exact okM_sr (stFd_ok htb hg ho hq) hr
  · rename_i ho; obtain ⟨q, hq, h1⟩ := bind_some h; cases h1; exact okM_sr (stLoad_ok htb hg ho hq e) hr
  · rename_i ho
    split at h
    · rename_i hd; obtain ⟨q, hq, h1⟩ := bind_some h; cases h1; exact okM_sr (stStore_ok htb hg hd ho hq e) hr
    · cases h
  · rename_i ho; obtain ⟨q, hq, h1⟩ := bind_some h; cases h1; exact okM_sr (stNil_ok hg ho hq e) hr
  · rename_i ho; obtain ⟨q, hq, h1⟩ := bind_some h; cases h1; exact okM_sr (stExt_ok hg ho hq) hr
  · rename_i ho; obtain ⟨q, hq, h1⟩ := bind_some h; cases h1; exact okM_sr (stConv_ok htb hg ho hq e) hr
  · rename_i ho; obtain ⟨q, hq, h1⟩ := bind_some h; cases h1; exact okM_sr (stLook_ok htb hg ho hq) hr
  · rename_i ho
    split at h
    · rename_i hd; obtain ⟨q, hq, h1⟩ := bind_some h; cases h1; exact okM_sr (stMapU_ok htb hg hd ho hq) hr
    · cases h
  · rename_i ho
    split at h
    · obtain ⟨d, hd, h0⟩ := bind_some h; obtain ⟨q, hq, h1⟩ := bind_some h0; cases h1; exact okM_sr (stMkMap_ok hg hd ho hq) hr
    · cases h
  · rename_i ho; obtain ⟨q, hq, h1⟩ := bind_some h; cases h1; exact okM_sr (stFunc_ok hg ho hq) hr
  · rename_i ho; obtain ⟨d, hd, h0⟩ := bind_some h; obtain ⟨q, hq, h1⟩ := bind_some h0; cases h1; exact okM_sr (stMkSl_ok htb hg hd ho hq e) hr
  · rename_i ho; obtain ⟨d, hd, h0⟩ := bind_some h; obtain ⟨q, hq, h1⟩ := bind_some h0; cases h1; exact okM_sr (stBox_ok hg hd ho hq) hr
  · rename_i ho; obtain ⟨d, hd, h0⟩ := bind_some h; obtain ⟨q, hq, h1⟩ := bind_some h0; cases h1; exact okM_sr (stAlloc_ok htb hg hd ho hq) hr
  · rename_i ho; obtain ⟨q, hq, h1⟩ := bind_some h; cases h1; exact okM_sr (stBuild_ok htb hg ho hq) hr
  · rename_i ho; obtain ⟨d, hd, h0⟩ := bind_some h; obtain ⟨q, hq, h1⟩ := bind_some h0; cases h1; exact okM_sr (stBSl_ok htb hg hd ho hq) hr
  · rename_i c ho
    obtain ⟨cal, as, ts⟩ := c
    dsimp only at h
    split at h
    · obtain ⟨q, hq, h1⟩ := bind_some h; cases h1; exact okM_sr (stCall_ok htb hg ho hq e) hr
    · obtain ⟨q, hq, h1⟩ := bind_some h; cases h1
      refine okM_sr ?_ hr
      unfold stBuiltin at hq
      split at hq
      · rename_i h1 h2
        rw [arr1 h1, arr1 h2] at ho
        exact stLen_ok htb hg ho hq
      · rename_i h1 h2
        obtain ⟨hT, h3⟩ := bif_some hq
        obtain ⟨d, hd, h4⟩ := bind_some h3
        have := beqN hT
        subst this
        rw [arr2 h1, arr2 h2] at ho
        exact stApp_ok htb hg hd ho h4 e
      · rename_i h1 h2
        rw [arr2 h1, arr2 h2] at ho
        exact stDel_ok htb hg ho hq
      · cases hq
    · cases h
  · cases h
end
end Go.AM
