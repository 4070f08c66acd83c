/- A part of my own abstract layer. -/
import Derived.Test.YtlmhnhlmlhfigaaK42AmM3
namespace Go.AM

section
variable (U : Univ)
def dfst {a b : Ty} (x : (Ty.pair a b).den U.T) : a.den U.T := Prod.fst x
def dsnd {a b : Ty} (x : (Ty.pair a b).den U.T) : b.den U.T := Prod.snd x
def dpair {a b : Ty} (x : a.den U.T) (y : b.den U.T) : (Ty.pair a b).den U.T := (x, y)
def compD : Nat → (t : Ty) → t.den U.T → Nat → (t' : Ty) → Option (t'.den U.T)
  | 0, _, _, _, _ => none
  | f + 1, t, x, o, t' => if h : t = t' ∧ o = 0 then some (h.1 ▸ x) else
    match t, x with
    | .pair a b, x => bif Nat.blt o (a.width U.wd) then compD f a (dfst U x) o t' else compD f b (dsnd U x) (o - a.width U.wd) t'
    | .named n, x => compD f (U.body n) (U.out n x) o t'
    | _, _ => none
def setD : Nat → (t : Ty) → t.den U.T → Nat → (t' : Ty) → t'.den U.T → Option (t.den U.T)
  | 0, _, _, _, _, _ => none
  | f + 1, t, x, o, t', z => if h : t' = t ∧ o = 0 then some (h.1 ▸ z) else
    match t, x with
    | .pair a b, x => bif Nat.blt o (a.width U.wd) then (setD f a (dfst U x) o t' z).bind fun y => some (dpair U y (dsnd U x)) else (setD f b (dsnd U x) (o - a.width U.wd) t' z).bind fun y => some (dpair U (dfst U x) y)
    | .named n, x => (setD f (U.body n) (U.out n x) o t' z).bind fun y => some (U.inn n y)
    | _, _ => none
def explD : Nat → (t : Ty) → t.den U.T → List (AVal U)
  | 0, t, x => [.p t x]
  | f + 1, .pair a b, x => explD f a (dfst U x) ++ explD f b (dsnd U x)
  | _ + 1, .unit, _ => []
  | f + 1, .named n, x => explD f (U.body n) (U.out n x)
  | _ + 1, t, x => [.p t x]
def implD : Nat → (t : Ty) → List (AVal U) → Option (t.den U.T × List (AVal U))
  | 0, _, _ => none
  | f + 1, .pair a b, us => (implD f a us).bind fun x => (implD f b x.2).bind fun y => some (dpair U x.1 y.1, y.2)
  | _ + 1, .unit, us => some ((), us)
  | f + 1, .named n, us => (implD f (U.body n) us).bind fun x => some (U.inn n x.1, x.2)
  | _ + 1, t, us => match us with
    | v :: r => (v.asP t).bind fun x => some (x, r)
    | [] => none
def cutU : List (AVal U) → Nat → Option (List (AVal U) × List (AVal U))
  | us, 0 => some ([], us)
  | [], _ + 1 => none
  | v :: us, n + 1 => bif Nat.ble v.wid (n + 1) then (cutU us (n + 1 - v.wid)).bind fun x => some (v :: x.1, x.2) else none
def inU : List (AVal U) → Nat → Option (List (AVal U) × AVal U × Nat × List (AVal U))
  | [], _ => none
  | v :: us, n => bif Nat.blt n v.wid then some ([], v, n, us) else (inU us (n - v.wid)).bind fun x => some (v :: x.1, x.2)
end

section
variable {U : Univ}
theorem blt_no {a b : Nat} (h : Nat.blt a b = false) : ¬ a < b := fun h' => by
  rw [show Nat.blt a b = true from Nat.ble_eq_true_of_le h'] at h; cases h
theorem compD_ok : ∀ (f : Nat) {t : Ty} {x : t.den U.T} {o : Nat} {t' : Ty} {z : t'.den U.T}, compD U f t x o t' = some z → Comp U t x o t' z
  | 0, _, _, _, _, _, h => by cases h
  | f + 1, t, x, o, t', z, h => by
    by_cases e : t = t' ∧ o = 0
    · unfold compD at h; rw [dif_pos e] at h
      obtain ⟨rfl, rfl⟩ := e; cases h; exact .here _ _
    · unfold compD at h; rw [dif_neg e] at h
      cases t with
      | pair a b =>
        have h : (bif Nat.blt o (a.width U.wd) then compD U f a (dfst U x) o t' else compD U f b (dsnd U x) (o - a.width U.wd) t') = some z := h
        cases hb : Nat.blt o (a.width U.wd) with
        | true => rw [hb, cond_true] at h; exact .fst (compD_ok f h)
        | false => rw [hb, cond_false] at h; exact .snd (compD_ok f h) (by have := blt_no hb; omega)
      | named n => exact .named (compD_ok f h)
      | _ => cases h
theorem setD_ok : ∀ (f : Nat) {t : Ty} {x : t.den U.T} {o : Nat} {t' : Ty} {z : t'.den U.T} {y : t.den U.T}, setD U f t x o t' z = some y → CompS U t x o t' z y
  | 0, _, _, _, _, _, _, h => by cases h
  | f + 1, t, x, o, t', z, y, h => by
    by_cases e : t' = t ∧ o = 0
    · unfold setD at h; rw [dif_pos e] at h
      obtain ⟨rfl, rfl⟩ := e; cases h; exact .here
    · unfold setD at h; rw [dif_neg e] at h
      cases t with
      | pair a b =>
        have h : (bif Nat.blt o (a.width U.wd) then (setD U f a (dfst U x) o t' z).bind fun y => some (dpair U y (dsnd U x)) else (setD U f b (dsnd U x) (o - a.width U.wd) t' z).bind fun y => some (dpair U (dfst U x) y)) = some y := h
        cases hb : Nat.blt o (a.width U.wd) with
        | true =>
          rw [hb, cond_true] at h
          obtain ⟨y', h1, h2⟩ := bind_some h
          cases h2; exact .fst (setD_ok f h1)
        | false =>
          rw [hb, cond_false] at h
          obtain ⟨y', h1, h2⟩ := bind_some h
          cases h2; exact .snd (setD_ok f h1) (by have := blt_no hb; omega)
      | named n =>
        have h : ((setD U f (U.body n) (U.out n x) o t' z).bind fun y => some (U.inn n y)) = some y := h
        obtain ⟨y', h1, h2⟩ := bind_some h
        cases h2; exact .named (by rw [U.out_inn]; exact setD_ok f h1)
      | _ => cases h
theorem explD_ok : ∀ (f : Nat) (t : Ty) (x : t.den U.T), Expl U t x (explD U f t x)
  | 0, t, x => .one _ _
  | f + 1, t, x => by
    cases t with
    | pair a b => exact .pair (explD_ok f a (dfst U x)) (explD_ok f b (dsnd U x))
    | unit => exact .unit
    | named n => exact .named (explD_ok f _ _)
    | _ => exact .one _ _
theorem implOne {t : Ty} {us r : List (AVal U)} {x : t.den U.T} (h : (match us with | v :: r => (v.asP t).bind fun x => some (x, r) | [] => none) = some (x, r)) : ∃ ms, us = ms ++ r ∧ Expl U t x ms := by
  cases us with
  | nil => cases h
  | cons v us =>
    obtain ⟨y, h1, h2⟩ := bind_some h
    cases h2
    rw [AVal.asP_eq h1]
    exact ⟨[_], rfl, .one _ _⟩
theorem implD_ok : ∀ (f : Nat) {t : Ty} {us r : List (AVal U)} {x : t.den U.T}, implD U f t us = some (x, r) → ∃ ms, us = ms ++ r ∧ Expl U t x ms
  | 0, _, _, _, _, h => by cases h
  | f + 1, t, us, r, x, h => by
    cases t with
    | pair a b =>
      have h : ((implD U f a us).bind fun x => (implD U f b x.2).bind fun y => some (dpair U x.1 y.1, y.2)) = some (x, r) := h
      obtain ⟨y, h1, h2⟩ := bind_some h
      obtain ⟨y', h3, h4⟩ := bind_some h2
      obtain ⟨m1, e1, g1⟩ := implD_ok f h1
      obtain ⟨m2, e2, g2⟩ := implD_ok f h3
      cases h4
      exact ⟨m1 ++ m2, by rw [e1, e2, List.append_assoc], .pair g1 g2⟩
    | unit => cases h; exact ⟨[], rfl, .unit⟩
    | named n =>
      have h : ((implD U f (U.body n) us).bind fun x => some (U.inn n x.1, x.2)) = some (x, r) := h
      obtain ⟨y, h1, h2⟩ := bind_some h
      obtain ⟨m1, e1, g1⟩ := implD_ok f h1
      cases h2
      exact ⟨m1, e1, .named (by rw [U.out_inn]; exact g1)⟩
    | _ => exact implOne h
theorem cutU_ok : ∀ {us : List (AVal U)} {n : Nat} {a b : List (AVal U)}, cutU U us n = some (a, b) → us = a ++ b ∧ unitsW a = n
  | us, 0, _, _, h => by unfold cutU at h; cases h; exact ⟨rfl, rfl⟩
  | [], _ + 1, _, _, h => by cases h
  | v :: us, n + 1, a, b, h => by
    unfold cutU at h
    obtain ⟨h1, h2⟩ := bif_some h
    obtain ⟨y, h3, h4⟩ := bind_some h2
    cases h4
    obtain ⟨e1, e2⟩ := cutU_ok h3
    have := Nat.le_of_ble_eq_true h1
    exact ⟨by rw [List.cons_append, ← e1], by simp only [unitsW, List.map_cons, List.sum_cons] at e2 ⊢; omega⟩
theorem inU_ok : ∀ {us : List (AVal U)} {n : Nat} {a : List (AVal U)} {v : AVal U} {k : Nat} {b : List (AVal U)}, inU U us n = some (a, v, k, b) → us = a ++ [v] ++ b ∧ n = unitsW a + k
  | [], _, _, _, _, _, h => by cases h
  | v :: us, n, a, v', k, b, h => by
    unfold inU at h
    cases hb : Nat.blt n v.wid with
    | true => rw [hb, cond_true] at h; cases h; exact ⟨rfl, by simp [unitsW]⟩
    | false =>
      rw [hb, cond_false] at h
      obtain ⟨⟨y1, y2, y3, y4⟩, h3, h4⟩ := bind_some h
      cases h4
      obtain ⟨e1, e2⟩ := inU_ok h3
      have := blt_no hb
      exact ⟨by rw [e1]; rfl, by simp only [unitsW, List.map_cons, List.sum_cons] at e2 ⊢; omega⟩

def madeD (t : Ty) (us : List (AVal U)) : Option (AVal U) :=
  match t with
  | .named n => match implD U 32 (.named n) us with
    | some (x, []) => some (.p (.named n) x)
    | _ => some (.agg us)
  | t => match us with
    | [v] => match v.asP t with
      | some x => some (.p t x)
      | none => bif t.isAgg then some (.agg us) else bif v.isHand then some v else none
    | us => bif t.isAgg then some (.agg us) else none
theorem madeD_ok {t : Ty} {us : List (AVal U)} {v : AVal U} (h : madeD t us = some v) : Made U t us v := by
  unfold madeD at h
  split at h
  · split at h
    · rename_i he
      obtain ⟨m, e, g⟩ := implD_ok _ he
      rw [List.append_nil] at e
      cases h; rw [e]; exact .data g
    · cases h; exact .agg rfl
  · split at h
    · split at h
      · rename_i he; cases h; rw [AVal.asP_eq he]; exact .data (.one _ _)
      · rename_i _ _ _ v' _
        cases ha : t.isAgg with
        | true => rw [ha] at h; cases h; exact .agg ha
        | false =>
          rw [ha, cond_false] at h
          obtain ⟨h1, h2⟩ := bif_some h
          cases h2; exact .hand h1 ha
    · obtain ⟨h1, h2⟩ := bif_some h
      cases h2; exact .agg h1
def unitsD (v : AVal U) : Option (List (AVal U)) :=
  match v with
  | .p t x => some (explD U 32 t x)
  | .agg us => some us
  | v => bif v.unit then some [v] else none
theorem unitsD_ok {v : AVal U} {us : List (AVal U)} (h : unitsD v = some us) : Units U v us := by
  unfold unitsD at h
  split at h
  · cases h; exact .data (explD_ok _ _ _)
  · cases h; exact .agg
  · obtain ⟨h1, h2⟩ := bif_some h
    cases h2; exact .hand h1

variable {O : Out} {P : Program} {ops : Array Oper} {o : Oper} {rs : List (Nat × AVal U)} {tb : Tab U}
theorem SOk.ws {s : LSpec U} {v : AVal U} (h : SOk U O P ops o s) (hv : ∀ S ι w u, VV U O S ι w s.ws u → VV U O S ι w v u) : SOk U O P ops o { s with ws := v } :=
  fun S ι w a h1 h2 h3 h4 h5 h6 K Q hK => h S ι w a h1 h2 h3 h4 h5 h6 K Q fun u S' ι' w' hN hu => hK u S' ι' w' ⟨hN.os, hN.tape, hN.output, hN.size, hN.sub, hN.new, hN.lt, hN.keep, hN.lay, hN.blk, hN.plc, hN.sep⟩ (hv _ _ _ _ hu)

theorem sok_indexA2 {T E : TypeId} {t : Ty} {n off N : Nat} {x y : Operand} {k : IntKind} {i : Int} (hg : o.guard = none) (ho : o.op = .indexAddr T x y) (hT : P.underlying T = some (.array N E)) (hE : TyOk P U E t)
    (hx : Opd U rs x (.loc n off)) (hq : off % t.width U.wd = 0) (hy : Opd U rs y (.p (.int k) i)) (hi : 0 ≤ i ∧ i < (N : Int)) :
    SOk U O P ops o { rs := rs, ws := .eloc n (t.width U.wd) i.toNat off } := by
  have hq' : off = off / t.width U.wd * t.width U.wd := by have := Nat.div_add_mod off (t.width U.wd); rw [hq, Nat.mul_comm] at this; exact this.symm
  refine SOk.ws (sok_indexA hg ho hT hE hx hq' hy hi) fun S ι w u h => ?_
  obtain ⟨b, c, h1, h2⟩ := h
  refine ⟨b, c, h1, ?_⟩
  rw [h2]
  have : (off / t.width U.wd + i.toNat) * t.width U.wd + 0 = i.toNat * t.width U.wd + off := by rw [Nat.add_mul, ← hq']; omega
  rw [this]
end
end Go.AM
namespace Go.AM

structure MR (U : Univ) where
  v : AVal U := .junk
  ro : List (Nat × Blk U) := []
  cb : List (Nat × Blk U) := []
  pb : List (Nat × Blk U) := []
  nn : List Nat := []
  L : List (Ob U) := []
  R : List (Ob U) := []
def MR.spec {U : Univ} (r : MR U) (rs : List (Nat × AVal U)) : LSpec U := { rs := rs, ro := r.ro, cb := r.cb, ws := r.v, pb := r.pb, nn := r.nn }

section
variable {U : Univ} {O : Out} {P : Program} {ops : Array Oper}
def bdOf (rs : List (Nat × AVal U)) (d : Int) : Option Operand → Option Int
  | none => some d
  | some x => (opd rs x).bind fun v => v.int?.bind fun k => some k.2
def stMove (rs : List (Nat × AVal U)) (x : Operand) : MR U := { v := (opd rs x).getD .junk }
def stPick (rs : List (Nat × AVal U)) (kn : Option (IT U O P ops)) (c x y : Operand) : Option (MR U) :=
  (opd rs c).bind fun vc => vc.bool?.bind fun b => match kn with
    | some (@IT.t _ _ _ _ b' _) => (opd rs x).bind fun v => some { v := v, L := [.b b], R := [.b b'] }
    | some (@IT.f _ _ _ _ b' _) => (opd rs y).bind fun v => some { v := v, L := [.b b], R := [.b b'] }
    | _ => match b with
      | true => (opd rs x).bind fun v => some { v := v }
      | false => (opd rs y).bind fun v => some { v := v }
def stIdxA (tb : Tab U) (rs : List (Nat × AVal U)) (T : TypeId) (x y : Operand) (it : Option (IT U O P ops)) : Option (MR U) :=
  (opd rs x).bind fun vx => (opd rs y).bind fun vy => vy.int?.bind fun i => match vx, it with
    | .p (.list t) xs, some (@IT.v _ _ _ _ t2 q e _) => (lookA tb.sl T).bind fun s => bif decide (s.2 = t) then some { v := .pp t2 e, L := [.o t2 q], R := [.o t (idx xs i.2)] } else none
    | .vec n wd off len, some (@IT.g _ _ _ _ p _) => (lookA tb.sl T).bind fun s => bif wd == s.2.width U.wd then some { v := .eloc n wd (off + i.2.toNat) 0, L := [.p p], R := [.p (0 ≤ i.2 ∧ i.2 < (len : Int))] } else none
    | .loc n off, some (@IT.g _ _ _ _ p _) => (tb.un T).bind fun d => match d with
      | .array N E => (lookA tb.ty E).bind fun t => bif off % t.width U.wd == 0 then some { v := .eloc n (t.width U.wd) i.2.toNat off, L := [.p p], R := [.p (0 ≤ i.2 ∧ i.2 < (N : Int))] } else none
      | _ => none
    | _, _ => none
def stIdx (tb : Tab U) (rs : List (Nat × AVal U)) (T : TypeId) (x y : Operand) (it : Option (IT U O P ops)) : Option (MR U) :=
  (opd rs x).bind fun vx => (opd rs y).bind fun vy => vy.int?.bind fun i => match vx, it with
    | .p .str s, some (@IT.u _ _ _ _ q c _) => bif isStrD (tb.un T) then some { v := .p (.int .u8) (c.toNat : Int), L := [.u q], R := [.u (idx s i.2)] } else none
    | .p (.arr N t) xs, some (@IT.v _ _ _ _ t2 q e _) => (tb.un T).bind fun d => match d with
      | .array N' E => (lookA tb.ty E).bind fun t' => bif N' == N && decide (t' = t) then some { v := .p t2 e, L := [.o t2 q], R := [.o t (idx xs i.2)] } else none
      | _ => none
    | _, _ => none
def stSlice (tb : Tab U) (rs : List (Nat × AVal U)) (hp : List (Nat × Blk U)) (T : TypeId) (x : Operand) (lo hi : Option Operand) (it : Option (IT U O P ops)) : Option (MR U) :=
  (opd rs x).bind fun vx => (bdOf rs 0 lo).bind fun l => match vx with
    | .p .str s => (bdOf rs (s.length : Int) hi).bind fun h => match it with
      | some (@IT.v _ _ _ _ t2 q e _) => bif isStrD (tb.un T) then some { v := .p t2 e, L := [.o t2 q], R := [.o .str (sub s l h)] } else none
      | _ => none
    | .p (.list t) s => (bdOf rs ((s : List (t.den U.T)).length : Int) hi).bind fun h => match it with
      | some (@IT.v _ _ _ _ t2 q e _) => (lookA tb.sl T).bind fun z => bif decide (z.2 = t) then some { v := .p t2 e, L := [.o t2 q], R := [.o (.list t) (sub s l h)] } else none
      | _ => none
    | .vec n wd off len => (bdOf rs (len : Int) hi).bind fun h => match it with
      | some (@IT.g _ _ _ _ p _) => (lookA tb.sl T).bind fun z => match lookA hp n with
        | some (.row E t xs fx) => bif decide (z = (E, t)) && wd == t.width U.wd then some { v := .vec n wd (off + l.toNat) (h.toNat - l.toNat), ro := [(n, .row E t xs fx)], L := [.p p], R := [.p (0 ≤ l ∧ l ≤ h ∧ off + h.toNat ≤ xs.length)] } else none
        | _ => none
      | _ => none
    | .lit (.slice none 0 0) => (bdOf rs 0 hi).bind fun h => (lookA tb.sl T).bind fun _ => some { v := .lit (.slice none 0 0), L := [.n l.natAbs, .n h.natAbs], R := [.n 0, .n 0] }
    | _ => none
def lookF : List (TypeId × Nat × Nat × Ty) → Nat → Nat → Option (Nat × Ty)
  | [], _, _ => none
  | x :: l, T, f => bif x.1 == T && x.2.1 == f then some x.2.2 else lookF l T f
def fdOf (tb : Tab U) (T : TypeId) (f : Nat) : Option (Nat × Ty) := lookF tb.fd T f
def stFdA (tb : Tab U) (rs : List (Nat × AVal U)) (T : TypeId) (x : Operand) (f : Nat) : Option (MR U) :=
  (opd rs x).bind fun vx => (fdOf tb T f).bind fun y => bif y.2.width U.wd == 0 then none else match vx with
    | .pp t X => (compD U 32 t X y.1 y.2).bind fun z => some { v := .pp y.2 z }
    | .loc n b => some { v := .loc n (b + y.1) }
    | .eloc n wd i b => some { v := .eloc n wd i (b + y.1) }
    | _ => none
def stFd (tb : Tab U) (rs : List (Nat × AVal U)) (T : TypeId) (x : Operand) (f : Nat) : Option (MR U) :=
  (opd rs x).bind fun vx => (fdOf tb T f).bind fun y => match vx with
    | .p t X => bif t.isAgg then (compD U 32 t X y.1 y.2).bind fun z => some { v := .p y.2 z } else none
    | _ => none
def allU (us : List (AVal U)) : Bool := us.all AVal.unit
def ldBox (us : List (AVal U)) (n off : Nat) (t : Ty) : Option (MR U) :=
  match (cutU U us off).bind fun x => (cutU U x.2 (t.width U.wd)).bind fun y => some (x.1, y.1, y.2) with
  | some (pre, mid, post) => bif allU pre && allU mid then (madeD t mid).bind fun v => some { v := v, ro := [(n, .box (pre ++ mid ++ post))] } else none
  | none => (inU U us off).bind fun x => match x with
    | (pre, .p t0 X, k, post) => bif allU pre then (compD U 32 t0 X k t).bind fun z => some { v := .p t z, ro := [(n, .box (pre ++ [.p t0 X] ++ post))] } else none
    | _ => none
def stLoad (tb : Tab U) (rs : List (Nat × AVal U)) (hp : List (Nat × Blk U)) (T : TypeId) (x : Operand) (it : Option (IT U O P ops)) : Option (MR U) :=
  (opd rs x).bind fun vx => (lookA tb.ty T).bind fun t => match vx with
    | .pp t' X => (AVal.asP t (.p t' X)).bind fun z => some { v := .p t z }
    | .loc n off => match lookA hp n with
      | some (.box us) => ldBox us n off t
      | _ => none
    | .eloc n wd i off => match lookA hp n, it with
      | some (.row E t0 xs fx), some (@IT.v _ _ _ _ t2 q e _) => bif wd == t0.width U.wd then (compD U 32 t2 e off t).bind fun z => some { v := .p t z, ro := [(n, .row E t0 xs fx)], L := [.o t2 q], R := [.o t0 xs[i]?] } else none
      | some (.box us), some (@IT.v _ _ _ _ t2 q e _) => (inU U us off).bind fun x => match x with
        | (pre, .p (.arr N te) X, k, post) => bif allU pre && wd == te.width U.wd then (compD U 32 t2 e k t).bind fun z => some { v := .p t z, ro := [(n, .box (pre ++ [.p (.arr N te) X] ++ post))], L := [.o t2 q], R := [.o te (getElem? (coll := List (te.den U.T)) X i)] } else none
        | _ => none
      | _, _ => none
    | _ => none
end

section
variable {U : Univ} {O : Out} {P : Program} {ops : Array Oper} {o : Oper} {rs : List (Nat × AVal U)} {tb : Tab U} {hp : List (Nat × Blk U)} {r : MR U}
theorem ob_o {t t' : Ty} {x : Option (t.den U.T)} {y : Option (t'.den U.T)} (h : Ob.o t x = Ob.o t' y) : ∃ e : t = t', e ▸ x = y := by
  cases h; exact ⟨rfl, rfl⟩
theorem beqN {a b : Nat} (h : (a == b) = true) : a = b := by simpa using h
theorem TbOk.ty' (ht : TbOk P U tb) {T : TypeId} {d : Ty} (h : lookA tb.ty T = some d) : TyOk P U T d := ht.ty.mem _ (lookA_mem h)
theorem TbOk.sl' (ht : TbOk P U tb) {T : TypeId} {d : TypeId × Ty} (h : lookA tb.sl T = some d) : SlOk P U T d.1 d.2 := ht.sl.mem _ (lookA_mem h)
theorem TbOk.ro' (ht : TbOk P U tb) {T : TypeId} {d : TypeId × Ty × Nat} (h : lookA tb.ro T = some d) : RowOk P U T d.1 d.2.1 d.2.2 := ht.ro.mem _ (lookA_mem h)
theorem lookF_mem : ∀ {l : List (TypeId × Nat × Nat × Ty)} {T f : Nat} {d : Nat × Ty}, lookF l T f = some d → ∃ x ∈ l, x.1 = T ∧ x.2.1 = f ∧ x.2.2 = d
  | [], _, _, _, h => by cases h
  | x :: l, T, f, d, h => by
    unfold lookF at h
    cases hb : x.1 == T && x.2.1 == f with
    | true =>
      rw [hb, cond_true] at h
      rw [Bool.and_eq_true] at hb
      exact ⟨x, .head _, beqN hb.1, beqN hb.2, Option.some.inj h⟩
    | false =>
      rw [hb, cond_false] at h
      obtain ⟨y, hy, h1⟩ := lookF_mem h
      exact ⟨y, .tail _ hy, h1⟩
theorem TbOk.fd' (ht : TbOk P U tb) {T : TypeId} {f : Nat} {d : Nat × Ty} (h : fdOf tb T f = some d) : ∃ F, FdOk P U T f d.1 F d.2 := by
  obtain ⟨x, hx, rfl, rfl, rfl⟩ := lookF_mem h
  exact ht.fd.mem _ hx
theorem TbOk.str' (ht : TbOk P U tb) {T : TypeId} (h : isStrD (tb.un T) = true) : P.underlying T = some .string := by
  unfold isStrD at h; split at h
  · exact ht.un' (by assumption)
  · cases h
theorem none_in {α : Type} (l : List α) : ∀ x ∈ ([] : List α) ++ [], x ∈ l := fun _ h => by cases h
theorem one_in {α : Type} {y : α} {l : List α} (h : y ∈ l) : ∀ x ∈ [y] ++ ([] : List α), x ∈ l := fun _ hx => by
  rcases List.mem_cons.1 hx with rfl | hx
  · exact h
  · cases hx
theorem one_in' {α : Type} {y : α} {l : List α} (h : y ∈ l) : ∀ x ∈ ([] : List α) ++ [y], x ∈ l := one_in h

abbrev OkM (U : Univ) (O : Out) (P : Program) (ops : Array Oper) (o : Oper) (rs : List (Nat × AVal U)) (hp : List (Nat × Blk U)) (r : MR U) : Prop :=
  SOk U O P ops o (r.spec rs) ∧ ∀ x ∈ r.ro ++ r.cb, x ∈ hp

theorem stMove_ok {x : Operand} (hg : o.guard = none) (ho : o.op = .move x ∨ o.op = .assign x) : OkM U O P ops o rs hp (stMove rs x) := by
  refine ⟨?_, none_in _⟩
  unfold stMove MR.spec
  cases h : opd rs x with
  | none => exact sok_move hg ho (.junk _ _)
  | some v => exact sok_move hg ho (opd_ok h)
theorem stPick_ok {c x y : Operand} {kn : Option (IT U O P ops)} (hg : o.guard = none) (ho : o.op = .pick c x y) (h : stPick rs kn c x y = some r) (e : r.L = r.R) : OkM U O P ops o rs hp r := by
  unfold stPick at h
  obtain ⟨vc, hc, h1⟩ := bind_some h
  obtain ⟨b, hb, h2⟩ := bind_some h1
  replace hc := opd_ok hc
  rw [AVal.bool?_eq hb] at hc
  clear h h1
  split at h2
  · rename_i b' hb'
    obtain ⟨v, hv, h3⟩ := bind_some h2
    cases h3; simp only [List.cons.injEq, Ob.b.injEq, and_true] at e
    exact ⟨sok_pickT hg ho hc (e.trans hb') (opd_ok hv), none_in _⟩
  · rename_i b' hb'
    obtain ⟨v, hv, h3⟩ := bind_some h2
    cases h3; simp only [List.cons.injEq, Ob.b.injEq, and_true] at e
    exact ⟨sok_pickF hg ho hc (e.trans hb') (opd_ok hv), none_in _⟩
  · split at h2
    · obtain ⟨v, hv, h3⟩ := bind_some h2
      cases h3; exact ⟨sok_pickT hg ho hc rfl (opd_ok hv), none_in _⟩
    · obtain ⟨v, hv, h3⟩ := bind_some h2
      cases h3; exact ⟨sok_pickF hg ho hc rfl (opd_ok hv), none_in _⟩
theorem stIdxA_ok (htb : TbOk P U tb) {T : TypeId} {x y : Operand} {it : Option (IT U O P ops)} (hg : o.guard = none) (ho : o.op = .indexAddr T x y) (h : stIdxA tb rs T x y it = some r) (e : r.L = r.R) : OkM U O P ops o rs hp r := by
  unfold stIdxA at h
  obtain ⟨vx, hx, h1⟩ := bind_some h
  obtain ⟨vy, hy, h2⟩ := bind_some h1
  obtain ⟨⟨k, i⟩, hi, h3⟩ := bind_some h2
  replace hx := opd_ok hx
  replace hy := opd_ok hy
  rw [AVal.int?_eq hi] at hy
  clear h h1 h2
  split at h3
  · rename_i hq
    obtain ⟨s, hs, h4⟩ := bind_some h3
    obtain ⟨hd, h5⟩ := bif_some h4
    have hd := of_decide_eq_true hd
    subst hd; cases h5
    simp only [List.cons.injEq, and_true] at e
    obtain ⟨rfl, e⟩ := ob_o e
    exact ⟨sok_indexL hg ho (htb.sl' hs) hx hy (e.symm.trans hq), none_in _⟩
  · rename_i hp
    obtain ⟨s, hs, h4⟩ := bind_some h3
    obtain ⟨hd, h5⟩ := bif_some h4
    have hd := beqN hd
    subst hd; cases h5
    simp only [List.cons.injEq, Ob.p.injEq, and_true] at e
    exact ⟨sok_indexV hg ho (htb.sl' hs) hx hy (e ▸ hp), none_in _⟩
  · rename_i hp
    obtain ⟨d, hd, h4⟩ := bind_some h3
    clear h3
    split at h4
    · obtain ⟨t, ht, h5⟩ := bind_some h4
      obtain ⟨hm, h6⟩ := bif_some h5
      cases h6
      simp only [List.cons.injEq, Ob.p.injEq, and_true] at e
      exact ⟨sok_indexA2 hg ho (htb.un' hd) (htb.ty' ht) hx (beqN hm) hy (e ▸ hp), none_in _⟩
    · cases h4
  · cases h3
theorem stIdx_ok (htb : TbOk P U tb) {T : TypeId} {x y : Operand} {it : Option (IT U O P ops)} (hg : o.guard = none) (ho : o.op = .index T x y) (h : stIdx tb rs T x y it = some r) (e : r.L = r.R) : OkM U O P ops o rs hp r := by
  unfold stIdx at h
  obtain ⟨vx, hx, h1⟩ := bind_some h
  obtain ⟨vy, hy, h2⟩ := bind_some h1
  obtain ⟨⟨k, i⟩, hi, h3⟩ := bind_some h2
  replace hx := opd_ok hx
  replace hy := opd_ok hy
  rw [AVal.int?_eq hi] at hy
  clear h h1 h2
  split at h3
  · rename_i hq
    obtain ⟨hs, h4⟩ := bif_some h3
    cases h4
    simp only [List.cons.injEq, Ob.u.injEq, and_true] at e
    exact ⟨sok_indexS hg ho (htb.str' hs) hx hy (e.symm.trans hq), none_in _⟩
  · rename_i hq
    obtain ⟨d, hd, h4⟩ := bind_some h3
    clear h3
    split at h4
    · obtain ⟨t', ht, h5⟩ := bind_some h4
      obtain ⟨hm, h6⟩ := bif_some h5
      rw [Bool.and_eq_true] at hm
      have h7 := beqN hm.1
      have h8 := of_decide_eq_true hm.2
      subst h7 h8
      cases h6
      simp only [List.cons.injEq, and_true] at e
      obtain ⟨rfl, e⟩ := ob_o e
      exact ⟨sok_indexR hg ho (htb.un' hd) (htb.ty' ht) hx hy (e.symm.trans hq), none_in _⟩
    · cases h4
  · cases h3
theorem bdOf_ok {d n : Int} {x : Option Operand} (h : bdOf rs d x = some n) : Bd U rs d x n := by
  cases x with
  | none => cases h; exact .no
  | some x =>
    obtain ⟨v, hv, h1⟩ := bind_some h
    obtain ⟨⟨k, i⟩, hi, h3⟩ := bind_some h1
    cases h3
    have hv := opd_ok hv
    rw [AVal.int?_eq hi] at hv
    exact .at hv
theorem stSlice_ok (htb : TbOk P U tb) {T : TypeId} {x : Operand} {lo hi : Option Operand} {it : Option (IT U O P ops)} (hg : o.guard = none) (ho : o.op = .slice T x lo hi none) (h : stSlice tb rs hp T x lo hi it = some r) (e : r.L = r.R) : OkM U O P ops o rs hp r := by
  unfold stSlice at h
  obtain ⟨vx, hx, h1⟩ := bind_some h
  obtain ⟨l, hl, h2⟩ := bind_some h1
  replace hx := opd_ok hx
  replace hl := bdOf_ok hl
  clear h h1
  split at h2
  · obtain ⟨n, hh, h3⟩ := bind_some h2
    replace hh := bdOf_ok hh
    clear h2
    split at h3
    · rename_i hq
      obtain ⟨hs, h4⟩ := bif_some h3
      cases h4
      simp only [List.cons.injEq, and_true] at e
      obtain ⟨rfl, e⟩ := ob_o e
      exact ⟨sok_sliceS hg ho (htb.str' hs) hx hl hh (e.symm.trans hq), none_in _⟩
    · cases h3
  · obtain ⟨n, hh, h3⟩ := bind_some h2
    replace hh := bdOf_ok hh
    clear h2
    split at h3
    · rename_i hq
      obtain ⟨z, hs, h4⟩ := bind_some h3
      obtain ⟨hd, h5⟩ := bif_some h4
      have hd := of_decide_eq_true hd
      subst hd; cases h5
      simp only [List.cons.injEq, and_true] at e
      obtain ⟨rfl, e⟩ := ob_o e
      exact ⟨sok_sliceL hg ho (htb.sl' hs) hx hl hh (e.symm.trans hq), none_in _⟩
    · cases h3
  · obtain ⟨n', hh, h3⟩ := bind_some h2
    replace hh := bdOf_ok hh
    clear h2
    split at h3
    · rename_i hp'
      obtain ⟨z, hs, h4⟩ := bind_some h3
      clear h3
      split at h4
      · rename_i hb
        obtain ⟨hm, h5⟩ := bif_some h4
        rw [Bool.and_eq_true] at hm
        have h7 := of_decide_eq_true hm.1
        have h8 := beqN hm.2
        subst h7 h8
        cases h5
        simp only [List.cons.injEq, Ob.p.injEq, and_true] at e
        have hp' := e ▸ hp'
        exact ⟨sok_sliceV hg ho (htb.sl' hs) hx hl hh hp'.1 hp'.2.1 hp'.2.2, one_in (lookA_mem hb)⟩
      · cases h4
    · cases h3
  · obtain ⟨n', hh, h3⟩ := bind_some h2
    replace hh := bdOf_ok hh
    obtain ⟨z, hs, h4⟩ := bind_some h3
    cases h4
    simp only [List.cons.injEq, Ob.n.injEq, and_true] at e
    obtain rfl : l = 0 := by omega
    obtain rfl : n' = 0 := by omega
    exact ⟨sok_sliceNil hg ho (htb.sl' hs) hx hl hh, none_in _⟩
  · cases h2
theorem stFdA_ok (htb : TbOk P U tb) {T : TypeId} {x : Operand} {f : Nat} (hg : o.guard = none) (ho : o.op = .fieldAddr T x f) (h : stFdA tb rs T x f = some r) : OkM U O P ops o rs hp r := by
  unfold stFdA at h
  obtain ⟨vx, hx, h1⟩ := bind_some h
  obtain ⟨y, hf, h2⟩ := bind_some h1
  replace hx := opd_ok hx
  obtain ⟨F, hF⟩ := htb.fd' hf
  cases hw : y.2.width U.wd == 0 with
  | true => rw [hw] at h2; cases h2
  | false =>
    have hw' : y.2.width U.wd ≠ 0 := by simpa using hw
    rw [hw, cond_false] at h2
    clear h h1
    split at h2
    · obtain ⟨z, hz, h3⟩ := bind_some h2
      cases h3; exact ⟨sok_fieldP hg ho hF hw' hx (compD_ok _ hz), none_in _⟩
    · cases h2; exact ⟨sok_fieldB hg ho hF hw' hx, none_in _⟩
    · cases h2; exact ⟨sok_fieldE hg ho hF hw' hx, none_in _⟩
    · cases h2
theorem stFd_ok (htb : TbOk P U tb) {T : TypeId} {x : Operand} {f : Nat} (hg : o.guard = none) (ho : o.op = .field T x f) (h : stFd tb rs T x f = some r) : OkM U O P ops o rs hp r := by
  unfold stFd at h
  obtain ⟨vx, hx, h1⟩ := bind_some h
  obtain ⟨y, hf, h2⟩ := bind_some h1
  replace hx := opd_ok hx
  obtain ⟨F, hF⟩ := htb.fd' hf
  clear h h1
  split at h2
  · obtain ⟨ha, h3⟩ := bif_some h2
    obtain ⟨z, hz, h4⟩ := bind_some h3
    cases h4; exact ⟨sok_field hg ho hF ha hx (compD_ok _ hz), none_in _⟩
  · cases h2
theorem cut2_ok {us pre mid post : List (AVal U)} {off w : Nat} (h : ((cutU U us off).bind fun x => (cutU U x.2 w).bind fun y => some (x.1, y.1, y.2)) = some (pre, mid, post)) : us = pre ++ mid ++ post ∧ unitsW pre = off ∧ unitsW mid = w := by
  obtain ⟨⟨a, b⟩, h1, h2⟩ := bind_some h
  obtain ⟨⟨c, d⟩, h3, h4⟩ := bind_some h2
  cases h4
  obtain ⟨e1, e2⟩ := cutU_ok h1
  obtain ⟨e3, e4⟩ := cutU_ok h3
  exact ⟨by rw [e1, show b = c ++ d from e3, List.append_assoc], e2, e4⟩
theorem ldBox_ok {T : TypeId} {t : Ty} {x : Operand} {us : List (AVal U)} {n off : Nat} (hg : o.guard = none) (ho : o.op = .load T x) (ht : TyOk P U T t) (hx : Opd U rs x (.loc n off)) (hb : (n, Blk.box us) ∈ hp) (h : ldBox us n off t = some r) : OkM U O P ops o rs hp r := by
  unfold ldBox at h
  split at h
  · rename_i hc
    obtain ⟨e1, e2, e3⟩ := cut2_ok hc
    obtain ⟨ha, h1⟩ := bif_some h
    rw [Bool.and_eq_true] at ha
    obtain ⟨v, hv, h2⟩ := bind_some h1
    cases h2
    exact ⟨sok_loadB _ _ _ hg ho ht hx ha.1 e2 ha.2 e3 (madeD_ok hv), one_in (e1 ▸ hb)⟩
  · obtain ⟨y, hy, h1⟩ := bind_some h
    clear h
    split at h1
    · obtain ⟨ha, h2⟩ := bif_some h1
      obtain ⟨z, hz, h3⟩ := bind_some h2
      obtain ⟨e1, e2⟩ := inU_ok hy
      cases h3
      exact ⟨sok_loadU _ _ hg ho ht hx (.loc _ _) ha rfl e2 (compD_ok _ hz), one_in (e1 ▸ hb)⟩
    · cases h1
theorem stLoad_ok (htb : TbOk P U tb) {T : TypeId} {x : Operand} {it : Option (IT U O P ops)} (hg : o.guard = none) (ho : o.op = .load T x) (h : stLoad tb rs hp T x it = some r) (e : r.L = r.R) : OkM U O P ops o rs hp r := by
  unfold stLoad at h
  obtain ⟨vx, hx, h1⟩ := bind_some h
  obtain ⟨t, ht, h2⟩ := bind_some h1
  replace hx := opd_ok hx
  replace ht := htb.ty' ht
  clear h h1
  split at h2
  · obtain ⟨z, hz, h3⟩ := bind_some h2
    cases h3
    have := AVal.asP_eq hz
    cases this
    exact ⟨sok_loadP hg ho ht hx, none_in _⟩
  · split at h2
    · exact ldBox_ok hg ho ht hx (lookA_mem (by assumption)) h2
    · cases h2
  · split at h2
    · rename_i hq hb
      obtain ⟨hw, h3⟩ := bif_some h2
      have hw := beqN hw
      obtain ⟨z, hz, h4⟩ := bind_some h3
      cases h4
      simp only [List.cons.injEq, and_true] at e
      obtain ⟨rfl, e⟩ := ob_o e
      subst hw
      exact ⟨sok_loadE hg ho ht hx (e.symm.trans hq) (compD_ok _ hz), one_in (lookA_mem hb)⟩
    · rename_i hq hb
      obtain ⟨y, hy, h3⟩ := bind_some h2
      clear h2
      split at h3
      · obtain ⟨ha, h4⟩ := bif_some h3
        rw [Bool.and_eq_true] at ha
        have hw := beqN ha.2
        obtain ⟨z, hz, h5⟩ := bind_some h4
        cases h5
        simp only [List.cons.injEq, and_true] at e
        obtain ⟨rfl, e⟩ := ob_o e
        obtain ⟨e1, e2⟩ := inU_ok hy
        subst hw
        exact ⟨sok_loadU _ _ hg ho ht hx (.eloc _ _ _ _ rfl) ha.1 rfl (by rw [e2, Nat.add_left_comm]) (.arr (e.symm.trans hq) (compD_ok _ hz) rfl), one_in (e1 ▸ lookA_mem hb)⟩
      · cases h3
    · cases h2
  · cases h2
end
end Go.AM
namespace Go.AM

section
variable {U : Univ} {O : Out} {P : Program} {ops : Array Oper}
def opdC (rs : List (Nat × AVal U)) (t : Ty) : Operand → Option (AVal U)
  | .const (.slice none 0 0) => match t with
    | .list e => some (.p (.list e) ([] : List (e.den U.T)))
    | _ => opd rs (.const (.slice none 0 0))
  | .const .nilIface => match t with
    | .err => some (.p .err (0 : Nat))
    | _ => opd rs (.const .nilIface)
  | x => opd rs x
def isVec1 : List (AVal U) → Bool
  | [.vec _ _ _ _] => true
  | _ => false
def stStore (tb : Tab U) (rs : List (Nat × AVal U)) (hp : List (Nat × Blk U)) (T : TypeId) (x y : Operand) (it : Option (IT U O P ops)) : Option (MR U) :=
  (opd rs x).bind fun vx => (lookA tb.ty T).bind fun t => match vx with
    | .loc n off => match lookA hp n with
      | some (.box us) => match (cutU U us off).bind fun x => (cutU U x.2 (t.width U.wd)).bind fun y => some (x.1, y.1, y.2) with
        | some (pre, mid, post) => (bif isVec1 mid then opd rs y else opdC rs t y).bind fun v => (unitsD v).bind fun mid' =>
            bif (allU pre && allU mid) && (allU mid' && unitsW mid' == t.width U.wd) then some { cb := [(n, .box (pre ++ mid ++ post))], pb := [(n, .box (pre ++ mid' ++ post))] } else none
        | none => (inU U us off).bind fun z => match z with
          | (pre, .p t0 X, k, post) => (opdP rs t y).bind fun zz => (setD U 32 t0 X k t zz).bind fun X' => bif allU pre then some { cb := [(n, .box (pre ++ [.p t0 X] ++ post))], pb := [(n, .box (pre ++ [.p t0 X'] ++ post))] } else none
          | _ => none
      | _ => none
    | .eloc n wd i off => match lookA hp n, it with
      | some (.row E t0 xs fx), some (@IT.v _ _ _ _ t2 q e _) => bif wd == t0.width U.wd then (opdP rs t y).bind fun zz => (setD U 32 t2 e off t zz).bind fun e2 => (AVal.asP t0 (.p t2 e2)).bind fun e' =>
          some { cb := [(n, .row E t0 xs fx)], pb := [(n, .row E t0 (upd xs i e') fx)], L := [.o t2 q], R := [.o t0 xs[i]?] } else none
      | some (.box us), some (@IT.v _ _ _ _ t2 q e _) => (inU U us off).bind fun z => match z with
        | (pre, .p (.arr N te) X, k, post) => bif allU pre && wd == te.width U.wd then (opdP rs t y).bind fun zz => (setD U 32 t2 e k t zz).bind fun e2 => (AVal.asP te (.p t2 e2)).bind fun e' =>
            some { cb := [(n, .box (pre ++ [.p (.arr N te) X] ++ post))], pb := [(n, .box (pre ++ [.p (.arr N te) (upd (α := te.den U.T) X i e')] ++ post))], L := [.o t2 q], R := [.o te (getElem? (coll := List (te.den U.T)) X i)] } else none
        | _ => none
      | _, _ => none
    | _ => none
def stNil (rs : List (Nat × AVal U)) (x : Operand) (it : Option (IT U O P ops)) : Option (MR U) :=
  (opd rs x).bind fun v => bif v.isPtr then some { v := v } else match v, it with
    | .p (.ptr t) q, some (@IT.v _ _ _ _ t2 q2 y _) => some { v := .pp t2 y, L := [.o t2 q2], R := [.o t q] }
    | _, _ => none
def stExt (rs : List (Nat × AVal U)) (x : Operand) (i : Nat) : Option (MR U) :=
  (opd rs x).bind fun v => match v with
    | .tup vs => vs[i]?.bind fun v => some { v := v }
    | _ => none
def intD : Option TypeDesc → Option IntKind | some (.int k) => some k | _ => none
def slD : Option TypeDesc → Option TypeId | some (.slice E) => some E | _ => none
def stConv (tb : Tab U) (rs : List (Nat × AVal U)) (hp : List (Nat × Blk U)) (T1 T2 : TypeId) (x : Operand) : Option (MR U) :=
  (opd rs x).bind fun v => match v with
    | .p (.int k) n => (intD (tb.un T1)).bind fun k1 => (intD (tb.un T2)).bind fun k2 => bif decide (k1 = k) then some { v := .p (.int k2) (k2.wrap n) } else none
    | .vec n 1 0 len => (slD (tb.un T1)).bind fun E => (intD (tb.un E)).bind fun k => match lookA hp n with
      | some (.row E' (.int .u8) xs fx) => bif (decide (k = .u8) && E' == E) && isStrD (tb.un T2) then some { v := .p .str (txtOf xs), ro := [(n, .row E' (.int .u8) xs fx)], L := [.n len], R := [.n (List.length (α := Int) xs)] } else none
      | _ => none
    | _ => none
def stLen (tb : Tab U) (rs : List (Nat × AVal U)) (hp : List (Nat × Blk U)) (T : TypeId) (x : Operand) : Option (MR U) :=
  (opd rs x).bind fun v => match v with
    | .p .str s => bif isStrD (tb.un T) then some { v := .p (.int .i64) (List.length (α := UInt8) s : Int) } else none
    | .p (.list t) s => (slD (tb.un T)).bind fun _ => some { v := .p (.int .i64) (List.length (α := t.den U.T) s : Int) }
    | .vec _ _ _ len => (slD (tb.un T)).bind fun _ => some { v := .p (.int .i64) (len : Int) }
    | .lit (.slice none 0 0) => (slD (tb.un T)).bind fun _ => some { v := .p (.int .i64) (0 : Int) }
    | .mp n => (lookA tb.mp T).bind fun _ => match lookA hp n with
      | some (.map t kvs) => some { v := .p (.int .i64) (kvs.length : Int), ro := [(n, .map t kvs)] }
      | _ => none
    | _ => none
def stLook (tb : Tab U) (rs : List (Nat × AVal U)) (hp : List (Nat × Blk U)) (T : TypeId) (m x : Operand) (c : Bool) : Option (MR U) :=
  (lookA tb.mp T).bind fun KE => (lookA tb.zd KE.2).bind fun z => (opd rs m).bind fun vm => (opdP rs .str x).bind fun k => match vm, z with
    | .mp n, .p t' z => match lookA hp n with
      | some (.map t kvs) => (AVal.asP t (.p t' z)).bind fun z' => match c with
        | false => some { v := .p t ((mget k kvs).getD z'), ro := [(n, .map t kvs)] }
        | true => some { v := .tup [.p t ((mget k kvs).getD z'), .p .bool (mget k kvs).isSome], ro := [(n, .map t kvs)] }
      | _ => none
    | _, _ => none
def stMapU (tb : Tab U) (rs : List (Nat × AVal U)) (hp : List (Nat × Blk U)) (T : TypeId) (m x y : Operand) : Option (MR U) :=
  (lookA tb.mp T).bind fun _ => (opd rs m).bind fun vm => (opdP rs .str x).bind fun k => match vm with
    | .mp n => match lookA hp n with
      | some (.map t kvs) => (opdP rs t y).bind fun v => some { cb := [(n, .map t kvs)], pb := [(n, .map t (mput k v kvs))] }
      | _ => none
    | _ => none
def stDel (tb : Tab U) (rs : List (Nat × AVal U)) (hp : List (Nat × Blk U)) (T K : TypeId) (m x : Operand) : Option (MR U) :=
  (lookA tb.mp T).bind fun KE => bif KE.1 == K then (opd rs m).bind fun vm => (opdP rs .str x).bind fun k => (match vm with
    | .mp n => match lookA hp n with
      | some (.map t kvs) => some { v := .tup [], cb := [(n, .map t kvs)], pb := [(n, .map t (mdel k kvs))] }
      | _ => none
    | _ => none) else none
def stMkMap (tb : Tab U) (T : TypeId) (d : Nat) : Option (MR U) :=
  (lookA tb.mp T).bind fun KE => (lookA tb.ty KE.2).bind fun t => some { v := .mp d, pb := [(d, .map t [])], nn := [d] }
def opdL (rs : List (Nat × AVal U)) : List Operand → Option (List (AVal U))
  | [] => some []
  | x :: l => (opd rs x).bind fun v => (opdL rs l).bind fun vs => some (v :: vs)
def opdPL (rs : List (Nat × AVal U)) (t : Ty) : List Operand → Option (List (t.den U.T))
  | [] => some []
  | x :: l => (opdP rs t x).bind fun v => (opdPL rs t l).bind fun vs => some (v :: vs)
def stFunc (rs : List (Nat × AVal U)) (f : Fn) (fs cs : Array Operand) : Option (MR U) :=
  match f with
  | .func f => bif fs.toList.isEmpty then (opdL rs cs.toList).bind fun vs => some { v := .clo f vs } else none
  | _ => none
def stMkSl (tb : Tab U) (rs : List (Nat × AVal U)) (T : TypeId) (x y : Operand) (d : Nat) (it : Option (IT U O P ops)) : Option (MR U) :=
  (lookA tb.ro T).bind fun z => (lookA tb.zd z.1).bind fun zv => (AVal.asP z.2.1 zv).bind fun zz => (opd rs x).bind fun vx => (opd rs y).bind fun vy => vx.int?.bind fun l => vy.int?.bind fun c => match it with
    | some (@IT.g _ _ _ _ p _) => bif Nat.ble z.2.2 32768 then some { v := .vec d (z.2.1.width U.wd) 0 l.2.toNat, pb := [(d, .row z.1 z.2.1 (List.replicate c.2.toNat zz) true)], nn := [d], L := [.p p], R := [.p (0 ≤ l.2 ∧ l.2 ≤ c.2 ∧ c.2 ≤ (LIM : Nat))] } else none
    | _ => none
def stBox (tb : Tab U) (rs : List (Nat × AVal U)) (T : TypeId) (x : Operand) (d : Nat) : Option (MR U) :=
  (lookA tb.ty T).bind fun t => (opdC rs t x).bind fun v => (unitsD v).bind fun us => bif allU us && !(AVal.namesL U us).contains d then some { v := .loc d 0, pb := [(d, .box us)], nn := [d] } else none
def stAlloc (tb : Tab U) (T : TypeId) (d : Nat) : Option (MR U) :=
  (lookA tb.az T).bind fun us => bif (AVal.namesL U us).contains d then none else some { v := .loc d 0, pb := [(d, .box us)], nn := [d] }
def fillD (rs : List (Nat × AVal U)) (pl : List (Nat × Nat × Ty)) : List (Nat × Operand) → List (AVal U) → Option (List (AVal U))
  | [], us => some us
  | (i, x) :: l, us => pl[i]?.bind fun y => ((cutU U us y.1).bind fun x => (cutU U x.2 y.2.1).bind fun y => some (x.1, y.1, y.2)).bind fun c => (opdC rs y.2.2 x).bind fun v => (unitsD v).bind fun mid' =>
      bif (allU c.1 && allU c.2.1) && (allU mid' && unitsW mid' == y.2.1) then fillD rs pl l (c.1 ++ mid' ++ c.2.2) else none
def stBuild (tb : Tab U) (rs : List (Nat × AVal U)) (T : TypeId) (ps : Array (Nat × Operand)) : Option (MR U) :=
  (lookA tb.bz T).bind fun b => (lookA tb.ty T).bind fun t => (fillD rs b.2 ps.toList b.1).bind fun us => bif t.isAgg then (madeD t us).bind fun v => some { v := v } else none
def stBSl (tb : Tab U) (rs : List (Nat × AVal U)) (T : TypeId) (n : Nat) (ps : Array (Nat × Operand)) (d : Nat) : Option (MR U) :=
  (lookA tb.ro T).bind fun z => bif (decide (ps.toList.map (·.1) = List.range' 0 n) && ps.toList.length == n) && Nat.ble (n * z.2.1.width U.wd) 16777216 then (opdPL rs z.2.1 (ps.toList.map (·.2))).bind fun xs =>
    some { v := .vec d (z.2.1.width U.wd) 0 xs.length, pb := [(d, .row z.1 z.2.1 xs true)], nn := [d] } else none
def viewL (hp : List (Nat × Blk U)) (t : Ty) : AVal U → Option (List (t.den U.T) × List (Nat × Blk U) × List (Ob U) × List (Ob U))
  | .lit (.slice none 0 0) => some ([], [], [], [])
  | .vec m wd off len => match lookA hp m with
    | some (.row E t' ys fx) => (AVal.asP (.list t) (.p (.list t') ys)).bind fun zs => bif wd == t'.width U.wd && off == 0 then some (zs, [(m, .row E t' ys fx)], [.n len], [.n ys.length]) else none
    | _ => none
  | v => (v.asP (.list t)).bind fun xs => some (xs, [], [], [])
def stApp (tb : Tab U) (rs : List (Nat × AVal U)) (hp : List (Nat × Blk U)) (T : TypeId) (x y : Operand) (d : Nat) (it : Option (IT U O P ops)) : Option (MR U) :=
  (lookA tb.ro T).bind fun z => (opd rs x).bind fun vx => (opd rs y).bind fun vy => (viewL hp z.2.1 vy).bind fun w => match it with
    | some (@IT.g _ _ _ _ p _) => bif Nat.ble z.2.2 32768 then (match vx with
      | .lit (.slice none 0 0) => some { v := .vec d (z.2.1.width U.wd) 0 w.1.length, ro := w.2.1, pb := [(d, .row z.1 z.2.1 w.1 false)], nn := [d], L := .p p :: w.2.2.1, R := .p (w.1.length ≤ LIM) :: w.2.2.2 }
      | .vec n wd off len => match lookA hp n with
        | some (.row E t xs fx) => (AVal.asP (.list z.2.1) (.p (.list t) xs)).bind fun (zs : List (z.2.1.den U.T)) => bif ((wd == t.width U.wd && off == 0) && E == z.1) && !(nm w.2.1).contains n then
            some { v := .vec d (z.2.1.width U.wd) 0 (List.length (zs ++ w.1)), ro := w.2.1, cb := [(n, .row E t xs fx)], pb := [(d, .row z.1 z.2.1 (zs ++ w.1) false)], nn := [d], L := .p p :: .n len :: w.2.2.1, R := .p (List.length zs + w.1.length ≤ LIM) :: .n xs.length :: w.2.2.2 } else none
        | _ => none
      | _ => none) else none
    | _ => none
end

section
variable {U : Univ} {O : Out} {P : Program} {ops : Array Oper} {o : Oper} {rs : List (Nat × AVal U)} {tb : Tab U} {hp : List (Nat × Blk U)} {r : MR U}
theorem opdC_ok {t : Ty} {x : Operand} {v : AVal U} (h : opdC rs t x = some v) : Opd U rs x v := by
  unfold opdC at h
  split at h
  · split at h
    · cases h; exact .lnil _ _
    · exact opd_ok h
  · split at h
    · cases h; exact .err0 _
    · exact opd_ok h
  · exact opd_ok h
theorem stStore_ok (htb : TbOk P U tb) {T : TypeId} {x y : Operand} {it : Option (IT U O P ops)} (hg : o.guard = none) (hd : o.dst = none) (ho : o.op = .store T x y) (h : stStore tb rs hp T x y it = some r) (e : r.L = r.R) : OkM U O P ops o rs hp r := by
  unfold stStore at h
  obtain ⟨vx, hx, h1⟩ := bind_some h
  obtain ⟨t, ht, h2⟩ := bind_some h1
  replace hx := opd_ok hx
  replace ht := htb.ty' ht
  clear h h1
  split at h2
  · split at h2
    · rename_i us hb
      split at h2
      · rename_i pre mid post hc
        obtain ⟨e1, e2, e3⟩ := cut2_ok hc
        obtain ⟨v, hv, h3⟩ := bind_some h2
        obtain ⟨mid', hm, h4⟩ := bind_some h3
        obtain ⟨ha, h5⟩ := bif_some h4
        simp only [Bool.and_eq_true] at ha
        have hv' : Opd U rs y v := by
          cases hv1 : isVec1 mid with
          | true => rw [hv1] at hv; exact opd_ok hv
          | false => rw [hv1] at hv; exact opdC_ok hv
        cases h5
        exact ⟨sok_storeB _ _ _ hg hd ho ht hx hv' (unitsD_ok hm) ha.1.1 e2 ha.1.2 e3 ha.2.1 (beqN ha.2.2), one_in' (e1 ▸ lookA_mem hb)⟩
      · obtain ⟨z, hz, h3⟩ := bind_some h2
        clear h2
        split at h3
        · obtain ⟨zz, hzz, h4⟩ := bind_some h3
          obtain ⟨X', hX, h5⟩ := bind_some h4
          obtain ⟨ha, h6⟩ := bif_some h5
          obtain ⟨e1, e2⟩ := inU_ok hz
          cases h6
          exact ⟨sok_storeU _ _ hg hd ho ht hx (.loc _ _) (opdP_ok hzz) ha rfl e2 (setD_ok _ hX), one_in' (e1 ▸ lookA_mem hb)⟩
        · cases h3
    · cases h2
  · split at h2
    · rename_i hq hb
      obtain ⟨hw, h3⟩ := bif_some h2
      replace hw := beqN hw
      obtain ⟨zz, hzz, h4⟩ := bind_some h3
      obtain ⟨e2, he2, h5⟩ := bind_some h4
      obtain ⟨e', he', h6⟩ := bind_some h5
      cases h6
      simp only [List.cons.injEq, and_true] at e
      obtain ⟨rfl, e⟩ := ob_o e
      cases AVal.asP_eq he'
      subst hw
      exact ⟨sok_storeE hg hd ho ht hx (opdP_ok hzz) (e.symm.trans hq) (setD_ok _ he2), one_in' (lookA_mem hb)⟩
    · rename_i hq hb
      obtain ⟨z, hz, h3⟩ := bind_some h2
      clear h2
      split at h3
      · obtain ⟨hw, h4⟩ := bif_some h3
        rw [Bool.and_eq_true] at hw
        obtain ⟨ha, hw⟩ := hw
        replace hw := beqN hw
        obtain ⟨zz, hzz, h5⟩ := bind_some h4
        obtain ⟨e2, he2, h6⟩ := bind_some h5
        obtain ⟨e', he', h7⟩ := bind_some h6
        cases h7
        simp only [List.cons.injEq, and_true] at e
        obtain ⟨rfl, e⟩ := ob_o e
        cases AVal.asP_eq he'
        obtain ⟨e3, e4⟩ := inU_ok hz
        subst hw
        exact ⟨sok_storeU _ _ hg hd ho ht hx (.eloc _ _ _ _ rfl) (opdP_ok hzz) ha rfl (by rw [e4, Nat.add_left_comm]) (.arr (e.symm.trans hq) (setD_ok _ he2) rfl), one_in' (e3 ▸ lookA_mem hb)⟩
      · cases h3
    · cases h2
  · cases h2
theorem stNil_ok {x : Operand} {it : Option (IT U O P ops)} (hg : o.guard = none) (ho : o.op = .nilCheck x) (h : stNil rs x it = some r) (e : r.L = r.R) : OkM U O P ops o rs hp r := by
  unfold stNil at h
  obtain ⟨v, hx, h1⟩ := bind_some h
  replace hx := opd_ok hx
  clear h
  cases hp' : v.isPtr with
  | true => rw [hp'] at h1; cases h1; exact ⟨sok_nilCheck hg ho hx hp', none_in _⟩
  | false =>
    rw [hp', cond_false] at h1
    split at h1
    · rename_i hq
      cases h1
      simp only [List.cons.injEq, and_true] at e
      obtain ⟨rfl, e⟩ := ob_o e
      exact ⟨sok_nilCheckP hg ho hx (e.symm.trans hq), none_in _⟩
    · cases h1
theorem stExt_ok {x : Operand} {i : Nat} (hg : o.guard = none) (ho : o.op = .extract x i) (h : stExt rs x i = some r) : OkM U O P ops o rs hp r := by
  unfold stExt at h
  obtain ⟨v, hx, h1⟩ := bind_some h
  replace hx := opd_ok hx
  clear h
  split at h1
  · obtain ⟨w, hw, h2⟩ := bind_some h1
    cases h2; exact ⟨sok_extract hg ho hx hw, none_in _⟩
  · cases h1
theorem intD_eq {d : Option TypeDesc} {k : IntKind} (h : intD d = some k) : d = some (.int k) := by
  unfold intD at h; split at h
  · cases h; rfl
  · cases h
theorem slD_eq {d : Option TypeDesc} {k : TypeId} (h : slD d = some k) : d = some (.slice k) := by
  unfold slD at h; split at h
  · cases h; rfl
  · cases h
theorem stConv_ok (htb : TbOk P U tb) {T1 T2 : TypeId} {x : Operand} (hg : o.guard = none) (ho : o.op = .convert T1 T2 x) (h : stConv tb rs hp T1 T2 x = some r) (e : r.L = r.R) : OkM U O P ops o rs hp r := by
  unfold stConv at h
  obtain ⟨v, hx, h1⟩ := bind_some h
  replace hx := opd_ok hx
  clear h
  split at h1
  · obtain ⟨k1, hk1, h2⟩ := bind_some h1
    obtain ⟨k2, hk2, h3⟩ := bind_some h2
    obtain ⟨hd, h4⟩ := bif_some h3
    have hd := of_decide_eq_true hd
    subst hd; cases h4
    exact ⟨sok_convI hg ho (htb.un' (intD_eq hk1)) (htb.un' (intD_eq hk2)) hx, none_in _⟩
  · obtain ⟨E, hE, h2⟩ := bind_some h1
    obtain ⟨k2, hk2, h3⟩ := bind_some h2
    clear h1 h2
    split at h3
    · rename_i hb
      obtain ⟨hd, h4⟩ := bif_some h3
      simp only [Bool.and_eq_true] at hd
      have h5 := of_decide_eq_true hd.1.1
      have h6 := beqN hd.1.2
      subst h5 h6; cases h4
      simp only [List.cons.injEq, Ob.n.injEq, and_true] at e
      subst e
      exact ⟨sok_strOf hg ho (htb.un' (slD_eq hE)) (htb.un' (intD_eq hk2)) (htb.str' hd.2) hx, one_in (lookA_mem hb)⟩
    · cases h3
  · cases h1
theorem TbOk.mp' (ht : TbOk P U tb) {T : TypeId} {d : TypeId × TypeId} (h : lookA tb.mp T = some d) : MapOk P T d.1 d.2 := ht.mp.mem _ (lookA_mem h)
theorem stLen_ok (htb : TbOk P U tb) {T : TypeId} {x : Operand} (hg : o.guard = none) (ho : o.op = .call { callee := .builtin .len, args := #[x], argTypes := #[T] }) (h : stLen tb rs hp T x = some r) : OkM U O P ops o rs hp r := by
  unfold stLen at h
  obtain ⟨v, hx, h1⟩ := bind_some h
  replace hx := opd_ok hx
  clear h
  split at h1
  · obtain ⟨hs, h2⟩ := bif_some h1
    cases h2; exact ⟨sok_lenS hg ho (htb.str' hs) hx, none_in _⟩
  · obtain ⟨E, hE, h2⟩ := bind_some h1
    cases h2; exact ⟨sok_lenL hg ho (htb.un' (slD_eq hE)) hx, none_in _⟩
  · obtain ⟨E, hE, h2⟩ := bind_some h1
    cases h2; exact ⟨sok_lenV hg ho (htb.un' (slD_eq hE)) hx, none_in _⟩
  · obtain ⟨E, hE, h2⟩ := bind_some h1
    cases h2; exact ⟨sok_lenNil hg ho (htb.un' (slD_eq hE)) hx, none_in _⟩
  · obtain ⟨E, hE, h2⟩ := bind_some h1
    clear h1
    split at h2
    · cases h2; exact ⟨sok_lenM hg ho (htb.mp' hE) hx, one_in (lookA_mem (by assumption))⟩
    · cases h2
  · cases h1
theorem TbOk.zd' (ht : TbOk P U tb) {T : TypeId} {d : AVal U} (h : lookA tb.zd T = some d) : ZdOk P U T d := ht.zd.mem _ (lookA_mem h)
theorem stLook_ok (htb : TbOk P U tb) {T : TypeId} {m x : Operand} {c : Bool} (hg : o.guard = none) (ho : o.op = .lookup T m x c) (h : stLook tb rs hp T m x c = some r) : OkM U O P ops o rs hp r := by
  unfold stLook at h
  obtain ⟨KE, hK, h1⟩ := bind_some h
  obtain ⟨z, hz, h2⟩ := bind_some h1
  obtain ⟨vm, hm, h3⟩ := bind_some h2
  obtain ⟨k, hk, h4⟩ := bind_some h3
  replace hm := opd_ok hm
  replace hz := htb.zd' hz
  clear h h1 h2 h3
  split at h4
  · split at h4
    · rename_i hb
      obtain ⟨z', hz', h5⟩ := bind_some h4
      clear h4
      cases AVal.asP_eq hz'
      split at h5
      · cases h5; exact ⟨sok_lookup hg ho (htb.mp' hK) hz hm (opdP_ok hk), one_in (lookA_mem hb)⟩
      · cases h5; exact ⟨sok_lookup2 hg ho (htb.mp' hK) hz hm (opdP_ok hk), one_in (lookA_mem hb)⟩
    · cases h4
  · cases h4
theorem stMapU_ok (htb : TbOk P U tb) {T : TypeId} {m x y : Operand} (hg : o.guard = none) (hd : o.dst = none) (ho : o.op = .mapUpdate T m x y) (h : stMapU tb rs hp T m x y = some r) : OkM U O P ops o rs hp r := by
  unfold stMapU at h
  obtain ⟨KE, hK, h1⟩ := bind_some h
  obtain ⟨vm, hm, h3⟩ := bind_some h1
  obtain ⟨k, hk, h4⟩ := bind_some h3
  replace hm := opd_ok hm
  clear h h1 h3
  split at h4
  · split at h4
    · rename_i hb
      obtain ⟨v, hv, h5⟩ := bind_some h4
      cases h5; exact ⟨sok_mapUpdate hg hd ho (htb.mp' hK) hm (opdP_ok hk) (opdP_ok hv), one_in' (lookA_mem hb)⟩
    · cases h4
  · cases h4
theorem stDel_ok (htb : TbOk P U tb) {T K : TypeId} {m x : Operand} (hg : o.guard = none) (ho : o.op = .call { callee := .builtin .delete, args := #[m, x], argTypes := #[T, K] }) (h : stDel tb rs hp T K m x = some r) : OkM U O P ops o rs hp r := by
  unfold stDel at h
  obtain ⟨KE, hK, h1⟩ := bind_some h
  obtain ⟨he, h2⟩ := bif_some h1
  obtain ⟨vm, hm, h3⟩ := bind_some h2
  obtain ⟨k, hk, h4⟩ := bind_some h3
  replace hm := opd_ok hm
  have he := beqN he
  subst he
  clear h h1 h2 h3
  split at h4
  · split at h4
    · rename_i hb
      cases h4; exact ⟨sok_delete hg ho (htb.mp' hK) hm (opdP_ok hk), one_in' (lookA_mem hb)⟩
    · cases h4
  · cases h4
theorem stMkMap_ok {T : TypeId} {d : Nat} (hg : o.guard = none) (hd : o.dst = some d) (ho : o.op = .makeMap T none) (h : stMkMap tb T d = some r) : OkM U O P ops o rs hp r := by
  unfold stMkMap at h
  obtain ⟨KE, hK, h1⟩ := bind_some h
  obtain ⟨t, ht, h2⟩ := bind_some h1
  cases h2; exact ⟨sok_makeMap hg hd ho, none_in _⟩
theorem opdL_ok : ∀ {xs : List Operand} {vs : List (AVal U)}, opdL rs xs = some vs → Opds U rs xs vs
  | [], _, h => by cases h; exact .nil
  | x :: l, _, h => by
    obtain ⟨v, hv, h1⟩ := bind_some h
    obtain ⟨vs, hvs, h2⟩ := bind_some h1
    cases h2; exact .cons (opd_ok hv) (opdL_ok hvs)
theorem opdPL_ok {t : Ty} : ∀ {xs : List Operand} {vs : List (t.den U.T)}, opdPL rs t xs = some vs → OpdsP U rs t xs vs ∧ xs.length = vs.length
  | [], _, h => by cases h; exact ⟨.nil, rfl⟩
  | x :: l, _, h => by
    obtain ⟨v, hv, h1⟩ := bind_some h
    obtain ⟨vs, hvs, h2⟩ := bind_some h1
    cases h2; exact ⟨.cons (opdP_ok hv) (opdPL_ok hvs).1, by rw [List.length_cons, List.length_cons, (opdPL_ok hvs).2]⟩
theorem stFunc_ok {f : Fn} {fs cs : Array Operand} (hg : o.guard = none) (ho : o.op = .makeFunc f fs cs) (h : stFunc rs f fs cs = some r) : OkM U O P ops o rs hp r := by
  unfold stFunc at h
  split at h
  · obtain ⟨he, h1⟩ := bif_some h
    obtain ⟨vs, hvs, h2⟩ := bind_some h1
    have hfs : fs = #[] := by
      have : fs.toList = [] := by simpa using he
      exact Array.toList_eq_nil_iff.1 this
    subst hfs
    cases h2; exact ⟨sok_makeFunc hg ho (opdL_ok hvs), none_in _⟩
  · cases h
theorem stMkSl_ok (htb : TbOk P U tb) {T : TypeId} {x y : Operand} {d : Nat} {it : Option (IT U O P ops)} (hg : o.guard = none) (hd : o.dst = some d) (ho : o.op = .makeSlice T x y) (h : stMkSl tb rs T x y d it = some r) (e : r.L = r.R) : OkM U O P ops o rs hp r := by
  unfold stMkSl at h
  obtain ⟨z, hz, h1⟩ := bind_some h
  obtain ⟨zv, hzv, h2⟩ := bind_some h1
  obtain ⟨zz, hzz, h3⟩ := bind_some h2
  obtain ⟨vx, hx, h4⟩ := bind_some h3
  obtain ⟨vy, hy, h5⟩ := bind_some h4
  obtain ⟨⟨kl, l⟩, hl, h6⟩ := bind_some h5
  obtain ⟨⟨kc, c⟩, hc, h7⟩ := bind_some h6
  replace hx := opd_ok hx
  replace hy := opd_ok hy
  rw [AVal.int?_eq hl] at hx
  rw [AVal.int?_eq hc] at hy
  replace hzv := htb.zd' hzv
  rw [AVal.asP_eq hzz] at hzv
  clear h h1 h2 h3 h4 h5 h6
  split at h7
  · rename_i hp'
    obtain ⟨hb, h8⟩ := bif_some h7
    cases h8
    simp only [List.cons.injEq, Ob.p.injEq, and_true] at e
    have hp' := e ▸ hp'
    exact ⟨sok_makeSlice hg hd ho (htb.ro' hz) (Nat.le_of_ble_eq_true hb) hzv hx hy hp'.1 hp'.2.1 hp'.2.2, none_in _⟩
  · cases h7
theorem stBox_ok {T : TypeId} {x : Operand} {d : Nat} (hg : o.guard = none) (hd : o.dst = some d) (ho : o.op = .box T x) (h : stBox tb rs T x d = some r) : OkM U O P ops o rs hp r := by
  unfold stBox at h
  obtain ⟨t, ht, h1⟩ := bind_some h
  obtain ⟨v, hv, h2⟩ := bind_some h1
  obtain ⟨us, hus, h3⟩ := bind_some h2
  obtain ⟨ha, h4⟩ := bif_some h3
  rw [Bool.and_eq_true] at ha
  cases h4; exact ⟨sok_box hg hd ho (opdC_ok hv) (unitsD_ok hus) ha.1 (notin_of (by simpa using ha.2)), none_in _⟩
theorem stAlloc_ok (htb : TbOk P U tb) {T : TypeId} {d : Nat} (hg : o.guard = none) (hd : o.dst = some d) (ho : o.op = .alloc T) (h : stAlloc tb T d = some r) : OkM U O P ops o rs hp r := by
  unfold stAlloc at h
  obtain ⟨us, hus, h1⟩ := bind_some h
  obtain ⟨v, cs, hz, hc, hu⟩ := htb.az.mem _ (lookA_mem hus)
  cases hn : (AVal.namesL U us).contains d with
  | true => rw [hn] at h1; cases h1
  | false => rw [hn] at h1; cases h1; exact ⟨sok_allocZ hg hd ho hz hc hu hn, none_in _⟩
theorem fillD_ok {pl : List (Nat × Nat × Ty)} {pf : Nat → Option (Nat × Nat)} (hp : ∀ i y, pl[i]? = some y → pf i = some (y.1, y.2.1)) : ∀ {l : List (Nat × Operand)} {us us' : List (AVal U)}, fillD rs pl l us = some us' → Filled U rs pf l us us'
  | [], _, _, h => by cases h; exact .nil _
  | (i, x) :: l, us, us', h => by
    obtain ⟨y, hy, h1⟩ := bind_some h
    obtain ⟨⟨pre, mid, post⟩, hc, h2⟩ := bind_some h1
    obtain ⟨v, hv, h3⟩ := bind_some h2
    obtain ⟨mid', hm, h4⟩ := bind_some h3
    obtain ⟨ha, h5⟩ := bif_some h4
    simp only [Bool.and_eq_true] at ha
    obtain ⟨e1, e2, e3⟩ := cut2_ok hc
    have e4 := beqN ha.2.2
    exact .cons pre mid mid' post (opdC_ok hv) (unitsD_ok hm) e1 ha.1.1 ha.1.2 ha.2.1 (by rw [hp i y hy, e2, e4]) (by rw [e3, e4]) (fillD_ok hp h5)
theorem stBuild_ok (htb : TbOk P U tb) {T : TypeId} {ps : Array (Nat × Operand)} (hg : o.guard = none) (ho : o.op = .build T ps) (h : stBuild tb rs T ps = some r) : OkM U O P ops o rs hp r := by
  unfold stBuild at h
  obtain ⟨b, hb, h1⟩ := bind_some h
  obtain ⟨t, ht, h2⟩ := bind_some h1
  obtain ⟨us, hus, h3⟩ := bind_some h2
  obtain ⟨ha, h4⟩ := bif_some h3
  obtain ⟨v, hv, h5⟩ := bind_some h4
  obtain ⟨z, pl, hl, hz, hpl'⟩ := htb.bz.mem _ (lookA_mem hb)
  have hpl : ∀ i y, b.2[i]? = some y → pl i = some (y.1, y.2.1) := fun i y hy => by
    have hi : i < b.2.length := (List.getElem?_eq_some_iff.1 hy).1
    have h1 := congrArg (·[i]?) hpl'
    simp only [List.getElem?_map, List.getElem?_range hi, hy, Option.map_some, Option.some.injEq] at h1
    exact h1
  cases h5; exact ⟨sok_build hg ho hl hz (fillD_ok hpl hus) ha (madeD_ok hv), none_in _⟩
theorem parts_of : ∀ (l : List (Nat × Operand)) (k n : Nat), l.map (·.1) = List.range' k n → l = ((l.map (·.2)).zipIdx k).map fun x => (x.2, x.1)
  | [], _, _, _ => rfl
  | (i, x) :: l, k, n, h => by
    cases n with
    | zero => cases h
    | succ n =>
      rw [List.range'_succ, List.map_cons, List.cons.injEq] at h
      obtain ⟨h1, h2⟩ := h
      have := parts_of l (k + 1) n h2
      simp only [List.map_cons, List.zipIdx_cons, List.cons.injEq]
      exact ⟨by rw [← h1], this⟩
theorem stBSl_ok (htb : TbOk P U tb) {T : TypeId} {n : Nat} {ps : Array (Nat × Operand)} {d : Nat} (hg : o.guard = none) (hd : o.dst = some d) (ho : o.op = .buildSlice T n ps) (h : stBSl tb rs T n ps d = some r) : OkM U O P ops o rs hp r := by
  unfold stBSl at h
  obtain ⟨z, hz, h1⟩ := bind_some h
  obtain ⟨ha, h2⟩ := bif_some h1
  obtain ⟨xs, hx, h3⟩ := bind_some h2
  simp only [Bool.and_eq_true] at ha
  have h4 := of_decide_eq_true ha.1.1
  have h5 := beqN ha.1.2
  have h6 := Nat.le_of_ble_eq_true ha.2
  have h7 := parts_of _ _ _ h4
  obtain ⟨h8, h9⟩ := opdPL_ok hx
  have h10 : (ps.toList.map (·.2)).length = n := by rw [List.length_map, h5]
  cases h3
  exact ⟨sok_buildSlice hg hd (by rw [ho, h10]) h7 (htb.ro' hz) h8 (by rw [h10]; exact h6), none_in _⟩
theorem viewL_ok {t : Ty} {v : AVal U} {w : List (t.den U.T) × List (Nat × Blk U) × List (Ob U) × List (Ob U)} (h : viewL hp t v = some w) (e : w.2.2.1 = w.2.2.2) : View U w.2.1 v (.p (.list t) w.1) ∧ ∀ x ∈ w.2.1, x ∈ hp := by
  unfold viewL at h
  split at h
  · cases h; exact ⟨.nilL _, fun _ h => by cases h⟩
  · split at h
    · rename_i hb
      obtain ⟨zs, hzs, h1⟩ := bind_some h
      obtain ⟨ha, h2⟩ := bif_some h1
      rw [Bool.and_eq_true] at ha
      have h3 := beqN ha.1
      have h4 := beqN ha.2
      subst h3 h4
      cases AVal.asP_eq hzs
      cases h2
      simp only [List.cons.injEq, Ob.n.injEq, and_true] at e
      subst e
      exact ⟨.whole (.head _), fun x hx => by rcases List.mem_cons.1 hx with rfl | hx; exact lookA_mem hb; cases hx⟩
    · cases h
  · obtain ⟨xs, hx, h1⟩ := bind_some h
    cases h1
    rw [AVal.asP_eq hx]
    exact ⟨.same _, fun _ h => by cases h⟩
theorem stApp_ok (htb : TbOk P U tb) {T : TypeId} {x y : Operand} {d : Nat} {it : Option (IT U O P ops)} (hg : o.guard = none) (hd : o.dst = some d) (ho : o.op = .call { callee := .builtin .append, args := #[x, y], argTypes := #[T, T] }) (h : stApp tb rs hp T x y d it = some r) (e : r.L = r.R) : OkM U O P ops o rs hp r := by
  unfold stApp at h
  obtain ⟨z, hz, h1⟩ := bind_some h
  obtain ⟨vx, hx, h2⟩ := bind_some h1
  obtain ⟨vy, hy, h3⟩ := bind_some h2
  obtain ⟨w, hw, h4⟩ := bind_some h3
  replace hx := opd_ok hx
  replace hy := opd_ok hy
  replace hz := htb.ro' hz
  clear h h1 h2 h3
  split at h4
  · rename_i hp'
    obtain ⟨hb, h5⟩ := bif_some h4
    replace hb := Nat.le_of_ble_eq_true hb
    clear h4
    split at h5
    · cases h5
      simp only [List.cons.injEq, Ob.p.injEq] at e
      obtain ⟨h6, h7⟩ := viewL_ok hw e.2
      exact ⟨sok_appendN hg hd ho hz hb hx hy h6 (e.1 ▸ hp'), fun x hx => h7 x (by simpa using hx)⟩
    · split at h5
      · rename_i hbl
        obtain ⟨zs, hzs, h6⟩ := bind_some h5
        obtain ⟨ha, h7⟩ := bif_some h6
        simp only [Bool.and_eq_true] at ha
        have h8 := beqN ha.1.1.1
        have h9 := beqN ha.1.1.2
        have h10 := beqN ha.1.2
        subst h8 h9
        cases AVal.asP_eq hzs
        cases h7
        simp only [List.cons.injEq, Ob.p.injEq, Ob.n.injEq] at e
        obtain ⟨h11, h12⟩ := viewL_ok hw e.2.2
        obtain ⟨e1, e2, _⟩ := e
        subst e2 h10
        refine ⟨sok_append' hg hd ho hz hb hx hy h11 (by simpa using ha.2) (e1 ▸ hp'), fun x hx => ?_⟩
        rcases List.mem_append.1 hx with hx | hx
        · exact h12 x hx
        · rcases List.mem_cons.1 hx with rfl | hx
          · exact lookA_mem hbl
          · cases hx
      · cases h5
    · cases h5
  · cases h4
end
end Go.AM
