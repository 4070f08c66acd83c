/- A part of my own abstract layer. -/
import Derived.Test.YtcijochjfncefaaGreatDoorK44Am3
import Derived.ArgAppend
import Derived.Deep.DeepAppendWide
namespace Go.AM

section
variable {U : Univ} {O : Out} {P : Program} {ops : Array Oper}
def opdC (rs : List (Nat × AVal U)) (t : Ty) : Operand → Option (AVal U)
  | .const (.slice none 0 0) => match t with
    | .list e => some (.p (.list e) ([] : List (e.den U.T)))
    | _ => opd rs (.const (.slice none 0 0))
  | .const .nilIface => match t with
    | .err => some (.p .err (0 : Nat))
    | _ => opd rs (.const .nilIface)
  | x => opd rs x
def isVec1 : List (AVal U) → Bool
  | [.vec _ _ _ _] => true
  | _ => false
def stStore (tb : Tab U) (rs : List (Nat × AVal U)) (hp : List (Nat × Blk U)) (T : TypeId) (x y : Operand) (it : Option (IT U O P ops)) : Option (MR U) :=
  (opd rs x).bind fun vx => (lookA tb.ty T).bind fun t => match vx with
    | .loc n off => match lookA hp n with
      | some (.box us) => match (cutU U us off).bind fun x => (cutU U x.2 (t.width U.wd)).bind fun y => some (x.1, y.1, y.2) with
        | some (pre, mid, post) => (bif isVec1 mid then opd rs y else opdC rs t y).bind fun v => (unitsD v).bind fun mid' =>
            bif (allU pre && allU mid) && (allU mid' && unitsW mid' == t.width U.wd) then some { cb := [(n, .box (pre ++ mid ++ post))], pb := [(n, .box (pre ++ mid' ++ post))] } else none
        | none => (inU U us off).bind fun z => match z with
          | (pre, .p t0 X, k, post) => (opdP rs t y).bind fun zz => (setD U 32 t0 X k t zz).bind fun X' => bif allU pre then some { cb := [(n, .box (pre ++ [.p t0 X] ++ post))], pb := [(n, .box (pre ++ [.p t0 X'] ++ post))] } else none
          | _ => none
      | _ => none
    | .eloc n wd i off => match lookA hp n, it with
      | some (.row E t0 xs fx), some (@IT.v _ _ _ _ t2 q e _) => bif wd == t0.width U.wd then (opdP rs t y).bind fun zz => (setD U 32 t2 e off t zz).bind fun e2 => (AVal.asP t0 (.p t2 e2)).bind fun e' =>
          some { cb := [(n, .row E t0 xs fx)], pb := [(n, .row E t0 (upd xs i e') fx)], L := [.o t2 q], R := [.o t0 xs[i]?] } else none
      | some (.box us), some (@IT.v _ _ _ _ t2 q e _) => (inU U us off).bind fun z => match z with
        | (pre, .p (.arr N te) X, k, post) => bif allU pre && wd == te.width U.wd then (opdP rs t y).bind fun zz => (setD U 32 t2 e k t zz).bind fun e2 => (AVal.asP te (.p t2 e2)).bind fun e' =>
            some { cb := [(n, .box (pre ++ [.p (.arr N te) X] ++ post))], pb := [(n, .box (pre ++ [.p (.arr N te) (upd (α := te.den U.T) X i e')] ++ post))], L := [.o t2 q], R := [.o te (getElem? (coll := List (te.den U.T)) X i)] } else none
        | _ => none
      | _, _ => none
    | _ => none
def stNil (rs : List (Nat × AVal U)) (x : Operand) (it : Option (IT U O P ops)) : Option (MR U) :=
  (opd rs x).bind fun v => bif v.isPtr then some { v := v } else match v, it with
    | .p (.ptr t) q, some (@IT.v _ _ _ _ t2 q2 y _) => some { v := .pp t2 y, L := [.o t2 q2], R := [.o t q] }
    | _, _ => none
def stExt (rs : List (Nat × AVal U)) (x : Operand) (i : Nat) : Option (MR U) :=
  (opd rs x).bind fun v => match v with
    | .tup vs => vs[i]?.bind fun v => some { v := v }
    | _ => none
def intD : Option TypeDesc → Option IntKind | some (.int k) => some k | _ => none
def slD : Option TypeDesc → Option TypeId | some (.slice E) => some E | _ => none
def stConv (tb : Tab U) (rs : List (Nat × AVal U)) (hp : List (Nat × Blk U)) (T1 T2 : TypeId) (x : Operand) : Option (MR U) :=
  (opd rs x).bind fun v => match v with
    | .p (.int k) n => (intD (tb.un T1)).bind fun k1 => (intD (tb.un T2)).bind fun k2 => bif decide (k1 = k) then some { v := .p (.int k2) (k2.wrap n) } else none
    | .vec n 1 0 len => (slD (tb.un T1)).bind fun E => (intD (tb.un E)).bind fun k => match lookA hp n with
      | some (.row E' (.int .u8) xs fx) => bif (decide (k = .u8) && E' == E) && isStrD (tb.un T2) then some { v := .p .str (txtOf xs), ro := [(n, .row E' (.int .u8) xs fx)], L := [.n len], R := [.n (List.length (α := Int) xs)] } else none
      | _ => none
    | _ => none
def stLen (tb : Tab U) (rs : List (Nat × AVal U)) (hp : List (Nat × Blk U)) (T : TypeId) (x : Operand) : Option (MR U) :=
  (opd rs x).bind fun v => match v with
    | .p .str s => bif isStrD (tb.un T) then some { v := .p (.int .i64) (List.length (α := UInt8) s : Int) } else none
    | .p (.list t) s => (slD (tb.un T)).bind fun _ => some { v := .p (.int .i64) (List.length (α := t.den U.T) s : Int) }
    | .vec _ _ _ len => (slD (tb.un T)).bind fun _ => some { v := .p (.int .i64) (len : Int) }
    | .lit (.slice none 0 0) => (slD (tb.un T)).bind fun _ => some { v := .p (.int .i64) (0 : Int) }
    | .mp n => (lookA tb.mp T).bind fun _ => match lookA hp n with
      | some (.map t kvs) => some { v := .p (.int .i64) (kvs.length : Int), ro := [(n, .map t kvs)] }
      | _ => none
    | _ => none
def stLook (tb : Tab U) (rs : List (Nat × AVal U)) (hp : List (Nat × Blk U)) (T : TypeId) (m x : Operand) (c : Bool) : Option (MR U) :=
  (lookA tb.mp T).bind fun KE => (lookA tb.zd KE.2).bind fun z => (opd rs m).bind fun vm => (opdP rs .str x).bind fun k => match vm, z with
    | .mp n, .p t' z => match lookA hp n with
      | some (.map t kvs) => (AVal.asP t (.p t' z)).bind fun z' => match c with
        | false => some { v := .p t ((mget k kvs).getD z'), ro := [(n, .map t kvs)] }
        | true => some { v := .tup [.p t ((mget k kvs).getD z'), .p .bool (mget k kvs).isSome], ro := [(n, .map t kvs)] }
      | _ => none
    | _, _ => none
def stMapU (tb : Tab U) (rs : List (Nat × AVal U)) (hp : List (Nat × Blk U)) (T : TypeId) (m x y : Operand) : Option (MR U) :=
  (lookA tb.mp T).bind fun _ => (opd rs m).bind fun vm => (opdP rs .str x).bind fun k => match vm with
    | .mp n => match lookA hp n with
      | some (.map t kvs) => (opdP rs t y).bind fun v => some { cb := [(n, .map t kvs)], pb := [(n, .map t (mput k v kvs))] }
      | _ => none
    | _ => none
def stDel (tb : Tab U) (rs : List (Nat × AVal U)) (hp : List (Nat × Blk U)) (T K : TypeId) (m x : Operand) : Option (MR U) :=
  (lookA tb.mp T).bind fun KE => bif KE.1 == K then (opd rs m).bind fun vm => (opdP rs .str x).bind fun k => (match vm with
    | .mp n => match lookA hp n with
      | some (.map t kvs) => some { v := .tup [], cb := [(n, .map t kvs)], pb := [(n, .map t (mdel k kvs))] }
      | _ => none
    | _ => none) else none
def stMkMap (tb : Tab U) (T : TypeId) (d : Nat) : Option (MR U) :=
  (lookA tb.mp T).bind fun KE => (lookA tb.ty KE.2).bind fun t => some { v := .mp d, pb := [(d, .map t [])], nn := [d] }
def opdL (rs : List (Nat × AVal U)) : List Operand → Option (List (AVal U))
  | [] => some []
  | x :: l => (opd rs x).bind fun v => (opdL rs l).bind fun vs => some (v :: vs)
def opdPL (rs : List (Nat × AVal U)) (t : Ty) : List Operand → Option (List (t.den U.T))
  | [] => some []
  | x :: l => (opdP rs t x).bind fun v => (opdPL rs t l).bind fun vs => some (v :: vs)
def stFunc (rs : List (Nat × AVal U)) (f : Fn) (fs cs : Array Operand) : Option (MR U) :=
  match f with
  | .func f => bif fs.toList.isEmpty then (opdL rs cs.toList).bind fun vs => some { v := .clo f vs } else none
  | _ => none
def stMkSl (tb : Tab U) (rs : List (Nat × AVal U)) (T : TypeId) (x y : Operand) (d : Nat) (it : Option (IT U O P ops)) : Option (MR U) :=
  (lookA tb.ro T).bind fun z => (lookA tb.zd z.1).bind fun zv => (AVal.asP z.2.1 zv).bind fun zz => (opd rs x).bind fun vx => (opd rs y).bind fun vy => vx.int?.bind fun l => vy.int?.bind fun c => match it with
    | some (@IT.g _ _ _ _ p _) => bif Nat.ble z.2.2 32768 then some { v := .vec d (z.2.1.width U.wd) 0 l.2.toNat, pb := [(d, .row z.1 z.2.1 (List.replicate c.2.toNat zz) true)], nn := [d], L := [.p p], R := [.p (0 ≤ l.2 ∧ l.2 ≤ c.2 ∧ c.2 ≤ (LIM : Nat))] } else none
    | _ => none
def stBox (tb : Tab U) (rs : List (Nat × AVal U)) (T : TypeId) (x : Operand) (d : Nat) : Option (MR U) :=
  (lookA tb.ty T).bind fun t => (opdC rs t x).bind fun v => (unitsD v).bind fun us => bif allU us && !(AVal.namesL U us).contains d then some { v := .loc d 0, pb := [(d, .box us)], nn := [d] } else none
def stAlloc (tb : Tab U) (T : TypeId) (d : Nat) : Option (MR U) :=
  (lookA tb.az T).bind fun us => bif (AVal.namesL U us).contains d then none else some { v := .loc d 0, pb := [(d, .box us)], nn := [d] }
def fillD (rs : List (Nat × AVal U)) (pl : List (Nat × Nat × Ty)) : List (Nat × Operand) → List (AVal U) → Option (List (AVal U))
  | [], us => some us
  | (i, x) :: l, us => pl[i]?.bind fun y => ((cutU U us y.1).bind fun x => (cutU U x.2 y.2.1).bind fun y => some (x.1, y.1, y.2)).bind fun c => (opdC rs y.2.2 x).bind fun v => (unitsD v).bind fun mid' =>
      bif (allU c.1 && allU c.2.1) && (allU mid' && unitsW mid' == y.2.1) then fillD rs pl l (c.1 ++ mid' ++ c.2.2) else none
def stBuild (tb : Tab U) (rs : List (Nat × AVal U)) (T : TypeId) (ps : Array (Nat × Operand)) : Option (MR U) :=
  (lookA tb.bz T).bind fun b => (lookA tb.ty T).bind fun t => (fillD rs b.2 ps.toList b.1).bind fun us => bif t.isAgg then (madeD t us).bind fun v => some { v := v } else none
def stBSl (tb : Tab U) (rs : List (Nat × AVal U)) (T : TypeId) (n : Nat) (ps : Array (Nat × Operand)) (d : Nat) : Option (MR U) :=
  (lookA tb.ro T).bind fun z => bif (decide (ps.toList.map (·.1) = List.range' 0 n) && ps.toList.length == n) && Nat.ble (n * z.2.1.width U.wd) 16777216 then (opdPL rs z.2.1 (ps.toList.map (·.2))).bind fun xs =>
    some { v := .vec d (z.2.1.width U.wd) 0 xs.length, pb := [(d, .row z.1 z.2.1 xs true)], nn := [d] } else none
def viewL (hp : List (Nat × Blk U)) (t : Ty) : AVal U → Option (List (t.den U.T) × List (Nat × Blk U) × List (Ob U) × List (Ob U))
  | .lit (.slice none 0 0) => some ([], [], [], [])
  | .vec m wd off len => match lookA hp m with
    | some (.row E t' ys fx) => (AVal.asP (.list t) (.p (.list t') ys)).bind fun zs => bif wd == t'.width U.wd && off == 0 then some (zs, [(m, .row E t' ys fx)], [.n len], [.n ys.length]) else none
    | _ => none
  | v => (v.asP (.list t)).bind fun xs => some (xs, [], [], [])
def stApp (tb : Tab U) (rs : List (Nat × AVal U)) (hp : List (Nat × Blk U)) (T : TypeId) (x y : Operand) (d : Nat) (it : Option (IT U O P ops)) : Option (MR U) :=
  (lookA tb.ro T).bind fun z => (opd rs x).bind fun vx => (opd rs y).bind fun vy => (viewL hp z.2.1 vy).bind fun w => match it with
    | some (@IT.g _ _ _ _ p _) => bif Nat.ble z.2.2 32768 then (match vx with
      | .lit (.slice none 0 0) => some { v := .vec d (z.2.1.width U.wd) 0 w.1.length, ro := w.2.1, pb := [(d, .row z.1 z.2.1 w.1 false)], nn := [d], L := .p p :: w.2.2.1, R := .p (w.1.length ≤ LIM) :: w.2.2.2 }
      | .vec n wd off len => match lookA hp n with
        | some (.row E t xs fx) => (AVal.asP (.list z.2.1) (.p (.list t) xs)).bind fun (zs : List (z.2.1.den U.T)) => bif ((wd == t.width U.wd && off == 0) && E == z.1) && !(nm w.2.1).contains n then
            some { v := .vec d (z.2.1.width U.wd) 0 (List.length (zs ++ w.1)), ro := w.2.1, cb := [(n, .row E t xs fx)], pb := [(d, .row z.1 z.2.1 (zs ++ w.1) false)], nn := [d], L := .p p :: .n len :: w.2.2.1, R := .p (List.length zs + w.1.length ≤ LIM) :: .n xs.length :: w.2.2.2 } else none
        | _ => none
      | _ => none) else none
    | _ => none
end

section
variable {U : Univ} {O : Out} {P : Program} {ops : Array Oper} {o : Oper} {rs : List (Nat × AVal U)} {tb : Tab U} {hp : List (Nat × Blk U)} {r : MR U}
theorem opdC_ok {t : Ty} {x : Operand} {v : AVal U} (h : opdC rs t x = some v) : Opd U rs x v := by
  unfold opdC at h
  split at h
  · split at h
    · cases h; exact .lnil _ _
    · exact opd_ok h
  · split at h
    · cases h; exact .err0 _
    · exact opd_ok h
  · exact opd_ok h
theorem stStore_ok (htb : TbOk P U tb) {T : TypeId} {x y : Operand} {it : Option (IT U O P ops)} (hg : o.guard = none) (hd : o.dst = none) (ho : o.op = .store T x y) (h : stStore tb rs hp T x y it = some r) (e : r.L = r.R) : OkM U O P ops o rs hp r := by
  unfold stStore at h
  obtain ⟨vx, hx, h1⟩ := bind_some h
  obtain ⟨t, ht, h2⟩ := bind_some h1
  replace hx := opd_ok hx
  replace ht := htb.ty' ht
  clear h h1
  split at h2
  · split at h2
    · rename_i us hb
      split at h2
      · rename_i pre mid post hc
        obtain ⟨e1, e2, e3⟩ := cut2_ok hc
        obtain ⟨v, hv, h3⟩ := bind_some h2
        obtain ⟨mid', hm, h4⟩ := bind_some h3
        obtain ⟨ha, h5⟩ := bif_some h4
        simp only [Bool.and_eq_true] at ha
        have hv' : Opd U rs y v := by
          cases hv1 : isVec1 mid with
          | true => rw [hv1] at hv; exact opd_ok hv
          | false => rw [hv1] at hv; exact opdC_ok hv
        cases h5
        exact ⟨sok_storeB _ _ _ hg hd ho ht hx hv' (unitsD_ok hm) ha.1.1 e2 ha.1.2 e3 ha.2.1 (beqN ha.2.2), one_in' (e1 ▸ lookA_mem hb)⟩
      · obtain ⟨z, hz, h3⟩ := bind_some h2
        clear h2
        split at h3
        · obtain ⟨zz, hzz, h4⟩ := bind_some h3
          obtain ⟨X', hX, h5⟩ := bind_some h4
          obtain ⟨ha, h6⟩ := bif_some h5
          obtain ⟨e1, e2⟩ := inU_ok hz
          cases h6
          exact ⟨sok_storeU _ _ hg hd ho ht hx (.loc _ _) (opdP_ok hzz) ha rfl e2 (setD_ok _ hX), one_in' (e1 ▸ lookA_mem hb)⟩
        · cases h3
    · cases h2
  · split at h2
    · rename_i hq hb
      obtain ⟨hw, h3⟩ := bif_some h2
      replace hw := beqN hw
      obtain ⟨zz, hzz, h4⟩ := bind_some h3
      obtain ⟨e2, he2, h5⟩ := bind_some h4
      obtain ⟨e', he', h6⟩ := bind_some h5
      cases h6
      simp only [List.cons.injEq, and_true] at e
      obtain ⟨rfl, e⟩ := ob_o e
      cases AVal.asP_eq he'
      subst hw
      exact ⟨sok_storeE hg hd ho ht hx (opdP_ok hzz) (e.symm.trans hq) (setD_ok _ he2), one_in' (lookA_mem hb)⟩
    · rename_i hq hb
      obtain ⟨z, hz, h3⟩ := bind_some h2
      clear h2
      split at h3
      · obtain ⟨hw, h4⟩ := bif_some h3
        rw [Bool.and_eq_true] at hw
        obtain ⟨ha, hw⟩ := hw
        replace hw := beqN hw
        obtain ⟨zz, hzz, h5⟩ := bind_some h4
        obtain ⟨e2, he2, h6⟩ := bind_some h5
        obtain ⟨e', he', h7⟩ := bind_some h6
        cases h7
        simp only [List.cons.injEq, and_true] at e
        obtain ⟨rfl, e⟩ := ob_o e
        cases AVal.asP_eq he'
        obtain ⟨e3, e4⟩ := inU_ok hz
        subst hw
        exact ⟨sok_storeU _ _ hg hd ho ht hx (.eloc _ _ _ _ rfl) (opdP_ok hzz) ha rfl (by rw [e4, Nat.add_left_comm]) (.arr (e.symm.trans hq) (setD_ok _ he2) rfl), one_in' (e3 ▸ lookA_mem hb)⟩
      · cases h3
    · cases h2
  · cases h2
theorem stNil_ok {x : Operand} {it : Option (IT U O P ops)} (hg : o.guard = none) (ho : o.op = .nilCheck x) (h : stNil rs x it = some r) (e : r.L = r.R) : OkM U O P ops o rs hp r := by
  unfold stNil at h
  obtain ⟨v, hx, h1⟩ := bind_some h
  replace hx := opd_ok hx
  clear h
  cases hp' : v.isPtr with
  | true => rw [hp'] at h1; cases h1; exact ⟨sok_nilCheck hg ho hx hp', none_in _⟩
  | false =>
    rw [hp', cond_false] at h1
    split at h1
    · rename_i hq
      cases h1
      simp only [List.cons.injEq, and_true] at e
      obtain ⟨rfl, e⟩ := ob_o e
      exact ⟨sok_nilCheckP hg ho hx (e.symm.trans hq), none_in _⟩
    · cases h1
theorem stExt_ok {x : Operand} {i : Nat} (hg : o.guard = none) (ho : o.op = .extract x i) (h : stExt rs x i = some r) : OkM U O P ops o rs hp r := by
  unfold stExt at h
  obtain ⟨v, hx, h1⟩ := bind_some h
  replace hx := opd_ok hx
  clear h
  split at h1
  · obtain ⟨w, hw, h2⟩ := bind_some h1
    cases h2; exact ⟨sok_extract hg ho hx hw, none_in _⟩
  · cases h1
theorem intD_eq {d : Option TypeDesc} {k : IntKind} (h : intD d = some k) : d = some (.int k) := by
  unfold intD at h; split at h
  · cases h; rfl
  · cases h
theorem slD_eq {d : Option TypeDesc} {k : TypeId} (h : slD d = some k) : d = some (.slice k) := by
  unfold slD at h; split at h
  · cases h; rfl
  · cases h
theorem stConv_ok (htb : TbOk P U tb) {T1 T2 : TypeId} {x : Operand} (hg : o.guard = none) (ho : o.op = .convert T1 T2 x) (h : stConv tb rs hp T1 T2 x = some r) (e : r.L = r.R) : OkM U O P ops o rs hp r := by
  unfold stConv at h
  obtain ⟨v, hx, h1⟩ := bind_some h
  replace hx := opd_ok hx
  clear h
  split at h1
  · obtain ⟨k1, hk1, h2⟩ := bind_some h1
    obtain ⟨k2, hk2, h3⟩ := bind_some h2
    obtain ⟨hd, h4⟩ := bif_some h3
    have hd := of_decide_eq_true hd
    subst hd; cases h4
    exact ⟨sok_convI hg ho (htb.un' (intD_eq hk1)) (htb.un' (intD_eq hk2)) hx, none_in _⟩
  · obtain ⟨E, hE, h2⟩ := bind_some h1
    obtain ⟨k2, hk2, h3⟩ := bind_some h2
    clear h1 h2
    split at h3
    · rename_i hb
      obtain ⟨hd, h4⟩ := bif_some h3
      simp only [Bool.and_eq_true] at hd
      have h5 := of_decide_eq_true hd.1.1
      have h6 := beqN hd.1.2
      subst h5 h6; cases h4
      simp only [List.cons.injEq, Ob.n.injEq, and_true] at e
      subst e
      exact ⟨sok_strOf hg ho (htb.un' (slD_eq hE)) (htb.un' (intD_eq hk2)) (htb.str' hd.2) hx, one_in (lookA_mem hb)⟩
    · cases h3
  · cases h1
theorem TbOk.mp' (ht : TbOk P U tb) {T : TypeId} {d : TypeId × TypeId} (h : lookA tb.mp T = some d) : MapOk P T d.1 d.2 := ht.mp.mem _ (lookA_mem h)
theorem stLen_ok (htb : TbOk P U tb) {T : TypeId} {x : Operand} (hg : o.guard = none) (ho : o.op = .call { callee := .builtin .len, args := #[x], argTypes := #[T] }) (h : stLen tb rs hp T x = some r) : OkM U O P ops o rs hp r := by
  unfold stLen at h
  obtain ⟨v, hx, h1⟩ := bind_some h
  replace hx := opd_ok hx
  clear h
  split at h1
  · obtain ⟨hs, h2⟩ := bif_some h1
    cases h2; exact ⟨sok_lenS hg ho (htb.str' hs) hx, none_in _⟩
  · obtain ⟨E, hE, h2⟩ := bind_some h1
    cases h2; exact ⟨sok_lenL hg ho (htb.un' (slD_eq hE)) hx, none_in _⟩
  · obtain ⟨E, hE, h2⟩ := bind_some h1
    cases h2; exact ⟨sok_lenV hg ho (htb.un' (slD_eq hE)) hx, none_in _⟩
  · obtain ⟨E, hE, h2⟩ := bind_some h1
    cases h2; exact ⟨sok_lenNil hg ho (htb.un' (slD_eq hE)) hx, none_in _⟩
  · obtain ⟨E, hE, h2⟩ := bind_some h1
    clear h1
    split at h2
    · cases h2; exact ⟨sok_lenM hg ho (htb.mp' hE) hx, one_in (lookA_mem (by assumption))⟩
    · cases h2
  · cases h1
theorem TbOk.zd' (ht : TbOk P U tb) {T : TypeId} {d : AVal U} (h : lookA tb.zd T = some d) : ZdOk P U T d := ht.zd.mem _ (lookA_mem h)
theorem stLook_ok (htb : TbOk P U tb) {T : TypeId} {m x : Operand} {c : Bool} (hg : o.guard = none) (ho : o.op = .lookup T m x c) (h : stLook tb rs hp T m x c = some r) : OkM U O P ops o rs hp r := by
  unfold stLook at h
  obtain ⟨KE, hK, h1⟩ := bind_some h
  obtain ⟨z, hz, h2⟩ := bind_some h1
  obtain ⟨vm, hm, h3⟩ := bind_some h2
  obtain ⟨k, hk, h4⟩ := bind_some h3
  replace hm := opd_ok hm
  replace hz := htb.zd' hz
  clear h h1 h2 h3
  split at h4
  · split at h4
    · rename_i hb
      obtain ⟨z', hz', h5⟩ := bind_some h4
      clear h4
      cases AVal.asP_eq hz'
      split at h5
      · cases h5; exact ⟨sok_lookup hg ho (htb.mp' hK) hz hm (opdP_ok hk), one_in (lookA_mem hb)⟩
      · cases h5; exact ⟨sok_lookup2 hg ho (htb.mp' hK) hz hm (opdP_ok hk), one_in (lookA_mem hb)⟩
    · cases h4
  · cases h4
theorem stMapU_ok (htb : TbOk P U tb) {T : TypeId} {m x y : Operand} (hg : o.guard = none) (hd : o.dst = none) (ho : o.op = .mapUpdate T m x y) (h : stMapU tb rs hp T m x y = some r) : OkM U O P ops o rs hp r := by
  unfold stMapU at h
  obtain ⟨KE, hK, h1⟩ := bind_some h
  obtain ⟨vm, hm, h3⟩ := bind_some h1
  obtain ⟨k, hk, h4⟩ := bind_some h3
  replace hm := opd_ok hm
  clear h h1 h3
  split at h4
  · split at h4
    · rename_i hb
      obtain ⟨v, hv, h5⟩ := bind_some h4
      cases h5; exact ⟨sok_mapUpdate hg hd ho (htb.mp' hK) hm (opdP_ok hk) (opdP_ok hv), one_in' (lookA_mem hb)⟩
    · cases h4
  · cases h4
theorem stDel_ok (htb : TbOk P U tb) {T K : TypeId} {m x : Operand} (hg : o.guard = none) (ho : o.op = .call { callee := .builtin .delete, args := #[m, x], argTypes := #[T, K] }) (h : stDel tb rs hp T K m x = some r) : OkM U O P ops o rs hp r := by
  unfold stDel at h
  obtain ⟨KE, hK, h1⟩ := bind_some h
  obtain ⟨he, h2⟩ := bif_some h1
  obtain ⟨vm, hm, h3⟩ := bind_some h2
  obtain ⟨k, hk, h4⟩ := bind_some h3
  replace hm := opd_ok hm
  have he := beqN he
  subst he
  clear h h1 h2 h3
  split at h4
  · split at h4
    · rename_i hb
      cases h4; exact ⟨sok_delete hg ho (htb.mp' hK) hm (opdP_ok hk), one_in' (lookA_mem hb)⟩
    · cases h4
  · cases h4
theorem stMkMap_ok {T : TypeId} {d : Nat} (hg : o.guard = none) (hd : o.dst = some d) (ho : o.op = .makeMap T none) (h : stMkMap tb T d = some r) : OkM U O P ops o rs hp r := by
  unfold stMkMap at h
  obtain ⟨KE, hK, h1⟩ := bind_some h
  obtain ⟨t, ht, h2⟩ := bind_some h1
  cases h2; exact ⟨sok_makeMap hg hd ho, none_in _⟩
theorem opdL_ok : ∀ {xs : List Operand} {vs : List (AVal U)}, opdL rs xs = some vs → Opds U rs xs vs
  | [], _, h => by cases h; exact .nil
  | x :: l, _, h => by
    obtain ⟨v, hv, h1⟩ := bind_some h
    obtain ⟨vs, hvs, h2⟩ := bind_some h1
    cases h2; exact .cons (opd_ok hv) (opdL_ok hvs)
theorem opdPL_ok {t : Ty} : ∀ {xs : List Operand} {vs : List (t.den U.T)}, opdPL rs t xs = some vs → OpdsP U rs t xs vs ∧ xs.length = vs.length
  | [], _, h => by cases h; exact ⟨.nil, rfl⟩
  | x :: l, _, h => by
    obtain ⟨v, hv, h1⟩ := bind_some h
    obtain ⟨vs, hvs, h2⟩ := bind_some h1
    cases h2; exact ⟨.cons (opdP_ok hv) (opdPL_ok hvs).1, by rw [List.length_cons, List.length_cons, (opdPL_ok hvs).2]⟩
theorem stFunc_ok {f : Fn} {fs cs : Array Operand} (hg : o.guard = none) (ho : o.op = .makeFunc f fs cs) (h : stFunc rs f fs cs = some r) : OkM U O P ops o rs hp r := by
  unfold stFunc at h
  split at h
  · obtain ⟨he, h1⟩ := bif_some h
    obtain ⟨vs, hvs, h2⟩ := bind_some h1
    have hfs : fs = #[] := by
      have : fs.toList = [] := by simpa using he
      exact Array.toList_eq_nil_iff.1 this
    subst hfs
    cases h2; exact ⟨sok_makeFunc hg ho (opdL_ok hvs), none_in _⟩
  · cases h
theorem stMkSl_ok (htb : TbOk P U tb) {T : TypeId} {x y : Operand} {d : Nat} {it : Option (IT U O P ops)} (hg : o.guard = none) (hd : o.dst = some d) (ho : o.op = .makeSlice T x y) (h : stMkSl tb rs T x y d it = some r) (e : r.L = r.R) : OkM U O P ops o rs hp r := by
  unfold stMkSl at h
  obtain ⟨z, hz, h1⟩ := bind_some h
  obtain ⟨zv, hzv, h2⟩ := bind_some h1
  obtain ⟨zz, hzz, h3⟩ := bind_some h2
  obtain ⟨vx, hx, h4⟩ := bind_some h3
  obtain ⟨vy, hy, h5⟩ := bind_some h4
  obtain ⟨⟨kl, l⟩, hl, h6⟩ := bind_some h5
  obtain ⟨⟨kc, c⟩, hc, h7⟩ := bind_some h6
  replace hx := opd_ok hx
  replace hy := opd_ok hy
  rw [AVal.int?_eq hl] at hx
  rw [AVal.int?_eq hc] at hy
  replace hzv := htb.zd' hzv
  rw [AVal.asP_eq hzz] at hzv
  clear h h1 h2 h3 h4 h5 h6
  split at h7
  · rename_i hp'
    obtain ⟨hb, h8⟩ := bif_some h7
    cases h8
    simp only [List.cons.injEq, Ob.p.injEq, and_true] at e
    have hp' := e ▸ hp'
    exact ⟨sok_makeSlice hg hd ho (htb.ro' hz) (Nat.le_of_ble_eq_true hb) hzv hx hy hp'.1 hp'.2.1 hp'.2.2, none_in _⟩
  · cases h7
theorem stBox_ok {T : TypeId} {x : Operand} {d : Nat} (hg : o.guard = none) (hd : o.dst = some d) (ho : o.op = .box T x) (h : stBox tb rs T x d = some r) : OkM U O P ops o rs hp r := by
  unfold stBox at h
  obtain ⟨t, ht, h1⟩ := bind_some h
  obtain ⟨v, hv, h2⟩ := bind_some h1
  obtain ⟨us, hus, h3⟩ := bind_some h2
  obtain ⟨ha, h4⟩ := bif_some h3
  rw [Bool.and_eq_true] at ha
  cases h4; exact ⟨sok_box hg hd ho (opdC_ok hv) (unitsD_ok hus) ha.1 (notin_of (by simpa using ha.2)), none_in _⟩
theorem stAlloc_ok (htb : TbOk P U tb) {T : TypeId} {d : Nat} (hg : o.guard = none) (hd : o.dst = some d) (ho : o.op = .alloc T) (h : stAlloc tb T d = some r) : OkM U O P ops o rs hp r := by
  unfold stAlloc at h
  obtain ⟨us, hus, h1⟩ := bind_some h
  obtain ⟨v, cs, hz, hc, hu⟩ := htb.az.mem _ (lookA_mem hus)
  cases hn : (AVal.namesL U us).contains d with
  | true => rw [hn] at h1; cases h1
  | false => rw [hn] at h1; cases h1; exact ⟨sok_allocZ hg hd ho hz hc hu hn, none_in _⟩
theorem fillD_ok {pl : List (Nat × Nat × Ty)} {pf : Nat → Option (Nat × Nat)} (hp : ∀ i y, pl[i]? = some y → pf i = some (y.1, y.2.1)) : ∀ {l : List (Nat × Operand)} {us us' : List (AVal U)}, fillD rs pl l us = some us' → Filled U rs pf l us us'
  | [], _, _, h => by cases h; exact .nil _
  | (i, x) :: l, us, us', h => by
    obtain ⟨y, hy, h1⟩ := bind_some h
    obtain ⟨⟨pre, mid, post⟩, hc, h2⟩ := bind_some h1
    obtain ⟨v, hv, h3⟩ := bind_some h2
    obtain ⟨mid', hm, h4⟩ := bind_some h3
    obtain ⟨ha, h5⟩ := bif_some h4
    simp only [Bool.and_eq_true] at ha
    obtain ⟨e1, e2, e3⟩ := cut2_ok hc
    have e4 := beqN ha.2.2
    exact .cons pre mid mid' post (opdC_ok hv) (unitsD_ok hm) e1 ha.1.1 ha.1.2 ha.2.1 (by rw [hp i y hy, e2, e4]) (by rw [e3, e4]) (fillD_ok hp h5)
theorem stBuild_ok (htb : TbOk P U tb) {T : TypeId} {ps : Array (Nat × Operand)} (hg : o.guard = none) (ho : o.op = .build T ps) (h : stBuild tb rs T ps = some r) : OkM U O P ops o rs hp r := by
  unfold stBuild at h
  obtain ⟨b, hb, h1⟩ := bind_some h
  obtain ⟨t, ht, h2⟩ := bind_some h1
  obtain ⟨us, hus, h3⟩ := bind_some h2
  obtain ⟨ha, h4⟩ := bif_some h3
  obtain ⟨v, hv, h5⟩ := bind_some h4
  obtain ⟨z, pl, hl, hz, hpl'⟩ := htb.bz.mem _ (lookA_mem hb)
  have hpl : ∀ i y, b.2[i]? = some y → pl i = some (y.1, y.2.1) := fun i y hy => by
    have hi : i < b.2.length := (List.getElem?_eq_some_iff.1 hy).1
    have h1 := congrArg (·[i]?) hpl'
    simp only [List.getElem?_map, List.getElem?_range hi, hy, Option.map_some, Option.some.injEq] at h1
    exact h1
  cases h5; exact ⟨sok_build hg ho hl hz (fillD_ok hpl hus) ha (madeD_ok hv), none_in _⟩
theorem parts_of : ∀ (l : List (Nat × Operand)) (k n : Nat), l.map (·.1) = List.range' k n → l = ((l.map (·.2)).zipIdx k).map fun x => (x.2, x.1)
  | [], _, _, _ => rfl
  | (i, x) :: l, k, n, h => by
    cases n with
    | zero => cases h
    | succ n =>
      rw [List.range'_succ, List.map_cons, List.cons.injEq] at h
      obtain ⟨h1, h2⟩ := h
      have := parts_of l (k + 1) n h2
      simp only [List.map_cons, List.zipIdx_cons, List.cons.injEq]
      exact ⟨by rw [← h1], this⟩
theorem stBSl_ok (htb : TbOk P U tb) {T : TypeId} {n : Nat} {ps : Array (Nat × Operand)} {d : Nat} (hg : o.guard = none) (hd : o.dst = some d) (ho : o.op = .buildSlice T n ps) (h : stBSl tb rs T n ps d = some r) : OkM U O P ops o rs hp r := by
  unfold stBSl at h
  obtain ⟨z, hz, h1⟩ := bind_some h
  obtain ⟨ha, h2⟩ := bif_some h1
  obtain ⟨xs, hx, h3⟩ := bind_some h2
  simp only [Bool.and_eq_true] at ha
  have h4 := of_decide_eq_true ha.1.1
  have h5 := beqN ha.1.2
  have h6 := Nat.le_of_ble_eq_true ha.2
  have h7 := parts_of _ _ _ h4
  obtain ⟨h8, h9⟩ := opdPL_ok hx
  have h10 : (ps.toList.map (·.2)).length = n := by rw [List.length_map, h5]
  cases h3
  exact ⟨sok_buildSlice hg hd (by rw [ho, h10]) h7 (htb.ro' hz) h8 (by rw [h10]; exact h6), none_in _⟩
theorem viewL_ok {t : Ty} {v : AVal U} {w : List (t.den U.T) × List (Nat × Blk U) × List (Ob U) × List (Ob U)} (h : viewL hp t v = some w) (e : w.2.2.1 = w.2.2.2) : View U w.2.1 v (.p (.list t) w.1) ∧ ∀ x ∈ w.2.1, x ∈ hp := by
  unfold viewL at h
  split at h
  · cases h; exact ⟨.nilL _, fun _ h => by cases h⟩
  · split at h
    · rename_i hb
      obtain ⟨zs, hzs, h1⟩ := bind_some h
      obtain ⟨ha, h2⟩ := bif_some h1
      rw [Bool.and_eq_true] at ha
      have h3 := beqN ha.1
      have h4 := beqN ha.2
      subst h3 h4
      cases AVal.asP_eq hzs
      cases h2
      simp only [List.cons.injEq, Ob.n.injEq, and_true] at e
      subst e
      exact ⟨.whole (.head _), fun x hx => by rcases List.mem_cons.1 hx with rfl | hx; exact lookA_mem hb; cases hx⟩
    · cases h
  · obtain ⟨xs, hx, h1⟩ := bind_some h
    cases h1
    rw [AVal.asP_eq hx]
    exact ⟨.same _, fun _ h => by cases h⟩
theorem stApp_ok (htb : TbOk P U tb) {T : TypeId} {x y : Operand} {d : Nat} {it : Option (IT U O P ops)} (hg : o.guard = none) (hd : o.dst = some d) (ho : o.op = .call { callee := .builtin .append, args := #[x, y], argTypes := #[T, T] }) (h : stApp tb rs hp T x y d it = some r) (e : r.L = r.R) : OkM U O P ops o rs hp r := by
  unfold stApp at h
  obtain ⟨z, hz, h1⟩ := bind_some h
  obtain ⟨vx, hx, h2⟩ := bind_some h1
  obtain ⟨vy, hy, h3⟩ := bind_some h2
  obtain ⟨w, hw, h4⟩ := bind_some h3
  replace hx := opd_ok hx
  replace hy := opd_ok hy
  replace hz := htb.ro' hz
  clear h h1 h2 h3
  split at h4
  · rename_i hp'
    obtain ⟨hb, h5⟩ := bif_some h4
    replace hb := Nat.le_of_ble_eq_true hb
    clear h4
    split at h5
    · cases h5
      simp only [List.cons.injEq, Ob.p.injEq] at e
      obtain ⟨h6, h7⟩ := viewL_ok hw e.2
      exact ⟨sok_appendN hg hd ho hz hb hx hy h6 (e.1 ▸ hp'), fun x hx => h7 x (by simpa using hx)⟩
    · split at h5
      · rename_i hbl
        obtain ⟨zs, hzs, h6⟩ := bind_some h5
        obtain ⟨ha, h7⟩ := bif_some h6
        simp only [Bool.and_eq_true] at ha
        have h8 := beqN ha.1.1.1
        have h9 := beqN ha.1.1.2
        have h10 := beqN ha.1.2
        subst h8 h9
        cases AVal.asP_eq hzs
        cases h7
        simp only [List.cons.injEq, Ob.p.injEq, Ob.n.injEq] at e
        obtain ⟨h11, h12⟩ := viewL_ok hw e.2.2
        obtain ⟨e1, e2, _⟩ := e
        subst e2 h10
        refine ⟨sok_append' hg hd ho hz hb hx hy h11 (by simpa using ha.2) (e1 ▸ hp'), fun x hx => ?_⟩
        rcases List.mem_append.1 hx with hx | hx
        · exact h12 x hx
        · rcases List.mem_cons.1 hx with rfl | hx
          · exact lookA_mem hbl
          · cases hx
      · cases h5
    · cases h5
  · cases h4
end
end Go.AM

namespace Go.AM

section
variable {U : Univ} {O : Out} {P : Program} {ops : Array Oper}
def view1 (hp : List (Nat × Blk U)) (v a : AVal U) : Option (List (Nat × Blk U) × List (Ob U) × List (Ob U)) :=
  match a, v with
  | .p (.list t) x, .vec m wd off len => match lookA hp m with
    | some (.row E t' ys fx) => (AVal.asP (.list t) (.p (.list t') ys)).bind fun zs => bif wd == t'.width U.wd && off == 0 then some ([(m, .row E t' ys fx)], [.n len, .o (.list t) (some x)], [.n ys.length, .o (.list t) (some zs)]) else none
    | _ => none
  | .p (.list t) x, .lit (.slice none 0 0) => some ([], [.o (.list t) (some x)], [.o (.list t) (some [])])
  | .p .err x, .lit .nilIface => some ([], [.o .err (some x)], [.o .err (some (0 : Nat))])
  | a, v => some ([], [.v v], [.v a])
def viewsD (hp : List (Nat × Blk U)) : List (AVal U) → List (AVal U) → Option (List (Nat × Blk U) × List (Ob U) × List (Ob U))
  | [], [] => some ([], [], [])
  | v :: vs, a :: as => (view1 hp v a).bind fun x => (viewsD hp vs as).bind fun y => some (x.1 ++ y.1, x.2.1 ++ y.2.1, x.2.2 ++ y.2.2)
  | _, _ => none
def holdD (hp : List (Nat × Blk U)) : List (Nat × Blk U) → Option (List (Ob U) × List (Ob U))
  | [] => some ([], [])
  | x :: l => (lookA hp x.1).bind fun b => (holdD hp l).bind fun y => some (.k b :: y.1, .k x.2 :: y.2)
def holdS (sl : List (Nat × AVal U)) : List (Nat × AVal U) → Option (List (Ob U) × List (Ob U))
  | [] => some ([], [])
  | x :: l => (lookA sl x.1).bind fun b => (holdS sl l).bind fun y => some (.v b :: y.1, .v x.2 :: y.2)
def calleeD (rs : List (Nat × AVal U)) (x : Operand) : Option (FuncId × List (AVal U)) :=
  (opd rs x).bind fun v => match v with
    | .clo f caps => some (f, caps)
    | _ => none
def stCall (tb : Tab U) (rs : List (Nat × AVal U)) (hp : List (Nat × Blk U)) (x : Operand) (as : Array Operand) (it : Option (IT U O P ops)) : Option (MR U) :=
  match it with
  | some (@IT.c _ _ _ _ f c _) => (calleeD rs x).bind fun fc => bif fc.1 == f && tb.hb.contains f then
      (opdL rs as.toList).bind fun vs => (viewsD hp (vs ++ fc.2) c.ar).bind fun w => (holdD hp c.bs).bind fun z => bif (nm w.1).all (fun n => !(nm c.bs).contains n) then
        (bif w.1.isEmpty || c.flat then some { v := c.r, ro := w.1, cb := c.bs, pb := c.bs', nn := c.nn, L := w.2.1 ++ z.1, R := w.2.2 ++ z.2 }
         else some { v := c.r, cb := w.1 ++ c.bs, pb := c.bs', nn := c.nn, L := w.2.1 ++ z.1, R := w.2.2 ++ z.2 }) else none else none
  | _ => none
end

section
variable {U : Univ} {O : Out} {P : Program} {ops : Array Oper} {o : Oper} {rs : List (Nat × AVal U)} {tb : Tab U} {hp : List (Nat × Blk U)} {r : MR U}
theorem app_inj {α : Type} {a b c d : List α} (h : a ++ c = b ++ d) (hl : a.length = b.length) : a = b ∧ c = d := List.append_inj h hl
theorem view1_ok {v a : AVal U} {w : List (Nat × Blk U) × List (Ob U) × List (Ob U)} (h : view1 hp v a = some w) (e : w.2.1 = w.2.2) {vw : List (Nat × Blk U)} (hw : ∀ x ∈ w.1, x ∈ vw) : View U vw v a ∧ ∀ x ∈ w.1, x ∈ hp := by
  unfold view1 at h
  split at h
  · split at h
    · rename_i hb
      obtain ⟨zs, hzs, h1⟩ := bind_some h
      obtain ⟨ha, h2⟩ := bif_some h1
      rw [Bool.and_eq_true] at ha
      have h3 := beqN ha.1
      have h4 := beqN ha.2
      subst h3 h4
      cases AVal.asP_eq hzs
      cases h2
      simp only [List.cons.injEq, Ob.n.injEq, and_true] at e
      obtain ⟨e1, e2⟩ := e
      cases e2
      subst e1
      exact ⟨.whole (hw _ (.head _)), fun x hx => by rcases List.mem_cons.1 hx with rfl | hx; exact lookA_mem hb; cases hx⟩
    · cases h
  · cases h
    simp only [List.cons.injEq, and_true] at e
    cases e
    exact ⟨.nilL _, fun _ h => by cases h⟩
  · cases h
    simp only [List.cons.injEq, and_true] at e
    cases e
    exact ⟨.nilE, fun _ h => by cases h⟩
  · cases h
    simp only [List.cons.injEq, Ob.v.injEq, and_true] at e
    subst e
    exact ⟨.same _, fun _ h => by cases h⟩
theorem view1_len {v a : AVal U} {w : List (Nat × Blk U) × List (Ob U) × List (Ob U)} (h : view1 hp v a = some w) : w.2.1.length = w.2.2.length := by
  unfold view1 at h
  split at h
  · split at h
    · obtain ⟨zs, hzs, h1⟩ := bind_some h
      obtain ⟨ha, h2⟩ := bif_some h1
      cases h2; rfl
    · cases h
  · cases h; rfl
  · cases h; rfl
  · cases h; rfl
theorem viewsD_len : ∀ {vs as : List (AVal U)} {w : List (Nat × Blk U) × List (Ob U) × List (Ob U)}, viewsD hp vs as = some w → w.2.1.length = w.2.2.length
  | [], [], _, h => by cases h; rfl
  | v :: vs, a :: as, w, h => by
    obtain ⟨x, hx, h1⟩ := bind_some h
    obtain ⟨y, hy, h2⟩ := bind_some h1
    cases h2
    simp only [List.length_append, view1_len hx, viewsD_len hy]
  | [], _ :: _, _, h => by cases h
  | _ :: _, [], _, h => by cases h
theorem viewsD_ok : ∀ {vs as : List (AVal U)} {w : List (Nat × Blk U) × List (Ob U) × List (Ob U)}, viewsD hp vs as = some w → w.2.1 = w.2.2 → ∀ {vw : List (Nat × Blk U)}, (∀ x ∈ w.1, x ∈ vw) → Views U vw vs as ∧ ∀ x ∈ w.1, x ∈ hp
  | [], [], _, h, _, _, _ => by cases h; exact ⟨.nil, fun _ h => by cases h⟩
  | v :: vs, a :: as, w, h, e, vw, hw => by
    obtain ⟨x, hx, h1⟩ := bind_some h
    obtain ⟨y, hy, h2⟩ := bind_some h1
    cases h2
    obtain ⟨e1, e2⟩ := app_inj e (view1_len hx)
    obtain ⟨g1, g2⟩ := view1_ok hx e1 fun z hz => hw z (List.mem_append.2 (.inl hz))
    obtain ⟨g3, g4⟩ := viewsD_ok hy e2 fun z hz => hw z (List.mem_append.2 (.inr hz))
    exact ⟨.cons g1 g3, fun z hz => (List.mem_append.1 hz).elim (g2 z) (g4 z)⟩
  | [], _ :: _, _, h, _, _, _ => by cases h
  | _ :: _, [], _, h, _, _, _ => by cases h
theorem holdD_ok : ∀ {l : List (Nat × Blk U)} {z : List (Ob U) × List (Ob U)}, holdD hp l = some z → z.1 = z.2 → ∀ x ∈ l, x ∈ hp
  | [], _, _, _, _, h => by cases h
  | x :: l, z, h, e, y, hy => by
    obtain ⟨b, hb, h1⟩ := bind_some h
    obtain ⟨w, hw, h2⟩ := bind_some h1
    cases h2
    simp only [List.cons.injEq, Ob.k.injEq] at e
    rcases List.mem_cons.1 hy with rfl | hy
    · have := lookA_mem hb; rw [e.1] at this; exact this
    · exact holdD_ok hw e.2 y hy
theorem holdS_ok {sl : List (Nat × AVal U)} : ∀ {l : List (Nat × AVal U)} {z : List (Ob U) × List (Ob U)}, holdS sl l = some z → z.1 = z.2 → ∀ x ∈ l, x ∈ sl
  | [], _, _, _, _, h => by cases h
  | x :: l, z, h, e, y, hy => by
    obtain ⟨b, hb, h1⟩ := bind_some h
    obtain ⟨w, hw, h2⟩ := bind_some h1
    cases h2
    simp only [List.cons.injEq, Ob.v.injEq] at e
    rcases List.mem_cons.1 hy with rfl | hy
    · have := lookA_mem hb; rw [e.1] at this; exact this
    · exact holdS_ok hw e.2 y hy
theorem holdS_len {sl : List (Nat × AVal U)} : ∀ {l : List (Nat × AVal U)} {z : List (Ob U) × List (Ob U)}, holdS sl l = some z → z.1.length = z.2.length
  | [], _, h => by cases h; rfl
  | x :: l, z, h => by
    obtain ⟨b, hb, h1⟩ := bind_some h
    obtain ⟨w, hw, h2⟩ := bind_some h1
    cases h2
    simp only [List.length_cons, holdS_len hw]
theorem calleeD_ok {x : Operand} {fc : FuncId × List (AVal U)} (h : calleeD rs x = some fc) : Callee U rs x fc.1 fc.2 := by
  unfold calleeD at h
  obtain ⟨v, hv, h1⟩ := bind_some h
  replace hv := opd_ok hv
  split at h1
  · cases h1; exact .clo hv
  · cases h1
theorem stCall_ok (htb : TbOk P U tb) {x : Operand} {as : Array Operand} {ts : Array TypeId} {it : Option (IT U O P ops)} (hg : o.guard = none) (ho : o.op = .call { callee := .value x, args := as, argTypes := ts })
    (h : stCall tb rs hp x as it = some r) (e : r.L = r.R) : OkM U O P ops o rs hp r := by
  unfold stCall at h
  split at h
  · rename_i f c hc
    obtain ⟨fc, hf, h1⟩ := bind_some h
    obtain ⟨ha, h2⟩ := bif_some h1
    rw [Bool.and_eq_true] at ha
    obtain ⟨vs, hvs, h3⟩ := bind_some h2
    obtain ⟨w, hw, h4⟩ := bind_some h3
    obtain ⟨z, hz, h5⟩ := bind_some h4
    obtain ⟨hn, h6⟩ := bif_some h5
    clear h h1 h2 h3 h4 h5
    have hfe : fc.1 = f := beqN ha.1
    have hb : HasBody P f := htb.hb.mem _ (by simpa using ha.2)
    have hcal := calleeD_ok hf
    rw [hfe] at hcal
    have hd : ∀ n ∈ nm w.1, n ∉ nm c.bs := fun n hn' => by
      have := List.all_eq_true.1 hn n hn'
      simpa using this
    cases hfl : w.1.isEmpty || c.flat with
    | true =>
      rw [hfl, cond_true] at h6
      cases h6
      obtain ⟨e1, e2⟩ := app_inj e (viewsD_len hw)
      obtain ⟨g1, g2⟩ := viewsD_ok hw e1 (vw := w.1) fun _ h => h
      refine ⟨sok_callV hg ho hcal hb hc (opdL_ok hvs) g1 hd ?_, fun y hy => (List.mem_append.1 hy).elim (g2 y) (holdD_ok hz e2 y)⟩
      rw [Bool.or_eq_true] at hfl
      exact hfl.imp (fun h => by simpa using h) id
    | false =>
      rw [hfl, cond_false] at h6
      cases h6
      obtain ⟨e1, e2⟩ := app_inj e (viewsD_len hw)
      obtain ⟨g1, g2⟩ := viewsD_ok hw e1 (vw := w.1) fun _ h => h
      exact ⟨sok_callF hg ho hcal hb hc (opdL_ok hvs) g1 hd, fun y hy => (List.mem_append.1 (List.nil_append _ ▸ hy)).elim (g2 y) (holdD_ok hz e2 y)⟩
  · cases h
end

section
variable {U : Univ} {O : Out} {P : Program} {ops : Array Oper}
structure SR (U : Univ) where
  s : LSpec U
  L : List (Ob U) := []
  R : List (Ob U) := []
def MR.sr (rs : List (Nat × AVal U)) (r : MR U) : SR U := ⟨r.spec rs, r.L, r.R⟩
def VR.sr (rs : List (Nat × AVal U)) (r : VR U) : SR U := ⟨{ rs := rs, ws := r.v }, r.L, r.R⟩
def stBuiltin (tb : Tab U) (rs : List (Nat × AVal U)) (hp : List (Nat × Blk U)) (b : Builtin) (as : List Operand) (ts : List TypeId) (d : Option Nat) (it : Option (IT U O P ops)) : Option (MR U) :=
  match b, as, ts with
  | .len, [x], [T] => stLen tb rs hp T x
  | .append, [x, y], [T, T'] => bif T == T' then d.bind fun d => stApp tb rs hp T x y d it else none
  | .delete, [m, x], [T, K] => stDel tb rs hp T K m x
  | _, _, _ => none
def stepD (tb : Tab U) (st : St U) (fact : Nat → Option (IT U O P ops)) (o : Oper) (it : Option (IT U O P ops)) : Option (SR U) :=
  let rs := rsOf st.sl o.op.operands.toList
  match o.op with
  | .move x => some ((stMove rs x).sr rs)
  | .assign x => some ((stMove rs x).sr rs)
  | .pick c x y => (stPick rs (match c with | .tmp t => fact t | _ => none) c x y).bind fun r => some (r.sr rs)
  | .binOp op t x y _ => (stBin tb rs op t x y it).bind fun r => some (r.sr rs)
  | .unOp op _ x => (stUn rs op x).bind fun r => some (r.sr rs)
  | .indexAddr T x y => (stIdxA tb rs T x y it).bind fun r => some (r.sr rs)
  | .index T x y => (stIdx tb rs T x y it).bind fun r => some (r.sr rs)
  | .slice T x lo hi mx => match mx with
    | none => (stSlice tb rs st.hp T x lo hi it).bind fun r => some (r.sr rs)
    | some _ => none
  | .fieldAddr T x f => (stFdA tb rs T x f).bind fun r => some (r.sr rs)
  | .field T x f => (stFd tb rs T x f).bind fun r => some (r.sr rs)
  | .load T x => (stLoad tb rs st.hp T x it).bind fun r => some (r.sr rs)
  | .store T x y => match o.dst with
    | none => (stStore tb rs st.hp T x y it).bind fun r => some (r.sr rs)
    | some _ => none
  | .nilCheck x => (stNil rs x it).bind fun r => some (r.sr rs)
  | .extract x i => (stExt rs x i).bind fun r => some (r.sr rs)
  | .convert T1 T2 x => (stConv tb rs st.hp T1 T2 x).bind fun r => some (r.sr rs)
  | .lookup T m x c => (stLook tb rs st.hp T m x c).bind fun r => some (r.sr rs)
  | .mapUpdate T m x y => match o.dst with
    | none => (stMapU tb rs st.hp T m x y).bind fun r => some (r.sr rs)
    | some _ => none
  | .makeMap T x => match x with
    | none => o.dst.bind fun d => (stMkMap tb T d).bind fun r => some (r.sr rs)
    | some _ => none
  | .makeFunc f fs cs => (stFunc rs f fs cs).bind fun r => some (r.sr rs)
  | .makeSlice T x y => o.dst.bind fun d => (stMkSl tb rs T x y d it).bind fun r => some (r.sr rs)
  | .box T x => o.dst.bind fun d => (stBox tb rs T x d).bind fun r => some (r.sr rs)
  | .alloc T => o.dst.bind fun d => (stAlloc tb T d).bind fun r => some (r.sr rs)
  | .build T ps => (stBuild tb rs T ps).bind fun r => some (r.sr rs)
  | .buildSlice T n ps => o.dst.bind fun d => (stBSl tb rs T n ps d).bind fun r => some (r.sr rs)
  | .call c => match c.callee with
    | .value x => (stCall tb rs st.hp x c.args it).bind fun r => some (r.sr rs)
    | .builtin b => (stBuiltin tb rs st.hp b c.args.toList c.argTypes.toList o.dst it).bind fun r => some (r.sr rs)
    | _ => none
  | _ => none
end

section
variable {U : Univ} {O : Out} {P : Program} {ops : Array Oper} {o : Oper} {tb : Tab U} {st : St U}
theorem rsOf_in {sl : List (Nat × AVal U)} {xs : List Operand} : ∀ x ∈ rsOf sl xs, x ∈ sl := fun _ h => mem_takeA h
abbrev OkS (U : Univ) (O : Out) (P : Program) (ops : Array Oper) (o : Oper) (st : St U) (r : SR U) : Prop :=
  SOk U O P ops o r.s ∧ (∀ x ∈ r.s.rs, x ∈ st.sl) ∧ ∀ x ∈ r.s.ro ++ r.s.cb, x ∈ st.hp
theorem okM_sr {rs : List (Nat × AVal U)} {r : MR U} (h : OkM U O P ops o rs st.hp r) (hr : ∀ x ∈ rs, x ∈ st.sl) : OkS U O P ops o st (r.sr rs) := ⟨h.1, hr, h.2⟩
theorem okV_sr {rs : List (Nat × AVal U)} {r : VR U} (h : SOk U O P ops o { rs := rs, ws := r.v }) (hr : ∀ x ∈ rs, x ∈ st.sl) : OkS U O P ops o st (r.sr rs) := ⟨h, hr, none_in _⟩
theorem arr1 {α : Type} {as : Array α} {x : α} (h : as.toList = [x]) : as = #[x] := by rw [← h]
theorem arr2 {α : Type} {as : Array α} {x y : α} (h : as.toList = [x, y]) : as = #[x, y] := by rw [← h]
theorem stepD_ok (htb : TbOk P U tb) {fact : Nat → Option (IT U O P ops)} {it : Option (IT U O P ops)} {r : SR U} (hg : o.guard = none) (h : stepD tb st fact o it = some r) (e : r.L = r.R) : OkS U O P ops o st r := by
  unfold stepD at h
  dsimp only at h
  generalize hrs : rsOf st.sl o.op.operands.toList = rs at h
  have hr : ∀ x ∈ rs, x ∈ st.sl := hrs ▸ rsOf_in
  clear hrs
  split at h
  · rename_i ho; cases h; exact okM_sr (stMove_ok hg (.inl ho)) hr
  · rename_i ho; cases h; exact okM_sr (stMove_ok hg (.inr ho)) hr
  · rename_i ho; obtain ⟨q, hq, h1⟩ := bind_some h; cases h1; exact okM_sr (stPick_ok hg ho hq e) hr
  · rename_i ho; obtain ⟨q, hq, h1⟩ := bind_some h; cases h1; exact okV_sr (stBin_ok htb hg ho hq e) hr
  · rename_i ho; obtain ⟨q, hq, h1⟩ := bind_some h; cases h1; exact okV_sr (stUn_ok hg ho hq) hr
  · rename_i ho; obtain ⟨q, hq, h1⟩ := bind_some h; cases h1; exact okM_sr (stIdxA_ok htb hg ho hq e) hr
  · rename_i ho; obtain ⟨q, hq, h1⟩ := bind_some h; cases h1; exact okM_sr (stIdx_ok htb hg ho hq e) hr
  · rename_i ho
    split at h
    · obtain ⟨q, hq, h1⟩ := bind_some h; cases h1; exact okM_sr (stSlice_ok htb hg ho hq e) hr
    · cases h
  · rename_i ho; obtain ⟨q, hq, h1⟩ := bind_some h; cases h1; exact okM_sr (stFdA_ok htb hg ho hq) hr
  · rename_i ho; obtain ⟨q, hq, h1⟩ := bind_some h; cases h1; exact okM_sr (stFd_ok htb hg ho hq) hr
  · rename_i ho; obtain ⟨q, hq, h1⟩ := bind_some h; cases h1; exact okM_sr (stLoad_ok htb hg ho hq e) hr
  · rename_i ho
    split at h
    · rename_i hd; obtain ⟨q, hq, h1⟩ := bind_some h; cases h1; exact okM_sr (stStore_ok htb hg hd ho hq e) hr
    · cases h
  · rename_i ho; obtain ⟨q, hq, h1⟩ := bind_some h; cases h1; exact okM_sr (stNil_ok hg ho hq e) hr
  · rename_i ho; obtain ⟨q, hq, h1⟩ := bind_some h; cases h1; exact okM_sr (stExt_ok hg ho hq) hr
  · rename_i ho; obtain ⟨q, hq, h1⟩ := bind_some h; cases h1; exact okM_sr (stConv_ok htb hg ho hq e) hr
  · rename_i ho; obtain ⟨q, hq, h1⟩ := bind_some h; cases h1; exact okM_sr (stLook_ok htb hg ho hq) hr
  · rename_i ho
    split at h
    · rename_i hd; obtain ⟨q, hq, h1⟩ := bind_some h; cases h1; exact okM_sr (stMapU_ok htb hg hd ho hq) hr
    · cases h
  · rename_i ho
    split at h
    · obtain ⟨d, hd, h0⟩ := bind_some h; obtain ⟨q, hq, h1⟩ := bind_some h0; cases h1; exact okM_sr (stMkMap_ok hg hd ho hq) hr
    · cases h
  · rename_i ho; obtain ⟨q, hq, h1⟩ := bind_some h; cases h1; exact okM_sr (stFunc_ok hg ho hq) hr
  · rename_i ho; obtain ⟨d, hd, h0⟩ := bind_some h; obtain ⟨q, hq, h1⟩ := bind_some h0; cases h1; exact okM_sr (stMkSl_ok htb hg hd ho hq e) hr
  · rename_i ho; obtain ⟨d, hd, h0⟩ := bind_some h; obtain ⟨q, hq, h1⟩ := bind_some h0; cases h1; exact okM_sr (stBox_ok hg hd ho hq) hr
  · rename_i ho; obtain ⟨d, hd, h0⟩ := bind_some h; obtain ⟨q, hq, h1⟩ := bind_some h0; cases h1; exact okM_sr (stAlloc_ok htb hg hd ho hq) hr
  · rename_i ho; obtain ⟨q, hq, h1⟩ := bind_some h; cases h1; exact okM_sr (stBuild_ok htb hg ho hq) hr
  · rename_i ho; obtain ⟨d, hd, h0⟩ := bind_some h; obtain ⟨q, hq, h1⟩ := bind_some h0; cases h1; exact okM_sr (stBSl_ok htb hg hd ho hq) hr
  · rename_i c ho
    obtain ⟨cal, as, ts⟩ := c
    dsimp only at h
    split at h
    · obtain ⟨q, hq, h1⟩ := bind_some h; cases h1; exact okM_sr (stCall_ok htb hg ho hq e) hr
    · obtain ⟨q, hq, h1⟩ := bind_some h; cases h1
      refine okM_sr ?_ hr
      unfold stBuiltin at hq
      split at hq
      · rename_i h1 h2
        rw [arr1 h1, arr1 h2] at ho
        exact stLen_ok htb hg ho hq
      · rename_i h1 h2
        obtain ⟨hT, h3⟩ := bif_some hq
        obtain ⟨d, hd, h4⟩ := bind_some h3
        have := beqN hT
        subst this
        rw [arr2 h1, arr2 h2] at ho
        exact stApp_ok htb hg hd ho h4 e
      · rename_i h1 h2
        rw [arr2 h1, arr2 h2] at ho
        exact stDel_ok htb hg ho hq
      · cases hq
    · cases h
  · cases h
end
end Go.AM

namespace Go.AM

section
variable {U : Univ} {O : Out} {P : Program} {ops : Array Oper}
structure RX (U : Univ) (O : Out) (P : Program) (ops : Array Oper) where
  its : List (Nat × IT U O P ops) := []
  kn : List (Nat × IT U O P ops) := []
  th : List (Nat × List (Nat × Nat × TypeId × Ty)) := []
  fz : List Nat := []
  gv : List (Nat × List Nat) := []
def splitAt' {α : Type} : Nat → List α → Option (List α × α × List α)
  | _, [] => none
  | 0, x :: l => some ([], x, l)
  | n + 1, x :: l => (splitAt' n l).bind fun y => some (x :: y.1, y.2)
def thaw1 (r : SR U) (j m : Nat) (E : TypeId) (t : Ty) : Option (SR U) :=
  match r.s.pb with
  | (d, .box us) :: rest => (splitAt' j us).bind fun x => match x with
    | (pre, .lit (.slice none 0 0), post) => bif (nm r.s.pb ++ AVal.names U r.s.ws ++ r.s.pb.flatMap (fun x => Blk.names U x.2) ++ nm r.s.cb).contains m then none else
        some ⟨{ r.s with pb := (d, .box (pre ++ .vec m (t.width U.wd) 0 0 :: post)) :: (m, .row E t [] false) :: rest, nn := m :: r.s.nn }, r.L, r.R⟩
    | _ => none
  | _ => none
def thawD : List (Nat × Nat × TypeId × Ty) → SR U → Option (SR U)
  | [], r => some r
  | x :: l, r => (thaw1 r x.1 x.2.1 x.2.2.1 x.2.2.2).bind fun r => thawD l r
def frzD (r : SR U) : Option (SR U) :=
  match r.s.ws, r.s.pb with
  | .vec d wd 0 len, [(d', .row _ t xs _)] => bif (d' == d && wd == t.width U.wd) && decide (r.s.nn = [d]) then some ⟨{ r.s with ws := .p (.list t) xs, pb := [], nn := [] }, .n len :: r.L, .n xs.length :: r.R⟩ else none
  | _, _ => none
def findA {α : Type} (t : Nat) : List (Nat × α) → Option (List (Nat × α) × α × List (Nat × α))
  | [] => none
  | x :: l => bif x.1 == t then some ([], x.2, l) else (findA t l).bind fun y => some (x :: y.1, y.2)
def giveD (f : St U → Option (SR U)) : List Nat → St U → Option (SR U)
  | [], st => f st
  | t :: l, st => (lookA st.sl t).bind fun v => match v with
    | .vec n wd 0 len => match lookA st.hp n with
      | some (.row E ty xs fx) => (giveD f l ⟨setA st.sl t (.p (.list ty) xs), st.hp.filter fun x => !(x.1 == n)⟩).bind fun r => (findA t r.s.rs).bind fun y =>
          bif (wd == ty.width U.wd && !(nm y.1 ++ nm y.2.2).contains t) && !(nm r.s.ro ++ nm r.s.cb).contains n then
            some ⟨{ r.s with rs := y.1 ++ (t, .vec n (ty.width U.wd) 0 len) :: y.2.2, cb := (n, .row E ty xs fx) :: r.s.cb }, .v y.2.1 :: .n len :: r.L, .v (.p (.list ty) xs) :: .n xs.length :: r.R⟩ else none
      | _ => none
    | _ => none
def stepE (st : St U) (o : Oper) (s : LSpec U) (o' : Oper) : Option (SR U) :=
  (holdS st.sl s.rs).bind fun a => (holdD st.hp (s.ro ++ s.cb)).bind fun b => some ⟨s, .w o' :: (a.1 ++ b.1), .w o :: (a.2 ++ b.2)⟩
def stepF (tb : Tab U) (x : RX U O P ops) (i : Nat) (o : Oper) (st : St U) : Option (SR U) :=
  match lookA x.its i with
  | some (@IT.e _ _ _ _ i' s _) => stepE st o s { opAt ops i' with guard := none }
  | it => (giveD (fun st => stepD tb st (lookA x.kn) o it) ((lookA x.gv i).getD []) st).bind fun r => (thawD ((lookA x.th i).getD []) r).bind fun r => bif x.fz.contains i then frzD r else some r
def runG (t : Nat) (b : Bool) (r : SR U) : SR U := ⟨{ r.s with rs := (t, .p .bool b) :: r.s.rs }, r.L, r.R⟩
def skipG (t : Nat) (b : Bool) : SR U := ⟨{ rs := [(t, .p .bool b)], ws := .tup [] }, [], []⟩
def stepG (tb : Tab U) (x : RX U O P ops) (i : Nat) (o : Oper) (st : St U) : Option (SR U) :=
  match o.guard with
  | none => stepF tb x i o st
  | some (j, want) => ((ops[j]?).bind (·.dst)).bind fun t => (lookA st.sl t).bind fun g => match g with
    | .tup [] => some ⟨{ rs := [(t, .tup [])], ws := .tup [] }, [], []⟩
    | .p .bool b => match lookA x.kn t with
      | some (@IT.t _ _ _ _ b' _) => match want with
        | true => (stepF tb x i { o with guard := none } st).bind fun r => some ⟨(runG t b r).s, .b b :: r.L, .b b' :: r.R⟩
        | false => some ⟨(skipG t b).s, [.b b], [.b b']⟩
      | some (@IT.f _ _ _ _ b' _) => match want with
        | false => (stepF tb x i { o with guard := none } st).bind fun r => some ⟨(runG t b r).s, .b b :: r.L, .b b' :: r.R⟩
        | true => some ⟨(skipG t b).s, [.b b], [.b b']⟩
      | _ => match b, want with
        | true, true => (stepF tb x i { o with guard := none } st).bind fun r => some (runG t true r)
        | false, false => (stepF tb x i { o with guard := none } st).bind fun r => some (runG t false r)
        | true, false => some (skipG t true)
        | false, true => some (skipG t false)
    | _ => none
def regS (tb : Tab U) (x : RX U O P ops) : Nat → List Oper → St U → Option (List (SR U))
  | _, [], _ => some []
  | i, o :: os, st => (stepG tb x i o st).bind fun r => (regS tb x (i + 1) os (st.next r.s o.dst)).bind fun l => some (r :: l)
end

section
variable {U : Univ} {O : Out} {P : Program} {ops : Array Oper} {o : Oper} {tb : Tab U} {st : St U}
theorem splitAt'_eq {α : Type} : ∀ {n : Nat} {l : List α} {y : List α × α × List α}, splitAt' n l = some y → l = y.1 ++ y.2.1 :: y.2.2
  | n, [], _, h => by cases n <;> cases h
  | 0, x :: l, _, h => by cases h; rfl
  | n + 1, x :: l, _, h => by
    obtain ⟨z, hz, h1⟩ := bind_some h
    cases h1
    rw [List.cons_append, ← splitAt'_eq hz]
theorem thaw1_ok {r r' : SR U} {j m : Nat} {E : TypeId} {t : Ty} (h : thaw1 r j m E t = some r') (hs : OkS U O P ops o st r) : OkS U O P ops o st r' ∧ r'.L = r.L ∧ r'.R = r.R := by
  unfold thaw1 at h
  split at h
  · rename_i d us rest hpb
    obtain ⟨y, hy, h1⟩ := bind_some h
    have hus := splitAt'_eq hy
    clear h hy
    split at h1
    · dsimp only at hus
      subst hus
      cases hc : (nm r.s.pb ++ AVal.names U r.s.ws ++ r.s.pb.flatMap (fun x => Blk.names U x.2) ++ nm r.s.cb).contains m with
      | true => rw [hc] at h1; cases h1
      | false =>
        rw [hc, cond_false] at h1
        cases h1
        exact ⟨⟨sok_thawU _ _ _ hs.1 hpb hc, hs.2⟩, rfl, rfl⟩
    · cases h1
  · cases h
theorem thawD_ok : ∀ {l : List (Nat × Nat × TypeId × Ty)} {r r' : SR U}, thawD l r = some r' → OkS U O P ops o st r → OkS U O P ops o st r'
  | [], _, _, h, hs => by cases h; exact hs
  | x :: l, r, r', h, hs => by
    obtain ⟨y, hy, h1⟩ := bind_some h
    exact thawD_ok h1 (thaw1_ok hy hs).1
theorem thaw1_lr {r r' : SR U} {j m : Nat} {E : TypeId} {t : Ty} (h : thaw1 r j m E t = some r') : r'.L = r.L ∧ r'.R = r.R := by
  unfold thaw1 at h
  split at h
  · obtain ⟨y, hy, h1⟩ := bind_some h
    clear h hy
    split at h1
    · revert h1
      cases (nm r.s.pb ++ AVal.names U r.s.ws ++ r.s.pb.flatMap (fun x => Blk.names U x.2) ++ nm r.s.cb).contains m with
      | true => intro h1; cases h1
      | false => intro h1; cases h1; exact ⟨rfl, rfl⟩
    · cases h1
  · cases h
theorem thawD_lr : ∀ {l : List (Nat × Nat × TypeId × Ty)} {r r' : SR U}, thawD l r = some r' → r'.L = r.L ∧ r'.R = r.R
  | [], _, _, h => by cases h; exact ⟨rfl, rfl⟩
  | x :: l, r, r', h => by
    obtain ⟨y, hy, h1⟩ := bind_some h
    obtain ⟨e1, e2⟩ := thawD_lr h1
    obtain ⟨e3, e4⟩ := thaw1_lr hy
    exact ⟨e1.trans e3, e2.trans e4⟩
theorem frzD_ok {r r' : SR U} (h : frzD r = some r') (e : r'.L = r'.R) (hs : r.L = r.R → OkS U O P ops o st r) : OkS U O P ops o st r' := by
  unfold frzD at h
  split at h
  · rename_i hws hpb
    obtain ⟨ha, h1⟩ := bif_some h
    simp only [Bool.and_eq_true] at ha
    have h2 := beqN ha.1.1
    have h3 := beqN ha.1.2
    have h4 := of_decide_eq_true ha.2
    subst h2 h3
    cases h1
    simp only [List.cons.injEq, Ob.n.injEq] at e
    have hs := hs e.2
    exact ⟨sok_freezeW hs.1 hws e.1 hpb h4, hs.2⟩
  · cases h
theorem findA_eq {α : Type} {t : Nat} : ∀ {l : List (Nat × α)} {y : List (Nat × α) × α × List (Nat × α)}, findA t l = some y → l = y.1 ++ (t, y.2.1) :: y.2.2
  | [], _, h => by cases h
  | x :: l, y, h => by
    unfold findA at h
    cases hx : x.1 == t with
    | true => rw [hx, cond_true] at h; cases h; have := beqN hx; subst this; rfl
    | false =>
      rw [hx, cond_false] at h
      obtain ⟨z, hz, h1⟩ := bind_some h
      cases h1
      rw [List.cons_append, ← findA_eq hz]
theorem giveD_ok {f : St U → Option (SR U)} (hf : ∀ st r, f st = some r → r.L = r.R → OkS U O P ops o st r) : ∀ {l : List Nat} {st : St U} {r : SR U}, giveD f l st = some r → r.L = r.R → OkS U O P ops o st r
  | [], st, r, h, e => hf st r h e
  | t :: l, st, r, h, e => by
    unfold giveD at h
    obtain ⟨v, hv, h1⟩ := bind_some h
    clear h
    split at h1
    · split at h1
      · rename_i hb
        obtain ⟨q, hq, h2⟩ := bind_some h1
        obtain ⟨y, hy, h3⟩ := bind_some h2
        obtain ⟨ha, h4⟩ := bif_some h3
        simp only [Bool.and_eq_true] at ha
        have h5 := beqN ha.1.1
        have h6 : (nm y.1 ++ nm y.2.2).contains t = false := by simpa using ha.1.2
        have h7 := ha.2
        rw [Bool.not_eq_true'] at h7
        subst h5
        cases h4
        simp only [List.cons.injEq, Ob.v.injEq, Ob.n.injEq] at e
        obtain ⟨e1, e2, e3⟩ := e
        obtain ⟨g1, g2, g3⟩ := giveD_ok hf hq e3
        have hrs := findA_eq hy
        rw [e1] at hrs
        refine ⟨sok_give _ _ g1 hrs e2 h7, fun x hx => ?_, fun x hx => ?_⟩
        · have hne : ∀ x ∈ y.1 ++ y.2.2, x.1 ≠ t := fun x hx e => by
            have h8 : t ∈ nm y.1 ++ nm y.2.2 := by
              rw [← e]
              rcases List.mem_append.1 hx with h | h
              · exact List.mem_append.2 (.inl (mem_nm h))
              · exact List.mem_append.2 (.inr (mem_nm h))
            exact (by simpa using h6 : t ∉ nm y.1 ++ nm y.2.2) h8
          have hold : ∀ x ∈ y.1 ++ y.2.2, x ∈ st.sl := fun x hx => by
            have h8 : x ∈ q.s.rs := by
              rw [hrs]
              rcases List.mem_append.1 hx with h | h
              · exact List.mem_append.2 (.inl h)
              · exact List.mem_append.2 (.inr (.tail _ h))
            rcases mem_setA (g2 x h8) with h9 | h9
            · exact absurd (by rw [h9]) (hne x hx)
            · exact h9.1
          rcases List.mem_append.1 hx with h | h
          · exact hold x (List.mem_append.2 (.inl h))
          · rcases List.mem_cons.1 h with rfl | h
            · exact lookA_mem hv
            · exact hold x (List.mem_append.2 (.inr h))
        · have hin : ∀ x ∈ q.s.ro ++ q.s.cb, x ∈ st.hp := fun x hx => (List.mem_filter.1 (g3 x hx)).1
          rcases List.mem_append.1 hx with h | h
          · exact hin x (List.mem_append.2 (.inl h))
          · rcases List.mem_cons.1 h with rfl | h
            · exact lookA_mem hb
            · exact hin x (List.mem_append.2 (.inr h))
      · cases h1
    · cases h1
theorem stepF_ok (htb : TbOk P U tb) {x : RX U O P ops} {i : Nat} {r : SR U} (hg : o.guard = none) (h : stepF tb x i o st = some r) (e : r.L = r.R) : OkS U O P ops o st r := by
  unfold stepF at h
  split at h
  · rename_i i' s hs _
    unfold stepE at h
    obtain ⟨a, ha, h1⟩ := bind_some h
    obtain ⟨b, hb, h2⟩ := bind_some h1
    cases h2
    simp only [List.cons.injEq, Ob.w.injEq] at e
    obtain ⟨e0, e⟩ := e
    subst e0
    obtain ⟨e1, e2⟩ := app_inj e (holdS_len ha)
    exact ⟨hs, holdS_ok ha e1, holdD_ok hb e2⟩
  · obtain ⟨r1, h1, h2⟩ := bind_some h
    obtain ⟨r2, h3, h4⟩ := bind_some h2
    have key : r2.L = r2.R → OkS U O P ops o st r2 := fun e2 => by
      obtain ⟨e3, e4⟩ := thawD_lr h3
      exact thawD_ok h3 (giveD_ok (fun st r hr he => stepD_ok htb hg hr he) h1 (by rw [← e3, ← e4, e2]))
    cases hz : x.fz.contains i with
    | true => rw [hz, cond_true] at h4; exact frzD_ok h4 e key
    | false => rw [hz, cond_false] at h4; cases h4; exact key e
theorem one_sl {α : Type} {y : α} {l : List α} (h : y ∈ l) : ∀ x ∈ [y], x ∈ l := fun x hx => by
  rcases List.mem_cons.1 hx with rfl | hx
  · exact h
  · cases hx
theorem run_ok {t j : Nat} {b want : Bool} {r : SR U} (hg : o.guard = some (j, want)) (hd : (ops[j]?).bind (·.dst) = some t) (hb : b = want) (hl : lookA st.sl t = some (.p .bool b)) (h : OkS U O P ops { o with guard := none } st r) : OkS U O P ops o st (runG t b r) :=
  ⟨sok_run hg hd hb h.1, fun x hx => by rcases List.mem_cons.1 hx with rfl | hx; exact lookA_mem hl; exact h.2.1 x hx, h.2.2⟩
theorem skip_ok {t j : Nat} {b want : Bool} (hg : o.guard = some (j, want)) (hd : (ops[j]?).bind (·.dst) = some t) (hb : b = !want) (hl : lookA st.sl t = some (.p .bool b)) : OkS U O P ops o st (skipG t b) :=
  ⟨sok_skip hg hd hb, one_sl (lookA_mem hl), none_in _⟩
theorem stepG_ok (htb : TbOk P U tb) {x : RX U O P ops} {i : Nat} {r : SR U} (h : stepG tb x i o st = some r) (e : r.L = r.R) : OkS U O P ops o st r := by
  unfold stepG at h
  split at h
  · rename_i hg; exact stepF_ok htb hg h e
  · rename_i j want hg
    obtain ⟨t, ht, h1⟩ := bind_some h
    obtain ⟨g, hgv, h2⟩ := bind_some h1
    clear h h1
    split at h2
    · cases h2
      exact ⟨sok_skipU hg ht, one_sl (lookA_mem hgv), none_in _⟩
    · split at h2
      · rename_i b' hb' _
        split at h2
        · obtain ⟨q, hq, h3⟩ := bind_some h2
          cases h3
          obtain ⟨e1, e2⟩ := List.cons.inj e
          replace e1 := Ob.b.inj e1
          exact run_ok hg ht (e1.trans hb') hgv (stepF_ok htb rfl hq e2)
        · cases h2
          exact skip_ok hg ht ((Ob.b.inj (List.cons.inj e).1).trans hb') hgv
      · rename_i b' hb' _
        split at h2
        · obtain ⟨q, hq, h3⟩ := bind_some h2
          cases h3
          obtain ⟨e1, e2⟩ := List.cons.inj e
          replace e1 := Ob.b.inj e1
          exact run_ok hg ht (e1.trans hb') hgv (stepF_ok htb rfl hq e2)
        · cases h2
          exact skip_ok hg ht ((Ob.b.inj (List.cons.inj e).1).trans hb') hgv
      · split at h2
        · obtain ⟨q, hq, h3⟩ := bind_some h2
          cases h3
          exact run_ok hg ht rfl hgv (stepF_ok htb rfl hq e)
        · obtain ⟨q, hq, h3⟩ := bind_some h2
          cases h3
          exact run_ok hg ht rfl hgv (stepF_ok htb rfl hq e)
        · cases h2; exact skip_ok hg ht rfl hgv
        · cases h2; exact skip_ok hg ht rfl hgv
    · cases h2
def sameL : List (SR U) → List (Nat × List (Ob U))
  | [] => []
  | r :: l => (0, r.L) :: sameL l
def sameR : List (SR U) → List (Nat × List (Ob U))
  | [] => []
  | r :: l => (0, r.R) :: sameR l
theorem same_all : ∀ {l : List (SR U)}, sameL l = sameR l → ∀ r ∈ l, r.L = r.R
  | [], _, _, h => by cases h
  | r :: l, h, x, hx => by
    simp only [sameL, sameR, List.cons.injEq, Prod.mk.injEq, true_and] at h
    rcases List.mem_cons.1 hx with rfl | hx
    · exact h.1
    · exact same_all h.2 x hx
theorem regS_ok (htb : TbOk P U tb) {x : RX U O P ops} : ∀ {os : List Oper} {i : Nat} {st : St U} {l : List (SR U)}, regS tb x i os st = some l → (∀ r ∈ l, r.L = r.R) →
    OkL U O P ops os (l.map (·.s)) ∧ ∀ k y, (os.zip (l.map (·.s)))[k]? = some y → (∀ z ∈ y.2.rs, z ∈ (runS ((os.zip (l.map (·.s))).take k) st).sl) ∧ ∀ z ∈ y.2.ro ++ y.2.cb, z ∈ (runS ((os.zip (l.map (·.s))).take k) st).hp
  | [], i, st, l, h, e => by cases h; exact ⟨.nil, fun k y h => by cases h⟩
  | o :: os, i, st, l, h, e => by
    obtain ⟨r, hr, h1⟩ := bind_some h
    obtain ⟨l', hl', h2⟩ := bind_some h1
    cases h2
    have g := stepG_ok htb hr (e r (.head _))
    obtain ⟨g1, g2⟩ := regS_ok htb hl' fun r hr => e r (.tail _ hr)
    refine ⟨.cons g.1 g1, fun k y hy => ?_⟩
    cases k with
    | zero =>
      simp only [List.map_cons, List.zip_cons_cons, List.getElem?_cons_zero, Option.some.injEq] at hy
      subst hy
      exact ⟨g.2.1, g.2.2⟩
    | succ k =>
      simp only [List.map_cons, List.zip_cons_cons, List.getElem?_cons_succ] at hy
      exact g2 k y hy


variable {B : Base}
def specsS (tb : Tab U) (x : RX U O P ops) (st : St U) : Option (List (SR U)) := regS tb x 0 ops.toList st
def okS (tb : Tab U) (x : RX U O P ops) (st : St U) (N : Nat) : Bool :=
  match specsS tb x st with
  | some l => statOk (ops.toList.zip (l.map (·.s))) st.names N
  | none => false
def obL (tb : Tab U) (x : RX U O P ops) (st : St U) : List (Nat × List (Ob U)) := match specsS tb x st with | some l => sameL l | none => []
def obR (tb : Tab U) (x : RX U O P ops) (st : St U) : List (Nat × List (Ob U)) := match specsS tb x st with | some l => sameR l | none => []
def nxS (tb : Tab U) (x : RX U O P ops) (st : St U) (ts ns : List Nat) : St U :=
  match specsS tb x st with
  | some l => (runS (ops.toList.zip (l.map (·.s))) st).keep ts ns
  | none => st
def ddN : List Nat → List Nat → List Nat
  | [], acc => acc
  | x :: l, acc => ddN l (bif acc.contains x then acc else x :: acc)
def ancs : List Oper → List (List Nat) → List (List Nat)
  | [], acc => acc
  | o :: l, acc =>
    let e := (o.after.toList.filter fun e => Region.binds .any e).map (·.on)
    ancs l (acc ++ [ddN (e ++ e.flatMap fun k => acc.getD k []) []])
def raS (tb : Tab U) (x : RX U O P ops) (st : St U) : Bool :=
  match specsS tb x st with
  | some l => ancOk ops.toList (ancs ops.toList []) && raceFree (ops.toList.zip (l.map (·.s))) (ancs ops.toList [])
  | none => false
theorem runs_S (htb : TbOk P U tb) {x : RX U O P ops} {N : Nat} (h1 : okS tb x st N = true) (h2 : obL tb x st = obR tb x st) : ∃ l, specsS tb x st = some l ∧ Runs U O P ops N st (ops.toList.zip (l.map (·.s))) := by
  unfold okS at h1
  unfold obL obR at h2
  cases h : specsS tb x st with
  | none => rw [h] at h1; cases h1
  | some l =>
    rw [h] at h1 h2
    obtain ⟨g1, g2⟩ := regS_ok htb h (same_all h2)
    exact ⟨l, rfl, runs_of' g1 g2 h1⟩
theorem WpC.rS {id N : Nat} {st' : St U} {Q : PostQ U} (htb : TbOk P U tb) (x : RX U O P ops) (ts ns : List Nat) (hN : B.n = N) (h1 : okS tb x st N = true) (h2 : obL tb x st = obR tb x st) (h3 : nxS tb x st ts ns = st') {st2 : St U} (hcv : Conv U O st' st2) (hQ : Q .normal st2) :
    WpC U O P B (.region id ops false) st Q := by
  obtain ⟨l, hl, hR⟩ := runs_S htb h1 h2
  unfold nxS at h3
  rw [hl] at h3
  intro S ι a w hRel
  refine wp_region_list ?_
  have hC := Runs.chain (N := N) hR.ok hR.fit hR.dst
  rw [hR.len] at hC
  subst hN
  exact hC.wp (fun S ι a w hR' => ⟨st2, hQ, hcv B S ι a w (h3 ▸ hR'.weak (St.keep_le _ ts ns))⟩) hRel
theorem WpC.rA {id N : Nat} {st' : St U} {Q : PostQ U} (htb : TbOk P U tb) (hm : P.follows .mixedOrders = true) (x : RX U O P ops) (ts ns : List Nat) (hN : B.n = N) (h1 : okS tb x st N = true) (h2 : obL tb x st = obR tb x st) (h4 : raS tb x st = true)
    (h3 : nxS tb x st ts ns = st') {st2 : St U} (hcv : Conv U O st' st2) (hQ : Q .normal st2) : WpC U O P B (.region id ops true) st Q := by
  obtain ⟨l, hl, hR⟩ := runs_S htb h1 h2
  unfold nxS at h3
  unfold raS at h4
  rw [hl] at h3 h4
  rw [Bool.and_eq_true] at h4
  subst hN
  intro S ι a w hRel
  have h := WpC.regionAny (Q := fun e s => e = .normal ∧ s = runS (ops.toList.zip (l.map (·.s))) st) (id := id) _ hm hR h4.1 h4.2 ⟨rfl, rfl⟩ S ι a w hRel
  exact wp_mono h fun e a w ⟨s, ⟨h5, h6⟩, S, ι, hR'⟩ => by subst h5 h6; exact ⟨st2, hQ, hcv B S ι a w (h3 ▸ hR'.weak (St.keep_le _ ts ns))⟩
end
end Go.AM

namespace Go.AM

inductive CV (U : Univ) (O : Out) where
  | k (ts ns : List Nat)
  | nL (t : Nat) (ty : Ty)
  | nE (t : Nat)
  | th (t n : Nat) (E : TypeId) (ty : Ty)
  | rn (n m : Nat)
  | fz (t : Nat)
  | fh (t : Nat) {l l' : Nat} (h : l = l')
  | fu (n j : Nat)
  | uh (n j : Nat) {l l' : Nat} (h : l = l')
  | lo (n : Nat)
  | s0 (n : Nat)
  | sN (n m : Nat)
  | oN (m : Nat) (B : Blk U)
  | oZ (t m : Nat)
  | oL (t : Nat)
  | oB (n : Nat)
  | oS (t : Nat) {q : Bool} (h : q = true)
  | oK (n : Nat) {q : Bool} (h : q = true)
  | it (d : Nat)
  | cm (n : Nat) {t : Ty} {ys kvs : List (List UInt8 × t.den U.T)} (h : ys.Perm kvs) (hr : Rising kvs)
  | fp (t : Nat) (ty : Ty)
  | fq (t : Nat) (ty : Ty)
  | x {a b : St U} (h : Conv U O a b)

inductive OC (U : Univ) where
  | n (a : Nat)
  | b (a : Bool)
  | y (t : Ty) (ys kvs : List (List UInt8 × t.den U.T))
  | s (a : St U)

section
variable {U : Univ} {O : Out}
def freeB (hp : List (Nat × Blk U)) (n : Nat) : Bool := hp.all fun x => !(Blk.names U x.2).contains n
def frzS (st : St U) (t : Nat) (l : Option (Nat × Nat)) : Option (St U × List (OC U) × List (OC U)) :=
  (lookA st.sl t).bind fun v => match v with
    | .vec n wd 0 len => match lookA st.hp n with
      | some (.row _ ty xs _) => bif wd == ty.width U.wd && freeB st.hp n then some (⟨setA st.sl t (.p (.list ty) xs), st.hp.filter fun x => !(x.1 == n)⟩, (match l with | none => [.n len] | some l => [.n l.1, .n l.2]), (match l with | none => [.n xs.length] | some _ => [.n len, .n xs.length])) else none
      | _ => none
    | _ => none
def frzU (st : St U) (n j : Nat) (l : Option (Nat × Nat)) : Option (St U × List (OC U) × List (OC U)) :=
  match lookA st.hp n with
  | some (.box us) => (splitAt' j us).bind fun y => match y with
    | (pre, .vec m wd 0 len, post) => match lookA st.hp m with
      | some (.row _ ty xs _) => bif (wd == ty.width U.wd) && !(n == m) then some (⟨st.sl, (setA st.hp n (.box (pre ++ .p (.list ty) xs :: post))).filter fun x => !(x.1 == m)⟩, (match l with | none => [.n len] | some l => [.n l.1, .n l.2]), (match l with | none => [.n xs.length] | some _ => [.n len, .n xs.length])) else none
      | _ => none
    | _ => none
  | _ => none
def cv1 (st : St U) : CV U O → Option (St U × List (OC U) × List (OC U))
  | .k ts ns => some (st.keep ts ns, [], [])
  | .nL t ty => (lookA st.sl t).bind fun v => match v with
    | .lit (.slice none 0 0) => some (⟨setA st.sl t (.p (.list ty) ([] : List (ty.den U.T))), st.hp⟩, [], [])
    | _ => none
  | .nE t => (lookA st.sl t).bind fun v => match v with
    | .lit .nilIface => some (⟨setA st.sl t (.p .err (0 : Nat)), st.hp⟩, [], [])
    | _ => none
  | .th t n E ty => (lookA st.sl t).bind fun v => match v with
    | .lit (.slice none 0 0) => bif !st.names.contains n && Nat.blt n K0 then some (⟨setA st.sl t (.vec n (ty.width U.wd) 0 0), (n, .row E ty [] false) :: st.hp⟩, [], []) else none
    | _ => none
  | .rn n m => bif !st.names.contains m && Nat.blt m K0 then some (⟨st.sl.map fun x => (x.1, x.2.ren (swap1 n m)), st.hp.map fun x => (swap1 n m x.1, x.2.ren (swap1 n m))⟩, [], []) else none
  | .fz t => frzS st t none
  | @CV.fh _ _ t l l' _ => frzS st t (some (l, l'))
  | .fu n j => frzU st n j none
  | @CV.uh _ _ n j l l' _ => frzU st n j (some (l, l'))
  | .lo n => match lookA st.hp n with
    | some (.row E ty xs true) => some (⟨st.sl, setA st.hp n (.row E ty xs false)⟩, [], [])
    | _ => none
  | .s0 n => match lookA st.hp n with
    | some (.row E ty _ _) => some (⟨st.sl, setA st.hp n (.row E ty ([] : List (ty.den U.T)) false)⟩, [], [])
    | _ => none
  | .sN n m => match lookA st.hp n with
    | some (.row E ty xs _) => some (⟨st.sl, setA st.hp n (.row E ty (xs.take m) false)⟩, [], [])
    | _ => none
  | .oN m B => bif !st.names.contains m && Nat.blt m K0 then some (⟨st.sl, (m, .opt false B) :: st.hp⟩, [], []) else none
  | .oZ t m => (lookA st.sl t).bind fun v => match v with
    | .lit (.pointer none) => some (⟨setA st.sl t (.opt false m), st.hp⟩, [], [])
    | _ => none
  | .oL t => (lookA st.sl t).bind fun v => match v with
    | .loc n 0 => some (⟨setA st.sl t (.opt true n), st.hp⟩, [], [])
    | _ => none
  | .oB n => (lookA st.hp n).bind fun B => some (⟨st.sl, setA st.hp n (.opt true B)⟩, [], [])
  | @CV.oS _ _ t q _ => (lookA st.sl t).bind fun v => match v with
    | .opt q' n => some (⟨setA st.sl t (.loc n 0), st.hp⟩, [.b q'], [.b q])
    | _ => none
  | @CV.oK _ _ n q _ => match lookA st.hp n with
    | some (.opt q' B) => some (⟨st.sl, setA st.hp n B⟩, [.b q'], [.b q])
    | _ => none
  | .it d => match lookA st.hp d with
    | some (.iter m t es clock ys left _) => some (⟨st.sl, setA st.hp d (.iter m t es clock ys left none)⟩, [], [])
    | _ => none
  | @CV.cm _ _ n t ys kvs _ _ => match lookA st.hp n with
    | some (.mapE t' _ _ ys') => some (⟨st.sl, setA st.hp n (.map t kvs)⟩, [.y t' ys' ys'], [.y t ys ys])
    | _ => none
  | .fp t ty => (lookA st.sl t).bind fun v => match v with
    | .loc n 0 => match lookA st.hp n with
      | some (.box us) => match implD U 32 ty us with
        | some (x, []) => bif freeB st.hp n then some (⟨setA st.sl t (.p (.ptr ty) (some x : Option (ty.den U.T))), st.hp.filter fun x => !(x.1 == n)⟩, [], []) else none
        | _ => none
      | _ => none
    | _ => none
  | .fq t ty => (lookA st.sl t).bind fun v => match v with
    | .loc n 0 => match lookA st.hp n with
      | some (.box us) => match implD U 32 ty us with
        | some (x, []) => bif freeB st.hp n then some (⟨setA st.sl t (.pp ty x), st.hp.filter fun x => !(x.1 == n)⟩, [], []) else none
        | _ => none
      | _ => none
    | _ => none
  | @CV.x _ _ a b _ => some (b, [.s st], [.s a])
def cvS : List (CV U O) → St U → Option (St U × List (OC U) × List (OC U))
  | [], st => some (st, [], [])
  | c :: l, st => (cv1 st c).bind fun r => (cvS l r.1).bind fun q => some (q.1, r.2.1 ++ q.2.1, r.2.2 ++ q.2.2)
def cvN (l : List (CV U O)) (st : St U) : St U := match cvS l st with | some r => r.1 | none => st
def cvOk (l : List (CV U O)) (st : St U) : Bool := (cvS l st).isSome
def cvL (l : List (CV U O)) (st : St U) : List (OC U) := match cvS l st with | some r => r.2.1 | none => []
def cvR (l : List (CV U O)) (st : St U) : List (OC U) := match cvS l st with | some r => r.2.2 | none => []

theorem freeB_ok {hp : List (Nat × Blk U)} {n : Nat} (h : freeB hp n = true) : ∀ x ∈ hp, n ∉ Blk.names U x.2 := fun x hx hn => by
  have := List.all_eq_true.1 h x hx
  simp only [Bool.not_eq_true', List.contains_eq_mem, decide_eq_false_iff_not] at this
  exact this hn
theorem fresh_ok {st : St U} {n : Nat} (h : (!st.names.contains n && Nat.blt n K0) = true) : st.names.contains n = false ∧ n < K0 := by
  rw [Bool.and_eq_true] at h
  exact ⟨by simpa using h.1, Nat.le_of_ble_eq_true h.2⟩
theorem frzS_ok {st : St U} {t : Nat} {l : Option (Nat × Nat)} {r : St U × List (OC U) × List (OC U)} (h : frzS st t l = some r) (hl : ∀ x, l = some x → x.1 = x.2) (e : r.2.1 = r.2.2) : Conv U O st r.1 := by
  unfold frzS at h
  obtain ⟨v, hv, h1⟩ := bind_some h
  clear h
  split at h1
  · split at h1
    · rename_i hb
      obtain ⟨ha, h2⟩ := bif_some h1
      rw [Bool.and_eq_true] at ha
      have hw := beqN ha.1
      subst hw
      cases h2
      refine Conv.freeze t _ _ _ _ _ _ (lookA_mem hv) ?_ (lookA_mem hb) (freeB_ok ha.2)
      cases l with
      | none => simp only [List.cons.injEq, OC.n.injEq, and_true] at e; exact e
      | some l =>
        simp only [List.cons.injEq, OC.n.injEq, and_true] at e
        rw [← e.1, hl l rfl, e.2]
    · cases h1
  · cases h1
theorem frzU_ok {st : St U} {n j : Nat} {l : Option (Nat × Nat)} {r : St U × List (OC U) × List (OC U)} (h : frzU st n j l = some r) (hl : ∀ x, l = some x → x.1 = x.2) (e : r.2.1 = r.2.2) : Conv U O st r.1 := by
  unfold frzU at h
  split at h
  · rename_i us hb
    obtain ⟨y, hy, h1⟩ := bind_some h
    have hus := splitAt'_eq hy
    clear h hy
    split at h1
    · dsimp only at hus
      subst hus
      split at h1
      · rename_i hm
        obtain ⟨ha, h2⟩ := bif_some h1
        rw [Bool.and_eq_true] at ha
        have hw := beqN ha.1
        subst hw
        cases h2
        refine Conv.freezeU _ _ _ _ _ _ _ _ _ (lookA_mem hb) ?_ (lookA_mem hm) (by simpa using ha.2)
        cases l with
        | none => simp only [List.cons.injEq, OC.n.injEq, and_true] at e; exact e
        | some l =>
          simp only [List.cons.injEq, OC.n.injEq, and_true] at e
          rw [← e.1, hl l rfl, e.2]
      · cases h1
    · cases h1
  · cases h
theorem cv1_ok {st : St U} {c : CV U O} {r : St U × List (OC U) × List (OC U)} (h : cv1 st c = some r) (e : r.2.1 = r.2.2) : Conv U O st r.1 := by
  cases c with
  | k ts ns => cases h; exact Conv.keep ts ns rfl
  | nL t ty =>
    obtain ⟨v, hv, h1⟩ := bind_some h
    split at h1
    · cases h1; exact Conv.nilL t ty (lookA_mem hv)
    · cases h1
  | nE t =>
    obtain ⟨v, hv, h1⟩ := bind_some h
    split at h1
    · cases h1; exact Conv.nilE t (lookA_mem hv)
    · cases h1
  | th t n E ty =>
    obtain ⟨v, hv, h1⟩ := bind_some h
    split at h1
    · obtain ⟨ha, h2⟩ := bif_some h1
      cases h2; obtain ⟨h3, h4⟩ := fresh_ok ha; exact Conv.thaw t n E ty (lookA_mem hv) h3 h4
    · cases h1
  | rn n m =>
    obtain ⟨ha, h2⟩ := bif_some h
    cases h2; obtain ⟨h3, h4⟩ := fresh_ok ha; exact Conv.ren n m h4 h3 rfl rfl
  | fz t => exact frzS_ok (t := t) (l := none) h (fun _ h => by cases h) e
  | @fh t l l' h' => exact frzS_ok (t := t) (l := some (l, l')) h (fun _ h => by cases h; exact h') e
  | fu n j => exact frzU_ok (n := n) (j := j) (l := none) h (fun _ h => by cases h) e
  | @uh n j l l' h' => exact frzU_ok (n := n) (j := j) (l := some (l, l')) h (fun _ h => by cases h; exact h') e
  | lo n =>
    dsimp only [cv1] at h
    split at h
    · cases h; exact Conv.loose _ _ _ _ (lookA_mem (by assumption))
    · cases h
  | s0 n =>
    dsimp only [cv1] at h
    split at h
    · cases h; exact Conv.shrink0 _ _ _ _ _ (lookA_mem (by assumption))
    · cases h
  | sN n m =>
    dsimp only [cv1] at h
    split at h
    · cases h; exact Conv.shrinkN _ _ _ _ _ _ (lookA_mem (by assumption))
    · cases h
  | oN m B =>
    obtain ⟨ha, h2⟩ := bif_some h
    cases h2; obtain ⟨h3, h4⟩ := fresh_ok ha; exact Conv.optNew m B h3 h4
  | oZ t m =>
    obtain ⟨v, hv, h1⟩ := bind_some h
    split at h1
    · cases h1; exact Conv.optNil t m (lookA_mem hv)
    · cases h1
  | oL t =>
    obtain ⟨v, hv, h1⟩ := bind_some h
    split at h1
    · cases h1; exact Conv.optLoc t _ (lookA_mem hv)
    · cases h1
  | oB n =>
    obtain ⟨v, hv, h1⟩ := bind_some h
    cases h1; exact Conv.optBlk n _ (lookA_mem hv)
  | oS t hq =>
    obtain ⟨v, hv, h1⟩ := bind_some h
    split at h1
    · cases h1
      simp only [List.cons.injEq, OC.b.injEq, and_true] at e
      exact Conv.openS t _ (e.trans hq) (lookA_mem hv)
    · cases h1
  | oK n hq =>
    dsimp only [cv1] at h
    split at h
    · cases h
      simp only [List.cons.injEq, OC.b.injEq, and_true] at e
      exact Conv.openB n _ (e.trans hq) (lookA_mem (by assumption))
    · cases h
  | it d =>
    dsimp only [cv1] at h
    split at h
    · cases h; exact Conv.iterRest (lookA_mem (by assumption))
    · cases h
  | cm n hp hr =>
    dsimp only [cv1] at h
    split at h
    · rename_i hb
      cases h
      simp only [List.cons.injEq, and_true] at e
      cases e
      exact Conv.closeMap (lookA_mem hb) hp hr
    · cases h
  | fp t ty =>
    obtain ⟨v, hv, h1⟩ := bind_some h
    split at h1
    · split at h1
      · rename_i hb
        split at h1
        · rename_i hi
          obtain ⟨ha, h2⟩ := bif_some h1
          cases h2
          obtain ⟨m, e1, g⟩ := implD_ok _ hi
          rw [List.append_nil] at e1
          exact Conv.freezeP t _ ty _ _ (lookA_mem hv) (e1 ▸ g) (lookA_mem hb) (freeB_ok ha)
        · cases h1
      · cases h1
    · cases h1
  | fq t ty =>
    obtain ⟨v, hv, h1⟩ := bind_some h
    split at h1
    · split at h1
      · rename_i hb
        split at h1
        · rename_i hi
          obtain ⟨ha, h2⟩ := bif_some h1
          cases h2
          obtain ⟨m, e1, g⟩ := implD_ok _ hi
          rw [List.append_nil] at e1
          exact Conv.freezeQ t _ ty _ _ (lookA_mem hv) (e1 ▸ g) (lookA_mem hb) (freeB_ok ha)
        · cases h1
      · cases h1
    · cases h1
  | x hc =>
    cases h
    simp only [List.cons.injEq, OC.s.injEq, and_true] at e
    exact e ▸ hc
theorem cv1_len {st : St U} {c : CV U O} {r : St U × List (OC U) × List (OC U)} (h : cv1 st c = some r) : r.2.1.length = r.2.2.length := by
  have f1 : ∀ {t l r}, frzS st t l = some r → r.2.1.length = r.2.2.length := fun {t l r} h => by
    unfold frzS at h
    obtain ⟨v, hv, h1⟩ := bind_some h
    split at h1
    · split at h1
      · obtain ⟨ha, h2⟩ := bif_some h1
        cases h2; cases l <;> rfl
      · cases h1
    · cases h1
  have f2 : ∀ {n j l r}, frzU st n j l = some r → r.2.1.length = r.2.2.length := fun {n j l r} h => by
    unfold frzU at h
    split at h
    · obtain ⟨y, hy, h1⟩ := bind_some h
      split at h1
      · split at h1
        · obtain ⟨ha, h2⟩ := bif_some h1
          cases h2; cases l <;> rfl
        · cases h1
      · cases h1
    · cases h
  cases c with
  | fz t => exact f1 (t := t) (l := none) h
  | @fh t l l' h' => exact f1 (t := t) (l := some (l, l')) h
  | fu n j => exact f2 (n := n) (j := j) (l := none) h
  | @uh n j l l' h' => exact f2 (n := n) (j := j) (l := some (l, l')) h
  | k | x => cases h; rfl
  | rn | oN => obtain ⟨ha, h2⟩ := bif_some h; cases h2; rfl
  | oB => obtain ⟨v, hv, h1⟩ := bind_some h; cases h1; rfl
  | lo | s0 | sN | oK | it | cm =>
    dsimp only [cv1] at h
    split at h
    · cases h; rfl
    · cases h
  | th =>
    obtain ⟨v, hv, h1⟩ := bind_some h
    split at h1
    · obtain ⟨ha, h2⟩ := bif_some h1; cases h2; rfl
    · cases h1
  | fp | fq =>
    obtain ⟨v, hv, h1⟩ := bind_some h
    split at h1
    · split at h1
      · split at h1
        · obtain ⟨ha, h2⟩ := bif_some h1; cases h2; rfl
        · cases h1
      · cases h1
    · cases h1
  | _ =>
    obtain ⟨v, hv, h1⟩ := bind_some h
    split at h1
    · cases h1; rfl
    · cases h1
theorem cvS_ok : ∀ {l : List (CV U O)} {st : St U} {r : St U × List (OC U) × List (OC U)}, cvS l st = some r → r.2.1 = r.2.2 → Conv U O st r.1
  | [], st, r, h, _ => by cases h; exact Conv.refl _
  | c :: l, st, r, h, e => by
    obtain ⟨r1, h1, h2⟩ := bind_some h
    obtain ⟨q, h3, h4⟩ := bind_some h2
    cases h4
    obtain ⟨e1, e2⟩ := app_inj e (cv1_len h1)
    exact (cv1_ok h1 e1).trans (cvS_ok (r := q) h3 e2)
theorem Conv.S {l : List (CV U O)} {st : St U} (h1 : cvOk l st = true) (h2 : cvL l st = cvR l st) : Conv U O st (cvN l st) := by
  unfold cvOk at h1
  unfold cvL cvR at h2
  unfold cvN
  cases h : cvS l st with
  | none => rw [h] at h1; cases h1
  | some r => rw [h] at h2; exact cvS_ok h h2

variable {P : Program} {B : Base}
theorem WpC.cS {c : Code} {st : St U} {Q : PostQ U} (l : List (CV U O)) (h1 : cvOk l st = true) (h2 : cvL l st = cvR l st) (hc : WpC U O P B c (cvN l st) Q) : WpC U O P B c st Q := .conv (.S h1 h2) hc
theorem WpC.tS {t : Nat} {b : Bool} {c d : Code} {st : St U} {Q : PostQ U} (hx : lookA st.sl t = some (.p .bool b)) (h1 : b = true → WpC U O P B c st Q) (h2 : b = false → WpC U O P B d st Q) : WpC U O P B (.cond (.tmp t) c d) st Q :=
  .cond (.tmp (lookA_mem hx)) h1 h2
theorem WpC.st {c : Code} {st st' : St U} {Q : PostQ U} (h : st = st') (hc : WpC U O P B c st' Q) : WpC U O P B c st Q := h ▸ hc
def resD (tb : Tab U) (st : St U) : List ResultVar → Option (List (AVal U))
  | [] => some []
  | .tmp t :: l => (lookA st.sl t).bind fun v => (resD tb st l).bind fun vs => some (v :: vs)
  | .cell b T :: l => (lookA st.sl b).bind fun v => match v with
    | .loc n off => match lookA st.hp n with
      | some (.box us) => (lookA tb.ty T).bind fun t => ((cutU U us off).bind fun x => (cutU U x.2 (t.width U.wd)).bind fun y => some (x.1, y.1, y.2)).bind fun c => bif allU c.1 && allU c.2.1 then (madeD t c.2.1).bind fun v => (resD tb st l).bind fun vs => some (v :: vs) else none
      | _ => none
    | _ => none
theorem resD_ok {tb : Tab U} (htb : TbOk P U tb) {st : St U} : ∀ {l : List ResultVar} {vs : List (AVal U)}, resD tb st l = some vs → ResL U P st l vs
  | [], _, h => by cases h; exact .nil
  | .tmp t :: l, _, h => by
    obtain ⟨v, hv, h1⟩ := bind_some h
    obtain ⟨vs, hvs, h2⟩ := bind_some h1
    cases h2; exact .tmp (lookA_mem hv) (resD_ok htb hvs)
  | .cell b T :: l, _, h => by
    obtain ⟨v, hv, h1⟩ := bind_some h
    split at h1
    · split at h1
      · rename_i us hb
        obtain ⟨t, ht, h2⟩ := bind_some h1
        obtain ⟨⟨pre, mid, post⟩, hc, h3⟩ := bind_some h2
        obtain ⟨ha, h4⟩ := bif_some h3
        obtain ⟨v, hv', h5⟩ := bind_some h4
        obtain ⟨vs, hvs, h6⟩ := bind_some h5
        rw [Bool.and_eq_true] at ha
        obtain ⟨e1, e2, e3⟩ := cut2_ok hc
        cases h6
        exact .cell pre mid post (lookA_mem hv) (e1 ▸ lookA_mem hb) ha.1 e2 ha.2 e3 (htb.ty' ht) (madeD_ok hv') (resD_ok htb hvs)
      · cases h1
    · cases h1
theorem holdM : ∀ {l hp : List (Nat × Blk U)}, (l.map fun x => lookA hp x.1) = (l.map fun x => some x.2) → ∀ x ∈ l, x ∈ hp
  | [], _, _, _, h => by cases h
  | y :: l, hp, h, x, hx => by
    simp only [List.map_cons, List.cons.injEq] at h
    rcases List.mem_cons.1 hx with rfl | hx
    · exact lookA_mem h.1
    · exact holdM h.2 x hx
theorem endS {tb : Tab U} (htb : TbOk P U tb) {fn : Func} {c : CSpec U} {st : St U} (h1 : (resD tb st fn.results.toList).map resOf = some c.r) (h2 : (c.bs'.map fun x => lookA st.hp x.1) = c.bs'.map fun x => some x.2) : RetV U O P fn st c.r ∧ ∀ x ∈ c.bs', x ∈ st.hp := by
  cases h : resD tb st fn.results.toList with
  | none => rw [h] at h1; cases h1
  | some vs =>
    rw [h] at h1
    rw [← Option.some.inj h1]
    exact ⟨retV_L rfl (resD_ok htb h), holdM h2⟩
theorem ends_retS {tb : Tab U} (htb : TbOk P U tb) {fn : Func} {c : CSpec U} {st : St U} (h1 : (resD tb st fn.results.toList).map resOf = some c.r) (h2 : (c.bs'.map fun x => lookA st.hp x.1) = c.bs'.map fun x => some x.2) : Ends U O P fn c .ret st := endS htb h1 h2
end
end Go.AM

namespace Go.AM
open Go
set_option linter.unusedVariables false
section
variable {U : Univ} {O : Out} {P : Program}
theorem COk.to {f : FuncId} {c : CSpec U} (h : COk U O P f c) (r : AVal U) (hr : ∀ S ι w u, VV U O S ι w c.r u → VV U O S ι w r u) : COk U O P f { c with r := r } := by
  intro S ι w vs hlt hgl has hbs hown
  refine (h S ι w vs hlt hgl has hbs hown).mono ?_
  rintro e w' ⟨u, S', ι', rfl, hN, hu⟩
  exact ⟨u, S', ι', rfl, ⟨hN.os, hN.tape, hN.output, hN.size, hN.sub, hN.new, hN.lt, hN.keep, hN.lay, hN.blk, hN.plc, hN.sep⟩, hr S' ι' w' u hu⟩
end
end Go.AM

namespace Go.AM
open Go
set_option linter.unusedVariables false
section
variable {U : Univ} {O : Out} {P : Program} {S : Nat → Prop} {ι : Lay} {w : World} {rs : List (Nat × AVal U)} {a : Act} {ops : Array Oper} {o : Oper}
abbrev locsOf (U : Univ) (ls : List (Nat × Nat)) : List (AVal U) := ls.map fun x => .loc x.1 x.2
theorem locs_vals : ∀ {ls : List (Nat × Nat)} {vs : List Value}, VVs U O S ι w (locsOf U ls) vs → vs.length = ls.length ∧ ∀ v ∈ vs, ∃ p, v = .pointer p
  | [], vs, h => by simp only [locsOf, List.map_nil, VVs] at h; subst h; exact ⟨rfl, fun v hv => by cases hv⟩
  | l :: ls, vs, h => by
    simp only [locsOf, List.map_cons, VVs] at h
    obtain ⟨u, us, rfl, h1, h2⟩ := h
    simp only [VV] at h1
    obtain ⟨b, c, _, h1⟩ := h1
    obtain ⟨h3, h4⟩ := locs_vals h2
    refine ⟨by simp [h3], fun v hv => ?_⟩
    rcases List.mem_cons.1 hv with rfl | hv
    · exact ⟨_, h1⟩
    · exact h4 v hv
theorem sok_buildSliceP {T E : TypeId} {t : Ty} {by_ d : Nat} {ps : Array (Nat × Operand)} {ys : List Operand} {ls : List (Nat × Nat)} (hg : o.guard = none) (_ : o.dst = some d)
    (ho : o.op = .buildSlice T ys.length ps) (hps : ps.toList = partsOf ys) (hT : RowOk P U T E t by_) (hw1 : t.width U.wd = 1) (hx : Opds U rs ys (locsOf U ls)) (hlim : ys.length ≤ 16777216) (hd : (AVal.namesL U (locsOf U ls)).contains d = false) :
    SOk U O P ops o { rs := rs, ws := .vec d 1 0 ls.length, pb := [(d, .box (locsOf U ls))], nn := [d] } := by
  intro S ι w a hlt hgl hrs hro hcb hown K Q hK
  have hvs := hx.ev hrs
  obtain ⟨hlen', hptr⟩ := locs_vals hvs
  have hlen : ys.length = ls.length := by simpa using hlen'
  obtain ⟨i, z, hi, hz, hs, hby, hzs⟩ := hT.info
  rw [hw1] at hs hzs
  have hpl : (ps.map fun (i, x) => (i, a.eval x)).toList = ys.zipIdx.map fun x => (x.2, a.eval x.1) := by
    rw [Array.toList_map, hps, partsOf, List.map_map]; rfl
  have hval : ∀ (k : Nat) (x : Nat × Value), (ys.zipIdx.map fun x => (x.2, a.eval x.1))[k]? = some x → x.1 = k ∧ x.2.cells.size = 1 := by
    intro k x hk
    rw [List.getElem?_map] at hk
    cases hz : ys.zipIdx[k]? with
    | none => rw [hz] at hk; cases hk
    | some y =>
      rw [hz] at hk
      simp only [Option.map_some, Option.some.injEq] at hk
      rw [List.getElem?_zipIdx] at hz
      cases hy : ys[k]? with
      | none => rw [hy] at hz; cases hz
      | some y' =>
        rw [hy] at hz
        simp only [Option.map_some, Option.some.injEq, Nat.zero_add] at hz
        subst hz hk
        refine ⟨rfl, ?_⟩
        obtain ⟨p, hp⟩ := hptr (a.eval y') (List.mem_map.2 ⟨y', List.mem_of_getElem? hy, rfl⟩)
        simp only [hp]; rfl
  have hall : ∀ y ∈ ys.zipIdx.map (fun x => (x.2, a.eval x.1)), y.2.cells.size = 1 := fun y hy => by
    obtain ⟨k, hk⟩ := List.mem_iff_getElem?.1 hy
    exact (hval k y hk).2
  have hsum : ∀ l : List (Nat × Value), (∀ y ∈ l, y.2.cells.size = 1) → (l.map fun y => y.2.cells.size).sum = l.length := by
    intro l
    induction l with
    | nil => intro _; simp
    | cons y l ih =>
      intro h
      rw [List.map_cons, List.sum_cons, h y List.mem_cons_self, ih fun z hz => h z (List.mem_cons_of_mem _ hz), List.length_cons]
      omega
  have hll : (ys.zipIdx.map fun x => (x.2, a.eval x.1)).length = ys.length := by simp
  let arr : Array Value := (Array.range (ys.length * 1)).map fun j => (if ys.length * 1 = 0 then #[] else z.cells)[j % (if ys.length * 1 = 0 then #[] else z.cells).size]!
  have harr : arr.size = ys.length := by simp [arr]
  obtain ⟨out, h1, h2, h3⟩ := fill_all (fun i => some (i * 1, 1)) (ys.zipIdx.map fun x => (x.2, a.eval x.1)) 0 arr (fun done rest x hl => by
    have hk : (ys.zipIdx.map fun x => (x.2, a.eval x.1))[done.length]? = some x := by rw [hl]; simp
    obtain ⟨e1, e2⟩ := hval _ x hk
    rw [e1, e2, hsum done fun y hy => hall y (by rw [hl]; exact List.mem_append.2 (.inl hy)), Nat.zero_add, Nat.mul_one]) (by rw [hsum _ hall, hll, harr]; omega)
  have hmap : (ys.zipIdx.map fun x => (x.2, a.eval x.1)).map (·.2) = ys.map a.eval := by
    rw [List.map_map]
    show ys.zipIdx.map (fun x => a.eval x.1) = _
    rw [show (fun x : Operand × Nat => a.eval x.1) = a.eval ∘ Prod.fst from rfl, ← List.map_map]
    simp
  have hout : out.toList = cellsOf (ys.map a.eval) := by
    rw [h3, hsum _ hall, hll, Nat.zero_add, List.take_zero, List.nil_append, List.drop_eq_nil_of_le (by simp [harr]), List.append_nil, hmap]
  have hrun : (Instr.buildSlice T ys.length (ps.map fun (i, x) => (i, a.eval x))).run P w = .ok (.slice (some ⟨w.heap.size, 0, none⟩) ys.length ys.length) (w.alloc (.cells out E)) := by
    have hn : ¬ ys.length * 1 > 2 ^ 24 := by omega
    have h1' : Instr.fill (fun i => some (i * 1, 1)) ((Array.range (ys.length * 1)).map fun j => (if ys.length * 1 = 0 then #[] else z.cells)[j % (if ys.length * 1 = 0 then #[] else z.cells).size]!)
      (ys.zipIdx.map fun x => (x.2, a.eval x.1)) = some out := h1
    have hzr : (zeroValue E).run P w = .ok z w := by simp [zeroValue, typeInfo, hi, hz]
    unfold Instr.buildSlice
    rw [Sem.run_bind, run_underlying hT.sl.under]
    simp only [Result.andThen_ok]
    rw [Sem.run_bind, run_sizeOf hT.sl.el, hw1]
    simp only [Result.andThen_ok, if_neg hn]
    by_cases h0 : ys.length * 1 = 0
    · simp only [if_pos h0] at h1' ⊢
      rw [Sem.run_bind, Sem.run_pure]
      simp only [Result.andThen_ok, hpl, h1']
      rfl
    · simp only [if_neg h0] at h1' ⊢
      rw [Sem.run_bind, hzr]
      simp only [Result.andThen_ok]
      rw [Sem.run_bind, Sem.run_pure]
      simp only [Result.andThen_ok, hpl, h1']
      rfl
  refine opWp_plain hg ?_
  unfold Oper.wp
  rw [exec_buildSlice ho, run_vOf hrun, hlen]
  refine hK _ S _ _ (Nx.alloc (s := { rs := rs, ws := .vec d 1 0 ls.length, pb := [(d, .box (locsOf U ls))], nn := [d] }) (.cells out E) rfl rfl rfl hlt ls.length ?_) (.inr ⟨w.heap.size, ls.length, 0, by simp, by omega, by simp, .inl (by simp)⟩)
  have hdn : d ∉ AVal.namesL U (locsOf U ls) := fun h => by
    have : (AVal.namesL U (locsOf U ls)).contains d = true := by simpa using h
    rw [this] at hd; cases hd
  refine ⟨w.heap.size, ls.length, ys.map a.eval, out, E, by simp, VVs.alloc hlt hdn hvs, fun v hv x hx => ?_, hout, heap_alloc_new w _⟩
  obtain ⟨p, rfl⟩ := hptr v hv
  have : x = .pointer p := by simpa [Value.cells] using hx
  rw [this]; rfl
theorem sok_indexVB {T E : TypeId} {t : Ty} {n len : Nat} {x y : Operand} {k : IntKind} {i : Int} (j : Nat) (hg : o.guard = none) (ho : o.op = .indexAddr T x y) (ht : SlOk P U T E t) (hw1 : t.width U.wd = 1)
    (hx : Opd U rs x (.vec n 1 0 len)) (hy : Opd U rs y (.p (.int k) i)) (hi : i = (j : Int)) (hj : j < len) : SOk U O P ops o { rs := rs, ws := .loc n j } :=
  sok_v hg _ (fun _ => exec_indexAddr ho) fun S ι w a hrs _ => by
    rcases hx.ev hrs with ⟨_, _, rfl, _⟩ | ⟨b, c, o', hn, hoc, hv, hor⟩
    · omega
    · have ho' : o' = 0 := by omega
      refine ⟨.pointer (some ⟨b, j, none⟩), ?_, b, c, hn, rfl⟩
      have hi2 : 0 ≤ i ∧ i < (len : Int) := by omega
      have hit : i.toNat = j := by omega
      rw [hv, VV.int_iff.1 (hy.ev hrs)]
      simp only [Instr.indexAt, asIntOf, Sem.run_bind, Sem.run_pure, Result.andThen_ok, run_underlying ht.under, if_pos hi2, run_sizeOf ht.el, Addr.add_lit, hw1, ho', hit]
      simp
end
end Go.AM

namespace Go.AM
set_option linter.unusedVariables false

section
variable {α : Type}
def aput (k : List UInt8) (v : α) : KV α → KV α
  | [] => [(k, v)]
  | y :: r => if y.1 = k then (k, v) :: r else y :: aput k v r
variable {R : List UInt8 × α → Value → Prop}
theorem EntsG.app {es' : List MapEntry} : ∀ {es : List MapEntry} {ys : KV α}, EntsG R (es ++ es') ys ↔ ∃ y1 y2, ys = y1 ++ y2 ∧ EntsG R es y1 ∧ EntsG R es' y2
  | [], ys => by
    constructor
    · intro h; exact ⟨[], ys, rfl, rfl, h⟩
    · rintro ⟨y1, y2, rfl, h1, h2⟩
      have h1 : y1 = [] := h1
      subst h1; exact h2
  | e :: es, ys => by
    constructor
    · rintro ⟨y, r, rfl, h1, h2, h3⟩
      obtain ⟨y1, y2, rfl, h4, h5⟩ := EntsG.app.1 h3
      exact ⟨y :: y1, y2, rfl, ⟨y, y1, rfl, h1, h2, h4⟩, h5⟩
    · rintro ⟨y1, y2, rfl, ⟨y, r, rfl, h1, h2, h3⟩, h5⟩
      exact ⟨y, r ++ y2, rfl, h1, h2, EntsG.app.2 ⟨r, y2, rfl, h3, h5⟩⟩
theorem EntsG.isKey : ∀ {es : List MapEntry} {ys : KV α}, EntsG R es ys → ∀ x ∈ es, MapKept.IsKey .string x.key
  | [], _, _, x, hx => by cases hx
  | e :: es, _, ⟨y, r, h1, ⟨s, h2, _⟩, _, h5⟩, x, hx => by
    rcases List.mem_cons.1 hx with rfl | hx
    · rw [h2]; trivial
    · exact EntsG.isKey h5 x hx
theorem EntsG.mem : ∀ {es : List MapEntry} {ys : KV α}, EntsG R es ys → ∀ y ∈ ys, ∃ x ∈ es, ∃ s : ByteArray, x.key = .string s ∧ s.data.toList = y.1
  | [], _, h, y, hy => by have h : _ = _ := h; rw [h] at hy; cases hy
  | e :: es, _, ⟨y, r, h1, h2, _, h5⟩, z, hz => by
    subst h1
    rcases List.mem_cons.1 hz with rfl | hz
    · exact ⟨e, List.mem_cons_self, h2⟩
    · obtain ⟨x, h6, h7⟩ := EntsG.mem h5 z hz
      exact ⟨x, List.mem_cons_of_mem _ h6, h7⟩
theorem EntsG.apart : ∀ {es : List MapEntry} {ys : KV α}, EntsG R es ys → (es.map (·.key)).Nodup → Apart ys
  | [], _, h, _ => by have h : _ = _ := h; rw [h]; exact .nil
  | e :: es, _, ⟨y, r, h1, ⟨s, h2, h3⟩, _, h5⟩, hn => by
    subst h1
    rw [List.map_cons, List.nodup_cons] at hn
    refine List.pairwise_cons.2 ⟨fun z hz he => ?_, EntsG.apart h5 hn.2⟩
    obtain ⟨x, h6, s', h7, h8⟩ := EntsG.mem h5 z hz
    refine hn.1 (List.mem_map.2 ⟨x, h6, ?_⟩)
    rw [h7, h2, bytes_ext (h8.trans (he.symm.trans h3.symm))]
theorem EntsG.find {s : ByteArray} {es : List MapEntry} {ys : KV α} (h : EntsG R es ys) (hn : (es.map (·.key)).Nodup) :
    (Instr.findNow .string (.string s) es 0 = some none ∧ (∀ x ∈ es, x.key ≠ .string s) ∧ mget s.data.toList ys = none ∧ ∀ y ∈ ys, y.1 ≠ s.data.toList) ∨
    ∃ pre e post y1 y y2, es = pre ++ e :: post ∧ ys = y1 ++ (s.data.toList, y) :: y2 ∧ Instr.findNow .string (.string s) es 0 = some (some (pre.length, e.val)) ∧ e.key = .string s ∧
      EntsG R pre y1 ∧ EntsG R post y2 ∧ R (s.data.toList, y) e.val ∧ mget s.data.toList ys = some y ∧ ∀ z ∈ y1, z.1 ≠ s.data.toList := by
  have ha := h.apart hn
  rcases MapKept.findNow_spec (d := .string) (k := .string s) trivial es 0 h.isKey with ⟨h1, h2⟩ | ⟨j, e, h1, h2, h3⟩
  · left
    have hk : ∀ y ∈ ys, y.1 ≠ s.data.toList := fun y hy e => by
      obtain ⟨x, h4, s', h5, h6⟩ := h.mem y hy
      exact h2 x h4 (by rw [h5, bytes_ext (h6.trans e)])
    exact ⟨h1, h2, mget_none.2 hk, hk⟩
  · right
    obtain ⟨hj, hj2⟩ := List.getElem?_eq_some_iff.1 h2
    have hes : es = es.take j ++ e :: es.drop (j + 1) := by rw [← hj2, List.getElem_cons_drop, List.take_append_drop]
    have hpl : (es.take j).length = j := by simp; omega
    rw [hes] at h
    obtain ⟨y1, y2', rfl, h4, y, y2, rfl, ⟨s', h5, h6⟩, h7, h8⟩ := EntsG.app.1 h
    rw [h3] at h5
    injection h5 with h5
    subst h5
    obtain ⟨k, y⟩ := y
    simp only at h6
    subst h6
    refine ⟨es.take j, e, es.drop (j + 1), y1, y, y2, hes, rfl, by rw [h1, hpl]; simp, h3, h4, h8, h7, mget_of ha (by simp), fun z hz => ?_⟩
    obtain ⟨_, _, p3⟩ := List.pairwise_append.1 ha
    exact p3 z hz _ List.mem_cons_self
end

section
variable {U : Univ} {O : Out} {P : Program} {B : Base} {S : Nat → Prop} {ι : Lay} {w : World} {rs : List (Nat × AVal U)} {a : Act} {ops : Array Oper} {o : Oper} {t : Ty}

def curOk (k : List UInt8) (ys : KV Value) : Option (List UInt8 × Nat × Nat) → Bool
  | none => (mget k ys).isNone
  | some x => x.1 == k
end
end Go.AM

namespace Go.AM
set_option linter.unusedVariables false

section
variable {α β : Type}
end

section
variable {U : Univ} {O : Out} {P : Program} {B B1 : Base} {S S' : Nat → Prop} {ι ι' : Lay} {w w' : World} {a a' : Act} {st st' : St U} {t : Ty}

abbrev RowsM (U : Univ) (t : Ty) : Type := KV (Value × List (t.den U.T) × Option (Nat × Nat))
def RowsM.raw {U : Univ} {t : Ty} (es : RowsM U t) : KV Value := es.map fun y => (y.1, y.2.1)
def RowsM.txt {U : Univ} {t : Ty} (es : RowsM U t) : KV (List (t.den U.T)) := es.map fun y => (y.1, y.2.2.1)
structure MapI (U : Univ) (O : Out) (B : Base) (S : Nat → Prop) (ι : Lay) (w : World) (m E : Nat) (t : Ty) (es : RowsM U t) : Prop where
  row : ∀ y ∈ es, BR U O S (fun _ => y.2.2.2) w 0 (.row E t y.2.2.1 false) ∧ VV U O S (fun _ => y.2.2.2) w (.vec 0 (t.width U.wd) 0 y.2.2.1.length) y.2.1
  at' : ∀ y ∈ es, ∀ b c, y.2.2.2 = some (b, c) → ¬ S b ∧ b < w.heap.size ∧ (B.w.heap.size ≤ b ∨ B.A b) ∧ ∀ c', ι m ≠ some (b, c')
  sep : ∀ y ∈ es, ∀ z ∈ es, y.1 ≠ z.1 → ∀ b c c', y.2.2.2 = some (b, c) → z.2.2.2 ≠ some (b, c')

theorem MapI.nil {m E : Nat} : MapI U O B S ι w m E t [] := ⟨fun _ h => (by cases h), fun _ h => (by cases h), fun _ h => (by cases h)⟩

end
end Go.AM

namespace Go.AM
set_option linter.unusedVariables false

section
variable {U : Univ} {O : Out} {P : Program} {B : Base} {S S' : Nat → Prop} {ι ι' : Lay} {w w' : World} {rs : List (Nat × AVal U)} {a a' : Act} {ops : Array Oper} {o : Oper} {st st' : St U} {t : Ty}

inductive ChainT (U : Univ) (O : Out) (P : Program) (ops : Array Oper) (N : Nat) (F : St U → Prop) : St U → List Oper → Prop
  | nil {st : St U} : F st → ChainT U O P ops N F st []
  | cons {st : St U} {o : Oper} {s : LSpec U} {rest : List Oper} : SOk U O P ops o s → Fits st s → (∀ t, o.dst = some t → t < N) → ChainT U O P ops N F (st.next s o.dst) rest → ChainT U O P ops N F st (o :: rest)
  | any {st : St U} {o : Oper} {β : Type} (s : β → LSpec U) {rs : List (Nat × AVal U)} {ro cb : List (Nat × Blk U)} {rest : List Oper} : (∀ b, Fits st (s b)) → (∀ x ∈ rs, x ∈ st.sl) → (∀ x ∈ ro ++ cb, x ∈ st.hp) → (∀ t, o.dst = some t → t < N) →
      (∀ (S : Nat → Prop) (ι : Lay) (w : World) (a : Act), (∀ b, S b → b < w.heap.size) → O.Glob S w → (∀ x ∈ rs, VV U O S ι w x.2 (a.tmps.getD x.1 undef)) → (∀ x ∈ ro, BR U O S ι w x.1 x.2) → (∀ x ∈ cb, BR U O S ι w x.1 x.2) →
        Own S ι w (nm ro ++ nm cb) → ∀ (K : Act → World → Prop) (Q : Exit → Act → World → Prop), (∀ b u S' ι' w', Nx U O (s b) S ι w S' ι' w' → VV U O S' ι' w' (s b).ws u → K (a.put o.dst u) w') → opWp P ops Q o K a w) →
      (∀ b, ChainT U O P ops N F (st.next (s b) o.dst) rest) → ChainT U O P ops N F st (o :: rest)

theorem ChainT.wp {F : St U → Prop} {l : List Oper} (hC : ChainT U O P ops B.n F st l) {Q : Exit → Act → World → Prop} (hQ : ∀ st' S ι a w, F st' → Rel U O B S ι st' a w → Q .normal a w) :
    ∀ {S : Nat → Prop} {ι : Lay} {a : Act} {w : World}, Rel U O B S ι st a w → wpList P ops Q l a w := by
  generalize hn : B.n = N at hC
  induction hC with
  | nil h => exact fun hR => hQ _ _ _ _ _ h hR
  | cons hs hF hd _ ih =>
    intro S ι a w hR
    have := hs.use (Q := Q) hR hF (fun t ht => hn ▸ hd t ht) (K := wpList P ops Q _) fun S' ι' a' w' hR' => ih hR'
    unfold opWp at this
    unfold wpList
    exact this
  | @any st o β s rs ro cb rest hF hrs hhp hd hs _ ih =>
    intro S ι a w hR
    have hin : ∀ n ∈ nm ro ++ nm cb, n ∈ nm st.hp := fun n hn => by
      rw [← List.map_append] at hn
      obtain ⟨x, hx, rfl⟩ := List.mem_map.1 hn
      exact mem_nm (hhp x hx)
    have := hs S ι w a hR.lt hR.gl (fun x hx => hR.sl x (hrs x hx)) (fun x hx => hR.hp x (hhp x (List.mem_append.2 (.inl hx)))) (fun x hx => hR.hp x (hhp x (List.mem_append.2 (.inr hx)))) ⟨fun n hn => hR.own.out n (hin n hn), fun n hn m hm => hR.own.sep n (hin n hn) m (hin m hm)⟩
      (wpList P ops Q rest) Q fun b u S' ι' w' hN hu => ih b (hR.next (hF b) hN hu fun t ht => hn ▸ hd t ht)
    unfold opWp at this
    unfold wpList
    exact this

end
end Go.AM

namespace Go.AM
set_option linter.unusedVariables false
section
variable {U : Univ} {O : Out} {P : Program} {S : Nat → Prop} {ι : Lay} {w : World} {rs : List (Nat × AVal U)} {a : Act} {ops : Array Oper} {o : Oper}
theorem SOk.wsMap {s : LSpec U} {v : AVal U} (h : SOk U O P ops o s) (hv : ∀ (S : Nat → Prop) (ι : Lay) (w : World) (u : Value), VV U O S ι w s.ws u → VV U O S ι w v u) : SOk U O P ops o { s with ws := v } := by
  intro S ι w a hlt hgl hrs hro hcb hown K Q hK
  refine h S ι w a hlt hgl hrs hro hcb hown K Q fun u S' ι' w' hN hu => hK u S' ι' w' ⟨hN.os, hN.tape, hN.output, hN.size, hN.sub, hN.new, hN.lt, hN.keep, hN.lay, hN.blk, hN.plc, hN.sep⟩ (hv S' ι' w' u hu)
theorem bool_vals : ∀ {bs : List Bool} {us : List Value}, VVs U O S ι w (bs.map fun b => .p .bool b) us → us = bs.map Value.bool
  | [], us, h => h
  | b :: bs, us, h => by
    obtain ⟨u, us', rfl, h1, h2⟩ := h
    rw [VV.bool_iff.1 h1, bool_vals h2]; rfl
theorem getD_bool (bs : List Bool) (i : Nat) (hi : i < bs.length) : bs.getD i false = bs[i] := by simp [List.getD, hi]
theorem rd_bools : ∀ (bs : List Bool), Rd U O S w (.arr bs.length .bool) bs (bs.map Value.bool) := fun bs => by
  have h := Rd.arr (U := U) (O := O) (S := S) (w := w) bs.length .bool bs (fun i => [.bool (bs.getD i false)]) rfl fun i hi => by
    show Rd U O S w .bool bs[i] [Value.bool (bs.getD i false)]
    rw [getD_bool bs i hi]; exact .bool _
  have e : ((List.range bs.length).flatMap fun i => [Value.bool (bs.getD i false)]) = bs.map Value.bool := by
    rw [← List.map_eq_flatMap]
    apply List.ext_getElem?
    intro i
    by_cases hi : i < bs.length
    · simp [List.getD, hi]
    · rw [List.getElem?_eq_none (by simp; omega), List.getElem?_eq_none (by simp; omega)]
  rw [e] at h; exact h
theorem sok_buildB {N : Nat} {bs : List Bool} (h : SOk U O P ops o { rs := rs, ws := .agg (bs.map fun b => .p .bool b) }) (hl : bs.length = N) : SOk U O P ops o { rs := rs, ws := .p (.arr N .bool) bs } := by
  subst hl
  refine h.wsMap fun S ι w u hu => ?_
  simp only [VV] at hu
  obtain ⟨us, h1, rfl⟩ := hu
  refine ⟨bs.map Value.bool, rd_bools bs, ?_⟩
  rw [bool_vals h1]
  have : (bs.map Value.bool).flatMap (fun v => v.cells.toList) = bs.map Value.bool := by
    clear h1 h
    induction bs with
    | nil => rfl
    | cons b bs ih => rw [List.map_cons, List.flatMap_cons, ih]; rfl
  rw [this]; rfl
theorem rd_boolsOf {N : Nat} {xs : List Bool} {cs : List Value} (h : Rd U O S w (.arr N .bool) xs cs) : xs.length = N ∧ cs = xs.map Value.bool := by
  cases h with
  | arr _ _ _ cf hn hel =>
    have hn : xs.length = N := hn
    refine ⟨hn, ?_⟩
    have hcf : ∀ i (hi : i < xs.length), cf i = [.bool xs[i]] := fun i hi => by
      have h := hel i hi
      generalize cf i = c at h
      cases h; rfl
    apply List.ext_getElem?
    intro p
    by_cases hp : p < N
    · have := flatMap_range_get N 1 cf (fun i hi => by rw [hcf i (by omega)]; rfl) p 0 hp (by omega)
      rw [Nat.mul_one, Nat.add_zero] at this
      have hp' : p < xs.length := by omega
      rw [this, hcf p hp', List.getElem?_map, List.getElem?_eq_getElem hp']; rfl
    · rw [List.getElem?_eq_none (by rw [flatMap_range_length N 1 cf fun i hi => by rw [hcf i (by omega)]; rfl]; omega), List.getElem?_eq_none (by simp; omega)]
theorem run_eqBools {e : TypeId} (d : Nat) (he : P.underlying e = some .bool) (hE : TyOk P U e .bool) (xs ys : List Bool) (w : World) : ∀ is : List Nat, (∀ i ∈ is, i < xs.length ∧ i < ys.length) →
    (Op.eqItems (d + 1) e 1 (xs.map Value.bool).toArray (ys.map Value.bool).toArray is).run P w = .ok (is.all fun i => xs[i]? == ys[i]?) w
  | [], _ => by simp [Op.eqItems]
  | i :: is, h => by
    obtain ⟨h1, h2⟩ := h i List.mem_cons_self
    have pt : ∀ (zs : List Bool) (hi : i < zs.length), (part e (zs.map Value.bool).toArray (i * 1)).run P w = .ok (.bool zs[i]) w := fun zs hi =>
      run_part (xs := [.bool zs[i]]) hE rfl (fun j hj => by
        have : j = 0 := by simp [Ty.width] at hj; omega
        subst this; simp [hi]) (fun _ => rfl) w
    have eq : (Op.equalIn (d + 1) e (.bool xs[i]) (.bool ys[i])).run P w = .ok (xs[i] == ys[i]) w := by
      simp [Op.equalIn, run_underlying he]
    simp only [Op.eqItems, Sem.run_bind, pt xs h1, pt ys h2, eq, Result.andThen_ok, List.all_cons, List.getElem?_eq_getElem h1, List.getElem?_eq_getElem h2]
    have hb : (some xs[i] == some ys[i]) = (xs[i] == ys[i]) := rfl
    rw [hb]
    cases xs[i] == ys[i]
    · simp
    · simpa using run_eqBools d he hE xs ys w is fun j hj => h j (List.mem_cons_of_mem _ hj)
theorem run_eqArrB {t e : TypeId} {N : Nat} (hT : P.underlying t = some (.array N e)) (he : P.underlying e = some .bool) (hE : TyOk P U e .bool) {xs ys : List Bool} (hx : xs.length = N) (hy : ys.length = N) (w : World) :
    (Op.equal t (.agg (xs.map Value.bool).toArray) (.agg (ys.map Value.bool).toArray)).run P w = .ok (xs == ys) w := by
  obtain ⟨i, hi, hs⟩ : ∃ i, P.info? e = some i ∧ i.size = 1 := by
    have := run_sizeOf hE w
    cases hi : P.info? e with
    | none => simp [sizeOf, typeInfo, hi] at this
    | some i => exact ⟨i, rfl, by simpa [sizeOf, typeInfo, hi, Ty.width] using this⟩
  have hc : P.cellsOf e = 1 := by simp [Program.cellsOf, hi, hs]
  show (Op.equalIn (9999 + 1) t _ _).run P w = _
  rw [run_equalIn_array w 9999 _ _ hT hi, hc, run_eqBools (U := U) 9998 he hE xs ys w _ (fun i hi => by simp at hi; omega)]
  congr 1
  rw [Bool.eq_iff_iff, List.all_eq_true, beq_iff_eq]
  constructor
  · intro h
    refine List.ext_getElem? fun p => ?_
    by_cases hp : p < N
    · simpa using h p (by simpa using hp)
    · rw [List.getElem?_eq_none (by omega), List.getElem?_eq_none (by omega)]
  · rintro rfl p _
    simp
theorem sok_eqArrB {op : BinOp} {t t' e : TypeId} {N : Nat} {x y : Operand} {m n : List Bool} (hg : o.guard = none) (ho : o.op = .binOp .eql t x y t') (hT : P.underlying t = some (.array N e)) (he : P.underlying e = some .bool)
    (hE : TyOk P U e .bool) (hq : P.eqGuardType P.depth t = false) (hx : Opd U rs x (.p (.arr N .bool) m)) (hy : Opd U rs y (.p (.arr N .bool) n)) : SOk U O P ops o { rs := rs, ws := .p .bool (m == n) } :=
  sok_v hg _ (fun _ => exec_bin ho) fun S ι w a hrs _ => by
    obtain ⟨c1, r1, e1⟩ := hx.ev hrs
    obtain ⟨c2, r2, e2⟩ := hy.ev hrs
    obtain ⟨l1, rfl⟩ := rd_boolsOf r1
    obtain ⟨l2, rfl⟩ := rd_boolsOf r2
    refine ⟨.bool (m == n), ?_, VV.bool_iff.2 rfl⟩
    rw [e1, e2]
    simp only [mkV, Ty.isAgg, Sem.run_bind, eqGuard_agg hq, Result.andThen_ok, binOp, run_eqArrB hT he hE l1 l2, Sem.run_pure]
end
end Go.AM

namespace Go.AM
set_option linter.unusedVariables false
section
variable {U : Univ} {O : Out} {P : Program} {S : Nat → Prop} {ι : Lay} {w : World}
theorem Rd.pairD {a b : Ty} {z : a.den U.T × b.den U.T} {cs : List Value} (h : Rd U O S w (.pair a b) z cs) : Rd U O S w a z.1 (cs.take (a.width U.wd)) ∧ Rd U O S w b z.2 (cs.drop (a.width U.wd)) := by
  cases h with
  | pair h1 h2 =>
    rw [← h1.length, List.take_left' rfl, List.drop_left' rfl]
    exact ⟨h1, h2⟩
theorem Rd.namedD {n : Nat} {x : U.T n} {cs : List Value} (h : Rd U O S w (.named n) x cs) : Rd U O S w (U.body n) (U.out n x) cs := by cases h; assumption
theorem mapM_at {α β : Type} {f : α → Option β} : ∀ {l : List α} {r : List β}, l.mapM f = some r → ∀ {i : Nat} {x : α}, l[i]? = some x → ∃ y, f x = some y ∧ r[i]? = some y
  | [], r, h, i, x, hx => by simp at hx
  | a :: l, r, h, i, x, hx => by
    rw [List.mapM_cons] at h
    obtain ⟨y, h1, h2⟩ := Option.bind_eq_some_iff.1 h
    obtain ⟨ys, h3, h4⟩ := Option.bind_eq_some_iff.1 h2
    cases h4
    cases i with
    | zero => obtain rfl : a = x := by simpa using hx
              exact ⟨y, h1, rfl⟩
    | succ i => exact mapM_at h3 (by simpa using hx)
theorem trod_field {H : Type} {enc : TypeId × Value → H} {W : World} {base : Nat} {sp : Nat → Bool} {held : Bool} {m : Nat} {T : TypeId} {fs : Array Field} {q : Nat} {f : Field} {cs : List Value} {d : DataW H} {p : List MemPlace}
    (hT : P.underlying T = some (.struct fs)) (hq : fs.toList[q]? = some f) (h : DataW.trod enc P W base sp held m T cs = some (d, p)) :
    ∃ m' parts x px, d = .agg parts ∧ parts[q]? = some x ∧ DataW.trod enc P W base sp held m' f.type ((cs.drop f.offset).take (P.cellsOf f.type)) = some (x, px) := by
  cases m with
  | zero => simp [DataW.trod] at h
  | succ m =>
    unfold DataW.trod at h
    rw [hT] at h
    simp only at h
    split at h
    · obtain ⟨xs, hx, h⟩ := Option.map_eq_some_iff.1 h
      obtain ⟨rfl, rfl⟩ : _ ∧ _ := by simpa using h
      obtain ⟨y, h1, h2⟩ := mapM_at hx hq
      exact ⟨m, _, y.1, y.2, rfl, by rw [List.getElem?_map, h2]; rfl, h1⟩
    · cases h
theorem weight_in {H : Type} {T : TypeId} {fs : Array Field} {parts : List (DataW H)} (hT : P.underlying T = some (.struct fs)) : ∀ {ts : List TypeId} {ds : List (DataW H)} {i : Nat}, (DataW.weightsEach P ts ds).all (· ≤ reachBytes) = true → ts[i]? = some T → ds[i]? = some (.agg parts) → (DataW.weightsEach P (fs.toList.map (·.type)) parts).all (· ≤ reachBytes) = true
  | [], _, _, _, h, _ => by simp at h
  | _ :: _, [], _, _, _, h => by simp at h
  | t :: ts, d :: ds, 0, h, h1, h2 => by
    obtain rfl : t = T := by simpa using h1
    obtain rfl : d = .agg parts := by simpa using h2
    unfold DataW.weightsEach at h
    rw [List.all_append, Bool.and_eq_true] at h
    have := h.1
    unfold DataW.weights at this
    rw [hT] at this
    exact this
  | t :: ts, d :: ds, i + 1, h, h1, h2 => by
    refine weight_in hT (ts := ts) (ds := ds) (i := i) ?_ (by simpa using h1) (by simpa using h2)
    unfold DataW.weightsEach at h
    rw [List.all_append, Bool.and_eq_true] at h
    exact h.2
theorem field_weight {H : Type} {enc : TypeId × Value → H} {W : World} {base : Nat} {sp : Nat → Bool} {held : Bool} {m : Nat} {T L E : TypeId} {fs : Array Field} {q i : Nat} {f : Field} {cs : List Value} {d : DataW H} {p : List MemPlace} {t : Ty} {xs : List (t.den U.T)} {ts : List TypeId} {ds : List (DataW H)} {off c : Nat}
    (hT : P.underlying T = some (.struct fs)) (hq : fs.toList[q]? = some f) (hf : f.type = L) (ho : f.offset = off) (hc0 : P.cellsOf L = c) (hL : P.underlying L = some (.slice E)) (h : DataW.trod enc P W base sp held m T cs = some (d, p))
    (hx : Rd U O S W (.list t) xs ((cs.drop off).take c)) (hw : (DataW.weightsEach P ts ds).all (· ≤ reachBytes) = true) (ht : ts[i]? = some T) (hd : ds[i]? = some d) : xs.length * P.bytesOf E ≤ reachBytes := by
  subst ho
  subst hc0
  obtain ⟨m', parts, x, px, rfl, h1, h2⟩ := trod_field hT hq h
  rw [hf] at h2
  have hc := hx.cells
  have hv : VV U O S (fun _ => none) W (.p (.list t) xs) (mkV (Ty.list t).isAgg ((cs.drop f.offset).take (P.cellsOf L))) := ⟨_, hx, rfl⟩
  rw [← hc] at h2
  rcases trod_len hL hv h2 with rfl | ⟨el, sp', rfl, e⟩
  · simp
  · have g := weight_in hT hw ht hd
    have := weight_of (i := q) hL g (by rw [List.getElem?_map, hq]; simp [hf]) h1
    rw [← e]; exact this
end
end Go.AM

namespace Go.AM
open Go Go.RowKit
set_option linter.unusedVariables false
set_option linter.unusedSimpArgs false
section
variable {U : Univ} {O : Out} {P : Program} {S : Nat → Prop} {ι : Lay} {w : World} {rs : List (Nat × AVal U)} {a : Act} {ops : Array Oper} {o : Oper}
theorem run_append_placeW {T ty E : TypeId} {t : Ty} {by_ : Nat} (hT : RowOk P U T E t by_) {v : Value} {n : Nat} {xs : List Value} (hown : w.ownsRow 0 E (t.width U.wd) v n xs)
    (ad : Addr) (m c : Nat) {news : List Value} (hl : news.length = m * t.width U.wd) (hnews : ∀ j u, news[j]? = some u → w.cell? (ad.add j) = some u) (h1 : ∀ u ∈ news, u.oneCell' = true)
    (h63 : n + m ≤ maxLen) (hbytes : ((n + m) + (n + m) / 4 + 192) * by_ ≤ 281474976710656) :
    ∃ v' w', (Builtin.append_ #[T, T] ty #[v, .slice (some ad) m c]).run P w = .ok v' w' ∧ w'.ownsRow 0 E (t.width U.wd) v' (n + m) (xs ++ news) ∧ w.grownBy w' v.ownBlock ∧
      ∀ b, v'.ownBlock = some b → w.heap.size ≤ b ∨ v.ownBlock = some b := by
  obtain ⟨i, z, hi, hz, hs, hby, hzs⟩ := hT.info
  obtain ⟨v', w', hr, ho, hg, hnil⟩ := run_append_own_wide (P := P) w 0 T ty E i z (t.width U.wd) by_ hT.sl.under hi hz hs hby hzs hT.pos v n xs hown ad m c news hl hnews h1 h63 hbytes (Nat.zero_le _)
  refine ⟨v', w', hr, ho, hg, ?_⟩
  rcases hown.2 with ⟨rfl, rfl⟩ | ⟨g, cap, cur, rfl, _, h3, h4, h5, h6, h7⟩
  · by_cases hm : m = 0
    · rw [hnil.2 ⟨rfl, hm⟩]; intro b hb; cases hb
    · have h2 := run_append_nil (P := P) w T ty E i z hT.sl.under hi hz ad m c news (by rw [hs]; exact hl) hnews (by omega) (by unfold maxLen at h63; omega) (by rw [hby]; rw [Nat.zero_add] at hbytes; exact Nat.le_trans (Nat.mul_le_mul_right _ (by omega)) hbytes)
      obtain ⟨rfl, _⟩ := ok_inj (hr.symm.trans h2)
      intro b hb
      simp [Value.ownBlock] at hb
      exact .inl (by omega)
  · by_cases hroom : n + m ≤ cap
    · obtain ⟨w'', h2, _⟩ := run_append_fits (P := P) (ty := ty) (w := w) 0 T E i (t.width U.wd) hT.sl.under hi hs g n cap xs hown ad m c news hl hnews h1 hroom
      obtain ⟨rfl, _⟩ := ok_inj (hr.symm.trans h2)
      exact fun b hb => .inr hb
    · have h2 := run_append_grow (P := P) w T ty E i z hT.sl.under hi hz ⟨g, 0, none⟩ n cap xs (by rw [hs]; exact hown.1) (hown.cells (g := g) rfl) ad m c news (by rw [hs]; exact hl) hnews (by omega)
        (by unfold maxLen at h63; omega) (growslice_fits_wide (by omega) (by rw [hby]; exact hbytes))
      obtain ⟨rfl, _⟩ := ok_inj (hr.symm.trans h2)
      intro b hb
      simp [Value.ownBlock] at hb
      exact .inl (by omega)

theorem sok_appendW {T E : TypeId} {t : Ty} {by_ n d : Nat} {xs ys : List (t.den U.T)} {fx : Bool} {x y : Operand} {v : AVal U} {vw : List (Nat × Blk U)} (hg : o.guard = none) (_ : o.dst = some d)
    (ho : o.op = .call { callee := .builtin .append, args := #[x, y], argTypes := #[T, T] }) (hT : RowOk P U T E t by_) (hby : 1 ≤ by_)
    (hx : Opd U rs x (.vec n (t.width U.wd) 0 xs.length)) (hy : Opd U rs y v) (hv : View U vw v (.p (.list t) ys)) (_ : n ∉ nm vw) (hlim : (xs.length + ys.length + (xs.length + ys.length) / 4 + 192) * by_ ≤ 281474976710656) :
    SOk U O P ops o { rs := rs, ro := vw, cb := [(n, .row E t xs fx)], ws := .vec d (t.width U.wd) 0 (xs.length + ys.length), pb := [(d, .row E t (xs ++ ys) false)], nn := [d] } := by
  intro S ι w a hlt hgl hrs hro hcb hown K Q hK
  have hB := hcb _ List.mem_cons_self
  obtain ⟨cs, hel, hrow, hplace⟩ := own_of rfl hB (hx.ev hrs) rfl rfl
  obtain ⟨ds, hdl, hys⟩ := view_cells hT.pos hv hro (hy.ev hrs)
  have hsz := hlim
  have h63 : xs.length + ys.length ≤ maxLen := by
    have := Nat.mul_le_mul_left (xs.length + ys.length + (xs.length + ys.length) / 4 + 192) hby
    unfold maxLen; omega
  have hnewl : (rowCells ys.length ds).length = ys.length * t.width U.wd := flatMap_range_length _ _ _ fun i hi => (hdl i hi).length
  have hone : ∀ u ∈ rowCells ys.length ds, u.oneCell' = true := fun u hu => by
    obtain ⟨i, hi, hu⟩ := List.mem_flatMap.1 hu
    exact (hdl i (List.mem_range.1 hi)).one u hu
  obtain ⟨v', w', hr, ho', hg', hp⟩ : ∃ v' w', (Builtin.append_ #[T, T] o.type #[a.eval x, a.eval y]).run P w = .ok v' w' ∧
      w'.ownsRow 0 E (t.width U.wd) v' (xs.length + ys.length) (rowCells xs.length cs ++ rowCells ys.length ds) ∧ w.grownBy w' (a.eval x).ownBlock ∧ ∀ b, v'.ownBlock = some b → w.heap.size ≤ b ∨ (a.eval x).ownBlock = some b := by
    rcases hys with ⟨rfl, hu⟩ | ⟨ad, cap, hu, hc⟩
    · obtain ⟨i, z, hi, hz, hs, hb', hzs⟩ := hT.info
      rw [hu]
      refine ⟨_, w, run_append_owned_none (P := P) (ty := o.type) (w := w) 0 T E i (t.width U.wd) hT.sl.under hi _ _ _ hrow, ?_, ⟨rfl, rfl, rfl, Nat.le_refl _, fun _ _ _ => rfl⟩, fun b hb => .inr hb⟩
      simpa [rowCells] using hrow
    · rw [hu]
      exact run_append_placeW hT hrow ad ys.length cap hnewl hc hone h63 hsz
  have hzl : (xs ++ ys).length = xs.length + ys.length := List.length_append
  have hels : ∀ (i : Nat) (h : i < (xs ++ ys).length), Rd U O S w t (xs ++ ys)[i] (if i < xs.length then cs i else ds (i - xs.length)) := fun i hi => by
    by_cases h : i < xs.length
    · rw [if_pos h, List.getElem_append_left h]; exact hel i h
    · rw [if_neg h, List.getElem_append_right (by omega)]
      exact hdl (i - xs.length) (by omega)
  rw [rowCells_append, ← hzl] at ho'
  obtain ⟨ι', hN, hV⟩ := nx_append (s := { rs := rs, ro := vw, cb := [(n, .row E t xs fx)], ws := .vec d (t.width U.wd) 0 (xs.length + ys.length), pb := [(d, .row E t (xs ++ ys) false)], nn := [d] })
    (ι := ι) rfl rfl hlt hg' (fun b hb => by
      obtain ⟨c, hc⟩ := hplace b hb
      have := hown.out n (by simp) b c hc
      exact ⟨this.1, this.2, n, by simp, c, hc⟩) hels ho' hp
  refine opWp_plain hg ?_
  unfold Oper.wp
  rw [exec_append ho, run_vOf hr]
  rw [hzl] at hV
  exact hK v' S ι' w' hN hV

theorem sok_appendW' {T E : TypeId} {t : Ty} {by_ n d : Nat} {xs ys : List (t.den U.T)} {fx : Bool} {x y : Operand} {v : AVal U} {vw : List (Nat × Blk U)} (hg : o.guard = none) (hd : o.dst = some d)
    (ho : o.op = .call { callee := .builtin .append, args := #[x, y], argTypes := #[T, T] }) (hT : RowOk P U T E t by_) (hby : 1 ≤ by_)
    (hx : Opd U rs x (.vec n (t.width U.wd) 0 xs.length)) (hy : Opd U rs y v) (hv : View U vw v (.p (.list t) ys)) (hvw : n ∉ nm vw) (hlim : (xs.length + ys.length + (xs.length + ys.length) / 4 + 192) * by_ ≤ 281474976710656) :
    SOk U O P ops o { rs := rs, ro := vw, cb := [(n, .row E t xs fx)], ws := .vec d (t.width U.wd) 0 (xs ++ ys).length, pb := [(d, .row E t (xs ++ ys) false)], nn := [d] } := by
  rw [List.length_append]
  exact sok_appendW hg hd ho hT hby hx hy hv hvw hlim
end
end Go.AM
