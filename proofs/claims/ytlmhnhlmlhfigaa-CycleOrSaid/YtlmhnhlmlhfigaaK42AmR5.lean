/- A part of my own abstract layer. -/
import Derived.Test.YtlmhnhlmlhfigaaK42AmR2
namespace Go.AM

section
variable {U : Univ} {O : Out} {P : Program} {ops : Array Oper}
def view1 (hp : List (Nat × Blk U)) (v a : AVal U) : Option (List (Nat × Blk U) × List (Ob U) × List (Ob U)) :=
  match a, v with
  | .p (.list t) x, .vec m wd off len => match lookA hp m with
    | some (.row E t' ys fx) => (AVal.asP (.list t) (.p (.list t') ys)).bind fun zs => bif wd == t'.width U.wd && off == 0 then some ([(m, .row E t' ys fx)], [.n len, .o (.list t) (some x)], [.n ys.length, .o (.list t) (some zs)]) else none
    | _ => none
  | .p (.list t) x, .lit (.slice none 0 0) => some ([], [.o (.list t) (some x)], [.o (.list t) (some [])])
  | .p .err x, .lit .nilIface => some ([], [.o .err (some x)], [.o .err (some (0 : Nat))])
  | a, v => some ([], [.v v], [.v a])
def viewsD (hp : List (Nat × Blk U)) : List (AVal U) → List (AVal U) → Option (List (Nat × Blk U) × List (Ob U) × List (Ob U))
  | [], [] => some ([], [], [])
  | v :: vs, a :: as => (view1 hp v a).bind fun x => (viewsD hp vs as).bind fun y => some (x.1 ++ y.1, x.2.1 ++ y.2.1, x.2.2 ++ y.2.2)
  | _, _ => none
def holdD (hp : List (Nat × Blk U)) : List (Nat × Blk U) → Option (List (Ob U) × List (Ob U))
  | [] => some ([], [])
  | x :: l => (lookA hp x.1).bind fun b => (holdD hp l).bind fun y => some (.k b :: y.1, .k x.2 :: y.2)
def holdS (sl : List (Nat × AVal U)) : List (Nat × AVal U) → Option (List (Ob U) × List (Ob U))
  | [] => some ([], [])
  | x :: l => (lookA sl x.1).bind fun b => (holdS sl l).bind fun y => some (.v b :: y.1, .v x.2 :: y.2)
def calleeD (rs : List (Nat × AVal U)) (x : Operand) : Option (FuncId × List (AVal U)) :=
  (opd rs x).bind fun v => match v with
    | .clo f caps => some (f, caps)
    | _ => none
def stCall (tb : Tab U) (rs : List (Nat × AVal U)) (hp : List (Nat × Blk U)) (x : Operand) (as : Array Operand) (it : Option (IT U O P ops)) : Option (MR U) :=
  match it with
  | some (@IT.c _ _ _ _ f c _) => (calleeD rs x).bind fun fc => bif fc.1 == f && tb.hb.contains f then
      (opdL rs as.toList).bind fun vs => (viewsD hp (vs ++ fc.2) c.ar).bind fun w => (holdD hp c.bs).bind fun z => bif (nm w.1).all (fun n => !(nm c.bs).contains n) then
        (bif w.1.isEmpty || c.flat then some { v := c.r, ro := w.1, cb := c.bs, pb := c.bs', nn := c.nn, L := w.2.1 ++ z.1, R := w.2.2 ++ z.2 }
         else some { v := c.r, cb := w.1 ++ c.bs, pb := c.bs', nn := c.nn, L := w.2.1 ++ z.1, R := w.2.2 ++ z.2 }) else none else none
  | _ => none
end

section
variable {U : Univ} {O : Out} {P : Program} {ops : Array Oper} {o : Oper} {rs : List (Nat × AVal U)} {tb : Tab U} {hp : List (Nat × Blk U)} {r : MR U}
theorem app_inj {α : Type} {a b c d : List α} (h : a ++ c = b ++ d) (hl : a.length = b.length) : a = b ∧ c = d := List.append_inj h hl
theorem view1_ok {v a : AVal U} {w : List (Nat × Blk U) × List (Ob U) × List (Ob U)} (h : view1 hp v a = some w) (e : w.2.1 = w.2.2) {vw : List (Nat × Blk U)} (hw : ∀ x ∈ w.1, x ∈ vw) : View U vw v a ∧ ∀ x ∈ w.1, x ∈ hp := by
  unfold view1 at h
  split at h
  · split at h
    · rename_i hb
      obtain ⟨zs, hzs, h1⟩ := bind_some h
      obtain ⟨ha, h2⟩ := bif_some h1
      rw [Bool.and_eq_true] at ha
      have h3 := beqN ha.1
      have h4 := beqN ha.2
      subst h3 h4
      cases AVal.asP_eq hzs
      cases h2
      simp only [List.cons.injEq, Ob.n.injEq, and_true] at e
      obtain ⟨e1, e2⟩ := e
      cases e2
      subst e1
      exact ⟨.whole (hw _ (.head _)), fun x hx => by rcases List.mem_cons.1 hx with rfl | hx; exact lookA_mem hb; cases hx⟩
    · cases h
  · cases h
    simp only [List.cons.injEq, and_true] at e
    cases e
    exact ⟨.nilL _, fun _ h => by cases h⟩
  · cases h
    simp only [List.cons.injEq, and_true] at e
    cases e
    exact ⟨.nilE, fun _ h => by cases h⟩
  · cases h
    simp only [List.cons.injEq, Ob.v.injEq, and_true] at e
    subst e
    exact ⟨.same _, fun _ h => by cases h⟩
theorem view1_len {v a : AVal U} {w : List (Nat × Blk U) × List (Ob U) × List (Ob U)} (h : view1 hp v a = some w) : w.2.1.length = w.2.2.length := by
  unfold view1 at h
  split at h
  · split at h
    · obtain ⟨zs, hzs, h1⟩ := bind_some h
      obtain ⟨ha, h2⟩ := bif_some h1
      cases h2; rfl
    · cases h
  · cases h; rfl
  · cases h; rfl
  · cases h; rfl
theorem viewsD_len : ∀ {vs as : List (AVal U)} {w : List (Nat × Blk U) × List (Ob U) × List (Ob U)}, viewsD hp vs as = some w → w.2.1.length = w.2.2.length
  | [], [], _, h => by cases h; rfl
  | v :: vs, a :: as, w, h => by
    obtain ⟨x, hx, h1⟩ := bind_some h
    obtain ⟨y, hy, h2⟩ := bind_some h1
    cases h2
    simp only [List.length_append, view1_len hx, viewsD_len hy]
  | [], _ :: _, _, h => by cases h
  | _ :: _, [], _, h => by cases h
theorem viewsD_ok : ∀ {vs as : List (AVal U)} {w : List (Nat × Blk U) × List (Ob U) × List (Ob U)}, viewsD hp vs as = some w → w.2.1 = w.2.2 → ∀ {vw : List (Nat × Blk U)}, (∀ x ∈ w.1, x ∈ vw) → Views U vw vs as ∧ ∀ x ∈ w.1, x ∈ hp
  | [], [], _, h, _, _, _ => by cases h; exact ⟨.nil, fun _ h => by cases h⟩
  | v :: vs, a :: as, w, h, e, vw, hw => by
    obtain ⟨x, hx, h1⟩ := bind_some h
    obtain ⟨y, hy, h2⟩ := bind_some h1
    cases h2
    obtain ⟨e1, e2⟩ := app_inj e (view1_len hx)
    obtain ⟨g1, g2⟩ := view1_ok hx e1 fun z hz => hw z (List.mem_append.2 (.inl hz))
    obtain ⟨g3, g4⟩ := viewsD_ok hy e2 fun z hz => hw z (List.mem_append.2 (.inr hz))
    exact ⟨.cons g1 g3, fun z hz => (List.mem_append.1 hz).elim (g2 z) (g4 z)⟩
  | [], _ :: _, _, h, _, _, _ => by cases h
  | _ :: _, [], _, h, _, _, _ => by cases h
theorem holdD_ok : ∀ {l : List (Nat × Blk U)} {z : List (Ob U) × List (Ob U)}, holdD hp l = some z → z.1 = z.2 → ∀ x ∈ l, x ∈ hp
  | [], _, _, _, _, h => by cases h
  | x :: l, z, h, e, y, hy => by
    obtain ⟨b, hb, h1⟩ := bind_some h
    obtain ⟨w, hw, h2⟩ := bind_some h1
    cases h2
    simp only [List.cons.injEq, Ob.k.injEq] at e
    rcases List.mem_cons.1 hy with rfl | hy
    · have := lookA_mem hb; rw [e.1] at this; exact this
    · exact holdD_ok hw e.2 y hy
theorem holdS_ok {sl : List (Nat × AVal U)} : ∀ {l : List (Nat × AVal U)} {z : List (Ob U) × List (Ob U)}, holdS sl l = some z → z.1 = z.2 → ∀ x ∈ l, x ∈ sl
  | [], _, _, _, _, h => by cases h
  | x :: l, z, h, e, y, hy => by
    obtain ⟨b, hb, h1⟩ := bind_some h
    obtain ⟨w, hw, h2⟩ := bind_some h1
    cases h2
    simp only [List.cons.injEq, Ob.v.injEq] at e
    rcases List.mem_cons.1 hy with rfl | hy
    · have := lookA_mem hb; rw [e.1] at this; exact this
    · exact holdS_ok hw e.2 y hy
theorem holdS_len {sl : List (Nat × AVal U)} : ∀ {l : List (Nat × AVal U)} {z : List (Ob U) × List (Ob U)}, holdS sl l = some z → z.1.length = z.2.length
  | [], _, h => by cases h; rfl
  | x :: l, z, h => by
    obtain ⟨b, hb, h1⟩ := bind_some h
    obtain ⟨w, hw, h2⟩ := bind_some h1
    cases h2
    simp only [List.length_cons, holdS_len hw]
theorem calleeD_ok {x : Operand} {fc : FuncId × List (AVal U)} (h : calleeD rs x = some fc) : Callee U rs x fc.1 fc.2 := by
  unfold calleeD at h
  obtain ⟨v, hv, h1⟩ := bind_some h
  replace hv := opd_ok hv
  split at h1
  · cases h1; exact .clo hv
  · cases h1
theorem stCall_ok (htb : TbOk P U tb) {x : Operand} {as : Array Operand} {ts : Array TypeId} {it : Option (IT U O P ops)} (hg : o.guard = none) (ho : o.op = .call { callee := .value x, args := as, argTypes := ts })
    (h : stCall tb rs hp x as it = some r) (e : r.L = r.R) : OkM U O P ops o rs hp r := by
  unfold stCall at h
  split at h
  · rename_i f c hc
    obtain ⟨fc, hf, h1⟩ := bind_some h
    obtain ⟨ha, h2⟩ := bif_some h1
    rw [Bool.and_eq_true] at ha
    obtain ⟨vs, hvs, h3⟩ := bind_some h2
    obtain ⟨w, hw, h4⟩ := bind_some h3
    obtain ⟨z, hz, h5⟩ := bind_some h4
    obtain ⟨hn, h6⟩ := bif_some h5
    clear h h1 h2 h3 h4 h5
    have hfe : fc.1 = f := beqN ha.1
    have hb : HasBody P f := htb.hb.mem _ (by simpa using ha.2)
    have hcal := calleeD_ok hf
    rw [hfe] at hcal
    have hd : ∀ n ∈ nm w.1, n ∉ nm c.bs := fun n hn' => by
      have := List.all_eq_true.1 hn n hn'
      simpa using this
    cases hfl : w.1.isEmpty || c.flat with
    | true =>
      rw [hfl, cond_true] at h6
      cases h6
      obtain ⟨e1, e2⟩ := app_inj e (viewsD_len hw)
      obtain ⟨g1, g2⟩ := viewsD_ok hw e1 (vw := w.1) fun _ h => h
      refine ⟨sok_callV hg ho hcal hb hc (opdL_ok hvs) g1 hd ?_, fun y hy => (List.mem_append.1 hy).elim (g2 y) (holdD_ok hz e2 y)⟩
      rw [Bool.or_eq_true] at hfl
      exact hfl.imp (fun h => by simpa using h) id
    | false =>
      rw [hfl, cond_false] at h6
      cases h6
      obtain ⟨e1, e2⟩ := app_inj e (viewsD_len hw)
      obtain ⟨g1, g2⟩ := viewsD_ok hw e1 (vw := w.1) fun _ h => h
      exact ⟨sok_callF hg ho hcal hb hc (opdL_ok hvs) g1 hd, fun y hy => (List.mem_append.1 (List.nil_append _ ▸ hy)).elim (g2 y) (holdD_ok hz e2 y)⟩
  · cases h
end

section
variable {U : Univ} {O : Out} {P : Program} {ops : Array Oper}
structure SR (U : Univ) where
  s : LSpec U
  L : List (Ob U) := []
  R : List (Ob U) := []
def MR.sr (rs : List (Nat × AVal U)) (r : MR U) : SR U := ⟨r.spec rs, r.L, r.R⟩
def VR.sr (rs : List (Nat × AVal U)) (r : VR U) : SR U := ⟨{ rs := rs, ws := r.v }, r.L, r.R⟩
def stBuiltin (tb : Tab U) (rs : List (Nat × AVal U)) (hp : List (Nat × Blk U)) (b : Builtin) (as : List Operand) (ts : List TypeId) (d : Option Nat) (it : Option (IT U O P ops)) : Option (MR U) :=
  match b, as, ts with
  | .len, [x], [T] => stLen tb rs hp T x
  | .append, [x, y], [T, T'] => bif T == T' then d.bind fun d => stApp tb rs hp T x y d it else none
  | .delete, [m, x], [T, K] => stDel tb rs hp T K m x
  | _, _, _ => none
def stepD (tb : Tab U) (st : St U) (fact : Nat → Option (IT U O P ops)) (o : Oper) (it : Option (IT U O P ops)) : Option (SR U) :=
  let rs := rsOf st.sl o.op.operands.toList
  match o.op with
  | .move x => some ((stMove rs x).sr rs)
  | .assign x => some ((stMove rs x).sr rs)
  | .pick c x y => (stPick rs (match c with | .tmp t => fact t | _ => none) c x y).bind fun r => some (r.sr rs)
  | .binOp op t x y _ => (stBin tb rs op t x y it).bind fun r => some (r.sr rs)
  | .unOp op _ x => (stUn rs op x).bind fun r => some (r.sr rs)
  | .indexAddr T x y => (stIdxA tb rs T x y it).bind fun r => some (r.sr rs)
  | .index T x y => (stIdx tb rs T x y it).bind fun r => some (r.sr rs)
  | .slice T x lo hi mx => match mx with
    | none => (stSlice tb rs st.hp T x lo hi it).bind fun r => some (r.sr rs)
    | some _ => none
  | .fieldAddr T x f => (stFdA tb rs T x f).bind fun r => some (r.sr rs)
  | .field T x f => (stFd tb rs T x f).bind fun r => some (r.sr rs)
  | .load T x => (stLoad tb rs st.hp T x it).bind fun r => some (r.sr rs)
  | .store T x y => match o.dst with
    | none => (stStore tb rs st.hp T x y it).bind fun r => some (r.sr rs)
    | some _ => none
  | .nilCheck x => (stNil rs x it).bind fun r => some (r.sr rs)
  | .extract x i => (stExt rs x i).bind fun r => some (r.sr rs)
  | .convert T1 T2 x => (stConv tb rs st.hp T1 T2 x).bind fun r => some (r.sr rs)
  | .lookup T m x c => (stLook tb rs st.hp T m x c).bind fun r => some (r.sr rs)
  | .mapUpdate T m x y => match o.dst with
    | none => (stMapU tb rs st.hp T m x y).bind fun r => some (r.sr rs)
    | some _ => none
  | .makeMap T x => match x with
    | none => o.dst.bind fun d => (stMkMap tb T d).bind fun r => some (r.sr rs)
    | some _ => none
  | .makeFunc f fs cs => (stFunc rs f fs cs).bind fun r => some (r.sr rs)
  | .makeSlice T x y => o.dst.bind fun d => (stMkSl tb rs T x y d it).bind fun r => some (r.sr rs)
  | .box T x => o.dst.bind fun d => (stBox tb rs T x d).bind fun r => some (r.sr rs)
  | .alloc T => o.dst.bind fun d => (stAlloc tb T d).bind fun r => some (r.sr rs)
  | .build T ps => (stBuild tb rs T ps).bind fun r => some (r.sr rs)
  | .buildSlice T n ps => o.dst.bind fun d => (stBSl tb rs T n ps d).bind fun r => some (r.sr rs)
  | .call c => match c.callee with
    | .value x => (stCall tb rs st.hp x c.args it).bind fun r => some (r.sr rs)
    | .builtin b => (stBuiltin tb rs st.hp b c.args.toList c.argTypes.toList o.dst it).bind fun r => some (r.sr rs)
    | _ => none
  | _ => none
end

section
variable {U : Univ} {O : Out} {P : Program} {ops : Array Oper} {o : Oper} {tb : Tab U} {st : St U}
theorem rsOf_in {sl : List (Nat × AVal U)} {xs : List Operand} : ∀ x ∈ rsOf sl xs, x ∈ sl := fun _ h => mem_takeA h
abbrev OkS (U : Univ) (O : Out) (P : Program) (ops : Array Oper) (o : Oper) (st : St U) (r : SR U) : Prop :=
  SOk U O P ops o r.s ∧ (∀ x ∈ r.s.rs, x ∈ st.sl) ∧ ∀ x ∈ r.s.ro ++ r.s.cb, x ∈ st.hp
theorem okM_sr {rs : List (Nat × AVal U)} {r : MR U} (h : OkM U O P ops o rs st.hp r) (hr : ∀ x ∈ rs, x ∈ st.sl) : OkS U O P ops o st (r.sr rs) := ⟨h.1, hr, h.2⟩
theorem okV_sr {rs : List (Nat × AVal U)} {r : VR U} (h : SOk U O P ops o { rs := rs, ws := r.v }) (hr : ∀ x ∈ rs, x ∈ st.sl) : OkS U O P ops o st (r.sr rs) := ⟨h, hr, none_in _⟩
theorem arr1 {α : Type} {as : Array α} {x : α} (h : as.toList = [x]) : as = #[x] := by rw [← h]
theorem arr2 {α : Type} {as : Array α} {x y : α} (h : as.toList = [x, y]) : as = #[x, y] := by rw [← h]
theorem stepD_ok (htb : TbOk P U tb) {fact : Nat → Option (IT U O P ops)} {it : Option (IT U O P ops)} {r : SR U} (hg : o.guard = none) (h : stepD tb st fact o it = some r) (e : r.L = r.R) : OkS U O P ops o st r := by
  unfold stepD at h
  dsimp only at h
  generalize hrs : rsOf st.sl o.op.operands.toList = rs at h
  have hr : ∀ x ∈ rs, x ∈ st.sl := hrs ▸ rsOf_in
  clear hrs
  split at h
  · rename_i ho; cases h; exact okM_sr (stMove_ok hg (.inl ho)) hr
  · rename_i ho; cases h; exact okM_sr (stMove_ok hg (.inr ho)) hr
  · rename_i ho; obtain ⟨q, hq, h1⟩ := bind_some h; cases h1; exact okM_sr (stPick_ok hg ho hq e) hr
  · rename_i ho; obtain ⟨q, hq, h1⟩ := bind_some h; cases h1; exact okV_sr (stBin_ok htb hg ho hq e) hr
  · rename_i ho; obtain ⟨q, hq, h1⟩ := bind_some h; cases h1; exact okV_sr (stUn_ok hg ho hq) hr
  · rename_i ho; obtain ⟨q, hq, h1⟩ := bind_some h; cases h1; exact okM_sr (stIdxA_ok htb hg ho hq e) hr
  · rename_i ho; obtain ⟨q, hq, h1⟩ := bind_some h; cases h1; exact okM_sr (stIdx_ok htb hg ho hq e) hr
  · rename_i ho
    split at h
    · obtain ⟨q, hq, h1⟩ := bind_some h; cases h1; exact okM_sr (stSlice_ok htb hg ho hq e) hr
    · cases h
  · rename_i ho; obtain ⟨q, hq, h1⟩ := bind_some h; cases h1; exact okM_sr (stFdA_ok htb hg ho hq) hr
  · rename_i ho; obtain ⟨q, hq, h1⟩ := bind_some h; cases h1; exact okM_sr (stFd_ok htb hg ho hq) hr
  · rename_i ho; obtain ⟨q, hq, h1⟩ := bind_some h; cases h1; exact okM_sr (stLoad_ok htb hg ho hq e) hr
  · rename_i ho
    split at h
    · rename_i hd; obtain ⟨q, hq, h1⟩ := bind_some h; cases h1; exact okM_sr (stStore_ok htb hg hd ho hq e) hr
    · cases h
  · rename_i ho; obtain ⟨q, hq, h1⟩ := bind_some h; cases h1; exact okM_sr (stNil_ok hg ho hq e) hr
  · rename_i ho; obtain ⟨q, hq, h1⟩ := bind_some h; cases h1; exact okM_sr (stExt_ok hg ho hq) hr
  · rename_i ho; obtain ⟨q, hq, h1⟩ := bind_some h; cases h1; exact okM_sr (stConv_ok htb hg ho hq e) hr
  · rename_i ho; obtain ⟨q, hq, h1⟩ := bind_some h; cases h1; exact okM_sr (stLook_ok htb hg ho hq) hr
  · rename_i ho
    split at h
    · rename_i hd; obtain ⟨q, hq, h1⟩ := bind_some h; cases h1; exact okM_sr (stMapU_ok htb hg hd ho hq) hr
    · cases h
  · rename_i ho
    split at h
    · obtain ⟨d, hd, h0⟩ := bind_some h; obtain ⟨q, hq, h1⟩ := bind_some h0; cases h1; exact okM_sr (stMkMap_ok hg hd ho hq) hr
    · cases h
  · rename_i ho; obtain ⟨q, hq, h1⟩ := bind_some h; cases h1; exact okM_sr (stFunc_ok hg ho hq) hr
  · rename_i ho; obtain ⟨d, hd, h0⟩ := bind_some h; obtain ⟨q, hq, h1⟩ := bind_some h0; cases h1; exact okM_sr (stMkSl_ok htb hg hd ho hq e) hr
  · rename_i ho; obtain ⟨d, hd, h0⟩ := bind_some h; obtain ⟨q, hq, h1⟩ := bind_some h0; cases h1; exact okM_sr (stBox_ok hg hd ho hq) hr
  · rename_i ho; obtain ⟨d, hd, h0⟩ := bind_some h; obtain ⟨q, hq, h1⟩ := bind_some h0; cases h1; exact okM_sr (stAlloc_ok htb hg hd ho hq) hr
  · rename_i ho; obtain ⟨q, hq, h1⟩ := bind_some h; cases h1; exact okM_sr (stBuild_ok htb hg ho hq) hr
  · rename_i ho; obtain ⟨d, hd, h0⟩ := bind_some h; obtain ⟨q, hq, h1⟩ := bind_some h0; cases h1; exact okM_sr (stBSl_ok htb hg hd ho hq) hr
  · rename_i c ho
    obtain ⟨cal, as, ts⟩ := c
    dsimp only at h
    split at h
    · obtain ⟨q, hq, h1⟩ := bind_some h; cases h1; exact okM_sr (stCall_ok htb hg ho hq e) hr
    · obtain ⟨q, hq, h1⟩ := bind_some h; cases h1
      refine okM_sr ?_ hr
      unfold stBuiltin at hq
      split at hq
      · rename_i h1 h2
        rw [arr1 h1, arr1 h2] at ho
        exact stLen_ok htb hg ho hq
      · rename_i h1 h2
        obtain ⟨hT, h3⟩ := bif_some hq
        obtain ⟨d, hd, h4⟩ := bind_some h3
        have := beqN hT
        subst this
        rw [arr2 h1, arr2 h2] at ho
        exact stApp_ok htb hg hd ho h4 e
      · rename_i h1 h2
        rw [arr2 h1, arr2 h2] at ho
        exact stDel_ok htb hg ho hq
      · cases hq
    · cases h
  · cases h
end
end Go.AM
namespace Go.AM

section
variable {U : Univ} {O : Out} {P : Program} {ops : Array Oper}
structure RX (U : Univ) (O : Out) (P : Program) (ops : Array Oper) where
  its : List (Nat × IT U O P ops) := []
  kn : List (Nat × IT U O P ops) := []
  th : List (Nat × List (Nat × Nat × TypeId × Ty)) := []
  fz : List Nat := []
  gv : List (Nat × List Nat) := []
def splitAt' {α : Type} : Nat → List α → Option (List α × α × List α)
  | _, [] => none
  | 0, x :: l => some ([], x, l)
  | n + 1, x :: l => (splitAt' n l).bind fun y => some (x :: y.1, y.2)
def thaw1 (r : SR U) (j m : Nat) (E : TypeId) (t : Ty) : Option (SR U) :=
  match r.s.pb with
  | (d, .box us) :: rest => (splitAt' j us).bind fun x => match x with
    | (pre, .lit (.slice none 0 0), post) => bif (nm r.s.pb ++ AVal.names U r.s.ws ++ r.s.pb.flatMap (fun x => Blk.names U x.2) ++ nm r.s.cb).contains m then none else
        some ⟨{ r.s with pb := (d, .box (pre ++ .vec m (t.width U.wd) 0 0 :: post)) :: (m, .row E t [] false) :: rest, nn := m :: r.s.nn }, r.L, r.R⟩
    | _ => none
  | _ => none
def thawD : List (Nat × Nat × TypeId × Ty) → SR U → Option (SR U)
  | [], r => some r
  | x :: l, r => (thaw1 r x.1 x.2.1 x.2.2.1 x.2.2.2).bind fun r => thawD l r
def frzD (r : SR U) : Option (SR U) :=
  match r.s.ws, r.s.pb with
  | .vec d wd 0 len, [(d', .row _ t xs _)] => bif (d' == d && wd == t.width U.wd) && decide (r.s.nn = [d]) then some ⟨{ r.s with ws := .p (.list t) xs, pb := [], nn := [] }, .n len :: r.L, .n xs.length :: r.R⟩ else none
  | _, _ => none
def findA {α : Type} (t : Nat) : List (Nat × α) → Option (List (Nat × α) × α × List (Nat × α))
  | [] => none
  | x :: l => bif x.1 == t then some ([], x.2, l) else (findA t l).bind fun y => some (x :: y.1, y.2)
def giveD (f : St U → Option (SR U)) : List Nat → St U → Option (SR U)
  | [], st => f st
  | t :: l, st => (lookA st.sl t).bind fun v => match v with
    | .vec n wd 0 len => match lookA st.hp n with
      | some (.row E ty xs fx) => (giveD f l ⟨setA st.sl t (.p (.list ty) xs), st.hp.filter fun x => !(x.1 == n)⟩).bind fun r => (findA t r.s.rs).bind fun y =>
          bif (wd == ty.width U.wd && !(nm y.1 ++ nm y.2.2).contains t) && !(nm r.s.ro ++ nm r.s.cb).contains n then
            some ⟨{ r.s with rs := y.1 ++ (t, .vec n (ty.width U.wd) 0 len) :: y.2.2, cb := (n, .row E ty xs fx) :: r.s.cb }, .v y.2.1 :: .n len :: r.L, .v (.p (.list ty) xs) :: .n xs.length :: r.R⟩ else none
      | _ => none
    | _ => none
def stepE (st : St U) (o : Oper) (s : LSpec U) (o' : Oper) : Option (SR U) :=
  (holdS st.sl s.rs).bind fun a => (holdD st.hp (s.ro ++ s.cb)).bind fun b => some ⟨s, .w o' :: (a.1 ++ b.1), .w o :: (a.2 ++ b.2)⟩
def stepF (tb : Tab U) (x : RX U O P ops) (i : Nat) (o : Oper) (st : St U) : Option (SR U) :=
  match lookA x.its i with
  | some (@IT.e _ _ _ _ i' s _) => stepE st o s { opAt ops i' with guard := none }
  | it => (giveD (fun st => stepD tb st (lookA x.kn) o it) ((lookA x.gv i).getD []) st).bind fun r => (thawD ((lookA x.th i).getD []) r).bind fun r => bif x.fz.contains i then frzD r else some r
def runG (t : Nat) (b : Bool) (r : SR U) : SR U := ⟨{ r.s with rs := (t, .p .bool b) :: r.s.rs }, r.L, r.R⟩
def skipG (t : Nat) (b : Bool) : SR U := ⟨{ rs := [(t, .p .bool b)], ws := .tup [] }, [], []⟩
def stepG (tb : Tab U) (x : RX U O P ops) (i : Nat) (o : Oper) (st : St U) : Option (SR U) :=
  match o.guard with
  | none => stepF tb x i o st
  | some (j, want) => ((ops[j]?).bind (·.dst)).bind fun t => (lookA st.sl t).bind fun g => match g with
    | .tup [] => some ⟨{ rs := [(t, .tup [])], ws := .tup [] }, [], []⟩
    | .p .bool b => match lookA x.kn t with
      | some (@IT.t _ _ _ _ b' _) => match want with
        | true => (stepF tb x i { o with guard := none } st).bind fun r => some ⟨(runG t b r).s, .b b :: r.L, .b b' :: r.R⟩
        | false => some ⟨(skipG t b).s, [.b b], [.b b']⟩
      | some (@IT.f _ _ _ _ b' _) => match want with
        | false => (stepF tb x i { o with guard := none } st).bind fun r => some ⟨(runG t b r).s, .b b :: r.L, .b b' :: r.R⟩
        | true => some ⟨(skipG t b).s, [.b b], [.b b']⟩
      | _ => match b, want with
        | true, true => (stepF tb x i { o with guard := none } st).bind fun r => some (runG t true r)
        | false, false => (stepF tb x i { o with guard := none } st).bind fun r => some (runG t false r)
        | true, false => some (skipG t true)
        | false, true => some (skipG t false)
    | _ => none
def regS (tb : Tab U) (x : RX U O P ops) : Nat → List Oper → St U → Option (List (SR U))
  | _, [], _ => some []
  | i, o :: os, st => (stepG tb x i o st).bind fun r => (regS tb x (i + 1) os (st.next r.s o.dst)).bind fun l => some (r :: l)
end

section
variable {U : Univ} {O : Out} {P : Program} {ops : Array Oper} {o : Oper} {tb : Tab U} {st : St U}
theorem splitAt'_eq {α : Type} : ∀ {n : Nat} {l : List α} {y : List α × α × List α}, splitAt' n l = some y → l = y.1 ++ y.2.1 :: y.2.2
  | n, [], _, h => by cases n <;> cases h
  | 0, x :: l, _, h => by cases h; rfl
  | n + 1, x :: l, _, h => by
    obtain ⟨z, hz, h1⟩ := bind_some h
    cases h1
    rw [List.cons_append, ← splitAt'_eq hz]
theorem thaw1_ok {r r' : SR U} {j m : Nat} {E : TypeId} {t : Ty} (h : thaw1 r j m E t = some r') (hs : OkS U O P ops o st r) : OkS U O P ops o st r' ∧ r'.L = r.L ∧ r'.R = r.R := by
  unfold thaw1 at h
  split at h
  · rename_i d us rest hpb
    obtain ⟨y, hy, h1⟩ := bind_some h
    have hus := splitAt'_eq hy
    clear h hy
    split at h1
    · dsimp only at hus
      subst hus
      cases hc : (nm r.s.pb ++ AVal.names U r.s.ws ++ r.s.pb.flatMap (fun x => Blk.names U x.2) ++ nm r.s.cb).contains m with
      | true => rw [hc] at h1; cases h1
      | false =>
        rw [hc, cond_false] at h1
        cases h1
        exact ⟨⟨sok_thawU _ _ _ hs.1 hpb hc, hs.2⟩, rfl, rfl⟩
    · cases h1
  · cases h
theorem thawD_ok : ∀ {l : List (Nat × Nat × TypeId × Ty)} {r r' : SR U}, thawD l r = some r' → OkS U O P ops o st r → OkS U O P ops o st r'
  | [], _, _, h, hs => by cases h; exact hs
  | x :: l, r, r', h, hs => by
    obtain ⟨y, hy, h1⟩ := bind_some h
    exact thawD_ok h1 (thaw1_ok hy hs).1
theorem thaw1_lr {r r' : SR U} {j m : Nat} {E : TypeId} {t : Ty} (h : thaw1 r j m E t = some r') : r'.L = r.L ∧ r'.R = r.R := by
  unfold thaw1 at h
  split at h
  · obtain ⟨y, hy, h1⟩ := bind_some h
    clear h hy
    split at h1
    · revert h1
      cases (nm r.s.pb ++ AVal.names U r.s.ws ++ r.s.pb.flatMap (fun x => Blk.names U x.2) ++ nm r.s.cb).contains m with
      | true => intro h1; cases h1
      | false => intro h1; cases h1; exact ⟨rfl, rfl⟩
    · cases h1
  · cases h
theorem thawD_lr : ∀ {l : List (Nat × Nat × TypeId × Ty)} {r r' : SR U}, thawD l r = some r' → r'.L = r.L ∧ r'.R = r.R
  | [], _, _, h => by cases h; exact ⟨rfl, rfl⟩
  | x :: l, r, r', h => by
    obtain ⟨y, hy, h1⟩ := bind_some h
    obtain ⟨e1, e2⟩ := thawD_lr h1
    obtain ⟨e3, e4⟩ := thaw1_lr hy
    exact ⟨e1.trans e3, e2.trans e4⟩
theorem frzD_ok {r r' : SR U} (h : frzD r = some r') (e : r'.L = r'.R) (hs : r.L = r.R → OkS U O P ops o st r) : OkS U O P ops o st r' := by
  unfold frzD at h
  split at h
  · rename_i hws hpb
    obtain ⟨ha, h1⟩ := bif_some h
    simp only [Bool.and_eq_true] at ha
    have h2 := beqN ha.1.1
    have h3 := beqN ha.1.2
    have h4 := of_decide_eq_true ha.2
    subst h2 h3
    cases h1
    simp only [List.cons.injEq, Ob.n.injEq] at e
    have hs := hs e.2
    exact ⟨sok_freezeW hs.1 hws e.1 hpb h4, hs.2⟩
  · cases h
theorem findA_eq {α : Type} {t : Nat} : ∀ {l : List (Nat × α)} {y : List (Nat × α) × α × List (Nat × α)}, findA t l = some y → l = y.1 ++ (t, y.2.1) :: y.2.2
  | [], _, h => by cases h
  | x :: l, y, h => by
    unfold findA at h
    cases hx : x.1 == t with
    | true => rw [hx, cond_true] at h; cases h; have := beqN hx; subst this; rfl
    | false =>
      rw [hx, cond_false] at h
      obtain ⟨z, hz, h1⟩ := bind_some h
      cases h1
      rw [List.cons_append, ← findA_eq hz]
theorem giveD_ok {f : St U → Option (SR U)} (hf : ∀ st r, f st = some r → r.L = r.R → OkS U O P ops o st r) : ∀ {l : List Nat} {st : St U} {r : SR U}, giveD f l st = some r → r.L = r.R → OkS U O P ops o st r
  | [], st, r, h, e => hf st r h e
  | t :: l, st, r, h, e => by
    unfold giveD at h
    obtain ⟨v, hv, h1⟩ := bind_some h
    clear h
    split at h1
    · split at h1
      · rename_i hb
        obtain ⟨q, hq, h2⟩ := bind_some h1
        obtain ⟨y, hy, h3⟩ := bind_some h2
        obtain ⟨ha, h4⟩ := bif_some h3
        simp only [Bool.and_eq_true] at ha
        have h5 := beqN ha.1.1
        have h6 : (nm y.1 ++ nm y.2.2).contains t = false := by simpa using ha.1.2
        have h7 := ha.2
        rw [Bool.not_eq_true'] at h7
        subst h5
        cases h4
        simp only [List.cons.injEq, Ob.v.injEq, Ob.n.injEq] at e
        obtain ⟨e1, e2, e3⟩ := e
        obtain ⟨g1, g2, g3⟩ := giveD_ok hf hq e3
        have hrs := findA_eq hy
        rw [e1] at hrs
        refine ⟨sok_give _ _ g1 hrs e2 h7, fun x hx => ?_, fun x hx => ?_⟩
        · have hne : ∀ x ∈ y.1 ++ y.2.2, x.1 ≠ t := fun x hx e => by
            have h8 : t ∈ nm y.1 ++ nm y.2.2 := by
              rw [← e]
              rcases List.mem_append.1 hx with h | h
              · exact List.mem_append.2 (.inl (mem_nm h))
              · exact List.mem_append.2 (.inr (mem_nm h))
            exact (by simpa using h6 : t ∉ nm y.1 ++ nm y.2.2) h8
          have hold : ∀ x ∈ y.1 ++ y.2.2, x ∈ st.sl := fun x hx => by
            have h8 : x ∈ q.s.rs := by
              rw [hrs]
              rcases List.mem_append.1 hx with h | h
              · exact List.mem_append.2 (.inl h)
              · exact List.mem_append.2 (.inr (.tail _ h))
            rcases mem_setA (g2 x h8) with h9 | h9
            · exact absurd (by rw [h9]) (hne x hx)
            · exact h9.1
          rcases List.mem_append.1 hx with h | h
          · exact hold x (List.mem_append.2 (.inl h))
          · rcases List.mem_cons.1 h with rfl | h
            · exact lookA_mem hv
            · exact hold x (List.mem_append.2 (.inr h))
        · have hin : ∀ x ∈ q.s.ro ++ q.s.cb, x ∈ st.hp := fun x hx => (List.mem_filter.1 (g3 x hx)).1
          rcases List.mem_append.1 hx with h | h
          · exact hin x (List.mem_append.2 (.inl h))
          · rcases List.mem_cons.1 h with rfl | h
            · exact lookA_mem hb
            · exact hin x (List.mem_append.2 (.inr h))
      · cases h1
    · cases h1
theorem stepF_ok (htb : TbOk P U tb) {x : RX U O P ops} {i : Nat} {r : SR U} (hg : o.guard = none) (h : stepF tb x i o st = some r) (e : r.L = r.R) : OkS U O P ops o st r := by
  unfold stepF at h
  split at h
  · rename_i i' s hs _
    unfold stepE at h
    obtain ⟨a, ha, h1⟩ := bind_some h
    obtain ⟨b, hb, h2⟩ := bind_some h1
    cases h2
    simp only [List.cons.injEq, Ob.w.injEq] at e
    obtain ⟨e0, e⟩ := e
    subst e0
    obtain ⟨e1, e2⟩ := app_inj e (holdS_len ha)
    exact ⟨hs, holdS_ok ha e1, holdD_ok hb e2⟩
  · obtain ⟨r1, h1, h2⟩ := bind_some h
    obtain ⟨r2, h3, h4⟩ := bind_some h2
    have key : r2.L = r2.R → OkS U O P ops o st r2 := fun e2 => by
      obtain ⟨e3, e4⟩ := thawD_lr h3
      exact thawD_ok h3 (giveD_ok (fun st r hr he => stepD_ok htb hg hr he) h1 (by rw [← e3, ← e4, e2]))
    cases hz : x.fz.contains i with
    | true => rw [hz, cond_true] at h4; exact frzD_ok h4 e key
    | false => rw [hz, cond_false] at h4; cases h4; exact key e
theorem one_sl {α : Type} {y : α} {l : List α} (h : y ∈ l) : ∀ x ∈ [y], x ∈ l := fun x hx => by
  rcases List.mem_cons.1 hx with rfl | hx
  · exact h
  · cases hx
theorem run_ok {t j : Nat} {b want : Bool} {r : SR U} (hg : o.guard = some (j, want)) (hd : (ops[j]?).bind (·.dst) = some t) (hb : b = want) (hl : lookA st.sl t = some (.p .bool b)) (h : OkS U O P ops { o with guard := none } st r) : OkS U O P ops o st (runG t b r) :=
  ⟨sok_run hg hd hb h.1, fun x hx => by rcases List.mem_cons.1 hx with rfl | hx; exact lookA_mem hl; exact h.2.1 x hx, h.2.2⟩
theorem skip_ok {t j : Nat} {b want : Bool} (hg : o.guard = some (j, want)) (hd : (ops[j]?).bind (·.dst) = some t) (hb : b = !want) (hl : lookA st.sl t = some (.p .bool b)) : OkS U O P ops o st (skipG t b) :=
  ⟨sok_skip hg hd hb, one_sl (lookA_mem hl), none_in _⟩
theorem stepG_ok (htb : TbOk P U tb) {x : RX U O P ops} {i : Nat} {r : SR U} (h : stepG tb x i o st = some r) (e : r.L = r.R) : OkS U O P ops o st r := by
  unfold stepG at h
  split at h
  · rename_i hg; exact stepF_ok htb hg h e
  · rename_i j want hg
    obtain ⟨t, ht, h1⟩ := bind_some h
    obtain ⟨g, hgv, h2⟩ := bind_some h1
    clear h h1
    split at h2
    · cases h2
      exact ⟨sok_skipU hg ht, one_sl (lookA_mem hgv), none_in _⟩
    · split at h2
      · rename_i b' hb' _
        split at h2
        · obtain ⟨q, hq, h3⟩ := bind_some h2
          cases h3
          obtain ⟨e1, e2⟩ := List.cons.inj e
          replace e1 := Ob.b.inj e1
          exact run_ok hg ht (e1.trans hb') hgv (stepF_ok htb rfl hq e2)
        · cases h2
          exact skip_ok hg ht ((Ob.b.inj (List.cons.inj e).1).trans hb') hgv
      · rename_i b' hb' _
        split at h2
        · obtain ⟨q, hq, h3⟩ := bind_some h2
          cases h3
          obtain ⟨e1, e2⟩ := List.cons.inj e
          replace e1 := Ob.b.inj e1
          exact run_ok hg ht (e1.trans hb') hgv (stepF_ok htb rfl hq e2)
        · cases h2
          exact skip_ok hg ht ((Ob.b.inj (List.cons.inj e).1).trans hb') hgv
      · split at h2
        · obtain ⟨q, hq, h3⟩ := bind_some h2
          cases h3
          exact run_ok hg ht rfl hgv (stepF_ok htb rfl hq e)
        · obtain ⟨q, hq, h3⟩ := bind_some h2
          cases h3
          exact run_ok hg ht rfl hgv (stepF_ok htb rfl hq e)
        · cases h2; exact skip_ok hg ht rfl hgv
        · cases h2; exact skip_ok hg ht rfl hgv
    · cases h2
def sameL : List (SR U) → List (Nat × List (Ob U))
  | [] => []
  | r :: l => (0, r.L) :: sameL l
def sameR : List (SR U) → List (Nat × List (Ob U))
  | [] => []
  | r :: l => (0, r.R) :: sameR l
theorem same_all : ∀ {l : List (SR U)}, sameL l = sameR l → ∀ r ∈ l, r.L = r.R
  | [], _, _, h => by cases h
  | r :: l, h, x, hx => by
    simp only [sameL, sameR, List.cons.injEq, Prod.mk.injEq, true_and] at h
    rcases List.mem_cons.1 hx with rfl | hx
    · exact h.1
    · exact same_all h.2 x hx
theorem regS_ok (htb : TbOk P U tb) {x : RX U O P ops} : ∀ {os : List Oper} {i : Nat} {st : St U} {l : List (SR U)}, regS tb x i os st = some l → (∀ r ∈ l, r.L = r.R) →
    OkL U O P ops os (l.map (·.s)) ∧ ∀ k y, (os.zip (l.map (·.s)))[k]? = some y → (∀ z ∈ y.2.rs, z ∈ (runS ((os.zip (l.map (·.s))).take k) st).sl) ∧ ∀ z ∈ y.2.ro ++ y.2.cb, z ∈ (runS ((os.zip (l.map (·.s))).take k) st).hp
  | [], i, st, l, h, e => by cases h; exact ⟨.nil, fun k y h => by cases h⟩
  | o :: os, i, st, l, h, e => by
    obtain ⟨r, hr, h1⟩ := bind_some h
    obtain ⟨l', hl', h2⟩ := bind_some h1
    cases h2
    have g := stepG_ok htb hr (e r (.head _))
    obtain ⟨g1, g2⟩ := regS_ok htb hl' fun r hr => e r (.tail _ hr)
    refine ⟨.cons g.1 g1, fun k y hy => ?_⟩
    cases k with
    | zero =>
      simp only [List.map_cons, List.zip_cons_cons, List.getElem?_cons_zero, Option.some.injEq] at hy
      subst hy
      exact ⟨g.2.1, g.2.2⟩
    | succ k =>
      simp only [List.map_cons, List.zip_cons_cons, List.getElem?_cons_succ] at hy
      exact g2 k y hy


variable {B : Base}
def specsS (tb : Tab U) (x : RX U O P ops) (st : St U) : Option (List (SR U)) := regS tb x 0 ops.toList st
def okS (tb : Tab U) (x : RX U O P ops) (st : St U) (N : Nat) : Bool :=
  match specsS tb x st with
  | some l => statOk (ops.toList.zip (l.map (·.s))) st.names N
  | none => false
def obL (tb : Tab U) (x : RX U O P ops) (st : St U) : List (Nat × List (Ob U)) := match specsS tb x st with | some l => sameL l | none => []
def obR (tb : Tab U) (x : RX U O P ops) (st : St U) : List (Nat × List (Ob U)) := match specsS tb x st with | some l => sameR l | none => []
def nxS (tb : Tab U) (x : RX U O P ops) (st : St U) (ts ns : List Nat) : St U :=
  match specsS tb x st with
  | some l => (runS (ops.toList.zip (l.map (·.s))) st).keep ts ns
  | none => st
def ddN : List Nat → List Nat → List Nat
  | [], acc => acc
  | x :: l, acc => ddN l (bif acc.contains x then acc else x :: acc)
def ancs : List Oper → List (List Nat) → List (List Nat)
  | [], acc => acc
  | o :: l, acc =>
    let e := (o.after.toList.filter fun e => Region.binds .any e).map (·.on)
    ancs l (acc ++ [ddN (e ++ e.flatMap fun k => acc.getD k []) []])
def raS (tb : Tab U) (x : RX U O P ops) (st : St U) : Bool :=
  match specsS tb x st with
  | some l => ancOk ops.toList (ancs ops.toList []) && raceFree (ops.toList.zip (l.map (·.s))) (ancs ops.toList [])
  | none => false
theorem runs_S (htb : TbOk P U tb) {x : RX U O P ops} {N : Nat} (h1 : okS tb x st N = true) (h2 : obL tb x st = obR tb x st) : ∃ l, specsS tb x st = some l ∧ Runs U O P ops N st (ops.toList.zip (l.map (·.s))) := by
  unfold okS at h1
  unfold obL obR at h2
  cases h : specsS tb x st with
  | none => rw [h] at h1; cases h1
  | some l =>
    rw [h] at h1 h2
    obtain ⟨g1, g2⟩ := regS_ok htb h (same_all h2)
    exact ⟨l, rfl, runs_of' g1 g2 h1⟩
theorem WpC.rS {id N : Nat} {st' : St U} {Q : PostQ U} (htb : TbOk P U tb) (x : RX U O P ops) (ts ns : List Nat) (hN : B.n = N) (h1 : okS tb x st N = true) (h2 : obL tb x st = obR tb x st) (h3 : nxS tb x st ts ns = st') {st2 : St U} (hcv : Conv U O st' st2) (hQ : Q .normal st2) :
    WpC U O P B (.region id ops false) st Q := by
  obtain ⟨l, hl, hR⟩ := runs_S htb h1 h2
  unfold nxS at h3
  rw [hl] at h3
  intro S ι a w hRel
  refine wp_region_list ?_
  have hC := Runs.chain (N := N) hR.ok hR.fit hR.dst
  rw [hR.len] at hC
  subst hN
  exact hC.wp (fun S ι a w hR' => ⟨st2, hQ, hcv B S ι a w (h3 ▸ hR'.weak (St.keep_le _ ts ns))⟩) hRel
theorem WpC.rA {id N : Nat} {st' : St U} {Q : PostQ U} (htb : TbOk P U tb) (hm : P.follows .mixedOrders = true) (x : RX U O P ops) (ts ns : List Nat) (hN : B.n = N) (h1 : okS tb x st N = true) (h2 : obL tb x st = obR tb x st) (h4 : raS tb x st = true)
    (h3 : nxS tb x st ts ns = st') {st2 : St U} (hcv : Conv U O st' st2) (hQ : Q .normal st2) : WpC U O P B (.region id ops true) st Q := by
  obtain ⟨l, hl, hR⟩ := runs_S htb h1 h2
  unfold nxS at h3
  unfold raS at h4
  rw [hl] at h3 h4
  rw [Bool.and_eq_true] at h4
  subst hN
  intro S ι a w hRel
  have h := WpC.regionAny (Q := fun e s => e = .normal ∧ s = runS (ops.toList.zip (l.map (·.s))) st) (id := id) _ hm hR h4.1 h4.2 ⟨rfl, rfl⟩ S ι a w hRel
  exact wp_mono h fun e a w ⟨s, ⟨h5, h6⟩, S, ι, hR'⟩ => by subst h5 h6; exact ⟨st2, hQ, hcv B S ι a w (h3 ▸ hR'.weak (St.keep_le _ ts ns))⟩
end
end Go.AM
namespace Go.AM

inductive CV (U : Univ) (O : Out) where
  | k (ts ns : List Nat)
  | nL (t : Nat) (ty : Ty)
  | nE (t : Nat)
  | th (t n : Nat) (E : TypeId) (ty : Ty)
  | rn (n m : Nat)
  | fz (t : Nat)
  | fh (t : Nat) {l l' : Nat} (h : l = l')
  | fu (n j : Nat)
  | uh (n j : Nat) {l l' : Nat} (h : l = l')
  | lo (n : Nat)
  | s0 (n : Nat)
  | sN (n m : Nat)
  | oN (m : Nat) (B : Blk U)
  | oZ (t m : Nat)
  | oL (t : Nat)
  | oB (n : Nat)
  | oS (t : Nat) {q : Bool} (h : q = true)
  | oK (n : Nat) {q : Bool} (h : q = true)
  | it (d : Nat)
  | cm (n : Nat) {t : Ty} {ys kvs : List (List UInt8 × t.den U.T)} (h : ys.Perm kvs) (hr : Rising kvs)
  | fp (t : Nat) (ty : Ty)
  | fq (t : Nat) (ty : Ty)
  | x {a b : St U} (h : Conv U O a b)

inductive OC (U : Univ) where
  | n (a : Nat)
  | b (a : Bool)
  | y (t : Ty) (ys kvs : List (List UInt8 × t.den U.T))
  | s (a : St U)

section
variable {U : Univ} {O : Out}
def freeB (hp : List (Nat × Blk U)) (n : Nat) : Bool := hp.all fun x => !(Blk.names U x.2).contains n
def frzS (st : St U) (t : Nat) (l : Option (Nat × Nat)) : Option (St U × List (OC U) × List (OC U)) :=
  (lookA st.sl t).bind fun v => match v with
    | .vec n wd 0 len => match lookA st.hp n with
      | some (.row _ ty xs _) => bif wd == ty.width U.wd && freeB st.hp n then some (⟨setA st.sl t (.p (.list ty) xs), st.hp.filter fun x => !(x.1 == n)⟩, (match l with | none => [.n len] | some l => [.n l.1, .n l.2]), (match l with | none => [.n xs.length] | some _ => [.n len, .n xs.length])) else none
      | _ => none
    | _ => none
def frzU (st : St U) (n j : Nat) (l : Option (Nat × Nat)) : Option (St U × List (OC U) × List (OC U)) :=
  match lookA st.hp n with
  | some (.box us) => (splitAt' j us).bind fun y => match y with
    | (pre, .vec m wd 0 len, post) => match lookA st.hp m with
      | some (.row _ ty xs _) => bif (wd == ty.width U.wd) && !(n == m) then some (⟨st.sl, (setA st.hp n (.box (pre ++ .p (.list ty) xs :: post))).filter fun x => !(x.1 == m)⟩, (match l with | none => [.n len] | some l => [.n l.1, .n l.2]), (match l with | none => [.n xs.length] | some _ => [.n len, .n xs.length])) else none
      | _ => none
    | _ => none
  | _ => none
def cv1 (st : St U) : CV U O → Option (St U × List (OC U) × List (OC U))
  | .k ts ns => some (st.keep ts ns, [], [])
  | .nL t ty => (lookA st.sl t).bind fun v => match v with
    | .lit (.slice none 0 0) => some (⟨setA st.sl t (.p (.list ty) ([] : List (ty.den U.T))), st.hp⟩, [], [])
    | _ => none
  | .nE t => (lookA st.sl t).bind fun v => match v with
    | .lit .nilIface => some (⟨setA st.sl t (.p .err (0 : Nat)), st.hp⟩, [], [])
    | _ => none
  | .th t n E ty => (lookA st.sl t).bind fun v => match v with
    | .lit (.slice none 0 0) => bif !st.names.contains n && Nat.blt n K0 then some (⟨setA st.sl t (.vec n (ty.width U.wd) 0 0), (n, .row E ty [] false) :: st.hp⟩, [], []) else none
    | _ => none
  | .rn n m => bif !st.names.contains m && Nat.blt m K0 then some (⟨st.sl.map fun x => (x.1, x.2.ren (swap1 n m)), st.hp.map fun x => (swap1 n m x.1, x.2.ren (swap1 n m))⟩, [], []) else none
  | .fz t => frzS st t none
  | @CV.fh _ _ t l l' _ => frzS st t (some (l, l'))
  | .fu n j => frzU st n j none
  | @CV.uh _ _ n j l l' _ => frzU st n j (some (l, l'))
  | .lo n => match lookA st.hp n with
    | some (.row E ty xs true) => some (⟨st.sl, setA st.hp n (.row E ty xs false)⟩, [], [])
    | _ => none
  | .s0 n => match lookA st.hp n with
    | some (.row E ty _ _) => some (⟨st.sl, setA st.hp n (.row E ty ([] : List (ty.den U.T)) false)⟩, [], [])
    | _ => none
  | .sN n m => match lookA st.hp n with
    | some (.row E ty xs _) => some (⟨st.sl, setA st.hp n (.row E ty (xs.take m) false)⟩, [], [])
    | _ => none
  | .oN m B => bif !st.names.contains m && Nat.blt m K0 then some (⟨st.sl, (m, .opt false B) :: st.hp⟩, [], []) else none
  | .oZ t m => (lookA st.sl t).bind fun v => match v with
    | .lit (.pointer none) => some (⟨setA st.sl t (.opt false m), st.hp⟩, [], [])
    | _ => none
  | .oL t => (lookA st.sl t).bind fun v => match v with
    | .loc n 0 => some (⟨setA st.sl t (.opt true n), st.hp⟩, [], [])
    | _ => none
  | .oB n => (lookA st.hp n).bind fun B => some (⟨st.sl, setA st.hp n (.opt true B)⟩, [], [])
  | @CV.oS _ _ t q _ => (lookA st.sl t).bind fun v => match v with
    | .opt q' n => some (⟨setA st.sl t (.loc n 0), st.hp⟩, [.b q'], [.b q])
    | _ => none
  | @CV.oK _ _ n q _ => match lookA st.hp n with
    | some (.opt q' B) => some (⟨st.sl, setA st.hp n B⟩, [.b q'], [.b q])
    | _ => none
  | .it d => match lookA st.hp d with
    | some (.iter m t es clock ys left _) => some (⟨st.sl, setA st.hp d (.iter m t es clock ys left none)⟩, [], [])
    | _ => none
  | @CV.cm _ _ n t ys kvs _ _ => match lookA st.hp n with
    | some (.mapE t' _ _ ys') => some (⟨st.sl, setA st.hp n (.map t kvs)⟩, [.y t' ys' ys'], [.y t ys ys])
    | _ => none
  | .fp t ty => (lookA st.sl t).bind fun v => match v with
    | .loc n 0 => match lookA st.hp n with
      | some (.box us) => match implD U 32 ty us with
        | some (x, []) => bif freeB st.hp n then some (⟨setA st.sl t (.p (.ptr ty) (some x : Option (ty.den U.T))), st.hp.filter fun x => !(x.1 == n)⟩, [], []) else none
        | _ => none
      | _ => none
    | _ => none
  | .fq t ty => (lookA st.sl t).bind fun v => match v with
    | .loc n 0 => match lookA st.hp n with
      | some (.box us) => match implD U 32 ty us with
        | some (x, []) => bif freeB st.hp n then some (⟨setA st.sl t (.pp ty x), st.hp.filter fun x => !(x.1 == n)⟩, [], []) else none
        | _ => none
      | _ => none
    | _ => none
  | @CV.x _ _ a b _ => some (b, [.s st], [.s a])
def cvS : List (CV U O) → St U → Option (St U × List (OC U) × List (OC U))
  | [], st => some (st, [], [])
  | c :: l, st => (cv1 st c).bind fun r => (cvS l r.1).bind fun q => some (q.1, r.2.1 ++ q.2.1, r.2.2 ++ q.2.2)
def cvN (l : List (CV U O)) (st : St U) : St U := match cvS l st with | some r => r.1 | none => st
def cvOk (l : List (CV U O)) (st : St U) : Bool := (cvS l st).isSome
def cvL (l : List (CV U O)) (st : St U) : List (OC U) := match cvS l st with | some r => r.2.1 | none => []
def cvR (l : List (CV U O)) (st : St U) : List (OC U) := match cvS l st with | some r => r.2.2 | none => []

theorem freeB_ok {hp : List (Nat × Blk U)} {n : Nat} (h : freeB hp n = true) : ∀ x ∈ hp, n ∉ Blk.names U x.2 := fun x hx hn => by
  have := List.all_eq_true.1 h x hx
  simp only [Bool.not_eq_true', List.contains_eq_mem, decide_eq_false_iff_not] at this
  exact this hn
theorem fresh_ok {st : St U} {n : Nat} (h : (!st.names.contains n && Nat.blt n K0) = true) : st.names.contains n = false ∧ n < K0 := by
  rw [Bool.and_eq_true] at h
  exact ⟨by simpa using h.1, Nat.le_of_ble_eq_true h.2⟩
theorem frzS_ok {st : St U} {t : Nat} {l : Option (Nat × Nat)} {r : St U × List (OC U) × List (OC U)} (h : frzS st t l = some r) (hl : ∀ x, l = some x → x.1 = x.2) (e : r.2.1 = r.2.2) : Conv U O st r.1 := by
  unfold frzS at h
  obtain ⟨v, hv, h1⟩ := bind_some h
  clear h
  split at h1
  · split at h1
    · rename_i hb
      obtain ⟨ha, h2⟩ := bif_some h1
      rw [Bool.and_eq_true] at ha
      have hw := beqN ha.1
      subst hw
      cases h2
      refine Conv.freeze t _ _ _ _ _ _ (lookA_mem hv) ?_ (lookA_mem hb) (freeB_ok ha.2)
      cases l with
      | none => simp only [List.cons.injEq, OC.n.injEq, and_true] at e; exact e
      | some l =>
        simp only [List.cons.injEq, OC.n.injEq, and_true] at e
        rw [← e.1, hl l rfl, e.2]
    · cases h1
  · cases h1
theorem frzU_ok {st : St U} {n j : Nat} {l : Option (Nat × Nat)} {r : St U × List (OC U) × List (OC U)} (h : frzU st n j l = some r) (hl : ∀ x, l = some x → x.1 = x.2) (e : r.2.1 = r.2.2) : Conv U O st r.1 := by
  unfold frzU at h
  split at h
  · rename_i us hb
    obtain ⟨y, hy, h1⟩ := bind_some h
    have hus := splitAt'_eq hy
    clear h hy
    split at h1
    · dsimp only at hus
      subst hus
      split at h1
      · rename_i hm
        obtain ⟨ha, h2⟩ := bif_some h1
        rw [Bool.and_eq_true] at ha
        have hw := beqN ha.1
        subst hw
        cases h2
        refine Conv.freezeU _ _ _ _ _ _ _ _ _ (lookA_mem hb) ?_ (lookA_mem hm) (by simpa using ha.2)
        cases l with
        | none => simp only [List.cons.injEq, OC.n.injEq, and_true] at e; exact e
        | some l =>
          simp only [List.cons.injEq, OC.n.injEq, and_true] at e
          rw [← e.1, hl l rfl, e.2]
      · cases h1
    · cases h1
  · cases h
theorem cv1_ok {st : St U} {c : CV U O} {r : St U × List (OC U) × List (OC U)} (h : cv1 st c = some r) (e : r.2.1 = r.2.2) : Conv U O st r.1 := by
  cases c with
  | k ts ns => cases h; exact Conv.keep ts ns rfl
  | nL t ty =>
    obtain ⟨v, hv, h1⟩ := bind_some h
    split at h1
    · cases h1; exact Conv.nilL t ty (lookA_mem hv)
    · cases h1
  | nE t =>
    obtain ⟨v, hv, h1⟩ := bind_some h
    split at h1
    · cases h1; exact Conv.nilE t (lookA_mem hv)
    · cases h1
  | th t n E ty =>
    obtain ⟨v, hv, h1⟩ := bind_some h
    split at h1
    · obtain ⟨ha, h2⟩ := bif_some h1
      cases h2; obtain ⟨h3, h4⟩ := fresh_ok ha; exact Conv.thaw t n E ty (lookA_mem hv) h3 h4
    · cases h1
  | rn n m =>
    obtain ⟨ha, h2⟩ := bif_some h
    cases h2; obtain ⟨h3, h4⟩ := fresh_ok ha; exact Conv.ren n m h4 h3 rfl rfl
  | fz t => exact frzS_ok (t := t) (l := none) h (fun _ h => by cases h) e
  | @fh t l l' h' => exact frzS_ok (t := t) (l := some (l, l')) h (fun _ h => by cases h; exact h') e
  | fu n j => exact frzU_ok (n := n) (j := j) (l := none) h (fun _ h => by cases h) e
  | @uh n j l l' h' => exact frzU_ok (n := n) (j := j) (l := some (l, l')) h (fun _ h => by cases h; exact h') e
  | lo n =>
    dsimp only [cv1] at h
    split at h
    · cases h; exact Conv.loose _ _ _ _ (lookA_mem (by assumption))
    · cases h
  | s0 n =>
    dsimp only [cv1] at h
    split at h
    · cases h; exact Conv.shrink0 _ _ _ _ _ (lookA_mem (by assumption))
    · cases h
  | sN n m =>
    dsimp only [cv1] at h
    split at h
    · cases h; exact Conv.shrinkN _ _ _ _ _ _ (lookA_mem (by assumption))
    · cases h
  | oN m B =>
    obtain ⟨ha, h2⟩ := bif_some h
    cases h2; obtain ⟨h3, h4⟩ := fresh_ok ha; exact Conv.optNew m B h3 h4
  | oZ t m =>
    obtain ⟨v, hv, h1⟩ := bind_some h
    split at h1
    · cases h1; exact Conv.optNil t m (lookA_mem hv)
    · cases h1
  | oL t =>
    obtain ⟨v, hv, h1⟩ := bind_some h
    split at h1
    · cases h1; exact Conv.optLoc t _ (lookA_mem hv)
    · cases h1
  | oB n =>
    obtain ⟨v, hv, h1⟩ := bind_some h
    cases h1; exact Conv.optBlk n _ (lookA_mem hv)
  | oS t hq =>
    obtain ⟨v, hv, h1⟩ := bind_some h
    split at h1
    · cases h1
      simp only [List.cons.injEq, OC.b.injEq, and_true] at e
      exact Conv.openS t _ (e.trans hq) (lookA_mem hv)
    · cases h1
  | oK n hq =>
    dsimp only [cv1] at h
    split at h
    · cases h
      simp only [List.cons.injEq, OC.b.injEq, and_true] at e
      exact Conv.openB n _ (e.trans hq) (lookA_mem (by assumption))
    · cases h
  | it d =>
    dsimp only [cv1] at h
    split at h
    · cases h; exact Conv.iterRest (lookA_mem (by assumption))
    · cases h
  | cm n hp hr =>
    dsimp only [cv1] at h
    split at h
    · rename_i hb
      cases h
      simp only [List.cons.injEq, and_true] at e
      cases e
      exact Conv.closeMap (lookA_mem hb) hp hr
    · cases h
  | fp t ty =>
    obtain ⟨v, hv, h1⟩ := bind_some h
    split at h1
    · split at h1
      · rename_i hb
        split at h1
        · rename_i hi
          obtain ⟨ha, h2⟩ := bif_some h1
          cases h2
          obtain ⟨m, e1, g⟩ := implD_ok _ hi
          rw [List.append_nil] at e1
          exact Conv.freezeP t _ ty _ _ (lookA_mem hv) (e1 ▸ g) (lookA_mem hb) (freeB_ok ha)
        · cases h1
      · cases h1
    · cases h1
  | fq t ty =>
    obtain ⟨v, hv, h1⟩ := bind_some h
    split at h1
    · split at h1
      · rename_i hb
        split at h1
        · rename_i hi
          obtain ⟨ha, h2⟩ := bif_some h1
          cases h2
          obtain ⟨m, e1, g⟩ := implD_ok _ hi
          rw [List.append_nil] at e1
          exact Conv.freezeQ t _ ty _ _ (lookA_mem hv) (e1 ▸ g) (lookA_mem hb) (freeB_ok ha)
        · cases h1
      · cases h1
    · cases h1
  | x hc =>
    cases h
    simp only [List.cons.injEq, OC.s.injEq, and_true] at e
    exact e ▸ hc
theorem cv1_len {st : St U} {c : CV U O} {r : St U × List (OC U) × List (OC U)} (h : cv1 st c = some r) : r.2.1.length = r.2.2.length := by
  have f1 : ∀ {t l r}, frzS st t l = some r → r.2.1.length = r.2.2.length := fun {t l r} h => by
    unfold frzS at h
    obtain ⟨v, hv, h1⟩ := bind_some h
    split at h1
    · split at h1
      · obtain ⟨ha, h2⟩ := bif_some h1
        cases h2; cases l <;> rfl
      · cases h1
    · cases h1
  have f2 : ∀ {n j l r}, frzU st n j l = some r → r.2.1.length = r.2.2.length := fun {n j l r} h => by
    unfold frzU at h
    split at h
    · obtain ⟨y, hy, h1⟩ := bind_some h
      split at h1
      · split at h1
        · obtain ⟨ha, h2⟩ := bif_some h1
          cases h2; cases l <;> rfl
        · cases h1
      · cases h1
    · cases h
  cases c with
  | fz t => exact f1 (t := t) (l := none) h
  | @fh t l l' h' => exact f1 (t := t) (l := some (l, l')) h
  | fu n j => exact f2 (n := n) (j := j) (l := none) h
  | @uh n j l l' h' => exact f2 (n := n) (j := j) (l := some (l, l')) h
  | k | x => cases h; rfl
  | rn | oN => obtain ⟨ha, h2⟩ := bif_some h; cases h2; rfl
  | oB => obtain ⟨v, hv, h1⟩ := bind_some h; cases h1; rfl
  | lo | s0 | sN | oK | it | cm =>
    dsimp only [cv1] at h
    split at h
    · cases h; rfl
    · cases h
  | th =>
    obtain ⟨v, hv, h1⟩ := bind_some h
    split at h1
    · obtain ⟨ha, h2⟩ := bif_some h1; cases h2; rfl
    · cases h1
  | fp | fq =>
    obtain ⟨v, hv, h1⟩ := bind_some h
    split at h1
    · split at h1
      · split at h1
        · obtain ⟨ha, h2⟩ := bif_some h1; cases h2; rfl
        · cases h1
      · cases h1
    · cases h1
  | _ =>
    obtain ⟨v, hv, h1⟩ := bind_some h
    split at h1
    · cases h1; rfl
    · cases h1
theorem cvS_ok : ∀ {l : List (CV U O)} {st : St U} {r : St U × List (OC U) × List (OC U)}, cvS l st = some r → r.2.1 = r.2.2 → Conv U O st r.1
  | [], st, r, h, _ => by cases h; exact Conv.refl _
  | c :: l, st, r, h, e => by
    obtain ⟨r1, h1, h2⟩ := bind_some h
    obtain ⟨q, h3, h4⟩ := bind_some h2
    cases h4
    obtain ⟨e1, e2⟩ := app_inj e (cv1_len h1)
    exact (cv1_ok h1 e1).trans (cvS_ok (r := q) h3 e2)
theorem Conv.S {l : List (CV U O)} {st : St U} (h1 : cvOk l st = true) (h2 : cvL l st = cvR l st) : Conv U O st (cvN l st) := by
  unfold cvOk at h1
  unfold cvL cvR at h2
  unfold cvN
  cases h : cvS l st with
  | none => rw [h] at h1; cases h1
  | some r => rw [h] at h2; exact cvS_ok h h2

variable {P : Program} {B : Base}
theorem WpC.cS {c : Code} {st : St U} {Q : PostQ U} (l : List (CV U O)) (h1 : cvOk l st = true) (h2 : cvL l st = cvR l st) (hc : WpC U O P B c (cvN l st) Q) : WpC U O P B c st Q := .conv (.S h1 h2) hc
theorem WpC.tS {t : Nat} {b : Bool} {c d : Code} {st : St U} {Q : PostQ U} (hx : lookA st.sl t = some (.p .bool b)) (h1 : b = true → WpC U O P B c st Q) (h2 : b = false → WpC U O P B d st Q) : WpC U O P B (.cond (.tmp t) c d) st Q :=
  .cond (.tmp (lookA_mem hx)) h1 h2
theorem WpC.st {c : Code} {st st' : St U} {Q : PostQ U} (h : st = st') (hc : WpC U O P B c st' Q) : WpC U O P B c st Q := h ▸ hc
def resD (tb : Tab U) (st : St U) : List ResultVar → Option (List (AVal U))
  | [] => some []
  | .tmp t :: l => (lookA st.sl t).bind fun v => (resD tb st l).bind fun vs => some (v :: vs)
  | .cell b T :: l => (lookA st.sl b).bind fun v => match v with
    | .loc n off => match lookA st.hp n with
      | some (.box us) => (lookA tb.ty T).bind fun t => ((cutU U us off).bind fun x => (cutU U x.2 (t.width U.wd)).bind fun y => some (x.1, y.1, y.2)).bind fun c => bif allU c.1 && allU c.2.1 then (madeD t c.2.1).bind fun v => (resD tb st l).bind fun vs => some (v :: vs) else none
      | _ => none
    | _ => none
theorem resD_ok {tb : Tab U} (htb : TbOk P U tb) {st : St U} : ∀ {l : List ResultVar} {vs : List (AVal U)}, resD tb st l = some vs → ResL U P st l vs
  | [], _, h => by cases h; exact .nil
  | .tmp t :: l, _, h => by
    obtain ⟨v, hv, h1⟩ := bind_some h
    obtain ⟨vs, hvs, h2⟩ := bind_some h1
    cases h2; exact .tmp (lookA_mem hv) (resD_ok htb hvs)
  | .cell b T :: l, _, h => by
    obtain ⟨v, hv, h1⟩ := bind_some h
    split at h1
    · split at h1
      · rename_i us hb
        obtain ⟨t, ht, h2⟩ := bind_some h1
        obtain ⟨⟨pre, mid, post⟩, hc, h3⟩ := bind_some h2
        obtain ⟨ha, h4⟩ := bif_some h3
        obtain ⟨v, hv', h5⟩ := bind_some h4
        obtain ⟨vs, hvs, h6⟩ := bind_some h5
        rw [Bool.and_eq_true] at ha
        obtain ⟨e1, e2, e3⟩ := cut2_ok hc
        cases h6
        exact .cell pre mid post (lookA_mem hv) (e1 ▸ lookA_mem hb) ha.1 e2 ha.2 e3 (htb.ty' ht) (madeD_ok hv') (resD_ok htb hvs)
      · cases h1
    · cases h1
theorem holdM : ∀ {l hp : List (Nat × Blk U)}, (l.map fun x => lookA hp x.1) = (l.map fun x => some x.2) → ∀ x ∈ l, x ∈ hp
  | [], _, _, _, h => by cases h
  | y :: l, hp, h, x, hx => by
    simp only [List.map_cons, List.cons.injEq] at h
    rcases List.mem_cons.1 hx with rfl | hx
    · exact lookA_mem h.1
    · exact holdM h.2 x hx
theorem endS {tb : Tab U} (htb : TbOk P U tb) {fn : Func} {c : CSpec U} {st : St U} (h1 : (resD tb st fn.results.toList).map resOf = some c.r) (h2 : (c.bs'.map fun x => lookA st.hp x.1) = c.bs'.map fun x => some x.2) : RetV U O P fn st c.r ∧ ∀ x ∈ c.bs', x ∈ st.hp := by
  cases h : resD tb st fn.results.toList with
  | none => rw [h] at h1; cases h1
  | some vs =>
    rw [h] at h1
    rw [← Option.some.inj h1]
    exact ⟨retV_L rfl (resD_ok htb h), holdM h2⟩
theorem ends_retS {tb : Tab U} (htb : TbOk P U tb) {fn : Func} {c : CSpec U} {st : St U} (h1 : (resD tb st fn.results.toList).map resOf = some c.r) (h2 : (c.bs'.map fun x => lookA st.hp x.1) = c.bs'.map fun x => some x.2) : Ends U O P fn c .ret st := endS htb h1 h2
end
end Go.AM
namespace Go.AM
open Go
set_option linter.unusedVariables false
section
variable {U : Univ} {O : Out} {P : Program}
theorem COk.to {f : FuncId} {c : CSpec U} (h : COk U O P f c) (r : AVal U) (hr : ∀ S ι w u, VV U O S ι w c.r u → VV U O S ι w r u) : COk U O P f { c with r := r } := by
  intro S ι w vs hlt hgl has hbs hown
  refine (h S ι w vs hlt hgl has hbs hown).mono ?_
  rintro e w' ⟨u, S', ι', rfl, hN, hu⟩
  exact ⟨u, S', ι', rfl, ⟨hN.os, hN.tape, hN.output, hN.size, hN.sub, hN.new, hN.lt, hN.keep, hN.lay, hN.blk, hN.plc, hN.sep⟩, hr S' ι' w' u hu⟩
end
end Go.AM
namespace Go.AM
open Go
set_option linter.unusedVariables false
section
variable {U : Univ} {O : Out} {P : Program} {S : Nat → Prop} {ι : Lay} {w : World} {rs : List (Nat × AVal U)} {a : Act} {ops : Array Oper} {o : Oper}
abbrev locsOf (U : Univ) (ls : List (Nat × Nat)) : List (AVal U) := ls.map fun x => .loc x.1 x.2
end
end Go.AM
namespace Go.AM
set_option linter.unusedVariables false

section
variable {α : Type}
def aput (k : List UInt8) (v : α) : KV α → KV α
  | [] => [(k, v)]
  | y :: r => if y.1 = k then (k, v) :: r else y :: aput k v r
theorem aput_new {k : List UInt8} {v : α} : ∀ {ys : KV α}, (∀ y ∈ ys, y.1 ≠ k) → aput k v ys = ys ++ [(k, v)]
  | [], _ => rfl
  | y :: r, h => by rw [aput, if_neg (h y List.mem_cons_self), aput_new fun z hz => h z (List.mem_cons_of_mem _ hz)]; rfl
theorem aput_mid {k : List UInt8} {v x : α} {y2 : KV α} : ∀ {y1 : KV α}, (∀ y ∈ y1, y.1 ≠ k) → aput k v (y1 ++ (k, x) :: y2) = y1 ++ (k, v) :: y2
  | [], _ => by simp [aput]
  | y :: r, h => by rw [List.cons_append, aput, if_neg (h y List.mem_cons_self), aput_mid fun z hz => h z (List.mem_cons_of_mem _ hz)]; rfl
variable {R : List UInt8 × α → Value → Prop}
theorem EntsG.app {es' : List MapEntry} : ∀ {es : List MapEntry} {ys : KV α}, EntsG R (es ++ es') ys ↔ ∃ y1 y2, ys = y1 ++ y2 ∧ EntsG R es y1 ∧ EntsG R es' y2
  | [], ys => by
    constructor
    · intro h; exact ⟨[], ys, rfl, rfl, h⟩
    · rintro ⟨y1, y2, rfl, h1, h2⟩
      have h1 : y1 = [] := h1
      subst h1; exact h2
  | e :: es, ys => by
    constructor
    · rintro ⟨y, r, rfl, h1, h2, h3⟩
      obtain ⟨y1, y2, rfl, h4, h5⟩ := EntsG.app.1 h3
      exact ⟨y :: y1, y2, rfl, ⟨y, y1, rfl, h1, h2, h4⟩, h5⟩
    · rintro ⟨y1, y2, rfl, ⟨y, r, rfl, h1, h2, h3⟩, h5⟩
      exact ⟨y, r ++ y2, rfl, h1, h2, EntsG.app.2 ⟨r, y2, rfl, h3, h5⟩⟩
theorem EntsG.isKey : ∀ {es : List MapEntry} {ys : KV α}, EntsG R es ys → ∀ x ∈ es, MapKept.IsKey .string x.key
  | [], _, _, x, hx => by cases hx
  | e :: es, _, ⟨y, r, h1, ⟨s, h2, _⟩, _, h5⟩, x, hx => by
    rcases List.mem_cons.1 hx with rfl | hx
    · rw [h2]; trivial
    · exact EntsG.isKey h5 x hx
theorem EntsG.mem : ∀ {es : List MapEntry} {ys : KV α}, EntsG R es ys → ∀ y ∈ ys, ∃ x ∈ es, ∃ s : ByteArray, x.key = .string s ∧ s.data.toList = y.1
  | [], _, h, y, hy => by have h : _ = _ := h; rw [h] at hy; cases hy
  | e :: es, _, ⟨y, r, h1, h2, _, h5⟩, z, hz => by
    subst h1
    rcases List.mem_cons.1 hz with rfl | hz
    · exact ⟨e, List.mem_cons_self, h2⟩
    · obtain ⟨x, h6, h7⟩ := EntsG.mem h5 z hz
      exact ⟨x, List.mem_cons_of_mem _ h6, h7⟩
theorem EntsG.apart : ∀ {es : List MapEntry} {ys : KV α}, EntsG R es ys → (es.map (·.key)).Nodup → Apart ys
  | [], _, h, _ => by have h : _ = _ := h; rw [h]; exact .nil
  | e :: es, _, ⟨y, r, h1, ⟨s, h2, h3⟩, _, h5⟩, hn => by
    subst h1
    rw [List.map_cons, List.nodup_cons] at hn
    refine List.pairwise_cons.2 ⟨fun z hz he => ?_, EntsG.apart h5 hn.2⟩
    obtain ⟨x, h6, s', h7, h8⟩ := EntsG.mem h5 z hz
    refine hn.1 (List.mem_map.2 ⟨x, h6, ?_⟩)
    rw [h7, h2, bytes_ext (h8.trans (he.symm.trans h3.symm))]
theorem EntsG.find {s : ByteArray} {es : List MapEntry} {ys : KV α} (h : EntsG R es ys) (hn : (es.map (·.key)).Nodup) :
    (Instr.findNow .string (.string s) es 0 = some none ∧ (∀ x ∈ es, x.key ≠ .string s) ∧ mget s.data.toList ys = none ∧ ∀ y ∈ ys, y.1 ≠ s.data.toList) ∨
    ∃ pre e post y1 y y2, es = pre ++ e :: post ∧ ys = y1 ++ (s.data.toList, y) :: y2 ∧ Instr.findNow .string (.string s) es 0 = some (some (pre.length, e.val)) ∧ e.key = .string s ∧
      EntsG R pre y1 ∧ EntsG R post y2 ∧ R (s.data.toList, y) e.val ∧ mget s.data.toList ys = some y ∧ ∀ z ∈ y1, z.1 ≠ s.data.toList := by
  have ha := h.apart hn
  rcases MapKept.findNow_spec (d := .string) (k := .string s) trivial es 0 h.isKey with ⟨h1, h2⟩ | ⟨j, e, h1, h2, h3⟩
  · left
    have hk : ∀ y ∈ ys, y.1 ≠ s.data.toList := fun y hy e => by
      obtain ⟨x, h4, s', h5, h6⟩ := h.mem y hy
      exact h2 x h4 (by rw [h5, bytes_ext (h6.trans e)])
    exact ⟨h1, h2, mget_none.2 hk, hk⟩
  · right
    obtain ⟨hj, hj2⟩ := List.getElem?_eq_some_iff.1 h2
    have hes : es = es.take j ++ e :: es.drop (j + 1) := by rw [← hj2, List.getElem_cons_drop, List.take_append_drop]
    have hpl : (es.take j).length = j := by simp; omega
    rw [hes] at h
    obtain ⟨y1, y2', rfl, h4, y, y2, rfl, ⟨s', h5, h6⟩, h7, h8⟩ := EntsG.app.1 h
    rw [h3] at h5
    injection h5 with h5
    subst h5
    obtain ⟨k, y⟩ := y
    simp only at h6
    subst h6
    refine ⟨es.take j, e, es.drop (j + 1), y1, y, y2, hes, rfl, by rw [h1, hpl]; simp, h3, h4, h8, h7, mget_of ha (by simp), fun z hz => ?_⟩
    obtain ⟨_, _, p3⟩ := List.pairwise_append.1 ha
    exact p3 z hz _ List.mem_cons_self
end

section
variable {U : Univ} {O : Out} {P : Program} {B : Base} {S : Nat → Prop} {ι : Lay} {w : World} {rs : List (Nat × AVal U)} {a : Act} {ops : Array Oper} {o : Oper} {t : Ty}

theorem sok_lookupM {T K E : TypeId} {m x : Operand} {n wd r len : Nat} {ys : KV Value} {k : List UInt8} (hg : o.guard = none) (ho : o.op = .lookup T m x false) (hT : MapOk P T K E)
    (hm : Opd U rs m (.mp n)) (hx : Opd U rs x (.p .str k)) (hk : (mget k ys).isSome = true) : SOk U O P ops o { rs := rs, ro := [(n, .mapM wd ys (some (k, r, len)))], ws := .vec r wd 0 len } :=
  sok_v hg _ (fun _ => exec_lookup ho) fun S ι w a hrs hro => by
    obtain ⟨b, c, es, clock, h1, h2, h3, h4⟩ := hro _ List.mem_cons_self
    obtain ⟨b', c', h7, h8⟩ := hm.ev hrs
    rw [h1] at h7
    obtain ⟨rfl, rfl⟩ : b = b' ∧ c = c' := by simpa using h7
    obtain ⟨cs, hk', hk2⟩ := hx.ev hrs
    cases hk' with | str s =>
    have hk2 : a.eval x = .string s := hk2
    rw [h8, hk2]
    rcases EntsG.find (s := s) h4 h3.2.2 with ⟨f1, f2, f3, _⟩ | ⟨pre, e, post, y1, y, y2, f1, f2, f3, f4, f5, f6, f7, f8, f9⟩
    · rw [f3] at hk; cases hk
    · simp only [if_true] at f7
      refine ⟨e.val, ?_, f7⟩
      simp [Instr.lookup, run_underlying hT.ty, MapKept.run_getObj_map h2, MapKept.run_checkKey hT.key (show MapKept.IsKey .string (.string s) from trivial), MapKept.run_findKey hT.key f3, Result.andThen]
theorem sok_lookupMN {T K E : TypeId} {m x : Operand} {n wd : Nat} {ys : KV Value} {k : List UInt8} (hg : o.guard = none) (ho : o.op = .lookup T m x false) (hT : MapOk P T K E) (hz : ∃ i, P.info? E = some i ∧ i.zero = some (.slice none 0 0))
    (hm : Opd U rs m (.mp n)) (hx : Opd U rs x (.p .str k)) (hk : mget k ys = none) : SOk U O P ops o { rs := rs, ro := [(n, .mapM wd ys none)], ws := .lit (.slice none 0 0) } :=
  sok_v hg _ (fun _ => exec_lookup ho) fun S ι w a hrs hro => by
    obtain ⟨b, c, es, clock, h1, h2, h3, h4⟩ := hro _ List.mem_cons_self
    obtain ⟨b', c', h7, h8⟩ := hm.ev hrs
    rw [h1] at h7
    obtain ⟨rfl, rfl⟩ : b = b' ∧ c = c' := by simpa using h7
    obtain ⟨cs, hk', hk2⟩ := hx.ev hrs
    cases hk' with | str s =>
    have hk2 : a.eval x = .string s := hk2
    obtain ⟨i, hi, hv⟩ := hz
    have hzr : (zeroValue E).run P w = .ok (.slice none 0 0) w := by simp only [zeroValue, typeInfo, hi, hv, program, Sem.run_bind, Sem.run, Result.andThen_ok, Sem.run_pure]
    rw [h8, hk2]
    rcases EntsG.find (s := s) h4 h3.2.2 with ⟨f1, f2, f3, _⟩ | ⟨pre, e, post, y1, y, y2, f1, f2, f3, f4, f5, f6, f7, f8, f9⟩
    · refine ⟨.slice none 0 0, ?_, rfl, rfl⟩
      simp [Instr.lookup, run_underlying hT.ty, MapKept.run_getObj_map h2, MapKept.run_checkKey hT.key (show MapKept.IsKey .string (.string s) from trivial), MapKept.run_findKey hT.key f1, hzr, Result.andThen]
    · rw [f8] at hk; cases hk
theorem sok_makeMapM {T : TypeId} {d wd : Nat} (hg : o.guard = none) (_ : o.dst = some d) (ho : o.op = .makeMap T none) : SOk U O P ops o { rs := rs, ws := .mp d, pb := [(d, .mapM wd [] none)], nn := [d] } := by
  intro S ι w a hlt hgl hrs hro hcb hown K Q hK
  refine opWp_plain hg ?_
  unfold Oper.wp
  rw [exec_makeMap ho]
  have hr : (Instr.makeMap T none).run P w = .ok (.map (some w.heap.size)) (w.alloc (.map #[] 0)) := by
    simp only [Instr.makeMap, newObj, Sem.run_bind, Sem.run, Result.andThen_ok, Sem.run_pure]
    rfl
  rw [show (Option.map a.eval none : Option Value) = none from rfl, run_vOf hr]
  refine hK _ S _ _ (Nx.alloc (s := { rs := rs, ws := .mp d, pb := [(d, .mapM wd [] none)], nn := [d] }) (.map #[] 0) rfl rfl rfl hlt 0 ?_) ⟨w.heap.size, 0, by simp, rfl⟩
  exact ⟨w.heap.size, 0, #[], 0, by simp, heap_alloc_new w _, MapKept.stamped_empty 0, rfl⟩
def curOk (k : List UInt8) (ys : KV Value) : Option (List UInt8 × Nat × Nat) → Bool
  | none => (mget k ys).isNone
  | some x => x.1 == k
theorem sok_mapUpdateM {T K E : TypeId} {m x y : Operand} {n wd r len : Nat} {ys : KV Value} {cur : Option (List UInt8 × Nat × Nat)} {k : List UInt8} (hg : o.guard = none) (_ : o.dst = none) (ho : o.op = .mapUpdate T m x y) (hT : MapOk P T K E)
    (hm : Opd U rs m (.mp n)) (hx : Opd U rs x (.p .str k)) (hy : Opd U rs y (.vec r wd 0 len)) (hcur : curOk k ys cur = true) :
    SOk U O P ops o { rs := rs, cb := [(n, .mapM wd ys cur)], pb := [(n, .mapM wd (aput k (.bool false) ys) (some (k, r, len)))] } := by
  intro S ι w a hlt hgl hrs hro hcb hown K' Q hK
  have hB : ∃ b c es clock, ι n = some (b, c) ∧ w.heap[b]? = some (.map es clock) ∧ MapKept.Stamped es clock ∧ EntsG (fun y u => y.1 = k ∨ u = y.2) es.toList ys := by
    have h := hcb (n, .mapM wd ys cur) List.mem_cons_self
    cases cur with
    | none => obtain ⟨b, c, es, clock, h1, h2, h3, h4⟩ := h; exact ⟨b, c, es, clock, h1, h2, h3, h4.mono fun _ _ _ h => .inr h⟩
    | some z =>
      obtain ⟨b, c, es, clock, h1, h2, h3, h4⟩ := h
      refine ⟨b, c, es, clock, h1, h2, h3, h4.mono fun y _ u h => ?_⟩
      have hz : z.1 = k := by simpa [curOk] using hcur
      split at h
      · rename_i e; exact .inl (e.trans hz)
      · exact .inr h
  obtain ⟨b, c, es, clock, h1, h2, h3, h4⟩ := hB
  obtain ⟨b', c', h7, h8⟩ := hm.ev hrs
  rw [h1] at h7
  obtain ⟨rfl, rfl⟩ : b = b' ∧ c = c' := by simpa using h7
  obtain ⟨cs, hk, hk2⟩ := hx.ev hrs
  cases hk with | str s =>
  have hk2 : a.eval x = .string s := hk2
  have hv := hy.ev hrs
  have hout := (hown.out n (by simp) b c h1).1
  have hky : MapKept.IsKey .string (.string s) := trivial
  let R : List UInt8 × Value → Value → Prop := fun y u => if y.1 = s.data.toList then VV U O S ι w (.vec r wd 0 len) u else u = y.2
  have hR : ∀ {es : List MapEntry} {ys : KV Value}, (∀ y ∈ ys, y.1 ≠ s.data.toList) → EntsG (fun y u => y.1 = s.data.toList ∨ u = y.2) es ys → EntsG R es ys := fun hne h => h.mono fun y hy u hu => by
    show if _ then _ else _
    rw [if_neg (hne y hy)]; exact hu.resolve_left (hne y hy)
  obtain ⟨es', clock', g1, g2, g3⟩ : ∃ es' clock', (Instr.mapUpdate T (.map (some b)) (.string s) (a.eval y)).run P w = .ok () { w with heap := w.heap.setIfInBounds b (.map es' clock') } ∧ MapKept.Stamped es' clock' ∧
      EntsG R es'.toList (aput s.data.toList (.bool false) ys) := by
    rcases EntsG.find (s := s) h4 h3.2.2 with ⟨f1, f2, f3, f4⟩ | ⟨pre, e, post, y1, y0, y2, f1, f2, f3, f4, f5, f6, _, f9, f10⟩
    · refine ⟨es.push ⟨.string s, a.eval y, clock⟩, clock + 1, ?_, MapKept.stamped_push h3 f2, ?_⟩
      · simp [Instr.mapUpdate, run_underlying hT.ty, MapKept.run_getObj_map h2, MapKept.run_checkKey hT.key hky, MapKept.run_findKey hT.key f1, MapKept.run_setObj_map _ h2, Result.andThen]
      · rw [Array.toList_push, aput_new f4]
        exact EntsG.app.2 ⟨ys, _, rfl, hR f4 h4, _, [], rfl, ⟨s, rfl, rfl⟩, by show if _ then _ else _; rw [if_pos rfl]; exact hv, rfl⟩
    · have hj : es[pre.length]? = some e := by rw [← Array.getElem?_toList, f1]; simp
      have ha : Apart ys := h4.apart h3.2.2
      rw [f2] at ha
      obtain ⟨_, p2, _⟩ := List.pairwise_append.1 ha
      obtain ⟨p4, _⟩ := List.pairwise_cons.1 p2
      refine ⟨es.modify pre.length (fun e' => { e' with key := .string s, val := a.eval y }), clock, ?_, ?_, ?_⟩
      · simp [Instr.mapUpdate, run_underlying hT.ty, MapKept.run_getObj_map h2, MapKept.run_checkKey hT.key hky, MapKept.run_findKey hT.key f3, hj, f4, MapKept.run_keyThatStays hky, MapKept.run_setObj_map _ h2, Result.andThen]
      · exact MapKept.stamped_modify h3 _ _ (fun _ _ => rfl) (fun e' _ he => by rw [hj] at he; cases he; exact f4.symm)
      · rw [Array.toList_modify, f1, modify_mid, f2, aput_mid f10]
        exact EntsG.app.2 ⟨y1, _, rfl, hR f10 f5, _, y2, rfl, ⟨s, rfl, rfl⟩, by show if _ then _ else _; rw [if_pos rfl]; exact hv, hR (fun z hz => (p4 z hz).symm) f6⟩
  refine opWp_plain hg ?_
  unfold Oper.wp
  rw [exec_mapUpdate ho, h8, hk2]
  simp only [Sem.run_bind, g1, Result.andThen_ok, Sem.run_pure, Oper.upon]
  refine hK undef S ι _ (Nx.setObj (n := n) (b := b) (c := c) (o1 := .map es clock) rfl rfl h1 hout hlt h2 ?_) trivial
  refine ⟨b, c, es', clock', h1, (MapKept.heap_set h2).1, g2, g3.mono fun y hy u hu => ?_⟩
  have hu : if _ then _ else _ := hu
  split at hu
  · rename_i e
    show if y.1 = s.data.toList then _ else _
    rw [if_pos e]
    exact VV.mono (fun k hk => (MapKept.heap_set h2).2 k fun e => hout (e ▸ hk)) (fun _ h => h) _ _ (fun _ _ => rfl) hu
  · rename_i e
    show if y.1 = s.data.toList then _ else _
    rw [if_neg e]; exact hu
end
end Go.AM
