/- A part of my own abstract layer. -/
import Derived.Test.YteddmdkbeednmaaDoorK33AmR3
import Derived.Test.YteddmdkbeednmaaDoorK33AmI
namespace Go.AM

section
variable {U : Univ} {O : Out} {P : Program} {ops : Array Oper}
structure RX (U : Univ) (O : Out) (P : Program) (ops : Array Oper) where
  its : List (Nat × IT U O P ops) := []
  kn : List (Nat × IT U O P ops) := []
  th : List (Nat × List (Nat × Nat × TypeId × Ty)) := []
  fz : List Nat := []
  gv : List (Nat × List Nat) := []
def splitAt' {α : Type} : Nat → List α → Option (List α × α × List α)
  | _, [] => none
  | 0, x :: l => some ([], x, l)
  | n + 1, x :: l => (splitAt' n l).bind fun y => some (x :: y.1, y.2)
def thaw1 (r : SR U) (j m : Nat) (E : TypeId) (t : Ty) : Option (SR U) :=
  match r.s.pb with
  | (d, .box us) :: rest => (splitAt' j us).bind fun x => match x with
    | (pre, .lit (.slice none 0 0), post) => bif (nm r.s.pb ++ AVal.names U r.s.ws ++ r.s.pb.flatMap (fun x => Blk.names U x.2) ++ nm r.s.cb).contains m then none else
        some ⟨{ r.s with pb := (d, .box (pre ++ .vec m (t.width U.wd) 0 0 :: post)) :: (m, .row E t [] false) :: rest, nn := m :: r.s.nn }, r.L, r.R⟩
    | _ => none
  | _ => none
def thawD : List (Nat × Nat × TypeId × Ty) → SR U → Option (SR U)
  | [], r => some r
  | x :: l, r => (thaw1 r x.1 x.2.1 x.2.2.1 x.2.2.2).bind fun r => thawD l r
def frzD (r : SR U) : Option (SR U) :=
  match r.s.ws, r.s.pb with
  | .vec d wd 0 len, [(d', .row _ t xs _)] => bif (d' == d && wd == t.width U.wd) && decide (r.s.nn = [d]) then some ⟨{ r.s with ws := .p (.list t) xs, pb := [], nn := [] }, .n len :: r.L, .n xs.length :: r.R⟩ else none
  | _, _ => none
def findA {α : Type} (t : Nat) : List (Nat × α) → Option (List (Nat × α) × α × List (Nat × α))
  | [] => none
  | x :: l => bif x.1 == t then some ([], x.2, l) else (findA t l).bind fun y => some (x :: y.1, y.2)
def giveD (f : St U → Option (SR U)) : List Nat → St U → Option (SR U)
  | [], st => f st
  | t :: l, st => (lookA st.sl t).bind fun v => match v with
    | .vec n wd 0 len => match lookA st.hp n with
      | some (.row E ty xs fx) => (giveD f l ⟨setA st.sl t (.p (.list ty) xs), st.hp.filter fun x => !(x.1 == n)⟩).bind fun r => (findA t r.s.rs).bind fun y =>
          bif (wd == ty.width U.wd && !(nm y.1 ++ nm y.2.2).contains t) && !(nm r.s.ro ++ nm r.s.cb).contains n then
            some ⟨{ r.s with rs := y.1 ++ (t, .vec n (ty.width U.wd) 0 len) :: y.2.2, cb := (n, .row E ty xs fx) :: r.s.cb }, .v y.2.1 :: .n len :: r.L, .v (.p (.list ty) xs) :: .n xs.length :: r.R⟩ else none
      | _ => none
    | _ => none
def stepE (st : St U) (o : Oper) (s : LSpec U) (o' : Oper) : Option (SR U) :=
  (holdS st.sl s.rs).bind fun a => (holdD st.hp (s.ro ++ s.cb)).bind fun b => some ⟨s, .w o' :: (a.1 ++ b.1), .w o :: (a.2 ++ b.2)⟩
def stepF (tb : Tab U) (x : RX U O P ops) (i : Nat) (o : Oper) (st : St U) : Option (SR U) :=
  match lookA x.its i with
  | some (@IT.e _ _ _ _ i' s _) => stepE st o s { opAt ops i' with guard := none }
  | it => (giveD (fun st => stepD tb st (lookA x.kn) o it) ((lookA x.gv i).getD []) st).bind fun r => (thawD ((lookA x.th i).getD []) r).bind fun r => bif x.fz.contains i then frzD r else some r
def runG (t : Nat) (b : Bool) (r : SR U) : SR U := ⟨{ r.s with rs := (t, .p .bool b) :: r.s.rs }, r.L, r.R⟩
def skipG (t : Nat) (b : Bool) : SR U := ⟨{ rs := [(t, .p .bool b)], ws := .tup [] }, [], []⟩
def stepG (tb : Tab U) (x : RX U O P ops) (i : Nat) (o : Oper) (st : St U) : Option (SR U) :=
  match o.guard with
  | none => stepF tb x i o st
  | some (j, want) => ((ops[j]?).bind (·.dst)).bind fun t => (lookA st.sl t).bind fun g => match g with
    | .tup [] => some ⟨{ rs := [(t, .tup [])], ws := .tup [] }, [], []⟩
    | .p .bool b => match lookA x.kn t with
      | some (@IT.t _ _ _ _ b' _) => match want with
        | true => (stepF tb x i { o with guard := none } st).bind fun r => some ⟨(runG t b r).s, .b b :: r.L, .b b' :: r.R⟩
        | false => some ⟨(skipG t b).s, [.b b], [.b b']⟩
      | some (@IT.f _ _ _ _ b' _) => match want with
        | false => (stepF tb x i { o with guard := none } st).bind fun r => some ⟨(runG t b r).s, .b b :: r.L, .b b' :: r.R⟩
        | true => some ⟨(skipG t b).s, [.b b], [.b b']⟩
      | _ => match b, want with
        | true, true => (stepF tb x i { o with guard := none } st).bind fun r => some (runG t true r)
        | false, false => (stepF tb x i { o with guard := none } st).bind fun r => some (runG t false r)
        | true, false => some (skipG t true)
        | false, true => some (skipG t false)
    | _ => none
def regS (tb : Tab U) (x : RX U O P ops) : Nat → List Oper → St U → Option (List (SR U))
  | _, [], _ => some []
  | i, o :: os, st => (stepG tb x i o st).bind fun r => (regS tb x (i + 1) os (st.next r.s o.dst)).bind fun l => some (r :: l)
end

section
variable {U : Univ} {O : Out} {P : Program} {ops : Array Oper} {o : Oper} {tb : Tab U} {st : St U}
theorem splitAt'_eq {α : Type} : ∀ {n : Nat} {l : List α} {y : List α × α × List α}, splitAt' n l = some y → l = y.1 ++ y.2.1 :: y.2.2
  | n, [], _, h => by cases n <;> cases h
  | 0, x :: l, _, h => by cases h; rfl
  | n + 1, x :: l, _, h => by
    obtain ⟨z, hz, h1⟩ := bind_some h
    cases h1
    rw [List.cons_append, ← splitAt'_eq hz]
theorem thaw1_ok {r r' : SR U} {j m : Nat} {E : TypeId} {t : Ty} (h : thaw1 r j m E t = some r') (hs : OkS U O P ops o st r) : OkS U O P ops o st r' ∧ r'.L = r.L ∧ r'.R = r.R := by
  unfold thaw1 at h
  split at h
  · rename_i d us rest hpb
    obtain ⟨y, hy, h1⟩ := bind_some h
    have hus := splitAt'_eq hy
    clear h hy
    split at h1
    · dsimp only at hus
      subst hus
      cases hc : (nm r.s.pb ++ AVal.names U r.s.ws ++ r.s.pb.flatMap (fun x => Blk.names U x.2) ++ nm r.s.cb).contains m with
      | true => rw [hc] at h1; cases h1
      | false =>
        rw [hc, cond_false] at h1
        cases h1
        exact ⟨⟨sok_thawU _ _ _ hs.1 hpb hc, hs.2⟩, rfl, rfl⟩
    · cases h1
  · cases h
theorem thawD_ok : ∀ {l : List (Nat × Nat × TypeId × Ty)} {r r' : SR U}, thawD l r = some r' → OkS U O P ops o st r → OkS U O P ops o st r'
  | [], _, _, h, hs => by cases h; exact hs
  | x :: l, r, r', h, hs => by
    obtain ⟨y, hy, h1⟩ := bind_some h
    exact thawD_ok h1 (thaw1_ok hy hs).1
theorem thaw1_lr {r r' : SR U} {j m : Nat} {E : TypeId} {t : Ty} (h : thaw1 r j m E t = some r') : r'.L = r.L ∧ r'.R = r.R := by
  unfold thaw1 at h
  split at h
  · obtain ⟨y, hy, h1⟩ := bind_some h
    clear h hy
    split at h1
    · revert h1
      cases (nm r.s.pb ++ AVal.names U r.s.ws ++ r.s.pb.flatMap (fun x => Blk.names U x.2) ++ nm r.s.cb).contains m with
      | true => intro h1; cases h1
      | false => intro h1; cases h1; exact ⟨rfl, rfl⟩
    · cases h1
  · cases h
theorem thawD_lr : ∀ {l : List (Nat × Nat × TypeId × Ty)} {r r' : SR U}, thawD l r = some r' → r'.L = r.L ∧ r'.R = r.R
  | [], _, _, h => by cases h; exact ⟨rfl, rfl⟩
  | x :: l, r, r', h => by
    obtain ⟨y, hy, h1⟩ := bind_some h
    obtain ⟨e1, e2⟩ := thawD_lr h1
    obtain ⟨e3, e4⟩ := thaw1_lr hy
    exact ⟨e1.trans e3, e2.trans e4⟩
theorem frzD_ok {r r' : SR U} (h : frzD r = some r') (e : r'.L = r'.R) (hs : r.L = r.R → OkS U O P ops o st r) : OkS U O P ops o st r' := by
  unfold frzD at h
  split at h
  · rename_i hws hpb
    obtain ⟨ha, h1⟩ := bif_some h
    simp only [Bool.and_eq_true] at ha
    have h2 := beqN ha.1.1
    have h3 := beqN ha.1.2
    have h4 := of_decide_eq_true ha.2
    subst h2 h3
    cases h1
    simp only [List.cons.injEq, Ob.n.injEq] at e
    have hs := hs e.2
    exact ⟨sok_freezeW hs.1 hws e.1 hpb h4, hs.2⟩
  · cases h
theorem findA_eq {α : Type} {t : Nat} : ∀ {l : List (Nat × α)} {y : List (Nat × α) × α × List (Nat × α)}, findA t l = some y → l = y.1 ++ (t, y.2.1) :: y.2.2
  | [], _, h => by cases h
  | x :: l, y, h => by
    unfold findA at h
    cases hx : x.1 == t with
    | true => rw [hx, cond_true] at h; cases h; have := beqN hx; subst this; rfl
    | false =>
      rw [hx, cond_false] at h
      obtain ⟨z, hz, h1⟩ := bind_some h
      cases h1
      rw [List.cons_append, ← findA_eq hz]
theorem giveD_ok {f : St U → Option (SR U)} (hf : ∀ st r, f st = some r → r.L = r.R → OkS U O P ops o st r) : ∀ {l : List Nat} {st : St U} {r : SR U}, giveD f l st = some r → r.L = r.R → OkS U O P ops o st r
  | [], st, r, h, e => hf st r h e
  | t :: l, st, r, h, e => by
    unfold giveD at h
    obtain ⟨v, hv, h1⟩ := bind_some h
    clear h
    split at h1
    · split at h1
      · rename_i hb
        obtain ⟨q, hq, h2⟩ := bind_some h1
        obtain ⟨y, hy, h3⟩ := bind_some h2
        obtain ⟨ha, h4⟩ := bif_some h3
        simp only [Bool.and_eq_true] at ha
        have h5 := beqN ha.1.1
        have h6 : (nm y.1 ++ nm y.2.2).contains t = false := by simpa using ha.1.2
        have h7 := ha.2
        rw [Bool.not_eq_true'] at h7
        subst h5
        cases h4
        simp only [List.cons.injEq, Ob.v.injEq, Ob.n.injEq] at e
        obtain ⟨e1, e2, e3⟩ := e
        obtain ⟨g1, g2, g3⟩ := giveD_ok hf hq e3
        have hrs := findA_eq hy
        rw [e1] at hrs
        refine ⟨sok_give _ _ g1 hrs e2 h7, fun x hx => ?_, fun x hx => ?_⟩
        · have hne : ∀ x ∈ y.1 ++ y.2.2, x.1 ≠ t := fun x hx e => by
            have h8 : t ∈ nm y.1 ++ nm y.2.2 := by
              rw [← e]
              rcases List.mem_append.1 hx with h | h
              · exact List.mem_append.2 (.inl (mem_nm h))
              · exact List.mem_append.2 (.inr (mem_nm h))
            exact (by simpa using h6 : t ∉ nm y.1 ++ nm y.2.2) h8
          have hold : ∀ x ∈ y.1 ++ y.2.2, x ∈ st.sl := fun x hx => by
            have h8 : x ∈ q.s.rs := by
              rw [hrs]
              rcases List.mem_append.1 hx with h | h
              · exact List.mem_append.2 (.inl h)
              · exact List.mem_append.2 (.inr (.tail _ h))
            rcases mem_setA (g2 x h8) with h9 | h9
            · exact absurd (by rw [h9]) (hne x hx)
            · exact h9.1
          rcases List.mem_append.1 hx with h | h
          · exact hold x (List.mem_append.2 (.inl h))
          · rcases List.mem_cons.1 h with rfl | h
            · exact lookA_mem hv
            · exact hold x (List.mem_append.2 (.inr h))
        · have hin : ∀ x ∈ q.s.ro ++ q.s.cb, x ∈ st.hp := fun x hx => (List.mem_filter.1 (g3 x hx)).1
          rcases List.mem_append.1 hx with h | h
          · exact hin x (List.mem_append.2 (.inl h))
          · rcases List.mem_cons.1 h with rfl | h
            · exact lookA_mem hb
            · exact hin x (List.mem_append.2 (.inr h))
      · cases h1
    · cases h1
theorem stepF_ok (htb : TbOk P U tb) {x : RX U O P ops} {i : Nat} {r : SR U} (hg : o.guard = none) (h : stepF tb x i o st = some r) (e : r.L = r.R) : OkS U O P ops o st r := by
  unfold stepF at h
  split at h
  · rename_i i' s hs _
    unfold stepE at h
    obtain ⟨a, ha, h1⟩ := bind_some h
    obtain ⟨b, hb, h2⟩ := bind_some h1
    cases h2
    simp only [List.cons.injEq, Ob.w.injEq] at e
    obtain ⟨e0, e⟩ := e
    subst e0
    obtain ⟨e1, e2⟩ := app_inj e (holdS_len ha)
    exact ⟨hs, holdS_ok ha e1, holdD_ok hb e2⟩
  · obtain ⟨r1, h1, h2⟩ := bind_some h
    obtain ⟨r2, h3, h4⟩ := bind_some h2
    have key : r2.L = r2.R → OkS U O P ops o st r2 := fun e2 => by
      obtain ⟨e3, e4⟩ := thawD_lr h3
      exact thawD_ok h3 (giveD_ok (fun st r hr he => stepD_ok htb hg hr he) h1 (by rw [← e3, ← e4, e2]))
    cases hz : x.fz.contains i with
    | true => rw [hz, cond_true] at h4; exact frzD_ok h4 e key
    | false => rw [hz, cond_false] at h4; cases h4; exact key e
theorem one_sl {α : Type} {y : α} {l : List α} (h : y ∈ l) : ∀ x ∈ [y], x ∈ l := fun x hx => by
  rcases List.mem_cons.1 hx with rfl | hx
  · exact h
  · cases hx
theorem run_ok {t j : Nat} {b want : Bool} {r : SR U} (hg : o.guard = some (j, want)) (hd : (ops[j]?).bind (·.dst) = some t) (hb : b = want) (hl : lookA st.sl t = some (.p .bool b)) (h : OkS U O P ops { o with guard := none } st r) : OkS U O P ops o st (runG t b r) :=
  ⟨sok_run hg hd hb h.1, fun x hx => by rcases List.mem_cons.1 hx with rfl | hx; exact lookA_mem hl; exact h.2.1 x hx, h.2.2⟩
theorem skip_ok {t j : Nat} {b want : Bool} (hg : o.guard = some (j, want)) (hd : (ops[j]?).bind (·.dst) = some t) (hb : b = !want) (hl : lookA st.sl t = some (.p .bool b)) : OkS U O P ops o st (skipG t b) :=
  ⟨sok_skip hg hd hb, one_sl (lookA_mem hl), none_in _⟩
theorem stepG_ok (htb : TbOk P U tb) {x : RX U O P ops} {i : Nat} {r : SR U} (h : stepG tb x i o st = some r) (e : r.L = r.R) : OkS U O P ops o st r := by
  unfold stepG at h
  split at h
  · rename_i hg; exact stepF_ok htb hg h e
  · rename_i j want hg
    obtain ⟨t, ht, h1⟩ := bind_some h
    obtain ⟨g, hgv, h2⟩ := bind_some h1
    clear h h1
    split at h2
    · cases h2
      exact ⟨sok_skipU hg ht, one_sl (lookA_mem hgv), none_in _⟩
    · split at h2
      · rename_i b' hb' _
        split at h2
        · obtain ⟨q, hq, h3⟩ := bind_some h2
          cases h3
          obtain ⟨e1, e2⟩ := List.cons.inj e
          replace e1 := Ob.b.inj e1
          exact run_ok hg ht (e1.trans hb') hgv (stepF_ok htb rfl hq e2)
        · cases h2
          exact skip_ok hg ht ((Ob.b.inj (List.cons.inj e).1).trans hb') hgv
      · rename_i b' hb' _
        split at h2
        · obtain ⟨q, hq, h3⟩ := bind_some h2
          cases h3
          obtain ⟨e1, e2⟩ := List.cons.inj e
          replace e1 := Ob.b.inj e1
          exact run_ok hg ht (e1.trans hb') hgv (stepF_ok htb rfl hq e2)
        · cases h2
          exact skip_ok hg ht ((Ob.b.inj (List.cons.inj e).1).trans hb') hgv
      · split at h2
        · obtain ⟨q, hq, h3⟩ := bind_some h2
          cases h3
          exact run_ok hg ht rfl hgv (stepF_ok htb rfl hq e)
        · obtain ⟨q, hq, h3⟩ := bind_some h2
          cases h3
          exact run_ok hg ht rfl hgv (stepF_ok htb rfl hq e)
        · cases h2; exact skip_ok hg ht rfl hgv
        · cases h2; exact skip_ok hg ht rfl hgv
    · cases h2
def sameL : List (SR U) → List (Nat × List (Ob U))
  | [] => []
  | r :: l => (0, r.L) :: sameL l
def sameR : List (SR U) → List (Nat × List (Ob U))
  | [] => []
  | r :: l => (0, r.R) :: sameR l
theorem same_all : ∀ {l : List (SR U)}, sameL l = sameR l → ∀ r ∈ l, r.L = r.R
  | [], _, _, h => by cases h
  | r :: l, h, x, hx => by
    simp only [sameL, sameR, List.cons.injEq, Prod.mk.injEq, true_and] at h
    rcases List.mem_cons.1 hx with rfl | hx
    · exact h.1
    · exact same_all h.2 x hx
theorem regS_ok (htb : TbOk P U tb) {x : RX U O P ops} : ∀ {os : List Oper} {i : Nat} {st : St U} {l : List (SR U)}, regS tb x i os st = some l → (∀ r ∈ l, r.L = r.R) →
    OkL U O P ops os (l.map (·.s)) ∧ ∀ k y, (os.zip (l.map (·.s)))[k]? = some y → (∀ z ∈ y.2.rs, z ∈ (runS ((os.zip (l.map (·.s))).take k) st).sl) ∧ ∀ z ∈ y.2.ro ++ y.2.cb, z ∈ (runS ((os.zip (l.map (·.s))).take k) st).hp
  | [], i, st, l, h, e => by cases h; exact ⟨.nil, fun k y h => by cases h⟩
  | o :: os, i, st, l, h, e => by
    obtain ⟨r, hr, h1⟩ := bind_some h
    obtain ⟨l', hl', h2⟩ := bind_some h1
    cases h2
    have g := stepG_ok htb hr (e r (.head _))
    obtain ⟨g1, g2⟩ := regS_ok htb hl' fun r hr => e r (.tail _ hr)
    refine ⟨.cons g.1 g1, fun k y hy => ?_⟩
    cases k with
    | zero =>
      simp only [List.map_cons, List.zip_cons_cons, List.getElem?_cons_zero, Option.some.injEq] at hy
      subst hy
      exact ⟨g.2.1, g.2.2⟩
    | succ k =>
      simp only [List.map_cons, List.zip_cons_cons, List.getElem?_cons_succ] at hy
      exact g2 k y hy


variable {B : Base}
def specsS (tb : Tab U) (x : RX U O P ops) (st : St U) : Option (List (SR U)) := regS tb x 0 ops.toList st
def okS (tb : Tab U) (x : RX U O P ops) (st : St U) (N : Nat) : Bool :=
  match specsS tb x st with
  | some l => statOk (ops.toList.zip (l.map (·.s))) st.names N
  | none => false
def obL (tb : Tab U) (x : RX U O P ops) (st : St U) : List (Nat × List (Ob U)) := match specsS tb x st with | some l => sameL l | none => []
def obR (tb : Tab U) (x : RX U O P ops) (st : St U) : List (Nat × List (Ob U)) := match specsS tb x st with | some l => sameR l | none => []
def nxS (tb : Tab U) (x : RX U O P ops) (st : St U) (ts ns : List Nat) : St U :=
  match specsS tb x st with
  | some l => (runS (ops.toList.zip (l.map (·.s))) st).keep ts ns
  | none => st
def ddN : List Nat → List Nat → List Nat
  | [], acc => acc
  | x :: l, acc => ddN l (bif acc.contains x then acc else x :: acc)
def ancs : List Oper → List (List Nat) → List (List Nat)
  | [], acc => acc
  | o :: l, acc =>
    let e := (o.after.toList.filter fun e => Region.binds .any e).map (·.on)
    ancs l (acc ++ [ddN (e ++ e.flatMap fun k => acc.getD k []) []])
def raS (tb : Tab U) (x : RX U O P ops) (st : St U) : Bool :=
  match specsS tb x st with
  | some l => ancOk ops.toList (ancs ops.toList []) && raceFree (ops.toList.zip (l.map (·.s))) (ancs ops.toList [])
  | none => false
theorem runs_S (htb : TbOk P U tb) {x : RX U O P ops} {N : Nat} (h1 : okS tb x st N = true) (h2 : obL tb x st = obR tb x st) : ∃ l, specsS tb x st = some l ∧ Runs U O P ops N st (ops.toList.zip (l.map (·.s))) := by
  unfold okS at h1
  unfold obL obR at h2
  cases h : specsS tb x st with
  | none => rw [h] at h1; cases h1
  | some l =>
    rw [h] at h1 h2
    obtain ⟨g1, g2⟩ := regS_ok htb h (same_all h2)
    exact ⟨l, rfl, runs_of' g1 g2 h1⟩
theorem WpC.rS {id N : Nat} {st' : St U} {Q : PostQ U} (htb : TbOk P U tb) (x : RX U O P ops) (ts ns : List Nat) (hN : B.n = N) (h1 : okS tb x st N = true) (h2 : obL tb x st = obR tb x st) (h3 : nxS tb x st ts ns = st') {st2 : St U} (hcv : Conv U O st' st2) (hQ : Q .normal st2) :
    WpC U O P B (.region id ops false) st Q := by
  obtain ⟨l, hl, hR⟩ := runs_S htb h1 h2
  unfold nxS at h3
  rw [hl] at h3
  intro S ι a w hRel
  refine wp_region_list ?_
  have hC := Runs.chain (N := N) hR.ok hR.fit hR.dst
  rw [hR.len] at hC
  subst hN
  exact hC.wp (fun S ι a w hR' => ⟨st2, hQ, hcv B S ι a w (h3 ▸ hR'.weak (St.keep_le _ ts ns))⟩) hRel
theorem WpC.rA {id N : Nat} {st' : St U} {Q : PostQ U} (htb : TbOk P U tb) (hm : P.follows .mixedOrders = true) (x : RX U O P ops) (ts ns : List Nat) (hN : B.n = N) (h1 : okS tb x st N = true) (h2 : obL tb x st = obR tb x st) (h4 : raS tb x st = true)
    (h3 : nxS tb x st ts ns = st') {st2 : St U} (hcv : Conv U O st' st2) (hQ : Q .normal st2) : WpC U O P B (.region id ops true) st Q := by
  obtain ⟨l, hl, hR⟩ := runs_S htb h1 h2
  unfold nxS at h3
  unfold raS at h4
  rw [hl] at h3 h4
  rw [Bool.and_eq_true] at h4
  subst hN
  intro S ι a w hRel
  have h := WpC.regionAny (Q := fun e s => e = .normal ∧ s = runS (ops.toList.zip (l.map (·.s))) st) (id := id) _ hm hR h4.1 h4.2 ⟨rfl, rfl⟩ S ι a w hRel
  exact wp_mono h fun e a w ⟨s, ⟨h5, h6⟩, S, ι, hR'⟩ => by subst h5 h6; exact ⟨st2, hQ, hcv B S ι a w (h3 ▸ hR'.weak (St.keep_le _ ts ns))⟩
end
end Go.AM
namespace Go.AM

inductive CV (U : Univ) (O : Out) where
  | k (ts ns : List Nat)
  | nL (t : Nat) (ty : Ty)
  | nE (t : Nat)
  | th (t n : Nat) (E : TypeId) (ty : Ty)
  | rn (n m : Nat)
  | fz (t : Nat)
  | fh (t : Nat) {l l' : Nat} (h : l = l')
  | fu (n j : Nat)
  | uh (n j : Nat) {l l' : Nat} (h : l = l')
  | lo (n : Nat)
  | s0 (n : Nat)
  | sN (n m : Nat)
  | oN (m : Nat) (B : Blk U)
  | oZ (t m : Nat)
  | oL (t : Nat)
  | oB (n : Nat)
  | oS (t : Nat) {q : Bool} (h : q = true)
  | oK (n : Nat) {q : Bool} (h : q = true)
  | it (d : Nat)
  | cm (n : Nat) {t : Ty} {ys kvs : List (List UInt8 × t.den U.T)} (h : ys.Perm kvs) (hr : Rising kvs)
  | fp (t : Nat) (ty : Ty)
  | fq (t : Nat) (ty : Ty)
  | x {a b : St U} (h : Conv U O a b)

inductive OC (U : Univ) where
  | n (a : Nat)
  | b (a : Bool)
  | y (t : Ty) (ys kvs : List (List UInt8 × t.den U.T))
  | s (a : St U)

section
variable {U : Univ} {O : Out}
def freeB (hp : List (Nat × Blk U)) (n : Nat) : Bool := hp.all fun x => !(Blk.names U x.2).contains n
def frzS (st : St U) (t : Nat) (l : Option (Nat × Nat)) : Option (St U × List (OC U) × List (OC U)) :=
  (lookA st.sl t).bind fun v => match v with
    | .vec n wd 0 len => match lookA st.hp n with
      | some (.row _ ty xs _) => bif wd == ty.width U.wd && freeB st.hp n then some (⟨setA st.sl t (.p (.list ty) xs), st.hp.filter fun x => !(x.1 == n)⟩, (match l with | none => [.n len] | some l => [.n l.1, .n l.2]), (match l with | none => [.n xs.length] | some _ => [.n len, .n xs.length])) else none
      | _ => none
    | _ => none
def frzU (st : St U) (n j : Nat) (l : Option (Nat × Nat)) : Option (St U × List (OC U) × List (OC U)) :=
  match lookA st.hp n with
  | some (.box us) => (splitAt' j us).bind fun y => match y with
    | (pre, .vec m wd 0 len, post) => match lookA st.hp m with
      | some (.row _ ty xs _) => bif (wd == ty.width U.wd) && !(n == m) then some (⟨st.sl, (setA st.hp n (.box (pre ++ .p (.list ty) xs :: post))).filter fun x => !(x.1 == m)⟩, (match l with | none => [.n len] | some l => [.n l.1, .n l.2]), (match l with | none => [.n xs.length] | some _ => [.n len, .n xs.length])) else none
      | _ => none
    | _ => none
  | _ => none
def cv1 (st : St U) : CV U O → Option (St U × List (OC U) × List (OC U))
  | .k ts ns => some (st.keep ts ns, [], [])
  | .nL t ty => (lookA st.sl t).bind fun v => match v with
    | .lit (.slice none 0 0) => some (⟨setA st.sl t (.p (.list ty) ([] : List (ty.den U.T))), st.hp⟩, [], [])
    | _ => none
  | .nE t => (lookA st.sl t).bind fun v => match v with
    | .lit .nilIface => some (⟨setA st.sl t (.p .err (0 : Nat)), st.hp⟩, [], [])
    | _ => none
  | .th t n E ty => (lookA st.sl t).bind fun v => match v with
    | .lit (.slice none 0 0) => bif !st.names.contains n && Nat.blt n K0 then some (⟨setA st.sl t (.vec n (ty.width U.wd) 0 0), (n, .row E ty [] false) :: st.hp⟩, [], []) else none
    | _ => none
  | .rn n m => bif !st.names.contains m && Nat.blt m K0 then some (⟨st.sl.map fun x => (x.1, x.2.ren (swap1 n m)), st.hp.map fun x => (swap1 n m x.1, x.2.ren (swap1 n m))⟩, [], []) else none
  | .fz t => frzS st t none
  | @CV.fh _ _ t l l' _ => frzS st t (some (l, l'))
  | .fu n j => frzU st n j none
  | @CV.uh _ _ n j l l' _ => frzU st n j (some (l, l'))
  | .lo n => match lookA st.hp n with
    | some (.row E ty xs true) => some (⟨st.sl, setA st.hp n (.row E ty xs false)⟩, [], [])
    | _ => none
  | .s0 n => match lookA st.hp n with
    | some (.row E ty _ _) => some (⟨st.sl, setA st.hp n (.row E ty ([] : List (ty.den U.T)) false)⟩, [], [])
    | _ => none
  | .sN n m => match lookA st.hp n with
    | some (.row E ty xs _) => some (⟨st.sl, setA st.hp n (.row E ty (xs.take m) false)⟩, [], [])
    | _ => none
  | .oN m B => bif !st.names.contains m && Nat.blt m K0 then some (⟨st.sl, (m, .opt false B) :: st.hp⟩, [], []) else none
  | .oZ t m => (lookA st.sl t).bind fun v => match v with
    | .lit (.pointer none) => some (⟨setA st.sl t (.opt false m), st.hp⟩, [], [])
    | _ => none
  | .oL t => (lookA st.sl t).bind fun v => match v with
    | .loc n 0 => some (⟨setA st.sl t (.opt true n), st.hp⟩, [], [])
    | _ => none
  | .oB n => (lookA st.hp n).bind fun B => some (⟨st.sl, setA st.hp n (.opt true B)⟩, [], [])
  | @CV.oS _ _ t q _ => (lookA st.sl t).bind fun v => match v with
    | .opt q' n => some (⟨setA st.sl t (.loc n 0), st.hp⟩, [.b q'], [.b q])
    | _ => none
  | @CV.oK _ _ n q _ => match lookA st.hp n with
    | some (.opt q' B) => some (⟨st.sl, setA st.hp n B⟩, [.b q'], [.b q])
    | _ => none
  | .it d => match lookA st.hp d with
    | some (.iter m t es clock ys left _) => some (⟨st.sl, setA st.hp d (.iter m t es clock ys left none)⟩, [], [])
    | _ => none
  | @CV.cm _ _ n t ys kvs _ _ => match lookA st.hp n with
    | some (.mapE t' _ _ ys') => some (⟨st.sl, setA st.hp n (.map t kvs)⟩, [.y t' ys' ys'], [.y t ys ys])
    | _ => none
  | .fp t ty => (lookA st.sl t).bind fun v => match v with
    | .loc n 0 => match lookA st.hp n with
      | some (.box us) => match implD U 32 ty us with
        | some (x, []) => bif freeB st.hp n then some (⟨setA st.sl t (.p (.ptr ty) (some x : Option (ty.den U.T))), st.hp.filter fun x => !(x.1 == n)⟩, [], []) else none
        | _ => none
      | _ => none
    | _ => none
  | .fq t ty => (lookA st.sl t).bind fun v => match v with
    | .loc n 0 => match lookA st.hp n with
      | some (.box us) => match implD U 32 ty us with
        | some (x, []) => bif freeB st.hp n then some (⟨setA st.sl t (.pp ty x), st.hp.filter fun x => !(x.1 == n)⟩, [], []) else none
        | _ => none
      | _ => none
    | _ => none
  | @CV.x _ _ a b _ => some (b, [.s st], [.s a])
def cvS : List (CV U O) → St U → Option (St U × List (OC U) × List (OC U))
  | [], st => some (st, [], [])
  | c :: l, st => (cv1 st c).bind fun r => (cvS l r.1).bind fun q => some (q.1, r.2.1 ++ q.2.1, r.2.2 ++ q.2.2)
def cvN (l : List (CV U O)) (st : St U) : St U := match cvS l st with | some r => r.1 | none => st
def cvOk (l : List (CV U O)) (st : St U) : Bool := (cvS l st).isSome
def cvL (l : List (CV U O)) (st : St U) : List (OC U) := match cvS l st with | some r => r.2.1 | none => []
def cvR (l : List (CV U O)) (st : St U) : List (OC U) := match cvS l st with | some r => r.2.2 | none => []

theorem freeB_ok {hp : List (Nat × Blk U)} {n : Nat} (h : freeB hp n = true) : ∀ x ∈ hp, n ∉ Blk.names U x.2 := fun x hx hn => by
  have := List.all_eq_true.1 h x hx
  simp only [Bool.not_eq_true', List.contains_eq_mem, decide_eq_false_iff_not] at this
  exact this hn
theorem fresh_ok {st : St U} {n : Nat} (h : (!st.names.contains n && Nat.blt n K0) = true) : st.names.contains n = false ∧ n < K0 := by
  rw [Bool.and_eq_true] at h
  exact ⟨by simpa using h.1, Nat.le_of_ble_eq_true h.2⟩
theorem frzS_ok {st : St U} {t : Nat} {l : Option (Nat × Nat)} {r : St U × List (OC U) × List (OC U)} (h : frzS st t l = some r) (hl : ∀ x, l = some x → x.1 = x.2) (e : r.2.1 = r.2.2) : Conv U O st r.1 := by
  unfold frzS at h
  obtain ⟨v, hv, h1⟩ := bind_some h
  clear h
  split at h1
  · split at h1
    · rename_i hb
      obtain ⟨ha, h2⟩ := bif_some h1
      rw [Bool.and_eq_true] at ha
      have hw := beqN ha.1
      subst hw
      cases h2
      refine Conv.freeze t _ _ _ _ _ _ (lookA_mem hv) ?_ (lookA_mem hb) (freeB_ok ha.2)
      cases l with
      | none => simp only [List.cons.injEq, OC.n.injEq, and_true] at e; exact e
      | some l =>
        simp only [List.cons.injEq, OC.n.injEq, and_true] at e
        rw [← e.1, hl l rfl, e.2]
    · cases h1
  · cases h1
theorem frzU_ok {st : St U} {n j : Nat} {l : Option (Nat × Nat)} {r : St U × List (OC U) × List (OC U)} (h : frzU st n j l = some r) (hl : ∀ x, l = some x → x.1 = x.2) (e : r.2.1 = r.2.2) : Conv U O st r.1 := by
  unfold frzU at h
  split at h
  · rename_i us hb
    obtain ⟨y, hy, h1⟩ := bind_some h
    have hus := splitAt'_eq hy
    clear h hy
    split at h1
    · dsimp only at hus
      subst hus
      split at h1
      · rename_i hm
        obtain ⟨ha, h2⟩ := bif_some h1
        rw [Bool.and_eq_true] at ha
        have hw := beqN ha.1
        subst hw
        cases h2
        refine Conv.freezeU _ _ _ _ _ _ _ _ _ (lookA_mem hb) ?_ (lookA_mem hm) (by simpa using ha.2)
        cases l with
        | none => simp only [List.cons.injEq, OC.n.injEq, and_true] at e; exact e
        | some l =>
          simp only [List.cons.injEq, OC.n.injEq, and_true] at e
          rw [← e.1, hl l rfl, e.2]
      · cases h1
    · cases h1
  · cases h
theorem cv1_ok {st : St U} {c : CV U O} {r : St U × List (OC U) × List (OC U)} (h : cv1 st c = some r) (e : r.2.1 = r.2.2) : Conv U O st r.1 := by
  cases c with
  | k ts ns => cases h; exact Conv.keep ts ns rfl
  | nL t ty =>
    obtain ⟨v, hv, h1⟩ := bind_some h
    split at h1
    · cases h1; exact Conv.nilL t ty (lookA_mem hv)
    · cases h1
  | nE t =>
    obtain ⟨v, hv, h1⟩ := bind_some h
    split at h1
    · cases h1; exact Conv.nilE t (lookA_mem hv)
    · cases h1
  | th t n E ty =>
    obtain ⟨v, hv, h1⟩ := bind_some h
    split at h1
    · obtain ⟨ha, h2⟩ := bif_some h1
      cases h2; obtain ⟨h3, h4⟩ := fresh_ok ha; exact Conv.thaw t n E ty (lookA_mem hv) h3 h4
    · cases h1
  | rn n m =>
    obtain ⟨ha, h2⟩ := bif_some h
    cases h2; obtain ⟨h3, h4⟩ := fresh_ok ha; exact Conv.ren n m h4 h3 rfl rfl
  | fz t => exact frzS_ok (t := t) (l := none) h (fun _ h => by cases h) e
  | @fh t l l' h' => exact frzS_ok (t := t) (l := some (l, l')) h (fun _ h => by cases h; exact h') e
  | fu n j => exact frzU_ok (n := n) (j := j) (l := none) h (fun _ h => by cases h) e
  | @uh n j l l' h' => exact frzU_ok (n := n) (j := j) (l := some (l, l')) h (fun _ h => by cases h; exact h') e
  | lo n =>
    dsimp only [cv1] at h
    split at h
    · cases h; exact Conv.loose _ _ _ _ (lookA_mem (by assumption))
    · cases h
  | s0 n =>
    dsimp only [cv1] at h
    split at h
    · cases h; exact Conv.shrink0 _ _ _ _ _ (lookA_mem (by assumption))
    · cases h
  | sN n m =>
    dsimp only [cv1] at h
    split at h
    · cases h; exact Conv.shrinkN _ _ _ _ _ _ (lookA_mem (by assumption))
    · cases h
  | oN m B =>
    obtain ⟨ha, h2⟩ := bif_some h
    cases h2; obtain ⟨h3, h4⟩ := fresh_ok ha; exact Conv.optNew m B h3 h4
  | oZ t m =>
    obtain ⟨v, hv, h1⟩ := bind_some h
    split at h1
    · cases h1; exact Conv.optNil t m (lookA_mem hv)
    · cases h1
  | oL t =>
    obtain ⟨v, hv, h1⟩ := bind_some h
    split at h1
    · cases h1; exact Conv.optLoc t _ (lookA_mem hv)
    · cases h1
  | oB n =>
    obtain ⟨v, hv, h1⟩ := bind_some h
    cases h1; exact Conv.optBlk n _ (lookA_mem hv)
  | oS t hq =>
    obtain ⟨v, hv, h1⟩ := bind_some h
    split at h1
    · cases h1
      simp only [List.cons.injEq, OC.b.injEq, and_true] at e
      exact Conv.openS t _ (e.trans hq) (lookA_mem hv)
    · cases h1
  | oK n hq =>
    dsimp only [cv1] at h
    split at h
    · cases h
      simp only [List.cons.injEq, OC.b.injEq, and_true] at e
      exact Conv.openB n _ (e.trans hq) (lookA_mem (by assumption))
    · cases h
  | it d =>
    dsimp only [cv1] at h
    split at h
    · cases h; exact Conv.iterRest (lookA_mem (by assumption))
    · cases h
  | cm n hp hr =>
    dsimp only [cv1] at h
    split at h
    · rename_i hb
      cases h
      simp only [List.cons.injEq, and_true] at e
      cases e
      exact Conv.closeMap (lookA_mem hb) hp hr
    · cases h
  | fp t ty =>
    obtain ⟨v, hv, h1⟩ := bind_some h
    split at h1
    · split at h1
      · rename_i hb
        split at h1
        · rename_i hi
          obtain ⟨ha, h2⟩ := bif_some h1
          cases h2
          obtain ⟨m, e1, g⟩ := implD_ok _ hi
          rw [List.append_nil] at e1
          exact Conv.freezeP t _ ty _ _ (lookA_mem hv) (e1 ▸ g) (lookA_mem hb) (freeB_ok ha)
        · cases h1
      · cases h1
    · cases h1
  | fq t ty =>
    obtain ⟨v, hv, h1⟩ := bind_some h
    split at h1
    · split at h1
      · rename_i hb
        split at h1
        · rename_i hi
          obtain ⟨ha, h2⟩ := bif_some h1
          cases h2
          obtain ⟨m, e1, g⟩ := implD_ok _ hi
          rw [List.append_nil] at e1
          exact Conv.freezeQ t _ ty _ _ (lookA_mem hv) (e1 ▸ g) (lookA_mem hb) (freeB_ok ha)
        · cases h1
      · cases h1
    · cases h1
  | x hc =>
    cases h
    simp only [List.cons.injEq, OC.s.injEq, and_true] at e
    exact e ▸ hc
theorem cv1_len {st : St U} {c : CV U O} {r : St U × List (OC U) × List (OC U)} (h : cv1 st c = some r) : r.2.1.length = r.2.2.length := by
  have f1 : ∀ {t l r}, frzS st t l = some r → r.2.1.length = r.2.2.length := fun {t l r} h => by
    unfold frzS at h
    obtain ⟨v, hv, h1⟩ := bind_some h
    split at h1
    · split at h1
      · obtain ⟨ha, h2⟩ := bif_some h1
        cases h2; cases l <;> rfl
      · cases h1
    · cases h1
  have f2 : ∀ {n j l r}, frzU st n j l = some r → r.2.1.length = r.2.2.length := fun {n j l r} h => by
    unfold frzU at h
    split at h
    · obtain ⟨y, hy, h1⟩ := bind_some h
      split at h1
      · split at h1
        · obtain ⟨ha, h2⟩ := bif_some h1
          cases h2; cases l <;> rfl
        · cases h1
      · cases h1
    · cases h
  cases c with
  | fz t => exact f1 (t := t) (l := none) h
  | @fh t l l' h' => exact f1 (t := t) (l := some (l, l')) h
  | fu n j => exact f2 (n := n) (j := j) (l := none) h
  | @uh n j l l' h' => exact f2 (n := n) (j := j) (l := some (l, l')) h
  | k | x => cases h; rfl
  | rn | oN => obtain ⟨ha, h2⟩ := bif_some h; cases h2; rfl
  | oB => obtain ⟨v, hv, h1⟩ := bind_some h; cases h1; rfl
  | lo | s0 | sN | oK | it | cm =>
    dsimp only [cv1] at h
    split at h
    · cases h; rfl
    · cases h
  | th =>
    obtain ⟨v, hv, h1⟩ := bind_some h
    split at h1
    · obtain ⟨ha, h2⟩ := bif_some h1; cases h2; rfl
    · cases h1
  | fp | fq =>
    obtain ⟨v, hv, h1⟩ := bind_some h
    split at h1
    · split at h1
      · split at h1
        · obtain ⟨ha, h2⟩ := bif_some h1; cases h2; rfl
        · cases h1
      · cases h1
    · cases h1
  | _ =>
    obtain ⟨v, hv, h1⟩ := bind_some h
    split at h1
    · cases h1; rfl
    · cases h1
theorem cvS_ok : ∀ {l : List (CV U O)} {st : St U} {r : St U × List (OC U) × List (OC U)}, cvS l st = some r → r.2.1 = r.2.2 → Conv U O st r.1
  | [], st, r, h, _ => by cases h; exact Conv.refl _
  | c :: l, st, r, h, e => by
    obtain ⟨r1, h1, h2⟩ := bind_some h
    obtain ⟨q, h3, h4⟩ := bind_some h2
    cases h4
    obtain ⟨e1, e2⟩ := app_inj e (cv1_len h1)
    exact (cv1_ok h1 e1).trans (cvS_ok (r := q) h3 e2)
theorem Conv.S {l : List (CV U O)} {st : St U} (h1 : cvOk l st = true) (h2 : cvL l st = cvR l st) : Conv U O st (cvN l st) := by
  unfold cvOk at h1
  unfold cvL cvR at h2
  unfold cvN
  cases h : cvS l st with
  | none => rw [h] at h1; cases h1
  | some r => rw [h] at h2; exact cvS_ok h h2

variable {P : Program} {B : Base}
theorem WpC.cS {c : Code} {st : St U} {Q : PostQ U} (l : List (CV U O)) (h1 : cvOk l st = true) (h2 : cvL l st = cvR l st) (hc : WpC U O P B c (cvN l st) Q) : WpC U O P B c st Q := .conv (.S h1 h2) hc
theorem WpC.tS {t : Nat} {b : Bool} {c d : Code} {st : St U} {Q : PostQ U} (hx : lookA st.sl t = some (.p .bool b)) (h1 : b = true → WpC U O P B c st Q) (h2 : b = false → WpC U O P B d st Q) : WpC U O P B (.cond (.tmp t) c d) st Q :=
  .cond (.tmp (lookA_mem hx)) h1 h2
theorem WpC.st {c : Code} {st st' : St U} {Q : PostQ U} (h : st = st') (hc : WpC U O P B c st' Q) : WpC U O P B c st Q := h ▸ hc
def resD (tb : Tab U) (st : St U) : List ResultVar → Option (List (AVal U))
  | [] => some []
  | .tmp t :: l => (lookA st.sl t).bind fun v => (resD tb st l).bind fun vs => some (v :: vs)
  | .cell b T :: l => (lookA st.sl b).bind fun v => match v with
    | .loc n off => match lookA st.hp n with
      | some (.box us) => (lookA tb.ty T).bind fun t => ((cutU U us off).bind fun x => (cutU U x.2 (t.width U.wd)).bind fun y => some (x.1, y.1, y.2)).bind fun c => bif allU c.1 && allU c.2.1 then (madeD t c.2.1).bind fun v => (resD tb st l).bind fun vs => some (v :: vs) else none
      | _ => none
    | _ => none
theorem resD_ok {tb : Tab U} (htb : TbOk P U tb) {st : St U} : ∀ {l : List ResultVar} {vs : List (AVal U)}, resD tb st l = some vs → ResL U P st l vs
  | [], _, h => by cases h; exact .nil
  | .tmp t :: l, _, h => by
    obtain ⟨v, hv, h1⟩ := bind_some h
    obtain ⟨vs, hvs, h2⟩ := bind_some h1
    cases h2; exact .tmp (lookA_mem hv) (resD_ok htb hvs)
  | .cell b T :: l, _, h => by
    obtain ⟨v, hv, h1⟩ := bind_some h
    split at h1
    · split at h1
      · rename_i us hb
        obtain ⟨t, ht, h2⟩ := bind_some h1
        obtain ⟨⟨pre, mid, post⟩, hc, h3⟩ := bind_some h2
        obtain ⟨ha, h4⟩ := bif_some h3
        obtain ⟨v, hv', h5⟩ := bind_some h4
        obtain ⟨vs, hvs, h6⟩ := bind_some h5
        rw [Bool.and_eq_true] at ha
        obtain ⟨e1, e2, e3⟩ := cut2_ok hc
        cases h6
        exact .cell pre mid post (lookA_mem hv) (e1 ▸ lookA_mem hb) ha.1 e2 ha.2 e3 (htb.ty' ht) (madeD_ok hv') (resD_ok htb hvs)
      · cases h1
    · cases h1
theorem holdM : ∀ {l hp : List (Nat × Blk U)}, (l.map fun x => lookA hp x.1) = (l.map fun x => some x.2) → ∀ x ∈ l, x ∈ hp
  | [], _, _, _, h => by cases h
  | y :: l, hp, h, x, hx => by
    simp only [List.map_cons, List.cons.injEq] at h
    rcases List.mem_cons.1 hx with rfl | hx
    · exact lookA_mem h.1
    · exact holdM h.2 x hx
theorem endS {tb : Tab U} (htb : TbOk P U tb) {fn : Func} {c : CSpec U} {st : St U} (h1 : (resD tb st fn.results.toList).map resOf = some c.r) (h2 : (c.bs'.map fun x => lookA st.hp x.1) = c.bs'.map fun x => some x.2) : RetV U O P fn st c.r ∧ ∀ x ∈ c.bs', x ∈ st.hp := by
  cases h : resD tb st fn.results.toList with
  | none => rw [h] at h1; cases h1
  | some vs =>
    rw [h] at h1
    rw [← Option.some.inj h1]
    exact ⟨retV_L rfl (resD_ok htb h), holdM h2⟩
theorem ends_retS {tb : Tab U} (htb : TbOk P U tb) {fn : Func} {c : CSpec U} {st : St U} (h1 : (resD tb st fn.results.toList).map resOf = some c.r) (h2 : (c.bs'.map fun x => lookA st.hp x.1) = c.bs'.map fun x => some x.2) : Ends U O P fn c .ret st := endS htb h1 h2
theorem ends_normalS {tb : Tab U} (htb : TbOk P U tb) {fn : Func} {c : CSpec U} {st : St U} (h1 : (resD tb st fn.results.toList).map resOf = some c.r) (h2 : (c.bs'.map fun x => lookA st.hp x.1) = c.bs'.map fun x => some x.2) : Ends U O P fn c .normal st := endS htb h1 h2
end
end Go.AM
namespace Go.AM
open Go
set_option linter.unusedVariables false
section
variable {U : Univ} {O : Out} {P : Program}
theorem COk.to {f : FuncId} {c : CSpec U} (h : COk U O P f c) (r : AVal U) (hr : ∀ S ι w u, VV U O S ι w c.r u → VV U O S ι w r u) : COk U O P f { c with r := r } := by
  intro S ι w vs hlt hgl has hbs hown
  refine (h S ι w vs hlt hgl has hbs hown).mono ?_
  rintro e w' ⟨u, S', ι', rfl, hN, hu⟩
  exact ⟨u, S', ι', rfl, ⟨hN.os, hN.tape, hN.output, hN.size, hN.sub, hN.new, hN.lt, hN.keep, hN.lay, hN.blk, hN.plc, hN.sep⟩, hr S' ι' w' u hu⟩
theorem VV.selT {S : Nat → Prop} {ι : Lay} {w : World} {n wd len : Nat} {t : Ty} {x : t.den U.T} {u : Value} : VV U O S ι w (.sel true n wd len t x) u ↔ VV U O S ι w (.vec n wd 0 len) u := by
  simp only [VV]
  exact ⟨fun h => h.1 trivial, fun h => ⟨fun _ => h, fun h => (by cases h)⟩⟩
theorem VV.selF {S : Nat → Prop} {ι : Lay} {w : World} {n wd len : Nat} {t : Ty} {x : t.den U.T} {u : Value} : VV U O S ι w (.sel false n wd len t x) u ↔ VV U O S ι w (.p t x) u := by
  simp only [VV]
  exact ⟨fun h => h.2 trivial, fun h => ⟨fun h => (by cases h), fun _ => h⟩⟩
theorem COk.selT {f : FuncId} {c : CSpec U} {n wd len : Nat} {t : Ty} {x : t.den U.T} (h : COk U O P f c) (hc : c.r = .sel true n wd len t x) : COk U O P f { c with r := .vec n wd 0 len } :=
  h.to _ fun S ι w u hu => by
    rw [hc] at hu
    exact VV.selT.1 hu
theorem COk.selF {f : FuncId} {c : CSpec U} {n wd len : Nat} {t : Ty} {x : t.den U.T} (h : COk U O P f c) (hc : c.r = .sel false n wd len t x) : COk U O P f { c with r := .p t x } :=
  h.to _ fun S ι w u hu => by
    rw [hc] at hu
    exact VV.selF.1 hu
theorem Conv.selT {st : St U} (k n wd len : Nat) (t : Ty) (x : t.den U.T) (hin : (k, AVal.vec n wd 0 len) ∈ st.sl) : Conv U O st ⟨setA st.sl k (.sel true n wd len t x), st.hp⟩ := by
  intro B S ι a w hR
  refine ⟨S, ι, { hR with sl := fun y hy => ?_ }⟩
  rcases mem_setA hy with rfl | ⟨h1, _⟩
  · exact VV.selT.2 (hR.sl _ hin)
  · exact hR.sl y h1
theorem Conv.selF {st : St U} (k n wd len : Nat) (t : Ty) (x : t.den U.T) (hin : (k, AVal.p t x) ∈ st.sl) : Conv U O st ⟨setA st.sl k (.sel false n wd len t x), st.hp⟩ := by
  intro B S ι a w hR
  refine ⟨S, ι, { hR with sl := fun y hy => ?_ }⟩
  rcases mem_setA hy with rfl | ⟨h1, _⟩
  · exact VV.selF.2 (hR.sl _ hin)
  · exact hR.sl y h1
end
end Go.AM
namespace Go.AM
section
variable {U : Univ}
theorem Wf.namedI {n : Nat} {x : U.T n} (h : Wf U (.named n) x) : Wf U (U.body n) (U.out n x) := by cases h; assumption
theorem Wf.pairI {a b : Ty} {z : a.den U.T × b.den U.T} (h : Wf U (.pair a b) z) : Wf U a z.1 ∧ Wf U b z.2 := by cases h; exact ⟨by assumption, by assumption⟩
theorem Wf.listI {t : Ty} {xs : List (t.den U.T)} (h : Wf U (.list t) xs) : xs.length ≤ maxLen ∧ ∀ x ∈ xs, Wf U t x := by cases h; exact ⟨by assumption, by assumption⟩
theorem Wf.arrI {n : Nat} {t : Ty} {xs : List (t.den U.T)} (h : Wf U (.arr n t) xs) : xs.length = n ∧ ∀ x ∈ xs, Wf U t x := by cases h; exact ⟨by assumption, by assumption⟩
theorem Wf.intI {k : IntKind} {n : Int} (h : Wf U (.int k) n) : k.min ≤ n ∧ n ≤ k.max := by
  cases h with
  | int _ _ h => simpa only [Lit.wf, Bool.and_eq_true, decide_eq_true_eq] using h
end
end Go.AM
