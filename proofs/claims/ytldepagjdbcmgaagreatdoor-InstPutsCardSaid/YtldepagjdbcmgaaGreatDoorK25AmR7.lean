/- A part of my own abstract layer. -/
import Derived.Test.YtldepagjdbcmgaaGreatDoorK25AmR4
import Derived.Test.YtldepagjdbcmgaaGreatDoorK25AmM8
import Derived.Deep.DeepAppendWide
namespace Go.AM

inductive CV (U : Univ) (O : Out) where
  | k (ts ns : List Nat)
  | nL (t : Nat) (ty : Ty)
  | nE (t : Nat)
  | th (t n : Nat) (E : TypeId) (ty : Ty)
  | rn (n m : Nat)
  | fz (t : Nat)
  | fh (t : Nat) {l l' : Nat} (h : l = l')
  | fu (n j : Nat)
  | uh (n j : Nat) {l l' : Nat} (h : l = l')
  | lo (n : Nat)
  | s0 (n : Nat)
  | sN (n m : Nat)
  | oN (m : Nat) (B : Blk U)
  | oZ (t m : Nat)
  | oL (t : Nat)
  | oB (n : Nat)
  | oS (t : Nat) {q : Bool} (h : q = true)
  | oK (n : Nat) {q : Bool} (h : q = true)
  | it (d : Nat)
  | cm (n : Nat) {t : Ty} {ys kvs : List (List UInt8 × t.den U.T)} (h : ys.Perm kvs) (hr : Rising kvs)
  | fp (t : Nat) (ty : Ty)
  | fq (t : Nat) (ty : Ty)
  | x {a b : St U} (h : Conv U O a b)

inductive OC (U : Univ) where
  | n (a : Nat)
  | b (a : Bool)
  | y (t : Ty) (ys kvs : List (List UInt8 × t.den U.T))
  | s (a : St U)

section
variable {U : Univ} {O : Out}
def freeB (hp : List (Nat × Blk U)) (n : Nat) : Bool := hp.all fun x => !(Blk.names U x.2).contains n
def frzS (st : St U) (t : Nat) (l : Option (Nat × Nat)) : Option (St U × List (OC U) × List (OC U)) :=
  (lookA st.sl t).bind fun v => match v with
    | .vec n wd 0 len => match lookA st.hp n with
      | some (.row _ ty xs _) => bif wd == ty.width U.wd && freeB st.hp n then some (⟨setA st.sl t (.p (.list ty) xs), st.hp.filter fun x => !(x.1 == n)⟩, (match l with | none => [.n len] | some l => [.n l.1, .n l.2]), (match l with | none => [.n xs.length] | some _ => [.n len, .n xs.length])) else none
      | _ => none
    | _ => none
def frzU (st : St U) (n j : Nat) (l : Option (Nat × Nat)) : Option (St U × List (OC U) × List (OC U)) :=
  match lookA st.hp n with
  | some (.box us) => (splitAt' j us).bind fun y => match y with
    | (pre, .vec m wd 0 len, post) => match lookA st.hp m with
      | some (.row _ ty xs _) => bif (wd == ty.width U.wd) && !(n == m) then some (⟨st.sl, (setA st.hp n (.box (pre ++ .p (.list ty) xs :: post))).filter fun x => !(x.1 == m)⟩, (match l with | none => [.n len] | some l => [.n l.1, .n l.2]), (match l with | none => [.n xs.length] | some _ => [.n len, .n xs.length])) else none
      | _ => none
    | _ => none
  | _ => none
def cv1 (st : St U) : CV U O → Option (St U × List (OC U) × List (OC U))
  | .k ts ns => some (st.keep ts ns, [], [])
  | .nL t ty => (lookA st.sl t).bind fun v => match v with
    | .lit (.slice none 0 0) => some (⟨setA st.sl t (.p (.list ty) ([] : List (ty.den U.T))), st.hp⟩, [], [])
    | _ => none
  | .nE t => (lookA st.sl t).bind fun v => match v with
    | .lit .nilIface => some (⟨setA st.sl t (.p .err (0 : Nat)), st.hp⟩, [], [])
    | _ => none
  | .th t n E ty => (lookA st.sl t).bind fun v => match v with
    | .lit (.slice none 0 0) => bif !st.names.contains n && Nat.blt n K0 then some (⟨setA st.sl t (.vec n (ty.width U.wd) 0 0), (n, .row E ty [] false) :: st.hp⟩, [], []) else none
    | _ => none
  | .rn n m => bif !st.names.contains m && Nat.blt m K0 then some (⟨st.sl.map fun x => (x.1, x.2.ren (swap1 n m)), st.hp.map fun x => (swap1 n m x.1, x.2.ren (swap1 n m))⟩, [], []) else none
  | .fz t => frzS st t none
  | @CV.fh _ _ t l l' _ => frzS st t (some (l, l'))
  | .fu n j => frzU st n j none
  | @CV.uh _ _ n j l l' _ => frzU st n j (some (l, l'))
  | .lo n => match lookA st.hp n with
    | some (.row E ty xs true) => some (⟨st.sl, setA st.hp n (.row E ty xs false)⟩, [], [])
    | _ => none
  | .s0 n => match lookA st.hp n with
    | some (.row E ty _ _) => some (⟨st.sl, setA st.hp n (.row E ty ([] : List (ty.den U.T)) false)⟩, [], [])
    | _ => none
  | .sN n m => match lookA st.hp n with
    | some (.row E ty xs _) => some (⟨st.sl, setA st.hp n (.row E ty (xs.take m) false)⟩, [], [])
    | _ => none
  | .oN m B => bif !st.names.contains m && Nat.blt m K0 then some (⟨st.sl, (m, .opt false B) :: st.hp⟩, [], []) else none
  | .oZ t m => (lookA st.sl t).bind fun v => match v with
    | .lit (.pointer none) => some (⟨setA st.sl t (.opt false m), st.hp⟩, [], [])
    | _ => none
  | .oL t => (lookA st.sl t).bind fun v => match v with
    | .loc n 0 => some (⟨setA st.sl t (.opt true n), st.hp⟩, [], [])
    | _ => none
  | .oB n => (lookA st.hp n).bind fun B => some (⟨st.sl, setA st.hp n (.opt true B)⟩, [], [])
  | @CV.oS _ _ t q _ => (lookA st.sl t).bind fun v => match v with
    | .opt q' n => some (⟨setA st.sl t (.loc n 0), st.hp⟩, [.b q'], [.b q])
    | _ => none
  | @CV.oK _ _ n q _ => match lookA st.hp n with
    | some (.opt q' B) => some (⟨st.sl, setA st.hp n B⟩, [.b q'], [.b q])
    | _ => none
  | .it d => match lookA st.hp d with
    | some (.iter m t es clock ys left _) => some (⟨st.sl, setA st.hp d (.iter m t es clock ys left none)⟩, [], [])
    | _ => none
  | @CV.cm _ _ n t ys kvs _ _ => match lookA st.hp n with
    | some (.mapE t' _ _ ys') => some (⟨st.sl, setA st.hp n (.map t kvs)⟩, [.y t' ys' ys'], [.y t ys ys])
    | _ => none
  | .fp t ty => (lookA st.sl t).bind fun v => match v with
    | .loc n 0 => match lookA st.hp n with
      | some (.box us) => match implD U 32 ty us with
        | some (x, []) => bif freeB st.hp n then some (⟨setA st.sl t (.p (.ptr ty) (some x : Option (ty.den U.T))), st.hp.filter fun x => !(x.1 == n)⟩, [], []) else none
        | _ => none
      | _ => none
    | _ => none
  | .fq t ty => (lookA st.sl t).bind fun v => match v with
    | .loc n 0 => match lookA st.hp n with
      | some (.box us) => match implD U 32 ty us with
        | some (x, []) => bif freeB st.hp n then some (⟨setA st.sl t (.pp ty x), st.hp.filter fun x => !(x.1 == n)⟩, [], []) else none
        | _ => none
      | _ => none
    | _ => none
  | @CV.x _ _ a b _ => some (b, [.s st], [.s a])
def cvS : List (CV U O) → St U → Option (St U × List (OC U) × List (OC U))
  | [], st => some (st, [], [])
  | c :: l, st => (cv1 st c).bind fun r => (cvS l r.1).bind fun q => some (q.1, r.2.1 ++ q.2.1, r.2.2 ++ q.2.2)
def cvN (l : List (CV U O)) (st : St U) : St U := match cvS l st with | some r => r.1 | none => st
def cvOk (l : List (CV U O)) (st : St U) : Bool := (cvS l st).isSome
def cvL (l : List (CV U O)) (st : St U) : List (OC U) := match cvS l st with | some r => r.2.1 | none => []
def cvR (l : List (CV U O)) (st : St U) : List (OC U) := match cvS l st with | some r => r.2.2 | none => []

theorem freeB_ok {hp : List (Nat × Blk U)} {n : Nat} (h : freeB hp n = true) : ∀ x ∈ hp, n ∉ Blk.names U x.2 := fun x hx hn => by
  have := List.all_eq_true.1 h x hx
  simp only [Bool.not_eq_true', List.contains_eq_mem, decide_eq_false_iff_not] at this
  exact this hn
theorem fresh_ok {st : St U} {n : Nat} (h : (!st.names.contains n && Nat.blt n K0) = true) : st.names.contains n = false ∧ n < K0 := by
  rw [Bool.and_eq_true] at h
  exact ⟨by simpa using h.1, Nat.le_of_ble_eq_true h.2⟩
theorem frzS_ok {st : St U} {t : Nat} {l : Option (Nat × Nat)} {r : St U × List (OC U) × List (OC U)} (h : frzS st t l = some r) (hl : ∀ x, l = some x → x.1 = x.2) (e : r.2.1 = r.2.2) : Conv U O st r.1 := by
  unfold frzS at h
  obtain ⟨v, hv, h1⟩ := bind_some h
  clear h
  split at h1
  · split at h1
    · rename_i hb
      obtain ⟨ha, h2⟩ := bif_some h1
      rw [Bool.and_eq_true] at ha
      have hw := beqN ha.1
      subst hw
      cases h2
      refine Conv.freeze t _ _ _ _ _ _ (lookA_mem hv) ?_ (lookA_mem hb) (freeB_ok ha.2)
      cases l with
      | none => simp only [List.cons.injEq, OC.n.injEq, and_true] at e; exact e
      | some l =>
        simp only [List.cons.injEq, OC.n.injEq, and_true] at e
        rw [← e.1, hl l rfl, e.2]
    · cases h1
  · cases h1
theorem frzU_ok {st : St U} {n j : Nat} {l : Option (Nat × Nat)} {r : St U × List (OC U) × List (OC U)} (h : frzU st n j l = some r) (hl : ∀ x, l = some x → x.1 = x.2) (e : r.2.1 = r.2.2) : Conv U O st r.1 := by
  unfold frzU at h
  split at h
  · rename_i us hb
    obtain ⟨y, hy, h1⟩ := bind_some h
    have hus := splitAt'_eq hy
    clear h hy
    split at h1
    · dsimp only at hus
      subst hus
      split at h1
      · rename_i hm
        obtain ⟨ha, h2⟩ := bif_some h1
        rw [Bool.and_eq_true] at ha
        have hw := beqN ha.1
        subst hw
        cases h2
        refine Conv.freezeU _ _ _ _ _ _ _ _ _ (lookA_mem hb) ?_ (lookA_mem hm) (by simpa using ha.2)
        cases l with
        | none => simp only [List.cons.injEq, OC.n.injEq, and_true] at e; exact e
        | some l =>
          simp only [List.cons.injEq, OC.n.injEq, and_true] at e
          rw [← e.1, hl l rfl, e.2]
      · cases h1
    · cases h1
  · cases h
theorem cv1_ok {st : St U} {c : CV U O} {r : St U × List (OC U) × List (OC U)} (h : cv1 st c = some r) (e : r.2.1 = r.2.2) : Conv U O st r.1 := by
  cases c with
  | k ts ns => cases h; exact Conv.keep ts ns rfl
  | nL t ty =>
    obtain ⟨v, hv, h1⟩ := bind_some h
    split at h1
    · cases h1; exact Conv.nilL t ty (lookA_mem hv)
    · cases h1
  | nE t =>
    obtain ⟨v, hv, h1⟩ := bind_some h
    split at h1
    · cases h1; exact Conv.nilE t (lookA_mem hv)
    · cases h1
  | th t n E ty =>
    obtain ⟨v, hv, h1⟩ := bind_some h
    split at h1
    · obtain ⟨ha, h2⟩ := bif_some h1
      cases h2; obtain ⟨h3, h4⟩ := fresh_ok ha; exact Conv.thaw t n E ty (lookA_mem hv) h3 h4
    · cases h1
  | rn n m =>
    obtain ⟨ha, h2⟩ := bif_some h
    cases h2; obtain ⟨h3, h4⟩ := fresh_ok ha; exact Conv.ren n m h4 h3 rfl rfl
  | fz t => exact frzS_ok (t := t) (l := none) h (fun _ h => by cases h) e
  | @fh t l l' h' => exact frzS_ok (t := t) (l := some (l, l')) h (fun _ h => by cases h; exact h') e
  | fu n j => exact frzU_ok (n := n) (j := j) (l := none) h (fun _ h => by cases h) e
  | @uh n j l l' h' => exact frzU_ok (n := n) (j := j) (l := some (l, l')) h (fun _ h => by cases h; exact h') e
  | lo n =>
    dsimp only [cv1] at h
    split at h
    · cases h; exact Conv.loose _ _ _ _ (lookA_mem (by assumption))
    · cases h
  | s0 n =>
    dsimp only [cv1] at h
    split at h
    · cases h; exact Conv.shrink0 _ _ _ _ _ (lookA_mem (by assumption))
    · cases h
  | sN n m =>
    dsimp only [cv1] at h
    split at h
    · cases h; exact Conv.shrinkN _ _ _ _ _ _ (lookA_mem (by assumption))
    · cases h
  | oN m B =>
    obtain ⟨ha, h2⟩ := bif_some h
    cases h2; obtain ⟨h3, h4⟩ := fresh_ok ha; exact Conv.optNew m B h3 h4
  | oZ t m =>
    obtain ⟨v, hv, h1⟩ := bind_some h
    split at h1
    · cases h1; exact Conv.optNil t m (lookA_mem hv)
    · cases h1
  | oL t =>
    obtain ⟨v, hv, h1⟩ := bind_some h
    split at h1
    · cases h1; exact Conv.optLoc t _ (lookA_mem hv)
    · cases h1
  | oB n =>
    obtain ⟨v, hv, h1⟩ := bind_some h
    cases h1; exact Conv.optBlk n _ (lookA_mem hv)
  | oS t hq =>
    obtain ⟨v, hv, h1⟩ := bind_some h
    split at h1
    · cases h1
      simp only [List.cons.injEq, OC.b.injEq, and_true] at e
      exact Conv.openS t _ (e.trans hq) (lookA_mem hv)
    · cases h1
  | oK n hq =>
    dsimp only [cv1] at h
    split at h
    · cases h
      simp only [List.cons.injEq, OC.b.injEq, and_true] at e
      exact Conv.openB n _ (e.trans hq) (lookA_mem (by assumption))
    · cases h
  | it d =>
    dsimp only [cv1] at h
    split at h
    · cases h; exact Conv.iterRest (lookA_mem (by assumption))
    · cases h
  | cm n hp hr =>
    dsimp only [cv1] at h
    split at h
    · rename_i hb
      cases h
      simp only [List.cons.injEq, and_true] at e
      cases e
      exact Conv.closeMap (lookA_mem hb) hp hr
    · cases h
  | fp t ty =>
    obtain ⟨v, hv, h1⟩ := bind_some h
    split at h1
    · split at h1
      · rename_i hb
        split at h1
        · rename_i hi
          obtain ⟨ha, h2⟩ := bif_some h1
          cases h2
          obtain ⟨m, e1, g⟩ := implD_ok _ hi
          rw [List.append_nil] at e1
          exact Conv.freezeP t _ ty _ _ (lookA_mem hv) (e1 ▸ g) (lookA_mem hb) (freeB_ok ha)
        · cases h1
      · cases h1
    · cases h1
  | fq t ty =>
    obtain ⟨v, hv, h1⟩ := bind_some h
    split at h1
    · split at h1
      · rename_i hb
        split at h1
        · rename_i hi
          obtain ⟨ha, h2⟩ := bif_some h1
          cases h2
          obtain ⟨m, e1, g⟩ := implD_ok _ hi
          rw [List.append_nil] at e1
          exact Conv.freezeQ t _ ty _ _ (lookA_mem hv) (e1 ▸ g) (lookA_mem hb) (freeB_ok ha)
        · cases h1
      · cases h1
    · cases h1
  | x hc =>
    cases h
    simp only [List.cons.injEq, OC.s.injEq, and_true] at e
    exact e ▸ hc
theorem cv1_len {st : St U} {c : CV U O} {r : St U × List (OC U) × List (OC U)} (h : cv1 st c = some r) : r.2.1.length = r.2.2.length := by
  have f1 : ∀ {t l r}, frzS st t l = some r → r.2.1.length = r.2.2.length := fun {t l r} h => by
    unfold frzS at h
    obtain ⟨v, hv, h1⟩ := bind_some h
    split at h1
    · split at h1
      · obtain ⟨ha, h2⟩ := bif_some h1
        cases h2; cases l <;> rfl
      · cases h1
    · cases h1
  have f2 : ∀ {n j l r}, frzU st n j l = some r → r.2.1.length = r.2.2.length := fun {n j l r} h => by
    unfold frzU at h
    split at h
    · obtain ⟨y, hy, h1⟩ := bind_some h
      split at h1
      · split at h1
        · obtain ⟨ha, h2⟩ := bif_some h1
          cases h2; cases l <;> rfl
        · cases h1
      · cases h1
    · cases h
  cases c with
  | fz t => exact f1 (t := t) (l := none) h
  | @fh t l l' h' => exact f1 (t := t) (l := some (l, l')) h
  | fu n j => exact f2 (n := n) (j := j) (l := none) h
  | @uh n j l l' h' => exact f2 (n := n) (j := j) (l := some (l, l')) h
  | k | x => cases h; rfl
  | rn | oN => obtain ⟨ha, h2⟩ := bif_some h; cases h2; rfl
  | oB => obtain ⟨v, hv, h1⟩ := bind_some h; cases h1; rfl
  | lo | s0 | sN | oK | it | cm =>
    dsimp only [cv1] at h
    split at h
    · cases h; rfl
    · cases h
  | th =>
    obtain ⟨v, hv, h1⟩ := bind_some h
    split at h1
    · obtain ⟨ha, h2⟩ := bif_some h1; cases h2; rfl
    · cases h1
  | fp | fq =>
    obtain ⟨v, hv, h1⟩ := bind_some h
    split at h1
    · split at h1
      · split at h1
        · obtain ⟨ha, h2⟩ := bif_some h1; cases h2; rfl
        · cases h1
      · cases h1
    · cases h1
  | _ =>
    obtain ⟨v, hv, h1⟩ := bind_some h
    split at h1
    · cases h1; rfl
    · cases h1
theorem cvS_ok : ∀ {l : List (CV U O)} {st : St U} {r : St U × List (OC U) × List (OC U)}, cvS l st = some r → r.2.1 = r.2.2 → Conv U O st r.1
  | [], st, r, h, _ => by cases h; exact Conv.refl _
  | c :: l, st, r, h, e => by
    obtain ⟨r1, h1, h2⟩ := bind_some h
    obtain ⟨q, h3, h4⟩ := bind_some h2
    cases h4
    obtain ⟨e1, e2⟩ := app_inj e (cv1_len h1)
    exact (cv1_ok h1 e1).trans (cvS_ok (r := q) h3 e2)
theorem Conv.S {l : List (CV U O)} {st : St U} (h1 : cvOk l st = true) (h2 : cvL l st = cvR l st) : Conv U O st (cvN l st) := by
  unfold cvOk at h1
  unfold cvL cvR at h2
  unfold cvN
  cases h : cvS l st with
  | none => rw [h] at h1; cases h1
  | some r => rw [h] at h2; exact cvS_ok h h2

variable {P : Program} {B : Base}
theorem WpC.cS {c : Code} {st : St U} {Q : PostQ U} (l : List (CV U O)) (h1 : cvOk l st = true) (h2 : cvL l st = cvR l st) (hc : WpC U O P B c (cvN l st) Q) : WpC U O P B c st Q := .conv (.S h1 h2) hc
theorem WpC.tS {t : Nat} {b : Bool} {c d : Code} {st : St U} {Q : PostQ U} (hx : lookA st.sl t = some (.p .bool b)) (h1 : b = true → WpC U O P B c st Q) (h2 : b = false → WpC U O P B d st Q) : WpC U O P B (.cond (.tmp t) c d) st Q :=
  .cond (.tmp (lookA_mem hx)) h1 h2
theorem WpC.st {c : Code} {st st' : St U} {Q : PostQ U} (h : st = st') (hc : WpC U O P B c st' Q) : WpC U O P B c st Q := h ▸ hc
def resD (tb : Tab U) (st : St U) : List ResultVar → Option (List (AVal U))
  | [] => some []
  | .tmp t :: l => (lookA st.sl t).bind fun v => (resD tb st l).bind fun vs => some (v :: vs)
  | .cell b T :: l => (lookA st.sl b).bind fun v => match v with
    | .loc n off => match lookA st.hp n with
      | some (.box us) => (lookA tb.ty T).bind fun t => ((cutU U us off).bind fun x => (cutU U x.2 (t.width U.wd)).bind fun y => some (x.1, y.1, y.2)).bind fun c => bif allU c.1 && allU c.2.1 then (madeD t c.2.1).bind fun v => (resD tb st l).bind fun vs => some (v :: vs) else none
      | _ => none
    | _ => none
theorem resD_ok {tb : Tab U} (htb : TbOk P U tb) {st : St U} : ∀ {l : List ResultVar} {vs : List (AVal U)}, resD tb st l = some vs → ResL U P st l vs
  | [], _, h => by cases h; exact .nil
  | .tmp t :: l, _, h => by
    obtain ⟨v, hv, h1⟩ := bind_some h
    obtain ⟨vs, hvs, h2⟩ := bind_some h1
    cases h2; exact .tmp (lookA_mem hv) (resD_ok htb hvs)
  | .cell b T :: l, _, h => by
    obtain ⟨v, hv, h1⟩ := bind_some h
    split at h1
    · split at h1
      · rename_i us hb
        obtain ⟨t, ht, h2⟩ := bind_some h1
        obtain ⟨⟨pre, mid, post⟩, hc, h3⟩ := bind_some h2
        obtain ⟨ha, h4⟩ := bif_some h3
        obtain ⟨v, hv', h5⟩ := bind_some h4
        obtain ⟨vs, hvs, h6⟩ := bind_some h5
        rw [Bool.and_eq_true] at ha
        obtain ⟨e1, e2, e3⟩ := cut2_ok hc
        cases h6
        exact .cell pre mid post (lookA_mem hv) (e1 ▸ lookA_mem hb) ha.1 e2 ha.2 e3 (htb.ty' ht) (madeD_ok hv') (resD_ok htb hvs)
      · cases h1
    · cases h1
theorem holdM : ∀ {l hp : List (Nat × Blk U)}, (l.map fun x => lookA hp x.1) = (l.map fun x => some x.2) → ∀ x ∈ l, x ∈ hp
  | [], _, _, _, h => by cases h
  | y :: l, hp, h, x, hx => by
    simp only [List.map_cons, List.cons.injEq] at h
    rcases List.mem_cons.1 hx with rfl | hx
    · exact lookA_mem h.1
    · exact holdM h.2 x hx
theorem endS {tb : Tab U} (htb : TbOk P U tb) {fn : Func} {c : CSpec U} {st : St U} (h1 : (resD tb st fn.results.toList).map resOf = some c.r) (h2 : (c.bs'.map fun x => lookA st.hp x.1) = c.bs'.map fun x => some x.2) : RetV U O P fn st c.r ∧ ∀ x ∈ c.bs', x ∈ st.hp := by
  cases h : resD tb st fn.results.toList with
  | none => rw [h] at h1; cases h1
  | some vs =>
    rw [h] at h1
    rw [← Option.some.inj h1]
    exact ⟨retV_L rfl (resD_ok htb h), holdM h2⟩
theorem ends_retS {tb : Tab U} (htb : TbOk P U tb) {fn : Func} {c : CSpec U} {st : St U} (h1 : (resD tb st fn.results.toList).map resOf = some c.r) (h2 : (c.bs'.map fun x => lookA st.hp x.1) = c.bs'.map fun x => some x.2) : Ends U O P fn c .ret st := endS htb h1 h2
end
end Go.AM
namespace Go.AM
open Go Go.RowKit
set_option linter.unusedVariables false
set_option linter.unusedSimpArgs false
section
variable {U : Univ} {O : Out} {P : Program} {S : Nat → Prop} {ι : Lay} {w : World} {rs : List (Nat × AVal U)} {a : Act} {ops : Array Oper} {o : Oper}
end
end Go.AM
