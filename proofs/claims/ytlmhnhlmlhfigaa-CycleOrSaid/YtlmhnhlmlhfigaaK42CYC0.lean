/- A part of the proof of a given law: CYC0. Own work, printed in part by a program of mine. -/
import Derived.Test.YtlmhnhlmlhfigaaK42CYF
namespace Go.Proofs.Ytlmhnhlmlhfigaa
open Go Go.AM
set_option linter.unusedVariables false
set_option linter.unusedSimpArgs false
set_option maxRecDepth 100000
set_option maxHeartbeats 4000000
theorem names_Sorted.ok (O : Out) (k : Nat) (a0 : List (List UInt8)) (out : List (List UInt8)) (h : names_Sorted.f k a0 = some out) : COk Un O Try.prog 24 { ar := [.p (.list .str) a0], r := .vec 60500 1 0 out.length, bs' := [(60500, .row 9 .str out false)], nn := [60500] } := by
 refine cok_of_wp Try.func24 rfl (k := 10) rfl (Nat.le_of_ble_eq_true rfl) (namesOk_of (by kernel_rfl)) ?_
 intro B hN
 refine WpC.conv (cvK (b := ⟨[(0, .p (.list .str) a0)], []⟩) [0] [] (by kernel_rfl)) ?_
 unfold names_Sorted.f at h
 refine WpC.seq ?_
 refine rS {} [0] [] hN (by kernel_rfl) (by kernel_rfl) ?_
 refine tnU ?_
 refine WpC.seq ?_
 obtain ⟨v1, hv1, h⟩ := bind_some h
 refine rS { its := [(1, .c (COk.ren (pCloneR.ok O k a0 v1 hv1) (fun n => if n = 60500 then 10001 else n) (injOn_of (by kernel_rfl))))] } [3] [10001] hN (by kernel_rfl) (by kernel_rfl) ?_
 refine tnU ?_
 refine WpC.seq ?_
 obtain ⟨v2, hv2, h⟩ := bind_some h
 obtain ⟨g3, h⟩ := if_some h
 refine rSC { its := [(1, .c (COk.ren (pSortR.ok O k v1 v2 hv2) (fun n => if n = 100000 then 10001 else n) (injOn_of (by kernel_rfl))))] } [3] [10001] hN (by kernel_rfl) (by kernel_rfl) (cS [.k [3] [10001], .x (Conv.cast (U := Un) (st := ⟨[(3, .vec 10001 1 0 v1.length)], [(10001, .row 9 .str v2 false)]⟩) (st' := ⟨[(3, .vec 10001 1 0 v2.length)], [(10001, .row 9 .str v2 false)]⟩) (by simp only [upd_length, List.length_nil, List.length_replicate, g3]))] (by kernel_rfl) (by kernel_rfl)) ?_
 refine tnU ?_
 refine WpC.seq ?_
 obtain ⟨v4, hv4, h⟩ := bind_some h
 refine rS { its := [(1, .c (COk.ren (pCompactRR.ok O k v2 v4 hv4) (fun n => if n = 60500 then 10002 else if n = 100000 then 10001 else n) (injOn_of (by kernel_rfl))))] } [2] [10002] hN (by kernel_rfl) (by kernel_rfl) ?_
 refine tnU ?_
 refine WpC.conv (cS [.rn 10002 60500, .k [2] [60500]] (by kernel_rfl) (by kernel_rfl)) (WpC.ret ?_)
 have hq := Option.some.inj h
 subst hq
 exact eR (by kernel_rfl) (by kernel_rfl)

theorem zslOf {P : Program} {T : TypeId} {v : Value} (h : (P.info? T).bind (·.zero) = some v) : ∃ i, P.info? T = some i ∧ i.zero = some v := by
 cases hi : P.info? T with
 | none => rw [hi] at h; cases h
 | some i => rw [hi] at h; exact ⟨i, rfl, h⟩
theorem arcsG_app : ∀ (l l' : List T_cycle_Node) (m : List ((List UInt8) × (List (List UInt8)))), arcsG (l ++ l') m = arcsG l' (arcsG l m)
 | [], _, _ => rfl
 | n :: l, l', m => by simp only [List.cons_append, arcsG, arcsG_app l l']
theorem arcsG_rising : ∀ (l : List T_cycle_Node) {m : List ((List UInt8) × (List (List UInt8)))}, Rising m → Rising (arcsG l m)
 | [], _, h => h
 | n :: l, _, h => arcsG_rising l (Rising.put h)
theorem aput_perm {α : Type} {k : List UInt8} {v : α} : ∀ {m : KV α}, Apart m → (aput k v m).Perm ((k, v) :: mdel k m)
 | [], _ => .refl _
 | y :: r, h => by
  obtain ⟨h1, h2⟩ := List.pairwise_cons.1 h
  unfold aput
  split
  ·rename_i e
   have : mdel k (y :: r) = r := by
    unfold mdel
    rw [List.filter_cons, if_neg (by simp [e])]
    exact mdel_eq fun x hx => by rw [← e]; exact (h1 x hx).symm
   rw [this]
  ·rename_i hne
   have : mdel k (y :: r) = y :: mdel k r := by unfold mdel; rw [List.filter_cons, if_pos (by simpa using hne)]
   rw [this]
   exact ((aput_perm h2).cons y).trans (.swap _ _ _)
theorem aput_eq {α : Type} {k : List UInt8} {v : α} : ∀ {m : KV α}, Apart m → (∃ y ∈ m, y.1 = k) → aput k v m = m.map fun z => if z.1 = k then (k, v) else z
 | [], _, h => by obtain ⟨_, h, _⟩ := h; cases h
 | y :: r, h, hk => by
  obtain ⟨h1, h2⟩ := List.pairwise_cons.1 h
  unfold aput
  split
  ·rename_i e
   rw [List.map_cons, if_pos e]
   have hr : r.map (fun z => if z.1 = k then (k, v) else z) = r := by
    conv => rhs; rw [← List.map_id r]
    exact List.map_congr_left fun z hz => if_neg fun e' => h1 z hz (e.trans e'.symm)
   rw [hr]
  ·rename_i e
   rw [List.map_cons, if_neg e, aput_eq h2]
   obtain ⟨z, hz, hzk⟩ := hk
   rcases List.mem_cons.1 hz with rfl | hz
   ·exact absurd hzk e
   ·exact ⟨z, hz, hzk⟩
theorem take_succ_of {α : Type} {l : List α} {i : Nat} (h : i < l.length) : l.take (i + 1) = l.take i ++ [l[i]] := by
 rw [List.take_add_one, List.getElem?_eq_getElem h]; rfl
theorem sum_take_get {α : Type} (f : α → Nat) : ∀ (l : List α) (i : Nat) (h : i < l.length), ((l.take i).map f).sum + f l[i] ≤ (l.map f).sum
 | x :: l, 0, _ => by simp
 | x :: l, i + 1, h => by
  have ih := sum_take_get f l i (by simpa using h)
  simp only [List.take_succ_cons, List.map_cons, List.sum_cons, List.getElem_cons_succ]
  omega
theorem arcsG_len : ∀ (l : List T_cycle_Node) (m : List ((List UInt8) × (List (List UInt8)))) (c : Nat), (∀ k, ((mget k m).getD []).length ≤ c) → ∀ k, ((mget k (arcsG l m)).getD []).length ≤ c + (l.map fun n => n.f_To.length).sum
 | [], m, c, h, k => by simpa [arcsG] using h k
 | n :: l, m, c, h, k => by
  have := arcsG_len l (mput n.f_Name (((mget n.f_Name m).getD []) ++ n.f_To) m) (c + n.f_To.length) (fun k' => by
   by_cases e : k' = n.f_Name
   ·subst e
    rw [mget_put_same]
    simp only [Option.getD_some, List.length_append]
    have := h n.f_Name
    omega
   ·rw [mget_put_ne _ e]
    have := h k'
    omega) k
  simp only [arcsG, List.map_cons, List.sum_cons]
  omega
theorem w64n (i : Nat) (h : i + 1 ≤ 9223372036854775807) : IntKind.i64.wrap ((i : Int) + 1) = ((i + 1 : Nat) : Int) := by
 rw [show ((i : Int) + 1) = ((i + 1 : Nat) : Int) by omega]
 exact w64 (by omega) (by omega)
theorem arcs_loop1 {O : Out} {B : Base} (hN : B.n = 38) (a0 : List T_cycle_Node) (hlen : a0.length ≤ LIM) (hsum : (a0.map fun n => n.f_To.length).sum ≤ LIM) (Q : PostQ Un) {c : Code}
  (hit : ∀ (B1 : Base), B1.n = 38 → ∀ (i : Nat) (hi : i < a0.length) (ys : KV Value) (xs : List (List UInt8)), xs.length + a0[i].f_To.length ≤ LIM → (mget a0[i].f_Name ys).isSome = true →
   WpC Un O Try.prog B1 c ⟨[(3, .mp 8), (9, .p (.list (.named 3)) a0), (10, .p I6 ((a0.length : Int) : Int)), (11, .p I6 (i : Int))], [(8, .mapM 1 ys (some (a0[i].f_Name, 500, xs.length))), (500, .row 9 .str xs false)]⟩
    fun e st' => e = .normal ∧ st' = ⟨[(3, .mp 8), (9, .p (.list (.named 3)) a0), (10, .p I6 ((a0.length : Int) : Int)), (11, .p I6 ((i + 1 : Nat) : Int))], [(8, .mapM 1 (aput a0[i].f_Name (.bool false) ys) (some (a0[i].f_Name, 24, (xs ++ a0[i].f_To).length))), (24, .row 9 .str (xs ++ a0[i].f_To) false)]⟩)
  (miss : ∀ (B1 : Base), B1.n = 38 → ∀ (i : Nat) (hi : i < a0.length) (ys : KV Value), a0[i].f_To.length ≤ LIM → mget a0[i].f_Name ys = none →
   WpC Un O Try.prog B1 c ⟨[(3, .mp 8), (9, .p (.list (.named 3)) a0), (10, .p I6 ((a0.length : Int) : Int)), (11, .p I6 (i : Int))], [(8, .mapM 1 ys none)]⟩
    fun e st' => e = .normal ∧ st' = ⟨[(3, .mp 8), (9, .p (.list (.named 3)) a0), (10, .p I6 ((a0.length : Int) : Int)), (11, .p I6 ((i + 1 : Nat) : Int))], [(8, .mapM 1 (aput a0[i].f_Name (.bool false) ys) (some (a0[i].f_Name, 24, (([] : List (List UInt8)) ++ a0[i].f_To).length))), (24, .row 9 .str (([] : List (List UInt8)) ++ a0[i].f_To) false)]⟩)
  (over : ∀ (B1 : Base), B1.n = 38 → ∀ (ys : KV Value), WpC Un O Try.prog B1 c ⟨[(3, .mp 8), (9, .p (.list (.named 3)) a0), (10, .p I6 ((a0.length : Int) : Int)), (11, .p I6 (a0.length : Int))], [(8, .mapM 1 ys none)]⟩
    fun e st' => e = .exit 0 ∧ st' = ⟨[(3, .mp 8)], [(8, .mapM 1 ys none)]⟩)
  (hQ : Q (.exit 0) ⟨[(3, .mp 8)], [(8, .map (.list .str) (arcsG a0 []))]⟩) :
  WpC Un O Try.prog B (.loop c) ⟨[(3, .mp 8), (9, .p (.list (.named 3)) a0), (10, .p I6 ((a0.length : Int) : Int)), (11, .p I6 (0 : Int))], [(8, .mapM 1 [] none)]⟩ Q := by
 intro S ι a w hR
 refine wp_loop_n (fun n a w => ∃ (i : Nat) (es : RowsM Un .str) (S : Nat → Prop) (ι : Lay), i + n = a0.length ∧
  Rel Un O B S ι ⟨[(3, .mp 8), (9, .p (.list (.named 3)) a0), (10, .p I6 ((a0.length : Int) : Int)), (11, .p I6 (i : Int))], [(8, .mapM 1 es.raw none)]⟩ a w ∧ MapI Un O B S ι w 8 9 .str es ∧ es.txt.Perm (arcsG (a0.take i) [])) ?_ a0.length a w ⟨0, [], S, ι, by omega, hR, MapI.nil, by rw [List.take_zero]; exact .refl _⟩
 rintro n a w ⟨i, es, S, ι, hin, hR, hI, hp⟩
 obtain ⟨b, c0, ents, clock, g1, g2, g3, g4⟩ := hR.hp _ List.mem_cons_self
 have har : Apart es.raw := g4.apart g3.2.2
 have hae : Apart es := by
  unfold RowsM.raw Apart at har
  rw [List.pairwise_map] at har
  exact har
 have hat : Apart es.txt := by unfold RowsM.txt Apart; rw [List.pairwise_map]; exact hae
 have hris : Rising (arcsG (a0.take i) []) := arcsG_rising _ .nil
 by_cases hi : i < a0.length
 ·have hget : ∀ k, mget k es.txt = mget k (arcsG (a0.take i) []) := fun k => mget_perm hp (Rising.apart hris)
  have hlen1 : ∀ xs : List (List UInt8), xs = (mget a0[i].f_Name (arcsG (a0.take i) [])).getD [] → xs.length + a0[i].f_To.length ≤ LIM := fun xs hxs => by
   have h1 := arcsG_len (a0.take i) [] 0 (fun k => by simp [mget]) a0[i].f_Name
   rw [← hxs] at h1
   have h2 := sum_take_get (fun n : T_cycle_Node => n.f_To.length) a0 i hi
   omega
  refine mapI_step (U := Un) (sl' := [(3, .mp 8), (9, .p (.list (.named 3)) a0), (10, .p I6 ((a0.length : Int) : Int)), (11, .p I6 ((i + 1 : Nat) : Int))]) (k := a0[i].f_Name) (d := 24) (h := 500) (E := 9) (t := .str) (zs := a0[i].f_To) hR hI (by decide) (by decide) (by decide) (fun x hx n hn => ?_) (fun v xs p hg B1 hB => ?_) (fun hg B1 hB => ?_) (fun S' ι' a' w' es' hR' hI' he => ?_)
  ·simp only [List.mem_cons, List.not_mem_nil, or_false] at hx
   rcases hx with rfl | rfl | rfl | rfl <;> simp [AVal.names] at hn
   subst hn; decide
  ·exact hit B1 (hB.trans hN) i hi es.raw xs (hlen1 xs (by rw [← hget, mget_txt, hg]; rfl)) (by rw [mget_raw, hg]; rfl)
  ·refine miss B1 (hB.trans hN) i hi es.raw ?_ (by rw [mget_raw, hg]; rfl)
   have := hlen1 [] (by rw [← hget, mget_txt, hg]; rfl)
   simpa using this
  ·refine ⟨n - 1, by omega, i + 1, es', S', ι', by omega, hR', hI', ?_⟩
   rw [he, take_succ_of hi, arcsG_app]
   show _ ; simp only [arcsG]
   rw [hget]
   exact (aput_perm hat).trans (((hp.filter _).cons _).trans (mput_perm hris).symm)
 ·have hil : i = a0.length := by omega
  subst hil
  refine mapI_frame (E := 9) (t := .str) hR hI (fun B1 hB => over B1 (hB.trans hN) es.raw) fun S' ι' a' w' hR' hI' => ?_
  rw [List.take_length] at hp hris
  obtain ⟨S'', hR''⟩ := mapI_freeze hR' hI' hp hris
  exact ⟨_, hQ, S'', ι', hR''⟩
theorem zsl_23 : ∃ i, Try.prog.info? 23 = some i ∧ i.zero = some (.slice none 0 0) := zslOf (by kernel_rfl)
theorem arcsM_map (k : Nat) : ∀ (m out : List ((List UInt8) × (List (List UInt8)))), arcsM k m = some out → out = m.map (fun z => (z.1, (names_Sorted.f k z.2).getD [])) ∧ ∀ z ∈ m, (names_Sorted.f k z.2).isSome = true
 | [], out, h => by cases h; exact ⟨rfl, fun _ h => by cases h⟩
 | y :: r, out, h => by
  unfold arcsM at h
  obtain ⟨z, hz, h⟩ := bind_some h
  obtain ⟨r', hr', h⟩ := bind_some h
  have hq := Option.some.inj h
  subst hq
  obtain ⟨h1, h2⟩ := arcsM_map k r r' hr'
  refine ⟨by rw [List.map_cons, hz, ← h1]; rfl, fun q hq => ?_⟩
  rcases List.mem_cons.1 hq with rfl | hq
  ·rw [hz]; rfl
  ·exact h2 q hq
def ArcsJ (k : Nat) (kvs out ys left : KV (List (List UInt8))) : Prop :=
 (ys.map fun z => if (left.map fun y => y.1).contains z.1 then (z.1, (names_Sorted.f k z.2).getD []) else z).Perm out ∧ (∀ z ∈ left, z ∈ ys ∧ z ∈ kvs) ∧ Apart ys
theorem ArcsJ.first {k : Nat} {kvs out ys : KV (List (List UInt8))} (h : arcsM k kvs = some out) (hp : ys.Perm kvs) (hr : Rising kvs) : ArcsJ k kvs out ys kvs := by
 obtain ⟨h1, _⟩ := arcsM_map k kvs out h
 refine ⟨?_, fun z hz => ⟨hp.symm.subset hz, hz⟩, apart_perm hp.symm (Rising.apart hr)⟩
 rw [h1, List.map_congr_left (g := fun z => (z.1, (names_Sorted.f k z.2).getD [])) fun z hz => by
  rw [if_pos]
  rw [List.contains_iff_mem]
  exact List.mem_map.2 ⟨z, hp.subset hz, rfl⟩]
 exact hp.map _
theorem ArcsJ.step {k : Nat} {kvs out ys left left' : KV (List (List UInt8))} {y : List UInt8 × List (List UInt8)} {v : List (List UInt8)} (h : ArcsJ k kvs out ys left) (hp : left.Perm (y :: left')) (ha : Apart left) (hv : names_Sorted.f k y.2 = some v) :
  ArcsJ k kvs out (aput y.1 v ys) left' := by
 obtain ⟨h1, h2, h3⟩ := h
 have hy : y ∈ left := hp.symm.subset List.mem_cons_self
 have hys := (h2 y hy).1
 have ha' : Apart (y :: left') := apart_perm hp ha
 obtain ⟨p1, p2⟩ := List.pairwise_cons.1 ha'
 have e1 : aput y.1 v ys = ys.map fun z => if z.1 = y.1 then (y.1, v) else z := aput_eq h3 ⟨y, hys, rfl⟩
 have hun : ∀ z ∈ ys, z.1 = y.1 → z = y := fun z hz e => by
  have q1 : mget z.1 ys = some z.2 := mget_of h3 hz
  have q2 : mget y.1 ys = some y.2 := mget_of h3 hys
  rw [e, q2] at q1
  have : z.2 = y.2 := (Option.some.inj q1).symm
  exact Prod.ext e this
 refine ⟨?_, fun z hz => ⟨?_, (h2 z (hp.symm.subset (List.mem_cons_of_mem _ hz))).2⟩, ?_⟩
 ·rw [e1, List.map_map]
  refine List.Perm.trans (List.Perm.of_eq ?_) h1
  refine List.map_congr_left fun z hz => ?_
  simp only [Function.comp]
  by_cases e : z.1 = y.1
  ·have hzy := hun z hz e
   subst hzy
   rw [if_pos rfl]
   have n1 : (left'.map fun q => q.1).contains z.1 = false := by
    cases hc : (left'.map fun q => q.1).contains z.1 with
    | false => rfl
    | true =>
     rw [List.contains_iff_mem] at hc
     obtain ⟨q, hq, hqe⟩ := List.mem_map.1 hc
     exact absurd hqe.symm (p1 q hq)
   have n2 : (left.map fun q => q.1).contains z.1 = true := by
    rw [List.contains_iff_mem]
    exact List.mem_map.2 ⟨z, hy, rfl⟩
   rw [n1, n2, hv]; rfl
  ·rw [if_neg e]
   have : (left'.map fun q => q.1).contains z.1 = (left.map fun q => q.1).contains z.1 := by
    rw [Bool.eq_iff_iff, List.contains_iff_mem, List.contains_iff_mem]
    have hm := (hp.map fun q : List UInt8 × List (List UInt8) => q.1).mem_iff (a := z.1)
    rw [hm, List.map_cons, List.mem_cons]
    exact ⟨.inr, fun h => h.resolve_left e⟩
   rw [this]
 ·rw [e1]
  refine List.mem_map.2 ⟨z, (h2 z (hp.symm.subset (List.mem_cons_of_mem _ hz))).1, if_neg (p1 z hz).symm⟩
 ·rw [e1]
  unfold Apart
  rw [List.pairwise_map]
  refine List.Pairwise.imp (fun {a b} h => ?_) h3
  have q : ∀ z : List UInt8 × List (List UInt8), (if z.1 = y.1 then (y.1, v) else z).1 = z.1 := fun z => by
   split
   ·rename_i e; exact e.symm
   ·rfl
  rw [q, q]; exact h
theorem ArcsJ.last {k : Nat} {kvs out ys : KV (List (List UInt8))} (h : ArcsJ k kvs out ys []) : ys.Perm out := by
 have := h.1
 simpa using this
theorem arcsM_rising {k : Nat} {kvs out : KV (List (List UInt8))} (h : arcsM k kvs = some out) (hr : Rising kvs) : Rising out := by
 rw [(arcsM_map k kvs out h).1]
 unfold Rising
 rw [List.pairwise_map]
 exact hr
theorem cycle_arcsOf.ok (O : Out) (k : Nat) (a0 : List T_cycle_Node) (out : List ((List UInt8) × (List (List UInt8)))) (h : cycle_arcsOf.f k a0 = some out) : COk Un O Try.prog 26 { ar := [.p (.list (.named 3)) a0], r := .mp 60500, bs' := [(60500, .map (.list .str) out)], nn := [60500] } := by
 refine cok_of_wp Try.func26 rfl (k := 38) rfl (Nat.le_of_ble_eq_true rfl) (namesOk_of (by kernel_rfl)) ?_
 intro B hN
 refine WpC.conv (cvK (b := ⟨[(0, .p (.list (.named 3)) a0)], []⟩) [0] [] (by kernel_rfl)) ?_
 unfold cycle_arcsOf.f at h
 obtain ⟨⟨hlen, hsum⟩, h⟩ := if_some h
 refine WpC.seq ?_
 refine rS {} [0] [] hN (by kernel_rfl) (by kernel_rfl) ?_
 refine tnU ?_
 refine WpC.seq ?_
 refine rS { its := [(0, .e 0 (sok_makeMapM (U := Un) (rs := []) (d := 8) (wd := 1) rfl rfl rfl))] } [0, 3] [8] hN (by kernel_rfl) (by kernel_rfl) ?_
 refine tnU ?_
 refine sqJ (fun st' => st' = ⟨[(3, .mp 8)], [(8, .map (.list .str) (arcsG a0 []))]⟩) ?_ ?_
 ·refine WpC.seq ?_
  refine rS {} [3, 9, 10, 11] [8] hN (by kernel_rfl) (by kernel_rfl) ?_
  refine tnU ?_
  refine WpC.block ?_
  refine sT (st' := ⟨[(3, .mp 8), (9, .p (.list (.named 3)) a0), (10, .p I6 ((a0.length : Int) : Int)), (11, .p I6 (0 : Int))], [(8, .mapM 1 [] none)]⟩) (by kernel_rfl) ?_
  refine arcs_loop1 hN a0 hlen hsum _ (fun B1 hN i hi ys xs hl hk => ?_) (fun B1 hN i hi ys hl hk => ?_) (fun B1 hN ys => ?_) ?_
  ·have hv : idx a0 (i : Int) = some a0[i] := by simp [idx, hi]
   have hw : IntKind.i64.wrap ((i : Int) + 1) = ((i + 1 : Nat) : Int) := w64n i (by unfold LIM at hlen; omega)
   rw [← hw]
   refine WpC.seq ?_
   refine rS {} [3, 9, 10, 11, 12] [8, 500] hN (by kernel_rfl) (by kernel_rfl) ?_
   refine tnU ?_
   refine WpC.seq ?_
   refine tS (b := (decide ((i : Int) < (a0.length : Int)))) (by kernel_rfl) (fun hc => ?_) (fun hc => ?_)
   ·refine WpC.conv (cS [.k [3, 9, 10, 11] [8, 500]] (by kernel_rfl) (by kernel_rfl)) (WpC.skip ?_)
    refine tnU ?_
    refine WpC.seq ?_
    refine WpC.block ?_
    refine WpC.seq ?_
    refine rS { its := [(0, .v (.named 3) hv)] } [3, 5, 9, 10, 11] [5, 8, 500] hN (by kernel_rfl) (by kernel_rfl) ?_
    refine tnU ?_
    refine rA { its := [(6, .e 6 (sok_lookupM (U := Un) (wd := 1) (rs := [(18, .mp 8), (20, .p .str a0[i].f_Name)]) (r := 500) (len := xs.length) rfl rfl map_46 (.tmp (.head _)) (.tmp (.tail _ (.head _))) hk)), (9, .g hl),
     (10, .e 10 (sok_mapUpdateM (U := Un) (wd := 1) (rs := [(15, .mp 8), (17, .p .str a0[i].f_Name), (24, .vec 24 1 0 (xs ++ a0[i].f_To).length)]) (ys := ys) (cur := some (a0[i].f_Name, 500, xs.length)) rfl rfl rfl map_46 (.tmp (.head _)) (.tmp (.tail _ (.head _))) (.tmp (.tail _ (.tail _ (.head _)))) (by simp [curOk])))] } [3, 9, 10, 11] [8, 24] hN (by kernel_rfl) (by kernel_rfl) (by kernel_rfl) ?_
    refine blockQ_normal ?_
    refine tnU ?_
    refine rS {} [3, 9, 10, 11] [8, 24] hN (by kernel_rfl) (by kernel_rfl) ?_
    exact ⟨rfl, by kernel_rfl⟩
   ·exact absurd hc (by simp; omega)
  ·have hv : idx a0 (i : Int) = some a0[i] := by simp [idx, hi]
   have hw : IntKind.i64.wrap ((i : Int) + 1) = ((i + 1 : Nat) : Int) := w64n i (by unfold LIM at hlen; omega)
   rw [← hw]
   refine WpC.seq ?_
   refine rS {} [3, 9, 10, 11, 12] [8] hN (by kernel_rfl) (by kernel_rfl) ?_
   refine tnU ?_
   refine WpC.seq ?_
   refine tS (b := (decide ((i : Int) < (a0.length : Int)))) (by kernel_rfl) (fun hc => ?_) (fun hc => ?_)
   ·refine WpC.conv (cS [.k [3, 9, 10, 11] [8]] (by kernel_rfl) (by kernel_rfl)) (WpC.skip ?_)
    refine tnU ?_
    refine WpC.seq ?_
    refine WpC.block ?_
    refine WpC.seq ?_
    refine rS { its := [(0, .v (.named 3) hv)] } [3, 5, 9, 10, 11] [5, 8] hN (by kernel_rfl) (by kernel_rfl) ?_
    refine tnU ?_
    refine rA { its := [(6, .e 6 (sok_lookupMN (U := Un) (wd := 1) (rs := [(18, .mp 8), (20, .p .str a0[i].f_Name)]) rfl rfl map_46 zsl_23 (.tmp (.head _)) (.tmp (.tail _ (.head _))) hk)), (9, .g hl),
     (10, .e 10 (sok_mapUpdateM (U := Un) (wd := 1) (rs := [(15, .mp 8), (17, .p .str a0[i].f_Name), (24, .vec 24 1 0 a0[i].f_To.length)]) (ys := ys) (cur := none) rfl rfl rfl map_46 (.tmp (.head _)) (.tmp (.tail _ (.head _))) (.tmp (.tail _ (.tail _ (.head _)))) (by simp [curOk, hk])))] } [3, 9, 10, 11] [8, 24] hN (by kernel_rfl) (by kernel_rfl) (by kernel_rfl) ?_
    refine blockQ_normal ?_
    refine tnU ?_
    refine rS {} [3, 9, 10, 11] [8, 24] hN (by kernel_rfl) (by kernel_rfl) ?_
    exact ⟨rfl, by kernel_rfl⟩
   ·exact absurd hc (by simp; omega)
  ·refine WpC.seq ?_
   refine rS {} [3, 9, 10, 11, 12] [8] hN (by kernel_rfl) (by kernel_rfl) ?_
   refine tnU ?_
   refine WpC.seq ?_
   refine tS (b := (decide ((a0.length : Int) < (a0.length : Int)))) (by kernel_rfl) (fun hc => ?_) (fun hc => ?_)
   ·exact absurd hc (by simp)
   ·refine WpC.conv (cS [.k [3] [8]] (by kernel_rfl) (by kernel_rfl)) (WpC.exit ?_)
    refine thenQ_exit ?_
    exact ⟨rfl, by kernel_rfl⟩
  ·exact blockQ_hit (tnU rfl)
 ·rintro _ rfl
  have hris : Rising (arcsG a0 []) := arcsG_rising _ .nil
  have hro := arcsM_rising h hris
  refine sqJ (fun st' => st' = ⟨[(3, .mp 8)], [(8, .map (.list .str) out)]⟩) ?_ ?_
  ·refine WpC.seq ?_
   refine WpC.openMap (U := Un) (t := .list .str) (n := 8) (kvs := arcsG a0 []) (.head _) ?_
   intro es ck ys hys hri
   refine WpC.conv (Conv.keep (b := ⟨[(3, .mp 8)], [(8, .mapE (.list .str) es ck ys)]⟩) [3] [8] (by kernel_rfl)) ?_
   refine rS { its := [(1, .e 1 (sok_range (U := Un) (t := .list .str) (es := es) (clock := ck) (kvs := arcsG a0 []) (rs := [(26, .mp 8)]) (d := 27) (m := 8) rfl rfl rfl map_46 hys (by decide) (.tmp (.head _))))] } [3, 27] [8, 27] hN (by kernel_rfl) (by kernel_rfl) ?_
   refine tnU ?_
   refine WpC.block ?_
   refine WpC.loop (U := Un) (fun n st' => ∃ es ck ys left, n = left.length ∧ ArcsJ k (arcsG a0 []) out ys left ∧ st' = ⟨[(3, .mp 8), (27, .loc 27 0)], [(8, .mapE (.list .str) es ck ys), (27, .iter 8 (.list .str) es ck ys left none)]⟩) (arcsG a0 []).length ⟨es, ck, ys, arcsG a0 [], rfl, ArcsJ.first h hys hris, by kernel_rfl⟩ ?_
   clear hys hri es ck ys
   rintro n _ ⟨es, ck, ys, left, rfl, hJ, rfl⟩
   refine WpC.seq ?_
   refine WpC.next (U := Un) (t := .list .str) (d := 27) (m := 8) (it := 27) (left := left) [3, 27, 29] [8, 27] hN rfl rfl rfl rfl rfl rfl (by decide) (by decide) (by decide) (.tail _ (.head _)) (.tail _ (.head _)) (.head _)
    (fun y left' hp ha => ⟨⟨[(3, .mp 8), (27, .loc 27 0), (29, .p .bool true)], [(8, .mapE (.list .str) es ck ys), (27, .iter 8 (.list .str) es ck ys left' (some y))]⟩, by kernel_rfl, _, Conv.refl _, ?_⟩)
    (fun hl => ⟨⟨[(3, .mp 8), (27, .loc 27 0), (29, .p .bool false)], [(8, .mapE (.list .str) es ck ys), (27, .iter 8 (.list .str) es ck ys left none)]⟩, by kernel_rfl, _, Conv.refl _, ?_⟩)
   ·refine tnU ?_
    have hy : y ∈ left := hp.symm.subset List.mem_cons_self
    obtain ⟨v, hv⟩ := Option.isSome_iff_exists.1 ((arcsM_map k _ out h).2 y (hJ.2.1 y hy).2)
    refine WpC.seq ?_
    refine tS (b := true) (by kernel_rfl) (fun hc => ?_) (fun hc => ?_)
    ·refine WpC.conv (cS [.k [3, 27] [8, 27]] (by kernel_rfl) (by kernel_rfl)) (WpC.skip ?_)
     refine tnU ?_
     refine WpC.block ?_
     refine WpC.seq ?_
     refine rS { its := [(0, .e 0 (sok_entry (U := Un) (t := .list .str) (rs := [(27, .loc 27 0)]) (d := 27) (m := 8) (es := es) (clock := ck) (ys := ys) (left := left') (y := y) rfl rfl (.tmp (.head _))))] } [3, 6, 7, 27] [8, 27] hN (by kernel_rfl) (by kernel_rfl) ?_
     refine tnU ?_
     refine sT (st' := ⟨[(3, .mp 8), (6, .p .str y.1), (7, .p (.list .str) y.2), (27, .loc 27 0)], [(8, .mapE (.list .str) es ck ys), (27, .iter 8 (.list .str) es ck ys left' (some y))]⟩) (by kernel_rfl) ?_
     refine WpC.regionT (F := fun st' => ∃ es', st' = ⟨[(3, .mp 8), (6, .p .str y.1), (7, .p (.list .str) y.2), (27, .loc 27 0), (33, .mp 8), (34, .p .str y.1), (35, .p (.list .str) y.2), (36, .p (.list .str) v)], [(8, .mapE (.list .str) es' ck (aput y.1 v ys)), (27, .iter 8 (.list .str) es' ck (aput y.1 v ys) left' none)]⟩) hN ?_ ?_
     ·refine .cons (moU (rs := [(3, .mp 8)]) rfl (.inl rfl) (.tmp (.head _))) ⟨by simp, by simp, by simp, by simp, by simp, by simp⟩ (fun t ht => by cases ht; decide) ?_
      refine .cons (moU (rs := [(6, .p .str y.1)]) rfl (.inl rfl) (.tmp (.head _))) ⟨by simp [St.next, St.setS, setA], by simp, by simp, by simp, by simp, by simp⟩ (fun t ht => by cases ht; decide) ?_
      refine .cons (moU (rs := [(7, .p (.list .str) y.2)]) rfl (.inl rfl) (.tmp (.head _))) ⟨by simp [St.next, St.setS, setA], by simp, by simp, by simp, by simp, by simp⟩ (fun t ht => by cases ht; decide) ?_
      refine .cons (sok_call (U := Un) (rs := [(35, .p (.list .str) y.2)]) (vw := []) rfl rfl hb_24 (COk.frz (U := Un) (t := .str) (n := 60500) (E := 9) (xs := v) (fx := false) (names_Sorted.ok O k y.2 v hv)) (.cons (.tmp (.head _)) .nil) (.cons (.same _) .nil) (by simp) (.inl rfl)) ⟨by simp [St.next, St.setS, setA], by simp, by simp, by simp, by simp, by simp⟩ (fun t ht => by cases ht; decide) ?_
      refine .any (fun es' : Array MapEntry => { rs := [(33, .mp 8), (34, .p .str y.1), (36, .p (.list .str) v)], cb := [(8, .mapE (.list .str) es ck ys), (27, .iter 8 (.list .str) es ck ys left' (some y))], pb := [(8, .mapE (.list .str) es' ck (aput y.1 v ys)), (27, .iter 8 (.list .str) es' ck (aput y.1 v ys) left' none)] })
       (rs := [(33, .mp 8), (34, .p .str y.1), (36, .p (.list .str) v)]) (ro := []) (cb := [(8, .mapE (.list .str) es ck ys), (27, .iter 8 (.list .str) es ck ys left' (some y))]) (fun es' => ⟨by simp [St.next, St.setS, setA], by simp, by simp [St.next, St.setS, setA], by simp, by simp, by simp⟩) (by simp [St.next, St.setS, setA]) (by simp [St.next, St.setS, setA]) (fun t ht => by cases ht)
       (upd_entry (U := Un) (t := .list .str) (T := 46) rfl rfl rfl map_46 (by decide) (.tmp (.head _)) (.tmp (.tail _ (.head _))) (.tmp (.tail _ (.tail _ (.head _))))) (fun es' => .nil ⟨es', ?_⟩)
      kernel_rfl
     ·rintro _ ⟨es', rfl⟩
      refine ⟨⟨[(3, .mp 8), (27, .loc 27 0)], [(8, .mapE (.list .str) es' ck (aput y.1 v ys)), (27, .iter 8 (.list .str) es' ck (aput y.1 v ys) left' none)]⟩, Conv.keep [3, 27] [8, 27] (by kernel_rfl), ?_⟩
      refine blockQ_normal ?_
      refine tnU ?_
      exact ⟨left'.length, by have := hp.length_eq; rw [List.length_cons] at this; exact Nat.lt_of_lt_of_eq (Nat.lt_succ_self _) this.symm, es', ck, aput y.1 v ys, left', rfl, hJ.step hp ha hv, rfl⟩
    ·cases hc
   ·refine tnU ?_
    subst hl
    refine WpC.seq ?_
    refine tS (b := false) (by kernel_rfl) (fun hc => ?_) (fun hc => ?_)
    ·cases hc
    ·refine WpC.conv (cS [.cm (t := .list .str) (ys := ys) (kvs := out) 8 hJ.last hro, .k [3] [8]] (by kernel_rfl) (by kernel_rfl)) (WpC.exit ?_)
     refine thenQ_exit ?_
     refine thenQ_exit ?_
     refine blockQ_hit ?_
     refine tnU ?_
     kernel_rfl
  ·rintro _ rfl
   refine WpC.seq ?_
   refine rS {} [2] [8] hN (by kernel_rfl) (by kernel_rfl) ?_
   refine tnU ?_
   refine WpC.conv (cS [.rn 8 60500, .k [2] [60500]] (by kernel_rfl) (by kernel_rfl)) (WpC.ret ?_)
   exact eR (by kernel_rfl) (by kernel_rfl)

theorem cycle_Names.ok (O : Out) (k : Nat) (a0 : List T_cycle_Node) (out : List (List UInt8)) (h : cycle_Names.f k a0 = some out) : COk Un O Try.prog 11 { ar := [.p (.list (.named 3)) a0], r := .vec 60500 1 0 out.length, bs' := [(60500, .row 9 .str out false)], nn := [60500] } := by
 refine cok_of_wp Try.func11 rfl (k := 23) rfl (Nat.le_of_ble_eq_true rfl) (namesOk_of (by kernel_rfl)) ?_
 intro B hN
 refine WpC.conv (cvK (b := ⟨[(0, .p (.list (.named 3)) a0)], []⟩) [0] [] (by kernel_rfl)) ?_
 unfold cycle_Names.f at h
 refine WpC.seq ?_
 refine rS {} [0] [] hN (by kernel_rfl) (by kernel_rfl) ?_
 refine tnU ?_
 refine WpC.seq ?_
 refine rS {} [0, 3] [] hN (by kernel_rfl) (by kernel_rfl) ?_
 refine tnU ?_
 refine sqJ (fun st' => ∃ v1 : List (List UInt8), cycle_Names.j3 k v1 = some out ∧ st' = ⟨[(3, .vec 1003 1 0 v1.length)], [(1003, .row 9 .str v1 false)]⟩) ?_ ?_
 ·refine WpC.seq ?_
  refine rS {} [3, 6, 7, 8] [] hN (by kernel_rfl) (by kernel_rfl) ?_
  refine tnU ?_
  refine WpC.block ?_
  obtain ⟨o8, hlo8, h⟩ := bind_some h
  have hout9 := h
  clear h
  refine WpC.conv (cS [.th 3 1003 9 .str, .k [3, 6, 7, 8] [1003]] (by kernel_rfl) (by kernel_rfl)) ?_
  refine WpC.loop (U := Un) (fun n st' => ∃ v4 : List (List UInt8), ∃ v5 : Int, cycle_Names.l6 k a0 n v4 v5 = some o8 ∧ st' = ⟨[(3, .vec 1003 1 0 v4.length), (6, .p (.list (.named 3)) a0), (7, .p I6 ((a0.length : Int) : Int)), (8, .p I6 v5)], [(1003, .row 9 .str v4 false)]⟩) k ⟨[], 0, hlo8, by kernel_rfl⟩ ?_
  clear hlo8
  rintro (_ | n) _ ⟨v4, v5, h, rfl⟩
  ·cases h
  ·rw [cycle_Names.l6] at h
   refine WpC.seq ?_
   refine rS {} [3, 6, 7, 8, 9] [1003] hN (by kernel_rfl) (by kernel_rfl) ?_
   refine tnU ?_
   refine WpC.seq ?_
   refine tS (b := (decide (v5 < (a0.length : Int)))) (by kernel_rfl) (fun hc10 => ?_) (fun hc10 => ?_)
   ·replace h := ite_t hc10 h
    refine WpC.conv (cS [.k [3, 6, 7, 8] [1003]] (by kernel_rfl) (by kernel_rfl)) (WpC.skip ?_)
    refine tnU ?_
    refine WpC.seq ?_
    refine WpC.block ?_
    refine WpC.seq ?_
    obtain ⟨v11, hv11, h⟩ := bind_some h
    refine rS { its := [(0, .v (.named 3) hv11)] } [3, 5, 6, 7, 8] [5, 1003] hN (by kernel_rfl) (by kernel_rfl) ?_
    refine tnU ?_
    obtain ⟨g12, h⟩ := if_some h
    obtain ⟨g13, h⟩ := if_some h
    refine rA { its := [(4, .g g12), (7, .g g13)] } [3, 6, 7, 8] [19] hN (by kernel_rfl) (by kernel_rfl) (by kernel_rfl) ?_
    refine blockQ_normal ?_
    refine tnU ?_
    refine rSC {} [3, 6, 7, 8] [19] hN (by kernel_rfl) (by kernel_rfl) (cS [.rn 19 1003, .k [3, 6, 7, 8] [1003]] (by kernel_rfl) (by kernel_rfl)) ?_
    refine tnU ?_
    exact ⟨n, Nat.lt_succ_self n, ((v4 ++ [v11.f_Name]) ++ v11.f_To), (IntKind.i64.wrap (v5 + 1)), h, by kernel_rfl⟩
   ·replace h := ite_f hc10 h
    refine WpC.conv (cS [.k [3] [1003]] (by kernel_rfl) (by kernel_rfl)) (WpC.exit ?_)
    refine thenQ_exit ?_
    have hq := Option.some.inj h
    subst hq
    refine thenQ_exit ?_
    have h := hout9
    refine blockQ_hit ?_
    refine tnU ?_
    exact ⟨v4, h, by kernel_rfl⟩
 ·rintro _ ⟨v1, h, rfl⟩
  unfold cycle_Names.j3 at h
  refine WpC.seq ?_
  obtain ⟨v2, hv2, h⟩ := bind_some h
  refine rS { its := [(1, .c (COk.ren (names_Sorted.ok O k v1 v2 hv2) (fun n => if n = 60500 then 10001 else n) (injOn_of (by kernel_rfl))))] } [2] [10001] hN (by kernel_rfl) (by kernel_rfl) ?_
  refine tnU ?_
  refine WpC.conv (cS [.rn 10001 60500, .k [2] [60500]] (by kernel_rfl) (by kernel_rfl)) (WpC.ret ?_)
  have hq := Option.some.inj h
  subst hq
  exact eR (by kernel_rfl) (by kernel_rfl)

theorem slices_Index_string_string.ok (O : Out) (k : Nat) (a0 : List (List UInt8)) (a1 : List UInt8) (out : Int) (h : slices_Index_string_string.f k a0 a1 = some out) : COk Un O Try.prog 41 { ar := [.p (.list .str) a0, .p .str a1], r := .p I6 out } := by
 refine cok_of_wp Try.func41 rfl (k := 19) rfl (Nat.le_of_ble_eq_true rfl) (namesOk_pure rfl rfl rfl rfl) ?_
 intro B hN
 refine WpC.conv (cvK (b := ⟨[(0, .p (.list .str) a0), (1, .p .str a1)], []⟩) [0, 1] [] (by kernel_rfl)) ?_
 unfold slices_Index_string_string.f at h
 refine WpC.seq ?_
 refine rS {} [0, 1] [] hN (by kernel_rfl) (by kernel_rfl) ?_
 refine tnU ?_
 refine sqJ (fun st' => slices_Index_string_string.j1 k = some out ∧ st' = ⟨[], []⟩) ?_ ?_
 ·refine WpC.seq ?_
  refine rS {} [0, 1, 7, 8] [] hN (by kernel_rfl) (by kernel_rfl) ?_
  refine tnU ?_
  refine WpC.block ?_
  obtain ⟨o4, hlo4, h⟩ := bind_some h
  have hout5 := h
  clear h
  refine WpC.loop (U := Un) (fun n st' => ∃ v2 : Int, slices_Index_string_string.l3 k a0 a1 n v2 = some o4 ∧ st' = ⟨[(0, .p (.list .str) a0), (1, .p .str a1), (7, .p I6 ((a0.length : Int) : Int)), (8, .p I6 v2)], []⟩) k ⟨0, hlo4, by kernel_rfl⟩ ?_
  clear hlo4
  rintro (_ | n) _ ⟨v2, h, rfl⟩
  ·cases h
  ·rw [slices_Index_string_string.l3] at h
   refine WpC.seq ?_
   refine rS {} [0, 1, 7, 8, 9] [] hN (by kernel_rfl) (by kernel_rfl) ?_
   refine tnU ?_
   refine WpC.seq ?_
   refine tS (b := (decide (v2 < (a0.length : Int)))) (by kernel_rfl) (fun hc6 => ?_) (fun hc6 => ?_)
   ·replace h := ite_t hc6 h
    refine WpC.conv (cS [.k [0, 1, 7, 8] []] (by kernel_rfl) (by kernel_rfl)) (WpC.skip ?_)
    refine tnU ?_
    refine WpC.seq ?_
    refine WpC.block ?_
    refine WpC.seq ?_
    refine rS {} [0, 1, 5, 7, 8] [] hN (by kernel_rfl) (by kernel_rfl) ?_
    refine tnU ?_
    refine WpC.seq ?_
    obtain ⟨v7, hv7, h⟩ := bind_some h
    refine rS { its := [(3, .v .str hv7)] } [0, 1, 5, 7, 8, 16] [] hN (by kernel_rfl) (by kernel_rfl) ?_
    refine tnU ?_
    refine tS (b := (a1 == v7)) (by kernel_rfl) (fun hc8 => ?_) (fun hc8 => ?_)
    ·replace h := ite_t hc8 h
     refine WpC.seq ?_
     refine rS {} [4] [] hN (by kernel_rfl) (by kernel_rfl) ?_
     refine tnU ?_
     refine WpC.ret ?_
     refine blockQ_ret ?_
     refine thenQ_ret ?_
     have hq := Option.some.inj h
     subst hq
     refine thenQ_ret ?_
     have h := hout5
     refine blockQ_ret ?_
     refine thenQ_ret ?_
     have hq := Option.some.inj h
     subst hq
     exact eR (by kernel_rfl) (by kernel_rfl)
    ·replace h := ite_f hc8 h
     refine WpC.conv (cS [.k [0, 1, 7, 8] []] (by kernel_rfl) (by kernel_rfl)) (WpC.skip ?_)
     refine blockQ_normal ?_
     refine tnU ?_
     refine rS {} [0, 1, 7, 8] [] hN (by kernel_rfl) (by kernel_rfl) ?_
     refine tnU ?_
     exact ⟨n, Nat.lt_succ_self n, (IntKind.i64.wrap (v2 + 1)), h, by kernel_rfl⟩
   ·replace h := ite_f hc6 h
    refine WpC.conv (cS [.k [] []] (by kernel_rfl) (by kernel_rfl)) (WpC.exit ?_)
    refine thenQ_exit ?_
    have hq := Option.some.inj h
    subst hq
    refine thenQ_exit ?_
    have h := hout5
    refine blockQ_hit ?_
    refine tnU ?_
    exact ⟨h, by kernel_rfl⟩
 ·rintro _ ⟨h, rfl⟩
  unfold slices_Index_string_string.j1 at h
  refine WpC.seq ?_
  refine rS {} [4] [] hN (by kernel_rfl) (by kernel_rfl) ?_
  refine tnU ?_
  refine WpC.ret ?_
  have hq := Option.some.inj h
  subst hq
  exact eR (by kernel_rfl) (by kernel_rfl)

theorem slices_Contains_string_string.ok (O : Out) (k : Nat) (a0 : List (List UInt8)) (a1 : List UInt8) (out : Bool) (h : slices_Contains_string_string.f k a0 a1 = some out) : COk Un O Try.prog 36 { ar := [.p (.list .str) a0, .p .str a1], r := .p .bool out } := by
 refine cok_of_wp Try.func36 rfl (k := 9) rfl (Nat.le_of_ble_eq_true rfl) (namesOk_pure rfl rfl rfl rfl) ?_
 intro B hN
 refine WpC.conv (cvK (b := ⟨[(0, .p (.list .str) a0), (1, .p .str a1)], []⟩) [0, 1] [] (by kernel_rfl)) ?_
 unfold slices_Contains_string_string.f at h
 refine WpC.seq ?_
 refine rS {} [0, 1] [] hN (by kernel_rfl) (by kernel_rfl) ?_
 refine tnU ?_
 refine WpC.seq ?_
 obtain ⟨v1, hv1, h⟩ := bind_some h
 refine rS { its := [(2, .c (slices_Index_string_string.ok O k a0 a1 v1 hv1))] } [4] [] hN (by kernel_rfl) (by kernel_rfl) ?_
 refine tnU ?_
 refine WpC.ret ?_
 have hq := Option.some.inj h
 subst hq
 exact eR (by kernel_rfl) (by kernel_rfl)

theorem names_Has.ok (O : Out) (k : Nat) (a0 : List (List UInt8)) (a1 : List UInt8) (out : Bool) (h : names_Has.f k a0 a1 = some out) : COk Un O Try.prog 28 { ar := [.p (.list .str) a0, .p .str a1], r := .p .bool out } := by
 refine cok_of_wp Try.func28 rfl (k := 8) rfl (Nat.le_of_ble_eq_true rfl) (namesOk_pure rfl rfl rfl rfl) ?_
 intro B hN
 refine WpC.conv (cvK (b := ⟨[(0, .p (.list .str) a0), (1, .p .str a1)], []⟩) [0, 1] [] (by kernel_rfl)) ?_
 unfold names_Has.f at h
 refine WpC.seq ?_
 refine rS {} [0, 1] [] hN (by kernel_rfl) (by kernel_rfl) ?_
 refine tnU ?_
 refine WpC.seq ?_
 obtain ⟨v1, hv1, h⟩ := bind_some h
 refine rS { its := [(2, .c (slices_Contains_string_string.ok O k a0 a1 v1 hv1))] } [4] [] hN (by kernel_rfl) (by kernel_rfl) ?_
 refine tnU ?_
 refine WpC.ret ?_
 have hq := Option.some.inj h
 subst hq
 exact eR (by kernel_rfl) (by kernel_rfl)

theorem cycle_arcs_reach_m0.ok (O : Out) (k : Nat) (a0 : List ((List UInt8) × (List (List UInt8)))) (a1 : List UInt8) (out : List (List UInt8)) (h : cycle_arcs_reach_m0.f k a0 a1 = some out) : COk Un O Try.prog 27 { ar := [.mp 100000, .p .str a1], r := .p (.list .str) out, bs := [(100000, .map (.list .str) a0)], bs' := [(100000, .map (.list .str) a0)] } := by
 refine cok_of_wp Try.func27 rfl (k := 35) rfl (Nat.le_of_ble_eq_true rfl) (namesOk_of (by kernel_rfl)) ?_
 intro B hN
 refine WpC.conv (cvK (b := ⟨[(0, .mp 100000), (1, .p .str a1)], [(100000, .map (.list .str) a0)]⟩) [0, 1] [100000] (by kernel_rfl)) ?_
 unfold cycle_arcs_reach_m0.f at h
 obtain ⟨v1, hv1, h⟩ := bind_some h
 obtain ⟨v2, hv2, h⟩ := bind_some h
 refine WpC.seq ?_
 refine rS {} [0, 1] [100000] hN (by kernel_rfl) (by kernel_rfl) ?_
 refine tnU ?_
 refine WpC.seq ?_
 refine rS {} [0, 1, 5] [100000] hN (by kernel_rfl) (by kernel_rfl) ?_
 refine tnU ?_
 refine WpC.seq ?_
 refine rS { its := [(3, .c (COk.ren (pCloneR.ok O k ((mget a1 a0).getD []) v1 hv1) (fun n => if n = 60500 then 10001 else n) (injOn_of (by kernel_rfl))))] } [0, 5, 6] [10001, 100000] hN (by kernel_rfl) (by kernel_rfl) ?_
 refine tnU ?_
 refine sqJ (fun st' => st' = ⟨[(5, .vec 1005 1 0 v2.length)], [(1005, .row 9 .str v2 false), (100000, .map (.list .str) a0)]⟩) ?_ ?_
 ·refine WpC.block ?_
  refine WpC.conv (cS [.th 5 1005 9 .str, .k [0, 5, 6] [1005, 10001, 100000], .rn 10001 1006, .k [0, 5, 6] [1005, 1006, 100000]] (by kernel_rfl) (by kernel_rfl)) ?_
  refine WpC.loop (U := Un) (fun n st' => ∃ out q pre : List (List UInt8), cycle_arcs_reach_m0.l k a0 n out q = some v2 ∧ st' = ⟨[(0, .mp 100000), (5, .vec 1005 1 0 out.length), (6, .vec 1006 1 pre.length q.length)], [(1005, .row 9 .str out false), (1006, .row 9 .str (pre ++ q) false), (100000, .map (.list .str) a0)]⟩) k ⟨[], v1, [], hv2, by kernel_rfl⟩ ?_
  clear hv2
  rintro (_ | n) _ ⟨out, q, pre, hl, rfl⟩
  ·cases hl
  ·refine WpC.seq ?_
   refine WpC.seq ?_
   refine rS {} [0, 5, 6, 14] [1005, 1006, 100000] hN (by kernel_rfl) (by kernel_rfl) ?_
   refine tnU ?_
   refine tS (b := (decide ((q.length : Int) > 0))) (by kernel_rfl) (fun hc => ?_) (fun hc => ?_)
   ·cases q with
    | nil => simp at hc
    | cons x q =>
     unfold cycle_arcs_reach_m0.l at hl
     obtain ⟨v, hv, hl⟩ := bind_some hl
     have e1 : pre ++ x :: q = (pre ++ [x]) ++ q := by simp
     have e2 : pre.length + 1 = (pre ++ [x]).length := by simp
     have hx : (pre ++ x :: q)[pre.length + (0 : Int).toNat]? = some x := by simp
     have g1 : (0 : Int) ≤ 0 ∧ (0 : Int) < ((x :: q).length : Int) := ⟨Int.le_refl _, by simp⟩
     have g2 : (0 : Int) ≤ 1 ∧ (1 : Int) ≤ ((x :: q).length : Int) ∧ pre.length + ((x :: q).length : Int).toNat ≤ (pre ++ x :: q).length := ⟨by omega, by simp; omega, by simp⟩
     refine WpC.conv (cS [.k [0, 5, 6] [1005, 1006, 100000]] (by kernel_rfl) (by kernel_rfl)) (WpC.skip ?_)
     refine tnU ?_
     refine WpC.block ?_
     refine WpC.seq ?_
     refine rS { its := [(1, .g g1), (2, .v .str hx)] } [0, 5, 6, 7] [1005, 1006, 100000] hN (by kernel_rfl) (by kernel_rfl) ?_
     refine tnU ?_
     refine WpC.seq ?_
     refine rS { its := [(1, .g g2)] } [0, 5, 6, 7] [1005, 1006, 100000] hN (by kernel_rfl) (by kernel_rfl) ?_
     refine tnU ?_
     refine sT (st' := ⟨[(0, .mp 100000), (5, .vec 1005 1 0 out.length), (6, .vec 1006 1 (pre.length + 1) q.length), (7, .p .str x)], [(1005, .row 9 .str out false), (1006, .row 9 .str (pre ++ x :: q) false), (100000, .map (.list .str) a0)]⟩) (by kernel_rfl) ?_
     rw [e1, e2]
     refine WpC.seq ?_
     refine rS { its := [(2, .c (names_Has.ok O k out x v hv))] } [0, 5, 6, 7, 23] [1005, 1006, 100000] hN (by kernel_rfl) (by kernel_rfl) ?_
     refine tnU ?_
     refine tS (b := !v) (by kernel_rfl) (fun hc2 => ?_) (fun hc2 => ?_)
     ·have hvf : v = false := by simpa using hc2
      subst hvf
      rw [if_neg (by decide)] at hl
      obtain ⟨g3, hl⟩ := if_some hl
      obtain ⟨g4, hl⟩ := if_some hl
      refine WpC.seq ?_
      refine rS { its := [(3, .g g3)] } [0, 5, 6, 7] [27, 1006, 100000] hN (by kernel_rfl) (by kernel_rfl) ?_
      refine tnU ?_
      refine sT (st' := ⟨[(0, .mp 100000), (5, .vec 27 1 0 (out ++ [x]).length), (6, .vec 1006 1 (pre ++ [x]).length q.length), (7, .p .str x)], [(27, .row 9 .str (out ++ [x]) false), (1006, .row 9 .str ((pre ++ [x]) ++ q) false), (100000, .map (.list .str) a0)]⟩) (by kernel_rfl) ?_
      generalize pre ++ [x] = P
      refine WpC.regionT (F := fun st' => st' = ⟨[(0, .mp 100000), (5, .vec 27 1 0 (out ++ [x]).length), (6, .vec 1006 1 P.length (q ++ ((mget x a0).getD [])).length), (7, .p .str x), (28, .vec 1006 1 P.length q.length), (29, .mp 100000), (30, .p .str x), (31, .p (.list .str) ((mget x a0).getD [])), (32, .vec 1006 1 P.length (q ++ ((mget x a0).getD [])).length)], [(27, .row 9 .str (out ++ [x]) false), (100000, .map (.list .str) a0), (1006, .row 9 .str (P ++ (q ++ ((mget x a0).getD []))) false)]⟩ ∨
       st' = ⟨[(0, .mp 100000), (5, .vec 27 1 0 (out ++ [x]).length), (6, .vec 32 1 0 (q ++ ((mget x a0).getD [])).length), (7, .p .str x), (28, .vec 1006 1 P.length q.length), (29, .mp 100000), (30, .p .str x), (31, .p (.list .str) ((mget x a0).getD [])), (32, .vec 32 1 0 (q ++ ((mget x a0).getD [])).length)], [(27, .row 9 .str (out ++ [x]) false), (100000, .map (.list .str) a0), (32, .row 9 .str (q ++ ((mget x a0).getD [])) false)]⟩) hN ?_ ?_
      ·refine .cons (moU (rs := [(6, .vec 1006 1 P.length q.length)]) rfl (.inl rfl) (.tmp (.head _))) ⟨by simp, by simp, by simp, by simp, by simp, by simp⟩ (fun t ht => by cases ht; decide) ?_
       refine .cons (moU (rs := [(0, .mp 100000)]) rfl (.inl rfl) (.tmp (.head _))) ⟨by simp [St.next, St.setS, setA], by simp, by simp, by simp, by simp, by simp⟩ (fun t ht => by cases ht; decide) ?_
       refine .cons (moU (rs := [(7, .p .str x)]) rfl (.inl rfl) (.tmp (.head _))) ⟨by simp [St.next, St.setS, setA], by simp, by simp, by simp, by simp, by simp⟩ (fun t ht => by cases ht; decide) ?_
       refine .cons (sok_lookup (U := Un) (t := .list .str) (rs := [(29, .mp 100000), (30, .p .str x)]) (kvs := a0) rfl rfl map_46 zv_23 (.tmp (.head _)) (.tmp (.tail _ (.head _)))) ⟨by simp [St.next, St.setS, setA], by simp [St.next, St.setS, setA], by simp, by simp, by simp, by simp⟩ (fun t ht => by cases ht; decide) ?_
       refine .any (fun q' : Bool => if q' then { rs := [(28, .vec 1006 1 P.length q.length), (31, .p (.list .str) ((mget x a0).getD []))], cb := [(1006, .row 9 .str (P ++ q) false)], ws := .vec 1006 1 P.length (q ++ ((mget x a0).getD [])).length, pb := [(1006, .row 9 .str (P ++ (q ++ ((mget x a0).getD []))) false)] }
         else { rs := [(28, .vec 1006 1 P.length q.length), (31, .p (.list .str) ((mget x a0).getD []))], cb := [(1006, .row 9 .str (P ++ q) false)], ws := .vec 32 1 0 (q ++ ((mget x a0).getD [])).length, pb := [(32, .row 9 .str (q ++ ((mget x a0).getD [])) false)], nn := [32] })
        (rs := [(28, .vec 1006 1 P.length q.length), (31, .p (.list .str) ((mget x a0).getD []))]) (ro := []) (cb := [(1006, .row 9 .str (P ++ q) false)]) (fun q' => ?_) (by simp [St.next, St.setS, setA]; rfl) (by simp [St.next, St.setS, setA]) (fun t ht => by cases ht; decide) ?_ ?_
       ·cases q'
        ·exact ⟨by simp [St.next, St.setS, setA]; rfl, by simp, by simp [St.next, St.setS, setA], by simp [St.next, St.setS, setA, St.names, nm, AVal.names, Blk.names], by simp, by simp [K0]⟩
        ·exact ⟨by simp [St.next, St.setS, setA]; rfl, by simp, by simp [St.next, St.setS, setA], by simp, by simp, by simp⟩
       ·intro S ι w a q1 q2 q3 q4 q5 q6 K Q q7
        exact tail_append (U := Un) (t := .str) (T := 23) (E := 9) (d := 32) (by_ := 16) rfl rfl rfl row_23 (by decide) rfl (.tmp (.head _)) (.tmp (.tail _ (.head _))) g4 S ι w a q1 q2 q3 q4 q5 q6 K Q (q7 true) (q7 false)
       ·intro q'
        cases q'
        ·refine .cons (moU (rs := [(32, .vec 32 1 0 (q ++ ((mget x a0).getD [])).length)]) rfl (.inr rfl) (.tmp (.head _))) ⟨by simp [St.next, St.setS, setA], by simp, by simp, by simp, by simp, by simp⟩ (fun t ht => by cases ht; decide) (.nil (.inr ?_))
         kernel_rfl
        ·refine .cons (moU (rs := [(32, .vec 1006 1 P.length (q ++ ((mget x a0).getD [])).length)]) rfl (.inr rfl) (.tmp (.head _))) ⟨by simp [St.next, St.setS, setA], by simp, by simp, by simp, by simp, by simp⟩ (fun t ht => by cases ht; decide) (.nil (.inl ?_))
         kernel_rfl
      ·rintro _ (rfl | rfl)
       ·refine ⟨_, cS [.rn 27 1005, .k [0, 5, 6] [1005, 1006, 100000]] (by kernel_rfl) (by kernel_rfl), ?_⟩
        refine blockQ_normal ?_
        refine tnU ?_
        exact ⟨n, Nat.lt_succ_self n, out ++ [x], q ++ ((mget x a0).getD []), P, hl, by kernel_rfl⟩
       ·refine ⟨_, cS [.k [0, 5, 6] [27, 32, 100000], .rn 27 1005, .rn 32 1006, .k [0, 5, 6] [1005, 1006, 100000]] (by kernel_rfl) (by kernel_rfl), ?_⟩
        refine blockQ_normal ?_
        refine tnU ?_
        exact ⟨n, Nat.lt_succ_self n, out ++ [x], q ++ ((mget x a0).getD []), [], hl, by kernel_rfl⟩
     ·have hvt : v = true := by simpa using hc2
      subst hvt
      rw [if_pos rfl] at hl
      refine WpC.conv (cS [.k [0, 5, 6] [1005, 1006, 100000]] (by kernel_rfl) (by kernel_rfl)) (WpC.skip ?_)
      refine blockQ_normal ?_
      refine tnU ?_
      exact ⟨n, Nat.lt_succ_self n, out, q, pre ++ [x], hl, by kernel_rfl⟩
   ·cases q with
    | cons x q => exact absurd hc (by simp)
    | nil =>
     unfold cycle_arcs_reach_m0.l at hl
     have hq := Option.some.inj hl
     subst hq
     refine WpC.conv (cS [.k [5] [1005, 100000]] (by kernel_rfl) (by kernel_rfl)) (WpC.exit ?_)
     refine thenQ_exit ?_
     refine thenQ_exit ?_
     refine blockQ_hit ?_
     refine tnU ?_
     kernel_rfl
 ·rintro _ rfl
  refine WpC.seq ?_
  refine rS { its := [(1, .c (COk.ren (names_Sorted.ok O k v2 out h) (fun n => if n = 60500 then 10001 else n) (injOn_of (by kernel_rfl))))] } [4] [10001, 100000] hN (by kernel_rfl) (by kernel_rfl) ?_
  refine tnU ?_
  refine WpC.conv (cS [.fz 4, .k [4] [100000]] (by kernel_rfl) (by kernel_rfl)) (WpC.ret ?_)
  exact eR (by kernel_rfl) (by kernel_rfl)

section
variable {U : Univ} {O : Out} {P : Program} {S : Nat → Prop} {ι : Lay} {w : World} {rs : List (Nat × AVal U)} {a : Act} {ops : Array Oper} {o : Oper} {t : Ty}
theorem sok_insert {T K E : TypeId} {m x y : Operand} {n : Nat} {kvs : KV (t.den U.T)} {k : List UInt8} {v : t.den U.T} (hg : o.guard = none) (_ : o.dst = none) (ho : o.op = .insert T m x y) (hT : MapOk P T K E)
  (hm : Opd U rs m (.mp n)) (hx : Opd U rs x (.p .str k)) (hy : Opd U rs y (.p t v)) : SOk U O P ops o { rs := rs, cb := [(n, .map t kvs)], pb := [(n, .map t (mput k v kvs))] } := by
 intro S ι w a hlt hgl hrs hro hcb hown K' Q hK
 obtain ⟨b, c, es, clock, ys, h1, h2, h3, h4, h5, h6⟩ := hcb _ List.mem_cons_self
 obtain ⟨b', c', h7, h8⟩ := hm.ev hrs
 rw [h1] at h7
 obtain ⟨rfl, rfl⟩ : b = b' ∧ c = c' := by simpa using h7
 obtain ⟨cs, hk, hk2⟩ := hx.ev hrs
 cases hk with | str s =>
 have hk2 : a.eval x = .string s := hk2
 obtain ⟨cs, hr, hv⟩ := hy.ev hrs
 have hout := (hown.out n (by simp) b c h1).1
 obtain ⟨es', clock', ys', g1, g2, g3, g4⟩ := run_mapPut (s := s) hT h2 h3 h4 h5 h6 hr hv
 refine opWp_plain hg ?_
 unfold Oper.wp
 have he : execOp a.eval o = (do Instr.mapUpdate T (a.eval m) (a.eval x) (a.eval y); pure .skip) := by unfold execOp; rw [ho]
 rw [he, h8, hk2]
 simp only [Sem.run_bind, g1, Result.andThen_ok, Sem.run_pure, Oper.upon]
 refine hK undef S ι _ (Nx.setObj (n := n) (b := b) (c := c) (o1 := .map es clock) rfl rfl h1 hout hlt h2 ?_) trivial
 exact ⟨b, c, es', clock', ys', h1, (MapKept.heap_set h2).1, g2, g3.mono (fun k hk => (MapKept.heap_set h2).2 k fun e => hout (e ▸ hk)) (fun _ h => h), g4, Rising.put h6⟩
end
theorem cycle_arcs_far_m0.ok (O : Out) (k : Nat) (a0 : List ((List UInt8) × (List (List UInt8)))) (a1 : List UInt8) (out : List ((List UInt8) × Int)) (h : cycle_arcs_far_m0.f k a0 a1 = some out) : COk Un O Try.prog 37 { ar := [.mp 100000, .p .str a1], r := .mp 60500, bs := [(100000, .map (.list .str) a0)], bs' := [(60500, .map I6 out), (100000, .map (.list .str) a0)], nn := [60500] } := by
 refine cok_of_wp Try.func37 rfl (k := 61) rfl (Nat.le_of_ble_eq_true rfl) (namesOk_of (by kernel_rfl)) ?_
 intro B hN
 refine WpC.conv (cvK (b := ⟨[(0, .mp 100000), (1, .p .str a1)], [(100000, .map (.list .str) a0)]⟩) [0, 1] [100000] (by kernel_rfl)) ?_
 unfold cycle_arcs_far_m0.f at h
 obtain ⟨⟨hlen, hall⟩, h⟩ := if_some h
 have hq := Option.some.inj h
 subst hq
 have hall : ∀ y ∈ a0, y.2.length ≤ LIM := fun y hy => by simpa using List.all_eq_true.1 hall y hy
 refine WpC.seq ?_
 refine rS {} [0, 1] [100000] hN (by kernel_rfl) (by kernel_rfl) ?_
 refine tnU ?_
 refine WpC.seq ?_
 refine rS { its := [(0, .e 0 (sok_makeMap (U := Un) (t := .int .i64) (rs := []) (d := 15) rfl rfl rfl)), (2, .e 2 (sok_insert (U := Un) (t := .int .i64) (v := (0 : Int)) (rs := [(15, .mp 15), (16, .p .str a1)]) (kvs := []) (k := a1) rfl rfl rfl map_52 (.tmp (.head _)) (.tmp (.tail _ (.head _))) (.int _ _ _)))] } [0, 5] [15, 100000] hN (by kernel_rfl) (by kernel_rfl) ?_
 refine tnU ?_
 refine sqJ (fun st' => st' = ⟨[(5, .mp 15)], [(15, .map I6 (farKV a0 a1 (a1 :: a0.map fun y => y.1))), (100000, .map (.list .str) a0)]⟩) ?_ ?_
 ·refine WpC.seq ?_
  refine rS {} [0, 5, 6] [15, 100000] hN (by kernel_rfl) (by kernel_rfl) ?_
  refine tnU ?_
  refine WpC.block ?_
  refine WpC.loop (U := Un) (fun n st' => ∃ (M : KV Int) (g : Bool), FarI a0 a1 M ∧ (g = false → ∀ y ∈ a0, ∀ m ∈ y.2, FarX M y m) ∧ n = 2 * farMu a0 a1 M + g.toNat ∧ st' = ⟨[(0, .mp 100000), (5, .mp 15), (6, .p .bool g)], [(15, .map I6 M), (100000, .map (.list .str) a0)]⟩) (2 * farMu a0 a1 [(a1, 0)] + 1) ⟨[(a1, 0)], true, FarI.first a0 a1, (fun h => by cases h), rfl, by kernel_rfl⟩ ?_
  rintro n _ ⟨M, g, hI, hD, rfl, rfl⟩
  refine WpC.seq ?_
  refine WpC.seq ?_
  refine rS {} [0, 5, 18] [15, 100000] hN (by kernel_rfl) (by kernel_rfl) ?_
  refine tnU ?_
  refine tS (b := g) (by kernel_rfl) (fun hc => ?_) (fun hc => ?_)
  ·subst hc
   refine WpC.conv (cS [.k [0, 5] [15, 100000]] (by kernel_rfl) (by kernel_rfl)) (WpC.skip ?_)
   refine tnU ?_
   refine WpC.block ?_
   refine WpC.seq ?_
   refine rS {} [0, 5, 6] [15, 100000] hN (by kernel_rfl) (by kernel_rfl) ?_
   refine tnU ?_
   refine WpC.seq ?_
   refine sT (st' := ⟨[(0, .mp 100000), (5, .mp 15), (6, .p .bool false)], [(15, .map I6 M), (100000, .map (.list .str) a0)]⟩) (by kernel_rfl) ?_
   refine WpC.openMap (U := Un) (t := .list .str) (n := 100000) (kvs := a0) (.tail _ (.head _)) ?_
   intro es ck ys hys hri
   refine WpC.conv (Conv.keep (b := ⟨[(0, .mp 100000), (5, .mp 15), (6, .p .bool false)], [(15, .map I6 M), (100000, .mapE (.list .str) es ck ys)]⟩) [0, 5, 6] [15, 100000] (by kernel_rfl)) ?_
   refine rS { its := [(1, .e 1 (sok_range (U := Un) (t := .list .str) (es := es) (clock := ck) (kvs := a0) (rs := [(19, .mp 100000)]) (d := 20) (m := 100000) rfl rfl rfl map_46 hys (by decide) (.tmp (.head _))))] } [0, 5, 6, 20] [15, 20, 100000] hN (by kernel_rfl) (by kernel_rfl) ?_
   refine tnU ?_
   refine WpC.block ?_
   refine WpC.loop (U := Un) (fun n st' => ∃ (M' : KV Int) (g : Bool) (left : KV (List (List UInt8))), n = left.length ∧ FarI a0 a1 M' ∧ (g = true → farMu a0 a1 M' < farMu a0 a1 M) ∧ (g = false → M' = M ∧ ∀ y ∈ a0, y ∉ left → ∀ m ∈ y.2, FarX M y m) ∧ (∀ y ∈ left, y ∈ a0) ∧
    st' = ⟨[(0, .mp 100000), (5, .mp 15), (6, .p .bool g), (20, .loc 20 0)], [(15, .map I6 M'), (20, .iter 100000 (.list .str) es ck ys left none), (100000, .mapE (.list .str) es ck ys)]⟩) a0.length ⟨M, false, a0, rfl, hI, (fun h => by cases h), (fun _ => ⟨rfl, fun y hy hn => absurd hy hn⟩), (fun _ h => h), by kernel_rfl⟩ ?_
   clear hD
   rintro n _ ⟨M', g, left, rfl, hI', hg, hD, hleft, rfl⟩
   refine WpC.seq ?_
   refine WpC.next (U := Un) (t := .list .str) (d := 20) (m := 100000) (it := 20) (left := left) [0, 5, 6, 20, 22] [15, 20, 100000] hN rfl rfl rfl rfl rfl rfl (by decide) (by decide) (by decide) (.tail _ (.tail _ (.tail _ (.head _)))) (.tail _ (.head _)) (.tail _ (.tail _ (.head _)))
    (fun (y : List UInt8 × List (List UInt8)) (left' : KV (List (List UInt8))) hp ha => ⟨⟨[(0, .mp 100000), (5, .mp 15), (6, .p .bool g), (20, .loc 20 0), (22, .p .bool true)], [(15, .map I6 M'), (20, .iter 100000 (.list .str) es ck ys left' (some y)), (100000, .mapE (.list .str) es ck ys)]⟩, by kernel_rfl, _, Conv.refl _, ?_⟩)
    (fun hl => ⟨⟨[(0, .mp 100000), (5, .mp 15), (6, .p .bool g), (20, .loc 20 0), (22, .p .bool false)], [(15, .map I6 M'), (20, .iter 100000 (.list .str) es ck ys left none), (100000, .mapE (.list .str) es ck ys)]⟩, by kernel_rfl, _, Conv.refl _, ?_⟩)
   ·refine tnU ?_
    have hya : y ∈ a0 := hleft y (hp.symm.subset List.mem_cons_self)
    have hyl := hall y hya
    refine WpC.seq ?_
    refine tS (b := true) (by kernel_rfl) (fun hc => ?_) (fun hc => ?_)
    ·refine WpC.conv (cS [.k [0, 5, 6, 20] [15, 20, 100000]] (by kernel_rfl) (by kernel_rfl)) (WpC.skip ?_)
     refine tnU ?_
     refine WpC.block ?_
     refine WpC.seq ?_
     refine rS { its := [(0, .e 0 (sok_entry (U := Un) (t := .list .str) (rs := [(20, .loc 20 0)]) (d := 20) (m := 100000) (es := es) (clock := ck) (ys := ys) (left := left') (y := y) rfl rfl (.tmp (.head _))))] } [0, 5, 6, 7, 8, 20] [15, 20, 100000] hN (by kernel_rfl) (by kernel_rfl) ?_
     refine tnU ?_
     refine WpC.seq ?_
     refine rS {} [0, 5, 6, 7, 20, 26, 27, 28] [15, 20, 100000] hN (by kernel_rfl) (by kernel_rfl) ?_
     refine tnU ?_
     refine WpC.block ?_
     refine WpC.loop (U := Un) (fun n st' => ∃ (N : KV Int) (g : Bool) (i : Nat), i + n = y.2.length ∧ FarI a0 a1 N ∧ (g = true → farMu a0 a1 N < farMu a0 a1 M) ∧ (g = false → N = M ∧ (∀ z ∈ a0, z ∉ left → ∀ m ∈ z.2, FarX M z m) ∧ ∀ m ∈ y.2.take i, FarX M y m) ∧
      st' = ⟨[(0, .mp 100000), (5, .mp 15), (6, .p .bool g), (7, .p .str y.1), (20, .loc 20 0), (26, .p (.list .str) y.2), (27, .p I6 ((y.2.length : Int) : Int)), (28, .p I6 (i : Int))], [(15, .map I6 N), (20, .iter 100000 (.list .str) es ck ys left' (some y)), (100000, .mapE (.list .str) es ck ys)]⟩) y.2.length
      ⟨M', g, 0, by omega, hI', hg, (fun e => ⟨(hD e).1, (hD e).2, fun m hm => (by rw [List.take_zero] at hm; cases hm)⟩), by kernel_rfl⟩ ?_
     clear hI' hg hD
     rintro n _ ⟨N, g, i, hin, hI', hg, hD, rfl⟩
     refine WpC.seq ?_
     refine rS {} [0, 5, 6, 7, 20, 26, 27, 28, 29] [15, 20, 100000] hN (by kernel_rfl) (by kernel_rfl) ?_
     refine tnU ?_
     refine WpC.seq ?_
     refine tS (b := (decide ((i : Int) < (y.2.length : Int)))) (by kernel_rfl) (fun hc => ?_) (fun hc => ?_)
     ·have hi : i < y.2.length := by simpa using hc
      have hv : idx y.2 (i : Int) = some y.2[i] := by simp [idx, hi]
      have hm : y.2[i] ∈ y.2 := List.getElem_mem hi
      have hw : IntKind.i64.wrap ((i : Int) + 1) = ((i + 1 : Nat) : Int) := w64n i (by unfold LIM at hyl; omega)
      have htk := take_succ_of hi
      have stay : (∀ d, mget y.2[i] N = some d → ∃ old, mget y.1 N = some old ∧ old ≤ d + 1) → g = false → N = M ∧ (∀ z ∈ a0, z ∉ left → ∀ m ∈ z.2, FarX M z m) ∧ ∀ m ∈ y.2.take (i + 1), FarX M y m := fun hx hgf => by
       obtain ⟨e1, e2, e3⟩ := hD hgf
       refine ⟨e1, e2, fun m hm => ?_⟩
       rw [htk] at hm
       rcases List.mem_append.1 hm with hm | hm
       ·exact e3 m hm
       ·simp only [List.mem_singleton] at hm
        rw [hm, ← e1]; exact hx
      refine WpC.conv (cS [.k [0, 5, 6, 7, 20, 26, 27, 28] [15, 20, 100000]] (by kernel_rfl) (by kernel_rfl)) (WpC.skip ?_)
      refine tnU ?_
      refine sqJ (fun st' => ∃ (N' : KV Int) (g' : Bool), FarI a0 a1 N' ∧ (g' = true → farMu a0 a1 N' < farMu a0 a1 M) ∧ (g' = false → N' = M ∧ (∀ z ∈ a0, z ∉ left → ∀ m ∈ z.2, FarX M z m) ∧ ∀ m ∈ y.2.take (i + 1), FarX M y m) ∧
       st' = ⟨[(0, .mp 100000), (5, .mp 15), (6, .p .bool g'), (7, .p .str y.1), (20, .loc 20 0), (26, .p (.list .str) y.2), (27, .p I6 ((y.2.length : Int) : Int)), (28, .p I6 (i : Int))], [(15, .map I6 N'), (20, .iter 100000 (.list .str) es ck ys left' (some y)), (100000, .mapE (.list .str) es ck ys)]⟩) ?_ ?_
      ·refine WpC.block ?_
       refine WpC.seq ?_
       refine rS { its := [(0, .v .str hv)] } [0, 5, 6, 7, 10, 20, 26, 27, 28] [15, 20, 100000] hN (by kernel_rfl) (by kernel_rfl) ?_
       refine tnU ?_
       refine WpC.seq ?_
       refine rS {} [0, 5, 6, 7, 10, 11, 12, 20, 26, 27, 28] [15, 20, 100000] hN (by kernel_rfl) (by kernel_rfl) ?_
       refine tnU ?_
       refine WpC.seq ?_
       refine rS {} [0, 5, 6, 7, 10, 11, 12, 13, 14, 20, 26, 27, 28] [15, 20, 100000] hN (by kernel_rfl) (by kernel_rfl) ?_
       refine tnU ?_
       refine sqJ (fun st' => ∃ b : Bool, (b = true → ∃ d, mget y.2[i] N = some d ∧ (mget y.1 N = none ∨ ∃ old, mget y.1 N = some old ∧ d + 1 < old)) ∧ (b = false → ∀ d, mget y.2[i] N = some d → ∃ old, mget y.1 N = some old ∧ old ≤ d + 1) ∧
        st' = ⟨[(0, .mp 100000), (5, .mp 15), (6, .p .bool g), (7, .p .str y.1), (11, .p I6 (((mget y.2[i] N).getD 0) : Int)), (20, .loc 20 0), (26, .p (.list .str) y.2), (27, .p I6 ((y.2.length : Int) : Int)), (28, .p I6 (i : Int)), (54, .p .bool b)], [(15, .map I6 N), (20, .iter 100000 (.list .str) es ck ys left' (some y)), (100000, .mapE (.list .str) es ck ys)]⟩) ?_ ?_
       ·have hwd : ∀ d, mget y.2[i] N = some d → IntKind.i64.wrap (((mget y.2[i] N).getD 0) + 1) = d + 1 := fun d hd => by
         obtain ⟨l1, l2, _⟩ := hI'.lev _ d hd
         have := hI'.len
         rw [hd]
         exact w64 (by simp only [Option.getD_some]; omega) (by simp only [Option.getD_some]; unfold LIM at hlen; omega)
        rcases bool_cases ((mget y.2[i] N).isSome) with h1 | h1
        ·obtain ⟨d, hd⟩ := Option.isSome_iff_exists.1 h1
         rcases bool_cases (!(mget y.1 N).isSome) with h2 | h2
         ·refine rS { kn := [(45, .t h1), (48, .t h2)] } [0, 5, 6, 7, 11, 20, 26, 27, 28, 54] [15, 20, 100000] hN (by kernel_rfl) (by kernel_rfl) ?_
          refine tnU ?_
          refine ⟨true, fun _ => ⟨d, hd, .inl ?_⟩, (fun h => by cases h), by kernel_rfl⟩
          cases hn : mget y.1 N with
          | none => rfl
          | some _ => rw [hn] at h2; cases h2
         ·refine rS { kn := [(45, .t h1), (48, .f h2)] } [0, 5, 6, 7, 11, 20, 26, 27, 28, 54] [15, 20, 100000] hN (by kernel_rfl) (by kernel_rfl) ?_
          refine tnU ?_
          have h3 : (mget y.1 N).isSome = true := by simpa using h2
          obtain ⟨old, ho⟩ := Option.isSome_iff_exists.1 h3
          refine ⟨decide (IntKind.i64.wrap (((mget y.2[i] N).getD 0) + 1) < (mget y.1 N).getD 0), fun hb => ⟨d, hd, .inr ⟨old, ho, ?_⟩⟩, fun hb d' hd' => ⟨old, ho, ?_⟩, by kernel_rfl⟩
          ·rw [hwd d hd, ho] at hb; simpa using hb
          ·rw [hwd d' hd', ho] at hb; simpa using hb
        ·refine rS { kn := [(45, .f h1)] } [0, 5, 6, 7, 11, 20, 26, 27, 28, 54] [15, 20, 100000] hN (by kernel_rfl) (by kernel_rfl) ?_
         refine tnU ?_
         refine ⟨false, (fun h => by cases h), fun _ d hd => ?_, by kernel_rfl⟩
         rw [hd] at h1; cases h1
       ·rintro _ ⟨b, hbt, hbf, rfl⟩
        refine tS (b := b) (by kernel_rfl) (fun hc3 => ?_) (fun hc3 => ?_)
        ·obtain ⟨d, hd, ho⟩ := hbt hc3
         obtain ⟨l1, l2, _⟩ := hI'.lev _ d hd
         have hL := hI'.len
         have hwd : IntKind.i64.wrap (((mget y.2[i] N).getD 0) + 1) = d + 1 := by rw [hd]; exact w64 (by simp only [Option.getD_some]; omega) (by simp only [Option.getD_some]; unfold LIM at hlen; omega)
         obtain ⟨p1, p2⟩ := hI'.put hya hm hd ho
         refine rS {} [0, 5, 6, 7, 20, 26, 27, 28] [15, 20, 100000] hN (by kernel_rfl) (by kernel_rfl) ?_
         refine blockQ_normal ?_
         refine tnU ?_
         rw [← hwd] at p1 p2
         refine ⟨mput y.1 (IntKind.i64.wrap (((mget y.2[i] N).getD 0) + 1)) N, true, p1, fun _ => ?_, (fun h => by cases h), by kernel_rfl⟩
         cases g with
         | true => exact Nat.lt_trans p2 (hg rfl)
         | false => rw [(hD rfl).1] at p2 ⊢; exact p2
        ·refine WpC.conv (cS [.k [0, 5, 6, 7, 20, 26, 27, 28] [15, 20, 100000]] (by kernel_rfl) (by kernel_rfl)) (WpC.skip ?_)
         refine blockQ_normal ?_
         refine tnU ?_
         exact ⟨N, g, hI', hg, stay (hbf hc3), by kernel_rfl⟩
      ·rintro _ ⟨N', g', q1, q2, q3, rfl⟩
       refine rS {} [0, 5, 6, 7, 20, 26, 27, 28] [15, 20, 100000] hN (by kernel_rfl) (by kernel_rfl) ?_
       refine tnU ?_
       refine ⟨n - 1, by omega, N', g', i + 1, by omega, q1, q2, q3, ?_⟩
       rw [← hw]; kernel_rfl
     ·have hi : i = y.2.length := by
       have : ¬ i < y.2.length := by simpa using hc
       omega
      refine WpC.conv (cS [.it 20, .k [0, 5, 6, 20] [15, 20, 100000]] (by kernel_rfl) (by kernel_rfl)) (WpC.exit ?_)
      refine thenQ_exit ?_
      refine thenQ_exit ?_
      refine blockQ_hit ?_
      refine blockQ_normal ?_
      refine tnU ?_
      refine ⟨left'.length, ?_, N, g, left', rfl, hI', hg, fun hgf => ?_, fun z hz => hleft z (hp.symm.subset (List.mem_cons_of_mem _ hz)), by kernel_rfl⟩
      ·exact Nat.lt_of_lt_of_eq (Nat.lt_succ_self left'.length) hp.length_eq.symm
      ·obtain ⟨e1, e2, e3⟩ := hD hgf
       refine ⟨e1, fun z hz hzl => ?_⟩
       by_cases hzy : z = y
       ·subst hzy
        rw [hi, List.take_length] at e3
        exact e3
       ·exact e2 z hz fun hin => by
         rcases List.mem_cons.1 (hp.subset hin) with h | h
         ·exact hzy h
         ·exact hzl h
    ·cases hc
   ·refine tnU ?_
    subst hl
    refine WpC.seq ?_
    refine tS (b := false) (by kernel_rfl) (fun hc => ?_) (fun hc => ?_)
    ·cases hc
    ·refine WpC.conv (cS [.cm (t := .list .str) (ys := ys) (kvs := a0) 100000 hys hri, .k [0, 5, 6] [15, 100000]] (by kernel_rfl) (by kernel_rfl)) (WpC.exit ?_)
     refine thenQ_exit ?_
     refine thenQ_exit ?_
     refine blockQ_hit ?_
     refine blockQ_normal ?_
     refine tnU ?_
     refine ⟨2 * farMu a0 a1 M' + g.toNat, ?_, M', g, hI', fun e => ?_, rfl, by kernel_rfl⟩
     ·cases g with
      | true => have := hg rfl; simp only [Bool.toNat_true]; omega
      | false => rw [(hD rfl).1]; simp only [Bool.toNat_true, Bool.toNat_false]; omega
     ·obtain ⟨e1, e2⟩ := hD e
      rw [e1]
      exact fun y hy m hm => e2 y hy (fun h => by cases h) m hm
  ·subst hc
   refine WpC.conv (cS [.k [5] [15, 100000]] (by kernel_rfl) (by kernel_rfl)) (WpC.exit ?_)
   refine thenQ_exit ?_
   refine thenQ_exit ?_
   refine blockQ_hit ?_
   refine tnU ?_
   rw [← hI.last (hD rfl)]
   kernel_rfl
 ·rintro _ rfl
  refine WpC.seq ?_
  refine rS {} [4] [15, 100000] hN (by kernel_rfl) (by kernel_rfl) ?_
  refine tnU ?_
  refine WpC.conv (cS [.rn 15 60500, .k [4] [60500, 100000]] (by kernel_rfl) (by kernel_rfl)) (WpC.ret ?_)
  exact eR (by kernel_rfl) (by kernel_rfl)

end Go.Proofs.Ytlmhnhlmlhfigaa
