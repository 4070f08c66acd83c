/- A part of my own abstract layer. -/
import Derived.Test.YtlmhnhlmlhfigaaK42AmR5
import Derived.Test.YtlmhnhlmlhfigaaK42AmM
import Derived.ArgAppend
namespace Go.AM
set_option linter.unusedVariables false

section
variable {α β : Type}
theorem aput_map (f : α → β) (k : List UInt8) (v : α) : ∀ m : KV α, (aput k v m).map (fun y => (y.1, f y.2)) = aput k (f v) (m.map fun y => (y.1, f y.2))
  | [] => rfl
  | y :: r => by
    simp only [aput, List.map_cons]
    split
    · rfl
    · simp only [List.map_cons, aput_map f k v r]
theorem aput_mem {k : List UInt8} {v : α} : ∀ {m : KV α}, Apart m → ∀ {y : List UInt8 × α}, y ∈ aput k v m → y = (k, v) ∨ (y ∈ m ∧ y.1 ≠ k)
  | [], _, y, h => by simp [aput] at h; exact .inl h
  | x :: r, ha, y, h => by
    obtain ⟨h1, h2⟩ := List.pairwise_cons.1 ha
    unfold aput at h
    split at h
    · rename_i e
      rcases List.mem_cons.1 h with h | h
      · exact .inl h
      · exact .inr ⟨List.mem_cons_of_mem _ h, fun e' => h1 y h (e.trans e'.symm)⟩
    · rename_i e
      rcases List.mem_cons.1 h with rfl | h
      · exact .inr ⟨List.mem_cons_self, e⟩
      · rcases aput_mem h2 h with h | ⟨h, h'⟩
        · exact .inl h
        · exact .inr ⟨List.mem_cons_of_mem _ h, h'⟩
theorem aput_real {P : Value → Prop} {k : List UInt8} {x : Value} : ∀ {es : List MapEntry} {ys : KV Value}, Apart ys → EntsG (fun y u => if y.1 = k then P u else u = y.2) es (aput k x ys) → ∃ v, P v ∧ EntsG (fun y u => u = y.2) es (aput k v ys)
  | [], ys, _, h => by
    have h : aput k x ys = [] := h
    cases ys with
    | nil => cases h
    | cons y r => unfold aput at h; split at h <;> cases h
  | e :: es, [], _, h => by
    obtain ⟨y, r, h1, h2, h3, h4⟩ := h
    simp only [aput] at h1
    cases h1
    simp only [if_true] at h3
    exact ⟨e.val, h3, _, _, rfl, h2, rfl, by cases es with | nil => rfl | cons _ _ => obtain ⟨_, _, h5, _⟩ := h4; cases h5⟩
  | e :: es, y :: r, ha, h => by
    obtain ⟨p1, p2⟩ := List.pairwise_cons.1 ha
    obtain ⟨y', r', h1, h2, h3, h4⟩ := h
    unfold aput at h1
    split at h1
    · rename_i hy
      cases h1
      simp only [if_true] at h3
      refine ⟨e.val, h3, ?_⟩
      unfold aput
      rw [if_pos hy]
      refine ⟨_, _, rfl, h2, rfl, h4.mono fun z hz u hu => ?_⟩
      rwa [if_neg fun e' => p1 z hz (hy.trans e'.symm)] at hu
    · rename_i hy
      cases h1
      rw [if_neg hy] at h3
      obtain ⟨v, h5, h6⟩ := aput_real p2 h4
      refine ⟨v, h5, ?_⟩
      unfold aput
      rw [if_neg hy]
      exact ⟨_, _, rfl, h2, h3, h6⟩
end

section
variable {U : Univ} {O : Out} {P : Program} {B B1 : Base} {S S' : Nat → Prop} {ι ι' : Lay} {w w' : World} {a a' : Act} {st st' : St U} {t : Ty}

theorem Rel.rebase (h0 : Rel U O B S ι st a w) (hn : B1.n = B.n) (hw : B1.w = w) (hS : B1.S = S) (hι : ∀ n, K0 ≤ n → B1.ι n = ι n) (hA : ∀ b, B1.A b → B.w.heap.size ≤ b ∨ B.A b) (h1 : Rel U O B1 S' ι' st' a' w') : Rel U O B S' ι' st' a' w' := by
  subst hw hS
  refine { h1 with
    tmps := h1.tmps.trans hn
    mine := fun n hn' b c hb => ?_
    sub := fun b hb => h1.sub b (h0.sub b hb)
    new := fun b hb => ?_
    os := h1.os.trans h0.os
    tape := h1.tape.trans h0.tape
    output := h1.output.trans h0.output
    size := Nat.le_trans h0.size h1.size
    keep := fun b hb hA' => ?_
    lay := fun n hn' => (h1.lay n hn').trans ((hι n hn').trans (h0.lay n hn')) }
  · rcases h1.mine n hn' b c hb with h | h
    · exact .inl (Nat.le_trans h0.size h)
    · exact hA b h
  · rcases h1.new b hb with h | h | h
    · exact h0.new b h
    · exact .inr (.inl (Nat.le_trans h0.size h))
    · exact .inr (hA b h)
  · rw [← h0.keep b hb hA']
    refine h1.keep b (Nat.lt_of_lt_of_le hb h0.size) fun h => ?_
    rcases hA b h with h | h
    · omega
    · exact hA' h

abbrev RowsM (U : Univ) (t : Ty) : Type := KV (Value × List (t.den U.T) × Option (Nat × Nat))
def RowsM.raw {U : Univ} {t : Ty} (es : RowsM U t) : KV Value := es.map fun y => (y.1, y.2.1)
def RowsM.txt {U : Univ} {t : Ty} (es : RowsM U t) : KV (List (t.den U.T)) := es.map fun y => (y.1, y.2.2.1)
structure MapI (U : Univ) (O : Out) (B : Base) (S : Nat → Prop) (ι : Lay) (w : World) (m E : Nat) (t : Ty) (es : RowsM U t) : Prop where
  row : ∀ y ∈ es, BR U O S (fun _ => y.2.2.2) w 0 (.row E t y.2.2.1 false) ∧ VV U O S (fun _ => y.2.2.2) w (.vec 0 (t.width U.wd) 0 y.2.2.1.length) y.2.1
  at' : ∀ y ∈ es, ∀ b c, y.2.2.2 = some (b, c) → ¬ S b ∧ b < w.heap.size ∧ (B.w.heap.size ≤ b ∨ B.A b) ∧ ∀ c', ι m ≠ some (b, c')
  sep : ∀ y ∈ es, ∀ z ∈ es, y.1 ≠ z.1 → ∀ b c c', y.2.2.2 = some (b, c) → z.2.2.2 ≠ some (b, c')

theorem MapI.nil {m E : Nat} : MapI U O B S ι w m E t [] := ⟨fun _ h => (by cases h), fun _ h => (by cases h), fun _ h => (by cases h)⟩

theorem mget_raw {k : List UInt8} : ∀ {es : RowsM U t}, mget k es.raw = (mget k es).map (·.1)
  | [] => rfl
  | y :: r => by
    have ih := mget_raw (k := k) (es := r)
    unfold RowsM.raw at ih ⊢
    simp only [List.map_cons, mget, ih]
    split <;> rfl
theorem mget_txt {k : List UInt8} : ∀ {es : RowsM U t}, mget k es.txt = (mget k es).map (·.2.1)
  | [] => rfl
  | y :: r => by
    have ih := mget_txt (k := k) (es := r)
    unfold RowsM.txt at ih ⊢
    simp only [List.map_cons, mget, ih]
    split <;> rfl

theorem mapI_step {c : Code} {sl sl' : List (Nat × AVal U)} {m E d h : Nat} {es : RowsM U t} {k : List UInt8} {zs : List (t.den U.T)} (h0 : Rel U O B S ι ⟨sl, [(m, .mapM (t.width U.wd) es.raw none)]⟩ a w) (hI : MapI U O B S ι w m E t es)
    (hm : m ≠ h) (hh : h < K0) (hd : d ≠ m) (hns : ∀ x ∈ sl, ∀ n ∈ AVal.names U x.2, n ≠ h) {Q : Exit → Act → World → Prop}
    (hit : ∀ v xs p, mget k es = some (v, xs, p) → ∀ B1 : Base, B1.n = B.n → WpC U O P B1 c ⟨sl, [(m, .mapM (t.width U.wd) es.raw (some (k, h, xs.length))), (h, .row E t xs false)]⟩
      fun e st' => e = .normal ∧ st' = ⟨sl', [(m, .mapM (t.width U.wd) (aput k (.bool false) es.raw) (some (k, d, (xs ++ zs).length))), (d, .row E t (xs ++ zs) false)]⟩)
    (miss : mget k es = none → ∀ B1 : Base, B1.n = B.n → WpC U O P B1 c ⟨sl, [(m, .mapM (t.width U.wd) es.raw none)]⟩
      fun e st' => e = .normal ∧ st' = ⟨sl', [(m, .mapM (t.width U.wd) (aput k (.bool false) es.raw) (some (k, d, (([] : List (t.den U.T)) ++ zs).length))), (d, .row E t (([] : List (t.den U.T)) ++ zs) false)]⟩)
    (hQ : ∀ S' ι' a' w' (es' : RowsM U t), Rel U O B S' ι' ⟨sl', [(m, .mapM (t.width U.wd) es'.raw none)]⟩ a' w' → MapI U O B S' ι' w' m E t es' → es'.txt = aput k (((mget k es.txt).getD []) ++ zs) es.txt → Q .normal a' w') : c.wp P Q a w := by
  obtain ⟨b, c0, ents, clock, g1, g2, g3, g4⟩ := h0.hp _ List.mem_cons_self
  have ha : Apart es.raw := g4.apart g3.2.2
  have hae : Apart es := by
    unfold RowsM.raw Apart at ha
    rw [List.pairwise_map] at ha
    exact ha
  have hbm := h0.own.out m (by simp) b c0 g1
  have hmm := h0.mine m (by simp) b c0 g1
  have key : ∀ (B1 : Base) (xs : List (t.den U.T)), B1.n = B.n → B1.w = w → B1.S = S → (∀ n, K0 ≤ n → B1.ι n = ι n) → (∀ q, B1.A q → q = b ∨ ∃ y ∈ es, y.1 = k ∧ ∃ c', y.2.2.2 = some (q, c')) → ((mget k es.txt).getD []) = xs →
      ∀ e a' w', post U O B1 (fun e st' => e = .normal ∧ st' = ⟨sl', [(m, .mapM (t.width U.wd) (aput k (.bool false) es.raw) (some (k, d, (xs ++ zs).length))), (d, .row E t (xs ++ zs) false)]⟩) e a' w' → Q e a' w' := by
    rintro B1 xs e1 e2 e3 e4 e5 e6 e a' w' ⟨st', ⟨rfl, rfl⟩, S', ι', hR'⟩
    subst e2 e3
    have hA : ∀ q, B1.A q → B.w.heap.size ≤ q ∨ B.A q := fun q hq => by
      rcases e5 q hq with rfl | ⟨y, hy, _, c', hc'⟩
      · exact hmm
      · exact (hI.at' y hy q c' hc').2.2.1
    have hR := h0.rebase e1 rfl rfl e4 hA hR'
    obtain ⟨b', c', ents', clock', k1, k2, k3, k4⟩ := hR'.hp _ List.mem_cons_self
    obtain ⟨v, hv, k5⟩ := aput_real ha k4
    let es' : RowsM U t := aput k (v, xs ++ zs, ι' d) es
    have er : es'.raw = aput k v es.raw := aput_map (fun z : Value × List (t.den U.T) × Option (Nat × Nat) => z.1) k _ es
    have et : es'.txt = aput k (xs ++ zs) es.txt := aput_map (fun z : Value × List (t.den U.T) × Option (Nat × Nat) => z.2.1) k _ es
    have hst : ∀ q, B1.S q → w'.heap[q]? = B1.w.heap[q]? := fun q hq => hR'.keep q (h0.lt q hq) fun hAq => by
      rcases e5 q hAq with rfl | ⟨y, hy, _, c', hc'⟩
      · exact hbm.1 hq
      · exact (hI.at' y hy q c' hc').1 hq
    have hdn : ∀ q c', ι' d = some (q, c') → ¬ S' q ∧ q < w'.heap.size ∧ (B1.w.heap.size ≤ q ∨ B1.A q) := fun q c' hq => by
      have h1 := hR'.own.out d (by simp) q c' hq
      exact ⟨h1.1, h1.2, hR'.mine d (by simp) q c' hq⟩
    have hot : ∀ y ∈ es, y.1 ≠ k → ∀ q c', y.2.2.2 = some (q, c') → q < B1.w.heap.size ∧ ¬ B1.A q ∧ ¬ S' q := fun y hy hne q c' hq => by
      have h1 := hI.at' y hy q c' hq
      have h2 : ¬ B1.A q := fun hA => by
        rcases e5 q hA with rfl | ⟨z, hz, hzk, c'', hc''⟩
        · exact h1.2.2.2 _ g1
        · exact hI.sep y hy z hz (fun e => hne (e.trans hzk)) q c' c'' hq hc''
      refine ⟨h1.2.1, h2, fun hS' => ?_⟩
      rcases hR'.new q hS' with h | h | h
      · exact h1.1 h
      · omega
      · exact h2 h
    refine hQ S' ι' a' w' es' ?_ ⟨fun y hy => ?_, fun y hy q c'' hq => ?_, fun y hy z hz hne q c1 c2 hq => ?_⟩ (by rw [et, e6])
    · have hsub : ∀ n ∈ nm [(m, Blk.mapM (U := U) (t.width U.wd) es'.raw none)], n ∈ nm [(m, Blk.mapM (U := U) (t.width U.wd) (aput k (.bool false) es.raw) (some (k, d, (xs ++ zs).length))), (d, .row E t (xs ++ zs) false)] := fun n hn => by
        simp only [nm, List.map_cons, List.map_nil, List.mem_singleton] at hn; subst hn; exact List.mem_cons_self
      refine { hR with hp := fun x hx => ?_, own := ⟨fun n hn => hR.own.out n (hsub n hn), fun n hn j hj => hR.own.sep n (hsub n hn) j (hsub j hj)⟩, mine := fun n hn => hR.mine n (hsub n hn) }
      simp only [List.mem_singleton] at hx; subst hx
      refine ⟨b', c', ents', clock', k1, k2, k3, ?_⟩
      rw [er]; exact k5
    · rcases aput_mem hae hy with rfl | ⟨hy, hne⟩
      · refine ⟨?_, ?_⟩
        · have := hR'.hp (d, .row E t (xs ++ zs) false) (by simp)
          exact this
        · exact hv
      · obtain ⟨r1, r2⟩ := hI.row y hy
        refine ⟨BR.mono hst hR'.sub rfl (fun _ _ => rfl) (fun q c' hq => ?_) r1, VV.mono hst hR'.sub _ _ (fun _ _ => rfl) r2⟩
        obtain ⟨q1, q2, _⟩ := hot y hy hne q c' hq
        exact hR'.keep q q1 q2
    · rcases aput_mem hae hy with rfl | ⟨hy, hne⟩
      · obtain ⟨h1, h2, h3⟩ := hdn q c'' hq
        refine ⟨h1, h2, ?_, fun c3 hc3 => hR'.own.sep d (by simp) m (by simp) hd q c'' c3 hq hc3⟩
        rcases h3 with h3 | h3
        · exact .inl (Nat.le_trans h0.size h3)
        · exact hA q h3
      · have h1 := hI.at' y hy q c'' hq
        obtain ⟨q1, q2, q3⟩ := hot y hy hne q c'' hq
        refine ⟨q3, Nat.lt_of_lt_of_le h1.2.1 hR'.size, h1.2.2.1, fun c3 hc3 => ?_⟩
        rcases hR'.mine m (by simp) q c3 hc3 with h | h
        · omega
        · exact q2 h
    · rcases aput_mem hae hy with rfl | ⟨hy, hyk⟩ <;> rcases aput_mem hae hz with rfl | ⟨hz, hzk⟩
      · exact absurd rfl hne
      · intro hq2
        obtain ⟨q1, q2, _⟩ := hot z hz hzk q c2 hq2
        rcases (hdn q c1 hq).2.2 with h | h
        · omega
        · exact q2 h
      · intro hq2
        obtain ⟨q1, q2, _⟩ := hot y hy hyk q c1 hq
        rcases (hdn q c2 hq2).2.2 with h | h
        · omega
        · exact q2 h
      · exact hI.sep y hy z hz hne q c1 c2 hq
  cases hg : mget k es with
  | none =>
    let B1 : Base := ⟨S, w, fun q => q = b, ι, B.n⟩
    have hR1 : Rel U O B1 S ι ⟨sl, [(m, .mapM (t.width U.wd) es.raw none)]⟩ a w :=
      { tmps := h0.tmps, dfr := h0.dfr, sl := h0.sl, hp := h0.hp, own := h0.own, mine := fun n hn q c' hq => by
          simp only [nm, List.map_cons, List.map_nil, List.mem_singleton] at hn; subst hn
          rw [g1] at hq; cases hq; exact .inr rfl
        lt := h0.lt, gl := h0.gl, sub := fun _ h => h, new := fun _ h => .inl h, os := rfl, tape := rfl, output := rfl, size := Nat.le_refl _, keep := fun _ _ _ => rfl, lay := fun _ _ => rfl }
    refine wp_mono (miss hg B1 rfl S ι a w hR1) (key B1 [] rfl rfl rfl (fun _ _ => rfl) (fun q hq => .inl hq) ?_)
    rw [mget_txt, hg]; rfl
  | some z =>
    obtain ⟨v, xs, p⟩ := z
    have hmem : (k, v, xs, p) ∈ es := mget_mem hg
    obtain ⟨r1, r2⟩ := hI.row _ hmem
    have hat := hI.at' _ hmem
    let ι1 : Lay := fun n => if n = h then p else ι n
    let B1 : Base := ⟨S, w, fun q => q = b ∨ ∃ c', p = some (q, c'), ι1, B.n⟩
    have e1 : ∀ n, n ≠ h → ι1 n = ι n := fun n hn => if_neg hn
    have e2 : ι1 h = p := if_pos rfl
    have hown2 : ∀ q c', p = some (q, c') → ∀ c'', ι1 m ≠ some (q, c'') := fun q c' hq c'' hc => (hat q c' hq).2.2.2 c'' (by rw [← e1 m hm]; exact hc)
    have hR1 : Rel U O B1 S ι1 ⟨sl, [(m, .mapM (t.width U.wd) es.raw (some (k, h, xs.length))), (h, .row E t xs false)]⟩ a w :=
      { tmps := h0.tmps, dfr := h0.dfr, sl := fun x hx => VV.mono (fun _ _ => rfl) (fun _ h => h) _ _ (fun n hn => e1 n (hns x hx n hn)) (h0.sl x hx), hp := fun x hx => by
          rcases List.mem_cons.1 hx with rfl | hx
          · refine ⟨b, c0, ents, clock, by rw [e1 m hm]; exact g1, g2, g3, g4.mono fun y hy u hu => ?_⟩
            split
            · rename_i hk
              have hy2 : mget k es.raw = some y.2 := mget_of ha (by obtain ⟨y1, y2⟩ := y; simp only at hk; subst hk; exact hy)
              rw [mget_raw, hg] at hy2
              have hy3 : v = y.2 := by simpa using hy2
              rw [hu, ← hy3]
              simp only [VV, e2] at r2 ⊢
              exact r2
            · exact hu
          · simp only [List.mem_singleton] at hx; subst hx
            simp only [BR, e2] at r1 ⊢
            exact r1
        own := by
          refine ⟨fun n hn q c' hq => ?_, fun n hn j hj hne q c' c'' hq hq2 => ?_⟩
          · simp only [nm, List.map_cons, List.map_nil, List.mem_cons, List.not_mem_nil, or_false] at hn
            rcases hn with rfl | rfl
            · rw [e1 _ hm] at hq; exact h0.own.out _ (by simp) q c' hq
            · rw [e2] at hq; exact ⟨(hat q c' hq).1, (hat q c' hq).2.1⟩
          · simp only [nm, List.map_cons, List.map_nil, List.mem_cons, List.not_mem_nil, or_false] at hn hj
            rcases hn with rfl | rfl <;> rcases hj with rfl | rfl
            · exact hne rfl
            · rw [e2] at hq2; exact hown2 q c'' hq2 c' hq
            · rw [e2] at hq; exact hown2 q c' hq c'' hq2
            · exact hne rfl
        mine := fun n hn q c' hq => by
          simp only [nm, List.map_cons, List.map_nil, List.mem_cons, List.not_mem_nil, or_false] at hn
          rcases hn with rfl | rfl
          · rw [e1 _ hm, g1] at hq; cases hq; exact .inr (.inl rfl)
          · rw [e2] at hq; exact .inr (.inr ⟨c', hq⟩)
        lt := h0.lt, gl := h0.gl, sub := fun _ h => h, new := fun _ h => .inl h, os := rfl, tape := rfl, output := rfl, size := Nat.le_refl _, keep := fun _ _ _ => rfl, lay := fun _ _ => rfl }
    refine wp_mono (hit v xs p hg B1 rfl S ι1 a w hR1) (key B1 xs rfl rfl rfl (fun n hn => e1 n (by omega)) (fun q hq => ?_) ?_)
    · rcases hq with h | ⟨c', h⟩
      · exact .inl h
      · exact .inr ⟨_, hmem, rfl, c', h⟩
    · rw [mget_txt, hg]; rfl

theorem mapI_frame {c : Code} {ex : Exit} {sl sl' : List (Nat × AVal U)} {m E : Nat} {es : RowsM U t} (h0 : Rel U O B S ι ⟨sl, [(m, .mapM (t.width U.wd) es.raw none)]⟩ a w) (hI : MapI U O B S ι w m E t es) {Q : Exit → Act → World → Prop}
    (h : ∀ B1 : Base, B1.n = B.n → WpC U O P B1 c ⟨sl, [(m, .mapM (t.width U.wd) es.raw none)]⟩ fun e st' => e = ex ∧ st' = ⟨sl', [(m, .mapM (t.width U.wd) es.raw none)]⟩)
    (hQ : ∀ S' ι' a' w', Rel U O B S' ι' ⟨sl', [(m, .mapM (t.width U.wd) es.raw none)]⟩ a' w' → MapI U O B S' ι' w' m E t es → Q ex a' w') : c.wp P Q a w := by
  obtain ⟨b, c0, ents, clock, g1, g2, g3, g4⟩ := h0.hp _ List.mem_cons_self
  have hbm := h0.own.out m (by simp) b c0 g1
  have hmm := h0.mine m (by simp) b c0 g1
  let B1 : Base := ⟨S, w, fun q => q = b, ι, B.n⟩
  have hR1 : Rel U O B1 S ι ⟨sl, [(m, .mapM (t.width U.wd) es.raw none)]⟩ a w :=
    { tmps := h0.tmps, dfr := h0.dfr, sl := h0.sl, hp := h0.hp, own := h0.own, mine := fun n hn q c' hq => by
        simp only [nm, List.map_cons, List.map_nil, List.mem_singleton] at hn; subst hn
        rw [g1] at hq; cases hq; exact .inr rfl
      lt := h0.lt, gl := h0.gl, sub := fun _ h => h, new := fun _ h => .inl h, os := rfl, tape := rfl, output := rfl, size := Nat.le_refl _, keep := fun _ _ _ => rfl, lay := fun _ _ => rfl }
  refine wp_mono (h B1 rfl S ι a w hR1) ?_
  rintro e a' w' ⟨st', ⟨rfl, rfl⟩, S', ι', hR'⟩
  have hst : ∀ q, S q → w'.heap[q]? = w.heap[q]? := fun q hq => hR'.keep q (h0.lt q hq) fun (hAq : q = b) => hbm.1 (hAq ▸ hq)
  have hot : ∀ y ∈ es, ∀ q c', y.2.2.2 = some (q, c') → q < w.heap.size ∧ q ≠ b ∧ ¬ S' q := fun y hy q c' hq => by
    have h1 := hI.at' y hy q c' hq
    have h2 : q ≠ b := fun e => h1.2.2.2 c0 (by rw [e]; exact g1)
    refine ⟨h1.2.1, h2, fun hS' => ?_⟩
    rcases hR'.new q hS' with h | h | h
    · exact h1.1 h
    · exact absurd h (Nat.not_le_of_lt h1.2.1)
    · exact h2 h
  refine hQ S' ι' a' w' (h0.rebase (B1 := B1) rfl rfl rfl (fun _ _ => rfl) (fun q (hq : q = b) => by rw [hq]; exact hmm) hR') ⟨fun y hy => ?_, fun y hy q c' hq => ?_, hI.sep⟩
  · obtain ⟨r1, r2⟩ := hI.row y hy
    refine ⟨BR.mono hst hR'.sub rfl (fun _ _ => rfl) (fun q c' hq => ?_) r1, VV.mono hst hR'.sub _ _ (fun _ _ => rfl) r2⟩
    obtain ⟨q1, q2, _⟩ := hot y hy q c' hq
    exact hR'.keep q q1 q2
  · have h1 := hI.at' y hy q c' hq
    obtain ⟨q1, q2, q3⟩ := hot y hy q c' hq
    refine ⟨q3, Nat.lt_of_lt_of_le q1 hR'.size, h1.2.2.1, fun c3 hc3 => ?_⟩
    rcases hR'.mine m (by simp) q c3 hc3 with h | h
    · exact absurd h (Nat.not_le_of_lt q1)
    · exact q2 h

theorem COk.frz {f : FuncId} {ar : List (AVal U)} {n E : Nat} {xs : List (t.den U.T)} {fx : Bool} (h : COk U O P f { ar := ar, r := .vec n (t.width U.wd) 0 xs.length, bs' := [(n, .row E t xs fx)], nn := [n] }) : COk U O P f { ar := ar, r := .p (.list t) xs } := by
  intro S ι w vs hlt hgl has hbs hown
  refine (h S ι w vs hlt hgl has (fun _ h => by cases h) ⟨fun _ h => (by cases h), fun _ h => (by cases h)⟩).mono ?_
  rintro e w' ⟨u, S', ι', rfl, hN, hu⟩
  refine ⟨u, fun b => S' b ∨ Shown ι' (nm [(n, Blk.row (U := U) E t xs fx)]) b, ι, rfl, ⟨hN.os, hN.tape, hN.output, hN.size, fun b hb => .inl (hN.sub b hb), fun b hb => ?_, fun b hb => ?_, fun b hb _ => hN.keep b hb fun _ h => (by cases h), fun _ _ => rfl, fun _ h => (by cases h), fun _ h => (by cases h), fun _ h => (by cases h)⟩, ?_⟩
  · rcases hb with hb | ⟨m, hm, c, hc⟩
    · rcases hN.new b hb with h | h | ⟨m, hm, _⟩
      · exact .inl h
      · exact .inr (.inl h)
      · cases hm
    · rcases (hN.plc m hm b c hc).2.2 with h | ⟨k, hk, _⟩
      · exact .inr (.inl h)
      · cases hk
  · rcases hb with hb | ⟨m, hm, c, hc⟩
    · exact hN.lt b hb
    · exact (hN.plc m hm b c hc).2.1
  · have hv := View.ev (vw := [(n, Blk.row (U := U) E t xs fx)]) (View.row (U := U) (xs := xs) 0 xs.length List.mem_cons_self (by omega)) (fun x hx => by simp only [List.mem_singleton] at hx; subst hx; exact hN.blk _ List.mem_cons_self) hu
    rw [List.drop_zero, List.take_length] at hv
    exact VV.mono (fun _ _ => rfl) (fun _ h => h) _ _ (fun _ h => by cases h) hv

theorem mapI_freeze {sl : List (Nat × AVal U)} {m E : Nat} {es : RowsM U t} {zs : KV (List (t.den U.T))} (h0 : Rel U O B S ι ⟨sl, [(m, .mapM (t.width U.wd) es.raw none)]⟩ a w) (hI : MapI U O B S ι w m E t es) (hz : es.txt.Perm zs) (hr : Rising zs) :
    ∃ S', Rel U O B S' ι ⟨sl, [(m, .map (.list t) zs)]⟩ a w := by
  let S' : Nat → Prop := fun b => S b ∨ ∃ y ∈ es, ∃ c, y.2.2.2 = some (b, c)
  have hS : ∀ b, S b → S' b := fun _ h => .inl h
  obtain ⟨b, c0, ents, clock, g1, g2, g3, g4⟩ := h0.hp _ List.mem_cons_self
  refine ⟨S', { h0 with
    sl := fun x hx => VV.mono (fun _ _ => rfl) hS _ _ (fun _ _ => rfl) (h0.sl x hx)
    hp := fun x hx => ?_
    own := ⟨fun n hn q c hq => ⟨?_, (h0.own.out n hn q c hq).2⟩, fun n hn k hk => h0.own.sep n hn k hk⟩
    mine := fun n hn => h0.mine n hn
    lt := fun q hq => ?_
    gl := h0.gl.mono (fun _ _ => rfl) hS
    sub := fun q hq => .inl (h0.sub q hq)
    new := fun q hq => ?_ }⟩
  · simp only [List.mem_singleton] at hx; subst hx
    refine ⟨b, c0, ents, clock, es.txt, g1, g2, g3, ?_, hz, hr⟩
    have key : ∀ (ents : List MapEntry) (ks : RowsM U t), (∀ y ∈ ks, y ∈ es) → EntsG (fun y u => u = y.2) ents ks.raw → EntsR U O S' w (.list t) ents ks.txt := by
      intro ents
      induction ents with
      | nil =>
        intro ks _ h
        have h : ks.raw = [] := h
        have : ks = [] := by cases ks with | nil => rfl | cons _ _ => cases h
        subst this; rfl
      | cons e0 ents ih =>
        intro ks hks h
        obtain ⟨y, r, k0, k1, k2, k3⟩ := h
        cases ks with
        | nil => cases k0
        | cons z ks =>
          have k0 : (z.1, z.2.1) :: RowsM.raw ks = y :: r := k0
          injection k0 with k0 k4
          subst k0 k4
          refine ⟨(z.1, z.2.2.1), RowsM.txt ks, rfl, k1, ?_, ih ks (fun y hy => hks y (List.mem_cons_of_mem _ hy)) k3⟩
          obtain ⟨q1, q2⟩ := hI.row z (hks z List.mem_cons_self)
          have hv := View.ev (O := O) (S := S) (ι := fun _ => z.2.2.2) (w := w) (vw := [(0, Blk.row E t z.2.2.1 false)]) (View.row (U := U) 0 z.2.2.1.length List.mem_cons_self (by omega)) (fun x hx => by simp only [List.mem_singleton] at hx; subst hx; exact q1) q2
          rw [List.drop_zero, List.take_length] at hv
          have hv' := VV.mono (S' := S') (w' := w) (ι' := ι) (fun _ _ => rfl) (fun b hb => by
            rcases hb with h | ⟨n, hn, c, hc⟩
            · exact .inl h
            · exact .inr ⟨z, hks z List.mem_cons_self, c, hc⟩) _ _ (fun n hn => by cases hn) hv
          have hk2 : e0.val = z.2.1 := k2
          rw [hk2]
          simp only [VV] at hv'
          exact hv'
    exact key _ _ (fun _ h => h) g4
  · rintro (h | ⟨y, hy, c', hc'⟩)
    · exact (h0.own.out n hn q c hq).1 h
    · have hnm : n = m := by simpa [nm] using hn
      subst hnm
      exact (hI.at' y hy q c' hc').2.2.2 c hq
  · rcases hq with h | ⟨y, hy, c', hc'⟩
    · exact h0.lt q h
    · exact (hI.at' y hy q c' hc').2.1
  · rcases hq with h | ⟨y, hy, c', hc'⟩
    · exact h0.new q h
    · exact .inr (hI.at' y hy q c' hc').2.2.1
end
end Go.AM
namespace Go.AM
set_option linter.unusedVariables false

section
variable {U : Univ} {O : Out} {P : Program} {B : Base} {S S' : Nat → Prop} {ι ι' : Lay} {w w' : World} {rs : List (Nat × AVal U)} {a a' : Act} {ops : Array Oper} {o : Oper} {st st' : St U} {t : Ty}

inductive ChainT (U : Univ) (O : Out) (P : Program) (ops : Array Oper) (N : Nat) (F : St U → Prop) : St U → List Oper → Prop
  | nil {st : St U} : F st → ChainT U O P ops N F st []
  | cons {st : St U} {o : Oper} {s : LSpec U} {rest : List Oper} : SOk U O P ops o s → Fits st s → (∀ t, o.dst = some t → t < N) → ChainT U O P ops N F (st.next s o.dst) rest → ChainT U O P ops N F st (o :: rest)
  | any {st : St U} {o : Oper} {β : Type} (s : β → LSpec U) {rs : List (Nat × AVal U)} {ro cb : List (Nat × Blk U)} {rest : List Oper} : (∀ b, Fits st (s b)) → (∀ x ∈ rs, x ∈ st.sl) → (∀ x ∈ ro ++ cb, x ∈ st.hp) → (∀ t, o.dst = some t → t < N) →
      (∀ (S : Nat → Prop) (ι : Lay) (w : World) (a : Act), (∀ b, S b → b < w.heap.size) → O.Glob S w → (∀ x ∈ rs, VV U O S ι w x.2 (a.tmps.getD x.1 undef)) → (∀ x ∈ ro, BR U O S ι w x.1 x.2) → (∀ x ∈ cb, BR U O S ι w x.1 x.2) →
        Own S ι w (nm ro ++ nm cb) → ∀ (K : Act → World → Prop) (Q : Exit → Act → World → Prop), (∀ b u S' ι' w', Nx U O (s b) S ι w S' ι' w' → VV U O S' ι' w' (s b).ws u → K (a.put o.dst u) w') → opWp P ops Q o K a w) →
      (∀ b, ChainT U O P ops N F (st.next (s b) o.dst) rest) → ChainT U O P ops N F st (o :: rest)

theorem ChainT.wp {F : St U → Prop} {l : List Oper} (hC : ChainT U O P ops B.n F st l) {Q : Exit → Act → World → Prop} (hQ : ∀ st' S ι a w, F st' → Rel U O B S ι st' a w → Q .normal a w) :
    ∀ {S : Nat → Prop} {ι : Lay} {a : Act} {w : World}, Rel U O B S ι st a w → wpList P ops Q l a w := by
  generalize hn : B.n = N at hC
  induction hC with
  | nil h => exact fun hR => hQ _ _ _ _ _ h hR
  | cons hs hF hd _ ih =>
    intro S ι a w hR
    have := hs.use (Q := Q) hR hF (fun t ht => hn ▸ hd t ht) (K := wpList P ops Q _) fun S' ι' a' w' hR' => ih hR'
    unfold opWp at this
    unfold wpList
    exact this
  | @any st o β s rs ro cb rest hF hrs hhp hd hs _ ih =>
    intro S ι a w hR
    have hin : ∀ n ∈ nm ro ++ nm cb, n ∈ nm st.hp := fun n hn => by
      rw [← List.map_append] at hn
      obtain ⟨x, hx, rfl⟩ := List.mem_map.1 hn
      exact mem_nm (hhp x hx)
    have := hs S ι w a hR.lt hR.gl (fun x hx => hR.sl x (hrs x hx)) (fun x hx => hR.hp x (hhp x (List.mem_append.2 (.inl hx)))) (fun x hx => hR.hp x (hhp x (List.mem_append.2 (.inr hx)))) ⟨fun n hn => hR.own.out n (hin n hn), fun n hn m hm => hR.own.sep n (hin n hn) m (hin m hm)⟩
      (wpList P ops Q rest) Q fun b u S' ι' w' hN hu => ih b (hR.next (hF b) hN hu fun t ht => hn ▸ hd t ht)
    unfold opWp at this
    unfold wpList
    exact this

theorem WpC.regionT {id N : Nat} {F : St U → Prop} {Q : PostQ U} (hN : B.n = N) (hC : ChainT U O P ops N F st ops.toList) (hQ : ∀ st', F st' → ∃ st2, Conv U O st' st2 ∧ Q .normal st2) : WpC U O P B (.region id ops false) st Q := fun S ι a w hR => by
  subst hN
  refine wp_region_list ?_
  exact hC.wp (fun st' S ι a w hF hR => by obtain ⟨st2, hcv, hq⟩ := hQ st' hF; exact ⟨st2, hq, hcv B S ι a w hR⟩) hR

theorem run_append_room_off (w : World) (t ty e : TypeId) (i : TypeInfo) (ht : P.underlying t = some (.slice e)) (hi : P.info? e = some i)
    (g off sLen sCap : Nat) (cur : Array Value) (hg : w.heap[g]? = some (.cells cur e (0, 0)))
    (a : Addr) (m c : Nat) (news : List Value) (hl : news.length = m * i.size) (hnews : ∀ j u, news[j]? = some u → w.cell? (a.add j) = some u) (h1 : ∀ u ∈ news, u.oneCell' = true)
    (hroom : sLen + m ≤ sCap) (hfit : off + sLen * i.size + news.length ≤ cur.size) :
    (Builtin.append_ #[t, t] ty #[.slice (some ⟨g, off, none⟩) sLen sCap, .slice (some a) m c]).run P w =
      .ok (.slice (some ⟨g, off, none⟩) (sLen + m) sCap) (w.setRow g (cur.toList.take (off + sLen * i.size) ++ news ++ cur.toList.drop (off + sLen * i.size + news.length)).toArray) := by
  have hf := run_firstCells_some (P := P) w i.size m a m c news hl hnews
  have hst := run_storeCells_at P g (off + sLen * i.size) e news 0 cur w hg (by simpa using hfit) h1
  simp only [Nat.add_zero] at hst
  simp [Builtin.append_, run_underlying ht, sizeOf, typeInfo, hi, Builtin.lenOf, hroom, hf, Addr.add_lit, hst]

theorem tail_append {T E : TypeId} {by_ n d : Nat} {pre q ys : List (t.den U.T)} {x y : Operand} (hg : o.guard = none) (hd : o.dst = some d)
    (ho : o.op = .call { callee := .builtin .append, args := #[x, y], argTypes := #[T, T] }) (hT : RowOk P U T E t by_) (hby : by_ ≤ 32768) (hw1 : t.width U.wd = 1)
    (hx : Opd U rs x (.vec n 1 pre.length q.length)) (hy : Opd U rs y (.p (.list t) ys)) (hlim : q.length + ys.length ≤ LIM) :
    ∀ (S : Nat → Prop) (ι : Lay) (w : World) (a : Act), (∀ b, S b → b < w.heap.size) → O.Glob S w → (∀ x ∈ rs, VV U O S ι w x.2 (a.tmps.getD x.1 undef)) → (∀ x ∈ ([] : List (Nat × Blk U)), BR U O S ι w x.1 x.2) → (∀ x ∈ [(n, Blk.row E t (pre ++ q) false)], BR U O S ι w x.1 x.2) →
      Own S ι w ([] ++ [n]) → ∀ (K : Act → World → Prop) (Q : Exit → Act → World → Prop),
      (∀ u S' ι' w', Nx U O { rs := rs, cb := [(n, .row E t (pre ++ q) false)], ws := .vec n 1 pre.length (q ++ ys).length, pb := [(n, .row E t (pre ++ (q ++ ys)) false)] } S ι w S' ι' w' → VV U O S' ι' w' (.vec n 1 pre.length (q ++ ys).length) u → K (a.put o.dst u) w') →
      (∀ u S' ι' w', Nx U O { rs := rs, cb := [(n, .row E t (pre ++ q) false)], ws := .vec d 1 0 (q ++ ys).length, pb := [(d, .row E t (q ++ ys) false)], nn := [d] } S ι w S' ι' w' → VV U O S' ι' w' (.vec d 1 0 (q ++ ys).length) u → K (a.put o.dst u) w') → opWp P ops Q o K a w := by
  intro S ι w a hlt hgl hrs _ hcb hown K Q hK1 hK2
  by_cases hp : pre = []
  · subst hp
    have h := sok_append' (ops := ops) (U := U) (O := O) (xs := q) (ys := ys) (fx := false) (vw := []) hg hd ho hT hby (by rw [hw1]; exact hx) hy (.same _) (by simp) hlim
    rw [hw1] at h
    exact h S ι w a hlt hgl hrs (fun _ h => by cases h) hcb hown K Q hK2
  have hpl : 0 < pre.length := List.length_pos_iff.2 hp
  obtain ⟨ds, hdl, hys⟩ := list_cells hT.pos (hy.ev hrs)
  rcases hcb _ List.mem_cons_self with ⟨_, h, _⟩ | ⟨b, c, arr, cs, h1, h2, h3, h4, h5, h6, h7, h8⟩
  · simp [hp] at h
  rcases hx.ev hrs with ⟨hn, _⟩ | ⟨b', c', o', hn, hoc, hu, hor⟩
  · rw [hn] at h1; cases h1
  rw [hn] at h1
  obtain ⟨rfl, rfl⟩ : b' = b ∧ c' = c := by simpa using h1
  rw [hw1] at h3 h8
  simp only [Nat.mul_one] at h3 h8 hor
  have hSb := hown.out n (by simp) b' c' hn
  obtain ⟨i, z, hi, hz, hs, hb', hzs⟩ := hT.info
  rw [hw1] at hs hzs
  have hdl' : ∀ i (hi : i < ys.length), (ds i).length = 1 := fun i hi => by rw [(hdl i hi).length, hw1]
  have hnewl : (rowCells ys.length ds).length = ys.length * 1 := flatMap_range_length _ _ _ fun i hi => hdl' i hi
  have hone : ∀ u ∈ rowCells ys.length ds, u.oneCell' = true := fun u hu => by
    obtain ⟨i, hi, hu⟩ := List.mem_flatMap.1 hu
    exact (hdl i (List.mem_range.1 hi)).one u hu
  have hqc : q.length + pre.length ≤ c' := by rw [List.length_append] at h5; omega
  have hkeep : ∀ (ys' : List (t.den U.T)), ys' = [] → ys = ys' → opWp P ops Q o K a w := fun ys' e1 e2 => by
    subst e1 e2
    have hsrc : Src P i.size T (a.eval y) 0 [] w := by
      rcases hys with ⟨_, hu2⟩ | ⟨ad, cap, hu2, hc⟩
      · rw [hu2]; exact ⟨.inl ⟨_, hT.sl.under⟩, fun w' => rfl, rfl, rfl, by simp, fun u hu => by cases hu⟩
      · rw [hu2]
        exact ⟨.inl ⟨_, hT.sl.under⟩, fun w' => rfl, run_firstCells_some (P := P) w i.size 0 ad 0 cap [] (by simp) (fun j u h => by simp at h), run_firstCells_some (P := P) w.drew i.size 0 ad 0 cap [] (by simp) (fun j u h => by simp at h), by simp, fun u hu => by cases hu⟩
    have hr := run_append_nothing (P := P) (ty := o.type) w T T E i hT.sl.under hi (some ⟨b', o', none⟩) q.length (c' - pre.length) (by omega) (a.eval y) hsrc
    refine opWp_plain hg ?_
    unfold Oper.wp
    rw [exec_append ho, hu, run_vOf hr]
    refine hK1 _ S ι w ?_ ?_
    · rw [List.append_nil]
      refine ⟨rfl, rfl, rfl, Nat.le_refl _, fun _ h => h, fun _ h => .inl h, hlt, fun _ _ _ => rfl, fun _ _ => rfl, fun x hx => ?_, fun k hk b c hb => ?_, fun k hk m hm hne => ?_⟩
      · simp only [List.mem_singleton] at hx; subst hx; exact hcb _ List.mem_cons_self
      · simp only [nm, List.map_cons, List.map_nil, List.mem_singleton] at hk; subst hk
        have h := hown.out k (by simp) b c hb
        exact ⟨h.1, h.2, .inr ⟨k, by simp, c, hb⟩⟩
      · simp only [nm, List.map_cons, List.map_nil, List.mem_singleton] at hk hm; exact absurd (hk.trans hm.symm) hne
    · rw [List.append_nil]
      exact .inr ⟨b', c', o', hn, hoc, rfl, by rw [Nat.mul_one]; exact hor⟩
  rcases hys with ⟨h, _⟩ | ⟨ad, cap, hu2, hc⟩
  · exact hkeep [] rfl h
  by_cases hy0 : ys = []
  · exact hkeep [] rfl hy0
  have hyl : 0 < ys.length := List.length_pos_iff.2 hy0
  by_cases hroom : q.length + ys.length ≤ c' - pre.length
  · have ho' : o' = pre.length := by
      rcases hor with h | h
      · exact h
      · omega
    subst ho'
    have hr := run_append_room_off (P := P) w T o.type E i hT.sl.under hi b' pre.length q.length (c' - pre.length) arr h2 ad ys.length cap (rowCells ys.length ds) (by rw [hs]; exact hnewl) hc hone hroom (by rw [hs, hnewl, h3]; omega)
    rw [hs, hnewl] at hr
    simp only [Nat.mul_one] at hr
    refine opWp_plain hg ?_
    unfold Oper.wp
    rw [exec_append ho, hu, hu2, run_vOf hr]
    have hbl : b' < w.heap.size := hSb.2
    have hst : ∀ k, S k → (w.setRow b' (arr.toList.take (pre.length + q.length) ++ rowCells ys.length ds ++ arr.toList.drop (pre.length + q.length + ys.length)).toArray).heap[k]? = w.heap[k]? := fun k hk => setRow_other w b' k _ fun e' => hSb.1 (e' ▸ hk)
    have hsz : (w.setRow b' (arr.toList.take (pre.length + q.length) ++ rowCells ys.length ds ++ arr.toList.drop (pre.length + q.length + ys.length)).toArray).heap.size = w.heap.size := by simp [World.setRow]
    refine hK1 _ S ι _ ⟨rfl, rfl, rfl, by rw [hsz]; exact Nat.le_refl _, fun _ h => h, fun _ h => .inl h, fun b h => by rw [hsz]; exact hlt b h, fun k hk hnot => setRow_other w b' k _ fun e' => hnot n (by simp) c' (by rw [e']; exact hn), fun _ _ => rfl, fun x hx => ?_, fun k hk b c hb => ?_, fun k hk m hm hne => ?_⟩ ?_
    · simp only [List.mem_singleton] at hx; subst hx
      refine .inr ⟨b', c', _, fun i => if i < (pre ++ q).length then cs i else ds (i - (pre ++ q).length), hn, setRow_heap w b' arr _ E _ h2, by rw [hw1]; simp only [List.size_toArray, List.length_append, List.length_take, List.length_drop, Array.length_toList, hnewl]; omega, h4, by simp only [List.length_append]; omega, (fun h => by cases h), fun i hi => ?_, fun i j hi hj => ?_⟩
      · have hi : i < (pre ++ (q ++ ys)).length := hi
        show Rd U O S _ t (pre ++ (q ++ ys))[i] (if i < (pre ++ q).length then cs i else ds (i - (pre ++ q).length))
        refine Rd.mono ?_ hst fun _ h => h
        have e : pre ++ (q ++ ys) = (pre ++ q) ++ ys := by simp
        by_cases c1 : i < (pre ++ q).length
        · rw [if_pos c1]
          have : (pre ++ (q ++ ys))[i] = (pre ++ q)[i] := by simp only [e, List.getElem_append_left c1]
          rw [this]; exact h7 i c1
        · rw [if_neg c1]
          have : (pre ++ (q ++ ys))[i] = ys[i - (pre ++ q).length]'(by rw [e, List.length_append] at hi; omega) := by simp only [e, List.getElem_append_right (Nat.le_of_not_lt c1)]
          rw [this]; exact hdl _ _
      · have hi : i < (pre ++ (q ++ ys)).length := hi
        rw [hw1] at hj ⊢
        show _ = (if i < (pre ++ q).length then cs i else ds (i - (pre ++ q).length))[j]?
        obtain rfl : j = 0 := by omega
        have hi' : i < pre.length + q.length + ys.length := by simp only [List.length_append] at hi; omega
        rw [Nat.mul_one, Nat.add_zero, List.getElem?_toArray]
        by_cases c1 : i < (pre ++ q).length
        · rw [if_pos c1, List.append_assoc, List.getElem?_append_left (by simp only [List.length_take, Array.length_toList]; rw [List.length_append] at c1; omega), List.getElem?_take, if_pos (by rw [List.length_append] at c1; omega), Array.getElem?_toList]
          exact h8 i 0 c1 (by omega)
        · rw [if_neg c1]
          have hl1 : (arr.toList.take (pre.length + q.length)).length = pre.length + q.length := by simp; omega
          rw [List.length_append] at c1 ⊢
          rw [List.getElem?_append_left (by rw [List.length_append, hl1, hnewl]; omega), List.getElem?_append_right (by omega), hl1]
          have := rowCells_get (n := ys.length) (k := 1) (cs := ds) (fun i hi => hdl' i hi) (i := i - (pre.length + q.length)) (j := 0) (by omega) (by omega)
          rw [Nat.mul_one, Nat.add_zero] at this
          exact this
    · simp only [nm, List.map_cons, List.map_nil, List.mem_singleton] at hk; subst hk
      have h := hown.out k (by simp) b c hb
      exact ⟨h.1, by rw [hsz]; exact h.2, .inr ⟨k, by simp, c, hb⟩⟩
    · simp only [nm, List.map_cons, List.map_nil, List.mem_singleton] at hk hm; exact absurd (hk.trans hm.symm) hne
    · exact .inr ⟨b', c', pre.length, hn, by rw [List.length_append]; omega, by rw [List.length_append], .inl (by simp)⟩
  · -- a new row
    have hql : ∀ i, i < q.length → (cs (pre.length + i)).length = 1 := fun i hi => by rw [(h7 (pre.length + i) (by rw [List.length_append]; omega)).length, hw1]
    have holdl : (rowCells q.length fun i => cs (pre.length + i)).length = q.length * 1 := flatMap_range_length _ _ _ hql
    have holds : ∀ j u, (rowCells q.length fun i => cs (pre.length + i))[j]? = some u → w.cell? ((⟨b', o', none⟩ : Addr).add j) = some u := fun j u hj => by
      have hlt := (List.getElem?_eq_some_iff.1 hj).1
      have hjq : j < q.length := by omega
      have ho' : o' = pre.length := by
        rcases hor with h | h
        · exact h
        · omega
      subst ho'
      rw [Addr.add_lit, cell_of_row w b' _ arr _ (0, 0) h2]
      have h9 := rowCells_get (n := q.length) (k := 1) (cs := fun i => cs (pre.length + i)) hql (i := j) (j := 0) hjq (by omega)
      rw [Nat.mul_one, Nat.add_zero] at h9
      rw [h9] at hj
      rw [← hj]
      have := h8 (pre.length + j) 0 (by rw [List.length_append]; omega) (by omega)
      rwa [Nat.add_zero] at this
    have h63 : q.length + ys.length ≤ maxLen := by unfold LIM at hlim; unfold maxLen; omega
    have hbytes : (q.length + ys.length) * by_ ≤ 140737488355328 := by
      have h1 : (q.length + ys.length) * by_ ≤ 4294967296 * 32768 := Nat.mul_le_mul (by unfold LIM at hlim; exact hlim) hby
      omega
    obtain ⟨v', w', hr, hro, hgr⟩ := run_append_arg_grows (P := P) w T o.type E i z 1 by_ hT.sl.under hi hz hs hb' hzs (by omega) ⟨b', o', none⟩ q.length (c' - pre.length) _ holdl holds ad ys.length cap _ hnewl hc (by omega) h63 hbytes
    have hzl : (q ++ ys).length = q.length + ys.length := List.length_append
    rw [rowCells_append, ← hzl, ← hw1] at hro
    have hels : ∀ (i : Nat) (h : i < (q ++ ys).length), Rd U O S w t (q ++ ys)[i] (if i < q.length then cs (pre.length + i) else ds (i - q.length)) := fun i hi => by
      by_cases h : i < q.length
      · rw [if_pos h, List.getElem_append_left h]
        have := h7 (pre.length + i) (by rw [List.length_append]; omega)
        rw [List.getElem_append_right (by omega)] at this
        simpa using this
      · rw [if_neg h, List.getElem_append_right (by omega)]
        exact hdl (i - q.length) (by omega)
    have hob : ∀ b, v'.ownBlock = some b → w.heap.size ≤ b ∨ none = some b := fun b hb => .inl (hro.lt b hb).1
    have hro0 : w'.ownsRow 0 E (t.width U.wd) v' (q ++ ys).length (rowCells (q ++ ys).length fun i => if i < q.length then cs (pre.length + i) else ds (i - q.length)) := by
      refine ⟨hro.1, ?_⟩
      rcases hro.2 with h | ⟨g, cp, cur, e1, _, e3⟩
      · exact .inl h
      · exact .inr ⟨g, cp, cur, e1, Nat.zero_le _, e3⟩
    obtain ⟨ι', hN, hV⟩ := nx_append (s := { rs := rs, cb := [(n, .row E t (pre ++ q) false)], ws := .vec d 1 0 (q ++ ys).length, pb := [(d, .row E t (q ++ ys) false)], nn := [d] }) (row := none)
      (ι := ι) rfl rfl hlt hgr (fun b hb => by cases hb) hels hro0 hob
    refine opWp_plain hg ?_
    unfold Oper.wp
    rw [exec_append ho, hu, hu2, run_vOf hr]
    rw [hw1] at hV
    exact hK2 v' S ι' w' hN hV

theorem remOf_app {α : Type} {seen : Array Nat} : ∀ {p1 p2 : List MapEntry} {y1 y2 : List α}, p1.length = y1.length → remOf seen (p1 ++ p2) (y1 ++ y2) = remOf seen p1 y1 ++ remOf seen p2 y2
  | [], _, [], _, _ => by simp [remOf]
  | e :: p1, p2, y :: y1, y2, h => by
    have ih := remOf_app (seen := seen) (p1 := p1) (p2 := p2) (y1 := y1) (y2 := y2) (by simpa using h)
    simp only [List.cons_append, remOf, ih]
    split <;> rfl
theorem upd_entry {T K E : TypeId} {m x y : Operand} {n d : Nat} {es : Array MapEntry} {clock : Nat} {ys left : KV (t.den U.T)} {z : List UInt8 × t.den U.T} {v : t.den U.T} (hg : o.guard = none) (hd : o.dst = none) (ho : o.op = .mapUpdate T m x y) (hT : MapOk P T K E) (hnd : n ≠ d)
    (hm : Opd U rs m (.mp n)) (hx : Opd U rs x (.p .str z.1)) (hy : Opd U rs y (.p t v)) :
    ∀ (S : Nat → Prop) (ι : Lay) (w : World) (a : Act), (∀ b, S b → b < w.heap.size) → O.Glob S w → (∀ x ∈ rs, VV U O S ι w x.2 (a.tmps.getD x.1 undef)) → (∀ x ∈ ([] : List (Nat × Blk U)), BR U O S ι w x.1 x.2) →
      (∀ x ∈ [(n, Blk.mapE t es clock ys), (d, .iter n t es clock ys left (some z))], BR U O S ι w x.1 x.2) → Own S ι w ([] ++ [n, d]) → ∀ (K : Act → World → Prop) (Q : Exit → Act → World → Prop),
      (∀ (es' : Array MapEntry) u S' ι' w', Nx U O { rs := rs, cb := [(n, .mapE t es clock ys), (d, .iter n t es clock ys left (some z))], pb := [(n, .mapE t es' clock (aput z.1 v ys)), (d, .iter n t es' clock (aput z.1 v ys) left none)] } S ι w S' ι' w' →
        VV U O S' ι' w' .junk u → K (a.put o.dst u) w') → opWp P ops Q o K a w := by
  intro S ι w a hlt hgl hrs _ hcb hown K' Q hK
  obtain ⟨b, c, h1, h2, h3, h4⟩ := hcb _ List.mem_cons_self
  obtain ⟨ib, ic, mb, mc, seen, i1, i2, i3, i4, i5⟩ := hcb _ (List.mem_cons_of_mem _ List.mem_cons_self)
  rw [h1] at i2
  obtain ⟨rfl, rfl⟩ : b = mb ∧ c = mc := by simpa using i2
  obtain ⟨b', c', h7, h8⟩ := hm.ev hrs
  rw [h1] at h7
  obtain ⟨rfl, rfl⟩ : b = b' ∧ c = c' := by simpa using h7
  obtain ⟨cs, hk, hk2⟩ := hx.ev hrs
  obtain ⟨zk, zv⟩ := z
  simp only at hk hk2 i5 ⊢
  cases hk with | str s =>
  have hk2 : a.eval x = .string s := hk2
  obtain ⟨cv, hr, hv⟩ := hy.ev hrs
  have hout := (hown.out n (by simp) b c h1).1
  have hky : MapKept.IsKey .string (.string s) := trivial
  obtain ⟨j, e0, q1, q2, pre0, q3⟩ := i5 _ rfl
  rcases EntsR.find (s := s) h4 h3.2.2 with ⟨f1, f2, f3, f4⟩ | ⟨pre, e, post, y1, y0, y2, f1, f2, f3, f4, f5, f6, _, f9, f10⟩
  · exact absurd rfl (mget_none.1 f3 _ (List.mem_of_getElem? q2))
  have ha : Apart ys := h4.apart h3.2.2
  rw [f2] at ha
  obtain ⟨_, p2, p3⟩ := List.pairwise_append.1 ha
  obtain ⟨p4, _⟩ := List.pairwise_cons.1 p2
  have hl1 : pre.length = y1.length := EntsR.len f5
  have hseen : seen.contains e.born = true := by
    have hj : j = pre.length := by
      rw [f2] at q2
      by_cases c1 : j < y1.length
      · rw [List.getElem?_append_left c1] at q2
        exact absurd rfl (p3 _ (List.mem_of_getElem? q2) (s.data.toList, y0) List.mem_cons_self)
      · rw [List.getElem?_append_right (by omega)] at q2
        by_cases c2 : j - y1.length = 0
        · omega
        · obtain ⟨i, hi⟩ : ∃ i, j - y1.length = i + 1 := ⟨j - y1.length - 1, by omega⟩
          rw [hi, List.getElem?_cons_succ] at q2
          exact absurd rfl (p4 (s.data.toList, zv) (List.mem_of_getElem? q2))
    rw [f1, hj, List.getElem?_append_right (Nat.le_refl _)] at q1
    simp at q1
    subst q1
    rw [q3]; simp
  have hj : es[pre.length]? = some e := by rw [← Array.getElem?_toList, f1]; simp
  have hrun : (Instr.mapUpdate T (.map (some b)) (.string s) (a.eval y)).run P w = .ok () { w with heap := w.heap.setIfInBounds b (.map (es.modify pre.length (fun e' => { e' with key := .string s, val := a.eval y })) clock) } := by
    simp [Instr.mapUpdate, run_underlying hT.ty, MapKept.run_getObj_map h2, MapKept.run_checkKey hT.key hky, MapKept.run_findKey hT.key f3, hj, f4, MapKept.run_keyThatStays hky, MapKept.run_setObj_map _ h2, Result.andThen]
  refine opWp_plain hg ?_
  unfold Oper.wp
  rw [exec_mapUpdate ho, h8, hk2]
  simp only [Sem.run_bind, hrun, Result.andThen_ok, Sem.run_pure, Oper.upon]
  have hap : aput s.data.toList v ys = y1 ++ (s.data.toList, v) :: y2 := by rw [f2]; exact aput_mid fun y hy => p3 y hy _ List.mem_cons_self
  have hbl : b < w.heap.size := (Array.getElem?_eq_some_iff.1 h2).1
  have hib : ib ≠ b := fun e' => hown.sep n (by simp) d (by simp) hnd b c ic h1 (by rw [← e']; exact i1)
  have hst : ∀ k, S k → (w.heap.setIfInBounds b (.map (es.modify pre.length (fun e' => { e' with key := .string s, val := a.eval y })) clock))[k]? = w.heap[k]? := fun k hk => (MapKept.heap_set h2).2 k fun e' => hout (e' ▸ hk)
  have hiout := (hown.out d (by simp) ib ic i1)
  refine hK (es.modify pre.length (fun e' => { e' with key := .string s, val := a.eval y })) undef S ι _ ⟨rfl, rfl, rfl, by simp, fun _ h => h, fun _ h => .inl h, fun b h => by simpa using hlt b h, fun k hk hnot => ?_, fun _ _ => rfl, fun x hx => ?_, fun k hk b' c' hb => ?_, fun k hk m hm hne b1 c1 c2 hb hb2 => ?_⟩ trivial
  · exact (MapKept.heap_set h2).2 k fun e' => hnot n (by simp) c (by rw [e']; exact h1)
  · rcases List.mem_cons.1 hx with rfl | hx
    · refine ⟨b, c, h1, (MapKept.heap_set h2).1, MapKept.stamped_modify h3 _ _ (fun _ _ => rfl) (fun e' _ he => by rw [hj] at he; cases he; exact f4.symm), ?_⟩
      rw [hap, Array.toList_modify, f1, modify_mid]
      exact EntsR.mono hst (fun _ h => h) (EntsR.app.2 ⟨y1, _, rfl, f5, _, y2, rfl, ⟨s, rfl, rfl⟩, ⟨cv, hr, hv⟩, f6⟩)
    · simp only [List.mem_singleton] at hx; subst hx
      refine ⟨ib, ic, b, c, seen, i1, h1, ((MapKept.heap_set h2).2 ib hib).trans i3, ?_, fun y hy => by cases hy⟩
      rw [hap, Array.toList_modify, f1, modify_mid]
      have r1 : remOf seen (e :: post) ((s.data.toList, y0) :: y2) = remOf seen post y2 := by rw [remOf, if_pos hseen]
      have r2 : remOf seen ({ e with key := .string s, val := a.eval y } :: post) ((s.data.toList, v) :: y2) = remOf seen post y2 := by rw [remOf]; exact if_pos hseen
      rw [f1, f2, remOf_app hl1, r1] at i4
      rw [remOf_app hl1, r2]
      exact i4
  · simp only [nm, List.map_cons, List.map_nil, List.mem_cons, List.not_mem_nil, or_false] at hk
    rcases hk with rfl | rfl
    · rw [h1] at hb; cases hb; exact ⟨hout, by simpa using hbl, .inr ⟨k, by simp, c, h1⟩⟩
    · rw [i1] at hb; cases hb; exact ⟨hiout.1, by simpa using hiout.2, .inr ⟨k, by simp, ic, i1⟩⟩
  · exact hown.sep k (by simpa [nm] using hk) m (by simpa [nm] using hm) hne b1 c1 c2 hb hb2
end
end Go.AM
