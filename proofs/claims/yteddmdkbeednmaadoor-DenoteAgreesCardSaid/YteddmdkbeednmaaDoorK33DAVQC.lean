/- The program's way, place by place, is the mirror's. -/
import Derived.Test.YteddmdkbeednmaaDoorK33DAVQB
namespace Go.Proofs.YteddmdkbeednmaaDoor
open Go Go.AM
set_option linter.unusedVariables false
set_option linter.unusedSimpArgs false
set_option maxRecDepth 100000
namespace Pk
def thr (t : Int × Kp) : T_pike_thread := T_pike_thread.mk t.1 t.2
def mkI (i : Nat) (v : List Int) : Mk := v.map fun x => x == (i : Int)
abbrev RF := (List T_prog_Instr) → (List UInt8) → Int → (List Int) → (List T_pike_thread) → (Option (List Int)) → Int → (List Int) → Option ((List Int) × (List T_pike_thread) × (Option (List Int)))
theorem idx_ok {α : Type} {l : List α} {a : Int} {x : α} (h : idx l a = some x) : 0 ≤ a ∧ a < (l.length : Int) ∧ l[a.toNat]? = some x := by
  unfold idx at h
  split at h
  · rename_i h0
    have := (List.getElem?_eq_some_iff.1 h).1
    exact ⟨h0, by omega, h⟩
  · cases h
theorem idx_no {α : Type} {l : List α} {a : Int} (h : idx l a = none) : a < 0 ∨ (l.length : Int) ≤ a := by
  unfold idx at h
  split at h
  · have := List.getElem?_eq_none_iff.1 h; omega
  · omega
theorem mk_seen {i : Nat} {v : List Int} {a : Int} {y : Int} (h : v[a.toNat]? = some y) : seen (mkI i v) a = (y == (i : Int)) := by
  unfold seen mkI
  rw [List.getD_eq_getElem?_getD, List.getElem?_map, h]; rfl
theorem mk_mark (i : Nat) (v : List Int) (a : Int) : mark (mkI i v) a = mkI i (upd v a.toNat (i : Int)) := by
  unfold mark mkI upd
  rw [List.map_set]; simp
theorem add_round {K : Nat} {rf : RF} {p : List Ins} {s : List UInt8} {i n : Nat} {v1 : List Int} {v2 : List T_pike_thread} {a : Int} {k : Kp} {x : Ins} (hx : idx p a = some x) (hl : v1.length = p.length) (hn : p.length ≤ 200) (hk : k.length = 20)
    (hs : seen (mkI i v1) a = false) :
    pike_runner_add_m1.l6 K rf p s i (n + 1) v1 v2 none a k = match act s.length i x a k with
      | .stop => some (upd v1 a.toNat i, v2, none)
      | .go b k' => pike_runner_add_m1.l6 K rf p s i n (upd v1 a.toNat i) v2 none b k'
      | .fork x y => (rf p s i (upd v1 a.toNat i) v2 none x k).bind fun r => pike_runner_add_m1.l6 K rf p s i n r.1 r.2.1 r.2.2 y k
      | .eat => if v2.length + 1 ≤ LIM then some (upd v1 a.toNat i, v2 ++ [thr (a, k)], none) else none
      | .hit => some (upd v1 a.toNat i, v2, some k) := by
  obtain ⟨h0, h1, h2⟩ := idx_ok hx
  obtain ⟨y, hy⟩ : ∃ y, v1[a.toNat]? = some y := ⟨v1[a.toNat]'(by omega), List.getElem?_eq_getElem _⟩
  have hne : (y != (i : Int)) = true := by rw [mk_seen hy] at hs; simp only [bne, hs]; rfl
  have hw : IntKind.i64.wrap (a + 1) = a + 1 := w64 (by omega) (by omega)
  rw [pike_runner_add_m1.l6, if_pos (by simpa using h0), if_pos (by simpa using h1), if_pos ⟨h0, by omega⟩, Nat.zero_add, hy, Option.bind_some, if_pos hne]
  simp only [Option.isNone_none]
  unfold pike_runner_add_m1.j38
  rw [if_pos rfl]
  unfold pike_runner_add_m1.j35
  rw [if_pos ⟨h0, by omega⟩, Nat.zero_add, hy, Option.bind_some, hx, Option.bind_some]
  by_cases o2 : x.f_Op = 2
  · simp [o2, act]
  by_cases o1 : x.f_Op = 1
  · simp [o1, act]
  by_cases o3 : x.f_Op = 3
  · simp only [o3, act, keep]
    by_cases g0 : x.f_X ≥ 0
    · have hx0 : 0 ≤ x.f_X := g0
      by_cases g1 : x.f_X < 20
      · have hkx : ∃ z, k[x.f_X.toNat]? = some z := ⟨k[x.f_X.toNat]'(by omega), List.getElem?_eq_getElem _⟩
        obtain ⟨z, hz⟩ := hkx
        simp [g0, g1, hx0, pike_runner_add_m1.j25, pike_runner_add_m1.j20, hz, hw]
      · simp [g0, g1, hx0, pike_runner_add_m1.j25, pike_runner_add_m1.j20, hw]
    · have hx0 : ¬ 0 ≤ x.f_X := g0
      simp [g0, hx0, pike_runner_add_m1.j25, pike_runner_add_m1.j20, hw]
  by_cases o4 : x.f_Op = 4
  · by_cases g : i = 0
    · subst g; simp [o4, act, hw]
    · have : ((i : Int) != 0) = true := by simp; omega
      simp [o4, act, g]
  by_cases o5 : x.f_Op = 5
  · by_cases g : i = s.length
    · subst g; simp [o5, act, hw]
    · have : ¬ ((i : Int) = (s.length : Int)) := by omega
      simp [o5, act, g, this]
  by_cases o0 : x.f_Op = 0
  · simp [o0, act, thr]
  by_cases o6 : x.f_Op = 6
  · by_cases g : i = s.length
    · subst g; simp [o6, act]
    · have : ¬ ((i : Int) = (s.length : Int)) := by omega
      simp [o6, act, g, this]
  simp [o0, o1, o2, o3, o4, o5, o6, act]
theorem add_end {K : Nat} {rf : RF} {p : List Ins} {s : List UInt8} {i n : Nat} {v1 : List Int} {v2 : List T_pike_thread} {fo : Option Kp} {a : Int} {k : Kp} (hl : v1.length = p.length)
    (h : idx p a = none ∨ (∃ x, idx p a = some x) ∧ (seen (mkI i v1) a = true ∨ fo ≠ none)) :
    pike_runner_add_m1.l6 K rf p s i (n + 1) v1 v2 fo a k = some (v1, v2, fo) := by
  rw [pike_runner_add_m1.l6]
  by_cases h0 : a ≥ 0
  · rw [if_pos (by simpa using h0)]
    by_cases h1 : a < (p.length : Int)
    · rw [if_pos (by simpa using h1), if_pos ⟨h0, by omega⟩, Nat.zero_add]
      obtain ⟨y, hy⟩ : ∃ y, v1[a.toNat]? = some y := ⟨v1[a.toNat]'(by omega), List.getElem?_eq_getElem _⟩
      rw [hy, Option.bind_some]
      rcases h with h | ⟨_, h | h⟩
      · have := idx_no h; omega
      · rw [mk_seen hy] at h
        have : (y != (i : Int)) = false := by simp only [bne, h]; rfl
        rw [if_neg (by rw [this]; decide)]; simp [pike_runner_add_m1.j38]
      · cases fo with
        | none => exact absurd rfl h
        | some κ =>
          simp only [Option.isNone_some]
          split <;> simp [pike_runner_add_m1.j38]
    · rw [if_neg (by simpa using h1)]; simp [pike_runner_add_m1.j38]
  · rw [if_neg (by simpa using h0)]; simp [pike_runner_add_m1.j38]
theorem keep_len {x : Int} {i : Nat} {k : Kp} (h : k.length = 20) : (keep x i k).length = 20 := by
  unfold keep; split
  · rw [upd_length, h]
  · exact h
theorem act_len {m i : Nat} {x : Ins} {a b : Int} {k k' : Kp} (h : k.length = 20) (ha : act m i x a k = .go b k') : k'.length = 20 := by
  unfold act at ha
  repeat' split at ha
  all_goals first | (cases ha; done) | (cases ha; first | exact h | exact keep_len h)
theorem le_upd {i : Nat} {v : List Int} {j : Nat} (h : ∀ x ∈ v, x ≤ (i : Int)) : ∀ x ∈ upd v j (i : Int), x ≤ (i : Int) := fun x hx => by
  unfold upd at hx
  rcases List.mem_or_eq_of_mem_set hx with h1 | h1
  · exact h x h1
  · rw [h1]; exact Int.le_refl _
theorem add_loop {p : List Ins} {s : List UInt8} {i : Nat} (hn : p.length ≤ 200) : ∀ {f K n : Nat} {a : Int} {k : Kp} {v1 : List Int} {v2 : List T_pike_thread} {M' N fo},
    C p s.length f i a k (mkI i v1) = some (M', N, fo) → f ≤ K → f ≤ n → k.length = 20 → v1.length = p.length → v2.length + cnt (mkI i v1) ≤ 1000 → (∀ x ∈ v1, x ≤ (i : Int)) →
    ∃ v1', pike_runner_add_m1.l6 K (scc_pike_runner_add_m1 K) p s i n v1 v2 none a k = some (v1', v2 ++ N.map thr, fo) ∧ mkI i v1' = M' ∧ v1'.length = p.length ∧ (∀ x ∈ v1', x ≤ (i : Int)) ∧ ∀ t ∈ N, t.2.length = 20 := by
  intro f
  induction f with
  | zero => intro K n a k v1 v2 M' N fo h; cases h
  | succ f ih =>
    intro K n a k v1 v2 M' N fo hC hK hn' hk hl hv hle
    obtain ⟨n, rfl⟩ : ∃ n', n = n' + 1 := ⟨n - 1, by omega⟩
    unfold C at hC
    cases hx : idx p a with
    | none =>
      rw [hx] at hC; cases hC
      exact ⟨v1, by rw [add_end hl (.inl hx)]; simp, rfl, hl, hle, fun t h => by cases h⟩
    | some x =>
      rw [hx] at hC
      dsimp only at hC
      cases hs : seen (mkI i v1) a with
      | true =>
        rw [if_pos hs] at hC; cases hC
        exact ⟨v1, by rw [add_end hl (.inr ⟨⟨x, hx⟩, .inl hs⟩)]; simp, rfl, hl, hle, fun t h => by cases h⟩
      | false =>
        rw [if_neg (by rw [hs]; decide)] at hC
        rw [add_round hx hl hn hk hs]
        rw [mk_mark] at hC
        have hl' : (upd v1 a.toNat (i : Int)).length = p.length := by rw [upd_length, hl]
        have hle' := le_upd (j := a.toNat) hle
        have hcm := cnt_mark hs
        rw [mk_mark] at hcm
        cases ha : act s.length i x a k with
        | stop => rw [ha] at hC; cases hC; exact ⟨_, by simp, rfl, hl', hle', fun t h => by cases h⟩
        | hit => rw [ha] at hC; cases hC; exact ⟨_, by simp, rfl, hl', hle', fun t h => by cases h⟩
        | eat =>
          rw [ha] at hC; cases hC
          refine ⟨_, ?_, rfl, hl', hle', fun t h => ?_⟩
          · dsimp only
            rw [if_pos (by unfold LIM; omega)]; rfl
          · rcases List.mem_cons.1 h with rfl | h
            · exact hk
            · cases h
        | go b k' =>
          rw [ha] at hC
          exact ih hC (by omega) (by omega) (act_len hk ha) hl' (by omega) hle'
        | fork x y =>
          rw [ha] at hC
          obtain ⟨⟨cM, cN, cf⟩, hc, hC1⟩ := bind_some hC
          obtain ⟨K, rfl⟩ : ∃ K', K = K' + 1 := ⟨K - 1, by omega⟩
          obtain ⟨w, h1, h2, h3, h4, h5⟩ := ih (K := K) (n := K) (v2 := v2) hc (by omega) (by omega) hk hl' (by omega) hle'
          have hrf : scc_pike_runner_add_m1 (K + 1) p s i (upd v1 a.toNat i) v2 none x k = some (w, v2 ++ cN.map thr, cf) := by
            show pike_runner_add_m1.b K (scc_pike_runner_add_m1 K) p s i (upd v1 a.toNat i) v2 none x k = _
            unfold pike_runner_add_m1.b
            rw [h1]; rfl
          dsimp only
          rw [hrf, Option.bind_some]
          cases cf with
          | some κ =>
            cases hC1
            obtain ⟨n, rfl⟩ : ∃ n', n = n' + 1 := ⟨n - 1, by
              cases f with
              | zero => cases hc
              | succ f => omega⟩
            refine ⟨w, ?_, h2, h3, h4, h5⟩
            cases hy : idx p y with
            | none => exact add_end h3 (.inl hy)
            | some z => exact add_end h3 (.inr ⟨⟨z, hy⟩, .inr (by simp)⟩)
          | none =>
            obtain ⟨⟨c2M, c2N, c2f⟩, hc2, hC2⟩ := bind_some hC1
            cases hC2
            dsimp only at hc2
            rw [← h2] at hc2
            have hcn := C_len hc
            obtain ⟨w2, g1, g2, g3, g4, g5⟩ := ih (K := K + 1) (n := n) (v2 := v2 ++ cN.map thr) hc2 (by omega) (by omega) hk h3 (by rw [h2, List.length_append, List.length_map]; omega) h4
            refine ⟨w2, ?_, g2, g3, g4, fun t ht => ?_⟩
            · dsimp only
              rw [g1, List.map_append, List.append_assoc]
            · rcases List.mem_append.1 ht with h | h
              · exact h5 t h
              · exact g5 t h

theorem add_f {p : List Ins} {s : List UInt8} {i : Nat} (hn : p.length ≤ 200) {f K : Nat} {a : Int} {k : Kp} {v1 : List Int} {v2 : List T_pike_thread} {M' N fo} (hC : C p s.length f i a k (mkI i v1) = some (M', N, fo)) (hK : f ≤ K) (hk : k.length = 20) (hl : v1.length = p.length) (hv : v2.length + cnt (mkI i v1) ≤ 1000) (hle : ∀ x ∈ v1, x ≤ (i : Int)) :
    ∃ v1', pike_runner_add_m1.f (K + 1) p s i v1 v2 none a k = some (v1', v2 ++ N.map thr, fo) ∧ mkI i v1' = M' ∧ v1'.length = p.length ∧ (∀ x ∈ v1', x ≤ (i : Int)) ∧ ∀ t ∈ N, t.2.length = 20 := by
  obtain ⟨w, h1, h2, h3, h4, h5⟩ := add_loop hn (K := K) (n := K) (v2 := v2) hC hK hK hk hl hv hle
  refine ⟨w, ?_, h2, h3, h4, h5⟩
  show pike_runner_add_m1.b K (scc_pike_runner_add_m1 K) p s i v1 v2 none a k = _
  unfold pike_runner_add_m1.b
  rw [h1]; rfl
theorem add_found {p : List Ins} {s : List UInt8} {i K : Nat} {a : Int} {k κ : Kp} {v1 : List Int} {v2 : List T_pike_thread} (hl : v1.length = p.length) : pike_runner_add_m1.f (K + 2) p s i v1 v2 (some κ) a k = some (v1, v2, some κ) := by
  show pike_runner_add_m1.b (K + 1) (scc_pike_runner_add_m1 (K + 1)) p s i v1 v2 (some κ) a k = _
  unfold pike_runner_add_m1.b
  have : pike_runner_add_m1.l6 (K + 1) (scc_pike_runner_add_m1 (K + 1)) p s i (K + 1) v1 v2 (some κ) a k = some (v1, v2, some κ) := by
    cases hy : idx p a with
    | none => exact add_end hl (.inl hy)
    | some z => exact add_end hl (.inr ⟨⟨z, hy⟩, .inr (by simp)⟩)
  rw [this]; rfl
theorem C_in {p : List Ins} {m : Nat} : ∀ {f i a k M M' N fo}, C p m f i a k M = some (M', N, fo) → ∀ t ∈ N, ∃ x, idx p t.1 = some x := by
  intro f
  induction f with
  | zero => intro i a k M M' N fo h; cases h
  | succ f ih =>
    intro i a k M M' N fo h
    unfold C at h
    cases hx : idx p a with
    | none => rw [hx] at h; cases h; intro t h; cases h
    | some x =>
      rw [hx] at h
      dsimp only at h
      split at h
      · cases h; intro t h; cases h
      · cases ha : act m i x a k with
        | stop => rw [ha] at h; cases h; intro t h; cases h
        | hit => rw [ha] at h; cases h; intro t h; cases h
        | eat =>
          rw [ha] at h; cases h; intro t h
          rcases List.mem_cons.1 h with rfl | h
          · exact ⟨x, hx⟩
          · cases h
        | go b k' => rw [ha] at h; exact ih h
        | fork x y =>
          rw [ha] at h
          obtain ⟨⟨cM, cN, cf⟩, h1, h2⟩ := bind_some h
          have g1 := ih h1
          cases cf with
          | some κ => cases h2; exact g1
          | none =>
            obtain ⟨⟨c2M, c2N, c2f⟩, h3, h4⟩ := bind_some h2
            have g2 := ih h3
            cases h4
            intro t ht
            rcases List.mem_append.1 ht with h | h
            · exact g1 t h
            · exact g2 t h
theorem step_loop {p : List Ins} {s : List UInt8} {i K : Nat} {b : Int} (hasf : Nat → Ins → Bool) (hn : p.length ≤ 200) (hi : i < 100) (hset : ∀ x ∈ p, class_Set_Has.f (K + 2) x.f_Set b = some (hasf i x)) {T : List (Int × Kp)} (hT : T.length ≤ 300) :
    ∀ {N done : List (Int × Kp)} {n : Nat} {v1 : List Int} {v2 : List T_pike_thread} {M' N' fo}, T = done ++ N → CL p s.length hasf (K + 1) i N (mkI (i + 1) v1) = some (M', N', fo) → N.length < n → (∀ t ∈ T, t.2.length = 20 ∧ ∃ x, idx p t.1 = some x) →
      v1.length = p.length → v2.length + cnt (mkI (i + 1) v1) ≤ 1000 → (∀ x ∈ v1, x ≤ ((i + 1 : Nat) : Int)) →
      ∃ v1', pike_runner_step_m1.l5 (K + 2) p s i (T.map thr) b n v1 v2 none (done.length : Int) = some (v1', v2 ++ N'.map thr, fo) ∧ v1'.length = p.length ∧ (∀ x ∈ v1', x ≤ ((i + 1 : Nat) : Int)) ∧ (∀ t ∈ N', t.2.length = 20 ∧ ∃ x, idx p t.1 = some x) := by
  have hwi : IntKind.i64.wrap ((i : Int) + 1) = ((i + 1 : Nat) : Int) := by rw [w64 (by omega) (by omega)]; rfl
  have hfound : ∀ {N done : List (Int × Kp)} {n : Nat} {v1 : List Int} {v2 : List T_pike_thread} {κ : Kp}, T = done ++ N → N.length < n → (∀ t ∈ T, t.2.length = 20 ∧ ∃ x, idx p t.1 = some x) → v1.length = p.length →
      pike_runner_step_m1.l5 (K + 2) p s i (T.map thr) b n v1 v2 (some κ) (done.length : Int) = some (v1, v2, some κ) := by
    intro N
    induction N with
    | nil =>
      intro done n v1 v2 κ e hlt hk hl
      obtain ⟨n, rfl⟩ : ∃ n', n = n' + 1 := ⟨n - 1, by omega⟩
      rw [pike_runner_step_m1.l5, if_neg (by rw [e]; simp)]
    | cons t N ih =>
      intro done n v1 v2 κ e hlt hk hl
      obtain ⟨n, rfl⟩ : ∃ n', n = n' + 1 := ⟨n - 1, by simp at hlt; omega⟩
      have hle : done.length < T.length := by rw [e]; simp
      have ht : (T.map thr)[done.length]? = some (thr t) := by rw [e]; simp
      have hw : IntKind.i64.wrap ((done.length : Int) + 1) = (((done ++ [t]).length : Nat) : Int) := by rw [w64 (by omega) (by omega)]; simp
      obtain ⟨hkt, x, hx⟩ := hk t (by rw [e]; simp)
      have hxp : x ∈ p := List.mem_of_getElem? (idx_ok hx).2.2
      have ih' := @ih (done ++ [t]) n v1 v2 κ (by rw [e]; simp) (by simp at hlt; omega) hk hl
      have hwa : IntKind.i64.wrap ((thr t).f_at + 1) = t.1 + 1 := by obtain ⟨q0, q1, _⟩ := idx_ok hx; exact w64 (by show -9223372036854775808 ≤ t.1 + 1; omega) (by show t.1 + 1 ≤ 9223372036854775807; omega)
      rw [pike_runner_step_m1.l5, if_pos (by simp; omega), if_pos ⟨by omega, by rw [List.length_map]; omega⟩, Nat.zero_add, Int.toNat_natCast, ht, Option.bind_some]
      rw [show (thr t).f_at = t.1 from rfl, hx, Option.bind_some, hset x hxp, Option.bind_some]
      unfold pike_runner_step_m1.j15
      rw [hw]
      split
      · rw [hwi, show IntKind.i64.wrap (t.1 + 1) = t.1 + 1 from hwa, add_found hl, Option.bind_some]
        exact ih'
      · exact ih'
  intro N
  induction N with
  | nil =>
    intro done n v1 v2 M' N' fo e hC hlt hk hl hv hle
    obtain ⟨n, rfl⟩ : ∃ n', n = n' + 1 := ⟨n - 1, by omega⟩
    cases hC
    refine ⟨v1, ?_, hl, hle, fun t h => by cases h⟩
    rw [pike_runner_step_m1.l5, if_neg (by rw [e]; simp)]; simp
  | cons t N ih =>
    intro done n v1 v2 M' N' fo e hC hlt hk hl hv hle
    obtain ⟨n, rfl⟩ : ∃ n', n = n' + 1 := ⟨n - 1, by simp at hlt; omega⟩
    have hdl : done.length < T.length := by rw [e]; simp
    have ht : (T.map thr)[done.length]? = some (thr t) := by rw [e]; simp
    have hw : IntKind.i64.wrap ((done.length : Int) + 1) = (((done ++ [t]).length : Nat) : Int) := by rw [w64 (by omega) (by omega)]; simp
    obtain ⟨hkt, x, hx⟩ := hk t (by rw [e]; simp)
    have hxp : x ∈ p := List.mem_of_getElem? (idx_ok hx).2.2
    have hwa : IntKind.i64.wrap (t.1 + 1) = t.1 + 1 := by obtain ⟨q0, q1, _⟩ := idx_ok hx; exact w64 (by omega) (by omega)
    rw [pike_runner_step_m1.l5, if_pos (by simp; omega), if_pos ⟨by omega, by rw [List.length_map]; omega⟩, Nat.zero_add, Int.toNat_natCast, ht, Option.bind_some]
    rw [show (thr t).f_at = t.1 from rfl, hx, Option.bind_some, hset x hxp, Option.bind_some]
    unfold pike_runner_step_m1.j15
    rw [hw]
    unfold CL at hC
    rw [hx, Option.any_some] at hC
    cases hh : hasf i x with
    | true =>
      rw [hh, if_pos rfl] at hC
      rw [if_pos rfl, hwi, hwa]
      obtain ⟨⟨cM, cN, cf⟩, hc, hC1⟩ := bind_some hC
      obtain ⟨w, g1, g2, g3, g4, g5⟩ := add_f hn (K := K + 1) (v2 := v2) hc (Nat.le_refl _) hkt hl hv hle
      rw [show (thr t).f_kept = t.2 from rfl, g1, Option.bind_some]
      have hcl := C_len hc
      have hin := C_in hc
      cases cf with
      | some κ =>
        cases hC1
        refine ⟨w, ?_, g3, g4, fun t ht => ⟨g5 t ht, hin t ht⟩⟩
        exact hfound (done := done ++ [t]) (N := N) (by rw [e]; simp) (by simp at hlt; omega) hk g3
      | none =>
        obtain ⟨⟨c2M, c2N, c2f⟩, hc2, hC2⟩ := bind_some hC1
        cases hC2
        dsimp only at hc2
        rw [← g2] at hc2
        obtain ⟨w2, q1, q2, q3, q4⟩ := ih (done := done ++ [t]) (n := n) (v2 := v2 ++ cN.map thr) (by rw [e]; simp) hc2 (by simp at hlt; omega) hk g3 (by rw [g2, List.length_append, List.length_map]; omega) g4
        refine ⟨w2, ?_, q2, q3, fun t ht => ?_⟩
        · dsimp only
          rw [q1, List.map_append, List.append_assoc]
        · rcases List.mem_append.1 ht with h | h
          · exact ⟨g5 t h, hin t h⟩
          · exact q4 t h
    | false =>
      rw [hh, if_neg (by decide)] at hC
      rw [if_neg (by decide)]
      exact ih (done := done ++ [t]) (n := n) (by rw [e]; simp) hC (by simp at hlt; omega) hk hl hv hle
end Pk
end Go.Proofs.YteddmdkbeednmaaDoor
