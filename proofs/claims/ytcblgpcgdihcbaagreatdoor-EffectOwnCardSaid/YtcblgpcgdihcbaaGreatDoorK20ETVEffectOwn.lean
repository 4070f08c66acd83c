/- The law EffectOwn, without any program in sight. -/
import Derived.Test.YtcblgpcgdihcbaaGreatDoorK20ETVQ
import Derived.Test.YtcblgpcgdihcbaaGreatDoorK20ETVN
namespace Go.Proofs.YtcblgpcgdihcbaaGreatDoor
open Go Go.AM Go.ChangeShapes Go.ChangeAt Go.RowKit
set_option linter.unusedVariables false
set_option linter.unusedSimpArgs false
set_option maxRecDepth 100000
namespace St
theorem own_loop (k : Nat) (hk : 4000 ≤ k) (a0 : List Fl) (l : List Ef) (a2 : List Tx) (hl : l.length ≤ 1000) (h2 : a2.length ≤ 1000) : ∀ (r : List Ef) (fuel i : Nat) (o : Bool) (out : List Tx), l.drop i = r → r.length < fuel → out.length ≤ i →
    millwrightlaw05_EffectOwn.l61 k a0 l a2 fuel o out (i : Int) = some (o && r.all (fun e => Nl.hasB a2 e.f_Name), out ++ r.map (·.f_Name))
  | _, 0, _, _, _, _, h, _ => by omega
  | [], f + 1, i, o, out, hd, _, _ => by
    have := Tr.at_nil hd
    unfold millwrightlaw05_EffectOwn.l61
    rw [if_neg (by simp; omega)]; simp
  | e :: r, f + 1, i, o, out, hd, hf, ho => by
    obtain ⟨g1, g2, g3⟩ := Tr.at_drop hd
    have ih := fun o' => own_loop k hk a0 l a2 hl h2 r f (i + 1) o' (out ++ [e.f_Name]) g2 (by simpa using hf) (by simp; omega)
    unfold millwrightlaw05_EffectOwn.l61 millwrightlaw05_EffectOwn.j73 millwrightlaw05_EffectOwn.j69
    rw [if_pos (by simp; exact g3), g1, Option.bind_some, Tr.wr1 (by omega)]
    have hlim : out.length + [e.f_Name].length ≤ LIM := Ar.lim_ok (by omega)
    cases o with
    | true => rw [if_pos rfl, Nl.has1_eq k (by omega) a2 h2, Option.bind_some, if_pos hlim, ih]; simp
    | false => rw [if_neg (by decide), if_pos hlim, ih]; simp
theorem strange_loop (k : Nat) (hk : 4000 ≤ k) (l : List Ef) (a2 : List Tx) (hl : l.length ≤ 1000) (h2 : a2.length ≤ 1000) : ∀ (r : List Ef) (fuel i : Nat), l.drop i = r → r.length < fuel →
    ∃ o, effect_Effect_72_m0.l3 k l a2 fuel (i : Int) = some o ∧ (r.all (fun e => Nl.hasB a2 e.f_Name) = true → o = .inl ()) ∧ (r.all (fun e => Nl.hasB a2 e.f_Name) = false → ∃ v : Int, o = .inr v ∧ 0 ≤ v)
  | _, 0, _, _, h => by omega
  | [], f + 1, i, hd, _ => by
    have := Tr.at_nil hd
    unfold effect_Effect_72_m0.l3
    exact ⟨.inl (), by rw [if_neg (by simp; omega)], fun _ => rfl, fun h => by simp at h⟩
  | e :: r, f + 1, i, hd, hf => by
    obtain ⟨g1, g2, g3⟩ := Tr.at_drop hd
    obtain ⟨o, q1, q2, q3⟩ := strange_loop k hk l a2 hl h2 r f (i + 1) g2 (by simpa using hf)
    unfold effect_Effect_72_m0.l3 effect_Own_1_m0.f
    rw [if_pos (by simp; exact g3), g1, Option.bind_some, Nl.has2_eq k (by omega) a2 h2, Option.bind_some, Option.bind_some, Tr.wr1 (by omega), q1]
    cases hh : Nl.hasB a2 e.f_Name with
    | true =>
      refine ⟨o, by rw [if_neg (by decide)], fun h => q2 ?_, fun h => q3 ?_⟩
      · simpa [hh] using h
      · simpa [hh] using h
    | false =>
      refine ⟨.inr (i : Int), by rw [if_pos (by decide)], fun h => ?_, fun _ => ⟨i, rfl, by omega⟩⟩
      simp [hh] at h
theorem own_eq (k : Nat) (hk : 4000 ≤ k) (l : List Ef) (a2 : List Tx) (hl : l.length ≤ 1000) (h2 : a2.length ≤ 1000) : effect_Own.f k l a2 = some (l.all fun e => Nl.hasB a2 e.f_Name) := by
  unfold effect_Own.f effect_Effect_m0.f effect_Effect_72_m0.f effect_Effect_72_m0.j1
  obtain ⟨o, q1, q2, q3⟩ := strange_loop k hk l a2 hl h2 l k 0 rfl (by omega)
  have q1' : effect_Effect_72_m0.l3 k l a2 k 0 = some o := q1
  rw [q1', Option.bind_some]
  cases hh : l.all fun e => Nl.hasB a2 e.f_Name with
  | true => rw [q2 hh]; rfl
  | false =>
    obtain ⟨v, e, hv⟩ := q3 hh
    rw [e]
    simp [hv]
theorem names_loop (k : Nat) (l : List Ef) (hl : l.length ≤ 1000) : ∀ (r : List Ef) (fuel i : Nat) (out : List Tx), l.drop i = r → r.length < fuel → out.length ≤ i → effect_Names.l6 k l fuel out (i : Int) = some (out ++ r.map (·.f_Name))
  | _, 0, _, _, _, h, _ => by omega
  | [], f + 1, i, out, hd, _, _ => by
    have := Tr.at_nil hd
    unfold effect_Names.l6
    rw [if_neg (by simp; omega)]; simp
  | e :: r, f + 1, i, out, hd, hf, ho => by
    obtain ⟨g1, g2, g3⟩ := Tr.at_drop hd
    have ih := names_loop k l hl r f (i + 1) (out ++ [e.f_Name]) g2 (by simpa using hf) (by simp; omega)
    unfold effect_Names.l6
    rw [if_pos (by simp; exact g3), g1, Option.bind_some, Tr.wr1 (by omega), if_pos (Ar.lim_ok (by omega)), ih]; simp
theorem names_eq (k : Nat) (hk : 4000 ≤ k) (l : List Ef) (hl : l.length ≤ 1000) : effect_Names.f k l = some (Nl.sortedS (l.map (·.f_Name))) := by
  unfold effect_Names.f effect_Names.j3
  have e : effect_Names.l6 k l k [] 0 = _ := names_loop k l hl l k 0 [] rfl (by omega) (by simp)
  rw [e, Option.bind_some, List.nil_append, Nl.names_sorted k _ (by simp; omega)]; rfl
theorem sortedS_len (xs : List Tx) (n : Nat) (h : xs.length ≤ n) : (Nl.sortedS xs).length ≤ n := by
  have h1 : (Nl.sortedS xs).length ≤ xs.length := by
    have := (Lib.compact_length_le (xs.mergeSort fun x y => decide (x ≤ y)))
    simpa [Nl.sortedS] using this
  omega
theorem do_get {m : Mp} {t : Int} {e : Ef} {o : Tx} (h1 : o ≠ e.f_Name) (h2 : o ≠ keyS e.f_Name) : mget o (doS m t e).2 = mget o m := by
  unfold doS
  split
  · rfl
  · split
    · by_cases h0 : (Tr.putS m (T_tree_File.mk e.f_Name e.f_Text t)).1 = 0
      · rw [put_done h0, mget_put_ne _ h1]
      · rw [put_fail h0]
    · split
      · exact set_get h2
      · unfold Tr.remS
        split
        · exact mget_del_ne h1 m
        · rfl
theorem app_get (t : Int) (o : Tx) : ∀ (r : List Ef) (i : Nat) (m : Mp), (∀ e ∈ r, o ≠ e.f_Name ∧ o ≠ keyS e.f_Name) → mget o (appS t r i m).2.2 = mget o m
  | [], i, m, _ => rfl
  | e :: r, i, m, h => by
    have he := h e List.mem_cons_self
    have hd := do_get (m := m) (t := t) he.1 he.2
    unfold appS
    by_cases h0 : (doS m t e).1 = 0
    · rw [if_pos h0, app_get t o r (i + 1) _ (fun x hx => h x (List.mem_cons_of_mem _ hx)), hd]
    · rw [if_neg h0]; exact hd
def libsS (l : List Tx) : List Tx := (l.filter fun n => (memS n).2.2).map fun n => (memS n).1
theorem libs_loop (k : Nat) (hk : 4000 ≤ k) (a0 : List Fl) (l : List Tx) (v7 : Int × Nat × Mp) (hl : l.length ≤ 1000) (hn : ∀ x ∈ l, x.length ≤ 1000) : ∀ (r : List Tx) (fuel i : Nat) (out : List Tx), l.drop i = r → r.length < fuel → out.length ≤ 1000 + i →
    millwrightlaw05_EffectOwn.l30 k a0 l v7 fuel out (i : Int) = some (out ++ libsS r)
  | _, 0, _, _, _, h, _ => by omega
  | [], f + 1, i, out, hd, _, _ => by
    have := Tr.at_nil hd
    unfold millwrightlaw05_EffectOwn.l30
    rw [if_neg (by simp; omega)]; simp [libsS]
  | x :: r, f + 1, i, out, hd, hf, ho => by
    obtain ⟨g1, g2, g3⟩ := Tr.at_drop hd
    have hx : x ∈ l := List.mem_of_mem_drop (hd ▸ List.mem_cons_self)
    have ih := fun o h => libs_loop k hk a0 l v7 hl hn r f (i + 1) o g2 (by simpa using hf) h
    unfold millwrightlaw05_EffectOwn.l30 millwrightlaw05_EffectOwn.j36
    rw [if_pos (by simp; exact g3), g1, Option.bind_some, rmem_eq k x (hn x hx) (by omega), Option.bind_some, Tr.wr1 (by omega)]
    cases hm : (memS x).2.2 with
    | true =>
      rw [if_pos rfl, if_pos (Ar.lim_ok (by omega)), ih _ (by simp; omega)]
      simp [libsS, hm]
    | false =>
      rw [if_neg (by decide), ih _ (by omega)]
      simp [libsS, hm]
theorem left_loop (k : Nat) (hk : 4000 ≤ k) (a0 : List Fl) (n : Int) (e : Nat) (m : Mp) (libs : List Tx) (hl : a0.length ≤ 1000) (h2 : libs.length ≤ 1000) (h : ∀ f ∈ a0, f.f_Name ∉ libs → mget f.f_Name m = some f) : ∀ (r : List Fl) (fuel i : Nat), a0.drop i = r → r.length < fuel →
    millwrightlaw05_EffectOwn.l12 k a0 (n, e, m) libs fuel (i : Int) = some (.inl ())
  | _, 0, _, _, h => by omega
  | [], f + 1, i, hd, _ => by
    have := Tr.at_nil hd
    unfold millwrightlaw05_EffectOwn.l12
    rw [if_neg (by simp; omega)]
  | x :: r, f + 1, i, hd, hf => by
    obtain ⟨g1, g2, g3⟩ := Tr.at_drop hd
    have hx : x ∈ a0 := List.mem_of_mem_drop (hd ▸ List.mem_cons_self)
    have ih := left_loop k hk a0 n e m libs hl h2 h r f (i + 1) g2 (by simpa using hf)
    unfold millwrightlaw05_EffectOwn.l12 millwrightlaw05_EffectOwn.j21 millwrightlaw05_EffectOwn.j16
    rw [if_pos (by simp; exact g3), g1, Option.bind_some, Tr.get_eq, Option.bind_some, Nl.has1_eq k (by omega) libs h2, Option.bind_some, Tr.wr1 (by omega), ih]
    simp only
    by_cases hin : x.f_Name ∈ libs
    · have hh : Nl.hasB libs x.f_Name = true := by unfold Nl.hasB; simpa using hin
      rw [hh, if_neg (by decide), if_neg (by decide)]
    · have hh : Nl.hasB libs x.f_Name = false := by unfold Nl.hasB; simpa using hin
      rw [hh, if_pos (by decide), h x hx hin]
      simp
end St
theorem effectOwn_true (a0 : List T_tree_File) (a1 : List T_effect_Effect) (a2 : List (List UInt8)) (_ : Wf Un (.list (.named 3)) a0) (_ : Wf Un (.list (.named 4)) a1) (_ : Wf Un (.list .str) a2) : ∃ k, millwrightlaw05_EffectOwn.f k a0 a1 a2 = some true := by
  refine ⟨40000, ?_⟩
  have ali : millwrightlaw05_alive.f 40000 = some true := by decide +kernel
  unfold millwrightlaw05_EffectOwn.f
  rw [ali, Option.bind_some, if_neg (by decide)]
  obtain ⟨b, e1, e2⟩ := Tr.long_f 40000 (by omega) a0 40 (by omega)
  obtain ⟨c, f1, f2⟩ := St.elong_f 40000 (by omega) a1 40 (by omega)
  obtain ⟨d, g1, g2⟩ := St.tlong_f 40000 (by omega) a2 30 100 (by omega)
  rw [e1, Option.bind_some]
  have main : b = false → c = false → d = false → millwrightlaw05_EffectOwn.j77 40000 a0 a1 a2 = some true := fun hb hc hd => by
    have l0 := e2 hb
    obtain ⟨l1, n1⟩ := f2 hc
    obtain ⟨l2, n2⟩ := g2 hd
    have n1' : ∀ e ∈ a1, e.f_Name.length ≤ 1000 := fun e he => by have := n1 e he; omega
    have n2' : ∀ e ∈ a2, e.length ≤ 1000 := fun e he => by have := n2 e he; omega
    unfold millwrightlaw05_EffectOwn.j77
    have e : millwrightlaw05_EffectOwn.l61 40000 a0 a1 a2 40000 true [] 0 = _ := St.own_loop 40000 (by omega) a0 a1 a2 (by omega) (by omega) a1 40000 0 true [] rfl (by omega) (by simp)
    rw [e, Option.bind_some, Bool.true_and, List.nil_append]
    unfold millwrightlaw05_EffectOwn.j57
    simp only
    have hs := St.sortedS_len (a1.map (·.f_Name)) 1000 (by simp; omega)
    rw [St.own_eq 40000 (by omega) a1 a2 (by omega) (by omega), Option.bind_some, if_neg (by simp), St.names_eq 40000 (by omega) a1 (by omega), Option.bind_some, Nl.rsort_eq 40000 _ (by simp; omega) (by omega), Option.bind_some, Nl.sametx_eq 40000 (by omega) _ (Nat.le_trans hs (by omega)), Option.bind_some]
    unfold millwrightlaw05_EffectOwn.j51 millwrightlaw05_EffectOwn.j48 tree_Of.f tree_New.f
    rw [if_neg (by decide), Option.bind_some]
    rcases Tr.of_loop 40000 (by omega) a0 (by omega) a0 40000 0 [] (by omega) rfl (by omega) (fun f hf => by simp at hf) (by simp) (fun y hy => by cases hy) with ⟨e, he, h⟩ | ⟨m, h, hm, hml, h3⟩
    · have h' : tree_Of.l6 40000 a0 40000 [] 0 = _ := h
      rw [h', Option.bind_some, Option.bind_some, if_pos (by simpa using he)]
      unfold millwrightlaw05_EffectOwn.j46
      rw [if_pos rfl, if_neg (by simpa using he)]; rfl
    · have h' : tree_Of.l6 40000 a0 40000 [] 0 = _ := h
      have hb : St.Bound m := fun y hy => (h3 y hy).2
      rw [h', Option.bind_some]
      unfold tree_Of.j3
      rw [Option.bind_some, if_neg (by simp)]
      unfold millwrightlaw05_EffectOwn.j46
      cases ho : a1.all fun e => Nl.hasB a2 e.f_Name with
      | false => rw [if_pos (by decide), if_pos (by simp)]
      | true =>
        rw [if_neg (by decide)]
        unfold millwrightlaw05_EffectOwn.j42
        rw [if_pos rfl]
        simp only
        have hlim : LIM = 4294967296 := rfl
        rw [St.app_eq 40000 (by omega) 5 a1 (by omega) n1' m hb, Option.bind_some, if_pos (by simp; omega), List.nil_append]
        have el : millwrightlaw05_EffectOwn.l30 40000 a0 a2 (((St.appS 5 a1 0 m).1 : Int), (St.appS 5 a1 0 m).2) 40000 a2 0 = _ := St.libs_loop 40000 (by omega) a0 a2 _ (by omega) n2' a2 40000 0 a2 rfl (by omega) (by omega)
        rw [el, Option.bind_some]
        unfold millwrightlaw05_EffectOwn.j27 millwrightlaw05_EffectOwn.j10
        have hll : (St.libsS a2).length ≤ a2.length := by unfold St.libsS; rw [List.length_map]; exact List.length_filter_le _ _
        have et : millwrightlaw05_EffectOwn.l12 40000 a0 (((St.appS 5 a1 0 m).1 : Int), (St.appS 5 a1 0 m).2) (a2 ++ St.libsS a2) 40000 0 = _ := St.left_loop 40000 (by omega) a0 _ _ _ (a2 ++ St.libsS a2) (by omega) (by simp; omega) (fun f hf hni => by
          rw [St.app_get 5 f.f_Name a1 0 m (fun e he => ?_)]
          · exact hm f hf
          · have hin : e.f_Name ∈ a2 := by
              have := List.all_eq_true.1 ho e he
              unfold Nl.hasB at this
              simpa using this
            refine ⟨fun h => hni (List.mem_append_left _ (h ▸ hin)), fun h => hni ?_⟩
            rw [h]
            unfold St.keyS
            cases hx : (St.memS e.f_Name).2.2 with
            | true =>
              rw [if_pos rfl]
              exact List.mem_append_right _ (List.mem_map.2 ⟨e.f_Name, List.mem_filter.2 ⟨hin, hx⟩, rfl⟩)
            | false => rw [if_neg (by decide)]; exact List.mem_append_left _ hin) a0 40000 0 rfl (by omega)
        rw [et]; rfl
  unfold millwrightlaw05_EffectOwn.j80
  cases b with
  | true => rw [if_pos rfl, if_pos rfl]
  | false =>
    rw [if_neg (by decide), f1, Option.bind_some]
    cases c with
    | true => rw [if_pos rfl, if_pos rfl]
    | false =>
      rw [if_neg (by decide), g1, Option.bind_some]
      cases d with
      | true => rw [if_pos rfl]
      | false => rw [if_neg (by decide), main rfl rfl rfl]
end Go.Proofs.YtcblgpcgdihcbaaGreatDoor
