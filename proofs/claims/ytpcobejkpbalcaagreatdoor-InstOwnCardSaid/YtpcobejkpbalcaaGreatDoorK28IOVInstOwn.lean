/- The law: a name is among its instance's targets. -/
import Derived.Test.YtpcobejkpbalcaaGreatDoorK28IOVY
namespace Go.Proofs.YtpcobejkpbalcaaGreatDoor
open Go Go.AM
set_option linter.unusedVariables false
set_option linter.unusedSimpArgs false
set_option maxRecDepth 100000
set_option maxHeartbeats 1000000
namespace Tb
theorem alive22 : millwrightlaw22_alive.f 20000 = some true := by decide +kernel
theorem num4 : millwrightnum_Num.f 20000 4 = some 4 := by decide +kernel
theorem uniq_mem (x : Tx) : ∀ (l out : List Tx), x ∈ out ∨ x ∈ l → x ∈ Nl.uniq out l
  | [], out, h => by
    rcases h with h | h
    · exact h
    · cases h
  | y :: l, out, h => by
    unfold Nl.uniq
    refine uniq_mem x l _ ?_
    rcases h with h | h
    · left
      split
      · exact h
      · exact List.mem_append_left _ h
    · rcases List.mem_cons.1 h with rfl | h
      · left
        split
        · rename_i hb; simpa [Nl.hasB] using hb
        · simp
      · exact .inr h
theorem uniq_nodup : ∀ (l out : List Tx), out.Nodup → (Nl.uniq out l).Nodup
  | [], out, h => h
  | y :: l, out, h => by
    unfold Nl.uniq
    refine uniq_nodup l _ ?_
    split
    · exact h
    · rename_i hb
      have hn : y ∉ out := by simpa [Nl.hasB] using hb
      exact List.nodup_append.2 ⟨h, by simp, fun a ha b hb => by
        rw [List.mem_singleton.1 hb]
        exact fun e => hn (e ▸ ha)⟩
theorem once_in (k : Nat) (a : List Tx) (v2 : Int) (s : Tx) (w : List Tx) (hw : w.length ≤ 1000) : ∀ (l : List Tx) (fuel i : Nat), w.drop i = l → l.length < fuel → s ∉ l → millwrightlaw22_once.l11 k a v2 s w fuel (i : Int) = some (.inl ())
  | _, 0, _, _, h, _ => by omega
  | [], f + 1, i, hd, _, _ => by
    have := Nl.at_nil hd
    unfold millwrightlaw22_once.l11
    rw [if_neg (by simp; omega)]
  | c :: t, f + 1, i, hd, hf, hs => by
    obtain ⟨g1, g2, g3⟩ := Nl.at_drop hd
    rw [List.mem_cons] at hs
    unfold millwrightlaw22_once.l11
    rw [if_pos (by simp; exact g3), g1, Option.bind_some, if_neg (by simpa using fun e => hs (.inl e)), Nl.wr1 (by omega)]
    exact once_in k a v2 s w hw t f (i + 1) g2 (by simpa using hf) (fun h => hs (.inr h))
theorem once_loop (k : Nat) (hk : 1100 < k) (a : List Tx) (ha : a.length ≤ 1000) (hn : a.Nodup) : ∀ (l : List Tx) (fuel i : Nat), a.drop i = l → l.length < fuel → millwrightlaw22_once.l3 k a fuel (i : Int) = some (.inl ())
  | _, 0, _, _, h => by omega
  | [], f + 1, i, hd, _ => by
    have := Nl.at_nil hd
    unfold millwrightlaw22_once.l3
    rw [if_neg (by simp; omega)]
  | c :: t, f + 1, i, hd, hf => by
    obtain ⟨g1, g2, g3⟩ := Nl.at_drop hd
    have hc : c ∉ a.take i := by
      intro h
      have e := List.take_append_drop i a
      rw [hd] at e
      rw [← e] at hn
      exact (List.nodup_append.1 hn).2.2 c h c List.mem_cons_self rfl
    unfold millwrightlaw22_once.l3 millwrightlaw22_once.j7
    have ei := once_in k a (i : Int) c (a.take i) (by simp; omega) (a.take i) k 0 rfl (by simp; omega) hc
    have ei : millwrightlaw22_once.l11 k a (i : Int) c (a.take i) k 0 = _ := ei
    rw [if_pos (by simp; exact g3), g1, Option.bind_some, sub_to rfl rfl (by omega), Option.bind_some, ei, Option.bind_some]
    simp only
    rw [Nl.wr1 (by omega)]
    exact once_loop k hk a ha hn t f (i + 1) g2 (by simpa using hf)
theorem once_eq (k : Nat) (hk : 1100 < k) (a : List Tx) (ha : a.length ≤ 1000) (hn : a.Nodup) : millwrightlaw22_once.f k a = some true := by
  unfold millwrightlaw22_once.f millwrightlaw22_once.j1
  have e : millwrightlaw22_once.l3 k a k 0 = _ := once_loop k hk a ha hn a k 0 rfl (by omega)
  rw [e]; rfl
theorem own_loop (R : List Ru) (Ks : List Int) (hT : TbOk R Ks) (name : Tx) (v3 : Bool × List Ru × List Int × Nat) (h3 : v3.2.1 = R ∧ v3.2.2.1 = Ks) (A : List In) (e0 : Nat) (hA : A.length ≤ 1000) : ∀ (l : List (Ru × Int)) (fuel i j : Nat) (xs : List In) (last : Int), (R.zip Ks).drop i = l → A.drop j = xs → allL name l i = some xs → last < (i : Int) → l.length < fuel →
    millwrightlaw22_InstOwn.l13 20000 name v3 (A, e0) fuel last (j : Int) = some (.inl ())
  | _, 0, _, _, _, _, _, _, _, _, h => by omega
  | [], f + 1, i, j, xs, last, hd, hx, ha, _, _ => by
    cases ha
    have := Nl.at_nil hx
    unfold millwrightlaw22_InstOwn.l13
    rw [if_neg (by simp; omega)]
  | c :: t, f + 1, i, j, xs, last, hd, hx, ha, hlt, hf => by
    obtain ⟨g1, g2, g3, g4⟩ := zip_at hd
    have hT2 := hT.2.1
    have hs := hT.2.2 c.1 (List.mem_of_getElem? g1)
    simp only [List.length_cons] at hf
    unfold allL at ha
    split at ha
    · rename_i he
      cases hr : allL name t (i + 1) with
      | none => rw [hr] at ha; cases ha
      | some ys =>
        rw [hr] at ha
        simp only [Option.map_some, Option.some.injEq] at ha
        cases hb : (atR c.1 c.2 (i : Int) name).2.1 with
        | false =>
          rw [hb, if_neg (by decide)] at ha
          subst ha
          have step : ∀ fuel', t.length < fuel' → millwrightlaw22_InstOwn.l13 20000 name v3 (A, e0) fuel' last (j : Int) = some (.inl ()) := fun fuel' hf' => own_loop R Ks hT name v3 h3 A e0 hA t fuel' (i + 1) j ys last g3 hx hr (by omega) hf'
          exact step (f + 1) (by omega)
        | true =>
          rw [hb, if_pos rfl] at ha
          subst ha
          obtain ⟨d1, d2, d3⟩ := Nl.at_drop hx
          cases hraw : (rawS c.1 c.2 name).2 with
          | false => unfold atR at hb; rw [hraw, if_neg (by decide)] at hb; cases hb
          | true =>
            cases hstr : ((rawS c.1 c.2 name).1.f_Targets.any strange || (rawS c.1 c.2 name).1.f_Prereqs.any strange) with
            | true => unfold atR at hb; rw [hraw, if_pos rfl, hstr, if_pos rfl] at hb; cases hb
            | false =>
              obtain ⟨r1, r2, r3, r4, r5⟩ := raw_ok hs (kd := c.2) (name := name) (x := (rawS c.1 c.2 name).1) (by rw [← hraw])
              have ex : (atR c.1 c.2 (i : Int) name).1 = .mk i (rawS c.1 c.2 name).1.f_Stem (rawS c.1 c.2 name).1.f_Subs (Nl.uniq [] (rawS c.1 c.2 name).1.f_Targets) (Nl.uniq [] (rawS c.1 c.2 name).1.f_Prereqs) := by
                unfold atR; rw [hraw, if_pos rfl, hstr, if_neg (by decide)]
              have u1 := Nl.uniq_len (rawS c.1 c.2 name).1.f_Targets []
              have u2 := Nl.uniq_len (rawS c.1 c.2 name).1.f_Prereqs []
              simp only [List.length_nil] at u1 u2
              have hmem := uniq_mem name (rawS c.1 c.2 name).1.f_Targets [] (.inr r3)
              rw [ex] at d1
              have hih := own_loop R Ks hT name v3 h3 A e0 hA t f (i + 1) (j + 1) ys (i : Int) g3 d2 hr (by omega) (by omega)
              unfold millwrightlaw22_InstOwn.l13
              rw [if_pos (by simp; exact d3), d1, Option.bind_some]
              simp only [h3.1, h3.2]
              rw [if_neg (by simp; omega)]
              unfold table_Table_Len_m0.f
              rw [Option.bind_some, if_neg (by simp; omega), Nl.has1_eq 20000 (by omega) _ (by omega), Option.bind_some]
              have hB : Nl.hasB (Nl.uniq [] (rawS c.1 c.2 name).1.f_Targets) name = true := by simpa [Nl.hasB] using hmem
              rw [hB, if_neg (by decide), once_eq 20000 (by omega) _ (by omega) (uniq_nodup _ _ List.nodup_nil), Option.bind_some, if_neg (by decide), once_eq 20000 (by omega) _ (by omega) (uniq_nodup _ _ List.nodup_nil), Option.bind_some]
              unfold millwrightlaw22_InstOwn.j33 millwrightlaw22_InstOwn.j30
              rw [if_neg (by decide)]
              simp only [h3.1, h3.2]
              rw [kindAt_eq 20000 R Ks i c.2 g4 g2]
              simp only [Option.bind_some]
              have j22 : millwrightlaw22_InstOwn.j22 20000 (millwrightlaw22_InstOwn.l13 20000 name v3 (A, e0) f) name v3 (A, e0) (j : Int) (.mk i (rawS c.1 c.2 name).1.f_Stem (rawS c.1 c.2 name).1.f_Subs (Nl.uniq [] (rawS c.1 c.2 name).1.f_Targets) (Nl.uniq [] (rawS c.1 c.2 name).1.f_Prereqs)) false = some (.inl ()) := by
                unfold millwrightlaw22_InstOwn.j22 millwrightlaw22_InstOwn.j18
                rw [if_neg (by decide), Nl.wr1 (by omega)]
                exact hih
              by_cases k2 : c.2 = 2
              · have k1 : c.2 ≠ 1 := by omega
                rw [if_neg (by simp [k2]), if_pos (by simpa using k1), r5 k1]
                exact j22
              · rw [if_pos (by simpa using k2), r4 k2, if_neg (by simp)]
                rw [r4 k2] at j22
                by_cases k1 : c.2 = 1
                · rw [if_neg (by simp [k1])]; exact j22
                · rw [if_pos (by simpa using k1), r5 k1]
                  rw [r5 k1] at j22
                  exact j22
    · cases ha
end Tb
theorem instOwn_true (a0 : List T_load_Rule) (a1 : List UInt8) (_ : Wf Un (.list (.named 3)) a0) (_ : Wf Un .str a1) : ∃ k, millwrightlaw22_InstOwn.f k a0 a1 = some true := by
  refine ⟨20000, ?_⟩
  unfold millwrightlaw22_InstOwn.f
  rw [Tb.alive22, Option.bind_some, if_neg (by decide)]
  obtain ⟨b, eb, hb⟩ := Tb.long2_eq 20000 (by omega) a0 30 (by omega)
  have eb : millwrightlaw21_Long.f 20000 a0 30 = some b := eb
  rw [eb, Option.bind_some]
  unfold millwrightlaw22_InstOwn.j47
  cases b with
  | true => rfl
  | false =>
    obtain ⟨h1, h2⟩ := hb rfl
    rw [if_neg (by decide)]
    by_cases hn : a1.length > 60
    · rw [if_pos (by simp; omega)]
    rw [if_neg (by simp; omega)]
    unfold millwrightlaw22_InstOwn.j44
    rw [Tb.new_eq a0 (by omega) h2, Option.bind_some]
    cases hT : Tb.newS [] [] a0 with
    | none => rfl
    | some T =>
      have ok := Tb.new_ok a0 [] [] T h2 ⟨rfl, by simp, fun x h => by cases h⟩ hT
      simp only [beq_self_eq_true, Bool.not_true, Bool.false_eq_true, if_false, if_true]
      rw [Tb.all_eq T.1 T.2 ok a1 (by omega), Option.bind_some]
      cases hA : Tb.allL a1 (T.1.zip T.2) 0 with
      | none =>
        simp only
        rw [if_pos (by decide), if_pos (by decide), Tb.num4]; rfl
      | some xs =>
        simp only
        have hlen : ∀ (l : List (T_load_Rule × Int)) (i : Nat) (t : List Tb.In), Tb.allL a1 l i = some t → t.length ≤ l.length := by
          intro l
          induction l with
          | nil => intro i t h; cases h; simp
          | cons c l ih =>
            intro i t h
            unfold Tb.allL at h
            split at h
            · cases hr : Tb.allL a1 l (i + 1) with
              | none => rw [hr] at h; cases h
              | some ys =>
                rw [hr] at h
                have := ih (i + 1) ys hr
                simp only [Option.map_some, Option.some.injEq] at h
                subst h
                split <;> simp <;> omega
            · cases h
        have hx := hlen _ _ _ hA
        rw [List.length_zip] at hx
        have ok2 := ok.2.1
        have e := Tb.own_loop T.1 T.2 ok a1 (true, T.1, T.2, 0) ⟨rfl, rfl⟩ xs 0 (by omega) (T.1.zip T.2) 20000 0 0 xs (-1) rfl rfl hA (by omega) (by rw [List.length_zip]; omega)
        have e : millwrightlaw22_InstOwn.l13 20000 a1 (true, T.1, T.2, 0) (xs, 0) 20000 (-1) 0 = _ := e
        rw [if_neg (by decide), e]; rfl
end Go.Proofs.YtpcobejkpbalcaaGreatDoor
