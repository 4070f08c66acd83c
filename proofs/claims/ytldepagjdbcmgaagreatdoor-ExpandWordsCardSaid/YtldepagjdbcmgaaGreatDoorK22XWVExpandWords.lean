/- The law ExpandWords, without any program in sight. -/
import Derived.Test.YtldepagjdbcmgaaGreatDoorK22XWVV
import Derived.Test.YtldepagjdbcmgaaGreatDoorK22XWVN
import Derived.Test.YtldepagjdbcmgaaGreatDoorK22XWVL
namespace Go.Proofs.YtldepagjdbcmgaaGreatDoor
open Go Go.AM Go.ChangeShapes Go.ChangeAt Go.RowKit
set_option linter.unusedVariables false
set_option linter.unusedSimpArgs false
set_option maxRecDepth 100000
namespace Ex
def addC (acc : List Tx) (p : Pc) : List Tx := if p.f_Kind = 4 ∧ Nl.hasB acc p.f_Text = false then acc ++ [p.f_Text] else acc
theorem uniq_app : ∀ (a b out : List Tx), Nl.uniq out (a ++ b) = Nl.uniq (Nl.uniq out a) b
  | [], b, out => rfl
  | x :: a, b, out => by
    show Nl.uniq (if Nl.hasB out x then out else out ++ [x]) (a ++ b) = Nl.uniq (Nl.uniq (if Nl.hasB out x then out else out ++ [x]) a) b
    exact uniq_app a b _
theorem uniq_nodup : ∀ (l out : List Tx), (out ++ l).Nodup → Nl.uniq out l = out ++ l
  | [], out, _ => by simp [Nl.uniq]
  | x :: l, out, h => by
    have hx : Nl.hasB out x = false := by
      unfold Nl.hasB
      rw [decide_eq_false_iff_not]
      intro hm
      have := (List.nodup_append.1 h).2.2 x hm x List.mem_cons_self
      exact this rfl
    unfold Nl.uniq
    rw [hx, if_neg (by decide), uniq_nodup l _ (by simpa using h)]; simp
theorem add_nodup {acc : List Tx} (h : acc.Nodup) (p : Pc) : (addC acc p).Nodup ∧ (addC acc p).length ≤ acc.length + 1 := by
  unfold addC
  split
  · rename_i hc
    have hm : p.f_Text ∉ acc := by
      have := hc.2
      unfold Nl.hasB at this
      simpa using this
    refine ⟨?_, by simp⟩
    rw [List.nodup_append]
    exact ⟨h, by simp, fun a ha b hb e => hm (by rw [List.mem_singleton] at hb; rw [← hb, ← e]; exact ha)⟩
  · exact ⟨h, by omega⟩
theorem union_one (k : Nat) (hk : 4000 ≤ k) (acc : List Tx) (h : acc.Nodup) (hl : acc.length ≤ 190) (t : Tx) : names_Union.f k acc [t] = some (if Nl.hasB acc t then acc else acc ++ [t]) := by
  rw [Nl.union_eq k (by omega) acc [t] (by omega) (by simp), uniq_app, uniq_nodup acc [] (by simpa using h)]
  rfl
theorem cmd_loop (k : Nat) (hk : 4000 ≤ k) (a0 : List (List Pc)) (v4 : Int) (w : List Pc) (hw : w.length ≤ 12) : ∀ (r : List Pc) (fuel i : Nat) (acc : List Tx), w.drop i = r → r.length < fuel → acc.Nodup → acc.length + r.length ≤ 150 →
    expand_Commands.l15 k a0 v4 w fuel acc (i : Int) = some (r.foldl addC acc)
  | _, 0, _, _, _, h, _, _ => by omega
  | [], f + 1, i, acc, hd, _, _, _ => by
    have := Ev.at_nil hd
    unfold expand_Commands.l15
    rw [if_neg (by simp; omega)]; rfl
  | p :: r, f + 1, i, acc, hd, hf, hn, hl => by
    obtain ⟨g1, g2, g3⟩ := Ev.at_drop hd
    simp only [List.length_cons] at hl
    obtain ⟨n1, n2⟩ := add_nodup hn p
    have ih := cmd_loop k hk a0 v4 w hw r f (i + 1) (addC acc p) g2 (by simpa using hf) n1 (by omega)
    unfold expand_Commands.l15 expand_Commands.j21
    rw [if_pos (by simp; exact g3), g1, Option.bind_some, Ev.wr1 (by omega), List.foldl_cons, ← ih]
    by_cases h4 : p.f_Kind = 4
    · rw [if_pos (by simpa using h4), union_one k hk acc hn (by omega), Option.bind_some]
      unfold addC
      cases hh : Nl.hasB acc p.f_Text with
      | true => rw [if_pos rfl, if_neg (fun h => by cases h.2)]
      | false => rw [if_neg (by decide), if_pos ⟨h4, rfl⟩]
    · rw [if_neg (by simpa using h4)]
      unfold addC
      rw [if_neg (fun h => h4 h.1)]
def cmds (l : List (List Pc)) (acc : List Tx) : List Tx := l.foldl (fun a w => w.foldl addC a) acc
theorem fold_nodup : ∀ (w : List Pc) (acc : List Tx), acc.Nodup → (w.foldl addC acc).Nodup ∧ (w.foldl addC acc).length ≤ acc.length + w.length
  | [], acc, h => ⟨h, by simp⟩
  | p :: w, acc, h => by
    obtain ⟨n1, n2⟩ := add_nodup h p
    obtain ⟨a, b⟩ := fold_nodup w _ n1
    rw [List.foldl_cons]
    exact ⟨a, by simp only [List.length_cons]; omega⟩
theorem cmds_loop (k : Nat) (hk : 4000 ≤ k) (a0 : List (List Pc)) (ha : a0.length ≤ 12) (hw : ∀ w ∈ a0, w.length ≤ 12) : ∀ (r : List (List Pc)) (fuel i : Nat) (acc : List Tx), a0.drop i = r → r.length < fuel → acc.Nodup → acc.length ≤ 12 * i →
    expand_Commands.l5 k a0 fuel acc (i : Int) = some (cmds r acc)
  | _, 0, _, _, _, h, _, _ => by omega
  | [], f + 1, i, acc, hd, _, _, _ => by
    have := Ev.at_nil hd
    unfold expand_Commands.l5
    rw [if_neg (by simp; omega)]; rfl
  | w :: r, f + 1, i, acc, hd, hf, hn, hl => by
    obtain ⟨g1, g2, g3⟩ := Ev.at_drop hd
    have hx := hw w (List.mem_of_mem_drop (hd ▸ List.mem_cons_self))
    obtain ⟨n1, n2⟩ := fold_nodup w acc hn
    unfold expand_Commands.l5 expand_Commands.j11
    have e : expand_Commands.l15 k a0 (i : Int) w k acc 0 = _ := cmd_loop k hk a0 (i : Int) w hx w k 0 acc rfl (by omega) hn (by omega)
    rw [if_pos (by simp; exact g3), g1, Option.bind_some, e, Option.bind_some, Ev.wr1 (by omega), cmds_loop k hk a0 ha hw r f (i + 1) _ g2 (by simpa using hf) n1 (by omega)]; rfl
theorem cmds_eq (k : Nat) (hk : 4000 ≤ k) (a0 : List (List Pc)) (ha : a0.length ≤ 12) (hw : ∀ w ∈ a0, w.length ≤ 12) : expand_Commands.f k a0 = some (cmds a0 []) := by
  unfold expand_Commands.f expand_Commands.j2
  have e : expand_Commands.l5 k a0 k [] 0 = _ := cmds_loop k hk a0 ha hw a0 k 0 [] rfl (by omega) (by simp) (by simp)
  rw [e]; rfl
theorem told_loop (k : Nat) (hk : 4000 ≤ k) (a0 : List (List Pc)) (a2 : List Op) (v3 : Bool × Mp × Bool × List T_env_Var × Bool) (v16 : Int) (w : List Pc) (hw : w.length ≤ 12) : ∀ (r : List Pc) (fuel i : Nat) (acc : List Tx), w.drop i = r → r.length < fuel → acc.Nodup → acc.length + r.length ≤ 150 →
    millwrightlaw17_ExpandWords.l31 k a0 a2 v3 v16 w fuel acc (i : Int) = some (r.foldl addC acc)
  | _, 0, _, _, _, h, _, _ => by omega
  | [], f + 1, i, acc, hd, _, _, _ => by
    have := Ev.at_nil hd
    unfold millwrightlaw17_ExpandWords.l31
    rw [if_neg (by simp; omega)]; rfl
  | p :: r, f + 1, i, acc, hd, hf, hn, hl => by
    obtain ⟨g1, g2, g3⟩ := Ev.at_drop hd
    simp only [List.length_cons] at hl
    obtain ⟨n1, n2⟩ := add_nodup hn p
    have ih := told_loop k hk a0 a2 v3 v16 w hw r f (i + 1) (addC acc p) g2 (by simpa using hf) n1 (by omega)
    unfold millwrightlaw17_ExpandWords.l31 millwrightlaw17_ExpandWords.j42 millwrightlaw17_ExpandWords.j37
    rw [if_pos (by simp; exact g3), g1, Option.bind_some, Ev.wr1 (by omega), List.foldl_cons, ← ih]
    by_cases h4 : p.f_Kind = 4
    · rw [if_pos (by simpa using h4), Nl.has1_eq k (by omega) acc (by omega), Option.bind_some]
      unfold addC
      cases hh : Nl.hasB acc p.f_Text with
      | true => rw [if_neg (by decide), if_neg (fun h => by cases h.2)]
      | false => rw [if_pos (by decide), if_pos (Ev.lim_ok (by omega)), if_pos ⟨h4, rfl⟩]
    · rw [if_neg (by simpa using h4), if_neg (by decide)]
      unfold addC
      rw [if_neg (fun h => h4 h.1)]
theorem law_loop (K : Nat) (a0 : List (List Pc)) (ha : a0.length ≤ 12) (hp : ∀ w ∈ a0, w.length ≤ 12 ∧ ∀ p ∈ w, okP p) (a2 : List Op) (ho : okO a2) (m : Mp) (hg : Ev.Good m) (hm : m.length ≤ 1000) (hw : Words m) : ∀ (r : List (List Pc)) (fuel i : Nat) (acc : List Tx), a0.drop i = r → r.length < fuel → acc.Nodup → acc.length ≤ 12 * i →
    millwrightlaw17_ExpandWords.l17 (K + 4000) a0 a2 (true, m, true, Ev.vals m, true) fuel acc (i : Int) = some (.inl (cmds r acc))
  | _, 0, _, _, _, h, _, _ => by omega
  | [], f + 1, i, acc, hd, _, _, _ => by
    have := Ev.at_nil hd
    unfold millwrightlaw17_ExpandWords.l17
    rw [if_neg (by simp; omega)]; rfl
  | w :: r, f + 1, i, acc, hd, hf, hn, hl => by
    obtain ⟨g1, g2, g3⟩ := Ev.at_drop hd
    obtain ⟨x1, x2⟩ := hp w (List.mem_of_mem_drop (hd ▸ List.mem_cons_self))
    obtain ⟨n1, n2⟩ := fold_nodup w acc hn
    have hO := ho.1
    have h40 := wordS_len m a2 w
    have ih := law_loop K a0 ha hp a2 ho m hg hm hw r f (i + 1) (w.foldl addC acc) g2 (by simpa using hf) n1 (by omega)
    unfold millwrightlaw17_ExpandWords.l17 millwrightlaw17_ExpandWords.j49 millwrightlaw17_ExpandWords.j46 millwrightlaw17_ExpandWords.j23
    have e : millwrightlaw17_ExpandWords.l31 (K + 4000) a0 a2 (true, m, true, Ev.vals m, true) (i : Int) w (K + 4000) acc 0 = _ := told_loop (K + 4000) (by omega) a0 a2 _ (i : Int) w x1 w (K + 4000) 0 acc rfl (by omega) hn (by omega)
    rw [if_pos (by simp; exact g3), g1, Option.bind_some]
    simp only
    rw [word_eq (K + 4000) (by omega) m hg hw a2 ho w (by omega) x2, Option.bind_some, Lt.word_f (K + 4000) w (by omega) (by omega), Option.bind_some, out_eq (K + 4000) (by omega) a2 hO, Option.bind_some, rword_eq (K + 4000) (by omega) m hg hm hw a2 ho w (by omega) x2, Option.bind_some, num_e K (wordS_err hg hw ho w x2), Option.bind_some, if_neg (by simp), Qf.same_eq (K + 4000) _ (by omega) (by omega), Option.bind_some, if_neg (by decide), e, Option.bind_some, Ev.wr1 (by omega), ih]
    rfl
end Ex
theorem expandWords_true (a0 : List (List T_lex_Piece)) (a1 : List T_env_Var) (a2 : List T_expand_Output) (_ : Wf Un (.list (.list (.named 5))) a0) (_ : Wf Un (.list (.named 3)) a1) (_ : Wf Un (.list (.named 4)) a2) (hw1 : a1.length * 56 ≤ reachBytes) : ∃ k, millwrightlaw17_ExpandWords.f k a0 a1 a2 = some true := by
  refine ⟨a1.length + 4000, ?_⟩
  have hw1 : a1.length * 56 ≤ 140737488351232 := hw1
  unfold millwrightlaw17_ExpandWords.f
  rw [Ex.alive_k a1.length, Option.bind_some, if_neg (by decide)]
  obtain ⟨b, e1, e2⟩ := Lt.long_f (a1.length + 4000) (by omega) a0
  obtain ⟨c, f1, f2⟩ := Ex.olong_f (a1.length + 4000) (by omega) a2 10 (by omega)
  rw [e1, Option.bind_some]
  have main : b = false → c = false → millwrightlaw17_ExpandWords.j62 (a1.length + 4000) a0 a1 a2 = some true := fun hb hc => by
    obtain ⟨h12, hok⟩ := e2 hb
    have ho := f2 hc
    have hO := ho.1
    have hp : ∀ w ∈ a0, w.length ≤ 12 ∧ ∀ p ∈ w, Ex.okP p := fun w hw => ⟨(hok w hw).1, fun p hp => by
      obtain ⟨h1, h2, h3⟩ := (hok w hw).2 p hp
      exact ⟨by omega, by omega, by omega⟩⟩
    have hp' : ∀ w ∈ a0, w.length ≤ 500 ∧ ∀ p ∈ w, Ex.okP p := fun w hw => ⟨by have := (hp w hw).1; omega, (hp w hw).2⟩
    unfold millwrightlaw17_ExpandWords.j62
    rcases Ex.vars_eq (a1.length + 4000) (by omega) a1 hw1 (by omega) with h | ⟨h, hg, hm, _⟩
    · rw [h]; rfl
    · have hws := Ex.words_setL a1 [] Ex.words_nil
      rw [h, Option.bind_some, if_neg (by simp), Lt.of_f (a1.length + 4000) (by omega) a0 (by omega) (fun w hw => by have := (hp w hw).1; omega), Option.bind_some, if_pos rfl]
      simp only
      obtain ⟨q1, q2⟩ := Ex.wordsS_err hg hws ho a0 (fun w hw => (hp w hw).2)
      rw [Ex.words_eq (a1.length + 4000) (by omega) _ hg hws a2 ho a0 (by omega) hp', Option.bind_some, if_pos trivial, Ex.out_eq (a1.length + 4000) (by omega) a2 hO, Option.bind_some, Ex.rwords_eq (a1.length + 4000) (by omega) _ hg (by omega) hws a2 ho a0 (by omega) hp', Option.bind_some, Ex.num_e a1.length q1, Option.bind_some, if_neg (by simp), Qf.same_eq (a1.length + 4000) _ (by omega) (by omega), Option.bind_some]
      unfold millwrightlaw17_ExpandWords.j58 millwrightlaw17_ExpandWords.j55
      have e : millwrightlaw17_ExpandWords.l17 (a1.length + 4000) a0 a2 (true, Ex.setL [] a1, true, Ev.vals (Ex.setL [] a1), true) (a1.length + 4000) [] 0 = _ := Ex.law_loop a1.length a0 h12 hp a2 ho _ hg (by omega) hws a0 (a1.length + 4000) 0 [] rfl (by omega) (by simp) (by simp)
      rw [if_neg (by decide), e, Option.bind_some]
      unfold millwrightlaw17_ExpandWords.j14
      simp only
      have hcl : (Ex.cmds a0 []).length ≤ 1000 := by
        have : ∀ (l : List (List Ex.Pc)) (acc : List Ex.Tx), acc.Nodup → (∀ w ∈ l, w.length ≤ 12) → (Ex.cmds l acc).length ≤ acc.length + 12 * l.length := by
          intro l
          induction l with
          | nil => intro acc _ _; simp [Ex.cmds]
          | cons w l ih =>
            intro acc hn hw
            obtain ⟨n1, n2⟩ := Ex.fold_nodup w acc hn
            have h1 := ih (w.foldl Ex.addC acc) n1 (fun y hy => hw y (List.mem_cons_of_mem _ hy))
            have h2 := hw w List.mem_cons_self
            have e : Ex.cmds (w :: l) acc = Ex.cmds l (w.foldl Ex.addC acc) := rfl
            rw [e]; simp only [List.length_cons]; omega
        have := this a0 [] (by simp) (fun w hw => (hp w hw).1)
        simp only [List.length_nil] at this; omega
      rw [Ex.cmds_eq (a1.length + 4000) (by omega) a0 h12 (fun w hw => (hp w hw).1), Option.bind_some, Qf.same_eq (a1.length + 4000) _ (by omega) (by omega)]; rfl
  unfold millwrightlaw17_ExpandWords.j65
  cases b with
  | true => rw [if_pos rfl, if_pos rfl]
  | false =>
    rw [if_neg (by decide), f1, Option.bind_some]
    cases c with
    | true => rw [if_pos rfl]
    | false => rw [if_neg (by decide), main rfl rfl]
end Go.Proofs.YtldepagjdbcmgaaGreatDoor
