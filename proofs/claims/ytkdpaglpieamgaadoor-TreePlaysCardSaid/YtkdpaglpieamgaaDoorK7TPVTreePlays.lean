/- A part of the proof of a given law: TPVTreePlays. Own work, printed in part by a program of mine. -/
import Derived.Test.YtkdpaglpieamgaaDoorK7TPVC
namespace Go.Proofs.YtkdpaglpieamgaaDoor
open Go Go.AM Go.ChangeShapes Go.ChangeAt Go.RowKit
set_option linter.unusedVariables false
set_option linter.unusedSimpArgs false
set_option maxRecDepth 100000
abbrev Ac := T_millwrightlaw02_Act
theorem num_eq : ∀ e : Fin 19, millwrightnum_Num.f 4000 e.val = some (e.val : Int) := by decide +kernel
theorem num_e {e : Nat} (h : e ≤ 18) : millwrightnum_Num.f 4000 e = some (e : Int) := num_eq ⟨e, by omega⟩
theorem mget_split {n : List UInt8} {v : Fl} : ∀ {m : Mp}, mget n m = some v → ∃ pre post, m = pre ++ (n, v) :: post ∧ ∀ y ∈ pre, y.1 ≠ n
  | [], h => by cases h
  | y :: r, h => by
    unfold mget at h
    by_cases e : y.1 = n
    · rw [if_pos e] at h
      refine ⟨[], r, ?_, fun y hy => by cases hy⟩
      obtain ⟨y1, y2⟩ := y
      cases h; simp only at e; subst e; rfl
    · rw [if_neg e] at h
      obtain ⟨pre, post, h1, h2⟩ := mget_split h
      exact ⟨y :: pre, post, by rw [h1]; rfl, List.forall_mem_cons.2 ⟨e, h2⟩⟩
theorem atO_pre {n : List UInt8} {v : Fl} {post : Mp} (hv : v.f_Name = n) : ∀ (pre : Mp) (i : Nat), Keyed pre → (∀ y ∈ pre, y.1 ≠ n) → atO n (vals (pre ++ (n, v) :: post)) i = .inr ((i + pre.length : Nat) : Int)
  | [], i, _, _ => by
    unfold vals
    rw [List.nil_append, List.map_cons]
    unfold atO
    rw [if_pos hv]; rfl
  | y :: r, i, hk, hn => by
    have ih := atO_pre (post := post) hv r (i + 1) (fun z hz => hk z (List.mem_cons_of_mem _ hz)) (fun z hz => hn z (List.mem_cons_of_mem _ hz))
    unfold vals at ih ⊢
    rw [List.cons_append, List.map_cons]
    unfold atO
    rw [if_neg (by rw [← hk y List.mem_cons_self]; exact hn y List.mem_cons_self), ih, List.length_cons]
    congr 2; omega
theorem del_split {n : List UInt8} {v : Fl} {pre post : Mp} (hr : Rising (pre ++ (n, v) :: post)) (hn : ∀ y ∈ pre, y.1 ≠ n) : mdel n (pre ++ (n, v) :: post) = pre ++ post := by
  have h1 : mdel n pre = pre := mdel_eq hn
  have hpost : ∀ y ∈ post, y.1 ≠ n := fun y hy e => by
    have h2 := (List.pairwise_append.1 hr).2.1
    have := (List.pairwise_cons.1 h2).1 y hy
    rw [e, less_irrefl] at this; cases this
  have h2 : mdel n post = post := mdel_eq hpost
  unfold mdel at h1 h2 ⊢
  rw [List.filter_append, List.filter_cons, if_neg (by simp), h1, h2]
theorem copy_eq (k : Nat) (m : Mp) : tree_Tree_Copy_m0.f k m = some m := rfl
theorem rrem_eq (k : Nat) (m : Mp) (n : List UInt8) (hk : 2000 < k) (hm : m.length ≤ 1000) (hg : Good m) : millwrightref02_Tree_Remove_m0.f k (vals m) n = some (((remS m n).1 : Int), vals (remS m n).2) := by
  unfold millwrightref02_Tree_Remove_m0.f remS
  have hv := vals_len m
  rw [at_eq k _ _ (by omega) (by omega), Option.bind_some]
  cases hq : mget n m with
  | none =>
    rcases atI_spec n m hg.keyed with ⟨q1, q2⟩ | ⟨v, j, q1, q2, q3⟩
    · rw [q2]; simp
    · rw [hq] at q1; cases q1
  | some v =>
    obtain ⟨pre, post, e, hn⟩ := mget_split hq
    have hmem : (n, v) ∈ m := by rw [e]; simp
    have hvn : v.f_Name = n := (hg.keyed _ hmem).symm
    have hat : atI n (vals m) = (pre.length : Int) := by
      unfold atI
      have := atO_pre (post := post) hvn pre 0 (fun y hy => hg.keyed y (by rw [e]; simp [hy])) hn
      rw [e, this]; simp
    have hvals : vals m = vals pre ++ v :: vals post := by rw [e]; unfold vals; simp
    have hdel : vals (mdel n m) = vals pre ++ vals post := by
      have := hg.rising
      rw [e] at this ⊢
      rw [del_split this hn]; unfold vals; simp
    have hl1 : (vals pre).length = pre.length := vals_len pre
    have hl2 : m.length = pre.length + (post.length + 1) := by rw [e]; simp
    rw [hat, if_neg (by rw [decide_eq_true_eq]; omega), sub_to rfl rfl (by omega), Option.bind_some]
    have ht : (vals m).take pre.length = vals pre := by rw [hvals, ← hl1]; simp
    have hd : (vals m).drop (pre.length + 1) = vals post := by rw [hvals, ← hl1]; simp
    have hlim : LIM = 4294967296 := rfl
    rw [ht, wr1 (by omega), sub_from rfl rfl (by omega), if_pos (by simp; omega), Option.bind_some, hd, if_pos (by simp [vals_len]; omega)]
    simp [hdel]
theorem rtouch_eq (k : Nat) (m : Mp) (n : List UInt8) (t : Int) (hk : 2000 < k) (hm : m.length ≤ 1000) (hn : n.length ≤ 1000) (hg : Good m) : millwrightref02_Tree_Touch_m0.f k (vals m) n t = some ((mayS m ⟨n, ((mget n m).getD ⟨[], [], 0⟩).f_Content, t⟩ : Int), vals (putS m ⟨n, ((mget n m).getD ⟨[], [], 0⟩).f_Content, t⟩).2) := by
  unfold millwrightref02_Tree_Touch_m0.f millwrightref02_Tree_Touch_m0.j3
  have hv := vals_len m
  rw [at_eq k _ _ (by omega) (by omega), Option.bind_some]
  rcases atI_spec n m hg.keyed with ⟨q1, q2⟩ | ⟨v, j, q1, q2, q3⟩
  · rw [q1, q2, if_neg (by decide), rput_eq k m _ hk hm hn hg.rising hg.keyed]; rfl
  · have hj : j < (vals m).length := by
      rcases Nat.lt_or_ge j (vals m).length with h | h
      · exact h
      · rw [List.getElem?_eq_none_iff.2 h] at q3; cases q3
    have e3 : (vals m)[j] = v := by rw [List.getElem?_eq_getElem hj] at q3; exact Option.some.inj q3
    rw [q1, q2, if_pos (by rw [decide_eq_true_eq]; omega), idx_at rfl hj, Option.bind_some, e3, rput_eq k m _ hk hm hn hg.rising hg.keyed]; rfl
theorem j44_eq (k : Nat) (hk : 2000 < k) (rec : Mp → List Fl → Int → Option (Sum Unit Bool)) (a : List Ac) (i : Nat) (hi : i < 1000) (x : Ac) (m m' : Mp) (hg : Good m) (hg' : Good m') (hm : m.length ≤ 1000) (hm' : m'.length ≤ 1000) (e : Int) :
    millwrightlaw02_TreePlays.j44 k rec a (vals m) (i : Int) x m m' (vals m') e e = rec m' (vals m') ((i + 1 : Nat) : Int) := by
  have hv := vals_len m'
  have h33 : ∀ b, b = false → millwrightlaw02_TreePlays.j33 k rec a (vals m) (i : Int) m m' (vals m') b = rec m' (vals m') ((i + 1 : Nat) : Int) := fun b hb => by
    subst hb
    unfold millwrightlaw02_TreePlays.j33 millwrightlaw02_TreePlays.j30 millwrightlaw02_TreePlays.j26 millwrightlaw02_TreePlays.j15
    rw [if_neg (by simp), shows_eq k (by omega) m' hg' hm', Option.bind_some, if_neg (by simp), shows_eq k (by omega) m hg hm, Option.bind_some, if_neg (by simp), wr1 (by omega)]
  unfold millwrightlaw02_TreePlays.j44 tree_Tree_Time_m0.f millwrightref02_Tree_Time_m0.f
  rw [get_eq, Option.bind_some, at_eq k _ _ (by omega) (by omega), Option.bind_some, if_neg (by simp)]
  rcases atI_spec x.f_File.f_Name m' hg'.keyed with ⟨q1, q2⟩ | ⟨v, j, q1, q2, q3⟩
  · rw [q1, q2]
    simp only [Option.isSome_none, Option.getD_none, Option.bind_some]
    rw [if_neg (by decide), if_neg (by decide), if_neg (by decide), if_pos (by decide), Option.bind_some]
    exact h33 _ (by decide)
  · have hj : j < (vals m').length := by
      rcases Nat.lt_or_ge j (vals m').length with h | h
      · exact h
      · rw [List.getElem?_eq_none_iff.2 h] at q3; cases q3
    have e3 : (vals m')[j] = v := by rw [List.getElem?_eq_getElem hj] at q3; exact Option.some.inj q3
    have hq : (v.f_Name == v.f_Name && (v.f_Content == v.f_Content && (v.f_Time == v.f_Time && true))) = true := feqB_self v
    rw [q1, q2]
    simp only [Option.isSome_some, Option.getD_some, Option.bind_some, if_true]
    rw [if_neg (by simp), idx_at rfl hj, Option.bind_some, e3, hq, if_neg (by decide), if_neg (by rw [decide_eq_true_eq]; omega), Option.bind_some, Option.bind_some]
    exact h33 _ (by simp)
theorem plays_loop (a : List Ac) (ha : a.length ≤ 120) : ∀ (l : List Ac) (fuel i : Nat) (m : Mp), a.drop i = l → l.length < fuel → m.length ≤ i → Good m →
    ∃ o, millwrightlaw02_TreePlays.l9 4000 a fuel m (vals m) (i : Int) = some o ∧ (o = .inl () ∨ o = .inr true)
  | _, 0, _, _, _, h, _, _ => by omega
  | [], f + 1, i, m, hl, _, _, _ => by
    have := at_nil hl
    unfold millwrightlaw02_TreePlays.l9
    exact ⟨_, by rw [if_neg (by simp; omega)], .inl rfl⟩
  | x :: r, f + 1, i, m, hl, hf, hm, hg => by
    obtain ⟨g1, g2, g3⟩ := at_drop hl
    have ih := fun m' h1 h2 => plays_loop a ha r f (i + 1) m' g2 (by simpa using hf) h1 h2
    unfold millwrightlaw02_TreePlays.l9 millwrightlaw02_TreePlays.j60
    rw [if_pos (by simp; exact g3), g1, Option.bind_some]
    have main : x.f_File.f_Name.length ≤ 100 → ∃ o, millwrightlaw02_TreePlays.j57 4000 (millwrightlaw02_TreePlays.l9 4000 a f) a m (vals m) (i : Int) x = some o ∧ (o = .inl () ∨ o = .inr true) := fun hn => by
      unfold millwrightlaw02_TreePlays.j57
      rw [copy_eq, Option.bind_some, put_eq 4000 (by omega), touch_eq 4000 (by omega), rem_eq, fl_eta, rput_eq 4000 m x.f_File (by omega) (by omega) (by omega) hg.rising hg.keyed, rtouch_eq 4000 m _ _ (by omega) (by omega) (by omega) hg, rrem_eq 4000 m _ (by omega) (by omega) hg]
      simp only [Option.bind_some]
      have e1 : ∀ g, (putS m g).1 = mayS m g := fun g => rfl
      rw [e1, e1, num_e (mayS_le m _), num_e (mayS_le m _), num_e (show (remS m x.f_File.f_Name).1 ≤ 18 by unfold remS; split <;> omega)]
      simp only [Option.bind_some]
      have fin : ∀ (m' : Mp) (e : Int), Good m' → m'.length ≤ m.length + 1 → ∃ o, millwrightlaw02_TreePlays.j44 4000 (millwrightlaw02_TreePlays.l9 4000 a f) a (vals m) (i : Int) x m m' (vals m') e e = some o ∧ (o = .inl () ∨ o = .inr true) := fun m' e h1 h2 => by
        rw [j44_eq 4000 (by omega) _ a i (by omega) x m m' hg h1 (by omega) (by omega) e]
        exact ih m' (by omega) h1
      split
      · exact fin _ _ (hg.put _) (putS_len m _)
      split
      · exact fin _ _ (hg.put _) (putS_len m _)
      split
      · refine fin _ _ ?_ (remS_len m _)
        unfold remS
        split
        · exact hg.del _
        · exact hg
      · exact fin m 0 hg (by omega)
    by_cases h1 : decide ((x.f_File.f_Name.length : Int) > 100) = true
    · rw [if_pos h1, if_pos rfl]; exact ⟨_, rfl, .inr rfl⟩
    · rw [if_neg h1]
      split
      · exact ⟨_, rfl, .inr rfl⟩
      · exact main (by simp at h1; omega)
theorem treePlays_true (a0 : List Ac) (_ : Wf Un (.list (.named 4)) a0) : ∃ k, millwrightlaw02_TreePlays.f k a0 = some true := by
  refine ⟨4000, ?_⟩
  have ali : millwrightlaw02_alive.f 4000 = some true := by decide +kernel
  unfold millwrightlaw02_TreePlays.f tree_New.f millwrightlaw02_TreePlays.j5
  rw [ali, Option.bind_some, if_neg (by decide)]
  by_cases h : decide ((a0.length : Int) > 120) = true
  · rw [if_pos h]
  · rw [if_neg h, Option.bind_some]
    obtain ⟨o, ho, ho2⟩ := plays_loop a0 (by simp at h; omega) a0 4000 0 [] rfl (by simp at h; omega) (by simp) .nil
    have ho : millwrightlaw02_TreePlays.l9 4000 a0 4000 [] [] 0 = some o := ho
    rw [ho, Option.bind_some]
    rcases ho2 with rfl | rfl <;> rfl
end Go.Proofs.YtkdpaglpieamgaaDoor
