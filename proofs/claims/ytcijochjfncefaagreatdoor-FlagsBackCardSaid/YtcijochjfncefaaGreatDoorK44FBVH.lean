/- A part of a proof: FBVH. -/
import Derived.Test.YtcijochjfncefaaGreatDoorK44FBVG
namespace Go.Proofs.YtcijochjfncefaaGreatDoor
open Go Go.AM Go.ChangeShapes Go.ChangeAt Go.RowKit
set_option linter.unusedVariables false
set_option linter.unusedSimpArgs false
set_option maxRecDepth 100000
theorem parseS_step {n : Nat} {s : Tx} {r r' : List Tx} {o o' : Op1} (h : oneS r o s = (0, r', o')) : parseS (n + 1) (s :: r) o = parseS n r' o' := by
  have e : parseS (n + 1) (s :: r) o = if (oneS r o s).1 != 0 then (zeroO, (oneS r o s).1) else parseS n (oneS r o s).2.1 (oneS r o s).2.2 := rfl
  rw [e, h]; rfl
theorem goal_step {r : List Tx} {o : Op1} {s : Tx} (h : plainG s = true) : oneS r o s = (0, r, { o with f_Goals := o.f_Goals ++ [s] }) := by
  unfold plainG at h
  simp only [Bool.and_eq_true, Bool.not_eq_true'] at h
  obtain ⟨h1, h2, h3⟩ := h
  unfold oneS
  rw [h2, if_neg (by decide), h3, if_neg (by decide), if_pos h1]
theorem goals_parse : ∀ (gs : List Tx) (n : Nat) (o : Op1), gs.length < n → (∀ x ∈ gs, plainG x = true) → parseS n gs o = ({ o with f_Goals := o.f_Goals ++ gs }, 0)
  | [], 0, o, h, _ => by omega
  | [], n + 1, o, _, _ => by
    show (o, 0) = _
    simp
  | s :: r, 0, o, h, _ => by omega
  | s :: r, n + 1, o, h, hp => by
    rw [parseS_step (goal_step (hp s (.head _))), goals_parse r n _ (by simpa using h) fun x hx => hp x (List.mem_cons_of_mem _ hx)]
    simp
theorem let61 : letB 61 = false := by decide
theorem let45 : letB 45 = false := by decide
theorem okNm_all {t : Tx} (h : okNm t = true) : t.all letB = true := by
  unfold okNm at h
  simp only [Bool.and_eq_true] at h
  rw [← tw_all]; exact h.2.2
theorem var_step {r : List Tx} {o : Op1} {v : Vr} (h : badV v = false) (hn : v.fN == nproc → num v.f_Words ≠ 0) :
    oneS r o (lineV v) = (0, r, { o with f_Nproc := (if v.fN == nproc then num v.f_Words else o.f_Nproc), f_Vars := o.f_Vars ++ [v] }) := by
  obtain ⟨q1, q2, q3⟩ := badV_ok h
  obtain ⟨p1, p2, p3⟩ := chk_ok q1
  obtain ⟨p4, p5⟩ := okNm_len p1
  have hall := okNm_all p1
  have h61 : (61 : UInt8) ∉ v.fN := fun hm => by
    have := List.all_eq_true.1 hall 61 hm
    rw [let61] at this; cases this
  have e1 : (lineV v).takeWhile (· != 61) = v.fN := by
    unfold lineV
    rw [List.append_assoc]; exact tw_cut h61
  have e2 : valueOf (lineV v) = wt v := by
    unfold valueOf
    rw [e1]; unfold lineV; simp
  have e3 : asg (lineV v) = true := by
    unfold asg
    rw [e1, p1]
    unfold lineV; simp
  have e4 : ((lineV v).head? == some 45) = false := by
    cases hnm : v.fN with
    | nil => exact absurd hnm p5
    | cons c t =>
      rw [hnm, List.all_cons, Bool.and_eq_true] at hall
      unfold lineV
      rw [hnm]
      show (some c == some 45) = false
      have : c ≠ 45 := fun e => by
        rw [e, let45] at hall; exact absurd hall.1 (by decide)
      simpa using this
  have e5 : splN (run (wt v) [] 0 []) = (v.f_Words, 0) := back_eq v.f_Words
  have e6 : (⟨v.fN, v.f_Words, 2, false⟩ : Vr) = v := by cases v; simp at q2 q3; subst q2; subst q3; rfl
  unfold oneS
  rw [e4, if_neg (by decide), e3, if_pos rfl, e1, e2]
  unfold varR
  simp only [e5, e6, q1]
  by_cases c : (v.fN == nproc) = true
  · rw [if_neg (by decide), if_neg (by decide), if_pos c, if_neg (by simpa using hn c)]
    simp [c]
  · rw [if_neg (by decide), if_neg (by decide), if_neg c]
    simp [c]
theorem vars_parse (gs : List Tx) (hp : ∀ x ∈ gs, plainG x = true) : ∀ (vs : List Vr) (n : Nat) (o : Op1) (m : Int), vs.length + gs.length < n → vs1 vs o.f_Nproc = some m →
    parseS n (vs.map lineV ++ gs) o = ({ o with f_Nproc := m, f_Vars := o.f_Vars ++ vs, f_Goals := o.f_Goals ++ gs }, 0)
  | [], n, o, m, h, hm => by
    have : o.f_Nproc = m := Option.some.inj hm
    subst this
    rw [List.map_nil, List.nil_append, goals_parse gs n o (by simpa using h) hp]
    simp
  | v :: r, 0, o, m, h, _ => by omega
  | v :: r, n + 1, o, m, h, hm => by
    have e : vs1 (v :: r) o.f_Nproc = if badV v then none else (if v.fN == nproc then (if num v.f_Words == 0 then none else vs1 r (num v.f_Words)) else vs1 r o.f_Nproc) := rfl
    rw [e] at hm
    have hb : badV v = false := by
      cases hb : badV v with
      | true => rw [hb] at hm; cases hm
      | false => rfl
    rw [hb, if_neg (by decide)] at hm
    have hz : v.fN == nproc → num v.f_Words ≠ 0 := fun hc h0 => by
      rw [if_pos hc, h0] at hm; cases hm
    have hm' : vs1 r (if v.fN == nproc then num v.f_Words else o.f_Nproc) = some m := by
      by_cases c : (v.fN == nproc) = true
      · rw [if_pos c] at hm ⊢
        rw [if_neg (by simpa using hz c)] at hm
        exact hm
      · rw [if_neg c] at hm ⊢; exact hm
    rw [List.map_cons, List.cons_append, parseS_step (var_step hb hz), vars_parse gs hp r n { o with f_Nproc := (if v.fN == nproc then num v.f_Words else o.f_Nproc), f_Vars := o.f_Vars ++ [v] } m (by simp at h; omega) hm']
    simp
theorem on_parse : ∀ (b1 b2 b3 b4 b5 b6 : Bool) (args : List Tx), flags_on b1 b2 b3 b4 b5 b6 ≠ [45] → oneS args initO (flags_on b1 b2 b3 b4 b5 b6) = (0, args, ⟨b1, b2, b3, b4, b5, b6, [], [], [109, 107, 102, 105, 108, 101], 1, []⟩) := by
  intro b1 b2 b3 b4 b5 b6 args h
  cases b1 <;> cases b2 <;> cases b3 <;> cases b4 <;> cases b5 <;> cases b6 <;> first | rfl | exact absurd rfl h
theorem on_none : ∀ (b1 b2 b3 b4 b5 b6 : Bool), flags_on b1 b2 b3 b4 b5 b6 = [45] → b1 = false ∧ b2 = false ∧ b3 = false ∧ b4 = false ∧ b5 = false ∧ b6 = false := by decide
theorem newsS_all : ∀ (l acc : List Tx), (∀ x ∈ l, right x = true) → newsS l acc = (0, acc ++ l)
  | [], acc, _ => by simp [newsS]
  | x :: r, acc, h => by
    unfold newsS
    rw [if_pos (h x (.head _)), newsS_all r (acc ++ [x]) fun y hy => h y (List.mem_cons_of_mem _ hy)]
    simp
theorem badN_ok {x : Tx} (h : badN x = false) : right x = true ∧ (44 : UInt8) ∉ x := by
  unfold badN at h
  simpa using h
theorem right_ne {x : Tx} (h : right x = true) : x ≠ [] := by
  obtain ⟨c, r, rfl⟩ := right_pos h; simp
theorem join_ne {l : List Tx} {x : Tx} (h : x ≠ []) : Lib.join (x :: l) [44] ≠ [] := by
  rw [Lib.join_cons]; simp [h]
theorem news_step {r : List Tx} {o : Op1} {x : Tx} {l : List Tx} (ho : o.f_News = []) (h : ∀ y ∈ x :: l, badN y = false) :
    oneS r o ([45, 119] ++ Lib.join (x :: l) [44]) = (0, r, { o with f_News := x :: l }) := by
  have hx := badN_ok (h x (.head _))
  have hj := join_ne (l := l) (right_ne hx.1)
  have e1 : valS r (Lib.join (x :: l) [44]) = (Lib.join (x :: l) [44], 0, r) := by
    unfold valS; rw [if_neg (by simpa using hj)]
  have e2 : newsS (x :: l) [] = (0, x :: l) := newsS_all (x :: l) [] fun y hy => (badN_ok (h y hy)).1
  show (if (119 :: Lib.join (x :: l) [44] == []) = true then (16, r, o) else flagsS r o (119 :: Lib.join (x :: l) [44])) = _
  rw [if_neg (by simp)]
  show ((newsR r o (Lib.join (x :: l) [44])).1, (newsR r o (Lib.join (x :: l) [44])).2.1, { o with f_News := (newsR r o (Lib.join (x :: l) [44])).2.2 }) = _
  unfold newsR
  rw [e1, ho, pieces_join l x fun y hy => (badN_ok (h y hy)).2, e2]; rfl
theorem file_step {r : List Tx} {o : Op1} {x : Tx} (h : right x = true) : oneS r o ([45, 102] ++ x) = (0, r, { o with f_File := x }) := by
  have e1 : valS r x = (x, 0, r) := by
    unfold valS; rw [if_neg (by simpa using right_ne h)]
  show (if (102 :: x == []) = true then (16, r, o) else flagsS r o (102 :: x)) = _
  rw [if_neg (by simp)]
  show ((fileR r o x).1, (fileR r o x).2.1, { o with f_File := (fileR r o x).2.2 }) = _
  unfold fileR
  rw [e1, h]; rfl
theorem tail_parse (o : Op1) (h : rightO o = true) (n : Nat) (p : Op1) (hn : o.f_Vars.length + o.f_Goals.length + 1 < n) (p1 : p.f_Nproc = 1) (p2 : p.f_Vars = []) (p3 : p.f_Goals = []) (p4 : p.f_All = o.f_All ∧ p.f_Explain = o.f_Explain ∧ p.f_Ignore = o.f_Ignore ∧ p.f_Keep = o.f_Keep ∧ p.f_Dry = o.f_Dry ∧ p.f_Touch = o.f_Touch) (p5 : p.f_News = o.f_News) :
    parseS n (([45, 102] ++ o.f_File) :: (o.f_Vars.map lineV ++ o.f_Goals)) p = (o, 0) := by
  obtain ⟨r1, r2, r3, r4⟩ := rightO_parts h
  obtain ⟨n, rfl⟩ : ∃ m, n = m + 1 := ⟨n - 1, by omega⟩
  have hg : ∀ x ∈ o.f_Goals, plainG x = true := fun x hx => by
    have := List.any_eq_false.1 r3 x hx
    simpa using this
  rw [parseS_step (file_step r1), vars_parse o.f_Goals hg o.f_Vars n { p with f_File := o.f_File } o.f_Nproc (by omega) (by show vs1 o.f_Vars p.f_Nproc = _; rw [p1]; exact r4)]
  obtain ⟨a1, a2, a3, a4, a5, a6⟩ := p4
  cases o; cases p
  simp at *
  subst p1 p2 p3 p5 a1 a2 a3 a4 a5 a6
  simp
theorem news_parse (o : Op1) (h : rightO o = true) (n : Nat) (p : Op1) (hn : o.f_Vars.length + o.f_Goals.length + 2 < n) (p1 : p.f_Nproc = 1) (p2 : p.f_Vars = []) (p3 : p.f_Goals = []) (p4 : p.f_All = o.f_All ∧ p.f_Explain = o.f_Explain ∧ p.f_Ignore = o.f_Ignore ∧ p.f_Keep = o.f_Keep ∧ p.f_Dry = o.f_Dry ∧ p.f_Touch = o.f_Touch) (p5 : p.f_News = []) :
    parseS n (newsT o ++ ([45, 102] ++ o.f_File) :: (o.f_Vars.map lineV ++ o.f_Goals)) p = (o, 0) := by
  obtain ⟨r1, r2, r3, r4⟩ := rightO_parts h
  unfold newsT
  by_cases e : o.f_News = []
  · rw [if_pos e, List.nil_append]
    exact tail_parse o h n p (by omega) p1 p2 p3 p4 (by rw [p5, e])
  · rw [if_neg e]
    obtain ⟨n, rfl⟩ : ∃ m, n = m + 1 := ⟨n - 1, by omega⟩
    cases hN : o.f_News with
    | nil => exact absurd hN e
    | cons x l =>
      have hb : ∀ y ∈ x :: l, badN y = false := fun y hy => by
        have := List.any_eq_false.1 r2 y (by rw [hN]; exact hy)
        simpa using this
      rw [List.singleton_append, parseS_step (news_step p5 hb)]
      exact tail_parse o h n { p with f_News := x :: l } (by omega) p1 p2 p3 p4 hN.symm
theorem text_parse (o : Op1) (h : rightO o = true) : parse (textO o) = (o, 0) := by
  unfold parse
  have e : textO o = flags_Text.h o ++ (newsT o ++ ([45, 102] ++ o.f_File) :: (o.f_Vars.map lineV ++ o.f_Goals)) := by
    unfold textO headT; simp
  have hl : (textO o).length = (flags_Text.h o).length + ((newsT o).length + (1 + (o.f_Vars.length + o.f_Goals.length))) := by
    rw [e]; simp; omega
  rw [hl, e]
  unfold flags_Text.h
  by_cases c : (flags_on o.f_All o.f_Explain o.f_Ignore o.f_Keep o.f_Dry o.f_Touch != [45]) = true
  · rw [if_pos c, List.singleton_append]
    have hs := on_parse o.f_All o.f_Explain o.f_Ignore o.f_Keep o.f_Dry o.f_Touch (newsT o ++ ([45, 102] ++ o.f_File) :: (o.f_Vars.map lineV ++ o.f_Goals)) (by simpa using c)
    rw [show ([flags_on o.f_All o.f_Explain o.f_Ignore o.f_Keep o.f_Dry o.f_Touch].length + ((newsT o).length + (1 + (o.f_Vars.length + o.f_Goals.length))) + 1) = ((newsT o).length + (1 + (o.f_Vars.length + o.f_Goals.length)) + 1) + 1 by simp; omega, parseS_step hs]
    by_cases e0 : o.f_News = []
    · have e1 : newsT o = [] := by unfold newsT; rw [if_pos e0]
      rw [e1, List.nil_append]
      exact tail_parse o h _ _ (by simp) rfl rfl rfl ⟨rfl, rfl, rfl, rfl, rfl, rfl⟩ e0.symm
    · have e1 : (newsT o).length = 1 := by unfold newsT; rw [if_neg e0]; rfl
      exact news_parse o h _ _ (by omega) rfl rfl rfl ⟨rfl, rfl, rfl, rfl, rfl, rfl⟩ rfl
  · rw [if_neg c, List.nil_append]
    obtain ⟨a1, a2, a3, a4, a5, a6⟩ := on_none o.f_All o.f_Explain o.f_Ignore o.f_Keep o.f_Dry o.f_Touch (by simpa using c)
    by_cases e0 : o.f_News = []
    · have e1 : newsT o = [] := by unfold newsT; rw [if_pos e0]
      rw [e1, List.nil_append]
      exact tail_parse o h _ _ (by simp) rfl rfl rfl ⟨a1.symm, a2.symm, a3.symm, a4.symm, a5.symm, a6.symm⟩ e0.symm
    · have e1 : (newsT o).length = 1 := by unfold newsT; rw [if_neg e0]; rfl
      exact news_parse o h _ _ (by rw [e1]; simp; omega) rfl rfl rfl ⟨a1.symm, a2.symm, a3.symm, a4.symm, a5.symm, a6.symm⟩ rfl
theorem tot_app : ∀ (a b : List Tx), tot (a ++ b) = tot a + tot b
  | [], b => by simp [tot]
  | x :: a, b => by simp only [List.cons_append, tot]; rw [tot_app a b]; omega
theorem tot_le (m : Nat) : ∀ (a : List Tx), (∀ x ∈ a, x.length ≤ m) → tot a ≤ (m + 1) * a.length
  | [], _ => by simp [tot]
  | x :: a, h => by
    have h1 := h x (.head _)
    have h2 := tot_le m a fun y hy => h y (List.mem_cons_of_mem _ hy)
    rw [tot, List.length_cons, Nat.mul_succ]; omega
theorem wt_small {v : Vr} (h : badV v = false) : (wt v).length ≤ 9720 := by
  obtain ⟨q1, q2, q3⟩ := badV_ok h
  obtain ⟨p1, p2, p3⟩ := chk_ok q1
  exact Nat.le_trans (j_len [32] 242 _ fun x hx => by
    obtain ⟨w, hw, rfl⟩ := List.mem_map.1 hx
    have := quo_len w
    have := p3 w hw
    omega) (by rw [List.length_map]; exact Nat.le_trans (mul_le (a := 1 + 242) p2) (by omega))
theorem line_small {v : Vr} (h : badV v = false) : (lineV v).length ≤ 9800 := by
  obtain ⟨q1, q2, q3⟩ := badV_ok h
  have := wt_small h
  have := (okNm_len (chk_ok q1).1).1
  unfold lineV; simp; omega
theorem text_args (o : Op1) (h : rightO o = true) (hs : SmO o) : (∀ x ∈ textO o, okArg x) ∧ tot (textO o) ≤ 1000000000 := by
  obtain ⟨r1, r2, r3, r4⟩ := rightO_parts h
  have hv := vs1_ok _ _ _ r4
  have hnr : ∀ x ∈ o.f_News, x.length ≤ 40 := fun x hx => right_len (badN_ok (by simpa using List.any_eq_false.1 r2 x hx)).1
  have hgr : ∀ x ∈ o.f_Goals, x.length ≤ 40 := fun x hx => by
    have := List.any_eq_false.1 r3 x hx
    unfold plainG at this
    simp only [Bool.not_eq_true', Bool.not_eq_false, Bool.and_eq_true] at this
    exact right_len this.1
  have hj : (Lib.join o.f_News [44]).length ≤ 410000 := Nat.le_trans (j_len [44] 40 _ hnr) (mul_le (a := 1 + 40) hs.n)
  have hon : (onT o).length ≤ 7 := by
    unfold onT flags_on
    have b1 := ib_len o.f_All 97
    have b2 := ib_len o.f_Explain 101
    have b3 := ib_len o.f_Ignore 105
    have b4 := ib_len o.f_Keep 107
    have b5 := ib_len o.f_Dry 110
    have b6 := ib_len o.f_Touch 116
    simp only [List.length_append, List.length_cons, List.length_nil]; omega
  have hH : ∀ x ∈ headT o, x.length ≤ 410002 ∧ x.head? = some 45 := fun x hx => by
    unfold headT flags_Text.h newsT at hx
    rcases List.mem_append.1 hx with hx | hx
    · split at hx
      · obtain rfl := List.mem_singleton.1 hx
        exact ⟨by have : (flags_on o.f_All o.f_Explain o.f_Ignore o.f_Keep o.f_Dry o.f_Touch).length ≤ 7 := hon; omega, by simp [flags_on]⟩
      · cases hx
    · split at hx
      · cases hx
      · obtain rfl := List.mem_singleton.1 hx
        exact ⟨by simp; omega, rfl⟩
  have hf := right_len r1
  have hL : ∀ x ∈ o.f_Vars.map lineV, x.length ≤ 9800 := fun x hx => by
    obtain ⟨v, hv', rfl⟩ := List.mem_map.1 hx
    exact line_small (hv v hv')
  constructor
  · intro x hx
    unfold textO at hx
    rcases List.mem_append.1 hx with hx | hx
    · rcases List.mem_append.1 hx with hx | hx
      · rcases List.mem_append.1 hx with hx | hx
        · have := hH x hx
          exact ⟨by omega, fun e => absurd this.2 e⟩
        · obtain rfl := List.mem_singleton.1 hx
          exact ⟨by simp; omega, fun _ => by simp; omega⟩
      · have := hL x hx
        exact ⟨by omega, fun _ => by omega⟩
    · have := hgr x hx
      exact ⟨by omega, fun _ => by omega⟩
  · unfold textO
    rw [tot_app, tot_app, tot_app]
    have t1 := tot_le 410002 (headT o) fun x hx => (hH x hx).1
    have t2 := tot_le 9800 (o.f_Vars.map lineV) hL
    have t3 := tot_le 40 o.f_Goals hgr
    have l1 := head_len o
    have l2 := hs.v
    have l3 := hs.g
    rw [List.length_map] at t2
    simp only [tot, List.length_append, List.length_cons, List.length_nil] at *
    omega
end Go.Proofs.YtcijochjfncefaaGreatDoor
