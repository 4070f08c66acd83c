/- Trees that can be, and what they show. -/
import Derived.Test.YtcblgpcgdihcbaaGreatDoorK17SSTB
namespace Go.Proofs.YtcblgpcgdihcbaaGreatDoor.Tr
open Go Go.AM Go.ChangeShapes Go.ChangeAt Go.RowKit
set_option linter.unusedVariables false
set_option linter.unusedSimpArgs false
set_option maxRecDepth 100000
structure Good (m : Mp) : Prop where
  rising : Rising m
  keyed : Keyed m
  short : Short m
theorem vals_len (m : Mp) : (vals m).length = m.length := by unfold vals; simp
theorem Good.nil : Good [] := ⟨.nil, fun y hy => by (cases hy), fun y hy => by (cases hy)⟩
theorem Good.put {m : Mp} (h : Good m) (f : Fl) : Good (putS m f).2 := by
  refine ⟨?_, ?_, h.short.putS f⟩
  · unfold putS; simp only; split
    · exact h.rising.put
    · exact h.rising
  · unfold putS; simp only; split
    · intro y hy
      rcases mput_mem hy with rfl | hy
      · rfl
      · exact h.keyed y hy
    · exact h.keyed
theorem Good.del {m : Mp} (h : Good m) (n : List UInt8) : Good (mdel n m) := ⟨h.rising.del n, fun y hy => h.keyed y (List.mem_filter.1 hy).1, h.short.del n⟩
theorem mayS_le (m : Mp) (f : Fl) : mayS m f ≤ 18 := by
  unfold mayS
  repeat' split
  all_goals omega

theorem rof_loop (k : Nat) (hk : 2000 < k) (a : List Fl) (ha : a.length ≤ 200) (hn : ∀ f ∈ a, f.f_Name.length ≤ 100) : ∀ (l : List Fl) (fuel i : Nat) (m : Mp), a.drop i = l → i ≤ a.length → l.length < fuel → m.length ≤ i → Good m →
    (∃ e, e ≠ 0 ∧ e ≤ 18 ∧ tree_Of.l6 k a fuel m (i : Int) = some (.inr (false, [], e)) ∧ millwrightref02_Of.l5 k a fuel (vals m) (i : Int) = some (.inr (false, [], (e : Int)))) ∨
      ∃ m', tree_Of.l6 k a fuel m (i : Int) = some (.inl m') ∧ millwrightref02_Of.l5 k a fuel (vals m) (i : Int) = some (.inl (vals m')) ∧ m'.length ≤ a.length ∧ Good m'
  | _, 0, _, _, _, _, h, _, _ => by omega
  | [], fu + 1, i, m, hl, hia, _, h1, h2 => by
    have h0 := at_nil hl
    right
    refine ⟨m, ?_, ?_, by omega, h2⟩
    · unfold tree_Of.l6
      rw [if_neg (by simp; omega)]
    · unfold millwrightref02_Of.l5
      rw [if_neg (by simp; omega)]
  | x :: r, fu + 1, i, m, hl, hia, hf, h1, h2 => by
    obtain ⟨g1, g2, g3⟩ := at_drop hl
    have hx : x ∈ a := List.mem_of_mem_drop (hl ▸ List.mem_cons_self)
    unfold tree_Of.l6 millwrightref02_Of.l5
    rw [if_pos (by simp; exact g3), if_pos (by simp; exact g3), g1, Option.bind_some, Option.bind_some, get_eq, Option.bind_some, at_eq k _ _ (by rw [vals_len]; omega) (by rw [vals_len]; omega), Option.bind_some]
    rcases atI_spec x.f_Name m h2.keyed with ⟨q1, q2⟩ | ⟨v, j, q1, q2, q3⟩
    · rw [q1, q2, if_neg (by decide), if_neg (by decide)]
      rw [put_eq k (by omega), Option.bind_some, fl_eta, rput_eq k m x hk (by omega) (by have := hn x hx; omega) h2.rising h2.keyed, Option.bind_some]
      have e1 : (putS m x).1 = mayS m x := rfl
      rw [e1]
      by_cases h0 : mayS m x = 0
      · rw [h0, if_neg (by simp), if_neg (by simp), wr1 (by omega)]
        refine rof_loop k hk a ha hn r fu (i + 1) _ g2 (by omega) (by simpa using hf) ?_ (h2.put x)
        have := putS_len m x; omega
      · left
        exact ⟨mayS m x, h0, mayS_le m x, by rw [if_pos (by simpa using h0)], by rw [if_pos (by simp; omega)]⟩
    · left
      rw [q1, q2]
      exact ⟨9, by decide, by decide, by simp, by rw [if_pos (by rw [decide_eq_true_eq]; omega)]; rfl⟩
theorem of_both (k : Nat) (hk : 2000 < k) (a : List Fl) (ha : a.length ≤ 200) (hn : ∀ f ∈ a, f.f_Name.length ≤ 100) :
    (∃ e, e ≠ 0 ∧ e ≤ 18 ∧ tree_Of.f k a = some (false, [], e) ∧ millwrightref02_Of.f k a = some (false, [], (e : Int))) ∨
      ∃ m, tree_Of.f k a = some (true, m, 0) ∧ millwrightref02_Of.f k a = some (true, vals m, 0) ∧ m.length ≤ a.length ∧ Good m := by
  unfold tree_Of.f millwrightref02_Of.f tree_New.f tree_Of.j3 millwrightref02_Of.j2
  rcases rof_loop k hk a ha hn a k 0 [] rfl (by omega) (by omega) (by simp) .nil with ⟨e, h1, h2, h3, h4⟩ | ⟨m, h3, h4, h5, h6⟩
  · left
    have h3 : tree_Of.l6 k a k [] 0 = _ := h3
    have h4 : millwrightref02_Of.l5 k a k [] 0 = _ := h4
    exact ⟨e, h1, h2, by rw [Option.bind_some, h3]; rfl, by rw [h4]; rfl⟩
  · right
    have h3 : tree_Of.l6 k a k [] 0 = _ := h3
    have h4 : millwrightref02_Of.l5 k a k [] 0 = _ := h4
    exact ⟨m, by rw [Option.bind_some, h3]; rfl, by rw [h4]; rfl, h5, h6⟩
theorem lof_loop (k : Nat) (a : List Fl) (ha : a.length ≤ 1000) : ∀ (l : List Fl) (fuel i : Nat) (out : List Fl), a.drop i = l → l.length < fuel → out.length ≤ i → millwrightlaw02_Of.l5 k a fuel out (i : Int) = some (out ++ l)
  | _, 0, _, _, _, h, _ => by omega
  | [], f + 1, i, out, hl, _, _ => by
    have := at_nil hl
    unfold millwrightlaw02_Of.l5
    rw [if_neg (by simp; omega)]; simp
  | x :: r, f + 1, i, out, hl, hf, ho => by
    obtain ⟨g1, g2, g3⟩ := at_drop hl
    have ih := lof_loop k a ha r f (i + 1) (out ++ [x]) g2 (by simpa using hf) (by simp; omega)
    unfold millwrightlaw02_Of.l5
    rw [if_pos (by simp; exact g3), g1, Option.bind_some, wr1 (by omega), fl_eta, if_pos (lim_ok (by omega)), ih]; simp
theorem lof_eq (k : Nat) (hk : 1000 < k) (a : List Fl) (ha : a.length ≤ 1000) : millwrightlaw02_Of.f k a = some a := by
  unfold millwrightlaw02_Of.f millwrightlaw02_Of.j2
  have e0 : millwrightlaw02_Of.l5 k a k [] 0 = _ := lof_loop k a ha a k 0 [] rfl (by omega) (by simp)
  rw [e0]; rfl

theorem Good.get {m : Mp} (h : Good m) {y : List UInt8 × Fl} (hy : y ∈ m) : mget y.1 m = some y.2 := mget_of h.rising.apart hy
theorem files_loop (k : Nat) (m : Mp) (hg : Good m) (hm : m.length ≤ 1000) : ∀ (l : Mp) (fuel i : Nat) (out : List Fl), m.drop i = l → l.length < fuel → out.length ≤ i → tree_Tree_Files_m0.l6 k m (m.map (·.1)) fuel out (i : Int) = some (out ++ vals l)
  | _, 0, _, _, _, h, _ => by omega
  | [], f + 1, i, out, hl, _, _ => by
    have := at_nil hl
    unfold tree_Tree_Files_m0.l6
    rw [if_neg (by simp; omega)]; simp [vals]
  | y :: r, f + 1, i, out, hl, hf, ho => by
    obtain ⟨g1, g2, g3⟩ := at_drop hl
    have hy : y ∈ m := List.mem_of_mem_drop (hl ▸ List.mem_cons_self)
    have g1' : idx (m.map (·.1)) (i : Int) = some y.1 := by
      rw [idx_at rfl (by simpa using g3)] at g1 ⊢
      rw [List.getElem_map]; simp only [Option.some.injEq] at g1 ⊢; rw [g1]
    have ih := files_loop k m hg hm r f (i + 1) (out ++ [y.2]) g2 (by simpa using hf) (by simp; omega)
    unfold tree_Tree_Files_m0.l6
    rw [if_pos (by simp; exact g3), g1', Option.bind_some, wr1 (by omega), hg.get hy, Option.getD_some, if_pos (lim_ok (by omega)), ih]; simp [vals]
theorem files_eq (k : Nat) (hk : 1000 < k) (m : Mp) (hg : Good m) (hm : m.length ≤ 1000) : tree_Tree_Files_m0.f k m = some (vals m) := by
  unfold tree_Tree_Files_m0.f tree_Tree_Files_m0.j2
  rw [names_eq k m hm hg.short, Option.bind_some]
  have e0 : tree_Tree_Files_m0.l6 k m (m.map (·.1)) k [] 0 = _ := files_loop k m hg hm m k 0 [] rfl (by omega) (by simp)
  rw [e0]; rfl
theorem lat_eq (k : Nat) (hk : 1000 < k) (m : Mp) (hm : m.length ≤ 1000) : tree_Tree_Latest_m0.f k m = some (latest 0 m) := by
  unfold tree_Tree_Latest_m0.f tree_Tree_Latest_m0.j2
  rw [latest_loop, if_pos (by omega)]; rfl
theorem rlat_loop (k : Nat) (w : List Fl) (hw : w.length ≤ 1000) : ∀ (l : Mp) (fuel i : Nat) (v : Int), w.drop i = vals l → l.length < fuel → millwrightref02_Tree_Latest_m0.l5 k w fuel v (i : Int) = some (latest v l)
  | _, 0, _, _, _, h => by omega
  | [], f + 1, i, v, hl, _ => by
    have := at_nil hl
    unfold millwrightref02_Tree_Latest_m0.l5
    rw [if_neg (by simp; omega)]; rfl
  | y :: r, f + 1, i, v, hl, hf => by
    obtain ⟨g1, g2, g3⟩ := at_drop hl
    have ih := fun v => rlat_loop k w hw r f (i + 1) v g2 (by simpa using hf)
    unfold millwrightref02_Tree_Latest_m0.l5 millwrightref02_Tree_Latest_m0.j11
    rw [if_pos (by simp; exact g3), g1, Option.bind_some, wr1 (by omega), ih, ih]
    have e : latest v (y :: r) = latest (mx v y.2.f_Time) r := rfl
    rw [e]
    by_cases h : y.2.f_Time > v
    · have : mx v y.2.f_Time = y.2.f_Time := by unfold mx; rw [if_pos h]
      rw [if_pos (by simpa using h), this]
    · have : mx v y.2.f_Time = v := by unfold mx; rw [if_neg h]
      rw [if_neg (by simpa using h), this]
theorem rlat_eq (k : Nat) (hk : 1000 < k) (m : Mp) (hm : m.length ≤ 1000) : millwrightref02_Tree_Latest_m0.f k (vals m) = some (latest 0 m) := by
  unfold millwrightref02_Tree_Latest_m0.f millwrightref02_Tree_Latest_m0.j2
  have e0 : millwrightref02_Tree_Latest_m0.l5 k (vals m) k 0 0 = _ := rlat_loop k (vals m) (by rw [vals_len]; omega) m k 0 0 rfl (by omega)
  rw [e0]; rfl
theorem feqB_self (x : Fl) : feqB x x = true := by unfold feqB; simp
theorem shows_loop (k : Nat) (m : Mp) (hg : Good m) (hm : m.length ≤ 1000) (a0 : Mp) : ∀ (l : Mp) (fuel i : Nat), m.drop i = l → l.length < fuel → millwrightlaw02_Shows_m0.l6 k a0 (vals m) (vals m) (m.map (·.1)) fuel (i : Int) = some (.inl ())
  | _, 0, _, _, h => by omega
  | [], f + 1, i, hl, _ => by
    have := at_nil hl
    unfold millwrightlaw02_Shows_m0.l6
    rw [if_neg (by simp; omega)]
  | y :: r, f + 1, i, hl, hf => by
    obtain ⟨g1, g2, g3⟩ := at_drop hl
    have hy : y ∈ m := List.mem_of_mem_drop (hl ▸ List.mem_cons_self)
    have hlen := vals_len m
    rw [idx_at rfl g3] at g1
    have g1 := Option.some.inj g1
    have e1 : idx (m.map (·.1)) (i : Int) = some y.1 := by rw [idx_at rfl (by simpa using g3), List.getElem_map, g1]
    have e2 : idx (vals m) (i : Int) = some y.2 := by rw [idx_at rfl (by omega)]; unfold vals; rw [List.getElem_map, g1]
    have ih := shows_loop k m hg hm a0 r f (i + 1) g2 (by simpa using hf)
    have hk := hg.keyed y hy
    have hq : (y.2.f_Name == y.2.f_Name && (y.2.f_Content == y.2.f_Content && (y.2.f_Time == y.2.f_Time && true))) = true := feqB_self y.2
    unfold millwrightlaw02_Shows_m0.l6 millwrightlaw02_Shows_m0.j14 millwrightlaw02_Shows_m0.j10
    rw [if_pos (by simp; exact g3), e1, Option.bind_some, e2, if_neg (by rw [decide_eq_true_eq]; omega), Option.bind_some, if_neg (by simp [hk]), Option.bind_some, Option.bind_some, hq, wr1 (by omega), ih]; rfl
theorem shows_eq (k : Nat) (hk : 1000 < k) (m : Mp) (hg : Good m) (hm : m.length ≤ 1000) : millwrightlaw02_Shows_m0.f k m (vals m) = some true := by
  unfold millwrightlaw02_Shows_m0.f millwrightlaw02_Shows_m0.j25 millwrightlaw02_Shows_m0.j22 millwrightlaw02_Shows_m0.j3
  rw [files_eq k hk m hg hm, Option.bind_some, if_neg (by simp), lat_eq k hk m hm, Option.bind_some, rlat_eq k hk m hm, Option.bind_some, if_neg (by simp), names_eq k m hm hg.short, Option.bind_some]
  have e0 : millwrightlaw02_Shows_m0.l6 k m (vals m) (vals m) (m.map (·.1)) k 0 = _ := shows_loop k m hg hm m m k 0 rfl (by omega)
  rw [e0, Option.bind_some, Option.bind_some]
  simp [vals_len]
theorem mget_split {n : List UInt8} {v : Fl} : ∀ {m : Mp}, mget n m = some v → ∃ pre post, m = pre ++ (n, v) :: post ∧ ∀ y ∈ pre, y.1 ≠ n
  | [], h => by cases h
  | y :: r, h => by
    unfold mget at h
    by_cases e : y.1 = n
    · rw [if_pos e] at h
      refine ⟨[], r, ?_, fun y hy => by cases hy⟩
      obtain ⟨y1, y2⟩ := y
      cases h; simp only at e; subst e; rfl
    · rw [if_neg e] at h
      obtain ⟨pre, post, h1, h2⟩ := mget_split h
      exact ⟨y :: pre, post, by rw [h1]; rfl, List.forall_mem_cons.2 ⟨e, h2⟩⟩
theorem atO_pre {n : List UInt8} {v : Fl} {post : Mp} (hv : v.f_Name = n) : ∀ (pre : Mp) (i : Nat), Keyed pre → (∀ y ∈ pre, y.1 ≠ n) → atO n (vals (pre ++ (n, v) :: post)) i = .inr ((i + pre.length : Nat) : Int)
  | [], i, _, _ => by
    unfold vals
    rw [List.nil_append, List.map_cons]
    unfold atO
    rw [if_pos hv]; rfl
  | y :: r, i, hk, hn => by
    have ih := atO_pre (post := post) hv r (i + 1) (fun z hz => hk z (List.mem_cons_of_mem _ hz)) (fun z hz => hn z (List.mem_cons_of_mem _ hz))
    unfold vals at ih ⊢
    rw [List.cons_append, List.map_cons]
    unfold atO
    rw [if_neg (by rw [← hk y List.mem_cons_self]; exact hn y List.mem_cons_self), ih, List.length_cons]
    congr 2; omega
theorem del_split {n : List UInt8} {v : Fl} {pre post : Mp} (hr : Rising (pre ++ (n, v) :: post)) (hn : ∀ y ∈ pre, y.1 ≠ n) : mdel n (pre ++ (n, v) :: post) = pre ++ post := by
  have h1 : mdel n pre = pre := mdel_eq hn
  have hpost : ∀ y ∈ post, y.1 ≠ n := fun y hy e => by
    have h2 := (List.pairwise_append.1 hr).2.1
    have := (List.pairwise_cons.1 h2).1 y hy
    rw [e, less_irrefl] at this; cases this
  have h2 : mdel n post = post := mdel_eq hpost
  unfold mdel at h1 h2 ⊢
  rw [List.filter_append, List.filter_cons, if_neg (by simp), h1, h2]
theorem rrem_eq (k : Nat) (m : Mp) (n : List UInt8) (hk : 2000 < k) (hm : m.length ≤ 1000) (hg : Good m) : millwrightref02_Tree_Remove_m0.f k (vals m) n = some (((remS m n).1 : Int), vals (remS m n).2) := by
  unfold millwrightref02_Tree_Remove_m0.f remS
  have hv := vals_len m
  rw [at_eq k _ _ (by omega) (by omega), Option.bind_some]
  cases hq : mget n m with
  | none =>
    rcases atI_spec n m hg.keyed with ⟨q1, q2⟩ | ⟨v, j, q1, q2, q3⟩
    · rw [q2]; simp
    · rw [hq] at q1; cases q1
  | some v =>
    obtain ⟨pre, post, e, hn⟩ := mget_split hq
    have hmem : (n, v) ∈ m := by rw [e]; simp
    have hvn : v.f_Name = n := (hg.keyed _ hmem).symm
    have hat : atI n (vals m) = (pre.length : Int) := by
      unfold atI
      have := atO_pre (post := post) hvn pre 0 (fun y hy => hg.keyed y (by rw [e]; simp [hy])) hn
      rw [e, this]; simp
    have hvals : vals m = vals pre ++ v :: vals post := by rw [e]; unfold vals; simp
    have hdel : vals (mdel n m) = vals pre ++ vals post := by
      have := hg.rising
      rw [e] at this ⊢
      rw [del_split this hn]; unfold vals; simp
    have hl1 : (vals pre).length = pre.length := vals_len pre
    have hl2 : m.length = pre.length + (post.length + 1) := by rw [e]; simp
    rw [hat, if_neg (by rw [decide_eq_true_eq]; omega), sub_to rfl rfl (by omega), Option.bind_some]
    have ht : (vals m).take pre.length = vals pre := by rw [hvals, ← hl1]; simp
    have hd : (vals m).drop (pre.length + 1) = vals post := by rw [hvals, ← hl1]; simp
    have hlim : LIM = 4294967296 := rfl
    rw [ht, wr1 (by omega), sub_from rfl rfl (by omega), if_pos (by simp; omega), Option.bind_some, hd, if_pos (by simp [vals_len]; omega)]
    simp [hdel]
theorem rtouch_eq (k : Nat) (m : Mp) (n : List UInt8) (t : Int) (hk : 2000 < k) (hm : m.length ≤ 1000) (hn : n.length ≤ 1000) (hg : Good m) : millwrightref02_Tree_Touch_m0.f k (vals m) n t = some ((mayS m ⟨n, ((mget n m).getD ⟨[], [], 0⟩).f_Content, t⟩ : Int), vals (putS m ⟨n, ((mget n m).getD ⟨[], [], 0⟩).f_Content, t⟩).2) := by
  unfold millwrightref02_Tree_Touch_m0.f millwrightref02_Tree_Touch_m0.j3
  have hv := vals_len m
  rw [at_eq k _ _ (by omega) (by omega), Option.bind_some]
  rcases atI_spec n m hg.keyed with ⟨q1, q2⟩ | ⟨v, j, q1, q2, q3⟩
  · rw [q1, q2, if_neg (by decide), rput_eq k m _ hk hm hn hg.rising hg.keyed]; rfl
  · have hj : j < (vals m).length := by
      rcases Nat.lt_or_ge j (vals m).length with h | h
      · exact h
      · rw [List.getElem?_eq_none_iff.2 h] at q3; cases q3
    have e3 : (vals m)[j] = v := by rw [List.getElem?_eq_getElem hj] at q3; exact Option.some.inj q3
    rw [q1, q2, if_pos (by rw [decide_eq_true_eq]; omega), idx_at rfl hj, Option.bind_some, e3, rput_eq k m _ hk hm hn hg.rising hg.keyed]; rfl
end Go.Proofs.YtcblgpcgdihcbaaGreatDoor.Tr
