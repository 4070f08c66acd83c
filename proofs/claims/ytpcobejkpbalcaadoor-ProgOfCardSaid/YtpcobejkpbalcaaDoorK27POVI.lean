/- What the document reads is what the code reads. -/
import Derived.Test.YtpcobejkpbalcaaDoorK27POVH
namespace Go.Proofs.YtpcobejkpbalcaaDoor.Rx
set_option linter.unusedVariables false
set_option linter.unusedSimpArgs false
set_option maxRecDepth 100000
set_option maxHeartbeats 1000000
section
variable {tk : List UInt8 → Option (Tk × List UInt8)}
theorem seg_cut (rec : List Tk → Nat → Option (List RN)) (c : Nat) (n : RN) : ∀ (pre : List Tk) (kids0 : List RN) (seg : List Tk) (d : Nat), segD rec kids0 seg d pre c = some n →
    ∃ s1 tl ks, pre = s1 ++ tl ∧ rec (seg ++ s1) c = some ks ∧ ((tl = [] ∧ n = jn 3 (kids0 ++ [jn 2 ks])) ∨ ∃ x tl', tl = x :: tl' ∧ x.1 = 124 ∧ segD rec (kids0 ++ [jn 2 ks]) [] 0 tl' (c + opn (seg ++ s1)) = some n)
  | [], kids0, seg, d, h => by
    unfold segD at h
    cases hr : rec seg c with
    | none => rw [hr] at h; cases h
    | some ks =>
      rw [hr] at h
      cases h
      exact ⟨[], [], ks, rfl, by simpa using hr, .inl ⟨rfl, rfl⟩⟩
  | x :: t, kids0, seg, d, h => by
    have step : ∀ d', segD rec kids0 (seg ++ [x]) d' t c = some n → ∃ s1 tl ks, x :: t = s1 ++ tl ∧ rec (seg ++ s1) c = some ks ∧ ((tl = [] ∧ n = jn 3 (kids0 ++ [jn 2 ks])) ∨ ∃ x tl', tl = x :: tl' ∧ x.1 = 124 ∧ segD rec (kids0 ++ [jn 2 ks]) [] 0 tl' (c + opn (seg ++ s1)) = some n) := fun d' hd => by
      obtain ⟨s1, tl, ks, e1, e2, e3⟩ := seg_cut rec c n t kids0 (seg ++ [x]) d' hd
      have ea : seg ++ x :: s1 = seg ++ [x] ++ s1 := by simp
      refine ⟨x :: s1, tl, ks, by rw [e1]; rfl, by rw [ea]; exact e2, ?_⟩
      rw [ea]; exact e3
    unfold segD at h
    split at h
    · split at h
      · cases h
      · exact step _ h
    split at h
    · exact step _ h
    split at h
    · rename_i hx
      split at h
      · cases h
      · rename_i ks hk
        exact ⟨[], x :: t, ks, rfl, by simpa using hk, .inr ⟨x, t, rfl, hx.1, by simpa using h⟩⟩
    · exact step _ h
theorem complete (ok : TkOk tk) : ∀ M,
    (∀ kids pre g kids' r r' m, brD M kids pre g = some kids' → Con tk r pre r' → Stop r' → 2 * r.length + 1 ≤ m → brC tk m kids r g = some (kids', r', g + opn pre)) ∧
    (∀ pre g n r r' m, exD M pre g = some n → Con tk r pre r' → Shut r' → 2 * r.length + 2 ≤ m → exC tk m r g = some (n, r', g + opn pre)) := by
  intro M
  induction M with
  | zero =>
    refine ⟨fun kids pre g kids' r r' m h => ?_, fun pre g n r r' m h => ?_⟩
    · unfold brD at h; cases h
    · unfold exD at h; cases h
  | succ M ih =>
    obtain ⟨iB, iE⟩ := ih
    refine ⟨fun kids pre g kids' r r' m h hC hS hm => ?_, fun pre g n r r' m h hC hS hm => ?_⟩
    · obtain ⟨m, rfl⟩ : ∃ y, m = y + 1 := ⟨m - 1, by omega⟩
      cases hC with
      | nil =>
        unfold brD at h
        cases h
        rcases hS with rfl | ⟨b, t, rfl, hb⟩
        · unfold brC; rfl
        · unfold brC; rw [if_pos hb]; rfl
      | @cons _ u _ x t hx hC =>
        have hlt := tk_lt ok hx
        have one : ∀ (kids2 : List RN), x.1 ≠ 40 → brD M kids2 t g = some kids' → brC tk m kids2 u g = some (kids', r', g + opn (x :: t)) := fun kids2 h40 hh => by
          have := iB kids2 t g kids' u r' m hh hC hS (by omega)
          rw [this]
          simp only [opn]
          rw [if_neg h40, Nat.zero_add]
        unfold brD at h
        split at h
        · rename_i h0
          obtain ⟨b, t', hb, rfl, _⟩ := tk_set ok hx h0
          have hn : ∀ c : UInt8, isMk c = true → b ≠ c := fun c hc e => by rw [e, hc] at hb; cases hb
          unfold brC
          rw [if_neg (by rintro (e | e); exact hn 124 rfl e; exact hn 41 rfl e), if_neg (by rintro (e | e | e); exact hn 42 rfl e; exact hn 43 rfl e; exact hn 63 rfl e), if_neg (hn 40 rfl), if_neg (hn 94 rfl), if_neg (hn 36 rfl), hx]
          exact one _ (by rw [h0]; decide) h
        rename_i h0
        obtain ⟨b, hb, rfl, rfl⟩ := tk_mark ok hx h0
        simp only at h0 h one
        split at h
        · rename_i h1
          obtain rfl : b = 94 := mk_val (n := 94) (by omega) h1
          unfold brC
          rw [if_neg (by decide), if_neg (by decide), if_neg (by decide), if_pos rfl]
          exact one _ (by decide) h
        rename_i h1
        split at h
        · rename_i h2
          obtain rfl : b = 36 := mk_val (n := 36) (by omega) h2
          unfold brC
          rw [if_neg (by decide), if_neg (by decide), if_neg (by decide), if_neg (by decide), if_pos rfl]
          exact one _ (by decide) h
        rename_i h2
        split at h
        · rename_i h3
          have hv : b = 42 ∨ b = 43 ∨ b = 63 := by
            rcases h3 with e | e | e
            · exact .inl (mk_val (n := 42) (by omega) e)
            · exact .inr (.inl (mk_val (n := 43) (by omega) e))
            · exact .inr (.inr (mk_val (n := 63) (by omega) e))
          unfold brC
          rw [if_neg (by rcases hv with rfl | rfl | rfl <;> decide), if_pos hv]
          cases hk : kids.getLast? with
          | none => rw [hk] at h; cases h
          | some n =>
            rw [hk] at h
            exact one _ (by rcases hv with rfl | rfl | rfl <;> decide) h
        rename_i h3
        split at h
        · rename_i h4
          obtain rfl : b = 40 := mk_val (n := 40) (by omega) h4
          cases hc : cl 1 t with
          | none => rw [hc] at h; cases h
          | some y =>
            obtain ⟨inner, u2⟩ := y
            rw [hc] at h
            simp only at h
            cases hE : exD M inner (g + 1) with
            | none => rw [hE] at h; cases h
            | some n =>
              rw [hE] at h
              simp only at h
              obtain ⟨x, hx41, rfl, hdp⟩ := cl_spec t 0 inner u2 hc
              obtain ⟨r1, c1, c2⟩ := hC.split
              cases c2 with
              | @cons _ r2 _ _ _ hx2 c2 =>
                obtain ⟨b2, _, rfl, rfl⟩ := tk_mark ok hx2 (by rw [hx41]; decide)
                obtain rfl : b2 = 41 := mk_val (n := 41) (by omega) hx41
                have l1 := c1.len ok
                simp only [List.length_cons] at l1 hm
                have e1 := iE inner (g + 1) n u _ m hE c1 (.inr ⟨r2, rfl⟩) (by omega)
                have e2 := iB _ u2 _ kids' r2 r' m h c2 hS (by omega)
                unfold brC
                rw [if_neg (by decide), if_neg (by decide), if_pos rfl, e1]
                simp only [if_true]
                rw [e2]
                simp only [opn, opn_app]
                rw [if_pos (by decide), if_neg (by decide), show g + 1 + opn inner + opn u2 = g + (1 + (opn inner + (0 + opn u2))) by omega]
        · cases h
    · obtain ⟨m, rfl⟩ : ∃ y, m = y + 1 := ⟨m - 1, by omega⟩
      unfold exD at h
      have main : ∀ (q : Nat) (pre : List Tk) (kids0 : List RN) (c : Nat) (r : List UInt8) (m : Nat), pre.length ≤ q → segD (fun seg c' => brD M [] seg c') kids0 [] 0 pre c = some n → Con tk r pre r' → 2 * r.length + 1 ≤ m →
          ∃ ks r1 g1, brC tk m [] r c = some (ks, r1, g1) ∧ exB tk m (kids0 ++ [jn 2 ks]) r1 g1 = some (n, r', c + opn pre) := by
        intro q
        induction q with
        | zero =>
          intro pre kids0 c r m hq hs hc hm
          obtain rfl : pre = [] := List.eq_nil_of_length_eq_zero (by omega)
          obtain ⟨s1, tl, ks, e1, e2, e3⟩ := seg_cut _ c n [] kids0 [] 0 hs
          have hs1 : s1 = [] ∧ tl = [] := by
            cases s1 with
            | nil => exact ⟨rfl, by simpa using e1.symm⟩
            | cons x y => cases e1
          obtain ⟨rfl, rfl⟩ := hs1
          have hb := iB [] [] c ks r r' m (by simpa using e2) hc hS.stop hm
          refine ⟨ks, r', _, hb, ?_⟩
          rcases e3 with ⟨_, rfl⟩ | ⟨x, tl', e, _⟩
          · obtain ⟨m, rfl⟩ : ∃ y, m = y + 1 := ⟨m - 1, by omega⟩
            rcases hS with rfl | ⟨t, rfl⟩
            · unfold exB; rfl
            · unfold exB; rw [if_neg (by decide)]
          · cases e
        | succ q iq =>
          intro pre kids0 c r m hq hs hc hm
          obtain ⟨s1, tl, ks, rfl, e2, e3⟩ := seg_cut _ c n pre kids0 [] 0 hs
          obtain ⟨r1, c1, c2⟩ := hc.split
          simp only [List.nil_append] at e2 e3
          rcases e3 with ⟨rfl, rfl⟩ | ⟨x, tl', rfl, hx, e4⟩
          · cases c2
            have hb := iB [] s1 c ks r r' m e2 c1 hS.stop hm
            refine ⟨ks, r', _, hb, ?_⟩
            obtain ⟨m, rfl⟩ : ∃ y, m = y + 1 := ⟨m - 1, by omega⟩
            rw [List.append_nil]
            rcases hS with rfl | ⟨t, rfl⟩
            · unfold exB; rfl
            · unfold exB; rw [if_neg (by decide)]
          · cases c2 with
            | @cons _ u _ _ _ hx2 c2 =>
              obtain ⟨b2, _, rfl, rfl⟩ := tk_mark ok hx2 (by rw [hx]; decide)
              obtain rfl : b2 = 124 := mk_val (n := 124) (by omega) hx
              have hb := iB [] s1 c ks r _ m e2 c1 (.inr ⟨124, u, rfl, .inl rfl⟩) hm
              have l1 := c1.len ok
              simp only [List.length_cons, List.length_append] at l1 hq
              refine ⟨ks, _, _, hb, ?_⟩
              obtain ⟨m, rfl⟩ : ∃ y, m = y + 1 := ⟨m - 1, by omega⟩
              obtain ⟨ks2, r2, g2, k1, k2⟩ := iq tl' (kids0 ++ [jn 2 ks]) (c + opn s1) u m (by omega) e4 c2 (by omega)
              unfold exB
              rw [if_pos rfl, k1]
              simp only
              rw [k2]
              simp only [opn, opn_app]
              rw [if_neg (by decide), show c + opn s1 + opn tl' = c + (opn s1 + (0 + opn tl')) by omega]
      obtain ⟨ks, r1, g1, k1, k2⟩ := main pre.length pre [] g r m (Nat.le_refl _) h hC (by omega)
      unfold exC
      rw [k1]
      exact k2
end
end Go.Proofs.YtpcobejkpbalcaaDoor.Rx
