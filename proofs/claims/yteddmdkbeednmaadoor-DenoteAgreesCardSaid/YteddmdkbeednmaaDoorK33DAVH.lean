/- What the code reads is what the document reads. -/
import Derived.Test.YteddmdkbeednmaaDoorK33DAVG
namespace Go.Proofs.YteddmdkbeednmaaDoor.Rx
set_option linter.unusedVariables false
set_option linter.unusedSimpArgs false
set_option maxRecDepth 100000
set_option maxHeartbeats 1000000
section
variable {tk : List UInt8 → Option (Tk × List UInt8)}
theorem Con.app {r u r' : List UInt8} {a b : List Tk} (h1 : Con tk r a u) (h2 : Con tk u b r') : Con tk r (a ++ b) r' := by
  induction h1 with
  | nil => exact h2
  | cons h _ ih => exact .cons h (ih h2)
theorem Con.split {r r' : List UInt8} : ∀ {a b : List Tk}, Con tk r (a ++ b) r' → ∃ u, Con tk r a u ∧ Con tk u b r' := by
  intro a
  induction a generalizing r with
  | nil => exact fun h => ⟨r, .nil r, h⟩
  | cons x t ih =>
    intro b h
    cases h with
    | cons h1 h2 =>
      obtain ⟨u, k1, k2⟩ := ih h2
      exact ⟨u, .cons h1 k1, k2⟩
theorem mk_of {b : UInt8} (h : isMk b = true) : b = 40 ∨ b = 41 ∨ b = 124 ∨ b = 42 ∨ b = 43 ∨ b = 63 ∨ b = 94 ∨ b = 36 := by
  simpa [isMk] using h
theorem tk_mark (ok : TkOk tk) {r u : List UInt8} {x : Tk} (h : tk r = some (x, u)) (hx : x.1 ≠ 0) : ∃ b, isMk b = true ∧ r = b :: u ∧ x = ((b.toNat : Int), z4) := by
  cases r with
  | nil => rw [ok.nil] at h; cases h
  | cons b t =>
    cases hb : isMk b with
    | false => exact absurd (ok.set b t x u hb h).1 hx
    | true =>
      rw [ok.mark b t hb] at h
      cases h
      exact ⟨b, hb, rfl, rfl⟩
theorem tk_set (ok : TkOk tk) {r u : List UInt8} {x : Tk} (h : tk r = some (x, u)) (hx : x.1 = 0) : ∃ b t, isMk b = false ∧ r = b :: t ∧ u.length ≤ t.length := by
  cases r with
  | nil => rw [ok.nil] at h; cases h
  | cons b t =>
    cases hb : isMk b with
    | false => exact ⟨b, t, hb, rfl, (ok.set b t x u hb h).2⟩
    | true =>
      rw [ok.mark b t hb] at h
      cases h
      rcases mk_of hb with rfl | rfl | rfl | rfl | rfl | rfl | rfl | rfl <;> cases hx
theorem tk_lt (ok : TkOk tk) {r u : List UInt8} {x : Tk} (h : tk r = some (x, u)) : u.length < r.length := by
  by_cases hx : x.1 = 0
  · obtain ⟨b, t, _, rfl, h2⟩ := tk_set ok h hx
    simp only [List.length_cons]; omega
  · obtain ⟨b, _, rfl, _⟩ := tk_mark ok h hx
    simp
theorem Con.len (ok : TkOk tk) {r r' : List UInt8} {a : List Tk} (h : Con tk r a r') : a.length + r'.length ≤ r.length := by
  induction h with
  | nil => simp
  | cons h _ ih =>
    have := tk_lt ok h
    simp only [List.length_cons]; omega
def Stop (r : List UInt8) : Prop := r = [] ∨ ∃ b t, r = b :: t ∧ (b = 124 ∨ b = 41)
def Shut (r : List UInt8) : Prop := r = [] ∨ ∃ t, r = 41 :: t
theorem Shut.stop {r : List UInt8} (h : Shut r) : Stop r := by
  rcases h with rfl | ⟨t, rfl⟩
  · exact .inl rfl
  · exact .inr ⟨41, t, rfl, .inr rfl⟩
def BrS (tk : List UInt8 → Option (Tk × List UInt8)) (kids : List RN) (r : List UInt8) (g : Nat) (kids' : List RN) (r' : List UInt8) (g' : Nat) : Prop :=
  ∃ pre, Con tk r pre r' ∧ nbS 0 pre = some 0 ∧ (∀ M, 2 * pre.length + 1 ≤ M → brD M kids pre g = some kids') ∧ g' = g + opn pre ∧ Stop r'
def ExS (tk : List UInt8 → Option (Tk × List UInt8)) (r : List UInt8) (g : Nat) (n : RN) (r' : List UInt8) (g' : Nat) : Prop :=
  ∃ pre, Con tk r pre r' ∧ dp 0 pre = some 0 ∧ (∀ M, 2 * pre.length + 2 ≤ M → exD M pre g = some n) ∧ g' = g + opn pre ∧ Shut r'
def ExBS (tk : List UInt8 → Option (Tk × List UInt8)) (kids : List RN) (r : List UInt8) (g : Nat) (n : RN) (r' : List UInt8) (g' : Nat) : Prop :=
  Stop r → ∃ pre, Con tk r pre r' ∧ dp 0 pre = some 0 ∧ g' = g + opn pre ∧ Shut r' ∧
    ∀ (M : Nat) (kids0 : List RN) (seg : List Tk) (ks : List RN) (c : Nat), 2 * pre.length + 1 ≤ M → kids = kids0 ++ [jn 2 ks] → g = c + opn seg → brD M [] seg c = some ks → segD (fun s c' => brD M [] s c') kids0 seg 0 pre c = some n
theorem br_one {kids kids2 kids' : List RN} {r u r' : List UInt8} {x : Tk} {g g' : Nat} (h : tk r = some (x, u)) (hx : x.1 ≠ 41 ∧ x.1 ≠ 40 ∧ x.1 ≠ 124) (hd : ∀ (M : Nat) (t : List Tk), brD (M + 1) kids (x :: t) g = brD M kids2 t g) (hb : BrS tk kids2 u g kids' r' g') : BrS tk kids r g kids' r' g' := by
  obtain ⟨pre, h1, h2, h3, h4, h5⟩ := hb
  refine ⟨x :: pre, .cons h h1, ?_, ?_, ?_, h5⟩
  · unfold nbS
    rw [if_neg hx.1, if_neg hx.2.1, if_neg (fun e => hx.2.2 e.1)]; exact h2
  · intro M hM
    simp only [List.length_cons] at hM
    obtain ⟨M, rfl⟩ : ∃ y, M = y + 1 := ⟨M - 1, by omega⟩
    rw [hd]
    exact h3 M (by omega)
  · unfold opn
    rw [if_neg hx.2.1]; omega
theorem sound (ok : TkOk tk) : ∀ m,
    (∀ kids r g kids' r' g', brC tk m kids r g = some (kids', r', g') → BrS tk kids r g kids' r' g') ∧
    (∀ r g n r' g', exC tk m r g = some (n, r', g') → ExS tk r g n r' g') ∧
    (∀ kids r g n r' g', exB tk m kids r g = some (n, r', g') → ExBS tk kids r g n r' g') := by
  intro m
  induction m with
  | zero =>
    refine ⟨fun kids r g kids' r' g' h => ?_, fun r g n r' g' h => ?_, fun kids r g n r' g' h => ?_⟩
    · unfold brC at h; cases h
    · unfold exC at h; cases h
    · unfold exB at h; cases h
  | succ m ih =>
    obtain ⟨iB, iE, iX⟩ := ih
    have noB : ∀ (kids : List RN) (r : List UInt8) (g : Nat), Stop r → BrS tk kids r g kids r g := fun kids r g hs =>
      ⟨[], .nil r, rfl, fun M hM => by obtain ⟨M, rfl⟩ : ∃ y, M = y + 1 := ⟨M - 1, by omega⟩; rfl, rfl, hs⟩
    refine ⟨fun kids r g kids' r' g' h => ?_, fun r g n r' g' h => ?_, fun kids r g n r' g' h => ?_⟩
    · cases r with
      | nil => unfold brC at h; cases h; exact noB _ _ _ (.inl rfl)
      | cons b t =>
        unfold brC at h
        split at h
        · rename_i h1
          cases h
          exact noB _ _ _ (.inr ⟨b, t, rfl, h1⟩)
        rename_i h1
        split at h
        · rename_i h2
          cases hk : kids.getLast? with
          | none => rw [hk] at h; cases h
          | some n =>
            rw [hk] at h
            have hm : isMk b = true := by rcases h2 with rfl | rfl | rfl <;> rfl
            refine br_one (ok.mark b t hm) (by rcases h2 with rfl | rfl | rfl <;> decide) (fun M t => ?_) (iB _ _ _ _ _ _ h)
            have hv : ((b.toNat : Int) ≠ 0 ∧ (b.toNat : Int) ≠ 94 ∧ (b.toNat : Int) ≠ 36) ∧ ((b.toNat : Int) = 42 ∨ (b.toNat : Int) = 43 ∨ (b.toNat : Int) = 63) := by rcases h2 with rfl | rfl | rfl <;> decide
            conv => lhs; unfold brD
            rw [if_neg hv.1.1, if_neg hv.1.2.1, if_neg hv.1.2.2, if_pos hv.2, hk]
        rename_i h2
        split at h
        · rename_i h3
          subst h3
          split at h
          · rename_i n c u g1 hE
            split at h
            · rename_i hc
              subst hc
              obtain ⟨p1, a1, a2, a3, a4, a5⟩ := iE _ _ _ _ _ hE
              obtain ⟨p2, b1, b2, b3, b4, b5⟩ := iB _ _ _ _ _ _ h
              refine ⟨((40 : Int), z4) :: (p1 ++ ((41 : Int), z4) :: p2), ?_, ?_, ?_, ?_, b5⟩
              · exact .cons (ok.mark 40 t rfl) (a1.app (.cons (ok.mark 41 u rfl) b1))
              · unfold nbS
                rw [if_neg (by decide), if_pos rfl, nb_app, dp_nb p1 0 0 a2, Option.bind_some]
                unfold nbS
                rw [if_pos rfl, if_neg (by decide)]; exact b2
              · intro M hM
                simp only [List.length_cons, List.length_append] at hM
                obtain ⟨M, rfl⟩ : ∃ y, M = y + 1 := ⟨M - 1, by omega⟩
                unfold brD
                rw [if_neg (by decide), if_neg (by decide), if_neg (by decide), if_neg (by decide), if_pos rfl, cl_app p1 _ 0 0 a2]
                have e : cl (0 + 1) (((41 : Int), z4) :: p2) = some ([], p2) := by
                  unfold cl
                  rw [if_pos rfl, if_pos (by omega)]
                rw [e]
                simp only [Option.map_some, List.append_nil]
                rw [a3 M (by omega)]
                have := b3 M (by omega)
                rw [a4] at this
                exact this
              · rw [b4, a4]
                simp only [opn, opn_app, if_true]
                rw [if_neg (by decide)]; omega
            · cases h
          · cases h
        rename_i h3
        split at h
        · rename_i h4
          subst h4
          refine br_one (ok.mark 94 t rfl) (by decide) (fun M t => ?_) (iB _ _ _ _ _ _ h)
          conv => lhs; unfold brD
          rw [if_neg (by decide), if_pos (by decide)]
        rename_i h4
        split at h
        · rename_i h5
          subst h5
          refine br_one (ok.mark 36 t rfl) (by decide) (fun M t => ?_) (iB _ _ _ _ _ _ h)
          conv => lhs; unfold brD
          rw [if_neg (by decide), if_neg (by decide), if_pos (by decide)]
        rename_i h5
        split at h
        · rename_i x u ht
          have hm : isMk b = false := by
            cases hb : isMk b with
            | false => rfl
            | true =>
              rcases mk_of hb with rfl | rfl | rfl | rfl | rfl | rfl | rfl | rfl
              · exact absurd rfl h3
              · exact absurd (.inr rfl) h1
              · exact absurd (.inl rfl) h1
              · exact absurd (.inl rfl) h2
              · exact absurd (.inr (.inl rfl)) h2
              · exact absurd (.inr (.inr rfl)) h2
              · exact absurd rfl h4
              · exact absurd rfl h5
          have hx := (ok.set b t x u hm ht).1
          refine br_one ht (by rw [hx]; decide) (fun M t => ?_) (iB _ _ _ _ _ _ h)
          conv => lhs; unfold brD
          rw [if_pos hx]
        · cases h
    · unfold exC at h
      split at h
      · cases h
      · rename_i ks r1 g1 hB
        obtain ⟨p1, a1, a2, a3, a4, a5⟩ := iB _ _ _ _ _ _ hB
        obtain ⟨p2, b1, b2, b3, b4, b5⟩ := iX _ _ _ _ _ _ h a5
        refine ⟨p1 ++ p2, a1.app b1, ?_, ?_, ?_, b4⟩
        · rw [dp_app, nb_dp _ _ _ a2, Option.bind_some]; exact b2
        · intro M hM
          simp only [List.length_append] at hM
          obtain ⟨M, rfl⟩ : ∃ y, M = y + 1 := ⟨M - 1, by omega⟩
          unfold exD
          rw [seg_app _ _ _ p1 p2 [] 0 0 a2, List.nil_append]
          exact b5 M [] p1 ks g (by omega) rfl a4 (a3 M (by omega))
        · rw [b3, a4, opn_app]; omega
    · intro hs
      have done : ∀ (hsh : Shut r), exB tk (m + 1) kids r g = some (jn 3 kids, r, g) → (n, r', g') = (jn 3 kids, r, g) → ∃ pre, Con tk r pre r' ∧ dp 0 pre = some 0 ∧ g' = g + opn pre ∧ Shut r' ∧
          ∀ (M : Nat) (kids0 : List RN) (seg : List Tk) (ks : List RN) (c : Nat), 2 * pre.length + 1 ≤ M → kids = kids0 ++ [jn 2 ks] → g = c + opn seg → brD M [] seg c = some ks → segD (fun s c' => brD M [] s c') kids0 seg 0 pre c = some n := fun hsh _ e => by
        cases e
        refine ⟨[], .nil r, rfl, rfl, hsh, fun M kids0 seg ks c _ h1 h2 h3 => ?_⟩
        unfold segD
        rw [h3, h1]; rfl
      rcases hs with rfl | ⟨b, t, rfl, hb⟩
      · have e : exB tk (m + 1) kids [] g = some (jn 3 kids, [], g) := by unfold exB; rfl
        exact done (.inl rfl) e (by rw [e] at h; cases h; rfl)
      · by_cases h1 : b = 124
        · subst h1
          unfold exB at h
          rw [if_pos rfl] at h
          split at h
          · cases h
          · rename_i ks1 r1 g1 hB
            obtain ⟨p1, a1, a2, a3, a4, a5⟩ := iB _ _ _ _ _ _ hB
            obtain ⟨p2, b1, b2, b3, b4, b5⟩ := iX _ _ _ _ _ _ h a5
            refine ⟨((124 : Int), z4) :: (p1 ++ p2), .cons (ok.mark 124 t rfl) (a1.app b1), ?_, ?_, b4, ?_⟩
            · unfold dp
              rw [if_neg (by decide), if_neg (by decide), dp_app, nb_dp _ _ _ a2, Option.bind_some]; exact b2
            · rw [b3, a4]
              simp only [opn, opn_app]
              rw [if_neg (by decide)]; omega
            · intro M kids0 seg ks c hM h1 h2 h3
              simp only [List.length_cons, List.length_append] at hM
              unfold segD
              rw [if_neg (by decide), if_neg (by decide), if_pos ⟨rfl, rfl⟩]
              simp only [h3]
              rw [seg_app _ _ _ p1 p2 [] 0 0 a2, List.nil_append, ← h1, ← h2]
              exact b5 M kids p1 ks1 g (by omega) rfl a4 (a3 M (by omega))
        · have h41 : b = 41 := by rcases hb with h' | h'; exact absurd h' h1; exact h'
          subst h41
          have e : exB tk (m + 1) kids (41 :: t) g = some (jn 3 kids, 41 :: t, g) := by unfold exB; rw [if_neg (by decide)]
          exact done (.inr ⟨t, rfl⟩) e (by rw [e] at h; cases h; rfl)
end
end Go.Proofs.YteddmdkbeednmaaDoor.Rx
