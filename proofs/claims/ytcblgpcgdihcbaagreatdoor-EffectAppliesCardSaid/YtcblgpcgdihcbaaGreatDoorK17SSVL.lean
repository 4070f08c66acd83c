/- What effects do to a tree: as the document has it. -/
import Derived.Test.YtcblgpcgdihcbaaGreatDoorK17SSVK
import Derived.Test.YtcblgpcgdihcbaaGreatDoorK17SSVJ
namespace Go.Proofs.YtcblgpcgdihcbaaGreatDoor.St
open Go Go.AM Go.ChangeShapes Go.ChangeAt Go.RowKit
set_option linter.unusedVariables false
set_option linter.unusedSimpArgs false
set_option maxRecDepth 100000
theorem rchk_eq (k : Nat) (hk : 4000 ≤ k) (e : Ef) (hn : e.f_Name.length ≤ 1000) : millwrightref05_Check.f k e = some (chkS e : Int) := by
  have tail : millwrightref05_Check.j6 k e = some ((if e.f_Op ≠ 1 ∧ e.f_Text ≠ [] then 3 else 0 : Nat) : Int) := by
    unfold millwrightref05_Check.j6 millwrightref05_Check.j4 millwrightref05_Check.j1
    by_cases h1 : e.f_Op = 1
    · simp [h1]
    · by_cases h2 : e.f_Text = []
      · simp [h1, h2]
      · have := List.length_pos_iff.2 h2
        simp [h1, h2]
  have mid : e.f_Op = 1 ∨ e.f_Op = 2 ∨ e.f_Op = 3 → millwrightref05_Check.j15 k e false = some (chkS e : Int) := fun hop => by
    unfold millwrightref05_Check.j15 millwrightref05_Check.j12 millwrightref05_Check.j10 chkS
    rw [if_neg (by decide), rmem_eq k _ hn (by omega), Option.bind_some]
    cases hm : (memS e.f_Name).2.2 with
    | true =>
      rw [if_pos rfl]
      by_cases h3 : e.f_Op = 2
      · rw [if_neg (by simp [h3]), tail, if_neg (show ¬ (e.f_Op < 1 ∨ e.f_Op > 3 ∨ (true = true ∧ e.f_Op ≠ 2)) from fun h => by rcases h with h | h | h; omega; omega; exact h.2 h3)]
      · rw [if_pos (by simpa using h3), if_pos (.inr (.inr ⟨rfl, h3⟩))]; rfl
    | false =>
      rw [if_neg (by decide), if_neg (by decide), tail, if_neg (show ¬ (e.f_Op < 1 ∨ e.f_Op > 3 ∨ (false = true ∧ e.f_Op ≠ 2)) from fun h => by rcases h with h | h | h; omega; omega; exact Bool.noConfusion h.1)]
  unfold millwrightref05_Check.f
  by_cases h1 : e.f_Op = 1
  · rw [if_neg (by simp [h1]), mid (.inl h1)]
  · rw [if_pos (by simpa using h1)]
    by_cases h2 : e.f_Op = 2
    · rw [if_neg (by simp [h2]), mid (.inr (.inl h2))]
    · rw [if_pos (by simpa using h2)]
      by_cases h3 : e.f_Op = 3
      · rw [show (e.f_Op != 3) = false by simp [h3], mid (.inr (.inr h3))]
      · rw [show (e.f_Op != 3) = true by simpa using h3]
        unfold millwrightref05_Check.j15 chkS
        rw [if_pos rfl, if_pos (by omega)]; rfl
theorem good_do {m : Mp} (h : Tr.Good m) (t : Int) (e : Ef) : Tr.Good (doS m t e).2 := by
  unfold doS
  split
  · exact h
  · split
    · exact h.put _
    · split
      · exact good_set h _ _
      · exact Tr.Good.rem h _
theorem do_err (m : Mp) (hb : Bound m) (t : Int) (e : Ef) (hn : e.f_Name.length ≤ 1000) : (doS m t e).1 ≤ 18 := by
  unfold doS
  split
  · exact chk_le e
  · split
    · exact Tr.mayS_le _ _
    · split
      · exact setS_err m hb _ hn t
      · unfold Tr.remS; split <;> simp
theorem rdo_eq (k : Nat) (hk : 4000 ≤ k) (m : Mp) (hg : Tr.Good m) (hb : Bound m) (hm : m.length ≤ 1000) (t : Int) (e : Ef) (hn : e.f_Name.length ≤ 1000) : millwrightref05_Do_m0.f k (Tr.vals m) t e = some (((doS m t e).1 : Int), Tr.vals (doS m t e).2) := by
  unfold millwrightref05_Do_m0.f doS
  rw [ef_eta, rchk_eq k hk e hn, Option.bind_some]
  by_cases h0 : chkS e = 0
  · rw [if_neg (show ¬ (((chkS e : Nat) : Int) != 0) = true by simp [h0]), if_neg (show ¬ (chkS e ≠ 0) by simp [h0])]
    by_cases h1 : e.f_Op = 1
    · rw [if_pos (by simpa using h1), if_pos h1, Tr.rput_eq k m _ (by omega) hm hn hg.rising hg.keyed]; rfl
    · rw [if_neg (by simpa using h1), if_neg h1]
      by_cases h2 : e.f_Op = 2
      · rw [if_pos (by simpa using h2), if_pos h2, rset_eq k hk m hg hb hm _ hn t]; rfl
      · rw [if_neg (by simpa using h2), if_neg h2, Tr.rrem_eq k m _ (by omega) hm hg]; rfl
  · rw [if_pos (by simp; omega), if_pos h0]
def outR (x : Nat × Nat × Mp) : Sum (List Fl) (Int × Int × List Fl) := if x.2.1 = 0 then .inl (Tr.vals x.2.2) else .inr ((x.1 : Int), (x.2.1 : Int), Tr.vals x.2.2)
theorem rapp_loop (k : Nat) (hk : 4000 ≤ k) (t : Int) (l : List Ef) (hl : l.length ≤ 100) (hn : ∀ e ∈ l, e.f_Name.length ≤ 1000) : ∀ (r : List Ef) (fuel i : Nat) (m : Mp), l.drop i = r → r.length < fuel → Tr.Good m → Bound m → m.length ≤ 100 + i →
    millwrightref05_Apply_m0.l5 k t l fuel (Tr.vals m) (i : Int) = some (outR (appS t r i m))
  | _, 0, _, _, _, h, _, _, _ => by omega
  | [], f + 1, i, m, hd, _, _, _, _ => by
    have := Tr.at_nil hd
    unfold millwrightref05_Apply_m0.l5
    rw [if_neg (by simp; omega)]; rfl
  | e :: r, f + 1, i, m, hd, hf, hg, hb, hm => by
    obtain ⟨g1, g2, g3⟩ := Tr.at_drop hd
    have he : e ∈ l := List.mem_of_mem_drop (hd ▸ List.mem_cons_self)
    unfold millwrightref05_Apply_m0.l5 appS
    rw [if_pos (by simp; exact g3), g1, Option.bind_some, ef_eta, rdo_eq k hk m hg hb (by omega) t e (hn e he), Option.bind_some]
    by_cases h0 : (doS m t e).1 = 0
    · rw [if_neg (by simp [h0]), if_pos h0, Tr.wr1 (by omega), rapp_loop k hk t l hl hn r f (i + 1) _ g2 (by simpa using hf) (good_do hg t e) (hb.doS t e) (by have := doS_len m t e; omega)]
    · rw [if_pos (by simp; omega), if_neg h0]
      unfold outR; rw [if_neg h0]
theorem rapp_eq (k : Nat) (hk : 4000 ≤ k) (t : Int) (l : List Ef) (hl : l.length ≤ 100) (hn : ∀ e ∈ l, e.f_Name.length ≤ 1000) (m : Mp) (hg : Tr.Good m) (hb : Bound m) (hm : m.length ≤ 100) : millwrightref05_Apply_m0.f k (Tr.vals m) t l = some (((appS t l 0 m).1 : Int), ((appS t l 0 m).2.1 : Int), Tr.vals (appS t l 0 m).2.2) := by
  unfold millwrightref05_Apply_m0.f millwrightref05_Apply_m0.j2
  have e : millwrightref05_Apply_m0.l5 k t l k (Tr.vals m) 0 = _ := rapp_loop k hk t l hl hn l k 0 m rfl (by omega) hg hb (by omega)
  rw [e, Option.bind_some]
  unfold outR
  by_cases h0 : (appS t l 0 m).2.1 = 0
  · have := app_ok t l 0 m h0
    rw [if_pos h0]
    simp only
    rw [this, Nat.zero_add, h0]; rfl
  · rw [if_neg h0]
theorem app_good (t : Int) (hn : ∀ e : Ef, True) : ∀ (r : List Ef) (i : Nat) (m : Mp), Tr.Good m → Bound m → (∀ e ∈ r, e.f_Name.length ≤ 1000) → Tr.Good (appS t r i m).2.2 ∧ (appS t r i m).2.1 ≤ 18 ∧ (appS t r i m).2.2.length ≤ m.length + r.length
  | [], i, m, h, _, _ => ⟨h, by simp [appS], by simp [appS]⟩
  | e :: r, i, m, h, hb, hr => by
    have hl := doS_len m t e
    unfold appS
    by_cases h0 : (doS m t e).1 = 0
    · rw [if_pos h0]
      obtain ⟨a, b, c⟩ := app_good t hn r (i + 1) _ (good_do h t e) (hb.doS t e) (fun x hx => hr x (List.mem_cons_of_mem _ hx))
      exact ⟨a, b, by simp; omega⟩
    · rw [if_neg h0]
      exact ⟨good_do h t e, do_err m hb t e (hr e List.mem_cons_self), by simp; omega⟩
theorem eof_loop (k : Nat) (a : List Ef) (ha : a.length ≤ 1000) : ∀ (l : List Ef) (fuel i : Nat) (out : List Ef), a.drop i = l → l.length < fuel → out.length ≤ i → millwrightlaw05_Of.l5 k a fuel out (i : Int) = some (out ++ l)
  | _, 0, _, _, _, h, _ => by omega
  | [], f + 1, i, out, hl, _, _ => by
    have := Tr.at_nil hl
    unfold millwrightlaw05_Of.l5
    rw [if_neg (by simp; omega)]; simp
  | x :: r, f + 1, i, out, hl, hf, ho => by
    obtain ⟨g1, g2, g3⟩ := Tr.at_drop hl
    have ih := eof_loop k a ha r f (i + 1) (out ++ [x]) g2 (by simpa using hf) (by simp; omega)
    unfold millwrightlaw05_Of.l5
    rw [if_pos (by simp; exact g3), g1, Option.bind_some, Tr.wr1 (by omega), ef_eta, if_pos (Tr.lim_ok (by omega)), ih]; simp
theorem eof_eq (k : Nat) (hk : 1000 < k) (a : List Ef) (ha : a.length ≤ 1000) : millwrightlaw05_Of.f k a = some a := by
  unfold millwrightlaw05_Of.f millwrightlaw05_Of.j2
  have e0 : millwrightlaw05_Of.l5 k a k [] 0 = _ := eof_loop k a ha a k 0 [] rfl (by omega) (by simp)
  rw [e0]; rfl
end Go.Proofs.YtcblgpcgdihcbaaGreatDoor.St
