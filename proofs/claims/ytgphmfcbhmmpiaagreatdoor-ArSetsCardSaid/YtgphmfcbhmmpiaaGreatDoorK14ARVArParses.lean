/- The law ArParses, without any program in sight. -/
import Derived.Test.YtgphmfcbhmmpiaaGreatDoorK14ARVG
namespace Go.Proofs.YtgphmfcbhmmpiaaGreatDoor
open Go Go.AM Go.ChangeShapes Go.ChangeAt Go.RowKit
set_option linter.unusedVariables false
set_option linter.unusedSimpArgs false
set_option maxRecDepth 100000
theorem find_uniq {m : Mb} : ∀ {l : List Mb}, (l.map (·.f_Name)).Nodup → m ∈ l → l.find? (fun x => x.f_Name == m.f_Name) = some m
  | x :: r, hn, hm => by
    rw [List.map_cons, List.nodup_cons] at hn
    rw [List.find?_cons]
    rcases List.mem_cons.1 hm with rfl | hm
    · simp
    · have hne : (x.f_Name == m.f_Name) = false := by
        rw [beq_eq_false_iff_ne]
        intro e
        exact hn.1 (e ▸ List.mem_map.2 ⟨m, hm, rfl⟩)
      rw [hne]
      exact find_uniq hn.2 hm
theorem findM_mem {l : List Mb} {m : Mb} (hn : (l.map (·.f_Name)).Nodup) (hm : m ∈ l) : findM l m.f_Name = (m, true) := by
  unfold findM; rw [find_uniq hn hm]
theorem findM_any (l : List Mb) (x : Tx) : (findM l x).2 = l.any (fun m => m.f_Name == x) := by
  unfold findM
  induction l with
  | nil => rfl
  | cons m r ih =>
    rw [List.find?_cons, List.any_cons]
    cases h : m.f_Name == x with
    | true => rfl
    | false => rw [Bool.false_or]; exact ih
theorem parses_loop (k : Nat) (s x : Tx) (l : List Mb) (e : Nat) (b : Bool) (hl : l.length ≤ 1000) (hn : (l.map (·.f_Name)).Nodup) : ∀ (r : List Mb) (fuel i : Nat) (v : Bool), l.drop i = r → r.length < fuel →
    millwrightlaw03_ArParses.l20 k s x (l, e) (l, b) (findM l x) fuel v (i : Int) = some (.inl (v || r.any (fun m => m.f_Name == x)))
  | _, 0, _, _, _, h => by omega
  | [], f + 1, i, v, hd, _ => by
    have := at_nil hd
    unfold millwrightlaw03_ArParses.l20
    simp only
    rw [if_neg (by simp; omega)]; simp
  | m :: r, f + 1, i, v, hd, hf => by
    obtain ⟨g1, g2, g3⟩ := at_drop hd
    have hm : m ∈ l := List.mem_of_mem_drop (by rw [hd]; simp)
    have e3 : l[0 + (i : Int).toNat]? = some m := by
      rw [idx_at rfl g3] at g1
      rw [Nat.zero_add, Int.toNat_natCast, List.getElem?_eq_getElem g3]; exact g1
    unfold millwrightlaw03_ArParses.l20 millwrightlaw03_ArParses.j26
    simp only
    rw [if_pos (by simp; omega), if_pos ⟨by omega, by omega⟩, e3, Option.bind_some, g1, Option.bind_some, if_neg (by simp), wr1 (by omega)]
    rw [parses_loop k s x l e b hl hn r f (i + 1) true g2 (by simpa using hf), parses_loop k s x l e b hl hn r f (i + 1) v g2 (by simpa using hf), List.any_cons]
    by_cases h : m.f_Name = x
    · subst h
      rw [if_pos (by simp), findM_mem hn hm, if_neg (by simp)]; simp
    · have hb : (m.f_Name == x) = false := by simpa using h
      rw [if_neg (by simp [h]), hb]; simp
theorem arParses_true (a0 a1 : Tx) (_ : Wf Un .str a0) (_ : Wf Un .str a1) : ∃ k, millwrightlaw03_ArParses.f k a0 a1 = some true := by
  refine ⟨4000, ?_⟩
  have ali : millwrightlaw03_alive.f 4000 = some true := by decide +kernel
  unfold millwrightlaw03_ArParses.f millwrightlaw03_ArParses.j43
  rw [ali, Option.bind_some, if_neg (by decide)]
  by_cases h1 : a0.length > 1200
  · rw [if_pos (by simp; omega)]; rfl
  · rw [if_neg (by simp; omega)]
    by_cases h2 : a1.length > 100
    · rw [if_pos (by simp; omega)]
    · rw [if_neg (by simp; omega)]
      unfold millwrightlaw03_ArParses.j40
      by_cases h : ∃ l, makeS l = (a0, 0)
      · obtain ⟨l, hl⟩ := h
        obtain ⟨_, _, _, hn, _⟩ := make_ok hl
        have hsm := (make_sm hl).1
        have hlen := hsm.1
        rw [parse_yes 4000 (by omega) hl, Option.bind_some, refparse_yes 4000 (by omega) hl, Option.bind_some, find_yes 4000 (by omega) hl, Option.bind_some, is_yes 4000 (by omega) hl, Option.bind_some]
        unfold millwrightlaw03_ArParses.j38 millwrightlaw03_ArParses.j35
        simp only
        rw [if_neg (by decide), if_neg (by decide), if_neg (by decide), if_neg (by simp), show (0 : Int) = ((0 : Nat) : Int) from rfl, parses_loop 4000 a0 a1 l 0 true (by omega) hn l 4000 0 false rfl (by omega), Option.bind_some]
        unfold millwrightlaw03_ArParses.j17
        simp only
        rw [make_code 4000 (by omega) l hsm, Option.bind_some, hl]
        simp only
        rw [if_pos (by rfl), if_pos (by simp), findM_any]; simp
      · obtain ⟨w, hw⟩ := refparse_no 4000 (by omega) (s := a0) (by omega) h
        rw [parse_no 4000 (by omega) (by omega) h, Option.bind_some, hw, Option.bind_some, find_no 4000 (by omega) (by omega) h, Option.bind_some, is_no 4000 (by omega) (by omega) h, Option.bind_some]
        simp only
        rw [if_neg (by decide), if_pos (by decide), if_pos (by decide), if_pos (by decide), if_pos (by decide), num_e (by omega)]; rfl
end Go.Proofs.YtgphmfcbhmmpiaaGreatDoor
