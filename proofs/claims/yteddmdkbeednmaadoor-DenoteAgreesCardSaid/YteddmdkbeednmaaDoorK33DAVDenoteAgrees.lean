/- The law: a text is in the language just if the program matches it. -/
import Derived.Test.YteddmdkbeednmaaDoorK33DAXB
import Derived.Test.YteddmdkbeednmaaDoorK33DAXY
namespace Go.Proofs.YteddmdkbeednmaaDoor
open Go Go.AM
set_option linter.unusedVariables false
set_option linter.unusedSimpArgs false
set_option maxRecDepth 100000
namespace Dn
mutual
theorem sets_same : ∀ (n : RN), Rx.setsN n → setsN n
  | .mk a b c ks, h => by
    rw [Rx.setsN] at h
    rw [setsN]
    exact ⟨h.1, setsL_same ks h.2⟩
theorem setsL_same : ∀ (l : List RN), Rx.setsNs l → setsL l
  | [], _ => by rw [setsL]; trivial
  | x :: xs, h => by
    rw [Rx.setsNs] at h
    rw [setsL]
    exact ⟨sets_same x h.1, setsL_same xs h.2⟩
end
theorem agree {n : RN} {s : List UInt8} (h1 : rightN n = true) (h2 : nsz n ≤ 120) (h3 : lenN n ≤ 120) (h4 : Rx.setsN n) (hs : s.length ≤ 60) :
    ∃ κ b, pike_Match.f 20000 (progN n) s = some (κ, b) ∧ denote_In.f 20000 n s = some b := by
  have hl : (progN n).length = lenN n + 3 := by simp [progN, len_code n 1 h1]
  obtain ⟨r, M1, BB, hD, hm, _⟩ := Pk.match_D (p := progN n) (s := s) (by omega) hs (Rx.prog_sets h4)
  refine ⟨_, _, hm, ?_⟩
  have gn : Dn.Good n := ⟨h2, h1, sets_same n h4⟩
  obtain ⟨Y, e1, l1, m1⟩ := ends_in (K := 20000) gn hs (by omega) (by omega) (i := 0) (by omega)
  have hY : (trues 0 Y).length ≤ 900 := by have := trues_len 0 Y; omega
  have e1' : denote_Ends.f 20000 n s 0 = some (trues 0 Y) := e1
  unfold denote_In.f
  rw [rn_eta, spans_f e1' hY (by omega)]
  simp only [Option.bind_some, Option.some.injEq]
  rw [Bool.eq_iff_iff, decide_eq_true_iff, Pk.D_hit hD, way_prog h1, mem_trues, ← m1]
  constructor
  · rintro ⟨j, a, b⟩
    have : j = s.length := by omega
    subst this; exact a
  · exact fun h => ⟨_, h, by simp⟩
end Dn
theorem denoteAgrees_true (a0 a1 : List UInt8) (_ : Wf Un .str a0) (_ : Wf Un .str a1) : ∃ k, millwrightlaw10_DenoteAgrees.f k a0 a1 = some true := by
  refine ⟨20000, ?_⟩
  unfold millwrightlaw10_DenoteAgrees.f
  rw [Dn.alive10, Option.bind_some, if_neg (by decide)]
  unfold millwrightlaw10_DenoteAgrees.j14
  by_cases h1 : (a0.length : Int) > 100
  · rw [if_pos (by simpa using h1)]; rfl
  rw [if_neg (by simpa using h1)]
  by_cases h3 : (a1.length : Int) > 60
  · rw [if_pos (by simpa using h3)]
  rw [if_neg (by simpa using h3)]
  have hp := Rx.parse_eq 20000 (by omega) a0
  unfold millwrightlaw10_DenoteAgrees.j11 prog_Of.f
  rw [hp]
  simp only [Option.bind_some]
  have h2 : (Rx.parseC a0).2 = 0 ∨ ((Rx.parseC a0).2 = 2 ∨ (Rx.parseC a0).2 = 6 ∨ (Rx.parseC a0).2 = 10) := by
    unfold Rx.parseC
    split
    · exact .inr (.inl rfl)
    · split
      · split
        · exact .inr (.inr (.inr rfl))
        · exact .inl rfl
      · exact .inr (.inr (.inl rfl))
  rcases h2 with h0 | h0
  · obtain ⟨n, hn⟩ : ∃ n, Rx.parseC a0 = (n, 0) := ⟨(Rx.parseC a0).1, by rw [← h0]⟩
    rw [hn]
    obtain ⟨g1, g2, g3⟩ := Rx.parse_good hn
    obtain ⟨κ, b, e1, e2⟩ := Dn.agree g1 g2 g3 (Rx.parse_sets hn) (s := a1) (by omega)
    simp only [beq_self_eq_true, Bool.not_true, Bool.false_eq_true, if_false, rn_eta]
    rw [compile_f n g2, if_pos g1, if_neg (by omega)]
    simp only [Option.bind_some, beq_self_eq_true, Bool.not_true, Bool.false_eq_true, if_false]
    rw [e1, e2]
    simp
  · rcases h0 with e | e | e <;> rw [e] <;> rfl
end Go.Proofs.YteddmdkbeednmaaDoor
