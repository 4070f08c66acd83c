/- The law ArMakes, without any program in sight. -/
import Derived.Test.YtgphmfcbhmmpiaaGreatDoorK14ARVG
namespace Go.Proofs.YtgphmfcbhmmpiaaGreatDoor
open Go Go.AM Go.ChangeShapes Go.ChangeAt Go.RowKit
set_option linter.unusedVariables false
set_option linter.unusedSimpArgs false
set_option maxRecDepth 100000
theorem sizes_loop (k : Nat) (l : List Mb) (v5 : Tx × Nat) (v7 : Tx × Int) (hl : SmL l) : ∀ (r : List Mb) (fuel i : Nat), l.drop i = r → r.length < fuel → millwrightlaw03_ArMakes.l29 k l v5 v7 fuel (i : Int) = some (.inl ())
  | _, 0, _, _, h => by omega
  | [], f + 1, i, hd, _ => by
    have := at_nil hd
    unfold millwrightlaw03_ArMakes.l29
    rw [if_neg (by simp; omega)]
  | m :: r, f + 1, i, hd, hf => by
    obtain ⟨g1, g2, g3⟩ := at_drop hd
    have h1 := hl.1
    have hm := hl.2 m (List.mem_of_mem_drop (by rw [hd]; simp))
    have h2 := hm.2.1
    unfold millwrightlaw03_ArMakes.l29
    rw [if_pos (by simp; omega), g1, Option.bind_some, eta, size_eq k m hm, Option.bind_some, if_pos (by decide), tmod2, w64 (n := 60 + (m.f_Content.length : Int)) (by omega) (by omega), w64 (by omega) (by omega), if_neg (by unfold sizeS; simp), wr1 (by omega), sizes_loop k l v5 v7 hl r f (i + 1) g2 (by simpa using hf)]
theorem same_loop (k : Nat) (l : List Mb) (e : Nat) (hl : SmL l) : ∀ (r : List Mb) (fuel i : Nat), l.drop i = r → r.length < fuel → millwrightlaw03_ArMakes.l12 k l (l, e) fuel (i : Int) = some (.inl ())
  | _, 0, _, _, h => by omega
  | [], f + 1, i, hd, _ => by
    have := at_nil hd
    unfold millwrightlaw03_ArMakes.l12
    rw [if_neg (by simp; omega)]
  | m :: r, f + 1, i, hd, hf => by
    obtain ⟨g1, g2, g3⟩ := at_drop hd
    have h1 := hl.1
    have e3 : l[0 + (i : Int).toNat]? = some m := by
      rw [idx_at rfl g3] at g1
      rw [Nat.zero_add, Int.toNat_natCast, List.getElem?_eq_getElem g3]; exact g1
    unfold millwrightlaw03_ArMakes.l12
    rw [if_pos (by simp; omega), g1, Option.bind_some]
    simp only
    rw [if_pos ⟨by omega, by omega⟩, e3, Option.bind_some, if_neg (by simp), wr1 (by omega), same_loop k l e hl r f (i + 1) g2 (by simpa using hf)]
theorem arMakes_true (a0 : List Mb) (hw : Wf Un (.list (.named 3)) a0) : ∃ k, millwrightlaw03_ArMakes.f k a0 = some true := by
  refine ⟨4000, ?_⟩
  have ali : millwrightlaw03_alive.f 4000 = some true := by decide +kernel
  unfold millwrightlaw03_ArMakes.f
  rw [ali, Option.bind_some, if_neg (by decide)]
  obtain ⟨b, e1, e2⟩ := long_eq 4000 (by omega) a0 30 (by omega)
  have e1 : millwrightlaw03_long.f 4000 a0 30 = some b := e1
  rw [e1, Option.bind_some]
  cases b with
  | true => rfl
  | false =>
    have hsm := short_sm (by omega) (e2 rfl) hw
    have h1 := hsm.1
    obtain ⟨q1, q2⟩ := make_err a0
    rw [if_neg (by decide), make_code 4000 (by omega) a0 hsm, Option.bind_some, of_eq 4000 (by omega) a0 hsm, Option.bind_some, make_ref 4000 (by omega) a0 hsm, Option.bind_some, num_e q1, Option.bind_some]
    simp only
    unfold millwrightlaw03_ArMakes.j42
    rw [if_neg (by simp), if_neg (by simp)]
    unfold millwrightlaw03_ArMakes.j39
    rw [show (0 : Int) = ((0 : Nat) : Int) from rfl, sizes_loop 4000 a0 _ _ hsm a0 4000 0 rfl (by omega), Option.bind_some]
    simp only
    unfold millwrightlaw03_ArMakes.j27
    by_cases h0 : (makeS a0).2 = 0
    · have hm : makeS a0 = ((makeS a0).1, 0) := by rw [← h0]
      simp only
      rw [if_neg (by rw [h0]; decide), parse_yes 4000 (by omega) hm, Option.bind_some]
      unfold millwrightlaw03_ArMakes.j25 millwrightlaw03_ArMakes.j22 millwrightlaw03_ArMakes.j10
      simp only
      rw [if_neg (by decide), if_neg (by simp), show (0 : Int) = ((0 : Nat) : Int) from rfl, same_loop 4000 a0 0 hsm a0 4000 0 rfl (by omega)]; rfl
    · rw [if_pos (by simpa using h0)]
end Go.Proofs.YtgphmfcbhmmpiaaGreatDoor
