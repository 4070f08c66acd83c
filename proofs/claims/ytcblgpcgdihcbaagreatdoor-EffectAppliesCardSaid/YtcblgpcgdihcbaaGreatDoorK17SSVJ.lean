/- What every law of layers 4 and 5 wants: errors' numbers, and that an archive's errors have numbers. -/
import Derived.Test.YtcblgpcgdihcbaaGreatDoorK17SSVI
namespace Go.Proofs.YtcblgpcgdihcbaaGreatDoor.St
open Go Go.AM Go.ChangeShapes Go.ChangeAt Go.RowKit
set_option linter.unusedVariables false
set_option linter.unusedSimpArgs false
set_option maxRecDepth 100000
theorem num_fin : ∀ e : Fin 19, millwrightnum_Num.f 4000 e.val = some (e.val : Int) := by decide +kernel
theorem num_e {e : Nat} (h : e ≤ 18) : millwrightnum_Num.f 4000 e = some (e : Int) := num_fin ⟨e, by omega⟩
theorem setC_err (s : Tx) (hs : s.length ≤ 1800) {m : Mb} (hm : Ar.Sm m) : (setC s m).2 ≤ 18 := by
  by_cases h : ∃ l, Ar.makeS l = (s, 0)
  · obtain ⟨l, h⟩ := h
    rw [setC_yes h hm]; exact (Ar.make_err _).1
  · by_cases h0 : s = []
    · subst h0; rw [setC_nil hm]; exact (Ar.make_err _).1
    · rw [setC_no hs h h0]; decide
theorem setS_err (m : Mp) (hb : Bound m) (n : Tx) (hn : n.length ≤ 1000) (t : Int) : (setS m n t).1 ≤ 18 := by
  unfold setS
  split
  · unfold setMS
    split
    · exact (by decide : 1 ≤ 18)
    · split
      · exact Tr.mayS_le _ _
      · have := content_len hb (memS n).1
        exact setC_err _ (by omega) (mb_sm hb (mem_len n hn).2 (by omega) (by omega))
  · exact Tr.mayS_le _ _
end Go.Proofs.YtcblgpcgdihcbaaGreatDoor.St
