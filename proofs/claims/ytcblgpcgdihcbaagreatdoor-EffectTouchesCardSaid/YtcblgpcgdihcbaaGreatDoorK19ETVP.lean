/- What a name given a time is, and which other names are left as they were. -/
import Derived.Test.YtcblgpcgdihcbaaGreatDoorK19ETVH
namespace Go.Proofs.YtcblgpcgdihcbaaGreatDoor.St
open Go Go.AM Go.ChangeShapes Go.ChangeAt Go.RowKit
set_option linter.unusedVariables false
set_option linter.unusedSimpArgs false
set_option maxRecDepth 100000
theorem put_fail {m : Mp} {f : Fl} (h : (Tr.putS m f).1 ≠ 0) : (Tr.putS m f).2 = m := by
  have : Tr.mayS m f ≠ 0 := h
  unfold Tr.putS
  rw [if_neg this]
theorem put_done {m : Mp} {f : Fl} (h : (Tr.putS m f).1 = 0) : (Tr.putS m f).2 = mput f.f_Name f m := by
  have : Tr.mayS m f = 0 := h
  unfold Tr.putS
  rw [if_pos this]
def keyS (s : Tx) : Tx := if (memS s).2.2 then (memS s).1 else s
end Go.Proofs.YtcblgpcgdihcbaaGreatDoor.St
