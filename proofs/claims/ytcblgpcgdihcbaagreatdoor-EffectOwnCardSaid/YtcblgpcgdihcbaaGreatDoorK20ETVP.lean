/- What a name given a time is, and which other names are left as they were. -/
import Derived.Test.YtcblgpcgdihcbaaGreatDoorK20ETVH
namespace Go.Proofs.YtcblgpcgdihcbaaGreatDoor.St
open Go Go.AM Go.ChangeShapes Go.ChangeAt Go.RowKit
set_option linter.unusedVariables false
set_option linter.unusedSimpArgs false
set_option maxRecDepth 100000
theorem put_fail {m : Mp} {f : Fl} (h : (Tr.putS m f).1 ≠ 0) : (Tr.putS m f).2 = m := by
  have : Tr.mayS m f ≠ 0 := h
  unfold Tr.putS
  rw [if_neg this]
theorem put_done {m : Mp} {f : Fl} (h : (Tr.putS m f).1 = 0) : (Tr.putS m f).2 = mput f.f_Name f m := by
  have : Tr.mayS m f = 0 := h
  unfold Tr.putS
  rw [if_pos this]
def keyS (s : Tx) : Tx := if (memS s).2.2 then (memS s).1 else s
theorem set_get {m : Mp} {n : Tx} {t : Int} {o : Tx} (hne : o ≠ keyS n) : mget o (setS m n t).2 = mget o m := by
  rcases setS_cases m n t with ⟨f, e, _, hn⟩ | ⟨e, _⟩
  · rw [e]
    by_cases h0 : (Tr.putS m f).1 = 0
    · rw [put_done h0, mget_put_ne _ (by rw [hn]; exact hne)]
    · rw [put_fail h0]
  · rw [e]
end Go.Proofs.YtcblgpcgdihcbaaGreatDoor.St
