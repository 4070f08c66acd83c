/- Archives parsed by the document. -/
import Derived.Test.YtcblgpcgdihcbaaGreatDoorK20ETVE
namespace Go.Proofs.YtcblgpcgdihcbaaGreatDoor.Ar
open Go Go.AM Go.ChangeShapes Go.ChangeAt Go.RowKit
set_option linter.unusedVariables false
set_option linter.unusedSimpArgs false
set_option maxRecDepth 100000
def stepF (r : Tx) : Option (Mb × Nat) :=
  if r.length < 60 ∨ cut r 28 48 ≠ owner ∨ cut r 58 60 ≠ mend then none
  else if (figuresS (cut r 16 28)).2 = false ∨ (figuresS (cut r 48 58)).2 = false ∨ (figuresS (cut r 48 58)).1 > (r.length : Int) - 60 then none
  else if (figuresS (cut r 48 58)).1.toNat % 2 = 1 then
    (if r[60 + (figuresS (cut r 48 58)).1.toNat]? = some 10 then some (T_ar_Member.mk (Lib.trimRightB (cut r 0 16) 32) (figuresS (cut r 16 28)).1 (cut r 60 (60 + (figuresS (cut r 48 58)).1.toNat)), 61 + (figuresS (cut r 48 58)).1.toNat) else none)
  else some (T_ar_Member.mk (Lib.trimRightB (cut r 0 16) 32) (figuresS (cut r 16 28)).1 (cut r 60 (60 + (figuresS (cut r 48 58)).1.toNat)), 60 + (figuresS (cut r 48 58)).1.toNat)
end Go.Proofs.YtcblgpcgdihcbaaGreatDoor.Ar
