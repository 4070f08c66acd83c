/-
  DERIVED. GIVEN WITH THE SEED: THE PROGRAM's TIES (one call each: nine closed facts by the kernel) AND EACH ROW's TIE, after the 31st guide's Derived/Test/Toyas{Tie, Card}.lean. No idea stands in it: it is a product of the set-up. Laid BY PROGRAM, IN A SANDBOX (cutbox-door.mjs). By AI agents, Wed Nov 11 2026. No macro, syntax, notation, axiom, sorry.
-/
import Derived.Test.YteddmdkbeednmaaDoorRows
import Derived.LaidByTextLater
import Derived.SevenTiedAt
import Derived.LaidSub
import Derived.LaidOnce
namespace Go.Proofs.YteddmdkbeednmaaDoor
open Go
set_option maxRecDepth 100000
theorem seatTie1 : Tryd.prog.laidByTextLater [("millwright/api.ErrRange", Rows.laid_millwright_api_ErrRange), ("millwright/api.ErrLong", Rows.laid_millwright_api_ErrLong), ("millwright/api.ErrForm", Rows.laid_millwright_api_ErrForm), ("millwright/api.ErrName", Rows.laid_millwright_api_ErrName), ("millwright/api.ErrQuote", Rows.laid_millwright_api_ErrQuote), ("millwright/api.ErrRegex", Rows.laid_millwright_api_ErrRegex), ("millwright/api.ErrAttr", Rows.laid_millwright_api_ErrAttr), ("millwright/api.ErrNone", Rows.laid_millwright_api_ErrNone), ("millwright/api.ErrDup", Rows.laid_millwright_api_ErrDup), ("millwright/api.ErrFull", Rows.laid_millwright_api_ErrFull), ("millwright/api.ErrDepth", Rows.laid_millwright_api_ErrDepth), ("millwright/api.ErrCycle", Rows.laid_millwright_api_ErrCycle), ("millwright/api.ErrAmbig", Rows.laid_millwright_api_ErrAmbig), ("millwright/api.ErrState", Rows.laid_millwright_api_ErrState), ("millwright/api.ErrFail", Rows.laid_millwright_api_ErrFail), ("millwright/api.ErrFlag", Rows.laid_millwright_api_ErrFlag), ("millwright/api.ErrKind", Rows.laid_millwright_api_ErrKind), ("millwright/api.ErrLost", Rows.laid_millwright_api_ErrLost), ("millwright/rex.words", Rows.laid_millwright_rex_words)] [.sentinel, .sentinel, .sentinel, .sentinel, .sentinel, .sentinel, .sentinel, .sentinel, .sentinel, .sentinel, .sentinel, .sentinel, .sentinel, .sentinel, .sentinel, .sentinel, .sentinel, .sentinel, .data] true :=
  Program.laidByTextLater_by_one 356 8 11 (by kernel_rfl) (by kernel_rfl) (by kernel_rfl) (by kernel_rfl) (by kernel_rfl) (by kernel_rfl) (fun _ _ => by kernel_rfl)
theorem noOwnUnsafe : Tryd.pinned.checked.prog.headLifts.contains "ownunsafe" = false := by kernel_rfl
theorem tie : Tryd.prog.laidByTextLater [("millwright/api.ErrLong", Rows.laid_millwright_api_ErrLong), ("millwright/api.ErrRegex", Rows.laid_millwright_api_ErrRegex), ("millwright/api.ErrFull", Rows.laid_millwright_api_ErrFull), ("millwright/rex.words", Rows.laid_millwright_rex_words)] [.sentinel, .sentinel, .sentinel, .data] true :=
  Program.laidByTextLater.sub seatTie1 ["millwright/api.ErrLong", "millwright/api.ErrRegex", "millwright/api.ErrFull", "millwright/rex.words"] (by kernel_rfl) (by kernel_rfl)
theorem denoteKleene_row_tie : Rows.denoteKleeneRow.laidByTextAt .later Tryd.pinned [.sentinel, .sentinel, .sentinel, .data] true :=
  OpenClaim.laidByTextAt_later rfl rfl tie noOwnUnsafe
theorem denoteEnds_row_tie : Rows.denoteEndsRow.laidByTextAt .later Tryd.pinned [.sentinel, .sentinel, .sentinel, .data] true :=
  OpenClaim.laidByTextAt_later rfl rfl tie noOwnUnsafe
theorem denoteFirst_row_tie : Rows.denoteFirstRow.laidByTextAt .later Tryd.pinned [.sentinel, .sentinel, .sentinel, .data] true :=
  OpenClaim.laidByTextAt_later rfl rfl tie noOwnUnsafe
theorem tie2 : Tryd.prog.laidByTextLater [("millwright/api.ErrRange", Rows.laid_millwright_api_ErrRange), ("millwright/api.ErrLong", Rows.laid_millwright_api_ErrLong), ("millwright/api.ErrForm", Rows.laid_millwright_api_ErrForm), ("millwright/api.ErrName", Rows.laid_millwright_api_ErrName), ("millwright/api.ErrQuote", Rows.laid_millwright_api_ErrQuote), ("millwright/api.ErrRegex", Rows.laid_millwright_api_ErrRegex), ("millwright/api.ErrAttr", Rows.laid_millwright_api_ErrAttr), ("millwright/api.ErrNone", Rows.laid_millwright_api_ErrNone), ("millwright/api.ErrDup", Rows.laid_millwright_api_ErrDup), ("millwright/api.ErrFull", Rows.laid_millwright_api_ErrFull), ("millwright/api.ErrDepth", Rows.laid_millwright_api_ErrDepth), ("millwright/api.ErrCycle", Rows.laid_millwright_api_ErrCycle), ("millwright/api.ErrAmbig", Rows.laid_millwright_api_ErrAmbig), ("millwright/api.ErrState", Rows.laid_millwright_api_ErrState), ("millwright/api.ErrFail", Rows.laid_millwright_api_ErrFail), ("millwright/api.ErrFlag", Rows.laid_millwright_api_ErrFlag), ("millwright/api.ErrKind", Rows.laid_millwright_api_ErrKind), ("millwright/api.ErrLost", Rows.laid_millwright_api_ErrLost), ("millwright/rex.words", Rows.laid_millwright_rex_words)] [.sentinel, .sentinel, .sentinel, .sentinel, .sentinel, .sentinel, .sentinel, .sentinel, .sentinel, .sentinel, .sentinel, .sentinel, .sentinel, .sentinel, .sentinel, .sentinel, .sentinel, .sentinel, .data] true :=
  Program.laidByTextLater.sub seatTie1 ["millwright/api.ErrRange", "millwright/api.ErrLong", "millwright/api.ErrForm", "millwright/api.ErrName", "millwright/api.ErrQuote", "millwright/api.ErrRegex", "millwright/api.ErrAttr", "millwright/api.ErrNone", "millwright/api.ErrDup", "millwright/api.ErrFull", "millwright/api.ErrDepth", "millwright/api.ErrCycle", "millwright/api.ErrAmbig", "millwright/api.ErrState", "millwright/api.ErrFail", "millwright/api.ErrFlag", "millwright/api.ErrKind", "millwright/api.ErrLost", "millwright/rex.words"] (by kernel_rfl) (by kernel_rfl)
theorem denoteAgrees_row_tie : Rows.denoteAgreesRow.laidByTextAt .later Tryd.pinned [.sentinel, .sentinel, .sentinel, .sentinel, .sentinel, .sentinel, .sentinel, .sentinel, .sentinel, .sentinel, .sentinel, .sentinel, .sentinel, .sentinel, .sentinel, .sentinel, .sentinel, .sentinel, .data] true :=
  OpenClaim.laidByTextAt_later rfl rfl tie2 noOwnUnsafe
theorem denoteKleeneUpto_row_tie : Rows.denoteKleeneUptoRow.laidByTextAt .later Tryd.pinned [.sentinel, .sentinel, .sentinel, .data] true :=
  OpenClaim.laidByTextAt_later rfl rfl tie noOwnUnsafe
theorem denoteEndsUpto_row_tie : Rows.denoteEndsUptoRow.laidByTextAt .later Tryd.pinned [.sentinel, .sentinel, .sentinel, .data] true :=
  OpenClaim.laidByTextAt_later rfl rfl tie noOwnUnsafe
theorem denoteFirstUpto_row_tie : Rows.denoteFirstUptoRow.laidByTextAt .later Tryd.pinned [.sentinel, .sentinel, .sentinel, .data] true :=
  OpenClaim.laidByTextAt_later rfl rfl tie noOwnUnsafe
theorem denoteAgreesUpto_row_tie : Rows.denoteAgreesUptoRow.laidByTextAt .later Tryd.pinned [.sentinel, .sentinel, .sentinel, .sentinel, .sentinel, .sentinel, .sentinel, .sentinel, .sentinel, .sentinel, .sentinel, .sentinel, .sentinel, .sentinel, .sentinel, .sentinel, .sentinel, .sentinel, .data] true :=
  OpenClaim.laidByTextAt_later rfl rfl tie2 noOwnUnsafe
end Go.Proofs.YteddmdkbeednmaaDoor
