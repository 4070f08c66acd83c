/-
  DERIVED. GIVEN WITH THE SEED: THE CARDS: each row of YtgphmfcbhmmpiaaGreatDoorRows.lean that lists a variable, with what it lists TIED to the program's text (the seventh form; the later family's looks); each row that meets fmt, with fmt's text TOLD by the authors' own Lean function (tested against real Go, not proved from fmt's source: count such statements apart). THE CARD IS WHAT COUNTS. Prove the row's statement (the work); the ties are given (YtgphmfcbhmmpiaaGreatDoorTie.lean); close each card by the builder's one call (the guide's Derived/Test/ToyasCard.lean, 'card_holds'). Laid BY PROGRAM, IN A SANDBOX (cutbox-door.mjs). By AI agents, Wed Nov 11 2026. No macro, syntax, notation, axiom, sorry.
-/
import Derived.Test.YtgphmfcbhmmpiaaGreatDoorRows
import GoSem.ClaimSeven
namespace Go.Proofs.YtgphmfcbhmmpiaaGreatDoor
namespace Rows

/-- THE TIED CARD OF 'millwrightlaw03.ArMakes'. -/
def arMakesCard : Claim7 := { stood := { row := arMakesRow, standIns := [], harness := (true, "29552088bf4eeec935f6ce8bf77d632debe1bce2b772b5e83705a8f4876d361e"), looks := true }, kinds := [], alts := [], laidByText := true, laidKinds := [.data, .data, .data, .data, .sentinel, .sentinel, .sentinel, .sentinel, .sentinel, .sentinel, .sentinel, .sentinel, .sentinel, .sentinel, .sentinel, .sentinel, .sentinel, .sentinel, .sentinel, .sentinel, .sentinel, .sentinel, .sentinel, .sentinel, .pinned], laidTests := true, laidLooks := .later }
def ArMakesCardSaid : Prop := Claim7.holds Tryz.pinned (.plain (OpenSpec.ofChange arMakesSpec)) arMakesCard

/-- THE TIED CARD OF 'millwrightlaw03.ArParses'. -/
def arParsesCard : Claim7 := { stood := { row := arParsesRow, standIns := [], harness := (true, "29552088bf4eeec935f6ce8bf77d632debe1bce2b772b5e83705a8f4876d361e"), looks := true }, kinds := [], alts := [], laidByText := true, laidKinds := [.data, .data, .data, .data, .sentinel, .sentinel, .sentinel, .sentinel, .sentinel, .sentinel, .sentinel, .sentinel, .sentinel, .sentinel, .sentinel, .sentinel, .sentinel, .sentinel, .sentinel, .sentinel, .sentinel, .sentinel, .sentinel, .sentinel, .pinned], laidTests := true, laidLooks := .later }
def ArParsesCardSaid : Prop := Claim7.holds Tryz.pinned (.plain (OpenSpec.ofChange arParsesSpec)) arParsesCard

/-- THE TIED CARD OF 'millwrightlaw03.ArSets'. -/
def arSetsCard : Claim7 := { stood := { row := arSetsRow, standIns := [], harness := (true, "29552088bf4eeec935f6ce8bf77d632debe1bce2b772b5e83705a8f4876d361e"), looks := true }, kinds := [], alts := [], laidByText := true, laidKinds := [.data, .data, .data, .data, .sentinel, .sentinel, .sentinel, .sentinel, .sentinel, .sentinel, .sentinel, .sentinel, .sentinel, .sentinel, .sentinel, .sentinel, .sentinel, .sentinel, .sentinel, .sentinel, .sentinel, .sentinel, .sentinel, .sentinel, .pinned], laidTests := true, laidLooks := .later }
def ArSetsCardSaid : Prop := Claim7.holds Tryz.pinned (.plain (OpenSpec.ofChange arSetsSpec)) arSetsCard

/-- THE SECOND FORM's CARD OF 'millwrightlaw03.ArMakes'. -/
def arMakesUptoCard : Claim7 := { stood := { row := arMakesUptoRow, standIns := [], harness := (true, "29552088bf4eeec935f6ce8bf77d632debe1bce2b772b5e83705a8f4876d361e"), looks := true }, kinds := [], alts := [], laidByText := true, laidKinds := [.data, .data, .data, .data, .sentinel, .sentinel, .sentinel, .sentinel, .sentinel, .sentinel, .sentinel, .sentinel, .sentinel, .sentinel, .sentinel, .sentinel, .sentinel, .sentinel, .sentinel, .sentinel, .sentinel, .sentinel, .sentinel, .sentinel, .pinned], laidTests := true, laidLooks := .later }
def ArMakesUptoCardSaid : Prop := Claim7.holds Tryz.pinned (.plain (OpenSpec.upto arMakesSpec)) arMakesUptoCard

/-- THE SECOND FORM's CARD OF 'millwrightlaw03.ArParses'. -/
def arParsesUptoCard : Claim7 := { stood := { row := arParsesUptoRow, standIns := [], harness := (true, "29552088bf4eeec935f6ce8bf77d632debe1bce2b772b5e83705a8f4876d361e"), looks := true }, kinds := [], alts := [], laidByText := true, laidKinds := [.data, .data, .data, .data, .sentinel, .sentinel, .sentinel, .sentinel, .sentinel, .sentinel, .sentinel, .sentinel, .sentinel, .sentinel, .sentinel, .sentinel, .sentinel, .sentinel, .sentinel, .sentinel, .sentinel, .sentinel, .sentinel, .sentinel, .pinned], laidTests := true, laidLooks := .later }
def ArParsesUptoCardSaid : Prop := Claim7.holds Tryz.pinned (.plain (OpenSpec.upto arParsesSpec)) arParsesUptoCard

/-- THE SECOND FORM's CARD OF 'millwrightlaw03.ArSets'. -/
def arSetsUptoCard : Claim7 := { stood := { row := arSetsUptoRow, standIns := [], harness := (true, "29552088bf4eeec935f6ce8bf77d632debe1bce2b772b5e83705a8f4876d361e"), looks := true }, kinds := [], alts := [], laidByText := true, laidKinds := [.data, .data, .data, .data, .sentinel, .sentinel, .sentinel, .sentinel, .sentinel, .sentinel, .sentinel, .sentinel, .sentinel, .sentinel, .sentinel, .sentinel, .sentinel, .sentinel, .sentinel, .sentinel, .sentinel, .sentinel, .sentinel, .sentinel, .pinned], laidTests := true, laidLooks := .later }
def ArSetsUptoCardSaid : Prop := Claim7.holds Tryz.pinned (.plain (OpenSpec.upto arSetsSpec)) arSetsUptoCard
end Rows
end Go.Proofs.YtgphmfcbhmmpiaaGreatDoor
