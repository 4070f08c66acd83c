/-
  DERIVED. GIVEN WITH THE SEED: THE CARDS: each row of YthmbbdemecljpaaDoorRows.lean that lists a variable, with what it lists TIED to the program's text (the seventh form; the later family's looks); each row that meets fmt, with fmt's text TOLD by the authors' own Lean function (tested against real Go, not proved from fmt's source: count such statements apart). THE CARD IS WHAT COUNTS. Prove the row's statement (the work); the ties are given (YthmbbdemecljpaaDoorTie.lean); close each card by the builder's one call (the guide's Derived/Test/ToyasCard.lean, 'card_holds'). Laid BY PROGRAM, IN A SANDBOX (cutbox-door.mjs). By AI agents, Wed Nov 11 2026. No macro, syntax, notation, axiom, sorry.
-/
import Derived.Test.YthmbbdemecljpaaDoorRows
import GoSem.ClaimSeven
namespace Go.Proofs.YthmbbdemecljpaaDoor
namespace Rows

/-- THE TIED CARD OF 'millwrightlaw08.ProgClosed'. -/
def progClosedCard : Claim7 := { stood := { row := progClosedRow, standIns := [], harness := (true, "f051198e3647e57c03b908362e73ce643509f874c4426128512b934bd303a80d"), looks := true }, kinds := [], alts := [], laidByText := true, laidKinds := [.sentinel, .sentinel, .sentinel, .sentinel, .data], laidTests := true, laidLooks := .later }
def ProgClosedCardSaid : Prop := Claim7.holds Tryd.pinned (.plain (OpenSpec.ofChange progClosedSpec)) progClosedCard

/-- THE TIED CARD OF 'millwrightlaw10.DenoteKleene'. -/
def denoteKleeneCard : Claim7 := { stood := { row := denoteKleeneRow, standIns := [], harness := (true, "f051198e3647e57c03b908362e73ce643509f874c4426128512b934bd303a80d"), looks := true }, kinds := [], alts := [], laidByText := true, laidKinds := [.sentinel, .sentinel, .sentinel, .data], laidTests := true, laidLooks := .later }
def DenoteKleeneCardSaid : Prop := Claim7.holds Tryd.pinned (.plain (OpenSpec.ofChange denoteKleeneSpec)) denoteKleeneCard

/-- THE TIED CARD OF 'millwrightlaw10.DenoteEnds'. -/
def denoteEndsCard : Claim7 := { stood := { row := denoteEndsRow, standIns := [], harness := (true, "f051198e3647e57c03b908362e73ce643509f874c4426128512b934bd303a80d"), looks := true }, kinds := [], alts := [], laidByText := true, laidKinds := [.sentinel, .sentinel, .sentinel, .data], laidTests := true, laidLooks := .later }
def DenoteEndsCardSaid : Prop := Claim7.holds Tryd.pinned (.plain (OpenSpec.ofChange denoteEndsSpec)) denoteEndsCard

/-- THE TIED CARD OF 'millwrightlaw10.DenoteFirst'. -/
def denoteFirstCard : Claim7 := { stood := { row := denoteFirstRow, standIns := [], harness := (true, "f051198e3647e57c03b908362e73ce643509f874c4426128512b934bd303a80d"), looks := true }, kinds := [], alts := [], laidByText := true, laidKinds := [.sentinel, .sentinel, .sentinel, .data], laidTests := true, laidLooks := .later }
def DenoteFirstCardSaid : Prop := Claim7.holds Tryd.pinned (.plain (OpenSpec.ofChange denoteFirstSpec)) denoteFirstCard

/-- THE TIED CARD OF 'millwrightlaw08.ProgOf'. -/
def progOfCard : Claim7 := { stood := { row := progOfRow, standIns := [], harness := (true, "f051198e3647e57c03b908362e73ce643509f874c4426128512b934bd303a80d"), looks := true }, kinds := [], alts := [], laidByText := true, laidKinds := [.sentinel, .sentinel, .sentinel, .sentinel, .sentinel, .sentinel, .sentinel, .sentinel, .sentinel, .sentinel, .sentinel, .sentinel, .sentinel, .sentinel, .sentinel, .sentinel, .sentinel, .sentinel, .data], laidTests := true, laidLooks := .later }
def ProgOfCardSaid : Prop := Claim7.holds Tryd.pinned (.plain (OpenSpec.ofChange progOfSpec)) progOfCard

/-- THE TIED CARD OF 'millwrightlaw08.ProgCompiles'. -/
def progCompilesCard : Claim7 := { stood := { row := progCompilesRow, standIns := [], harness := (true, "f051198e3647e57c03b908362e73ce643509f874c4426128512b934bd303a80d"), looks := true }, kinds := [], alts := [], laidByText := true, laidKinds := [.sentinel, .sentinel, .sentinel, .sentinel, .sentinel, .sentinel, .sentinel, .sentinel, .sentinel, .sentinel, .sentinel, .sentinel, .sentinel, .sentinel, .sentinel, .sentinel, .sentinel, .sentinel, .data], laidTests := true, laidLooks := .later }
def ProgCompilesCardSaid : Prop := Claim7.holds Tryd.pinned (.plain (OpenSpec.ofChange progCompilesSpec)) progCompilesCard

/-- THE TIED CARD OF 'millwrightlaw09.PikeMatches'. -/
def pikeMatchesCard : Claim7 := { stood := { row := pikeMatchesRow, standIns := [], harness := (true, "f051198e3647e57c03b908362e73ce643509f874c4426128512b934bd303a80d"), looks := true }, kinds := [], alts := [], laidByText := true, laidKinds := [.sentinel, .sentinel, .sentinel, .sentinel, .data], laidTests := true, laidLooks := .later }
def PikeMatchesCardSaid : Prop := Claim7.holds Tryd.pinned (.plain (OpenSpec.ofChange pikeMatchesSpec)) pikeMatchesCard

/-- THE TIED CARD OF 'millwrightlaw09.PikePart'. -/
def pikePartCard : Claim7 := { stood := { row := pikePartRow, standIns := [], harness := (true, "f051198e3647e57c03b908362e73ce643509f874c4426128512b934bd303a80d"), looks := true }, kinds := [], alts := [], laidByText := true, laidKinds := [.sentinel, .sentinel, .sentinel, .sentinel, .data], laidTests := true, laidLooks := .later }
def PikePartCardSaid : Prop := Claim7.holds Tryd.pinned (.plain (OpenSpec.ofChange pikePartSpec)) pikePartCard

/-- THE TIED CARD OF 'millwrightlaw10.DenoteAgrees'. -/
def denoteAgreesCard : Claim7 := { stood := { row := denoteAgreesRow, standIns := [], harness := (true, "f051198e3647e57c03b908362e73ce643509f874c4426128512b934bd303a80d"), looks := true }, kinds := [], alts := [], laidByText := true, laidKinds := [.sentinel, .sentinel, .sentinel, .sentinel, .sentinel, .sentinel, .sentinel, .sentinel, .sentinel, .sentinel, .sentinel, .sentinel, .sentinel, .sentinel, .sentinel, .sentinel, .sentinel, .sentinel, .data], laidTests := true, laidLooks := .later }
def DenoteAgreesCardSaid : Prop := Claim7.holds Tryd.pinned (.plain (OpenSpec.ofChange denoteAgreesSpec)) denoteAgreesCard

/-- THE SECOND FORM's CARD OF 'millwrightlaw08.ProgClosed'. -/
def progClosedUptoCard : Claim7 := { stood := { row := progClosedUptoRow, standIns := [], harness := (true, "f051198e3647e57c03b908362e73ce643509f874c4426128512b934bd303a80d"), looks := true }, kinds := [], alts := [], laidByText := true, laidKinds := [.sentinel, .sentinel, .sentinel, .sentinel, .data], laidTests := true, laidLooks := .later }
def ProgClosedUptoCardSaid : Prop := Claim7.holds Tryd.pinned (.plain (OpenSpec.upto progClosedSpec)) progClosedUptoCard

/-- THE SECOND FORM's CARD OF 'millwrightlaw10.DenoteKleene'. -/
def denoteKleeneUptoCard : Claim7 := { stood := { row := denoteKleeneUptoRow, standIns := [], harness := (true, "f051198e3647e57c03b908362e73ce643509f874c4426128512b934bd303a80d"), looks := true }, kinds := [], alts := [], laidByText := true, laidKinds := [.sentinel, .sentinel, .sentinel, .data], laidTests := true, laidLooks := .later }
def DenoteKleeneUptoCardSaid : Prop := Claim7.holds Tryd.pinned (.plain (OpenSpec.upto denoteKleeneSpec)) denoteKleeneUptoCard

/-- THE SECOND FORM's CARD OF 'millwrightlaw10.DenoteEnds'. -/
def denoteEndsUptoCard : Claim7 := { stood := { row := denoteEndsUptoRow, standIns := [], harness := (true, "f051198e3647e57c03b908362e73ce643509f874c4426128512b934bd303a80d"), looks := true }, kinds := [], alts := [], laidByText := true, laidKinds := [.sentinel, .sentinel, .sentinel, .data], laidTests := true, laidLooks := .later }
def DenoteEndsUptoCardSaid : Prop := Claim7.holds Tryd.pinned (.plain (OpenSpec.upto denoteEndsSpec)) denoteEndsUptoCard

/-- THE SECOND FORM's CARD OF 'millwrightlaw10.DenoteFirst'. -/
def denoteFirstUptoCard : Claim7 := { stood := { row := denoteFirstUptoRow, standIns := [], harness := (true, "f051198e3647e57c03b908362e73ce643509f874c4426128512b934bd303a80d"), looks := true }, kinds := [], alts := [], laidByText := true, laidKinds := [.sentinel, .sentinel, .sentinel, .data], laidTests := true, laidLooks := .later }
def DenoteFirstUptoCardSaid : Prop := Claim7.holds Tryd.pinned (.plain (OpenSpec.upto denoteFirstSpec)) denoteFirstUptoCard

/-- THE SECOND FORM's CARD OF 'millwrightlaw08.ProgOf'. -/
def progOfUptoCard : Claim7 := { stood := { row := progOfUptoRow, standIns := [], harness := (true, "f051198e3647e57c03b908362e73ce643509f874c4426128512b934bd303a80d"), looks := true }, kinds := [], alts := [], laidByText := true, laidKinds := [.sentinel, .sentinel, .sentinel, .sentinel, .sentinel, .sentinel, .sentinel, .sentinel, .sentinel, .sentinel, .sentinel, .sentinel, .sentinel, .sentinel, .sentinel, .sentinel, .sentinel, .sentinel, .data], laidTests := true, laidLooks := .later }
def ProgOfUptoCardSaid : Prop := Claim7.holds Tryd.pinned (.plain (OpenSpec.upto progOfSpec)) progOfUptoCard

/-- THE SECOND FORM's CARD OF 'millwrightlaw08.ProgCompiles'. -/
def progCompilesUptoCard : Claim7 := { stood := { row := progCompilesUptoRow, standIns := [], harness := (true, "f051198e3647e57c03b908362e73ce643509f874c4426128512b934bd303a80d"), looks := true }, kinds := [], alts := [], laidByText := true, laidKinds := [.sentinel, .sentinel, .sentinel, .sentinel, .sentinel, .sentinel, .sentinel, .sentinel, .sentinel, .sentinel, .sentinel, .sentinel, .sentinel, .sentinel, .sentinel, .sentinel, .sentinel, .sentinel, .data], laidTests := true, laidLooks := .later }
def ProgCompilesUptoCardSaid : Prop := Claim7.holds Tryd.pinned (.plain (OpenSpec.upto progCompilesSpec)) progCompilesUptoCard

/-- THE SECOND FORM's CARD OF 'millwrightlaw09.PikeMatches'. -/
def pikeMatchesUptoCard : Claim7 := { stood := { row := pikeMatchesUptoRow, standIns := [], harness := (true, "f051198e3647e57c03b908362e73ce643509f874c4426128512b934bd303a80d"), looks := true }, kinds := [], alts := [], laidByText := true, laidKinds := [.sentinel, .sentinel, .sentinel, .sentinel, .data], laidTests := true, laidLooks := .later }
def PikeMatchesUptoCardSaid : Prop := Claim7.holds Tryd.pinned (.plain (OpenSpec.upto pikeMatchesSpec)) pikeMatchesUptoCard

/-- THE SECOND FORM's CARD OF 'millwrightlaw09.PikePart'. -/
def pikePartUptoCard : Claim7 := { stood := { row := pikePartUptoRow, standIns := [], harness := (true, "f051198e3647e57c03b908362e73ce643509f874c4426128512b934bd303a80d"), looks := true }, kinds := [], alts := [], laidByText := true, laidKinds := [.sentinel, .sentinel, .sentinel, .sentinel, .data], laidTests := true, laidLooks := .later }
def PikePartUptoCardSaid : Prop := Claim7.holds Tryd.pinned (.plain (OpenSpec.upto pikePartSpec)) pikePartUptoCard

/-- THE SECOND FORM's CARD OF 'millwrightlaw10.DenoteAgrees'. -/
def denoteAgreesUptoCard : Claim7 := { stood := { row := denoteAgreesUptoRow, standIns := [], harness := (true, "f051198e3647e57c03b908362e73ce643509f874c4426128512b934bd303a80d"), looks := true }, kinds := [], alts := [], laidByText := true, laidKinds := [.sentinel, .sentinel, .sentinel, .sentinel, .sentinel, .sentinel, .sentinel, .sentinel, .sentinel, .sentinel, .sentinel, .sentinel, .sentinel, .sentinel, .sentinel, .sentinel, .sentinel, .sentinel, .data], laidTests := true, laidLooks := .later }
def DenoteAgreesUptoCardSaid : Prop := Claim7.holds Tryd.pinned (.plain (OpenSpec.upto denoteAgreesSpec)) denoteAgreesUptoCard
end Rows
end Go.Proofs.YthmbbdemecljpaaDoor
