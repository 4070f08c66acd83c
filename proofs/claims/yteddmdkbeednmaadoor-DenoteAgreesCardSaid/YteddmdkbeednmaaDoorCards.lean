/-
  DERIVED. GIVEN WITH THE SEED: THE CARDS: each row of YteddmdkbeednmaaDoorRows.lean that lists a variable, with what it lists TIED to the program's text (the seventh form; the later family's looks); each row that meets fmt, with fmt's text TOLD by the authors' own Lean function (tested against real Go, not proved from fmt's source: count such statements apart). THE CARD IS WHAT COUNTS. Prove the row's statement (the work); the ties are given (YteddmdkbeednmaaDoorTie.lean); close each card by the builder's one call (the guide's Derived/Test/ToyasCard.lean, 'card_holds'). Laid BY PROGRAM, IN A SANDBOX (cutbox-door.mjs). By AI agents, Wed Nov 11 2026. No macro, syntax, notation, axiom, sorry.
-/
import Derived.Test.YteddmdkbeednmaaDoorRows
import GoSem.ClaimSeven
namespace Go.Proofs.YteddmdkbeednmaaDoor
namespace Rows

/-- THE TIED CARD OF 'millwrightlaw10.DenoteKleene'. -/
def denoteKleeneCard : Claim7 := { stood := { row := denoteKleeneRow, standIns := [], harness := (true, "af0d2fffc3647c4c221d3c619bcb30e6fb49238f482788db16f45ac6f5f6af09"), looks := true }, kinds := [], alts := [], laidByText := true, laidKinds := [.sentinel, .sentinel, .sentinel, .data], laidTests := true, laidLooks := .later }
def DenoteKleeneCardSaid : Prop := Claim7.holds Tryd.pinned (.plain (OpenSpec.ofChange denoteKleeneSpec)) denoteKleeneCard

/-- THE TIED CARD OF 'millwrightlaw10.DenoteEnds'. -/
def denoteEndsCard : Claim7 := { stood := { row := denoteEndsRow, standIns := [], harness := (true, "af0d2fffc3647c4c221d3c619bcb30e6fb49238f482788db16f45ac6f5f6af09"), looks := true }, kinds := [], alts := [], laidByText := true, laidKinds := [.sentinel, .sentinel, .sentinel, .data], laidTests := true, laidLooks := .later }
def DenoteEndsCardSaid : Prop := Claim7.holds Tryd.pinned (.plain (OpenSpec.ofChange denoteEndsSpec)) denoteEndsCard

/-- THE TIED CARD OF 'millwrightlaw10.DenoteFirst'. -/
def denoteFirstCard : Claim7 := { stood := { row := denoteFirstRow, standIns := [], harness := (true, "af0d2fffc3647c4c221d3c619bcb30e6fb49238f482788db16f45ac6f5f6af09"), looks := true }, kinds := [], alts := [], laidByText := true, laidKinds := [.sentinel, .sentinel, .sentinel, .data], laidTests := true, laidLooks := .later }
def DenoteFirstCardSaid : Prop := Claim7.holds Tryd.pinned (.plain (OpenSpec.ofChange denoteFirstSpec)) denoteFirstCard

/-- THE TIED CARD OF 'millwrightlaw10.DenoteAgrees'. -/
def denoteAgreesCard : Claim7 := { stood := { row := denoteAgreesRow, standIns := [], harness := (true, "af0d2fffc3647c4c221d3c619bcb30e6fb49238f482788db16f45ac6f5f6af09"), looks := true }, kinds := [], alts := [], laidByText := true, laidKinds := [.sentinel, .sentinel, .sentinel, .sentinel, .sentinel, .sentinel, .sentinel, .sentinel, .sentinel, .sentinel, .sentinel, .sentinel, .sentinel, .sentinel, .sentinel, .sentinel, .sentinel, .sentinel, .data], laidTests := true, laidLooks := .later }
def DenoteAgreesCardSaid : Prop := Claim7.holds Tryd.pinned (.plain (OpenSpec.ofChange denoteAgreesSpec)) denoteAgreesCard

/-- THE SECOND FORM's CARD OF 'millwrightlaw10.DenoteKleene'. -/
def denoteKleeneUptoCard : Claim7 := { stood := { row := denoteKleeneUptoRow, standIns := [], harness := (true, "af0d2fffc3647c4c221d3c619bcb30e6fb49238f482788db16f45ac6f5f6af09"), looks := true }, kinds := [], alts := [], laidByText := true, laidKinds := [.sentinel, .sentinel, .sentinel, .data], laidTests := true, laidLooks := .later }
def DenoteKleeneUptoCardSaid : Prop := Claim7.holds Tryd.pinned (.plain (OpenSpec.upto denoteKleeneSpec)) denoteKleeneUptoCard

/-- THE SECOND FORM's CARD OF 'millwrightlaw10.DenoteEnds'. -/
def denoteEndsUptoCard : Claim7 := { stood := { row := denoteEndsUptoRow, standIns := [], harness := (true, "af0d2fffc3647c4c221d3c619bcb30e6fb49238f482788db16f45ac6f5f6af09"), looks := true }, kinds := [], alts := [], laidByText := true, laidKinds := [.sentinel, .sentinel, .sentinel, .data], laidTests := true, laidLooks := .later }
def DenoteEndsUptoCardSaid : Prop := Claim7.holds Tryd.pinned (.plain (OpenSpec.upto denoteEndsSpec)) denoteEndsUptoCard

/-- THE SECOND FORM's CARD OF 'millwrightlaw10.DenoteFirst'. -/
def denoteFirstUptoCard : Claim7 := { stood := { row := denoteFirstUptoRow, standIns := [], harness := (true, "af0d2fffc3647c4c221d3c619bcb30e6fb49238f482788db16f45ac6f5f6af09"), looks := true }, kinds := [], alts := [], laidByText := true, laidKinds := [.sentinel, .sentinel, .sentinel, .data], laidTests := true, laidLooks := .later }
def DenoteFirstUptoCardSaid : Prop := Claim7.holds Tryd.pinned (.plain (OpenSpec.upto denoteFirstSpec)) denoteFirstUptoCard

/-- THE SECOND FORM's CARD OF 'millwrightlaw10.DenoteAgrees'. -/
def denoteAgreesUptoCard : Claim7 := { stood := { row := denoteAgreesUptoRow, standIns := [], harness := (true, "af0d2fffc3647c4c221d3c619bcb30e6fb49238f482788db16f45ac6f5f6af09"), looks := true }, kinds := [], alts := [], laidByText := true, laidKinds := [.sentinel, .sentinel, .sentinel, .sentinel, .sentinel, .sentinel, .sentinel, .sentinel, .sentinel, .sentinel, .sentinel, .sentinel, .sentinel, .sentinel, .sentinel, .sentinel, .sentinel, .sentinel, .data], laidTests := true, laidLooks := .later }
def DenoteAgreesUptoCardSaid : Prop := Claim7.holds Tryd.pinned (.plain (OpenSpec.upto denoteAgreesSpec)) denoteAgreesUptoCard
end Rows
end Go.Proofs.YteddmdkbeednmaaDoor
