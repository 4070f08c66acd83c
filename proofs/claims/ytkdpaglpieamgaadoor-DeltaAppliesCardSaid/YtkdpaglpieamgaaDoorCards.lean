/-
  DERIVED. GIVEN WITH THE SEED: THE CARDS: each row of YtkdpaglpieamgaaDoorRows.lean that lists a variable, with what it lists TIED to the program's text (the seventh form; the later family's looks); each row that meets fmt, with fmt's text TOLD by the authors' own Lean function (tested against real Go, not proved from fmt's source: count such statements apart). THE CARD IS WHAT COUNTS. Prove the row's statement (the work); the ties are given (YtkdpaglpieamgaaDoorTie.lean); close each card by the builder's one call (the guide's Derived/Test/ToyasCard.lean, 'card_holds'). Laid BY PROGRAM, IN A SANDBOX (cutbox-door.mjs). By AI agents, Wed Nov 11 2026. No macro, syntax, notation, axiom, sorry.
-/
import Derived.Test.YtkdpaglpieamgaaDoorRows
import GoSem.ClaimSeven
namespace Go.Proofs.YtkdpaglpieamgaaDoor
namespace Rows

/-- THE TIED CARD OF 'millwrightlaw02.TreeApart'. -/
def treeApartCard : Claim7 := { stood := { row := treeApartRow, standIns := [], harness := (true, "d91614fc52efdb06e29b1084bba352ecfd11f879810df212ccc216d91d59bf2a"), looks := true }, kinds := [], alts := [], laidByText := true, laidKinds := [.sentinel, .sentinel, .sentinel, .sentinel, .sentinel, .sentinel], laidTests := true, laidLooks := .later }
def TreeApartCardSaid : Prop := Claim7.holds Tryd.pinned (.plain (OpenSpec.ofChange treeApartSpec)) treeApartCard

/-- THE TIED CARD OF 'millwrightlaw02.TreePlays'. -/
def treePlaysCard : Claim7 := { stood := { row := treePlaysRow, standIns := [], harness := (true, "d91614fc52efdb06e29b1084bba352ecfd11f879810df212ccc216d91d59bf2a"), looks := true }, kinds := [], alts := [], laidByText := true, laidKinds := [.sentinel, .sentinel, .sentinel, .sentinel, .sentinel, .sentinel, .sentinel, .sentinel, .sentinel, .sentinel, .sentinel, .sentinel, .sentinel, .sentinel, .sentinel, .sentinel, .sentinel, .sentinel], laidTests := true, laidLooks := .later }
def TreePlaysCardSaid : Prop := Claim7.holds Tryd.pinned (.plain (OpenSpec.ofChange treePlaysSpec)) treePlaysCard

/-- THE TIED CARD OF 'millwrightlaw02.TreeOf'. -/
def treeOfCard : Claim7 := { stood := { row := treeOfRow, standIns := [], harness := (true, "d91614fc52efdb06e29b1084bba352ecfd11f879810df212ccc216d91d59bf2a"), looks := true }, kinds := [], alts := [], laidByText := true, laidKinds := [.sentinel, .sentinel, .sentinel, .sentinel, .sentinel, .sentinel, .sentinel, .sentinel, .sentinel, .sentinel, .sentinel, .sentinel, .sentinel, .sentinel, .sentinel, .sentinel, .sentinel, .sentinel], laidTests := true, laidLooks := .later }
def TreeOfCardSaid : Prop := Claim7.holds Tryd.pinned (.plain (OpenSpec.ofChange treeOfSpec)) treeOfCard

/-- THE TIED CARD OF 'millwrightlaw41.DeltaTwice'. -/
def deltaTwiceCard : Claim7 := { stood := { row := deltaTwiceRow, standIns := [], harness := (true, "d91614fc52efdb06e29b1084bba352ecfd11f879810df212ccc216d91d59bf2a"), looks := true }, kinds := [], alts := [], laidByText := true, laidKinds := [.sentinel, .sentinel, .sentinel, .sentinel, .sentinel, .sentinel, .sentinel, .sentinel, .sentinel], laidTests := true, laidLooks := .later }
def DeltaTwiceCardSaid : Prop := Claim7.holds Tryd.pinned (.plain (OpenSpec.ofChange deltaTwiceSpec)) deltaTwiceCard

/-- THE TIED CARD OF 'millwrightlaw41.DeltaOf'. -/
def deltaOfCard : Claim7 := { stood := { row := deltaOfRow, standIns := [], harness := (true, "d91614fc52efdb06e29b1084bba352ecfd11f879810df212ccc216d91d59bf2a"), looks := true }, kinds := [], alts := [], laidByText := true, laidKinds := [.sentinel, .sentinel, .sentinel, .sentinel, .sentinel, .sentinel, .sentinel, .sentinel, .sentinel], laidTests := true, laidLooks := .later }
def DeltaOfCardSaid : Prop := Claim7.holds Tryd.pinned (.plain (OpenSpec.ofChange deltaOfSpec)) deltaOfCard

/-- THE TIED CARD OF 'millwrightlaw41.DeltaApplies'. -/
def deltaAppliesCard : Claim7 := { stood := { row := deltaAppliesRow, standIns := [], harness := (true, "d91614fc52efdb06e29b1084bba352ecfd11f879810df212ccc216d91d59bf2a"), looks := true }, kinds := [], alts := [], laidByText := true, laidKinds := [.sentinel, .sentinel, .sentinel, .sentinel, .sentinel, .sentinel, .sentinel, .sentinel, .sentinel, .sentinel, .sentinel, .sentinel, .sentinel, .sentinel, .sentinel, .sentinel, .sentinel, .sentinel], laidTests := true, laidLooks := .later }
def DeltaAppliesCardSaid : Prop := Claim7.holds Tryd.pinned (.plain (OpenSpec.ofChange deltaAppliesSpec)) deltaAppliesCard

/-- THE SECOND FORM's CARD OF 'millwrightlaw02.TreeApart'. -/
def treeApartUptoCard : Claim7 := { stood := { row := treeApartUptoRow, standIns := [], harness := (true, "d91614fc52efdb06e29b1084bba352ecfd11f879810df212ccc216d91d59bf2a"), looks := true }, kinds := [], alts := [], laidByText := true, laidKinds := [.sentinel, .sentinel, .sentinel, .sentinel, .sentinel, .sentinel], laidTests := true, laidLooks := .later }
def TreeApartUptoCardSaid : Prop := Claim7.holds Tryd.pinned (.plain (OpenSpec.upto treeApartSpec)) treeApartUptoCard

/-- THE SECOND FORM's CARD OF 'millwrightlaw02.TreePlays'. -/
def treePlaysUptoCard : Claim7 := { stood := { row := treePlaysUptoRow, standIns := [], harness := (true, "d91614fc52efdb06e29b1084bba352ecfd11f879810df212ccc216d91d59bf2a"), looks := true }, kinds := [], alts := [], laidByText := true, laidKinds := [.sentinel, .sentinel, .sentinel, .sentinel, .sentinel, .sentinel, .sentinel, .sentinel, .sentinel, .sentinel, .sentinel, .sentinel, .sentinel, .sentinel, .sentinel, .sentinel, .sentinel, .sentinel], laidTests := true, laidLooks := .later }
def TreePlaysUptoCardSaid : Prop := Claim7.holds Tryd.pinned (.plain (OpenSpec.upto treePlaysSpec)) treePlaysUptoCard

/-- THE SECOND FORM's CARD OF 'millwrightlaw02.TreeOf'. -/
def treeOfUptoCard : Claim7 := { stood := { row := treeOfUptoRow, standIns := [], harness := (true, "d91614fc52efdb06e29b1084bba352ecfd11f879810df212ccc216d91d59bf2a"), looks := true }, kinds := [], alts := [], laidByText := true, laidKinds := [.sentinel, .sentinel, .sentinel, .sentinel, .sentinel, .sentinel, .sentinel, .sentinel, .sentinel, .sentinel, .sentinel, .sentinel, .sentinel, .sentinel, .sentinel, .sentinel, .sentinel, .sentinel], laidTests := true, laidLooks := .later }
def TreeOfUptoCardSaid : Prop := Claim7.holds Tryd.pinned (.plain (OpenSpec.upto treeOfSpec)) treeOfUptoCard

/-- THE SECOND FORM's CARD OF 'millwrightlaw41.DeltaTwice'. -/
def deltaTwiceUptoCard : Claim7 := { stood := { row := deltaTwiceUptoRow, standIns := [], harness := (true, "d91614fc52efdb06e29b1084bba352ecfd11f879810df212ccc216d91d59bf2a"), looks := true }, kinds := [], alts := [], laidByText := true, laidKinds := [.sentinel, .sentinel, .sentinel, .sentinel, .sentinel, .sentinel, .sentinel, .sentinel, .sentinel], laidTests := true, laidLooks := .later }
def DeltaTwiceUptoCardSaid : Prop := Claim7.holds Tryd.pinned (.plain (OpenSpec.upto deltaTwiceSpec)) deltaTwiceUptoCard

/-- THE SECOND FORM's CARD OF 'millwrightlaw41.DeltaOf'. -/
def deltaOfUptoCard : Claim7 := { stood := { row := deltaOfUptoRow, standIns := [], harness := (true, "d91614fc52efdb06e29b1084bba352ecfd11f879810df212ccc216d91d59bf2a"), looks := true }, kinds := [], alts := [], laidByText := true, laidKinds := [.sentinel, .sentinel, .sentinel, .sentinel, .sentinel, .sentinel, .sentinel, .sentinel, .sentinel], laidTests := true, laidLooks := .later }
def DeltaOfUptoCardSaid : Prop := Claim7.holds Tryd.pinned (.plain (OpenSpec.upto deltaOfSpec)) deltaOfUptoCard

/-- THE SECOND FORM's CARD OF 'millwrightlaw41.DeltaApplies'. -/
def deltaAppliesUptoCard : Claim7 := { stood := { row := deltaAppliesUptoRow, standIns := [], harness := (true, "d91614fc52efdb06e29b1084bba352ecfd11f879810df212ccc216d91d59bf2a"), looks := true }, kinds := [], alts := [], laidByText := true, laidKinds := [.sentinel, .sentinel, .sentinel, .sentinel, .sentinel, .sentinel, .sentinel, .sentinel, .sentinel, .sentinel, .sentinel, .sentinel, .sentinel, .sentinel, .sentinel, .sentinel, .sentinel, .sentinel], laidTests := true, laidLooks := .later }
def DeltaAppliesUptoCardSaid : Prop := Claim7.holds Tryd.pinned (.plain (OpenSpec.upto deltaAppliesSpec)) deltaAppliesUptoCard
end Rows
end Go.Proofs.YtkdpaglpieamgaaDoor
