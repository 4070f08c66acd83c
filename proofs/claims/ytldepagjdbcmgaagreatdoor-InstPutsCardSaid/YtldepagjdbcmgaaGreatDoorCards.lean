/-
  DERIVED. GIVEN WITH THE SEED: THE CARDS: each row of YtldepagjdbcmgaaGreatDoorRows.lean that lists a variable, with what it lists TIED to the program's text (the seventh form; the later family's looks); each row that meets fmt, with fmt's text TOLD by the authors' own Lean function (tested against real Go, not proved from fmt's source: count such statements apart). THE CARD IS WHAT COUNTS. Prove the row's statement (the work); the ties are given (YtldepagjdbcmgaaGreatDoorTie.lean); close each card by the builder's one call (the guide's Derived/Test/ToyasCard.lean, 'card_holds'). Laid BY PROGRAM, IN A SANDBOX (cutbox-door.mjs). By AI agents, Wed Nov 11 2026. No macro, syntax, notation, axiom, sorry.
-/
import Derived.Test.YtldepagjdbcmgaaGreatDoorRows
import GoSem.ClaimSeven
namespace Go.Proofs.YtldepagjdbcmgaaGreatDoor
namespace Rows

/-- THE TIED CARD OF 'millwrightlaw17.ExpandTexts'. -/
def expandTextsCard : Claim7 := { stood := { row := expandTextsRow, standIns := [], harness := (true, "3274de17322df8732af6ad799d1ae5db9e5379fc9c1150ba50d4909274a9c58a"), looks := true }, kinds := [], alts := [], laidByText := true, laidKinds := [.data, .sentinel, .sentinel, .sentinel, .sentinel, .sentinel, .sentinel, .sentinel, .sentinel, .sentinel, .sentinel, .sentinel, .sentinel, .sentinel, .sentinel, .sentinel, .sentinel, .sentinel, .sentinel, .pinned], laidTests := true, laidLooks := .later }
def ExpandTextsCardSaid : Prop := Claim7.holds Tryz.pinned (.plain (OpenSpec.ofChange expandTextsSpec)) expandTextsCard

/-- THE TIED CARD OF 'millwrightlaw22.InstPuts'. -/
def instPutsCard : Claim7 := { stood := { row := instPutsRow, standIns := [], harness := (true, "3274de17322df8732af6ad799d1ae5db9e5379fc9c1150ba50d4909274a9c58a"), looks := true }, kinds := [], alts := [], laidByText := true, laidKinds := [.sentinel, .sentinel, .sentinel, .sentinel, .sentinel, .sentinel, .data], laidTests := true, laidLooks := .later }
def InstPutsCardSaid : Prop := Claim7.holds Tryz.pinned (.plain (OpenSpec.ofChange instPutsSpec)) instPutsCard

/-- THE TIED CARD OF 'millwrightlaw17.ExpandWords'. -/
def expandWordsCard : Claim7 := { stood := { row := expandWordsRow, standIns := [], harness := (true, "3274de17322df8732af6ad799d1ae5db9e5379fc9c1150ba50d4909274a9c58a"), looks := true }, kinds := [], alts := [], laidByText := true, laidKinds := [.data, .sentinel, .sentinel, .sentinel, .sentinel, .sentinel, .sentinel, .sentinel, .sentinel, .sentinel, .sentinel, .sentinel, .sentinel, .sentinel, .sentinel, .sentinel, .sentinel, .sentinel, .sentinel, .pinned], laidTests := true, laidLooks := .later }
def ExpandWordsCardSaid : Prop := Claim7.holds Tryz.pinned (.plain (OpenSpec.ofChange expandWordsSpec)) expandWordsCard

/-- THE SECOND FORM's CARD OF 'millwrightlaw17.ExpandTexts'. -/
def expandTextsUptoCard : Claim7 := { stood := { row := expandTextsUptoRow, standIns := [], harness := (true, "3274de17322df8732af6ad799d1ae5db9e5379fc9c1150ba50d4909274a9c58a"), looks := true }, kinds := [], alts := [], laidByText := true, laidKinds := [.data, .sentinel, .sentinel, .sentinel, .sentinel, .sentinel, .sentinel, .sentinel, .sentinel, .sentinel, .sentinel, .sentinel, .sentinel, .sentinel, .sentinel, .sentinel, .sentinel, .sentinel, .sentinel, .pinned], laidTests := true, laidLooks := .later }
def ExpandTextsUptoCardSaid : Prop := Claim7.holds Tryz.pinned (.plain (OpenSpec.upto expandTextsSpec)) expandTextsUptoCard

/-- THE SECOND FORM's CARD OF 'millwrightlaw22.InstPuts'. -/
def instPutsUptoCard : Claim7 := { stood := { row := instPutsUptoRow, standIns := [], harness := (true, "3274de17322df8732af6ad799d1ae5db9e5379fc9c1150ba50d4909274a9c58a"), looks := true }, kinds := [], alts := [], laidByText := true, laidKinds := [.sentinel, .sentinel, .sentinel, .sentinel, .sentinel, .sentinel, .data], laidTests := true, laidLooks := .later }
def InstPutsUptoCardSaid : Prop := Claim7.holds Tryz.pinned (.plain (OpenSpec.upto instPutsSpec)) instPutsUptoCard

/-- THE SECOND FORM's CARD OF 'millwrightlaw17.ExpandWords'. -/
def expandWordsUptoCard : Claim7 := { stood := { row := expandWordsUptoRow, standIns := [], harness := (true, "3274de17322df8732af6ad799d1ae5db9e5379fc9c1150ba50d4909274a9c58a"), looks := true }, kinds := [], alts := [], laidByText := true, laidKinds := [.data, .sentinel, .sentinel, .sentinel, .sentinel, .sentinel, .sentinel, .sentinel, .sentinel, .sentinel, .sentinel, .sentinel, .sentinel, .sentinel, .sentinel, .sentinel, .sentinel, .sentinel, .sentinel, .pinned], laidTests := true, laidLooks := .later }
def ExpandWordsUptoCardSaid : Prop := Claim7.holds Tryz.pinned (.plain (OpenSpec.upto expandWordsSpec)) expandWordsUptoCard
end Rows
end Go.Proofs.YtldepagjdbcmgaaGreatDoor
