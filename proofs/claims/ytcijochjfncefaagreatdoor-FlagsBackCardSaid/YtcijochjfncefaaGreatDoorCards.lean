/-
  DERIVED. GIVEN WITH THE SEED: THE CARDS: each row of YtcijochjfncefaaGreatDoorRows.lean that lists a variable, with what it lists TIED to the program's text (the seventh form; the later family's looks); each row that meets fmt, with fmt's text TOLD by the authors' own Lean function (tested against real Go, not proved from fmt's source: count such statements apart). THE CARD IS WHAT COUNTS. Prove the row's statement (the work); the ties are given (YtcijochjfncefaaGreatDoorTie.lean); close each card by the builder's one call (the guide's Derived/Test/ToyasCard.lean, 'card_holds'). Laid BY PROGRAM, IN A SANDBOX (cutbox-door.mjs). By AI agents, Wed Nov 11 2026. No macro, syntax, notation, axiom, sorry.
-/
import Derived.Test.YtcijochjfncefaaGreatDoorRows
import GoSem.ClaimSeven
namespace Go.Proofs.YtcijochjfncefaaGreatDoor
namespace Rows

/-- THE TIED CARD OF 'millwrightlaw31.FlagsParse'. -/
def flagsParseCard : Claim7 := { stood := { row := flagsParseRow, standIns := [], harness := (true, "b72ac7f5befd5ab3df6ddf92cea0038631002f70818f7a7eca71bdba3110dbad"), looks := true }, kinds := [], alts := [], laidByText := true, laidKinds := [.data, .data, .data, .data, .sentinel, .sentinel, .sentinel, .sentinel, .sentinel, .sentinel, .sentinel, .sentinel, .sentinel, .sentinel, .sentinel, .sentinel, .sentinel, .sentinel, .sentinel, .sentinel, .sentinel, .sentinel, .sentinel, .sentinel, .pinned], laidTests := true, laidLooks := .later }
def FlagsParseCardSaid : Prop := Claim7.holds Tryz.pinned (.plain (OpenSpec.ofChange flagsParseSpec)) flagsParseCard

/-- THE TIED CARD OF 'millwrightlaw31.FlagsBack'. -/
def flagsBackCard : Claim7 := { stood := { row := flagsBackRow, standIns := [], harness := (true, "b72ac7f5befd5ab3df6ddf92cea0038631002f70818f7a7eca71bdba3110dbad"), looks := true }, kinds := [], alts := [], laidByText := true, laidKinds := [.data, .data, .data, .data, .sentinel, .sentinel, .sentinel, .sentinel, .sentinel, .sentinel, .sentinel, .sentinel, .pinned], laidTests := true, laidLooks := .later }
def FlagsBackCardSaid : Prop := Claim7.holds Tryz.pinned (.plain (OpenSpec.ofChange flagsBackSpec)) flagsBackCard

/-- THE TIED CARD OF 'millwrightlaw31.FlagsTexts'. -/
def flagsTextsCard : Claim7 := { stood := { row := flagsTextsRow, standIns := [], harness := (true, "b72ac7f5befd5ab3df6ddf92cea0038631002f70818f7a7eca71bdba3110dbad"), looks := true }, kinds := [], alts := [], laidByText := true, laidKinds := [.data, .data, .data, .data, .sentinel, .sentinel, .sentinel, .sentinel, .sentinel, .sentinel, .sentinel, .sentinel, .sentinel, .sentinel, .sentinel, .sentinel, .sentinel, .sentinel, .sentinel, .sentinel, .sentinel, .sentinel, .sentinel, .sentinel, .pinned], laidTests := true, laidLooks := .later }
def FlagsTextsCardSaid : Prop := Claim7.holds Tryz.pinned (.plain (OpenSpec.ofChange flagsTextsSpec)) flagsTextsCard

/-- THE SECOND FORM's CARD OF 'millwrightlaw31.FlagsParse'. -/
def flagsParseUptoCard : Claim7 := { stood := { row := flagsParseUptoRow, standIns := [], harness := (true, "b72ac7f5befd5ab3df6ddf92cea0038631002f70818f7a7eca71bdba3110dbad"), looks := true }, kinds := [], alts := [], laidByText := true, laidKinds := [.data, .data, .data, .data, .sentinel, .sentinel, .sentinel, .sentinel, .sentinel, .sentinel, .sentinel, .sentinel, .sentinel, .sentinel, .sentinel, .sentinel, .sentinel, .sentinel, .sentinel, .sentinel, .sentinel, .sentinel, .sentinel, .sentinel, .pinned], laidTests := true, laidLooks := .later }
def FlagsParseUptoCardSaid : Prop := Claim7.holds Tryz.pinned (.plain (OpenSpec.upto flagsParseSpec)) flagsParseUptoCard

/-- THE SECOND FORM's CARD OF 'millwrightlaw31.FlagsBack'. -/
def flagsBackUptoCard : Claim7 := { stood := { row := flagsBackUptoRow, standIns := [], harness := (true, "b72ac7f5befd5ab3df6ddf92cea0038631002f70818f7a7eca71bdba3110dbad"), looks := true }, kinds := [], alts := [], laidByText := true, laidKinds := [.data, .data, .data, .data, .sentinel, .sentinel, .sentinel, .sentinel, .sentinel, .sentinel, .sentinel, .sentinel, .pinned], laidTests := true, laidLooks := .later }
def FlagsBackUptoCardSaid : Prop := Claim7.holds Tryz.pinned (.plain (OpenSpec.upto flagsBackSpec)) flagsBackUptoCard

/-- THE SECOND FORM's CARD OF 'millwrightlaw31.FlagsTexts'. -/
def flagsTextsUptoCard : Claim7 := { stood := { row := flagsTextsUptoRow, standIns := [], harness := (true, "b72ac7f5befd5ab3df6ddf92cea0038631002f70818f7a7eca71bdba3110dbad"), looks := true }, kinds := [], alts := [], laidByText := true, laidKinds := [.data, .data, .data, .data, .sentinel, .sentinel, .sentinel, .sentinel, .sentinel, .sentinel, .sentinel, .sentinel, .sentinel, .sentinel, .sentinel, .sentinel, .sentinel, .sentinel, .sentinel, .sentinel, .sentinel, .sentinel, .sentinel, .sentinel, .pinned], laidTests := true, laidLooks := .later }
def FlagsTextsUptoCardSaid : Prop := Claim7.holds Tryz.pinned (.plain (OpenSpec.upto flagsTextsSpec)) flagsTextsUptoCard
end Rows
end Go.Proofs.YtcijochjfncefaaGreatDoor
