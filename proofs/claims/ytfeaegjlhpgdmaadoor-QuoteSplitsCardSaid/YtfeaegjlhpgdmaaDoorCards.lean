/-
  DERIVED. GIVEN WITH THE SEED: THE CARDS: each row of YtfeaegjlhpgdmaaDoorRows.lean that lists a variable, with what it lists TIED to the program's text (the seventh form; the later family's looks); each row that meets fmt, with fmt's text TOLD by the authors' own Lean function (tested against real Go, not proved from fmt's source: count such statements apart). THE CARD IS WHAT COUNTS. Prove the row's statement (the work); the ties are given (YtfeaegjlhpgdmaaDoorTie.lean); close each card by the builder's one call (the guide's Derived/Test/ToyasCard.lean, 'card_holds'). Laid BY PROGRAM, IN A SANDBOX (cutbox-door.mjs). By AI agents, Wed Nov 11 2026. No macro, syntax, notation, axiom, sorry.
-/
import Derived.Test.YtfeaegjlhpgdmaaDoorRows
import GoSem.ClaimSeven
namespace Go.Proofs.YtfeaegjlhpgdmaaDoor
namespace Rows

/-- THE TIED CARD OF 'millwrightlaw14.EnvStays'. -/
def envStaysCard : Claim7 := { stood := { row := envStaysRow, standIns := [], harness := (true, "d0012d72cef69f9730e2a304e08645ffc60294dade38b5c671693946ddb48f3c"), looks := true }, kinds := [], alts := [], laidByText := true, laidKinds := [.sentinel, .sentinel, .sentinel, .sentinel], laidTests := true, laidLooks := .later }
def EnvStaysCardSaid : Prop := Claim7.holds Tryd.pinned (.plain (OpenSpec.ofChange envStaysSpec)) envStaysCard

/-- THE TIED CARD OF 'millwrightlaw11.QuoteTexts'. -/
def quoteTextsCard : Claim7 := { stood := { row := quoteTextsRow, standIns := [], harness := (true, "d0012d72cef69f9730e2a304e08645ffc60294dade38b5c671693946ddb48f3c"), looks := true }, kinds := [], alts := [], laidByText := true, laidKinds := [.data, .sentinel, .pinned], laidTests := true, laidLooks := .later }
def QuoteTextsCardSaid : Prop := Claim7.holds Tryd.pinned (.plain (OpenSpec.ofChange quoteTextsSpec)) quoteTextsCard

/-- THE TIED CARD OF 'millwrightlaw11.QuoteSplits'. -/
def quoteSplitsCard : Claim7 := { stood := { row := quoteSplitsRow, standIns := [], harness := (true, "d0012d72cef69f9730e2a304e08645ffc60294dade38b5c671693946ddb48f3c"), looks := true }, kinds := [], alts := [], laidByText := true, laidKinds := [.data, .sentinel, .sentinel, .sentinel, .sentinel, .sentinel, .sentinel, .sentinel, .sentinel, .sentinel, .sentinel, .sentinel, .sentinel, .sentinel, .sentinel, .sentinel, .sentinel, .sentinel, .sentinel, .pinned], laidTests := true, laidLooks := .later }
def QuoteSplitsCardSaid : Prop := Claim7.holds Tryd.pinned (.plain (OpenSpec.ofChange quoteSplitsSpec)) quoteSplitsCard

/-- THE TIED CARD OF 'millwrightlaw11.QuoteBack'. -/
def quoteBackCard : Claim7 := { stood := { row := quoteBackRow, standIns := [], harness := (true, "d0012d72cef69f9730e2a304e08645ffc60294dade38b5c671693946ddb48f3c"), looks := true }, kinds := [], alts := [], laidByText := true, laidKinds := [.data, .sentinel, .pinned], laidTests := true, laidLooks := .later }
def QuoteBackCardSaid : Prop := Claim7.holds Tryd.pinned (.plain (OpenSpec.ofChange quoteBackSpec)) quoteBackCard

/-- THE TIED CARD OF 'millwrightlaw14.EnvPlays'. -/
def envPlaysCard : Claim7 := { stood := { row := envPlaysRow, standIns := [], harness := (true, "d0012d72cef69f9730e2a304e08645ffc60294dade38b5c671693946ddb48f3c"), looks := true }, kinds := [], alts := [], laidByText := true, laidKinds := [.sentinel, .sentinel, .sentinel, .sentinel, .sentinel, .sentinel, .sentinel, .sentinel, .sentinel, .sentinel, .sentinel, .sentinel, .sentinel, .sentinel, .sentinel, .sentinel, .sentinel, .sentinel], laidTests := true, laidLooks := .later }
def EnvPlaysCardSaid : Prop := Claim7.holds Tryd.pinned (.plain (OpenSpec.ofChange envPlaysSpec)) envPlaysCard

/-- THE TIED CARD OF 'millwrightlaw13.LexBack'. -/
def lexBackCard : Claim7 := { stood := { row := lexBackRow, standIns := [], harness := (true, "d0012d72cef69f9730e2a304e08645ffc60294dade38b5c671693946ddb48f3c"), looks := true }, kinds := [], alts := [], laidByText := true, laidKinds := [.data, .sentinel, .sentinel, .sentinel, .pinned], laidTests := true, laidLooks := .later }
def LexBackCardSaid : Prop := Claim7.holds Tryd.pinned (.plain (OpenSpec.ofChange lexBackSpec)) lexBackCard

/-- THE TIED CARD OF 'millwrightlaw13.LexTexts'. -/
def lexTextsCard : Claim7 := { stood := { row := lexTextsRow, standIns := [], harness := (true, "d0012d72cef69f9730e2a304e08645ffc60294dade38b5c671693946ddb48f3c"), looks := true }, kinds := [], alts := [], laidByText := true, laidKinds := [.data, .sentinel, .sentinel, .sentinel, .pinned], laidTests := true, laidLooks := .later }
def LexTextsCardSaid : Prop := Claim7.holds Tryd.pinned (.plain (OpenSpec.ofChange lexTextsSpec)) lexTextsCard

/-- THE SECOND FORM's CARD OF 'millwrightlaw14.EnvStays'. -/
def envStaysUptoCard : Claim7 := { stood := { row := envStaysUptoRow, standIns := [], harness := (true, "d0012d72cef69f9730e2a304e08645ffc60294dade38b5c671693946ddb48f3c"), looks := true }, kinds := [], alts := [], laidByText := true, laidKinds := [.sentinel, .sentinel, .sentinel, .sentinel], laidTests := true, laidLooks := .later }
def EnvStaysUptoCardSaid : Prop := Claim7.holds Tryd.pinned (.plain (OpenSpec.upto envStaysSpec)) envStaysUptoCard

/-- THE SECOND FORM's CARD OF 'millwrightlaw11.QuoteTexts'. -/
def quoteTextsUptoCard : Claim7 := { stood := { row := quoteTextsUptoRow, standIns := [], harness := (true, "d0012d72cef69f9730e2a304e08645ffc60294dade38b5c671693946ddb48f3c"), looks := true }, kinds := [], alts := [], laidByText := true, laidKinds := [.data, .sentinel, .pinned], laidTests := true, laidLooks := .later }
def QuoteTextsUptoCardSaid : Prop := Claim7.holds Tryd.pinned (.plain (OpenSpec.upto quoteTextsSpec)) quoteTextsUptoCard

/-- THE SECOND FORM's CARD OF 'millwrightlaw11.QuoteSplits'. -/
def quoteSplitsUptoCard : Claim7 := { stood := { row := quoteSplitsUptoRow, standIns := [], harness := (true, "d0012d72cef69f9730e2a304e08645ffc60294dade38b5c671693946ddb48f3c"), looks := true }, kinds := [], alts := [], laidByText := true, laidKinds := [.data, .sentinel, .sentinel, .sentinel, .sentinel, .sentinel, .sentinel, .sentinel, .sentinel, .sentinel, .sentinel, .sentinel, .sentinel, .sentinel, .sentinel, .sentinel, .sentinel, .sentinel, .sentinel, .pinned], laidTests := true, laidLooks := .later }
def QuoteSplitsUptoCardSaid : Prop := Claim7.holds Tryd.pinned (.plain (OpenSpec.upto quoteSplitsSpec)) quoteSplitsUptoCard

/-- THE SECOND FORM's CARD OF 'millwrightlaw11.QuoteBack'. -/
def quoteBackUptoCard : Claim7 := { stood := { row := quoteBackUptoRow, standIns := [], harness := (true, "d0012d72cef69f9730e2a304e08645ffc60294dade38b5c671693946ddb48f3c"), looks := true }, kinds := [], alts := [], laidByText := true, laidKinds := [.data, .sentinel, .pinned], laidTests := true, laidLooks := .later }
def QuoteBackUptoCardSaid : Prop := Claim7.holds Tryd.pinned (.plain (OpenSpec.upto quoteBackSpec)) quoteBackUptoCard

/-- THE SECOND FORM's CARD OF 'millwrightlaw14.EnvPlays'. -/
def envPlaysUptoCard : Claim7 := { stood := { row := envPlaysUptoRow, standIns := [], harness := (true, "d0012d72cef69f9730e2a304e08645ffc60294dade38b5c671693946ddb48f3c"), looks := true }, kinds := [], alts := [], laidByText := true, laidKinds := [.sentinel, .sentinel, .sentinel, .sentinel, .sentinel, .sentinel, .sentinel, .sentinel, .sentinel, .sentinel, .sentinel, .sentinel, .sentinel, .sentinel, .sentinel, .sentinel, .sentinel, .sentinel], laidTests := true, laidLooks := .later }
def EnvPlaysUptoCardSaid : Prop := Claim7.holds Tryd.pinned (.plain (OpenSpec.upto envPlaysSpec)) envPlaysUptoCard

/-- THE SECOND FORM's CARD OF 'millwrightlaw13.LexBack'. -/
def lexBackUptoCard : Claim7 := { stood := { row := lexBackUptoRow, standIns := [], harness := (true, "d0012d72cef69f9730e2a304e08645ffc60294dade38b5c671693946ddb48f3c"), looks := true }, kinds := [], alts := [], laidByText := true, laidKinds := [.data, .sentinel, .sentinel, .sentinel, .pinned], laidTests := true, laidLooks := .later }
def LexBackUptoCardSaid : Prop := Claim7.holds Tryd.pinned (.plain (OpenSpec.upto lexBackSpec)) lexBackUptoCard

/-- THE SECOND FORM's CARD OF 'millwrightlaw13.LexTexts'. -/
def lexTextsUptoCard : Claim7 := { stood := { row := lexTextsUptoRow, standIns := [], harness := (true, "d0012d72cef69f9730e2a304e08645ffc60294dade38b5c671693946ddb48f3c"), looks := true }, kinds := [], alts := [], laidByText := true, laidKinds := [.data, .sentinel, .sentinel, .sentinel, .pinned], laidTests := true, laidLooks := .later }
def LexTextsUptoCardSaid : Prop := Claim7.holds Tryd.pinned (.plain (OpenSpec.upto lexTextsSpec)) lexTextsUptoCard
end Rows
end Go.Proofs.YtfeaegjlhpgdmaaDoor
