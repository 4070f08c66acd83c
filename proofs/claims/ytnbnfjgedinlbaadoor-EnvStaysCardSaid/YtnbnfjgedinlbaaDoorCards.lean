/-
  DERIVED. GIVEN WITH THE SEED: THE CARDS: each row of YtnbnfjgedinlbaaDoorRows.lean that lists a variable, with what it lists TIED to the program's text (the seventh form; the later family's looks); each row that meets fmt, with fmt's text TOLD by the authors' own Lean function (tested against real Go, not proved from fmt's source: count such statements apart). THE CARD IS WHAT COUNTS. Prove the row's statement (the work); the ties are given (YtnbnfjgedinlbaaDoorTie.lean); close each card by the builder's one call (the guide's Derived/Test/ToyasCard.lean, 'card_holds'). Laid BY PROGRAM, IN A SANDBOX (cutbox-door.mjs). By AI agents, Wed Nov 11 2026. No macro, syntax, notation, axiom, sorry.
-/
import Derived.Test.YtnbnfjgedinlbaaDoorRows
import GoSem.ClaimSeven
namespace Go.Proofs.YtnbnfjgedinlbaaDoor
namespace Rows

/-- THE TIED CARD OF 'millwrightlaw14.EnvStays'. -/
def envStaysCard : Claim7 := { stood := { row := envStaysRow, standIns := [], harness := (true, "d5aab7aa389d37c2b7a73d0c17e8321910a0e236e4092184309319ac38d0a143"), looks := true }, kinds := [], alts := [], laidByText := true, laidKinds := [.sentinel, .sentinel, .sentinel, .sentinel], laidTests := true, laidLooks := .later }
def EnvStaysCardSaid : Prop := Claim7.holds Tryd.pinned (.plain (OpenSpec.ofChange envStaysSpec)) envStaysCard

/-- THE TIED CARD OF 'millwrightlaw11.QuoteTexts'. -/
def quoteTextsCard : Claim7 := { stood := { row := quoteTextsRow, standIns := [], harness := (true, "d5aab7aa389d37c2b7a73d0c17e8321910a0e236e4092184309319ac38d0a143"), looks := true }, kinds := [], alts := [], laidByText := true, laidKinds := [.data, .sentinel, .pinned], laidTests := true, laidLooks := .later }
def QuoteTextsCardSaid : Prop := Claim7.holds Tryd.pinned (.plain (OpenSpec.ofChange quoteTextsSpec)) quoteTextsCard

/-- THE TIED CARD OF 'millwrightlaw11.QuoteSplits'. -/
def quoteSplitsCard : Claim7 := { stood := { row := quoteSplitsRow, standIns := [], harness := (true, "d5aab7aa389d37c2b7a73d0c17e8321910a0e236e4092184309319ac38d0a143"), looks := true }, kinds := [], alts := [], laidByText := true, laidKinds := [.data, .sentinel, .sentinel, .sentinel, .sentinel, .sentinel, .sentinel, .sentinel, .sentinel, .sentinel, .sentinel, .sentinel, .sentinel, .sentinel, .sentinel, .sentinel, .sentinel, .sentinel, .sentinel, .pinned], laidTests := true, laidLooks := .later }
def QuoteSplitsCardSaid : Prop := Claim7.holds Tryd.pinned (.plain (OpenSpec.ofChange quoteSplitsSpec)) quoteSplitsCard

/-- THE SECOND FORM's CARD OF 'millwrightlaw14.EnvStays'. -/
def envStaysUptoCard : Claim7 := { stood := { row := envStaysUptoRow, standIns := [], harness := (true, "d5aab7aa389d37c2b7a73d0c17e8321910a0e236e4092184309319ac38d0a143"), looks := true }, kinds := [], alts := [], laidByText := true, laidKinds := [.sentinel, .sentinel, .sentinel, .sentinel], laidTests := true, laidLooks := .later }
def EnvStaysUptoCardSaid : Prop := Claim7.holds Tryd.pinned (.plain (OpenSpec.upto envStaysSpec)) envStaysUptoCard

/-- THE SECOND FORM's CARD OF 'millwrightlaw11.QuoteTexts'. -/
def quoteTextsUptoCard : Claim7 := { stood := { row := quoteTextsUptoRow, standIns := [], harness := (true, "d5aab7aa389d37c2b7a73d0c17e8321910a0e236e4092184309319ac38d0a143"), looks := true }, kinds := [], alts := [], laidByText := true, laidKinds := [.data, .sentinel, .pinned], laidTests := true, laidLooks := .later }
def QuoteTextsUptoCardSaid : Prop := Claim7.holds Tryd.pinned (.plain (OpenSpec.upto quoteTextsSpec)) quoteTextsUptoCard

/-- THE SECOND FORM's CARD OF 'millwrightlaw11.QuoteSplits'. -/
def quoteSplitsUptoCard : Claim7 := { stood := { row := quoteSplitsUptoRow, standIns := [], harness := (true, "d5aab7aa389d37c2b7a73d0c17e8321910a0e236e4092184309319ac38d0a143"), looks := true }, kinds := [], alts := [], laidByText := true, laidKinds := [.data, .sentinel, .sentinel, .sentinel, .sentinel, .sentinel, .sentinel, .sentinel, .sentinel, .sentinel, .sentinel, .sentinel, .sentinel, .sentinel, .sentinel, .sentinel, .sentinel, .sentinel, .sentinel, .pinned], laidTests := true, laidLooks := .later }
def QuoteSplitsUptoCardSaid : Prop := Claim7.holds Tryd.pinned (.plain (OpenSpec.upto quoteSplitsSpec)) quoteSplitsUptoCard
end Rows
end Go.Proofs.YtnbnfjgedinlbaaDoor
