/-
  DERIVED. GIVEN WITH THE SEED: THE CARDS: each row of YtpcobejkpbalcaaDoorRows.lean that lists a variable, with what it lists TIED to the program's text (the seventh form; the later family's looks); each row that meets fmt, with fmt's text TOLD by the authors' own Lean function (tested against real Go, not proved from fmt's source: count such statements apart). THE CARD IS WHAT COUNTS. Prove the row's statement (the work); the ties are given (YtpcobejkpbalcaaDoorTie.lean); close each card by the builder's one call (the guide's Derived/Test/ToyasCard.lean, 'card_holds'). Laid BY PROGRAM, IN A SANDBOX (cutbox-door.mjs). By AI agents, Wed Nov 11 2026. No macro, syntax, notation, axiom, sorry.
-/
import Derived.Test.YtpcobejkpbalcaaDoorRows
import GoSem.ClaimSeven
namespace Go.Proofs.YtpcobejkpbalcaaDoor
namespace Rows

/-- THE TIED CARD OF 'millwrightlaw08.ProgOf'. -/
def progOfCard : Claim7 := { stood := { row := progOfRow, standIns := [], harness := (true, "d43844bbb2419a24c78c0c58aaee959ae6adc79715724dd985dd81aa8c052edf"), looks := true }, kinds := [], alts := [], laidByText := true, laidKinds := [.sentinel, .sentinel, .sentinel, .sentinel, .sentinel, .sentinel, .sentinel, .sentinel, .sentinel, .sentinel, .sentinel, .sentinel, .sentinel, .sentinel, .sentinel, .sentinel, .sentinel, .sentinel, .data], laidTests := true, laidLooks := .later }
def ProgOfCardSaid : Prop := Claim7.holds Tryd.pinned (.plain (OpenSpec.ofChange progOfSpec)) progOfCard

/-- THE SECOND FORM's CARD OF 'millwrightlaw08.ProgOf'. -/
def progOfUptoCard : Claim7 := { stood := { row := progOfUptoRow, standIns := [], harness := (true, "d43844bbb2419a24c78c0c58aaee959ae6adc79715724dd985dd81aa8c052edf"), looks := true }, kinds := [], alts := [], laidByText := true, laidKinds := [.sentinel, .sentinel, .sentinel, .sentinel, .sentinel, .sentinel, .sentinel, .sentinel, .sentinel, .sentinel, .sentinel, .sentinel, .sentinel, .sentinel, .sentinel, .sentinel, .sentinel, .sentinel, .data], laidTests := true, laidLooks := .later }
def ProgOfUptoCardSaid : Prop := Claim7.holds Tryd.pinned (.plain (OpenSpec.upto progOfSpec)) progOfUptoCard
end Rows
end Go.Proofs.YtpcobejkpbalcaaDoor
