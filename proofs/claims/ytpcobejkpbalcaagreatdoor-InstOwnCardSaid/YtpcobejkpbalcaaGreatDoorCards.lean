/-
  DERIVED. GIVEN WITH THE SEED: THE CARDS: each row of YtpcobejkpbalcaaGreatDoorRows.lean that lists a variable, with what it lists TIED to the program's text (the seventh form; the later family's looks); each row that meets fmt, with fmt's text TOLD by the authors' own Lean function (tested against real Go, not proved from fmt's source: count such statements apart). THE CARD IS WHAT COUNTS. Prove the row's statement (the work); the ties are given (YtpcobejkpbalcaaGreatDoorTie.lean); close each card by the builder's one call (the guide's Derived/Test/ToyasCard.lean, 'card_holds'). Laid BY PROGRAM, IN A SANDBOX (cutbox-door.mjs). By AI agents, Wed Nov 11 2026. No macro, syntax, notation, axiom, sorry.
-/
import Derived.Test.YtpcobejkpbalcaaGreatDoorRows
import GoSem.ClaimSeven
namespace Go.Proofs.YtpcobejkpbalcaaGreatDoor
namespace Rows

/-- THE TIED CARD OF 'millwrightlaw22.InstOwn'. -/
def instOwnCard : Claim7 := { stood := { row := instOwnRow, standIns := [], harness := (true, "b1c1e79fe2405ca63113790af90437480b0f2dd5b806d6b6464f73d8532b4643"), looks := true }, kinds := [], alts := [], laidByText := true, laidKinds := [.sentinel, .sentinel, .sentinel, .sentinel, .sentinel, .sentinel, .sentinel, .sentinel, .sentinel, .sentinel, .sentinel, .sentinel, .sentinel, .sentinel, .sentinel, .sentinel, .sentinel, .sentinel, .data], laidTests := true, laidLooks := .later }
def InstOwnCardSaid : Prop := Claim7.holds Tryz.pinned (.plain (OpenSpec.ofChange instOwnSpec)) instOwnCard

/-- THE TIED CARD OF 'millwrightlaw22.InstTells'. -/
def instTellsCard : Claim7 := { stood := { row := instTellsRow, standIns := [], harness := (true, "b1c1e79fe2405ca63113790af90437480b0f2dd5b806d6b6464f73d8532b4643"), looks := true }, kinds := [], alts := [], laidByText := true, laidKinds := [.sentinel, .sentinel, .sentinel, .sentinel, .sentinel, .sentinel, .sentinel, .sentinel, .sentinel, .sentinel, .sentinel, .sentinel, .sentinel, .sentinel, .sentinel, .sentinel, .sentinel, .sentinel, .data], laidTests := true, laidLooks := .later }
def InstTellsCardSaid : Prop := Claim7.holds Tryz.pinned (.plain (OpenSpec.ofChange instTellsSpec)) instTellsCard

/-- THE TIED CARD OF 'millwrightlaw21.TableTells'. -/
def tableTellsCard : Claim7 := { stood := { row := tableTellsRow, standIns := [], harness := (true, "b1c1e79fe2405ca63113790af90437480b0f2dd5b806d6b6464f73d8532b4643"), looks := true }, kinds := [], alts := [], laidByText := true, laidKinds := [.handle, .sentinel, .sentinel, .sentinel, .sentinel, .sentinel, .sentinel, .sentinel, .sentinel, .sentinel, .sentinel, .sentinel, .sentinel, .sentinel, .sentinel, .sentinel, .sentinel, .sentinel, .sentinel, .data], laidTests := true, laidLooks := .later }
def TableTellsCardSaid : Prop := Claim7.holds Tryz.pinned (.plain (OpenSpec.ofChange tableTellsSpec)) tableTellsCard

/-- THE SECOND FORM's CARD OF 'millwrightlaw22.InstOwn'. -/
def instOwnUptoCard : Claim7 := { stood := { row := instOwnUptoRow, standIns := [], harness := (true, "b1c1e79fe2405ca63113790af90437480b0f2dd5b806d6b6464f73d8532b4643"), looks := true }, kinds := [], alts := [], laidByText := true, laidKinds := [.sentinel, .sentinel, .sentinel, .sentinel, .sentinel, .sentinel, .sentinel, .sentinel, .sentinel, .sentinel, .sentinel, .sentinel, .sentinel, .sentinel, .sentinel, .sentinel, .sentinel, .sentinel, .data], laidTests := true, laidLooks := .later }
def InstOwnUptoCardSaid : Prop := Claim7.holds Tryz.pinned (.plain (OpenSpec.upto instOwnSpec)) instOwnUptoCard

/-- THE SECOND FORM's CARD OF 'millwrightlaw22.InstTells'. -/
def instTellsUptoCard : Claim7 := { stood := { row := instTellsUptoRow, standIns := [], harness := (true, "b1c1e79fe2405ca63113790af90437480b0f2dd5b806d6b6464f73d8532b4643"), looks := true }, kinds := [], alts := [], laidByText := true, laidKinds := [.sentinel, .sentinel, .sentinel, .sentinel, .sentinel, .sentinel, .sentinel, .sentinel, .sentinel, .sentinel, .sentinel, .sentinel, .sentinel, .sentinel, .sentinel, .sentinel, .sentinel, .sentinel, .data], laidTests := true, laidLooks := .later }
def InstTellsUptoCardSaid : Prop := Claim7.holds Tryz.pinned (.plain (OpenSpec.upto instTellsSpec)) instTellsUptoCard

/-- THE SECOND FORM's CARD OF 'millwrightlaw21.TableTells'. -/
def tableTellsUptoCard : Claim7 := { stood := { row := tableTellsUptoRow, standIns := [], harness := (true, "b1c1e79fe2405ca63113790af90437480b0f2dd5b806d6b6464f73d8532b4643"), looks := true }, kinds := [], alts := [], laidByText := true, laidKinds := [.handle, .sentinel, .sentinel, .sentinel, .sentinel, .sentinel, .sentinel, .sentinel, .sentinel, .sentinel, .sentinel, .sentinel, .sentinel, .sentinel, .sentinel, .sentinel, .sentinel, .sentinel, .sentinel, .data], laidTests := true, laidLooks := .later }
def TableTellsUptoCardSaid : Prop := Claim7.holds Tryz.pinned (.plain (OpenSpec.upto tableTellsSpec)) tableTellsUptoCard
end Rows
end Go.Proofs.YtpcobejkpbalcaaGreatDoor
