/-
  DERIVED. GIVEN WITH THE SEED: THE CARDS: each row of YtcblgpcgdihcbaaGreatDoorRows.lean that lists a variable, with what it lists TIED to the program's text (the seventh form; the later family's looks); each row that meets fmt, with fmt's text TOLD by the authors' own Lean function (tested against real Go, not proved from fmt's source: count such statements apart). THE CARD IS WHAT COUNTS. Prove the row's statement (the work); the ties are given (YtcblgpcgdihcbaaGreatDoorTie.lean); close each card by the builder's one call (the guide's Derived/Test/ToyasCard.lean, 'card_holds'). Laid BY PROGRAM, IN A SANDBOX (cutbox-door.mjs). By AI agents, Wed Nov 11 2026. No macro, syntax, notation, axiom, sorry.
-/
import Derived.Test.YtcblgpcgdihcbaaGreatDoorRows
import GoSem.ClaimSeven
namespace Go.Proofs.YtcblgpcgdihcbaaGreatDoor
namespace Rows

/-- THE TIED CARD OF 'millwrightlaw04.StatApart'. -/
def statApartCard : Claim7 := { stood := { row := statApartRow, standIns := [], harness := (true, "83dc3adae3b8a51b4728ce0736b03047bc5d80037a2a9d303c4522936b0f14a3"), looks := true }, kinds := [], alts := [], laidByText := true, laidKinds := [.data, .data, .data, .data, .sentinel, .sentinel, .sentinel, .sentinel, .sentinel, .sentinel, .sentinel, .sentinel, .pinned], laidTests := true, laidLooks := .later }
def StatApartCardSaid : Prop := Claim7.holds Tryz.pinned (.plain (OpenSpec.ofChange statApartSpec)) statApartCard

/-- THE TIED CARD OF 'millwrightlaw05.EffectTouches'. -/
def effectTouchesCard : Claim7 := { stood := { row := effectTouchesRow, standIns := [], harness := (true, "83dc3adae3b8a51b4728ce0736b03047bc5d80037a2a9d303c4522936b0f14a3"), looks := true }, kinds := [], alts := [], laidByText := true, laidKinds := [.data, .data, .data, .data, .sentinel, .sentinel, .sentinel, .sentinel, .sentinel, .sentinel, .sentinel, .sentinel, .sentinel, .sentinel, .pinned], laidTests := true, laidLooks := .later }
def EffectTouchesCardSaid : Prop := Claim7.holds Tryz.pinned (.plain (OpenSpec.ofChange effectTouchesSpec)) effectTouchesCard

/-- THE TIED CARD OF 'millwrightlaw05.EffectOwn'. -/
def effectOwnCard : Claim7 := { stood := { row := effectOwnRow, standIns := [], harness := (true, "83dc3adae3b8a51b4728ce0736b03047bc5d80037a2a9d303c4522936b0f14a3"), looks := true }, kinds := [], alts := [], laidByText := true, laidKinds := [.data, .data, .data, .data, .sentinel, .sentinel, .sentinel, .sentinel, .sentinel, .sentinel, .sentinel, .sentinel, .sentinel, .sentinel, .pinned], laidTests := true, laidLooks := .later }
def EffectOwnCardSaid : Prop := Claim7.holds Tryz.pinned (.plain (OpenSpec.ofChange effectOwnSpec)) effectOwnCard

/-- THE TIED CARD OF 'millwrightlaw04.StatSets'. -/
def statSetsCard : Claim7 := { stood := { row := statSetsRow, standIns := [], harness := (true, "83dc3adae3b8a51b4728ce0736b03047bc5d80037a2a9d303c4522936b0f14a3"), looks := true }, kinds := [], alts := [], laidByText := true, laidKinds := [.data, .data, .data, .data, .sentinel, .sentinel, .sentinel, .sentinel, .sentinel, .sentinel, .sentinel, .sentinel, .sentinel, .sentinel, .sentinel, .sentinel, .sentinel, .sentinel, .sentinel, .sentinel, .sentinel, .sentinel, .sentinel, .sentinel, .pinned], laidTests := true, laidLooks := .later }
def StatSetsCardSaid : Prop := Claim7.holds Tryz.pinned (.plain (OpenSpec.ofChange statSetsSpec)) statSetsCard

/-- THE TIED CARD OF 'millwrightlaw05.EffectApplies'. -/
def effectAppliesCard : Claim7 := { stood := { row := effectAppliesRow, standIns := [], harness := (true, "83dc3adae3b8a51b4728ce0736b03047bc5d80037a2a9d303c4522936b0f14a3"), looks := true }, kinds := [], alts := [], laidByText := true, laidKinds := [.data, .data, .data, .data, .sentinel, .sentinel, .sentinel, .sentinel, .sentinel, .sentinel, .sentinel, .sentinel, .sentinel, .sentinel, .sentinel, .sentinel, .sentinel, .sentinel, .sentinel, .sentinel, .sentinel, .sentinel, .sentinel, .sentinel, .pinned], laidTests := true, laidLooks := .later }
def EffectAppliesCardSaid : Prop := Claim7.holds Tryz.pinned (.plain (OpenSpec.ofChange effectAppliesSpec)) effectAppliesCard

/-- THE SECOND FORM's CARD OF 'millwrightlaw04.StatApart'. -/
def statApartUptoCard : Claim7 := { stood := { row := statApartUptoRow, standIns := [], harness := (true, "83dc3adae3b8a51b4728ce0736b03047bc5d80037a2a9d303c4522936b0f14a3"), looks := true }, kinds := [], alts := [], laidByText := true, laidKinds := [.data, .data, .data, .data, .sentinel, .sentinel, .sentinel, .sentinel, .sentinel, .sentinel, .sentinel, .sentinel, .pinned], laidTests := true, laidLooks := .later }
def StatApartUptoCardSaid : Prop := Claim7.holds Tryz.pinned (.plain (OpenSpec.upto statApartSpec)) statApartUptoCard

/-- THE SECOND FORM's CARD OF 'millwrightlaw05.EffectTouches'. -/
def effectTouchesUptoCard : Claim7 := { stood := { row := effectTouchesUptoRow, standIns := [], harness := (true, "83dc3adae3b8a51b4728ce0736b03047bc5d80037a2a9d303c4522936b0f14a3"), looks := true }, kinds := [], alts := [], laidByText := true, laidKinds := [.data, .data, .data, .data, .sentinel, .sentinel, .sentinel, .sentinel, .sentinel, .sentinel, .sentinel, .sentinel, .sentinel, .sentinel, .pinned], laidTests := true, laidLooks := .later }
def EffectTouchesUptoCardSaid : Prop := Claim7.holds Tryz.pinned (.plain (OpenSpec.upto effectTouchesSpec)) effectTouchesUptoCard

/-- THE SECOND FORM's CARD OF 'millwrightlaw05.EffectOwn'. -/
def effectOwnUptoCard : Claim7 := { stood := { row := effectOwnUptoRow, standIns := [], harness := (true, "83dc3adae3b8a51b4728ce0736b03047bc5d80037a2a9d303c4522936b0f14a3"), looks := true }, kinds := [], alts := [], laidByText := true, laidKinds := [.data, .data, .data, .data, .sentinel, .sentinel, .sentinel, .sentinel, .sentinel, .sentinel, .sentinel, .sentinel, .sentinel, .sentinel, .pinned], laidTests := true, laidLooks := .later }
def EffectOwnUptoCardSaid : Prop := Claim7.holds Tryz.pinned (.plain (OpenSpec.upto effectOwnSpec)) effectOwnUptoCard

/-- THE SECOND FORM's CARD OF 'millwrightlaw04.StatSets'. -/
def statSetsUptoCard : Claim7 := { stood := { row := statSetsUptoRow, standIns := [], harness := (true, "83dc3adae3b8a51b4728ce0736b03047bc5d80037a2a9d303c4522936b0f14a3"), looks := true }, kinds := [], alts := [], laidByText := true, laidKinds := [.data, .data, .data, .data, .sentinel, .sentinel, .sentinel, .sentinel, .sentinel, .sentinel, .sentinel, .sentinel, .sentinel, .sentinel, .sentinel, .sentinel, .sentinel, .sentinel, .sentinel, .sentinel, .sentinel, .sentinel, .sentinel, .sentinel, .pinned], laidTests := true, laidLooks := .later }
def StatSetsUptoCardSaid : Prop := Claim7.holds Tryz.pinned (.plain (OpenSpec.upto statSetsSpec)) statSetsUptoCard

/-- THE SECOND FORM's CARD OF 'millwrightlaw05.EffectApplies'. -/
def effectAppliesUptoCard : Claim7 := { stood := { row := effectAppliesUptoRow, standIns := [], harness := (true, "83dc3adae3b8a51b4728ce0736b03047bc5d80037a2a9d303c4522936b0f14a3"), looks := true }, kinds := [], alts := [], laidByText := true, laidKinds := [.data, .data, .data, .data, .sentinel, .sentinel, .sentinel, .sentinel, .sentinel, .sentinel, .sentinel, .sentinel, .sentinel, .sentinel, .sentinel, .sentinel, .sentinel, .sentinel, .sentinel, .sentinel, .sentinel, .sentinel, .sentinel, .sentinel, .pinned], laidTests := true, laidLooks := .later }
def EffectAppliesUptoCardSaid : Prop := Claim7.holds Tryz.pinned (.plain (OpenSpec.upto effectAppliesSpec)) effectAppliesUptoCard
end Rows
end Go.Proofs.YtcblgpcgdihcbaaGreatDoor
