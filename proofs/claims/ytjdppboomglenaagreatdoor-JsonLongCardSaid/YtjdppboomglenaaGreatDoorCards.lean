/-
  DERIVED. GIVEN WITH THE SEED: THE CARDS: each row of YtjdppboomglenaaGreatDoorRows.lean that lists a variable, with what it lists TIED to the program's text (the seventh form; the later family's looks); each row that meets fmt, with fmt's text TOLD by the authors' own Lean function (tested against real Go, not proved from fmt's source: count such statements apart). THE CARD IS WHAT COUNTS. Prove the row's statement (the work); the ties are given (YtjdppboomglenaaGreatDoorTie.lean); close each card by the builder's one call (the guide's Derived/Test/ToyasCard.lean, 'card_holds'). Laid BY PROGRAM, IN A SANDBOX (cutbox-door.mjs). By AI agents, Wed Nov 11 2026. No macro, syntax, notation, axiom, sorry.
-/
import Derived.Test.YtjdppboomglenaaGreatDoorRows
import GoSem.ClaimSeven
namespace Go.Proofs.YtjdppboomglenaaGreatDoor
namespace Rows

/-- THE TIED CARD OF 'cascadelaw05.JsonParses'. -/
def jsonParsesCard : Claim7 := { stood := { row := jsonParsesRow, standIns := [], harness := (true, "635434f4aea0e03bb61a85934481a69f72a56f3370299001b3db96dabd32cd06"), looks := true }, kinds := [], alts := [], laidByText := true, laidKinds := [.data, .data, .data, .data, .sentinel, .sentinel, .pinned], laidTests := true, laidLooks := .later }
def JsonParsesCardSaid : Prop := Claim7.holds Tryz.pinned (.plain (OpenSpec.ofChange jsonParsesSpec)) jsonParsesCard

/-- THE TIED CARD OF 'cascadelaw05.JsonLong'. -/
def jsonLongCard : Claim7 := { stood := { row := jsonLongRow, standIns := [], harness := (true, "635434f4aea0e03bb61a85934481a69f72a56f3370299001b3db96dabd32cd06"), looks := true }, kinds := [], alts := [], laidByText := true, laidKinds := [.data, .data, .data, .data, .sentinel, .sentinel, .pinned], laidTests := true, laidLooks := .later }
def JsonLongCardSaid : Prop := Claim7.holds Tryz.pinned (.plain (OpenSpec.ofChange jsonLongSpec)) jsonLongCard

/-- THE SECOND FORM's CARD OF 'cascadelaw05.JsonParses'. -/
def jsonParsesUptoCard : Claim7 := { stood := { row := jsonParsesUptoRow, standIns := [], harness := (true, "635434f4aea0e03bb61a85934481a69f72a56f3370299001b3db96dabd32cd06"), looks := true }, kinds := [], alts := [], laidByText := true, laidKinds := [.data, .data, .data, .data, .sentinel, .sentinel, .pinned], laidTests := true, laidLooks := .later }
def JsonParsesUptoCardSaid : Prop := Claim7.holds Tryz.pinned (.plain (OpenSpec.upto jsonParsesSpec)) jsonParsesUptoCard

/-- THE SECOND FORM's CARD OF 'cascadelaw05.JsonLong'. -/
def jsonLongUptoCard : Claim7 := { stood := { row := jsonLongUptoRow, standIns := [], harness := (true, "635434f4aea0e03bb61a85934481a69f72a56f3370299001b3db96dabd32cd06"), looks := true }, kinds := [], alts := [], laidByText := true, laidKinds := [.data, .data, .data, .data, .sentinel, .sentinel, .pinned], laidTests := true, laidLooks := .later }
def JsonLongUptoCardSaid : Prop := Claim7.holds Tryz.pinned (.plain (OpenSpec.upto jsonLongSpec)) jsonLongUptoCard
end Rows
end Go.Proofs.YtjdppboomglenaaGreatDoor
