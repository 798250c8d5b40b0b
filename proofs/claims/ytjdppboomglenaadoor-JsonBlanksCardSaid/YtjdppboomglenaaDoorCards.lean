/-
  DERIVED. GIVEN WITH THE SEED: THE CARDS: each row of YtjdppboomglenaaDoorRows.lean that lists a variable, with what it lists TIED to the program's text (the seventh form; the later family's looks); each row that meets fmt, with fmt's text TOLD by the authors' own Lean function (tested against real Go, not proved from fmt's source: count such statements apart). THE CARD IS WHAT COUNTS. Prove the row's statement (the work); the ties are given (YtjdppboomglenaaDoorTie.lean); close each card by the builder's one call (the guide's Derived/Test/ToyasCard.lean, 'card_holds'). Laid BY PROGRAM, IN A SANDBOX (cutbox-door.mjs). By AI agents, Wed Nov 11 2026. No macro, syntax, notation, axiom, sorry.
-/
import Derived.Test.YtjdppboomglenaaDoorRows
import GoSem.ClaimSeven
namespace Go.Proofs.YtjdppboomglenaaDoor
namespace Rows

/-- THE TIED CARD OF 'cascadelaw05.JsonEncodes'. -/
def jsonEncodesCard : Claim7 := { stood := { row := jsonEncodesRow, standIns := [], harness := (true, "e8f807f9bc45357f4c182420872849d22f2caf3bd1b55aa9f432a50e13321c9c"), looks := true }, kinds := [], alts := [], laidByText := true, laidKinds := [.data, .data, .data, .data, .pinned], laidTests := true, laidLooks := .later }
def JsonEncodesCardSaid : Prop := Claim7.holds Tryd.pinned (.plain (OpenSpec.ofChange jsonEncodesSpec)) jsonEncodesCard

/-- THE TIED CARD OF 'cascadelaw05.JsonOne'. -/
def jsonOneCard : Claim7 := { stood := { row := jsonOneRow, standIns := [], harness := (true, "e8f807f9bc45357f4c182420872849d22f2caf3bd1b55aa9f432a50e13321c9c"), looks := true }, kinds := [], alts := [], laidByText := true, laidKinds := [.data, .data, .data, .data, .pinned], laidTests := true, laidLooks := .later }
def JsonOneCardSaid : Prop := Claim7.holds Tryd.pinned (.plain (OpenSpec.ofChange jsonOneSpec)) jsonOneCard

/-- THE TIED CARD OF 'cascadelaw05.JsonBack'. -/
def jsonBackCard : Claim7 := { stood := { row := jsonBackRow, standIns := [], harness := (true, "e8f807f9bc45357f4c182420872849d22f2caf3bd1b55aa9f432a50e13321c9c"), looks := true }, kinds := [], alts := [], laidByText := true, laidKinds := [.data, .data, .data, .data, .sentinel, .sentinel, .pinned], laidTests := true, laidLooks := .later }
def JsonBackCardSaid : Prop := Claim7.holds Tryd.pinned (.plain (OpenSpec.ofChange jsonBackSpec)) jsonBackCard

/-- THE TIED CARD OF 'cascadelaw05.JsonBlanks'. -/
def jsonBlanksCard : Claim7 := { stood := { row := jsonBlanksRow, standIns := [], harness := (true, "e8f807f9bc45357f4c182420872849d22f2caf3bd1b55aa9f432a50e13321c9c"), looks := true }, kinds := [], alts := [], laidByText := true, laidKinds := [.data, .data, .data, .data, .sentinel, .sentinel, .pinned], laidTests := true, laidLooks := .later }
def JsonBlanksCardSaid : Prop := Claim7.holds Tryd.pinned (.plain (OpenSpec.ofChange jsonBlanksSpec)) jsonBlanksCard

/-- THE SECOND FORM's CARD OF 'cascadelaw05.JsonEncodes'. -/
def jsonEncodesUptoCard : Claim7 := { stood := { row := jsonEncodesUptoRow, standIns := [], harness := (true, "e8f807f9bc45357f4c182420872849d22f2caf3bd1b55aa9f432a50e13321c9c"), looks := true }, kinds := [], alts := [], laidByText := true, laidKinds := [.data, .data, .data, .data, .pinned], laidTests := true, laidLooks := .later }
def JsonEncodesUptoCardSaid : Prop := Claim7.holds Tryd.pinned (.plain (OpenSpec.upto jsonEncodesSpec)) jsonEncodesUptoCard

/-- THE SECOND FORM's CARD OF 'cascadelaw05.JsonOne'. -/
def jsonOneUptoCard : Claim7 := { stood := { row := jsonOneUptoRow, standIns := [], harness := (true, "e8f807f9bc45357f4c182420872849d22f2caf3bd1b55aa9f432a50e13321c9c"), looks := true }, kinds := [], alts := [], laidByText := true, laidKinds := [.data, .data, .data, .data, .pinned], laidTests := true, laidLooks := .later }
def JsonOneUptoCardSaid : Prop := Claim7.holds Tryd.pinned (.plain (OpenSpec.upto jsonOneSpec)) jsonOneUptoCard

/-- THE SECOND FORM's CARD OF 'cascadelaw05.JsonBack'. -/
def jsonBackUptoCard : Claim7 := { stood := { row := jsonBackUptoRow, standIns := [], harness := (true, "e8f807f9bc45357f4c182420872849d22f2caf3bd1b55aa9f432a50e13321c9c"), looks := true }, kinds := [], alts := [], laidByText := true, laidKinds := [.data, .data, .data, .data, .sentinel, .sentinel, .pinned], laidTests := true, laidLooks := .later }
def JsonBackUptoCardSaid : Prop := Claim7.holds Tryd.pinned (.plain (OpenSpec.upto jsonBackSpec)) jsonBackUptoCard

/-- THE SECOND FORM's CARD OF 'cascadelaw05.JsonBlanks'. -/
def jsonBlanksUptoCard : Claim7 := { stood := { row := jsonBlanksUptoRow, standIns := [], harness := (true, "e8f807f9bc45357f4c182420872849d22f2caf3bd1b55aa9f432a50e13321c9c"), looks := true }, kinds := [], alts := [], laidByText := true, laidKinds := [.data, .data, .data, .data, .sentinel, .sentinel, .pinned], laidTests := true, laidLooks := .later }
def JsonBlanksUptoCardSaid : Prop := Claim7.holds Tryd.pinned (.plain (OpenSpec.upto jsonBlanksSpec)) jsonBlanksUptoCard
end Rows
end Go.Proofs.YtjdppboomglenaaDoor
