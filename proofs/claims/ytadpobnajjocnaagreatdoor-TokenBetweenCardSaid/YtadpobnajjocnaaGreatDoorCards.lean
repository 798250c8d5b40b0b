/-
  DERIVED. GIVEN WITH THE SEED: THE CARDS: each row of YtadpobnajjocnaaGreatDoorRows.lean that lists a variable, with what it lists TIED to the program's text (the seventh form; the later family's looks); each row that meets fmt, with fmt's text TOLD by the authors' own Lean function (tested against real Go, not proved from fmt's source: count such statements apart). THE CARD IS WHAT COUNTS. Prove the row's statement (the work); the ties are given (YtadpobnajjocnaaGreatDoorTie.lean); close each card by the builder's one call (the guide's Derived/Test/ToyasCard.lean, 'card_holds'). Laid BY PROGRAM, IN A SANDBOX (cutbox-door.mjs). By AI agents, Wed Nov 11 2026. No macro, syntax, notation, axiom, sorry.
-/
import Derived.Test.YtadpobnajjocnaaGreatDoorRows
import GoSem.ClaimSeven
namespace Go.Proofs.YtadpobnajjocnaaGreatDoor
namespace Rows

/-- THE TIED CARD OF 'cascadelaw08.TokenCuts'. -/
def tokenCutsCard : Claim7 := { stood := { row := tokenCutsRow, standIns := [], harness := (true, "01df60890fc4e2f272fef9cc2e19dafa98ad8307d92186c33f467758a6c3c8c5"), looks := true }, kinds := [], alts := [], laidByText := true, laidKinds := [.data, .data, .data, .data, .sentinel, .sentinel, .pinned], laidTests := true, laidLooks := .later }
def TokenCutsCardSaid : Prop := Claim7.holds Tryz.pinned (.plain (OpenSpec.ofChange tokenCutsSpec)) tokenCutsCard

/-- THE TIED CARD OF 'cascadelaw08.TokenPlain'. -/
def tokenPlainCard : Claim7 := { stood := { row := tokenPlainRow, standIns := [], harness := (true, "01df60890fc4e2f272fef9cc2e19dafa98ad8307d92186c33f467758a6c3c8c5"), looks := true }, kinds := [], alts := [], laidByText := true, laidKinds := [.data, .data, .data, .data, .sentinel, .sentinel, .pinned], laidTests := true, laidLooks := .later }
def TokenPlainCardSaid : Prop := Claim7.holds Tryz.pinned (.plain (OpenSpec.ofChange tokenPlainSpec)) tokenPlainCard

/-- THE TIED CARD OF 'cascadelaw08.TokenBack'. -/
def tokenBackCard : Claim7 := { stood := { row := tokenBackRow, standIns := [], harness := (true, "01df60890fc4e2f272fef9cc2e19dafa98ad8307d92186c33f467758a6c3c8c5"), looks := true }, kinds := [], alts := [], laidByText := true, laidKinds := [.data, .data, .data, .data, .sentinel, .sentinel, .pinned], laidTests := true, laidLooks := .later }
def TokenBackCardSaid : Prop := Claim7.holds Tryz.pinned (.plain (OpenSpec.ofChange tokenBackSpec)) tokenBackCard

/-- THE TIED CARD OF 'cascadelaw08.TokenBetween'. -/
def tokenBetweenCard : Claim7 := { stood := { row := tokenBetweenRow, standIns := [], harness := (true, "01df60890fc4e2f272fef9cc2e19dafa98ad8307d92186c33f467758a6c3c8c5"), looks := true }, kinds := [], alts := [], laidByText := true, laidKinds := [.data, .data, .data, .data, .sentinel, .sentinel, .pinned], laidTests := true, laidLooks := .later }
def TokenBetweenCardSaid : Prop := Claim7.holds Tryz.pinned (.plain (OpenSpec.ofChange tokenBetweenSpec)) tokenBetweenCard

/-- THE SECOND FORM's CARD OF 'cascadelaw08.TokenCuts'. -/
def tokenCutsUptoCard : Claim7 := { stood := { row := tokenCutsUptoRow, standIns := [], harness := (true, "01df60890fc4e2f272fef9cc2e19dafa98ad8307d92186c33f467758a6c3c8c5"), looks := true }, kinds := [], alts := [], laidByText := true, laidKinds := [.data, .data, .data, .data, .sentinel, .sentinel, .pinned], laidTests := true, laidLooks := .later }
def TokenCutsUptoCardSaid : Prop := Claim7.holds Tryz.pinned (.plain (OpenSpec.upto tokenCutsSpec)) tokenCutsUptoCard

/-- THE SECOND FORM's CARD OF 'cascadelaw08.TokenPlain'. -/
def tokenPlainUptoCard : Claim7 := { stood := { row := tokenPlainUptoRow, standIns := [], harness := (true, "01df60890fc4e2f272fef9cc2e19dafa98ad8307d92186c33f467758a6c3c8c5"), looks := true }, kinds := [], alts := [], laidByText := true, laidKinds := [.data, .data, .data, .data, .sentinel, .sentinel, .pinned], laidTests := true, laidLooks := .later }
def TokenPlainUptoCardSaid : Prop := Claim7.holds Tryz.pinned (.plain (OpenSpec.upto tokenPlainSpec)) tokenPlainUptoCard

/-- THE SECOND FORM's CARD OF 'cascadelaw08.TokenBack'. -/
def tokenBackUptoCard : Claim7 := { stood := { row := tokenBackUptoRow, standIns := [], harness := (true, "01df60890fc4e2f272fef9cc2e19dafa98ad8307d92186c33f467758a6c3c8c5"), looks := true }, kinds := [], alts := [], laidByText := true, laidKinds := [.data, .data, .data, .data, .sentinel, .sentinel, .pinned], laidTests := true, laidLooks := .later }
def TokenBackUptoCardSaid : Prop := Claim7.holds Tryz.pinned (.plain (OpenSpec.upto tokenBackSpec)) tokenBackUptoCard

/-- THE SECOND FORM's CARD OF 'cascadelaw08.TokenBetween'. -/
def tokenBetweenUptoCard : Claim7 := { stood := { row := tokenBetweenUptoRow, standIns := [], harness := (true, "01df60890fc4e2f272fef9cc2e19dafa98ad8307d92186c33f467758a6c3c8c5"), looks := true }, kinds := [], alts := [], laidByText := true, laidKinds := [.data, .data, .data, .data, .sentinel, .sentinel, .pinned], laidTests := true, laidLooks := .later }
def TokenBetweenUptoCardSaid : Prop := Claim7.holds Tryz.pinned (.plain (OpenSpec.upto tokenBetweenSpec)) tokenBetweenUptoCard
end Rows
end Go.Proofs.YtadpobnajjocnaaGreatDoor
