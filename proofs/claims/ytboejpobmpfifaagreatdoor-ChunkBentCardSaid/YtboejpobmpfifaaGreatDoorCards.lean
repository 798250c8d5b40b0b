/-
  DERIVED. GIVEN WITH THE SEED: THE CARDS: each row of YtboejpobmpfifaaGreatDoorRows.lean that lists a variable, with what it lists TIED to the program's text (the seventh form; the later family's looks); each row that meets fmt, with fmt's text TOLD by the authors' own Lean function (tested against real Go, not proved from fmt's source: count such statements apart). THE CARD IS WHAT COUNTS. Prove the row's statement (the work); the ties are given (YtboejpobmpfifaaGreatDoorTie.lean); close each card by the builder's one call (the guide's Derived/Test/ToyasCard.lean, 'card_holds'). Laid BY PROGRAM, IN A SANDBOX (cutbox-door.mjs). By AI agents, Wed Nov 11 2026. No macro, syntax, notation, axiom, sorry.
-/
import Derived.Test.YtboejpobmpfifaaGreatDoorRows
import GoSem.ClaimSeven
namespace Go.Proofs.YtboejpobmpfifaaGreatDoor
namespace Rows

/-- THE TIED CARD OF 'cascadelaw11.ShowTexts'. -/
def showTextsCard : Claim7 := { stood := { row := showTextsRow, standIns := [], harness := (true, "d54143326bb5e5e6485b8cf25608e8aa7b4187cab68672bc701be8c4b99df2fb"), looks := true }, kinds := [], alts := [], laidByText := true, laidKinds := [.data, .data, .data, .data, .pinned], laidTests := true, laidLooks := .later }
def ShowTextsCardSaid : Prop := Claim7.holds Tryz.pinned (.plain (OpenSpec.ofChange showTextsSpec)) showTextsCard

/-- THE TIED CARD OF 'cascadelaw27.ChunkValues'. -/
def chunkValuesCard : Claim7 := { stood := { row := chunkValuesRow, standIns := [], harness := (true, "d54143326bb5e5e6485b8cf25608e8aa7b4187cab68672bc701be8c4b99df2fb"), looks := true }, kinds := [], alts := [], laidByText := true, laidKinds := [.data, .data, .data, .data, .sentinel, .sentinel, .pinned], laidTests := true, laidLooks := .later }
def ChunkValuesCardSaid : Prop := Claim7.holds Tryz.pinned (.plain (OpenSpec.ofChange chunkValuesSpec)) chunkValuesCard

/-- THE TIED CARD OF 'cascadelaw27.ChunkOf'. -/
def chunkOfCard : Claim7 := { stood := { row := chunkOfRow, standIns := [], harness := (true, "d54143326bb5e5e6485b8cf25608e8aa7b4187cab68672bc701be8c4b99df2fb"), looks := true }, kinds := [], alts := [], laidByText := true, laidKinds := [.data, .data, .data, .data, .sentinel, .sentinel, .pinned], laidTests := true, laidLooks := .later }
def ChunkOfCardSaid : Prop := Claim7.holds Tryz.pinned (.plain (OpenSpec.ofChange chunkOfSpec)) chunkOfCard

/-- THE TIED CARD OF 'cascadelaw27.ChunkBent'. -/
def chunkBentCard : Claim7 := { stood := { row := chunkBentRow, standIns := [], harness := (true, "d54143326bb5e5e6485b8cf25608e8aa7b4187cab68672bc701be8c4b99df2fb"), looks := true }, kinds := [], alts := [], laidByText := true, laidKinds := [.data, .data, .data, .data, .sentinel, .sentinel, .pinned], laidTests := true, laidLooks := .later }
def ChunkBentCardSaid : Prop := Claim7.holds Tryz.pinned (.plain (OpenSpec.ofChange chunkBentSpec)) chunkBentCard

/-- THE TIED CARD OF 'cascadelaw21.StoreCells'. -/
def storeCellsCard : Claim7 := { stood := { row := storeCellsRow, standIns := [], harness := (true, "d54143326bb5e5e6485b8cf25608e8aa7b4187cab68672bc701be8c4b99df2fb"), looks := true }, kinds := [], alts := [], laidByText := true, laidKinds := [.data, .data, .data, .data, .sentinel, .sentinel, .pinned], laidTests := true, laidLooks := .later }
def StoreCellsCardSaid : Prop := Claim7.holds Tryz.pinned (.plain (OpenSpec.ofChange storeCellsSpec)) storeCellsCard

/-- THE TIED CARD OF 'cascadelaw21.StoreGets'. -/
def storeGetsCard : Claim7 := { stood := { row := storeGetsRow, standIns := [], harness := (true, "d54143326bb5e5e6485b8cf25608e8aa7b4187cab68672bc701be8c4b99df2fb"), looks := true }, kinds := [], alts := [], laidByText := true, laidKinds := [.data, .data, .data, .data, .sentinel, .sentinel, .pinned], laidTests := true, laidLooks := .later }
def StoreGetsCardSaid : Prop := Claim7.holds Tryz.pinned (.plain (OpenSpec.ofChange storeGetsSpec)) storeGetsCard

/-- THE TIED CARD OF 'cascadelaw21.StoreParses'. -/
def storeParsesCard : Claim7 := { stood := { row := storeParsesRow, standIns := [], harness := (true, "d54143326bb5e5e6485b8cf25608e8aa7b4187cab68672bc701be8c4b99df2fb"), looks := true }, kinds := [], alts := [], laidByText := true, laidKinds := [.data, .data, .data, .data, .sentinel, .sentinel, .pinned], laidTests := true, laidLooks := .later }
def StoreParsesCardSaid : Prop := Claim7.holds Tryz.pinned (.plain (OpenSpec.ofChange storeParsesSpec)) storeParsesCard

/-- THE TIED CARD OF 'cascadelaw21.StoreTurned'. -/
def storeTurnedCard : Claim7 := { stood := { row := storeTurnedRow, standIns := [], harness := (true, "d54143326bb5e5e6485b8cf25608e8aa7b4187cab68672bc701be8c4b99df2fb"), looks := true }, kinds := [], alts := [], laidByText := true, laidKinds := [.data, .data, .data, .data, .sentinel, .sentinel, .pinned], laidTests := true, laidLooks := .later }
def StoreTurnedCardSaid : Prop := Claim7.holds Tryz.pinned (.plain (OpenSpec.ofChange storeTurnedSpec)) storeTurnedCard

/-- THE TIED CARD OF 'cascadelaw09.LitTypes'. -/
def litTypesCard : Claim7 := { stood := { row := litTypesRow, standIns := [], harness := (true, "d54143326bb5e5e6485b8cf25608e8aa7b4187cab68672bc701be8c4b99df2fb"), looks := true }, kinds := [], alts := [], laidByText := true, laidKinds := [.data, .data, .data, .data, .sentinel, .sentinel, .pinned], laidTests := true, laidLooks := .later }
def LitTypesCardSaid : Prop := Claim7.holds Tryz.pinned (.plain (OpenSpec.ofChange litTypesSpec)) litTypesCard

/-- THE TIED CARD OF 'cascadelaw09.LitReads'. -/
def litReadsCard : Claim7 := { stood := { row := litReadsRow, standIns := [], harness := (true, "d54143326bb5e5e6485b8cf25608e8aa7b4187cab68672bc701be8c4b99df2fb"), looks := true }, kinds := [], alts := [], laidByText := true, laidKinds := [.data, .data, .data, .data, .sentinel, .sentinel, .pinned], laidTests := true, laidLooks := .later }
def LitReadsCardSaid : Prop := Claim7.holds Tryz.pinned (.plain (OpenSpec.ofChange litReadsSpec)) litReadsCard

/-- THE TIED CARD OF 'cascadelaw09.LitParses'. -/
def litParsesCard : Claim7 := { stood := { row := litParsesRow, standIns := [], harness := (true, "d54143326bb5e5e6485b8cf25608e8aa7b4187cab68672bc701be8c4b99df2fb"), looks := true }, kinds := [], alts := [], laidByText := true, laidKinds := [.data, .data, .data, .data, .sentinel, .sentinel, .pinned], laidTests := true, laidLooks := .later }
def LitParsesCardSaid : Prop := Claim7.holds Tryz.pinned (.plain (OpenSpec.ofChange litParsesSpec)) litParsesCard

/-- THE TIED CARD OF 'cascadelaw09.LitRight'. -/
def litRightCard : Claim7 := { stood := { row := litRightRow, standIns := [], harness := (true, "d54143326bb5e5e6485b8cf25608e8aa7b4187cab68672bc701be8c4b99df2fb"), looks := true }, kinds := [], alts := [], laidByText := true, laidKinds := [.data, .data, .data, .data, .sentinel, .sentinel, .pinned], laidTests := true, laidLooks := .later }
def LitRightCardSaid : Prop := Claim7.holds Tryz.pinned (.plain (OpenSpec.ofChange litRightSpec)) litRightCard

/-- THE SECOND FORM's CARD OF 'cascadelaw11.ShowTexts'. -/
def showTextsUptoCard : Claim7 := { stood := { row := showTextsUptoRow, standIns := [], harness := (true, "d54143326bb5e5e6485b8cf25608e8aa7b4187cab68672bc701be8c4b99df2fb"), looks := true }, kinds := [], alts := [], laidByText := true, laidKinds := [.data, .data, .data, .data, .pinned], laidTests := true, laidLooks := .later }
def ShowTextsUptoCardSaid : Prop := Claim7.holds Tryz.pinned (.plain (OpenSpec.upto showTextsSpec)) showTextsUptoCard

/-- THE SECOND FORM's CARD OF 'cascadelaw27.ChunkValues'. -/
def chunkValuesUptoCard : Claim7 := { stood := { row := chunkValuesUptoRow, standIns := [], harness := (true, "d54143326bb5e5e6485b8cf25608e8aa7b4187cab68672bc701be8c4b99df2fb"), looks := true }, kinds := [], alts := [], laidByText := true, laidKinds := [.data, .data, .data, .data, .sentinel, .sentinel, .pinned], laidTests := true, laidLooks := .later }
def ChunkValuesUptoCardSaid : Prop := Claim7.holds Tryz.pinned (.plain (OpenSpec.upto chunkValuesSpec)) chunkValuesUptoCard

/-- THE SECOND FORM's CARD OF 'cascadelaw27.ChunkOf'. -/
def chunkOfUptoCard : Claim7 := { stood := { row := chunkOfUptoRow, standIns := [], harness := (true, "d54143326bb5e5e6485b8cf25608e8aa7b4187cab68672bc701be8c4b99df2fb"), looks := true }, kinds := [], alts := [], laidByText := true, laidKinds := [.data, .data, .data, .data, .sentinel, .sentinel, .pinned], laidTests := true, laidLooks := .later }
def ChunkOfUptoCardSaid : Prop := Claim7.holds Tryz.pinned (.plain (OpenSpec.upto chunkOfSpec)) chunkOfUptoCard

/-- THE SECOND FORM's CARD OF 'cascadelaw27.ChunkBent'. -/
def chunkBentUptoCard : Claim7 := { stood := { row := chunkBentUptoRow, standIns := [], harness := (true, "d54143326bb5e5e6485b8cf25608e8aa7b4187cab68672bc701be8c4b99df2fb"), looks := true }, kinds := [], alts := [], laidByText := true, laidKinds := [.data, .data, .data, .data, .sentinel, .sentinel, .pinned], laidTests := true, laidLooks := .later }
def ChunkBentUptoCardSaid : Prop := Claim7.holds Tryz.pinned (.plain (OpenSpec.upto chunkBentSpec)) chunkBentUptoCard

/-- THE SECOND FORM's CARD OF 'cascadelaw21.StoreCells'. -/
def storeCellsUptoCard : Claim7 := { stood := { row := storeCellsUptoRow, standIns := [], harness := (true, "d54143326bb5e5e6485b8cf25608e8aa7b4187cab68672bc701be8c4b99df2fb"), looks := true }, kinds := [], alts := [], laidByText := true, laidKinds := [.data, .data, .data, .data, .sentinel, .sentinel, .pinned], laidTests := true, laidLooks := .later }
def StoreCellsUptoCardSaid : Prop := Claim7.holds Tryz.pinned (.plain (OpenSpec.upto storeCellsSpec)) storeCellsUptoCard

/-- THE SECOND FORM's CARD OF 'cascadelaw21.StoreGets'. -/
def storeGetsUptoCard : Claim7 := { stood := { row := storeGetsUptoRow, standIns := [], harness := (true, "d54143326bb5e5e6485b8cf25608e8aa7b4187cab68672bc701be8c4b99df2fb"), looks := true }, kinds := [], alts := [], laidByText := true, laidKinds := [.data, .data, .data, .data, .sentinel, .sentinel, .pinned], laidTests := true, laidLooks := .later }
def StoreGetsUptoCardSaid : Prop := Claim7.holds Tryz.pinned (.plain (OpenSpec.upto storeGetsSpec)) storeGetsUptoCard

/-- THE SECOND FORM's CARD OF 'cascadelaw21.StoreParses'. -/
def storeParsesUptoCard : Claim7 := { stood := { row := storeParsesUptoRow, standIns := [], harness := (true, "d54143326bb5e5e6485b8cf25608e8aa7b4187cab68672bc701be8c4b99df2fb"), looks := true }, kinds := [], alts := [], laidByText := true, laidKinds := [.data, .data, .data, .data, .sentinel, .sentinel, .pinned], laidTests := true, laidLooks := .later }
def StoreParsesUptoCardSaid : Prop := Claim7.holds Tryz.pinned (.plain (OpenSpec.upto storeParsesSpec)) storeParsesUptoCard

/-- THE SECOND FORM's CARD OF 'cascadelaw21.StoreTurned'. -/
def storeTurnedUptoCard : Claim7 := { stood := { row := storeTurnedUptoRow, standIns := [], harness := (true, "d54143326bb5e5e6485b8cf25608e8aa7b4187cab68672bc701be8c4b99df2fb"), looks := true }, kinds := [], alts := [], laidByText := true, laidKinds := [.data, .data, .data, .data, .sentinel, .sentinel, .pinned], laidTests := true, laidLooks := .later }
def StoreTurnedUptoCardSaid : Prop := Claim7.holds Tryz.pinned (.plain (OpenSpec.upto storeTurnedSpec)) storeTurnedUptoCard

/-- THE SECOND FORM's CARD OF 'cascadelaw09.LitTypes'. -/
def litTypesUptoCard : Claim7 := { stood := { row := litTypesUptoRow, standIns := [], harness := (true, "d54143326bb5e5e6485b8cf25608e8aa7b4187cab68672bc701be8c4b99df2fb"), looks := true }, kinds := [], alts := [], laidByText := true, laidKinds := [.data, .data, .data, .data, .sentinel, .sentinel, .pinned], laidTests := true, laidLooks := .later }
def LitTypesUptoCardSaid : Prop := Claim7.holds Tryz.pinned (.plain (OpenSpec.upto litTypesSpec)) litTypesUptoCard

/-- THE SECOND FORM's CARD OF 'cascadelaw09.LitReads'. -/
def litReadsUptoCard : Claim7 := { stood := { row := litReadsUptoRow, standIns := [], harness := (true, "d54143326bb5e5e6485b8cf25608e8aa7b4187cab68672bc701be8c4b99df2fb"), looks := true }, kinds := [], alts := [], laidByText := true, laidKinds := [.data, .data, .data, .data, .sentinel, .sentinel, .pinned], laidTests := true, laidLooks := .later }
def LitReadsUptoCardSaid : Prop := Claim7.holds Tryz.pinned (.plain (OpenSpec.upto litReadsSpec)) litReadsUptoCard

/-- THE SECOND FORM's CARD OF 'cascadelaw09.LitParses'. -/
def litParsesUptoCard : Claim7 := { stood := { row := litParsesUptoRow, standIns := [], harness := (true, "d54143326bb5e5e6485b8cf25608e8aa7b4187cab68672bc701be8c4b99df2fb"), looks := true }, kinds := [], alts := [], laidByText := true, laidKinds := [.data, .data, .data, .data, .sentinel, .sentinel, .pinned], laidTests := true, laidLooks := .later }
def LitParsesUptoCardSaid : Prop := Claim7.holds Tryz.pinned (.plain (OpenSpec.upto litParsesSpec)) litParsesUptoCard

/-- THE SECOND FORM's CARD OF 'cascadelaw09.LitRight'. -/
def litRightUptoCard : Claim7 := { stood := { row := litRightUptoRow, standIns := [], harness := (true, "d54143326bb5e5e6485b8cf25608e8aa7b4187cab68672bc701be8c4b99df2fb"), looks := true }, kinds := [], alts := [], laidByText := true, laidKinds := [.data, .data, .data, .data, .sentinel, .sentinel, .pinned], laidTests := true, laidLooks := .later }
def LitRightUptoCardSaid : Prop := Claim7.holds Tryz.pinned (.plain (OpenSpec.upto litRightSpec)) litRightUptoCard
end Rows
end Go.Proofs.YtboejpobmpfifaaGreatDoor
