/-
  DERIVED. GIVEN WITH THE SEED: THE CARDS: each row of YtbijfcooljoogaaGreatDoorRows.lean that lists a variable, with what it lists TIED to the program's text (the seventh form; the later family's looks); each row that meets fmt, with fmt's text TOLD by the authors' own Lean function (tested against real Go, not proved from fmt's source: count such statements apart). THE CARD IS WHAT COUNTS. Prove the row's statement (the work); the ties are given (YtbijfcooljoogaaGreatDoorTie.lean); close each card by the builder's one call (the guide's Derived/Test/ToyasCard.lean, 'card_holds'). Laid BY PROGRAM, IN A SANDBOX (cutbox-door.mjs). By AI agents, Wed Nov 11 2026. No macro, syntax, notation, axiom, sorry.
-/
import Derived.Test.YtbijfcooljoogaaGreatDoorRows
import GoSem.ClaimSeven
namespace Go.Proofs.YtbijfcooljoogaaGreatDoor
namespace Rows

/-- THE TIED CARD OF 'mandrellaw13.ConvGlobal'. -/
def convGlobalCard : Claim7 := { stood := { row := convGlobalRow, standIns := [], harness := (true, "f3f5955de28a3d4919ae14b531f541f95fdfff8f79ca5ec1cdcbd7f16b069260"), looks := true }, kinds := [], alts := [], laidByText := true, laidKinds := [.data, .data, .pinned], laidTests := true, laidLooks := .later }
def ConvGlobalCardSaid : Prop := Claim7.holds Tryz.pinned (.plain (OpenSpec.ofChange convGlobalSpec)) convGlobalCard

/-- THE TIED CARD OF 'mandrellaw13.ConvOne'. -/
def convOneCard : Claim7 := { stood := { row := convOneRow, standIns := [], harness := (true, "f3f5955de28a3d4919ae14b531f541f95fdfff8f79ca5ec1cdcbd7f16b069260"), looks := true }, kinds := [], alts := [], laidByText := true, laidKinds := [.data, .data, .pinned], laidTests := true, laidLooks := .later }
def ConvOneCardSaid : Prop := Claim7.holds Tryz.pinned (.plain (OpenSpec.ofChange convOneSpec)) convOneCard

/-- THE TIED CARD OF 'mandrellaw13.ConvMost'. -/
def convMostCard : Claim7 := { stood := { row := convMostRow, standIns := [], harness := (true, "f3f5955de28a3d4919ae14b531f541f95fdfff8f79ca5ec1cdcbd7f16b069260"), looks := true }, kinds := [], alts := [], laidByText := true, laidKinds := [.data, .data, .pinned], laidTests := true, laidLooks := .later }
def ConvMostCardSaid : Prop := Claim7.holds Tryz.pinned (.plain (OpenSpec.ofChange convMostSpec)) convMostCard

/-- THE TIED CARD OF 'mandrellaw12.LinearOne'. -/
def linearOneCard : Claim7 := { stood := { row := linearOneRow, standIns := [], harness := (true, "f3f5955de28a3d4919ae14b531f541f95fdfff8f79ca5ec1cdcbd7f16b069260"), looks := true }, kinds := [], alts := [], laidByText := true, laidKinds := [.data, .data, .pinned], laidTests := true, laidLooks := .later }
def LinearOneCardSaid : Prop := Claim7.holds Tryz.pinned (.plain (OpenSpec.ofChange linearOneSpec)) linearOneCard

/-- THE TIED CARD OF 'mandrellaw12.LinearRows'. -/
def linearRowsCard : Claim7 := { stood := { row := linearRowsRow, standIns := [], harness := (true, "f3f5955de28a3d4919ae14b531f541f95fdfff8f79ca5ec1cdcbd7f16b069260"), looks := true }, kinds := [], alts := [], laidByText := true, laidKinds := [.data, .data, .pinned], laidTests := true, laidLooks := .later }
def LinearRowsCardSaid : Prop := Claim7.holds Tryz.pinned (.plain (OpenSpec.ofChange linearRowsSpec)) linearRowsCard

/-- THE TIED CARD OF 'mandrellaw12.LinearGemm'. -/
def linearGemmCard : Claim7 := { stood := { row := linearGemmRow, standIns := [], harness := (true, "f3f5955de28a3d4919ae14b531f541f95fdfff8f79ca5ec1cdcbd7f16b069260"), looks := true }, kinds := [], alts := [], laidByText := true, laidKinds := [.data, .data, .pinned], laidTests := true, laidLooks := .later }
def LinearGemmCardSaid : Prop := Claim7.holds Tryz.pinned (.plain (OpenSpec.ofChange linearGemmSpec)) linearGemmCard

/-- THE TIED CARD OF 'mandrellaw12.LinearBatch'. -/
def linearBatchCard : Claim7 := { stood := { row := linearBatchRow, standIns := [], harness := (true, "f3f5955de28a3d4919ae14b531f541f95fdfff8f79ca5ec1cdcbd7f16b069260"), looks := true }, kinds := [], alts := [], laidByText := true, laidKinds := [.data, .data, .pinned], laidTests := true, laidLooks := .later }
def LinearBatchCardSaid : Prop := Claim7.holds Tryz.pinned (.plain (OpenSpec.ofChange linearBatchSpec)) linearBatchCard

/-- THE TIED CARD OF 'mandrellaw10.MoveBack'. -/
def moveBackCard : Claim7 := { stood := { row := moveBackRow, standIns := [], harness := (true, "f3f5955de28a3d4919ae14b531f541f95fdfff8f79ca5ec1cdcbd7f16b069260"), looks := true }, kinds := [], alts := [], laidByText := true, laidKinds := [.data, .data, .pinned], laidTests := true, laidLooks := .later }
def MoveBackCardSaid : Prop := Claim7.holds Tryz.pinned (.plain (OpenSpec.ofChange moveBackSpec)) moveBackCard

/-- THE TIED CARD OF 'mandrellaw10.MoveJoined'. -/
def moveJoinedCard : Claim7 := { stood := { row := moveJoinedRow, standIns := [], harness := (true, "f3f5955de28a3d4919ae14b531f541f95fdfff8f79ca5ec1cdcbd7f16b069260"), looks := true }, kinds := [], alts := [], laidByText := true, laidKinds := [.data, .data, .pinned], laidTests := true, laidLooks := .later }
def MoveJoinedCardSaid : Prop := Claim7.holds Tryz.pinned (.plain (OpenSpec.ofChange moveJoinedSpec)) moveJoinedCard

/-- THE TIED CARD OF 'mandrellaw10.MoveCut'. -/
def moveCutCard : Claim7 := { stood := { row := moveCutRow, standIns := [], harness := (true, "f3f5955de28a3d4919ae14b531f541f95fdfff8f79ca5ec1cdcbd7f16b069260"), looks := true }, kinds := [], alts := [], laidByText := true, laidKinds := [.data, .data, .pinned], laidTests := true, laidLooks := .later }
def MoveCutCardSaid : Prop := Claim7.holds Tryz.pinned (.plain (OpenSpec.ofChange moveCutSpec)) moveCutCard

/-- THE TIED CARD OF 'mandrellaw10.MoveAll'. -/
def moveAllCard : Claim7 := { stood := { row := moveAllRow, standIns := [], harness := (true, "f3f5955de28a3d4919ae14b531f541f95fdfff8f79ca5ec1cdcbd7f16b069260"), looks := true }, kinds := [], alts := [], laidByText := true, laidKinds := [.data, .data, .pinned], laidTests := true, laidLooks := .later }
def MoveAllCardSaid : Prop := Claim7.holds Tryz.pinned (.plain (OpenSpec.ofChange moveAllSpec)) moveAllCard

/-- THE TIED CARD OF 'mandrellaw12.LinearTurned'. -/
def linearTurnedCard : Claim7 := { stood := { row := linearTurnedRow, standIns := [], harness := (true, "f3f5955de28a3d4919ae14b531f541f95fdfff8f79ca5ec1cdcbd7f16b069260"), looks := true }, kinds := [], alts := [], laidByText := true, laidKinds := [.data, .data, .pinned], laidTests := true, laidLooks := .later }
def LinearTurnedCardSaid : Prop := Claim7.holds Tryz.pinned (.plain (OpenSpec.ofChange linearTurnedSpec)) linearTurnedCard

/-- THE SECOND FORM's CARD OF 'mandrellaw13.ConvGlobal'. -/
def convGlobalUptoCard : Claim7 := { stood := { row := convGlobalUptoRow, standIns := [], harness := (true, "f3f5955de28a3d4919ae14b531f541f95fdfff8f79ca5ec1cdcbd7f16b069260"), looks := true }, kinds := [], alts := [], laidByText := true, laidKinds := [.data, .data, .pinned], laidTests := true, laidLooks := .later }
def ConvGlobalUptoCardSaid : Prop := Claim7.holds Tryz.pinned (.plain (OpenSpec.upto convGlobalSpec)) convGlobalUptoCard

/-- THE SECOND FORM's CARD OF 'mandrellaw13.ConvOne'. -/
def convOneUptoCard : Claim7 := { stood := { row := convOneUptoRow, standIns := [], harness := (true, "f3f5955de28a3d4919ae14b531f541f95fdfff8f79ca5ec1cdcbd7f16b069260"), looks := true }, kinds := [], alts := [], laidByText := true, laidKinds := [.data, .data, .pinned], laidTests := true, laidLooks := .later }
def ConvOneUptoCardSaid : Prop := Claim7.holds Tryz.pinned (.plain (OpenSpec.upto convOneSpec)) convOneUptoCard

/-- THE SECOND FORM's CARD OF 'mandrellaw13.ConvMost'. -/
def convMostUptoCard : Claim7 := { stood := { row := convMostUptoRow, standIns := [], harness := (true, "f3f5955de28a3d4919ae14b531f541f95fdfff8f79ca5ec1cdcbd7f16b069260"), looks := true }, kinds := [], alts := [], laidByText := true, laidKinds := [.data, .data, .pinned], laidTests := true, laidLooks := .later }
def ConvMostUptoCardSaid : Prop := Claim7.holds Tryz.pinned (.plain (OpenSpec.upto convMostSpec)) convMostUptoCard

/-- THE SECOND FORM's CARD OF 'mandrellaw12.LinearOne'. -/
def linearOneUptoCard : Claim7 := { stood := { row := linearOneUptoRow, standIns := [], harness := (true, "f3f5955de28a3d4919ae14b531f541f95fdfff8f79ca5ec1cdcbd7f16b069260"), looks := true }, kinds := [], alts := [], laidByText := true, laidKinds := [.data, .data, .pinned], laidTests := true, laidLooks := .later }
def LinearOneUptoCardSaid : Prop := Claim7.holds Tryz.pinned (.plain (OpenSpec.upto linearOneSpec)) linearOneUptoCard

/-- THE SECOND FORM's CARD OF 'mandrellaw12.LinearRows'. -/
def linearRowsUptoCard : Claim7 := { stood := { row := linearRowsUptoRow, standIns := [], harness := (true, "f3f5955de28a3d4919ae14b531f541f95fdfff8f79ca5ec1cdcbd7f16b069260"), looks := true }, kinds := [], alts := [], laidByText := true, laidKinds := [.data, .data, .pinned], laidTests := true, laidLooks := .later }
def LinearRowsUptoCardSaid : Prop := Claim7.holds Tryz.pinned (.plain (OpenSpec.upto linearRowsSpec)) linearRowsUptoCard

/-- THE SECOND FORM's CARD OF 'mandrellaw12.LinearGemm'. -/
def linearGemmUptoCard : Claim7 := { stood := { row := linearGemmUptoRow, standIns := [], harness := (true, "f3f5955de28a3d4919ae14b531f541f95fdfff8f79ca5ec1cdcbd7f16b069260"), looks := true }, kinds := [], alts := [], laidByText := true, laidKinds := [.data, .data, .pinned], laidTests := true, laidLooks := .later }
def LinearGemmUptoCardSaid : Prop := Claim7.holds Tryz.pinned (.plain (OpenSpec.upto linearGemmSpec)) linearGemmUptoCard

/-- THE SECOND FORM's CARD OF 'mandrellaw12.LinearBatch'. -/
def linearBatchUptoCard : Claim7 := { stood := { row := linearBatchUptoRow, standIns := [], harness := (true, "f3f5955de28a3d4919ae14b531f541f95fdfff8f79ca5ec1cdcbd7f16b069260"), looks := true }, kinds := [], alts := [], laidByText := true, laidKinds := [.data, .data, .pinned], laidTests := true, laidLooks := .later }
def LinearBatchUptoCardSaid : Prop := Claim7.holds Tryz.pinned (.plain (OpenSpec.upto linearBatchSpec)) linearBatchUptoCard

/-- THE SECOND FORM's CARD OF 'mandrellaw10.MoveBack'. -/
def moveBackUptoCard : Claim7 := { stood := { row := moveBackUptoRow, standIns := [], harness := (true, "f3f5955de28a3d4919ae14b531f541f95fdfff8f79ca5ec1cdcbd7f16b069260"), looks := true }, kinds := [], alts := [], laidByText := true, laidKinds := [.data, .data, .pinned], laidTests := true, laidLooks := .later }
def MoveBackUptoCardSaid : Prop := Claim7.holds Tryz.pinned (.plain (OpenSpec.upto moveBackSpec)) moveBackUptoCard

/-- THE SECOND FORM's CARD OF 'mandrellaw10.MoveJoined'. -/
def moveJoinedUptoCard : Claim7 := { stood := { row := moveJoinedUptoRow, standIns := [], harness := (true, "f3f5955de28a3d4919ae14b531f541f95fdfff8f79ca5ec1cdcbd7f16b069260"), looks := true }, kinds := [], alts := [], laidByText := true, laidKinds := [.data, .data, .pinned], laidTests := true, laidLooks := .later }
def MoveJoinedUptoCardSaid : Prop := Claim7.holds Tryz.pinned (.plain (OpenSpec.upto moveJoinedSpec)) moveJoinedUptoCard

/-- THE SECOND FORM's CARD OF 'mandrellaw10.MoveCut'. -/
def moveCutUptoCard : Claim7 := { stood := { row := moveCutUptoRow, standIns := [], harness := (true, "f3f5955de28a3d4919ae14b531f541f95fdfff8f79ca5ec1cdcbd7f16b069260"), looks := true }, kinds := [], alts := [], laidByText := true, laidKinds := [.data, .data, .pinned], laidTests := true, laidLooks := .later }
def MoveCutUptoCardSaid : Prop := Claim7.holds Tryz.pinned (.plain (OpenSpec.upto moveCutSpec)) moveCutUptoCard

/-- THE SECOND FORM's CARD OF 'mandrellaw10.MoveAll'. -/
def moveAllUptoCard : Claim7 := { stood := { row := moveAllUptoRow, standIns := [], harness := (true, "f3f5955de28a3d4919ae14b531f541f95fdfff8f79ca5ec1cdcbd7f16b069260"), looks := true }, kinds := [], alts := [], laidByText := true, laidKinds := [.data, .data, .pinned], laidTests := true, laidLooks := .later }
def MoveAllUptoCardSaid : Prop := Claim7.holds Tryz.pinned (.plain (OpenSpec.upto moveAllSpec)) moveAllUptoCard

/-- THE SECOND FORM's CARD OF 'mandrellaw12.LinearTurned'. -/
def linearTurnedUptoCard : Claim7 := { stood := { row := linearTurnedUptoRow, standIns := [], harness := (true, "f3f5955de28a3d4919ae14b531f541f95fdfff8f79ca5ec1cdcbd7f16b069260"), looks := true }, kinds := [], alts := [], laidByText := true, laidKinds := [.data, .data, .pinned], laidTests := true, laidLooks := .later }
def LinearTurnedUptoCardSaid : Prop := Claim7.holds Tryz.pinned (.plain (OpenSpec.upto linearTurnedSpec)) linearTurnedUptoCard
end Rows
end Go.Proofs.YtbijfcooljoogaaGreatDoor
