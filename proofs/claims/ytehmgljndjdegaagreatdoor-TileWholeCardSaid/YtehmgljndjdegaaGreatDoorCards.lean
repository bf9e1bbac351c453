/-
  DERIVED. GIVEN WITH THE SEED: THE CARDS: each row of YtehmgljndjdegaaGreatDoorRows.lean that lists a variable, with what it lists TIED to the program's text (the seventh form; the later family's looks); each row that meets fmt, with fmt's text TOLD by the authors' own Lean function (tested against real Go, not proved from fmt's source: count such statements apart). THE CARD IS WHAT COUNTS. Prove the row's statement (the work); the ties are given (YtehmgljndjdegaaGreatDoorTie.lean); close each card by the builder's one call (the guide's Derived/Test/ToyasCard.lean, 'card_holds'). Laid BY PROGRAM, IN A SANDBOX (cutbox-door.mjs). By AI agents, Wed Nov 11 2026. No macro, syntax, notation, axiom, sorry.
-/
import Derived.Test.YtehmgljndjdegaaGreatDoorRows
import GoSem.ClaimSeven
namespace Go.Proofs.YtehmgljndjdegaaGreatDoor
namespace Rows

/-- THE TIED CARD OF 'mandrellaw21.TileSteps'. -/
def tileStepsCard : Claim7 := { stood := { row := tileStepsRow, standIns := [], harness := (true, "5195fd0907d3206be1c6b38bf61a9ba627dc9c26ae6cac9d17dc742b4e9090ee"), looks := true }, kinds := [], alts := [], laidByText := true, laidKinds := [.data, .data, .pinned], laidTests := true, laidLooks := .later }
def TileStepsCardSaid : Prop := Claim7.holds Tryz.pinned (.plain (OpenSpec.ofChange tileStepsSpec)) tileStepsCard

/-- THE TIED CARD OF 'mandrellaw21.TileWhole'. -/
def tileWholeCard : Claim7 := { stood := { row := tileWholeRow, standIns := [], harness := (true, "5195fd0907d3206be1c6b38bf61a9ba627dc9c26ae6cac9d17dc742b4e9090ee"), looks := true }, kinds := [], alts := [], laidByText := true, laidKinds := [.data, .data, .pinned], laidTests := true, laidLooks := .later }
def TileWholeCardSaid : Prop := Claim7.holds Tryz.pinned (.plain (OpenSpec.ofChange tileWholeSpec)) tileWholeCard

/-- THE SECOND FORM's CARD OF 'mandrellaw21.TileSteps'. -/
def tileStepsUptoCard : Claim7 := { stood := { row := tileStepsUptoRow, standIns := [], harness := (true, "5195fd0907d3206be1c6b38bf61a9ba627dc9c26ae6cac9d17dc742b4e9090ee"), looks := true }, kinds := [], alts := [], laidByText := true, laidKinds := [.data, .data, .pinned], laidTests := true, laidLooks := .later }
def TileStepsUptoCardSaid : Prop := Claim7.holds Tryz.pinned (.plain (OpenSpec.upto tileStepsSpec)) tileStepsUptoCard

/-- THE SECOND FORM's CARD OF 'mandrellaw21.TileWhole'. -/
def tileWholeUptoCard : Claim7 := { stood := { row := tileWholeUptoRow, standIns := [], harness := (true, "5195fd0907d3206be1c6b38bf61a9ba627dc9c26ae6cac9d17dc742b4e9090ee"), looks := true }, kinds := [], alts := [], laidByText := true, laidKinds := [.data, .data, .pinned], laidTests := true, laidLooks := .later }
def TileWholeUptoCardSaid : Prop := Claim7.holds Tryz.pinned (.plain (OpenSpec.upto tileWholeSpec)) tileWholeUptoCard
end Rows
end Go.Proofs.YtehmgljndjdegaaGreatDoor
