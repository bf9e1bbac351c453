/-
  DERIVED. GIVEN WITH THE SEED: THE CARDS: each row of YtckoidchbbfkkaaGreatDoorRows.lean that lists a variable, with what it lists TIED to the program's text (the seventh form; the later family's looks); each row that meets fmt, with fmt's text TOLD by the authors' own Lean function (tested against real Go, not proved from fmt's source: count such statements apart). THE CARD IS WHAT COUNTS. Prove the row's statement (the work); the ties are given (YtckoidchbbfkkaaGreatDoorTie.lean); close each card by the builder's one call (the guide's Derived/Test/ToyasCard.lean, 'card_holds'). Laid BY PROGRAM, IN A SANDBOX (cutbox-door.mjs). By AI agents, Wed Nov 11 2026. No macro, syntax, notation, axiom, sorry.
-/
import Derived.Test.YtckoidchbbfkkaaGreatDoorRows
import GoSem.ClaimSeven
namespace Go.Proofs.YtckoidchbbfkkaaGreatDoor
namespace Rows

/-- THE TIED CARD OF 'mandrellaw13.ConvProduct'. -/
def convProductCard : Claim7 := { stood := { row := convProductRow, standIns := [], harness := (true, "cd5d2b733b3ffeacb7ba6d78171bdb3790780f5648f3835e4ce93086aa5e854c"), looks := true }, kinds := [], alts := [], laidByText := true, laidKinds := [.data, .data, .pinned], laidTests := true, laidLooks := .later }
def ConvProductCardSaid : Prop := Claim7.holds Tryz.pinned (.plain (OpenSpec.ofChange convProductSpec)) convProductCard

/-- THE SECOND FORM's CARD OF 'mandrellaw13.ConvProduct'. -/
def convProductUptoCard : Claim7 := { stood := { row := convProductUptoRow, standIns := [], harness := (true, "cd5d2b733b3ffeacb7ba6d78171bdb3790780f5648f3835e4ce93086aa5e854c"), looks := true }, kinds := [], alts := [], laidByText := true, laidKinds := [.data, .data, .pinned], laidTests := true, laidLooks := .later }
def ConvProductUptoCardSaid : Prop := Claim7.holds Tryz.pinned (.plain (OpenSpec.upto convProductSpec)) convProductUptoCard
end Rows
end Go.Proofs.YtckoidchbbfkkaaGreatDoor
