/-
  DERIVED. GIVEN WITH THE SEED: THE CARDS: each row of YtnkhoojomojbpaaGreatDoorRows.lean that lists a variable, with what it lists TIED to the program's text (the seventh form; the later family's looks); each row that meets fmt, with fmt's text TOLD by the authors' own Lean function (tested against real Go, not proved from fmt's source: count such statements apart). THE CARD IS WHAT COUNTS. Prove the row's statement (the work); the ties are given (YtnkhoojomojbpaaGreatDoorTie.lean); close each card by the builder's one call (the guide's Derived/Test/ToyasCard.lean, 'card_holds'). Laid BY PROGRAM, IN A SANDBOX (cutbox-door.mjs). By AI agents, Wed Nov 11 2026. No macro, syntax, notation, axiom, sorry.
-/
import Derived.Test.YtnkhoojomojbpaaGreatDoorRows
import GoSem.ClaimSeven
namespace Go.Proofs.YtnkhoojomojbpaaGreatDoor
namespace Rows

/-- THE TIED CARD OF 'mandrellaw13.ConvDoes'. -/
def convDoesCard : Claim7 := { stood := { row := convDoesRow, standIns := [], harness := (true, "a930c8d139c2abede275f5d277c866673f66c91aba5ab19b463365c73b324ab1"), looks := true }, kinds := [], alts := [], laidByText := true, laidKinds := [.data, .data, .pinned], laidTests := true, laidLooks := .later }
def ConvDoesCardSaid : Prop := Claim7.holds Tryz.pinned (.plain (OpenSpec.ofChange convDoesSpec)) convDoesCard

/-- THE TIED CARD OF 'mandrellaw13.ConvApart'. -/
def convApartCard : Claim7 := { stood := { row := convApartRow, standIns := [], harness := (true, "a930c8d139c2abede275f5d277c866673f66c91aba5ab19b463365c73b324ab1"), looks := true }, kinds := [], alts := [], laidByText := true, laidKinds := [.data, .data, .pinned], laidTests := true, laidLooks := .later }
def ConvApartCardSaid : Prop := Claim7.holds Tryz.pinned (.plain (OpenSpec.ofChange convApartSpec)) convApartCard

/-- THE TIED CARD OF 'mandrellaw10.MoveDoes'. -/
def moveDoesCard : Claim7 := { stood := { row := moveDoesRow, standIns := [], harness := (true, "a930c8d139c2abede275f5d277c866673f66c91aba5ab19b463365c73b324ab1"), looks := true }, kinds := [], alts := [], laidByText := true, laidKinds := [.data, .data, .pinned], laidTests := true, laidLooks := .later }
def MoveDoesCardSaid : Prop := Claim7.holds Tryz.pinned (.plain (OpenSpec.ofChange moveDoesSpec)) moveDoesCard

/-- THE TIED CARD OF 'mandrellaw10.MoveKeeps'. -/
def moveKeepsCard : Claim7 := { stood := { row := moveKeepsRow, standIns := [], harness := (true, "a930c8d139c2abede275f5d277c866673f66c91aba5ab19b463365c73b324ab1"), looks := true }, kinds := [], alts := [], laidByText := true, laidKinds := [.data, .data, .pinned], laidTests := true, laidLooks := .later }
def MoveKeepsCardSaid : Prop := Claim7.holds Tryz.pinned (.plain (OpenSpec.ofChange moveKeepsSpec)) moveKeepsCard

/-- THE SECOND FORM's CARD OF 'mandrellaw13.ConvDoes'. -/
def convDoesUptoCard : Claim7 := { stood := { row := convDoesUptoRow, standIns := [], harness := (true, "a930c8d139c2abede275f5d277c866673f66c91aba5ab19b463365c73b324ab1"), looks := true }, kinds := [], alts := [], laidByText := true, laidKinds := [.data, .data, .pinned], laidTests := true, laidLooks := .later }
def ConvDoesUptoCardSaid : Prop := Claim7.holds Tryz.pinned (.plain (OpenSpec.upto convDoesSpec)) convDoesUptoCard

/-- THE SECOND FORM's CARD OF 'mandrellaw13.ConvApart'. -/
def convApartUptoCard : Claim7 := { stood := { row := convApartUptoRow, standIns := [], harness := (true, "a930c8d139c2abede275f5d277c866673f66c91aba5ab19b463365c73b324ab1"), looks := true }, kinds := [], alts := [], laidByText := true, laidKinds := [.data, .data, .pinned], laidTests := true, laidLooks := .later }
def ConvApartUptoCardSaid : Prop := Claim7.holds Tryz.pinned (.plain (OpenSpec.upto convApartSpec)) convApartUptoCard

/-- THE SECOND FORM's CARD OF 'mandrellaw10.MoveDoes'. -/
def moveDoesUptoCard : Claim7 := { stood := { row := moveDoesUptoRow, standIns := [], harness := (true, "a930c8d139c2abede275f5d277c866673f66c91aba5ab19b463365c73b324ab1"), looks := true }, kinds := [], alts := [], laidByText := true, laidKinds := [.data, .data, .pinned], laidTests := true, laidLooks := .later }
def MoveDoesUptoCardSaid : Prop := Claim7.holds Tryz.pinned (.plain (OpenSpec.upto moveDoesSpec)) moveDoesUptoCard

/-- THE SECOND FORM's CARD OF 'mandrellaw10.MoveKeeps'. -/
def moveKeepsUptoCard : Claim7 := { stood := { row := moveKeepsUptoRow, standIns := [], harness := (true, "a930c8d139c2abede275f5d277c866673f66c91aba5ab19b463365c73b324ab1"), looks := true }, kinds := [], alts := [], laidByText := true, laidKinds := [.data, .data, .pinned], laidTests := true, laidLooks := .later }
def MoveKeepsUptoCardSaid : Prop := Claim7.holds Tryz.pinned (.plain (OpenSpec.upto moveKeepsSpec)) moveKeepsUptoCard
end Rows
end Go.Proofs.YtnkhoojomojbpaaGreatDoor
