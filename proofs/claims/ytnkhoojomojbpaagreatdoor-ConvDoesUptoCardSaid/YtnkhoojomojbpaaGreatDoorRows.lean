/-
  NARROWER THAN 'FOR EVERY INPUT', by the rows' own cells (each row's printed sentence says how): ConvDoes: laid · ConvApart: laid · MoveDoes: laid · MoveKeeps: laid.
  DERIVED. THE GIVEN ROWS OF THIS SEAT. 4 by the template 'for every input the law returns true; each argument reads behind the call as it read before'; 0 by the template 'total and deterministic' (their statements: YtnkhoojomojbpaaGreatDoorTotals.lean).
  GIVEN WITH THE SEED: the statements are not yours to turn. If you find one false, say at which input.
  Laid BY PROGRAM, IN A SANDBOX (cutbox-rows.mjs): the forced cells as the released guide's own fill.sh prints them over the translation 169c4e1ace4dbcc8… (all of the seat's roots in one cut). By AI agents, Wed Nov 11 2026. No macro, syntax, notation, axiom, sorry.
-/
import Derived.Test.YtnkhoojomojbpaaGreatDoorChecked
import GoSem.PinnedTables
import GoSem.Claim
import GoSem.ClaimJoined
import GoSem.ClaimMapViews
import Derived.JoinedTies
import Derived.KernelRfl
namespace Go.Proofs.YtnkhoojomojbpaaGreatDoor
/- THE CELL 'sum', in the pinned program and in every row, IS THE sha256 OF THE DUMP (.gsa) THAT YtnkhoojomojbpaaGreatDoorProg.lean LOADS. Nothing in Lean hashes anything: it is a label: what it is worth is what the hold of that sum in a sandbox is worth. -/
noncomputable def Tryz.pinned : Pinned := { name := "ytnkhoojomojbpaagreatdoor", sum := "169c4e1ace4dbcc8e40a403d19125fe4380df340c85b1d64482d33187652ebb5", checked := Tryz.checked }
namespace Rows
def none {H : Type} : Left H := { results := [], args := [] }

/- WHAT THE LISTED PACKAGE-LEVEL VARIABLES READ AS WHEN THE CALL BEGINS. Each datum BY PROGRAM (the guide's laid-datum.mjs) off the statement by which the dump's own 'gosem.cut.vars' lays the variable. In a bare row this is a premise. The card (YtnkhoojomojbpaaGreatDoorCards.lean) ties it to the program's text. -/
def laid_unicode_utf8_acceptRanges {H : Type} : DataW H := .agg [.agg [.lit (.int .u8 128), .lit (.int .u8 191)], .agg [.lit (.int .u8 160), .lit (.int .u8 191)], .agg [.lit (.int .u8 128), .lit (.int .u8 159)], .agg [.lit (.int .u8 144), .lit (.int .u8 191)], .agg [.lit (.int .u8 128), .lit (.int .u8 143)], .agg [.lit (.int .u8 0), .lit (.int .u8 0)], .agg [.lit (.int .u8 0), .lit (.int .u8 0)], .agg [.lit (.int .u8 0), .lit (.int .u8 0)], .agg [.lit (.int .u8 0), .lit (.int .u8 0)], .agg [.lit (.int .u8 0), .lit (.int .u8 0)], .agg [.lit (.int .u8 0), .lit (.int .u8 0)], .agg [.lit (.int .u8 0), .lit (.int .u8 0)], .agg [.lit (.int .u8 0), .lit (.int .u8 0)], .agg [.lit (.int .u8 0), .lit (.int .u8 0)], .agg [.lit (.int .u8 0), .lit (.int .u8 0)], .agg [.lit (.int .u8 0), .lit (.int .u8 0)]]
def laid_mandrel_schema_ones {H : Type} : DataW H := .agg [.lit (.string [73, 100, 101, 110, 116, 105, 116, 121]), .lit (.string [78, 101, 103]), .lit (.string [65, 98, 115]), .lit (.string [78, 111, 116]), .lit (.string [82, 101, 108, 117]), .lit (.string [83, 113, 114, 116]), .lit (.string [70, 108, 111, 111, 114]), .lit (.string [69, 120, 112]), .lit (.string [83, 105, 103, 109, 111, 105, 100]), .lit (.string [84, 97, 110, 104])]
/-- One of Go's own tables, pinned by name: the form's constant. -/
def laid_unicode_utf8_first : DataW Unit := Go.Pinned.utf8First

/-- 'mandrellaw13.ConvDoes': WHATEVER THE INPUT: true; the input reads as it did. -/
def convDoesSpec : ChangeSpec := { name := "convDoes", fn := fun _ => fun
  | [d1, d2] => { results := [.lit (.bool true)], args := [d1, d2] }
  | _ => none }
def convDoesRow : OpenClaim := { program := "ytnkhoojomojbpaagreatdoor", sum := "169c4e1ace4dbcc8e40a403d19125fe4380df340c85b1d64482d33187652ebb5", func := "mandrel/mandrellaw13.ConvDoes", spec := "convDoes", inPlace := ["internal/bytealg.CountString", "internal/bytealg.IndexByteString", "internal/bytealg.IndexString", "math.Float32frombits", "math.sqrt", "math.Float32bits", "math.archFloor", "math.Float64bits", "math.Float64frombits", "math.archTrunc", "slices.overlaps[int]"], unfollowed := true, recurses := true, named := ["mandrel/schema.ones", "unicode/utf8.first", "unicode/utf8.acceptRanges", "internal/bytealg.MaxLen"], apart := false, laid := [("unicode/utf8.acceptRanges", laid_unicode_utf8_acceptRanges), ("mandrel/schema.ones", laid_mandrel_schema_ones), ("unicode/utf8.first", laid_unicode_utf8_first)] }
def ConvDoesSaid : Prop := convDoesRow.holds Tryz.pinned (OpenSpec.ofChange convDoesSpec)

/-- ITS FALSE NEIGHBOUR: 'it returns false'. Refute it at one input. -/
def convDoesWrong : ChangeSpec := { name := "convDoes", fn := fun _ => fun
  | [d1, d2] => { results := [.lit (.bool false)], args := [d1, d2] }
  | _ => none }
def ConvDoesWrongFalsely : Prop := convDoesRow.holds Tryz.pinned (OpenSpec.ofChange convDoesWrong)

/-- 'mandrellaw13.ConvApart': WHATEVER THE INPUT: true; the input reads as it did. -/
def convApartSpec : ChangeSpec := { name := "convApart", fn := fun _ => fun
  | [d1, d2, d3] => { results := [.lit (.bool true)], args := [d1, d2, d3] }
  | _ => none }
def convApartRow : OpenClaim := { program := "ytnkhoojomojbpaagreatdoor", sum := "169c4e1ace4dbcc8e40a403d19125fe4380df340c85b1d64482d33187652ebb5", func := "mandrel/mandrellaw13.ConvApart", spec := "convApart", inPlace := ["internal/bytealg.CountString", "internal/bytealg.IndexByteString", "internal/bytealg.IndexString", "math.Float32frombits", "math.sqrt", "math.Float32bits", "math.archFloor", "math.Float64bits", "math.Float64frombits", "math.archTrunc", "slices.overlaps[int]"], unfollowed := true, recurses := true, named := ["mandrel/schema.ones", "unicode/utf8.first", "unicode/utf8.acceptRanges", "internal/bytealg.MaxLen"], apart := false, laid := [("unicode/utf8.acceptRanges", laid_unicode_utf8_acceptRanges), ("mandrel/schema.ones", laid_mandrel_schema_ones), ("unicode/utf8.first", laid_unicode_utf8_first)] }
def ConvApartSaid : Prop := convApartRow.holds Tryz.pinned (OpenSpec.ofChange convApartSpec)

/-- ITS FALSE NEIGHBOUR: 'it returns false'. Refute it at one input. -/
def convApartWrong : ChangeSpec := { name := "convApart", fn := fun _ => fun
  | [d1, d2, d3] => { results := [.lit (.bool false)], args := [d1, d2, d3] }
  | _ => none }
def ConvApartWrongFalsely : Prop := convApartRow.holds Tryz.pinned (OpenSpec.ofChange convApartWrong)

/-- 'mandrellaw10.MoveDoes': WHATEVER THE INPUT: true; the input reads as it did. -/
def moveDoesSpec : ChangeSpec := { name := "moveDoes", fn := fun _ => fun
  | [d1, d2] => { results := [.lit (.bool true)], args := [d1, d2] }
  | _ => none }
def moveDoesRow : OpenClaim := { program := "ytnkhoojomojbpaagreatdoor", sum := "169c4e1ace4dbcc8e40a403d19125fe4380df340c85b1d64482d33187652ebb5", func := "mandrel/mandrellaw10.MoveDoes", spec := "moveDoes", inPlace := ["internal/bytealg.CountString", "internal/bytealg.IndexByteString", "internal/bytealg.IndexString", "math.Float32frombits", "math.sqrt", "math.Float32bits", "math.archFloor", "math.Float64bits", "math.Float64frombits", "math.archTrunc", "slices.overlaps[int]"], unfollowed := true, recurses := true, named := ["mandrel/schema.ones", "unicode/utf8.first", "unicode/utf8.acceptRanges", "internal/bytealg.MaxLen"], apart := false, laid := [("unicode/utf8.acceptRanges", laid_unicode_utf8_acceptRanges), ("mandrel/schema.ones", laid_mandrel_schema_ones), ("unicode/utf8.first", laid_unicode_utf8_first)] }
def MoveDoesSaid : Prop := moveDoesRow.holds Tryz.pinned (OpenSpec.ofChange moveDoesSpec)

/-- ITS FALSE NEIGHBOUR: 'it returns false'. Refute it at one input. -/
def moveDoesWrong : ChangeSpec := { name := "moveDoes", fn := fun _ => fun
  | [d1, d2] => { results := [.lit (.bool false)], args := [d1, d2] }
  | _ => none }
def MoveDoesWrongFalsely : Prop := moveDoesRow.holds Tryz.pinned (OpenSpec.ofChange moveDoesWrong)

/-- 'mandrellaw10.MoveKeeps': WHATEVER THE INPUT: true; the input reads as it did. -/
def moveKeepsSpec : ChangeSpec := { name := "moveKeeps", fn := fun _ => fun
  | [d1, d2] => { results := [.lit (.bool true)], args := [d1, d2] }
  | _ => none }
def moveKeepsRow : OpenClaim := { program := "ytnkhoojomojbpaagreatdoor", sum := "169c4e1ace4dbcc8e40a403d19125fe4380df340c85b1d64482d33187652ebb5", func := "mandrel/mandrellaw10.MoveKeeps", spec := "moveKeeps", inPlace := ["internal/bytealg.CountString", "internal/bytealg.IndexByteString", "internal/bytealg.IndexString", "math.Float32frombits", "math.sqrt", "math.Float32bits", "math.archFloor", "math.Float64bits", "math.Float64frombits", "math.archTrunc", "slices.overlaps[int]"], unfollowed := true, recurses := true, named := ["mandrel/schema.ones", "unicode/utf8.first", "unicode/utf8.acceptRanges", "internal/bytealg.MaxLen"], apart := false, laid := [("unicode/utf8.acceptRanges", laid_unicode_utf8_acceptRanges), ("mandrel/schema.ones", laid_mandrel_schema_ones), ("unicode/utf8.first", laid_unicode_utf8_first)] }
def MoveKeepsSaid : Prop := moveKeepsRow.holds Tryz.pinned (OpenSpec.ofChange moveKeepsSpec)

/-- ITS FALSE NEIGHBOUR: 'it returns false'. Refute it at one input. -/
def moveKeepsWrong : ChangeSpec := { name := "moveKeeps", fn := fun _ => fun
  | [d1, d2] => { results := [.lit (.bool false)], args := [d1, d2] }
  | _ => none }
def MoveKeepsWrongFalsely : Prop := moveKeepsRow.holds Tryz.pinned (OpenSpec.ofChange moveKeepsWrong)

/- THE SECOND FORM. 'bulk': how many values and letters a reading holds, each counted each time it is reached (what is shared counts as often as it is met; a slice's spare places count too). A statement '..UptoSaid' is the law's where the arguments, and the package variables that the reading takes, are together of bulk at most 1048576: NARROWER than '..Said'. Prove '..Said' where nothing that the law and all that it calls make is longer than what came in: it says more and counts as full. Else prove '..UptoSaid'. A law counts once. -/
mutual
def uptoBulk {H : Type} : DataW H → Nat
  | .lit (.string bytes) => bytes.length + 1
  | .lit _ => 1
  | .nil => 1
  | .ptr d => uptoBulk d + 1
  | .slice elems spare => uptoBulkAll elems + uptoBulkAll spare + 1
  | .agg parts => uptoBulkAll parts + 1
  | .iface _ d => uptoBulk d + 1
  | .map entries => uptoBulkEntries entries + 1
  | .held _ => 1
def uptoBulkAll {H : Type} : List (DataW H) → Nat
  | [] => 0
  | d :: r => uptoBulk d + uptoBulkAll r
def uptoBulkEntries {H : Type} : List (Lit × DataW H) → Nat
  | [] => 0
  | x :: r => uptoBulkEntry x + uptoBulkEntries r
def uptoBulkEntry {H : Type} : Lit × DataW H → Nat
  | (.string bytes, d) => bytes.length + uptoBulk d + 1
  | (_, d) => uptoBulk d + 1
 end
def uptoSmall : (H : Type) → List (DataW H) → Bool := fun _ ds => decide (uptoBulkAll ds ≤ 1048576)
def OpenSpec.upto (s : _root_.Go.ChangeSpec) : _root_.Go.OpenSpec := { _root_.Go.OpenSpec.ofChange s with cond := some uptoSmall }

/-- 'mandrellaw13.ConvDoes', WHERE WHAT IT READS IS OF BULK AT MOST 1048576: true; the input reads as it did. -/
def convDoesUptoRow : OpenClaim := { program := "ytnkhoojomojbpaagreatdoor", sum := "169c4e1ace4dbcc8e40a403d19125fe4380df340c85b1d64482d33187652ebb5", func := "mandrel/mandrellaw13.ConvDoes", spec := "convDoes", inPlace := ["internal/bytealg.CountString", "internal/bytealg.IndexByteString", "internal/bytealg.IndexString", "math.Float32frombits", "math.sqrt", "math.Float32bits", "math.archFloor", "math.Float64bits", "math.Float64frombits", "math.archTrunc", "slices.overlaps[int]"], unfollowed := true, recurses := true, named := ["mandrel/schema.ones", "unicode/utf8.first", "unicode/utf8.acceptRanges", "internal/bytealg.MaxLen"], apart := false, laid := [("unicode/utf8.acceptRanges", laid_unicode_utf8_acceptRanges), ("mandrel/schema.ones", laid_mandrel_schema_ones), ("unicode/utf8.first", laid_unicode_utf8_first)], narrowed := true }
def ConvDoesUptoSaid : Prop := convDoesUptoRow.holds Tryz.pinned (OpenSpec.upto convDoesSpec)

/-- 'mandrellaw13.ConvApart', WHERE WHAT IT READS IS OF BULK AT MOST 1048576: true; the input reads as it did. -/
def convApartUptoRow : OpenClaim := { program := "ytnkhoojomojbpaagreatdoor", sum := "169c4e1ace4dbcc8e40a403d19125fe4380df340c85b1d64482d33187652ebb5", func := "mandrel/mandrellaw13.ConvApart", spec := "convApart", inPlace := ["internal/bytealg.CountString", "internal/bytealg.IndexByteString", "internal/bytealg.IndexString", "math.Float32frombits", "math.sqrt", "math.Float32bits", "math.archFloor", "math.Float64bits", "math.Float64frombits", "math.archTrunc", "slices.overlaps[int]"], unfollowed := true, recurses := true, named := ["mandrel/schema.ones", "unicode/utf8.first", "unicode/utf8.acceptRanges", "internal/bytealg.MaxLen"], apart := false, laid := [("unicode/utf8.acceptRanges", laid_unicode_utf8_acceptRanges), ("mandrel/schema.ones", laid_mandrel_schema_ones), ("unicode/utf8.first", laid_unicode_utf8_first)], narrowed := true }
def ConvApartUptoSaid : Prop := convApartUptoRow.holds Tryz.pinned (OpenSpec.upto convApartSpec)

/-- 'mandrellaw10.MoveDoes', WHERE WHAT IT READS IS OF BULK AT MOST 1048576: true; the input reads as it did. -/
def moveDoesUptoRow : OpenClaim := { program := "ytnkhoojomojbpaagreatdoor", sum := "169c4e1ace4dbcc8e40a403d19125fe4380df340c85b1d64482d33187652ebb5", func := "mandrel/mandrellaw10.MoveDoes", spec := "moveDoes", inPlace := ["internal/bytealg.CountString", "internal/bytealg.IndexByteString", "internal/bytealg.IndexString", "math.Float32frombits", "math.sqrt", "math.Float32bits", "math.archFloor", "math.Float64bits", "math.Float64frombits", "math.archTrunc", "slices.overlaps[int]"], unfollowed := true, recurses := true, named := ["mandrel/schema.ones", "unicode/utf8.first", "unicode/utf8.acceptRanges", "internal/bytealg.MaxLen"], apart := false, laid := [("unicode/utf8.acceptRanges", laid_unicode_utf8_acceptRanges), ("mandrel/schema.ones", laid_mandrel_schema_ones), ("unicode/utf8.first", laid_unicode_utf8_first)], narrowed := true }
def MoveDoesUptoSaid : Prop := moveDoesUptoRow.holds Tryz.pinned (OpenSpec.upto moveDoesSpec)

/-- 'mandrellaw10.MoveKeeps', WHERE WHAT IT READS IS OF BULK AT MOST 1048576: true; the input reads as it did. -/
def moveKeepsUptoRow : OpenClaim := { program := "ytnkhoojomojbpaagreatdoor", sum := "169c4e1ace4dbcc8e40a403d19125fe4380df340c85b1d64482d33187652ebb5", func := "mandrel/mandrellaw10.MoveKeeps", spec := "moveKeeps", inPlace := ["internal/bytealg.CountString", "internal/bytealg.IndexByteString", "internal/bytealg.IndexString", "math.Float32frombits", "math.sqrt", "math.Float32bits", "math.archFloor", "math.Float64bits", "math.Float64frombits", "math.archTrunc", "slices.overlaps[int]"], unfollowed := true, recurses := true, named := ["mandrel/schema.ones", "unicode/utf8.first", "unicode/utf8.acceptRanges", "internal/bytealg.MaxLen"], apart := false, laid := [("unicode/utf8.acceptRanges", laid_unicode_utf8_acceptRanges), ("mandrel/schema.ones", laid_mandrel_schema_ones), ("unicode/utf8.first", laid_unicode_utf8_first)], narrowed := true }
def MoveKeepsUptoSaid : Prop := moveKeepsUptoRow.holds Tryz.pinned (OpenSpec.upto moveKeepsSpec)

end Rows
end Go.Proofs.YtnkhoojomojbpaaGreatDoor
