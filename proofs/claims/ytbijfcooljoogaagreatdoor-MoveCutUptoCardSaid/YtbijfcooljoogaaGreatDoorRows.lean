/-
  NARROWER THAN 'FOR EVERY INPUT', by the rows' own cells (each row's printed sentence says how): ConvGlobal: laid · ConvOne: laid · ConvMost: laid · LinearOne: laid · LinearRows: laid · LinearGemm: laid · LinearBatch: laid · MoveBack: laid · MoveJoined: laid · MoveCut: laid · MoveAll: laid · LinearTurned: laid.
  DERIVED. THE GIVEN ROWS OF THIS SEAT. 12 by the template 'for every input the law returns true; each argument reads behind the call as it read before'; 0 by the template 'total and deterministic' (their statements: YtbijfcooljoogaaGreatDoorTotals.lean).
  GIVEN WITH THE SEED: the statements are not yours to turn. If you find one false, say at which input.
  Laid BY PROGRAM, IN A SANDBOX (cutbox-rows.mjs): the forced cells as the released guide's own fill.sh prints them over the translation e131b54af2573123… (all of the seat's roots in one cut). By AI agents, Wed Nov 11 2026. No macro, syntax, notation, axiom, sorry.
-/
import Derived.Test.YtbijfcooljoogaaGreatDoorChecked
import GoSem.PinnedTables
import GoSem.Claim
import GoSem.ClaimJoined
import GoSem.ClaimMapViews
import Derived.JoinedTies
import Derived.KernelRfl
namespace Go.Proofs.YtbijfcooljoogaaGreatDoor
/- THE CELL 'sum', in the pinned program and in every row, IS THE sha256 OF THE DUMP (.gsa) THAT YtbijfcooljoogaaGreatDoorProg.lean LOADS. Nothing in Lean hashes anything: it is a label: what it is worth is what the hold of that sum in a sandbox is worth. -/
noncomputable def Tryz.pinned : Pinned := { name := "ytbijfcooljoogaagreatdoor", sum := "e131b54af25731239cc2739ae14c591c320dd0a628dc1ebc38ee897dfcfae636", checked := Tryz.checked }
namespace Rows
def none {H : Type} : Left H := { results := [], args := [] }

/- WHAT THE LISTED PACKAGE-LEVEL VARIABLES READ AS WHEN THE CALL BEGINS. Each datum BY PROGRAM (the guide's laid-datum.mjs) off the statement by which the dump's own 'gosem.cut.vars' lays the variable. In a bare row this is a premise. The card (YtbijfcooljoogaaGreatDoorCards.lean) ties it to the program's text. -/
def laid_unicode_utf8_acceptRanges {H : Type} : DataW H := .agg [.agg [.lit (.int .u8 128), .lit (.int .u8 191)], .agg [.lit (.int .u8 160), .lit (.int .u8 191)], .agg [.lit (.int .u8 128), .lit (.int .u8 159)], .agg [.lit (.int .u8 144), .lit (.int .u8 191)], .agg [.lit (.int .u8 128), .lit (.int .u8 143)], .agg [.lit (.int .u8 0), .lit (.int .u8 0)], .agg [.lit (.int .u8 0), .lit (.int .u8 0)], .agg [.lit (.int .u8 0), .lit (.int .u8 0)], .agg [.lit (.int .u8 0), .lit (.int .u8 0)], .agg [.lit (.int .u8 0), .lit (.int .u8 0)], .agg [.lit (.int .u8 0), .lit (.int .u8 0)], .agg [.lit (.int .u8 0), .lit (.int .u8 0)], .agg [.lit (.int .u8 0), .lit (.int .u8 0)], .agg [.lit (.int .u8 0), .lit (.int .u8 0)], .agg [.lit (.int .u8 0), .lit (.int .u8 0)], .agg [.lit (.int .u8 0), .lit (.int .u8 0)]]
def laid_mandrel_schema_ones {H : Type} : DataW H := .agg [.lit (.string [73, 100, 101, 110, 116, 105, 116, 121]), .lit (.string [78, 101, 103]), .lit (.string [65, 98, 115]), .lit (.string [78, 111, 116]), .lit (.string [82, 101, 108, 117]), .lit (.string [83, 113, 114, 116]), .lit (.string [70, 108, 111, 111, 114]), .lit (.string [69, 120, 112]), .lit (.string [83, 105, 103, 109, 111, 105, 100]), .lit (.string [84, 97, 110, 104])]
/-- One of Go's own tables, pinned by name: the form's constant. -/
def laid_unicode_utf8_first : DataW Unit := Go.Pinned.utf8First

/-- 'mandrellaw13.ConvGlobal': WHATEVER THE INPUT: true; the input reads as it did. -/
def convGlobalSpec : ChangeSpec := { name := "convGlobal", fn := fun _ => fun
  | [d] => { results := [.lit (.bool true)], args := [d] }
  | _ => none }
def convGlobalRow : OpenClaim := { program := "ytbijfcooljoogaagreatdoor", sum := "e131b54af25731239cc2739ae14c591c320dd0a628dc1ebc38ee897dfcfae636", func := "mandrel/mandrellaw13.ConvGlobal", spec := "convGlobal", inPlace := ["internal/bytealg.CountString", "internal/bytealg.IndexByteString", "internal/bytealg.IndexString", "math.Float32frombits", "math.sqrt", "math.Float32bits", "math.archFloor", "math.Float64bits", "math.Float64frombits", "math.archTrunc", "slices.overlaps[int]"], unfollowed := true, recurses := true, named := ["mandrel/schema.ones", "unicode/utf8.first", "unicode/utf8.acceptRanges", "internal/bytealg.MaxLen"], apart := false, laid := [("unicode/utf8.acceptRanges", laid_unicode_utf8_acceptRanges), ("mandrel/schema.ones", laid_mandrel_schema_ones), ("unicode/utf8.first", laid_unicode_utf8_first)] }
def ConvGlobalSaid : Prop := convGlobalRow.holds Tryz.pinned (OpenSpec.ofChange convGlobalSpec)

/-- ITS FALSE NEIGHBOUR: 'it returns false'. Refute it at one input. -/
def convGlobalWrong : ChangeSpec := { name := "convGlobal", fn := fun _ => fun
  | [d] => { results := [.lit (.bool false)], args := [d] }
  | _ => none }
def ConvGlobalWrongFalsely : Prop := convGlobalRow.holds Tryz.pinned (OpenSpec.ofChange convGlobalWrong)

/-- 'mandrellaw13.ConvOne': WHATEVER THE INPUT: true; the input reads as it did. -/
def convOneSpec : ChangeSpec := { name := "convOne", fn := fun _ => fun
  | [d] => { results := [.lit (.bool true)], args := [d] }
  | _ => none }
def convOneRow : OpenClaim := { program := "ytbijfcooljoogaagreatdoor", sum := "e131b54af25731239cc2739ae14c591c320dd0a628dc1ebc38ee897dfcfae636", func := "mandrel/mandrellaw13.ConvOne", spec := "convOne", inPlace := ["internal/bytealg.CountString", "internal/bytealg.IndexByteString", "internal/bytealg.IndexString", "math.Float32frombits", "math.sqrt", "math.Float32bits", "math.archFloor", "math.Float64bits", "math.Float64frombits", "math.archTrunc", "slices.overlaps[int]"], unfollowed := true, recurses := true, named := ["mandrel/schema.ones", "unicode/utf8.first", "unicode/utf8.acceptRanges", "internal/bytealg.MaxLen"], apart := false, laid := [("unicode/utf8.acceptRanges", laid_unicode_utf8_acceptRanges), ("mandrel/schema.ones", laid_mandrel_schema_ones), ("unicode/utf8.first", laid_unicode_utf8_first)] }
def ConvOneSaid : Prop := convOneRow.holds Tryz.pinned (OpenSpec.ofChange convOneSpec)

/-- ITS FALSE NEIGHBOUR: 'it returns false'. Refute it at one input. -/
def convOneWrong : ChangeSpec := { name := "convOne", fn := fun _ => fun
  | [d] => { results := [.lit (.bool false)], args := [d] }
  | _ => none }
def ConvOneWrongFalsely : Prop := convOneRow.holds Tryz.pinned (OpenSpec.ofChange convOneWrong)

/-- 'mandrellaw13.ConvMost': WHATEVER THE INPUT: true; the input reads as it did. -/
def convMostSpec : ChangeSpec := { name := "convMost", fn := fun _ => fun
  | [d1, d2, d3] => { results := [.lit (.bool true)], args := [d1, d2, d3] }
  | _ => none }
def convMostRow : OpenClaim := { program := "ytbijfcooljoogaagreatdoor", sum := "e131b54af25731239cc2739ae14c591c320dd0a628dc1ebc38ee897dfcfae636", func := "mandrel/mandrellaw13.ConvMost", spec := "convMost", inPlace := ["internal/bytealg.CountString", "internal/bytealg.IndexByteString", "internal/bytealg.IndexString", "math.Float32frombits", "math.sqrt", "math.Float32bits", "math.archFloor", "math.Float64bits", "math.Float64frombits", "math.archTrunc", "slices.overlaps[int]"], unfollowed := true, recurses := true, named := ["mandrel/schema.ones", "unicode/utf8.first", "unicode/utf8.acceptRanges", "internal/bytealg.MaxLen"], apart := false, laid := [("unicode/utf8.acceptRanges", laid_unicode_utf8_acceptRanges), ("mandrel/schema.ones", laid_mandrel_schema_ones), ("unicode/utf8.first", laid_unicode_utf8_first)] }
def ConvMostSaid : Prop := convMostRow.holds Tryz.pinned (OpenSpec.ofChange convMostSpec)

/-- ITS FALSE NEIGHBOUR: 'it returns false'. Refute it at one input. -/
def convMostWrong : ChangeSpec := { name := "convMost", fn := fun _ => fun
  | [d1, d2, d3] => { results := [.lit (.bool false)], args := [d1, d2, d3] }
  | _ => none }
def ConvMostWrongFalsely : Prop := convMostRow.holds Tryz.pinned (OpenSpec.ofChange convMostWrong)

/-- 'mandrellaw12.LinearOne': WHATEVER THE INPUT: true; the input reads as it did. -/
def linearOneSpec : ChangeSpec := { name := "linearOne", fn := fun _ => fun
  | [d] => { results := [.lit (.bool true)], args := [d] }
  | _ => none }
def linearOneRow : OpenClaim := { program := "ytbijfcooljoogaagreatdoor", sum := "e131b54af25731239cc2739ae14c591c320dd0a628dc1ebc38ee897dfcfae636", func := "mandrel/mandrellaw12.LinearOne", spec := "linearOne", inPlace := ["internal/bytealg.CountString", "internal/bytealg.IndexByteString", "internal/bytealg.IndexString", "math.Float32frombits", "math.sqrt", "math.Float32bits", "math.archFloor", "math.Float64bits", "math.Float64frombits", "math.archTrunc", "slices.overlaps[int]"], unfollowed := true, recurses := true, named := ["mandrel/schema.ones", "unicode/utf8.first", "unicode/utf8.acceptRanges", "internal/bytealg.MaxLen"], apart := false, laid := [("unicode/utf8.acceptRanges", laid_unicode_utf8_acceptRanges), ("mandrel/schema.ones", laid_mandrel_schema_ones), ("unicode/utf8.first", laid_unicode_utf8_first)] }
def LinearOneSaid : Prop := linearOneRow.holds Tryz.pinned (OpenSpec.ofChange linearOneSpec)

/-- ITS FALSE NEIGHBOUR: 'it returns false'. Refute it at one input. -/
def linearOneWrong : ChangeSpec := { name := "linearOne", fn := fun _ => fun
  | [d] => { results := [.lit (.bool false)], args := [d] }
  | _ => none }
def LinearOneWrongFalsely : Prop := linearOneRow.holds Tryz.pinned (OpenSpec.ofChange linearOneWrong)

/-- 'mandrellaw12.LinearRows': WHATEVER THE INPUT: true; the input reads as it did. -/
def linearRowsSpec : ChangeSpec := { name := "linearRows", fn := fun _ => fun
  | [d1, d2, d3] => { results := [.lit (.bool true)], args := [d1, d2, d3] }
  | _ => none }
def linearRowsRow : OpenClaim := { program := "ytbijfcooljoogaagreatdoor", sum := "e131b54af25731239cc2739ae14c591c320dd0a628dc1ebc38ee897dfcfae636", func := "mandrel/mandrellaw12.LinearRows", spec := "linearRows", inPlace := ["internal/bytealg.CountString", "internal/bytealg.IndexByteString", "internal/bytealg.IndexString", "math.Float32frombits", "math.sqrt", "math.Float32bits", "math.archFloor", "math.Float64bits", "math.Float64frombits", "math.archTrunc", "slices.overlaps[int]"], unfollowed := true, recurses := true, named := ["mandrel/schema.ones", "unicode/utf8.first", "unicode/utf8.acceptRanges", "internal/bytealg.MaxLen"], apart := false, laid := [("unicode/utf8.acceptRanges", laid_unicode_utf8_acceptRanges), ("mandrel/schema.ones", laid_mandrel_schema_ones), ("unicode/utf8.first", laid_unicode_utf8_first)] }
def LinearRowsSaid : Prop := linearRowsRow.holds Tryz.pinned (OpenSpec.ofChange linearRowsSpec)

/-- ITS FALSE NEIGHBOUR: 'it returns false'. Refute it at one input. -/
def linearRowsWrong : ChangeSpec := { name := "linearRows", fn := fun _ => fun
  | [d1, d2, d3] => { results := [.lit (.bool false)], args := [d1, d2, d3] }
  | _ => none }
def LinearRowsWrongFalsely : Prop := linearRowsRow.holds Tryz.pinned (OpenSpec.ofChange linearRowsWrong)

/-- 'mandrellaw12.LinearGemm': WHATEVER THE INPUT: true; the input reads as it did. -/
def linearGemmSpec : ChangeSpec := { name := "linearGemm", fn := fun _ => fun
  | [d1, d2] => { results := [.lit (.bool true)], args := [d1, d2] }
  | _ => none }
def linearGemmRow : OpenClaim := { program := "ytbijfcooljoogaagreatdoor", sum := "e131b54af25731239cc2739ae14c591c320dd0a628dc1ebc38ee897dfcfae636", func := "mandrel/mandrellaw12.LinearGemm", spec := "linearGemm", inPlace := ["internal/bytealg.CountString", "internal/bytealg.IndexByteString", "internal/bytealg.IndexString", "math.Float32frombits", "math.sqrt", "math.Float32bits", "math.archFloor", "math.Float64bits", "math.Float64frombits", "math.archTrunc", "slices.overlaps[int]"], unfollowed := true, recurses := true, named := ["mandrel/schema.ones", "unicode/utf8.first", "unicode/utf8.acceptRanges", "internal/bytealg.MaxLen"], apart := false, laid := [("unicode/utf8.acceptRanges", laid_unicode_utf8_acceptRanges), ("mandrel/schema.ones", laid_mandrel_schema_ones), ("unicode/utf8.first", laid_unicode_utf8_first)] }
def LinearGemmSaid : Prop := linearGemmRow.holds Tryz.pinned (OpenSpec.ofChange linearGemmSpec)

/-- ITS FALSE NEIGHBOUR: 'it returns false'. Refute it at one input. -/
def linearGemmWrong : ChangeSpec := { name := "linearGemm", fn := fun _ => fun
  | [d1, d2] => { results := [.lit (.bool false)], args := [d1, d2] }
  | _ => none }
def LinearGemmWrongFalsely : Prop := linearGemmRow.holds Tryz.pinned (OpenSpec.ofChange linearGemmWrong)

/-- 'mandrellaw12.LinearBatch': WHATEVER THE INPUT: true; the input reads as it did. -/
def linearBatchSpec : ChangeSpec := { name := "linearBatch", fn := fun _ => fun
  | [d1, d2, d3] => { results := [.lit (.bool true)], args := [d1, d2, d3] }
  | _ => none }
def linearBatchRow : OpenClaim := { program := "ytbijfcooljoogaagreatdoor", sum := "e131b54af25731239cc2739ae14c591c320dd0a628dc1ebc38ee897dfcfae636", func := "mandrel/mandrellaw12.LinearBatch", spec := "linearBatch", inPlace := ["internal/bytealg.CountString", "internal/bytealg.IndexByteString", "internal/bytealg.IndexString", "math.Float32frombits", "math.sqrt", "math.Float32bits", "math.archFloor", "math.Float64bits", "math.Float64frombits", "math.archTrunc", "slices.overlaps[int]"], unfollowed := true, recurses := true, named := ["mandrel/schema.ones", "unicode/utf8.first", "unicode/utf8.acceptRanges", "internal/bytealg.MaxLen"], apart := false, laid := [("unicode/utf8.acceptRanges", laid_unicode_utf8_acceptRanges), ("mandrel/schema.ones", laid_mandrel_schema_ones), ("unicode/utf8.first", laid_unicode_utf8_first)] }
def LinearBatchSaid : Prop := linearBatchRow.holds Tryz.pinned (OpenSpec.ofChange linearBatchSpec)

/-- ITS FALSE NEIGHBOUR: 'it returns false'. Refute it at one input. -/
def linearBatchWrong : ChangeSpec := { name := "linearBatch", fn := fun _ => fun
  | [d1, d2, d3] => { results := [.lit (.bool false)], args := [d1, d2, d3] }
  | _ => none }
def LinearBatchWrongFalsely : Prop := linearBatchRow.holds Tryz.pinned (OpenSpec.ofChange linearBatchWrong)

/-- 'mandrellaw10.MoveBack': WHATEVER THE INPUT: true; the input reads as it did. -/
def moveBackSpec : ChangeSpec := { name := "moveBack", fn := fun _ => fun
  | [d1, d2] => { results := [.lit (.bool true)], args := [d1, d2] }
  | _ => none }
def moveBackRow : OpenClaim := { program := "ytbijfcooljoogaagreatdoor", sum := "e131b54af25731239cc2739ae14c591c320dd0a628dc1ebc38ee897dfcfae636", func := "mandrel/mandrellaw10.MoveBack", spec := "moveBack", inPlace := ["internal/bytealg.CountString", "internal/bytealg.IndexByteString", "internal/bytealg.IndexString", "math.Float32frombits", "math.sqrt", "math.Float32bits", "math.archFloor", "math.Float64bits", "math.Float64frombits", "math.archTrunc", "slices.overlaps[int]"], unfollowed := true, recurses := true, named := ["mandrel/schema.ones", "unicode/utf8.first", "unicode/utf8.acceptRanges", "internal/bytealg.MaxLen"], apart := false, laid := [("unicode/utf8.acceptRanges", laid_unicode_utf8_acceptRanges), ("mandrel/schema.ones", laid_mandrel_schema_ones), ("unicode/utf8.first", laid_unicode_utf8_first)] }
def MoveBackSaid : Prop := moveBackRow.holds Tryz.pinned (OpenSpec.ofChange moveBackSpec)

/-- ITS FALSE NEIGHBOUR: 'it returns false'. Refute it at one input. -/
def moveBackWrong : ChangeSpec := { name := "moveBack", fn := fun _ => fun
  | [d1, d2] => { results := [.lit (.bool false)], args := [d1, d2] }
  | _ => none }
def MoveBackWrongFalsely : Prop := moveBackRow.holds Tryz.pinned (OpenSpec.ofChange moveBackWrong)

/-- 'mandrellaw10.MoveJoined': WHATEVER THE INPUT: true; the input reads as it did. -/
def moveJoinedSpec : ChangeSpec := { name := "moveJoined", fn := fun _ => fun
  | [d1, d2, d3] => { results := [.lit (.bool true)], args := [d1, d2, d3] }
  | _ => none }
def moveJoinedRow : OpenClaim := { program := "ytbijfcooljoogaagreatdoor", sum := "e131b54af25731239cc2739ae14c591c320dd0a628dc1ebc38ee897dfcfae636", func := "mandrel/mandrellaw10.MoveJoined", spec := "moveJoined", inPlace := ["internal/bytealg.CountString", "internal/bytealg.IndexByteString", "internal/bytealg.IndexString", "math.Float32frombits", "math.sqrt", "math.Float32bits", "math.archFloor", "math.Float64bits", "math.Float64frombits", "math.archTrunc", "slices.overlaps[int]"], unfollowed := true, recurses := true, named := ["mandrel/schema.ones", "unicode/utf8.first", "unicode/utf8.acceptRanges", "internal/bytealg.MaxLen"], apart := false, laid := [("unicode/utf8.acceptRanges", laid_unicode_utf8_acceptRanges), ("mandrel/schema.ones", laid_mandrel_schema_ones), ("unicode/utf8.first", laid_unicode_utf8_first)] }
def MoveJoinedSaid : Prop := moveJoinedRow.holds Tryz.pinned (OpenSpec.ofChange moveJoinedSpec)

/-- ITS FALSE NEIGHBOUR: 'it returns false'. Refute it at one input. -/
def moveJoinedWrong : ChangeSpec := { name := "moveJoined", fn := fun _ => fun
  | [d1, d2, d3] => { results := [.lit (.bool false)], args := [d1, d2, d3] }
  | _ => none }
def MoveJoinedWrongFalsely : Prop := moveJoinedRow.holds Tryz.pinned (OpenSpec.ofChange moveJoinedWrong)

/-- 'mandrellaw10.MoveCut': WHATEVER THE INPUT: true; the input reads as it did. -/
def moveCutSpec : ChangeSpec := { name := "moveCut", fn := fun _ => fun
  | [d1, d2] => { results := [.lit (.bool true)], args := [d1, d2] }
  | _ => none }
def moveCutRow : OpenClaim := { program := "ytbijfcooljoogaagreatdoor", sum := "e131b54af25731239cc2739ae14c591c320dd0a628dc1ebc38ee897dfcfae636", func := "mandrel/mandrellaw10.MoveCut", spec := "moveCut", inPlace := ["internal/bytealg.CountString", "internal/bytealg.IndexByteString", "internal/bytealg.IndexString", "math.Float32frombits", "math.sqrt", "math.Float32bits", "math.archFloor", "math.Float64bits", "math.Float64frombits", "math.archTrunc", "slices.overlaps[int]"], unfollowed := true, recurses := true, named := ["mandrel/schema.ones", "unicode/utf8.first", "unicode/utf8.acceptRanges", "internal/bytealg.MaxLen"], apart := false, laid := [("unicode/utf8.acceptRanges", laid_unicode_utf8_acceptRanges), ("mandrel/schema.ones", laid_mandrel_schema_ones), ("unicode/utf8.first", laid_unicode_utf8_first)] }
def MoveCutSaid : Prop := moveCutRow.holds Tryz.pinned (OpenSpec.ofChange moveCutSpec)

/-- ITS FALSE NEIGHBOUR: 'it returns false'. Refute it at one input. -/
def moveCutWrong : ChangeSpec := { name := "moveCut", fn := fun _ => fun
  | [d1, d2] => { results := [.lit (.bool false)], args := [d1, d2] }
  | _ => none }
def MoveCutWrongFalsely : Prop := moveCutRow.holds Tryz.pinned (OpenSpec.ofChange moveCutWrong)

/-- 'mandrellaw10.MoveAll': WHATEVER THE INPUT: true; the input reads as it did. -/
def moveAllSpec : ChangeSpec := { name := "moveAll", fn := fun _ => fun
  | [d1, d2] => { results := [.lit (.bool true)], args := [d1, d2] }
  | _ => none }
def moveAllRow : OpenClaim := { program := "ytbijfcooljoogaagreatdoor", sum := "e131b54af25731239cc2739ae14c591c320dd0a628dc1ebc38ee897dfcfae636", func := "mandrel/mandrellaw10.MoveAll", spec := "moveAll", inPlace := ["internal/bytealg.CountString", "internal/bytealg.IndexByteString", "internal/bytealg.IndexString", "math.Float32frombits", "math.sqrt", "math.Float32bits", "math.archFloor", "math.Float64bits", "math.Float64frombits", "math.archTrunc", "slices.overlaps[int]"], unfollowed := true, recurses := true, named := ["mandrel/schema.ones", "unicode/utf8.first", "unicode/utf8.acceptRanges", "internal/bytealg.MaxLen"], apart := false, laid := [("unicode/utf8.acceptRanges", laid_unicode_utf8_acceptRanges), ("mandrel/schema.ones", laid_mandrel_schema_ones), ("unicode/utf8.first", laid_unicode_utf8_first)] }
def MoveAllSaid : Prop := moveAllRow.holds Tryz.pinned (OpenSpec.ofChange moveAllSpec)

/-- ITS FALSE NEIGHBOUR: 'it returns false'. Refute it at one input. -/
def moveAllWrong : ChangeSpec := { name := "moveAll", fn := fun _ => fun
  | [d1, d2] => { results := [.lit (.bool false)], args := [d1, d2] }
  | _ => none }
def MoveAllWrongFalsely : Prop := moveAllRow.holds Tryz.pinned (OpenSpec.ofChange moveAllWrong)

/-- 'mandrellaw12.LinearTurned': WHATEVER THE INPUT: true; the input reads as it did. -/
def linearTurnedSpec : ChangeSpec := { name := "linearTurned", fn := fun _ => fun
  | [d1, d2] => { results := [.lit (.bool true)], args := [d1, d2] }
  | _ => none }
def linearTurnedRow : OpenClaim := { program := "ytbijfcooljoogaagreatdoor", sum := "e131b54af25731239cc2739ae14c591c320dd0a628dc1ebc38ee897dfcfae636", func := "mandrel/mandrellaw12.LinearTurned", spec := "linearTurned", inPlace := ["internal/bytealg.CountString", "internal/bytealg.IndexByteString", "internal/bytealg.IndexString", "math.Float32frombits", "math.sqrt", "math.Float32bits", "math.archFloor", "math.Float64bits", "math.Float64frombits", "math.archTrunc", "slices.overlaps[int]"], unfollowed := true, recurses := true, named := ["mandrel/schema.ones", "unicode/utf8.first", "unicode/utf8.acceptRanges", "internal/bytealg.MaxLen"], apart := false, laid := [("unicode/utf8.acceptRanges", laid_unicode_utf8_acceptRanges), ("mandrel/schema.ones", laid_mandrel_schema_ones), ("unicode/utf8.first", laid_unicode_utf8_first)] }
def LinearTurnedSaid : Prop := linearTurnedRow.holds Tryz.pinned (OpenSpec.ofChange linearTurnedSpec)

/-- ITS FALSE NEIGHBOUR: 'it returns false'. Refute it at one input. -/
def linearTurnedWrong : ChangeSpec := { name := "linearTurned", fn := fun _ => fun
  | [d1, d2] => { results := [.lit (.bool false)], args := [d1, d2] }
  | _ => none }
def LinearTurnedWrongFalsely : Prop := linearTurnedRow.holds Tryz.pinned (OpenSpec.ofChange linearTurnedWrong)

/- THE SECOND FORM. 'bulk': how many values and letters a reading holds, each counted each time it is reached (what is shared counts as often as it is met; a slice's spare places count too). A statement '..UptoSaid' is the law's where the arguments, and the package variables that the reading takes, are together of bulk at most 1048576: NARROWER than '..Said'. Prove '..Said' where nothing that the law and all that it calls make is longer than what came in: it says more and counts as full. Else prove '..UptoSaid'. A law counts once. -/
mutual
def uptoBulk {H : Type} : DataW H → Nat
  | .lit (.string bytes) => bytes.length + 1
  | .lit _ => 1
  | .nil => 1
  | .ptr d => uptoBulk d + 1
  | .slice elems spare => uptoBulkAll elems + uptoBulkAll spare + 1
  | .agg parts => uptoBulkAll parts + 1
  | .iface _ d => uptoBulk d + 1
  | .map entries => uptoBulkEntries entries + 1
  | .held _ => 1
def uptoBulkAll {H : Type} : List (DataW H) → Nat
  | [] => 0
  | d :: r => uptoBulk d + uptoBulkAll r
def uptoBulkEntries {H : Type} : List (Lit × DataW H) → Nat
  | [] => 0
  | x :: r => uptoBulkEntry x + uptoBulkEntries r
def uptoBulkEntry {H : Type} : Lit × DataW H → Nat
  | (.string bytes, d) => bytes.length + uptoBulk d + 1
  | (_, d) => uptoBulk d + 1
 end
def uptoSmall : (H : Type) → List (DataW H) → Bool := fun _ ds => decide (uptoBulkAll ds ≤ 1048576)
def OpenSpec.upto (s : _root_.Go.ChangeSpec) : _root_.Go.OpenSpec := { _root_.Go.OpenSpec.ofChange s with cond := some uptoSmall }

/-- 'mandrellaw13.ConvGlobal', WHERE WHAT IT READS IS OF BULK AT MOST 1048576: true; the input reads as it did. -/
def convGlobalUptoRow : OpenClaim := { program := "ytbijfcooljoogaagreatdoor", sum := "e131b54af25731239cc2739ae14c591c320dd0a628dc1ebc38ee897dfcfae636", func := "mandrel/mandrellaw13.ConvGlobal", spec := "convGlobal", inPlace := ["internal/bytealg.CountString", "internal/bytealg.IndexByteString", "internal/bytealg.IndexString", "math.Float32frombits", "math.sqrt", "math.Float32bits", "math.archFloor", "math.Float64bits", "math.Float64frombits", "math.archTrunc", "slices.overlaps[int]"], unfollowed := true, recurses := true, named := ["mandrel/schema.ones", "unicode/utf8.first", "unicode/utf8.acceptRanges", "internal/bytealg.MaxLen"], apart := false, laid := [("unicode/utf8.acceptRanges", laid_unicode_utf8_acceptRanges), ("mandrel/schema.ones", laid_mandrel_schema_ones), ("unicode/utf8.first", laid_unicode_utf8_first)], narrowed := true }
def ConvGlobalUptoSaid : Prop := convGlobalUptoRow.holds Tryz.pinned (OpenSpec.upto convGlobalSpec)

/-- 'mandrellaw13.ConvOne', WHERE WHAT IT READS IS OF BULK AT MOST 1048576: true; the input reads as it did. -/
def convOneUptoRow : OpenClaim := { program := "ytbijfcooljoogaagreatdoor", sum := "e131b54af25731239cc2739ae14c591c320dd0a628dc1ebc38ee897dfcfae636", func := "mandrel/mandrellaw13.ConvOne", spec := "convOne", inPlace := ["internal/bytealg.CountString", "internal/bytealg.IndexByteString", "internal/bytealg.IndexString", "math.Float32frombits", "math.sqrt", "math.Float32bits", "math.archFloor", "math.Float64bits", "math.Float64frombits", "math.archTrunc", "slices.overlaps[int]"], unfollowed := true, recurses := true, named := ["mandrel/schema.ones", "unicode/utf8.first", "unicode/utf8.acceptRanges", "internal/bytealg.MaxLen"], apart := false, laid := [("unicode/utf8.acceptRanges", laid_unicode_utf8_acceptRanges), ("mandrel/schema.ones", laid_mandrel_schema_ones), ("unicode/utf8.first", laid_unicode_utf8_first)], narrowed := true }
def ConvOneUptoSaid : Prop := convOneUptoRow.holds Tryz.pinned (OpenSpec.upto convOneSpec)

/-- 'mandrellaw13.ConvMost', WHERE WHAT IT READS IS OF BULK AT MOST 1048576: true; the input reads as it did. -/
def convMostUptoRow : OpenClaim := { program := "ytbijfcooljoogaagreatdoor", sum := "e131b54af25731239cc2739ae14c591c320dd0a628dc1ebc38ee897dfcfae636", func := "mandrel/mandrellaw13.ConvMost", spec := "convMost", inPlace := ["internal/bytealg.CountString", "internal/bytealg.IndexByteString", "internal/bytealg.IndexString", "math.Float32frombits", "math.sqrt", "math.Float32bits", "math.archFloor", "math.Float64bits", "math.Float64frombits", "math.archTrunc", "slices.overlaps[int]"], unfollowed := true, recurses := true, named := ["mandrel/schema.ones", "unicode/utf8.first", "unicode/utf8.acceptRanges", "internal/bytealg.MaxLen"], apart := false, laid := [("unicode/utf8.acceptRanges", laid_unicode_utf8_acceptRanges), ("mandrel/schema.ones", laid_mandrel_schema_ones), ("unicode/utf8.first", laid_unicode_utf8_first)], narrowed := true }
def ConvMostUptoSaid : Prop := convMostUptoRow.holds Tryz.pinned (OpenSpec.upto convMostSpec)

/-- 'mandrellaw12.LinearOne', WHERE WHAT IT READS IS OF BULK AT MOST 1048576: true; the input reads as it did. -/
def linearOneUptoRow : OpenClaim := { program := "ytbijfcooljoogaagreatdoor", sum := "e131b54af25731239cc2739ae14c591c320dd0a628dc1ebc38ee897dfcfae636", func := "mandrel/mandrellaw12.LinearOne", spec := "linearOne", inPlace := ["internal/bytealg.CountString", "internal/bytealg.IndexByteString", "internal/bytealg.IndexString", "math.Float32frombits", "math.sqrt", "math.Float32bits", "math.archFloor", "math.Float64bits", "math.Float64frombits", "math.archTrunc", "slices.overlaps[int]"], unfollowed := true, recurses := true, named := ["mandrel/schema.ones", "unicode/utf8.first", "unicode/utf8.acceptRanges", "internal/bytealg.MaxLen"], apart := false, laid := [("unicode/utf8.acceptRanges", laid_unicode_utf8_acceptRanges), ("mandrel/schema.ones", laid_mandrel_schema_ones), ("unicode/utf8.first", laid_unicode_utf8_first)], narrowed := true }
def LinearOneUptoSaid : Prop := linearOneUptoRow.holds Tryz.pinned (OpenSpec.upto linearOneSpec)

/-- 'mandrellaw12.LinearRows', WHERE WHAT IT READS IS OF BULK AT MOST 1048576: true; the input reads as it did. -/
def linearRowsUptoRow : OpenClaim := { program := "ytbijfcooljoogaagreatdoor", sum := "e131b54af25731239cc2739ae14c591c320dd0a628dc1ebc38ee897dfcfae636", func := "mandrel/mandrellaw12.LinearRows", spec := "linearRows", inPlace := ["internal/bytealg.CountString", "internal/bytealg.IndexByteString", "internal/bytealg.IndexString", "math.Float32frombits", "math.sqrt", "math.Float32bits", "math.archFloor", "math.Float64bits", "math.Float64frombits", "math.archTrunc", "slices.overlaps[int]"], unfollowed := true, recurses := true, named := ["mandrel/schema.ones", "unicode/utf8.first", "unicode/utf8.acceptRanges", "internal/bytealg.MaxLen"], apart := false, laid := [("unicode/utf8.acceptRanges", laid_unicode_utf8_acceptRanges), ("mandrel/schema.ones", laid_mandrel_schema_ones), ("unicode/utf8.first", laid_unicode_utf8_first)], narrowed := true }
def LinearRowsUptoSaid : Prop := linearRowsUptoRow.holds Tryz.pinned (OpenSpec.upto linearRowsSpec)

/-- 'mandrellaw12.LinearGemm', WHERE WHAT IT READS IS OF BULK AT MOST 1048576: true; the input reads as it did. -/
def linearGemmUptoRow : OpenClaim := { program := "ytbijfcooljoogaagreatdoor", sum := "e131b54af25731239cc2739ae14c591c320dd0a628dc1ebc38ee897dfcfae636", func := "mandrel/mandrellaw12.LinearGemm", spec := "linearGemm", inPlace := ["internal/bytealg.CountString", "internal/bytealg.IndexByteString", "internal/bytealg.IndexString", "math.Float32frombits", "math.sqrt", "math.Float32bits", "math.archFloor", "math.Float64bits", "math.Float64frombits", "math.archTrunc", "slices.overlaps[int]"], unfollowed := true, recurses := true, named := ["mandrel/schema.ones", "unicode/utf8.first", "unicode/utf8.acceptRanges", "internal/bytealg.MaxLen"], apart := false, laid := [("unicode/utf8.acceptRanges", laid_unicode_utf8_acceptRanges), ("mandrel/schema.ones", laid_mandrel_schema_ones), ("unicode/utf8.first", laid_unicode_utf8_first)], narrowed := true }
def LinearGemmUptoSaid : Prop := linearGemmUptoRow.holds Tryz.pinned (OpenSpec.upto linearGemmSpec)

/-- 'mandrellaw12.LinearBatch', WHERE WHAT IT READS IS OF BULK AT MOST 1048576: true; the input reads as it did. -/
def linearBatchUptoRow : OpenClaim := { program := "ytbijfcooljoogaagreatdoor", sum := "e131b54af25731239cc2739ae14c591c320dd0a628dc1ebc38ee897dfcfae636", func := "mandrel/mandrellaw12.LinearBatch", spec := "linearBatch", inPlace := ["internal/bytealg.CountString", "internal/bytealg.IndexByteString", "internal/bytealg.IndexString", "math.Float32frombits", "math.sqrt", "math.Float32bits", "math.archFloor", "math.Float64bits", "math.Float64frombits", "math.archTrunc", "slices.overlaps[int]"], unfollowed := true, recurses := true, named := ["mandrel/schema.ones", "unicode/utf8.first", "unicode/utf8.acceptRanges", "internal/bytealg.MaxLen"], apart := false, laid := [("unicode/utf8.acceptRanges", laid_unicode_utf8_acceptRanges), ("mandrel/schema.ones", laid_mandrel_schema_ones), ("unicode/utf8.first", laid_unicode_utf8_first)], narrowed := true }
def LinearBatchUptoSaid : Prop := linearBatchUptoRow.holds Tryz.pinned (OpenSpec.upto linearBatchSpec)

/-- 'mandrellaw10.MoveBack', WHERE WHAT IT READS IS OF BULK AT MOST 1048576: true; the input reads as it did. -/
def moveBackUptoRow : OpenClaim := { program := "ytbijfcooljoogaagreatdoor", sum := "e131b54af25731239cc2739ae14c591c320dd0a628dc1ebc38ee897dfcfae636", func := "mandrel/mandrellaw10.MoveBack", spec := "moveBack", inPlace := ["internal/bytealg.CountString", "internal/bytealg.IndexByteString", "internal/bytealg.IndexString", "math.Float32frombits", "math.sqrt", "math.Float32bits", "math.archFloor", "math.Float64bits", "math.Float64frombits", "math.archTrunc", "slices.overlaps[int]"], unfollowed := true, recurses := true, named := ["mandrel/schema.ones", "unicode/utf8.first", "unicode/utf8.acceptRanges", "internal/bytealg.MaxLen"], apart := false, laid := [("unicode/utf8.acceptRanges", laid_unicode_utf8_acceptRanges), ("mandrel/schema.ones", laid_mandrel_schema_ones), ("unicode/utf8.first", laid_unicode_utf8_first)], narrowed := true }
def MoveBackUptoSaid : Prop := moveBackUptoRow.holds Tryz.pinned (OpenSpec.upto moveBackSpec)

/-- 'mandrellaw10.MoveJoined', WHERE WHAT IT READS IS OF BULK AT MOST 1048576: true; the input reads as it did. -/
def moveJoinedUptoRow : OpenClaim := { program := "ytbijfcooljoogaagreatdoor", sum := "e131b54af25731239cc2739ae14c591c320dd0a628dc1ebc38ee897dfcfae636", func := "mandrel/mandrellaw10.MoveJoined", spec := "moveJoined", inPlace := ["internal/bytealg.CountString", "internal/bytealg.IndexByteString", "internal/bytealg.IndexString", "math.Float32frombits", "math.sqrt", "math.Float32bits", "math.archFloor", "math.Float64bits", "math.Float64frombits", "math.archTrunc", "slices.overlaps[int]"], unfollowed := true, recurses := true, named := ["mandrel/schema.ones", "unicode/utf8.first", "unicode/utf8.acceptRanges", "internal/bytealg.MaxLen"], apart := false, laid := [("unicode/utf8.acceptRanges", laid_unicode_utf8_acceptRanges), ("mandrel/schema.ones", laid_mandrel_schema_ones), ("unicode/utf8.first", laid_unicode_utf8_first)], narrowed := true }
def MoveJoinedUptoSaid : Prop := moveJoinedUptoRow.holds Tryz.pinned (OpenSpec.upto moveJoinedSpec)

/-- 'mandrellaw10.MoveCut', WHERE WHAT IT READS IS OF BULK AT MOST 1048576: true; the input reads as it did. -/
def moveCutUptoRow : OpenClaim := { program := "ytbijfcooljoogaagreatdoor", sum := "e131b54af25731239cc2739ae14c591c320dd0a628dc1ebc38ee897dfcfae636", func := "mandrel/mandrellaw10.MoveCut", spec := "moveCut", inPlace := ["internal/bytealg.CountString", "internal/bytealg.IndexByteString", "internal/bytealg.IndexString", "math.Float32frombits", "math.sqrt", "math.Float32bits", "math.archFloor", "math.Float64bits", "math.Float64frombits", "math.archTrunc", "slices.overlaps[int]"], unfollowed := true, recurses := true, named := ["mandrel/schema.ones", "unicode/utf8.first", "unicode/utf8.acceptRanges", "internal/bytealg.MaxLen"], apart := false, laid := [("unicode/utf8.acceptRanges", laid_unicode_utf8_acceptRanges), ("mandrel/schema.ones", laid_mandrel_schema_ones), ("unicode/utf8.first", laid_unicode_utf8_first)], narrowed := true }
def MoveCutUptoSaid : Prop := moveCutUptoRow.holds Tryz.pinned (OpenSpec.upto moveCutSpec)

/-- 'mandrellaw10.MoveAll', WHERE WHAT IT READS IS OF BULK AT MOST 1048576: true; the input reads as it did. -/
def moveAllUptoRow : OpenClaim := { program := "ytbijfcooljoogaagreatdoor", sum := "e131b54af25731239cc2739ae14c591c320dd0a628dc1ebc38ee897dfcfae636", func := "mandrel/mandrellaw10.MoveAll", spec := "moveAll", inPlace := ["internal/bytealg.CountString", "internal/bytealg.IndexByteString", "internal/bytealg.IndexString", "math.Float32frombits", "math.sqrt", "math.Float32bits", "math.archFloor", "math.Float64bits", "math.Float64frombits", "math.archTrunc", "slices.overlaps[int]"], unfollowed := true, recurses := true, named := ["mandrel/schema.ones", "unicode/utf8.first", "unicode/utf8.acceptRanges", "internal/bytealg.MaxLen"], apart := false, laid := [("unicode/utf8.acceptRanges", laid_unicode_utf8_acceptRanges), ("mandrel/schema.ones", laid_mandrel_schema_ones), ("unicode/utf8.first", laid_unicode_utf8_first)], narrowed := true }
def MoveAllUptoSaid : Prop := moveAllUptoRow.holds Tryz.pinned (OpenSpec.upto moveAllSpec)

/-- 'mandrellaw12.LinearTurned', WHERE WHAT IT READS IS OF BULK AT MOST 1048576: true; the input reads as it did. -/
def linearTurnedUptoRow : OpenClaim := { program := "ytbijfcooljoogaagreatdoor", sum := "e131b54af25731239cc2739ae14c591c320dd0a628dc1ebc38ee897dfcfae636", func := "mandrel/mandrellaw12.LinearTurned", spec := "linearTurned", inPlace := ["internal/bytealg.CountString", "internal/bytealg.IndexByteString", "internal/bytealg.IndexString", "math.Float32frombits", "math.sqrt", "math.Float32bits", "math.archFloor", "math.Float64bits", "math.Float64frombits", "math.archTrunc", "slices.overlaps[int]"], unfollowed := true, recurses := true, named := ["mandrel/schema.ones", "unicode/utf8.first", "unicode/utf8.acceptRanges", "internal/bytealg.MaxLen"], apart := false, laid := [("unicode/utf8.acceptRanges", laid_unicode_utf8_acceptRanges), ("mandrel/schema.ones", laid_mandrel_schema_ones), ("unicode/utf8.first", laid_unicode_utf8_first)], narrowed := true }
def LinearTurnedUptoSaid : Prop := linearTurnedUptoRow.holds Tryz.pinned (OpenSpec.upto linearTurnedSpec)

end Rows
end Go.Proofs.YtbijfcooljoogaaGreatDoor
