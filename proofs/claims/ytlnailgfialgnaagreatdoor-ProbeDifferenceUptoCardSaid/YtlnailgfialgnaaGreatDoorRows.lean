/-
  NARROWER THAN 'FOR EVERY INPUT', by the rows' own cells (each row's printed sentence says how): TopoTells: laid · TopoTied: laid · ProbeReads: laid · ProbeDifference: laid · ProbeMeasures: laid · ProbeSpan: laid · StampTells: laid · StampCurrent: laid · StampMethods: laid · StampKeeps: laid.
  DERIVED. THE GIVEN ROWS OF THIS SEAT. 10 by the template 'for every input the law returns true; each argument reads behind the call as it read before'; 0 by the template 'total and deterministic' (their statements: YtlnailgfialgnaaGreatDoorTotals.lean).
  GIVEN WITH THE SEED: the statements are not yours to turn. If you find one false, say at which input.
  Laid BY PROGRAM, IN A SANDBOX (cutbox-rows.mjs): the forced cells as the released guide's own fill.sh prints them over the translation e3b8690a2c20b0d4… (all of the seat's roots in one cut). By AI agents, Wed Nov 11 2026. No macro, syntax, notation, axiom, sorry.
-/
import Derived.Test.YtlnailgfialgnaaGreatDoorChecked
import GoSem.PinnedTables
import GoSem.Claim
import GoSem.ClaimJoined
import GoSem.ClaimMapViews
import Derived.JoinedTies
import Derived.KernelRfl
namespace Go.Proofs.YtlnailgfialgnaaGreatDoor
/- THE CELL 'sum', in the pinned program and in every row, IS THE sha256 OF THE DUMP (.gsa) THAT YtlnailgfialgnaaGreatDoorProg.lean LOADS. Nothing in Lean hashes anything: it is a label: what it is worth is what the hold of that sum in a sandbox is worth. -/
noncomputable def Tryz.pinned : Pinned := { name := "ytlnailgfialgnaagreatdoor", sum := "e3b8690a2c20b0d4846aefec93d621f96bd35d95e4decdd52ef02500780a92a9", checked := Tryz.checked }
namespace Rows
def none {H : Type} : Left H := { results := [], args := [] }

/- WHAT THE LISTED PACKAGE-LEVEL VARIABLES READ AS WHEN THE CALL BEGINS. Each datum BY PROGRAM (the guide's laid-datum.mjs) off the statement by which the dump's own 'gosem.cut.vars' lays the variable. In a bare row this is a premise. The card (YtlnailgfialgnaaGreatDoorCards.lean) ties it to the program's text. -/
def laid_unicode_utf8_acceptRanges {H : Type} : DataW H := .agg [.agg [.lit (.int .u8 128), .lit (.int .u8 191)], .agg [.lit (.int .u8 160), .lit (.int .u8 191)], .agg [.lit (.int .u8 128), .lit (.int .u8 159)], .agg [.lit (.int .u8 144), .lit (.int .u8 191)], .agg [.lit (.int .u8 128), .lit (.int .u8 143)], .agg [.lit (.int .u8 0), .lit (.int .u8 0)], .agg [.lit (.int .u8 0), .lit (.int .u8 0)], .agg [.lit (.int .u8 0), .lit (.int .u8 0)], .agg [.lit (.int .u8 0), .lit (.int .u8 0)], .agg [.lit (.int .u8 0), .lit (.int .u8 0)], .agg [.lit (.int .u8 0), .lit (.int .u8 0)], .agg [.lit (.int .u8 0), .lit (.int .u8 0)], .agg [.lit (.int .u8 0), .lit (.int .u8 0)], .agg [.lit (.int .u8 0), .lit (.int .u8 0)], .agg [.lit (.int .u8 0), .lit (.int .u8 0)], .agg [.lit (.int .u8 0), .lit (.int .u8 0)]]
/-- One of Go's own tables, pinned by name: the form's constant. -/
def laid_unicode_utf8_first : DataW Unit := Go.Pinned.utf8First

/-- 'shuntlaw10.TopoTells': WHATEVER THE INPUT: true; the input reads as it did. -/
def topoTellsSpec : ChangeSpec := { name := "topoTells", fn := fun _ => fun
  | [d1, d2] => { results := [.lit (.bool true)], args := [d1, d2] }
  | _ => none }
def topoTellsRow : OpenClaim := { program := "ytlnailgfialgnaagreatdoor", sum := "e3b8690a2c20b0d4846aefec93d621f96bd35d95e4decdd52ef02500780a92a9", func := "shunt/shuntlaw10.TopoTells", spec := "topoTells", inPlace := ["internal/bytealg.CountString", "internal/bytealg.IndexByteString", "internal/bytealg.IndexString"], unfollowed := true, recurses := true, named := ["unicode/utf8.first", "unicode/utf8.acceptRanges", "internal/bytealg.MaxLen"], apart := false, laid := [("unicode/utf8.acceptRanges", laid_unicode_utf8_acceptRanges), ("unicode/utf8.first", laid_unicode_utf8_first)] }
def TopoTellsSaid : Prop := topoTellsRow.holds Tryz.pinned (OpenSpec.ofChange topoTellsSpec)

/-- ITS FALSE NEIGHBOUR: 'it returns false'. Refute it at one input. -/
def topoTellsWrong : ChangeSpec := { name := "topoTells", fn := fun _ => fun
  | [d1, d2] => { results := [.lit (.bool false)], args := [d1, d2] }
  | _ => none }
def TopoTellsWrongFalsely : Prop := topoTellsRow.holds Tryz.pinned (OpenSpec.ofChange topoTellsWrong)

/-- 'shuntlaw10.TopoTied': WHATEVER THE INPUT: true; the input reads as it did. -/
def topoTiedSpec : ChangeSpec := { name := "topoTied", fn := fun _ => fun
  | [d1, d2, d3] => { results := [.lit (.bool true)], args := [d1, d2, d3] }
  | _ => none }
def topoTiedRow : OpenClaim := { program := "ytlnailgfialgnaagreatdoor", sum := "e3b8690a2c20b0d4846aefec93d621f96bd35d95e4decdd52ef02500780a92a9", func := "shunt/shuntlaw10.TopoTied", spec := "topoTied", inPlace := ["internal/bytealg.CountString", "internal/bytealg.IndexByteString", "internal/bytealg.IndexString"], unfollowed := true, recurses := true, named := ["unicode/utf8.first", "unicode/utf8.acceptRanges", "internal/bytealg.MaxLen"], apart := false, laid := [("unicode/utf8.acceptRanges", laid_unicode_utf8_acceptRanges), ("unicode/utf8.first", laid_unicode_utf8_first)] }
def TopoTiedSaid : Prop := topoTiedRow.holds Tryz.pinned (OpenSpec.ofChange topoTiedSpec)

/-- ITS FALSE NEIGHBOUR: 'it returns false'. Refute it at one input. -/
def topoTiedWrong : ChangeSpec := { name := "topoTied", fn := fun _ => fun
  | [d1, d2, d3] => { results := [.lit (.bool false)], args := [d1, d2, d3] }
  | _ => none }
def TopoTiedWrongFalsely : Prop := topoTiedRow.holds Tryz.pinned (OpenSpec.ofChange topoTiedWrong)

/-- 'shuntlaw20.ProbeReads': WHATEVER THE INPUT: true; the input reads as it did. -/
def probeReadsSpec : ChangeSpec := { name := "probeReads", fn := fun _ => fun
  | [d1, d2, d3] => { results := [.lit (.bool true)], args := [d1, d2, d3] }
  | _ => none }
def probeReadsRow : OpenClaim := { program := "ytlnailgfialgnaagreatdoor", sum := "e3b8690a2c20b0d4846aefec93d621f96bd35d95e4decdd52ef02500780a92a9", func := "shunt/shuntlaw20.ProbeReads", spec := "probeReads", inPlace := ["internal/bytealg.CountString", "internal/bytealg.IndexByteString", "internal/bytealg.IndexString"], unfollowed := true, recurses := true, named := ["unicode/utf8.first", "unicode/utf8.acceptRanges", "internal/bytealg.MaxLen"], apart := false, laid := [("unicode/utf8.acceptRanges", laid_unicode_utf8_acceptRanges), ("unicode/utf8.first", laid_unicode_utf8_first)] }
def ProbeReadsSaid : Prop := probeReadsRow.holds Tryz.pinned (OpenSpec.ofChange probeReadsSpec)

/-- ITS FALSE NEIGHBOUR: 'it returns false'. Refute it at one input. -/
def probeReadsWrong : ChangeSpec := { name := "probeReads", fn := fun _ => fun
  | [d1, d2, d3] => { results := [.lit (.bool false)], args := [d1, d2, d3] }
  | _ => none }
def ProbeReadsWrongFalsely : Prop := probeReadsRow.holds Tryz.pinned (OpenSpec.ofChange probeReadsWrong)

/-- 'shuntlaw20.ProbeDifference': WHATEVER THE INPUT: true; the input reads as it did. -/
def probeDifferenceSpec : ChangeSpec := { name := "probeDifference", fn := fun _ => fun
  | [d1, d2, d3] => { results := [.lit (.bool true)], args := [d1, d2, d3] }
  | _ => none }
def probeDifferenceRow : OpenClaim := { program := "ytlnailgfialgnaagreatdoor", sum := "e3b8690a2c20b0d4846aefec93d621f96bd35d95e4decdd52ef02500780a92a9", func := "shunt/shuntlaw20.ProbeDifference", spec := "probeDifference", inPlace := ["internal/bytealg.CountString", "internal/bytealg.IndexByteString", "internal/bytealg.IndexString"], unfollowed := true, recurses := true, named := ["unicode/utf8.first", "unicode/utf8.acceptRanges", "internal/bytealg.MaxLen"], apart := false, laid := [("unicode/utf8.acceptRanges", laid_unicode_utf8_acceptRanges), ("unicode/utf8.first", laid_unicode_utf8_first)] }
def ProbeDifferenceSaid : Prop := probeDifferenceRow.holds Tryz.pinned (OpenSpec.ofChange probeDifferenceSpec)

/-- ITS FALSE NEIGHBOUR: 'it returns false'. Refute it at one input. -/
def probeDifferenceWrong : ChangeSpec := { name := "probeDifference", fn := fun _ => fun
  | [d1, d2, d3] => { results := [.lit (.bool false)], args := [d1, d2, d3] }
  | _ => none }
def ProbeDifferenceWrongFalsely : Prop := probeDifferenceRow.holds Tryz.pinned (OpenSpec.ofChange probeDifferenceWrong)

/-- 'shuntlaw20.ProbeMeasures': WHATEVER THE INPUT: true; the input reads as it did. -/
def probeMeasuresSpec : ChangeSpec := { name := "probeMeasures", fn := fun _ => fun
  | [d1, d2] => { results := [.lit (.bool true)], args := [d1, d2] }
  | _ => none }
def probeMeasuresRow : OpenClaim := { program := "ytlnailgfialgnaagreatdoor", sum := "e3b8690a2c20b0d4846aefec93d621f96bd35d95e4decdd52ef02500780a92a9", func := "shunt/shuntlaw20.ProbeMeasures", spec := "probeMeasures", inPlace := ["internal/bytealg.CountString", "internal/bytealg.IndexByteString", "internal/bytealg.IndexString"], unfollowed := true, recurses := true, named := ["unicode/utf8.first", "unicode/utf8.acceptRanges", "internal/bytealg.MaxLen"], apart := false, laid := [("unicode/utf8.acceptRanges", laid_unicode_utf8_acceptRanges), ("unicode/utf8.first", laid_unicode_utf8_first)] }
def ProbeMeasuresSaid : Prop := probeMeasuresRow.holds Tryz.pinned (OpenSpec.ofChange probeMeasuresSpec)

/-- ITS FALSE NEIGHBOUR: 'it returns false'. Refute it at one input. -/
def probeMeasuresWrong : ChangeSpec := { name := "probeMeasures", fn := fun _ => fun
  | [d1, d2] => { results := [.lit (.bool false)], args := [d1, d2] }
  | _ => none }
def ProbeMeasuresWrongFalsely : Prop := probeMeasuresRow.holds Tryz.pinned (OpenSpec.ofChange probeMeasuresWrong)

/-- 'shuntlaw20.ProbeSpan': WHATEVER THE INPUT: true; the input reads as it did. -/
def probeSpanSpec : ChangeSpec := { name := "probeSpan", fn := fun _ => fun
  | [d] => { results := [.lit (.bool true)], args := [d] }
  | _ => none }
def probeSpanRow : OpenClaim := { program := "ytlnailgfialgnaagreatdoor", sum := "e3b8690a2c20b0d4846aefec93d621f96bd35d95e4decdd52ef02500780a92a9", func := "shunt/shuntlaw20.ProbeSpan", spec := "probeSpan", inPlace := ["internal/bytealg.CountString", "internal/bytealg.IndexByteString", "internal/bytealg.IndexString"], unfollowed := true, recurses := true, named := ["unicode/utf8.first", "unicode/utf8.acceptRanges", "internal/bytealg.MaxLen"], apart := false, laid := [("unicode/utf8.acceptRanges", laid_unicode_utf8_acceptRanges), ("unicode/utf8.first", laid_unicode_utf8_first)] }
def ProbeSpanSaid : Prop := probeSpanRow.holds Tryz.pinned (OpenSpec.ofChange probeSpanSpec)

/-- ITS FALSE NEIGHBOUR: 'it returns false'. Refute it at one input. -/
def probeSpanWrong : ChangeSpec := { name := "probeSpan", fn := fun _ => fun
  | [d] => { results := [.lit (.bool false)], args := [d] }
  | _ => none }
def ProbeSpanWrongFalsely : Prop := probeSpanRow.holds Tryz.pinned (OpenSpec.ofChange probeSpanWrong)

/-- 'shuntlaw11.StampTells': WHATEVER THE INPUT: true; the input reads as it did. -/
def stampTellsSpec : ChangeSpec := { name := "stampTells", fn := fun _ => fun
  | [d1, d2] => { results := [.lit (.bool true)], args := [d1, d2] }
  | _ => none }
def stampTellsRow : OpenClaim := { program := "ytlnailgfialgnaagreatdoor", sum := "e3b8690a2c20b0d4846aefec93d621f96bd35d95e4decdd52ef02500780a92a9", func := "shunt/shuntlaw11.StampTells", spec := "stampTells", inPlace := ["internal/bytealg.CountString", "internal/bytealg.IndexByteString", "internal/bytealg.IndexString"], unfollowed := true, recurses := true, named := ["unicode/utf8.first", "unicode/utf8.acceptRanges", "internal/bytealg.MaxLen"], apart := false, laid := [("unicode/utf8.acceptRanges", laid_unicode_utf8_acceptRanges), ("unicode/utf8.first", laid_unicode_utf8_first)] }
def StampTellsSaid : Prop := stampTellsRow.holds Tryz.pinned (OpenSpec.ofChange stampTellsSpec)

/-- ITS FALSE NEIGHBOUR: 'it returns false'. Refute it at one input. -/
def stampTellsWrong : ChangeSpec := { name := "stampTells", fn := fun _ => fun
  | [d1, d2] => { results := [.lit (.bool false)], args := [d1, d2] }
  | _ => none }
def StampTellsWrongFalsely : Prop := stampTellsRow.holds Tryz.pinned (OpenSpec.ofChange stampTellsWrong)

/-- 'shuntlaw11.StampCurrent': WHATEVER THE INPUT: true; the input reads as it did. -/
def stampCurrentSpec : ChangeSpec := { name := "stampCurrent", fn := fun _ => fun
  | [d1, d2] => { results := [.lit (.bool true)], args := [d1, d2] }
  | _ => none }
def stampCurrentRow : OpenClaim := { program := "ytlnailgfialgnaagreatdoor", sum := "e3b8690a2c20b0d4846aefec93d621f96bd35d95e4decdd52ef02500780a92a9", func := "shunt/shuntlaw11.StampCurrent", spec := "stampCurrent", inPlace := ["internal/bytealg.CountString", "internal/bytealg.IndexByteString", "internal/bytealg.IndexString"], unfollowed := true, recurses := true, named := ["unicode/utf8.first", "unicode/utf8.acceptRanges", "internal/bytealg.MaxLen"], apart := false, laid := [("unicode/utf8.acceptRanges", laid_unicode_utf8_acceptRanges), ("unicode/utf8.first", laid_unicode_utf8_first)] }
def StampCurrentSaid : Prop := stampCurrentRow.holds Tryz.pinned (OpenSpec.ofChange stampCurrentSpec)

/-- ITS FALSE NEIGHBOUR: 'it returns false'. Refute it at one input. -/
def stampCurrentWrong : ChangeSpec := { name := "stampCurrent", fn := fun _ => fun
  | [d1, d2] => { results := [.lit (.bool false)], args := [d1, d2] }
  | _ => none }
def StampCurrentWrongFalsely : Prop := stampCurrentRow.holds Tryz.pinned (OpenSpec.ofChange stampCurrentWrong)

/-- 'shuntlaw11.StampMethods': WHATEVER THE INPUT: true; the input reads as it did. -/
def stampMethodsSpec : ChangeSpec := { name := "stampMethods", fn := fun _ => fun
  | [d1, d2] => { results := [.lit (.bool true)], args := [d1, d2] }
  | _ => none }
def stampMethodsRow : OpenClaim := { program := "ytlnailgfialgnaagreatdoor", sum := "e3b8690a2c20b0d4846aefec93d621f96bd35d95e4decdd52ef02500780a92a9", func := "shunt/shuntlaw11.StampMethods", spec := "stampMethods", inPlace := ["internal/bytealg.CountString", "internal/bytealg.IndexByteString", "internal/bytealg.IndexString"], unfollowed := true, recurses := true, named := ["unicode/utf8.first", "unicode/utf8.acceptRanges", "internal/bytealg.MaxLen"], apart := false, laid := [("unicode/utf8.acceptRanges", laid_unicode_utf8_acceptRanges), ("unicode/utf8.first", laid_unicode_utf8_first)] }
def StampMethodsSaid : Prop := stampMethodsRow.holds Tryz.pinned (OpenSpec.ofChange stampMethodsSpec)

/-- ITS FALSE NEIGHBOUR: 'it returns false'. Refute it at one input. -/
def stampMethodsWrong : ChangeSpec := { name := "stampMethods", fn := fun _ => fun
  | [d1, d2] => { results := [.lit (.bool false)], args := [d1, d2] }
  | _ => none }
def StampMethodsWrongFalsely : Prop := stampMethodsRow.holds Tryz.pinned (OpenSpec.ofChange stampMethodsWrong)

/-- 'shuntlaw11.StampKeeps': WHATEVER THE INPUT: true; the input reads as it did. -/
def stampKeepsSpec : ChangeSpec := { name := "stampKeeps", fn := fun _ => fun
  | [d1, d2] => { results := [.lit (.bool true)], args := [d1, d2] }
  | _ => none }
def stampKeepsRow : OpenClaim := { program := "ytlnailgfialgnaagreatdoor", sum := "e3b8690a2c20b0d4846aefec93d621f96bd35d95e4decdd52ef02500780a92a9", func := "shunt/shuntlaw11.StampKeeps", spec := "stampKeeps", inPlace := ["internal/bytealg.CountString", "internal/bytealg.IndexByteString", "internal/bytealg.IndexString"], unfollowed := true, recurses := true, named := ["unicode/utf8.first", "unicode/utf8.acceptRanges", "internal/bytealg.MaxLen"], apart := false, laid := [("unicode/utf8.acceptRanges", laid_unicode_utf8_acceptRanges), ("unicode/utf8.first", laid_unicode_utf8_first)] }
def StampKeepsSaid : Prop := stampKeepsRow.holds Tryz.pinned (OpenSpec.ofChange stampKeepsSpec)

/-- ITS FALSE NEIGHBOUR: 'it returns false'. Refute it at one input. -/
def stampKeepsWrong : ChangeSpec := { name := "stampKeeps", fn := fun _ => fun
  | [d1, d2] => { results := [.lit (.bool false)], args := [d1, d2] }
  | _ => none }
def StampKeepsWrongFalsely : Prop := stampKeepsRow.holds Tryz.pinned (OpenSpec.ofChange stampKeepsWrong)

/- THE SECOND FORM. 'bulk': how many values and letters a reading holds, each counted each time it is reached (what is shared counts as often as it is met; a slice's spare places count too). A statement '..UptoSaid' is the law's where the arguments, and the package variables that the reading takes, are together of bulk at most 1048576: NARROWER than '..Said'. Prove '..Said' where nothing that the law and all that it calls make is longer than what came in: it says more and counts as full. Else prove '..UptoSaid'. A law counts once. -/
mutual
def uptoBulk {H : Type} : DataW H → Nat
  | .lit (.string bytes) => bytes.length + 1
  | .lit _ => 1
  | .nil => 1
  | .ptr d => uptoBulk d + 1
  | .slice elems spare => uptoBulkAll elems + uptoBulkAll spare + 1
  | .agg parts => uptoBulkAll parts + 1
  | .iface _ d => uptoBulk d + 1
  | .map entries => uptoBulkEntries entries + 1
  | .held _ => 1
def uptoBulkAll {H : Type} : List (DataW H) → Nat
  | [] => 0
  | d :: r => uptoBulk d + uptoBulkAll r
def uptoBulkEntries {H : Type} : List (Lit × DataW H) → Nat
  | [] => 0
  | x :: r => uptoBulkEntry x + uptoBulkEntries r
def uptoBulkEntry {H : Type} : Lit × DataW H → Nat
  | (.string bytes, d) => bytes.length + uptoBulk d + 1
  | (_, d) => uptoBulk d + 1
 end
def uptoSmall : (H : Type) → List (DataW H) → Bool := fun _ ds => decide (uptoBulkAll ds ≤ 1048576)
def OpenSpec.upto (s : _root_.Go.ChangeSpec) : _root_.Go.OpenSpec := { _root_.Go.OpenSpec.ofChange s with cond := some uptoSmall }

/-- 'shuntlaw10.TopoTells', WHERE WHAT IT READS IS OF BULK AT MOST 1048576: true; the input reads as it did. -/
def topoTellsUptoRow : OpenClaim := { program := "ytlnailgfialgnaagreatdoor", sum := "e3b8690a2c20b0d4846aefec93d621f96bd35d95e4decdd52ef02500780a92a9", func := "shunt/shuntlaw10.TopoTells", spec := "topoTells", inPlace := ["internal/bytealg.CountString", "internal/bytealg.IndexByteString", "internal/bytealg.IndexString"], unfollowed := true, recurses := true, named := ["unicode/utf8.first", "unicode/utf8.acceptRanges", "internal/bytealg.MaxLen"], apart := false, laid := [("unicode/utf8.acceptRanges", laid_unicode_utf8_acceptRanges), ("unicode/utf8.first", laid_unicode_utf8_first)], narrowed := true }
def TopoTellsUptoSaid : Prop := topoTellsUptoRow.holds Tryz.pinned (OpenSpec.upto topoTellsSpec)

/-- 'shuntlaw10.TopoTied', WHERE WHAT IT READS IS OF BULK AT MOST 1048576: true; the input reads as it did. -/
def topoTiedUptoRow : OpenClaim := { program := "ytlnailgfialgnaagreatdoor", sum := "e3b8690a2c20b0d4846aefec93d621f96bd35d95e4decdd52ef02500780a92a9", func := "shunt/shuntlaw10.TopoTied", spec := "topoTied", inPlace := ["internal/bytealg.CountString", "internal/bytealg.IndexByteString", "internal/bytealg.IndexString"], unfollowed := true, recurses := true, named := ["unicode/utf8.first", "unicode/utf8.acceptRanges", "internal/bytealg.MaxLen"], apart := false, laid := [("unicode/utf8.acceptRanges", laid_unicode_utf8_acceptRanges), ("unicode/utf8.first", laid_unicode_utf8_first)], narrowed := true }
def TopoTiedUptoSaid : Prop := topoTiedUptoRow.holds Tryz.pinned (OpenSpec.upto topoTiedSpec)

/-- 'shuntlaw20.ProbeReads', WHERE WHAT IT READS IS OF BULK AT MOST 1048576: true; the input reads as it did. -/
def probeReadsUptoRow : OpenClaim := { program := "ytlnailgfialgnaagreatdoor", sum := "e3b8690a2c20b0d4846aefec93d621f96bd35d95e4decdd52ef02500780a92a9", func := "shunt/shuntlaw20.ProbeReads", spec := "probeReads", inPlace := ["internal/bytealg.CountString", "internal/bytealg.IndexByteString", "internal/bytealg.IndexString"], unfollowed := true, recurses := true, named := ["unicode/utf8.first", "unicode/utf8.acceptRanges", "internal/bytealg.MaxLen"], apart := false, laid := [("unicode/utf8.acceptRanges", laid_unicode_utf8_acceptRanges), ("unicode/utf8.first", laid_unicode_utf8_first)], narrowed := true }
def ProbeReadsUptoSaid : Prop := probeReadsUptoRow.holds Tryz.pinned (OpenSpec.upto probeReadsSpec)

/-- 'shuntlaw20.ProbeDifference', WHERE WHAT IT READS IS OF BULK AT MOST 1048576: true; the input reads as it did. -/
def probeDifferenceUptoRow : OpenClaim := { program := "ytlnailgfialgnaagreatdoor", sum := "e3b8690a2c20b0d4846aefec93d621f96bd35d95e4decdd52ef02500780a92a9", func := "shunt/shuntlaw20.ProbeDifference", spec := "probeDifference", inPlace := ["internal/bytealg.CountString", "internal/bytealg.IndexByteString", "internal/bytealg.IndexString"], unfollowed := true, recurses := true, named := ["unicode/utf8.first", "unicode/utf8.acceptRanges", "internal/bytealg.MaxLen"], apart := false, laid := [("unicode/utf8.acceptRanges", laid_unicode_utf8_acceptRanges), ("unicode/utf8.first", laid_unicode_utf8_first)], narrowed := true }
def ProbeDifferenceUptoSaid : Prop := probeDifferenceUptoRow.holds Tryz.pinned (OpenSpec.upto probeDifferenceSpec)

/-- 'shuntlaw20.ProbeMeasures', WHERE WHAT IT READS IS OF BULK AT MOST 1048576: true; the input reads as it did. -/
def probeMeasuresUptoRow : OpenClaim := { program := "ytlnailgfialgnaagreatdoor", sum := "e3b8690a2c20b0d4846aefec93d621f96bd35d95e4decdd52ef02500780a92a9", func := "shunt/shuntlaw20.ProbeMeasures", spec := "probeMeasures", inPlace := ["internal/bytealg.CountString", "internal/bytealg.IndexByteString", "internal/bytealg.IndexString"], unfollowed := true, recurses := true, named := ["unicode/utf8.first", "unicode/utf8.acceptRanges", "internal/bytealg.MaxLen"], apart := false, laid := [("unicode/utf8.acceptRanges", laid_unicode_utf8_acceptRanges), ("unicode/utf8.first", laid_unicode_utf8_first)], narrowed := true }
def ProbeMeasuresUptoSaid : Prop := probeMeasuresUptoRow.holds Tryz.pinned (OpenSpec.upto probeMeasuresSpec)

/-- 'shuntlaw20.ProbeSpan', WHERE WHAT IT READS IS OF BULK AT MOST 1048576: true; the input reads as it did. -/
def probeSpanUptoRow : OpenClaim := { program := "ytlnailgfialgnaagreatdoor", sum := "e3b8690a2c20b0d4846aefec93d621f96bd35d95e4decdd52ef02500780a92a9", func := "shunt/shuntlaw20.ProbeSpan", spec := "probeSpan", inPlace := ["internal/bytealg.CountString", "internal/bytealg.IndexByteString", "internal/bytealg.IndexString"], unfollowed := true, recurses := true, named := ["unicode/utf8.first", "unicode/utf8.acceptRanges", "internal/bytealg.MaxLen"], apart := false, laid := [("unicode/utf8.acceptRanges", laid_unicode_utf8_acceptRanges), ("unicode/utf8.first", laid_unicode_utf8_first)], narrowed := true }
def ProbeSpanUptoSaid : Prop := probeSpanUptoRow.holds Tryz.pinned (OpenSpec.upto probeSpanSpec)

/-- 'shuntlaw11.StampTells', WHERE WHAT IT READS IS OF BULK AT MOST 1048576: true; the input reads as it did. -/
def stampTellsUptoRow : OpenClaim := { program := "ytlnailgfialgnaagreatdoor", sum := "e3b8690a2c20b0d4846aefec93d621f96bd35d95e4decdd52ef02500780a92a9", func := "shunt/shuntlaw11.StampTells", spec := "stampTells", inPlace := ["internal/bytealg.CountString", "internal/bytealg.IndexByteString", "internal/bytealg.IndexString"], unfollowed := true, recurses := true, named := ["unicode/utf8.first", "unicode/utf8.acceptRanges", "internal/bytealg.MaxLen"], apart := false, laid := [("unicode/utf8.acceptRanges", laid_unicode_utf8_acceptRanges), ("unicode/utf8.first", laid_unicode_utf8_first)], narrowed := true }
def StampTellsUptoSaid : Prop := stampTellsUptoRow.holds Tryz.pinned (OpenSpec.upto stampTellsSpec)

/-- 'shuntlaw11.StampCurrent', WHERE WHAT IT READS IS OF BULK AT MOST 1048576: true; the input reads as it did. -/
def stampCurrentUptoRow : OpenClaim := { program := "ytlnailgfialgnaagreatdoor", sum := "e3b8690a2c20b0d4846aefec93d621f96bd35d95e4decdd52ef02500780a92a9", func := "shunt/shuntlaw11.StampCurrent", spec := "stampCurrent", inPlace := ["internal/bytealg.CountString", "internal/bytealg.IndexByteString", "internal/bytealg.IndexString"], unfollowed := true, recurses := true, named := ["unicode/utf8.first", "unicode/utf8.acceptRanges", "internal/bytealg.MaxLen"], apart := false, laid := [("unicode/utf8.acceptRanges", laid_unicode_utf8_acceptRanges), ("unicode/utf8.first", laid_unicode_utf8_first)], narrowed := true }
def StampCurrentUptoSaid : Prop := stampCurrentUptoRow.holds Tryz.pinned (OpenSpec.upto stampCurrentSpec)

/-- 'shuntlaw11.StampMethods', WHERE WHAT IT READS IS OF BULK AT MOST 1048576: true; the input reads as it did. -/
def stampMethodsUptoRow : OpenClaim := { program := "ytlnailgfialgnaagreatdoor", sum := "e3b8690a2c20b0d4846aefec93d621f96bd35d95e4decdd52ef02500780a92a9", func := "shunt/shuntlaw11.StampMethods", spec := "stampMethods", inPlace := ["internal/bytealg.CountString", "internal/bytealg.IndexByteString", "internal/bytealg.IndexString"], unfollowed := true, recurses := true, named := ["unicode/utf8.first", "unicode/utf8.acceptRanges", "internal/bytealg.MaxLen"], apart := false, laid := [("unicode/utf8.acceptRanges", laid_unicode_utf8_acceptRanges), ("unicode/utf8.first", laid_unicode_utf8_first)], narrowed := true }
def StampMethodsUptoSaid : Prop := stampMethodsUptoRow.holds Tryz.pinned (OpenSpec.upto stampMethodsSpec)

/-- 'shuntlaw11.StampKeeps', WHERE WHAT IT READS IS OF BULK AT MOST 1048576: true; the input reads as it did. -/
def stampKeepsUptoRow : OpenClaim := { program := "ytlnailgfialgnaagreatdoor", sum := "e3b8690a2c20b0d4846aefec93d621f96bd35d95e4decdd52ef02500780a92a9", func := "shunt/shuntlaw11.StampKeeps", spec := "stampKeeps", inPlace := ["internal/bytealg.CountString", "internal/bytealg.IndexByteString", "internal/bytealg.IndexString"], unfollowed := true, recurses := true, named := ["unicode/utf8.first", "unicode/utf8.acceptRanges", "internal/bytealg.MaxLen"], apart := false, laid := [("unicode/utf8.acceptRanges", laid_unicode_utf8_acceptRanges), ("unicode/utf8.first", laid_unicode_utf8_first)], narrowed := true }
def StampKeepsUptoSaid : Prop := stampKeepsUptoRow.holds Tryz.pinned (OpenSpec.upto stampKeepsSpec)

end Rows
end Go.Proofs.YtlnailgfialgnaaGreatDoor
