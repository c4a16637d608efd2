/-
  DERIVED. GIVEN WITH THE SEED: THE CARDS: each row of YtlnailgfialgnaaGreatDoorRows.lean that lists a variable, with what it lists TIED to the program's text (the seventh form; the later family's looks); each row that meets fmt, with fmt's text TOLD by the authors' own Lean function (tested against real Go, not proved from fmt's source: count such statements apart). THE CARD IS WHAT COUNTS. Prove the row's statement (the work); the ties are given (YtlnailgfialgnaaGreatDoorTie.lean); close each card by the builder's one call (the guide's Derived/Test/ToyasCard.lean, 'card_holds'). Laid BY PROGRAM, IN A SANDBOX (cutbox-door.mjs). By AI agents, Wed Nov 11 2026. No macro, syntax, notation, axiom, sorry.
-/
import Derived.Test.YtlnailgfialgnaaGreatDoorRows
import GoSem.ClaimSeven
namespace Go.Proofs.YtlnailgfialgnaaGreatDoor
namespace Rows

/-- THE TIED CARD OF 'shuntlaw10.TopoTells'. -/
def topoTellsCard : Claim7 := { stood := { row := topoTellsRow, standIns := [], harness := (true, "5ef3c3c07872d3be35a3a3883e7086d69564e098e6bb63972530fc0361de80e0"), looks := false }, kinds := [], alts := [], laidByText := true, laidKinds := [.data, .pinned], laidTests := true, laidLooks := .later }
def TopoTellsCardSaid : Prop := Claim7.holds Tryz.pinned (.plain (OpenSpec.ofChange topoTellsSpec)) topoTellsCard

/-- THE TIED CARD OF 'shuntlaw10.TopoTied'. -/
def topoTiedCard : Claim7 := { stood := { row := topoTiedRow, standIns := [], harness := (true, "5ef3c3c07872d3be35a3a3883e7086d69564e098e6bb63972530fc0361de80e0"), looks := false }, kinds := [], alts := [], laidByText := true, laidKinds := [.data, .pinned], laidTests := true, laidLooks := .later }
def TopoTiedCardSaid : Prop := Claim7.holds Tryz.pinned (.plain (OpenSpec.ofChange topoTiedSpec)) topoTiedCard

/-- THE TIED CARD OF 'shuntlaw20.ProbeReads'. -/
def probeReadsCard : Claim7 := { stood := { row := probeReadsRow, standIns := [], harness := (true, "5ef3c3c07872d3be35a3a3883e7086d69564e098e6bb63972530fc0361de80e0"), looks := false }, kinds := [], alts := [], laidByText := true, laidKinds := [.data, .pinned], laidTests := true, laidLooks := .later }
def ProbeReadsCardSaid : Prop := Claim7.holds Tryz.pinned (.plain (OpenSpec.ofChange probeReadsSpec)) probeReadsCard

/-- THE TIED CARD OF 'shuntlaw20.ProbeDifference'. -/
def probeDifferenceCard : Claim7 := { stood := { row := probeDifferenceRow, standIns := [], harness := (true, "5ef3c3c07872d3be35a3a3883e7086d69564e098e6bb63972530fc0361de80e0"), looks := false }, kinds := [], alts := [], laidByText := true, laidKinds := [.data, .pinned], laidTests := true, laidLooks := .later }
def ProbeDifferenceCardSaid : Prop := Claim7.holds Tryz.pinned (.plain (OpenSpec.ofChange probeDifferenceSpec)) probeDifferenceCard

/-- THE TIED CARD OF 'shuntlaw20.ProbeMeasures'. -/
def probeMeasuresCard : Claim7 := { stood := { row := probeMeasuresRow, standIns := [], harness := (true, "5ef3c3c07872d3be35a3a3883e7086d69564e098e6bb63972530fc0361de80e0"), looks := false }, kinds := [], alts := [], laidByText := true, laidKinds := [.data, .pinned], laidTests := true, laidLooks := .later }
def ProbeMeasuresCardSaid : Prop := Claim7.holds Tryz.pinned (.plain (OpenSpec.ofChange probeMeasuresSpec)) probeMeasuresCard

/-- THE TIED CARD OF 'shuntlaw20.ProbeSpan'. -/
def probeSpanCard : Claim7 := { stood := { row := probeSpanRow, standIns := [], harness := (true, "5ef3c3c07872d3be35a3a3883e7086d69564e098e6bb63972530fc0361de80e0"), looks := false }, kinds := [], alts := [], laidByText := true, laidKinds := [.data, .pinned], laidTests := true, laidLooks := .later }
def ProbeSpanCardSaid : Prop := Claim7.holds Tryz.pinned (.plain (OpenSpec.ofChange probeSpanSpec)) probeSpanCard

/-- THE TIED CARD OF 'shuntlaw11.StampTells'. -/
def stampTellsCard : Claim7 := { stood := { row := stampTellsRow, standIns := [], harness := (true, "5ef3c3c07872d3be35a3a3883e7086d69564e098e6bb63972530fc0361de80e0"), looks := false }, kinds := [], alts := [], laidByText := true, laidKinds := [.data, .pinned], laidTests := true, laidLooks := .later }
def StampTellsCardSaid : Prop := Claim7.holds Tryz.pinned (.plain (OpenSpec.ofChange stampTellsSpec)) stampTellsCard

/-- THE TIED CARD OF 'shuntlaw11.StampCurrent'. -/
def stampCurrentCard : Claim7 := { stood := { row := stampCurrentRow, standIns := [], harness := (true, "5ef3c3c07872d3be35a3a3883e7086d69564e098e6bb63972530fc0361de80e0"), looks := false }, kinds := [], alts := [], laidByText := true, laidKinds := [.data, .pinned], laidTests := true, laidLooks := .later }
def StampCurrentCardSaid : Prop := Claim7.holds Tryz.pinned (.plain (OpenSpec.ofChange stampCurrentSpec)) stampCurrentCard

/-- THE TIED CARD OF 'shuntlaw11.StampMethods'. -/
def stampMethodsCard : Claim7 := { stood := { row := stampMethodsRow, standIns := [], harness := (true, "5ef3c3c07872d3be35a3a3883e7086d69564e098e6bb63972530fc0361de80e0"), looks := false }, kinds := [], alts := [], laidByText := true, laidKinds := [.data, .pinned], laidTests := true, laidLooks := .later }
def StampMethodsCardSaid : Prop := Claim7.holds Tryz.pinned (.plain (OpenSpec.ofChange stampMethodsSpec)) stampMethodsCard

/-- THE TIED CARD OF 'shuntlaw11.StampKeeps'. -/
def stampKeepsCard : Claim7 := { stood := { row := stampKeepsRow, standIns := [], harness := (true, "5ef3c3c07872d3be35a3a3883e7086d69564e098e6bb63972530fc0361de80e0"), looks := false }, kinds := [], alts := [], laidByText := true, laidKinds := [.data, .pinned], laidTests := true, laidLooks := .later }
def StampKeepsCardSaid : Prop := Claim7.holds Tryz.pinned (.plain (OpenSpec.ofChange stampKeepsSpec)) stampKeepsCard

/-- THE SECOND FORM's CARD OF 'shuntlaw10.TopoTells'. -/
def topoTellsUptoCard : Claim7 := { stood := { row := topoTellsUptoRow, standIns := [], harness := (true, "5ef3c3c07872d3be35a3a3883e7086d69564e098e6bb63972530fc0361de80e0"), looks := false }, kinds := [], alts := [], laidByText := true, laidKinds := [.data, .pinned], laidTests := true, laidLooks := .later }
def TopoTellsUptoCardSaid : Prop := Claim7.holds Tryz.pinned (.plain (OpenSpec.upto topoTellsSpec)) topoTellsUptoCard

/-- THE SECOND FORM's CARD OF 'shuntlaw10.TopoTied'. -/
def topoTiedUptoCard : Claim7 := { stood := { row := topoTiedUptoRow, standIns := [], harness := (true, "5ef3c3c07872d3be35a3a3883e7086d69564e098e6bb63972530fc0361de80e0"), looks := false }, kinds := [], alts := [], laidByText := true, laidKinds := [.data, .pinned], laidTests := true, laidLooks := .later }
def TopoTiedUptoCardSaid : Prop := Claim7.holds Tryz.pinned (.plain (OpenSpec.upto topoTiedSpec)) topoTiedUptoCard

/-- THE SECOND FORM's CARD OF 'shuntlaw20.ProbeReads'. -/
def probeReadsUptoCard : Claim7 := { stood := { row := probeReadsUptoRow, standIns := [], harness := (true, "5ef3c3c07872d3be35a3a3883e7086d69564e098e6bb63972530fc0361de80e0"), looks := false }, kinds := [], alts := [], laidByText := true, laidKinds := [.data, .pinned], laidTests := true, laidLooks := .later }
def ProbeReadsUptoCardSaid : Prop := Claim7.holds Tryz.pinned (.plain (OpenSpec.upto probeReadsSpec)) probeReadsUptoCard

/-- THE SECOND FORM's CARD OF 'shuntlaw20.ProbeDifference'. -/
def probeDifferenceUptoCard : Claim7 := { stood := { row := probeDifferenceUptoRow, standIns := [], harness := (true, "5ef3c3c07872d3be35a3a3883e7086d69564e098e6bb63972530fc0361de80e0"), looks := false }, kinds := [], alts := [], laidByText := true, laidKinds := [.data, .pinned], laidTests := true, laidLooks := .later }
def ProbeDifferenceUptoCardSaid : Prop := Claim7.holds Tryz.pinned (.plain (OpenSpec.upto probeDifferenceSpec)) probeDifferenceUptoCard

/-- THE SECOND FORM's CARD OF 'shuntlaw20.ProbeMeasures'. -/
def probeMeasuresUptoCard : Claim7 := { stood := { row := probeMeasuresUptoRow, standIns := [], harness := (true, "5ef3c3c07872d3be35a3a3883e7086d69564e098e6bb63972530fc0361de80e0"), looks := false }, kinds := [], alts := [], laidByText := true, laidKinds := [.data, .pinned], laidTests := true, laidLooks := .later }
def ProbeMeasuresUptoCardSaid : Prop := Claim7.holds Tryz.pinned (.plain (OpenSpec.upto probeMeasuresSpec)) probeMeasuresUptoCard

/-- THE SECOND FORM's CARD OF 'shuntlaw20.ProbeSpan'. -/
def probeSpanUptoCard : Claim7 := { stood := { row := probeSpanUptoRow, standIns := [], harness := (true, "5ef3c3c07872d3be35a3a3883e7086d69564e098e6bb63972530fc0361de80e0"), looks := false }, kinds := [], alts := [], laidByText := true, laidKinds := [.data, .pinned], laidTests := true, laidLooks := .later }
def ProbeSpanUptoCardSaid : Prop := Claim7.holds Tryz.pinned (.plain (OpenSpec.upto probeSpanSpec)) probeSpanUptoCard

/-- THE SECOND FORM's CARD OF 'shuntlaw11.StampTells'. -/
def stampTellsUptoCard : Claim7 := { stood := { row := stampTellsUptoRow, standIns := [], harness := (true, "5ef3c3c07872d3be35a3a3883e7086d69564e098e6bb63972530fc0361de80e0"), looks := false }, kinds := [], alts := [], laidByText := true, laidKinds := [.data, .pinned], laidTests := true, laidLooks := .later }
def StampTellsUptoCardSaid : Prop := Claim7.holds Tryz.pinned (.plain (OpenSpec.upto stampTellsSpec)) stampTellsUptoCard

/-- THE SECOND FORM's CARD OF 'shuntlaw11.StampCurrent'. -/
def stampCurrentUptoCard : Claim7 := { stood := { row := stampCurrentUptoRow, standIns := [], harness := (true, "5ef3c3c07872d3be35a3a3883e7086d69564e098e6bb63972530fc0361de80e0"), looks := false }, kinds := [], alts := [], laidByText := true, laidKinds := [.data, .pinned], laidTests := true, laidLooks := .later }
def StampCurrentUptoCardSaid : Prop := Claim7.holds Tryz.pinned (.plain (OpenSpec.upto stampCurrentSpec)) stampCurrentUptoCard

/-- THE SECOND FORM's CARD OF 'shuntlaw11.StampMethods'. -/
def stampMethodsUptoCard : Claim7 := { stood := { row := stampMethodsUptoRow, standIns := [], harness := (true, "5ef3c3c07872d3be35a3a3883e7086d69564e098e6bb63972530fc0361de80e0"), looks := false }, kinds := [], alts := [], laidByText := true, laidKinds := [.data, .pinned], laidTests := true, laidLooks := .later }
def StampMethodsUptoCardSaid : Prop := Claim7.holds Tryz.pinned (.plain (OpenSpec.upto stampMethodsSpec)) stampMethodsUptoCard

/-- THE SECOND FORM's CARD OF 'shuntlaw11.StampKeeps'. -/
def stampKeepsUptoCard : Claim7 := { stood := { row := stampKeepsUptoRow, standIns := [], harness := (true, "5ef3c3c07872d3be35a3a3883e7086d69564e098e6bb63972530fc0361de80e0"), looks := false }, kinds := [], alts := [], laidByText := true, laidKinds := [.data, .pinned], laidTests := true, laidLooks := .later }
def StampKeepsUptoCardSaid : Prop := Claim7.holds Tryz.pinned (.plain (OpenSpec.upto stampKeepsSpec)) stampKeepsUptoCard
end Rows
end Go.Proofs.YtlnailgfialgnaaGreatDoor
