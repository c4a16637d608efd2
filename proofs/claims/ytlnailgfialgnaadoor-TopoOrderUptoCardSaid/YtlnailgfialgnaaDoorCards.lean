/-
  DERIVED. GIVEN WITH THE SEED: THE CARDS: each row of YtlnailgfialgnaaDoorRows.lean that lists a variable, with what it lists TIED to the program's text (the seventh form; the later family's looks); each row that meets fmt, with fmt's text TOLD by the authors' own Lean function (tested against real Go, not proved from fmt's source: count such statements apart). THE CARD IS WHAT COUNTS. Prove the row's statement (the work); the ties are given (YtlnailgfialgnaaDoorTie.lean); close each card by the builder's one call (the guide's Derived/Test/ToyasCard.lean, 'card_holds'). Laid BY PROGRAM, IN A SANDBOX (cutbox-door.mjs). By AI agents, Wed Nov 11 2026. No macro, syntax, notation, axiom, sorry.
-/
import Derived.Test.YtlnailgfialgnaaDoorRows
import GoSem.ClaimSeven
namespace Go.Proofs.YtlnailgfialgnaaDoor
namespace Rows

/-- THE TIED CARD OF 'shuntlaw10.TopoOrder'. -/
def topoOrderCard : Claim7 := { stood := { row := topoOrderRow, standIns := [], harness := (true, "4a2353d569ac5e883562cd27399fa6eb7ea354b116126048a91403b3b33d02b5"), looks := false }, kinds := [], alts := [], laidByText := true, laidKinds := [.data, .pinned], laidTests := true, laidLooks := .later }
def TopoOrderCardSaid : Prop := Claim7.holds Tryd.pinned (.plain (OpenSpec.ofChange topoOrderSpec)) topoOrderCard

/-- THE TIED CARD OF 'shuntlaw10.TopoModes'. -/
def topoModesCard : Claim7 := { stood := { row := topoModesRow, standIns := [], harness := (true, "4a2353d569ac5e883562cd27399fa6eb7ea354b116126048a91403b3b33d02b5"), looks := false }, kinds := [], alts := [], laidByText := true, laidKinds := [.data, .pinned], laidTests := true, laidLooks := .later }
def TopoModesCardSaid : Prop := Claim7.holds Tryd.pinned (.plain (OpenSpec.ofChange topoModesSpec)) topoModesCard

/-- THE TIED CARD OF 'shuntlaw20.ProbeSettles'. -/
def probeSettlesCard : Claim7 := { stood := { row := probeSettlesRow, standIns := [], harness := (true, "4a2353d569ac5e883562cd27399fa6eb7ea354b116126048a91403b3b33d02b5"), looks := false }, kinds := [], alts := [], laidByText := true, laidKinds := [.data, .pinned], laidTests := true, laidLooks := .later }
def ProbeSettlesCardSaid : Prop := Claim7.holds Tryd.pinned (.plain (OpenSpec.ofChange probeSettlesSpec)) probeSettlesCard

/-- THE TIED CARD OF 'shuntlaw20.ProbeRises'. -/
def probeRisesCard : Claim7 := { stood := { row := probeRisesRow, standIns := [], harness := (true, "4a2353d569ac5e883562cd27399fa6eb7ea354b116126048a91403b3b33d02b5"), looks := false }, kinds := [], alts := [], laidByText := true, laidKinds := [.data, .pinned], laidTests := true, laidLooks := .later }
def ProbeRisesCardSaid : Prop := Claim7.holds Tryd.pinned (.plain (OpenSpec.ofChange probeRisesSpec)) probeRisesCard

/-- THE SECOND FORM's CARD OF 'shuntlaw10.TopoOrder'. -/
def topoOrderUptoCard : Claim7 := { stood := { row := topoOrderUptoRow, standIns := [], harness := (true, "4a2353d569ac5e883562cd27399fa6eb7ea354b116126048a91403b3b33d02b5"), looks := false }, kinds := [], alts := [], laidByText := true, laidKinds := [.data, .pinned], laidTests := true, laidLooks := .later }
def TopoOrderUptoCardSaid : Prop := Claim7.holds Tryd.pinned (.plain (OpenSpec.upto topoOrderSpec)) topoOrderUptoCard

/-- THE SECOND FORM's CARD OF 'shuntlaw10.TopoModes'. -/
def topoModesUptoCard : Claim7 := { stood := { row := topoModesUptoRow, standIns := [], harness := (true, "4a2353d569ac5e883562cd27399fa6eb7ea354b116126048a91403b3b33d02b5"), looks := false }, kinds := [], alts := [], laidByText := true, laidKinds := [.data, .pinned], laidTests := true, laidLooks := .later }
def TopoModesUptoCardSaid : Prop := Claim7.holds Tryd.pinned (.plain (OpenSpec.upto topoModesSpec)) topoModesUptoCard

/-- THE SECOND FORM's CARD OF 'shuntlaw20.ProbeSettles'. -/
def probeSettlesUptoCard : Claim7 := { stood := { row := probeSettlesUptoRow, standIns := [], harness := (true, "4a2353d569ac5e883562cd27399fa6eb7ea354b116126048a91403b3b33d02b5"), looks := false }, kinds := [], alts := [], laidByText := true, laidKinds := [.data, .pinned], laidTests := true, laidLooks := .later }
def ProbeSettlesUptoCardSaid : Prop := Claim7.holds Tryd.pinned (.plain (OpenSpec.upto probeSettlesSpec)) probeSettlesUptoCard

/-- THE SECOND FORM's CARD OF 'shuntlaw20.ProbeRises'. -/
def probeRisesUptoCard : Claim7 := { stood := { row := probeRisesUptoRow, standIns := [], harness := (true, "4a2353d569ac5e883562cd27399fa6eb7ea354b116126048a91403b3b33d02b5"), looks := false }, kinds := [], alts := [], laidByText := true, laidKinds := [.data, .pinned], laidTests := true, laidLooks := .later }
def ProbeRisesUptoCardSaid : Prop := Claim7.holds Tryd.pinned (.plain (OpenSpec.upto probeRisesSpec)) probeRisesUptoCard
end Rows
end Go.Proofs.YtlnailgfialgnaaDoor
