/-
  No cell of these rows narrows 'for every input' (looked for: loops, veiled, ifaces, maps, wideKeys, modest, calm, conditions, laid).
  DERIVED. THE GIVEN ROWS OF THIS SEAT. 7 by the template 'for every input the law returns true; each argument reads behind the call as it read before'; 0 by the template 'total and deterministic' (their statements: YtgiamleohegjeaaTotals.lean).
  GIVEN WITH THE SEED: the statements are not yours to turn. If you find one false, say at which input.
  Laid BY PROGRAM, IN A SANDBOX (cutbox-rows.mjs): the forced cells as the released guide's own fill.sh prints them over the translation 98333dec91f45c04… (all of the seat's roots in one cut). By AI agents, Wed Nov 11 2026. No macro, syntax, notation, axiom, sorry.
-/
import Derived.Test.YtgiamleohegjeaaChecked
import GoSem.Claim
import GoSem.ClaimJoined
import GoSem.ClaimMapViews
import Derived.JoinedTies
import Derived.KernelRfl
namespace Go.Proofs.Ytgiamleohegjeaa
/- THE CELL 'sum', in the pinned program and in every row, IS THE sha256 OF THE DUMP (.gsa) THAT YtgiamleohegjeaaProg.lean LOADS. Nothing in Lean hashes anything: it is a label: what it is worth is what the hold of that sum in a sandbox is worth. -/
noncomputable def Try.pinned : Pinned := { name := "ytgiamleohegjeaa", sum := "98333dec91f45c049e1c510b865a4424ece2076f718f5b4a3e58d3ad3af6f022", checked := Try.checked }
namespace Rows
def none {H : Type} : Left H := { results := [], args := [] }

/-- 'shuntlaw13.SparseTells': WHATEVER THE INPUT: true; the input reads as it did. -/
def sparseTellsSpec : ChangeSpec := { name := "sparseTells", fn := fun _ => fun
  | [d1, d2] => { results := [.lit (.bool true)], args := [d1, d2] }
  | _ => none }
def sparseTellsRow : OpenClaim := { program := "ytgiamleohegjeaa", sum := "98333dec91f45c049e1c510b865a4424ece2076f718f5b4a3e58d3ad3af6f022", func := "shunt/shuntlaw13.SparseTells", spec := "sparseTells", unfollowed := true, recurses := true, apart := false }
def SparseTellsSaid : Prop := sparseTellsRow.holds Try.pinned (OpenSpec.ofChange sparseTellsSpec)

/-- ITS FALSE NEIGHBOUR: 'it returns false'. Refute it at one input. -/
def sparseTellsWrong : ChangeSpec := { name := "sparseTells", fn := fun _ => fun
  | [d1, d2] => { results := [.lit (.bool false)], args := [d1, d2] }
  | _ => none }
def SparseTellsWrongFalsely : Prop := sparseTellsRow.holds Try.pinned (OpenSpec.ofChange sparseTellsWrong)

/-- 'shuntlaw13.SparseFills': WHATEVER THE INPUT: true; the input reads as it did. -/
def sparseFillsSpec : ChangeSpec := { name := "sparseFills", fn := fun _ => fun
  | [d1, d2, d3] => { results := [.lit (.bool true)], args := [d1, d2, d3] }
  | _ => none }
def sparseFillsRow : OpenClaim := { program := "ytgiamleohegjeaa", sum := "98333dec91f45c049e1c510b865a4424ece2076f718f5b4a3e58d3ad3af6f022", func := "shunt/shuntlaw13.SparseFills", spec := "sparseFills", unfollowed := true, recurses := true, apart := false }
def SparseFillsSaid : Prop := sparseFillsRow.holds Try.pinned (OpenSpec.ofChange sparseFillsSpec)

/-- ITS FALSE NEIGHBOUR: 'it returns false'. Refute it at one input. -/
def sparseFillsWrong : ChangeSpec := { name := "sparseFills", fn := fun _ => fun
  | [d1, d2, d3] => { results := [.lit (.bool false)], args := [d1, d2, d3] }
  | _ => none }
def SparseFillsWrongFalsely : Prop := sparseFillsRow.holds Try.pinned (OpenSpec.ofChange sparseFillsWrong)

/-- 'shuntlaw13.SparseOrders': WHATEVER THE INPUT: true; the input reads as it did. -/
def sparseOrdersSpec : ChangeSpec := { name := "sparseOrders", fn := fun _ => fun
  | [d] => { results := [.lit (.bool true)], args := [d] }
  | _ => none }
def sparseOrdersRow : OpenClaim := { program := "ytgiamleohegjeaa", sum := "98333dec91f45c049e1c510b865a4424ece2076f718f5b4a3e58d3ad3af6f022", func := "shunt/shuntlaw13.SparseOrders", spec := "sparseOrders", unfollowed := true, recurses := true, apart := false }
def SparseOrdersSaid : Prop := sparseOrdersRow.holds Try.pinned (OpenSpec.ofChange sparseOrdersSpec)

/-- ITS FALSE NEIGHBOUR: 'it returns false'. Refute it at one input. -/
def sparseOrdersWrong : ChangeSpec := { name := "sparseOrders", fn := fun _ => fun
  | [d] => { results := [.lit (.bool false)], args := [d] }
  | _ => none }
def SparseOrdersWrongFalsely : Prop := sparseOrdersRow.holds Try.pinned (OpenSpec.ofChange sparseOrdersWrong)

/-- 'shuntlaw13.SparseTurned': WHATEVER THE INPUT: true; the input reads as it did. -/
def sparseTurnedSpec : ChangeSpec := { name := "sparseTurned", fn := fun _ => fun
  | [d1, d2, d3] => { results := [.lit (.bool true)], args := [d1, d2, d3] }
  | _ => none }
def sparseTurnedRow : OpenClaim := { program := "ytgiamleohegjeaa", sum := "98333dec91f45c049e1c510b865a4424ece2076f718f5b4a3e58d3ad3af6f022", func := "shunt/shuntlaw13.SparseTurned", spec := "sparseTurned", unfollowed := true, recurses := true, apart := false }
def SparseTurnedSaid : Prop := sparseTurnedRow.holds Try.pinned (OpenSpec.ofChange sparseTurnedSpec)

/-- ITS FALSE NEIGHBOUR: 'it returns false'. Refute it at one input. -/
def sparseTurnedWrong : ChangeSpec := { name := "sparseTurned", fn := fun _ => fun
  | [d1, d2, d3] => { results := [.lit (.bool false)], args := [d1, d2, d3] }
  | _ => none }
def SparseTurnedWrongFalsely : Prop := sparseTurnedRow.holds Try.pinned (OpenSpec.ofChange sparseTurnedWrong)

/-- 'shuntlaw13.SparseTree': WHATEVER THE INPUT: true; the input reads as it did. -/
def sparseTreeSpec : ChangeSpec := { name := "sparseTree", fn := fun _ => fun
  | [d] => { results := [.lit (.bool true)], args := [d] }
  | _ => none }
def sparseTreeRow : OpenClaim := { program := "ytgiamleohegjeaa", sum := "98333dec91f45c049e1c510b865a4424ece2076f718f5b4a3e58d3ad3af6f022", func := "shunt/shuntlaw13.SparseTree", spec := "sparseTree", unfollowed := true, recurses := true, apart := false }
def SparseTreeSaid : Prop := sparseTreeRow.holds Try.pinned (OpenSpec.ofChange sparseTreeSpec)

/-- ITS FALSE NEIGHBOUR: 'it returns false'. Refute it at one input. -/
def sparseTreeWrong : ChangeSpec := { name := "sparseTree", fn := fun _ => fun
  | [d] => { results := [.lit (.bool false)], args := [d] }
  | _ => none }
def SparseTreeWrongFalsely : Prop := sparseTreeRow.holds Try.pinned (OpenSpec.ofChange sparseTreeWrong)

/-- 'shuntlaw13.SparseBest': WHATEVER THE INPUT: true; the input reads as it did. -/
def sparseBestSpec : ChangeSpec := { name := "sparseBest", fn := fun _ => fun
  | [d] => { results := [.lit (.bool true)], args := [d] }
  | _ => none }
def sparseBestRow : OpenClaim := { program := "ytgiamleohegjeaa", sum := "98333dec91f45c049e1c510b865a4424ece2076f718f5b4a3e58d3ad3af6f022", func := "shunt/shuntlaw13.SparseBest", spec := "sparseBest", unfollowed := true, recurses := true, apart := false }
def SparseBestSaid : Prop := sparseBestRow.holds Try.pinned (OpenSpec.ofChange sparseBestSpec)

/-- ITS FALSE NEIGHBOUR: 'it returns false'. Refute it at one input. -/
def sparseBestWrong : ChangeSpec := { name := "sparseBest", fn := fun _ => fun
  | [d] => { results := [.lit (.bool false)], args := [d] }
  | _ => none }
def SparseBestWrongFalsely : Prop := sparseBestRow.holds Try.pinned (OpenSpec.ofChange sparseBestWrong)

/-- 'shuntlaw13.SparseOf': WHATEVER THE INPUT: true; the input reads as it did. -/
def sparseOfSpec : ChangeSpec := { name := "sparseOf", fn := fun _ => fun
  | [d] => { results := [.lit (.bool true)], args := [d] }
  | _ => none }
def sparseOfRow : OpenClaim := { program := "ytgiamleohegjeaa", sum := "98333dec91f45c049e1c510b865a4424ece2076f718f5b4a3e58d3ad3af6f022", func := "shunt/shuntlaw13.SparseOf", spec := "sparseOf", unfollowed := true, recurses := true, apart := false }
def SparseOfSaid : Prop := sparseOfRow.holds Try.pinned (OpenSpec.ofChange sparseOfSpec)

/-- ITS FALSE NEIGHBOUR: 'it returns false'. Refute it at one input. -/
def sparseOfWrong : ChangeSpec := { name := "sparseOf", fn := fun _ => fun
  | [d] => { results := [.lit (.bool false)], args := [d] }
  | _ => none }
def SparseOfWrongFalsely : Prop := sparseOfRow.holds Try.pinned (OpenSpec.ofChange sparseOfWrong)

/- THE SECOND FORM. 'bulk': how many values and letters a reading holds, each counted each time it is reached (what is shared counts as often as it is met; a slice's spare places count too). A statement '..UptoSaid' is the law's where the arguments, and the package variables that the reading takes, are together of bulk at most 1048576: NARROWER than '..Said'. Prove '..Said' where nothing that the law and all that it calls make is longer than what came in: it says more and counts as full. Else prove '..UptoSaid'. A law counts once. -/
mutual
def uptoBulk {H : Type} : DataW H → Nat
  | .lit (.string bytes) => bytes.length + 1
  | .lit _ => 1
  | .nil => 1
  | .ptr d => uptoBulk d + 1
  | .slice elems spare => uptoBulkAll elems + uptoBulkAll spare + 1
  | .agg parts => uptoBulkAll parts + 1
  | .iface _ d => uptoBulk d + 1
  | .map entries => uptoBulkEntries entries + 1
  | .held _ => 1
def uptoBulkAll {H : Type} : List (DataW H) → Nat
  | [] => 0
  | d :: r => uptoBulk d + uptoBulkAll r
def uptoBulkEntries {H : Type} : List (Lit × DataW H) → Nat
  | [] => 0
  | x :: r => uptoBulkEntry x + uptoBulkEntries r
def uptoBulkEntry {H : Type} : Lit × DataW H → Nat
  | (.string bytes, d) => bytes.length + uptoBulk d + 1
  | (_, d) => uptoBulk d + 1
 end
def uptoSmall : (H : Type) → List (DataW H) → Bool := fun _ ds => decide (uptoBulkAll ds ≤ 1048576)
def OpenSpec.upto (s : _root_.Go.ChangeSpec) : _root_.Go.OpenSpec := { _root_.Go.OpenSpec.ofChange s with cond := some uptoSmall }

/-- 'shuntlaw13.SparseTells', WHERE WHAT IT READS IS OF BULK AT MOST 1048576: true; the input reads as it did. -/
def sparseTellsUptoRow : OpenClaim := { program := "ytgiamleohegjeaa", sum := "98333dec91f45c049e1c510b865a4424ece2076f718f5b4a3e58d3ad3af6f022", func := "shunt/shuntlaw13.SparseTells", spec := "sparseTells", unfollowed := true, recurses := true, apart := false, narrowed := true }
def SparseTellsUptoSaid : Prop := sparseTellsUptoRow.holds Try.pinned (OpenSpec.upto sparseTellsSpec)

/-- 'shuntlaw13.SparseFills', WHERE WHAT IT READS IS OF BULK AT MOST 1048576: true; the input reads as it did. -/
def sparseFillsUptoRow : OpenClaim := { program := "ytgiamleohegjeaa", sum := "98333dec91f45c049e1c510b865a4424ece2076f718f5b4a3e58d3ad3af6f022", func := "shunt/shuntlaw13.SparseFills", spec := "sparseFills", unfollowed := true, recurses := true, apart := false, narrowed := true }
def SparseFillsUptoSaid : Prop := sparseFillsUptoRow.holds Try.pinned (OpenSpec.upto sparseFillsSpec)

/-- 'shuntlaw13.SparseOrders', WHERE WHAT IT READS IS OF BULK AT MOST 1048576: true; the input reads as it did. -/
def sparseOrdersUptoRow : OpenClaim := { program := "ytgiamleohegjeaa", sum := "98333dec91f45c049e1c510b865a4424ece2076f718f5b4a3e58d3ad3af6f022", func := "shunt/shuntlaw13.SparseOrders", spec := "sparseOrders", unfollowed := true, recurses := true, apart := false, narrowed := true }
def SparseOrdersUptoSaid : Prop := sparseOrdersUptoRow.holds Try.pinned (OpenSpec.upto sparseOrdersSpec)

/-- 'shuntlaw13.SparseTurned', WHERE WHAT IT READS IS OF BULK AT MOST 1048576: true; the input reads as it did. -/
def sparseTurnedUptoRow : OpenClaim := { program := "ytgiamleohegjeaa", sum := "98333dec91f45c049e1c510b865a4424ece2076f718f5b4a3e58d3ad3af6f022", func := "shunt/shuntlaw13.SparseTurned", spec := "sparseTurned", unfollowed := true, recurses := true, apart := false, narrowed := true }
def SparseTurnedUptoSaid : Prop := sparseTurnedUptoRow.holds Try.pinned (OpenSpec.upto sparseTurnedSpec)

/-- 'shuntlaw13.SparseTree', WHERE WHAT IT READS IS OF BULK AT MOST 1048576: true; the input reads as it did. -/
def sparseTreeUptoRow : OpenClaim := { program := "ytgiamleohegjeaa", sum := "98333dec91f45c049e1c510b865a4424ece2076f718f5b4a3e58d3ad3af6f022", func := "shunt/shuntlaw13.SparseTree", spec := "sparseTree", unfollowed := true, recurses := true, apart := false, narrowed := true }
def SparseTreeUptoSaid : Prop := sparseTreeUptoRow.holds Try.pinned (OpenSpec.upto sparseTreeSpec)

/-- 'shuntlaw13.SparseBest', WHERE WHAT IT READS IS OF BULK AT MOST 1048576: true; the input reads as it did. -/
def sparseBestUptoRow : OpenClaim := { program := "ytgiamleohegjeaa", sum := "98333dec91f45c049e1c510b865a4424ece2076f718f5b4a3e58d3ad3af6f022", func := "shunt/shuntlaw13.SparseBest", spec := "sparseBest", unfollowed := true, recurses := true, apart := false, narrowed := true }
def SparseBestUptoSaid : Prop := sparseBestUptoRow.holds Try.pinned (OpenSpec.upto sparseBestSpec)

/-- 'shuntlaw13.SparseOf', WHERE WHAT IT READS IS OF BULK AT MOST 1048576: true; the input reads as it did. -/
def sparseOfUptoRow : OpenClaim := { program := "ytgiamleohegjeaa", sum := "98333dec91f45c049e1c510b865a4424ece2076f718f5b4a3e58d3ad3af6f022", func := "shunt/shuntlaw13.SparseOf", spec := "sparseOf", unfollowed := true, recurses := true, apart := false, narrowed := true }
def SparseOfUptoSaid : Prop := sparseOfUptoRow.holds Try.pinned (OpenSpec.upto sparseOfSpec)

end Rows
end Go.Proofs.Ytgiamleohegjeaa
