/-
  No cell of these rows narrows 'for every input' (looked for: loops, veiled, ifaces, maps, wideKeys, modest, calm, conditions, laid).
  DERIVED. THE GIVEN ROWS OF THIS SEAT. 8 by the template 'for every input the law returns true; each argument reads behind the call as it read before'; 0 by the template 'total and deterministic' (their statements: YtghdpmejgonjmaaTotals.lean).
  GIVEN WITH THE SEED: the statements are not yours to turn. If you find one false, say at which input.
  Laid BY PROGRAM, IN A SANDBOX (cutbox-rows.mjs): the forced cells as the released guide's own fill.sh prints them over the translation 90a8df1b3c6d8c07… (all of the seat's roots in one cut). By AI agents, Wed Nov 11 2026. No macro, syntax, notation, axiom, sorry.
-/
import Derived.Test.YtghdpmejgonjmaaChecked
import GoSem.Claim
import GoSem.ClaimJoined
import GoSem.ClaimMapViews
import Derived.JoinedTies
import Derived.KernelRfl
namespace Go.Proofs.Ytghdpmejgonjmaa
/- THE CELL 'sum', in the pinned program and in every row, IS THE sha256 OF THE DUMP (.gsa) THAT YtghdpmejgonjmaaProg.lean LOADS. Nothing in Lean hashes anything: it is a label: what it is worth is what the hold of that sum in a sandbox is worth. -/
noncomputable def Try.pinned : Pinned := { name := "ytghdpmejgonjmaa", sum := "90a8df1b3c6d8c07d776e72c41f3d8a429c959d0c7c76508886f7a80a7c5d7ab", checked := Try.checked }
namespace Rows
def none {H : Type} : Left H := { results := [], args := [] }

/-- 'shuntlaw01.LimbParts': WHATEVER THE INPUT: true; the input reads as it did. -/
def limbPartsSpec : ChangeSpec := { name := "limbParts", fn := fun _ => fun
  | [d1, d2] => { results := [.lit (.bool true)], args := [d1, d2] }
  | _ => none }
def limbPartsRow : OpenClaim := { program := "ytghdpmejgonjmaa", sum := "90a8df1b3c6d8c07d776e72c41f3d8a429c959d0c7c76508886f7a80a7c5d7ab", func := "shunt/shuntlaw01.LimbParts", spec := "limbParts", apart := false }
def LimbPartsSaid : Prop := limbPartsRow.holds Try.pinned (OpenSpec.ofChange limbPartsSpec)

/-- ITS FALSE NEIGHBOUR: 'it returns false'. Refute it at one input. -/
def limbPartsWrong : ChangeSpec := { name := "limbParts", fn := fun _ => fun
  | [d1, d2] => { results := [.lit (.bool false)], args := [d1, d2] }
  | _ => none }
def LimbPartsWrongFalsely : Prop := limbPartsRow.holds Try.pinned (OpenSpec.ofChange limbPartsWrong)

/-- 'shuntlaw01.LimbOnes': WHATEVER THE INPUT: true; the input reads as it did. -/
def limbOnesSpec : ChangeSpec := { name := "limbOnes", fn := fun _ => fun
  | [d1, d2, d3] => { results := [.lit (.bool true)], args := [d1, d2, d3] }
  | _ => none }
def limbOnesRow : OpenClaim := { program := "ytghdpmejgonjmaa", sum := "90a8df1b3c6d8c07d776e72c41f3d8a429c959d0c7c76508886f7a80a7c5d7ab", func := "shunt/shuntlaw01.LimbOnes", spec := "limbOnes", apart := false }
def LimbOnesSaid : Prop := limbOnesRow.holds Try.pinned (OpenSpec.ofChange limbOnesSpec)

/-- ITS FALSE NEIGHBOUR: 'it returns false'. Refute it at one input. -/
def limbOnesWrong : ChangeSpec := { name := "limbOnes", fn := fun _ => fun
  | [d1, d2, d3] => { results := [.lit (.bool false)], args := [d1, d2, d3] }
  | _ => none }
def LimbOnesWrongFalsely : Prop := limbOnesRow.holds Try.pinned (OpenSpec.ofChange limbOnesWrong)

/-- 'shuntlaw01.LimbRing': WHATEVER THE INPUT: true; the input reads as it did. -/
def limbRingSpec : ChangeSpec := { name := "limbRing", fn := fun _ => fun
  | [d1, d2, d3] => { results := [.lit (.bool true)], args := [d1, d2, d3] }
  | _ => none }
def limbRingRow : OpenClaim := { program := "ytghdpmejgonjmaa", sum := "90a8df1b3c6d8c07d776e72c41f3d8a429c959d0c7c76508886f7a80a7c5d7ab", func := "shunt/shuntlaw01.LimbRing", spec := "limbRing", apart := false }
def LimbRingSaid : Prop := limbRingRow.holds Try.pinned (OpenSpec.ofChange limbRingSpec)

/-- ITS FALSE NEIGHBOUR: 'it returns false'. Refute it at one input. -/
def limbRingWrong : ChangeSpec := { name := "limbRing", fn := fun _ => fun
  | [d1, d2, d3] => { results := [.lit (.bool false)], args := [d1, d2, d3] }
  | _ => none }
def LimbRingWrongFalsely : Prop := limbRingRow.holds Try.pinned (OpenSpec.ofChange limbRingWrong)

/-- 'shuntlaw01.LimbOrder': WHATEVER THE INPUT: true; the input reads as it did. -/
def limbOrderSpec : ChangeSpec := { name := "limbOrder", fn := fun _ => fun
  | [d1, d2, d3] => { results := [.lit (.bool true)], args := [d1, d2, d3] }
  | _ => none }
def limbOrderRow : OpenClaim := { program := "ytghdpmejgonjmaa", sum := "90a8df1b3c6d8c07d776e72c41f3d8a429c959d0c7c76508886f7a80a7c5d7ab", func := "shunt/shuntlaw01.LimbOrder", spec := "limbOrder", apart := false }
def LimbOrderSaid : Prop := limbOrderRow.holds Try.pinned (OpenSpec.ofChange limbOrderSpec)

/-- ITS FALSE NEIGHBOUR: 'it returns false'. Refute it at one input. -/
def limbOrderWrong : ChangeSpec := { name := "limbOrder", fn := fun _ => fun
  | [d1, d2, d3] => { results := [.lit (.bool false)], args := [d1, d2, d3] }
  | _ => none }
def LimbOrderWrongFalsely : Prop := limbOrderRow.holds Try.pinned (OpenSpec.ofChange limbOrderWrong)

/-- 'shuntlaw01.LimbReads': WHATEVER THE INPUT: true; the input reads as it did. -/
def limbReadsSpec : ChangeSpec := { name := "limbReads", fn := fun _ => fun
  | [d] => { results := [.lit (.bool true)], args := [d] }
  | _ => none }
def limbReadsRow : OpenClaim := { program := "ytghdpmejgonjmaa", sum := "90a8df1b3c6d8c07d776e72c41f3d8a429c959d0c7c76508886f7a80a7c5d7ab", func := "shunt/shuntlaw01.LimbReads", spec := "limbReads", apart := false }
def LimbReadsSaid : Prop := limbReadsRow.holds Try.pinned (OpenSpec.ofChange limbReadsSpec)

/-- ITS FALSE NEIGHBOUR: 'it returns false'. Refute it at one input. -/
def limbReadsWrong : ChangeSpec := { name := "limbReads", fn := fun _ => fun
  | [d] => { results := [.lit (.bool false)], args := [d] }
  | _ => none }
def LimbReadsWrongFalsely : Prop := limbReadsRow.holds Try.pinned (OpenSpec.ofChange limbReadsWrong)

/-- 'shuntlaw01.LimbBack': WHATEVER THE INPUT: true; the input reads as it did. -/
def limbBackSpec : ChangeSpec := { name := "limbBack", fn := fun _ => fun
  | [d1, d2] => { results := [.lit (.bool true)], args := [d1, d2] }
  | _ => none }
def limbBackRow : OpenClaim := { program := "ytghdpmejgonjmaa", sum := "90a8df1b3c6d8c07d776e72c41f3d8a429c959d0c7c76508886f7a80a7c5d7ab", func := "shunt/shuntlaw01.LimbBack", spec := "limbBack", apart := false }
def LimbBackSaid : Prop := limbBackRow.holds Try.pinned (OpenSpec.ofChange limbBackSpec)

/-- ITS FALSE NEIGHBOUR: 'it returns false'. Refute it at one input. -/
def limbBackWrong : ChangeSpec := { name := "limbBack", fn := fun _ => fun
  | [d1, d2] => { results := [.lit (.bool false)], args := [d1, d2] }
  | _ => none }
def LimbBackWrongFalsely : Prop := limbBackRow.holds Try.pinned (OpenSpec.ofChange limbBackWrong)

/-- 'shuntlaw01.LimbSums': WHATEVER THE INPUT: true; the input reads as it did. -/
def limbSumsSpec : ChangeSpec := { name := "limbSums", fn := fun _ => fun
  | [d1, d2] => { results := [.lit (.bool true)], args := [d1, d2] }
  | _ => none }
def limbSumsRow : OpenClaim := { program := "ytghdpmejgonjmaa", sum := "90a8df1b3c6d8c07d776e72c41f3d8a429c959d0c7c76508886f7a80a7c5d7ab", func := "shunt/shuntlaw01.LimbSums", spec := "limbSums", apart := false }
def LimbSumsSaid : Prop := limbSumsRow.holds Try.pinned (OpenSpec.ofChange limbSumsSpec)

/-- ITS FALSE NEIGHBOUR: 'it returns false'. Refute it at one input. -/
def limbSumsWrong : ChangeSpec := { name := "limbSums", fn := fun _ => fun
  | [d1, d2] => { results := [.lit (.bool false)], args := [d1, d2] }
  | _ => none }
def LimbSumsWrongFalsely : Prop := limbSumsRow.holds Try.pinned (OpenSpec.ofChange limbSumsWrong)

/-- 'shuntlaw01.LimbDivides': WHATEVER THE INPUT: true; the input reads as it did. -/
def limbDividesSpec : ChangeSpec := { name := "limbDivides", fn := fun _ => fun
  | [d1, d2] => { results := [.lit (.bool true)], args := [d1, d2] }
  | _ => none }
def limbDividesRow : OpenClaim := { program := "ytghdpmejgonjmaa", sum := "90a8df1b3c6d8c07d776e72c41f3d8a429c959d0c7c76508886f7a80a7c5d7ab", func := "shunt/shuntlaw01.LimbDivides", spec := "limbDivides", apart := false }
def LimbDividesSaid : Prop := limbDividesRow.holds Try.pinned (OpenSpec.ofChange limbDividesSpec)

/-- ITS FALSE NEIGHBOUR: 'it returns false'. Refute it at one input. -/
def limbDividesWrong : ChangeSpec := { name := "limbDivides", fn := fun _ => fun
  | [d1, d2] => { results := [.lit (.bool false)], args := [d1, d2] }
  | _ => none }
def LimbDividesWrongFalsely : Prop := limbDividesRow.holds Try.pinned (OpenSpec.ofChange limbDividesWrong)

/- THE SECOND FORM. 'bulk': how many values and letters a reading holds, each counted each time it is reached (what is shared counts as often as it is met; a slice's spare places count too). A statement '..UptoSaid' is the law's where the arguments, and the package variables that the reading takes, are together of bulk at most 1048576: NARROWER than '..Said'. Prove '..Said' where nothing that the law and all that it calls make is longer than what came in: it says more and counts as full. Else prove '..UptoSaid'. A law counts once. -/
mutual
def uptoBulk {H : Type} : DataW H → Nat
  | .lit (.string bytes) => bytes.length + 1
  | .lit _ => 1
  | .nil => 1
  | .ptr d => uptoBulk d + 1
  | .slice elems spare => uptoBulkAll elems + uptoBulkAll spare + 1
  | .agg parts => uptoBulkAll parts + 1
  | .iface _ d => uptoBulk d + 1
  | .map entries => uptoBulkEntries entries + 1
  | .held _ => 1
def uptoBulkAll {H : Type} : List (DataW H) → Nat
  | [] => 0
  | d :: r => uptoBulk d + uptoBulkAll r
def uptoBulkEntries {H : Type} : List (Lit × DataW H) → Nat
  | [] => 0
  | x :: r => uptoBulkEntry x + uptoBulkEntries r
def uptoBulkEntry {H : Type} : Lit × DataW H → Nat
  | (.string bytes, d) => bytes.length + uptoBulk d + 1
  | (_, d) => uptoBulk d + 1
 end
def uptoSmall : (H : Type) → List (DataW H) → Bool := fun _ ds => decide (uptoBulkAll ds ≤ 1048576)
def OpenSpec.upto (s : _root_.Go.ChangeSpec) : _root_.Go.OpenSpec := { _root_.Go.OpenSpec.ofChange s with cond := some uptoSmall }

/-- 'shuntlaw01.LimbParts', WHERE WHAT IT READS IS OF BULK AT MOST 1048576: true; the input reads as it did. -/
def limbPartsUptoRow : OpenClaim := { program := "ytghdpmejgonjmaa", sum := "90a8df1b3c6d8c07d776e72c41f3d8a429c959d0c7c76508886f7a80a7c5d7ab", func := "shunt/shuntlaw01.LimbParts", spec := "limbParts", apart := false, narrowed := true }
def LimbPartsUptoSaid : Prop := limbPartsUptoRow.holds Try.pinned (OpenSpec.upto limbPartsSpec)

/-- 'shuntlaw01.LimbOnes', WHERE WHAT IT READS IS OF BULK AT MOST 1048576: true; the input reads as it did. -/
def limbOnesUptoRow : OpenClaim := { program := "ytghdpmejgonjmaa", sum := "90a8df1b3c6d8c07d776e72c41f3d8a429c959d0c7c76508886f7a80a7c5d7ab", func := "shunt/shuntlaw01.LimbOnes", spec := "limbOnes", apart := false, narrowed := true }
def LimbOnesUptoSaid : Prop := limbOnesUptoRow.holds Try.pinned (OpenSpec.upto limbOnesSpec)

/-- 'shuntlaw01.LimbRing', WHERE WHAT IT READS IS OF BULK AT MOST 1048576: true; the input reads as it did. -/
def limbRingUptoRow : OpenClaim := { program := "ytghdpmejgonjmaa", sum := "90a8df1b3c6d8c07d776e72c41f3d8a429c959d0c7c76508886f7a80a7c5d7ab", func := "shunt/shuntlaw01.LimbRing", spec := "limbRing", apart := false, narrowed := true }
def LimbRingUptoSaid : Prop := limbRingUptoRow.holds Try.pinned (OpenSpec.upto limbRingSpec)

/-- 'shuntlaw01.LimbOrder', WHERE WHAT IT READS IS OF BULK AT MOST 1048576: true; the input reads as it did. -/
def limbOrderUptoRow : OpenClaim := { program := "ytghdpmejgonjmaa", sum := "90a8df1b3c6d8c07d776e72c41f3d8a429c959d0c7c76508886f7a80a7c5d7ab", func := "shunt/shuntlaw01.LimbOrder", spec := "limbOrder", apart := false, narrowed := true }
def LimbOrderUptoSaid : Prop := limbOrderUptoRow.holds Try.pinned (OpenSpec.upto limbOrderSpec)

/-- 'shuntlaw01.LimbReads', WHERE WHAT IT READS IS OF BULK AT MOST 1048576: true; the input reads as it did. -/
def limbReadsUptoRow : OpenClaim := { program := "ytghdpmejgonjmaa", sum := "90a8df1b3c6d8c07d776e72c41f3d8a429c959d0c7c76508886f7a80a7c5d7ab", func := "shunt/shuntlaw01.LimbReads", spec := "limbReads", apart := false, narrowed := true }
def LimbReadsUptoSaid : Prop := limbReadsUptoRow.holds Try.pinned (OpenSpec.upto limbReadsSpec)

/-- 'shuntlaw01.LimbBack', WHERE WHAT IT READS IS OF BULK AT MOST 1048576: true; the input reads as it did. -/
def limbBackUptoRow : OpenClaim := { program := "ytghdpmejgonjmaa", sum := "90a8df1b3c6d8c07d776e72c41f3d8a429c959d0c7c76508886f7a80a7c5d7ab", func := "shunt/shuntlaw01.LimbBack", spec := "limbBack", apart := false, narrowed := true }
def LimbBackUptoSaid : Prop := limbBackUptoRow.holds Try.pinned (OpenSpec.upto limbBackSpec)

/-- 'shuntlaw01.LimbSums', WHERE WHAT IT READS IS OF BULK AT MOST 1048576: true; the input reads as it did. -/
def limbSumsUptoRow : OpenClaim := { program := "ytghdpmejgonjmaa", sum := "90a8df1b3c6d8c07d776e72c41f3d8a429c959d0c7c76508886f7a80a7c5d7ab", func := "shunt/shuntlaw01.LimbSums", spec := "limbSums", apart := false, narrowed := true }
def LimbSumsUptoSaid : Prop := limbSumsUptoRow.holds Try.pinned (OpenSpec.upto limbSumsSpec)

/-- 'shuntlaw01.LimbDivides', WHERE WHAT IT READS IS OF BULK AT MOST 1048576: true; the input reads as it did. -/
def limbDividesUptoRow : OpenClaim := { program := "ytghdpmejgonjmaa", sum := "90a8df1b3c6d8c07d776e72c41f3d8a429c959d0c7c76508886f7a80a7c5d7ab", func := "shunt/shuntlaw01.LimbDivides", spec := "limbDivides", apart := false, narrowed := true }
def LimbDividesUptoSaid : Prop := limbDividesUptoRow.holds Try.pinned (OpenSpec.upto limbDividesSpec)

end Rows
end Go.Proofs.Ytghdpmejgonjmaa
