/-
  No cell of these rows narrows 'for every input' (looked for: loops, veiled, ifaces, maps, wideKeys, modest, calm, conditions, laid).
  DERIVED. THE GIVEN ROWS OF THIS SEAT. 2 by the template 'for every input the law returns true; each argument reads behind the call as it read before'; 0 by the template 'total and deterministic' (their statements: YtbhnafdmilfobaaGreatTotals.lean).
  GIVEN WITH THE SEED: the statements are not yours to turn. If you find one false, say at which input.
  Laid BY PROGRAM, IN A SANDBOX (cutbox-rows.mjs): the forced cells as the released guide's own fill.sh prints them over the translation 1aa7dcb2ac9e81f3… (all of the seat's roots in one cut). By AI agents, Wed Nov 11 2026. No macro, syntax, notation, axiom, sorry.
-/
import Derived.Test.YtbhnafdmilfobaaGreatChecked
import GoSem.Claim
import GoSem.ClaimJoined
import GoSem.ClaimMapViews
import Derived.JoinedTies
import Derived.KernelRfl
namespace Go.Proofs.YtbhnafdmilfobaaGreat
/- THE CELL 'sum', in the pinned program and in every row, IS THE sha256 OF THE DUMP (.gsa) THAT YtbhnafdmilfobaaGreatProg.lean LOADS. Nothing in Lean hashes anything: it is a label: what it is worth is what the hold of that sum in a sandbox is worth. -/
noncomputable def Tryz.pinned : Pinned := { name := "ytbhnafdmilfobaagreat", sum := "1aa7dcb2ac9e81f3472953fb32e35848c094ad6b0ab8bdb8bfbf98b06bc7ec57", checked := Tryz.checked }
namespace Rows
def none {H : Type} : Left H := { results := [], args := [] }

/-- 'shuntlaw05.ModelCalls': WHATEVER THE INPUT: true; the input reads as it did. -/
def modelCallsSpec : ChangeSpec := { name := "modelCalls", fn := fun _ => fun
  | [d1, d2, d3] => { results := [.lit (.bool true)], args := [d1, d2, d3] }
  | _ => none }
def modelCallsRow : OpenClaim := { program := "ytbhnafdmilfobaagreat", sum := "1aa7dcb2ac9e81f3472953fb32e35848c094ad6b0ab8bdb8bfbf98b06bc7ec57", func := "shunt/shuntlaw05.ModelCalls", spec := "modelCalls", recurses := true, apart := false }
def ModelCallsSaid : Prop := modelCallsRow.holds Tryz.pinned (OpenSpec.ofChange modelCallsSpec)

/-- ITS FALSE NEIGHBOUR: 'it returns false'. Refute it at one input. -/
def modelCallsWrong : ChangeSpec := { name := "modelCalls", fn := fun _ => fun
  | [d1, d2, d3] => { results := [.lit (.bool false)], args := [d1, d2, d3] }
  | _ => none }
def ModelCallsWrongFalsely : Prop := modelCallsRow.holds Tryz.pinned (OpenSpec.ofChange modelCallsWrong)

/-- 'shuntlaw04.WaveCalls': WHATEVER THE INPUT: true; the input reads as it did. -/
def waveCallsSpec : ChangeSpec := { name := "waveCalls", fn := fun _ => fun
  | [d1, d2] => { results := [.lit (.bool true)], args := [d1, d2] }
  | _ => none }
def waveCallsRow : OpenClaim := { program := "ytbhnafdmilfobaagreat", sum := "1aa7dcb2ac9e81f3472953fb32e35848c094ad6b0ab8bdb8bfbf98b06bc7ec57", func := "shunt/shuntlaw04.WaveCalls", spec := "waveCalls", apart := false }
def WaveCallsSaid : Prop := waveCallsRow.holds Tryz.pinned (OpenSpec.ofChange waveCallsSpec)

/-- ITS FALSE NEIGHBOUR: 'it returns false'. Refute it at one input. -/
def waveCallsWrong : ChangeSpec := { name := "waveCalls", fn := fun _ => fun
  | [d1, d2] => { results := [.lit (.bool false)], args := [d1, d2] }
  | _ => none }
def WaveCallsWrongFalsely : Prop := waveCallsRow.holds Tryz.pinned (OpenSpec.ofChange waveCallsWrong)

/- THE SECOND FORM. 'bulk': how many values and letters a reading holds, each counted each time it is reached (what is shared counts as often as it is met; a slice's spare places count too). A statement '..UptoSaid' is the law's where the arguments, and the package variables that the reading takes, are together of bulk at most 1048576: NARROWER than '..Said'. Prove '..Said' where nothing that the law and all that it calls make is longer than what came in: it says more and counts as full. Else prove '..UptoSaid'. A law counts once. -/
mutual
def uptoBulk {H : Type} : DataW H → Nat
  | .lit (.string bytes) => bytes.length + 1
  | .lit _ => 1
  | .nil => 1
  | .ptr d => uptoBulk d + 1
  | .slice elems spare => uptoBulkAll elems + uptoBulkAll spare + 1
  | .agg parts => uptoBulkAll parts + 1
  | .iface _ d => uptoBulk d + 1
  | .map entries => uptoBulkEntries entries + 1
  | .held _ => 1
def uptoBulkAll {H : Type} : List (DataW H) → Nat
  | [] => 0
  | d :: r => uptoBulk d + uptoBulkAll r
def uptoBulkEntries {H : Type} : List (Lit × DataW H) → Nat
  | [] => 0
  | x :: r => uptoBulkEntry x + uptoBulkEntries r
def uptoBulkEntry {H : Type} : Lit × DataW H → Nat
  | (.string bytes, d) => bytes.length + uptoBulk d + 1
  | (_, d) => uptoBulk d + 1
 end
def uptoSmall : (H : Type) → List (DataW H) → Bool := fun _ ds => decide (uptoBulkAll ds ≤ 1048576)
def OpenSpec.upto (s : _root_.Go.ChangeSpec) : _root_.Go.OpenSpec := { _root_.Go.OpenSpec.ofChange s with cond := some uptoSmall }

/-- 'shuntlaw05.ModelCalls', WHERE WHAT IT READS IS OF BULK AT MOST 1048576: true; the input reads as it did. -/
def modelCallsUptoRow : OpenClaim := { program := "ytbhnafdmilfobaagreat", sum := "1aa7dcb2ac9e81f3472953fb32e35848c094ad6b0ab8bdb8bfbf98b06bc7ec57", func := "shunt/shuntlaw05.ModelCalls", spec := "modelCalls", recurses := true, apart := false, narrowed := true }
def ModelCallsUptoSaid : Prop := modelCallsUptoRow.holds Tryz.pinned (OpenSpec.upto modelCallsSpec)

/-- 'shuntlaw04.WaveCalls', WHERE WHAT IT READS IS OF BULK AT MOST 1048576: true; the input reads as it did. -/
def waveCallsUptoRow : OpenClaim := { program := "ytbhnafdmilfobaagreat", sum := "1aa7dcb2ac9e81f3472953fb32e35848c094ad6b0ab8bdb8bfbf98b06bc7ec57", func := "shunt/shuntlaw04.WaveCalls", spec := "waveCalls", apart := false, narrowed := true }
def WaveCallsUptoSaid : Prop := waveCallsUptoRow.holds Tryz.pinned (OpenSpec.upto waveCallsSpec)

end Rows
end Go.Proofs.YtbhnafdmilfobaaGreat
