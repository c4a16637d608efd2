/-
  No cell of these rows narrows 'for every input' (looked for: loops, veiled, ifaces, maps, wideKeys, modest, calm, conditions, laid).
  DERIVED. THE GIVEN ROWS OF THIS SEAT. 8 by the template 'for every input the law returns true; each argument reads behind the call as it read before'; 0 by the template 'total and deterministic' (their statements: YtbhnafdmilfobaaTotals.lean).
  GIVEN WITH THE SEED: the statements are not yours to turn. If you find one false, say at which input.
  Laid BY PROGRAM, IN A SANDBOX (cutbox-rows.mjs): the forced cells as the released guide's own fill.sh prints them over the translation e8e6cda58f0cb8f4… (all of the seat's roots in one cut). By AI agents, Wed Nov 11 2026. No macro, syntax, notation, axiom, sorry.
-/
import Derived.Test.YtbhnafdmilfobaaChecked
import GoSem.Claim
import GoSem.ClaimJoined
import GoSem.ClaimMapViews
import Derived.JoinedTies
import Derived.KernelRfl
namespace Go.Proofs.Ytbhnafdmilfobaa
/- THE CELL 'sum', in the pinned program and in every row, IS THE sha256 OF THE DUMP (.gsa) THAT YtbhnafdmilfobaaProg.lean LOADS. Nothing in Lean hashes anything: it is a label: what it is worth is what the hold of that sum in a sandbox is worth. -/
noncomputable def Try.pinned : Pinned := { name := "ytbhnafdmilfobaa", sum := "e8e6cda58f0cb8f4806df6dbcdb513c72aaab74c8ffc68bb181b85577ceae70b", checked := Try.checked }
namespace Rows
def none {H : Type} : Left H := { results := [], args := [] }

/-- 'shuntlaw05.ModelWalk': WHATEVER THE INPUT: true; the input reads as it did. -/
def modelWalkSpec : ChangeSpec := { name := "modelWalk", fn := fun _ => fun
  | [d1, d2, d3] => { results := [.lit (.bool true)], args := [d1, d2, d3] }
  | _ => none }
def modelWalkRow : OpenClaim := { program := "ytbhnafdmilfobaa", sum := "e8e6cda58f0cb8f4806df6dbcdb513c72aaab74c8ffc68bb181b85577ceae70b", func := "shunt/shuntlaw05.ModelWalk", spec := "modelWalk", apart := false }
def ModelWalkSaid : Prop := modelWalkRow.holds Try.pinned (OpenSpec.ofChange modelWalkSpec)

/-- ITS FALSE NEIGHBOUR: 'it returns false'. Refute it at one input. -/
def modelWalkWrong : ChangeSpec := { name := "modelWalk", fn := fun _ => fun
  | [d1, d2, d3] => { results := [.lit (.bool false)], args := [d1, d2, d3] }
  | _ => none }
def ModelWalkWrongFalsely : Prop := modelWalkRow.holds Try.pinned (OpenSpec.ofChange modelWalkWrong)

/-- 'shuntlaw04.WaveStraight': WHATEVER THE INPUT: true; the input reads as it did. -/
def waveStraightSpec : ChangeSpec := { name := "waveStraight", fn := fun _ => fun
  | [d1, d2] => { results := [.lit (.bool true)], args := [d1, d2] }
  | _ => none }
def waveStraightRow : OpenClaim := { program := "ytbhnafdmilfobaa", sum := "e8e6cda58f0cb8f4806df6dbcdb513c72aaab74c8ffc68bb181b85577ceae70b", func := "shunt/shuntlaw04.WaveStraight", spec := "waveStraight", apart := false }
def WaveStraightSaid : Prop := waveStraightRow.holds Try.pinned (OpenSpec.ofChange waveStraightSpec)

/-- ITS FALSE NEIGHBOUR: 'it returns false'. Refute it at one input. -/
def waveStraightWrong : ChangeSpec := { name := "waveStraight", fn := fun _ => fun
  | [d1, d2] => { results := [.lit (.bool false)], args := [d1, d2] }
  | _ => none }
def WaveStraightWrongFalsely : Prop := waveStraightRow.holds Try.pinned (OpenSpec.ofChange waveStraightWrong)

/-- 'shuntlaw04.WaveCorners': WHATEVER THE INPUT: true; the input reads as it did. -/
def waveCornersSpec : ChangeSpec := { name := "waveCorners", fn := fun _ => fun
  | [d1, d2] => { results := [.lit (.bool true)], args := [d1, d2] }
  | _ => none }
def waveCornersRow : OpenClaim := { program := "ytbhnafdmilfobaa", sum := "e8e6cda58f0cb8f4806df6dbcdb513c72aaab74c8ffc68bb181b85577ceae70b", func := "shunt/shuntlaw04.WaveCorners", spec := "waveCorners", apart := false }
def WaveCornersSaid : Prop := waveCornersRow.holds Try.pinned (OpenSpec.ofChange waveCornersSpec)

/-- ITS FALSE NEIGHBOUR: 'it returns false'. Refute it at one input. -/
def waveCornersWrong : ChangeSpec := { name := "waveCorners", fn := fun _ => fun
  | [d1, d2] => { results := [.lit (.bool false)], args := [d1, d2] }
  | _ => none }
def WaveCornersWrongFalsely : Prop := waveCornersRow.holds Try.pinned (OpenSpec.ofChange waveCornersWrong)

/-- 'shuntlaw04.WaveAgain': WHATEVER THE INPUT: true; the input reads as it did. -/
def waveAgainSpec : ChangeSpec := { name := "waveAgain", fn := fun _ => fun
  | [d1, d2] => { results := [.lit (.bool true)], args := [d1, d2] }
  | _ => none }
def waveAgainRow : OpenClaim := { program := "ytbhnafdmilfobaa", sum := "e8e6cda58f0cb8f4806df6dbcdb513c72aaab74c8ffc68bb181b85577ceae70b", func := "shunt/shuntlaw04.WaveAgain", spec := "waveAgain", apart := false }
def WaveAgainSaid : Prop := waveAgainRow.holds Try.pinned (OpenSpec.ofChange waveAgainSpec)

/-- ITS FALSE NEIGHBOUR: 'it returns false'. Refute it at one input. -/
def waveAgainWrong : ChangeSpec := { name := "waveAgain", fn := fun _ => fun
  | [d1, d2] => { results := [.lit (.bool false)], args := [d1, d2] }
  | _ => none }
def WaveAgainWrongFalsely : Prop := waveAgainRow.holds Try.pinned (OpenSpec.ofChange waveAgainWrong)

/-- 'shuntlaw04.WaveFlat': WHATEVER THE INPUT: true; the input reads as it did. -/
def waveFlatSpec : ChangeSpec := { name := "waveFlat", fn := fun _ => fun
  | [d1, d2, d3] => { results := [.lit (.bool true)], args := [d1, d2, d3] }
  | _ => none }
def waveFlatRow : OpenClaim := { program := "ytbhnafdmilfobaa", sum := "e8e6cda58f0cb8f4806df6dbcdb513c72aaab74c8ffc68bb181b85577ceae70b", func := "shunt/shuntlaw04.WaveFlat", spec := "waveFlat", apart := false }
def WaveFlatSaid : Prop := waveFlatRow.holds Try.pinned (OpenSpec.ofChange waveFlatSpec)

/-- ITS FALSE NEIGHBOUR: 'it returns false'. Refute it at one input. -/
def waveFlatWrong : ChangeSpec := { name := "waveFlat", fn := fun _ => fun
  | [d1, d2, d3] => { results := [.lit (.bool false)], args := [d1, d2, d3] }
  | _ => none }
def WaveFlatWrongFalsely : Prop := waveFlatRow.holds Try.pinned (OpenSpec.ofChange waveFlatWrong)

/-- 'shuntlaw05.ModelUnbroken': WHATEVER THE INPUT: true; the input reads as it did. -/
def modelUnbrokenSpec : ChangeSpec := { name := "modelUnbroken", fn := fun _ => fun
  | [d1, d2] => { results := [.lit (.bool true)], args := [d1, d2] }
  | _ => none }
def modelUnbrokenRow : OpenClaim := { program := "ytbhnafdmilfobaa", sum := "e8e6cda58f0cb8f4806df6dbcdb513c72aaab74c8ffc68bb181b85577ceae70b", func := "shunt/shuntlaw05.ModelUnbroken", spec := "modelUnbroken", unfollowed := true, recurses := true, apart := false }
def ModelUnbrokenSaid : Prop := modelUnbrokenRow.holds Try.pinned (OpenSpec.ofChange modelUnbrokenSpec)

/-- ITS FALSE NEIGHBOUR: 'it returns false'. Refute it at one input. -/
def modelUnbrokenWrong : ChangeSpec := { name := "modelUnbroken", fn := fun _ => fun
  | [d1, d2] => { results := [.lit (.bool false)], args := [d1, d2] }
  | _ => none }
def ModelUnbrokenWrongFalsely : Prop := modelUnbrokenRow.holds Try.pinned (OpenSpec.ofChange modelUnbrokenWrong)

/-- 'shuntlaw04.WaveBetween': WHATEVER THE INPUT: true; the input reads as it did. -/
def waveBetweenSpec : ChangeSpec := { name := "waveBetween", fn := fun _ => fun
  | [d1, d2] => { results := [.lit (.bool true)], args := [d1, d2] }
  | _ => none }
def waveBetweenRow : OpenClaim := { program := "ytbhnafdmilfobaa", sum := "e8e6cda58f0cb8f4806df6dbcdb513c72aaab74c8ffc68bb181b85577ceae70b", func := "shunt/shuntlaw04.WaveBetween", spec := "waveBetween", apart := false }
def WaveBetweenSaid : Prop := waveBetweenRow.holds Try.pinned (OpenSpec.ofChange waveBetweenSpec)

/-- ITS FALSE NEIGHBOUR: 'it returns false'. Refute it at one input. -/
def waveBetweenWrong : ChangeSpec := { name := "waveBetween", fn := fun _ => fun
  | [d1, d2] => { results := [.lit (.bool false)], args := [d1, d2] }
  | _ => none }
def WaveBetweenWrongFalsely : Prop := waveBetweenRow.holds Try.pinned (OpenSpec.ofChange waveBetweenWrong)

/-- 'shuntlaw05.ModelRises': WHATEVER THE INPUT: true; the input reads as it did. -/
def modelRisesSpec : ChangeSpec := { name := "modelRises", fn := fun _ => fun
  | [d1, d2, d3] => { results := [.lit (.bool true)], args := [d1, d2, d3] }
  | _ => none }
def modelRisesRow : OpenClaim := { program := "ytbhnafdmilfobaa", sum := "e8e6cda58f0cb8f4806df6dbcdb513c72aaab74c8ffc68bb181b85577ceae70b", func := "shunt/shuntlaw05.ModelRises", spec := "modelRises", unfollowed := true, recurses := true, apart := false }
def ModelRisesSaid : Prop := modelRisesRow.holds Try.pinned (OpenSpec.ofChange modelRisesSpec)

/-- ITS FALSE NEIGHBOUR: 'it returns false'. Refute it at one input. -/
def modelRisesWrong : ChangeSpec := { name := "modelRises", fn := fun _ => fun
  | [d1, d2, d3] => { results := [.lit (.bool false)], args := [d1, d2, d3] }
  | _ => none }
def ModelRisesWrongFalsely : Prop := modelRisesRow.holds Try.pinned (OpenSpec.ofChange modelRisesWrong)

/- THE SECOND FORM. 'bulk': how many values and letters a reading holds, each counted each time it is reached (what is shared counts as often as it is met; a slice's spare places count too). A statement '..UptoSaid' is the law's where the arguments, and the package variables that the reading takes, are together of bulk at most 1048576: NARROWER than '..Said'. Prove '..Said' where nothing that the law and all that it calls make is longer than what came in: it says more and counts as full. Else prove '..UptoSaid'. A law counts once. -/
mutual
def uptoBulk {H : Type} : DataW H → Nat
  | .lit (.string bytes) => bytes.length + 1
  | .lit _ => 1
  | .nil => 1
  | .ptr d => uptoBulk d + 1
  | .slice elems spare => uptoBulkAll elems + uptoBulkAll spare + 1
  | .agg parts => uptoBulkAll parts + 1
  | .iface _ d => uptoBulk d + 1
  | .map entries => uptoBulkEntries entries + 1
  | .held _ => 1
def uptoBulkAll {H : Type} : List (DataW H) → Nat
  | [] => 0
  | d :: r => uptoBulk d + uptoBulkAll r
def uptoBulkEntries {H : Type} : List (Lit × DataW H) → Nat
  | [] => 0
  | x :: r => uptoBulkEntry x + uptoBulkEntries r
def uptoBulkEntry {H : Type} : Lit × DataW H → Nat
  | (.string bytes, d) => bytes.length + uptoBulk d + 1
  | (_, d) => uptoBulk d + 1
 end
def uptoSmall : (H : Type) → List (DataW H) → Bool := fun _ ds => decide (uptoBulkAll ds ≤ 1048576)
def OpenSpec.upto (s : _root_.Go.ChangeSpec) : _root_.Go.OpenSpec := { _root_.Go.OpenSpec.ofChange s with cond := some uptoSmall }

/-- 'shuntlaw05.ModelWalk', WHERE WHAT IT READS IS OF BULK AT MOST 1048576: true; the input reads as it did. -/
def modelWalkUptoRow : OpenClaim := { program := "ytbhnafdmilfobaa", sum := "e8e6cda58f0cb8f4806df6dbcdb513c72aaab74c8ffc68bb181b85577ceae70b", func := "shunt/shuntlaw05.ModelWalk", spec := "modelWalk", apart := false, narrowed := true }
def ModelWalkUptoSaid : Prop := modelWalkUptoRow.holds Try.pinned (OpenSpec.upto modelWalkSpec)

/-- 'shuntlaw04.WaveStraight', WHERE WHAT IT READS IS OF BULK AT MOST 1048576: true; the input reads as it did. -/
def waveStraightUptoRow : OpenClaim := { program := "ytbhnafdmilfobaa", sum := "e8e6cda58f0cb8f4806df6dbcdb513c72aaab74c8ffc68bb181b85577ceae70b", func := "shunt/shuntlaw04.WaveStraight", spec := "waveStraight", apart := false, narrowed := true }
def WaveStraightUptoSaid : Prop := waveStraightUptoRow.holds Try.pinned (OpenSpec.upto waveStraightSpec)

/-- 'shuntlaw04.WaveCorners', WHERE WHAT IT READS IS OF BULK AT MOST 1048576: true; the input reads as it did. -/
def waveCornersUptoRow : OpenClaim := { program := "ytbhnafdmilfobaa", sum := "e8e6cda58f0cb8f4806df6dbcdb513c72aaab74c8ffc68bb181b85577ceae70b", func := "shunt/shuntlaw04.WaveCorners", spec := "waveCorners", apart := false, narrowed := true }
def WaveCornersUptoSaid : Prop := waveCornersUptoRow.holds Try.pinned (OpenSpec.upto waveCornersSpec)

/-- 'shuntlaw04.WaveAgain', WHERE WHAT IT READS IS OF BULK AT MOST 1048576: true; the input reads as it did. -/
def waveAgainUptoRow : OpenClaim := { program := "ytbhnafdmilfobaa", sum := "e8e6cda58f0cb8f4806df6dbcdb513c72aaab74c8ffc68bb181b85577ceae70b", func := "shunt/shuntlaw04.WaveAgain", spec := "waveAgain", apart := false, narrowed := true }
def WaveAgainUptoSaid : Prop := waveAgainUptoRow.holds Try.pinned (OpenSpec.upto waveAgainSpec)

/-- 'shuntlaw04.WaveFlat', WHERE WHAT IT READS IS OF BULK AT MOST 1048576: true; the input reads as it did. -/
def waveFlatUptoRow : OpenClaim := { program := "ytbhnafdmilfobaa", sum := "e8e6cda58f0cb8f4806df6dbcdb513c72aaab74c8ffc68bb181b85577ceae70b", func := "shunt/shuntlaw04.WaveFlat", spec := "waveFlat", apart := false, narrowed := true }
def WaveFlatUptoSaid : Prop := waveFlatUptoRow.holds Try.pinned (OpenSpec.upto waveFlatSpec)

/-- 'shuntlaw05.ModelUnbroken', WHERE WHAT IT READS IS OF BULK AT MOST 1048576: true; the input reads as it did. -/
def modelUnbrokenUptoRow : OpenClaim := { program := "ytbhnafdmilfobaa", sum := "e8e6cda58f0cb8f4806df6dbcdb513c72aaab74c8ffc68bb181b85577ceae70b", func := "shunt/shuntlaw05.ModelUnbroken", spec := "modelUnbroken", unfollowed := true, recurses := true, apart := false, narrowed := true }
def ModelUnbrokenUptoSaid : Prop := modelUnbrokenUptoRow.holds Try.pinned (OpenSpec.upto modelUnbrokenSpec)

/-- 'shuntlaw04.WaveBetween', WHERE WHAT IT READS IS OF BULK AT MOST 1048576: true; the input reads as it did. -/
def waveBetweenUptoRow : OpenClaim := { program := "ytbhnafdmilfobaa", sum := "e8e6cda58f0cb8f4806df6dbcdb513c72aaab74c8ffc68bb181b85577ceae70b", func := "shunt/shuntlaw04.WaveBetween", spec := "waveBetween", apart := false, narrowed := true }
def WaveBetweenUptoSaid : Prop := waveBetweenUptoRow.holds Try.pinned (OpenSpec.upto waveBetweenSpec)

/-- 'shuntlaw05.ModelRises', WHERE WHAT IT READS IS OF BULK AT MOST 1048576: true; the input reads as it did. -/
def modelRisesUptoRow : OpenClaim := { program := "ytbhnafdmilfobaa", sum := "e8e6cda58f0cb8f4806df6dbcdb513c72aaab74c8ffc68bb181b85577ceae70b", func := "shunt/shuntlaw05.ModelRises", spec := "modelRises", unfollowed := true, recurses := true, apart := false, narrowed := true }
def ModelRisesUptoSaid : Prop := modelRisesUptoRow.holds Try.pinned (OpenSpec.upto modelRisesSpec)

end Rows
end Go.Proofs.Ytbhnafdmilfobaa
