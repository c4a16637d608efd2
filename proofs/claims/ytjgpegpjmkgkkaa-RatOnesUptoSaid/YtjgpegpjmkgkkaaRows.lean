/-
  No cell of these rows narrows 'for every input' (looked for: loops, veiled, ifaces, maps, wideKeys, modest, calm, conditions, laid).
  DERIVED. THE GIVEN ROWS OF THIS SEAT. 6 by the template 'for every input the law returns true; each argument reads behind the call as it read before'; 0 by the template 'total and deterministic' (their statements: YtjgpegpjmkgkkaaTotals.lean).
  GIVEN WITH THE SEED: the statements are not yours to turn. If you find one false, say at which input.
  Laid BY PROGRAM, IN A SANDBOX (cutbox-rows.mjs): the forced cells as the released guide's own fill.sh prints them over the translation e94be4dc772d9623… (all of the seat's roots in one cut). By AI agents, Wed Nov 11 2026. No macro, syntax, notation, axiom, sorry.
-/
import Derived.Test.YtjgpegpjmkgkkaaChecked
import GoSem.Claim
import GoSem.ClaimJoined
import GoSem.ClaimMapViews
import Derived.JoinedTies
import Derived.KernelRfl
namespace Go.Proofs.Ytjgpegpjmkgkkaa
/- THE CELL 'sum', in the pinned program and in every row, IS THE sha256 OF THE DUMP (.gsa) THAT YtjgpegpjmkgkkaaProg.lean LOADS. Nothing in Lean hashes anything: it is a label: what it is worth is what the hold of that sum in a sandbox is worth. -/
noncomputable def Try.pinned : Pinned := { name := "ytjgpegpjmkgkkaa", sum := "e94be4dc772d962327afc758053011edf23f400e604bf70c65272fc49b4d0515", checked := Try.checked }
namespace Rows
def none {H : Type} : Left H := { results := [], args := [] }

/-- 'shuntlaw02.RatLowest': WHATEVER THE INPUT: true; the input reads as it did. -/
def ratLowestSpec : ChangeSpec := { name := "ratLowest", fn := fun _ => fun
  | [d1, d2] => { results := [.lit (.bool true)], args := [d1, d2] }
  | _ => none }
def ratLowestRow : OpenClaim := { program := "ytjgpegpjmkgkkaa", sum := "e94be4dc772d962327afc758053011edf23f400e604bf70c65272fc49b4d0515", func := "shunt/shuntlaw02.RatLowest", spec := "ratLowest", unfollowed := true, recurses := true, apart := false }
def RatLowestSaid : Prop := ratLowestRow.holds Try.pinned (OpenSpec.ofChange ratLowestSpec)

/-- ITS FALSE NEIGHBOUR: 'it returns false'. Refute it at one input. -/
def ratLowestWrong : ChangeSpec := { name := "ratLowest", fn := fun _ => fun
  | [d1, d2] => { results := [.lit (.bool false)], args := [d1, d2] }
  | _ => none }
def RatLowestWrongFalsely : Prop := ratLowestRow.holds Try.pinned (OpenSpec.ofChange ratLowestWrong)

/-- 'shuntlaw02.RatOnes': WHATEVER THE INPUT: true; the input reads as it did. -/
def ratOnesSpec : ChangeSpec := { name := "ratOnes", fn := fun _ => fun
  | [d1, d2, d3] => { results := [.lit (.bool true)], args := [d1, d2, d3] }
  | _ => none }
def ratOnesRow : OpenClaim := { program := "ytjgpegpjmkgkkaa", sum := "e94be4dc772d962327afc758053011edf23f400e604bf70c65272fc49b4d0515", func := "shunt/shuntlaw02.RatOnes", spec := "ratOnes", unfollowed := true, recurses := true, apart := false }
def RatOnesSaid : Prop := ratOnesRow.holds Try.pinned (OpenSpec.ofChange ratOnesSpec)

/-- ITS FALSE NEIGHBOUR: 'it returns false'. Refute it at one input. -/
def ratOnesWrong : ChangeSpec := { name := "ratOnes", fn := fun _ => fun
  | [d1, d2, d3] => { results := [.lit (.bool false)], args := [d1, d2, d3] }
  | _ => none }
def RatOnesWrongFalsely : Prop := ratOnesRow.holds Try.pinned (OpenSpec.ofChange ratOnesWrong)

/-- 'shuntlaw02.RatRounds': WHATEVER THE INPUT: true; the input reads as it did. -/
def ratRoundsSpec : ChangeSpec := { name := "ratRounds", fn := fun _ => fun
  | [d1, d2] => { results := [.lit (.bool true)], args := [d1, d2] }
  | _ => none }
def ratRoundsRow : OpenClaim := { program := "ytjgpegpjmkgkkaa", sum := "e94be4dc772d962327afc758053011edf23f400e604bf70c65272fc49b4d0515", func := "shunt/shuntlaw02.RatRounds", spec := "ratRounds", unfollowed := true, recurses := true, apart := false }
def RatRoundsSaid : Prop := ratRoundsRow.holds Try.pinned (OpenSpec.ofChange ratRoundsSpec)

/-- ITS FALSE NEIGHBOUR: 'it returns false'. Refute it at one input. -/
def ratRoundsWrong : ChangeSpec := { name := "ratRounds", fn := fun _ => fun
  | [d1, d2] => { results := [.lit (.bool false)], args := [d1, d2] }
  | _ => none }
def RatRoundsWrongFalsely : Prop := ratRoundsRow.holds Try.pinned (OpenSpec.ofChange ratRoundsWrong)

/-- 'shuntlaw02.RatOrder': WHATEVER THE INPUT: true; the input reads as it did. -/
def ratOrderSpec : ChangeSpec := { name := "ratOrder", fn := fun _ => fun
  | [d1, d2, d3] => { results := [.lit (.bool true)], args := [d1, d2, d3] }
  | _ => none }
def ratOrderRow : OpenClaim := { program := "ytjgpegpjmkgkkaa", sum := "e94be4dc772d962327afc758053011edf23f400e604bf70c65272fc49b4d0515", func := "shunt/shuntlaw02.RatOrder", spec := "ratOrder", unfollowed := true, recurses := true, apart := false }
def RatOrderSaid : Prop := ratOrderRow.holds Try.pinned (OpenSpec.ofChange ratOrderSpec)

/-- ITS FALSE NEIGHBOUR: 'it returns false'. Refute it at one input. -/
def ratOrderWrong : ChangeSpec := { name := "ratOrder", fn := fun _ => fun
  | [d1, d2, d3] => { results := [.lit (.bool false)], args := [d1, d2, d3] }
  | _ => none }
def RatOrderWrongFalsely : Prop := ratOrderRow.holds Try.pinned (OpenSpec.ofChange ratOrderWrong)

/-- 'shuntlaw02.RatField': WHATEVER THE INPUT: true; the input reads as it did. -/
def ratFieldSpec : ChangeSpec := { name := "ratField", fn := fun _ => fun
  | [d1, d2, d3] => { results := [.lit (.bool true)], args := [d1, d2, d3] }
  | _ => none }
def ratFieldRow : OpenClaim := { program := "ytjgpegpjmkgkkaa", sum := "e94be4dc772d962327afc758053011edf23f400e604bf70c65272fc49b4d0515", func := "shunt/shuntlaw02.RatField", spec := "ratField", unfollowed := true, recurses := true, apart := false }
def RatFieldSaid : Prop := ratFieldRow.holds Try.pinned (OpenSpec.ofChange ratFieldSpec)

/-- ITS FALSE NEIGHBOUR: 'it returns false'. Refute it at one input. -/
def ratFieldWrong : ChangeSpec := { name := "ratField", fn := fun _ => fun
  | [d1, d2, d3] => { results := [.lit (.bool false)], args := [d1, d2, d3] }
  | _ => none }
def RatFieldWrongFalsely : Prop := ratFieldRow.holds Try.pinned (OpenSpec.ofChange ratFieldWrong)

/-- 'shuntlaw02.RatLcm': WHATEVER THE INPUT: true; the input reads as it did. -/
def ratLcmSpec : ChangeSpec := { name := "ratLcm", fn := fun _ => fun
  | [d] => { results := [.lit (.bool true)], args := [d] }
  | _ => none }
def ratLcmRow : OpenClaim := { program := "ytjgpegpjmkgkkaa", sum := "e94be4dc772d962327afc758053011edf23f400e604bf70c65272fc49b4d0515", func := "shunt/shuntlaw02.RatLcm", spec := "ratLcm", unfollowed := true, recurses := true, apart := false }
def RatLcmSaid : Prop := ratLcmRow.holds Try.pinned (OpenSpec.ofChange ratLcmSpec)

/-- ITS FALSE NEIGHBOUR: 'it returns false'. Refute it at one input. -/
def ratLcmWrong : ChangeSpec := { name := "ratLcm", fn := fun _ => fun
  | [d] => { results := [.lit (.bool false)], args := [d] }
  | _ => none }
def RatLcmWrongFalsely : Prop := ratLcmRow.holds Try.pinned (OpenSpec.ofChange ratLcmWrong)

/- THE SECOND FORM. 'bulk': how many values and letters a reading holds, each counted each time it is reached (what is shared counts as often as it is met; a slice's spare places count too). A statement '..UptoSaid' is the law's where the arguments, and the package variables that the reading takes, are together of bulk at most 1048576: NARROWER than '..Said'. Prove '..Said' where nothing that the law and all that it calls make is longer than what came in: it says more and counts as full. Else prove '..UptoSaid'. A law counts once. -/
mutual
def uptoBulk {H : Type} : DataW H → Nat
  | .lit (.string bytes) => bytes.length + 1
  | .lit _ => 1
  | .nil => 1
  | .ptr d => uptoBulk d + 1
  | .slice elems spare => uptoBulkAll elems + uptoBulkAll spare + 1
  | .agg parts => uptoBulkAll parts + 1
  | .iface _ d => uptoBulk d + 1
  | .map entries => uptoBulkEntries entries + 1
  | .held _ => 1
def uptoBulkAll {H : Type} : List (DataW H) → Nat
  | [] => 0
  | d :: r => uptoBulk d + uptoBulkAll r
def uptoBulkEntries {H : Type} : List (Lit × DataW H) → Nat
  | [] => 0
  | x :: r => uptoBulkEntry x + uptoBulkEntries r
def uptoBulkEntry {H : Type} : Lit × DataW H → Nat
  | (.string bytes, d) => bytes.length + uptoBulk d + 1
  | (_, d) => uptoBulk d + 1
 end
def uptoSmall : (H : Type) → List (DataW H) → Bool := fun _ ds => decide (uptoBulkAll ds ≤ 1048576)
def OpenSpec.upto (s : _root_.Go.ChangeSpec) : _root_.Go.OpenSpec := { _root_.Go.OpenSpec.ofChange s with cond := some uptoSmall }

/-- 'shuntlaw02.RatLowest', WHERE WHAT IT READS IS OF BULK AT MOST 1048576: true; the input reads as it did. -/
def ratLowestUptoRow : OpenClaim := { program := "ytjgpegpjmkgkkaa", sum := "e94be4dc772d962327afc758053011edf23f400e604bf70c65272fc49b4d0515", func := "shunt/shuntlaw02.RatLowest", spec := "ratLowest", unfollowed := true, recurses := true, apart := false, narrowed := true }
def RatLowestUptoSaid : Prop := ratLowestUptoRow.holds Try.pinned (OpenSpec.upto ratLowestSpec)

/-- 'shuntlaw02.RatOnes', WHERE WHAT IT READS IS OF BULK AT MOST 1048576: true; the input reads as it did. -/
def ratOnesUptoRow : OpenClaim := { program := "ytjgpegpjmkgkkaa", sum := "e94be4dc772d962327afc758053011edf23f400e604bf70c65272fc49b4d0515", func := "shunt/shuntlaw02.RatOnes", spec := "ratOnes", unfollowed := true, recurses := true, apart := false, narrowed := true }
def RatOnesUptoSaid : Prop := ratOnesUptoRow.holds Try.pinned (OpenSpec.upto ratOnesSpec)

/-- 'shuntlaw02.RatRounds', WHERE WHAT IT READS IS OF BULK AT MOST 1048576: true; the input reads as it did. -/
def ratRoundsUptoRow : OpenClaim := { program := "ytjgpegpjmkgkkaa", sum := "e94be4dc772d962327afc758053011edf23f400e604bf70c65272fc49b4d0515", func := "shunt/shuntlaw02.RatRounds", spec := "ratRounds", unfollowed := true, recurses := true, apart := false, narrowed := true }
def RatRoundsUptoSaid : Prop := ratRoundsUptoRow.holds Try.pinned (OpenSpec.upto ratRoundsSpec)

/-- 'shuntlaw02.RatOrder', WHERE WHAT IT READS IS OF BULK AT MOST 1048576: true; the input reads as it did. -/
def ratOrderUptoRow : OpenClaim := { program := "ytjgpegpjmkgkkaa", sum := "e94be4dc772d962327afc758053011edf23f400e604bf70c65272fc49b4d0515", func := "shunt/shuntlaw02.RatOrder", spec := "ratOrder", unfollowed := true, recurses := true, apart := false, narrowed := true }
def RatOrderUptoSaid : Prop := ratOrderUptoRow.holds Try.pinned (OpenSpec.upto ratOrderSpec)

/-- 'shuntlaw02.RatField', WHERE WHAT IT READS IS OF BULK AT MOST 1048576: true; the input reads as it did. -/
def ratFieldUptoRow : OpenClaim := { program := "ytjgpegpjmkgkkaa", sum := "e94be4dc772d962327afc758053011edf23f400e604bf70c65272fc49b4d0515", func := "shunt/shuntlaw02.RatField", spec := "ratField", unfollowed := true, recurses := true, apart := false, narrowed := true }
def RatFieldUptoSaid : Prop := ratFieldUptoRow.holds Try.pinned (OpenSpec.upto ratFieldSpec)

/-- 'shuntlaw02.RatLcm', WHERE WHAT IT READS IS OF BULK AT MOST 1048576: true; the input reads as it did. -/
def ratLcmUptoRow : OpenClaim := { program := "ytjgpegpjmkgkkaa", sum := "e94be4dc772d962327afc758053011edf23f400e604bf70c65272fc49b4d0515", func := "shunt/shuntlaw02.RatLcm", spec := "ratLcm", unfollowed := true, recurses := true, apart := false, narrowed := true }
def RatLcmUptoSaid : Prop := ratLcmUptoRow.holds Try.pinned (OpenSpec.upto ratLcmSpec)

end Rows
end Go.Proofs.Ytjgpegpjmkgkkaa
