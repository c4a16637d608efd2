/- Printed functions: each says what the typed machine says of the program -/
import Derived.Test.YtlnailgfialgnaaGreatDoorMP1
import Derived.KernelRfl

set_option linter.unusedVariables false
set_option maxRecDepth 100000
namespace Go.Proofs.YtlnailgfialgnaaGreatDoor.Am
open Go
noncomputable section

def qaX (k : Nat) (rec : Int → Bool → Bool → Bool → Bool → Int → List ByteArray → List DvT → Int → Int → Int → Int → ByteArray → List Int → Int → Int → Int → Int → List (Int × Int) → List Int → ByteArray → Int → List (Int × Int) → List (Int × Int) → Option ((Bool × List ByteArray × List DvT × Int × Int × Int × Int × ByteArray × List Int × Int × Int × Int × Int × List (Int × Int) × List Int × ByteArray × Int × List (Int × Int) × List (Int × Int)) ⊕ (Bool × Bool × Bool × Bool × List ByteArray × List DvT × Int × Int × Int × Int × ByteArray × List Int × Int × Int × Int × Int × List (Int × Int) × List Int × ByteArray × Int × List (Int × Int) × List (Int × Int)))) (nodes : Int) (ref : Bool) (value : Bool) (source : Bool) (modelled : Bool) (i : Int) (f0 : List ByteArray) (f1 : List DvT) (f2 : Int) (f3 : Int) (f4 : Int) (d0 : Int) (d1 : ByteArray) (d2 : List Int) (d3 : Int) (d4 : Int) (d5 : Int) (d6 : Int) (d7 : List (Int × Int)) (d8 : List Int) (d9 : ByteArray) (d10 : Int) (d11 : List (Int × Int)) (d12 : List (Int × Int)) : Option ((Bool × List ByteArray × List DvT × Int × Int × Int × Int × ByteArray × List Int × Int × Int × Int × Int × List (Int × Int) × List Int × ByteArray × Int × List (Int × Int) × List (Int × Int)) ⊕ (Bool × Bool × Bool × Bool × List ByteArray × List DvT × Int × Int × Int × Int × ByteArray × List Int × Int × Int × Int × Int × List (Int × Int) × List Int × ByteArray × Int × List (Int × Int) × List (Int × Int))) :=
 if ((decide (i < nodes)) = true) then
 if ((0 : Int) ≤ i) then
 Option.bind (d2)[(Int.toNat i)]? fun x2 =>
 if ((decide (x2 < (0 : Int))) = false) then
 if ((0 : Int) ≤ i) then
 Option.bind (d2)[(Int.toNat i)]? fun x3 =>
 if ((decide (x3 ≥ (((List.length f0) : Nat) : Int))) = true) then
 (some (Sum.inl (false, f0, f1, f2, f3, f4, d0, d1, d2, d3, d4, d5, d6, d7, d8, d9, d10, d11, d12)))
 else
 rec nodes ref value source modelled (IntKind.wrap .i64 (i + (1 : Int))) f0 f1 f2 f3 f4 d0 d1 d2 d3 d4 d5 d6 d7 d8 d9 d10 d11 d12
 else
 none
 else
 (some (Sum.inl (false, f0, f1, f2, f3, f4, d0, d1, d2, d3, d4, d5, d6, d7, d8, d9, d10, d11, d12)))
 else
 none
 else
 (some (Sum.inr (ref, value, source, modelled, f0, f1, f2, f3, f4, d0, d1, d2, d3, d4, d5, d6, d7, d8, d9, d10, d11, d12)))
def qp (k n : Nat) : Int → Bool → Bool → Bool → Bool → Int → List ByteArray → List DvT → Int → Int → Int → Int → ByteArray → List Int → Int → Int → Int → Int → List (Int × Int) → List Int → ByteArray → Int → List (Int × Int) → List (Int × Int) → Option ((Bool × List ByteArray × List DvT × Int × Int × Int × Int × ByteArray × List Int × Int × Int × Int × Int × List (Int × Int) × List Int × ByteArray × Int × List (Int × Int) × List (Int × Int)) ⊕ (Bool × Bool × Bool × Bool × List ByteArray × List DvT × Int × Int × Int × Int × ByteArray × List Int × Int × Int × Int × Int × List (Int × Int) × List Int × ByteArray × Int × List (Int × Int) × List (Int × Int))) := Nat.rec (fun _ _ _ _ _ _ _ _ _ _ _ _ _ _ _ _ _ _ _ _ _ _ _ _ => none) (fun _ r => qaX k r) n
def qe (k : Nat) (r5 : Bool × Bool × Bool × Bool × List ByteArray × List DvT × Int × Int × Int × Int × ByteArray × List Int × Int × Int × Int × Int × List (Int × Int) × List Int × ByteArray × Int × List (Int × Int) × List (Int × Int)) : Option (Bool) :=
 if (r5.1 = true) then
 if ((decide (r5.2.2.2.2.2.2.2.2.2.2.2.2.1 < (0 : Int))) = false) then
 if ((decide (r5.2.2.2.2.2.2.2.2.2.2.2.2.1 ≥ (((List.length r5.2.2.2.2.2.1) : Nat) : Int))) = false) then
 if ((0 : Int) ≤ r5.2.2.2.2.2.2.2.2.2.2.2.2.1) then
 Option.bind (r5.2.2.2.2.2.1)[(Int.toNat r5.2.2.2.2.2.2.2.2.2.2.2.2.1)]? fun x2 =>
 if ((x2.1 != (118 : Int)) = true) then
 (some false)
 else
 if (r5.2.1 = true) then
 Option.bind (qaE k r5.2.2.2.2.2.2.2.2.2.2.2.2.2.1 r5.2.2.2.2.2.2.2.2.2.2.2.2.2.2.1) fun r6 =>
 if ((!r6) = false) then
 if ((!r5.2.1) = true) then
 if ((r5.2.2.2.2.2.2.2.2.2.2.2.2.2.1 == (0 : Int)) = true) then
 if ((r5.2.2.2.2.2.2.2.2.2.2.2.2.2.2.1 == (0 : Int)) = true) then
 if (r5.2.2.1 = true) then
 Option.bind (qV k r5.2.2.2.2.2.2.2.2.2.2.2.2.2.2.2.1 r5.2.2.2.2.2.2.2.2.2.2.2.2.2.2.2.2.1 r5.2.2.2.2.2.2.2.2.2.2.2.2.2.2.2.2.2.1) fun r7 =>
 if ((!r7) = false) then
 if ((!r5.2.2.1) = true) then
 Option.bind (qu k r5.2.2.2.2.2.2.2.2.2.2.2.2.2.2.2.1 r5.2.2.2.2.2.2.2.2.2.2.2.2.2.2.2.2.1 r5.2.2.2.2.2.2.2.2.2.2.2.2.2.2.2.2.2.1 (0 : Int) [] []) fun r8 =>
 if ((!r8) = true) then
 (some false)
 else
 if (r5.2.2.2.1 = true) then
 Option.bind (qg k r5.2.2.2.2.2.2.2.2.2.2.2.2.2.2.2.2.2.2.1 r5.2.2.2.2.2.2.2.2.2.2.2.2.2.2.2.2.2.2.2.1 r5.2.2.2.2.2.2.2.2.2.2.2.2.2.2.2.2.2.2.2.2.1 r5.2.2.2.2.2.2.2.2.2.2.2.2.2.2.2.2.2.2.2.2.2) fun r9 =>
 if (r9 = true) then
 (some (r5.2.2.2.2.2.2.2.2.2.2.2.2.2.2.2.2.2.2.2.1 == r5.2.2.2.2.2.2.2.2.2.1))
 else
 (some false)
 else
 Option.bind (qi k r5.2.2.2.2.2.2.2.2.2.2.2.2.2.2.2.2.2.2.1 r5.2.2.2.2.2.2.2.2.2.2.2.2.2.2.2.2.2.2.2.1 r5.2.2.2.2.2.2.2.2.2.2.2.2.2.2.2.2.2.2.2.2.1 r5.2.2.2.2.2.2.2.2.2.2.2.2.2.2.2.2.2.2.2.2.2 (ByteArray.mk (List.toArray [])) (0 : Int) [] []) fun r9 =>
 (some r9)
 else
 if (r5.2.2.2.1 = true) then
 Option.bind (qg k r5.2.2.2.2.2.2.2.2.2.2.2.2.2.2.2.2.2.2.1 r5.2.2.2.2.2.2.2.2.2.2.2.2.2.2.2.2.2.2.2.1 r5.2.2.2.2.2.2.2.2.2.2.2.2.2.2.2.2.2.2.2.2.1 r5.2.2.2.2.2.2.2.2.2.2.2.2.2.2.2.2.2.2.2.2.2) fun r8 =>
 if (r8 = true) then
 (some (r5.2.2.2.2.2.2.2.2.2.2.2.2.2.2.2.2.2.2.2.1 == r5.2.2.2.2.2.2.2.2.2.1))
 else
 (some false)
 else
 Option.bind (qi k r5.2.2.2.2.2.2.2.2.2.2.2.2.2.2.2.2.2.2.1 r5.2.2.2.2.2.2.2.2.2.2.2.2.2.2.2.2.2.2.2.1 r5.2.2.2.2.2.2.2.2.2.2.2.2.2.2.2.2.2.2.2.2.1 r5.2.2.2.2.2.2.2.2.2.2.2.2.2.2.2.2.2.2.2.2.2 (ByteArray.mk (List.toArray [])) (0 : Int) [] []) fun r8 =>
 (some r8)
 else
 (some false)
 else
 if ((!r5.2.2.1) = true) then
 Option.bind (qu k r5.2.2.2.2.2.2.2.2.2.2.2.2.2.2.2.1 r5.2.2.2.2.2.2.2.2.2.2.2.2.2.2.2.2.1 r5.2.2.2.2.2.2.2.2.2.2.2.2.2.2.2.2.2.1 (0 : Int) [] []) fun r7 =>
 if ((!r7) = true) then
 (some false)
 else
 if (r5.2.2.2.1 = true) then
 Option.bind (qg k r5.2.2.2.2.2.2.2.2.2.2.2.2.2.2.2.2.2.2.1 r5.2.2.2.2.2.2.2.2.2.2.2.2.2.2.2.2.2.2.2.1 r5.2.2.2.2.2.2.2.2.2.2.2.2.2.2.2.2.2.2.2.2.1 r5.2.2.2.2.2.2.2.2.2.2.2.2.2.2.2.2.2.2.2.2.2) fun r8 =>
 if (r8 = true) then
 (some (r5.2.2.2.2.2.2.2.2.2.2.2.2.2.2.2.2.2.2.2.1 == r5.2.2.2.2.2.2.2.2.2.1))
 else
 (some false)
 else
 Option.bind (qi k r5.2.2.2.2.2.2.2.2.2.2.2.2.2.2.2.2.2.2.1 r5.2.2.2.2.2.2.2.2.2.2.2.2.2.2.2.2.2.2.2.1 r5.2.2.2.2.2.2.2.2.2.2.2.2.2.2.2.2.2.2.2.2.1 r5.2.2.2.2.2.2.2.2.2.2.2.2.2.2.2.2.2.2.2.2.2 (ByteArray.mk (List.toArray [])) (0 : Int) [] []) fun r8 =>
 (some r8)
 else
 if (r5.2.2.2.1 = true) then
 Option.bind (qg k r5.2.2.2.2.2.2.2.2.2.2.2.2.2.2.2.2.2.2.1 r5.2.2.2.2.2.2.2.2.2.2.2.2.2.2.2.2.2.2.2.1 r5.2.2.2.2.2.2.2.2.2.2.2.2.2.2.2.2.2.2.2.2.1 r5.2.2.2.2.2.2.2.2.2.2.2.2.2.2.2.2.2.2.2.2.2) fun r7 =>
 if (r7 = true) then
 (some (r5.2.2.2.2.2.2.2.2.2.2.2.2.2.2.2.2.2.2.2.1 == r5.2.2.2.2.2.2.2.2.2.1))
 else
 (some false)
 else
 Option.bind (qi k r5.2.2.2.2.2.2.2.2.2.2.2.2.2.2.2.2.2.2.1 r5.2.2.2.2.2.2.2.2.2.2.2.2.2.2.2.2.2.2.2.1 r5.2.2.2.2.2.2.2.2.2.2.2.2.2.2.2.2.2.2.2.2.1 r5.2.2.2.2.2.2.2.2.2.2.2.2.2.2.2.2.2.2.2.2.2 (ByteArray.mk (List.toArray [])) (0 : Int) [] []) fun r7 =>
 (some r7)
 else
 (some false)
 else
 (some false)
 else
 if (r5.2.2.1 = true) then
 Option.bind (qV k r5.2.2.2.2.2.2.2.2.2.2.2.2.2.2.2.1 r5.2.2.2.2.2.2.2.2.2.2.2.2.2.2.2.2.1 r5.2.2.2.2.2.2.2.2.2.2.2.2.2.2.2.2.2.1) fun r7 =>
 if ((!r7) = false) then
 if ((!r5.2.2.1) = true) then
 Option.bind (qu k r5.2.2.2.2.2.2.2.2.2.2.2.2.2.2.2.1 r5.2.2.2.2.2.2.2.2.2.2.2.2.2.2.2.2.1 r5.2.2.2.2.2.2.2.2.2.2.2.2.2.2.2.2.2.1 (0 : Int) [] []) fun r8 =>
 if ((!r8) = true) then
 (some false)
 else
 if (r5.2.2.2.1 = true) then
 Option.bind (qg k r5.2.2.2.2.2.2.2.2.2.2.2.2.2.2.2.2.2.2.1 r5.2.2.2.2.2.2.2.2.2.2.2.2.2.2.2.2.2.2.2.1 r5.2.2.2.2.2.2.2.2.2.2.2.2.2.2.2.2.2.2.2.2.1 r5.2.2.2.2.2.2.2.2.2.2.2.2.2.2.2.2.2.2.2.2.2) fun r9 =>
 if (r9 = true) then
 (some (r5.2.2.2.2.2.2.2.2.2.2.2.2.2.2.2.2.2.2.2.1 == r5.2.2.2.2.2.2.2.2.2.1))
 else
 (some false)
 else
 Option.bind (qi k r5.2.2.2.2.2.2.2.2.2.2.2.2.2.2.2.2.2.2.1 r5.2.2.2.2.2.2.2.2.2.2.2.2.2.2.2.2.2.2.2.1 r5.2.2.2.2.2.2.2.2.2.2.2.2.2.2.2.2.2.2.2.2.1 r5.2.2.2.2.2.2.2.2.2.2.2.2.2.2.2.2.2.2.2.2.2 (ByteArray.mk (List.toArray [])) (0 : Int) [] []) fun r9 =>
 (some r9)
 else
 if (r5.2.2.2.1 = true) then
 Option.bind (qg k r5.2.2.2.2.2.2.2.2.2.2.2.2.2.2.2.2.2.2.1 r5.2.2.2.2.2.2.2.2.2.2.2.2.2.2.2.2.2.2.2.1 r5.2.2.2.2.2.2.2.2.2.2.2.2.2.2.2.2.2.2.2.2.1 r5.2.2.2.2.2.2.2.2.2.2.2.2.2.2.2.2.2.2.2.2.2) fun r8 =>
 if (r8 = true) then
 (some (r5.2.2.2.2.2.2.2.2.2.2.2.2.2.2.2.2.2.2.2.1 == r5.2.2.2.2.2.2.2.2.2.1))
 else
 (some false)
 else
 Option.bind (qi k r5.2.2.2.2.2.2.2.2.2.2.2.2.2.2.2.2.2.2.1 r5.2.2.2.2.2.2.2.2.2.2.2.2.2.2.2.2.2.2.2.1 r5.2.2.2.2.2.2.2.2.2.2.2.2.2.2.2.2.2.2.2.2.1 r5.2.2.2.2.2.2.2.2.2.2.2.2.2.2.2.2.2.2.2.2.2 (ByteArray.mk (List.toArray [])) (0 : Int) [] []) fun r8 =>
 (some r8)
 else
 (some false)
 else
 if ((!r5.2.2.1) = true) then
 Option.bind (qu k r5.2.2.2.2.2.2.2.2.2.2.2.2.2.2.2.1 r5.2.2.2.2.2.2.2.2.2.2.2.2.2.2.2.2.1 r5.2.2.2.2.2.2.2.2.2.2.2.2.2.2.2.2.2.1 (0 : Int) [] []) fun r7 =>
 if ((!r7) = true) then
 (some false)
 else
 if (r5.2.2.2.1 = true) then
 Option.bind (qg k r5.2.2.2.2.2.2.2.2.2.2.2.2.2.2.2.2.2.2.1 r5.2.2.2.2.2.2.2.2.2.2.2.2.2.2.2.2.2.2.2.1 r5.2.2.2.2.2.2.2.2.2.2.2.2.2.2.2.2.2.2.2.2.1 r5.2.2.2.2.2.2.2.2.2.2.2.2.2.2.2.2.2.2.2.2.2) fun r8 =>
 if (r8 = true) then
 (some (r5.2.2.2.2.2.2.2.2.2.2.2.2.2.2.2.2.2.2.2.1 == r5.2.2.2.2.2.2.2.2.2.1))
 else
 (some false)
 else
 Option.bind (qi k r5.2.2.2.2.2.2.2.2.2.2.2.2.2.2.2.2.2.2.1 r5.2.2.2.2.2.2.2.2.2.2.2.2.2.2.2.2.2.2.2.1 r5.2.2.2.2.2.2.2.2.2.2.2.2.2.2.2.2.2.2.2.2.1 r5.2.2.2.2.2.2.2.2.2.2.2.2.2.2.2.2.2.2.2.2.2 (ByteArray.mk (List.toArray [])) (0 : Int) [] []) fun r8 =>
 (some r8)
 else
 if (r5.2.2.2.1 = true) then
 Option.bind (qg k r5.2.2.2.2.2.2.2.2.2.2.2.2.2.2.2.2.2.2.1 r5.2.2.2.2.2.2.2.2.2.2.2.2.2.2.2.2.2.2.2.1 r5.2.2.2.2.2.2.2.2.2.2.2.2.2.2.2.2.2.2.2.2.1 r5.2.2.2.2.2.2.2.2.2.2.2.2.2.2.2.2.2.2.2.2.2) fun r7 =>
 if (r7 = true) then
 (some (r5.2.2.2.2.2.2.2.2.2.2.2.2.2.2.2.2.2.2.2.1 == r5.2.2.2.2.2.2.2.2.2.1))
 else
 (some false)
 else
 Option.bind (qi k r5.2.2.2.2.2.2.2.2.2.2.2.2.2.2.2.2.2.2.1 r5.2.2.2.2.2.2.2.2.2.2.2.2.2.2.2.2.2.2.2.1 r5.2.2.2.2.2.2.2.2.2.2.2.2.2.2.2.2.2.2.2.2.1 r5.2.2.2.2.2.2.2.2.2.2.2.2.2.2.2.2.2.2.2.2.2 (ByteArray.mk (List.toArray [])) (0 : Int) [] []) fun r7 =>
 (some r7)
 else
 (some false)
 else
 if ((!r5.2.1) = true) then
 if ((r5.2.2.2.2.2.2.2.2.2.2.2.2.2.1 == (0 : Int)) = true) then
 if ((r5.2.2.2.2.2.2.2.2.2.2.2.2.2.2.1 == (0 : Int)) = true) then
 if (r5.2.2.1 = true) then
 Option.bind (qV k r5.2.2.2.2.2.2.2.2.2.2.2.2.2.2.2.1 r5.2.2.2.2.2.2.2.2.2.2.2.2.2.2.2.2.1 r5.2.2.2.2.2.2.2.2.2.2.2.2.2.2.2.2.2.1) fun r6 =>
 if ((!r6) = false) then
 if ((!r5.2.2.1) = true) then
 Option.bind (qu k r5.2.2.2.2.2.2.2.2.2.2.2.2.2.2.2.1 r5.2.2.2.2.2.2.2.2.2.2.2.2.2.2.2.2.1 r5.2.2.2.2.2.2.2.2.2.2.2.2.2.2.2.2.2.1 (0 : Int) [] []) fun r7 =>
 if ((!r7) = true) then
 (some false)
 else
 if (r5.2.2.2.1 = true) then
 Option.bind (qg k r5.2.2.2.2.2.2.2.2.2.2.2.2.2.2.2.2.2.2.1 r5.2.2.2.2.2.2.2.2.2.2.2.2.2.2.2.2.2.2.2.1 r5.2.2.2.2.2.2.2.2.2.2.2.2.2.2.2.2.2.2.2.2.1 r5.2.2.2.2.2.2.2.2.2.2.2.2.2.2.2.2.2.2.2.2.2) fun r8 =>
 if (r8 = true) then
 (some (r5.2.2.2.2.2.2.2.2.2.2.2.2.2.2.2.2.2.2.2.1 == r5.2.2.2.2.2.2.2.2.2.1))
 else
 (some false)
 else
 Option.bind (qi k r5.2.2.2.2.2.2.2.2.2.2.2.2.2.2.2.2.2.2.1 r5.2.2.2.2.2.2.2.2.2.2.2.2.2.2.2.2.2.2.2.1 r5.2.2.2.2.2.2.2.2.2.2.2.2.2.2.2.2.2.2.2.2.1 r5.2.2.2.2.2.2.2.2.2.2.2.2.2.2.2.2.2.2.2.2.2 (ByteArray.mk (List.toArray [])) (0 : Int) [] []) fun r8 =>
 (some r8)
 else
 if (r5.2.2.2.1 = true) then
 Option.bind (qg k r5.2.2.2.2.2.2.2.2.2.2.2.2.2.2.2.2.2.2.1 r5.2.2.2.2.2.2.2.2.2.2.2.2.2.2.2.2.2.2.2.1 r5.2.2.2.2.2.2.2.2.2.2.2.2.2.2.2.2.2.2.2.2.1 r5.2.2.2.2.2.2.2.2.2.2.2.2.2.2.2.2.2.2.2.2.2) fun r7 =>
 if (r7 = true) then
 (some (r5.2.2.2.2.2.2.2.2.2.2.2.2.2.2.2.2.2.2.2.1 == r5.2.2.2.2.2.2.2.2.2.1))
 else
 (some false)
 else
 Option.bind (qi k r5.2.2.2.2.2.2.2.2.2.2.2.2.2.2.2.2.2.2.1 r5.2.2.2.2.2.2.2.2.2.2.2.2.2.2.2.2.2.2.2.1 r5.2.2.2.2.2.2.2.2.2.2.2.2.2.2.2.2.2.2.2.2.1 r5.2.2.2.2.2.2.2.2.2.2.2.2.2.2.2.2.2.2.2.2.2 (ByteArray.mk (List.toArray [])) (0 : Int) [] []) fun r7 =>
 (some r7)
 else
 (some false)
 else
 if ((!r5.2.2.1) = true) then
 Option.bind (qu k r5.2.2.2.2.2.2.2.2.2.2.2.2.2.2.2.1 r5.2.2.2.2.2.2.2.2.2.2.2.2.2.2.2.2.1 r5.2.2.2.2.2.2.2.2.2.2.2.2.2.2.2.2.2.1 (0 : Int) [] []) fun r6 =>
 if ((!r6) = true) then
 (some false)
 else
 if (r5.2.2.2.1 = true) then
 Option.bind (qg k r5.2.2.2.2.2.2.2.2.2.2.2.2.2.2.2.2.2.2.1 r5.2.2.2.2.2.2.2.2.2.2.2.2.2.2.2.2.2.2.2.1 r5.2.2.2.2.2.2.2.2.2.2.2.2.2.2.2.2.2.2.2.2.1 r5.2.2.2.2.2.2.2.2.2.2.2.2.2.2.2.2.2.2.2.2.2) fun r7 =>
 if (r7 = true) then
 (some (r5.2.2.2.2.2.2.2.2.2.2.2.2.2.2.2.2.2.2.2.1 == r5.2.2.2.2.2.2.2.2.2.1))
 else
 (some false)
 else
 Option.bind (qi k r5.2.2.2.2.2.2.2.2.2.2.2.2.2.2.2.2.2.2.1 r5.2.2.2.2.2.2.2.2.2.2.2.2.2.2.2.2.2.2.2.1 r5.2.2.2.2.2.2.2.2.2.2.2.2.2.2.2.2.2.2.2.2.1 r5.2.2.2.2.2.2.2.2.2.2.2.2.2.2.2.2.2.2.2.2.2 (ByteArray.mk (List.toArray [])) (0 : Int) [] []) fun r7 =>
 (some r7)
 else
 if (r5.2.2.2.1 = true) then
 Option.bind (qg k r5.2.2.2.2.2.2.2.2.2.2.2.2.2.2.2.2.2.2.1 r5.2.2.2.2.2.2.2.2.2.2.2.2.2.2.2.2.2.2.2.1 r5.2.2.2.2.2.2.2.2.2.2.2.2.2.2.2.2.2.2.2.2.1 r5.2.2.2.2.2.2.2.2.2.2.2.2.2.2.2.2.2.2.2.2.2) fun r6 =>
 if (r6 = true) then
 (some (r5.2.2.2.2.2.2.2.2.2.2.2.2.2.2.2.2.2.2.2.1 == r5.2.2.2.2.2.2.2.2.2.1))
 else
 (some false)
 else
 Option.bind (qi k r5.2.2.2.2.2.2.2.2.2.2.2.2.2.2.2.2.2.2.1 r5.2.2.2.2.2.2.2.2.2.2.2.2.2.2.2.2.2.2.2.1 r5.2.2.2.2.2.2.2.2.2.2.2.2.2.2.2.2.2.2.2.2.1 r5.2.2.2.2.2.2.2.2.2.2.2.2.2.2.2.2.2.2.2.2.2 (ByteArray.mk (List.toArray [])) (0 : Int) [] []) fun r6 =>
 (some r6)
 else
 (some false)
 else
 (some false)
 else
 if (r5.2.2.1 = true) then
 Option.bind (qV k r5.2.2.2.2.2.2.2.2.2.2.2.2.2.2.2.1 r5.2.2.2.2.2.2.2.2.2.2.2.2.2.2.2.2.1 r5.2.2.2.2.2.2.2.2.2.2.2.2.2.2.2.2.2.1) fun r6 =>
 if ((!r6) = false) then
 if ((!r5.2.2.1) = true) then
 Option.bind (qu k r5.2.2.2.2.2.2.2.2.2.2.2.2.2.2.2.1 r5.2.2.2.2.2.2.2.2.2.2.2.2.2.2.2.2.1 r5.2.2.2.2.2.2.2.2.2.2.2.2.2.2.2.2.2.1 (0 : Int) [] []) fun r7 =>
 if ((!r7) = true) then
 (some false)
 else
 if (r5.2.2.2.1 = true) then
 Option.bind (qg k r5.2.2.2.2.2.2.2.2.2.2.2.2.2.2.2.2.2.2.1 r5.2.2.2.2.2.2.2.2.2.2.2.2.2.2.2.2.2.2.2.1 r5.2.2.2.2.2.2.2.2.2.2.2.2.2.2.2.2.2.2.2.2.1 r5.2.2.2.2.2.2.2.2.2.2.2.2.2.2.2.2.2.2.2.2.2) fun r8 =>
 if (r8 = true) then
 (some (r5.2.2.2.2.2.2.2.2.2.2.2.2.2.2.2.2.2.2.2.1 == r5.2.2.2.2.2.2.2.2.2.1))
 else
 (some false)
 else
 Option.bind (qi k r5.2.2.2.2.2.2.2.2.2.2.2.2.2.2.2.2.2.2.1 r5.2.2.2.2.2.2.2.2.2.2.2.2.2.2.2.2.2.2.2.1 r5.2.2.2.2.2.2.2.2.2.2.2.2.2.2.2.2.2.2.2.2.1 r5.2.2.2.2.2.2.2.2.2.2.2.2.2.2.2.2.2.2.2.2.2 (ByteArray.mk (List.toArray [])) (0 : Int) [] []) fun r8 =>
 (some r8)
 else
 if (r5.2.2.2.1 = true) then
 Option.bind (qg k r5.2.2.2.2.2.2.2.2.2.2.2.2.2.2.2.2.2.2.1 r5.2.2.2.2.2.2.2.2.2.2.2.2.2.2.2.2.2.2.2.1 r5.2.2.2.2.2.2.2.2.2.2.2.2.2.2.2.2.2.2.2.2.1 r5.2.2.2.2.2.2.2.2.2.2.2.2.2.2.2.2.2.2.2.2.2) fun r7 =>
 if (r7 = true) then
 (some (r5.2.2.2.2.2.2.2.2.2.2.2.2.2.2.2.2.2.2.2.1 == r5.2.2.2.2.2.2.2.2.2.1))
 else
 (some false)
 else
 Option.bind (qi k r5.2.2.2.2.2.2.2.2.2.2.2.2.2.2.2.2.2.2.1 r5.2.2.2.2.2.2.2.2.2.2.2.2.2.2.2.2.2.2.2.1 r5.2.2.2.2.2.2.2.2.2.2.2.2.2.2.2.2.2.2.2.2.1 r5.2.2.2.2.2.2.2.2.2.2.2.2.2.2.2.2.2.2.2.2.2 (ByteArray.mk (List.toArray [])) (0 : Int) [] []) fun r7 =>
 (some r7)
 else
 (some false)
 else
 if ((!r5.2.2.1) = true) then
 Option.bind (qu k r5.2.2.2.2.2.2.2.2.2.2.2.2.2.2.2.1 r5.2.2.2.2.2.2.2.2.2.2.2.2.2.2.2.2.1 r5.2.2.2.2.2.2.2.2.2.2.2.2.2.2.2.2.2.1 (0 : Int) [] []) fun r6 =>
 if ((!r6) = true) then
 (some false)
 else
 if (r5.2.2.2.1 = true) then
 Option.bind (qg k r5.2.2.2.2.2.2.2.2.2.2.2.2.2.2.2.2.2.2.1 r5.2.2.2.2.2.2.2.2.2.2.2.2.2.2.2.2.2.2.2.1 r5.2.2.2.2.2.2.2.2.2.2.2.2.2.2.2.2.2.2.2.2.1 r5.2.2.2.2.2.2.2.2.2.2.2.2.2.2.2.2.2.2.2.2.2) fun r7 =>
 if (r7 = true) then
 (some (r5.2.2.2.2.2.2.2.2.2.2.2.2.2.2.2.2.2.2.2.1 == r5.2.2.2.2.2.2.2.2.2.1))
 else
 (some false)
 else
 Option.bind (qi k r5.2.2.2.2.2.2.2.2.2.2.2.2.2.2.2.2.2.2.1 r5.2.2.2.2.2.2.2.2.2.2.2.2.2.2.2.2.2.2.2.1 r5.2.2.2.2.2.2.2.2.2.2.2.2.2.2.2.2.2.2.2.2.1 r5.2.2.2.2.2.2.2.2.2.2.2.2.2.2.2.2.2.2.2.2.2 (ByteArray.mk (List.toArray [])) (0 : Int) [] []) fun r7 =>
 (some r7)
 else
 if (r5.2.2.2.1 = true) then
 Option.bind (qg k r5.2.2.2.2.2.2.2.2.2.2.2.2.2.2.2.2.2.2.1 r5.2.2.2.2.2.2.2.2.2.2.2.2.2.2.2.2.2.2.2.1 r5.2.2.2.2.2.2.2.2.2.2.2.2.2.2.2.2.2.2.2.2.1 r5.2.2.2.2.2.2.2.2.2.2.2.2.2.2.2.2.2.2.2.2.2) fun r6 =>
 if (r6 = true) then
 (some (r5.2.2.2.2.2.2.2.2.2.2.2.2.2.2.2.2.2.2.2.1 == r5.2.2.2.2.2.2.2.2.2.1))
 else
 (some false)
 else
 Option.bind (qi k r5.2.2.2.2.2.2.2.2.2.2.2.2.2.2.2.2.2.2.1 r5.2.2.2.2.2.2.2.2.2.2.2.2.2.2.2.2.2.2.2.1 r5.2.2.2.2.2.2.2.2.2.2.2.2.2.2.2.2.2.2.2.2.1 r5.2.2.2.2.2.2.2.2.2.2.2.2.2.2.2.2.2.2.2.2.2 (ByteArray.mk (List.toArray [])) (0 : Int) [] []) fun r6 =>
 (some r6)
 else
 none
 else
 (some false)
 else
 (some false)
 else
 if ((r5.2.2.2.2.2.2.2.2.2.2.2.2.1 != (0 : Int)) = true) then
 (some false)
 else
 if (r5.2.1 = true) then
 Option.bind (qaE k r5.2.2.2.2.2.2.2.2.2.2.2.2.2.1 r5.2.2.2.2.2.2.2.2.2.2.2.2.2.2.1) fun r6 =>
 if ((!r6) = false) then
 if ((!r5.2.1) = true) then
 if ((r5.2.2.2.2.2.2.2.2.2.2.2.2.2.1 == (0 : Int)) = true) then
 if ((r5.2.2.2.2.2.2.2.2.2.2.2.2.2.2.1 == (0 : Int)) = true) then
 if (r5.2.2.1 = true) then
 Option.bind (qV k r5.2.2.2.2.2.2.2.2.2.2.2.2.2.2.2.1 r5.2.2.2.2.2.2.2.2.2.2.2.2.2.2.2.2.1 r5.2.2.2.2.2.2.2.2.2.2.2.2.2.2.2.2.2.1) fun r7 =>
 if ((!r7) = false) then
 if ((!r5.2.2.1) = true) then
 Option.bind (qu k r5.2.2.2.2.2.2.2.2.2.2.2.2.2.2.2.1 r5.2.2.2.2.2.2.2.2.2.2.2.2.2.2.2.2.1 r5.2.2.2.2.2.2.2.2.2.2.2.2.2.2.2.2.2.1 (0 : Int) [] []) fun r8 =>
 if ((!r8) = true) then
 (some false)
 else
 if (r5.2.2.2.1 = true) then
 Option.bind (qg k r5.2.2.2.2.2.2.2.2.2.2.2.2.2.2.2.2.2.2.1 r5.2.2.2.2.2.2.2.2.2.2.2.2.2.2.2.2.2.2.2.1 r5.2.2.2.2.2.2.2.2.2.2.2.2.2.2.2.2.2.2.2.2.1 r5.2.2.2.2.2.2.2.2.2.2.2.2.2.2.2.2.2.2.2.2.2) fun r9 =>
 if (r9 = true) then
 (some (r5.2.2.2.2.2.2.2.2.2.2.2.2.2.2.2.2.2.2.2.1 == r5.2.2.2.2.2.2.2.2.2.1))
 else
 (some false)
 else
 Option.bind (qi k r5.2.2.2.2.2.2.2.2.2.2.2.2.2.2.2.2.2.2.1 r5.2.2.2.2.2.2.2.2.2.2.2.2.2.2.2.2.2.2.2.1 r5.2.2.2.2.2.2.2.2.2.2.2.2.2.2.2.2.2.2.2.2.1 r5.2.2.2.2.2.2.2.2.2.2.2.2.2.2.2.2.2.2.2.2.2 (ByteArray.mk (List.toArray [])) (0 : Int) [] []) fun r9 =>
 (some r9)
 else
 if (r5.2.2.2.1 = true) then
 Option.bind (qg k r5.2.2.2.2.2.2.2.2.2.2.2.2.2.2.2.2.2.2.1 r5.2.2.2.2.2.2.2.2.2.2.2.2.2.2.2.2.2.2.2.1 r5.2.2.2.2.2.2.2.2.2.2.2.2.2.2.2.2.2.2.2.2.1 r5.2.2.2.2.2.2.2.2.2.2.2.2.2.2.2.2.2.2.2.2.2) fun r8 =>
 if (r8 = true) then
 (some (r5.2.2.2.2.2.2.2.2.2.2.2.2.2.2.2.2.2.2.2.1 == r5.2.2.2.2.2.2.2.2.2.1))
 else
 (some false)
 else
 Option.bind (qi k r5.2.2.2.2.2.2.2.2.2.2.2.2.2.2.2.2.2.2.1 r5.2.2.2.2.2.2.2.2.2.2.2.2.2.2.2.2.2.2.2.1 r5.2.2.2.2.2.2.2.2.2.2.2.2.2.2.2.2.2.2.2.2.1 r5.2.2.2.2.2.2.2.2.2.2.2.2.2.2.2.2.2.2.2.2.2 (ByteArray.mk (List.toArray [])) (0 : Int) [] []) fun r8 =>
 (some r8)
 else
 (some false)
 else
 if ((!r5.2.2.1) = true) then
 Option.bind (qu k r5.2.2.2.2.2.2.2.2.2.2.2.2.2.2.2.1 r5.2.2.2.2.2.2.2.2.2.2.2.2.2.2.2.2.1 r5.2.2.2.2.2.2.2.2.2.2.2.2.2.2.2.2.2.1 (0 : Int) [] []) fun r7 =>
 if ((!r7) = true) then
 (some false)
 else
 if (r5.2.2.2.1 = true) then
 Option.bind (qg k r5.2.2.2.2.2.2.2.2.2.2.2.2.2.2.2.2.2.2.1 r5.2.2.2.2.2.2.2.2.2.2.2.2.2.2.2.2.2.2.2.1 r5.2.2.2.2.2.2.2.2.2.2.2.2.2.2.2.2.2.2.2.2.1 r5.2.2.2.2.2.2.2.2.2.2.2.2.2.2.2.2.2.2.2.2.2) fun r8 =>
 if (r8 = true) then
 (some (r5.2.2.2.2.2.2.2.2.2.2.2.2.2.2.2.2.2.2.2.1 == r5.2.2.2.2.2.2.2.2.2.1))
 else
 (some false)
 else
 Option.bind (qi k r5.2.2.2.2.2.2.2.2.2.2.2.2.2.2.2.2.2.2.1 r5.2.2.2.2.2.2.2.2.2.2.2.2.2.2.2.2.2.2.2.1 r5.2.2.2.2.2.2.2.2.2.2.2.2.2.2.2.2.2.2.2.2.1 r5.2.2.2.2.2.2.2.2.2.2.2.2.2.2.2.2.2.2.2.2.2 (ByteArray.mk (List.toArray [])) (0 : Int) [] []) fun r8 =>
 (some r8)
 else
 if (r5.2.2.2.1 = true) then
 Option.bind (qg k r5.2.2.2.2.2.2.2.2.2.2.2.2.2.2.2.2.2.2.1 r5.2.2.2.2.2.2.2.2.2.2.2.2.2.2.2.2.2.2.2.1 r5.2.2.2.2.2.2.2.2.2.2.2.2.2.2.2.2.2.2.2.2.1 r5.2.2.2.2.2.2.2.2.2.2.2.2.2.2.2.2.2.2.2.2.2) fun r7 =>
 if (r7 = true) then
 (some (r5.2.2.2.2.2.2.2.2.2.2.2.2.2.2.2.2.2.2.2.1 == r5.2.2.2.2.2.2.2.2.2.1))
 else
 (some false)
 else
 Option.bind (qi k r5.2.2.2.2.2.2.2.2.2.2.2.2.2.2.2.2.2.2.1 r5.2.2.2.2.2.2.2.2.2.2.2.2.2.2.2.2.2.2.2.1 r5.2.2.2.2.2.2.2.2.2.2.2.2.2.2.2.2.2.2.2.2.1 r5.2.2.2.2.2.2.2.2.2.2.2.2.2.2.2.2.2.2.2.2.2 (ByteArray.mk (List.toArray [])) (0 : Int) [] []) fun r7 =>
 (some r7)
 else
 (some false)
 else
 (some false)
 else
 if (r5.2.2.1 = true) then
 Option.bind (qV k r5.2.2.2.2.2.2.2.2.2.2.2.2.2.2.2.1 r5.2.2.2.2.2.2.2.2.2.2.2.2.2.2.2.2.1 r5.2.2.2.2.2.2.2.2.2.2.2.2.2.2.2.2.2.1) fun r7 =>
 if ((!r7) = false) then
 if ((!r5.2.2.1) = true) then
 Option.bind (qu k r5.2.2.2.2.2.2.2.2.2.2.2.2.2.2.2.1 r5.2.2.2.2.2.2.2.2.2.2.2.2.2.2.2.2.1 r5.2.2.2.2.2.2.2.2.2.2.2.2.2.2.2.2.2.1 (0 : Int) [] []) fun r8 =>
 if ((!r8) = true) then
 (some false)
 else
 if (r5.2.2.2.1 = true) then
 Option.bind (qg k r5.2.2.2.2.2.2.2.2.2.2.2.2.2.2.2.2.2.2.1 r5.2.2.2.2.2.2.2.2.2.2.2.2.2.2.2.2.2.2.2.1 r5.2.2.2.2.2.2.2.2.2.2.2.2.2.2.2.2.2.2.2.2.1 r5.2.2.2.2.2.2.2.2.2.2.2.2.2.2.2.2.2.2.2.2.2) fun r9 =>
 if (r9 = true) then
 (some (r5.2.2.2.2.2.2.2.2.2.2.2.2.2.2.2.2.2.2.2.1 == r5.2.2.2.2.2.2.2.2.2.1))
 else
 (some false)
 else
 Option.bind (qi k r5.2.2.2.2.2.2.2.2.2.2.2.2.2.2.2.2.2.2.1 r5.2.2.2.2.2.2.2.2.2.2.2.2.2.2.2.2.2.2.2.1 r5.2.2.2.2.2.2.2.2.2.2.2.2.2.2.2.2.2.2.2.2.1 r5.2.2.2.2.2.2.2.2.2.2.2.2.2.2.2.2.2.2.2.2.2 (ByteArray.mk (List.toArray [])) (0 : Int) [] []) fun r9 =>
 (some r9)
 else
 if (r5.2.2.2.1 = true) then
 Option.bind (qg k r5.2.2.2.2.2.2.2.2.2.2.2.2.2.2.2.2.2.2.1 r5.2.2.2.2.2.2.2.2.2.2.2.2.2.2.2.2.2.2.2.1 r5.2.2.2.2.2.2.2.2.2.2.2.2.2.2.2.2.2.2.2.2.1 r5.2.2.2.2.2.2.2.2.2.2.2.2.2.2.2.2.2.2.2.2.2) fun r8 =>
 if (r8 = true) then
 (some (r5.2.2.2.2.2.2.2.2.2.2.2.2.2.2.2.2.2.2.2.1 == r5.2.2.2.2.2.2.2.2.2.1))
 else
 (some false)
 else
 Option.bind (qi k r5.2.2.2.2.2.2.2.2.2.2.2.2.2.2.2.2.2.2.1 r5.2.2.2.2.2.2.2.2.2.2.2.2.2.2.2.2.2.2.2.1 r5.2.2.2.2.2.2.2.2.2.2.2.2.2.2.2.2.2.2.2.2.1 r5.2.2.2.2.2.2.2.2.2.2.2.2.2.2.2.2.2.2.2.2.2 (ByteArray.mk (List.toArray [])) (0 : Int) [] []) fun r8 =>
 (some r8)
 else
 (some false)
 else
 if ((!r5.2.2.1) = true) then
 Option.bind (qu k r5.2.2.2.2.2.2.2.2.2.2.2.2.2.2.2.1 r5.2.2.2.2.2.2.2.2.2.2.2.2.2.2.2.2.1 r5.2.2.2.2.2.2.2.2.2.2.2.2.2.2.2.2.2.1 (0 : Int) [] []) fun r7 =>
 if ((!r7) = true) then
 (some false)
 else
 if (r5.2.2.2.1 = true) then
 Option.bind (qg k r5.2.2.2.2.2.2.2.2.2.2.2.2.2.2.2.2.2.2.1 r5.2.2.2.2.2.2.2.2.2.2.2.2.2.2.2.2.2.2.2.1 r5.2.2.2.2.2.2.2.2.2.2.2.2.2.2.2.2.2.2.2.2.1 r5.2.2.2.2.2.2.2.2.2.2.2.2.2.2.2.2.2.2.2.2.2) fun r8 =>
 if (r8 = true) then
 (some (r5.2.2.2.2.2.2.2.2.2.2.2.2.2.2.2.2.2.2.2.1 == r5.2.2.2.2.2.2.2.2.2.1))
 else
 (some false)
 else
 Option.bind (qi k r5.2.2.2.2.2.2.2.2.2.2.2.2.2.2.2.2.2.2.1 r5.2.2.2.2.2.2.2.2.2.2.2.2.2.2.2.2.2.2.2.1 r5.2.2.2.2.2.2.2.2.2.2.2.2.2.2.2.2.2.2.2.2.1 r5.2.2.2.2.2.2.2.2.2.2.2.2.2.2.2.2.2.2.2.2.2 (ByteArray.mk (List.toArray [])) (0 : Int) [] []) fun r8 =>
 (some r8)
 else
 if (r5.2.2.2.1 = true) then
 Option.bind (qg k r5.2.2.2.2.2.2.2.2.2.2.2.2.2.2.2.2.2.2.1 r5.2.2.2.2.2.2.2.2.2.2.2.2.2.2.2.2.2.2.2.1 r5.2.2.2.2.2.2.2.2.2.2.2.2.2.2.2.2.2.2.2.2.1 r5.2.2.2.2.2.2.2.2.2.2.2.2.2.2.2.2.2.2.2.2.2) fun r7 =>
 if (r7 = true) then
 (some (r5.2.2.2.2.2.2.2.2.2.2.2.2.2.2.2.2.2.2.2.1 == r5.2.2.2.2.2.2.2.2.2.1))
 else
 (some false)
 else
 Option.bind (qi k r5.2.2.2.2.2.2.2.2.2.2.2.2.2.2.2.2.2.2.1 r5.2.2.2.2.2.2.2.2.2.2.2.2.2.2.2.2.2.2.2.1 r5.2.2.2.2.2.2.2.2.2.2.2.2.2.2.2.2.2.2.2.2.1 r5.2.2.2.2.2.2.2.2.2.2.2.2.2.2.2.2.2.2.2.2.2 (ByteArray.mk (List.toArray [])) (0 : Int) [] []) fun r7 =>
 (some r7)
 else
 (some false)
 else
 if ((!r5.2.1) = true) then
 if ((r5.2.2.2.2.2.2.2.2.2.2.2.2.2.1 == (0 : Int)) = true) then
 if ((r5.2.2.2.2.2.2.2.2.2.2.2.2.2.2.1 == (0 : Int)) = true) then
 if (r5.2.2.1 = true) then
 Option.bind (qV k r5.2.2.2.2.2.2.2.2.2.2.2.2.2.2.2.1 r5.2.2.2.2.2.2.2.2.2.2.2.2.2.2.2.2.1 r5.2.2.2.2.2.2.2.2.2.2.2.2.2.2.2.2.2.1) fun r6 =>
 if ((!r6) = false) then
 if ((!r5.2.2.1) = true) then
 Option.bind (qu k r5.2.2.2.2.2.2.2.2.2.2.2.2.2.2.2.1 r5.2.2.2.2.2.2.2.2.2.2.2.2.2.2.2.2.1 r5.2.2.2.2.2.2.2.2.2.2.2.2.2.2.2.2.2.1 (0 : Int) [] []) fun r7 =>
 if ((!r7) = true) then
 (some false)
 else
 if (r5.2.2.2.1 = true) then
 Option.bind (qg k r5.2.2.2.2.2.2.2.2.2.2.2.2.2.2.2.2.2.2.1 r5.2.2.2.2.2.2.2.2.2.2.2.2.2.2.2.2.2.2.2.1 r5.2.2.2.2.2.2.2.2.2.2.2.2.2.2.2.2.2.2.2.2.1 r5.2.2.2.2.2.2.2.2.2.2.2.2.2.2.2.2.2.2.2.2.2) fun r8 =>
 if (r8 = true) then
 (some (r5.2.2.2.2.2.2.2.2.2.2.2.2.2.2.2.2.2.2.2.1 == r5.2.2.2.2.2.2.2.2.2.1))
 else
 (some false)
 else
 Option.bind (qi k r5.2.2.2.2.2.2.2.2.2.2.2.2.2.2.2.2.2.2.1 r5.2.2.2.2.2.2.2.2.2.2.2.2.2.2.2.2.2.2.2.1 r5.2.2.2.2.2.2.2.2.2.2.2.2.2.2.2.2.2.2.2.2.1 r5.2.2.2.2.2.2.2.2.2.2.2.2.2.2.2.2.2.2.2.2.2 (ByteArray.mk (List.toArray [])) (0 : Int) [] []) fun r8 =>
 (some r8)
 else
 if (r5.2.2.2.1 = true) then
 Option.bind (qg k r5.2.2.2.2.2.2.2.2.2.2.2.2.2.2.2.2.2.2.1 r5.2.2.2.2.2.2.2.2.2.2.2.2.2.2.2.2.2.2.2.1 r5.2.2.2.2.2.2.2.2.2.2.2.2.2.2.2.2.2.2.2.2.1 r5.2.2.2.2.2.2.2.2.2.2.2.2.2.2.2.2.2.2.2.2.2) fun r7 =>
 if (r7 = true) then
 (some (r5.2.2.2.2.2.2.2.2.2.2.2.2.2.2.2.2.2.2.2.1 == r5.2.2.2.2.2.2.2.2.2.1))
 else
 (some false)
 else
 Option.bind (qi k r5.2.2.2.2.2.2.2.2.2.2.2.2.2.2.2.2.2.2.1 r5.2.2.2.2.2.2.2.2.2.2.2.2.2.2.2.2.2.2.2.1 r5.2.2.2.2.2.2.2.2.2.2.2.2.2.2.2.2.2.2.2.2.1 r5.2.2.2.2.2.2.2.2.2.2.2.2.2.2.2.2.2.2.2.2.2 (ByteArray.mk (List.toArray [])) (0 : Int) [] []) fun r7 =>
 (some r7)
 else
 (some false)
 else
 if ((!r5.2.2.1) = true) then
 Option.bind (qu k r5.2.2.2.2.2.2.2.2.2.2.2.2.2.2.2.1 r5.2.2.2.2.2.2.2.2.2.2.2.2.2.2.2.2.1 r5.2.2.2.2.2.2.2.2.2.2.2.2.2.2.2.2.2.1 (0 : Int) [] []) fun r6 =>
 if ((!r6) = true) then
 (some false)
 else
 if (r5.2.2.2.1 = true) then
 Option.bind (qg k r5.2.2.2.2.2.2.2.2.2.2.2.2.2.2.2.2.2.2.1 r5.2.2.2.2.2.2.2.2.2.2.2.2.2.2.2.2.2.2.2.1 r5.2.2.2.2.2.2.2.2.2.2.2.2.2.2.2.2.2.2.2.2.1 r5.2.2.2.2.2.2.2.2.2.2.2.2.2.2.2.2.2.2.2.2.2) fun r7 =>
 if (r7 = true) then
 (some (r5.2.2.2.2.2.2.2.2.2.2.2.2.2.2.2.2.2.2.2.1 == r5.2.2.2.2.2.2.2.2.2.1))
 else
 (some false)
 else
 Option.bind (qi k r5.2.2.2.2.2.2.2.2.2.2.2.2.2.2.2.2.2.2.1 r5.2.2.2.2.2.2.2.2.2.2.2.2.2.2.2.2.2.2.2.1 r5.2.2.2.2.2.2.2.2.2.2.2.2.2.2.2.2.2.2.2.2.1 r5.2.2.2.2.2.2.2.2.2.2.2.2.2.2.2.2.2.2.2.2.2 (ByteArray.mk (List.toArray [])) (0 : Int) [] []) fun r7 =>
 (some r7)
 else
 if (r5.2.2.2.1 = true) then
 Option.bind (qg k r5.2.2.2.2.2.2.2.2.2.2.2.2.2.2.2.2.2.2.1 r5.2.2.2.2.2.2.2.2.2.2.2.2.2.2.2.2.2.2.2.1 r5.2.2.2.2.2.2.2.2.2.2.2.2.2.2.2.2.2.2.2.2.1 r5.2.2.2.2.2.2.2.2.2.2.2.2.2.2.2.2.2.2.2.2.2) fun r6 =>
 if (r6 = true) then
 (some (r5.2.2.2.2.2.2.2.2.2.2.2.2.2.2.2.2.2.2.2.1 == r5.2.2.2.2.2.2.2.2.2.1))
 else
 (some false)
 else
 Option.bind (qi k r5.2.2.2.2.2.2.2.2.2.2.2.2.2.2.2.2.2.2.1 r5.2.2.2.2.2.2.2.2.2.2.2.2.2.2.2.2.2.2.2.1 r5.2.2.2.2.2.2.2.2.2.2.2.2.2.2.2.2.2.2.2.2.1 r5.2.2.2.2.2.2.2.2.2.2.2.2.2.2.2.2.2.2.2.2.2 (ByteArray.mk (List.toArray [])) (0 : Int) [] []) fun r6 =>
 (some r6)
 else
 (some false)
 else
 (some false)
 else
 if (r5.2.2.1 = true) then
 Option.bind (qV k r5.2.2.2.2.2.2.2.2.2.2.2.2.2.2.2.1 r5.2.2.2.2.2.2.2.2.2.2.2.2.2.2.2.2.1 r5.2.2.2.2.2.2.2.2.2.2.2.2.2.2.2.2.2.1) fun r6 =>
 if ((!r6) = false) then
 if ((!r5.2.2.1) = true) then
 Option.bind (qu k r5.2.2.2.2.2.2.2.2.2.2.2.2.2.2.2.1 r5.2.2.2.2.2.2.2.2.2.2.2.2.2.2.2.2.1 r5.2.2.2.2.2.2.2.2.2.2.2.2.2.2.2.2.2.1 (0 : Int) [] []) fun r7 =>
 if ((!r7) = true) then
 (some false)
 else
 if (r5.2.2.2.1 = true) then
 Option.bind (qg k r5.2.2.2.2.2.2.2.2.2.2.2.2.2.2.2.2.2.2.1 r5.2.2.2.2.2.2.2.2.2.2.2.2.2.2.2.2.2.2.2.1 r5.2.2.2.2.2.2.2.2.2.2.2.2.2.2.2.2.2.2.2.2.1 r5.2.2.2.2.2.2.2.2.2.2.2.2.2.2.2.2.2.2.2.2.2) fun r8 =>
 if (r8 = true) then
 (some (r5.2.2.2.2.2.2.2.2.2.2.2.2.2.2.2.2.2.2.2.1 == r5.2.2.2.2.2.2.2.2.2.1))
 else
 (some false)
 else
 Option.bind (qi k r5.2.2.2.2.2.2.2.2.2.2.2.2.2.2.2.2.2.2.1 r5.2.2.2.2.2.2.2.2.2.2.2.2.2.2.2.2.2.2.2.1 r5.2.2.2.2.2.2.2.2.2.2.2.2.2.2.2.2.2.2.2.2.1 r5.2.2.2.2.2.2.2.2.2.2.2.2.2.2.2.2.2.2.2.2.2 (ByteArray.mk (List.toArray [])) (0 : Int) [] []) fun r8 =>
 (some r8)
 else
 if (r5.2.2.2.1 = true) then
 Option.bind (qg k r5.2.2.2.2.2.2.2.2.2.2.2.2.2.2.2.2.2.2.1 r5.2.2.2.2.2.2.2.2.2.2.2.2.2.2.2.2.2.2.2.1 r5.2.2.2.2.2.2.2.2.2.2.2.2.2.2.2.2.2.2.2.2.1 r5.2.2.2.2.2.2.2.2.2.2.2.2.2.2.2.2.2.2.2.2.2) fun r7 =>
 if (r7 = true) then
 (some (r5.2.2.2.2.2.2.2.2.2.2.2.2.2.2.2.2.2.2.2.1 == r5.2.2.2.2.2.2.2.2.2.1))
 else
 (some false)
 else
 Option.bind (qi k r5.2.2.2.2.2.2.2.2.2.2.2.2.2.2.2.2.2.2.1 r5.2.2.2.2.2.2.2.2.2.2.2.2.2.2.2.2.2.2.2.1 r5.2.2.2.2.2.2.2.2.2.2.2.2.2.2.2.2.2.2.2.2.1 r5.2.2.2.2.2.2.2.2.2.2.2.2.2.2.2.2.2.2.2.2.2 (ByteArray.mk (List.toArray [])) (0 : Int) [] []) fun r7 =>
 (some r7)
 else
 (some false)
 else
 if ((!r5.2.2.1) = true) then
 Option.bind (qu k r5.2.2.2.2.2.2.2.2.2.2.2.2.2.2.2.1 r5.2.2.2.2.2.2.2.2.2.2.2.2.2.2.2.2.1 r5.2.2.2.2.2.2.2.2.2.2.2.2.2.2.2.2.2.1 (0 : Int) [] []) fun r6 =>
 if ((!r6) = true) then
 (some false)
 else
 if (r5.2.2.2.1 = true) then
 Option.bind (qg k r5.2.2.2.2.2.2.2.2.2.2.2.2.2.2.2.2.2.2.1 r5.2.2.2.2.2.2.2.2.2.2.2.2.2.2.2.2.2.2.2.1 r5.2.2.2.2.2.2.2.2.2.2.2.2.2.2.2.2.2.2.2.2.1 r5.2.2.2.2.2.2.2.2.2.2.2.2.2.2.2.2.2.2.2.2.2) fun r7 =>
 if (r7 = true) then
 (some (r5.2.2.2.2.2.2.2.2.2.2.2.2.2.2.2.2.2.2.2.1 == r5.2.2.2.2.2.2.2.2.2.1))
 else
 (some false)
 else
 Option.bind (qi k r5.2.2.2.2.2.2.2.2.2.2.2.2.2.2.2.2.2.2.1 r5.2.2.2.2.2.2.2.2.2.2.2.2.2.2.2.2.2.2.2.1 r5.2.2.2.2.2.2.2.2.2.2.2.2.2.2.2.2.2.2.2.2.1 r5.2.2.2.2.2.2.2.2.2.2.2.2.2.2.2.2.2.2.2.2.2 (ByteArray.mk (List.toArray [])) (0 : Int) [] []) fun r7 =>
 (some r7)
 else
 if (r5.2.2.2.1 = true) then
 Option.bind (qg k r5.2.2.2.2.2.2.2.2.2.2.2.2.2.2.2.2.2.2.1 r5.2.2.2.2.2.2.2.2.2.2.2.2.2.2.2.2.2.2.2.1 r5.2.2.2.2.2.2.2.2.2.2.2.2.2.2.2.2.2.2.2.2.1 r5.2.2.2.2.2.2.2.2.2.2.2.2.2.2.2.2.2.2.2.2.2) fun r6 =>
 if (r6 = true) then
 (some (r5.2.2.2.2.2.2.2.2.2.2.2.2.2.2.2.2.2.2.2.1 == r5.2.2.2.2.2.2.2.2.2.1))
 else
 (some false)
 else
 Option.bind (qi k r5.2.2.2.2.2.2.2.2.2.2.2.2.2.2.2.2.2.2.1 r5.2.2.2.2.2.2.2.2.2.2.2.2.2.2.2.2.2.2.2.1 r5.2.2.2.2.2.2.2.2.2.2.2.2.2.2.2.2.2.2.2.2.1 r5.2.2.2.2.2.2.2.2.2.2.2.2.2.2.2.2.2.2.2.2.2 (ByteArray.mk (List.toArray [])) (0 : Int) [] []) fun r6 =>
 (some r6)
def qfa (k : Nat) (f0 : List ByteArray) (f1 : List DvT) (f2 : Int) (f3 : Int) (f4 : Int) (d0 : Int) (d1 : ByteArray) (d2 : List Int) (d3 : Int) (d4 : Int) (d5 : Int) (d6 : Int) (d7 : List (Int × Int)) (d8 : List Int) (d9 : ByteArray) (d10 : Int) (d11 : List (Int × Int)) (d12 : List (Int × Int)) : Option (Bool) :=
 if ((d0 == (114 : Int)) = true) then
 if ((d4 == (0 : Int)) = true) then
 (some false)
 else
 if (((((List.length d2) : Nat) : Int) != (2 : Int)) = false) then
 Option.bind (qz k d1) fun r4 =>
 if ((!r4) = true) then
 (some false)
 else
 Option.bind (qp k k (2 : Int) false true false false (0 : Int) f0 f1 f2 f3 f4 d0 d1 d2 d3 d4 d5 d6 d7 d8 d9 d10 d11 d12) fun r5 =>
 qc r5
 (fun r5 =>
 (some r5.1))
 (qe k)
 else
 (some false)
 else
 if ((d0 == (99 : Int)) = true) then
 if ((d4 == (0 : Int)) = true) then
 (some false)
 else
 if (((((List.length d2) : Nat) : Int) != (2 : Int)) = false) then
 Option.bind (qz k d1) fun r4 =>
 if ((!r4) = true) then
 (some false)
 else
 Option.bind (qp k k (2 : Int) false true false false (0 : Int) f0 f1 f2 f3 f4 d0 d1 d2 d3 d4 d5 d6 d7 d8 d9 d10 d11 d12) fun r5 =>
 qc r5
 (fun r5 =>
 (some r5.1))
 (qe k)
 else
 (some false)
 else
 if ((d0 == (108 : Int)) = true) then
 if ((d4 == (0 : Int)) = true) then
 (some false)
 else
 if (((((List.length d2) : Nat) : Int) != (2 : Int)) = false) then
 Option.bind (qz k d1) fun r4 =>
 if ((!r4) = true) then
 (some false)
 else
 Option.bind (qp k k (2 : Int) false true false false (0 : Int) f0 f1 f2 f3 f4 d0 d1 d2 d3 d4 d5 d6 d7 d8 d9 d10 d11 d12) fun r5 =>
 qc r5
 (fun r5 =>
 (some r5.1))
 (qe k)
 else
 (some false)
 else
 if ((d0 == (118 : Int)) = true) then
 if (((((List.length d2) : Nat) : Int) != (2 : Int)) = false) then
 Option.bind (qz k d1) fun r4 =>
 if ((!r4) = true) then
 (some false)
 else
 Option.bind (qp k k (2 : Int) false false true false (0 : Int) f0 f1 f2 f3 f4 d0 d1 d2 d3 d4 d5 d6 d7 d8 d9 d10 d11 d12) fun r5 =>
 qc r5
 (fun r5 =>
 (some r5.1))
 (qe k)
 else
 (some false)
 else
 if ((d0 == (105 : Int)) = true) then
 if (((((List.length d2) : Nat) : Int) != (2 : Int)) = false) then
 Option.bind (qz k d1) fun r4 =>
 if ((!r4) = true) then
 (some false)
 else
 Option.bind (qp k k (2 : Int) false false true false (0 : Int) f0 f1 f2 f3 f4 d0 d1 d2 d3 d4 d5 d6 d7 d8 d9 d10 d11 d12) fun r5 =>
 qc r5
 (fun r5 =>
 (some r5.1))
 (qe k)
 else
 (some false)
 else
 if ((d0 == (101 : Int)) = true) then
 if (((((List.length d2) : Nat) : Int) != (4 : Int)) = false) then
 Option.bind (qz k d1) fun r4 =>
 if ((!r4) = true) then
 (some false)
 else
 Option.bind (qp k k (4 : Int) false true false false (0 : Int) f0 f1 f2 f3 f4 d0 d1 d2 d3 d4 d5 d6 d7 d8 d9 d10 d11 d12) fun r5 =>
 qc r5
 (fun r5 =>
 (some r5.1))
 (qe k)
 else
 (some false)
 else
 if ((d0 == (103 : Int)) = true) then
 if (((((List.length d2) : Nat) : Int) != (4 : Int)) = false) then
 Option.bind (qz k d1) fun r4 =>
 if ((!r4) = true) then
 (some false)
 else
 Option.bind (qp k k (4 : Int) false true false false (0 : Int) f0 f1 f2 f3 f4 d0 d1 d2 d3 d4 d5 d6 d7 d8 d9 d10 d11 d12) fun r5 =>
 qc r5
 (fun r5 =>
 (some r5.1))
 (qe k)
 else
 (some false)
 else
 if ((d0 == (116 : Int)) = true) then
 if (((((List.length d2) : Nat) : Int) != (4 : Int)) = false) then
 Option.bind (qz k d1) fun r4 =>
 if ((!r4) = true) then
 (some false)
 else
 Option.bind (qp k k (4 : Int) false true false false (0 : Int) f0 f1 f2 f3 f4 d0 d1 d2 d3 d4 d5 d6 d7 d8 d9 d10 d11 d12) fun r5 =>
 qc r5
 (fun r5 =>
 (some r5.1))
 (qe k)
 else
 (some false)
 else
 if ((d0 == (102 : Int)) = true) then
 if (((((List.length d2) : Nat) : Int) != (2 : Int)) = false) then
 Option.bind (qz k d1) fun r4 =>
 if ((!r4) = true) then
 (some false)
 else
 Option.bind (qp k k (2 : Int) true true false false (0 : Int) f0 f1 f2 f3 f4 d0 d1 d2 d3 d4 d5 d6 d7 d8 d9 d10 d11 d12) fun r5 =>
 qc r5
 (fun r5 =>
 (some r5.1))
 (qe k)
 else
 (some false)
 else
 if ((d0 == (104 : Int)) = true) then
 if (((((List.length d2) : Nat) : Int) != (2 : Int)) = false) then
 Option.bind (qz k d1) fun r4 =>
 if ((!r4) = true) then
 (some false)
 else
 Option.bind (qp k k (2 : Int) true true false false (0 : Int) f0 f1 f2 f3 f4 d0 d1 d2 d3 d4 d5 d6 d7 d8 d9 d10 d11 d12) fun r5 =>
 qc r5
 (fun r5 =>
 (some r5.1))
 (qe k)
 else
 (some false)
 else
 if ((d0 == (100 : Int)) = true) then
 if (((((List.length d2) : Nat) : Int) != (2 : Int)) = false) then
 Option.bind (qz k d1) fun r4 =>
 if ((!r4) = true) then
 (some false)
 else
 Option.bind (qp k k (2 : Int) false false false true (0 : Int) f0 f1 f2 f3 f4 d0 d1 d2 d3 d4 d5 d6 d7 d8 d9 d10 d11 d12) fun r5 =>
 qc r5
 (fun r5 =>
 (some r5.1))
 (qe k)
 else
 (some false)
 else
 if ((d0 == (115 : Int)) = true) then
 if (((((List.length d2) : Nat) : Int) != (4 : Int)) = false) then
 Option.bind (qz k d1) fun r4 =>
 if ((!r4) = true) then
 (some false)
 else
 Option.bind (qp k k (4 : Int) false false false true (0 : Int) f0 f1 f2 f3 f4 d0 d1 d2 d3 d4 d5 d6 d7 d8 d9 d10 d11 d12) fun r5 =>
 qc r5
 (fun r5 =>
 (some r5.1))
 (qe k)
 else
 (some false)
 else
 (some false)
def qc0 : Nat → List ByteArray → List DvT → Int → Int → Int → Int → ByteArray → List Int → Int → Int → Int → Int → List (Int × Int) → List Int → ByteArray → Int → List (Int × Int) → List (Int × Int) → Option (Bool)
 | 0, _, _, _, _, _, _, _, _, _, _, _, _, _, _, _, _, _, _ => none
 | k + 1, f0, f1, f2, f3, f4, d0, d1, d2, d3, d4, d5, d6, d7, d8, d9, d10, d11, d12 => qfa k f0 f1 f2 f3 f4 d0 d1 d2 d3 d4 d5 d6 d7 d8 d9 d10 d11 d12
def qwr : Nat → Inst := mkI 68 ⟨[.g [.lf (.sl .str), .lf (.sl qG), .lf (.int .i64), .lf (.int .i64), .lf (.int .i64)], .g [.lf (.int .u8), .lf .str, .lf (.sl (.int .i64)), .lf (.int .i64), .lf (.int .i64), .lf (.int .i64), .lf (.int .i64), .lf cE, .lf (.sl (.int .i64)), .lf .str, .lf (.int .u8), .lf cE, .lf cE]], []⟩ [⟨[vB], []⟩] fun k x => qc0 k x.1 x.2.1 x.2.2.1 x.2.2.2.1 x.2.2.2.2.1 x.2.2.2.2.2.1 x.2.2.2.2.2.2.1 x.2.2.2.2.2.2.2.1 x.2.2.2.2.2.2.2.2.1 x.2.2.2.2.2.2.2.2.2.1 x.2.2.2.2.2.2.2.2.2.2.1 x.2.2.2.2.2.2.2.2.2.2.2.1 x.2.2.2.2.2.2.2.2.2.2.2.2.1 x.2.2.2.2.2.2.2.2.2.2.2.2.2.1 x.2.2.2.2.2.2.2.2.2.2.2.2.2.2.1 x.2.2.2.2.2.2.2.2.2.2.2.2.2.2.2.1 x.2.2.2.2.2.2.2.2.2.2.2.2.2.2.2.2.1 x.2.2.2.2.2.2.2.2.2.2.2.2.2.2.2.2.2
theorem qsW (k : Nat) : qa5 (call cf k) [qrN k, qmx k, qv8 k, qwf k, qwm k, qwq k] :=
 ac (qsS k) (ac (qlA k) (ac (qyp k) (ac (qyq k) (ac (qyw k) (ac (qyx k) a0)))))
def qws (k : Nat) : LInst := mkL 1 [⟨[(2, .a (.ptr 0 0 0)), (3, .a (.ptr 1 0 0)), (5, vI), (6, vB), (7, vB), (8, vB), (9, vB), (10, vI)], [(0, some (.raw [[.lf (.sl .str), .lf (.sl qG), .lf (.int .i64), .lf (.int .i64), .lf (.int .i64)]] 5 27 true false false)), (1, some (.raw [[.lf (.int .u8), .lf .str, .lf (.sl (.int .i64)), .lf (.int .i64), .lf (.int .i64), .lf (.int .i64), .lf (.int .i64), .lf cE, .lf (.sl (.int .i64)), .lf .str, .lf (.int .u8), .lf cE, .lf cE]] 13 48 true false false))], 2⟩] [⟨none, ⟨[(4, vB)], [(0, some (.raw [[.lf (.sl .str), .lf (.sl qG), .lf (.int .i64), .lf (.int .i64), .lf (.int .i64)]] 5 27 true false false)), (1, some (.raw [[.lf (.int .u8), .lf .str, .lf (.sl (.int .i64)), .lf (.int .i64), .lf (.int .i64), .lf (.int .i64), .lf (.int .i64), .lf cE, .lf (.sl (.int .i64)), .lf .str, .lf (.int .u8), .lf cE, .lf cE]] 13 48 true false false))], 2⟩⟩, ⟨some 1, ⟨[(2, .a (.ptr 0 0 0)), (3, .a (.ptr 1 0 0)), (6, vB), (7, vB), (8, vB), (9, vB)], [(0, some (.raw [[.lf (.sl .str), .lf (.sl qG), .lf (.int .i64), .lf (.int .i64), .lf (.int .i64)]] 5 27 true false false)), (1, some (.raw [[.lf (.int .u8), .lf .str, .lf (.sl (.int .i64)), .lf (.int .i64), .lf (.int .i64), .lf (.int .i64), .lf (.int .i64), .lf cE, .lf (.sl (.int .i64)), .lf .str, .lf (.int .u8), .lf cE, .lf cE]] 13 48 true false false))], 2⟩⟩] (fun n x => qp k n x.1 x.2.1 x.2.2.1 x.2.2.2.1 x.2.2.2.2.1 x.2.2.2.2.2.1 x.2.2.2.2.2.2.1 x.2.2.2.2.2.2.2.1 x.2.2.2.2.2.2.2.2.1 x.2.2.2.2.2.2.2.2.2.1 x.2.2.2.2.2.2.2.2.2.2.1 x.2.2.2.2.2.2.2.2.2.2.2.1 x.2.2.2.2.2.2.2.2.2.2.2.2.1 x.2.2.2.2.2.2.2.2.2.2.2.2.2.1 x.2.2.2.2.2.2.2.2.2.2.2.2.2.2.1 x.2.2.2.2.2.2.2.2.2.2.2.2.2.2.2.1 x.2.2.2.2.2.2.2.2.2.2.2.2.2.2.2.2.1 x.2.2.2.2.2.2.2.2.2.2.2.2.2.2.2.2.2.1 x.2.2.2.2.2.2.2.2.2.2.2.2.2.2.2.2.2.2.1 x.2.2.2.2.2.2.2.2.2.2.2.2.2.2.2.2.2.2.2.1 x.2.2.2.2.2.2.2.2.2.2.2.2.2.2.2.2.2.2.2.2.1 x.2.2.2.2.2.2.2.2.2.2.2.2.2.2.2.2.2.2.2.2.2.1 x.2.2.2.2.2.2.2.2.2.2.2.2.2.2.2.2.2.2.2.2.2.2.1 x.2.2.2.2.2.2.2.2.2.2.2.2.2.2.2.2.2.2.2.2.2.2.2) k
theorem qwt (k : Nat) : LIo 68 Tryz.f68 0 k (qws k) :=
 lpk [] (qsW k) l0 (fun _ => rfl) (by kernel_rfl) fun n x => by kernel_rfl
theorem qyy : ∀ k, qh (call cf k) (qwr k) :=
 fnk 0 [1] Tryz.func68 (fun k => (qsW k)) (fun k => (lc (qwt k) l0)) ⟨rfl, rfl, ⟨rfl, Nat.le_of_ble_eq_true rfl⟩, rfl⟩ (fun _ => rfl) (by kernel_rfl) fun k x => by kernel_rfl

def qbn (k : Nat) (rec : ByteArray → List ByteArray → Int → Option ((Bool) ⊕ (Unit))) (s : ByteArray) (l : List ByteArray) (i : Int) : Option ((Bool) ⊕ (Unit)) :=
 if ((decide (i < (((List.length l) : Nat) : Int))) = true) then
 if ((0 : Int) ≤ i) then
 Option.bind (l)[(Int.toNat i)]? fun x2 =>
 if (((Array.toList (ByteArray.data x2)) == (Array.toList (ByteArray.data s))) = true) then
 (some (Sum.inl true))
 else
 rec s l (IntKind.wrap .i64 (i + (1 : Int)))
 else
 none
 else
 (some (Sum.inr ()))
def qaw (k n : Nat) : ByteArray → List ByteArray → Int → Option ((Bool) ⊕ (Unit)) := Nat.rec (fun _ _ _ => none) (fun _ r => qbn k r) n
def qfH (k : Nat) (s : ByteArray) (l : List ByteArray) : Option (Bool) :=
 Option.bind (qaw k k s l (0 : Int)) fun r6 =>
 qc r6
 (fun r6 =>
 (some r6))
 (fun r6 =>
 (some false))
def qdl : Nat → ByteArray → List ByteArray → Option (Bool)
 | 0, _, _ => none
 | k + 1, s, l => qfH k s l
def qwu : Nat → Inst := mkI 127 ⟨[vS, vR], []⟩ [⟨[vB], []⟩] fun k x => qdl k x.1 x.2
def qwv (k : Nat) : LInst := mkL 0 [⟨[(0, vS), (1, vR), (5, vI)], [], 0⟩] [⟨none, ⟨[(4, vB)], [], 0⟩⟩, ⟨some 0, ⟨[], [], 0⟩⟩] (fun n x => qaw k n x.1 x.2.1 x.2.2) k
theorem qww (k : Nat) : LIo 127 Tryz.f127 0 k (qwv k) :=
 lpk [] a0 l0 (fun _ => rfl) (by kernel_rfl) fun n x => by kernel_rfl
theorem qyz : ∀ k, qh (call cf k) (qwu k) :=
 fnk 0 [0] Tryz.func127 (fun k => a0) (fun k => (lc (qww k) l0)) ⟨rfl, rfl, ⟨rfl, Nat.le_of_ble_eq_true rfl⟩, rfl⟩ (fun _ => rfl) (by kernel_rfl) fun k x => by kernel_rfl

def qaY (k : Nat) (rec : List ByteArray → Int → Option ((Bool) ⊕ (Unit))) (l : List ByteArray) (i : Int) : Option ((Bool) ⊕ (Unit)) :=
 if ((decide (i < (((List.length l) : Nat) : Int))) = true) then
 if ((0 : Int) ≤ i) then
 Option.bind (l)[(Int.toNat i)]? fun x1 =>
 if (((0 : Int) ≤ (0 : Int)) ∧ (((0 : Int) ≤ i) ∧ (i ≤ (((List.length l) : Nat) : Int)))) then
 Option.bind (qdl k x1 (List.take (Int.toNat i) l)) fun r6 =>
 if (r6 = true) then
 (some (Sum.inl true))
 else
 rec l (IntKind.wrap .i64 (i + (1 : Int)))
 else
 none
 else
 none
 else
 (some (Sum.inr ()))
def qah (k n : Nat) : List ByteArray → Int → Option ((Bool) ⊕ (Unit)) := Nat.rec (fun _ _ => none) (fun _ r => qaY k r) n
def qfb (k : Nat) (l : List ByteArray) : Option (Bool) :=
 Option.bind (qah k k l (0 : Int)) fun r6 =>
 qc r6
 (fun r6 =>
 (some r6))
 (fun r6 =>
 (some false))
def qbK : Nat → List ByteArray → Option (Bool)
 | 0, _ => none
 | k + 1, l => qfb k l
def qwx : Nat → Inst := mkI 70 ⟨[vR], []⟩ [⟨[vB], []⟩] fun k x => qbK k x
theorem qsX (k : Nat) : qa5 (call cf k) [qwu k] :=
 ac (qyz k) a0
def qwy (k : Nat) : LInst := mkL 0 [⟨[(0, vR), (3, vI)], [], 0⟩] [⟨none, ⟨[(2, vB)], [], 0⟩⟩, ⟨some 0, ⟨[], [], 0⟩⟩] (fun n x => qah k n x.1 x.2) k
theorem qwz (k : Nat) : LIo 70 Tryz.f70 0 k (qwy k) :=
 lpk [] (qsX k) l0 (fun _ => rfl) (by kernel_rfl) fun n x => by kernel_rfl
theorem qyA : ∀ k, qh (call cf k) (qwx k) :=
 fnk 0 [0] Tryz.func70 (fun k => (qsX k)) (fun k => (lc (qwz k) l0)) ⟨rfl, rfl, ⟨rfl, Nat.le_of_ble_eq_true rfl⟩, rfl⟩ (fun _ => rfl) (by kernel_rfl) fun k x => by kernel_rfl

def qd5 (k : Nat) (kind : Int) : Option (Bool) :=
 if ((kind == (118 : Int)) = false) then
 if ((kind == (101 : Int)) = false) then
 if ((kind == (104 : Int)) = false) then
 if ((kind == (99 : Int)) = false) then
 if ((kind == (108 : Int)) = false) then
 (some (kind == (116 : Int)))
 else
 (some true)
 else
 (some true)
 else
 (some true)
 else
 (some true)
 else
 (some true)
def qc4 : Nat → Int → Option (Bool)
 | 0, _ => none
 | k + 1, kind => qd5 k kind
def qwA : Nat → Inst := mkI 128 ⟨[.a (.lf (.int .u8))], []⟩ [⟨[vB], []⟩] fun k x => qc4 k x
theorem qyB : ∀ k, qh (call cf k) (qwA k) :=
 fnk 0 [] Tryz.func128 (fun k => a0) (fun k => l0) ⟨rfl, rfl, ⟨rfl, Nat.le_of_ble_eq_true rfl⟩, rfl⟩ (fun _ => rfl) (by kernel_rfl) fun k x => by kernel_rfl

def qci (k : Nat) (rec : Int → Nat → Int → List ByteArray → List DvT → Int → Int → Int → List Int → Option (Int × Nat × List ByteArray × List DvT × Int × Int × Int × List Int)) (n : Int) (b : Nat) (i : Int) (f0 : List ByteArray) (f1 : List DvT) (f2 : Int) (f3 : Int) (f4 : Int) (bs : List Int) : Option (Int × Nat × List ByteArray × List DvT × Int × Int × Int × List Int) :=
 if ((decide (i < (((List.length f1) : Nat) : Int))) = true) then
 if ((0 : Int) ≤ i) then
 Option.bind (f1)[(Int.toNat i)]? fun x1 =>
 Option.bind (qc4 k x1.1) fun r8 =>
 if (r8 = true) then
 if (b ≤ (List.length bs)) then
 if (((b + (List.length (List.take 1 (n :: [])))) * 8) ≤ 140737488355328) then
 rec (IntKind.wrap .i64 (n + (1 : Int))) (b + (List.length (List.take 1 (n :: [])))) (IntKind.wrap .i64 (i + (1 : Int))) f0 f1 f2 f3 f4 ((List.take b bs) ++ (List.take 1 (n :: [])))
 else
 none
 else
 none
 else
 if (b ≤ (List.length bs)) then
 if (((b + 1) * 8) ≤ 140737488355328) then
 rec n (b + 1) (IntKind.wrap .i64 (i + (1 : Int))) f0 f1 f2 f3 f4 ((List.take b bs) ++ (List.take 1 ((-(1 : Int)) :: [])))
 else
 none
 else
 none
 else
 none
 else
 (some (n, b, f0, f1, f2, f3, f4, bs))
def qbo (k n : Nat) : Int → Nat → Int → List ByteArray → List DvT → Int → Int → Int → List Int → Option (Int × Nat × List ByteArray × List DvT × Int × Int × Int × List Int) := Nat.rec (fun _ _ _ _ _ _ _ _ _ => none) (fun _ r => qci k r) n
def qfc (k : Nat) (f0 : List ByteArray) (f1 : List DvT) (f2 : Int) (f3 : Int) (f4 : Int) : Option (Int × List Int) :=
 Option.bind (qbo k k (IntKind.wrap .i64 ((((List.length f0) : Nat) : Int) - (1 : Int))) 0 (0 : Int) f0 f1 f2 f3 f4 []) fun r8 =>
 if ((0 + r8.2.1) ≤ (List.length r8.2.2.2.2.2.2.2)) then
 (some (r8.1, (List.take r8.2.1 r8.2.2.2.2.2.2.2)))
 else
 none
def qc1 : Nat → List ByteArray → List DvT → Int → Int → Int → Option (Int × List Int)
 | 0, _, _, _, _, _ => none
 | k + 1, f0, f1, f2, f3, f4 => qfc k f0 f1 f2 f3 f4
def qwB : Nat → Inst := mkI 71 ⟨[.g [.lf (.sl .str), .lf (.sl qG), .lf (.int .i64), .lf (.int .i64), .lf (.int .i64)]], []⟩ [⟨[vI, vJ], []⟩] fun k x => qc1 k x.1 x.2.1 x.2.2.1 x.2.2.2.1 x.2.2.2.2
theorem qsY (k : Nat) : qa5 (call cf k) [qwA k] :=
 ac (qyB k) a0
def qwC (k : Nat) : LInst := mkL 0 [⟨[(1, .a (.ptr 0 0 0)), (4, vI), (5, .a (.smz 1)), (6, vI)], [(0, some (.raw [[.lf (.sl .str), .lf (.sl qG), .lf (.int .i64), .lf (.int .i64), .lf (.int .i64)]] 5 27 true false false)), (1, some (.arr (.int .i64) 1 3 false))], 2⟩] [⟨some 0, ⟨[(4, vI), (5, .a (.smz 1))], [(0, some (.raw [[.lf (.sl .str), .lf (.sl qG), .lf (.int .i64), .lf (.int .i64), .lf (.int .i64)]] 5 27 true false false)), (1, some (.arr (.int .i64) 1 3 false))], 2⟩⟩] (fun n x => qbo k n x.1 x.2.1 x.2.2.1 x.2.2.2.1 x.2.2.2.2.1 x.2.2.2.2.2.1 x.2.2.2.2.2.2.1 x.2.2.2.2.2.2.2.1 x.2.2.2.2.2.2.2.2) k
theorem qwD (k : Nat) : LIo 71 Tryz.f71 0 k (qwC k) :=
 lpk [] (qsY k) l0 (fun _ => rfl) (by kernel_rfl) fun n x => by kernel_rfl
theorem qyC : ∀ k, qh (call cf k) (qwB k) :=
 fnk 0 [0] Tryz.func71 (fun k => (qsY k)) (fun k => (lc (qwD k) l0)) ⟨rfl, rfl, ⟨rfl, Nat.le_of_ble_eq_true rfl⟩, rfl⟩ (fun _ => rfl) (by kernel_rfl) fun k x => by kernel_rfl

def qaZ (k : Nat) (rec : Nat → Int → List ByteArray → List DvT → Int → Int → Int → List ByteArray → Option ((Int × List ByteArray × List DvT × Int × Int × Int × List ByteArray) ⊕ (Nat × List ByteArray × List DvT × Int × Int × Int × List ByteArray))) (qbD : Nat) (i : Int) (f0 : List ByteArray) (f1 : List DvT) (f2 : Int) (f3 : Int) (f4 : Int) (namess : List ByteArray) : Option ((Int × List ByteArray × List DvT × Int × Int × Int × List ByteArray) ⊕ (Nat × List ByteArray × List DvT × Int × Int × Int × List ByteArray)) :=
 if ((decide (i < (((List.length f1) : Nat) : Int))) = true) then
 if ((0 : Int) ≤ i) then
 Option.bind (f1)[(Int.toNat i)]? fun x1 =>
 Option.bind (qc0 k f0 f1 f2 f3 f4 x1.1 x1.2.1 x1.2.2.1 x1.2.2.2.1 x1.2.2.2.2.1.1 x1.2.2.2.2.1.2 x1.2.2.2.2.2.1.1 x1.2.2.2.2.2.1.2.1 x1.2.2.2.2.2.1.2.2 x1.2.2.2.2.2.2.1 x1.2.2.2.2.2.2.2.1 x1.2.2.2.2.2.2.2.2.1 x1.2.2.2.2.2.2.2.2.2) fun r4 =>
 if ((!r4) = true) then
 (some (Sum.inl ((90 : Int), f0, f1, f2, f3, f4, namess)))
 else
 if ((0 : Int) ≤ i) then
 Option.bind (f1)[(Int.toNat i)]? fun x2 =>
 if (qbD ≤ (List.length namess)) then
 if (((qbD + (List.length (List.take 1 (x2.2.1 :: [])))) * 16) ≤ 140737488355328) then
 rec (qbD + (List.length (List.take 1 (x2.2.1 :: [])))) (IntKind.wrap .i64 (i + (1 : Int))) f0 f1 f2 f3 f4 ((List.take qbD namess) ++ (List.take 1 (x2.2.1 :: [])))
 else
 none
 else
 none
 else
 none
 else
 none
 else
 (some (Sum.inr (qbD, f0, f1, f2, f3, f4, namess)))
def qai (k n : Nat) : Nat → Int → List ByteArray → List DvT → Int → Int → Int → List ByteArray → Option ((Int × List ByteArray × List DvT × Int × Int × Int × List ByteArray) ⊕ (Nat × List ByteArray × List DvT × Int × Int × Int × List ByteArray)) := Nat.rec (fun _ _ _ _ _ _ _ _ => none) (fun _ r => qaZ k r) n
def qa0 (k : Nat) (rec : Nat → Int → List ByteArray → List DvT → Int → Int → Int → List ByteArray → Option ((Int × List ByteArray × List DvT × Int × Int × Int × List ByteArray) ⊕ (Nat × List ByteArray × List DvT × Int × Int × Int × List ByteArray))) (qbD : Nat) (i : Int) (f0 : List ByteArray) (f1 : List DvT) (f2 : Int) (f3 : Int) (f4 : Int) (namess : List ByteArray) : Option ((Int × List ByteArray × List DvT × Int × Int × Int × List ByteArray) ⊕ (Nat × List ByteArray × List DvT × Int × Int × Int × List ByteArray)) :=
 if ((decide (i < (((List.length f0) : Nat) : Int))) = true) then
 if ((0 : Int) ≤ i) then
 Option.bind (f0)[(Int.toNat i)]? fun x1 =>
 Option.bind (qz k x1) fun r5 =>
 if ((!r5) = true) then
 (some (Sum.inl ((90 : Int), f0, f1, f2, f3, f4, namess)))
 else
 rec qbD (IntKind.wrap .i64 (i + (1 : Int))) f0 f1 f2 f3 f4 namess
 else
 none
 else
 (some (Sum.inr (qbD, f0, f1, f2, f3, f4, namess)))
def qJ (k n : Nat) : Nat → Int → List ByteArray → List DvT → Int → Int → Int → List ByteArray → Option ((Int × List ByteArray × List DvT × Int × Int × Int × List ByteArray) ⊕ (Nat × List ByteArray × List DvT × Int × Int × Int × List ByteArray)) := Nat.rec (fun _ _ _ _ _ _ _ _ => none) (fun _ r => qa0 k r) n
def qfd (k : Nat) (f0 : List ByteArray) (f1 : List DvT) (f2 : Int) (f3 : Int) (f4 : Int) : Option (Int) :=
 Option.bind (qaE k f2 f3) fun r3 =>
 if ((!r3) = false) then
 if ((decide (f2 < (1 : Int))) = false) then
 if ((decide (f4 < (1 : Int))) = false) then
 if ((decide (f4 > (2 : Int))) = false) then
 if ((decide ((((List.length f0) : Nat) : Int) < (1 : Int))) = false) then
 if ((decide ((((List.length f0) : Nat) : Int) > (32 : Int))) = false) then
 if ((decide ((((List.length f1) : Nat) : Int) > (64 : Int))) = false) then
 Option.bind (f0)[0]? fun x =>
 if ((!((Array.toList (ByteArray.data x)) == (Array.toList (ByteArray.data (ByteArray.mk (List.toArray (48 :: []))))))) = true) then
 (some (90 : Int))
 else
 Option.bind (qai k k 0 (0 : Int) f0 f1 f2 f3 f4 []) fun r4 =>
 qc r4
 (fun r4 =>
 (some r4.1))
 (fun r4 =>
 Option.bind (qJ k k r4.1 (0 : Int) r4.2.1 r4.2.2.1 r4.2.2.2.1 r4.2.2.2.2.1 r4.2.2.2.2.2.1 r4.2.2.2.2.2.2) fun r5 =>
 qc r5
 (fun r5 =>
 (some r5.1))
 (fun r5 =>
 if ((0 + r5.1) ≤ (List.length r5.2.2.2.2.2.2)) then
 Option.bind (qbK k (List.take r5.1 r5.2.2.2.2.2.2)) fun r6 =>
 if (r6 = false) then
 Option.bind (qbK k r5.2.1) fun r7 =>
 if (r7 = true) then
 (some (90 : Int))
 else
 Option.bind (qc1 k r5.2.1 r5.2.2.1 r5.2.2.2.1 r5.2.2.2.2.1 r5.2.2.2.2.2.1) fun r8 =>
 if ((decide (r8.1 > (48 : Int))) = true) then
 (some (5 : Int))
 else
 (some (0 : Int))
 else
 (some (90 : Int))
 else
 none))
 else
 (some (90 : Int))
 else
 (some (90 : Int))
 else
 (some (90 : Int))
 else
 (some (90 : Int))
 else
 (some (90 : Int))
 else
 (some (90 : Int))
 else
 (some (90 : Int))
def qbd : Nat → List ByteArray → List DvT → Int → Int → Int → Option (Int)
 | 0, _, _, _, _, _ => none
 | k + 1, f0, f1, f2, f3, f4 => qfd k f0 f1 f2 f3 f4
def qwE : Nat → Inst := mkI 24 ⟨[.g [.lf (.sl .str), .lf (.sl qG), .lf (.int .i64), .lf (.int .i64), .lf (.int .i64)]], []⟩ [⟨[vI], []⟩] fun k x => qbd k x.1 x.2.1 x.2.2.1 x.2.2.2.1 x.2.2.2.2
theorem qoQ (k : Nat) : qa5 (call cf k) [qmx k, qwr k, qrN k, qwx k, qwB k] :=
 ac (qlA k) (ac (qyy k) (ac (qsS k) (ac (qyA k) (ac (qyC k) a0))))
def qwF (k : Nat) : LInst := mkL 0 [⟨[(1, .a (.ptr 0 0 0)), (3, .a (.smz 1)), (4, vI)], [(0, some (.raw [[.lf (.sl .str), .lf (.sl qG), .lf (.int .i64), .lf (.int .i64), .lf (.int .i64)]] 5 27 true false false)), (1, some (.arr .str 1 9 false))], 2⟩] [⟨none, ⟨[(2, vI)], [(0, some (.raw [[.lf (.sl .str), .lf (.sl qG), .lf (.int .i64), .lf (.int .i64), .lf (.int .i64)]] 5 27 true false false)), (1, some (.arr .str 1 9 false))], 2⟩⟩, ⟨some 0, ⟨[(1, .a (.ptr 0 0 0)), (3, .a (.smz 1))], [(0, some (.raw [[.lf (.sl .str), .lf (.sl qG), .lf (.int .i64), .lf (.int .i64), .lf (.int .i64)]] 5 27 true false false)), (1, some (.arr .str 1 9 false))], 2⟩⟩] (fun n x => qai k n x.1 x.2.1 x.2.2.1 x.2.2.2.1 x.2.2.2.2.1 x.2.2.2.2.2.1 x.2.2.2.2.2.2.1 x.2.2.2.2.2.2.2) k
theorem qqb (k : Nat) : LIo 24 Tryz.f24 0 k (qwF k) :=
 lpk [] (qoQ k) l0 (fun _ => rfl) (by kernel_rfl) fun n x => by kernel_rfl
def qwG (k : Nat) : LInst := mkL 2 [⟨[(1, .a (.ptr 0 0 0)), (3, .a (.smz 1)), (5, vI)], [(0, some (.raw [[.lf (.sl .str), .lf (.sl qG), .lf (.int .i64), .lf (.int .i64), .lf (.int .i64)]] 5 27 true false false)), (1, some (.arr .str 1 9 false))], 2⟩] [⟨none, ⟨[(2, vI)], [(0, some (.raw [[.lf (.sl .str), .lf (.sl qG), .lf (.int .i64), .lf (.int .i64), .lf (.int .i64)]] 5 27 true false false)), (1, some (.arr .str 1 9 false))], 2⟩⟩, ⟨some 2, ⟨[(1, .a (.ptr 0 0 0)), (3, .a (.smz 1))], [(0, some (.raw [[.lf (.sl .str), .lf (.sl qG), .lf (.int .i64), .lf (.int .i64), .lf (.int .i64)]] 5 27 true false false)), (1, some (.arr .str 1 9 false))], 2⟩⟩] (fun n x => qJ k n x.1 x.2.1 x.2.2.1 x.2.2.2.1 x.2.2.2.2.1 x.2.2.2.2.2.1 x.2.2.2.2.2.2.1 x.2.2.2.2.2.2.2) k
theorem qwH (k : Nat) : LIo 24 Tryz.f24 0 k (qwG k) :=
 lpk [] (qoQ k) (lc (qqb k) l0) (fun _ => rfl) (by kernel_rfl) fun n x => by kernel_rfl
theorem qyD : ∀ k, qh (call cf k) (qwE k) :=
 fnk 0 [0, 2] Tryz.func24 (fun k => (qoQ k)) (fun k => (lc (qqb k) (lc (qwH k) l0))) ⟨rfl, rfl, ⟨rfl, Nat.le_of_ble_eq_true rfl⟩, rfl⟩ (fun _ => rfl) (by kernel_rfl) fun k x => by kernel_rfl

def qf6 (k : Nat) (f0 : List ByteArray) (f1 : List DvT) (f2 : Int) (f3 : Int) (f4 : Int) (mode : Int) : Option (Int) :=
 Option.bind (qek k f0 f1 f2 f3 f4) fun r =>
 if ((r != (0 : Int)) = true) then
 (some r)
 else
 if ((mode != (1 : Int)) = true) then
 if ((mode != (2 : Int)) = true) then
 (some (110 : Int))
 else
 (some (0 : Int))
 else
 (some (0 : Int))
def qd6 : Nat → List ByteArray → List DvT → Int → Int → Int → Int → Option (Int)
 | 0, _, _, _, _, _, _ => none
 | k + 1, f0, f1, f2, f3, f4, mode => qf6 k f0 f1 f2 f3 f4 mode
def qrO : Nat → Inst := mkI 57 ⟨[.g [.lf (.sl .str), .lf (.sl qG), .lf (.int .i64), .lf (.int .i64), .lf (.int .i64)], vI], []⟩ [⟨[vI], []⟩] fun k x => qd6 k x.1 x.2.1 x.2.2.1 x.2.2.2.1 x.2.2.2.2.1 x.2.2.2.2.2
theorem qsZ : ∀ k, qh (call cf k) (qrO k) :=
 fnk 0 [] Tryz.func57 (fun k => (ac (qyg k) a0)) (fun k => l0) ⟨rfl, rfl, ⟨rfl, Nat.le_of_ble_eq_true rfl⟩, rfl⟩ (fun _ => rfl) (by kernel_rfl) fun k x => by kernel_rfl

def qdm (k : Nat) (rec : Nat → Int → Int → List Int → Option (Nat × List Int)) (s : Nat) (x : Int) (x1 : Int) (ss : List Int) : Option (Nat × List Int) :=
 if ((decide (x1 < x)) = true) then
 if (((0 : Int) ≤ x1) ∧ (x1 < ((s : Nat) : Int))) then
 Option.bind (ss)[(0 + (Int.toNat x1))]? fun x2 =>
 rec s x (IntKind.wrap .i64 (x1 + (1 : Int))) (List.set ss (0 + (Int.toNat x1)) x1)
 else
 none
 else
 (some (s, ss))
def qcj (k n : Nat) : Nat → Int → Int → List Int → Option (Nat × List Int) := Nat.rec (fun _ _ _ _ => none) (fun _ r => qdm k r) n
def qgH (k : Nat) (n : Int) : Option (Nat × List Int) :=
 if (((0 : Int) ≤ n) ∧ ((n ≤ n) ∧ ((n * (8 : Int)) ≤ (140737488355328 : Int)))) then
 Option.bind (qcj k k (Int.toNat n) n (0 : Int) (List.replicate (Int.toNat n) (0 : Int))) fun r1 =>
 (some (r1.1, r1.2))
 else
 none
def qef : Nat → Int → Option (Nat × List Int)
 | 0, _ => none
 | k + 1, n => qgH k n
def qrP : Nat → Inst := mkI 58 ⟨[vI], []⟩ [⟨[.a (.smz 0)], [.arr (.int .i64) 1 3 false]⟩] fun k x => qef k x
def qwI (k : Nat) : LInst := mkL 0 [⟨[(3, .a (.smz 0)), (7, vI), (8, vI)], [(0, some (.arr (.int .i64) 1 3 false))], 1⟩] [⟨some 0, ⟨[(3, .a (.smz 0))], [(0, some (.arr (.int .i64) 1 3 false))], 1⟩⟩] (fun n x => qcj k n x.1 x.2.1 x.2.2.1 x.2.2.2) k
theorem qwJ (k : Nat) : LIo 58 Tryz.f58 0 k (qwI k) :=
 lpk [] a0 l0 (fun _ => rfl) (by kernel_rfl) fun n x => by kernel_rfl
theorem qs0 : ∀ k, qh (call cf k) (qrP k) :=
 fnk 0 [0] Tryz.func58 (fun k => a0) (fun k => (lc (qwJ k) l0)) ⟨rfl, rfl, ⟨rfl, Nat.le_of_ble_eq_true rfl⟩, rfl⟩ (fun _ => rfl) (by kernel_rfl) fun k x => by kernel_rfl

def qan (k : Nat) (rec : Nat → Int → List Int → Option (Int × List Int)) (s : Nat) (i : Int) (ss : List Int) : Option (Int × List Int) :=
 if (((0 : Int) ≤ i) ∧ (i < ((s : Nat) : Int))) then
 Option.bind (ss)[(0 + (Int.toNat i))]? fun x6 =>
 if ((x6 != i) = true) then
 if (((0 : Int) ≤ i) ∧ (i < ((s : Nat) : Int))) then
 Option.bind (ss)[(0 + (Int.toNat i))]? fun x7 =>
 if (((0 : Int) ≤ x7) ∧ (x7 < ((s : Nat) : Int))) then
 Option.bind (ss)[(0 + (Int.toNat x7))]? fun x8 =>
 if (((0 : Int) ≤ i) ∧ (i < ((s : Nat) : Int))) then
 Option.bind (ss)[(0 + (Int.toNat i))]? fun x9 =>
 if (((0 : Int) ≤ i) ∧ (i < ((s : Nat) : Int))) then
 Option.bind ((List.set ss (0 + (Int.toNat i)) x8))[(0 + (Int.toNat i))]? fun x10 =>
 rec s x10 (List.set ss (0 + (Int.toNat i)) x8)
 else
 none
 else
 none
 else
 none
 else
 none
 else
 (some (i, ss))
 else
 none
def qM (k n : Nat) : Nat → Int → List Int → Option (Int × List Int) := Nat.rec (fun _ _ _ => none) (fun _ r => qan k r) n
def qd7 (k : Nat) (s : Nat) (i : Int) (ss : List Int) : Option (Int × List Int) :=
 Option.bind (qM k k s i ss) fun r3 =>
 (some (r3.1, r3.2))
def qa1 : Nat → Nat → Int → List Int → Option (Int × List Int)
 | 0, _, _, _ => none
 | k + 1, s, i, ss => qd7 k s i ss
def qf7 : Nat → Inst := mkI 61 ⟨[.a (.smz 0), vI], [.arr (.int .i64) 1 3 false]⟩ [⟨[vI], [.arr (.int .i64) 1 3 false]⟩] fun k x => qa1 k x.1 x.2.1 x.2.2
def qhb (k : Nat) : LInst := mkL 0 [⟨[(0, .a (.smz 0)), (1, vI)], [(0, some (.arr (.int .i64) 1 3 false))], 1⟩] [⟨some 0, ⟨[(1, vI)], [(0, some (.arr (.int .i64) 1 3 false))], 1⟩⟩] (fun n x => qM k n x.1 x.2.1 x.2.2) k
theorem qhc (k : Nat) : LIo 61 Tryz.f61 1 k (qhb k) :=
 lpk [] a0 l0 (fun _ => rfl) (by kernel_rfl) fun n x => by kernel_rfl
theorem qfQ : ∀ k, qh (call cf k) (qf7 k) :=
 fnk 1 [0] Tryz.func61 (fun k => a0) (fun k => (lc (qhc k) l0)) ⟨rfl, rfl, ⟨rfl, Nat.le_of_ble_eq_true rfl⟩, rfl⟩ (fun _ => rfl) (by kernel_rfl) fun k x => by kernel_rfl

def qd8 (k : Nat) (s : Nat) (a : Int) (b : Int) (ss : List Int) : Option (Bool × List Int) :=
 Option.bind (qa1 k s a ss) fun r3 =>
 Option.bind (qa1 k s b r3.2) fun r4 =>
 if (((0 : Int) ≤ r3.1) ∧ (r3.1 < ((s : Nat) : Int))) then
 Option.bind (r4.2)[(0 + (Int.toNat r3.1))]? fun x6 =>
 (some ((r3.1 != r4.1), (List.set r4.2 (0 + (Int.toNat r3.1)) r4.1)))
 else
 none
def qY : Nat → Nat → Int → Int → List Int → Option (Bool × List Int)
 | 0, _, _, _, _ => none
 | k + 1, s, a, b, ss => qd8 k s a b ss
def qd9 : Nat → Inst := mkI 60 ⟨[.a (.smz 0), vI, vI], [.arr (.int .i64) 1 3 false]⟩ [⟨[vB], [.arr (.int .i64) 1 3 false]⟩] fun k x => qY k x.1 x.2.1 x.2.2.1 x.2.2.2
theorem qfR : ∀ k, qh (call cf k) (qd9 k) :=
 fnk 1 [] Tryz.func60 (fun k => (ac (qfQ k) a0)) (fun k => l0) ⟨rfl, rfl, ⟨rfl, Nat.le_of_ble_eq_true rfl⟩, rfl⟩ (fun _ => rfl) (by kernel_rfl) fun k x => by kernel_rfl

def qbP (k : Nat) (rec : Nat → ByteArray → List DvT → Int → Int → List ByteArray → List DvT → Int → Int → Int → List Int → Option (Nat × List ByteArray × List DvT × Int × Int × Int × List Int)) (s : Nat) (first : ByteArray) (x : List DvT) (x1 : Int) (x2 : Int) (f0 : List ByteArray) (f1 : List DvT) (f2 : Int) (f3 : Int) (f4 : Int) (ss : List Int) : Option (Nat × List ByteArray × List DvT × Int × Int × Int × List Int) :=
 if ((decide (x2 < x1)) = true) then
 if ((0 : Int) ≤ x2) then
 Option.bind (x)[(Int.toNat x2)]? fun x3 =>
 Option.bind (qas k first x3.1) fun r2 =>
 if ((decide (r2 ≥ (0 : Int))) = true) then
 Option.bind (x3.2.2.1)[0]? fun x4 =>
 Option.bind (x3.2.2.1)[1]? fun x5 =>
 Option.bind (qY k s x4 x5 ss) fun r3 =>
 Option.bind (qas k (ByteArray.mk (List.toArray (101 :: (103 :: (116 :: []))))) x3.1) fun r4 =>
 if ((decide (r4 ≥ (0 : Int))) = true) then
 Option.bind (x3.2.2.1)[2]? fun x6 =>
 Option.bind (x3.2.2.1)[3]? fun x7 =>
 Option.bind (qY k s x6 x7 r3.2) fun r5 =>
 rec s first x x1 (IntKind.wrap .i64 (x2 + (1 : Int))) f0 f1 f2 f3 f4 r5.2
 else
 rec s first x x1 (IntKind.wrap .i64 (x2 + (1 : Int))) f0 f1 f2 f3 f4 r3.2
 else
 Option.bind (qas k (ByteArray.mk (List.toArray (101 :: (103 :: (116 :: []))))) x3.1) fun r3 =>
 if ((decide (r3 ≥ (0 : Int))) = true) then
 Option.bind (x3.2.2.1)[2]? fun x4 =>
 Option.bind (x3.2.2.1)[3]? fun x5 =>
 Option.bind (qY k s x4 x5 ss) fun r4 =>
 rec s first x x1 (IntKind.wrap .i64 (x2 + (1 : Int))) f0 f1 f2 f3 f4 r4.2
 else
 rec s first x x1 (IntKind.wrap .i64 (x2 + (1 : Int))) f0 f1 f2 f3 f4 ss
 else
 none
 else
 (some (s, f0, f1, f2, f3, f4, ss))
def qbF (k n : Nat) : Nat → ByteArray → List DvT → Int → Int → List ByteArray → List DvT → Int → Int → Int → List Int → Option (Nat × List ByteArray × List DvT × Int × Int × Int × List Int) := Nat.rec (fun _ _ _ _ _ _ _ _ _ _ _ => none) (fun _ r => qbP k r) n
def qdA (k : Nat) (rec : Nat → Nat → Int → Int → List Int → List Int → Option (Nat × List Int × List Int)) (s : Nat) (l : Nat) (x : Int) (x1 : Int) (ss : List Int) (ls : List Int) : Option (Nat × List Int × List Int) :=
 if ((decide (x1 < x)) = true) then
 Option.bind (qa1 k s x1 ss) fun r3 =>
 Option.bind (qa1 k s (0 : Int) r3.2) fun r4 =>
 if ((r3.1 != r4.1) = true) then
 if (l ≤ (List.length ls)) then
 if (((l + (List.length (List.take 1 (x1 :: [])))) * 8) ≤ 140737488355328) then
 rec s (l + (List.length (List.take 1 (x1 :: [])))) x (IntKind.wrap .i64 (x1 + (1 : Int))) r4.2 ((List.take l ls) ++ (List.take 1 (x1 :: [])))
 else
 none
 else
 none
 else
 rec s l x (IntKind.wrap .i64 (x1 + (1 : Int))) r4.2 ls
 else
 (some (l, ss, ls))
def qb7 (k n : Nat) : Nat → Nat → Int → Int → List Int → List Int → Option (Nat × List Int × List Int) := Nat.rec (fun _ _ _ _ _ _ => none) (fun _ r => qdA k r) n
def qeK (k : Nat) (f0 : List ByteArray) (f1 : List DvT) (f2 : Int) (f3 : Int) (f4 : Int) (mode : Int) : Option (Nat × Int × List Int) :=
 Option.bind (qd6 k f0 f1 f2 f3 f4 mode) fun r =>
 if ((r != (0 : Int)) = true) then
 (some (0, r, []))
 else
 Option.bind (qef k (((List.length f0) : Nat) : Int)) fun r1 =>
 if ((mode == (2 : Int)) = true) then
 Option.bind (qbF k k r1.1 ((ByteArray.mk (List.toArray (114 :: (108 :: (118 :: (101 :: (104 :: (116 :: (100 :: (115 :: [])))))))))) ++ (ByteArray.mk (List.toArray (99 :: [])))) f1 (((List.length f1) : Nat) : Int) (0 : Int) f0 f1 f2 f3 f4 r1.2) fun r2 =>
 Option.bind (qb7 k k r2.1 0 (((List.length r2.2.1) : Nat) : Int) (0 : Int) r2.2.2.2.2.2.2 []) fun r3 =>
 (some (r3.1, (0 : Int), r3.2.2))
 else
 Option.bind (qbF k k r1.1 (ByteArray.mk (List.toArray (114 :: (108 :: (118 :: (101 :: (104 :: (116 :: (100 :: (115 :: [])))))))))) f1 (((List.length f1) : Nat) : Int) (0 : Int) f0 f1 f2 f3 f4 r1.2) fun r2 =>
 Option.bind (qb7 k k r2.1 0 (((List.length r2.2.1) : Nat) : Int) (0 : Int) r2.2.2.2.2.2.2 []) fun r3 =>
 (some (r3.1, (0 : Int), r3.2.2))
def qax : Nat → List ByteArray → List DvT → Int → Int → Int → Int → Option (Nat × Int × List Int)
 | 0, _, _, _, _, _, _ => none
 | k + 1, f0, f1, f2, f3, f4, mode => qeK k f0 f1 f2 f3 f4 mode
def qwK : Nat → Inst := mkI 16 ⟨[.g [.lf (.sl .str), .lf (.sl qG), .lf (.int .i64), .lf (.int .i64), .lf (.int .i64)], vI], []⟩ [⟨[.a (.smz 0), vI], [.arr (.int .i64) 1 3 false]⟩] fun k x => qax k x.1 x.2.1 x.2.2.1 x.2.2.2.1 x.2.2.2.2.1 x.2.2.2.2.2
theorem qoR (k : Nat) : qa5 (call cf k) [qrO k, qrP k, qrL k, qd9 k, qf7 k] :=
 ac (qsZ k) (ac (qs0 k) (ac (qsE k) (ac (qfR k) (ac (qfQ k) a0))))
def qwL (k : Nat) : LInst := mkL 0 [⟨[(2, .a (.ptr 0 0 0)), (7, .a (.smz 1)), (8, vS), (28, .a (.lf (.sl qG))), (29, vI), (30, vI)], [(0, some (.raw [[.lf (.sl .str), .lf (.sl qG), .lf (.int .i64), .lf (.int .i64), .lf (.int .i64)]] 5 27 true false false)), (1, some (.arr (.int .i64) 1 3 false))], 2⟩] [⟨some 0, ⟨[(2, .a (.ptr 0 0 0)), (7, .a (.smz 1))], [(0, some (.raw [[.lf (.sl .str), .lf (.sl qG), .lf (.int .i64), .lf (.int .i64), .lf (.int .i64)]] 5 27 true false false)), (1, some (.arr (.int .i64) 1 3 false))], 2⟩⟩] (fun n x => qbF k n x.1 x.2.1 x.2.2.1 x.2.2.2.1 x.2.2.2.2.1 x.2.2.2.2.2.1 x.2.2.2.2.2.2.1 x.2.2.2.2.2.2.2.1 x.2.2.2.2.2.2.2.2.1 x.2.2.2.2.2.2.2.2.2.1 x.2.2.2.2.2.2.2.2.2.2) k
theorem qqc (k : Nat) : LIo 16 Tryz.f16 0 k (qwL k) :=
 lpk [] (qoR k) l0 (fun _ => rfl) (by kernel_rfl) fun n x => by kernel_rfl
def qwM (k : Nat) : LInst := mkL 2 [⟨[(7, .a (.smz 0)), (11, .a (.smz 1)), (66, vI), (67, vI)], [(0, some (.arr (.int .i64) 1 3 false)), (1, some (.arr (.int .i64) 1 3 false))], 2⟩] [⟨some 2, ⟨[(11, .a (.smz 1))], [(0, some (.arr (.int .i64) 1 3 false)), (1, some (.arr (.int .i64) 1 3 false))], 2⟩⟩] (fun n x => qb7 k n x.1 x.2.1 x.2.2.1 x.2.2.2.1 x.2.2.2.2.1 x.2.2.2.2.2) k
theorem qwN (k : Nat) : LIo 16 Tryz.f16 0 k (qwM k) :=
 lpk [] (qoR k) (lc (qqc k) l0) (fun _ => rfl) (by kernel_rfl) fun n x => by kernel_rfl
theorem qoS : ∀ k, qh (call cf k) (qwK k) :=
 fnk 0 [0, 2] Tryz.func16 (fun k => (qoR k)) (fun k => (lc (qqc k) (lc (qwN k) l0))) ⟨rfl, rfl, ⟨rfl, Nat.le_of_ble_eq_true rfl⟩, rfl⟩ (fun _ => rfl) (by kernel_rfl) fun k x => by kernel_rfl

def qb8 (k : Nat) (rec : Int → Nat → Nat → List DvT → Int → Int → List Int → List Int → Option (Nat × List Int × List Int)) (mode : Int) (s : Nat) (l : Nat) (x : List DvT) (x1 : Int) (x2 : Int) (ss : List Int) (ls : List Int) : Option (Nat × List Int × List Int) :=
 if ((decide (x2 < x1)) = true) then
 if ((0 : Int) ≤ x2) then
 Option.bind (x)[(Int.toNat x2)]? fun x3 =>
 if ((x3.1 == (118 : Int)) = false) then
 if ((x3.1 == (108 : Int)) = true) then
 if ((mode == (1 : Int)) = true) then
 Option.bind (x3.2.2.1)[0]? fun x4 =>
 Option.bind (x3.2.2.1)[1]? fun x5 =>
 Option.bind (qY k s x4 x5 ss) fun r3 =>
 if ((!r3.1) = true) then
 if (l ≤ (List.length ls)) then
 if (((l + (List.length (List.take 1 (x2 :: [])))) * 8) ≤ 140737488355328) then
 rec mode s (l + (List.length (List.take 1 (x2 :: [])))) x x1 (IntKind.wrap .i64 (x2 + (1 : Int))) r3.2 ((List.take l ls) ++ (List.take 1 (x2 :: [])))
 else
 none
 else
 none
 else
 rec mode s l x x1 (IntKind.wrap .i64 (x2 + (1 : Int))) r3.2 ls
 else
 rec mode s l x x1 (IntKind.wrap .i64 (x2 + (1 : Int))) ss ls
 else
 rec mode s l x x1 (IntKind.wrap .i64 (x2 + (1 : Int))) ss ls
 else
 Option.bind (x3.2.2.1)[0]? fun x4 =>
 Option.bind (x3.2.2.1)[1]? fun x5 =>
 Option.bind (qY k s x4 x5 ss) fun r3 =>
 if ((!r3.1) = true) then
 if (l ≤ (List.length ls)) then
 if (((l + (List.length (List.take 1 (x2 :: [])))) * 8) ≤ 140737488355328) then
 rec mode s (l + (List.length (List.take 1 (x2 :: [])))) x x1 (IntKind.wrap .i64 (x2 + (1 : Int))) r3.2 ((List.take l ls) ++ (List.take 1 (x2 :: [])))
 else
 none
 else
 none
 else
 rec mode s l x x1 (IntKind.wrap .i64 (x2 + (1 : Int))) r3.2 ls
 else
 none
 else
 (some (l, ss, ls))
def qba (k n : Nat) : Int → Nat → Nat → List DvT → Int → Int → List Int → List Int → Option (Nat × List Int × List Int) := Nat.rec (fun _ _ _ _ _ _ _ _ => none) (fun _ r => qb8 k r) n
def qfo (k : Nat) (f0 : List ByteArray) (f1 : List DvT) (f2 : Int) (f3 : Int) (f4 : Int) (mode : Int) : Option (Nat × Int × List Int) :=
 Option.bind (qd6 k f0 f1 f2 f3 f4 mode) fun r1 =>
 if ((r1 != (0 : Int)) = true) then
 (some (0, r1, []))
 else
 Option.bind (qef k (((List.length f0) : Nat) : Int)) fun r2 =>
 Option.bind (qba k k mode r2.1 0 f1 (((List.length f1) : Nat) : Int) (0 : Int) r2.2 []) fun r3 =>
 (some (r3.1, (0 : Int), r3.2.2))
def qak : Nat → List ByteArray → List DvT → Int → Int → Int → Int → Option (Nat × Int × List Int)
 | 0, _, _, _, _, _, _ => none
 | k + 1, f0, f1, f2, f3, f4, mode => qfo k f0 f1 f2 f3 f4 mode
def qwO : Nat → Inst := mkI 17 ⟨[.g [.lf (.sl .str), .lf (.sl qG), .lf (.int .i64), .lf (.int .i64), .lf (.int .i64)], vI], []⟩ [⟨[.a (.smz 0), vI], [.arr (.int .i64) 1 3 false]⟩] fun k x => qak k x.1 x.2.1 x.2.2.1 x.2.2.2.1 x.2.2.2.2.1 x.2.2.2.2.2
theorem qs1 (k : Nat) : qa5 (call cf k) [qrO k, qrP k, qd9 k] :=
 ac (qsZ k) (ac (qs0 k) (ac (qfR k) a0))
def qwP (k : Nat) : LInst := mkL 0 [⟨[(1, vI), (7, .a (.smz 0)), (8, .a (.smz 1)), (22, .a (.lf (.sl qG))), (23, vI), (24, vI)], [(0, some (.arr (.int .i64) 1 3 false)), (1, some (.arr (.int .i64) 1 3 false))], 2⟩] [⟨some 0, ⟨[(8, .a (.smz 1))], [(0, some (.arr (.int .i64) 1 3 false)), (1, some (.arr (.int .i64) 1 3 false))], 2⟩⟩] (fun n x => qba k n x.1 x.2.1 x.2.2.1 x.2.2.2.1 x.2.2.2.2.1 x.2.2.2.2.2.1 x.2.2.2.2.2.2.1 x.2.2.2.2.2.2.2) k
theorem qwQ (k : Nat) : LIo 17 Tryz.f17 0 k (qwP k) :=
 lpk [] (qs1 k) l0 (fun _ => rfl) (by kernel_rfl) fun n x => by kernel_rfl
theorem qoT : ∀ k, qh (call cf k) (qwO k) :=
 fnk 0 [0] Tryz.func17 (fun k => (qs1 k)) (fun k => (lc (qwQ k) l0)) ⟨rfl, rfl, ⟨rfl, Nat.le_of_ble_eq_true rfl⟩, rfl⟩ (fun _ => rfl) (by kernel_rfl) fun k x => by kernel_rfl

def qnb (k : Nat) (f0 : List ByteArray) (f1 : List DvT) (f2 : Int) (f3 : Int) (f4 : Int) (mode : Int) : Option (Int) :=
 Option.bind (qax k f0 f1 f2 f3 f4 mode) fun r3 =>
 if ((r3.2.1 != (0 : Int)) = true) then
 (some r3.2.1)
 else
 if ((decide (((r3.1 : Nat) : Int) > (0 : Int))) = true) then
 (some (100 : Int))
 else
 Option.bind (qak k f0 f1 f2 f3 f4 mode) fun r4 =>
 if ((decide (((r4.1 : Nat) : Int) > (0 : Int))) = true) then
 (some (101 : Int))
 else
 (some (0 : Int))
def qgs : Nat → List ByteArray → List DvT → Int → Int → Int → Int → Option (Int)
 | 0, _, _, _, _, _, _ => none
 | k + 1, f0, f1, f2, f3, f4, mode => qnb k f0 f1 f2 f3 f4 mode
def qzt : Nat → Inst := mkI 21 ⟨[.g [.lf (.sl .str), .lf (.sl qG), .lf (.int .i64), .lf (.int .i64), .lf (.int .i64)], vI], []⟩ [⟨[vI], []⟩] fun k x => qgs k x.1 x.2.1 x.2.2.1 x.2.2.2.1 x.2.2.2.2.1 x.2.2.2.2.2
theorem qyE : ∀ k, qh (call cf k) (qzt k) :=
 fnk 0 [] Tryz.func21 (fun k => (ac (qoS k) (ac (qoT k) a0))) (fun k => l0) ⟨rfl, rfl, ⟨rfl, Nat.le_of_ble_eq_true rfl⟩, rfl⟩ (fun _ => rfl) (by kernel_rfl) fun k x => by kernel_rfl

def qi1 (k : Nat) : Option (Bool) :=
 Option.bind (qax k (List.take 3 ((ByteArray.mk (List.toArray (48 :: []))) :: ((ByteArray.mk (List.toArray (97 :: []))) :: ((ByteArray.mk (List.toArray (98 :: []))) :: [])))) (List.take 3 (((118 : Int), ((ByteArray.mk (List.toArray (118 :: (49 :: [])))), ((List.take 2 ((1 : Int) :: ((0 : Int) :: []))), ((0 : Int), (((0 : Int), (0 : Int)), (((1 : Int), ((List.take 1 (((1 : Int), (0 : Int)) :: [])), [])), ((ByteArray.mk (List.toArray [])), ((0 : Int), ([], []))))))))) :: (((99 : Int), ((ByteArray.mk (List.toArray (99 :: (49 :: [])))), ((List.take 2 ((2 : Int) :: ((0 : Int) :: []))), ((0 : Int), (((1 : Int), (0 : Int)), (((0 : Int), (([] : List (Int × Int)), ([] : List Int))), ((ByteArray.mk (List.toArray [])), ((0 : Int), (([] : List (Int × Int)), ([] : List (Int × Int))))))))))) :: (((108 : Int), ((ByteArray.mk (List.toArray (108 :: (49 :: [])))), ((List.take 2 ((1 : Int) :: ((0 : Int) :: []))), ((0 : Int), (((1 : Int), (0 : Int)), (((0 : Int), (([] : List (Int × Int)), ([] : List Int))), ((ByteArray.mk (List.toArray [])), ((0 : Int), (([] : List (Int × Int)), ([] : List (Int × Int))))))))))) :: [])))) (1 : Int) (0 : Int) (1 : Int) (1 : Int)) fun r =>
 Option.bind (qak k (List.take 3 ((ByteArray.mk (List.toArray (48 :: []))) :: ((ByteArray.mk (List.toArray (97 :: []))) :: ((ByteArray.mk (List.toArray (98 :: []))) :: [])))) (List.take 3 (((118 : Int), ((ByteArray.mk (List.toArray (118 :: (49 :: [])))), ((List.take 2 ((1 : Int) :: ((0 : Int) :: []))), ((0 : Int), (((0 : Int), (0 : Int)), (((1 : Int), ((List.take 1 (((1 : Int), (0 : Int)) :: [])), [])), ((ByteArray.mk (List.toArray [])), ((0 : Int), ([], []))))))))) :: (((99 : Int), ((ByteArray.mk (List.toArray (99 :: (49 :: [])))), ((List.take 2 ((2 : Int) :: ((0 : Int) :: []))), ((0 : Int), (((1 : Int), (0 : Int)), (((0 : Int), (([] : List (Int × Int)), ([] : List Int))), ((ByteArray.mk (List.toArray [])), ((0 : Int), (([] : List (Int × Int)), ([] : List (Int × Int))))))))))) :: (((108 : Int), ((ByteArray.mk (List.toArray (108 :: (49 :: [])))), ((List.take 2 ((1 : Int) :: ((0 : Int) :: []))), ((0 : Int), (((1 : Int), (0 : Int)), (((0 : Int), (([] : List (Int × Int)), ([] : List Int))), ((ByteArray.mk (List.toArray [])), ((0 : Int), (([] : List (Int × Int)), ([] : List (Int × Int))))))))))) :: [])))) (1 : Int) (0 : Int) (1 : Int) (1 : Int)) fun r1 =>
 Option.bind (qax k (List.take 3 ((ByteArray.mk (List.toArray (48 :: []))) :: ((ByteArray.mk (List.toArray (97 :: []))) :: ((ByteArray.mk (List.toArray (98 :: []))) :: [])))) (List.take 3 (((118 : Int), ((ByteArray.mk (List.toArray (118 :: (49 :: [])))), ((List.take 2 ((1 : Int) :: ((0 : Int) :: []))), ((0 : Int), (((0 : Int), (0 : Int)), (((1 : Int), ((List.take 1 (((1 : Int), (0 : Int)) :: [])), [])), ((ByteArray.mk (List.toArray [])), ((0 : Int), ([], []))))))))) :: (((99 : Int), ((ByteArray.mk (List.toArray (99 :: (49 :: [])))), ((List.take 2 ((2 : Int) :: ((0 : Int) :: []))), ((0 : Int), (((1 : Int), (0 : Int)), (((0 : Int), (([] : List (Int × Int)), ([] : List Int))), ((ByteArray.mk (List.toArray [])), ((0 : Int), (([] : List (Int × Int)), ([] : List (Int × Int))))))))))) :: (((108 : Int), ((ByteArray.mk (List.toArray (108 :: (49 :: [])))), ((List.take 2 ((1 : Int) :: ((0 : Int) :: []))), ((0 : Int), (((1 : Int), (0 : Int)), (((0 : Int), (([] : List (Int × Int)), ([] : List Int))), ((ByteArray.mk (List.toArray [])), ((0 : Int), (([] : List (Int × Int)), ([] : List (Int × Int))))))))))) :: [])))) (1 : Int) (0 : Int) (1 : Int) (2 : Int)) fun r2 =>
 if ((r.2.1 == (0 : Int)) = true) then
 if ((r1.2.1 == (0 : Int)) = true) then
 if ((r2.2.1 == (0 : Int)) = true) then
 if ((((r.1 : Nat) : Int) == (1 : Int)) = true) then
 if (((0 : Int) ≤ (0 : Int)) ∧ ((0 : Int) < ((r.1 : Nat) : Int))) then
 Option.bind (r.2.2)[0]? fun x =>
 if ((x == (2 : Int)) = true) then
 if ((((r1.1 : Nat) : Int) == (1 : Int)) = true) then
 if (((0 : Int) ≤ (0 : Int)) ∧ ((0 : Int) < ((r1.1 : Nat) : Int))) then
 Option.bind (r1.2.2)[0]? fun x1 =>
 if ((x1 == (2 : Int)) = true) then
 if ((((r2.1 : Nat) : Int) == (0 : Int)) = true) then
 Option.bind (qgs k (List.take 3 ((ByteArray.mk (List.toArray (48 :: []))) :: ((ByteArray.mk (List.toArray (97 :: []))) :: ((ByteArray.mk (List.toArray (98 :: []))) :: [])))) (List.take 3 (((118 : Int), ((ByteArray.mk (List.toArray (118 :: (49 :: [])))), ((List.take 2 ((1 : Int) :: ((0 : Int) :: []))), ((0 : Int), (((0 : Int), (0 : Int)), (((1 : Int), ((List.take 1 (((1 : Int), (0 : Int)) :: [])), [])), ((ByteArray.mk (List.toArray [])), ((0 : Int), ([], []))))))))) :: (((99 : Int), ((ByteArray.mk (List.toArray (99 :: (49 :: [])))), ((List.take 2 ((2 : Int) :: ((0 : Int) :: []))), ((0 : Int), (((1 : Int), (0 : Int)), (((0 : Int), (([] : List (Int × Int)), ([] : List Int))), ((ByteArray.mk (List.toArray [])), ((0 : Int), (([] : List (Int × Int)), ([] : List (Int × Int))))))))))) :: (((108 : Int), ((ByteArray.mk (List.toArray (108 :: (49 :: [])))), ((List.take 2 ((1 : Int) :: ((0 : Int) :: []))), ((0 : Int), (((1 : Int), (0 : Int)), (((0 : Int), (([] : List (Int × Int)), ([] : List Int))), ((ByteArray.mk (List.toArray [])), ((0 : Int), (([] : List (Int × Int)), ([] : List (Int × Int))))))))))) :: [])))) (1 : Int) (0 : Int) (1 : Int) (1 : Int)) fun r3 =>
 if ((r3 == (100 : Int)) = true) then
 Option.bind (qgs k (List.take 3 ((ByteArray.mk (List.toArray (48 :: []))) :: ((ByteArray.mk (List.toArray (97 :: []))) :: ((ByteArray.mk (List.toArray (98 :: []))) :: [])))) (List.take 3 (((118 : Int), ((ByteArray.mk (List.toArray (118 :: (49 :: [])))), ((List.take 2 ((1 : Int) :: ((0 : Int) :: []))), ((0 : Int), (((0 : Int), (0 : Int)), (((1 : Int), ((List.take 1 (((1 : Int), (0 : Int)) :: [])), [])), ((ByteArray.mk (List.toArray [])), ((0 : Int), ([], []))))))))) :: (((99 : Int), ((ByteArray.mk (List.toArray (99 :: (49 :: [])))), ((List.take 2 ((2 : Int) :: ((0 : Int) :: []))), ((0 : Int), (((1 : Int), (0 : Int)), (((0 : Int), (([] : List (Int × Int)), ([] : List Int))), ((ByteArray.mk (List.toArray [])), ((0 : Int), (([] : List (Int × Int)), ([] : List (Int × Int))))))))))) :: (((108 : Int), ((ByteArray.mk (List.toArray (108 :: (49 :: [])))), ((List.take 2 ((1 : Int) :: ((0 : Int) :: []))), ((0 : Int), (((1 : Int), (0 : Int)), (((0 : Int), (([] : List (Int × Int)), ([] : List Int))), ((ByteArray.mk (List.toArray [])), ((0 : Int), (([] : List (Int × Int)), ([] : List (Int × Int))))))))))) :: [])))) (1 : Int) (0 : Int) (1 : Int) (2 : Int)) fun r4 =>
 if ((r4 == (0 : Int)) = true) then
 Option.bind (qgs k (List.take 3 ((ByteArray.mk (List.toArray (48 :: []))) :: ((ByteArray.mk (List.toArray (97 :: []))) :: ((ByteArray.mk (List.toArray (98 :: []))) :: [])))) (List.take 3 (((118 : Int), ((ByteArray.mk (List.toArray (118 :: (49 :: [])))), ((List.take 2 ((1 : Int) :: ((0 : Int) :: []))), ((0 : Int), (((0 : Int), (0 : Int)), (((1 : Int), ((List.take 1 (((1 : Int), (0 : Int)) :: [])), [])), ((ByteArray.mk (List.toArray [])), ((0 : Int), ([], []))))))))) :: (((99 : Int), ((ByteArray.mk (List.toArray (99 :: (49 :: [])))), ((List.take 2 ((2 : Int) :: ((0 : Int) :: []))), ((0 : Int), (((1 : Int), (0 : Int)), (((0 : Int), (([] : List (Int × Int)), ([] : List Int))), ((ByteArray.mk (List.toArray [])), ((0 : Int), (([] : List (Int × Int)), ([] : List (Int × Int))))))))))) :: (((108 : Int), ((ByteArray.mk (List.toArray (108 :: (49 :: [])))), ((List.take 2 ((1 : Int) :: ((0 : Int) :: []))), ((0 : Int), (((1 : Int), (0 : Int)), (((0 : Int), (([] : List (Int × Int)), ([] : List Int))), ((ByteArray.mk (List.toArray [])), ((0 : Int), (([] : List (Int × Int)), ([] : List (Int × Int))))))))))) :: [])))) (1 : Int) (0 : Int) (1 : Int) (3 : Int)) fun r5 =>
 (some (r5 == (110 : Int)))
 else
 (some false)
 else
 (some false)
 else
 (some false)
 else
 (some false)
 else
 none
 else
 (some false)
 else
 (some false)
 else
 none
 else
 (some false)
 else
 (some false)
 else
 (some false)
 else
 (some false)
def qfe : Nat → Option (Bool)
 | 0 => none
 | k + 1 => qi1 k
def qwR : Nat → Inst := mkI 13 ⟨[], []⟩ [⟨[vB], []⟩] fun k x => qfe k
theorem qyF : ∀ k, qh (call cf k) (qwR k) :=
 fnk 0 [] Tryz.func13 (fun k => (ac (qoS k) (ac (qoT k) (ac (qyE k) a0)))) (fun k => l0) ⟨rfl, rfl, ⟨rfl, Nat.le_of_ble_eq_true rfl⟩, rfl⟩ (fun _ => rfl) (by kernel_rfl) fun k x => by kernel_rfl

def qa2 (k : Nat) (rec : Int → Int → List ByteArray → List DvT → Int → Int → Int → Option (Int × List ByteArray × List DvT × Int × Int × Int)) (n : Int) (i : Int) (f0 : List ByteArray) (f1 : List DvT) (f2 : Int) (f3 : Int) (f4 : Int) : Option (Int × List ByteArray × List DvT × Int × Int × Int) :=
 if ((decide (i < (((List.length f1) : Nat) : Int))) = true) then
 if ((decide (n < (2000 : Int))) = true) then
 if ((0 : Int) ≤ i) then
 Option.bind (f1)[(Int.toNat i)]? fun x =>
 rec (IntKind.wrap .i64 (n + (IntKind.wrap .i64 ((IntKind.wrap .i64 ((IntKind.wrap .i64 ((IntKind.wrap .i64 ((IntKind.wrap .i64 ((1 : Int) + (min (2000 : Int) (((List.length x.2.2.1) : Nat) : Int)))) + (min (2000 : Int) (((List.length x.2.2.2.2.2.1.2.1) : Nat) : Int)))) + (min (2000 : Int) (((List.length x.2.2.2.2.2.1.2.2) : Nat) : Int)))) + (min (2000 : Int) (((List.length x.2.2.2.2.2.2.2.2.1) : Nat) : Int)))) + (min (2000 : Int) (((List.length x.2.2.2.2.2.2.2.2.2) : Nat) : Int)))))) (IntKind.wrap .i64 (i + (1 : Int))) f0 f1 f2 f3 f4
 else
 none
 else
 (some (n, f0, f1, f2, f3, f4))
 else
 (some (n, f0, f1, f2, f3, f4))
def qaj (k n : Nat) : Int → Int → List ByteArray → List DvT → Int → Int → Int → Option (Int × List ByteArray × List DvT × Int × Int × Int) := Nat.rec (fun _ _ _ _ _ _ _ => none) (fun _ r => qa2 k r) n
def qff (k : Nat) (f0 : List ByteArray) (f1 : List DvT) (f2 : Int) (f3 : Int) (f4 : Int) : Option (Bool) :=
 Option.bind (qaj k k (((List.length f0) : Nat) : Int) (0 : Int) f0 f1 f2 f3 f4) fun r1 =>
 (some (decide (r1.1 ≥ (2000 : Int))))
def qdI : Nat → List ByteArray → List DvT → Int → Int → Int → Option (Bool)
 | 0, _, _, _, _, _ => none
 | k + 1, f0, f1, f2, f3, f4 => qff k f0 f1 f2 f3 f4
def qwS : Nat → Inst := mkI 14 ⟨[.g [.lf (.sl .str), .lf (.sl qG), .lf (.int .i64), .lf (.int .i64), .lf (.int .i64)]], []⟩ [⟨[vB], []⟩] fun k x => qdI k x.1 x.2.1 x.2.2.1 x.2.2.2.1 x.2.2.2.2
def qwT (k : Nat) : LInst := mkL 0 [⟨[(1, .a (.ptr 0 0 0)), (3, vI), (4, vI)], [(0, some (.raw [[.lf (.sl .str), .lf (.sl qG), .lf (.int .i64), .lf (.int .i64), .lf (.int .i64)]] 5 27 true false false))], 1⟩] [⟨some 0, ⟨[(3, vI)], [(0, some (.raw [[.lf (.sl .str), .lf (.sl qG), .lf (.int .i64), .lf (.int .i64), .lf (.int .i64)]] 5 27 true false false))], 1⟩⟩] (fun n x => qaj k n x.1 x.2.1 x.2.2.1 x.2.2.2.1 x.2.2.2.2.1 x.2.2.2.2.2.1 x.2.2.2.2.2.2) k
theorem qwU (k : Nat) : LIo 14 Tryz.f14 0 k (qwT k) :=
 lpk [] a0 l0 (fun _ => rfl) (by kernel_rfl) fun n x => by kernel_rfl
theorem qyG : ∀ k, qh (call cf k) (qwS k) :=
 fnk 0 [0] Tryz.func14 (fun k => a0) (fun k => (lc (qwU k) l0)) ⟨rfl, rfl, ⟨rfl, Nat.le_of_ble_eq_true rfl⟩, rfl⟩ (fun _ => rfl) (by kernel_rfl) fun k x => by kernel_rfl

def qbS (k : Nat) (rec : Int → List ByteArray → List DvT → Int → Int → Int → Nat → Nat → Int → Int → Int → Nat → Nat → Int → Int → Int → List ByteArray → List DvT → List ByteArray → List DvT → Option (List ByteArray × List DvT × Int × Int × Int × Nat × Nat × Int × Int × Int × Nat × Nat × Int × Int × Int × List ByteArray × List DvT × List ByteArray × List DvT)) (i : Int) (f0 : List ByteArray) (f1 : List DvT) (f2 : Int) (f3 : Int) (f4 : Int) (x0 : Nat) (x1 : Nat) (x2 : Int) (x3 : Int) (x4 : Int) (out0 : Nat) (out1 : Nat) (out2 : Int) (out3 : Int) (out4 : Int) (m : List ByteArray) (m1 : List DvT) (m2 : List ByteArray) (m3 : List DvT) : Option (List ByteArray × List DvT × Int × Int × Int × Nat × Nat × Int × Int × Int × Nat × Nat × Int × Int × Int × List ByteArray × List DvT × List ByteArray × List DvT) :=
 if ((decide (i < (((List.length f1) : Nat) : Int))) = true) then
 if ((0 : Int) ≤ i) then
 Option.bind (f1)[(Int.toNat i)]? fun x =>
 if (((0 + (List.length x.2.2.1)) * 8) ≤ 140737488355328) then
 if (((0 + (List.length x.2.2.2.2.2.1.2.1)) * 16) ≤ 140737488355328) then
 if (((0 + (List.length x.2.2.2.2.2.1.2.2)) * 8) ≤ 140737488355328) then
 if (((0 + (List.length x.2.2.2.2.2.2.2.2.1)) * 16) ≤ 140737488355328) then
 if (((0 + (List.length x.2.2.2.2.2.2.2.2.2)) * 16) ≤ 140737488355328) then
 if ((0 + (0 + (List.length x.2.2.1))) ≤ (List.length ((List.take 0 []) ++ x.2.2.1))) then
 if ((0 + (0 + (List.length x.2.2.2.2.2.1.2.1))) ≤ (List.length ((List.take 0 []) ++ x.2.2.2.2.2.1.2.1))) then
 if ((0 + (0 + (List.length x.2.2.2.2.2.1.2.2))) ≤ (List.length ((List.take 0 []) ++ x.2.2.2.2.2.1.2.2))) then
 if ((0 + (0 + (List.length x.2.2.2.2.2.2.2.2.1))) ≤ (List.length ((List.take 0 []) ++ x.2.2.2.2.2.2.2.2.1))) then
 if ((0 + (0 + (List.length x.2.2.2.2.2.2.2.2.2))) ≤ (List.length ((List.take 0 []) ++ x.2.2.2.2.2.2.2.2.2))) then
 if (out1 ≤ (List.length m3)) then
 if (((out1 + (List.length (List.take 1 ((x.1, (x.2.1, ((List.take (0 + (List.length x.2.2.1)) ((List.take 0 []) ++ x.2.2.1)), (x.2.2.2.1, ((x.2.2.2.2.1.1, x.2.2.2.2.1.2), ((x.2.2.2.2.2.1.1, ((List.take (0 + (List.length x.2.2.2.2.2.1.2.1)) ((List.take 0 []) ++ x.2.2.2.2.2.1.2.1)), (List.take (0 + (List.length x.2.2.2.2.2.1.2.2)) ((List.take 0 []) ++ x.2.2.2.2.2.1.2.2)))), (x.2.2.2.2.2.2.1, (x.2.2.2.2.2.2.2.1, ((List.take (0 + (List.length x.2.2.2.2.2.2.2.2.1)) ((List.take 0 []) ++ x.2.2.2.2.2.2.2.2.1)), (List.take (0 + (List.length x.2.2.2.2.2.2.2.2.2)) ((List.take 0 []) ++ x.2.2.2.2.2.2.2.2.2))))))))))) :: [])))) * 200) ≤ 140737488355328) then
 rec (IntKind.wrap .i64 (i + (1 : Int))) f0 f1 f2 f3 f4 x0 x1 x2 x3 x4 out0 (out1 + (List.length (List.take 1 ((x.1, (x.2.1, ((List.take (0 + (List.length x.2.2.1)) ((List.take 0 []) ++ x.2.2.1)), (x.2.2.2.1, ((x.2.2.2.2.1.1, x.2.2.2.2.1.2), ((x.2.2.2.2.2.1.1, ((List.take (0 + (List.length x.2.2.2.2.2.1.2.1)) ((List.take 0 []) ++ x.2.2.2.2.2.1.2.1)), (List.take (0 + (List.length x.2.2.2.2.2.1.2.2)) ((List.take 0 []) ++ x.2.2.2.2.2.1.2.2)))), (x.2.2.2.2.2.2.1, (x.2.2.2.2.2.2.2.1, ((List.take (0 + (List.length x.2.2.2.2.2.2.2.2.1)) ((List.take 0 []) ++ x.2.2.2.2.2.2.2.2.1)), (List.take (0 + (List.length x.2.2.2.2.2.2.2.2.2)) ((List.take 0 []) ++ x.2.2.2.2.2.2.2.2.2))))))))))) :: [])))) out2 out3 out4 m m1 m2 ((List.take out1 m3) ++ (List.take 1 ((x.1, (x.2.1, ((List.take (0 + (List.length x.2.2.1)) ((List.take 0 []) ++ x.2.2.1)), (x.2.2.2.1, ((x.2.2.2.2.1.1, x.2.2.2.2.1.2), ((x.2.2.2.2.2.1.1, ((List.take (0 + (List.length x.2.2.2.2.2.1.2.1)) ((List.take 0 []) ++ x.2.2.2.2.2.1.2.1)), (List.take (0 + (List.length x.2.2.2.2.2.1.2.2)) ((List.take 0 []) ++ x.2.2.2.2.2.1.2.2)))), (x.2.2.2.2.2.2.1, (x.2.2.2.2.2.2.2.1, ((List.take (0 + (List.length x.2.2.2.2.2.2.2.2.1)) ((List.take 0 []) ++ x.2.2.2.2.2.2.2.2.1)), (List.take (0 + (List.length x.2.2.2.2.2.2.2.2.2)) ((List.take 0 []) ++ x.2.2.2.2.2.2.2.2.2))))))))))) :: [])))
 else
 none
 else
 none
 else
 none
 else
 none
 else
 none
 else
 none
 else
 none
 else
 none
 else
 none
 else
 none
 else
 none
 else
 none
 else
 none
 else
 (some (f0, f1, f2, f3, f4, x0, x1, x2, x3, x4, out0, out1, out2, out3, out4, m, m1, m2, m3))
def qbx (k n : Nat) : Int → List ByteArray → List DvT → Int → Int → Int → Nat → Nat → Int → Int → Int → Nat → Nat → Int → Int → Int → List ByteArray → List DvT → List ByteArray → List DvT → Option (List ByteArray × List DvT × Int × Int × Int × Nat × Nat × Int × Int × Int × Nat × Nat × Int × Int × Int × List ByteArray × List DvT × List ByteArray × List DvT) := Nat.rec (fun _ _ _ _ _ _ _ _ _ _ _ _ _ _ _ _ _ _ _ _ => none) (fun _ r => qbS k r) n
def qfI (k : Nat) (f0 : List ByteArray) (f1 : List DvT) (f2 : Int) (f3 : Int) (f4 : Int) : Option (Nat × Nat × Int × Int × Int × List ByteArray × List DvT) :=
 if (((0 + (List.length f0)) * 16) ≤ 140737488355328) then
 Option.bind (qbx k k (0 : Int) f0 f1 f2 f3 f4 0 0 (0 : Int) (0 : Int) (0 : Int) (0 + (List.length f0)) 0 f2 f3 f4 [] [] ((List.take 0 []) ++ f0) []) fun r2 =>
 (some (r2.2.2.2.2.2.2.2.2.2.2.1, r2.2.2.2.2.2.2.2.2.2.2.2.1, r2.2.2.2.2.2.2.2.2.2.2.2.2.1, r2.2.2.2.2.2.2.2.2.2.2.2.2.2.1, r2.2.2.2.2.2.2.2.2.2.2.2.2.2.2.1, r2.2.2.2.2.2.2.2.2.2.2.2.2.2.2.2.2.2.1, r2.2.2.2.2.2.2.2.2.2.2.2.2.2.2.2.2.2.2))
 else
 none
def qdn : Nat → List ByteArray → List DvT → Int → Int → Int → Option (Nat × Nat × Int × Int × Int × List ByteArray × List DvT)
 | 0, _, _, _, _, _ => none
 | k + 1, f0, f1, f2, f3, f4 => qfI k f0 f1 f2 f3 f4
def qwV : Nat → Inst := mkI 15 ⟨[.g [.lf (.sl .str), .lf (.sl qG), .lf (.int .i64), .lf (.int .i64), .lf (.int .i64)]], []⟩ [⟨[.g [.smz 0, .smz 1, .lf (.int .i64), .lf (.int .i64), .lf (.int .i64)]], [.arr .str 1 9 false, .arr qG 13 48 false]⟩] fun k x => qdn k x.1 x.2.1 x.2.2.1 x.2.2.2.1 x.2.2.2.2
def qwW (k : Nat) : LInst := mkL 0 [⟨[(1, .a (.ptr 0 0 0)), (2, .a (.ptr 1 0 0)), (3, .a (.ptr 2 0 0)), (4, vI)], [(0, some (.raw [[.lf (.sl .str), .lf (.sl qG), .lf (.int .i64), .lf (.int .i64), .lf (.int .i64)]] 5 27 true false false)), (1, some (.raw [[.smz 3, .smz 4, .lf (.int .i64), .lf (.int .i64), .lf (.int .i64)]] 5 27 false false false)), (2, some (.raw [[.smz 5, .smz 6, .lf (.int .i64), .lf (.int .i64), .lf (.int .i64)]] 5 27 false false false)), (3, some (.arr .str 1 9 false)), (4, some (.arr qG 13 48 false)), (5, some (.arr .str 1 9 false)), (6, some (.arr qG 13 48 false))], 7⟩] [⟨some 0, ⟨[(2, .a (.ptr 1 0 0)), (3, .a (.ptr 2 0 0))], [(0, some (.raw [[.lf (.sl .str), .lf (.sl qG), .lf (.int .i64), .lf (.int .i64), .lf (.int .i64)]] 5 27 true false false)), (1, some (.raw [[.smz 3, .smz 4, .lf (.int .i64), .lf (.int .i64), .lf (.int .i64)]] 5 27 false false false)), (2, some (.raw [[.smz 5, .smz 6, .lf (.int .i64), .lf (.int .i64), .lf (.int .i64)]] 5 27 false false false)), (3, some (.arr .str 1 9 false)), (4, some (.arr qG 13 48 false)), (5, some (.arr .str 1 9 false)), (6, some (.arr qG 13 48 false))], 7⟩⟩] (fun n x => qbx k n x.1 x.2.1 x.2.2.1 x.2.2.2.1 x.2.2.2.2.1 x.2.2.2.2.2.1 x.2.2.2.2.2.2.1 x.2.2.2.2.2.2.2.1 x.2.2.2.2.2.2.2.2.1 x.2.2.2.2.2.2.2.2.2.1 x.2.2.2.2.2.2.2.2.2.2.1 x.2.2.2.2.2.2.2.2.2.2.2.1 x.2.2.2.2.2.2.2.2.2.2.2.2.1 x.2.2.2.2.2.2.2.2.2.2.2.2.2.1 x.2.2.2.2.2.2.2.2.2.2.2.2.2.2.1 x.2.2.2.2.2.2.2.2.2.2.2.2.2.2.2.1 x.2.2.2.2.2.2.2.2.2.2.2.2.2.2.2.2.1 x.2.2.2.2.2.2.2.2.2.2.2.2.2.2.2.2.2.1 x.2.2.2.2.2.2.2.2.2.2.2.2.2.2.2.2.2.2.1 x.2.2.2.2.2.2.2.2.2.2.2.2.2.2.2.2.2.2.2) k
theorem qwX (k : Nat) : LIo 15 Tryz.f15 0 k (qwW k) :=
 lpk [] a0 l0 (fun _ => rfl) (by kernel_rfl) fun n x => by kernel_rfl
theorem qyH : ∀ k, qh (call cf k) (qwV k) :=
 fnk 0 [0] Tryz.func15 (fun k => a0) (fun k => (lc (qwX k) l0)) ⟨rfl, rfl, ⟨rfl, Nat.le_of_ble_eq_true rfl⟩, rfl⟩ (fun _ => rfl) (by kernel_rfl) fun k x => by kernel_rfl

def qbp (k : Nat) (rec : List Int → List Int → Int → Option ((Bool) ⊕ (Unit))) (a : List Int) (b : List Int) (i : Int) : Option ((Bool) ⊕ (Unit)) :=
 if ((decide (i < (((List.length a) : Nat) : Int))) = true) then
 if ((0 : Int) ≤ i) then
 Option.bind (a)[(Int.toNat i)]? fun x =>
 if ((0 : Int) ≤ i) then
 Option.bind (b)[(Int.toNat i)]? fun x1 =>
 if ((x != x1) = true) then
 (some (Sum.inl false))
 else
 rec a b (IntKind.wrap .i64 (i + (1 : Int)))
 else
 none
 else
 none
 else
 (some (Sum.inr ()))
def qay (k n : Nat) : List Int → List Int → Int → Option ((Bool) ⊕ (Unit)) := Nat.rec (fun _ _ _ => none) (fun _ r => qbp k r) n
def qfJ (k : Nat) (a : List Int) (b : List Int) : Option (Bool) :=
 if (((((List.length a) : Nat) : Int) != (((List.length b) : Nat) : Int)) = true) then
 (some false)
 else
 Option.bind (qay k k a b (0 : Int)) fun r7 =>
 qc r7
 (fun r7 =>
 (some r7))
 (fun r7 =>
 (some true))
def qb1 : Nat → List Int → List Int → Option (Bool)
 | 0, _, _ => none
 | k + 1, a, b => qfJ k a b
def qwY : Nat → Inst := mkI 20 ⟨[vJ, vJ], []⟩ [⟨[vB], []⟩] fun k x => qb1 k x.1 x.2
def qwZ (k : Nat) : LInst := mkL 0 [⟨[(0, vJ), (1, vJ), (5, vI)], [], 0⟩] [⟨none, ⟨[(4, vB)], [], 0⟩⟩, ⟨some 0, ⟨[], [], 0⟩⟩] (fun n x => qay k n x.1 x.2.1 x.2.2) k
theorem qw0 (k : Nat) : LIo 20 Tryz.f20 0 k (qwZ k) :=
 lpk [] a0 l0 (fun _ => rfl) (by kernel_rfl) fun n x => by kernel_rfl
theorem qyI : ∀ k, qh (call cf k) (qwY k) :=
 fnk 0 [0] Tryz.func20 (fun k => a0) (fun k => (lc (qw0 k) l0)) ⟨rfl, rfl, ⟨rfl, Nat.le_of_ble_eq_true rfl⟩, rfl⟩ (fun _ => rfl) (by kernel_rfl) fun k x => by kernel_rfl

def qbH (k : Nat) (rec : Int → Nat → Int → Nat → Int → Int → Nat → Int → Int → List ByteArray → List DvT → Int → Int → Int → List Int → Nat → Nat → Int → Int → Int → List Int → List ByteArray → List DvT → Option (Int × Nat × Int × Nat × Int × Int × Nat × Int × Int × List ByteArray × List DvT × Int × Int × Int × List Int × Nat × Nat × Int × Int × Int × List Int × List ByteArray × List DvT)) (mode : Int) (l : Nat) (n : Int) (m : Nat) (at1 : Int) (x : Int) (x1 : Nat) (x2 : Int) (x3 : Int) (f0 : List ByteArray) (f1 : List DvT) (f2 : Int) (f3 : Int) (f4 : Int) (ls : List Int) (g0 : Nat) (g1 : Nat) (g2 : Int) (g3 : Int) (g4 : Int) (s : List Int) (m1 : List ByteArray) (m2 : List DvT) : Option (Int × Nat × Int × Nat × Int × Int × Nat × Int × Int × List ByteArray × List DvT × Int × Int × Int × List Int × Nat × Nat × Int × Int × Int × List Int × List ByteArray × List DvT) :=
 if ((decide (at1 < ((l : Nat) : Int))) = true) then
 if (((0 : Int) ≤ at1) ∧ (at1 < ((l : Nat) : Int))) then
 Option.bind (ls)[(0 + (Int.toNat at1))]? fun x4 =>
 if ((x4 != x) = true) then
 rec mode l n m (IntKind.wrap .i64 (at1 + (1 : Int))) x x1 x2 x3 f0 f1 f2 f3 f4 ls g0 g1 g2 g3 g4 s m1 m2
 else
 (some (mode, l, n, m, at1, x, x1, x2, x3, f0, f1, f2, f3, f4, ls, g0, g1, g2, g3, g4, s, m1, m2))
 else
 none
 else
 (some (mode, l, n, m, at1, x, x1, x2, x3, f0, f1, f2, f3, f4, ls, g0, g1, g2, g3, g4, s, m1, m2))
def qaz (k n : Nat) : Int → Nat → Int → Nat → Int → Int → Nat → Int → Int → List ByteArray → List DvT → Int → Int → Int → List Int → Nat → Nat → Int → Int → Int → List Int → List ByteArray → List DvT → Option (Int × Nat × Int × Nat × Int × Int × Nat × Int × Int × List ByteArray × List DvT × Int × Int × Int × List Int × Nat × Nat × Int × Int × Int × List Int × List ByteArray × List DvT) := Nat.rec (fun _ _ _ _ _ _ _ _ _ _ _ _ _ _ _ _ _ _ _ _ _ _ _ => none) (fun _ r => qbH k r) n
def qbI (k : Nat) (rec : Int → Nat → Int → Nat → Int → Nat → Int → Int → List ByteArray → List DvT → Int → Int → Int → List Int → Nat → Nat → Int → Int → Int → List Int → List ByteArray → List DvT → Option ((Bool × List ByteArray × List DvT × Int × Int × Int × List Int × Nat × Nat × Int × Int × Int × List Int × List ByteArray × List DvT) ⊕ (Int × Nat × Nat × List ByteArray × List DvT × Int × Int × Int × List Int × Nat × Nat × Int × Int × Int × List Int × List ByteArray × List DvT))) (mode : Int) (l : Nat) (n : Int) (m : Nat) (at1 : Int) (x : Nat) (x1 : Int) (x2 : Int) (f0 : List ByteArray) (f1 : List DvT) (f2 : Int) (f3 : Int) (f4 : Int) (ls : List Int) (g0 : Nat) (g1 : Nat) (g2 : Int) (g3 : Int) (g4 : Int) (s : List Int) (m1 : List ByteArray) (m2 : List DvT) : Option ((Bool × List ByteArray × List DvT × Int × Int × Int × List Int × Nat × Nat × Int × Int × Int × List Int × List ByteArray × List DvT) ⊕ (Int × Nat × Nat × List ByteArray × List DvT × Int × Int × Int × List Int × Nat × Nat × Int × Int × Int × List Int × List ByteArray × List DvT)) :=
 if ((decide (x2 < x1)) = true) then
 if (((0 : Int) ≤ x2) ∧ (x2 < ((x : Nat) : Int))) then
 Option.bind (s)[(0 + (Int.toNat x2))]? fun x3 =>
 Option.bind (qaz k k mode l n m at1 x3 x x1 x2 f0 f1 f2 f3 f4 ls g0 g1 g2 g3 g4 s m1 m2) fun r5 =>
 if ((r5.2.2.2.2.1 == ((r5.2.1 : Nat) : Int)) = false) then
 if ((r5.2.2.2.2.2.1 == r5.2.2.1) = true) then
 (some (Sum.inl (false, r5.2.2.2.2.2.2.2.2.2.1, r5.2.2.2.2.2.2.2.2.2.2.1, r5.2.2.2.2.2.2.2.2.2.2.2.1, r5.2.2.2.2.2.2.2.2.2.2.2.2.1, r5.2.2.2.2.2.2.2.2.2.2.2.2.2.1, r5.2.2.2.2.2.2.2.2.2.2.2.2.2.2.1, r5.2.2.2.2.2.2.2.2.2.2.2.2.2.2.2.1, r5.2.2.2.2.2.2.2.2.2.2.2.2.2.2.2.2.1, r5.2.2.2.2.2.2.2.2.2.2.2.2.2.2.2.2.2.1, r5.2.2.2.2.2.2.2.2.2.2.2.2.2.2.2.2.2.2.1, r5.2.2.2.2.2.2.2.2.2.2.2.2.2.2.2.2.2.2.2.1, r5.2.2.2.2.2.2.2.2.2.2.2.2.2.2.2.2.2.2.2.2.1, r5.2.2.2.2.2.2.2.2.2.2.2.2.2.2.2.2.2.2.2.2.2.1, r5.2.2.2.2.2.2.2.2.2.2.2.2.2.2.2.2.2.2.2.2.2.2)))
 else
 rec r5.1 r5.2.1 r5.2.2.1 r5.2.2.2.1 r5.2.2.2.2.1 r5.2.2.2.2.2.2.1 r5.2.2.2.2.2.2.2.1 (IntKind.wrap .i64 (r5.2.2.2.2.2.2.2.2.1 + (1 : Int))) r5.2.2.2.2.2.2.2.2.2.1 r5.2.2.2.2.2.2.2.2.2.2.1 r5.2.2.2.2.2.2.2.2.2.2.2.1 r5.2.2.2.2.2.2.2.2.2.2.2.2.1 r5.2.2.2.2.2.2.2.2.2.2.2.2.2.1 r5.2.2.2.2.2.2.2.2.2.2.2.2.2.2.1 r5.2.2.2.2.2.2.2.2.2.2.2.2.2.2.2.1 r5.2.2.2.2.2.2.2.2.2.2.2.2.2.2.2.2.1 r5.2.2.2.2.2.2.2.2.2.2.2.2.2.2.2.2.2.1 r5.2.2.2.2.2.2.2.2.2.2.2.2.2.2.2.2.2.2.1 r5.2.2.2.2.2.2.2.2.2.2.2.2.2.2.2.2.2.2.2.1 r5.2.2.2.2.2.2.2.2.2.2.2.2.2.2.2.2.2.2.2.2.1 r5.2.2.2.2.2.2.2.2.2.2.2.2.2.2.2.2.2.2.2.2.2.1 r5.2.2.2.2.2.2.2.2.2.2.2.2.2.2.2.2.2.2.2.2.2.2
 else
 (some (Sum.inl (false, r5.2.2.2.2.2.2.2.2.2.1, r5.2.2.2.2.2.2.2.2.2.2.1, r5.2.2.2.2.2.2.2.2.2.2.2.1, r5.2.2.2.2.2.2.2.2.2.2.2.2.1, r5.2.2.2.2.2.2.2.2.2.2.2.2.2.1, r5.2.2.2.2.2.2.2.2.2.2.2.2.2.2.1, r5.2.2.2.2.2.2.2.2.2.2.2.2.2.2.2.1, r5.2.2.2.2.2.2.2.2.2.2.2.2.2.2.2.2.1, r5.2.2.2.2.2.2.2.2.2.2.2.2.2.2.2.2.2.1, r5.2.2.2.2.2.2.2.2.2.2.2.2.2.2.2.2.2.2.1, r5.2.2.2.2.2.2.2.2.2.2.2.2.2.2.2.2.2.2.2.1, r5.2.2.2.2.2.2.2.2.2.2.2.2.2.2.2.2.2.2.2.2.1, r5.2.2.2.2.2.2.2.2.2.2.2.2.2.2.2.2.2.2.2.2.2.1, r5.2.2.2.2.2.2.2.2.2.2.2.2.2.2.2.2.2.2.2.2.2.2)))
 else
 none
 else
 (some (Sum.inr (mode, l, m, f0, f1, f2, f3, f4, ls, g0, g1, g2, g3, g4, s, m1, m2)))
def qN (k n : Nat) : Int → Nat → Int → Nat → Int → Nat → Int → Int → List ByteArray → List DvT → Int → Int → Int → List Int → Nat → Nat → Int → Int → Int → List Int → List ByteArray → List DvT → Option ((Bool × List ByteArray × List DvT × Int × Int × Int × List Int × Nat × Nat × Int × Int × Int × List Int × List ByteArray × List DvT) ⊕ (Int × Nat × Nat × List ByteArray × List DvT × Int × Int × Int × List Int × Nat × Nat × Int × Int × Int × List Int × List ByteArray × List DvT)) := Nat.rec (fun _ _ _ _ _ _ _ _ _ _ _ _ _ _ _ _ _ _ _ _ _ _ => none) (fun _ r => qbI k r) n
def qea (k : Nat) (f0 : List ByteArray) (f1 : List DvT) (f2 : Int) (f3 : Int) (f4 : Int) (mode : Int) (which : Int) : Option (Bool) :=
 Option.bind (qfe k) fun r =>
 if ((!r) = true) then
 (some false)
 else
 Option.bind (qdI k f0 f1 f2 f3 f4) fun r1 =>
 if (r1 = false) then
 if ((decide ((((List.length f1) : Nat) : Int) ≥ (64 : Int))) = true) then
 (some true)
 else
 Option.bind (qax k f0 f1 f2 f3 f4 mode) fun r2 =>
 if ((r2.2.1 != (0 : Int)) = false) then
 if ((((r2.1 : Nat) : Int) == (0 : Int)) = true) then
 (some (((r2.1 : Nat) : Int) == (0 : Int)))
 else
 if ((decide (which < (0 : Int))) = true) then
 if (((r2.1 : Nat) : Int) = (0 : Int)) then
 none
 else
 if (((0 : Int) ≤ (Int.tmod (IntKind.wrap .i64 ((0 : Int) - (IntKind.wrap .i64 (which + (1 : Int))))) ((r2.1 : Nat) : Int))) ∧ ((Int.tmod (IntKind.wrap .i64 ((0 : Int) - (IntKind.wrap .i64 (which + (1 : Int))))) ((r2.1 : Nat) : Int)) < ((r2.1 : Nat) : Int))) then
 Option.bind (r2.2.2)[(0 + (Int.toNat (Int.tmod (IntKind.wrap .i64 ((0 : Int) - (IntKind.wrap .i64 (which + (1 : Int))))) ((r2.1 : Nat) : Int))))]? fun x =>
 Option.bind (qdn k f0 f1 f2 f3 f4) fun r3 =>
 if (r3.2.1 ≤ (List.length r3.2.2.2.2.2.2)) then
 if (((r3.2.1 + (List.length (List.take 1 (((114 : Int), ((ByteArray.mk (List.toArray (116 :: (104 :: (101 :: (95 :: (110 :: (101 :: (119 :: (95 :: (114 :: (101 :: (115 :: (105 :: (115 :: (116 :: (111 :: (114 :: [])))))))))))))))))), ((List.take 2 (x :: ((0 : Int) :: []))), ((0 : Int), (((1 : Int), (0 : Int)), (((0 : Int), (([] : List (Int × Int)), ([] : List Int))), ((ByteArray.mk (List.toArray [])), ((0 : Int), (([] : List (Int × Int)), ([] : List (Int × Int))))))))))) :: [])))) * 200) ≤ 140737488355328) then
 if ((0 + r3.1) ≤ (List.length r3.2.2.2.2.2.1)) then
 if ((0 + (r3.2.1 + (List.length (List.take 1 (((114 : Int), ((ByteArray.mk (List.toArray (116 :: (104 :: (101 :: (95 :: (110 :: (101 :: (119 :: (95 :: (114 :: (101 :: (115 :: (105 :: (115 :: (116 :: (111 :: (114 :: [])))))))))))))))))), ((List.take 2 (x :: ((0 : Int) :: []))), ((0 : Int), (((1 : Int), (0 : Int)), (((0 : Int), (([] : List (Int × Int)), ([] : List Int))), ((ByteArray.mk (List.toArray [])), ((0 : Int), (([] : List (Int × Int)), ([] : List (Int × Int))))))))))) :: []))))) ≤ (List.length ((List.take r3.2.1 r3.2.2.2.2.2.2) ++ (List.take 1 (((114 : Int), ((ByteArray.mk (List.toArray (116 :: (104 :: (101 :: (95 :: (110 :: (101 :: (119 :: (95 :: (114 :: (101 :: (115 :: (105 :: (115 :: (116 :: (111 :: (114 :: [])))))))))))))))))), ((List.take 2 (x :: ((0 : Int) :: []))), ((0 : Int), (((1 : Int), (0 : Int)), (((0 : Int), (([] : List (Int × Int)), ([] : List Int))), ((ByteArray.mk (List.toArray [])), ((0 : Int), (([] : List (Int × Int)), ([] : List (Int × Int))))))))))) :: []))))) then
 Option.bind (qax k (List.take r3.1 r3.2.2.2.2.2.1) (List.take (r3.2.1 + (List.length (List.take 1 (((114 : Int), ((ByteArray.mk (List.toArray (116 :: (104 :: (101 :: (95 :: (110 :: (101 :: (119 :: (95 :: (114 :: (101 :: (115 :: (105 :: (115 :: (116 :: (111 :: (114 :: [])))))))))))))))))), ((List.take 2 (x :: ((0 : Int) :: []))), ((0 : Int), (((1 : Int), (0 : Int)), (((0 : Int), (([] : List (Int × Int)), ([] : List Int))), ((ByteArray.mk (List.toArray [])), ((0 : Int), (([] : List (Int × Int)), ([] : List (Int × Int))))))))))) :: [])))) ((List.take r3.2.1 r3.2.2.2.2.2.2) ++ (List.take 1 (((114 : Int), ((ByteArray.mk (List.toArray (116 :: (104 :: (101 :: (95 :: (110 :: (101 :: (119 :: (95 :: (114 :: (101 :: (115 :: (105 :: (115 :: (116 :: (111 :: (114 :: [])))))))))))))))))), ((List.take 2 (x :: ((0 : Int) :: []))), ((0 : Int), (((1 : Int), (0 : Int)), (((0 : Int), (([] : List (Int × Int)), ([] : List Int))), ((ByteArray.mk (List.toArray [])), ((0 : Int), (([] : List (Int × Int)), ([] : List (Int × Int))))))))))) :: [])))) r3.2.2.1 r3.2.2.2.1 r3.2.2.2.2.1 mode) fun r4 =>
 if ((r4.2.1 != (0 : Int)) = true) then
 if ((0 + r3.1) ≤ (List.length r3.2.2.2.2.2.1)) then
 if ((0 + (r3.2.1 + (List.length (List.take 1 (((114 : Int), ((ByteArray.mk (List.toArray (116 :: (104 :: (101 :: (95 :: (110 :: (101 :: (119 :: (95 :: (114 :: (101 :: (115 :: (105 :: (115 :: (116 :: (111 :: (114 :: [])))))))))))))))))), ((List.take 2 (x :: ((0 : Int) :: []))), ((0 : Int), (((1 : Int), (0 : Int)), (((0 : Int), (([] : List (Int × Int)), ([] : List Int))), ((ByteArray.mk (List.toArray [])), ((0 : Int), (([] : List (Int × Int)), ([] : List (Int × Int))))))))))) :: []))))) ≤ (List.length ((List.take r3.2.1 r3.2.2.2.2.2.2) ++ (List.take 1 (((114 : Int), ((ByteArray.mk (List.toArray (116 :: (104 :: (101 :: (95 :: (110 :: (101 :: (119 :: (95 :: (114 :: (101 :: (115 :: (105 :: (115 :: (116 :: (111 :: (114 :: [])))))))))))))))))), ((List.take 2 (x :: ((0 : Int) :: []))), ((0 : Int), (((1 : Int), (0 : Int)), (((0 : Int), (([] : List (Int × Int)), ([] : List Int))), ((ByteArray.mk (List.toArray [])), ((0 : Int), (([] : List (Int × Int)), ([] : List (Int × Int))))))))))) :: []))))) then
 Option.bind (qbd k (List.take r3.1 r3.2.2.2.2.2.1) (List.take (r3.2.1 + (List.length (List.take 1 (((114 : Int), ((ByteArray.mk (List.toArray (116 :: (104 :: (101 :: (95 :: (110 :: (101 :: (119 :: (95 :: (114 :: (101 :: (115 :: (105 :: (115 :: (116 :: (111 :: (114 :: [])))))))))))))))))), ((List.take 2 (x :: ((0 : Int) :: []))), ((0 : Int), (((1 : Int), (0 : Int)), (((0 : Int), (([] : List (Int × Int)), ([] : List Int))), ((ByteArray.mk (List.toArray [])), ((0 : Int), (([] : List (Int × Int)), ([] : List (Int × Int))))))))))) :: [])))) ((List.take r3.2.1 r3.2.2.2.2.2.2) ++ (List.take 1 (((114 : Int), ((ByteArray.mk (List.toArray (116 :: (104 :: (101 :: (95 :: (110 :: (101 :: (119 :: (95 :: (114 :: (101 :: (115 :: (105 :: (115 :: (116 :: (111 :: (114 :: [])))))))))))))))))), ((List.take 2 (x :: ((0 : Int) :: []))), ((0 : Int), (((1 : Int), (0 : Int)), (((0 : Int), (([] : List (Int × Int)), ([] : List Int))), ((ByteArray.mk (List.toArray [])), ((0 : Int), (([] : List (Int × Int)), ([] : List (Int × Int))))))))))) :: [])))) r3.2.2.1 r3.2.2.2.1 r3.2.2.2.2.1) fun r5 =>
 (some (r5 != (0 : Int)))
 else
 none
 else
 none
 else
 Option.bind (qN k k mode r2.1 x r4.1 (0 : Int) r4.1 ((r4.1 : Nat) : Int) (0 : Int) f0 f1 f2 f3 f4 r2.2.2 r3.1 (r3.2.1 + (List.length (List.take 1 (((114 : Int), ((ByteArray.mk (List.toArray (116 :: (104 :: (101 :: (95 :: (110 :: (101 :: (119 :: (95 :: (114 :: (101 :: (115 :: (105 :: (115 :: (116 :: (111 :: (114 :: [])))))))))))))))))), ((List.take 2 (x :: ((0 : Int) :: []))), ((0 : Int), (((1 : Int), (0 : Int)), (((0 : Int), (([] : List (Int × Int)), ([] : List Int))), ((ByteArray.mk (List.toArray [])), ((0 : Int), (([] : List (Int × Int)), ([] : List (Int × Int))))))))))) :: [])))) r3.2.2.1 r3.2.2.2.1 r3.2.2.2.2.1 r4.2.2 r3.2.2.2.2.2.1 ((List.take r3.2.1 r3.2.2.2.2.2.2) ++ (List.take 1 (((114 : Int), ((ByteArray.mk (List.toArray (116 :: (104 :: (101 :: (95 :: (110 :: (101 :: (119 :: (95 :: (114 :: (101 :: (115 :: (105 :: (115 :: (116 :: (111 :: (114 :: [])))))))))))))))))), ((List.take 2 (x :: ((0 : Int) :: []))), ((0 : Int), (((1 : Int), (0 : Int)), (((0 : Int), (([] : List (Int × Int)), ([] : List Int))), ((ByteArray.mk (List.toArray [])), ((0 : Int), (([] : List (Int × Int)), ([] : List (Int × Int))))))))))) :: [])))) fun r5 =>
 qc r5
 (fun r5 =>
 (some r5.1))
 (fun r5 =>
 Option.bind (qak k r5.2.2.2.1 r5.2.2.2.2.1 r5.2.2.2.2.2.1 r5.2.2.2.2.2.2.1 r5.2.2.2.2.2.2.2.1 r5.1) fun r6 =>
 if ((0 + r5.2.2.2.2.2.2.2.2.2.1) ≤ (List.length r5.2.2.2.2.2.2.2.2.2.2.2.2.2.2.2.1)) then
 if ((0 + r5.2.2.2.2.2.2.2.2.2.2.1) ≤ (List.length r5.2.2.2.2.2.2.2.2.2.2.2.2.2.2.2.2)) then
 Option.bind (qak k (List.take r5.2.2.2.2.2.2.2.2.2.1 r5.2.2.2.2.2.2.2.2.2.2.2.2.2.2.2.1) (List.take r5.2.2.2.2.2.2.2.2.2.2.1 r5.2.2.2.2.2.2.2.2.2.2.2.2.2.2.2.2) r5.2.2.2.2.2.2.2.2.2.2.2.1 r5.2.2.2.2.2.2.2.2.2.2.2.2.1 r5.2.2.2.2.2.2.2.2.2.2.2.2.2.1 r5.1) fun r7 =>
 if ((decide (((r5.2.2.1 : Nat) : Int) < ((r5.2.1 : Nat) : Int))) = true) then
 if ((r6.2.1 == (0 : Int)) = true) then
 if ((r7.2.1 == (0 : Int)) = true) then
 if ((0 + r6.1) ≤ (List.length r6.2.2)) then
 if ((0 + r7.1) ≤ (List.length r7.2.2)) then
 Option.bind (qb1 k (List.take r6.1 r6.2.2) (List.take r7.1 r7.2.2)) fun r8 =>
 (some r8)
 else
 none
 else
 none
 else
 (some false)
 else
 (some false)
 else
 (some false)
 else
 none
 else
 none)
 else
 none
 else
 none
 else
 none
 else
 none
 else
 none
 else
 if (((r2.1 : Nat) : Int) = (0 : Int)) then
 none
 else
 if (((0 : Int) ≤ (Int.tmod which ((r2.1 : Nat) : Int))) ∧ ((Int.tmod which ((r2.1 : Nat) : Int)) < ((r2.1 : Nat) : Int))) then
 Option.bind (r2.2.2)[(0 + (Int.toNat (Int.tmod which ((r2.1 : Nat) : Int))))]? fun x =>
 Option.bind (qdn k f0 f1 f2 f3 f4) fun r3 =>
 if (r3.2.1 ≤ (List.length r3.2.2.2.2.2.2)) then
 if (((r3.2.1 + (List.length (List.take 1 (((114 : Int), ((ByteArray.mk (List.toArray (116 :: (104 :: (101 :: (95 :: (110 :: (101 :: (119 :: (95 :: (114 :: (101 :: (115 :: (105 :: (115 :: (116 :: (111 :: (114 :: [])))))))))))))))))), ((List.take 2 (x :: ((0 : Int) :: []))), ((0 : Int), (((1 : Int), (0 : Int)), (((0 : Int), (([] : List (Int × Int)), ([] : List Int))), ((ByteArray.mk (List.toArray [])), ((0 : Int), (([] : List (Int × Int)), ([] : List (Int × Int))))))))))) :: [])))) * 200) ≤ 140737488355328) then
 if ((0 + r3.1) ≤ (List.length r3.2.2.2.2.2.1)) then
 if ((0 + (r3.2.1 + (List.length (List.take 1 (((114 : Int), ((ByteArray.mk (List.toArray (116 :: (104 :: (101 :: (95 :: (110 :: (101 :: (119 :: (95 :: (114 :: (101 :: (115 :: (105 :: (115 :: (116 :: (111 :: (114 :: [])))))))))))))))))), ((List.take 2 (x :: ((0 : Int) :: []))), ((0 : Int), (((1 : Int), (0 : Int)), (((0 : Int), (([] : List (Int × Int)), ([] : List Int))), ((ByteArray.mk (List.toArray [])), ((0 : Int), (([] : List (Int × Int)), ([] : List (Int × Int))))))))))) :: []))))) ≤ (List.length ((List.take r3.2.1 r3.2.2.2.2.2.2) ++ (List.take 1 (((114 : Int), ((ByteArray.mk (List.toArray (116 :: (104 :: (101 :: (95 :: (110 :: (101 :: (119 :: (95 :: (114 :: (101 :: (115 :: (105 :: (115 :: (116 :: (111 :: (114 :: [])))))))))))))))))), ((List.take 2 (x :: ((0 : Int) :: []))), ((0 : Int), (((1 : Int), (0 : Int)), (((0 : Int), (([] : List (Int × Int)), ([] : List Int))), ((ByteArray.mk (List.toArray [])), ((0 : Int), (([] : List (Int × Int)), ([] : List (Int × Int))))))))))) :: []))))) then
 Option.bind (qax k (List.take r3.1 r3.2.2.2.2.2.1) (List.take (r3.2.1 + (List.length (List.take 1 (((114 : Int), ((ByteArray.mk (List.toArray (116 :: (104 :: (101 :: (95 :: (110 :: (101 :: (119 :: (95 :: (114 :: (101 :: (115 :: (105 :: (115 :: (116 :: (111 :: (114 :: [])))))))))))))))))), ((List.take 2 (x :: ((0 : Int) :: []))), ((0 : Int), (((1 : Int), (0 : Int)), (((0 : Int), (([] : List (Int × Int)), ([] : List Int))), ((ByteArray.mk (List.toArray [])), ((0 : Int), (([] : List (Int × Int)), ([] : List (Int × Int))))))))))) :: [])))) ((List.take r3.2.1 r3.2.2.2.2.2.2) ++ (List.take 1 (((114 : Int), ((ByteArray.mk (List.toArray (116 :: (104 :: (101 :: (95 :: (110 :: (101 :: (119 :: (95 :: (114 :: (101 :: (115 :: (105 :: (115 :: (116 :: (111 :: (114 :: [])))))))))))))))))), ((List.take 2 (x :: ((0 : Int) :: []))), ((0 : Int), (((1 : Int), (0 : Int)), (((0 : Int), (([] : List (Int × Int)), ([] : List Int))), ((ByteArray.mk (List.toArray [])), ((0 : Int), (([] : List (Int × Int)), ([] : List (Int × Int))))))))))) :: [])))) r3.2.2.1 r3.2.2.2.1 r3.2.2.2.2.1 mode) fun r4 =>
 if ((r4.2.1 != (0 : Int)) = true) then
 if ((0 + r3.1) ≤ (List.length r3.2.2.2.2.2.1)) then
 if ((0 + (r3.2.1 + (List.length (List.take 1 (((114 : Int), ((ByteArray.mk (List.toArray (116 :: (104 :: (101 :: (95 :: (110 :: (101 :: (119 :: (95 :: (114 :: (101 :: (115 :: (105 :: (115 :: (116 :: (111 :: (114 :: [])))))))))))))))))), ((List.take 2 (x :: ((0 : Int) :: []))), ((0 : Int), (((1 : Int), (0 : Int)), (((0 : Int), (([] : List (Int × Int)), ([] : List Int))), ((ByteArray.mk (List.toArray [])), ((0 : Int), (([] : List (Int × Int)), ([] : List (Int × Int))))))))))) :: []))))) ≤ (List.length ((List.take r3.2.1 r3.2.2.2.2.2.2) ++ (List.take 1 (((114 : Int), ((ByteArray.mk (List.toArray (116 :: (104 :: (101 :: (95 :: (110 :: (101 :: (119 :: (95 :: (114 :: (101 :: (115 :: (105 :: (115 :: (116 :: (111 :: (114 :: [])))))))))))))))))), ((List.take 2 (x :: ((0 : Int) :: []))), ((0 : Int), (((1 : Int), (0 : Int)), (((0 : Int), (([] : List (Int × Int)), ([] : List Int))), ((ByteArray.mk (List.toArray [])), ((0 : Int), (([] : List (Int × Int)), ([] : List (Int × Int))))))))))) :: []))))) then
 Option.bind (qbd k (List.take r3.1 r3.2.2.2.2.2.1) (List.take (r3.2.1 + (List.length (List.take 1 (((114 : Int), ((ByteArray.mk (List.toArray (116 :: (104 :: (101 :: (95 :: (110 :: (101 :: (119 :: (95 :: (114 :: (101 :: (115 :: (105 :: (115 :: (116 :: (111 :: (114 :: [])))))))))))))))))), ((List.take 2 (x :: ((0 : Int) :: []))), ((0 : Int), (((1 : Int), (0 : Int)), (((0 : Int), (([] : List (Int × Int)), ([] : List Int))), ((ByteArray.mk (List.toArray [])), ((0 : Int), (([] : List (Int × Int)), ([] : List (Int × Int))))))))))) :: [])))) ((List.take r3.2.1 r3.2.2.2.2.2.2) ++ (List.take 1 (((114 : Int), ((ByteArray.mk (List.toArray (116 :: (104 :: (101 :: (95 :: (110 :: (101 :: (119 :: (95 :: (114 :: (101 :: (115 :: (105 :: (115 :: (116 :: (111 :: (114 :: [])))))))))))))))))), ((List.take 2 (x :: ((0 : Int) :: []))), ((0 : Int), (((1 : Int), (0 : Int)), (((0 : Int), (([] : List (Int × Int)), ([] : List Int))), ((ByteArray.mk (List.toArray [])), ((0 : Int), (([] : List (Int × Int)), ([] : List (Int × Int))))))))))) :: [])))) r3.2.2.1 r3.2.2.2.1 r3.2.2.2.2.1) fun r5 =>
 (some (r5 != (0 : Int)))
 else
 none
 else
 none
 else
 Option.bind (qN k k mode r2.1 x r4.1 (0 : Int) r4.1 ((r4.1 : Nat) : Int) (0 : Int) f0 f1 f2 f3 f4 r2.2.2 r3.1 (r3.2.1 + (List.length (List.take 1 (((114 : Int), ((ByteArray.mk (List.toArray (116 :: (104 :: (101 :: (95 :: (110 :: (101 :: (119 :: (95 :: (114 :: (101 :: (115 :: (105 :: (115 :: (116 :: (111 :: (114 :: [])))))))))))))))))), ((List.take 2 (x :: ((0 : Int) :: []))), ((0 : Int), (((1 : Int), (0 : Int)), (((0 : Int), (([] : List (Int × Int)), ([] : List Int))), ((ByteArray.mk (List.toArray [])), ((0 : Int), (([] : List (Int × Int)), ([] : List (Int × Int))))))))))) :: [])))) r3.2.2.1 r3.2.2.2.1 r3.2.2.2.2.1 r4.2.2 r3.2.2.2.2.2.1 ((List.take r3.2.1 r3.2.2.2.2.2.2) ++ (List.take 1 (((114 : Int), ((ByteArray.mk (List.toArray (116 :: (104 :: (101 :: (95 :: (110 :: (101 :: (119 :: (95 :: (114 :: (101 :: (115 :: (105 :: (115 :: (116 :: (111 :: (114 :: [])))))))))))))))))), ((List.take 2 (x :: ((0 : Int) :: []))), ((0 : Int), (((1 : Int), (0 : Int)), (((0 : Int), (([] : List (Int × Int)), ([] : List Int))), ((ByteArray.mk (List.toArray [])), ((0 : Int), (([] : List (Int × Int)), ([] : List (Int × Int))))))))))) :: [])))) fun r5 =>
 qc r5
 (fun r5 =>
 (some r5.1))
 (fun r5 =>
 Option.bind (qak k r5.2.2.2.1 r5.2.2.2.2.1 r5.2.2.2.2.2.1 r5.2.2.2.2.2.2.1 r5.2.2.2.2.2.2.2.1 r5.1) fun r6 =>
 if ((0 + r5.2.2.2.2.2.2.2.2.2.1) ≤ (List.length r5.2.2.2.2.2.2.2.2.2.2.2.2.2.2.2.1)) then
 if ((0 + r5.2.2.2.2.2.2.2.2.2.2.1) ≤ (List.length r5.2.2.2.2.2.2.2.2.2.2.2.2.2.2.2.2)) then
 Option.bind (qak k (List.take r5.2.2.2.2.2.2.2.2.2.1 r5.2.2.2.2.2.2.2.2.2.2.2.2.2.2.2.1) (List.take r5.2.2.2.2.2.2.2.2.2.2.1 r5.2.2.2.2.2.2.2.2.2.2.2.2.2.2.2.2) r5.2.2.2.2.2.2.2.2.2.2.2.1 r5.2.2.2.2.2.2.2.2.2.2.2.2.1 r5.2.2.2.2.2.2.2.2.2.2.2.2.2.1 r5.1) fun r7 =>
 if ((decide (((r5.2.2.1 : Nat) : Int) < ((r5.2.1 : Nat) : Int))) = true) then
 if ((r6.2.1 == (0 : Int)) = true) then
 if ((r7.2.1 == (0 : Int)) = true) then
 if ((0 + r6.1) ≤ (List.length r6.2.2)) then
 if ((0 + r7.1) ≤ (List.length r7.2.2)) then
 Option.bind (qb1 k (List.take r6.1 r6.2.2) (List.take r7.1 r7.2.2)) fun r8 =>
 (some r8)
 else
 none
 else
 none
 else
 (some false)
 else
 (some false)
 else
 (some false)
 else
 none
 else
 none)
 else
 none
 else
 none
 else
 none
 else
 none
 else
 none
 else
 (some (((r2.1 : Nat) : Int) == (0 : Int)))
 else
 (some true)
def qc5 : Nat → List ByteArray → List DvT → Int → Int → Int → Int → Int → Option (Bool)
 | 0, _, _, _, _, _, _, _ => none
 | k + 1, f0, f1, f2, f3, f4, mode, which => qea k f0 f1 f2 f3 f4 mode which
def qzu : Nat → Inst := mkI 4 ⟨[.g [.lf (.sl .str), .lf (.sl qG), .lf (.int .i64), .lf (.int .i64), .lf (.int .i64)], vI, vI], []⟩ [⟨[vB], []⟩] fun k x => qc5 k x.1 x.2.1 x.2.2.1 x.2.2.2.1 x.2.2.2.2.1 x.2.2.2.2.2.1 x.2.2.2.2.2.2
theorem qoU (k : Nat) : qa5 (call cf k) [qwR k, qwS k, qwK k, qwV k, qwE k, qwO k, qwY k] :=
 ac (qyF k) (ac (qyG k) (ac (qoS k) (ac (qyH k) (ac (qyD k) (ac (qoT k) (ac (qyI k) a0))))))
def qqd : SS := ⟨[(1, vI), (3, .a (.ptr 0 0 0)), (7, .a (.smz 1)), (9, vI), (10, .a (.ptr 2 0 0)), (11, .a (.smz 3)), (13, vI), (15, vI), (80, .a (.smz 3)), (81, vI), (82, vI)], [(0, some (.raw [[.lf (.sl .str), .lf (.sl qG), .lf (.int .i64), .lf (.int .i64), .lf (.int .i64)]] 5 27 true false false)), (1, some (.arr (.int .i64) 1 3 false)), (2, some (.raw [[.smz 4, .smz 5, .lf (.int .i64), .lf (.int .i64), .lf (.int .i64)]] 5 27 false false false)), (3, some (.arr (.int .i64) 1 3 false)), (4, some (.arr .str 1 9 true)), (5, some (.arr qG 13 48 true))], 6⟩
def qw1 (k : Nat) : LInst := mkL 2 [qqd] [⟨some 2, qqd⟩] (fun n x => qaz k n x.1 x.2.1 x.2.2.1 x.2.2.2.1 x.2.2.2.2.1 x.2.2.2.2.2.1 x.2.2.2.2.2.2.1 x.2.2.2.2.2.2.2.1 x.2.2.2.2.2.2.2.2.1 x.2.2.2.2.2.2.2.2.2.1 x.2.2.2.2.2.2.2.2.2.2.1 x.2.2.2.2.2.2.2.2.2.2.2.1 x.2.2.2.2.2.2.2.2.2.2.2.2.1 x.2.2.2.2.2.2.2.2.2.2.2.2.2.1 x.2.2.2.2.2.2.2.2.2.2.2.2.2.2.1 x.2.2.2.2.2.2.2.2.2.2.2.2.2.2.2.1 x.2.2.2.2.2.2.2.2.2.2.2.2.2.2.2.2.1 x.2.2.2.2.2.2.2.2.2.2.2.2.2.2.2.2.2.1 x.2.2.2.2.2.2.2.2.2.2.2.2.2.2.2.2.2.2.1 x.2.2.2.2.2.2.2.2.2.2.2.2.2.2.2.2.2.2.2.1 x.2.2.2.2.2.2.2.2.2.2.2.2.2.2.2.2.2.2.2.2.1 x.2.2.2.2.2.2.2.2.2.2.2.2.2.2.2.2.2.2.2.2.2.1 x.2.2.2.2.2.2.2.2.2.2.2.2.2.2.2.2.2.2.2.2.2.2) k
theorem qqe (k : Nat) : LIo 4 Tryz.f4 0 k (qw1 k) :=
 lpk [] (qoU k) l0 (fun _ => rfl) (by kernel_rfl) fun n x => by kernel_rfl
def qw2 (k : Nat) : LInst := mkL 0 [⟨[(1, vI), (3, .a (.ptr 0 0 0)), (7, .a (.smz 1)), (9, vI), (10, .a (.ptr 2 0 0)), (11, .a (.smz 3)), (13, vI), (80, .a (.smz 3)), (81, vI), (82, vI)], [(0, some (.raw [[.lf (.sl .str), .lf (.sl qG), .lf (.int .i64), .lf (.int .i64), .lf (.int .i64)]] 5 27 true false false)), (1, some (.arr (.int .i64) 1 3 false)), (2, some (.raw [[.smz 4, .smz 5, .lf (.int .i64), .lf (.int .i64), .lf (.int .i64)]] 5 27 false false false)), (3, some (.arr (.int .i64) 1 3 false)), (4, some (.arr .str 1 9 true)), (5, some (.arr qG 13 48 true))], 6⟩] [⟨none, ⟨[(6, vB)], [(0, some (.raw [[.lf (.sl .str), .lf (.sl qG), .lf (.int .i64), .lf (.int .i64), .lf (.int .i64)]] 5 27 true false false)), (1, some (.arr (.int .i64) 1 3 false)), (2, some (.raw [[.smz 4, .smz 5, .lf (.int .i64), .lf (.int .i64), .lf (.int .i64)]] 5 27 false false false)), (3, some (.arr (.int .i64) 1 3 false)), (4, some (.arr .str 1 9 true)), (5, some (.arr qG 13 48 true))], 6⟩⟩, ⟨some 0, ⟨[(1, vI), (3, .a (.ptr 0 0 0)), (7, .a (.smz 1)), (10, .a (.ptr 2 0 0)), (11, .a (.smz 3))], [(0, some (.raw [[.lf (.sl .str), .lf (.sl qG), .lf (.int .i64), .lf (.int .i64), .lf (.int .i64)]] 5 27 true false false)), (1, some (.arr (.int .i64) 1 3 false)), (2, some (.raw [[.smz 4, .smz 5, .lf (.int .i64), .lf (.int .i64), .lf (.int .i64)]] 5 27 false false false)), (3, some (.arr (.int .i64) 1 3 false)), (4, some (.arr .str 1 9 true)), (5, some (.arr qG 13 48 true))], 6⟩⟩] (fun n x => qN k n x.1 x.2.1 x.2.2.1 x.2.2.2.1 x.2.2.2.2.1 x.2.2.2.2.2.1 x.2.2.2.2.2.2.1 x.2.2.2.2.2.2.2.1 x.2.2.2.2.2.2.2.2.1 x.2.2.2.2.2.2.2.2.2.1 x.2.2.2.2.2.2.2.2.2.2.1 x.2.2.2.2.2.2.2.2.2.2.2.1 x.2.2.2.2.2.2.2.2.2.2.2.2.1 x.2.2.2.2.2.2.2.2.2.2.2.2.2.1 x.2.2.2.2.2.2.2.2.2.2.2.2.2.2.1 x.2.2.2.2.2.2.2.2.2.2.2.2.2.2.2.1 x.2.2.2.2.2.2.2.2.2.2.2.2.2.2.2.2.1 x.2.2.2.2.2.2.2.2.2.2.2.2.2.2.2.2.2.1 x.2.2.2.2.2.2.2.2.2.2.2.2.2.2.2.2.2.2.1 x.2.2.2.2.2.2.2.2.2.2.2.2.2.2.2.2.2.2.2.1 x.2.2.2.2.2.2.2.2.2.2.2.2.2.2.2.2.2.2.2.2.1 x.2.2.2.2.2.2.2.2.2.2.2.2.2.2.2.2.2.2.2.2.2) k
theorem qw3 (k : Nat) : LIo 4 Tryz.f4 0 k (qw2 k) :=
 lpk [2] (qoU k) (lc (qqe k) l0) (fun _ => rfl) (by kernel_rfl) fun n x => by kernel_rfl
theorem qyJ : ∀ k, qh (call cf k) (qzu k) :=
 fnk 0 [0] Tryz.func4 (fun k => (qoU k)) (fun k => (lc (qqe k) (lc (qw3 k) l0))) ⟨rfl, rfl, ⟨rfl, Nat.le_of_ble_eq_true rfl⟩, rfl⟩ (fun _ => rfl) (by kernel_rfl) fun k x => by kernel_rfl


end
end Go.Proofs.YtlnailgfialgnaaGreatDoor.Am
