/- Printed functions: each says what the typed machine says of the program -/
import Derived.Test.YtlnailgfialgnaaGreatDoorMP1
import Derived.KernelRfl

set_option linter.unusedVariables false
set_option maxRecDepth 100000
namespace Go.Proofs.YtlnailgfialgnaaGreatDoor.Am
open Go
noncomputable section

def qaX (k:Nat) (rec:Int→Bool→Bool→Bool→Bool→Int→List ByteArray→List DvT→Int→Int→Int→Int→ByteArray→List Int→Int→Int→Int→Int→List (Int×Int)→List Int→ByteArray→Int→List (Int×Int)→List (Int×Int)→Option ((Bool×List ByteArray×List DvT×Int×Int×Int×Int×ByteArray×List Int×Int×Int×Int×Int×List (Int×Int)×List Int×ByteArray×Int×List (Int×Int)×List (Int×Int)) ⊕ (Bool×Bool×Bool×Bool×List ByteArray×List DvT×Int×Int×Int×Int×ByteArray×List Int×Int×Int×Int×Int×List (Int×Int)×List Int×ByteArray×Int×List (Int×Int)×List (Int×Int)))) (nodes:Int) (ref:Bool) (value:Bool) (source:Bool) (modelled:Bool) (i:Int) (f0:List ByteArray) (f1:List DvT) (f2:Int) (f3:Int) (f4:Int) (d0:Int) (d1:ByteArray) (d2:List Int) (d3:Int) (d4:Int) (d5:Int) (d6:Int) (d7:List (Int×Int)) (d8:List Int) (d9:ByteArray) (d10:Int) (d11:List (Int×Int)) (d12:List (Int×Int)):Option ((Bool×List ByteArray×List DvT×Int×Int×Int×Int×ByteArray×List Int×Int×Int×Int×Int×List (Int×Int)×List Int×ByteArray×Int×List (Int×Int)×List (Int×Int)) ⊕ (Bool×Bool×Bool×Bool×List ByteArray×List DvT×Int×Int×Int×Int×ByteArray×List Int×Int×Int×Int×Int×List (Int×Int)×List Int×ByteArray×Int×List (Int×Int)×List (Int×Int))):=
 if((decide (i<nodes))=true)then
 if((0:Int)≤i)then
 Option.bind (d2)[(Int.toNat i)]? fun x2=>
 if((decide (x2<(0:Int)))=false)then
 if((0:Int)≤i)then
 Option.bind (d2)[(Int.toNat i)]? fun x3=>
 if((decide (x3≥(((List.length f0):Nat):Int)))=true)then
 (some (Sum.inl (false,f0,f1,f2,f3,f4,d0,d1,d2,d3,d4,d5,d6,d7,d8,d9,d10,d11,d12)))
 else
 rec nodes ref value source modelled (IntKind.wrap .i64 (i+(1:Int))) f0 f1 f2 f3 f4 d0 d1 d2 d3 d4 d5 d6 d7 d8 d9 d10 d11 d12
 else
 none
 else
 (some (Sum.inl (false,f0,f1,f2,f3,f4,d0,d1,d2,d3,d4,d5,d6,d7,d8,d9,d10,d11,d12)))
 else
 none
 else
 (some (Sum.inr (ref,value,source,modelled,f0,f1,f2,f3,f4,d0,d1,d2,d3,d4,d5,d6,d7,d8,d9,d10,d11,d12)))
def qq (k n:Nat):Int→Bool→Bool→Bool→Bool→Int→List ByteArray→List DvT→Int→Int→Int→Int→ByteArray→List Int→Int→Int→Int→Int→List (Int×Int)→List Int→ByteArray→Int→List (Int×Int)→List (Int×Int)→Option ((Bool×List ByteArray×List DvT×Int×Int×Int×Int×ByteArray×List Int×Int×Int×Int×Int×List (Int×Int)×List Int×ByteArray×Int×List (Int×Int)×List (Int×Int)) ⊕ (Bool×Bool×Bool×Bool×List ByteArray×List DvT×Int×Int×Int×Int×ByteArray×List Int×Int×Int×Int×Int×List (Int×Int)×List Int×ByteArray×Int×List (Int×Int)×List (Int×Int))):=Nat.rec (fun _ _ _ _ _ _ _ _ _ _ _ _ _ _ _ _ _ _ _ _ _ _ _ _=>none) (fun _ r=>qaX k r) n
def qf (k:Nat) (r5:Bool×Bool×Bool×Bool×List ByteArray×List DvT×Int×Int×Int×Int×ByteArray×List Int×Int×Int×Int×Int×List (Int×Int)×List Int×ByteArray×Int×List (Int×Int)×List (Int×Int)):Option (Bool):=
 if(r5.1=true)then
 if((decide (r5.2.2.2.2.2.2.2.2.2.2.2.2.1<(0:Int)))=false)then
 if((decide (r5.2.2.2.2.2.2.2.2.2.2.2.2.1≥(((List.length r5.2.2.2.2.2.1):Nat):Int)))=false)then
 if((0:Int)≤r5.2.2.2.2.2.2.2.2.2.2.2.2.1)then
 Option.bind (r5.2.2.2.2.2.1)[(Int.toNat r5.2.2.2.2.2.2.2.2.2.2.2.2.1)]? fun x2=>
 if((x2.1 != (118:Int))=true)then
 (some false)
 else
 if(r5.2.1=true)then
 Option.bind (qaD k r5.2.2.2.2.2.2.2.2.2.2.2.2.2.1 r5.2.2.2.2.2.2.2.2.2.2.2.2.2.2.1) fun r6=>
 if((!r6)=false)then
 if((!r5.2.1)=true)then
 if((r5.2.2.2.2.2.2.2.2.2.2.2.2.2.1 == (0:Int))=true)then
 if((r5.2.2.2.2.2.2.2.2.2.2.2.2.2.2.1 == (0:Int))=true)then
 if(r5.2.2.1=true)then
 Option.bind (qX k r5.2.2.2.2.2.2.2.2.2.2.2.2.2.2.2.1 r5.2.2.2.2.2.2.2.2.2.2.2.2.2.2.2.2.1 r5.2.2.2.2.2.2.2.2.2.2.2.2.2.2.2.2.2.1) fun r7=>
 if((!r7)=false)then
 if((!r5.2.2.1)=true)then
 Option.bind (qv k r5.2.2.2.2.2.2.2.2.2.2.2.2.2.2.2.1 r5.2.2.2.2.2.2.2.2.2.2.2.2.2.2.2.2.1 r5.2.2.2.2.2.2.2.2.2.2.2.2.2.2.2.2.2.1 (0:Int) [] []) fun r8=>
 if((!r8)=true)then
 (some false)
 else
 if(r5.2.2.2.1=true)then
 Option.bind (qh k r5.2.2.2.2.2.2.2.2.2.2.2.2.2.2.2.2.2.2.1 r5.2.2.2.2.2.2.2.2.2.2.2.2.2.2.2.2.2.2.2.1 r5.2.2.2.2.2.2.2.2.2.2.2.2.2.2.2.2.2.2.2.2.1 r5.2.2.2.2.2.2.2.2.2.2.2.2.2.2.2.2.2.2.2.2.2) fun r9=>
 if(r9=true)then
 (some (r5.2.2.2.2.2.2.2.2.2.2.2.2.2.2.2.2.2.2.2.1 == r5.2.2.2.2.2.2.2.2.2.1))
 else
 (some false)
 else
 Option.bind (qj k r5.2.2.2.2.2.2.2.2.2.2.2.2.2.2.2.2.2.2.1 r5.2.2.2.2.2.2.2.2.2.2.2.2.2.2.2.2.2.2.2.1 r5.2.2.2.2.2.2.2.2.2.2.2.2.2.2.2.2.2.2.2.2.1 r5.2.2.2.2.2.2.2.2.2.2.2.2.2.2.2.2.2.2.2.2.2 (ByteArray.mk (List.toArray [])) (0:Int) [] []) fun r9=>
 (some r9)
 else
 if(r5.2.2.2.1=true)then
 Option.bind (qh k r5.2.2.2.2.2.2.2.2.2.2.2.2.2.2.2.2.2.2.1 r5.2.2.2.2.2.2.2.2.2.2.2.2.2.2.2.2.2.2.2.1 r5.2.2.2.2.2.2.2.2.2.2.2.2.2.2.2.2.2.2.2.2.1 r5.2.2.2.2.2.2.2.2.2.2.2.2.2.2.2.2.2.2.2.2.2) fun r8=>
 if(r8=true)then
 (some (r5.2.2.2.2.2.2.2.2.2.2.2.2.2.2.2.2.2.2.2.1 == r5.2.2.2.2.2.2.2.2.2.1))
 else
 (some false)
 else
 Option.bind (qj k r5.2.2.2.2.2.2.2.2.2.2.2.2.2.2.2.2.2.2.1 r5.2.2.2.2.2.2.2.2.2.2.2.2.2.2.2.2.2.2.2.1 r5.2.2.2.2.2.2.2.2.2.2.2.2.2.2.2.2.2.2.2.2.1 r5.2.2.2.2.2.2.2.2.2.2.2.2.2.2.2.2.2.2.2.2.2 (ByteArray.mk (List.toArray [])) (0:Int) [] []) fun r8=>
 (some r8)
 else
 (some false)
 else
 if((!r5.2.2.1)=true)then
 Option.bind (qv k r5.2.2.2.2.2.2.2.2.2.2.2.2.2.2.2.1 r5.2.2.2.2.2.2.2.2.2.2.2.2.2.2.2.2.1 r5.2.2.2.2.2.2.2.2.2.2.2.2.2.2.2.2.2.1 (0:Int) [] []) fun r7=>
 if((!r7)=true)then
 (some false)
 else
 if(r5.2.2.2.1=true)then
 Option.bind (qh k r5.2.2.2.2.2.2.2.2.2.2.2.2.2.2.2.2.2.2.1 r5.2.2.2.2.2.2.2.2.2.2.2.2.2.2.2.2.2.2.2.1 r5.2.2.2.2.2.2.2.2.2.2.2.2.2.2.2.2.2.2.2.2.1 r5.2.2.2.2.2.2.2.2.2.2.2.2.2.2.2.2.2.2.2.2.2) fun r8=>
 if(r8=true)then
 (some (r5.2.2.2.2.2.2.2.2.2.2.2.2.2.2.2.2.2.2.2.1 == r5.2.2.2.2.2.2.2.2.2.1))
 else
 (some false)
 else
 Option.bind (qj k r5.2.2.2.2.2.2.2.2.2.2.2.2.2.2.2.2.2.2.1 r5.2.2.2.2.2.2.2.2.2.2.2.2.2.2.2.2.2.2.2.1 r5.2.2.2.2.2.2.2.2.2.2.2.2.2.2.2.2.2.2.2.2.1 r5.2.2.2.2.2.2.2.2.2.2.2.2.2.2.2.2.2.2.2.2.2 (ByteArray.mk (List.toArray [])) (0:Int) [] []) fun r8=>
 (some r8)
 else
 if(r5.2.2.2.1=true)then
 Option.bind (qh k r5.2.2.2.2.2.2.2.2.2.2.2.2.2.2.2.2.2.2.1 r5.2.2.2.2.2.2.2.2.2.2.2.2.2.2.2.2.2.2.2.1 r5.2.2.2.2.2.2.2.2.2.2.2.2.2.2.2.2.2.2.2.2.1 r5.2.2.2.2.2.2.2.2.2.2.2.2.2.2.2.2.2.2.2.2.2) fun r7=>
 if(r7=true)then
 (some (r5.2.2.2.2.2.2.2.2.2.2.2.2.2.2.2.2.2.2.2.1 == r5.2.2.2.2.2.2.2.2.2.1))
 else
 (some false)
 else
 Option.bind (qj k r5.2.2.2.2.2.2.2.2.2.2.2.2.2.2.2.2.2.2.1 r5.2.2.2.2.2.2.2.2.2.2.2.2.2.2.2.2.2.2.2.1 r5.2.2.2.2.2.2.2.2.2.2.2.2.2.2.2.2.2.2.2.2.1 r5.2.2.2.2.2.2.2.2.2.2.2.2.2.2.2.2.2.2.2.2.2 (ByteArray.mk (List.toArray [])) (0:Int) [] []) fun r7=>
 (some r7)
 else
 (some false)
 else
 (some false)
 else
 if(r5.2.2.1=true)then
 Option.bind (qX k r5.2.2.2.2.2.2.2.2.2.2.2.2.2.2.2.1 r5.2.2.2.2.2.2.2.2.2.2.2.2.2.2.2.2.1 r5.2.2.2.2.2.2.2.2.2.2.2.2.2.2.2.2.2.1) fun r7=>
 if((!r7)=false)then
 if((!r5.2.2.1)=true)then
 Option.bind (qv k r5.2.2.2.2.2.2.2.2.2.2.2.2.2.2.2.1 r5.2.2.2.2.2.2.2.2.2.2.2.2.2.2.2.2.1 r5.2.2.2.2.2.2.2.2.2.2.2.2.2.2.2.2.2.1 (0:Int) [] []) fun r8=>
 if((!r8)=true)then
 (some false)
 else
 if(r5.2.2.2.1=true)then
 Option.bind (qh k r5.2.2.2.2.2.2.2.2.2.2.2.2.2.2.2.2.2.2.1 r5.2.2.2.2.2.2.2.2.2.2.2.2.2.2.2.2.2.2.2.1 r5.2.2.2.2.2.2.2.2.2.2.2.2.2.2.2.2.2.2.2.2.1 r5.2.2.2.2.2.2.2.2.2.2.2.2.2.2.2.2.2.2.2.2.2) fun r9=>
 if(r9=true)then
 (some (r5.2.2.2.2.2.2.2.2.2.2.2.2.2.2.2.2.2.2.2.1 == r5.2.2.2.2.2.2.2.2.2.1))
 else
 (some false)
 else
 Option.bind (qj k r5.2.2.2.2.2.2.2.2.2.2.2.2.2.2.2.2.2.2.1 r5.2.2.2.2.2.2.2.2.2.2.2.2.2.2.2.2.2.2.2.1 r5.2.2.2.2.2.2.2.2.2.2.2.2.2.2.2.2.2.2.2.2.1 r5.2.2.2.2.2.2.2.2.2.2.2.2.2.2.2.2.2.2.2.2.2 (ByteArray.mk (List.toArray [])) (0:Int) [] []) fun r9=>
 (some r9)
 else
 if(r5.2.2.2.1=true)then
 Option.bind (qh k r5.2.2.2.2.2.2.2.2.2.2.2.2.2.2.2.2.2.2.1 r5.2.2.2.2.2.2.2.2.2.2.2.2.2.2.2.2.2.2.2.1 r5.2.2.2.2.2.2.2.2.2.2.2.2.2.2.2.2.2.2.2.2.1 r5.2.2.2.2.2.2.2.2.2.2.2.2.2.2.2.2.2.2.2.2.2) fun r8=>
 if(r8=true)then
 (some (r5.2.2.2.2.2.2.2.2.2.2.2.2.2.2.2.2.2.2.2.1 == r5.2.2.2.2.2.2.2.2.2.1))
 else
 (some false)
 else
 Option.bind (qj k r5.2.2.2.2.2.2.2.2.2.2.2.2.2.2.2.2.2.2.1 r5.2.2.2.2.2.2.2.2.2.2.2.2.2.2.2.2.2.2.2.1 r5.2.2.2.2.2.2.2.2.2.2.2.2.2.2.2.2.2.2.2.2.1 r5.2.2.2.2.2.2.2.2.2.2.2.2.2.2.2.2.2.2.2.2.2 (ByteArray.mk (List.toArray [])) (0:Int) [] []) fun r8=>
 (some r8)
 else
 (some false)
 else
 if((!r5.2.2.1)=true)then
 Option.bind (qv k r5.2.2.2.2.2.2.2.2.2.2.2.2.2.2.2.1 r5.2.2.2.2.2.2.2.2.2.2.2.2.2.2.2.2.1 r5.2.2.2.2.2.2.2.2.2.2.2.2.2.2.2.2.2.1 (0:Int) [] []) fun r7=>
 if((!r7)=true)then
 (some false)
 else
 if(r5.2.2.2.1=true)then
 Option.bind (qh k r5.2.2.2.2.2.2.2.2.2.2.2.2.2.2.2.2.2.2.1 r5.2.2.2.2.2.2.2.2.2.2.2.2.2.2.2.2.2.2.2.1 r5.2.2.2.2.2.2.2.2.2.2.2.2.2.2.2.2.2.2.2.2.1 r5.2.2.2.2.2.2.2.2.2.2.2.2.2.2.2.2.2.2.2.2.2) fun r8=>
 if(r8=true)then
 (some (r5.2.2.2.2.2.2.2.2.2.2.2.2.2.2.2.2.2.2.2.1 == r5.2.2.2.2.2.2.2.2.2.1))
 else
 (some false)
 else
 Option.bind (qj k r5.2.2.2.2.2.2.2.2.2.2.2.2.2.2.2.2.2.2.1 r5.2.2.2.2.2.2.2.2.2.2.2.2.2.2.2.2.2.2.2.1 r5.2.2.2.2.2.2.2.2.2.2.2.2.2.2.2.2.2.2.2.2.1 r5.2.2.2.2.2.2.2.2.2.2.2.2.2.2.2.2.2.2.2.2.2 (ByteArray.mk (List.toArray [])) (0:Int) [] []) fun r8=>
 (some r8)
 else
 if(r5.2.2.2.1=true)then
 Option.bind (qh k r5.2.2.2.2.2.2.2.2.2.2.2.2.2.2.2.2.2.2.1 r5.2.2.2.2.2.2.2.2.2.2.2.2.2.2.2.2.2.2.2.1 r5.2.2.2.2.2.2.2.2.2.2.2.2.2.2.2.2.2.2.2.2.1 r5.2.2.2.2.2.2.2.2.2.2.2.2.2.2.2.2.2.2.2.2.2) fun r7=>
 if(r7=true)then
 (some (r5.2.2.2.2.2.2.2.2.2.2.2.2.2.2.2.2.2.2.2.1 == r5.2.2.2.2.2.2.2.2.2.1))
 else
 (some false)
 else
 Option.bind (qj k r5.2.2.2.2.2.2.2.2.2.2.2.2.2.2.2.2.2.2.1 r5.2.2.2.2.2.2.2.2.2.2.2.2.2.2.2.2.2.2.2.1 r5.2.2.2.2.2.2.2.2.2.2.2.2.2.2.2.2.2.2.2.2.1 r5.2.2.2.2.2.2.2.2.2.2.2.2.2.2.2.2.2.2.2.2.2 (ByteArray.mk (List.toArray [])) (0:Int) [] []) fun r7=>
 (some r7)
 else
 (some false)
 else
 if((!r5.2.1)=true)then
 if((r5.2.2.2.2.2.2.2.2.2.2.2.2.2.1 == (0:Int))=true)then
 if((r5.2.2.2.2.2.2.2.2.2.2.2.2.2.2.1 == (0:Int))=true)then
 if(r5.2.2.1=true)then
 Option.bind (qX k r5.2.2.2.2.2.2.2.2.2.2.2.2.2.2.2.1 r5.2.2.2.2.2.2.2.2.2.2.2.2.2.2.2.2.1 r5.2.2.2.2.2.2.2.2.2.2.2.2.2.2.2.2.2.1) fun r6=>
 if((!r6)=false)then
 if((!r5.2.2.1)=true)then
 Option.bind (qv k r5.2.2.2.2.2.2.2.2.2.2.2.2.2.2.2.1 r5.2.2.2.2.2.2.2.2.2.2.2.2.2.2.2.2.1 r5.2.2.2.2.2.2.2.2.2.2.2.2.2.2.2.2.2.1 (0:Int) [] []) fun r7=>
 if((!r7)=true)then
 (some false)
 else
 if(r5.2.2.2.1=true)then
 Option.bind (qh k r5.2.2.2.2.2.2.2.2.2.2.2.2.2.2.2.2.2.2.1 r5.2.2.2.2.2.2.2.2.2.2.2.2.2.2.2.2.2.2.2.1 r5.2.2.2.2.2.2.2.2.2.2.2.2.2.2.2.2.2.2.2.2.1 r5.2.2.2.2.2.2.2.2.2.2.2.2.2.2.2.2.2.2.2.2.2) fun r8=>
 if(r8=true)then
 (some (r5.2.2.2.2.2.2.2.2.2.2.2.2.2.2.2.2.2.2.2.1 == r5.2.2.2.2.2.2.2.2.2.1))
 else
 (some false)
 else
 Option.bind (qj k r5.2.2.2.2.2.2.2.2.2.2.2.2.2.2.2.2.2.2.1 r5.2.2.2.2.2.2.2.2.2.2.2.2.2.2.2.2.2.2.2.1 r5.2.2.2.2.2.2.2.2.2.2.2.2.2.2.2.2.2.2.2.2.1 r5.2.2.2.2.2.2.2.2.2.2.2.2.2.2.2.2.2.2.2.2.2 (ByteArray.mk (List.toArray [])) (0:Int) [] []) fun r8=>
 (some r8)
 else
 if(r5.2.2.2.1=true)then
 Option.bind (qh k r5.2.2.2.2.2.2.2.2.2.2.2.2.2.2.2.2.2.2.1 r5.2.2.2.2.2.2.2.2.2.2.2.2.2.2.2.2.2.2.2.1 r5.2.2.2.2.2.2.2.2.2.2.2.2.2.2.2.2.2.2.2.2.1 r5.2.2.2.2.2.2.2.2.2.2.2.2.2.2.2.2.2.2.2.2.2) fun r7=>
 if(r7=true)then
 (some (r5.2.2.2.2.2.2.2.2.2.2.2.2.2.2.2.2.2.2.2.1 == r5.2.2.2.2.2.2.2.2.2.1))
 else
 (some false)
 else
 Option.bind (qj k r5.2.2.2.2.2.2.2.2.2.2.2.2.2.2.2.2.2.2.1 r5.2.2.2.2.2.2.2.2.2.2.2.2.2.2.2.2.2.2.2.1 r5.2.2.2.2.2.2.2.2.2.2.2.2.2.2.2.2.2.2.2.2.1 r5.2.2.2.2.2.2.2.2.2.2.2.2.2.2.2.2.2.2.2.2.2 (ByteArray.mk (List.toArray [])) (0:Int) [] []) fun r7=>
 (some r7)
 else
 (some false)
 else
 if((!r5.2.2.1)=true)then
 Option.bind (qv k r5.2.2.2.2.2.2.2.2.2.2.2.2.2.2.2.1 r5.2.2.2.2.2.2.2.2.2.2.2.2.2.2.2.2.1 r5.2.2.2.2.2.2.2.2.2.2.2.2.2.2.2.2.2.1 (0:Int) [] []) fun r6=>
 if((!r6)=true)then
 (some false)
 else
 if(r5.2.2.2.1=true)then
 Option.bind (qh k r5.2.2.2.2.2.2.2.2.2.2.2.2.2.2.2.2.2.2.1 r5.2.2.2.2.2.2.2.2.2.2.2.2.2.2.2.2.2.2.2.1 r5.2.2.2.2.2.2.2.2.2.2.2.2.2.2.2.2.2.2.2.2.1 r5.2.2.2.2.2.2.2.2.2.2.2.2.2.2.2.2.2.2.2.2.2) fun r7=>
 if(r7=true)then
 (some (r5.2.2.2.2.2.2.2.2.2.2.2.2.2.2.2.2.2.2.2.1 == r5.2.2.2.2.2.2.2.2.2.1))
 else
 (some false)
 else
 Option.bind (qj k r5.2.2.2.2.2.2.2.2.2.2.2.2.2.2.2.2.2.2.1 r5.2.2.2.2.2.2.2.2.2.2.2.2.2.2.2.2.2.2.2.1 r5.2.2.2.2.2.2.2.2.2.2.2.2.2.2.2.2.2.2.2.2.1 r5.2.2.2.2.2.2.2.2.2.2.2.2.2.2.2.2.2.2.2.2.2 (ByteArray.mk (List.toArray [])) (0:Int) [] []) fun r7=>
 (some r7)
 else
 if(r5.2.2.2.1=true)then
 Option.bind (qh k r5.2.2.2.2.2.2.2.2.2.2.2.2.2.2.2.2.2.2.1 r5.2.2.2.2.2.2.2.2.2.2.2.2.2.2.2.2.2.2.2.1 r5.2.2.2.2.2.2.2.2.2.2.2.2.2.2.2.2.2.2.2.2.1 r5.2.2.2.2.2.2.2.2.2.2.2.2.2.2.2.2.2.2.2.2.2) fun r6=>
 if(r6=true)then
 (some (r5.2.2.2.2.2.2.2.2.2.2.2.2.2.2.2.2.2.2.2.1 == r5.2.2.2.2.2.2.2.2.2.1))
 else
 (some false)
 else
 Option.bind (qj k r5.2.2.2.2.2.2.2.2.2.2.2.2.2.2.2.2.2.2.1 r5.2.2.2.2.2.2.2.2.2.2.2.2.2.2.2.2.2.2.2.1 r5.2.2.2.2.2.2.2.2.2.2.2.2.2.2.2.2.2.2.2.2.1 r5.2.2.2.2.2.2.2.2.2.2.2.2.2.2.2.2.2.2.2.2.2 (ByteArray.mk (List.toArray [])) (0:Int) [] []) fun r6=>
 (some r6)
 else
 (some false)
 else
 (some false)
 else
 if(r5.2.2.1=true)then
 Option.bind (qX k r5.2.2.2.2.2.2.2.2.2.2.2.2.2.2.2.1 r5.2.2.2.2.2.2.2.2.2.2.2.2.2.2.2.2.1 r5.2.2.2.2.2.2.2.2.2.2.2.2.2.2.2.2.2.1) fun r6=>
 if((!r6)=false)then
 if((!r5.2.2.1)=true)then
 Option.bind (qv k r5.2.2.2.2.2.2.2.2.2.2.2.2.2.2.2.1 r5.2.2.2.2.2.2.2.2.2.2.2.2.2.2.2.2.1 r5.2.2.2.2.2.2.2.2.2.2.2.2.2.2.2.2.2.1 (0:Int) [] []) fun r7=>
 if((!r7)=true)then
 (some false)
 else
 if(r5.2.2.2.1=true)then
 Option.bind (qh k r5.2.2.2.2.2.2.2.2.2.2.2.2.2.2.2.2.2.2.1 r5.2.2.2.2.2.2.2.2.2.2.2.2.2.2.2.2.2.2.2.1 r5.2.2.2.2.2.2.2.2.2.2.2.2.2.2.2.2.2.2.2.2.1 r5.2.2.2.2.2.2.2.2.2.2.2.2.2.2.2.2.2.2.2.2.2) fun r8=>
 if(r8=true)then
 (some (r5.2.2.2.2.2.2.2.2.2.2.2.2.2.2.2.2.2.2.2.1 == r5.2.2.2.2.2.2.2.2.2.1))
 else
 (some false)
 else
 Option.bind (qj k r5.2.2.2.2.2.2.2.2.2.2.2.2.2.2.2.2.2.2.1 r5.2.2.2.2.2.2.2.2.2.2.2.2.2.2.2.2.2.2.2.1 r5.2.2.2.2.2.2.2.2.2.2.2.2.2.2.2.2.2.2.2.2.1 r5.2.2.2.2.2.2.2.2.2.2.2.2.2.2.2.2.2.2.2.2.2 (ByteArray.mk (List.toArray [])) (0:Int) [] []) fun r8=>
 (some r8)
 else
 if(r5.2.2.2.1=true)then
 Option.bind (qh k r5.2.2.2.2.2.2.2.2.2.2.2.2.2.2.2.2.2.2.1 r5.2.2.2.2.2.2.2.2.2.2.2.2.2.2.2.2.2.2.2.1 r5.2.2.2.2.2.2.2.2.2.2.2.2.2.2.2.2.2.2.2.2.1 r5.2.2.2.2.2.2.2.2.2.2.2.2.2.2.2.2.2.2.2.2.2) fun r7=>
 if(r7=true)then
 (some (r5.2.2.2.2.2.2.2.2.2.2.2.2.2.2.2.2.2.2.2.1 == r5.2.2.2.2.2.2.2.2.2.1))
 else
 (some false)
 else
 Option.bind (qj k r5.2.2.2.2.2.2.2.2.2.2.2.2.2.2.2.2.2.2.1 r5.2.2.2.2.2.2.2.2.2.2.2.2.2.2.2.2.2.2.2.1 r5.2.2.2.2.2.2.2.2.2.2.2.2.2.2.2.2.2.2.2.2.1 r5.2.2.2.2.2.2.2.2.2.2.2.2.2.2.2.2.2.2.2.2.2 (ByteArray.mk (List.toArray [])) (0:Int) [] []) fun r7=>
 (some r7)
 else
 (some false)
 else
 if((!r5.2.2.1)=true)then
 Option.bind (qv k r5.2.2.2.2.2.2.2.2.2.2.2.2.2.2.2.1 r5.2.2.2.2.2.2.2.2.2.2.2.2.2.2.2.2.1 r5.2.2.2.2.2.2.2.2.2.2.2.2.2.2.2.2.2.1 (0:Int) [] []) fun r6=>
 if((!r6)=true)then
 (some false)
 else
 if(r5.2.2.2.1=true)then
 Option.bind (qh k r5.2.2.2.2.2.2.2.2.2.2.2.2.2.2.2.2.2.2.1 r5.2.2.2.2.2.2.2.2.2.2.2.2.2.2.2.2.2.2.2.1 r5.2.2.2.2.2.2.2.2.2.2.2.2.2.2.2.2.2.2.2.2.1 r5.2.2.2.2.2.2.2.2.2.2.2.2.2.2.2.2.2.2.2.2.2) fun r7=>
 if(r7=true)then
 (some (r5.2.2.2.2.2.2.2.2.2.2.2.2.2.2.2.2.2.2.2.1 == r5.2.2.2.2.2.2.2.2.2.1))
 else
 (some false)
 else
 Option.bind (qj k r5.2.2.2.2.2.2.2.2.2.2.2.2.2.2.2.2.2.2.1 r5.2.2.2.2.2.2.2.2.2.2.2.2.2.2.2.2.2.2.2.1 r5.2.2.2.2.2.2.2.2.2.2.2.2.2.2.2.2.2.2.2.2.1 r5.2.2.2.2.2.2.2.2.2.2.2.2.2.2.2.2.2.2.2.2.2 (ByteArray.mk (List.toArray [])) (0:Int) [] []) fun r7=>
 (some r7)
 else
 if(r5.2.2.2.1=true)then
 Option.bind (qh k r5.2.2.2.2.2.2.2.2.2.2.2.2.2.2.2.2.2.2.1 r5.2.2.2.2.2.2.2.2.2.2.2.2.2.2.2.2.2.2.2.1 r5.2.2.2.2.2.2.2.2.2.2.2.2.2.2.2.2.2.2.2.2.1 r5.2.2.2.2.2.2.2.2.2.2.2.2.2.2.2.2.2.2.2.2.2) fun r6=>
 if(r6=true)then
 (some (r5.2.2.2.2.2.2.2.2.2.2.2.2.2.2.2.2.2.2.2.1 == r5.2.2.2.2.2.2.2.2.2.1))
 else
 (some false)
 else
 Option.bind (qj k r5.2.2.2.2.2.2.2.2.2.2.2.2.2.2.2.2.2.2.1 r5.2.2.2.2.2.2.2.2.2.2.2.2.2.2.2.2.2.2.2.1 r5.2.2.2.2.2.2.2.2.2.2.2.2.2.2.2.2.2.2.2.2.1 r5.2.2.2.2.2.2.2.2.2.2.2.2.2.2.2.2.2.2.2.2.2 (ByteArray.mk (List.toArray [])) (0:Int) [] []) fun r6=>
 (some r6)
 else
 none
 else
 (some false)
 else
 (some false)
 else
 if((r5.2.2.2.2.2.2.2.2.2.2.2.2.1 != (0:Int))=true)then
 (some false)
 else
 if(r5.2.1=true)then
 Option.bind (qaD k r5.2.2.2.2.2.2.2.2.2.2.2.2.2.1 r5.2.2.2.2.2.2.2.2.2.2.2.2.2.2.1) fun r6=>
 if((!r6)=false)then
 if((!r5.2.1)=true)then
 if((r5.2.2.2.2.2.2.2.2.2.2.2.2.2.1 == (0:Int))=true)then
 if((r5.2.2.2.2.2.2.2.2.2.2.2.2.2.2.1 == (0:Int))=true)then
 if(r5.2.2.1=true)then
 Option.bind (qX k r5.2.2.2.2.2.2.2.2.2.2.2.2.2.2.2.1 r5.2.2.2.2.2.2.2.2.2.2.2.2.2.2.2.2.1 r5.2.2.2.2.2.2.2.2.2.2.2.2.2.2.2.2.2.1) fun r7=>
 if((!r7)=false)then
 if((!r5.2.2.1)=true)then
 Option.bind (qv k r5.2.2.2.2.2.2.2.2.2.2.2.2.2.2.2.1 r5.2.2.2.2.2.2.2.2.2.2.2.2.2.2.2.2.1 r5.2.2.2.2.2.2.2.2.2.2.2.2.2.2.2.2.2.1 (0:Int) [] []) fun r8=>
 if((!r8)=true)then
 (some false)
 else
 if(r5.2.2.2.1=true)then
 Option.bind (qh k r5.2.2.2.2.2.2.2.2.2.2.2.2.2.2.2.2.2.2.1 r5.2.2.2.2.2.2.2.2.2.2.2.2.2.2.2.2.2.2.2.1 r5.2.2.2.2.2.2.2.2.2.2.2.2.2.2.2.2.2.2.2.2.1 r5.2.2.2.2.2.2.2.2.2.2.2.2.2.2.2.2.2.2.2.2.2) fun r9=>
 if(r9=true)then
 (some (r5.2.2.2.2.2.2.2.2.2.2.2.2.2.2.2.2.2.2.2.1 == r5.2.2.2.2.2.2.2.2.2.1))
 else
 (some false)
 else
 Option.bind (qj k r5.2.2.2.2.2.2.2.2.2.2.2.2.2.2.2.2.2.2.1 r5.2.2.2.2.2.2.2.2.2.2.2.2.2.2.2.2.2.2.2.1 r5.2.2.2.2.2.2.2.2.2.2.2.2.2.2.2.2.2.2.2.2.1 r5.2.2.2.2.2.2.2.2.2.2.2.2.2.2.2.2.2.2.2.2.2 (ByteArray.mk (List.toArray [])) (0:Int) [] []) fun r9=>
 (some r9)
 else
 if(r5.2.2.2.1=true)then
 Option.bind (qh k r5.2.2.2.2.2.2.2.2.2.2.2.2.2.2.2.2.2.2.1 r5.2.2.2.2.2.2.2.2.2.2.2.2.2.2.2.2.2.2.2.1 r5.2.2.2.2.2.2.2.2.2.2.2.2.2.2.2.2.2.2.2.2.1 r5.2.2.2.2.2.2.2.2.2.2.2.2.2.2.2.2.2.2.2.2.2) fun r8=>
 if(r8=true)then
 (some (r5.2.2.2.2.2.2.2.2.2.2.2.2.2.2.2.2.2.2.2.1 == r5.2.2.2.2.2.2.2.2.2.1))
 else
 (some false)
 else
 Option.bind (qj k r5.2.2.2.2.2.2.2.2.2.2.2.2.2.2.2.2.2.2.1 r5.2.2.2.2.2.2.2.2.2.2.2.2.2.2.2.2.2.2.2.1 r5.2.2.2.2.2.2.2.2.2.2.2.2.2.2.2.2.2.2.2.2.1 r5.2.2.2.2.2.2.2.2.2.2.2.2.2.2.2.2.2.2.2.2.2 (ByteArray.mk (List.toArray [])) (0:Int) [] []) fun r8=>
 (some r8)
 else
 (some false)
 else
 if((!r5.2.2.1)=true)then
 Option.bind (qv k r5.2.2.2.2.2.2.2.2.2.2.2.2.2.2.2.1 r5.2.2.2.2.2.2.2.2.2.2.2.2.2.2.2.2.1 r5.2.2.2.2.2.2.2.2.2.2.2.2.2.2.2.2.2.1 (0:Int) [] []) fun r7=>
 if((!r7)=true)then
 (some false)
 else
 if(r5.2.2.2.1=true)then
 Option.bind (qh k r5.2.2.2.2.2.2.2.2.2.2.2.2.2.2.2.2.2.2.1 r5.2.2.2.2.2.2.2.2.2.2.2.2.2.2.2.2.2.2.2.1 r5.2.2.2.2.2.2.2.2.2.2.2.2.2.2.2.2.2.2.2.2.1 r5.2.2.2.2.2.2.2.2.2.2.2.2.2.2.2.2.2.2.2.2.2) fun r8=>
 if(r8=true)then
 (some (r5.2.2.2.2.2.2.2.2.2.2.2.2.2.2.2.2.2.2.2.1 == r5.2.2.2.2.2.2.2.2.2.1))
 else
 (some false)
 else
 Option.bind (qj k r5.2.2.2.2.2.2.2.2.2.2.2.2.2.2.2.2.2.2.1 r5.2.2.2.2.2.2.2.2.2.2.2.2.2.2.2.2.2.2.2.1 r5.2.2.2.2.2.2.2.2.2.2.2.2.2.2.2.2.2.2.2.2.1 r5.2.2.2.2.2.2.2.2.2.2.2.2.2.2.2.2.2.2.2.2.2 (ByteArray.mk (List.toArray [])) (0:Int) [] []) fun r8=>
 (some r8)
 else
 if(r5.2.2.2.1=true)then
 Option.bind (qh k r5.2.2.2.2.2.2.2.2.2.2.2.2.2.2.2.2.2.2.1 r5.2.2.2.2.2.2.2.2.2.2.2.2.2.2.2.2.2.2.2.1 r5.2.2.2.2.2.2.2.2.2.2.2.2.2.2.2.2.2.2.2.2.1 r5.2.2.2.2.2.2.2.2.2.2.2.2.2.2.2.2.2.2.2.2.2) fun r7=>
 if(r7=true)then
 (some (r5.2.2.2.2.2.2.2.2.2.2.2.2.2.2.2.2.2.2.2.1 == r5.2.2.2.2.2.2.2.2.2.1))
 else
 (some false)
 else
 Option.bind (qj k r5.2.2.2.2.2.2.2.2.2.2.2.2.2.2.2.2.2.2.1 r5.2.2.2.2.2.2.2.2.2.2.2.2.2.2.2.2.2.2.2.1 r5.2.2.2.2.2.2.2.2.2.2.2.2.2.2.2.2.2.2.2.2.1 r5.2.2.2.2.2.2.2.2.2.2.2.2.2.2.2.2.2.2.2.2.2 (ByteArray.mk (List.toArray [])) (0:Int) [] []) fun r7=>
 (some r7)
 else
 (some false)
 else
 (some false)
 else
 if(r5.2.2.1=true)then
 Option.bind (qX k r5.2.2.2.2.2.2.2.2.2.2.2.2.2.2.2.1 r5.2.2.2.2.2.2.2.2.2.2.2.2.2.2.2.2.1 r5.2.2.2.2.2.2.2.2.2.2.2.2.2.2.2.2.2.1) fun r7=>
 if((!r7)=false)then
 if((!r5.2.2.1)=true)then
 Option.bind (qv k r5.2.2.2.2.2.2.2.2.2.2.2.2.2.2.2.1 r5.2.2.2.2.2.2.2.2.2.2.2.2.2.2.2.2.1 r5.2.2.2.2.2.2.2.2.2.2.2.2.2.2.2.2.2.1 (0:Int) [] []) fun r8=>
 if((!r8)=true)then
 (some false)
 else
 if(r5.2.2.2.1=true)then
 Option.bind (qh k r5.2.2.2.2.2.2.2.2.2.2.2.2.2.2.2.2.2.2.1 r5.2.2.2.2.2.2.2.2.2.2.2.2.2.2.2.2.2.2.2.1 r5.2.2.2.2.2.2.2.2.2.2.2.2.2.2.2.2.2.2.2.2.1 r5.2.2.2.2.2.2.2.2.2.2.2.2.2.2.2.2.2.2.2.2.2) fun r9=>
 if(r9=true)then
 (some (r5.2.2.2.2.2.2.2.2.2.2.2.2.2.2.2.2.2.2.2.1 == r5.2.2.2.2.2.2.2.2.2.1))
 else
 (some false)
 else
 Option.bind (qj k r5.2.2.2.2.2.2.2.2.2.2.2.2.2.2.2.2.2.2.1 r5.2.2.2.2.2.2.2.2.2.2.2.2.2.2.2.2.2.2.2.1 r5.2.2.2.2.2.2.2.2.2.2.2.2.2.2.2.2.2.2.2.2.1 r5.2.2.2.2.2.2.2.2.2.2.2.2.2.2.2.2.2.2.2.2.2 (ByteArray.mk (List.toArray [])) (0:Int) [] []) fun r9=>
 (some r9)
 else
 if(r5.2.2.2.1=true)then
 Option.bind (qh k r5.2.2.2.2.2.2.2.2.2.2.2.2.2.2.2.2.2.2.1 r5.2.2.2.2.2.2.2.2.2.2.2.2.2.2.2.2.2.2.2.1 r5.2.2.2.2.2.2.2.2.2.2.2.2.2.2.2.2.2.2.2.2.1 r5.2.2.2.2.2.2.2.2.2.2.2.2.2.2.2.2.2.2.2.2.2) fun r8=>
 if(r8=true)then
 (some (r5.2.2.2.2.2.2.2.2.2.2.2.2.2.2.2.2.2.2.2.1 == r5.2.2.2.2.2.2.2.2.2.1))
 else
 (some false)
 else
 Option.bind (qj k r5.2.2.2.2.2.2.2.2.2.2.2.2.2.2.2.2.2.2.1 r5.2.2.2.2.2.2.2.2.2.2.2.2.2.2.2.2.2.2.2.1 r5.2.2.2.2.2.2.2.2.2.2.2.2.2.2.2.2.2.2.2.2.1 r5.2.2.2.2.2.2.2.2.2.2.2.2.2.2.2.2.2.2.2.2.2 (ByteArray.mk (List.toArray [])) (0:Int) [] []) fun r8=>
 (some r8)
 else
 (some false)
 else
 if((!r5.2.2.1)=true)then
 Option.bind (qv k r5.2.2.2.2.2.2.2.2.2.2.2.2.2.2.2.1 r5.2.2.2.2.2.2.2.2.2.2.2.2.2.2.2.2.1 r5.2.2.2.2.2.2.2.2.2.2.2.2.2.2.2.2.2.1 (0:Int) [] []) fun r7=>
 if((!r7)=true)then
 (some false)
 else
 if(r5.2.2.2.1=true)then
 Option.bind (qh k r5.2.2.2.2.2.2.2.2.2.2.2.2.2.2.2.2.2.2.1 r5.2.2.2.2.2.2.2.2.2.2.2.2.2.2.2.2.2.2.2.1 r5.2.2.2.2.2.2.2.2.2.2.2.2.2.2.2.2.2.2.2.2.1 r5.2.2.2.2.2.2.2.2.2.2.2.2.2.2.2.2.2.2.2.2.2) fun r8=>
 if(r8=true)then
 (some (r5.2.2.2.2.2.2.2.2.2.2.2.2.2.2.2.2.2.2.2.1 == r5.2.2.2.2.2.2.2.2.2.1))
 else
 (some false)
 else
 Option.bind (qj k r5.2.2.2.2.2.2.2.2.2.2.2.2.2.2.2.2.2.2.1 r5.2.2.2.2.2.2.2.2.2.2.2.2.2.2.2.2.2.2.2.1 r5.2.2.2.2.2.2.2.2.2.2.2.2.2.2.2.2.2.2.2.2.1 r5.2.2.2.2.2.2.2.2.2.2.2.2.2.2.2.2.2.2.2.2.2 (ByteArray.mk (List.toArray [])) (0:Int) [] []) fun r8=>
 (some r8)
 else
 if(r5.2.2.2.1=true)then
 Option.bind (qh k r5.2.2.2.2.2.2.2.2.2.2.2.2.2.2.2.2.2.2.1 r5.2.2.2.2.2.2.2.2.2.2.2.2.2.2.2.2.2.2.2.1 r5.2.2.2.2.2.2.2.2.2.2.2.2.2.2.2.2.2.2.2.2.1 r5.2.2.2.2.2.2.2.2.2.2.2.2.2.2.2.2.2.2.2.2.2) fun r7=>
 if(r7=true)then
 (some (r5.2.2.2.2.2.2.2.2.2.2.2.2.2.2.2.2.2.2.2.1 == r5.2.2.2.2.2.2.2.2.2.1))
 else
 (some false)
 else
 Option.bind (qj k r5.2.2.2.2.2.2.2.2.2.2.2.2.2.2.2.2.2.2.1 r5.2.2.2.2.2.2.2.2.2.2.2.2.2.2.2.2.2.2.2.1 r5.2.2.2.2.2.2.2.2.2.2.2.2.2.2.2.2.2.2.2.2.1 r5.2.2.2.2.2.2.2.2.2.2.2.2.2.2.2.2.2.2.2.2.2 (ByteArray.mk (List.toArray [])) (0:Int) [] []) fun r7=>
 (some r7)
 else
 (some false)
 else
 if((!r5.2.1)=true)then
 if((r5.2.2.2.2.2.2.2.2.2.2.2.2.2.1 == (0:Int))=true)then
 if((r5.2.2.2.2.2.2.2.2.2.2.2.2.2.2.1 == (0:Int))=true)then
 if(r5.2.2.1=true)then
 Option.bind (qX k r5.2.2.2.2.2.2.2.2.2.2.2.2.2.2.2.1 r5.2.2.2.2.2.2.2.2.2.2.2.2.2.2.2.2.1 r5.2.2.2.2.2.2.2.2.2.2.2.2.2.2.2.2.2.1) fun r6=>
 if((!r6)=false)then
 if((!r5.2.2.1)=true)then
 Option.bind (qv k r5.2.2.2.2.2.2.2.2.2.2.2.2.2.2.2.1 r5.2.2.2.2.2.2.2.2.2.2.2.2.2.2.2.2.1 r5.2.2.2.2.2.2.2.2.2.2.2.2.2.2.2.2.2.1 (0:Int) [] []) fun r7=>
 if((!r7)=true)then
 (some false)
 else
 if(r5.2.2.2.1=true)then
 Option.bind (qh k r5.2.2.2.2.2.2.2.2.2.2.2.2.2.2.2.2.2.2.1 r5.2.2.2.2.2.2.2.2.2.2.2.2.2.2.2.2.2.2.2.1 r5.2.2.2.2.2.2.2.2.2.2.2.2.2.2.2.2.2.2.2.2.1 r5.2.2.2.2.2.2.2.2.2.2.2.2.2.2.2.2.2.2.2.2.2) fun r8=>
 if(r8=true)then
 (some (r5.2.2.2.2.2.2.2.2.2.2.2.2.2.2.2.2.2.2.2.1 == r5.2.2.2.2.2.2.2.2.2.1))
 else
 (some false)
 else
 Option.bind (qj k r5.2.2.2.2.2.2.2.2.2.2.2.2.2.2.2.2.2.2.1 r5.2.2.2.2.2.2.2.2.2.2.2.2.2.2.2.2.2.2.2.1 r5.2.2.2.2.2.2.2.2.2.2.2.2.2.2.2.2.2.2.2.2.1 r5.2.2.2.2.2.2.2.2.2.2.2.2.2.2.2.2.2.2.2.2.2 (ByteArray.mk (List.toArray [])) (0:Int) [] []) fun r8=>
 (some r8)
 else
 if(r5.2.2.2.1=true)then
 Option.bind (qh k r5.2.2.2.2.2.2.2.2.2.2.2.2.2.2.2.2.2.2.1 r5.2.2.2.2.2.2.2.2.2.2.2.2.2.2.2.2.2.2.2.1 r5.2.2.2.2.2.2.2.2.2.2.2.2.2.2.2.2.2.2.2.2.1 r5.2.2.2.2.2.2.2.2.2.2.2.2.2.2.2.2.2.2.2.2.2) fun r7=>
 if(r7=true)then
 (some (r5.2.2.2.2.2.2.2.2.2.2.2.2.2.2.2.2.2.2.2.1 == r5.2.2.2.2.2.2.2.2.2.1))
 else
 (some false)
 else
 Option.bind (qj k r5.2.2.2.2.2.2.2.2.2.2.2.2.2.2.2.2.2.2.1 r5.2.2.2.2.2.2.2.2.2.2.2.2.2.2.2.2.2.2.2.1 r5.2.2.2.2.2.2.2.2.2.2.2.2.2.2.2.2.2.2.2.2.1 r5.2.2.2.2.2.2.2.2.2.2.2.2.2.2.2.2.2.2.2.2.2 (ByteArray.mk (List.toArray [])) (0:Int) [] []) fun r7=>
 (some r7)
 else
 (some false)
 else
 if((!r5.2.2.1)=true)then
 Option.bind (qv k r5.2.2.2.2.2.2.2.2.2.2.2.2.2.2.2.1 r5.2.2.2.2.2.2.2.2.2.2.2.2.2.2.2.2.1 r5.2.2.2.2.2.2.2.2.2.2.2.2.2.2.2.2.2.1 (0:Int) [] []) fun r6=>
 if((!r6)=true)then
 (some false)
 else
 if(r5.2.2.2.1=true)then
 Option.bind (qh k r5.2.2.2.2.2.2.2.2.2.2.2.2.2.2.2.2.2.2.1 r5.2.2.2.2.2.2.2.2.2.2.2.2.2.2.2.2.2.2.2.1 r5.2.2.2.2.2.2.2.2.2.2.2.2.2.2.2.2.2.2.2.2.1 r5.2.2.2.2.2.2.2.2.2.2.2.2.2.2.2.2.2.2.2.2.2) fun r7=>
 if(r7=true)then
 (some (r5.2.2.2.2.2.2.2.2.2.2.2.2.2.2.2.2.2.2.2.1 == r5.2.2.2.2.2.2.2.2.2.1))
 else
 (some false)
 else
 Option.bind (qj k r5.2.2.2.2.2.2.2.2.2.2.2.2.2.2.2.2.2.2.1 r5.2.2.2.2.2.2.2.2.2.2.2.2.2.2.2.2.2.2.2.1 r5.2.2.2.2.2.2.2.2.2.2.2.2.2.2.2.2.2.2.2.2.1 r5.2.2.2.2.2.2.2.2.2.2.2.2.2.2.2.2.2.2.2.2.2 (ByteArray.mk (List.toArray [])) (0:Int) [] []) fun r7=>
 (some r7)
 else
 if(r5.2.2.2.1=true)then
 Option.bind (qh k r5.2.2.2.2.2.2.2.2.2.2.2.2.2.2.2.2.2.2.1 r5.2.2.2.2.2.2.2.2.2.2.2.2.2.2.2.2.2.2.2.1 r5.2.2.2.2.2.2.2.2.2.2.2.2.2.2.2.2.2.2.2.2.1 r5.2.2.2.2.2.2.2.2.2.2.2.2.2.2.2.2.2.2.2.2.2) fun r6=>
 if(r6=true)then
 (some (r5.2.2.2.2.2.2.2.2.2.2.2.2.2.2.2.2.2.2.2.1 == r5.2.2.2.2.2.2.2.2.2.1))
 else
 (some false)
 else
 Option.bind (qj k r5.2.2.2.2.2.2.2.2.2.2.2.2.2.2.2.2.2.2.1 r5.2.2.2.2.2.2.2.2.2.2.2.2.2.2.2.2.2.2.2.1 r5.2.2.2.2.2.2.2.2.2.2.2.2.2.2.2.2.2.2.2.2.1 r5.2.2.2.2.2.2.2.2.2.2.2.2.2.2.2.2.2.2.2.2.2 (ByteArray.mk (List.toArray [])) (0:Int) [] []) fun r6=>
 (some r6)
 else
 (some false)
 else
 (some false)
 else
 if(r5.2.2.1=true)then
 Option.bind (qX k r5.2.2.2.2.2.2.2.2.2.2.2.2.2.2.2.1 r5.2.2.2.2.2.2.2.2.2.2.2.2.2.2.2.2.1 r5.2.2.2.2.2.2.2.2.2.2.2.2.2.2.2.2.2.1) fun r6=>
 if((!r6)=false)then
 if((!r5.2.2.1)=true)then
 Option.bind (qv k r5.2.2.2.2.2.2.2.2.2.2.2.2.2.2.2.1 r5.2.2.2.2.2.2.2.2.2.2.2.2.2.2.2.2.1 r5.2.2.2.2.2.2.2.2.2.2.2.2.2.2.2.2.2.1 (0:Int) [] []) fun r7=>
 if((!r7)=true)then
 (some false)
 else
 if(r5.2.2.2.1=true)then
 Option.bind (qh k r5.2.2.2.2.2.2.2.2.2.2.2.2.2.2.2.2.2.2.1 r5.2.2.2.2.2.2.2.2.2.2.2.2.2.2.2.2.2.2.2.1 r5.2.2.2.2.2.2.2.2.2.2.2.2.2.2.2.2.2.2.2.2.1 r5.2.2.2.2.2.2.2.2.2.2.2.2.2.2.2.2.2.2.2.2.2) fun r8=>
 if(r8=true)then
 (some (r5.2.2.2.2.2.2.2.2.2.2.2.2.2.2.2.2.2.2.2.1 == r5.2.2.2.2.2.2.2.2.2.1))
 else
 (some false)
 else
 Option.bind (qj k r5.2.2.2.2.2.2.2.2.2.2.2.2.2.2.2.2.2.2.1 r5.2.2.2.2.2.2.2.2.2.2.2.2.2.2.2.2.2.2.2.1 r5.2.2.2.2.2.2.2.2.2.2.2.2.2.2.2.2.2.2.2.2.1 r5.2.2.2.2.2.2.2.2.2.2.2.2.2.2.2.2.2.2.2.2.2 (ByteArray.mk (List.toArray [])) (0:Int) [] []) fun r8=>
 (some r8)
 else
 if(r5.2.2.2.1=true)then
 Option.bind (qh k r5.2.2.2.2.2.2.2.2.2.2.2.2.2.2.2.2.2.2.1 r5.2.2.2.2.2.2.2.2.2.2.2.2.2.2.2.2.2.2.2.1 r5.2.2.2.2.2.2.2.2.2.2.2.2.2.2.2.2.2.2.2.2.1 r5.2.2.2.2.2.2.2.2.2.2.2.2.2.2.2.2.2.2.2.2.2) fun r7=>
 if(r7=true)then
 (some (r5.2.2.2.2.2.2.2.2.2.2.2.2.2.2.2.2.2.2.2.1 == r5.2.2.2.2.2.2.2.2.2.1))
 else
 (some false)
 else
 Option.bind (qj k r5.2.2.2.2.2.2.2.2.2.2.2.2.2.2.2.2.2.2.1 r5.2.2.2.2.2.2.2.2.2.2.2.2.2.2.2.2.2.2.2.1 r5.2.2.2.2.2.2.2.2.2.2.2.2.2.2.2.2.2.2.2.2.1 r5.2.2.2.2.2.2.2.2.2.2.2.2.2.2.2.2.2.2.2.2.2 (ByteArray.mk (List.toArray [])) (0:Int) [] []) fun r7=>
 (some r7)
 else
 (some false)
 else
 if((!r5.2.2.1)=true)then
 Option.bind (qv k r5.2.2.2.2.2.2.2.2.2.2.2.2.2.2.2.1 r5.2.2.2.2.2.2.2.2.2.2.2.2.2.2.2.2.1 r5.2.2.2.2.2.2.2.2.2.2.2.2.2.2.2.2.2.1 (0:Int) [] []) fun r6=>
 if((!r6)=true)then
 (some false)
 else
 if(r5.2.2.2.1=true)then
 Option.bind (qh k r5.2.2.2.2.2.2.2.2.2.2.2.2.2.2.2.2.2.2.1 r5.2.2.2.2.2.2.2.2.2.2.2.2.2.2.2.2.2.2.2.1 r5.2.2.2.2.2.2.2.2.2.2.2.2.2.2.2.2.2.2.2.2.1 r5.2.2.2.2.2.2.2.2.2.2.2.2.2.2.2.2.2.2.2.2.2) fun r7=>
 if(r7=true)then
 (some (r5.2.2.2.2.2.2.2.2.2.2.2.2.2.2.2.2.2.2.2.1 == r5.2.2.2.2.2.2.2.2.2.1))
 else
 (some false)
 else
 Option.bind (qj k r5.2.2.2.2.2.2.2.2.2.2.2.2.2.2.2.2.2.2.1 r5.2.2.2.2.2.2.2.2.2.2.2.2.2.2.2.2.2.2.2.1 r5.2.2.2.2.2.2.2.2.2.2.2.2.2.2.2.2.2.2.2.2.1 r5.2.2.2.2.2.2.2.2.2.2.2.2.2.2.2.2.2.2.2.2.2 (ByteArray.mk (List.toArray [])) (0:Int) [] []) fun r7=>
 (some r7)
 else
 if(r5.2.2.2.1=true)then
 Option.bind (qh k r5.2.2.2.2.2.2.2.2.2.2.2.2.2.2.2.2.2.2.1 r5.2.2.2.2.2.2.2.2.2.2.2.2.2.2.2.2.2.2.2.1 r5.2.2.2.2.2.2.2.2.2.2.2.2.2.2.2.2.2.2.2.2.1 r5.2.2.2.2.2.2.2.2.2.2.2.2.2.2.2.2.2.2.2.2.2) fun r6=>
 if(r6=true)then
 (some (r5.2.2.2.2.2.2.2.2.2.2.2.2.2.2.2.2.2.2.2.1 == r5.2.2.2.2.2.2.2.2.2.1))
 else
 (some false)
 else
 Option.bind (qj k r5.2.2.2.2.2.2.2.2.2.2.2.2.2.2.2.2.2.2.1 r5.2.2.2.2.2.2.2.2.2.2.2.2.2.2.2.2.2.2.2.1 r5.2.2.2.2.2.2.2.2.2.2.2.2.2.2.2.2.2.2.2.2.1 r5.2.2.2.2.2.2.2.2.2.2.2.2.2.2.2.2.2.2.2.2.2 (ByteArray.mk (List.toArray [])) (0:Int) [] []) fun r6=>
 (some r6)
def qfx (k:Nat) (f0:List ByteArray) (f1:List DvT) (f2:Int) (f3:Int) (f4:Int) (d0:Int) (d1:ByteArray) (d2:List Int) (d3:Int) (d4:Int) (d5:Int) (d6:Int) (d7:List (Int×Int)) (d8:List Int) (d9:ByteArray) (d10:Int) (d11:List (Int×Int)) (d12:List (Int×Int)):Option (Bool):=
 if((d0 == (114:Int))=true)then
 if((d4 == (0:Int))=true)then
 (some false)
 else
 if(((((List.length d2):Nat):Int) != (2:Int))=false)then
 Option.bind (qD k d1) fun r4=>
 if((!r4)=true)then
 (some false)
 else
 Option.bind (qq k k (2:Int) false true false false (0:Int) f0 f1 f2 f3 f4 d0 d1 d2 d3 d4 d5 d6 d7 d8 d9 d10 d11 d12) fun r5=>
 qc r5
 (fun r5=>
 (some r5.1))
 (qf k)
 else
 (some false)
 else
 if((d0 == (99:Int))=true)then
 if((d4 == (0:Int))=true)then
 (some false)
 else
 if(((((List.length d2):Nat):Int) != (2:Int))=false)then
 Option.bind (qD k d1) fun r4=>
 if((!r4)=true)then
 (some false)
 else
 Option.bind (qq k k (2:Int) false true false false (0:Int) f0 f1 f2 f3 f4 d0 d1 d2 d3 d4 d5 d6 d7 d8 d9 d10 d11 d12) fun r5=>
 qc r5
 (fun r5=>
 (some r5.1))
 (qf k)
 else
 (some false)
 else
 if((d0 == (108:Int))=true)then
 if((d4 == (0:Int))=true)then
 (some false)
 else
 if(((((List.length d2):Nat):Int) != (2:Int))=false)then
 Option.bind (qD k d1) fun r4=>
 if((!r4)=true)then
 (some false)
 else
 Option.bind (qq k k (2:Int) false true false false (0:Int) f0 f1 f2 f3 f4 d0 d1 d2 d3 d4 d5 d6 d7 d8 d9 d10 d11 d12) fun r5=>
 qc r5
 (fun r5=>
 (some r5.1))
 (qf k)
 else
 (some false)
 else
 if((d0 == (118:Int))=true)then
 if(((((List.length d2):Nat):Int) != (2:Int))=false)then
 Option.bind (qD k d1) fun r4=>
 if((!r4)=true)then
 (some false)
 else
 Option.bind (qq k k (2:Int) false false true false (0:Int) f0 f1 f2 f3 f4 d0 d1 d2 d3 d4 d5 d6 d7 d8 d9 d10 d11 d12) fun r5=>
 qc r5
 (fun r5=>
 (some r5.1))
 (qf k)
 else
 (some false)
 else
 if((d0 == (105:Int))=true)then
 if(((((List.length d2):Nat):Int) != (2:Int))=false)then
 Option.bind (qD k d1) fun r4=>
 if((!r4)=true)then
 (some false)
 else
 Option.bind (qq k k (2:Int) false false true false (0:Int) f0 f1 f2 f3 f4 d0 d1 d2 d3 d4 d5 d6 d7 d8 d9 d10 d11 d12) fun r5=>
 qc r5
 (fun r5=>
 (some r5.1))
 (qf k)
 else
 (some false)
 else
 if((d0 == (101:Int))=true)then
 if(((((List.length d2):Nat):Int) != (4:Int))=false)then
 Option.bind (qD k d1) fun r4=>
 if((!r4)=true)then
 (some false)
 else
 Option.bind (qq k k (4:Int) false true false false (0:Int) f0 f1 f2 f3 f4 d0 d1 d2 d3 d4 d5 d6 d7 d8 d9 d10 d11 d12) fun r5=>
 qc r5
 (fun r5=>
 (some r5.1))
 (qf k)
 else
 (some false)
 else
 if((d0 == (103:Int))=true)then
 if(((((List.length d2):Nat):Int) != (4:Int))=false)then
 Option.bind (qD k d1) fun r4=>
 if((!r4)=true)then
 (some false)
 else
 Option.bind (qq k k (4:Int) false true false false (0:Int) f0 f1 f2 f3 f4 d0 d1 d2 d3 d4 d5 d6 d7 d8 d9 d10 d11 d12) fun r5=>
 qc r5
 (fun r5=>
 (some r5.1))
 (qf k)
 else
 (some false)
 else
 if((d0 == (116:Int))=true)then
 if(((((List.length d2):Nat):Int) != (4:Int))=false)then
 Option.bind (qD k d1) fun r4=>
 if((!r4)=true)then
 (some false)
 else
 Option.bind (qq k k (4:Int) false true false false (0:Int) f0 f1 f2 f3 f4 d0 d1 d2 d3 d4 d5 d6 d7 d8 d9 d10 d11 d12) fun r5=>
 qc r5
 (fun r5=>
 (some r5.1))
 (qf k)
 else
 (some false)
 else
 if((d0 == (102:Int))=true)then
 if(((((List.length d2):Nat):Int) != (2:Int))=false)then
 Option.bind (qD k d1) fun r4=>
 if((!r4)=true)then
 (some false)
 else
 Option.bind (qq k k (2:Int) true true false false (0:Int) f0 f1 f2 f3 f4 d0 d1 d2 d3 d4 d5 d6 d7 d8 d9 d10 d11 d12) fun r5=>
 qc r5
 (fun r5=>
 (some r5.1))
 (qf k)
 else
 (some false)
 else
 if((d0 == (104:Int))=true)then
 if(((((List.length d2):Nat):Int) != (2:Int))=false)then
 Option.bind (qD k d1) fun r4=>
 if((!r4)=true)then
 (some false)
 else
 Option.bind (qq k k (2:Int) true true false false (0:Int) f0 f1 f2 f3 f4 d0 d1 d2 d3 d4 d5 d6 d7 d8 d9 d10 d11 d12) fun r5=>
 qc r5
 (fun r5=>
 (some r5.1))
 (qf k)
 else
 (some false)
 else
 if((d0 == (100:Int))=true)then
 if(((((List.length d2):Nat):Int) != (2:Int))=false)then
 Option.bind (qD k d1) fun r4=>
 if((!r4)=true)then
 (some false)
 else
 Option.bind (qq k k (2:Int) false false false true (0:Int) f0 f1 f2 f3 f4 d0 d1 d2 d3 d4 d5 d6 d7 d8 d9 d10 d11 d12) fun r5=>
 qc r5
 (fun r5=>
 (some r5.1))
 (qf k)
 else
 (some false)
 else
 if((d0 == (115:Int))=true)then
 if(((((List.length d2):Nat):Int) != (4:Int))=false)then
 Option.bind (qD k d1) fun r4=>
 if((!r4)=true)then
 (some false)
 else
 Option.bind (qq k k (4:Int) false false false true (0:Int) f0 f1 f2 f3 f4 d0 d1 d2 d3 d4 d5 d6 d7 d8 d9 d10 d11 d12) fun r5=>
 qc r5
 (fun r5=>
 (some r5.1))
 (qf k)
 else
 (some false)
 else
 (some false)
def qdc:Nat→List ByteArray→List DvT→Int→Int→Int→Int→ByteArray→List Int→Int→Int→Int→Int→List (Int×Int)→List Int→ByteArray→Int→List (Int×Int)→List (Int×Int)→Option (Bool)
 | 0,_,_,_,_,_,_,_,_,_,_,_,_,_,_,_,_,_,_=>none
 | k+1,f0,f1,f2,f3,f4,d0,d1,d2,d3,d4,d5,d6,d7,d8,d9,d10,d11,d12=>qfx k f0 f1 f2 f3 f4 d0 d1 d2 d3 d4 d5 d6 d7 d8 d9 d10 d11 d12
def qxS:Nat→Inst:=mkI 68 ⟨[.g [.lf (.sl .str),.lf (.sl qC),.lf (.int .i64),.lf (.int .i64),.lf (.int .i64)],.g [.lf (.int .u8),.lf .str,.lf (.sl (.int .i64)),.lf (.int .i64),.lf (.int .i64),.lf (.int .i64),.lf (.int .i64),.lf cE,.lf (.sl (.int .i64)),.lf .str,.lf (.int .u8),.lf cE,.lf cE]],[]⟩ [⟨[vB],[]⟩] fun k x=>qdc k x.1 x.2.1 x.2.2.1 x.2.2.2.1 x.2.2.2.2.1 x.2.2.2.2.2.1 x.2.2.2.2.2.2.1 x.2.2.2.2.2.2.2.1 x.2.2.2.2.2.2.2.2.1 x.2.2.2.2.2.2.2.2.2.1 x.2.2.2.2.2.2.2.2.2.2.1 x.2.2.2.2.2.2.2.2.2.2.2.1 x.2.2.2.2.2.2.2.2.2.2.2.2.1 x.2.2.2.2.2.2.2.2.2.2.2.2.2.1 x.2.2.2.2.2.2.2.2.2.2.2.2.2.2.1 x.2.2.2.2.2.2.2.2.2.2.2.2.2.2.2.1 x.2.2.2.2.2.2.2.2.2.2.2.2.2.2.2.2.1 x.2.2.2.2.2.2.2.2.2.2.2.2.2.2.2.2.2
theorem qt3 (k:Nat):qaH (call cf k) [qsQ k,qnf k,qxz k,qxG k,qxN k,qxR k]:=
 ac (qtX k) (ac (qmi k) (ac (qz9 k) (ac (qt0 k) (ac (qAf k) (ac (qt2 k) a0)))))
def qxT (k:Nat):LInst:=mkL 1 [⟨[(2,.a (.ptr 0 0 0)),(3,.a (.ptr 1 0 0)),(5,vI),(6,vB),(7,vB),(8,vB),(9,vB),(10,vI)],[(0,some (.raw [[.lf (.sl .str),.lf (.sl qC),.lf (.int .i64),.lf (.int .i64),.lf (.int .i64)]] 5 27 true false false)),(1,some (.raw [[.lf (.int .u8),.lf .str,.lf (.sl (.int .i64)),.lf (.int .i64),.lf (.int .i64),.lf (.int .i64),.lf (.int .i64),.lf cE,.lf (.sl (.int .i64)),.lf .str,.lf (.int .u8),.lf cE,.lf cE]] 13 48 true false false))],2⟩] [⟨none,⟨[(4,vB)],[(0,some (.raw [[.lf (.sl .str),.lf (.sl qC),.lf (.int .i64),.lf (.int .i64),.lf (.int .i64)]] 5 27 true false false)),(1,some (.raw [[.lf (.int .u8),.lf .str,.lf (.sl (.int .i64)),.lf (.int .i64),.lf (.int .i64),.lf (.int .i64),.lf (.int .i64),.lf cE,.lf (.sl (.int .i64)),.lf .str,.lf (.int .u8),.lf cE,.lf cE]] 13 48 true false false))],2⟩⟩,⟨some 1,⟨[(2,.a (.ptr 0 0 0)),(3,.a (.ptr 1 0 0)),(6,vB),(7,vB),(8,vB),(9,vB)],[(0,some (.raw [[.lf (.sl .str),.lf (.sl qC),.lf (.int .i64),.lf (.int .i64),.lf (.int .i64)]] 5 27 true false false)),(1,some (.raw [[.lf (.int .u8),.lf .str,.lf (.sl (.int .i64)),.lf (.int .i64),.lf (.int .i64),.lf (.int .i64),.lf (.int .i64),.lf cE,.lf (.sl (.int .i64)),.lf .str,.lf (.int .u8),.lf cE,.lf cE]] 13 48 true false false))],2⟩⟩] (fun n x=>qq k n x.1 x.2.1 x.2.2.1 x.2.2.2.1 x.2.2.2.2.1 x.2.2.2.2.2.1 x.2.2.2.2.2.2.1 x.2.2.2.2.2.2.2.1 x.2.2.2.2.2.2.2.2.1 x.2.2.2.2.2.2.2.2.2.1 x.2.2.2.2.2.2.2.2.2.2.1 x.2.2.2.2.2.2.2.2.2.2.2.1 x.2.2.2.2.2.2.2.2.2.2.2.2.1 x.2.2.2.2.2.2.2.2.2.2.2.2.2.1 x.2.2.2.2.2.2.2.2.2.2.2.2.2.2.1 x.2.2.2.2.2.2.2.2.2.2.2.2.2.2.2.1 x.2.2.2.2.2.2.2.2.2.2.2.2.2.2.2.2.1 x.2.2.2.2.2.2.2.2.2.2.2.2.2.2.2.2.2.1 x.2.2.2.2.2.2.2.2.2.2.2.2.2.2.2.2.2.2.1 x.2.2.2.2.2.2.2.2.2.2.2.2.2.2.2.2.2.2.2.1 x.2.2.2.2.2.2.2.2.2.2.2.2.2.2.2.2.2.2.2.2.1 x.2.2.2.2.2.2.2.2.2.2.2.2.2.2.2.2.2.2.2.2.2.1 x.2.2.2.2.2.2.2.2.2.2.2.2.2.2.2.2.2.2.2.2.2.2.1 x.2.2.2.2.2.2.2.2.2.2.2.2.2.2.2.2.2.2.2.2.2.2.2) k
theorem qxU (k:Nat):LIo 68 Tryz.f68 0 k (qxT k):=
 lpk [] (qt3 k) l0 (fun _=>rfl) (by kernel_rfl) fun n x=>by kernel_rfl
theorem qAg:∀k,qg (call cf k) (qxS k):=
 fnk 0 [1] Tryz.func68 (fun k=>(qt3 k)) (fun k=>(lc (qxU k) l0)) ⟨rfl,rfl,⟨rfl,Nat.le_of_ble_eq_true rfl⟩,rfl⟩ (fun _=>rfl) (by kernel_rfl) fun k x=>by kernel_rfl

def qbo (k:Nat) (rec:ByteArray→List ByteArray→Int→Option ((Bool) ⊕ (Unit))) (s:ByteArray) (l:List ByteArray) (i:Int):Option ((Bool) ⊕ (Unit)):=
 if((decide (i<(((List.length l):Nat):Int)))=true)then
 if((0:Int)≤i)then
 Option.bind (l)[(Int.toNat i)]? fun x2=>
 if(((Array.toList (ByteArray.data x2)) == (Array.toList (ByteArray.data s)))=true)then
 (some (Sum.inl true))
 else
 rec s l (IntKind.wrap .i64 (i+(1:Int)))
 else
 none
 else
 (some (Sum.inr ()))
def qaw (k n:Nat):ByteArray→List ByteArray→Int→Option ((Bool) ⊕ (Unit)):=Nat.rec (fun _ _ _=>none) (fun _ r=>qbo k r) n
def qf9 (k:Nat) (s:ByteArray) (l:List ByteArray):Option (Bool):=
 Option.bind (qaw k k s l (0:Int)) fun r6=>
 qc r6
 (fun r6=>
 (some r6))
 (fun r6=>
 (some false))
def qdz:Nat→ByteArray→List ByteArray→Option (Bool)
 | 0,_,_=>none
 | k+1,s,l=>qf9 k s l
def qxV:Nat→Inst:=mkI 127 ⟨[vS,vR],[]⟩ [⟨[vB],[]⟩] fun k x=>qdz k x.1 x.2
def qxW (k:Nat):LInst:=mkL 0 [⟨[(0,vS),(1,vR),(5,vI)],[],0⟩] [⟨none,⟨[(4,vB)],[],0⟩⟩,⟨some 0,⟨[],[],0⟩⟩] (fun n x=>qaw k n x.1 x.2.1 x.2.2) k
theorem qxX (k:Nat):LIo 127 Tryz.f127 0 k (qxW k):=
 lpk [] a0 l0 (fun _=>rfl) (by kernel_rfl) fun n x=>by kernel_rfl
theorem qAh:∀k,qg (call cf k) (qxV k):=
 fnk 0 [0] Tryz.func127 (fun k=>a0) (fun k=>(lc (qxX k) l0)) ⟨rfl,rfl,⟨rfl,Nat.le_of_ble_eq_true rfl⟩,rfl⟩ (fun _=>rfl) (by kernel_rfl) fun k x=>by kernel_rfl

def qaY (k:Nat) (rec:List ByteArray→Int→Option ((Bool) ⊕ (Unit))) (l:List ByteArray) (i:Int):Option ((Bool) ⊕ (Unit)):=
 if((decide (i<(((List.length l):Nat):Int)))=true)then
 if((0:Int)≤i)then
 Option.bind (l)[(Int.toNat i)]? fun x1=>
 if(((0:Int)≤(0:Int))∧(((0:Int)≤i)∧(i≤(((List.length l):Nat):Int))))then
 Option.bind (qdz k x1 (List.take (Int.toNat i) l)) fun r6=>
 if(r6=true)then
 (some (Sum.inl true))
 else
 rec l (IntKind.wrap .i64 (i+(1:Int)))
 else
 none
 else
 none
 else
 (some (Sum.inr ()))
def qai (k n:Nat):List ByteArray→Int→Option ((Bool) ⊕ (Unit)):=Nat.rec (fun _ _=>none) (fun _ r=>qaY k r) n
def qfy (k:Nat) (l:List ByteArray):Option (Bool):=
 Option.bind (qai k k l (0:Int)) fun r6=>
 qc r6
 (fun r6=>
 (some r6))
 (fun r6=>
 (some false))
def qbP:Nat→List ByteArray→Option (Bool)
 | 0,_=>none
 | k+1,l=>qfy k l
def qxY:Nat→Inst:=mkI 70 ⟨[vR],[]⟩ [⟨[vB],[]⟩] fun k x=>qbP k x
theorem qt4 (k:Nat):qaH (call cf k) [qxV k]:=
 ac (qAh k) a0
def qxZ (k:Nat):LInst:=mkL 0 [⟨[(0,vR),(3,vI)],[],0⟩] [⟨none,⟨[(2,vB)],[],0⟩⟩,⟨some 0,⟨[],[],0⟩⟩] (fun n x=>qai k n x.1 x.2) k
theorem qx0 (k:Nat):LIo 70 Tryz.f70 0 k (qxZ k):=
 lpk [] (qt4 k) l0 (fun _=>rfl) (by kernel_rfl) fun n x=>by kernel_rfl
theorem qAi:∀k,qg (call cf k) (qxY k):=
 fnk 0 [0] Tryz.func70 (fun k=>(qt4 k)) (fun k=>(lc (qx0 k) l0)) ⟨rfl,rfl,⟨rfl,Nat.le_of_ble_eq_true rfl⟩,rfl⟩ (fun _=>rfl) (by kernel_rfl) fun k x=>by kernel_rfl

def qep (k:Nat) (kind:Int):Option (Bool):=
 if((kind == (118:Int))=false)then
 if((kind == (101:Int))=false)then
 if((kind == (104:Int))=false)then
 if((kind == (99:Int))=false)then
 if((kind == (108:Int))=false)then
 (some (kind == (116:Int)))
 else
 (some true)
 else
 (some true)
 else
 (some true)
 else
 (some true)
 else
 (some true)
def qdi:Nat→Int→Option (Bool)
 | 0,_=>none
 | k+1,kind=>qep k kind
def qx1:Nat→Inst:=mkI 128 ⟨[.a (.lf (.int .u8))],[]⟩ [⟨[vB],[]⟩] fun k x=>qdi k x
theorem qAj:∀k,qg (call cf k) (qx1 k):=
 fnk 0 [] Tryz.func128 (fun k=>a0) (fun k=>l0) ⟨rfl,rfl,⟨rfl,Nat.le_of_ble_eq_true rfl⟩,rfl⟩ (fun _=>rfl) (by kernel_rfl) fun k x=>by kernel_rfl

def qcp (k:Nat) (rec:Int→Nat→Int→List ByteArray→List DvT→Int→Int→Int→List Int→Option (Int×Nat×List ByteArray×List DvT×Int×Int×Int×List Int)) (n:Int) (b:Nat) (i:Int) (f0:List ByteArray) (f1:List DvT) (f2:Int) (f3:Int) (f4:Int) (bs:List Int):Option (Int×Nat×List ByteArray×List DvT×Int×Int×Int×List Int):=
 if((decide (i<(((List.length f1):Nat):Int)))=true)then
 if((0:Int)≤i)then
 Option.bind (f1)[(Int.toNat i)]? fun x1=>
 Option.bind (qdi k x1.1) fun r8=>
 if(r8=true)then
 if(b≤(List.length bs))then
 if(((b+(List.length (List.take 1 (n:: []))))*8)≤140737488355328)then
 rec (IntKind.wrap .i64 (n+(1:Int))) (b+(List.length (List.take 1 (n:: [])))) (IntKind.wrap .i64 (i+(1:Int))) f0 f1 f2 f3 f4 ((List.take b bs)++(List.take 1 (n:: [])))
 else
 none
 else
 none
 else
 if(b≤(List.length bs))then
 if(((b+1)*8)≤140737488355328)then
 rec n (b+1) (IntKind.wrap .i64 (i+(1:Int))) f0 f1 f2 f3 f4 ((List.take b bs)++(List.take 1 ((-(1:Int)):: [])))
 else
 none
 else
 none
 else
 none
 else
 (some (n,b,f0,f1,f2,f3,f4,bs))
def qbp (k n:Nat):Int→Nat→Int→List ByteArray→List DvT→Int→Int→Int→List Int→Option (Int×Nat×List ByteArray×List DvT×Int×Int×Int×List Int):=Nat.rec (fun _ _ _ _ _ _ _ _ _=>none) (fun _ r=>qcp k r) n
def qfz (k:Nat) (f0:List ByteArray) (f1:List DvT) (f2:Int) (f3:Int) (f4:Int):Option (Int×List Int):=
 Option.bind (qbp k k (IntKind.wrap .i64 ((((List.length f0):Nat):Int)-(1:Int))) 0 (0:Int) f0 f1 f2 f3 f4 []) fun r8=>
 if((0+r8.2.1)≤(List.length r8.2.2.2.2.2.2.2))then
 (some (r8.1,(List.take r8.2.1 r8.2.2.2.2.2.2.2)))
 else
 none
def qdd:Nat→List ByteArray→List DvT→Int→Int→Int→Option (Int×List Int)
 | 0,_,_,_,_,_=>none
 | k+1,f0,f1,f2,f3,f4=>qfz k f0 f1 f2 f3 f4
def qx2:Nat→Inst:=mkI 71 ⟨[.g [.lf (.sl .str),.lf (.sl qC),.lf (.int .i64),.lf (.int .i64),.lf (.int .i64)]],[]⟩ [⟨[vI,vJ],[]⟩] fun k x=>qdd k x.1 x.2.1 x.2.2.1 x.2.2.2.1 x.2.2.2.2
theorem qt5 (k:Nat):qaH (call cf k) [qx1 k]:=
 ac (qAj k) a0
def qx3 (k:Nat):LInst:=mkL 0 [⟨[(1,.a (.ptr 0 0 0)),(4,vI),(5,.a (.smz 1)),(6,vI)],[(0,some (.raw [[.lf (.sl .str),.lf (.sl qC),.lf (.int .i64),.lf (.int .i64),.lf (.int .i64)]] 5 27 true false false)),(1,some (.arr (.int .i64) 1 3 false))],2⟩] [⟨some 0,⟨[(4,vI),(5,.a (.smz 1))],[(0,some (.raw [[.lf (.sl .str),.lf (.sl qC),.lf (.int .i64),.lf (.int .i64),.lf (.int .i64)]] 5 27 true false false)),(1,some (.arr (.int .i64) 1 3 false))],2⟩⟩] (fun n x=>qbp k n x.1 x.2.1 x.2.2.1 x.2.2.2.1 x.2.2.2.2.1 x.2.2.2.2.2.1 x.2.2.2.2.2.2.1 x.2.2.2.2.2.2.2.1 x.2.2.2.2.2.2.2.2) k
theorem qx4 (k:Nat):LIo 71 Tryz.f71 0 k (qx3 k):=
 lpk [] (qt5 k) l0 (fun _=>rfl) (by kernel_rfl) fun n x=>by kernel_rfl
theorem qAk:∀k,qg (call cf k) (qx2 k):=
 fnk 0 [0] Tryz.func71 (fun k=>(qt5 k)) (fun k=>(lc (qx4 k) l0)) ⟨rfl,rfl,⟨rfl,Nat.le_of_ble_eq_true rfl⟩,rfl⟩ (fun _=>rfl) (by kernel_rfl) fun k x=>by kernel_rfl

def qaZ (k:Nat) (rec:Nat→Int→List ByteArray→List DvT→Int→Int→Int→List ByteArray→Option ((Int×List ByteArray×List DvT×Int×Int×Int×List ByteArray) ⊕ (Nat×List ByteArray×List DvT×Int×Int×Int×List ByteArray))) (qbv:Nat) (i:Int) (f0:List ByteArray) (f1:List DvT) (f2:Int) (f3:Int) (f4:Int) (namess:List ByteArray):Option ((Int×List ByteArray×List DvT×Int×Int×Int×List ByteArray) ⊕ (Nat×List ByteArray×List DvT×Int×Int×Int×List ByteArray)):=
 if((decide (i<(((List.length f1):Nat):Int)))=true)then
 if((0:Int)≤i)then
 Option.bind (f1)[(Int.toNat i)]? fun x1=>
 Option.bind (qdc k f0 f1 f2 f3 f4 x1.1 x1.2.1 x1.2.2.1 x1.2.2.2.1 x1.2.2.2.2.1.1 x1.2.2.2.2.1.2 x1.2.2.2.2.2.1.1 x1.2.2.2.2.2.1.2.1 x1.2.2.2.2.2.1.2.2 x1.2.2.2.2.2.2.1 x1.2.2.2.2.2.2.2.1 x1.2.2.2.2.2.2.2.2.1 x1.2.2.2.2.2.2.2.2.2) fun r4=>
 if((!r4)=true)then
 (some (Sum.inl ((90:Int),f0,f1,f2,f3,f4,namess)))
 else
 if((0:Int)≤i)then
 Option.bind (f1)[(Int.toNat i)]? fun x2=>
 if(qbv≤(List.length namess))then
 if(((qbv+(List.length (List.take 1 (x2.2.1:: []))))*16)≤140737488355328)then
 rec (qbv+(List.length (List.take 1 (x2.2.1:: [])))) (IntKind.wrap .i64 (i+(1:Int))) f0 f1 f2 f3 f4 ((List.take qbv namess)++(List.take 1 (x2.2.1:: [])))
 else
 none
 else
 none
 else
 none
 else
 none
 else
 (some (Sum.inr (qbv,f0,f1,f2,f3,f4,namess)))
def qaj (k n:Nat):Nat→Int→List ByteArray→List DvT→Int→Int→Int→List ByteArray→Option ((Int×List ByteArray×List DvT×Int×Int×Int×List ByteArray) ⊕ (Nat×List ByteArray×List DvT×Int×Int×Int×List ByteArray)):=Nat.rec (fun _ _ _ _ _ _ _ _=>none) (fun _ r=>qaZ k r) n
def qa0 (k:Nat) (rec:Nat→Int→List ByteArray→List DvT→Int→Int→Int→List ByteArray→Option ((Int×List ByteArray×List DvT×Int×Int×Int×List ByteArray) ⊕ (Nat×List ByteArray×List DvT×Int×Int×Int×List ByteArray))) (qbv:Nat) (i:Int) (f0:List ByteArray) (f1:List DvT) (f2:Int) (f3:Int) (f4:Int) (namess:List ByteArray):Option ((Int×List ByteArray×List DvT×Int×Int×Int×List ByteArray) ⊕ (Nat×List ByteArray×List DvT×Int×Int×Int×List ByteArray)):=
 if((decide (i<(((List.length f0):Nat):Int)))=true)then
 if((0:Int)≤i)then
 Option.bind (f0)[(Int.toNat i)]? fun x1=>
 Option.bind (qD k x1) fun r5=>
 if((!r5)=true)then
 (some (Sum.inl ((90:Int),f0,f1,f2,f3,f4,namess)))
 else
 rec qbv (IntKind.wrap .i64 (i+(1:Int))) f0 f1 f2 f3 f4 namess
 else
 none
 else
 (some (Sum.inr (qbv,f0,f1,f2,f3,f4,namess)))
def qL (k n:Nat):Nat→Int→List ByteArray→List DvT→Int→Int→Int→List ByteArray→Option ((Int×List ByteArray×List DvT×Int×Int×Int×List ByteArray) ⊕ (Nat×List ByteArray×List DvT×Int×Int×Int×List ByteArray)):=Nat.rec (fun _ _ _ _ _ _ _ _=>none) (fun _ r=>qa0 k r) n
def qfA (k:Nat) (f0:List ByteArray) (f1:List DvT) (f2:Int) (f3:Int) (f4:Int):Option (Int):=
 Option.bind (qaD k f2 f3) fun r3=>
 if((!r3)=false)then
 if((decide (f2<(1:Int)))=false)then
 if((decide (f4<(1:Int)))=false)then
 if((decide (f4>(2:Int)))=false)then
 if((decide ((((List.length f0):Nat):Int)<(1:Int)))=false)then
 if((decide ((((List.length f0):Nat):Int)>(32:Int)))=false)then
 if((decide ((((List.length f1):Nat):Int)>(64:Int)))=false)then
 Option.bind (f0)[0]? fun x=>
 if((!((Array.toList (ByteArray.data x)) == (Array.toList (ByteArray.data (ByteArray.mk (List.toArray (48:: [])))))))=true)then
 (some (90:Int))
 else
 Option.bind (qaj k k 0 (0:Int) f0 f1 f2 f3 f4 []) fun r4=>
 qc r4
 (fun r4=>
 (some r4.1))
 (fun r4=>
 Option.bind (qL k k r4.1 (0:Int) r4.2.1 r4.2.2.1 r4.2.2.2.1 r4.2.2.2.2.1 r4.2.2.2.2.2.1 r4.2.2.2.2.2.2) fun r5=>
 qc r5
 (fun r5=>
 (some r5.1))
 (fun r5=>
 if((0+r5.1)≤(List.length r5.2.2.2.2.2.2))then
 Option.bind (qbP k (List.take r5.1 r5.2.2.2.2.2.2)) fun r6=>
 if(r6=false)then
 Option.bind (qbP k r5.2.1) fun r7=>
 if(r7=true)then
 (some (90:Int))
 else
 Option.bind (qdd k r5.2.1 r5.2.2.1 r5.2.2.2.1 r5.2.2.2.2.1 r5.2.2.2.2.2.1) fun r8=>
 if((decide (r8.1>(48:Int)))=true)then
 (some (5:Int))
 else
 (some (0:Int))
 else
 (some (90:Int))
 else
 none))
 else
 (some (90:Int))
 else
 (some (90:Int))
 else
 (some (90:Int))
 else
 (some (90:Int))
 else
 (some (90:Int))
 else
 (some (90:Int))
 else
 (some (90:Int))
def qdX:Nat→List ByteArray→List DvT→Int→Int→Int→Option (Int)
 | 0,_,_,_,_,_=>none
 | k+1,f0,f1,f2,f3,f4=>qfA k f0 f1 f2 f3 f4
def qBe:Nat→Inst:=mkI 24 ⟨[.g [.lf (.sl .str),.lf (.sl qC),.lf (.int .i64),.lf (.int .i64),.lf (.int .i64)]],[]⟩ [⟨[vI],[]⟩] fun k x=>qdX k x.1 x.2.1 x.2.2.1 x.2.2.2.1 x.2.2.2.2
theorem qpI (k:Nat):qaH (call cf k) [qnf k,qxS k,qsQ k,qxY k,qx2 k]:=
 ac (qmi k) (ac (qAg k) (ac (qtX k) (ac (qAi k) (ac (qAk k) a0))))
def qx5 (k:Nat):LInst:=mkL 0 [⟨[(1,.a (.ptr 0 0 0)),(3,.a (.smz 1)),(4,vI)],[(0,some (.raw [[.lf (.sl .str),.lf (.sl qC),.lf (.int .i64),.lf (.int .i64),.lf (.int .i64)]] 5 27 true false false)),(1,some (.arr .str 1 9 false))],2⟩] [⟨none,⟨[(2,vI)],[(0,some (.raw [[.lf (.sl .str),.lf (.sl qC),.lf (.int .i64),.lf (.int .i64),.lf (.int .i64)]] 5 27 true false false)),(1,some (.arr .str 1 9 false))],2⟩⟩,⟨some 0,⟨[(1,.a (.ptr 0 0 0)),(3,.a (.smz 1))],[(0,some (.raw [[.lf (.sl .str),.lf (.sl qC),.lf (.int .i64),.lf (.int .i64),.lf (.int .i64)]] 5 27 true false false)),(1,some (.arr .str 1 9 false))],2⟩⟩] (fun n x=>qaj k n x.1 x.2.1 x.2.2.1 x.2.2.2.1 x.2.2.2.2.1 x.2.2.2.2.2.1 x.2.2.2.2.2.2.1 x.2.2.2.2.2.2.2) k
theorem qq9 (k:Nat):LIo 24 Tryz.f24 0 k (qx5 k):=
 lpk [] (qpI k) l0 (fun _=>rfl) (by kernel_rfl) fun n x=>by kernel_rfl
def qx6 (k:Nat):LInst:=mkL 2 [⟨[(1,.a (.ptr 0 0 0)),(3,.a (.smz 1)),(5,vI)],[(0,some (.raw [[.lf (.sl .str),.lf (.sl qC),.lf (.int .i64),.lf (.int .i64),.lf (.int .i64)]] 5 27 true false false)),(1,some (.arr .str 1 9 false))],2⟩] [⟨none,⟨[(2,vI)],[(0,some (.raw [[.lf (.sl .str),.lf (.sl qC),.lf (.int .i64),.lf (.int .i64),.lf (.int .i64)]] 5 27 true false false)),(1,some (.arr .str 1 9 false))],2⟩⟩,⟨some 2,⟨[(1,.a (.ptr 0 0 0)),(3,.a (.smz 1))],[(0,some (.raw [[.lf (.sl .str),.lf (.sl qC),.lf (.int .i64),.lf (.int .i64),.lf (.int .i64)]] 5 27 true false false)),(1,some (.arr .str 1 9 false))],2⟩⟩] (fun n x=>qL k n x.1 x.2.1 x.2.2.1 x.2.2.2.1 x.2.2.2.2.1 x.2.2.2.2.2.1 x.2.2.2.2.2.2.1 x.2.2.2.2.2.2.2) k
theorem qx7 (k:Nat):LIo 24 Tryz.f24 0 k (qx6 k):=
 lpk [] (qpI k) (lc (qq9 k) l0) (fun _=>rfl) (by kernel_rfl) fun n x=>by kernel_rfl
theorem qAl:∀k,qg (call cf k) (qBe k):=
 fnk 0 [0,2] Tryz.func24 (fun k=>(qpI k)) (fun k=>(lc (qq9 k) (lc (qx7 k) l0))) ⟨rfl,rfl,⟨rfl,Nat.le_of_ble_eq_true rfl⟩,rfl⟩ (fun _=>rfl) (by kernel_rfl) fun k x=>by kernel_rfl

def qgC (k:Nat) (f0:List ByteArray) (f1:List DvT) (f2:Int) (f3:Int) (f4:Int) (mode:Int):Option (Int):=
 Option.bind (qeH k f0 f1 f2 f3 f4) fun r=>
 if((r != (0:Int))=true)then
 (some r)
 else
 if((mode != (1:Int))=true)then
 if((mode != (2:Int))=true)then
 (some (110:Int))
 else
 (some (0:Int))
 else
 (some (0:Int))
def qeq:Nat→List ByteArray→List DvT→Int→Int→Int→Int→Option (Int)
 | 0,_,_,_,_,_,_=>none
 | k+1,f0,f1,f2,f3,f4,mode=>qgC k f0 f1 f2 f3 f4 mode
def qsR:Nat→Inst:=mkI 57 ⟨[.g [.lf (.sl .str),.lf (.sl qC),.lf (.int .i64),.lf (.int .i64),.lf (.int .i64)],vI],[]⟩ [⟨[vI],[]⟩] fun k x=>qeq k x.1 x.2.1 x.2.2.1 x.2.2.2.1 x.2.2.2.2.1 x.2.2.2.2.2
theorem qt6:∀k,qg (call cf k) (qsR k):=
 fnk 0 [] Tryz.func57 (fun k=>(ac (qz0 k) a0)) (fun k=>l0) ⟨rfl,rfl,⟨rfl,Nat.le_of_ble_eq_true rfl⟩,rfl⟩ (fun _=>rfl) (by kernel_rfl) fun k x=>by kernel_rfl

def qdA (k:Nat) (rec:Nat→Int→Int→List Int→Option (Nat×List Int)) (s:Nat) (x:Int) (x1:Int) (ss:List Int):Option (Nat×List Int):=
 if((decide (x1<x))=true)then
 if(((0:Int)≤x1)∧(x1<((s:Nat):Int)))then
 Option.bind (ss)[(0+(Int.toNat x1))]? fun x2=>
 rec s x (IntKind.wrap .i64 (x1+(1:Int))) (List.set ss (0+(Int.toNat x1)) x1)
 else
 none
 else
 (some (s,ss))
def qcq (k n:Nat):Nat→Int→Int→List Int→Option (Nat×List Int):=Nat.rec (fun _ _ _ _=>none) (fun _ r=>qdA k r) n
def qhd (k:Nat) (n:Int):Option (Nat×List Int):=
 if(((0:Int)≤n)∧((n≤n)∧((n*(8:Int))≤(140737488355328:Int))))then
 Option.bind (qcq k k (Int.toNat n) n (0:Int) (List.replicate (Int.toNat n) (0:Int))) fun r1=>
 (some (r1.1,r1.2))
 else
 none
def qeC:Nat→Int→Option (Nat×List Int)
 | 0,_=>none
 | k+1,n=>qhd k n
def qsS:Nat→Inst:=mkI 58 ⟨[vI],[]⟩ [⟨[.a (.smz 0)],[.arr (.int .i64) 1 3 false]⟩] fun k x=>qeC k x
def qx8 (k:Nat):LInst:=mkL 0 [⟨[(3,.a (.smz 0)),(7,vI),(8,vI)],[(0,some (.arr (.int .i64) 1 3 false))],1⟩] [⟨some 0,⟨[(3,.a (.smz 0))],[(0,some (.arr (.int .i64) 1 3 false))],1⟩⟩] (fun n x=>qcq k n x.1 x.2.1 x.2.2.1 x.2.2.2) k
theorem qx9 (k:Nat):LIo 58 Tryz.f58 0 k (qx8 k):=
 lpk [] a0 l0 (fun _=>rfl) (by kernel_rfl) fun n x=>by kernel_rfl
theorem qt7:∀k,qg (call cf k) (qsS k):=
 fnk 0 [0] Tryz.func58 (fun k=>a0) (fun k=>(lc (qx9 k) l0)) ⟨rfl,rfl,⟨rfl,Nat.le_of_ble_eq_true rfl⟩,rfl⟩ (fun _=>rfl) (by kernel_rfl) fun k x=>by kernel_rfl

def qam (k:Nat) (rec:Nat→Int→List Int→Option (Int×List Int)) (s:Nat) (i:Int) (ss:List Int):Option (Int×List Int):=
 if(((0:Int)≤i)∧(i<((s:Nat):Int)))then
 Option.bind (ss)[(0+(Int.toNat i))]? fun x6=>
 if((x6 != i)=true)then
 if(((0:Int)≤i)∧(i<((s:Nat):Int)))then
 Option.bind (ss)[(0+(Int.toNat i))]? fun x7=>
 if(((0:Int)≤x7)∧(x7<((s:Nat):Int)))then
 Option.bind (ss)[(0+(Int.toNat x7))]? fun x8=>
 if(((0:Int)≤i)∧(i<((s:Nat):Int)))then
 Option.bind (ss)[(0+(Int.toNat i))]? fun x9=>
 if(((0:Int)≤i)∧(i<((s:Nat):Int)))then
 Option.bind ((List.set ss (0+(Int.toNat i)) x8))[(0+(Int.toNat i))]? fun x10=>
 rec s x10 (List.set ss (0+(Int.toNat i)) x8)
 else
 none
 else
 none
 else
 none
 else
 none
 else
 (some (i,ss))
 else
 none
def qO (k n:Nat):Nat→Int→List Int→Option (Int×List Int):=Nat.rec (fun _ _ _=>none) (fun _ r=>qam k r) n
def qer (k:Nat) (s:Nat) (i:Int) (ss:List Int):Option (Int×List Int):=
 Option.bind (qO k k s i ss) fun r3=>
 (some (r3.1,r3.2))
def qa1:Nat→Nat→Int→List Int→Option (Int×List Int)
 | 0,_,_,_=>none
 | k+1,s,i,ss=>qer k s i ss
def qgD:Nat→Inst:=mkI 61 ⟨[.a (.smz 0),vI],[.arr (.int .i64) 1 3 false]⟩ [⟨[vI],[.arr (.int .i64) 1 3 false]⟩] fun k x=>qa1 k x.1 x.2.1 x.2.2
def qhJ (k:Nat):LInst:=mkL 0 [⟨[(0,.a (.smz 0)),(1,vI)],[(0,some (.arr (.int .i64) 1 3 false))],1⟩] [⟨some 0,⟨[(1,vI)],[(0,some (.arr (.int .i64) 1 3 false))],1⟩⟩] (fun n x=>qO k n x.1 x.2.1 x.2.2) k
theorem qhK (k:Nat):LIo 61 Tryz.f61 1 k (qhJ k):=
 lpk [] a0 l0 (fun _=>rfl) (by kernel_rfl) fun n x=>by kernel_rfl
theorem qgl:∀k,qg (call cf k) (qgD k):=
 fnk 1 [0] Tryz.func61 (fun k=>a0) (fun k=>(lc (qhK k) l0)) ⟨rfl,rfl,⟨rfl,Nat.le_of_ble_eq_true rfl⟩,rfl⟩ (fun _=>rfl) (by kernel_rfl) fun k x=>by kernel_rfl

def qes (k:Nat) (s:Nat) (a:Int) (b:Int) (ss:List Int):Option (Bool×List Int):=
 Option.bind (qa1 k s a ss) fun r3=>
 Option.bind (qa1 k s b r3.2) fun r4=>
 if(((0:Int)≤r3.1)∧(r3.1<((s:Nat):Int)))then
 Option.bind (r4.2)[(0+(Int.toNat r3.1))]? fun x6=>
 (some ((r3.1 != r4.1),(List.set r4.2 (0+(Int.toNat r3.1)) r4.1)))
 else
 none
def qaa:Nat→Nat→Int→Int→List Int→Option (Bool×List Int)
 | 0,_,_,_,_=>none
 | k+1,s,a,b,ss=>qes k s a b ss
def qet:Nat→Inst:=mkI 60 ⟨[.a (.smz 0),vI,vI],[.arr (.int .i64) 1 3 false]⟩ [⟨[vB],[.arr (.int .i64) 1 3 false]⟩] fun k x=>qaa k x.1 x.2.1 x.2.2.1 x.2.2.2
theorem qgm:∀k,qg (call cf k) (qet k):=
 fnk 1 [] Tryz.func60 (fun k=>(ac (qgl k) a0)) (fun k=>l0) ⟨rfl,rfl,⟨rfl,Nat.le_of_ble_eq_true rfl⟩,rfl⟩ (fun _=>rfl) (by kernel_rfl) fun k x=>by kernel_rfl

def qbU (k:Nat) (rec:Nat→ByteArray→List DvT→Int→Int→List ByteArray→List DvT→Int→Int→Int→List Int→Option (Nat×List ByteArray×List DvT×Int×Int×Int×List Int)) (s:Nat) (first:ByteArray) (x:List DvT) (x1:Int) (x2:Int) (f0:List ByteArray) (f1:List DvT) (f2:Int) (f3:Int) (f4:Int) (ss:List Int):Option (Nat×List ByteArray×List DvT×Int×Int×Int×List Int):=
 if((decide (x2<x1))=true)then
 if((0:Int)≤x2)then
 Option.bind (x)[(Int.toNat x2)]? fun x3=>
 Option.bind (qas k first x3.1) fun r2=>
 if((decide (r2≥(0:Int)))=true)then
 Option.bind (x3.2.2.1)[0]? fun x4=>
 Option.bind (x3.2.2.1)[1]? fun x5=>
 Option.bind (qaa k s x4 x5 ss) fun r3=>
 Option.bind (qas k (ByteArray.mk (List.toArray (101::(103::(116:: []))))) x3.1) fun r4=>
 if((decide (r4≥(0:Int)))=true)then
 Option.bind (x3.2.2.1)[2]? fun x6=>
 Option.bind (x3.2.2.1)[3]? fun x7=>
 Option.bind (qaa k s x6 x7 r3.2) fun r5=>
 rec s first x x1 (IntKind.wrap .i64 (x2+(1:Int))) f0 f1 f2 f3 f4 r5.2
 else
 rec s first x x1 (IntKind.wrap .i64 (x2+(1:Int))) f0 f1 f2 f3 f4 r3.2
 else
 Option.bind (qas k (ByteArray.mk (List.toArray (101::(103::(116:: []))))) x3.1) fun r3=>
 if((decide (r3≥(0:Int)))=true)then
 Option.bind (x3.2.2.1)[2]? fun x4=>
 Option.bind (x3.2.2.1)[3]? fun x5=>
 Option.bind (qaa k s x4 x5 ss) fun r4=>
 rec s first x x1 (IntKind.wrap .i64 (x2+(1:Int))) f0 f1 f2 f3 f4 r4.2
 else
 rec s first x x1 (IntKind.wrap .i64 (x2+(1:Int))) f0 f1 f2 f3 f4 ss
 else
 none
 else
 (some (s,f0,f1,f2,f3,f4,ss))
def qbM (k n:Nat):Nat→ByteArray→List DvT→Int→Int→List ByteArray→List DvT→Int→Int→Int→List Int→Option (Nat×List ByteArray×List DvT×Int×Int×Int×List Int):=Nat.rec (fun _ _ _ _ _ _ _ _ _ _ _=>none) (fun _ r=>qbU k r) n
def qdO (k:Nat) (rec:Nat→Nat→Int→Int→List Int→List Int→Option (Nat×List Int×List Int)) (s:Nat) (l:Nat) (x:Int) (x1:Int) (ss:List Int) (ls:List Int):Option (Nat×List Int×List Int):=
 if((decide (x1<x))=true)then
 Option.bind (qa1 k s x1 ss) fun r3=>
 Option.bind (qa1 k s (0:Int) r3.2) fun r4=>
 if((r3.1 != r4.1)=true)then
 if(l≤(List.length ls))then
 if(((l+(List.length (List.take 1 (x1:: []))))*8)≤140737488355328)then
 rec s (l+(List.length (List.take 1 (x1:: [])))) x (IntKind.wrap .i64 (x1+(1:Int))) r4.2 ((List.take l ls)++(List.take 1 (x1:: [])))
 else
 none
 else
 none
 else
 rec s l x (IntKind.wrap .i64 (x1+(1:Int))) r4.2 ls
 else
 (some (l,ss,ls))
def qcc (k n:Nat):Nat→Nat→Int→Int→List Int→List Int→Option (Nat×List Int×List Int):=Nat.rec (fun _ _ _ _ _ _=>none) (fun _ r=>qdO k r) n
def qe7 (k:Nat) (f0:List ByteArray) (f1:List DvT) (f2:Int) (f3:Int) (f4:Int) (mode:Int):Option (Nat×Int×List Int):=
 Option.bind (qeq k f0 f1 f2 f3 f4 mode) fun r=>
 if((r != (0:Int))=true)then
 (some (0,r,[]))
 else
 Option.bind (qeC k (((List.length f0):Nat):Int)) fun r1=>
 if((mode == (2:Int))=true)then
 Option.bind (qbM k k r1.1 ((ByteArray.mk (List.toArray (114::(108::(118::(101::(104::(116::(100::(115:: []))))))))))++(ByteArray.mk (List.toArray (99:: [])))) f1 (((List.length f1):Nat):Int) (0:Int) f0 f1 f2 f3 f4 r1.2) fun r2=>
 Option.bind (qcc k k r2.1 0 (((List.length r2.2.1):Nat):Int) (0:Int) r2.2.2.2.2.2.2 []) fun r3=>
 (some (r3.1,(0:Int),r3.2.2))
 else
 Option.bind (qbM k k r1.1 (ByteArray.mk (List.toArray (114::(108::(118::(101::(104::(116::(100::(115:: [])))))))))) f1 (((List.length f1):Nat):Int) (0:Int) f0 f1 f2 f3 f4 r1.2) fun r2=>
 Option.bind (qcc k k r2.1 0 (((List.length r2.2.1):Nat):Int) (0:Int) r2.2.2.2.2.2.2 []) fun r3=>
 (some (r3.1,(0:Int),r3.2.2))
def qbb:Nat→List ByteArray→List DvT→Int→Int→Int→Int→Option (Nat×Int×List Int)
 | 0,_,_,_,_,_,_=>none
 | k+1,f0,f1,f2,f3,f4,mode=>qe7 k f0 f1 f2 f3 f4 mode
def qya:Nat→Inst:=mkI 16 ⟨[.g [.lf (.sl .str),.lf (.sl qC),.lf (.int .i64),.lf (.int .i64),.lf (.int .i64)],vI],[]⟩ [⟨[.a (.smz 0),vI],[.arr (.int .i64) 1 3 false]⟩] fun k x=>qbb k x.1 x.2.1 x.2.2.1 x.2.2.2.1 x.2.2.2.2.1 x.2.2.2.2.2
theorem qpJ (k:Nat):qaH (call cf k) [qsR k,qsS k,qsO k,qet k,qgD k]:=
 ac (qt6 k) (ac (qt7 k) (ac (qtJ k) (ac (qgm k) (ac (qgl k) a0))))
def qyb (k:Nat):LInst:=mkL 0 [⟨[(2,.a (.ptr 0 0 0)),(7,.a (.smz 1)),(8,vS),(28,.a (.lf (.sl qC))),(29,vI),(30,vI)],[(0,some (.raw [[.lf (.sl .str),.lf (.sl qC),.lf (.int .i64),.lf (.int .i64),.lf (.int .i64)]] 5 27 true false false)),(1,some (.arr (.int .i64) 1 3 false))],2⟩] [⟨some 0,⟨[(2,.a (.ptr 0 0 0)),(7,.a (.smz 1))],[(0,some (.raw [[.lf (.sl .str),.lf (.sl qC),.lf (.int .i64),.lf (.int .i64),.lf (.int .i64)]] 5 27 true false false)),(1,some (.arr (.int .i64) 1 3 false))],2⟩⟩] (fun n x=>qbM k n x.1 x.2.1 x.2.2.1 x.2.2.2.1 x.2.2.2.2.1 x.2.2.2.2.2.1 x.2.2.2.2.2.2.1 x.2.2.2.2.2.2.2.1 x.2.2.2.2.2.2.2.2.1 x.2.2.2.2.2.2.2.2.2.1 x.2.2.2.2.2.2.2.2.2.2) k
theorem qra (k:Nat):LIo 16 Tryz.f16 0 k (qyb k):=
 lpk [] (qpJ k) l0 (fun _=>rfl) (by kernel_rfl) fun n x=>by kernel_rfl
def qyc (k:Nat):LInst:=mkL 2 [⟨[(7,.a (.smz 0)),(11,.a (.smz 1)),(66,vI),(67,vI)],[(0,some (.arr (.int .i64) 1 3 false)),(1,some (.arr (.int .i64) 1 3 false))],2⟩] [⟨some 2,⟨[(11,.a (.smz 1))],[(0,some (.arr (.int .i64) 1 3 false)),(1,some (.arr (.int .i64) 1 3 false))],2⟩⟩] (fun n x=>qcc k n x.1 x.2.1 x.2.2.1 x.2.2.2.1 x.2.2.2.2.1 x.2.2.2.2.2) k
theorem qyd (k:Nat):LIo 16 Tryz.f16 0 k (qyc k):=
 lpk [] (qpJ k) (lc (qra k) l0) (fun _=>rfl) (by kernel_rfl) fun n x=>by kernel_rfl
theorem qpK:∀k,qg (call cf k) (qya k):=
 fnk 0 [0,2] Tryz.func16 (fun k=>(qpJ k)) (fun k=>(lc (qra k) (lc (qyd k) l0))) ⟨rfl,rfl,⟨rfl,Nat.le_of_ble_eq_true rfl⟩,rfl⟩ (fun _=>rfl) (by kernel_rfl) fun k x=>by kernel_rfl

def qcd (k:Nat) (rec:Int→Nat→Nat→List DvT→Int→Int→List Int→List Int→Option (Nat×List Int×List Int)) (mode:Int) (s:Nat) (l:Nat) (x:List DvT) (x1:Int) (x2:Int) (ss:List Int) (ls:List Int):Option (Nat×List Int×List Int):=
 if((decide (x2<x1))=true)then
 if((0:Int)≤x2)then
 Option.bind (x)[(Int.toNat x2)]? fun x3=>
 if((x3.1 == (118:Int))=false)then
 if((x3.1 == (108:Int))=true)then
 if((mode == (1:Int))=true)then
 Option.bind (x3.2.2.1)[0]? fun x4=>
 Option.bind (x3.2.2.1)[1]? fun x5=>
 Option.bind (qaa k s x4 x5 ss) fun r3=>
 if((!r3.1)=true)then
 if(l≤(List.length ls))then
 if(((l+(List.length (List.take 1 (x2:: []))))*8)≤140737488355328)then
 rec mode s (l+(List.length (List.take 1 (x2:: [])))) x x1 (IntKind.wrap .i64 (x2+(1:Int))) r3.2 ((List.take l ls)++(List.take 1 (x2:: [])))
 else
 none
 else
 none
 else
 rec mode s l x x1 (IntKind.wrap .i64 (x2+(1:Int))) r3.2 ls
 else
 rec mode s l x x1 (IntKind.wrap .i64 (x2+(1:Int))) ss ls
 else
 rec mode s l x x1 (IntKind.wrap .i64 (x2+(1:Int))) ss ls
 else
 Option.bind (x3.2.2.1)[0]? fun x4=>
 Option.bind (x3.2.2.1)[1]? fun x5=>
 Option.bind (qaa k s x4 x5 ss) fun r3=>
 if((!r3.1)=true)then
 if(l≤(List.length ls))then
 if(((l+(List.length (List.take 1 (x2:: []))))*8)≤140737488355328)then
 rec mode s (l+(List.length (List.take 1 (x2:: [])))) x x1 (IntKind.wrap .i64 (x2+(1:Int))) r3.2 ((List.take l ls)++(List.take 1 (x2:: [])))
 else
 none
 else
 none
 else
 rec mode s l x x1 (IntKind.wrap .i64 (x2+(1:Int))) r3.2 ls
 else
 none
 else
 (some (l,ss,ls))
def qbc (k n:Nat):Int→Nat→Nat→List DvT→Int→Int→List Int→List Int→Option (Nat×List Int×List Int):=Nat.rec (fun _ _ _ _ _ _ _ _=>none) (fun _ r=>qcd k r) n
def qfP (k:Nat) (f0:List ByteArray) (f1:List DvT) (f2:Int) (f3:Int) (f4:Int) (mode:Int):Option (Nat×Int×List Int):=
 Option.bind (qeq k f0 f1 f2 f3 f4 mode) fun r1=>
 if((r1 != (0:Int))=true)then
 (some (0,r1,[]))
 else
 Option.bind (qeC k (((List.length f0):Nat):Int)) fun r2=>
 Option.bind (qbc k k mode r2.1 0 f1 (((List.length f1):Nat):Int) (0:Int) r2.2 []) fun r3=>
 (some (r3.1,(0:Int),r3.2.2))
def qdk:Nat→List ByteArray→List DvT→Int→Int→Int→Int→Option (Nat×Int×List Int)
 | 0,_,_,_,_,_,_=>none
 | k+1,f0,f1,f2,f3,f4,mode=>qfP k f0 f1 f2 f3 f4 mode
def qye:Nat→Inst:=mkI 17 ⟨[.g [.lf (.sl .str),.lf (.sl qC),.lf (.int .i64),.lf (.int .i64),.lf (.int .i64)],vI],[]⟩ [⟨[.a (.smz 0),vI],[.arr (.int .i64) 1 3 false]⟩] fun k x=>qdk k x.1 x.2.1 x.2.2.1 x.2.2.2.1 x.2.2.2.2.1 x.2.2.2.2.2
theorem qt8 (k:Nat):qaH (call cf k) [qsR k,qsS k,qet k]:=
 ac (qt6 k) (ac (qt7 k) (ac (qgm k) a0))
def qyf (k:Nat):LInst:=mkL 0 [⟨[(1,vI),(7,.a (.smz 0)),(8,.a (.smz 1)),(22,.a (.lf (.sl qC))),(23,vI),(24,vI)],[(0,some (.arr (.int .i64) 1 3 false)),(1,some (.arr (.int .i64) 1 3 false))],2⟩] [⟨some 0,⟨[(8,.a (.smz 1))],[(0,some (.arr (.int .i64) 1 3 false)),(1,some (.arr (.int .i64) 1 3 false))],2⟩⟩] (fun n x=>qbc k n x.1 x.2.1 x.2.2.1 x.2.2.2.1 x.2.2.2.2.1 x.2.2.2.2.2.1 x.2.2.2.2.2.2.1 x.2.2.2.2.2.2.2) k
theorem qyg (k:Nat):LIo 17 Tryz.f17 0 k (qyf k):=
 lpk [] (qt8 k) l0 (fun _=>rfl) (by kernel_rfl) fun n x=>by kernel_rfl
theorem qpL:∀k,qg (call cf k) (qye k):=
 fnk 0 [0] Tryz.func17 (fun k=>(qt8 k)) (fun k=>(lc (qyg k) l0)) ⟨rfl,rfl,⟨rfl,Nat.le_of_ble_eq_true rfl⟩,rfl⟩ (fun _=>rfl) (by kernel_rfl) fun k x=>by kernel_rfl

def qh3 (k:Nat) (f0:List ByteArray) (f1:List DvT) (f2:Int) (f3:Int) (f4:Int) (mode:Int):Option (Int):=
 Option.bind (qbb k f0 f1 f2 f3 f4 mode) fun r3=>
 if((r3.2.1 != (0:Int))=true)then
 (some r3.2.1)
 else
 if((decide (((r3.1:Nat):Int)>(0:Int)))=true)then
 (some (100:Int))
 else
 Option.bind (qdk k f0 f1 f2 f3 f4 mode) fun r4=>
 if((decide (((r4.1:Nat):Int)>(0:Int)))=true)then
 (some (101:Int))
 else
 (some (0:Int))
def qdV:Nat→List ByteArray→List DvT→Int→Int→Int→Int→Option (Int)
 | 0,_,_,_,_,_,_=>none
 | k+1,f0,f1,f2,f3,f4,mode=>qh3 k f0 f1 f2 f3 f4 mode
def qyh:Nat→Inst:=mkI 21 ⟨[.g [.lf (.sl .str),.lf (.sl qC),.lf (.int .i64),.lf (.int .i64),.lf (.int .i64)],vI],[]⟩ [⟨[vI],[]⟩] fun k x=>qdV k x.1 x.2.1 x.2.2.1 x.2.2.2.1 x.2.2.2.2.1 x.2.2.2.2.2
theorem qt9:∀k,qg (call cf k) (qyh k):=
 fnk 0 [] Tryz.func21 (fun k=>(ac (qpK k) (ac (qpL k) a0))) (fun k=>l0) ⟨rfl,rfl,⟨rfl,Nat.le_of_ble_eq_true rfl⟩,rfl⟩ (fun _=>rfl) (by kernel_rfl) fun k x=>by kernel_rfl

def qjD (k:Nat):Option (Bool):=
 Option.bind (qbb k (List.take 3 ((ByteArray.mk (List.toArray (48:: [])))::((ByteArray.mk (List.toArray (97:: [])))::((ByteArray.mk (List.toArray (98:: []))):: [])))) (List.take 3 (((118:Int),((ByteArray.mk (List.toArray (118::(49:: [])))),((List.take 2 ((1:Int)::((0:Int):: []))),((0:Int),(((0:Int),(0:Int)),(((1:Int),((List.take 1 (((1:Int),(0:Int)):: [])),[])),((ByteArray.mk (List.toArray [])),((0:Int),([],[])))))))))::(((99:Int),((ByteArray.mk (List.toArray (99::(49:: [])))),((List.take 2 ((2:Int)::((0:Int):: []))),((0:Int),(((1:Int),(0:Int)),(((0:Int),(([]:List (Int×Int)),([]:List Int))),((ByteArray.mk (List.toArray [])),((0:Int),(([]:List (Int×Int)),([]:List (Int×Int)))))))))))::(((108:Int),((ByteArray.mk (List.toArray (108::(49:: [])))),((List.take 2 ((1:Int)::((0:Int):: []))),((0:Int),(((1:Int),(0:Int)),(((0:Int),(([]:List (Int×Int)),([]:List Int))),((ByteArray.mk (List.toArray [])),((0:Int),(([]:List (Int×Int)),([]:List (Int×Int))))))))))):: [])))) (1:Int) (0:Int) (1:Int) (1:Int)) fun r=>
 Option.bind (qdk k (List.take 3 ((ByteArray.mk (List.toArray (48:: [])))::((ByteArray.mk (List.toArray (97:: [])))::((ByteArray.mk (List.toArray (98:: []))):: [])))) (List.take 3 (((118:Int),((ByteArray.mk (List.toArray (118::(49:: [])))),((List.take 2 ((1:Int)::((0:Int):: []))),((0:Int),(((0:Int),(0:Int)),(((1:Int),((List.take 1 (((1:Int),(0:Int)):: [])),[])),((ByteArray.mk (List.toArray [])),((0:Int),([],[])))))))))::(((99:Int),((ByteArray.mk (List.toArray (99::(49:: [])))),((List.take 2 ((2:Int)::((0:Int):: []))),((0:Int),(((1:Int),(0:Int)),(((0:Int),(([]:List (Int×Int)),([]:List Int))),((ByteArray.mk (List.toArray [])),((0:Int),(([]:List (Int×Int)),([]:List (Int×Int)))))))))))::(((108:Int),((ByteArray.mk (List.toArray (108::(49:: [])))),((List.take 2 ((1:Int)::((0:Int):: []))),((0:Int),(((1:Int),(0:Int)),(((0:Int),(([]:List (Int×Int)),([]:List Int))),((ByteArray.mk (List.toArray [])),((0:Int),(([]:List (Int×Int)),([]:List (Int×Int))))))))))):: [])))) (1:Int) (0:Int) (1:Int) (1:Int)) fun r1=>
 Option.bind (qbb k (List.take 3 ((ByteArray.mk (List.toArray (48:: [])))::((ByteArray.mk (List.toArray (97:: [])))::((ByteArray.mk (List.toArray (98:: []))):: [])))) (List.take 3 (((118:Int),((ByteArray.mk (List.toArray (118::(49:: [])))),((List.take 2 ((1:Int)::((0:Int):: []))),((0:Int),(((0:Int),(0:Int)),(((1:Int),((List.take 1 (((1:Int),(0:Int)):: [])),[])),((ByteArray.mk (List.toArray [])),((0:Int),([],[])))))))))::(((99:Int),((ByteArray.mk (List.toArray (99::(49:: [])))),((List.take 2 ((2:Int)::((0:Int):: []))),((0:Int),(((1:Int),(0:Int)),(((0:Int),(([]:List (Int×Int)),([]:List Int))),((ByteArray.mk (List.toArray [])),((0:Int),(([]:List (Int×Int)),([]:List (Int×Int)))))))))))::(((108:Int),((ByteArray.mk (List.toArray (108::(49:: [])))),((List.take 2 ((1:Int)::((0:Int):: []))),((0:Int),(((1:Int),(0:Int)),(((0:Int),(([]:List (Int×Int)),([]:List Int))),((ByteArray.mk (List.toArray [])),((0:Int),(([]:List (Int×Int)),([]:List (Int×Int))))))))))):: [])))) (1:Int) (0:Int) (1:Int) (2:Int)) fun r2=>
 if((r.2.1 == (0:Int))=true)then
 if((r1.2.1 == (0:Int))=true)then
 if((r2.2.1 == (0:Int))=true)then
 if((((r.1:Nat):Int) == (1:Int))=true)then
 if(((0:Int)≤(0:Int))∧((0:Int)<((r.1:Nat):Int)))then
 Option.bind (r.2.2)[0]? fun x=>
 if((x == (2:Int))=true)then
 if((((r1.1:Nat):Int) == (1:Int))=true)then
 if(((0:Int)≤(0:Int))∧((0:Int)<((r1.1:Nat):Int)))then
 Option.bind (r1.2.2)[0]? fun x1=>
 if((x1 == (2:Int))=true)then
 if((((r2.1:Nat):Int) == (0:Int))=true)then
 Option.bind (qdV k (List.take 3 ((ByteArray.mk (List.toArray (48:: [])))::((ByteArray.mk (List.toArray (97:: [])))::((ByteArray.mk (List.toArray (98:: []))):: [])))) (List.take 3 (((118:Int),((ByteArray.mk (List.toArray (118::(49:: [])))),((List.take 2 ((1:Int)::((0:Int):: []))),((0:Int),(((0:Int),(0:Int)),(((1:Int),((List.take 1 (((1:Int),(0:Int)):: [])),[])),((ByteArray.mk (List.toArray [])),((0:Int),([],[])))))))))::(((99:Int),((ByteArray.mk (List.toArray (99::(49:: [])))),((List.take 2 ((2:Int)::((0:Int):: []))),((0:Int),(((1:Int),(0:Int)),(((0:Int),(([]:List (Int×Int)),([]:List Int))),((ByteArray.mk (List.toArray [])),((0:Int),(([]:List (Int×Int)),([]:List (Int×Int)))))))))))::(((108:Int),((ByteArray.mk (List.toArray (108::(49:: [])))),((List.take 2 ((1:Int)::((0:Int):: []))),((0:Int),(((1:Int),(0:Int)),(((0:Int),(([]:List (Int×Int)),([]:List Int))),((ByteArray.mk (List.toArray [])),((0:Int),(([]:List (Int×Int)),([]:List (Int×Int))))))))))):: [])))) (1:Int) (0:Int) (1:Int) (1:Int)) fun r3=>
 if((r3 == (100:Int))=true)then
 Option.bind (qdV k (List.take 3 ((ByteArray.mk (List.toArray (48:: [])))::((ByteArray.mk (List.toArray (97:: [])))::((ByteArray.mk (List.toArray (98:: []))):: [])))) (List.take 3 (((118:Int),((ByteArray.mk (List.toArray (118::(49:: [])))),((List.take 2 ((1:Int)::((0:Int):: []))),((0:Int),(((0:Int),(0:Int)),(((1:Int),((List.take 1 (((1:Int),(0:Int)):: [])),[])),((ByteArray.mk (List.toArray [])),((0:Int),([],[])))))))))::(((99:Int),((ByteArray.mk (List.toArray (99::(49:: [])))),((List.take 2 ((2:Int)::((0:Int):: []))),((0:Int),(((1:Int),(0:Int)),(((0:Int),(([]:List (Int×Int)),([]:List Int))),((ByteArray.mk (List.toArray [])),((0:Int),(([]:List (Int×Int)),([]:List (Int×Int)))))))))))::(((108:Int),((ByteArray.mk (List.toArray (108::(49:: [])))),((List.take 2 ((1:Int)::((0:Int):: []))),((0:Int),(((1:Int),(0:Int)),(((0:Int),(([]:List (Int×Int)),([]:List Int))),((ByteArray.mk (List.toArray [])),((0:Int),(([]:List (Int×Int)),([]:List (Int×Int))))))))))):: [])))) (1:Int) (0:Int) (1:Int) (2:Int)) fun r4=>
 if((r4 == (0:Int))=true)then
 Option.bind (qdV k (List.take 3 ((ByteArray.mk (List.toArray (48:: [])))::((ByteArray.mk (List.toArray (97:: [])))::((ByteArray.mk (List.toArray (98:: []))):: [])))) (List.take 3 (((118:Int),((ByteArray.mk (List.toArray (118::(49:: [])))),((List.take 2 ((1:Int)::((0:Int):: []))),((0:Int),(((0:Int),(0:Int)),(((1:Int),((List.take 1 (((1:Int),(0:Int)):: [])),[])),((ByteArray.mk (List.toArray [])),((0:Int),([],[])))))))))::(((99:Int),((ByteArray.mk (List.toArray (99::(49:: [])))),((List.take 2 ((2:Int)::((0:Int):: []))),((0:Int),(((1:Int),(0:Int)),(((0:Int),(([]:List (Int×Int)),([]:List Int))),((ByteArray.mk (List.toArray [])),((0:Int),(([]:List (Int×Int)),([]:List (Int×Int)))))))))))::(((108:Int),((ByteArray.mk (List.toArray (108::(49:: [])))),((List.take 2 ((1:Int)::((0:Int):: []))),((0:Int),(((1:Int),(0:Int)),(((0:Int),(([]:List (Int×Int)),([]:List Int))),((ByteArray.mk (List.toArray [])),((0:Int),(([]:List (Int×Int)),([]:List (Int×Int))))))))))):: [])))) (1:Int) (0:Int) (1:Int) (3:Int)) fun r5=>
 (some (r5 == (110:Int)))
 else
 (some false)
 else
 (some false)
 else
 (some false)
 else
 (some false)
 else
 none
 else
 (some false)
 else
 (some false)
 else
 none
 else
 (some false)
 else
 (some false)
 else
 (some false)
 else
 (some false)
def qfB:Nat→Option (Bool)
 | 0=>none
 | k+1=>qjD k
def qyi:Nat→Inst:=mkI 13 ⟨[],[]⟩ [⟨[vB],[]⟩] fun k x=>qfB k
theorem qAm:∀k,qg (call cf k) (qyi k):=
 fnk 0 [] Tryz.func13 (fun k=>(ac (qpK k) (ac (qpL k) (ac (qt9 k) a0)))) (fun k=>l0) ⟨rfl,rfl,⟨rfl,Nat.le_of_ble_eq_true rfl⟩,rfl⟩ (fun _=>rfl) (by kernel_rfl) fun k x=>by kernel_rfl

def qa2 (k:Nat) (rec:Int→Int→List ByteArray→List DvT→Int→Int→Int→Option (Int×List ByteArray×List DvT×Int×Int×Int)) (n:Int) (i:Int) (f0:List ByteArray) (f1:List DvT) (f2:Int) (f3:Int) (f4:Int):Option (Int×List ByteArray×List DvT×Int×Int×Int):=
 if((decide (i<(((List.length f1):Nat):Int)))=true)then
 if((decide (n<(2000:Int)))=true)then
 if((0:Int)≤i)then
 Option.bind (f1)[(Int.toNat i)]? fun x=>
 rec (IntKind.wrap .i64 (n+(IntKind.wrap .i64 ((IntKind.wrap .i64 ((IntKind.wrap .i64 ((IntKind.wrap .i64 ((IntKind.wrap .i64 ((1:Int)+(min (2000:Int) (((List.length x.2.2.1):Nat):Int))))+(min (2000:Int) (((List.length x.2.2.2.2.2.1.2.1):Nat):Int))))+(min (2000:Int) (((List.length x.2.2.2.2.2.1.2.2):Nat):Int))))+(min (2000:Int) (((List.length x.2.2.2.2.2.2.2.2.1):Nat):Int))))+(min (2000:Int) (((List.length x.2.2.2.2.2.2.2.2.2):Nat):Int)))))) (IntKind.wrap .i64 (i+(1:Int))) f0 f1 f2 f3 f4
 else
 none
 else
 (some (n,f0,f1,f2,f3,f4))
 else
 (some (n,f0,f1,f2,f3,f4))
def qak (k n:Nat):Int→Int→List ByteArray→List DvT→Int→Int→Int→Option (Int×List ByteArray×List DvT×Int×Int×Int):=Nat.rec (fun _ _ _ _ _ _ _=>none) (fun _ r=>qa2 k r) n
def qfC (k:Nat) (f0:List ByteArray) (f1:List DvT) (f2:Int) (f3:Int) (f4:Int):Option (Bool):=
 Option.bind (qak k k (((List.length f0):Nat):Int) (0:Int) f0 f1 f2 f3 f4) fun r1=>
 (some (decide (r1.1≥(2000:Int))))
def qdY:Nat→List ByteArray→List DvT→Int→Int→Int→Option (Bool)
 | 0,_,_,_,_,_=>none
 | k+1,f0,f1,f2,f3,f4=>qfC k f0 f1 f2 f3 f4
def qyj:Nat→Inst:=mkI 14 ⟨[.g [.lf (.sl .str),.lf (.sl qC),.lf (.int .i64),.lf (.int .i64),.lf (.int .i64)]],[]⟩ [⟨[vB],[]⟩] fun k x=>qdY k x.1 x.2.1 x.2.2.1 x.2.2.2.1 x.2.2.2.2
def qyk (k:Nat):LInst:=mkL 0 [⟨[(1,.a (.ptr 0 0 0)),(3,vI),(4,vI)],[(0,some (.raw [[.lf (.sl .str),.lf (.sl qC),.lf (.int .i64),.lf (.int .i64),.lf (.int .i64)]] 5 27 true false false))],1⟩] [⟨some 0,⟨[(3,vI)],[(0,some (.raw [[.lf (.sl .str),.lf (.sl qC),.lf (.int .i64),.lf (.int .i64),.lf (.int .i64)]] 5 27 true false false))],1⟩⟩] (fun n x=>qak k n x.1 x.2.1 x.2.2.1 x.2.2.2.1 x.2.2.2.2.1 x.2.2.2.2.2.1 x.2.2.2.2.2.2) k
theorem qyl (k:Nat):LIo 14 Tryz.f14 0 k (qyk k):=
 lpk [] a0 l0 (fun _=>rfl) (by kernel_rfl) fun n x=>by kernel_rfl
theorem qAn:∀k,qg (call cf k) (qyj k):=
 fnk 0 [0] Tryz.func14 (fun k=>a0) (fun k=>(lc (qyl k) l0)) ⟨rfl,rfl,⟨rfl,Nat.le_of_ble_eq_true rfl⟩,rfl⟩ (fun _=>rfl) (by kernel_rfl) fun k x=>by kernel_rfl

def qbX (k:Nat) (rec:Int→List ByteArray→List DvT→Int→Int→Int→Nat→Nat→Int→Int→Int→Nat→Nat→Int→Int→Int→List ByteArray→List DvT→List ByteArray→List DvT→Option (List ByteArray×List DvT×Int×Int×Int×Nat×Nat×Int×Int×Int×Nat×Nat×Int×Int×Int×List ByteArray×List DvT×List ByteArray×List DvT)) (i:Int) (f0:List ByteArray) (f1:List DvT) (f2:Int) (f3:Int) (f4:Int) (x0:Nat) (x1:Nat) (x2:Int) (x3:Int) (x4:Int) (out0:Nat) (out1:Nat) (out2:Int) (out3:Int) (out4:Int) (m:List ByteArray) (m1:List DvT) (m2:List ByteArray) (m3:List DvT):Option (List ByteArray×List DvT×Int×Int×Int×Nat×Nat×Int×Int×Int×Nat×Nat×Int×Int×Int×List ByteArray×List DvT×List ByteArray×List DvT):=
 if((decide (i<(((List.length f1):Nat):Int)))=true)then
 if((0:Int)≤i)then
 Option.bind (f1)[(Int.toNat i)]? fun x=>
 if(((0+(List.length x.2.2.1))*8)≤140737488355328)then
 if(((0+(List.length x.2.2.2.2.2.1.2.1))*16)≤140737488355328)then
 if(((0+(List.length x.2.2.2.2.2.1.2.2))*8)≤140737488355328)then
 if(((0+(List.length x.2.2.2.2.2.2.2.2.1))*16)≤140737488355328)then
 if(((0+(List.length x.2.2.2.2.2.2.2.2.2))*16)≤140737488355328)then
 if((0+(0+(List.length x.2.2.1)))≤(List.length ((List.take 0 [])++x.2.2.1)))then
 if((0+(0+(List.length x.2.2.2.2.2.1.2.1)))≤(List.length ((List.take 0 [])++x.2.2.2.2.2.1.2.1)))then
 if((0+(0+(List.length x.2.2.2.2.2.1.2.2)))≤(List.length ((List.take 0 [])++x.2.2.2.2.2.1.2.2)))then
 if((0+(0+(List.length x.2.2.2.2.2.2.2.2.1)))≤(List.length ((List.take 0 [])++x.2.2.2.2.2.2.2.2.1)))then
 if((0+(0+(List.length x.2.2.2.2.2.2.2.2.2)))≤(List.length ((List.take 0 [])++x.2.2.2.2.2.2.2.2.2)))then
 if(out1≤(List.length m3))then
 if(((out1+(List.length (List.take 1 ((x.1,(x.2.1,((List.take (0+(List.length x.2.2.1)) ((List.take 0 [])++x.2.2.1)),(x.2.2.2.1,((x.2.2.2.2.1.1,x.2.2.2.2.1.2),((x.2.2.2.2.2.1.1,((List.take (0+(List.length x.2.2.2.2.2.1.2.1)) ((List.take 0 [])++x.2.2.2.2.2.1.2.1)),(List.take (0+(List.length x.2.2.2.2.2.1.2.2)) ((List.take 0 [])++x.2.2.2.2.2.1.2.2)))),(x.2.2.2.2.2.2.1,(x.2.2.2.2.2.2.2.1,((List.take (0+(List.length x.2.2.2.2.2.2.2.2.1)) ((List.take 0 [])++x.2.2.2.2.2.2.2.2.1)),(List.take (0+(List.length x.2.2.2.2.2.2.2.2.2)) ((List.take 0 [])++x.2.2.2.2.2.2.2.2.2))))))))))):: []))))*200)≤140737488355328)then
 rec (IntKind.wrap .i64 (i+(1:Int))) f0 f1 f2 f3 f4 x0 x1 x2 x3 x4 out0 (out1+(List.length (List.take 1 ((x.1,(x.2.1,((List.take (0+(List.length x.2.2.1)) ((List.take 0 [])++x.2.2.1)),(x.2.2.2.1,((x.2.2.2.2.1.1,x.2.2.2.2.1.2),((x.2.2.2.2.2.1.1,((List.take (0+(List.length x.2.2.2.2.2.1.2.1)) ((List.take 0 [])++x.2.2.2.2.2.1.2.1)),(List.take (0+(List.length x.2.2.2.2.2.1.2.2)) ((List.take 0 [])++x.2.2.2.2.2.1.2.2)))),(x.2.2.2.2.2.2.1,(x.2.2.2.2.2.2.2.1,((List.take (0+(List.length x.2.2.2.2.2.2.2.2.1)) ((List.take 0 [])++x.2.2.2.2.2.2.2.2.1)),(List.take (0+(List.length x.2.2.2.2.2.2.2.2.2)) ((List.take 0 [])++x.2.2.2.2.2.2.2.2.2))))))))))):: [])))) out2 out3 out4 m m1 m2 ((List.take out1 m3)++(List.take 1 ((x.1,(x.2.1,((List.take (0+(List.length x.2.2.1)) ((List.take 0 [])++x.2.2.1)),(x.2.2.2.1,((x.2.2.2.2.1.1,x.2.2.2.2.1.2),((x.2.2.2.2.2.1.1,((List.take (0+(List.length x.2.2.2.2.2.1.2.1)) ((List.take 0 [])++x.2.2.2.2.2.1.2.1)),(List.take (0+(List.length x.2.2.2.2.2.1.2.2)) ((List.take 0 [])++x.2.2.2.2.2.1.2.2)))),(x.2.2.2.2.2.2.1,(x.2.2.2.2.2.2.2.1,((List.take (0+(List.length x.2.2.2.2.2.2.2.2.1)) ((List.take 0 [])++x.2.2.2.2.2.2.2.2.1)),(List.take (0+(List.length x.2.2.2.2.2.2.2.2.2)) ((List.take 0 [])++x.2.2.2.2.2.2.2.2.2))))))))))):: [])))
 else
 none
 else
 none
 else
 none
 else
 none
 else
 none
 else
 none
 else
 none
 else
 none
 else
 none
 else
 none
 else
 none
 else
 none
 else
 none
 else
 (some (f0,f1,f2,f3,f4,x0,x1,x2,x3,x4,out0,out1,out2,out3,out4,m,m1,m2,m3))
def qbA (k n:Nat):Int→List ByteArray→List DvT→Int→Int→Int→Nat→Nat→Int→Int→Int→Nat→Nat→Int→Int→Int→List ByteArray→List DvT→List ByteArray→List DvT→Option (List ByteArray×List DvT×Int×Int×Int×Nat×Nat×Int×Int×Int×Nat×Nat×Int×Int×Int×List ByteArray×List DvT×List ByteArray×List DvT):=Nat.rec (fun _ _ _ _ _ _ _ _ _ _ _ _ _ _ _ _ _ _ _ _=>none) (fun _ r=>qbX k r) n
def qga (k:Nat) (f0:List ByteArray) (f1:List DvT) (f2:Int) (f3:Int) (f4:Int):Option (Nat×Nat×Int×Int×Int×List ByteArray×List DvT):=
 if(((0+(List.length f0))*16)≤140737488355328)then
 Option.bind (qbA k k (0:Int) f0 f1 f2 f3 f4 0 0 (0:Int) (0:Int) (0:Int) (0+(List.length f0)) 0 f2 f3 f4 [] [] ((List.take 0 [])++f0) []) fun r2=>
 (some (r2.2.2.2.2.2.2.2.2.2.2.1,r2.2.2.2.2.2.2.2.2.2.2.2.1,r2.2.2.2.2.2.2.2.2.2.2.2.2.1,r2.2.2.2.2.2.2.2.2.2.2.2.2.2.1,r2.2.2.2.2.2.2.2.2.2.2.2.2.2.2.1,r2.2.2.2.2.2.2.2.2.2.2.2.2.2.2.2.2.2.1,r2.2.2.2.2.2.2.2.2.2.2.2.2.2.2.2.2.2.2))
 else
 none
def qeu:Nat→List ByteArray→List DvT→Int→Int→Int→Option (Nat×Nat×Int×Int×Int×List ByteArray×List DvT)
 | 0,_,_,_,_,_=>none
 | k+1,f0,f1,f2,f3,f4=>qga k f0 f1 f2 f3 f4
def qym:Nat→Inst:=mkI 15 ⟨[.g [.lf (.sl .str),.lf (.sl qC),.lf (.int .i64),.lf (.int .i64),.lf (.int .i64)]],[]⟩ [⟨[.g [.smz 0,.smz 1,.lf (.int .i64),.lf (.int .i64),.lf (.int .i64)]],[.arr .str 1 9 false,.arr qC 13 48 false]⟩] fun k x=>qeu k x.1 x.2.1 x.2.2.1 x.2.2.2.1 x.2.2.2.2
def qyn (k:Nat):LInst:=mkL 0 [⟨[(1,.a (.ptr 0 0 0)),(2,.a (.ptr 1 0 0)),(3,.a (.ptr 2 0 0)),(4,vI)],[(0,some (.raw [[.lf (.sl .str),.lf (.sl qC),.lf (.int .i64),.lf (.int .i64),.lf (.int .i64)]] 5 27 true false false)),(1,some (.raw [[.smz 3,.smz 4,.lf (.int .i64),.lf (.int .i64),.lf (.int .i64)]] 5 27 false false false)),(2,some (.raw [[.smz 5,.smz 6,.lf (.int .i64),.lf (.int .i64),.lf (.int .i64)]] 5 27 false false false)),(3,some (.arr .str 1 9 false)),(4,some (.arr qC 13 48 false)),(5,some (.arr .str 1 9 false)),(6,some (.arr qC 13 48 false))],7⟩] [⟨some 0,⟨[(2,.a (.ptr 1 0 0)),(3,.a (.ptr 2 0 0))],[(0,some (.raw [[.lf (.sl .str),.lf (.sl qC),.lf (.int .i64),.lf (.int .i64),.lf (.int .i64)]] 5 27 true false false)),(1,some (.raw [[.smz 3,.smz 4,.lf (.int .i64),.lf (.int .i64),.lf (.int .i64)]] 5 27 false false false)),(2,some (.raw [[.smz 5,.smz 6,.lf (.int .i64),.lf (.int .i64),.lf (.int .i64)]] 5 27 false false false)),(3,some (.arr .str 1 9 false)),(4,some (.arr qC 13 48 false)),(5,some (.arr .str 1 9 false)),(6,some (.arr qC 13 48 false))],7⟩⟩] (fun n x=>qbA k n x.1 x.2.1 x.2.2.1 x.2.2.2.1 x.2.2.2.2.1 x.2.2.2.2.2.1 x.2.2.2.2.2.2.1 x.2.2.2.2.2.2.2.1 x.2.2.2.2.2.2.2.2.1 x.2.2.2.2.2.2.2.2.2.1 x.2.2.2.2.2.2.2.2.2.2.1 x.2.2.2.2.2.2.2.2.2.2.2.1 x.2.2.2.2.2.2.2.2.2.2.2.2.1 x.2.2.2.2.2.2.2.2.2.2.2.2.2.1 x.2.2.2.2.2.2.2.2.2.2.2.2.2.2.1 x.2.2.2.2.2.2.2.2.2.2.2.2.2.2.2.1 x.2.2.2.2.2.2.2.2.2.2.2.2.2.2.2.2.1 x.2.2.2.2.2.2.2.2.2.2.2.2.2.2.2.2.2.1 x.2.2.2.2.2.2.2.2.2.2.2.2.2.2.2.2.2.2.1 x.2.2.2.2.2.2.2.2.2.2.2.2.2.2.2.2.2.2.2) k
theorem qyo (k:Nat):LIo 15 Tryz.f15 0 k (qyn k):=
 lpk [] a0 l0 (fun _=>rfl) (by kernel_rfl) fun n x=>by kernel_rfl
theorem qAo:∀k,qg (call cf k) (qym k):=
 fnk 0 [0] Tryz.func15 (fun k=>a0) (fun k=>(lc (qyo k) l0)) ⟨rfl,rfl,⟨rfl,Nat.le_of_ble_eq_true rfl⟩,rfl⟩ (fun _=>rfl) (by kernel_rfl) fun k x=>by kernel_rfl

def qfD (k:Nat) (f0:List ByteArray) (f1:List DvT) (f2:Int) (f3:Int) (f4:Int) (mode:Int):Option (Int):=
 Option.bind (qdX k f0 f1 f2 f3 f4) fun r5=>
 if((r5 == (0:Int))=true)then
 if((mode != (1:Int))=true)then
 if((mode != (2:Int))=true)then
 (some (110:Int))
 else
 (some r5)
 else
 (some r5)
 else
 (some r5)
def qde:Nat→List ByteArray→List DvT→Int→Int→Int→Int→Option (Int)
 | 0,_,_,_,_,_,_=>none
 | k+1,f0,f1,f2,f3,f4,mode=>qfD k f0 f1 f2 f3 f4 mode
def qsT:Nat→Inst:=mkI 62 ⟨[.g [.lf (.sl .str),.lf (.sl qC),.lf (.int .i64),.lf (.int .i64),.lf (.int .i64)],vI],[]⟩ [⟨[vI],[]⟩] fun k x=>qde k x.1 x.2.1 x.2.2.1 x.2.2.2.1 x.2.2.2.2.1 x.2.2.2.2.2
theorem qua:∀k,qg (call cf k) (qsT k):=
 fnk 0 [] Tryz.func62 (fun k=>(ac (qAl k) a0)) (fun k=>l0) ⟨rfl,rfl,⟨rfl,Nat.le_of_ble_eq_true rfl⟩,rfl⟩ (fun _=>rfl) (by kernel_rfl) fun k x=>by kernel_rfl

def qi (k:Nat) (rec:Int→Nat→Int→List ByteArray→List DvT→Int→Int→Int→List (Int×Int)→Option (Nat×List ByteArray×List DvT×Int×Int×Int×List (Int×Int))) (mode:Int) (l:Nat) (i:Int) (f0:List ByteArray) (f1:List DvT) (f2:Int) (f3:Int) (f4:Int) (ls:List (Int×Int)):Option (Nat×List ByteArray×List DvT×Int×Int×Int×List (Int×Int)):=
 if((decide (i<(((List.length f1):Nat):Int)))=true)then
 if((0:Int)≤i)then
 Option.bind (f1)[(Int.toNat i)]? fun x=>
 if((x.1 == (105:Int))=true)then
 if((x.1 == (101:Int))=false)then
 if((x.1 == (103:Int))=false)then
 if((x.1 == (116:Int))=true)then
 Option.bind (x.2.2.1)[2]? fun x1=>
 Option.bind (x.2.2.1)[3]? fun x2=>
 if(l≤(List.length ls))then
 if(((l+(List.length (List.take 1 ((x1,x2):: []))))*16)≤140737488355328)then
 rec mode (l+(List.length (List.take 1 ((x1,x2):: [])))) (IntKind.wrap .i64 (i+(1:Int))) f0 f1 f2 f3 f4 ((List.take l ls)++(List.take 1 ((x1,x2):: [])))
 else
 none
 else
 none
 else
 rec mode l (IntKind.wrap .i64 (i+(1:Int))) f0 f1 f2 f3 f4 ls
 else
 Option.bind (x.2.2.1)[2]? fun x1=>
 Option.bind (x.2.2.1)[3]? fun x2=>
 if(l≤(List.length ls))then
 if(((l+(List.length (List.take 1 ((x1,x2):: []))))*16)≤140737488355328)then
 rec mode (l+(List.length (List.take 1 ((x1,x2):: [])))) (IntKind.wrap .i64 (i+(1:Int))) f0 f1 f2 f3 f4 ((List.take l ls)++(List.take 1 ((x1,x2):: [])))
 else
 none
 else
 none
 else
 Option.bind (x.2.2.1)[2]? fun x1=>
 Option.bind (x.2.2.1)[3]? fun x2=>
 if(l≤(List.length ls))then
 if(((l+(List.length (List.take 1 ((x1,x2):: []))))*16)≤140737488355328)then
 rec mode (l+(List.length (List.take 1 ((x1,x2):: [])))) (IntKind.wrap .i64 (i+(1:Int))) f0 f1 f2 f3 f4 ((List.take l ls)++(List.take 1 ((x1,x2):: [])))
 else
 none
 else
 none
 else
 if((x.1 == (102:Int))=true)then
 if((x.1 == (101:Int))=false)then
 if((x.1 == (103:Int))=false)then
 if((x.1 == (116:Int))=true)then
 Option.bind (x.2.2.1)[2]? fun x1=>
 Option.bind (x.2.2.1)[3]? fun x2=>
 if(l≤(List.length ls))then
 if(((l+(List.length (List.take 1 ((x1,x2):: []))))*16)≤140737488355328)then
 rec mode (l+(List.length (List.take 1 ((x1,x2):: [])))) (IntKind.wrap .i64 (i+(1:Int))) f0 f1 f2 f3 f4 ((List.take l ls)++(List.take 1 ((x1,x2):: [])))
 else
 none
 else
 none
 else
 rec mode l (IntKind.wrap .i64 (i+(1:Int))) f0 f1 f2 f3 f4 ls
 else
 Option.bind (x.2.2.1)[2]? fun x1=>
 Option.bind (x.2.2.1)[3]? fun x2=>
 if(l≤(List.length ls))then
 if(((l+(List.length (List.take 1 ((x1,x2):: []))))*16)≤140737488355328)then
 rec mode (l+(List.length (List.take 1 ((x1,x2):: [])))) (IntKind.wrap .i64 (i+(1:Int))) f0 f1 f2 f3 f4 ((List.take l ls)++(List.take 1 ((x1,x2):: [])))
 else
 none
 else
 none
 else
 Option.bind (x.2.2.1)[2]? fun x1=>
 Option.bind (x.2.2.1)[3]? fun x2=>
 if(l≤(List.length ls))then
 if(((l+(List.length (List.take 1 ((x1,x2):: []))))*16)≤140737488355328)then
 rec mode (l+(List.length (List.take 1 ((x1,x2):: [])))) (IntKind.wrap .i64 (i+(1:Int))) f0 f1 f2 f3 f4 ((List.take l ls)++(List.take 1 ((x1,x2):: [])))
 else
 none
 else
 none
 else
 if((x.1 == (103:Int))=true)then
 if((x.1 == (101:Int))=false)then
 if((x.1 == (103:Int))=false)then
 if((x.1 == (116:Int))=true)then
 Option.bind (x.2.2.1)[2]? fun x1=>
 Option.bind (x.2.2.1)[3]? fun x2=>
 if(l≤(List.length ls))then
 if(((l+(List.length (List.take 1 ((x1,x2):: []))))*16)≤140737488355328)then
 rec mode (l+(List.length (List.take 1 ((x1,x2):: [])))) (IntKind.wrap .i64 (i+(1:Int))) f0 f1 f2 f3 f4 ((List.take l ls)++(List.take 1 ((x1,x2):: [])))
 else
 none
 else
 none
 else
 rec mode l (IntKind.wrap .i64 (i+(1:Int))) f0 f1 f2 f3 f4 ls
 else
 Option.bind (x.2.2.1)[2]? fun x1=>
 Option.bind (x.2.2.1)[3]? fun x2=>
 if(l≤(List.length ls))then
 if(((l+(List.length (List.take 1 ((x1,x2):: []))))*16)≤140737488355328)then
 rec mode (l+(List.length (List.take 1 ((x1,x2):: [])))) (IntKind.wrap .i64 (i+(1:Int))) f0 f1 f2 f3 f4 ((List.take l ls)++(List.take 1 ((x1,x2):: [])))
 else
 none
 else
 none
 else
 Option.bind (x.2.2.1)[2]? fun x1=>
 Option.bind (x.2.2.1)[3]? fun x2=>
 if(l≤(List.length ls))then
 if(((l+(List.length (List.take 1 ((x1,x2):: []))))*16)≤140737488355328)then
 rec mode (l+(List.length (List.take 1 ((x1,x2):: [])))) (IntKind.wrap .i64 (i+(1:Int))) f0 f1 f2 f3 f4 ((List.take l ls)++(List.take 1 ((x1,x2):: [])))
 else
 none
 else
 none
 else
 if((x.1 == (99:Int))=true)then
 if((mode == (2:Int))=true)then
 Option.bind (x.2.2.1)[0]? fun x1=>
 Option.bind (x.2.2.1)[1]? fun x2=>
 if(l≤(List.length ls))then
 if(((l+(List.length (List.take 1 ((x1,x2):: []))))*16)≤140737488355328)then
 if((x.1 == (101:Int))=false)then
 if((x.1 == (103:Int))=false)then
 if((x.1 == (116:Int))=true)then
 Option.bind (x.2.2.1)[2]? fun x3=>
 Option.bind (x.2.2.1)[3]? fun x4=>
 if((l+(List.length (List.take 1 ((x1,x2):: []))))≤(List.length ((List.take l ls)++(List.take 1 ((x1,x2):: [])))))then
 if((((l+(List.length (List.take 1 ((x1,x2):: []))))+(List.length (List.take 1 ((x3,x4):: []))))*16)≤140737488355328)then
 rec mode ((l+(List.length (List.take 1 ((x1,x2):: []))))+(List.length (List.take 1 ((x3,x4):: [])))) (IntKind.wrap .i64 (i+(1:Int))) f0 f1 f2 f3 f4 ((List.take (l+(List.length (List.take 1 ((x1,x2):: [])))) ((List.take l ls)++(List.take 1 ((x1,x2):: []))))++(List.take 1 ((x3,x4):: [])))
 else
 none
 else
 none
 else
 rec mode (l+(List.length (List.take 1 ((x1,x2):: [])))) (IntKind.wrap .i64 (i+(1:Int))) f0 f1 f2 f3 f4 ((List.take l ls)++(List.take 1 ((x1,x2):: [])))
 else
 Option.bind (x.2.2.1)[2]? fun x3=>
 Option.bind (x.2.2.1)[3]? fun x4=>
 if((l+(List.length (List.take 1 ((x1,x2):: []))))≤(List.length ((List.take l ls)++(List.take 1 ((x1,x2):: [])))))then
 if((((l+(List.length (List.take 1 ((x1,x2):: []))))+(List.length (List.take 1 ((x3,x4):: []))))*16)≤140737488355328)then
 rec mode ((l+(List.length (List.take 1 ((x1,x2):: []))))+(List.length (List.take 1 ((x3,x4):: [])))) (IntKind.wrap .i64 (i+(1:Int))) f0 f1 f2 f3 f4 ((List.take (l+(List.length (List.take 1 ((x1,x2):: [])))) ((List.take l ls)++(List.take 1 ((x1,x2):: []))))++(List.take 1 ((x3,x4):: [])))
 else
 none
 else
 none
 else
 Option.bind (x.2.2.1)[2]? fun x3=>
 Option.bind (x.2.2.1)[3]? fun x4=>
 if((l+(List.length (List.take 1 ((x1,x2):: []))))≤(List.length ((List.take l ls)++(List.take 1 ((x1,x2):: [])))))then
 if((((l+(List.length (List.take 1 ((x1,x2):: []))))+(List.length (List.take 1 ((x3,x4):: []))))*16)≤140737488355328)then
 rec mode ((l+(List.length (List.take 1 ((x1,x2):: []))))+(List.length (List.take 1 ((x3,x4):: [])))) (IntKind.wrap .i64 (i+(1:Int))) f0 f1 f2 f3 f4 ((List.take (l+(List.length (List.take 1 ((x1,x2):: [])))) ((List.take l ls)++(List.take 1 ((x1,x2):: []))))++(List.take 1 ((x3,x4):: [])))
 else
 none
 else
 none
 else
 none
 else
 none
 else
 if((x.1 == (101:Int))=false)then
 if((x.1 == (103:Int))=false)then
 if((x.1 == (116:Int))=true)then
 Option.bind (x.2.2.1)[2]? fun x1=>
 Option.bind (x.2.2.1)[3]? fun x2=>
 if(l≤(List.length ls))then
 if(((l+(List.length (List.take 1 ((x1,x2):: []))))*16)≤140737488355328)then
 rec mode (l+(List.length (List.take 1 ((x1,x2):: [])))) (IntKind.wrap .i64 (i+(1:Int))) f0 f1 f2 f3 f4 ((List.take l ls)++(List.take 1 ((x1,x2):: [])))
 else
 none
 else
 none
 else
 rec mode l (IntKind.wrap .i64 (i+(1:Int))) f0 f1 f2 f3 f4 ls
 else
 Option.bind (x.2.2.1)[2]? fun x1=>
 Option.bind (x.2.2.1)[3]? fun x2=>
 if(l≤(List.length ls))then
 if(((l+(List.length (List.take 1 ((x1,x2):: []))))*16)≤140737488355328)then
 rec mode (l+(List.length (List.take 1 ((x1,x2):: [])))) (IntKind.wrap .i64 (i+(1:Int))) f0 f1 f2 f3 f4 ((List.take l ls)++(List.take 1 ((x1,x2):: [])))
 else
 none
 else
 none
 else
 Option.bind (x.2.2.1)[2]? fun x1=>
 Option.bind (x.2.2.1)[3]? fun x2=>
 if(l≤(List.length ls))then
 if(((l+(List.length (List.take 1 ((x1,x2):: []))))*16)≤140737488355328)then
 rec mode (l+(List.length (List.take 1 ((x1,x2):: [])))) (IntKind.wrap .i64 (i+(1:Int))) f0 f1 f2 f3 f4 ((List.take l ls)++(List.take 1 ((x1,x2):: [])))
 else
 none
 else
 none
 else
 Option.bind (x.2.2.1)[0]? fun x1=>
 Option.bind (x.2.2.1)[1]? fun x2=>
 if(l≤(List.length ls))then
 if(((l+(List.length (List.take 1 ((x1,x2):: []))))*16)≤140737488355328)then
 if((x.1 == (101:Int))=false)then
 if((x.1 == (103:Int))=false)then
 if((x.1 == (116:Int))=true)then
 Option.bind (x.2.2.1)[2]? fun x3=>
 Option.bind (x.2.2.1)[3]? fun x4=>
 if((l+(List.length (List.take 1 ((x1,x2):: []))))≤(List.length ((List.take l ls)++(List.take 1 ((x1,x2):: [])))))then
 if((((l+(List.length (List.take 1 ((x1,x2):: []))))+(List.length (List.take 1 ((x3,x4):: []))))*16)≤140737488355328)then
 rec mode ((l+(List.length (List.take 1 ((x1,x2):: []))))+(List.length (List.take 1 ((x3,x4):: [])))) (IntKind.wrap .i64 (i+(1:Int))) f0 f1 f2 f3 f4 ((List.take (l+(List.length (List.take 1 ((x1,x2):: [])))) ((List.take l ls)++(List.take 1 ((x1,x2):: []))))++(List.take 1 ((x3,x4):: [])))
 else
 none
 else
 none
 else
 rec mode (l+(List.length (List.take 1 ((x1,x2):: [])))) (IntKind.wrap .i64 (i+(1:Int))) f0 f1 f2 f3 f4 ((List.take l ls)++(List.take 1 ((x1,x2):: [])))
 else
 Option.bind (x.2.2.1)[2]? fun x3=>
 Option.bind (x.2.2.1)[3]? fun x4=>
 if((l+(List.length (List.take 1 ((x1,x2):: []))))≤(List.length ((List.take l ls)++(List.take 1 ((x1,x2):: [])))))then
 if((((l+(List.length (List.take 1 ((x1,x2):: []))))+(List.length (List.take 1 ((x3,x4):: []))))*16)≤140737488355328)then
 rec mode ((l+(List.length (List.take 1 ((x1,x2):: []))))+(List.length (List.take 1 ((x3,x4):: [])))) (IntKind.wrap .i64 (i+(1:Int))) f0 f1 f2 f3 f4 ((List.take (l+(List.length (List.take 1 ((x1,x2):: [])))) ((List.take l ls)++(List.take 1 ((x1,x2):: []))))++(List.take 1 ((x3,x4):: [])))
 else
 none
 else
 none
 else
 Option.bind (x.2.2.1)[2]? fun x3=>
 Option.bind (x.2.2.1)[3]? fun x4=>
 if((l+(List.length (List.take 1 ((x1,x2):: []))))≤(List.length ((List.take l ls)++(List.take 1 ((x1,x2):: [])))))then
 if((((l+(List.length (List.take 1 ((x1,x2):: []))))+(List.length (List.take 1 ((x3,x4):: []))))*16)≤140737488355328)then
 rec mode ((l+(List.length (List.take 1 ((x1,x2):: []))))+(List.length (List.take 1 ((x3,x4):: [])))) (IntKind.wrap .i64 (i+(1:Int))) f0 f1 f2 f3 f4 ((List.take (l+(List.length (List.take 1 ((x1,x2):: [])))) ((List.take l ls)++(List.take 1 ((x1,x2):: []))))++(List.take 1 ((x3,x4):: [])))
 else
 none
 else
 none
 else
 none
 else
 none
 else
 none
 else
 (some (l,f0,f1,f2,f3,f4,ls))
def qbB (k n:Nat):Int→Nat→Int→List ByteArray→List DvT→Int→Int→Int→List (Int×Int)→Option (Nat×List ByteArray×List DvT×Int×Int×Int×List (Int×Int)):=Nat.rec (fun _ _ _ _ _ _ _ _ _=>none) (fun _ r=>qi k r) n
def qgb (k:Nat) (f0:List ByteArray) (f1:List DvT) (f2:Int) (f3:Int) (f4:Int) (mode:Int):Option (List (Int×Int)):=
 Option.bind (qbB k k mode 0 (0:Int) f0 f1 f2 f3 f4 []) fun r6=>
 if((0+r6.1)≤(List.length r6.2.2.2.2.2.2))then
 (some (List.take r6.1 r6.2.2.2.2.2.2))
 else
 none
def qev:Nat→List ByteArray→List DvT→Int→Int→Int→Int→Option (List (Int×Int))
 | 0,_,_,_,_,_,_=>none
 | k+1,f0,f1,f2,f3,f4,mode=>qgb k f0 f1 f2 f3 f4 mode
def qyp:Nat→Inst:=mkI 64 ⟨[.g [.lf (.sl .str),.lf (.sl qC),.lf (.int .i64),.lf (.int .i64),.lf (.int .i64)],vI],[]⟩ [⟨[.a (.lf cE)],[]⟩] fun k x=>qev k x.1 x.2.1 x.2.2.1 x.2.2.2.1 x.2.2.2.2.1 x.2.2.2.2.2
def qyq (k:Nat):LInst:=mkL 0 [⟨[(1,vI),(2,.a (.ptr 0 0 0)),(5,.a (.smz 1)),(6,vI)],[(0,some (.raw [[.lf (.sl .str),.lf (.sl qC),.lf (.int .i64),.lf (.int .i64),.lf (.int .i64)]] 5 27 true false false)),(1,some (.arr (.pr (.int .i64) (.int .i64)) 2 125 false))],2⟩] [⟨some 0,⟨[(5,.a (.smz 1))],[(0,some (.raw [[.lf (.sl .str),.lf (.sl qC),.lf (.int .i64),.lf (.int .i64),.lf (.int .i64)]] 5 27 true false false)),(1,some (.arr (.pr (.int .i64) (.int .i64)) 2 125 false))],2⟩⟩] (fun n x=>qbB k n x.1 x.2.1 x.2.2.1 x.2.2.2.1 x.2.2.2.2.1 x.2.2.2.2.2.1 x.2.2.2.2.2.2.1 x.2.2.2.2.2.2.2.1 x.2.2.2.2.2.2.2.2) k
theorem qyr (k:Nat):LIo 64 Tryz.f64 0 k (qyq k):=
 lpk [] a0 l0 (fun _=>rfl) (by kernel_rfl) fun n x=>by kernel_rfl
theorem qAp:∀k,qg (call cf k) (qyp k):=
 fnk 0 [0] Tryz.func64 (fun k=>a0) (fun k=>(lc (qyr k) l0)) ⟨rfl,rfl,⟨rfl,Nat.le_of_ble_eq_true rfl⟩,rfl⟩ (fun _=>rfl) (by kernel_rfl) fun k x=>by kernel_rfl

def qcy (k:Nat) (rec:Int→List (Int×Int)→Nat→Int→Int→List Bool→Option (Int×List (Int×Int)×Nat×Int×List Bool)) (n:Int) (ties:List (Int×Int)) (is1:Nat) (round:Int) (i:Int) (iss:List Bool):Option (Int×List (Int×Int)×Nat×Int×List Bool):=
 if((decide (i<(((List.length ties):Nat):Int)))=true)then
 if((0:Int)≤i)then
 Option.bind (ties)[(Int.toNat i)]? fun x1=>
 if((0:Int)≤i)then
 Option.bind (ties)[(Int.toNat i)]? fun x2=>
 if(((0:Int)≤x1.1)∧(x1.1<((is1:Nat):Int)))then
 Option.bind (iss)[(0+(Int.toNat x1.1))]? fun x3=>
 if(x3=false)then
 if(((0:Int)≤x2.2)∧(x2.2<((is1:Nat):Int)))then
 Option.bind (iss)[(0+(Int.toNat x2.2))]? fun x4=>
 if(x4=true)then
 if(((0:Int)≤x1.1)∧(x1.1<((is1:Nat):Int)))then
 Option.bind (iss)[(0+(Int.toNat x1.1))]? fun x5=>
 if(((0:Int)≤x2.2)∧(x2.2<((is1:Nat):Int)))then
 Option.bind ((List.set iss (0+(Int.toNat x1.1)) true))[(0+(Int.toNat x2.2))]? fun x6=>
 rec n ties is1 round (IntKind.wrap .i64 (i+(1:Int))) (List.set (List.set iss (0+(Int.toNat x1.1)) true) (0+(Int.toNat x2.2)) true)
 else
 none
 else
 none
 else
 rec n ties is1 round (IntKind.wrap .i64 (i+(1:Int))) iss
 else
 none
 else
 if(((0:Int)≤x1.1)∧(x1.1<((is1:Nat):Int)))then
 Option.bind (iss)[(0+(Int.toNat x1.1))]? fun x4=>
 if(((0:Int)≤x2.2)∧(x2.2<((is1:Nat):Int)))then
 Option.bind ((List.set iss (0+(Int.toNat x1.1)) true))[(0+(Int.toNat x2.2))]? fun x5=>
 rec n ties is1 round (IntKind.wrap .i64 (i+(1:Int))) (List.set (List.set iss (0+(Int.toNat x1.1)) true) (0+(Int.toNat x2.2)) true)
 else
 none
 else
 none
 else
 none
 else
 none
 else
 none
 else
 (some (n,ties,is1,round,iss))
def qbC (k n:Nat):Int→List (Int×Int)→Nat→Int→Int→List Bool→Option (Int×List (Int×Int)×Nat×Int×List Bool):=Nat.rec (fun _ _ _ _ _ _=>none) (fun _ r=>qcy k r) n
def qcz (k:Nat) (rec:Int→List (Int×Int)→Nat→Int→List Bool→Option (Nat×List Bool)) (n:Int) (ties:List (Int×Int)) (is1:Nat) (round:Int) (iss:List Bool):Option (Nat×List Bool):=
 if((decide (round<n))=true)then
 Option.bind (qbC k k n ties is1 round (0:Int) iss) fun r7=>
 rec r7.1 r7.2.1 r7.2.2.1 (IntKind.wrap .i64 (r7.2.2.2.1+(1:Int))) r7.2.2.2.2
 else
 (some (is1,iss))
def qbD (k n:Nat):Int→List (Int×Int)→Nat→Int→List Bool→Option (Nat×List Bool):=Nat.rec (fun _ _ _ _ _=>none) (fun _ r=>qcz k r) n
def qgc (k:Nat) (n:Int) (at1:Int) (ties:List (Int×Int)):Option (Nat×List Bool):=
 if(((0:Int)≤n)∧((n≤n)∧((n*(1:Int))≤(140737488355328:Int))))then
 if(((0:Int)≤at1)∧(at1<(((Int.toNat n):Nat):Int)))then
 Option.bind ((List.replicate (Int.toNat n) false))[(0+(Int.toNat at1))]? fun x=>
 Option.bind (qbD k k n ties (Int.toNat n) (0:Int) (List.set (List.replicate (Int.toNat n) false) (0+(Int.toNat at1)) true)) fun r7=>
 (some (r7.1,r7.2))
 else
 none
 else
 none
def qb5:Nat→Int→Int→List (Int×Int)→Option (Nat×List Bool)
 | 0,_,_,_=>none
 | k+1,n,at1,ties=>qgc k n at1 ties
def qsU:Nat→Inst:=mkI 63 ⟨[vI,vI,.a (.lf cE)],[]⟩ [⟨[.a (.smz 0)],[.arr .bool 1 4 false]⟩] fun k x=>qb5 k x.1 x.2.1 x.2.2
def qys (k:Nat):LInst:=mkL 2 [⟨[(0,vI),(2,.a (.lf cE)),(7,.a (.smz 0)),(8,vI),(9,vI)],[(0,some (.arr .bool 1 4 false))],1⟩] [⟨some 2,⟨[(0,vI),(2,.a (.lf cE)),(7,.a (.smz 0)),(8,vI)],[(0,some (.arr .bool 1 4 false))],1⟩⟩] (fun n x=>qbC k n x.1 x.2.1 x.2.2.1 x.2.2.2.1 x.2.2.2.2.1 x.2.2.2.2.2) k
theorem qrb (k:Nat):LIo 63 Tryz.f63 0 k (qys k):=
 lpk [] a0 l0 (fun _=>rfl) (by kernel_rfl) fun n x=>by kernel_rfl
def qyt (k:Nat):LInst:=mkL 0 [⟨[(0,vI),(2,.a (.lf cE)),(7,.a (.smz 0)),(8,vI)],[(0,some (.arr .bool 1 4 false))],1⟩] [⟨some 0,⟨[(7,.a (.smz 0))],[(0,some (.arr .bool 1 4 false))],1⟩⟩] (fun n x=>qbD k n x.1 x.2.1 x.2.2.1 x.2.2.2.1 x.2.2.2.2) k
theorem qyu (k:Nat):LIo 63 Tryz.f63 0 k (qyt k):=
 lpk [2] a0 (lc (qrb k) l0) (fun _=>rfl) (by kernel_rfl) fun n x=>by kernel_rfl
theorem qub:∀k,qg (call cf k) (qsU k):=
 fnk 0 [0] Tryz.func63 (fun k=>a0) (fun k=>(lc (qrb k) (lc (qyu k) l0))) ⟨rfl,rfl,⟨rfl,Nat.le_of_ble_eq_true rfl⟩,rfl⟩ (fun _=>rfl) (by kernel_rfl) fun k x=>by kernel_rfl

def qce (k:Nat) (rec:Nat→Nat→Int→List Bool→List Int→Option (Nat×List Bool×List Int)) (is1:Nat) (l:Nat) (i:Int) (iss:List Bool) (ls:List Int):Option (Nat×List Bool×List Int):=
 if((decide (i<((is1:Nat):Int)))=true)then
 if(((0:Int)≤i)∧(i<((is1:Nat):Int)))then
 Option.bind (iss)[(0+(Int.toNat i))]? fun x=>
 if((!x)=true)then
 if(l≤(List.length ls))then
 if(((l+(List.length (List.take 1 (i:: []))))*8)≤140737488355328)then
 rec is1 (l+(List.length (List.take 1 (i:: [])))) (IntKind.wrap .i64 (i+(1:Int))) iss ((List.take l ls)++(List.take 1 (i:: [])))
 else
 none
 else
 none
 else
 rec is1 l (IntKind.wrap .i64 (i+(1:Int))) iss ls
 else
 none
 else
 (some (l,iss,ls))
def qa3 (k n:Nat):Nat→Nat→Int→List Bool→List Int→Option (Nat×List Bool×List Int):=Nat.rec (fun _ _ _ _ _=>none) (fun _ r=>qce k r) n
def qe8 (k:Nat) (f0:List ByteArray) (f1:List DvT) (f2:Int) (f3:Int) (f4:Int) (mode:Int):Option (List Int×Int):=
 Option.bind (qde k f0 f1 f2 f3 f4 mode) fun r5=>
 if((r5 != (0:Int))=true)then
 (some ([],r5))
 else
 Option.bind (qev k f0 f1 f2 f3 f4 mode) fun r6=>
 Option.bind (qb5 k (((List.length f0):Nat):Int) (0:Int) r6) fun r7=>
 Option.bind (qa3 k k r7.1 0 (0:Int) r7.2 []) fun r8=>
 if((0+r8.1)≤(List.length r8.2.2))then
 (some ((List.take r8.1 r8.2.2),(0:Int)))
 else
 none
def qcV:Nat→List ByteArray→List DvT→Int→Int→Int→Int→Option (List Int×Int)
 | 0,_,_,_,_,_,_=>none
 | k+1,f0,f1,f2,f3,f4,mode=>qe8 k f0 f1 f2 f3 f4 mode
def qyv:Nat→Inst:=mkI 18 ⟨[.g [.lf (.sl .str),.lf (.sl qC),.lf (.int .i64),.lf (.int .i64),.lf (.int .i64)],vI],[]⟩ [⟨[vJ,vI],[]⟩] fun k x=>qcV k x.1 x.2.1 x.2.2.1 x.2.2.2.1 x.2.2.2.2.1 x.2.2.2.2.2
theorem quc (k:Nat):qaH (call cf k) [qsT k,qyp k,qsU k]:=
 ac (qua k) (ac (qAp k) (ac (qub k) a0))
def qyw (k:Nat):LInst:=mkL 0 [⟨[(7,.a (.smz 0)),(8,.a (.smz 1)),(9,vI)],[(0,some (.arr .bool 1 4 false)),(1,some (.arr (.int .i64) 1 3 false))],2⟩] [⟨some 0,⟨[(8,.a (.smz 1))],[(0,some (.arr .bool 1 4 false)),(1,some (.arr (.int .i64) 1 3 false))],2⟩⟩] (fun n x=>qa3 k n x.1 x.2.1 x.2.2.1 x.2.2.2.1 x.2.2.2.2) k
theorem qyx (k:Nat):LIo 18 Tryz.f18 0 k (qyw k):=
 lpk [] (quc k) l0 (fun _=>rfl) (by kernel_rfl) fun n x=>by kernel_rfl
theorem qud:∀k,qg (call cf k) (qyv k):=
 fnk 0 [0] Tryz.func18 (fun k=>(quc k)) (fun k=>(lc (qyx k) l0)) ⟨rfl,rfl,⟨rfl,Nat.le_of_ble_eq_true rfl⟩,rfl⟩ (fun _=>rfl) (by kernel_rfl) fun k x=>by kernel_rfl

def qa4 (k:Nat) (rec:Int→Nat→Nat→Int→List ByteArray→List DvT→Int→Int→Int→List Int→List (Int×Int)→Option (Nat×List ByteArray×List DvT×Int×Int×Int×List Int×List (Int×Int))) (mode:Int) (l:Nat) (ties:Nat) (i:Int) (f0:List ByteArray) (f1:List DvT) (f2:Int) (f3:Int) (f4:Int) (ls:List Int) (tiess:List (Int×Int)):Option (Nat×List ByteArray×List DvT×Int×Int×Int×List Int×List (Int×Int)):=
 if((decide (i<(((List.length f1):Nat):Int)))=true)then
 if((0:Int)≤i)then
 Option.bind (f1)[(Int.toNat i)]? fun x=>
 if((x.1 != (118:Int))=true)then
 if((x.1 != (108:Int))=false)then
 if((mode != (1:Int))=true)then
 rec mode l ties (IntKind.wrap .i64 (i+(1:Int))) f0 f1 f2 f3 f4 ls tiess
 else
 Option.bind (x.2.2.1)[0]? fun x1=>
 if((0+ties)≤(List.length tiess))then
 Option.bind (qb5 k (((List.length f0):Nat):Int) x1 (List.take ties tiess)) fun r7=>
 Option.bind (x.2.2.1)[1]? fun x2=>
 if(((0:Int)≤x2)∧(x2<((r7.1:Nat):Int)))then
 Option.bind (r7.2)[(0+(Int.toNat x2))]? fun x3=>
 if(x3=true)then
 if(l≤(List.length ls))then
 if(((l+(List.length (List.take 1 (i:: []))))*8)≤140737488355328)then
 Option.bind (x.2.2.1)[0]? fun x4=>
 Option.bind (x.2.2.1)[1]? fun x5=>
 if(ties≤(List.length tiess))then
 if(((ties+(List.length (List.take 1 ((x4,x5):: []))))*16)≤140737488355328)then
 rec mode (l+(List.length (List.take 1 (i:: [])))) (ties+(List.length (List.take 1 ((x4,x5):: [])))) (IntKind.wrap .i64 (i+(1:Int))) f0 f1 f2 f3 f4 ((List.take l ls)++(List.take 1 (i:: []))) ((List.take ties tiess)++(List.take 1 ((x4,x5):: [])))
 else
 none
 else
 none
 else
 none
 else
 none
 else
 Option.bind (x.2.2.1)[0]? fun x4=>
 Option.bind (x.2.2.1)[1]? fun x5=>
 if(ties≤(List.length tiess))then
 if(((ties+(List.length (List.take 1 ((x4,x5):: []))))*16)≤140737488355328)then
 rec mode l (ties+(List.length (List.take 1 ((x4,x5):: [])))) (IntKind.wrap .i64 (i+(1:Int))) f0 f1 f2 f3 f4 ls ((List.take ties tiess)++(List.take 1 ((x4,x5):: [])))
 else
 none
 else
 none
 else
 none
 else
 none
 else
 rec mode l ties (IntKind.wrap .i64 (i+(1:Int))) f0 f1 f2 f3 f4 ls tiess
 else
 Option.bind (x.2.2.1)[0]? fun x1=>
 if((0+ties)≤(List.length tiess))then
 Option.bind (qb5 k (((List.length f0):Nat):Int) x1 (List.take ties tiess)) fun r7=>
 Option.bind (x.2.2.1)[1]? fun x2=>
 if(((0:Int)≤x2)∧(x2<((r7.1:Nat):Int)))then
 Option.bind (r7.2)[(0+(Int.toNat x2))]? fun x3=>
 if(x3=true)then
 if(l≤(List.length ls))then
 if(((l+(List.length (List.take 1 (i:: []))))*8)≤140737488355328)then
 Option.bind (x.2.2.1)[0]? fun x4=>
 Option.bind (x.2.2.1)[1]? fun x5=>
 if(ties≤(List.length tiess))then
 if(((ties+(List.length (List.take 1 ((x4,x5):: []))))*16)≤140737488355328)then
 rec mode (l+(List.length (List.take 1 (i:: [])))) (ties+(List.length (List.take 1 ((x4,x5):: [])))) (IntKind.wrap .i64 (i+(1:Int))) f0 f1 f2 f3 f4 ((List.take l ls)++(List.take 1 (i:: []))) ((List.take ties tiess)++(List.take 1 ((x4,x5):: [])))
 else
 none
 else
 none
 else
 none
 else
 none
 else
 Option.bind (x.2.2.1)[0]? fun x4=>
 Option.bind (x.2.2.1)[1]? fun x5=>
 if(ties≤(List.length tiess))then
 if(((ties+(List.length (List.take 1 ((x4,x5):: []))))*16)≤140737488355328)then
 rec mode l (ties+(List.length (List.take 1 ((x4,x5):: [])))) (IntKind.wrap .i64 (i+(1:Int))) f0 f1 f2 f3 f4 ls ((List.take ties tiess)++(List.take 1 ((x4,x5):: [])))
 else
 none
 else
 none
 else
 none
 else
 none
 else
 none
 else
 (some (l,f0,f1,f2,f3,f4,ls,tiess))
def qB (k n:Nat):Int→Nat→Nat→Int→List ByteArray→List DvT→Int→Int→Int→List Int→List (Int×Int)→Option (Nat×List ByteArray×List DvT×Int×Int×Int×List Int×List (Int×Int)):=Nat.rec (fun _ _ _ _ _ _ _ _ _ _ _=>none) (fun _ r=>qa4 k r) n
def qfE (k:Nat) (f0:List ByteArray) (f1:List DvT) (f2:Int) (f3:Int) (f4:Int) (mode:Int):Option (List Int×Int):=
 Option.bind (qde k f0 f1 f2 f3 f4 mode) fun r6=>
 if((r6 != (0:Int))=true)then
 (some ([],r6))
 else
 Option.bind (qB k k mode 0 0 (0:Int) f0 f1 f2 f3 f4 [] []) fun r7=>
 if((0+r7.1)≤(List.length r7.2.2.2.2.2.2.1))then
 (some ((List.take r7.1 r7.2.2.2.2.2.2.1),(0:Int)))
 else
 none
def qdf:Nat→List ByteArray→List DvT→Int→Int→Int→Int→Option (List Int×Int)
 | 0,_,_,_,_,_,_=>none
 | k+1,f0,f1,f2,f3,f4,mode=>qfE k f0 f1 f2 f3 f4 mode
def qyy:Nat→Inst:=mkI 19 ⟨[.g [.lf (.sl .str),.lf (.sl qC),.lf (.int .i64),.lf (.int .i64),.lf (.int .i64)],vI],[]⟩ [⟨[vJ,vI],[]⟩] fun k x=>qdf k x.1 x.2.1 x.2.2.1 x.2.2.2.1 x.2.2.2.2.1 x.2.2.2.2.2
theorem que (k:Nat):qaH (call cf k) [qsT k,qsU k]:=
 ac (qua k) (ac (qub k) a0)
def qyz (k:Nat):LInst:=mkL 0 [⟨[(1,vI),(2,.a (.ptr 0 0 0)),(7,.a (.smz 1)),(8,.a (.smz 2)),(9,vI)],[(0,some (.raw [[.lf (.sl .str),.lf (.sl qC),.lf (.int .i64),.lf (.int .i64),.lf (.int .i64)]] 5 27 true false false)),(1,some (.arr (.int .i64) 1 3 false)),(2,some (.arr (.pr (.int .i64) (.int .i64)) 2 125 false))],3⟩] [⟨some 0,⟨[(7,.a (.smz 1))],[(0,some (.raw [[.lf (.sl .str),.lf (.sl qC),.lf (.int .i64),.lf (.int .i64),.lf (.int .i64)]] 5 27 true false false)),(1,some (.arr (.int .i64) 1 3 false)),(2,some (.arr (.pr (.int .i64) (.int .i64)) 2 125 false))],3⟩⟩] (fun n x=>qB k n x.1 x.2.1 x.2.2.1 x.2.2.2.1 x.2.2.2.2.1 x.2.2.2.2.2.1 x.2.2.2.2.2.2.1 x.2.2.2.2.2.2.2.1 x.2.2.2.2.2.2.2.2.1 x.2.2.2.2.2.2.2.2.2.1 x.2.2.2.2.2.2.2.2.2.2) k
theorem qyA (k:Nat):LIo 19 Tryz.f19 0 k (qyz k):=
 lpk [] (que k) l0 (fun _=>rfl) (by kernel_rfl) fun n x=>by kernel_rfl
theorem quf:∀k,qg (call cf k) (qyy k):=
 fnk 0 [0] Tryz.func19 (fun k=>(que k)) (fun k=>(lc (qyA k) l0)) ⟨rfl,rfl,⟨rfl,Nat.le_of_ble_eq_true rfl⟩,rfl⟩ (fun _=>rfl) (by kernel_rfl) fun k x=>by kernel_rfl

def qbq (k:Nat) (rec:List Int→List Int→Int→Option ((Bool) ⊕ (Unit))) (a:List Int) (b:List Int) (i:Int):Option ((Bool) ⊕ (Unit)):=
 if((decide (i<(((List.length a):Nat):Int)))=true)then
 if((0:Int)≤i)then
 Option.bind (a)[(Int.toNat i)]? fun x=>
 if((0:Int)≤i)then
 Option.bind (b)[(Int.toNat i)]? fun x1=>
 if((x != x1)=true)then
 (some (Sum.inl false))
 else
 rec a b (IntKind.wrap .i64 (i+(1:Int)))
 else
 none
 else
 none
 else
 (some (Sum.inr ()))
def qax (k n:Nat):List Int→List Int→Int→Option ((Bool) ⊕ (Unit)):=Nat.rec (fun _ _ _=>none) (fun _ r=>qbq k r) n
def qgd (k:Nat) (a:List Int) (b:List Int):Option (Bool):=
 if(((((List.length a):Nat):Int) != (((List.length b):Nat):Int))=true)then
 (some false)
 else
 Option.bind (qax k k a b (0:Int)) fun r7=>
 qc r7
 (fun r7=>
 (some r7))
 (fun r7=>
 (some true))
def qay:Nat→List Int→List Int→Option (Bool)
 | 0,_,_=>none
 | k+1,a,b=>qgd k a b
def qyB:Nat→Inst:=mkI 20 ⟨[vJ,vJ],[]⟩ [⟨[vB],[]⟩] fun k x=>qay k x.1 x.2
def qyC (k:Nat):LInst:=mkL 0 [⟨[(0,vJ),(1,vJ),(5,vI)],[],0⟩] [⟨none,⟨[(4,vB)],[],0⟩⟩,⟨some 0,⟨[],[],0⟩⟩] (fun n x=>qax k n x.1 x.2.1 x.2.2) k
theorem qyD (k:Nat):LIo 20 Tryz.f20 0 k (qyC k):=
 lpk [] a0 l0 (fun _=>rfl) (by kernel_rfl) fun n x=>by kernel_rfl
theorem qug:∀k,qg (call cf k) (qyB k):=
 fnk 0 [0] Tryz.func20 (fun k=>a0) (fun k=>(lc (qyD k) l0)) ⟨rfl,rfl,⟨rfl,Nat.le_of_ble_eq_true rfl⟩,rfl⟩ (fun _=>rfl) (by kernel_rfl) fun k x=>by kernel_rfl

def qfF (k:Nat) (f0:List ByteArray) (f1:List DvT) (f2:Int) (f3:Int) (f4:Int) (mode:Int):Option (Int):=
 Option.bind (qcV k f0 f1 f2 f3 f4 mode) fun r10=>
 if((r10.2 != (0:Int))=true)then
 (some r10.2)
 else
 if((decide ((((List.length r10.1):Nat):Int)>(0:Int)))=true)then
 (some (100:Int))
 else
 Option.bind (qdf k f0 f1 f2 f3 f4 mode) fun r11=>
 if((decide ((((List.length r11.1):Nat):Int)>(0:Int)))=true)then
 (some (101:Int))
 else
 (some (0:Int))
def qdZ:Nat→List ByteArray→List DvT→Int→Int→Int→Int→Option (Int)
 | 0,_,_,_,_,_,_=>none
 | k+1,f0,f1,f2,f3,f4,mode=>qfF k f0 f1 f2 f3 f4 mode
def qyE:Nat→Inst:=mkI 22 ⟨[.g [.lf (.sl .str),.lf (.sl qC),.lf (.int .i64),.lf (.int .i64),.lf (.int .i64)],vI],[]⟩ [⟨[vI],[]⟩] fun k x=>qdZ k x.1 x.2.1 x.2.2.1 x.2.2.2.1 x.2.2.2.2.1 x.2.2.2.2.2
theorem qAq:∀k,qg (call cf k) (qyE k):=
 fnk 0 [] Tryz.func22 (fun k=>(ac (qud k) (ac (quf k) a0))) (fun k=>l0) ⟨rfl,rfl,⟨rfl,Nat.le_of_ble_eq_true rfl⟩,rfl⟩ (fun _=>rfl) (by kernel_rfl) fun k x=>by kernel_rfl

def qcr (k:Nat) (rec:List ByteArray→List ByteArray→Int→Option ((Bool) ⊕ (Unit))) (a:List ByteArray) (b:List ByteArray) (i:Int):Option ((Bool) ⊕ (Unit)):=
 if((decide (i<(((List.length a):Nat):Int)))=true)then
 if((0:Int)≤i)then
 Option.bind (a)[(Int.toNat i)]? fun x=>
 if((0:Int)≤i)then
 Option.bind (b)[(Int.toNat i)]? fun x1=>
 if((!((Array.toList (ByteArray.data x)) == (Array.toList (ByteArray.data x1))))=true)then
 (some (Sum.inl false))
 else
 rec a b (IntKind.wrap .i64 (i+(1:Int)))
 else
 none
 else
 none
 else
 (some (Sum.inr ()))
def qbr (k n:Nat):List ByteArray→List ByteArray→Int→Option ((Bool) ⊕ (Unit)):=Nat.rec (fun _ _ _=>none) (fun _ r=>qcr k r) n
def qfG (k:Nat) (a:List ByteArray) (b:List ByteArray):Option (Bool):=
 if(((((List.length a):Nat):Int) != (((List.length b):Nat):Int))=true)then
 (some false)
 else
 Option.bind (qbr k k a b (0:Int)) fun r14=>
 qc r14
 (fun r14=>
 (some r14))
 (fun r14=>
 (some true))
def qd0:Nat→List ByteArray→List ByteArray→Option (Bool)
 | 0,_,_=>none
 | k+1,a,b=>qfG k a b
def qyF:Nat→Inst:=mkI 65 ⟨[vR,vR],[]⟩ [⟨[vB],[]⟩] fun k x=>qd0 k x.1 x.2
def qyG (k:Nat):LInst:=mkL 0 [⟨[(0,vR),(1,vR),(5,vI)],[],0⟩] [⟨none,⟨[(4,vB)],[],0⟩⟩,⟨some 0,⟨[],[],0⟩⟩] (fun n x=>qbr k n x.1 x.2.1 x.2.2) k
theorem qyH (k:Nat):LIo 65 Tryz.f65 0 k (qyG k):=
 lpk [] a0 l0 (fun _=>rfl) (by kernel_rfl) fun n x=>by kernel_rfl
theorem qAr:∀k,qg (call cf k) (qyF k):=
 fnk 0 [0] Tryz.func65 (fun k=>a0) (fun k=>(lc (qyH k) l0)) ⟨rfl,rfl,⟨rfl,Nat.le_of_ble_eq_true rfl⟩,rfl⟩ (fun _=>rfl) (by kernel_rfl) fun k x=>by kernel_rfl

def qeR (k:Nat) (a0:Int) (a1:ByteArray) (a2:List Int) (a3:Int) (a4:Int) (a5:Int) (a6:Int) (a7:List (Int×Int)) (a8:List Int) (a9:ByteArray) (a10:Int) (a11:List (Int×Int)) (a12:List (Int×Int)) (b0:Int) (b1:ByteArray) (b2:List Int) (b3:Int) (b4:Int) (b5:Int) (b6:Int) (b7:List (Int×Int)) (b8:List Int) (b9:ByteArray) (b10:Int) (b11:List (Int×Int)) (b12:List (Int×Int)):Option (Bool):=
 if((a0 == b0)=true)then
 if(((Array.toList (ByteArray.data a1)) == (Array.toList (ByteArray.data b1)))=true)then
 Option.bind (qay k a2 b2) fun r15=>
 if(r15=true)then
 if((a3 == b3)=true)then
 if((a4 == b4)=true)then
 if((a5 == b5)=true)then
 Option.bind (qv k a6 a7 a8 b6 b7 b8) fun r16=>
 if(r16=true)then
 Option.bind (qj k a9 a10 a11 a12 b9 b10 b11 b12) fun r17=>
 (some r17)
 else
 (some false)
 else
 (some false)
 else
 (some false)
 else
 (some false)
 else
 (some false)
 else
 (some false)
 else
 (some false)
def qdD:Nat→Int→ByteArray→List Int→Int→Int→Int→Int→List (Int×Int)→List Int→ByteArray→Int→List (Int×Int)→List (Int×Int)→Int→ByteArray→List Int→Int→Int→Int→Int→List (Int×Int)→List Int→ByteArray→Int→List (Int×Int)→List (Int×Int)→Option (Bool)
 | 0,_,_,_,_,_,_,_,_,_,_,_,_,_,_,_,_,_,_,_,_,_,_,_,_,_,_=>none
 | k+1,a0,a1,a2,a3,a4,a5,a6,a7,a8,a9,a10,a11,a12,b0,b1,b2,b3,b4,b5,b6,b7,b8,b9,b10,b11,b12=>qeR k a0 a1 a2 a3 a4 a5 a6 a7 a8 a9 a10 a11 a12 b0 b1 b2 b3 b4 b5 b6 b7 b8 b9 b10 b11 b12
def qyI:Nat→Inst:=mkI 66 ⟨[.g [.lf (.int .u8),.lf .str,.lf (.sl (.int .i64)),.lf (.int .i64),.lf (.int .i64),.lf (.int .i64),.lf (.int .i64),.lf cE,.lf (.sl (.int .i64)),.lf .str,.lf (.int .u8),.lf cE,.lf cE],.g [.lf (.int .u8),.lf .str,.lf (.sl (.int .i64)),.lf (.int .i64),.lf (.int .i64),.lf (.int .i64),.lf (.int .i64),.lf cE,.lf (.sl (.int .i64)),.lf .str,.lf (.int .u8),.lf cE,.lf cE]],[]⟩ [⟨[vB],[]⟩] fun k x=>qdD k x.1 x.2.1 x.2.2.1 x.2.2.2.1 x.2.2.2.2.1 x.2.2.2.2.2.1 x.2.2.2.2.2.2.1 x.2.2.2.2.2.2.2.1 x.2.2.2.2.2.2.2.2.1 x.2.2.2.2.2.2.2.2.2.1 x.2.2.2.2.2.2.2.2.2.2.1 x.2.2.2.2.2.2.2.2.2.2.2.1 x.2.2.2.2.2.2.2.2.2.2.2.2.1 x.2.2.2.2.2.2.2.2.2.2.2.2.2.1 x.2.2.2.2.2.2.2.2.2.2.2.2.2.2.1 x.2.2.2.2.2.2.2.2.2.2.2.2.2.2.2.1 x.2.2.2.2.2.2.2.2.2.2.2.2.2.2.2.2.1 x.2.2.2.2.2.2.2.2.2.2.2.2.2.2.2.2.2.1 x.2.2.2.2.2.2.2.2.2.2.2.2.2.2.2.2.2.2.1 x.2.2.2.2.2.2.2.2.2.2.2.2.2.2.2.2.2.2.2.1 x.2.2.2.2.2.2.2.2.2.2.2.2.2.2.2.2.2.2.2.2.1 x.2.2.2.2.2.2.2.2.2.2.2.2.2.2.2.2.2.2.2.2.2.1 x.2.2.2.2.2.2.2.2.2.2.2.2.2.2.2.2.2.2.2.2.2.2.1 x.2.2.2.2.2.2.2.2.2.2.2.2.2.2.2.2.2.2.2.2.2.2.2.1 x.2.2.2.2.2.2.2.2.2.2.2.2.2.2.2.2.2.2.2.2.2.2.2.2.1 x.2.2.2.2.2.2.2.2.2.2.2.2.2.2.2.2.2.2.2.2.2.2.2.2.2
theorem qAs:∀k,qg (call cf k) (qyI k):=
 fnk 0 [] Tryz.func66 (fun k=>(ac (qug k) (ac (qt0 k) (ac (qt2 k) a0)))) (fun k=>l0) ⟨rfl,rfl,⟨rfl,Nat.le_of_ble_eq_true rfl⟩,rfl⟩ (fun _=>rfl) (by kernel_rfl) fun k x=>by kernel_rfl

def qcA (k:Nat) (rec:Int→List ByteArray→List DvT→Int→Int→Int→List ByteArray→List DvT→Int→Int→Int→Option ((Bool×List ByteArray×List DvT×Int×Int×Int×List ByteArray×List DvT×Int×Int×Int) ⊕ (List ByteArray×List DvT×Int×Int×Int×List ByteArray×List DvT×Int×Int×Int))) (i:Int) (a0:List ByteArray) (a1:List DvT) (a2:Int) (a3:Int) (a4:Int) (b0:List ByteArray) (b1:List DvT) (b2:Int) (b3:Int) (b4:Int):Option ((Bool×List ByteArray×List DvT×Int×Int×Int×List ByteArray×List DvT×Int×Int×Int) ⊕ (List ByteArray×List DvT×Int×Int×Int×List ByteArray×List DvT×Int×Int×Int)):=
 if((decide (i<(((List.length a1):Nat):Int)))=true)then
 if((0:Int)≤i)then
 Option.bind (a1)[(Int.toNat i)]? fun x=>
 if((0:Int)≤i)then
 Option.bind (b1)[(Int.toNat i)]? fun x1=>
 Option.bind (qdD k x.1 x.2.1 x.2.2.1 x.2.2.2.1 x.2.2.2.2.1.1 x.2.2.2.2.1.2 x.2.2.2.2.2.1.1 x.2.2.2.2.2.1.2.1 x.2.2.2.2.2.1.2.2 x.2.2.2.2.2.2.1 x.2.2.2.2.2.2.2.1 x.2.2.2.2.2.2.2.2.1 x.2.2.2.2.2.2.2.2.2 x1.1 x1.2.1 x1.2.2.1 x1.2.2.2.1 x1.2.2.2.2.1.1 x1.2.2.2.2.1.2 x1.2.2.2.2.2.1.1 x1.2.2.2.2.2.1.2.1 x1.2.2.2.2.2.1.2.2 x1.2.2.2.2.2.2.1 x1.2.2.2.2.2.2.2.1 x1.2.2.2.2.2.2.2.2.1 x1.2.2.2.2.2.2.2.2.2) fun r15=>
 if((!r15)=true)then
 (some (Sum.inl (false,a0,a1,a2,a3,a4,b0,b1,b2,b3,b4)))
 else
 rec (IntKind.wrap .i64 (i+(1:Int))) a0 a1 a2 a3 a4 b0 b1 b2 b3 b4
 else
 none
 else
 none
 else
 (some (Sum.inr (a0,a1,a2,a3,a4,b0,b1,b2,b3,b4)))
def qbE (k n:Nat):Int→List ByteArray→List DvT→Int→Int→Int→List ByteArray→List DvT→Int→Int→Int→Option ((Bool×List ByteArray×List DvT×Int×Int×Int×List ByteArray×List DvT×Int×Int×Int) ⊕ (List ByteArray×List DvT×Int×Int×Int×List ByteArray×List DvT×Int×Int×Int)):=Nat.rec (fun _ _ _ _ _ _ _ _ _ _ _=>none) (fun _ r=>qcA k r) n
def qge (k:Nat) (a0:List ByteArray) (a1:List DvT) (a2:Int) (a3:Int) (a4:Int) (b0:List ByteArray) (b1:List DvT) (b2:Int) (b3:Int) (b4:Int):Option (Bool):=
 Option.bind (qd0 k a0 b0) fun r14=>
 if((!r14)=false)then
 if(((((List.length a1):Nat):Int) != (((List.length b1):Nat):Int))=false)then
 if((a2 == b2)=true)then
 if((a3 == b3)=true)then
 if((a4 != b4)=true)then
 (some false)
 else
 Option.bind (qbE k k (0:Int) a0 a1 a2 a3 a4 b0 b1 b2 b3 b4) fun r15=>
 qc r15
 (fun r15=>
 (some r15.1))
 (fun r15=>
 (some true))
 else
 (some false)
 else
 (some false)
 else
 (some false)
 else
 (some false)
def qew:Nat→List ByteArray→List DvT→Int→Int→Int→List ByteArray→List DvT→Int→Int→Int→Option (Bool)
 | 0,_,_,_,_,_,_,_,_,_,_=>none
 | k+1,a0,a1,a2,a3,a4,b0,b1,b2,b3,b4=>qge k a0 a1 a2 a3 a4 b0 b1 b2 b3 b4
def qyJ:Nat→Inst:=mkI 23 ⟨[.g [.lf (.sl .str),.lf (.sl qC),.lf (.int .i64),.lf (.int .i64),.lf (.int .i64)],.g [.lf (.sl .str),.lf (.sl qC),.lf (.int .i64),.lf (.int .i64),.lf (.int .i64)]],[]⟩ [⟨[vB],[]⟩] fun k x=>qew k x.1 x.2.1 x.2.2.1 x.2.2.2.1 x.2.2.2.2.1 x.2.2.2.2.2.1 x.2.2.2.2.2.2.1 x.2.2.2.2.2.2.2.1 x.2.2.2.2.2.2.2.2.1 x.2.2.2.2.2.2.2.2.2
theorem quh (k:Nat):qaH (call cf k) [qyF k,qyI k]:=
 ac (qAr k) (ac (qAs k) a0)
def qyK (k:Nat):LInst:=mkL 0 [⟨[(2,.a (.ptr 0 0 0)),(3,.a (.ptr 1 0 0)),(5,vI)],[(0,some (.raw [[.lf (.sl .str),.lf (.sl qC),.lf (.int .i64),.lf (.int .i64),.lf (.int .i64)]] 5 27 true false false)),(1,some (.raw [[.lf (.sl .str),.lf (.sl qC),.lf (.int .i64),.lf (.int .i64),.lf (.int .i64)]] 5 27 true false false))],2⟩] [⟨none,⟨[(4,vB)],[(0,some (.raw [[.lf (.sl .str),.lf (.sl qC),.lf (.int .i64),.lf (.int .i64),.lf (.int .i64)]] 5 27 true false false)),(1,some (.raw [[.lf (.sl .str),.lf (.sl qC),.lf (.int .i64),.lf (.int .i64),.lf (.int .i64)]] 5 27 true false false))],2⟩⟩,⟨some 0,⟨[],[(0,some (.raw [[.lf (.sl .str),.lf (.sl qC),.lf (.int .i64),.lf (.int .i64),.lf (.int .i64)]] 5 27 true false false)),(1,some (.raw [[.lf (.sl .str),.lf (.sl qC),.lf (.int .i64),.lf (.int .i64),.lf (.int .i64)]] 5 27 true false false))],2⟩⟩] (fun n x=>qbE k n x.1 x.2.1 x.2.2.1 x.2.2.2.1 x.2.2.2.2.1 x.2.2.2.2.2.1 x.2.2.2.2.2.2.1 x.2.2.2.2.2.2.2.1 x.2.2.2.2.2.2.2.2.1 x.2.2.2.2.2.2.2.2.2.1 x.2.2.2.2.2.2.2.2.2.2) k
theorem qyL (k:Nat):LIo 23 Tryz.f23 0 k (qyK k):=
 lpk [] (quh k) l0 (fun _=>rfl) (by kernel_rfl) fun n x=>by kernel_rfl
theorem qAt:∀k,qg (call cf k) (qyJ k):=
 fnk 0 [0] Tryz.func23 (fun k=>(quh k)) (fun k=>(lc (qyL k) l0)) ⟨rfl,rfl,⟨rfl,Nat.le_of_ble_eq_true rfl⟩,rfl⟩ (fun _=>rfl) (by kernel_rfl) fun k x=>by kernel_rfl

def qbF (k:Nat) (rec:Int→Nat→List Int→Int→Int→List ByteArray→List DvT→Int→Int→Int→Nat→Nat→Int→Int→Int→List Int→List ByteArray→List DvT→Option (Int×List Int×List ByteArray×List DvT×Int×Int×Int×Nat×Nat×Int×Int×Int×List Int×List ByteArray×List DvT)) (mode:Int) (l:Nat) (l2:List Int) (x:Int) (x1:Int) (f0:List ByteArray) (f1:List DvT) (f2:Int) (f3:Int) (f4:Int) (in0:Nat) (in1:Nat) (in2:Int) (in3:Int) (in4:Int) (ls:List Int) (m:List ByteArray) (m1:List DvT):Option (Int×List Int×List ByteArray×List DvT×Int×Int×Int×Nat×Nat×Int×Int×Int×List Int×List ByteArray×List DvT):=
 if((decide (x1<x))=true)then
 if(((0:Int)≤x1)∧(x1<((l:Nat):Int)))then
 Option.bind (ls)[(0+(Int.toNat x1))]? fun x2=>
 rec mode l l2 x (IntKind.wrap .i64 (x1+(1:Int))) f0 f1 f2 f3 f4 in0 in1 in2 in3 in4 (List.set ls (0+(Int.toNat x1)) (-(3:Int))) m m1
 else
 none
 else
 (some (mode,l2,f0,f1,f2,f3,f4,in0,in1,in2,in3,in4,ls,m,m1))
def qan (k n:Nat):Int→Nat→List Int→Int→Int→List ByteArray→List DvT→Int→Int→Int→Nat→Nat→Int→Int→Int→List Int→List ByteArray→List DvT→Option (Int×List Int×List ByteArray×List DvT×Int×Int×Int×Nat×Nat×Int×Int×Int×List Int×List ByteArray×List DvT):=Nat.rec (fun _ _ _ _ _ _ _ _ _ _ _ _ _ _ _ _ _ _=>none) (fun _ r=>qbF k r) n
def qec (k:Nat) (f0:List ByteArray) (f1:List DvT) (f2:Int) (f3:Int) (f4:Int) (mode:Int):Option (Bool):=
 Option.bind (qfB k) fun r=>
 if((!r)=true)then
 (some false)
 else
 Option.bind (qdY k f0 f1 f2 f3 f4) fun r1=>
 if(r1=true)then
 (some true)
 else
 Option.bind (qeu k f0 f1 f2 f3 f4) fun r2=>
 if((0+r2.1)≤(List.length r2.2.2.2.2.2.1))then
 if((0+r2.2.1)≤(List.length r2.2.2.2.2.2.2))then
 Option.bind (qbb k (List.take r2.1 r2.2.2.2.2.2.1) (List.take r2.2.1 r2.2.2.2.2.2.2) r2.2.2.1 r2.2.2.2.1 r2.2.2.2.2.1 mode) fun r3=>
 if((0+r2.1)≤(List.length r2.2.2.2.2.2.1))then
 if((0+r2.2.1)≤(List.length r2.2.2.2.2.2.2))then
 Option.bind (qdk k (List.take r2.1 r2.2.2.2.2.2.1) (List.take r2.2.1 r2.2.2.2.2.2.2) r2.2.2.1 r2.2.2.2.1 r2.2.2.2.2.1 mode) fun r4=>
 Option.bind (qcV k f0 f1 f2 f3 f4 mode) fun r5=>
 Option.bind (qdf k f0 f1 f2 f3 f4 mode) fun r6=>
 if((0+r3.1)≤(List.length r3.2.2))then
 Option.bind (qay k (List.take r3.1 r3.2.2) r5.1) fun r7=>
 if((!r7)=false)then
 if((r3.2.1 != r5.2)=false)then
 if((0+r4.1)≤(List.length r4.2.2))then
 Option.bind (qay k (List.take r4.1 r4.2.2) r6.1) fun r8=>
 if((!r8)=false)then
 if((r4.2.1 != r6.2)=false)then
 if((0+r2.1)≤(List.length r2.2.2.2.2.2.1))then
 if((0+r2.2.1)≤(List.length r2.2.2.2.2.2.2))then
 Option.bind (qdV k (List.take r2.1 r2.2.2.2.2.2.1) (List.take r2.2.1 r2.2.2.2.2.2.2) r2.2.2.1 r2.2.2.2.1 r2.2.2.2.2.1 mode) fun r9=>
 Option.bind (qdZ k f0 f1 f2 f3 f4 mode) fun r10=>
 if((r9 != r10)=true)then
 (some false)
 else
 Option.bind (qan k k mode r3.1 r5.1 ((r3.1:Nat):Int) (0:Int) f0 f1 f2 f3 f4 r2.1 r2.2.1 r2.2.2.1 r2.2.2.2.1 r2.2.2.2.2.1 r3.2.2 r2.2.2.2.2.2.1 r2.2.2.2.2.2.2) fun r11=>
 if((0+r11.2.2.2.2.2.2.2.1)≤(List.length r11.2.2.2.2.2.2.2.2.2.2.2.2.2.1))then
 if((0+r11.2.2.2.2.2.2.2.2.1)≤(List.length r11.2.2.2.2.2.2.2.2.2.2.2.2.2.2))then
 Option.bind (qbb k (List.take r11.2.2.2.2.2.2.2.1 r11.2.2.2.2.2.2.2.2.2.2.2.2.2.1) (List.take r11.2.2.2.2.2.2.2.2.1 r11.2.2.2.2.2.2.2.2.2.2.2.2.2.2) r11.2.2.2.2.2.2.2.2.2.1 r11.2.2.2.2.2.2.2.2.2.2.1 r11.2.2.2.2.2.2.2.2.2.2.2.1 r11.1) fun r12=>
 if((0+r12.1)≤(List.length r12.2.2))then
 Option.bind (qay k (List.take r12.1 r12.2.2) r11.2.1) fun r13=>
 if(r13=true)then
 if((0+r11.2.2.2.2.2.2.2.1)≤(List.length r11.2.2.2.2.2.2.2.2.2.2.2.2.2.1))then
 if((0+r11.2.2.2.2.2.2.2.2.1)≤(List.length r11.2.2.2.2.2.2.2.2.2.2.2.2.2.2))then
 Option.bind (qew k (List.take r11.2.2.2.2.2.2.2.1 r11.2.2.2.2.2.2.2.2.2.2.2.2.2.1) (List.take r11.2.2.2.2.2.2.2.2.1 r11.2.2.2.2.2.2.2.2.2.2.2.2.2.2) r11.2.2.2.2.2.2.2.2.2.1 r11.2.2.2.2.2.2.2.2.2.2.1 r11.2.2.2.2.2.2.2.2.2.2.2.1 r11.2.2.1 r11.2.2.2.1 r11.2.2.2.2.1 r11.2.2.2.2.2.1 r11.2.2.2.2.2.2.1) fun r14=>
 (some r14)
 else
 none
 else
 none
 else
 (some false)
 else
 none
 else
 none
 else
 none
 else
 none
 else
 none
 else
 (some false)
 else
 (some false)
 else
 none
 else
 (some false)
 else
 (some false)
 else
 none
 else
 none
 else
 none
 else
 none
 else
 none
def qc1:Nat→List ByteArray→List DvT→Int→Int→Int→Int→Option (Bool)
 | 0,_,_,_,_,_,_=>none
 | k+1,f0,f1,f2,f3,f4,mode=>qec k f0 f1 f2 f3 f4 mode
def qBf:Nat→Inst:=mkI 3 ⟨[.g [.lf (.sl .str),.lf (.sl qC),.lf (.int .i64),.lf (.int .i64),.lf (.int .i64)],vI],[]⟩ [⟨[vB],[]⟩] fun k x=>qc1 k x.1 x.2.1 x.2.2.1 x.2.2.2.1 x.2.2.2.2.1 x.2.2.2.2.2
theorem qui (k:Nat):qaH (call cf k) [qyi k,qyj k,qym k,qya k,qye k,qyv k,qyy k,qyB k,qyh k,qyE k,qyJ k]:=
 ac (qAm k) (ac (qAn k) (ac (qAo k) (ac (qpK k) (ac (qpL k) (ac (qud k) (ac (quf k) (ac (qug k) (ac (qt9 k) (ac (qAq k) (ac (qAt k) a0))))))))))
def qyM (k:Nat):LInst:=mkL 0 [⟨[(1,vI),(2,.a (.ptr 0 0 0)),(5,.a (.ptr 1 0 0)),(6,.a (.smz 2)),(10,vJ),(77,vI),(78,vI)],[(0,some (.raw [[.lf (.sl .str),.lf (.sl qC),.lf (.int .i64),.lf (.int .i64),.lf (.int .i64)]] 5 27 true false false)),(1,some (.raw [[.smz 3,.smz 4,.lf (.int .i64),.lf (.int .i64),.lf (.int .i64)]] 5 27 false false false)),(2,some (.arr (.int .i64) 1 3 false)),(3,some (.arr .str 1 9 true)),(4,some (.arr qC 13 48 true))],5⟩] [⟨some 0,⟨[(1,vI),(2,.a (.ptr 0 0 0)),(5,.a (.ptr 1 0 0)),(10,vJ)],[(0,some (.raw [[.lf (.sl .str),.lf (.sl qC),.lf (.int .i64),.lf (.int .i64),.lf (.int .i64)]] 5 27 true false false)),(1,some (.raw [[.smz 3,.smz 4,.lf (.int .i64),.lf (.int .i64),.lf (.int .i64)]] 5 27 false false false)),(2,some (.arr (.int .i64) 1 3 false)),(3,some (.arr .str 1 9 true)),(4,some (.arr qC 13 48 true))],5⟩⟩] (fun n x=>qan k n x.1 x.2.1 x.2.2.1 x.2.2.2.1 x.2.2.2.2.1 x.2.2.2.2.2.1 x.2.2.2.2.2.2.1 x.2.2.2.2.2.2.2.1 x.2.2.2.2.2.2.2.2.1 x.2.2.2.2.2.2.2.2.2.1 x.2.2.2.2.2.2.2.2.2.2.1 x.2.2.2.2.2.2.2.2.2.2.2.1 x.2.2.2.2.2.2.2.2.2.2.2.2.1 x.2.2.2.2.2.2.2.2.2.2.2.2.2.1 x.2.2.2.2.2.2.2.2.2.2.2.2.2.2.1 x.2.2.2.2.2.2.2.2.2.2.2.2.2.2.2.1 x.2.2.2.2.2.2.2.2.2.2.2.2.2.2.2.2.1 x.2.2.2.2.2.2.2.2.2.2.2.2.2.2.2.2.2) k
theorem qyN (k:Nat):LIo 3 Tryz.f3 0 k (qyM k):=
 lpk [] (qui k) l0 (fun _=>rfl) (by kernel_rfl) fun n x=>by kernel_rfl
theorem qAu:∀k,qg (call cf k) (qBf k):=
 fnk 0 [0] Tryz.func3 (fun k=>(qui k)) (fun k=>(lc (qyN k) l0)) ⟨rfl,rfl,⟨rfl,Nat.le_of_ble_eq_true rfl⟩,rfl⟩ (fun _=>rfl) (by kernel_rfl) fun k x=>by kernel_rfl


end
end Go.Proofs.YtlnailgfialgnaaGreatDoor.Am
