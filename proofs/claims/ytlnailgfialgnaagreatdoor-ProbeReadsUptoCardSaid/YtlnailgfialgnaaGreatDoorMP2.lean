/- Printed functions: each says what the typed machine says of the program -/
import Derived.Test.YtlnailgfialgnaaGreatDoorMP1
import Derived.KernelRfl

set_option linter.unusedVariables false
set_option maxRecDepth 100000
namespace Go.Proofs.YtlnailgfialgnaaGreatDoor.Am
open Go
noncomputable section

def qbu (k:Nat) (rec:Int→Bool→Nat→Bool→Nat→List Int→List Int→Option (Bool×Nat×Bool×Nat×List Int×List Int)) (u:Int) (x0:Bool) (x1:Nat) (a0:Bool) (a1:Nat) (m:List Int) (m1:List Int):Option (Bool×Nat×Bool×Nat×List Int×List Int):=
 if((decide (u>(0:Int)))=true)then
 if(a1≤(List.length m1))then
 if(((a1+(List.length (List.take 1 ((IntKind.wrap .i64 (Int.tmod u (65536:Int))):: []))))*8)≤140737488355328)then
 rec (IntKind.wrap .u64 (Int.tdiv u (65536:Int))) x0 x1 a0 (a1+(List.length (List.take 1 ((IntKind.wrap .i64 (Int.tmod u (65536:Int))):: [])))) m ((List.take a1 m1)++(List.take 1 ((IntKind.wrap .i64 (Int.tmod u (65536:Int))):: [])))
 else
 none
 else
 none
 else
 (some (x0,x1,a0,a1,m,m1))
def qaW (k n:Nat):Int→Bool→Nat→Bool→Nat→List Int→List Int→Option (Bool×Nat×Bool×Nat×List Int×List Int):=Nat.rec (fun _ _ _ _ _ _ _=>none) (fun _ r=>qbu k r) n
def qdH (k:Nat) (v:Int):Option (Bool×List Int):=
 if((decide (v<(0:Int)))=true)then
 Option.bind (qaW k k (IntKind.wrap .u64 ((0:Int)-(IntKind.wrap .u64 v))) false 0 true 0 [] []) fun r5=>
 if((0+r5.2.2.2.1)≤(List.length r5.2.2.2.2.2))then
 (some (r5.2.2.1,(List.take r5.2.2.2.1 r5.2.2.2.2.2)))
 else
 none
 else
 Option.bind (qaW k k (IntKind.wrap .u64 v) false 0 false 0 [] []) fun r5=>
 if((0+r5.2.2.2.1)≤(List.length r5.2.2.2.2.2))then
 (some (r5.2.2.1,(List.take r5.2.2.2.1 r5.2.2.2.2.2)))
 else
 none
def qdI:Nat→Int→Option (Bool×List Int)
 | 0,_=>none
 | k+1,v=>qdH k v
def qCq:Nat→Inst:=mkI 91 ⟨[vI],[]⟩ [⟨[.g [.lf .bool,.lf (.sl (.int .i64))]],[]⟩] fun k x=>qdI k x
def qyH (k:Nat):LInst:=mkL 0 [⟨[(2,.a (.ptr 0 0 0)),(3,.a (.ptr 1 0 0)),(4,vU)],[(0,some (.raw [[.lf .bool,.smz 2]] 2 154 false false false)),(1,some (.raw [[.lf .bool,.smz 3]] 2 154 false false false)),(2,some (.arr (.int .i64) 1 3 false)),(3,some (.arr (.int .i64) 1 3 false))],4⟩] [⟨some 0,⟨[(2,.a (.ptr 0 0 0)),(3,.a (.ptr 1 0 0))],[(0,some (.raw [[.lf .bool,.smz 2]] 2 154 false false false)),(1,some (.raw [[.lf .bool,.smz 3]] 2 154 false false false)),(2,some (.arr (.int .i64) 1 3 false)),(3,some (.arr (.int .i64) 1 3 false))],4⟩⟩] (fun n x=>qaW k n x.1 x.2.1 x.2.2.1 x.2.2.2.1 x.2.2.2.2.1 x.2.2.2.2.2.1 x.2.2.2.2.2.2) k
theorem qyI (k:Nat):LIo 91 Tryz.f91 0 k (qyH k):=
 lpk [] a0 l0 (fun _=>rfl) (by kernel_rfl) fun n x=>by kernel_rfl
theorem qBj:∀k,qe (call cf k) (qCq k):=
 fnk 0 [0] Tryz.func91 (fun k=>a0) (fun k=>(lc (qyI k) l0)) ⟨rfl,rfl,⟨rfl,Nat.le_of_ble_eq_true rfl⟩,rfl⟩ (fun _=>rfl) (by kernel_rfl) fun k x=>by kernel_rfl

def qbZ (k:Nat) (rec:Nat→Int→List Int→Option (Nat×Int×List Int)) (d:Nat) (n:Int) (ds:List Int):Option (Nat×Int×List Int):=
 if((decide (n>(0:Int)))=true)then
 if(((0:Int)≤(IntKind.wrap .i64 (n-(1:Int))))∧((IntKind.wrap .i64 (n-(1:Int)))<((d:Nat):Int)))then
 Option.bind (ds)[(0+(Int.toNat (IntKind.wrap .i64 (n-(1:Int)))))]? fun x4=>
 if((x4 == (0:Int))=true)then
 rec d (IntKind.wrap .i64 (n-(1:Int))) ds
 else
 (some (d,n,ds))
 else
 none
 else
 (some (d,n,ds))
def qcb (k n:Nat):Nat→Int→List Int→Option (Nat×Int×List Int):=Nat.rec (fun _ _ _=>none) (fun _ r=>qbZ k r) n
def qa1 (k:Nat) (d:Nat) (ds:List Int):Option (Nat×List Int):=
 Option.bind (qcb k k d ((d:Nat):Int) ds) fun r7=>
 if(((0:Int)≤(0:Int))∧(((0:Int)≤r7.2.1)∧(((0+(Int.toNat r7.2.1))≤(List.length r7.2.2))∧(((0:Int)<r7.2.1)∨(true=true)))))then
 (some ((Int.toNat r7.2.1),r7.2.2))
 else
 none
def qE:Nat→Nat→List Int→Option (Nat×List Int)
 | 0,_,_=>none
 | k+1,d,ds=>qa1 k d ds
def qn5:Nat→Inst:=mkI 205 ⟨[.a (.smz 0)],[.arr (.int .i64) 1 3 false]⟩ [⟨[.a (.smz 0)],[.arr (.int .i64) 1 3 false]⟩] fun k x=>qE k x.1 x.2
def qrX:SS:=⟨[(0,.a (.smz 0)),(3,vI)],[(0,some (.arr (.int .i64) 1 3 false))],1⟩
def qyJ (k:Nat):LInst:=mkL 0 [qrX] [⟨some 0,qrX⟩] (fun n x=>qcb k n x.1 x.2.1 x.2.2) k
theorem qyK (k:Nat):LIo 205 Tryz.f205 1 k (qyJ k):=
 lpk [] a0 l0 (fun _=>rfl) (by kernel_rfl) fun n x=>by kernel_rfl
theorem qm5:∀k,qe (call cf k) (qn5 k):=
 fnk 1 [0] Tryz.func205 (fun k=>a0) (fun k=>(lc (qyK k) l0)) ⟨rfl,rfl,⟨rfl,Nat.le_of_ble_eq_true rfl⟩,rfl⟩ (fun _=>rfl) (by kernel_rfl) fun k x=>by kernel_rfl

def qbv (k:Nat) (rec:List Int→List Int→Nat→Int→Int→List Int→Option (Nat×List Int)) (a:List Int) (b:List Int) (d:Nat) (carry:Int) (i:Int) (ds:List Int):Option (Nat×List Int):=
 if((decide (i<(((List.length a):Nat):Int)))=false)then
 if((decide (i<(((List.length b):Nat):Int)))=false)then
 if((decide (carry>(0:Int)))=true)then
 if((decide (i<(((List.length a):Nat):Int)))=true)then
 if((0:Int)≤i)then
 Option.bind (a)[(Int.toNat i)]? fun x4=>
 if((decide (i<(((List.length b):Nat):Int)))=true)then
 if((0:Int)≤i)then
 Option.bind (b)[(Int.toNat i)]? fun x5=>
 if(d≤(List.length ds))then
 if(((d+(List.length (List.take 1 ((Int.tmod (IntKind.wrap .i64 ((IntKind.wrap .i64 (carry+x4))+x5)) (65536:Int)):: []))))*8)≤140737488355328)then
 rec a b (d+(List.length (List.take 1 ((Int.tmod (IntKind.wrap .i64 ((IntKind.wrap .i64 (carry+x4))+x5)) (65536:Int)):: [])))) (IntKind.wrap .i64 (Int.tdiv (IntKind.wrap .i64 ((IntKind.wrap .i64 (carry+x4))+x5)) (65536:Int))) (IntKind.wrap .i64 (i+(1:Int))) ((List.take d ds)++(List.take 1 ((Int.tmod (IntKind.wrap .i64 ((IntKind.wrap .i64 (carry+x4))+x5)) (65536:Int)):: [])))
 else
 none
 else
 none
 else
 none
 else
 if(d≤(List.length ds))then
 if(((d+(List.length (List.take 1 ((Int.tmod (IntKind.wrap .i64 (carry+x4)) (65536:Int)):: []))))*8)≤140737488355328)then
 rec a b (d+(List.length (List.take 1 ((Int.tmod (IntKind.wrap .i64 (carry+x4)) (65536:Int)):: [])))) (IntKind.wrap .i64 (Int.tdiv (IntKind.wrap .i64 (carry+x4)) (65536:Int))) (IntKind.wrap .i64 (i+(1:Int))) ((List.take d ds)++(List.take 1 ((Int.tmod (IntKind.wrap .i64 (carry+x4)) (65536:Int)):: [])))
 else
 none
 else
 none
 else
 none
 else
 if((decide (i<(((List.length b):Nat):Int)))=true)then
 if((0:Int)≤i)then
 Option.bind (b)[(Int.toNat i)]? fun x4=>
 if(d≤(List.length ds))then
 if(((d+(List.length (List.take 1 ((Int.tmod (IntKind.wrap .i64 (carry+x4)) (65536:Int)):: []))))*8)≤140737488355328)then
 rec a b (d+(List.length (List.take 1 ((Int.tmod (IntKind.wrap .i64 (carry+x4)) (65536:Int)):: [])))) (IntKind.wrap .i64 (Int.tdiv (IntKind.wrap .i64 (carry+x4)) (65536:Int))) (IntKind.wrap .i64 (i+(1:Int))) ((List.take d ds)++(List.take 1 ((Int.tmod (IntKind.wrap .i64 (carry+x4)) (65536:Int)):: [])))
 else
 none
 else
 none
 else
 none
 else
 if(d≤(List.length ds))then
 if(((d+(List.length (List.take 1 ((Int.tmod carry (65536:Int)):: []))))*8)≤140737488355328)then
 rec a b (d+(List.length (List.take 1 ((Int.tmod carry (65536:Int)):: [])))) (IntKind.wrap .i64 (Int.tdiv carry (65536:Int))) (IntKind.wrap .i64 (i+(1:Int))) ((List.take d ds)++(List.take 1 ((Int.tmod carry (65536:Int)):: [])))
 else
 none
 else
 none
 else
 (some (d,ds))
 else
 if((decide (i<(((List.length a):Nat):Int)))=true)then
 if((0:Int)≤i)then
 Option.bind (a)[(Int.toNat i)]? fun x4=>
 if((decide (i<(((List.length b):Nat):Int)))=true)then
 if((0:Int)≤i)then
 Option.bind (b)[(Int.toNat i)]? fun x5=>
 if(d≤(List.length ds))then
 if(((d+(List.length (List.take 1 ((Int.tmod (IntKind.wrap .i64 ((IntKind.wrap .i64 (carry+x4))+x5)) (65536:Int)):: []))))*8)≤140737488355328)then
 rec a b (d+(List.length (List.take 1 ((Int.tmod (IntKind.wrap .i64 ((IntKind.wrap .i64 (carry+x4))+x5)) (65536:Int)):: [])))) (IntKind.wrap .i64 (Int.tdiv (IntKind.wrap .i64 ((IntKind.wrap .i64 (carry+x4))+x5)) (65536:Int))) (IntKind.wrap .i64 (i+(1:Int))) ((List.take d ds)++(List.take 1 ((Int.tmod (IntKind.wrap .i64 ((IntKind.wrap .i64 (carry+x4))+x5)) (65536:Int)):: [])))
 else
 none
 else
 none
 else
 none
 else
 if(d≤(List.length ds))then
 if(((d+(List.length (List.take 1 ((Int.tmod (IntKind.wrap .i64 (carry+x4)) (65536:Int)):: []))))*8)≤140737488355328)then
 rec a b (d+(List.length (List.take 1 ((Int.tmod (IntKind.wrap .i64 (carry+x4)) (65536:Int)):: [])))) (IntKind.wrap .i64 (Int.tdiv (IntKind.wrap .i64 (carry+x4)) (65536:Int))) (IntKind.wrap .i64 (i+(1:Int))) ((List.take d ds)++(List.take 1 ((Int.tmod (IntKind.wrap .i64 (carry+x4)) (65536:Int)):: [])))
 else
 none
 else
 none
 else
 none
 else
 if((decide (i<(((List.length b):Nat):Int)))=true)then
 if((0:Int)≤i)then
 Option.bind (b)[(Int.toNat i)]? fun x4=>
 if(d≤(List.length ds))then
 if(((d+(List.length (List.take 1 ((Int.tmod (IntKind.wrap .i64 (carry+x4)) (65536:Int)):: []))))*8)≤140737488355328)then
 rec a b (d+(List.length (List.take 1 ((Int.tmod (IntKind.wrap .i64 (carry+x4)) (65536:Int)):: [])))) (IntKind.wrap .i64 (Int.tdiv (IntKind.wrap .i64 (carry+x4)) (65536:Int))) (IntKind.wrap .i64 (i+(1:Int))) ((List.take d ds)++(List.take 1 ((Int.tmod (IntKind.wrap .i64 (carry+x4)) (65536:Int)):: [])))
 else
 none
 else
 none
 else
 none
 else
 if(d≤(List.length ds))then
 if(((d+(List.length (List.take 1 ((Int.tmod carry (65536:Int)):: []))))*8)≤140737488355328)then
 rec a b (d+(List.length (List.take 1 ((Int.tmod carry (65536:Int)):: [])))) (IntKind.wrap .i64 (Int.tdiv carry (65536:Int))) (IntKind.wrap .i64 (i+(1:Int))) ((List.take d ds)++(List.take 1 ((Int.tmod carry (65536:Int)):: [])))
 else
 none
 else
 none
 else
 if((decide (i<(((List.length a):Nat):Int)))=true)then
 if((0:Int)≤i)then
 Option.bind (a)[(Int.toNat i)]? fun x4=>
 if((decide (i<(((List.length b):Nat):Int)))=true)then
 if((0:Int)≤i)then
 Option.bind (b)[(Int.toNat i)]? fun x5=>
 if(d≤(List.length ds))then
 if(((d+(List.length (List.take 1 ((Int.tmod (IntKind.wrap .i64 ((IntKind.wrap .i64 (carry+x4))+x5)) (65536:Int)):: []))))*8)≤140737488355328)then
 rec a b (d+(List.length (List.take 1 ((Int.tmod (IntKind.wrap .i64 ((IntKind.wrap .i64 (carry+x4))+x5)) (65536:Int)):: [])))) (IntKind.wrap .i64 (Int.tdiv (IntKind.wrap .i64 ((IntKind.wrap .i64 (carry+x4))+x5)) (65536:Int))) (IntKind.wrap .i64 (i+(1:Int))) ((List.take d ds)++(List.take 1 ((Int.tmod (IntKind.wrap .i64 ((IntKind.wrap .i64 (carry+x4))+x5)) (65536:Int)):: [])))
 else
 none
 else
 none
 else
 none
 else
 if(d≤(List.length ds))then
 if(((d+(List.length (List.take 1 ((Int.tmod (IntKind.wrap .i64 (carry+x4)) (65536:Int)):: []))))*8)≤140737488355328)then
 rec a b (d+(List.length (List.take 1 ((Int.tmod (IntKind.wrap .i64 (carry+x4)) (65536:Int)):: [])))) (IntKind.wrap .i64 (Int.tdiv (IntKind.wrap .i64 (carry+x4)) (65536:Int))) (IntKind.wrap .i64 (i+(1:Int))) ((List.take d ds)++(List.take 1 ((Int.tmod (IntKind.wrap .i64 (carry+x4)) (65536:Int)):: [])))
 else
 none
 else
 none
 else
 none
 else
 if((decide (i<(((List.length b):Nat):Int)))=true)then
 if((0:Int)≤i)then
 Option.bind (b)[(Int.toNat i)]? fun x4=>
 if(d≤(List.length ds))then
 if(((d+(List.length (List.take 1 ((Int.tmod (IntKind.wrap .i64 (carry+x4)) (65536:Int)):: []))))*8)≤140737488355328)then
 rec a b (d+(List.length (List.take 1 ((Int.tmod (IntKind.wrap .i64 (carry+x4)) (65536:Int)):: [])))) (IntKind.wrap .i64 (Int.tdiv (IntKind.wrap .i64 (carry+x4)) (65536:Int))) (IntKind.wrap .i64 (i+(1:Int))) ((List.take d ds)++(List.take 1 ((Int.tmod (IntKind.wrap .i64 (carry+x4)) (65536:Int)):: [])))
 else
 none
 else
 none
 else
 none
 else
 if(d≤(List.length ds))then
 if(((d+(List.length (List.take 1 ((Int.tmod carry (65536:Int)):: []))))*8)≤140737488355328)then
 rec a b (d+(List.length (List.take 1 ((Int.tmod carry (65536:Int)):: [])))) (IntKind.wrap .i64 (Int.tdiv carry (65536:Int))) (IntKind.wrap .i64 (i+(1:Int))) ((List.take d ds)++(List.take 1 ((Int.tmod carry (65536:Int)):: [])))
 else
 none
 else
 none
def qaX (k n:Nat):List Int→List Int→Nat→Int→Int→List Int→Option (Nat×List Int):=Nat.rec (fun _ _ _ _ _ _=>none) (fun _ r=>qbv k r) n
def qgn (k:Nat) (a:List Int) (b:List Int):Option (List Int):=
 Option.bind (qaX k k a b 0 (0:Int) (0:Int) []) fun r6=>
 Option.bind (qE k r6.1 r6.2) fun r7=>
 if((0+r7.1)≤(List.length r7.2))then
 (some (List.take r7.1 r7.2))
 else
 none
def qdJ:Nat→List Int→List Int→Option (List Int)
 | 0,_,_=>none
 | k+1,a,b=>qgn k a b
def qCr:Nat→Inst:=mkI 145 ⟨[vJ,vJ],[]⟩ [⟨[vJ],[]⟩] fun k x=>qdJ k x.1 x.2
theorem quH (k:Nat):qat (call cf k) [qn5 k]:=
 ac (qm5 k) a0
def qyL (k:Nat):LInst:=mkL 0 [⟨[(0,vJ),(1,vJ),(5,.a (.smz 0)),(6,vI),(7,vI)],[(0,some (.arr (.int .i64) 1 3 false))],1⟩] [⟨some 0,⟨[(5,.a (.smz 0))],[(0,some (.arr (.int .i64) 1 3 false))],1⟩⟩] (fun n x=>qaX k n x.1 x.2.1 x.2.2.1 x.2.2.2.1 x.2.2.2.2.1 x.2.2.2.2.2) k
theorem qyM (k:Nat):LIo 145 Tryz.f145 0 k (qyL k):=
 lpk [] (quH k) l0 (fun _=>rfl) (by kernel_rfl) fun n x=>by kernel_rfl
theorem qBk:∀k,qe (call cf k) (qCr k):=
 fnk 0 [0] Tryz.func145 (fun k=>(quH k)) (fun k=>(lc (qyM k) l0)) ⟨rfl,rfl,⟨rfl,Nat.le_of_ble_eq_true rfl⟩,rfl⟩ (fun _=>rfl) (by kernel_rfl) fun k x=>by kernel_rfl

def qam (k:Nat) (rec:List Int→List Int→Int→Option ((Int) ⊕ (Unit))) (a:List Int) (b:List Int) (i:Int):Option ((Int) ⊕ (Unit)):=
 if((decide (i≥(0:Int)))=true)then
 if((0:Int)≤i)then
 Option.bind (a)[(Int.toNat i)]? fun x4=>
 if((0:Int)≤i)then
 Option.bind (b)[(Int.toNat i)]? fun x5=>
 if((decide (x4<x5))=true)then
 (some (Sum.inl (-(1:Int))))
 else
 if((0:Int)≤i)then
 Option.bind (a)[(Int.toNat i)]? fun x6=>
 if((0:Int)≤i)then
 Option.bind (b)[(Int.toNat i)]? fun x7=>
 if((decide (x6>x7))=true)then
 (some (Sum.inl (1:Int)))
 else
 rec a b (IntKind.wrap .i64 (i-(1:Int)))
 else
 none
 else
 none
 else
 none
 else
 none
 else
 (some (Sum.inr ()))
def qbP (k n:Nat):List Int→List Int→Int→Option ((Int) ⊕ (Unit)):=Nat.rec (fun _ _ _=>none) (fun _ r=>qam k r) n
def qgo (k:Nat) (a:List Int) (b:List Int):Option (Int):=
 if(((((List.length a):Nat):Int) != (((List.length b):Nat):Int))=true)then
 if((decide ((((List.length a):Nat):Int)<(((List.length b):Nat):Int)))=true)then
 (some (-(1:Int)))
 else
 (some (1:Int))
 else
 Option.bind (qbP k k a b (IntKind.wrap .i64 ((((List.length a):Nat):Int)-(1:Int)))) fun r6=>
 qc r6
 (fun r6=>
 (some r6))
 (fun r6=>
 (some (0:Int)))
def qdK:Nat→List Int→List Int→Option (Int)
 | 0,_,_=>none
 | k+1,a,b=>qgo k a b
def qyN:Nat→Inst:=mkI 146 ⟨[vJ,vJ],[]⟩ [⟨[vI],[]⟩] fun k x=>qdK k x.1 x.2
def qyO (k:Nat):LInst:=mkL 0 [⟨[(0,vJ),(1,vJ),(5,vI)],[],0⟩] [⟨none,⟨[(4,vI)],[],0⟩⟩,⟨some 0,⟨[],[],0⟩⟩] (fun n x=>qbP k n x.1 x.2.1 x.2.2) k
theorem qyP (k:Nat):LIo 146 Tryz.f146 0 k (qyO k):=
 lpk [] a0 l0 (fun _=>rfl) (by kernel_rfl) fun n x=>by kernel_rfl
theorem quI:∀k,qe (call cf k) (qyN k):=
 fnk 0 [0] Tryz.func146 (fun k=>a0) (fun k=>(lc (qyP k) l0)) ⟨rfl,rfl,⟨rfl,Nat.le_of_ble_eq_true rfl⟩,rfl⟩ (fun _=>rfl) (by kernel_rfl) fun k x=>by kernel_rfl

def qa2 (k:Nat) (rec:List Int→List Int→Nat→Int→Int→List Int→Option (Nat×List Int)) (a:List Int) (b:List Int) (d:Nat) (borrow:Int) (i:Int) (ds:List Int):Option (Nat×List Int):=
 if((decide (i<(((List.length a):Nat):Int)))=true)then
 if((0:Int)≤i)then
 Option.bind (a)[(Int.toNat i)]? fun x4=>
 if((decide (i<(((List.length b):Nat):Int)))=true)then
 if((0:Int)≤i)then
 Option.bind (b)[(Int.toNat i)]? fun x5=>
 if((decide ((IntKind.wrap .i64 ((IntKind.wrap .i64 (x4-borrow))-x5))<(0:Int)))=true)then
 if(d≤(List.length ds))then
 if(((d+(List.length (List.take 1 ((IntKind.wrap .i64 ((IntKind.wrap .i64 ((IntKind.wrap .i64 (x4-borrow))-x5))+(65536:Int))):: []))))*8)≤140737488355328)then
 rec a b (d+(List.length (List.take 1 ((IntKind.wrap .i64 ((IntKind.wrap .i64 ((IntKind.wrap .i64 (x4-borrow))-x5))+(65536:Int))):: [])))) (1:Int) (IntKind.wrap .i64 (i+(1:Int))) ((List.take d ds)++(List.take 1 ((IntKind.wrap .i64 ((IntKind.wrap .i64 ((IntKind.wrap .i64 (x4-borrow))-x5))+(65536:Int))):: [])))
 else
 none
 else
 none
 else
 if(d≤(List.length ds))then
 if(((d+(List.length (List.take 1 ((IntKind.wrap .i64 ((IntKind.wrap .i64 (x4-borrow))-x5)):: []))))*8)≤140737488355328)then
 rec a b (d+(List.length (List.take 1 ((IntKind.wrap .i64 ((IntKind.wrap .i64 (x4-borrow))-x5)):: [])))) (0:Int) (IntKind.wrap .i64 (i+(1:Int))) ((List.take d ds)++(List.take 1 ((IntKind.wrap .i64 ((IntKind.wrap .i64 (x4-borrow))-x5)):: [])))
 else
 none
 else
 none
 else
 none
 else
 if((decide ((IntKind.wrap .i64 (x4-borrow))<(0:Int)))=true)then
 if(d≤(List.length ds))then
 if(((d+(List.length (List.take 1 ((IntKind.wrap .i64 ((IntKind.wrap .i64 (x4-borrow))+(65536:Int))):: []))))*8)≤140737488355328)then
 rec a b (d+(List.length (List.take 1 ((IntKind.wrap .i64 ((IntKind.wrap .i64 (x4-borrow))+(65536:Int))):: [])))) (1:Int) (IntKind.wrap .i64 (i+(1:Int))) ((List.take d ds)++(List.take 1 ((IntKind.wrap .i64 ((IntKind.wrap .i64 (x4-borrow))+(65536:Int))):: [])))
 else
 none
 else
 none
 else
 if(d≤(List.length ds))then
 if(((d+(List.length (List.take 1 ((IntKind.wrap .i64 (x4-borrow)):: []))))*8)≤140737488355328)then
 rec a b (d+(List.length (List.take 1 ((IntKind.wrap .i64 (x4-borrow)):: [])))) (0:Int) (IntKind.wrap .i64 (i+(1:Int))) ((List.take d ds)++(List.take 1 ((IntKind.wrap .i64 (x4-borrow)):: [])))
 else
 none
 else
 none
 else
 none
 else
 (some (d,ds))
def qaF (k n:Nat):List Int→List Int→Nat→Int→Int→List Int→Option (Nat×List Int):=Nat.rec (fun _ _ _ _ _ _=>none) (fun _ r=>qa2 k r) n
def qfM (k:Nat) (a:List Int) (b:List Int):Option (List Int):=
 Option.bind (qaF k k a b 0 (0:Int) (0:Int) []) fun r7=>
 Option.bind (qE k r7.1 r7.2) fun r8=>
 if((0+r8.1)≤(List.length r8.2))then
 (some (List.take r8.1 r8.2))
 else
 none
def qaI:Nat→List Int→List Int→Option (List Int)
 | 0,_,_=>none
 | k+1,a,b=>qfM k a b
def qyQ:Nat→Inst:=mkI 147 ⟨[vJ,vJ],[]⟩ [⟨[vJ],[]⟩] fun k x=>qaI k x.1 x.2
theorem quJ (k:Nat):qat (call cf k) [qn5 k]:=
 ac (qm5 k) a0
def qyR (k:Nat):LInst:=mkL 0 [⟨[(0,vJ),(1,vJ),(5,.a (.smz 0)),(6,vI),(7,vI)],[(0,some (.arr (.int .i64) 1 3 false))],1⟩] [⟨some 0,⟨[(5,.a (.smz 0))],[(0,some (.arr (.int .i64) 1 3 false))],1⟩⟩] (fun n x=>qaF k n x.1 x.2.1 x.2.2.1 x.2.2.2.1 x.2.2.2.2.1 x.2.2.2.2.2) k
theorem qyS (k:Nat):LIo 147 Tryz.f147 0 k (qyR k):=
 lpk [] (quJ k) l0 (fun _=>rfl) (by kernel_rfl) fun n x=>by kernel_rfl
theorem quK:∀k,qe (call cf k) (qyQ k):=
 fnk 0 [0] Tryz.func147 (fun k=>(quJ k)) (fun k=>(lc (qyS k) l0)) ⟨rfl,rfl,⟨rfl,Nat.le_of_ble_eq_true rfl⟩,rfl⟩ (fun _=>rfl) (by kernel_rfl) fun k x=>by kernel_rfl

def qcf (k:Nat) (a0:Bool) (a1:List Int) (b0:Bool) (b1:List Int):Option (Bool×List Int):=
 if((a0 == b0)=true)then
 Option.bind (qdJ k a1 b1) fun r6=>
 if(a0=true)then
 (some ((decide ((((List.length r6):Nat):Int)>(0:Int))),r6))
 else
 (some (false,r6))
 else
 Option.bind (qdK k a1 b1) fun r6=>
 if((decide (r6≥(0:Int)))=true)then
 Option.bind (qaI k a1 b1) fun r7=>
 if(a0=true)then
 (some ((decide ((((List.length r7):Nat):Int)>(0:Int))),r7))
 else
 (some (false,r7))
 else
 Option.bind (qaI k b1 a1) fun r7=>
 (some (b0,r7))
def qcQ:Nat→Bool→List Int→Bool→List Int→Option (Bool×List Int)
 | 0,_,_,_,_=>none
 | k+1,a0,a1,b0,b1=>qcf k a0 a1 b0 b1
def qCs:Nat→Inst:=mkI 90 ⟨[.g [.lf .bool,.lf (.sl (.int .i64))],.g [.lf .bool,.lf (.sl (.int .i64))]],[]⟩ [⟨[.g [.lf .bool,.lf (.sl (.int .i64))]],[]⟩] fun k x=>qcQ k x.1 x.2.1 x.2.2.1 x.2.2.2
theorem qBl:∀k,qe (call cf k) (qCs k):=
 fnk 0 [] Tryz.func90 (fun k=>(ac (qBk k) (ac (quI k) (ac (quK k) a0)))) (fun k=>l0) ⟨rfl,rfl,⟨rfl,Nat.le_of_ble_eq_true rfl⟩,rfl⟩ (fun _=>rfl) (by kernel_rfl) fun k x=>by kernel_rfl

def qa3 (k:Nat) (rec:Int→Bool→Nat→Bool→Nat→List Int→List Int→Option (Bool×Nat×Bool×Nat×List Int×List Int)) (v:Int) (x0:Bool) (x1:Nat) (a0:Bool) (a1:Nat) (m:List Int) (m1:List Int):Option (Bool×Nat×Bool×Nat×List Int×List Int):=
 if((decide (v>(0:Int)))=true)then
 if(a1≤(List.length m1))then
 if(((a1+(List.length (List.take 1 ((Int.tmod v (65536:Int)):: []))))*8)≤140737488355328)then
 rec (IntKind.wrap .i64 (Int.tdiv v (65536:Int))) x0 x1 a0 (a1+(List.length (List.take 1 ((Int.tmod v (65536:Int)):: [])))) m ((List.take a1 m1)++(List.take 1 ((Int.tmod v (65536:Int)):: [])))
 else
 none
 else
 none
 else
 (some (x0,x1,a0,a1,m,m1))
def qaG (k n:Nat):Int→Bool→Nat→Bool→Nat→List Int→List Int→Option (Bool×Nat×Bool×Nat×List Int×List Int):=Nat.rec (fun _ _ _ _ _ _ _=>none) (fun _ r=>qa3 k r) n
def qdo (k:Nat) (v:Int):Option (Bool×List Int):=
 if((decide (v<(0:Int)))=true)then
 Option.bind (qaG k k (IntKind.wrap .i64 ((0:Int)-v)) false 0 true 0 [] []) fun r6=>
 if((0+r6.2.2.2.1)≤(List.length r6.2.2.2.2.2))then
 (some (r6.2.2.1,(List.take r6.2.2.2.1 r6.2.2.2.2.2)))
 else
 none
 else
 Option.bind (qaG k k v false 0 false 0 [] []) fun r6=>
 if((0+r6.2.2.2.1)≤(List.length r6.2.2.2.2.2))then
 (some (r6.2.2.1,(List.take r6.2.2.2.1 r6.2.2.2.2.2)))
 else
 none
def qZ:Nat→Int→Option (Bool×List Int)
 | 0,_=>none
 | k+1,v=>qdo k v
def qqt:Nat→Inst:=mkI 94 ⟨[vI],[]⟩ [⟨[.g [.lf .bool,.lf (.sl (.int .i64))]],[]⟩] fun k x=>qZ k x
def qyT (k:Nat):LInst:=mkL 0 [⟨[(0,vI),(2,.a (.ptr 0 0 0)),(3,.a (.ptr 1 0 0))],[(0,some (.raw [[.lf .bool,.smz 2]] 2 154 false false false)),(1,some (.raw [[.lf .bool,.smz 3]] 2 154 false false false)),(2,some (.arr (.int .i64) 1 3 false)),(3,some (.arr (.int .i64) 1 3 false))],4⟩] [⟨some 0,⟨[(2,.a (.ptr 0 0 0)),(3,.a (.ptr 1 0 0))],[(0,some (.raw [[.lf .bool,.smz 2]] 2 154 false false false)),(1,some (.raw [[.lf .bool,.smz 3]] 2 154 false false false)),(2,some (.arr (.int .i64) 1 3 false)),(3,some (.arr (.int .i64) 1 3 false))],4⟩⟩] (fun n x=>qaG k n x.1 x.2.1 x.2.2.1 x.2.2.2.1 x.2.2.2.2.1 x.2.2.2.2.2.1 x.2.2.2.2.2.2) k
theorem qyU (k:Nat):LIo 94 Tryz.f94 0 k (qyT k):=
 lpk [] a0 l0 (fun _=>rfl) (by kernel_rfl) fun n x=>by kernel_rfl
theorem qm6:∀k,qe (call cf k) (qqt k):=
 fnk 0 [0] Tryz.func94 (fun k=>a0) (fun k=>(lc (qyU k) l0)) ⟨rfl,rfl,⟨rfl,Nat.le_of_ble_eq_true rfl⟩,rfl⟩ (fun _=>rfl) (by kernel_rfl) fun k x=>by kernel_rfl

def qgp (k:Nat) (a0:Bool) (a1:List Int):Option (Int):=
 if(((((List.length a1):Nat):Int) == (0:Int))=true)then
 (some (0:Int))
 else
 if(a0=true)then
 (some (-(1:Int)))
 else
 (some (1:Int))
def qdL:Nat→Bool→List Int→Option (Int)
 | 0,_,_=>none
 | k+1,a0,a1=>qgp k a0 a1
def qCt:Nat→Inst:=mkI 149 ⟨[.g [.lf .bool,.lf (.sl (.int .i64))]],[]⟩ [⟨[vI],[]⟩] fun k x=>qdL k x.1 x.2
theorem quL:∀k,qe (call cf k) (qCt k):=
 fnk 0 [] Tryz.func149 (fun k=>a0) (fun k=>l0) ⟨rfl,rfl,⟨rfl,Nat.le_of_ble_eq_true rfl⟩,rfl⟩ (fun _=>rfl) (by kernel_rfl) fun k x=>by kernel_rfl

def qdp (k:Nat) (a0:Bool) (a1:List Int):Option (Bool×List Int):=
 if(((((List.length a1):Nat):Int) == (0:Int))=true)then
 (some (false,[]))
 else
 (some ((!a0),a1))
def qb1:Nat→Bool→List Int→Option (Bool×List Int)
 | 0,_,_=>none
 | k+1,a0,a1=>qdp k a0 a1
def qCu:Nat→Inst:=mkI 150 ⟨[.g [.lf .bool,.lf (.sl (.int .i64))]],[]⟩ [⟨[.g [.lf .bool,.lf (.sl (.int .i64))]],[]⟩] fun k x=>qb1 k x.1 x.2
theorem quM:∀k,qe (call cf k) (qCu k):=
 fnk 0 [] Tryz.func150 (fun k=>a0) (fun k=>l0) ⟨rfl,rfl,⟨rfl,Nat.le_of_ble_eq_true rfl⟩,rfl⟩ (fun _=>rfl) (by kernel_rfl) fun k x=>by kernel_rfl

def qlB (k:Nat) (a0:Bool) (a1:List Int):Option (Bool×List Int):=
 (some (false,a1))
def qb6:Nat→Bool→List Int→Option (Bool×List Int)
 | 0,_,_=>none
 | k+1,a0,a1=>qlB k a0 a1
def qyV:Nat→Inst:=mkI 206 ⟨[.g [.lf .bool,.lf (.sl (.int .i64))]],[]⟩ [⟨[.g [.lf .bool,.lf (.sl (.int .i64))]],[]⟩] fun k x=>qb6 k x.1 x.2
theorem qBm:∀k,qe (call cf k) (qyV k):=
 fnk 0 [] Tryz.func206 (fun k=>a0) (fun k=>l0) ⟨rfl,rfl,⟨rfl,Nat.le_of_ble_eq_true rfl⟩,rfl⟩ (fun _=>rfl) (by kernel_rfl) fun k x=>by kernel_rfl

def qct (k:Nat) (rec:Nat→Int→Int→Int→Bool→List Int→Bool→List Int→Bool→Nat→List Int→List Int→Option (Nat×Int×Int×Bool×List Int×Bool×List Int×Bool×Nat×List Int×List Int)) (d:Nat) (i:Int) (carry:Int) (j:Int) (a0:Bool) (a1:List Int) (b0:Bool) (b1:List Int) (x0:Bool) (x1:Nat) (ds:List Int) (m:List Int):Option (Nat×Int×Int×Bool×List Int×Bool×List Int×Bool×Nat×List Int×List Int):=
 if((decide (j<(((List.length b1):Nat):Int)))=true)then
 if(((0:Int)≤(IntKind.wrap .i64 (i+j)))∧((IntKind.wrap .i64 (i+j))<((d:Nat):Int)))then
 Option.bind (ds)[(0+(Int.toNat (IntKind.wrap .i64 (i+j))))]? fun x2=>
 if((0:Int)≤i)then
 Option.bind (a1)[(Int.toNat i)]? fun x3=>
 if((0:Int)≤j)then
 Option.bind (b1)[(Int.toNat j)]? fun x4=>
 if(((0:Int)≤(IntKind.wrap .i64 (i+j)))∧((IntKind.wrap .i64 (i+j))<((d:Nat):Int)))then
 Option.bind (ds)[(0+(Int.toNat (IntKind.wrap .i64 (i+j))))]? fun x5=>
 rec d i (IntKind.wrap .i64 (Int.tdiv (IntKind.wrap .i64 ((IntKind.wrap .i64 (x2+(IntKind.wrap .i64 (x3*x4))))+carry)) (65536:Int))) (IntKind.wrap .i64 (j+(1:Int))) a0 a1 b0 b1 x0 x1 (List.set ds (0+(Int.toNat (IntKind.wrap .i64 (i+j)))) (Int.tmod (IntKind.wrap .i64 ((IntKind.wrap .i64 (x2+(IntKind.wrap .i64 (x3*x4))))+carry)) (65536:Int))) m
 else
 none
 else
 none
 else
 none
 else
 none
 else
 (some (d,i,carry,a0,a1,b0,b1,x0,x1,ds,m))
def qb7 (k n:Nat):Nat→Int→Int→Int→Bool→List Int→Bool→List Int→Bool→Nat→List Int→List Int→Option (Nat×Int×Int×Bool×List Int×Bool×List Int×Bool×Nat×List Int×List Int):=Nat.rec (fun _ _ _ _ _ _ _ _ _ _ _ _=>none) (fun _ r=>qct k r) n
def qcu (k:Nat) (rec:Nat→Int→Bool→List Int→Bool→List Int→Bool→Nat→List Int→List Int→Option (Nat×Bool×List Int×Bool×List Int×Bool×Nat×List Int×List Int)) (d:Nat) (i:Int) (a0:Bool) (a1:List Int) (b0:Bool) (b1:List Int) (x0:Bool) (x1:Nat) (ds:List Int) (m:List Int):Option (Nat×Bool×List Int×Bool×List Int×Bool×Nat×List Int×List Int):=
 if((decide (i<(((List.length a1):Nat):Int)))=true)then
 Option.bind (qb7 k k d i (0:Int) (0:Int) a0 a1 b0 b1 x0 x1 ds m) fun r15=>
 if(((0:Int)≤(IntKind.wrap .i64 (r15.2.1+(((List.length r15.2.2.2.2.2.2.1):Nat):Int))))∧((IntKind.wrap .i64 (r15.2.1+(((List.length r15.2.2.2.2.2.2.1):Nat):Int)))<((r15.1:Nat):Int)))then
 Option.bind (r15.2.2.2.2.2.2.2.2.2.1)[(0+(Int.toNat (IntKind.wrap .i64 (r15.2.1+(((List.length r15.2.2.2.2.2.2.1):Nat):Int)))))]? fun x2=>
 if(((0:Int)≤(IntKind.wrap .i64 (r15.2.1+(((List.length r15.2.2.2.2.2.2.1):Nat):Int))))∧((IntKind.wrap .i64 (r15.2.1+(((List.length r15.2.2.2.2.2.2.1):Nat):Int)))<((r15.1:Nat):Int)))then
 Option.bind (r15.2.2.2.2.2.2.2.2.2.1)[(0+(Int.toNat (IntKind.wrap .i64 (r15.2.1+(((List.length r15.2.2.2.2.2.2.1):Nat):Int)))))]? fun x3=>
 rec r15.1 (IntKind.wrap .i64 (r15.2.1+(1:Int))) r15.2.2.2.1 r15.2.2.2.2.1 r15.2.2.2.2.2.1 r15.2.2.2.2.2.2.1 r15.2.2.2.2.2.2.2.1 r15.2.2.2.2.2.2.2.2.1 (List.set r15.2.2.2.2.2.2.2.2.2.1 (0+(Int.toNat (IntKind.wrap .i64 (r15.2.1+(((List.length r15.2.2.2.2.2.2.1):Nat):Int))))) (IntKind.wrap .i64 (x2+r15.2.2.1))) r15.2.2.2.2.2.2.2.2.2.2
 else
 none
 else
 none
 else
 (some (d,a0,a1,b0,b1,x0,x1,ds,m))
def qb8 (k n:Nat):Nat→Int→Bool→List Int→Bool→List Int→Bool→Nat→List Int→List Int→Option (Nat×Bool×List Int×Bool×List Int×Bool×Nat×List Int×List Int):=Nat.rec (fun _ _ _ _ _ _ _ _ _ _=>none) (fun _ r=>qcu k r) n
def qfN (k:Nat) (a0:Bool) (a1:List Int) (b0:Bool) (b1:List Int):Option (Bool×List Int):=
 if(((0:Int)≤(IntKind.wrap .i64 ((((List.length a1):Nat):Int)+(((List.length b1):Nat):Int))))∧(((IntKind.wrap .i64 ((((List.length a1):Nat):Int)+(((List.length b1):Nat):Int)))≤(IntKind.wrap .i64 ((((List.length a1):Nat):Int)+(((List.length b1):Nat):Int))))∧(((IntKind.wrap .i64 ((((List.length a1):Nat):Int)+(((List.length b1):Nat):Int)))*(8:Int))≤(140737488355328:Int))))then
 Option.bind (qb8 k k (Int.toNat (IntKind.wrap .i64 ((((List.length a1):Nat):Int)+(((List.length b1):Nat):Int)))) (0:Int) a0 a1 b0 b1 false 0 (List.replicate (Int.toNat (IntKind.wrap .i64 ((((List.length a1):Nat):Int)+(((List.length b1):Nat):Int)))) (0:Int)) []) fun r15=>
 Option.bind (qE k r15.1 r15.2.2.2.2.2.2.2.1) fun r16=>
 if((!(r15.2.1 == r15.2.2.2.1))=true)then
 if((0+r16.1)≤(List.length r16.2))then
 (some ((decide (((r16.1:Nat):Int)>(0:Int))),(List.take r16.1 r16.2)))
 else
 none
 else
 if((0+r16.1)≤(List.length r16.2))then
 (some (false,(List.take r16.1 r16.2)))
 else
 none
 else
 none
def qaa:Nat→Bool→List Int→Bool→List Int→Option (Bool×List Int)
 | 0,_,_,_,_=>none
 | k+1,a0,a1,b0,b1=>qfN k a0 a1 b0 b1
def qqu:Nat→Inst:=mkI 208 ⟨[.g [.lf .bool,.lf (.sl (.int .i64))],.g [.lf .bool,.lf (.sl (.int .i64))]],[]⟩ [⟨[.g [.lf .bool,.lf (.sl (.int .i64))]],[]⟩] fun k x=>qaa k x.1 x.2.1 x.2.2.1 x.2.2.2
theorem qqv (k:Nat):qat (call cf k) [qn5 k]:=
 ac (qm5 k) a0
def qyW (k:Nat):LInst:=mkL 2 [⟨[(2,.a (.ptr 0 0 0)),(3,.a (.ptr 1 0 0)),(4,.a (.ptr 2 0 0)),(5,.a (.smz 3)),(6,vI),(7,vI),(8,vI)],[(0,some (.raw [[.lf .bool,.lf (.sl (.int .i64))]] 2 154 true false false)),(1,some (.raw [[.lf .bool,.lf (.sl (.int .i64))]] 2 154 true false false)),(2,some (.raw [[.lf .bool,.smz 4]] 2 154 false false false)),(3,some (.arr (.int .i64) 1 3 false)),(4,some (.arr (.int .i64) 1 3 false))],5⟩] [⟨some 2,⟨[(2,.a (.ptr 0 0 0)),(3,.a (.ptr 1 0 0)),(4,.a (.ptr 2 0 0)),(5,.a (.smz 3)),(6,vI),(7,vI)],[(0,some (.raw [[.lf .bool,.lf (.sl (.int .i64))]] 2 154 true false false)),(1,some (.raw [[.lf .bool,.lf (.sl (.int .i64))]] 2 154 true false false)),(2,some (.raw [[.lf .bool,.smz 4]] 2 154 false false false)),(3,some (.arr (.int .i64) 1 3 false)),(4,some (.arr (.int .i64) 1 3 false))],5⟩⟩] (fun n x=>qb7 k n x.1 x.2.1 x.2.2.1 x.2.2.2.1 x.2.2.2.2.1 x.2.2.2.2.2.1 x.2.2.2.2.2.2.1 x.2.2.2.2.2.2.2.1 x.2.2.2.2.2.2.2.2.1 x.2.2.2.2.2.2.2.2.2.1 x.2.2.2.2.2.2.2.2.2.2.1 x.2.2.2.2.2.2.2.2.2.2.2) k
theorem qrY (k:Nat):LIo 208 Tryz.f208 0 k (qyW k):=
 lpk [] (qqv k) l0 (fun _=>rfl) (by kernel_rfl) fun n x=>by kernel_rfl
def qyX (k:Nat):LInst:=mkL 0 [⟨[(2,.a (.ptr 0 0 0)),(3,.a (.ptr 1 0 0)),(4,.a (.ptr 2 0 0)),(5,.a (.smz 3)),(6,vI)],[(0,some (.raw [[.lf .bool,.lf (.sl (.int .i64))]] 2 154 true false false)),(1,some (.raw [[.lf .bool,.lf (.sl (.int .i64))]] 2 154 true false false)),(2,some (.raw [[.lf .bool,.smz 4]] 2 154 false false false)),(3,some (.arr (.int .i64) 1 3 false)),(4,some (.arr (.int .i64) 1 3 false))],5⟩] [⟨some 0,⟨[(2,.a (.ptr 0 0 0)),(3,.a (.ptr 1 0 0)),(4,.a (.ptr 2 0 0)),(5,.a (.smz 3))],[(0,some (.raw [[.lf .bool,.lf (.sl (.int .i64))]] 2 154 true false false)),(1,some (.raw [[.lf .bool,.lf (.sl (.int .i64))]] 2 154 true false false)),(2,some (.raw [[.lf .bool,.smz 4]] 2 154 false false false)),(3,some (.arr (.int .i64) 1 3 false)),(4,some (.arr (.int .i64) 1 3 false))],5⟩⟩] (fun n x=>qb8 k n x.1 x.2.1 x.2.2.1 x.2.2.2.1 x.2.2.2.2.1 x.2.2.2.2.2.1 x.2.2.2.2.2.2.1 x.2.2.2.2.2.2.2.1 x.2.2.2.2.2.2.2.2.1 x.2.2.2.2.2.2.2.2.2) k
theorem qyY (k:Nat):LIo 208 Tryz.f208 0 k (qyX k):=
 lpk [2] (qqv k) (lc (qrY k) l0) (fun _=>rfl) (by kernel_rfl) fun n x=>by kernel_rfl
theorem qlC:∀k,qe (call cf k) (qqu k):=
 fnk 0 [0] Tryz.func208 (fun k=>(qqv k)) (fun k=>(lc (qrY k) (lc (qyY k) l0))) ⟨rfl,rfl,⟨rfl,Nat.le_of_ble_eq_true rfl⟩,rfl⟩ (fun _=>rfl) (by kernel_rfl) fun k x=>by kernel_rfl

def qae (k:Nat) (rec:List Int→List Int→Int→Int→Option (Int)) (r:List Int) (b:List Int) (low:Int) (high:Int):Option (Int):=
 if((decide (low<high))=true)then
 Option.bind (qZ k (IntKind.wrap .i64 (Int.tdiv (IntKind.wrap .i64 ((IntKind.wrap .i64 (low+high))+(1:Int))) (2:Int)))) fun r14=>
 Option.bind (qaa k false b r14.1 r14.2) fun r15=>
 Option.bind (qdK k r15.2 r) fun r16=>
 if((decide (r16≤(0:Int)))=true)then
 rec r b (IntKind.wrap .i64 (Int.tdiv (IntKind.wrap .i64 ((IntKind.wrap .i64 (low+high))+(1:Int))) (2:Int))) high
 else
 rec r b low (IntKind.wrap .i64 ((IntKind.wrap .i64 (Int.tdiv (IntKind.wrap .i64 ((IntKind.wrap .i64 (low+high))+(1:Int))) (2:Int)))-(1:Int)))
 else
 (some low)
def qbw (k n:Nat):List Int→List Int→Int→Int→Option (Int):=Nat.rec (fun _ _ _ _=>none) (fun _ r=>qae k r) n
def qfO (k:Nat) (r:List Int) (b:List Int):Option (Int):=
 Option.bind (qdK k r b) fun r13=>
 if((decide (r13<(0:Int)))=true)then
 (some (0:Int))
 else
 Option.bind (qbw k k r b (0:Int) (65535:Int)) fun r14=>
 (some r14)
def qcz:Nat→List Int→List Int→Option (Int)
 | 0,_,_=>none
 | k+1,r,b=>qfO k r b
def qyZ:Nat→Inst:=mkI 207 ⟨[vJ,vJ],[]⟩ [⟨[vI],[]⟩] fun k x=>qcz k x.1 x.2
theorem quN (k:Nat):qat (call cf k) [qyN k,qqt k,qqu k]:=
 ac (quI k) (ac (qm6 k) (ac (qlC k) a0))
def qy0 (k:Nat):LInst:=mkL 0 [⟨[(0,vJ),(1,vJ),(5,vI),(6,vI)],[],0⟩] [⟨some 0,⟨[(5,vI)],[],0⟩⟩] (fun n x=>qbw k n x.1 x.2.1 x.2.2.1 x.2.2.2) k
theorem qy1 (k:Nat):LIo 207 Tryz.f207 0 k (qy0 k):=
 lpk [] (quN k) l0 (fun _=>rfl) (by kernel_rfl) fun n x=>by kernel_rfl
theorem qBn:∀k,qe (call cf k) (qyZ k):=
 fnk 0 [0] Tryz.func207 (fun k=>(quN k)) (fun k=>(lc (qy1 k) l0)) ⟨rfl,rfl,⟨rfl,Nat.le_of_ble_eq_true rfl⟩,rfl⟩ (fun _=>rfl) (by kernel_rfl) fun k x=>by kernel_rfl

def qB (k:Nat) (rec:((Nat×Nat×Int×Bool×List Int×Bool×List Int×Bool×Nat×Bool×Nat×List Int×List Int×List Int×List Int) ⊕ (Nat×List Int×Int×Bool×List Int×Bool×List Int×Bool×Nat×Bool×Nat×List Int×List Int×List Int))→Option ((Nat×Nat×Bool×List Int×Bool×List Int×Bool×Nat×Bool×Nat×List Int×List Int×List Int×List Int) ⊕ (Nat×List Int×Bool×List Int×Bool×List Int×Bool×Nat×Bool×Nat×List Int×List Int×List Int))) (x:(Nat×Nat×Int×Bool×List Int×Bool×List Int×Bool×Nat×Bool×Nat×List Int×List Int×List Int×List Int) ⊕ (Nat×List Int×Int×Bool×List Int×Bool×List Int×Bool×Nat×Bool×Nat×List Int×List Int×List Int)):Option ((Nat×Nat×Bool×List Int×Bool×List Int×Bool×Nat×Bool×Nat×List Int×List Int×List Int×List Int) ⊕ (Nat×List Int×Bool×List Int×Bool×List Int×Bool×Nat×Bool×Nat×List Int×List Int×List Int)):=
 qc x
 (fun x=>
 if((decide (x.2.2.1≥(0:Int)))=true)then
 if((0:Int)≤x.2.2.1)then
 Option.bind (x.2.2.2.2.1)[(Int.toNat x.2.2.1)]? fun x2=>
 if((0+x.2.1)≤(List.length x.2.2.2.2.2.2.2.2.2.2.2.2.1))then
 if(((1+(List.length (List.take x.2.1 x.2.2.2.2.2.2.2.2.2.2.2.2.1)))*8)≤140737488355328)then
 Option.bind (qE k (1+(List.length (List.take x.2.1 x.2.2.2.2.2.2.2.2.2.2.2.2.1))) ((List.take 1 (x2:: []))++(List.take x.2.1 x.2.2.2.2.2.2.2.2.2.2.2.2.1))) fun r12=>
 if((0+r12.1)≤(List.length r12.2))then
 Option.bind (qcz k (List.take r12.1 r12.2) x.2.2.2.2.2.2.1) fun r13=>
 if((decide (r13>(0:Int)))=true)then
 Option.bind (qZ k r13) fun r14=>
 Option.bind (qaa k false x.2.2.2.2.2.2.1 r14.1 r14.2) fun r15=>
 if((0+r12.1)≤(List.length r12.2))then
 Option.bind (qaI k (List.take r12.1 r12.2) r15.2) fun r16=>
 if(((0:Int)≤x.2.2.1)∧(x.2.2.1<((x.1:Nat):Int)))then
 Option.bind (x.2.2.2.2.2.2.2.2.2.2.2.1)[(0+(Int.toNat x.2.2.1))]? fun x3=>
 rec (Sum.inr (x.1,r16,(IntKind.wrap .i64 (x.2.2.1-(1:Int))),x.2.2.2.1,x.2.2.2.2.1,x.2.2.2.2.2.1,x.2.2.2.2.2.2.1,x.2.2.2.2.2.2.2.1,x.2.2.2.2.2.2.2.2.1,x.2.2.2.2.2.2.2.2.2.1,x.2.2.2.2.2.2.2.2.2.2.1,(List.set x.2.2.2.2.2.2.2.2.2.2.2.1 (0+(Int.toNat x.2.2.1)) r13),x.2.2.2.2.2.2.2.2.2.2.2.2.2.1,x.2.2.2.2.2.2.2.2.2.2.2.2.2.2))
 else
 none
 else
 none
 else
 if(((0:Int)≤x.2.2.1)∧(x.2.2.1<((x.1:Nat):Int)))then
 Option.bind (x.2.2.2.2.2.2.2.2.2.2.2.1)[(0+(Int.toNat x.2.2.1))]? fun x3=>
 rec (Sum.inl (x.1,r12.1,(IntKind.wrap .i64 (x.2.2.1-(1:Int))),x.2.2.2.1,x.2.2.2.2.1,x.2.2.2.2.2.1,x.2.2.2.2.2.2.1,x.2.2.2.2.2.2.2.1,x.2.2.2.2.2.2.2.2.1,x.2.2.2.2.2.2.2.2.2.1,x.2.2.2.2.2.2.2.2.2.2.1,(List.set x.2.2.2.2.2.2.2.2.2.2.2.1 (0+(Int.toNat x.2.2.1)) r13),r12.2,x.2.2.2.2.2.2.2.2.2.2.2.2.2.1,x.2.2.2.2.2.2.2.2.2.2.2.2.2.2))
 else
 none
 else
 none
 else
 none
 else
 none
 else
 none
 else
 (some (Sum.inl (x.1,x.2.1,x.2.2.2.1,x.2.2.2.2.1,x.2.2.2.2.2.1,x.2.2.2.2.2.2.1,x.2.2.2.2.2.2.2.1,x.2.2.2.2.2.2.2.2.1,x.2.2.2.2.2.2.2.2.2.1,x.2.2.2.2.2.2.2.2.2.2.1,x.2.2.2.2.2.2.2.2.2.2.2.1,x.2.2.2.2.2.2.2.2.2.2.2.2.1,x.2.2.2.2.2.2.2.2.2.2.2.2.2.1,x.2.2.2.2.2.2.2.2.2.2.2.2.2.2))))
 (fun x=>
 if((decide (x.2.2.1≥(0:Int)))=true)then
 if((0:Int)≤x.2.2.1)then
 Option.bind (x.2.2.2.2.1)[(Int.toNat x.2.2.1)]? fun x2=>
 if(((1+(List.length x.2.1))*8)≤140737488355328)then
 Option.bind (qE k (1+(List.length x.2.1)) ((List.take 1 (x2:: []))++x.2.1)) fun r12=>
 if((0+r12.1)≤(List.length r12.2))then
 Option.bind (qcz k (List.take r12.1 r12.2) x.2.2.2.2.2.2.1) fun r13=>
 if((decide (r13>(0:Int)))=true)then
 Option.bind (qZ k r13) fun r14=>
 Option.bind (qaa k false x.2.2.2.2.2.2.1 r14.1 r14.2) fun r15=>
 if((0+r12.1)≤(List.length r12.2))then
 Option.bind (qaI k (List.take r12.1 r12.2) r15.2) fun r16=>
 if(((0:Int)≤x.2.2.1)∧(x.2.2.1<((x.1:Nat):Int)))then
 Option.bind (x.2.2.2.2.2.2.2.2.2.2.2.1)[(0+(Int.toNat x.2.2.1))]? fun x3=>
 rec (Sum.inr (x.1,r16,(IntKind.wrap .i64 (x.2.2.1-(1:Int))),x.2.2.2.1,x.2.2.2.2.1,x.2.2.2.2.2.1,x.2.2.2.2.2.2.1,x.2.2.2.2.2.2.2.1,x.2.2.2.2.2.2.2.2.1,x.2.2.2.2.2.2.2.2.2.1,x.2.2.2.2.2.2.2.2.2.2.1,(List.set x.2.2.2.2.2.2.2.2.2.2.2.1 (0+(Int.toNat x.2.2.1)) r13),x.2.2.2.2.2.2.2.2.2.2.2.2.1,x.2.2.2.2.2.2.2.2.2.2.2.2.2))
 else
 none
 else
 none
 else
 if(((0:Int)≤x.2.2.1)∧(x.2.2.1<((x.1:Nat):Int)))then
 Option.bind (x.2.2.2.2.2.2.2.2.2.2.2.1)[(0+(Int.toNat x.2.2.1))]? fun x3=>
 rec (Sum.inl (x.1,r12.1,(IntKind.wrap .i64 (x.2.2.1-(1:Int))),x.2.2.2.1,x.2.2.2.2.1,x.2.2.2.2.2.1,x.2.2.2.2.2.2.1,x.2.2.2.2.2.2.2.1,x.2.2.2.2.2.2.2.2.1,x.2.2.2.2.2.2.2.2.2.1,x.2.2.2.2.2.2.2.2.2.2.1,(List.set x.2.2.2.2.2.2.2.2.2.2.2.1 (0+(Int.toNat x.2.2.1)) r13),r12.2,x.2.2.2.2.2.2.2.2.2.2.2.2.1,x.2.2.2.2.2.2.2.2.2.2.2.2.2))
 else
 none
 else
 none
 else
 none
 else
 none
 else
 (some (Sum.inr (x.1,x.2.1,x.2.2.2.1,x.2.2.2.2.1,x.2.2.2.2.2.1,x.2.2.2.2.2.2.1,x.2.2.2.2.2.2.2.1,x.2.2.2.2.2.2.2.2.1,x.2.2.2.2.2.2.2.2.2.1,x.2.2.2.2.2.2.2.2.2.2.1,x.2.2.2.2.2.2.2.2.2.2.2.1,x.2.2.2.2.2.2.2.2.2.2.2.2.1,x.2.2.2.2.2.2.2.2.2.2.2.2.2))))
def qP (k n:Nat):((Nat×Nat×Int×Bool×List Int×Bool×List Int×Bool×Nat×Bool×Nat×List Int×List Int×List Int×List Int) ⊕ (Nat×List Int×Int×Bool×List Int×Bool×List Int×Bool×Nat×Bool×Nat×List Int×List Int×List Int))→Option ((Nat×Nat×Bool×List Int×Bool×List Int×Bool×Nat×Bool×Nat×List Int×List Int×List Int×List Int) ⊕ (Nat×List Int×Bool×List Int×Bool×List Int×Bool×Nat×Bool×Nat×List Int×List Int×List Int)):=Nat.rec (fun _=>none) (fun _ r=>qB k r) n
def qfr (k:Nat) (a0:Bool) (a1:List Int) (b0:Bool) (b1:List Int):Option (Bool×List Int×Bool×List Int):=
 if(((0:Int)≤(((List.length a1):Nat):Int))∧(((((List.length a1):Nat):Int)≤(((List.length a1):Nat):Int))∧(((((List.length a1):Nat):Int)*(8:Int))≤(140737488355328:Int))))then
 Option.bind (qP k k (Sum.inl ((Int.toNat (((List.length a1):Nat):Int)),0,(IntKind.wrap .i64 ((((List.length a1):Nat):Int)-(1:Int))),a0,a1,b0,b1,false,0,false,0,(List.replicate (Int.toNat (((List.length a1):Nat):Int)) (0:Int)),[],[],[]))) fun r12=>
 qc r12
 (fun r12=>
 Option.bind (qE k r12.1 r12.2.2.2.2.2.2.2.2.2.2.1) fun r13=>
 if((!(r12.2.2.1 == r12.2.2.2.2.1))=true)then
 if(r12.2.2.1=true)then
 if((0+r13.1)≤(List.length r13.2))then
 if((0+r12.2.1)≤(List.length r12.2.2.2.2.2.2.2.2.2.2.2.1))then
 (some ((decide (((r13.1:Nat):Int)>(0:Int))),(List.take r13.1 r13.2),(decide (((r12.2.1:Nat):Int)>(0:Int))),(List.take r12.2.1 r12.2.2.2.2.2.2.2.2.2.2.2.1)))
 else
 none
 else
 none
 else
 if((0+r13.1)≤(List.length r13.2))then
 if((0+r12.2.1)≤(List.length r12.2.2.2.2.2.2.2.2.2.2.2.1))then
 (some ((decide (((r13.1:Nat):Int)>(0:Int))),(List.take r13.1 r13.2),false,(List.take r12.2.1 r12.2.2.2.2.2.2.2.2.2.2.2.1)))
 else
 none
 else
 none
 else
 if(r12.2.2.1=true)then
 if((0+r13.1)≤(List.length r13.2))then
 if((0+r12.2.1)≤(List.length r12.2.2.2.2.2.2.2.2.2.2.2.1))then
 (some (false,(List.take r13.1 r13.2),(decide (((r12.2.1:Nat):Int)>(0:Int))),(List.take r12.2.1 r12.2.2.2.2.2.2.2.2.2.2.2.1)))
 else
 none
 else
 none
 else
 if((0+r13.1)≤(List.length r13.2))then
 if((0+r12.2.1)≤(List.length r12.2.2.2.2.2.2.2.2.2.2.2.1))then
 (some (false,(List.take r13.1 r13.2),false,(List.take r12.2.1 r12.2.2.2.2.2.2.2.2.2.2.2.1)))
 else
 none
 else
 none)
 (fun r12=>
 Option.bind (qE k r12.1 r12.2.2.2.2.2.2.2.2.2.2.1) fun r13=>
 if((!(r12.2.2.1 == r12.2.2.2.2.1))=true)then
 if(r12.2.2.1=true)then
 if((0+r13.1)≤(List.length r13.2))then
 (some ((decide (((r13.1:Nat):Int)>(0:Int))),(List.take r13.1 r13.2),(decide ((((List.length r12.2.1):Nat):Int)>(0:Int))),r12.2.1))
 else
 none
 else
 if((0+r13.1)≤(List.length r13.2))then
 (some ((decide (((r13.1:Nat):Int)>(0:Int))),(List.take r13.1 r13.2),false,r12.2.1))
 else
 none
 else
 if(r12.2.2.1=true)then
 if((0+r13.1)≤(List.length r13.2))then
 (some (false,(List.take r13.1 r13.2),(decide ((((List.length r12.2.1):Nat):Int)>(0:Int))),r12.2.1))
 else
 none
 else
 if((0+r13.1)≤(List.length r13.2))then
 (some (false,(List.take r13.1 r13.2),false,r12.2.1))
 else
 none)
 else
 none
def qaY:Nat→Bool→List Int→Bool→List Int→Option (Bool×List Int×Bool×List Int)
 | 0,_,_,_,_=>none
 | k+1,a0,a1,b0,b1=>qfr k a0 a1 b0 b1
def qy2:Nat→Inst:=mkI 152 ⟨[.g [.lf .bool,.lf (.sl (.int .i64))],.g [.lf .bool,.lf (.sl (.int .i64))]],[]⟩ [⟨[.g [.lf .bool,.lf (.sl (.int .i64))],.g [.lf .bool,.lf (.sl (.int .i64))]],[]⟩] fun k x=>qaY k x.1 x.2.1 x.2.2.1 x.2.2.2
theorem quO (k:Nat):qat (call cf k) [qn5 k,qyZ k,qqt k,qqu k,qyQ k]:=
 ac (qm5 k) (ac (qBn k) (ac (qm6 k) (ac (qlC k) (ac (quK k) a0))))
def qy3 (k:Nat):LInst:=mkL 0 [⟨[(2,.a (.ptr 0 0 0)),(3,.a (.ptr 1 0 0)),(4,.a (.ptr 2 0 0)),(5,.a (.ptr 3 0 0)),(6,.a (.smz 4)),(7,.a (.smz 5)),(8,vI)],[(0,some (.raw [[.lf .bool,.lf (.sl (.int .i64))]] 2 154 true false false)),(1,some (.raw [[.lf .bool,.lf (.sl (.int .i64))]] 2 154 true false false)),(2,some (.raw [[.lf .bool,.smz 6]] 2 154 false false false)),(3,some (.raw [[.lf .bool,.smz 7]] 2 154 false false false)),(4,some (.arr (.int .i64) 1 3 false)),(5,some (.arr (.int .i64) 1 3 false)),(6,some (.arr (.int .i64) 1 3 false)),(7,some (.arr (.int .i64) 1 3 false))],8⟩,⟨[(2,.a (.ptr 0 0 0)),(3,.a (.ptr 1 0 0)),(4,.a (.ptr 2 0 0)),(5,.a (.ptr 3 0 0)),(6,.a (.smz 4)),(7,vJ),(8,vI)],[(0,some (.raw [[.lf .bool,.lf (.sl (.int .i64))]] 2 154 true false false)),(1,some (.raw [[.lf .bool,.lf (.sl (.int .i64))]] 2 154 true false false)),(2,some (.raw [[.lf .bool,.smz 5]] 2 154 false false false)),(3,some (.raw [[.lf .bool,.smz 6]] 2 154 false false false)),(4,some (.arr (.int .i64) 1 3 false)),(5,some (.arr (.int .i64) 1 3 false)),(6,some (.arr (.int .i64) 1 3 false))],7⟩] [⟨some 0,⟨[(2,.a (.ptr 0 0 0)),(3,.a (.ptr 1 0 0)),(4,.a (.ptr 2 0 0)),(5,.a (.ptr 3 0 0)),(6,.a (.smz 4)),(7,.a (.smz 5))],[(0,some (.raw [[.lf .bool,.lf (.sl (.int .i64))]] 2 154 true false false)),(1,some (.raw [[.lf .bool,.lf (.sl (.int .i64))]] 2 154 true false false)),(2,some (.raw [[.lf .bool,.smz 6]] 2 154 false false false)),(3,some (.raw [[.lf .bool,.smz 7]] 2 154 false false false)),(4,some (.arr (.int .i64) 1 3 false)),(5,some (.arr (.int .i64) 1 3 false)),(6,some (.arr (.int .i64) 1 3 false)),(7,some (.arr (.int .i64) 1 3 false))],8⟩⟩,⟨some 0,⟨[(2,.a (.ptr 0 0 0)),(3,.a (.ptr 1 0 0)),(4,.a (.ptr 2 0 0)),(5,.a (.ptr 3 0 0)),(6,.a (.smz 4)),(7,vJ)],[(0,some (.raw [[.lf .bool,.lf (.sl (.int .i64))]] 2 154 true false false)),(1,some (.raw [[.lf .bool,.lf (.sl (.int .i64))]] 2 154 true false false)),(2,some (.raw [[.lf .bool,.smz 5]] 2 154 false false false)),(3,some (.raw [[.lf .bool,.smz 6]] 2 154 false false false)),(4,some (.arr (.int .i64) 1 3 false)),(5,some (.arr (.int .i64) 1 3 false)),(6,some (.arr (.int .i64) 1 3 false))],7⟩⟩] (fun n x=>qP k n x) k
theorem qy4 (k:Nat):LIo 152 Tryz.f152 0 k (qy3 k):=
 lpk [] (quO k) l0 (fun _=>rfl) (by kernel_rfl) fun n x=>by kernel_rfl
theorem quP:∀k,qe (call cf k) (qy2 k):=
 fnk 0 [0] Tryz.func152 (fun k=>(quO k)) (fun k=>(lc (qy4 k) l0)) ⟨rfl,rfl,⟨rfl,Nat.le_of_ble_eq_true rfl⟩,rfl⟩ (fun _=>rfl) (by kernel_rfl) fun k x=>by kernel_rfl

def qcm (k:Nat) (rec:Bool→List Int→Bool→List Int→Bool→Nat→List Int→Option (Bool×List Int×Bool×List Int×Bool×Nat×List Int)) (a0:Bool) (a1:List Int) (b0:Bool) (b1:List Int) (x0:Bool) (x1:Nat) (m:List Int):Option (Bool×List Int×Bool×List Int×Bool×Nat×List Int):=
 if((decide ((((List.length b1):Nat):Int)>(0:Int)))=true)then
 Option.bind (qaY k a0 a1 b0 b1) fun r12=>
 rec b0 b1 r12.2.2.1 r12.2.2.2 x0 x1 m
 else
 (some (a0,a1,b0,b1,x0,x1,m))
def qcv (k n:Nat):Bool→List Int→Bool→List Int→Bool→Nat→List Int→Option (Bool×List Int×Bool×List Int×Bool×Nat×List Int):=Nat.rec (fun _ _ _ _ _ _ _=>none) (fun _ r=>qcm k r) n
def qjP (k:Nat) (a0:Bool) (a1:List Int) (b0:Bool) (b1:List Int):Option (Bool×List Int):=
 Option.bind (qb6 k a0 a1) fun r10=>
 Option.bind (qb6 k b0 b1) fun r11=>
 Option.bind (qcv k k r10.1 r10.2 r11.1 r11.2 false 0 []) fun r12=>
 (some (r12.1,r12.2.1))
def qc4:Nat→Bool→List Int→Bool→List Int→Option (Bool×List Int)
 | 0,_,_,_,_=>none
 | k+1,a0,a1,b0,b1=>qjP k a0 a1 b0 b1
def qCv:Nat→Inst:=mkI 151 ⟨[.g [.lf .bool,.lf (.sl (.int .i64))],.g [.lf .bool,.lf (.sl (.int .i64))]],[]⟩ [⟨[.g [.lf .bool,.lf (.sl (.int .i64))]],[]⟩] fun k x=>qc4 k x.1 x.2.1 x.2.2.1 x.2.2.2
theorem quQ (k:Nat):qat (call cf k) [qyV k,qy2 k]:=
 ac (qBm k) (ac (quP k) a0)
def qy5 (k:Nat):LInst:=mkL 0 [⟨[(2,.a (.ptr 0 0 0)),(3,.a (.ptr 1 0 0)),(4,.a (.ptr 2 0 0))],[(0,some (.raw [[.lf .bool,.lf (.sl (.int .i64))]] 2 154 true false false)),(1,some (.raw [[.lf .bool,.lf (.sl (.int .i64))]] 2 154 true false false)),(2,some (.raw [[.lf .bool,.smz 3]] 2 154 false false false)),(3,some (.arr (.int .i64) 1 3 false))],4⟩] [⟨some 0,⟨[(2,.a (.ptr 0 0 0)),(4,.a (.ptr 2 0 0))],[(0,some (.raw [[.lf .bool,.lf (.sl (.int .i64))]] 2 154 true false false)),(1,some (.raw [[.lf .bool,.lf (.sl (.int .i64))]] 2 154 true false false)),(2,some (.raw [[.lf .bool,.smz 3]] 2 154 false false false)),(3,some (.arr (.int .i64) 1 3 false))],4⟩⟩] (fun n x=>qcv k n x.1 x.2.1 x.2.2.1 x.2.2.2.1 x.2.2.2.2.1 x.2.2.2.2.2.1 x.2.2.2.2.2.2) k
theorem qy6 (k:Nat):LIo 151 Tryz.f151 0 k (qy5 k):=
 lpk [] (quQ k) l0 (fun _=>rfl) (by kernel_rfl) fun n x=>by kernel_rfl
theorem qBo:∀k,qe (call cf k) (qCv k):=
 fnk 0 [0] Tryz.func151 (fun k=>(quQ k)) (fun k=>(lc (qy6 k) l0)) ⟨rfl,rfl,⟨rfl,Nat.le_of_ble_eq_true rfl⟩,rfl⟩ (fun _=>rfl) (by kernel_rfl) fun k x=>by kernel_rfl

def qc5 (k:Nat) (num0:Bool) (num1:List Int) (den0:Bool) (den1:List Int):Option (Bool×List Int×Bool×List Int):=
 Option.bind (qdL k den0 den1) fun r7=>
 if((decide (r7<(0:Int)))=true)then
 Option.bind (qb1 k num0 num1) fun r8=>
 Option.bind (qb1 k den0 den1) fun r9=>
 Option.bind (qc4 k r8.1 r8.2 r9.1 r9.2) fun r10=>
 Option.bind (qaY k r8.1 r8.2 r10.1 r10.2) fun r11=>
 Option.bind (qaY k r9.1 r9.2 r10.1 r10.2) fun r12=>
 (some (r11.1,r11.2.1,r12.1,r12.2.1))
 else
 Option.bind (qc4 k num0 num1 den0 den1) fun r8=>
 Option.bind (qaY k num0 num1 r8.1 r8.2) fun r9=>
 Option.bind (qaY k den0 den1 r8.1 r8.2) fun r10=>
 (some (r9.1,r9.2.1,r10.1,r10.2.1))
def qc6:Nat→Bool→List Int→Bool→List Int→Option (Bool×List Int×Bool×List Int)
 | 0,_,_,_,_=>none
 | k+1,num0,num1,den0,den1=>qc5 k num0 num1 den0 den1
def qCw:Nat→Inst:=mkI 93 ⟨[.g [.lf .bool,.lf (.sl (.int .i64))],.g [.lf .bool,.lf (.sl (.int .i64))]],[]⟩ [⟨[.g [.lf .bool,.lf (.sl (.int .i64)),.lf .bool,.lf (.sl (.int .i64))]],[]⟩] fun k x=>qc6 k x.1 x.2.1 x.2.2.1 x.2.2.2
theorem qBp:∀k,qe (call cf k) (qCw k):=
 fnk 0 [] Tryz.func93 (fun k=>(ac (quL k) (ac (quM k) (ac (qBo k) (ac (quP k) a0))))) (fun k=>l0) ⟨rfl,rfl,⟨rfl,Nat.le_of_ble_eq_true rfl⟩,rfl⟩ (fun _=>rfl) (by kernel_rfl) fun k x=>by kernel_rfl

def qa4 (k:Nat) (rec:Int→Int→List ByteArray→List DvT→Int→Int→Int→Option (Int×List ByteArray×List DvT×Int×Int×Int)) (n:Int) (i:Int) (f0:List ByteArray) (f1:List DvT) (f2:Int) (f3:Int) (f4:Int):Option (Int×List ByteArray×List DvT×Int×Int×Int):=
 if((decide (i<(((List.length f1):Nat):Int)))=true)then
 if((decide (n<(800:Int)))=true)then
 if((0:Int)≤i)then
 Option.bind (f1)[(Int.toNat i)]? fun x=>
 rec (IntKind.wrap .i64 (n+(IntKind.wrap .i64 ((IntKind.wrap .i64 ((IntKind.wrap .i64 ((IntKind.wrap .i64 ((IntKind.wrap .i64 ((1:Int)+(min (400:Int) (((List.length x.2.2.1):Nat):Int))))+(min (400:Int) (((List.length x.2.2.2.2.2.1.2.1):Nat):Int))))+(min (400:Int) (((List.length x.2.2.2.2.2.1.2.2):Nat):Int))))+(min (400:Int) (((List.length x.2.2.2.2.2.2.2.2.1):Nat):Int))))+(min (400:Int) (((List.length x.2.2.2.2.2.2.2.2.2):Nat):Int)))))) (IntKind.wrap .i64 (i+(1:Int))) f0 f1 f2 f3 f4
 else
 none
 else
 (some (n,f0,f1,f2,f3,f4))
 else
 (some (n,f0,f1,f2,f3,f4))
def qJ (k n:Nat):Int→Int→List ByteArray→List DvT→Int→Int→Int→Option (Int×List ByteArray×List DvT×Int×Int×Int):=Nat.rec (fun _ _ _ _ _ _ _=>none) (fun _ r=>qa4 k r) n
def qfP (k:Nat) (f0:List ByteArray) (f1:List DvT) (f2:Int) (f3:Int) (f4:Int) (st0:Int) (st1:List Int) (st2:List Int) (st3:List Int):Option (Bool):=
 Option.bind (qJ k k (IntKind.wrap .i64 ((IntKind.wrap .i64 ((IntKind.wrap .i64 ((((List.length f0):Nat):Int)+(min (400:Int) (((List.length st1):Nat):Int))))+(min (400:Int) (((List.length st2):Nat):Int))))+(min (400:Int) (((List.length st3):Nat):Int)))) (0:Int) f0 f1 f2 f3 f4) fun r1=>
 (some (decide (r1.1≥(800:Int))))
def qed:Nat→List ByteArray→List DvT→Int→Int→Int→Int→List Int→List Int→List Int→Option (Bool)
 | 0,_,_,_,_,_,_,_,_,_=>none
 | k+1,f0,f1,f2,f3,f4,st0,st1,st2,st3=>qfP k f0 f1 f2 f3 f4 st0 st1 st2 st3
def qCx:Nat→Inst:=mkI 26 ⟨[.g [.lf (.sl .str),.lf (.sl qF),.lf (.int .i64),.lf (.int .i64),.lf (.int .i64)],.g [.lf (.int .i64),.lf (.sl (.int .i64)),.lf (.sl (.int .i64)),.lf (.sl (.int .i64))]],[]⟩ [⟨[vB],[]⟩] fun k x=>qed k x.1 x.2.1 x.2.2.1 x.2.2.2.1 x.2.2.2.2.1 x.2.2.2.2.2.1 x.2.2.2.2.2.2.1 x.2.2.2.2.2.2.2.1 x.2.2.2.2.2.2.2.2
def qy7 (k:Nat):LInst:=mkL 0 [⟨[(2,.a (.ptr 0 0 0)),(5,vI),(6,vI)],[(0,some (.raw [[.lf (.sl .str),.lf (.sl qF),.lf (.int .i64),.lf (.int .i64),.lf (.int .i64)]] 5 27 true false false))],1⟩] [⟨some 0,⟨[(5,vI)],[(0,some (.raw [[.lf (.sl .str),.lf (.sl qF),.lf (.int .i64),.lf (.int .i64),.lf (.int .i64)]] 5 27 true false false))],1⟩⟩] (fun n x=>qJ k n x.1 x.2.1 x.2.2.1 x.2.2.2.1 x.2.2.2.2.1 x.2.2.2.2.2.1 x.2.2.2.2.2.2) k
theorem qy8 (k:Nat):LIo 26 Tryz.f26 0 k (qy7 k):=
 lpk [] a0 l0 (fun _=>rfl) (by kernel_rfl) fun n x=>by kernel_rfl
theorem qBq:∀k,qe (call cf k) (qCx k):=
 fnk 0 [0] Tryz.func26 (fun k=>a0) (fun k=>(lc (qy8 k) l0)) ⟨rfl,rfl,⟨rfl,Nat.le_of_ble_eq_true rfl⟩,rfl⟩ (fun _=>rfl) (by kernel_rfl) fun k x=>by kernel_rfl

def qfQ (k:Nat) (n0:Int) (n1:Int):Option (Bool):=
 if((n0 == (0:Int))=false)then
 if(((Int.tmod n0 (10:Int)) == (0:Int))=true)then
 if((n0 == (0:Int))=true)then
 (some (n1 == (0:Int)))
 else
 (some false)
 else
 if((decide (n0≤(999999999:Int)))=true)then
 if((decide (n0≥(-(999999999:Int))))=true)then
 if((decide (n1≤(9:Int)))=true)then
 (some (decide (n1≥(-(18:Int)))))
 else
 (some false)
 else
 (some false)
 else
 (some false)
 else
 if((n0 == (0:Int))=true)then
 (some (n1 == (0:Int)))
 else
 (some false)
def qaJ:Nat→Int→Int→Option (Bool)
 | 0,_,_=>none
 | k+1,n0,n1=>qfQ k n0 n1
def qn6:Nat→Inst:=mkI 67 ⟨[.g [.lf (.int .i64),.lf (.int .i64)]],[]⟩ [⟨[vB],[]⟩] fun k x=>qaJ k x.1 x.2
theorem qm7:∀k,qe (call cf k) (qn6 k):=
 fnk 0 [] Tryz.func67 (fun k=>a0) (fun k=>l0) ⟨rfl,rfl,⟨rfl,Nat.le_of_ble_eq_true rfl⟩,rfl⟩ (fun _=>rfl) (by kernel_rfl) fun k x=>by kernel_rfl

def qbx (k:Nat) (rec:ByteArray→Int→Option ((Bool) ⊕ (ByteArray))) (s:ByteArray) (i:Int):Option ((Bool) ⊕ (ByteArray)):=
 if((decide (i<(((ByteArray.size s):Nat):Int)))=true)then
 if((0:Int)≤i)then
 Option.bind ((ByteArray.data s))[(Int.toNat i)]? fun x3=>
 if((decide ((((UInt8.toNat x3):Nat):Int)<(97:Int)))=false)then
 if((decide ((((UInt8.toNat x3):Nat):Int)>(122:Int)))=true)then
 if((decide ((((UInt8.toNat x3):Nat):Int)<(48:Int)))=false)then
 if((decide ((((UInt8.toNat x3):Nat):Int)>(57:Int)))=true)then
 if(((((UInt8.toNat x3):Nat):Int) != (95:Int))=true)then
 (some (Sum.inl false))
 else
 rec s (IntKind.wrap .i64 (i+(1:Int)))
 else
 rec s (IntKind.wrap .i64 (i+(1:Int)))
 else
 if(((((UInt8.toNat x3):Nat):Int) != (95:Int))=true)then
 (some (Sum.inl false))
 else
 rec s (IntKind.wrap .i64 (i+(1:Int)))
 else
 rec s (IntKind.wrap .i64 (i+(1:Int)))
 else
 if((decide ((((UInt8.toNat x3):Nat):Int)<(48:Int)))=false)then
 if((decide ((((UInt8.toNat x3):Nat):Int)>(57:Int)))=true)then
 if(((((UInt8.toNat x3):Nat):Int) != (95:Int))=true)then
 (some (Sum.inl false))
 else
 rec s (IntKind.wrap .i64 (i+(1:Int)))
 else
 rec s (IntKind.wrap .i64 (i+(1:Int)))
 else
 if(((((UInt8.toNat x3):Nat):Int) != (95:Int))=true)then
 (some (Sum.inl false))
 else
 rec s (IntKind.wrap .i64 (i+(1:Int)))
 else
 none
 else
 (some (Sum.inr s))
def qah (k n:Nat):ByteArray→Int→Option ((Bool) ⊕ (ByteArray)):=Nat.rec (fun _ _=>none) (fun _ r=>qbx k r) n
def qgq (k:Nat) (s:ByteArray):Option (Bool):=
 Option.bind (qah k k s (0:Int)) fun r4=>
 qc r4
 (fun r4=>
 (some r4))
 (fun r4=>
 if((decide ((((ByteArray.size r4):Nat):Int)≥(1:Int)))=true)then
 (some (decide ((((ByteArray.size r4):Nat):Int)≤(16:Int))))
 else
 (some false))
def qcR:Nat→ByteArray→Option (Bool)
 | 0,_=>none
 | k+1,s=>qgq k s
def qtv:Nat→Inst:=mkI 126 ⟨[vS],[]⟩ [⟨[vB],[]⟩] fun k x=>qcR k x
def qy9 (k:Nat):LInst:=mkL 0 [⟨[(0,vS),(3,vI)],[],0⟩] [⟨none,⟨[(2,vB)],[],0⟩⟩,⟨some 0,⟨[(0,vS)],[],0⟩⟩] (fun n x=>qah k n x.1 x.2) k
theorem qza (k:Nat):LIo 126 Tryz.f126 0 k (qy9 k):=
 lpk [] a0 l0 (fun _=>rfl) (by kernel_rfl) fun n x=>by kernel_rfl
theorem quR:∀k,qe (call cf k) (qtv k):=
 fnk 0 [0] Tryz.func126 (fun k=>a0) (fun k=>(lc (qza k) l0)) ⟨rfl,rfl,⟨rfl,Nat.le_of_ble_eq_true rfl⟩,rfl⟩ (fun _=>rfl) (by kernel_rfl) fun k x=>by kernel_rfl

def qby (k:Nat) (rec:ByteArray→Int→Int→Int→Option ((Bool) ⊕ (Int))) (s:ByteArray) (parts:Int) (from1:Int) (i:Int):Option ((Bool) ⊕ (Int)):=
 if((decide (i≤(((ByteArray.size s):Nat):Int)))=true)then
 if((i == (((ByteArray.size s):Nat):Int))=false)then
 if((0:Int)≤i)then
 Option.bind ((ByteArray.data s))[(Int.toNat i)]? fun x2=>
 if(((((UInt8.toNat x2):Nat):Int) == (46:Int))=true)then
 if(((0:Int)≤from1)∧((from1≤i)∧(i≤(((ByteArray.size s):Nat):Int))))then
 Option.bind (qcR k (ByteArray.extract s (Int.toNat from1) (Int.toNat i))) fun r4=>
 if((!r4)=true)then
 (some (Sum.inl false))
 else
 rec s (IntKind.wrap .i64 (parts+(1:Int))) (IntKind.wrap .i64 (i+(1:Int))) (IntKind.wrap .i64 (i+(1:Int)))
 else
 none
 else
 rec s parts from1 (IntKind.wrap .i64 (i+(1:Int)))
 else
 none
 else
 if(((0:Int)≤from1)∧((from1≤i)∧(i≤(((ByteArray.size s):Nat):Int))))then
 Option.bind (qcR k (ByteArray.extract s (Int.toNat from1) (Int.toNat i))) fun r4=>
 if((!r4)=true)then
 (some (Sum.inl false))
 else
 rec s (IntKind.wrap .i64 (parts+(1:Int))) (IntKind.wrap .i64 (i+(1:Int))) (IntKind.wrap .i64 (i+(1:Int)))
 else
 none
 else
 (some (Sum.inr parts))
def qaA (k n:Nat):ByteArray→Int→Int→Int→Option ((Bool) ⊕ (Int)):=Nat.rec (fun _ _ _ _=>none) (fun _ r=>qby k r) n
def qgr (k:Nat) (s:ByteArray):Option (Bool):=
 Option.bind (qaA k k s (0:Int) (0:Int) (0:Int)) fun r4=>
 qc r4
 (fun r4=>
 (some r4))
 (fun r4=>
 (some (decide (r4≤(9:Int)))))
def qp:Nat→ByteArray→Option (Bool)
 | 0,_=>none
 | k+1,s=>qgr k s
def qqw:Nat→Inst:=mkI 69 ⟨[vS],[]⟩ [⟨[vB],[]⟩] fun k x=>qp k x
theorem quS (k:Nat):qat (call cf k) [qtv k]:=
 ac (quR k) a0
def qzb (k:Nat):LInst:=mkL 0 [⟨[(0,vS),(3,vI),(4,vI),(5,vI)],[],0⟩] [⟨none,⟨[(2,vB)],[],0⟩⟩,⟨some 0,⟨[(3,vI)],[],0⟩⟩] (fun n x=>qaA k n x.1 x.2.1 x.2.2.1 x.2.2.2) k
theorem qzc (k:Nat):LIo 69 Tryz.f69 0 k (qzb k):=
 lpk [] (quS k) l0 (fun _=>rfl) (by kernel_rfl) fun n x=>by kernel_rfl
theorem qqx:∀k,qe (call cf k) (qqw k):=
 fnk 0 [0] Tryz.func69 (fun k=>(quS k)) (fun k=>(lc (qzc k) l0)) ⟨rfl,rfl,⟨rfl,Nat.le_of_ble_eq_true rfl⟩,rfl⟩ (fun _=>rfl) (by kernel_rfl) fun k x=>by kernel_rfl

def qaR (k:Nat) (rec:List Int→Int→Option ((Bool) ⊕ (Unit))) (l:List Int) (i:Int):Option ((Bool) ⊕ (Unit)):=
 if((decide (i<(((List.length l):Nat):Int)))=true)then
 if((0:Int)≤(IntKind.wrap .i64 (i-(1:Int))))then
 Option.bind (l)[(Int.toNat (IntKind.wrap .i64 (i-(1:Int))))]? fun x3=>
 if((0:Int)≤i)then
 Option.bind (l)[(Int.toNat i)]? fun x4=>
 if((decide (x3≥x4))=true)then
 (some (Sum.inl false))
 else
 rec l (IntKind.wrap .i64 (i+(1:Int)))
 else
 none
 else
 none
 else
 (some (Sum.inr ()))
def qQ (k n:Nat):List Int→Int→Option ((Bool) ⊕ (Unit)):=Nat.rec (fun _ _=>none) (fun _ r=>qaR k r) n
def qjQ (k:Nat) (l:List Int):Option (Bool):=
 Option.bind (qQ k k l (1:Int)) fun r9=>
 qc r9
 (fun r9=>
 (some r9))
 (fun r9=>
 (some true))
def qc7:Nat→List Int→Option (Bool)
 | 0,_=>none
 | k+1,l=>qjQ k l
def qzd:Nat→Inst:=mkI 189 ⟨[vJ],[]⟩ [⟨[vB],[]⟩] fun k x=>qc7 k x
def qze (k:Nat):LInst:=mkL 0 [⟨[(0,vJ),(3,vI)],[],0⟩] [⟨none,⟨[(2,vB)],[],0⟩⟩,⟨some 0,⟨[],[],0⟩⟩] (fun n x=>qQ k n x.1 x.2) k
theorem qzf (k:Nat):LIo 189 Tryz.f189 0 k (qze k):=
 lpk [] a0 l0 (fun _=>rfl) (by kernel_rfl) fun n x=>by kernel_rfl
theorem qBr:∀k,qe (call cf k) (qzd k):=
 fnk 0 [0] Tryz.func189 (fun k=>a0) (fun k=>(lc (qzf k) l0)) ⟨rfl,rfl,⟨rfl,Nat.le_of_ble_eq_true rfl⟩,rfl⟩ (fun _=>rfl) (by kernel_rfl) fun k x=>by kernel_rfl

def qa5 (k:Nat) (rec:Int→Int→List (Int×Int)→List Int→Option ((Bool×Int×List (Int×Int)×List Int) ⊕ (Int×List (Int×Int)×List Int))) (i:Int) (w0:Int) (w1:List (Int×Int)) (w2:List Int):Option ((Bool×Int×List (Int×Int)×List Int) ⊕ (Int×List (Int×Int)×List Int)):=
 if((decide (i<(((List.length w1):Nat):Int)))=true)then
 if((0:Int)≤i)then
 Option.bind (w1)[(Int.toNat i)]? fun x3=>
 Option.bind (qaJ k x3.1 x3.2) fun r7=>
 if((!r7)=true)then
 (some (Sum.inl (false,w0,w1,w2)))
 else
 rec (IntKind.wrap .i64 (i+(1:Int))) w0 w1 w2
 else
 none
 else
 (some (Sum.inr (w0,w1,w2)))
def qS (k n:Nat):Int→Int→List (Int×Int)→List Int→Option ((Bool×Int×List (Int×Int)×List Int) ⊕ (Int×List (Int×Int)×List Int)):=Nat.rec (fun _ _ _ _=>none) (fun _ r=>qa5 k r) n
def qa6 (k:Nat) (rec:Int→Int→List (Int×Int)→List Int→Option ((Bool×Int×List (Int×Int)×List Int) ⊕ (Int×List (Int×Int)×List Int))) (i:Int) (w0:Int) (w1:List (Int×Int)) (w2:List Int):Option ((Bool×Int×List (Int×Int)×List Int) ⊕ (Int×List (Int×Int)×List Int)):=
 if((decide (i<(((List.length w2):Nat):Int)))=true)then
 if((0:Int)≤i)then
 Option.bind (w2)[(Int.toNat i)]? fun x3=>
 if((decide (x3<(0:Int)))=false)then
 if((0:Int)≤i)then
 Option.bind (w2)[(Int.toNat i)]? fun x4=>
 if((decide (x4>(1000000000:Int)))=true)then
 (some (Sum.inl (false,w0,w1,w2)))
 else
 rec (IntKind.wrap .i64 (i+(1:Int))) w0 w1 w2
 else
 none
 else
 (some (Sum.inl (false,w0,w1,w2)))
 else
 none
 else
 (some (Sum.inr (w0,w1,w2)))
def qN (k n:Nat):Int→Int→List (Int×Int)→List Int→Option ((Bool×Int×List (Int×Int)×List Int) ⊕ (Int×List (Int×Int)×List Int)):=Nat.rec (fun _ _ _ _=>none) (fun _ r=>qa6 k r) n
def qfR (k:Nat) (w0:Int) (w1:List (Int×Int)) (w2:List Int):Option (Bool):=
 Option.bind (qS k k (0:Int) w0 w1 w2) fun r7=>
 qc r7
 (fun r7=>
 (some r7.1))
 (fun r7=>
 Option.bind (qN k k (0:Int) r7.1 r7.2.1 r7.2.2) fun r8=>
 qc r8
 (fun r8=>
 (some r8.1))
 (fun r8=>
 if((r8.1 == (1:Int))=true)then
 if(((((List.length r8.2.1):Nat):Int) == (1:Int))=true)then
 (some ((((List.length r8.2.2):Nat):Int) == (0:Int)))
 else
 (some false)
 else
 if((r8.1 == (2:Int))=true)then
 if(((((List.length r8.2.1):Nat):Int) == (2:Int))=true)then
 if(((((List.length r8.2.2):Nat):Int) == (5:Int))=true)then
 Option.bind (r8.2.2)[4]? fun x3=>
 if((decide (x3>(0:Int)))=true)then
 Option.bind (r8.2.2)[1]? fun x4=>
 Option.bind (r8.2.2)[2]? fun x5=>
 Option.bind (r8.2.2)[3]? fun x6=>
 Option.bind (r8.2.2)[4]? fun x7=>
 (some (decide ((IntKind.wrap .i64 ((IntKind.wrap .i64 (x4+x5))+x6))≤x7)))
 else
 (some false)
 else
 (some false)
 else
 (some false)
 else
 if((r8.1 == (3:Int))=true)then
 if(((((List.length r8.2.1):Nat):Int) == (((List.length r8.2.2):Nat):Int))=true)then
 if((decide ((((List.length r8.2.1):Nat):Int)≥(1:Int)))=true)then
 if((decide ((((List.length r8.2.1):Nat):Int)≤(16:Int)))=true)then
 Option.bind (qc7 k r8.2.2) fun r9=>
 (some r9)
 else
 (some false)
 else
 (some false)
 else
 (some false)
 else
 if((r8.1 == (4:Int))=true)then
 if((decide ((((List.length r8.2.1):Nat):Int)≥(1:Int)))=true)then
 if((decide ((((List.length r8.2.1):Nat):Int)≤(16:Int)))=true)then
 (some ((((List.length r8.2.2):Nat):Int) == (0:Int)))
 else
 (some false)
 else
 (some false)
 else
 (some false)))
def qab:Nat→Int→List (Int×Int)→List Int→Option (Bool)
 | 0,_,_,_=>none
 | k+1,w0,w1,w2=>qfR k w0 w1 w2
def qzg:Nat→Inst:=mkI 124 ⟨[.g [.lf (.int .i64),.lf cE,.lf (.sl (.int .i64))]],[]⟩ [⟨[vB],[]⟩] fun k x=>qab k x.1 x.2.1 x.2.2
theorem qqy (k:Nat):qat (call cf k) [qn6 k,qzd k]:=
 ac (qm7 k) (ac (qBr k) a0)
def qzh (k:Nat):LInst:=mkL 0 [⟨[(1,.a (.ptr 0 0 0)),(3,vI)],[(0,some (.raw [[.lf (.int .i64),.lf cE,.lf (.sl (.int .i64))]] 3 44 true false false))],1⟩] [⟨none,⟨[(2,vB)],[(0,some (.raw [[.lf (.int .i64),.lf cE,.lf (.sl (.int .i64))]] 3 44 true false false))],1⟩⟩,⟨some 0,⟨[(1,.a (.ptr 0 0 0))],[(0,some (.raw [[.lf (.int .i64),.lf cE,.lf (.sl (.int .i64))]] 3 44 true false false))],1⟩⟩] (fun n x=>qS k n x.1 x.2.1 x.2.2.1 x.2.2.2) k
theorem qrZ (k:Nat):LIo 124 Tryz.f124 0 k (qzh k):=
 lpk [] (qqy k) l0 (fun _=>rfl) (by kernel_rfl) fun n x=>by kernel_rfl
def qzi (k:Nat):LInst:=mkL 2 [⟨[(1,.a (.ptr 0 0 0)),(4,vI)],[(0,some (.raw [[.lf (.int .i64),.lf cE,.lf (.sl (.int .i64))]] 3 44 true false false))],1⟩] [⟨none,⟨[(2,vB)],[(0,some (.raw [[.lf (.int .i64),.lf cE,.lf (.sl (.int .i64))]] 3 44 true false false))],1⟩⟩,⟨some 2,⟨[(1,.a (.ptr 0 0 0))],[(0,some (.raw [[.lf (.int .i64),.lf cE,.lf (.sl (.int .i64))]] 3 44 true false false))],1⟩⟩] (fun n x=>qN k n x.1 x.2.1 x.2.2.1 x.2.2.2) k
theorem qzj (k:Nat):LIo 124 Tryz.f124 0 k (qzi k):=
 lpk [] (qqy k) (lc (qrZ k) l0) (fun _=>rfl) (by kernel_rfl) fun n x=>by kernel_rfl
theorem qBs:∀k,qe (call cf k) (qzg k):=
 fnk 0 [0,2] Tryz.func124 (fun k=>(qqy k)) (fun k=>(lc (qrZ k) (lc (qzj k) l0))) ⟨rfl,rfl,⟨rfl,Nat.le_of_ble_eq_true rfl⟩,rfl⟩ (fun _=>rfl) (by kernel_rfl) fun k x=>by kernel_rfl

def qbz (k:Nat) (rec:List (Int×Int)→List (Int×Int)→Int→Option ((Bool) ⊕ (Unit))) (a:List (Int×Int)) (b:List (Int×Int)) (i:Int):Option ((Bool) ⊕ (Unit)):=
 if((decide (i<(((List.length a):Nat):Int)))=true)then
 if((0:Int)≤i)then
 Option.bind (a)[(Int.toNat i)]? fun x3=>
 if((0:Int)≤i)then
 Option.bind (b)[(Int.toNat i)]? fun x4=>
 if((x3.1 == x4.1)=true)then
 if((x3.2 == x4.2)=true)then
 rec a b (IntKind.wrap .i64 (i+(1:Int)))
 else
 (some (Sum.inl false))
 else
 (some (Sum.inl false))
 else
 none
 else
 none
 else
 (some (Sum.inr ()))
def qaB (k n:Nat):List (Int×Int)→List (Int×Int)→Int→Option ((Bool) ⊕ (Unit)):=Nat.rec (fun _ _ _=>none) (fun _ r=>qbz k r) n
def qgs (k:Nat) (a:List (Int×Int)) (b:List (Int×Int)):Option (Bool):=
 if(((((List.length a):Nat):Int) != (((List.length b):Nat):Int))=true)then
 (some false)
 else
 Option.bind (qaB k k a b (0:Int)) fun r9=>
 qc r9
 (fun r9=>
 (some r9))
 (fun r9=>
 (some true))
def qcS:Nat→List (Int×Int)→List (Int×Int)→Option (Bool)
 | 0,_,_=>none
 | k+1,a,b=>qgs k a b
def qzk:Nat→Inst:=mkI 188 ⟨[.a (.lf cE),.a (.lf cE)],[]⟩ [⟨[vB],[]⟩] fun k x=>qcS k x.1 x.2
def qzl (k:Nat):LInst:=mkL 0 [⟨[(0,.a (.lf cE)),(1,.a (.lf cE)),(5,vI)],[],0⟩] [⟨none,⟨[(4,vB)],[],0⟩⟩,⟨some 0,⟨[],[],0⟩⟩] (fun n x=>qaB k n x.1 x.2.1 x.2.2) k
theorem qzm (k:Nat):LIo 188 Tryz.f188 0 k (qzl k):=
 lpk [] a0 l0 (fun _=>rfl) (by kernel_rfl) fun n x=>by kernel_rfl
theorem quT:∀k,qe (call cf k) (qzk k):=
 fnk 0 [0] Tryz.func188 (fun k=>a0) (fun k=>(lc (qzm k) l0)) ⟨rfl,rfl,⟨rfl,Nat.le_of_ble_eq_true rfl⟩,rfl⟩ (fun _=>rfl) (by kernel_rfl) fun k x=>by kernel_rfl

def qbA (k:Nat) (rec:Int→Int→List (Int×Int)→List Int→Int→List (Int×Int)→List Int→Option ((Bool×Int×List (Int×Int)×List Int×Int×List (Int×Int)×List Int) ⊕ (Int×List (Int×Int)×List Int×Int×List (Int×Int)×List Int))) (i:Int) (a0:Int) (a1:List (Int×Int)) (a2:List Int) (b0:Int) (b1:List (Int×Int)) (b2:List Int):Option ((Bool×Int×List (Int×Int)×List Int×Int×List (Int×Int)×List Int) ⊕ (Int×List (Int×Int)×List Int×Int×List (Int×Int)×List Int)):=
 if((decide (i<(((List.length a2):Nat):Int)))=true)then
 if((0:Int)≤i)then
 Option.bind (a2)[(Int.toNat i)]? fun x3=>
 if((0:Int)≤i)then
 Option.bind (b2)[(Int.toNat i)]? fun x4=>
 if((x3 != x4)=true)then
 (some (Sum.inl (false,a0,a1,a2,b0,b1,b2)))
 else
 rec (IntKind.wrap .i64 (i+(1:Int))) a0 a1 a2 b0 b1 b2
 else
 none
 else
 none
 else
 (some (Sum.inr (a0,a1,a2,b0,b1,b2)))
def qaC (k n:Nat):Int→Int→List (Int×Int)→List Int→Int→List (Int×Int)→List Int→Option ((Bool×Int×List (Int×Int)×List Int×Int×List (Int×Int)×List Int) ⊕ (Int×List (Int×Int)×List Int×Int×List (Int×Int)×List Int)):=Nat.rec (fun _ _ _ _ _ _ _=>none) (fun _ r=>qbA k r) n
def qgt (k:Nat) (a0:Int) (a1:List (Int×Int)) (a2:List Int) (b0:Int) (b1:List (Int×Int)) (b2:List Int):Option (Bool):=
 if((a0 != b0)=false)then
 if(((((List.length a2):Nat):Int) != (((List.length b2):Nat):Int))=true)then
 (some false)
 else
 Option.bind (qaC k k (0:Int) a0 a1 a2 b0 b1 b2) fun r8=>
 qc r8
 (fun r8=>
 (some r8.1))
 (fun r8=>
 Option.bind (qcS k r8.2.1 r8.2.2.2.2.1) fun r9=>
 (some r9))
 else
 (some false)
def qz:Nat→Int→List (Int×Int)→List Int→Int→List (Int×Int)→List Int→Option (Bool)
 | 0,_,_,_,_,_,_=>none
 | k+1,a0,a1,a2,b0,b1,b2=>qgt k a0 a1 a2 b0 b1 b2
def qzn:Nat→Inst:=mkI 122 ⟨[.g [.lf (.int .i64),.lf cE,.lf (.sl (.int .i64))],.g [.lf (.int .i64),.lf cE,.lf (.sl (.int .i64))]],[]⟩ [⟨[vB],[]⟩] fun k x=>qz k x.1 x.2.1 x.2.2.1 x.2.2.2.1 x.2.2.2.2.1 x.2.2.2.2.2
theorem quU (k:Nat):qat (call cf k) [qzk k]:=
 ac (quT k) a0
def qzo (k:Nat):LInst:=mkL 0 [⟨[(2,.a (.ptr 0 0 0)),(3,.a (.ptr 1 0 0)),(5,vI)],[(0,some (.raw [[.lf (.int .i64),.lf cE,.lf (.sl (.int .i64))]] 3 44 true false false)),(1,some (.raw [[.lf (.int .i64),.lf cE,.lf (.sl (.int .i64))]] 3 44 true false false))],2⟩] [⟨none,⟨[(4,vB)],[(0,some (.raw [[.lf (.int .i64),.lf cE,.lf (.sl (.int .i64))]] 3 44 true false false)),(1,some (.raw [[.lf (.int .i64),.lf cE,.lf (.sl (.int .i64))]] 3 44 true false false))],2⟩⟩,⟨some 0,⟨[(2,.a (.ptr 0 0 0)),(3,.a (.ptr 1 0 0))],[(0,some (.raw [[.lf (.int .i64),.lf cE,.lf (.sl (.int .i64))]] 3 44 true false false)),(1,some (.raw [[.lf (.int .i64),.lf cE,.lf (.sl (.int .i64))]] 3 44 true false false))],2⟩⟩] (fun n x=>qaC k n x.1 x.2.1 x.2.2.1 x.2.2.2.1 x.2.2.2.2.1 x.2.2.2.2.2.1 x.2.2.2.2.2.2) k
theorem qzp (k:Nat):LIo 122 Tryz.f122 0 k (qzo k):=
 lpk [] (quU k) l0 (fun _=>rfl) (by kernel_rfl) fun n x=>by kernel_rfl
theorem qBt:∀k,qe (call cf k) (qzn k):=
 fnk 0 [0] Tryz.func122 (fun k=>(quU k)) (fun k=>(lc (qzp k) l0)) ⟨rfl,rfl,⟨rfl,Nat.le_of_ble_eq_true rfl⟩,rfl⟩ (fun _=>rfl) (by kernel_rfl) fun k x=>by kernel_rfl

def qcw (k:Nat) (rec:Int→Int→Bool→Nat→Bool→List Int→List Int→Option (Bool×Nat×Bool×List Int×List Int)) (k1:Int) (i:Int) (x0:Bool) (x1:Nat) (p0:Bool) (p1:List Int) (m:List Int):Option (Bool×Nat×Bool×List Int×List Int):=
 if((decide (i<k1))=true)then
 Option.bind (qZ k (10:Int)) fun r14=>
 Option.bind (qaa k p0 p1 r14.1 r14.2) fun r15=>
 rec k1 (IntKind.wrap .i64 (i+(1:Int))) x0 x1 r15.1 r15.2 m
 else
 (some (x0,x1,p0,p1,m))
def qbB (k n:Nat):Int→Int→Bool→Nat→Bool→List Int→List Int→Option (Bool×Nat×Bool×List Int×List Int):=Nat.rec (fun _ _ _ _ _ _ _=>none) (fun _ r=>qcw k r) n
def qkp (k:Nat) (k1:Int):Option (Bool×List Int):=
 Option.bind (qZ k (1:Int)) fun r13=>
 Option.bind (qbB k k k1 (0:Int) false 0 r13.1 r13.2 []) fun r14=>
 (some (r14.2.2.1,r14.2.2.2.1))
def qdq:Nat→Int→Option (Bool×List Int)
 | 0,_=>none
 | k+1,k1=>qkp k k1
def qCy:Nat→Inst:=mkI 217 ⟨[vI],[]⟩ [⟨[.g [.lf .bool,.lf (.sl (.int .i64))]],[]⟩] fun k x=>qdq k x
theorem quV (k:Nat):qat (call cf k) [qqt k,qqu k]:=
 ac (qm6 k) (ac (qlC k) a0)
def qzq (k:Nat):LInst:=mkL 0 [⟨[(0,vI),(2,.a (.ptr 0 0 0)),(3,.a (.ptr 1 0 0)),(4,vI)],[(0,some (.raw [[.lf .bool,.smz 2]] 2 154 false false false)),(1,some (.raw [[.lf .bool,.lf (.sl (.int .i64))]] 2 154 true false false)),(2,some (.arr (.int .i64) 1 3 false))],3⟩] [⟨some 0,⟨[(2,.a (.ptr 0 0 0)),(3,.a (.ptr 1 0 0))],[(0,some (.raw [[.lf .bool,.smz 2]] 2 154 false false false)),(1,some (.raw [[.lf .bool,.lf (.sl (.int .i64))]] 2 154 true false false)),(2,some (.arr (.int .i64) 1 3 false))],3⟩⟩] (fun n x=>qbB k n x.1 x.2.1 x.2.2.1 x.2.2.2.1 x.2.2.2.2.1 x.2.2.2.2.2.1 x.2.2.2.2.2.2) k
theorem qzr (k:Nat):LIo 217 Tryz.f217 0 k (qzq k):=
 lpk [] (quV k) l0 (fun _=>rfl) (by kernel_rfl) fun n x=>by kernel_rfl
theorem qBu:∀k,qe (call cf k) (qCy k):=
 fnk 0 [0] Tryz.func217 (fun k=>(quV k)) (fun k=>(lc (qzr k) l0)) ⟨rfl,rfl,⟨rfl,Nat.le_of_ble_eq_true rfl⟩,rfl⟩ (fun _=>rfl) (by kernel_rfl) fun k x=>by kernel_rfl

def qiI (k:Nat) (n0:Int) (n1:Int):Option (Bool×List Int×Bool×List Int):=
 Option.bind (qdI k n0) fun r12=>
 if((decide (n1<(0:Int)))=true)then
 Option.bind (qdq k (IntKind.wrap .i64 ((0:Int)-n1))) fun r13=>
 Option.bind (qc6 k r12.1 r12.2 r13.1 r13.2) fun r14=>
 (some (r14.1,r14.2.1,r14.2.2.1,r14.2.2.2))
 else
 Option.bind (qdq k n1) fun r13=>
 Option.bind (qaa k r12.1 r12.2 r13.1 r13.2) fun r14=>
 Option.bind (qZ k (1:Int)) fun r15=>
 (some (r14.1,r14.2,r15.1,r15.2))
def qcn:Nat→Int→Int→Option (Bool×List Int×Bool×List Int)
 | 0,_,_=>none
 | k+1,n0,n1=>qiI k n0 n1
def qzs:Nat→Inst:=mkI 180 ⟨[.g [.lf (.int .i64),.lf (.int .i64)]],[]⟩ [⟨[.g [.lf .bool,.lf (.sl (.int .i64)),.lf .bool,.lf (.sl (.int .i64))]],[]⟩] fun k x=>qcn k x.1 x.2
theorem qBv:∀k,qe (call cf k) (qzs k):=
 fnk 0 [] Tryz.func180 (fun k=>(ac (qBj k) (ac (qBu k) (ac (qBp k) (ac (qlC k) (ac (qm6 k) a0)))))) (fun k=>l0) ⟨rfl,rfl,⟨rfl,Nat.le_of_ble_eq_true rfl⟩,rfl⟩ (fun _=>rfl) (by kernel_rfl) fun k x=>by kernel_rfl

def qkV (k:Nat) (a0:Bool) (a1:List Int) (b0:Bool) (b1:List Int):Option (Bool×List Int):=
 Option.bind (qb1 k b0 b1) fun r16=>
 Option.bind (qcQ k a0 a1 r16.1 r16.2) fun r17=>
 (some (r17.1,r17.2))
def qeD:Nat→Bool→List Int→Bool→List Int→Option (Bool×List Int)
 | 0,_,_,_,_=>none
 | k+1,a0,a1,b0,b1=>qkV k a0 a1 b0 b1
def qCz:Nat→Inst:=mkI 236 ⟨[.g [.lf .bool,.lf (.sl (.int .i64))],.g [.lf .bool,.lf (.sl (.int .i64))]],[]⟩ [⟨[.g [.lf .bool,.lf (.sl (.int .i64))]],[]⟩] fun k x=>qeD k x.1 x.2.1 x.2.2.1 x.2.2.2
theorem qBw:∀k,qe (call cf k) (qCz k):=
 fnk 0 [] Tryz.func236 (fun k=>(ac (quM k) (ac (qBl k) a0))) (fun k=>l0) ⟨rfl,rfl,⟨rfl,Nat.le_of_ble_eq_true rfl⟩,rfl⟩ (fun _=>rfl) (by kernel_rfl) fun k x=>by kernel_rfl

def qkW (k:Nat) (a0:Bool) (a1:List Int) (b0:Bool) (b1:List Int):Option (Int):=
 Option.bind (qeD k a0 a1 b0 b1) fun r16=>
 Option.bind (qdL k r16.1 r16.2) fun r17=>
 (some r17)
def qeE:Nat→Bool→List Int→Bool→List Int→Option (Int)
 | 0,_,_,_,_=>none
 | k+1,a0,a1,b0,b1=>qkW k a0 a1 b0 b1
def qCA:Nat→Inst:=mkI 225 ⟨[.g [.lf .bool,.lf (.sl (.int .i64))],.g [.lf .bool,.lf (.sl (.int .i64))]],[]⟩ [⟨[vI],[]⟩] fun k x=>qeE k x.1 x.2.1 x.2.2.1 x.2.2.2
theorem qBx:∀k,qe (call cf k) (qCA k):=
 fnk 0 [] Tryz.func225 (fun k=>(ac (qBw k) (ac (quL k) a0))) (fun k=>l0) ⟨rfl,rfl,⟨rfl,Nat.le_of_ble_eq_true rfl⟩,rfl⟩ (fun _=>rfl) (by kernel_rfl) fun k x=>by kernel_rfl

def qkX (k:Nat) (a0:Bool) (a1:List Int) (a2:Bool) (a3:List Int) (b0:Bool) (b1:List Int) (b2:Bool) (b3:List Int):Option (Int):=
 Option.bind (qaa k a0 a1 b2 b3) fun r14=>
 Option.bind (qaa k b0 b1 a2 a3) fun r15=>
 Option.bind (qeE k r14.1 r14.2 r15.1 r15.2) fun r16=>
 (some r16)
def qdM:Nat→Bool→List Int→Bool→List Int→Bool→List Int→Bool→List Int→Option (Int)
 | 0,_,_,_,_,_,_,_,_=>none
 | k+1,a0,a1,a2,a3,b0,b1,b2,b3=>qkX k a0 a1 a2 a3 b0 b1 b2 b3
def qzt:Nat→Inst:=mkI 190 ⟨[.g [.lf .bool,.lf (.sl (.int .i64)),.lf .bool,.lf (.sl (.int .i64))],.g [.lf .bool,.lf (.sl (.int .i64)),.lf .bool,.lf (.sl (.int .i64))]],[]⟩ [⟨[vI],[]⟩] fun k x=>qdM k x.1 x.2.1 x.2.2.1 x.2.2.2.1 x.2.2.2.2.1 x.2.2.2.2.2.1 x.2.2.2.2.2.2.1 x.2.2.2.2.2.2.2
theorem qBy:∀k,qe (call cf k) (qzt k):=
 fnk 0 [] Tryz.func190 (fun k=>(ac (qlC k) (ac (qBx k) a0))) (fun k=>l0) ⟨rfl,rfl,⟨rfl,Nat.le_of_ble_eq_true rfl⟩,rfl⟩ (fun _=>rfl) (by kernel_rfl) fun k x=>by kernel_rfl

def qa7 (k:Nat) (rec:Int→ByteArray→Int→List (Int×Int)→List (Int×Int)→Option ((Bool×ByteArray×Int×List (Int×Int)×List (Int×Int)) ⊕ (ByteArray×Int×List (Int×Int)×List (Int×Int)))) (i:Int) (m0:ByteArray) (m1:Int) (m2:List (Int×Int)) (m3:List (Int×Int)):Option ((Bool×ByteArray×Int×List (Int×Int)×List (Int×Int)) ⊕ (ByteArray×Int×List (Int×Int)×List (Int×Int))):=
 if((decide (i<(((List.length m2):Nat):Int)))=true)then
 if((0:Int)≤i)then
 Option.bind (m2)[(Int.toNat i)]? fun x3=>
 Option.bind (qaJ k x3.1 x3.2) fun r10=>
 if((!r10)=true)then
 (some (Sum.inl (false,m0,m1,m2,m3)))
 else
 rec (IntKind.wrap .i64 (i+(1:Int))) m0 m1 m2 m3
 else
 none
 else
 (some (Sum.inr (m0,m1,m2,m3)))
def qU (k n:Nat):Int→ByteArray→Int→List (Int×Int)→List (Int×Int)→Option ((Bool×ByteArray×Int×List (Int×Int)×List (Int×Int)) ⊕ (ByteArray×Int×List (Int×Int)×List (Int×Int))):=Nat.rec (fun _ _ _ _ _=>none) (fun _ r=>qa7 k r) n
def qa8 (k:Nat) (rec:Int→ByteArray→Int→List (Int×Int)→List (Int×Int)→Option ((Bool×ByteArray×Int×List (Int×Int)×List (Int×Int)) ⊕ (ByteArray×Int×List (Int×Int)×List (Int×Int)))) (i:Int) (m0:ByteArray) (m1:Int) (m2:List (Int×Int)) (m3:List (Int×Int)):Option ((Bool×ByteArray×Int×List (Int×Int)×List (Int×Int)) ⊕ (ByteArray×Int×List (Int×Int)×List (Int×Int))):=
 if((decide (i<(((List.length m3):Nat):Int)))=true)then
 if((0:Int)≤i)then
 Option.bind (m3)[(Int.toNat i)]? fun x3=>
 Option.bind (qaJ k x3.1 x3.2) fun r11=>
 if((!r11)=true)then
 (some (Sum.inl (false,m0,m1,m2,m3)))
 else
 if((m1 == (100:Int))=true)then
 if((decide (i>(0:Int)))=true)then
 if((0:Int)≤(IntKind.wrap .i64 (i-(1:Int))))then
 Option.bind (m3)[(Int.toNat (IntKind.wrap .i64 (i-(1:Int))))]? fun x4=>
 Option.bind (qcn k x4.1 x4.2) fun r12=>
 if((0:Int)≤i)then
 Option.bind (m3)[(Int.toNat i)]? fun x5=>
 Option.bind (qcn k x5.1 x5.2) fun r13=>
 Option.bind (qdM k r12.1 r12.2.1 r12.2.2.1 r12.2.2.2 r13.1 r13.2.1 r13.2.2.1 r13.2.2.2) fun r14=>
 if((decide (r14≥(0:Int)))=true)then
 (some (Sum.inl (false,m0,m1,m2,m3)))
 else
 rec (IntKind.wrap .i64 (i+(1:Int))) m0 m1 m2 m3
 else
 none
 else
 none
 else
 rec (IntKind.wrap .i64 (i+(1:Int))) m0 m1 m2 m3
 else
 rec (IntKind.wrap .i64 (i+(1:Int))) m0 m1 m2 m3
 else
 none
 else
 (some (Sum.inr (m0,m1,m2,m3)))
def qV (k n:Nat):Int→ByteArray→Int→List (Int×Int)→List (Int×Int)→Option ((Bool×ByteArray×Int×List (Int×Int)×List (Int×Int)) ⊕ (ByteArray×Int×List (Int×Int)×List (Int×Int))):=Nat.rec (fun _ _ _ _ _=>none) (fun _ r=>qa8 k r) n
def qfS (k:Nat) (m0:ByteArray) (m1:Int) (m2:List (Int×Int)) (m3:List (Int×Int)):Option (Bool):=
 Option.bind (qcR k m0) fun r9=>
 if((!r9)=true)then
 (some false)
 else
 Option.bind (qU k k (0:Int) m0 m1 m2 m3) fun r10=>
 qc r10
 (fun r10=>
 (some r10.1))
 (fun r10=>
 Option.bind (qV k k (0:Int) r10.1 r10.2.1 r10.2.2.1 r10.2.2.2) fun r11=>
 qc r11
 (fun r11=>
 (some r11.1))
 (fun r11=>
 if((r11.2.1 == (115:Int))=true)then
 if(((((List.length r11.2.2.1):Nat):Int) == (2:Int))=true)then
 (some ((((List.length r11.2.2.2):Nat):Int) == (1:Int)))
 else
 (some false)
 else
 if((r11.2.1 == (100:Int))=true)then
 if((decide ((((List.length r11.2.2.1):Nat):Int)≥(1:Int)))=true)then
 if((decide ((((List.length r11.2.2.1):Nat):Int)≤(4:Int)))=true)then
 (some ((IntKind.wrap .i64 ((((List.length r11.2.2.2):Nat):Int)+(1:Int))) == (((List.length r11.2.2.1):Nat):Int)))
 else
 (some false)
 else
 (some false)
 else
 (some false)))
def qh:Nat→ByteArray→Int→List (Int×Int)→List (Int×Int)→Option (Bool)
 | 0,_,_,_,_=>none
 | k+1,m0,m1,m2,m3=>qfS k m0 m1 m2 m3
def qzu:Nat→Inst:=mkI 125 ⟨[.g [.lf .str,.lf (.int .u8),.lf cE,.lf cE]],[]⟩ [⟨[vB],[]⟩] fun k x=>qh k x.1 x.2.1 x.2.2.1 x.2.2.2
theorem qqz (k:Nat):qat (call cf k) [qtv k,qn6 k,qzs k,qzt k]:=
 ac (quR k) (ac (qm7 k) (ac (qBv k) (ac (qBy k) a0)))
def qzv (k:Nat):LInst:=mkL 0 [⟨[(1,.a (.ptr 0 0 0)),(3,vI)],[(0,some (.raw [[.lf .str,.lf (.int .u8),.lf cE,.lf cE]] 4 46 true false false))],1⟩] [⟨none,⟨[(2,vB)],[(0,some (.raw [[.lf .str,.lf (.int .u8),.lf cE,.lf cE]] 4 46 true false false))],1⟩⟩,⟨some 0,⟨[(1,.a (.ptr 0 0 0))],[(0,some (.raw [[.lf .str,.lf (.int .u8),.lf cE,.lf cE]] 4 46 true false false))],1⟩⟩] (fun n x=>qU k n x.1 x.2.1 x.2.2.1 x.2.2.2.1 x.2.2.2.2) k
theorem qr0 (k:Nat):LIo 125 Tryz.f125 0 k (qzv k):=
 lpk [] (qqz k) l0 (fun _=>rfl) (by kernel_rfl) fun n x=>by kernel_rfl
def qzw (k:Nat):LInst:=mkL 2 [⟨[(1,.a (.ptr 0 0 0)),(4,vI)],[(0,some (.raw [[.lf .str,.lf (.int .u8),.lf cE,.lf cE]] 4 46 true false false))],1⟩] [⟨none,⟨[(2,vB)],[(0,some (.raw [[.lf .str,.lf (.int .u8),.lf cE,.lf cE]] 4 46 true false false))],1⟩⟩,⟨some 2,⟨[(1,.a (.ptr 0 0 0))],[(0,some (.raw [[.lf .str,.lf (.int .u8),.lf cE,.lf cE]] 4 46 true false false))],1⟩⟩] (fun n x=>qV k n x.1 x.2.1 x.2.2.1 x.2.2.2.1 x.2.2.2.2) k
theorem qzx (k:Nat):LIo 125 Tryz.f125 0 k (qzw k):=
 lpk [] (qqz k) (lc (qr0 k) l0) (fun _=>rfl) (by kernel_rfl) fun n x=>by kernel_rfl
theorem quW:∀k,qe (call cf k) (qzu k):=
 fnk 0 [0,2] Tryz.func125 (fun k=>(qqz k)) (fun k=>(lc (qr0 k) (lc (qzx k) l0))) ⟨rfl,rfl,⟨rfl,Nat.le_of_ble_eq_true rfl⟩,rfl⟩ (fun _=>rfl) (by kernel_rfl) fun k x=>by kernel_rfl

def qgu (k:Nat) (a0:ByteArray) (a1:Int) (a2:List (Int×Int)) (a3:List (Int×Int)) (b0:ByteArray) (b1:Int) (b2:List (Int×Int)) (b3:List (Int×Int)):Option (Bool):=
 if(((Array.toList (ByteArray.data a0)) == (Array.toList (ByteArray.data b0)))=true)then
 if((a1 == b1)=true)then
 Option.bind (qcS k a2 b2) fun r9=>
 if(r9=true)then
 Option.bind (qcS k a3 b3) fun r10=>
 (some r10)
 else
 (some false)
 else
 (some false)
 else
 (some false)
def qj:Nat→ByteArray→Int→List (Int×Int)→List (Int×Int)→ByteArray→Int→List (Int×Int)→List (Int×Int)→Option (Bool)
 | 0,_,_,_,_,_,_,_,_=>none
 | k+1,a0,a1,a2,a3,b0,b1,b2,b3=>qgu k a0 a1 a2 a3 b0 b1 b2 b3
def qzy:Nat→Inst:=mkI 123 ⟨[.g [.lf .str,.lf (.int .u8),.lf cE,.lf cE],.g [.lf .str,.lf (.int .u8),.lf cE,.lf cE]],[]⟩ [⟨[vB],[]⟩] fun k x=>qj k x.1 x.2.1 x.2.2.1 x.2.2.2.1 x.2.2.2.2.1 x.2.2.2.2.2.1 x.2.2.2.2.2.2.1 x.2.2.2.2.2.2.2
theorem qBz:∀k,qe (call cf k) (qzy k):=
 fnk 0 [] Tryz.func123 (fun k=>(ac (quT k) a0)) (fun k=>l0) ⟨rfl,rfl,⟨rfl,Nat.le_of_ble_eq_true rfl⟩,rfl⟩ (fun _=>rfl) (by kernel_rfl) fun k x=>by kernel_rfl


end
noncomputable section

def qa9 (k:Nat) (rec:Int→Bool→Bool→Bool→Bool→Int→List ByteArray→List DvT→Int→Int→Int→Int→ByteArray→List Int→Int→Int→Int→Int→List (Int×Int)→List Int→ByteArray→Int→List (Int×Int)→List (Int×Int)→Option ((Bool×List ByteArray×List DvT×Int×Int×Int×Int×ByteArray×List Int×Int×Int×Int×Int×List (Int×Int)×List Int×ByteArray×Int×List (Int×Int)×List (Int×Int)) ⊕ (Bool×Bool×Bool×Bool×List ByteArray×List DvT×Int×Int×Int×Int×ByteArray×List Int×Int×Int×Int×Int×List (Int×Int)×List Int×ByteArray×Int×List (Int×Int)×List (Int×Int)))) (nodes:Int) (ref:Bool) (value:Bool) (source:Bool) (modelled:Bool) (i:Int) (f0:List ByteArray) (f1:List DvT) (f2:Int) (f3:Int) (f4:Int) (d0:Int) (d1:ByteArray) (d2:List Int) (d3:Int) (d4:Int) (d5:Int) (d6:Int) (d7:List (Int×Int)) (d8:List Int) (d9:ByteArray) (d10:Int) (d11:List (Int×Int)) (d12:List (Int×Int)):Option ((Bool×List ByteArray×List DvT×Int×Int×Int×Int×ByteArray×List Int×Int×Int×Int×Int×List (Int×Int)×List Int×ByteArray×Int×List (Int×Int)×List (Int×Int)) ⊕ (Bool×Bool×Bool×Bool×List ByteArray×List DvT×Int×Int×Int×Int×ByteArray×List Int×Int×Int×Int×Int×List (Int×Int)×List Int×ByteArray×Int×List (Int×Int)×List (Int×Int))):=
 if((decide (i<nodes))=true)then
 if((0:Int)≤i)then
 Option.bind (d2)[(Int.toNat i)]? fun x2=>
 if((decide (x2<(0:Int)))=false)then
 if((0:Int)≤i)then
 Option.bind (d2)[(Int.toNat i)]? fun x3=>
 if((decide (x3≥(((List.length f0):Nat):Int)))=true)then
 (some (Sum.inl (false,f0,f1,f2,f3,f4,d0,d1,d2,d3,d4,d5,d6,d7,d8,d9,d10,d11,d12)))
 else
 rec nodes ref value source modelled (IntKind.wrap .i64 (i+(1:Int))) f0 f1 f2 f3 f4 d0 d1 d2 d3 d4 d5 d6 d7 d8 d9 d10 d11 d12
 else
 none
 else
 (some (Sum.inl (false,f0,f1,f2,f3,f4,d0,d1,d2,d3,d4,d5,d6,d7,d8,d9,d10,d11,d12)))
 else
 none
 else
 (some (Sum.inr (ref,value,source,modelled,f0,f1,f2,f3,f4,d0,d1,d2,d3,d4,d5,d6,d7,d8,d9,d10,d11,d12)))
def qr (k n:Nat):Int→Bool→Bool→Bool→Bool→Int→List ByteArray→List DvT→Int→Int→Int→Int→ByteArray→List Int→Int→Int→Int→Int→List (Int×Int)→List Int→ByteArray→Int→List (Int×Int)→List (Int×Int)→Option ((Bool×List ByteArray×List DvT×Int×Int×Int×Int×ByteArray×List Int×Int×Int×Int×Int×List (Int×Int)×List Int×ByteArray×Int×List (Int×Int)×List (Int×Int)) ⊕ (Bool×Bool×Bool×Bool×List ByteArray×List DvT×Int×Int×Int×Int×ByteArray×List Int×Int×Int×Int×Int×List (Int×Int)×List Int×ByteArray×Int×List (Int×Int)×List (Int×Int))):=Nat.rec (fun _ _ _ _ _ _ _ _ _ _ _ _ _ _ _ _ _ _ _ _ _ _ _ _=>none) (fun _ r=>qa9 k r) n
def qg (k:Nat) (r5:Bool×Bool×Bool×Bool×List ByteArray×List DvT×Int×Int×Int×Int×ByteArray×List Int×Int×Int×Int×Int×List (Int×Int)×List Int×ByteArray×Int×List (Int×Int)×List (Int×Int)):Option (Bool):=
 if(r5.1=true)then
 if((decide (r5.2.2.2.2.2.2.2.2.2.2.2.2.1<(0:Int)))=false)then
 if((decide (r5.2.2.2.2.2.2.2.2.2.2.2.2.1≥(((List.length r5.2.2.2.2.2.1):Nat):Int)))=false)then
 if((0:Int)≤r5.2.2.2.2.2.2.2.2.2.2.2.2.1)then
 Option.bind (r5.2.2.2.2.2.1)[(Int.toNat r5.2.2.2.2.2.2.2.2.2.2.2.2.1)]? fun x2=>
 if((x2.1 != (118:Int))=true)then
 (some false)
 else
 if(r5.2.1=true)then
 Option.bind (qaJ k r5.2.2.2.2.2.2.2.2.2.2.2.2.2.1 r5.2.2.2.2.2.2.2.2.2.2.2.2.2.2.1) fun r6=>
 if((!r6)=false)then
 if((!r5.2.1)=true)then
 if((r5.2.2.2.2.2.2.2.2.2.2.2.2.2.1 == (0:Int))=true)then
 if((r5.2.2.2.2.2.2.2.2.2.2.2.2.2.2.1 == (0:Int))=true)then
 if(r5.2.2.1=true)then
 Option.bind (qab k r5.2.2.2.2.2.2.2.2.2.2.2.2.2.2.2.1 r5.2.2.2.2.2.2.2.2.2.2.2.2.2.2.2.2.1 r5.2.2.2.2.2.2.2.2.2.2.2.2.2.2.2.2.2.1) fun r7=>
 if((!r7)=false)then
 if((!r5.2.2.1)=true)then
 Option.bind (qz k r5.2.2.2.2.2.2.2.2.2.2.2.2.2.2.2.1 r5.2.2.2.2.2.2.2.2.2.2.2.2.2.2.2.2.1 r5.2.2.2.2.2.2.2.2.2.2.2.2.2.2.2.2.2.1 (0:Int) [] []) fun r8=>
 if((!r8)=true)then
 (some false)
 else
 if(r5.2.2.2.1=true)then
 Option.bind (qh k r5.2.2.2.2.2.2.2.2.2.2.2.2.2.2.2.2.2.2.1 r5.2.2.2.2.2.2.2.2.2.2.2.2.2.2.2.2.2.2.2.1 r5.2.2.2.2.2.2.2.2.2.2.2.2.2.2.2.2.2.2.2.2.1 r5.2.2.2.2.2.2.2.2.2.2.2.2.2.2.2.2.2.2.2.2.2) fun r9=>
 if(r9=true)then
 (some (r5.2.2.2.2.2.2.2.2.2.2.2.2.2.2.2.2.2.2.2.1 == r5.2.2.2.2.2.2.2.2.2.1))
 else
 (some false)
 else
 Option.bind (qj k r5.2.2.2.2.2.2.2.2.2.2.2.2.2.2.2.2.2.2.1 r5.2.2.2.2.2.2.2.2.2.2.2.2.2.2.2.2.2.2.2.1 r5.2.2.2.2.2.2.2.2.2.2.2.2.2.2.2.2.2.2.2.2.1 r5.2.2.2.2.2.2.2.2.2.2.2.2.2.2.2.2.2.2.2.2.2 (ByteArray.mk (List.toArray [])) (0:Int) [] []) fun r9=>
 (some r9)
 else
 if(r5.2.2.2.1=true)then
 Option.bind (qh k r5.2.2.2.2.2.2.2.2.2.2.2.2.2.2.2.2.2.2.1 r5.2.2.2.2.2.2.2.2.2.2.2.2.2.2.2.2.2.2.2.1 r5.2.2.2.2.2.2.2.2.2.2.2.2.2.2.2.2.2.2.2.2.1 r5.2.2.2.2.2.2.2.2.2.2.2.2.2.2.2.2.2.2.2.2.2) fun r8=>
 if(r8=true)then
 (some (r5.2.2.2.2.2.2.2.2.2.2.2.2.2.2.2.2.2.2.2.1 == r5.2.2.2.2.2.2.2.2.2.1))
 else
 (some false)
 else
 Option.bind (qj k r5.2.2.2.2.2.2.2.2.2.2.2.2.2.2.2.2.2.2.1 r5.2.2.2.2.2.2.2.2.2.2.2.2.2.2.2.2.2.2.2.1 r5.2.2.2.2.2.2.2.2.2.2.2.2.2.2.2.2.2.2.2.2.1 r5.2.2.2.2.2.2.2.2.2.2.2.2.2.2.2.2.2.2.2.2.2 (ByteArray.mk (List.toArray [])) (0:Int) [] []) fun r8=>
 (some r8)
 else
 (some false)
 else
 if((!r5.2.2.1)=true)then
 Option.bind (qz k r5.2.2.2.2.2.2.2.2.2.2.2.2.2.2.2.1 r5.2.2.2.2.2.2.2.2.2.2.2.2.2.2.2.2.1 r5.2.2.2.2.2.2.2.2.2.2.2.2.2.2.2.2.2.1 (0:Int) [] []) fun r7=>
 if((!r7)=true)then
 (some false)
 else
 if(r5.2.2.2.1=true)then
 Option.bind (qh k r5.2.2.2.2.2.2.2.2.2.2.2.2.2.2.2.2.2.2.1 r5.2.2.2.2.2.2.2.2.2.2.2.2.2.2.2.2.2.2.2.1 r5.2.2.2.2.2.2.2.2.2.2.2.2.2.2.2.2.2.2.2.2.1 r5.2.2.2.2.2.2.2.2.2.2.2.2.2.2.2.2.2.2.2.2.2) fun r8=>
 if(r8=true)then
 (some (r5.2.2.2.2.2.2.2.2.2.2.2.2.2.2.2.2.2.2.2.1 == r5.2.2.2.2.2.2.2.2.2.1))
 else
 (some false)
 else
 Option.bind (qj k r5.2.2.2.2.2.2.2.2.2.2.2.2.2.2.2.2.2.2.1 r5.2.2.2.2.2.2.2.2.2.2.2.2.2.2.2.2.2.2.2.1 r5.2.2.2.2.2.2.2.2.2.2.2.2.2.2.2.2.2.2.2.2.1 r5.2.2.2.2.2.2.2.2.2.2.2.2.2.2.2.2.2.2.2.2.2 (ByteArray.mk (List.toArray [])) (0:Int) [] []) fun r8=>
 (some r8)
 else
 if(r5.2.2.2.1=true)then
 Option.bind (qh k r5.2.2.2.2.2.2.2.2.2.2.2.2.2.2.2.2.2.2.1 r5.2.2.2.2.2.2.2.2.2.2.2.2.2.2.2.2.2.2.2.1 r5.2.2.2.2.2.2.2.2.2.2.2.2.2.2.2.2.2.2.2.2.1 r5.2.2.2.2.2.2.2.2.2.2.2.2.2.2.2.2.2.2.2.2.2) fun r7=>
 if(r7=true)then
 (some (r5.2.2.2.2.2.2.2.2.2.2.2.2.2.2.2.2.2.2.2.1 == r5.2.2.2.2.2.2.2.2.2.1))
 else
 (some false)
 else
 Option.bind (qj k r5.2.2.2.2.2.2.2.2.2.2.2.2.2.2.2.2.2.2.1 r5.2.2.2.2.2.2.2.2.2.2.2.2.2.2.2.2.2.2.2.1 r5.2.2.2.2.2.2.2.2.2.2.2.2.2.2.2.2.2.2.2.2.1 r5.2.2.2.2.2.2.2.2.2.2.2.2.2.2.2.2.2.2.2.2.2 (ByteArray.mk (List.toArray [])) (0:Int) [] []) fun r7=>
 (some r7)
 else
 (some false)
 else
 (some false)
 else
 if(r5.2.2.1=true)then
 Option.bind (qab k r5.2.2.2.2.2.2.2.2.2.2.2.2.2.2.2.1 r5.2.2.2.2.2.2.2.2.2.2.2.2.2.2.2.2.1 r5.2.2.2.2.2.2.2.2.2.2.2.2.2.2.2.2.2.1) fun r7=>
 if((!r7)=false)then
 if((!r5.2.2.1)=true)then
 Option.bind (qz k r5.2.2.2.2.2.2.2.2.2.2.2.2.2.2.2.1 r5.2.2.2.2.2.2.2.2.2.2.2.2.2.2.2.2.1 r5.2.2.2.2.2.2.2.2.2.2.2.2.2.2.2.2.2.1 (0:Int) [] []) fun r8=>
 if((!r8)=true)then
 (some false)
 else
 if(r5.2.2.2.1=true)then
 Option.bind (qh k r5.2.2.2.2.2.2.2.2.2.2.2.2.2.2.2.2.2.2.1 r5.2.2.2.2.2.2.2.2.2.2.2.2.2.2.2.2.2.2.2.1 r5.2.2.2.2.2.2.2.2.2.2.2.2.2.2.2.2.2.2.2.2.1 r5.2.2.2.2.2.2.2.2.2.2.2.2.2.2.2.2.2.2.2.2.2) fun r9=>
 if(r9=true)then
 (some (r5.2.2.2.2.2.2.2.2.2.2.2.2.2.2.2.2.2.2.2.1 == r5.2.2.2.2.2.2.2.2.2.1))
 else
 (some false)
 else
 Option.bind (qj k r5.2.2.2.2.2.2.2.2.2.2.2.2.2.2.2.2.2.2.1 r5.2.2.2.2.2.2.2.2.2.2.2.2.2.2.2.2.2.2.2.1 r5.2.2.2.2.2.2.2.2.2.2.2.2.2.2.2.2.2.2.2.2.1 r5.2.2.2.2.2.2.2.2.2.2.2.2.2.2.2.2.2.2.2.2.2 (ByteArray.mk (List.toArray [])) (0:Int) [] []) fun r9=>
 (some r9)
 else
 if(r5.2.2.2.1=true)then
 Option.bind (qh k r5.2.2.2.2.2.2.2.2.2.2.2.2.2.2.2.2.2.2.1 r5.2.2.2.2.2.2.2.2.2.2.2.2.2.2.2.2.2.2.2.1 r5.2.2.2.2.2.2.2.2.2.2.2.2.2.2.2.2.2.2.2.2.1 r5.2.2.2.2.2.2.2.2.2.2.2.2.2.2.2.2.2.2.2.2.2) fun r8=>
 if(r8=true)then
 (some (r5.2.2.2.2.2.2.2.2.2.2.2.2.2.2.2.2.2.2.2.1 == r5.2.2.2.2.2.2.2.2.2.1))
 else
 (some false)
 else
 Option.bind (qj k r5.2.2.2.2.2.2.2.2.2.2.2.2.2.2.2.2.2.2.1 r5.2.2.2.2.2.2.2.2.2.2.2.2.2.2.2.2.2.2.2.1 r5.2.2.2.2.2.2.2.2.2.2.2.2.2.2.2.2.2.2.2.2.1 r5.2.2.2.2.2.2.2.2.2.2.2.2.2.2.2.2.2.2.2.2.2 (ByteArray.mk (List.toArray [])) (0:Int) [] []) fun r8=>
 (some r8)
 else
 (some false)
 else
 if((!r5.2.2.1)=true)then
 Option.bind (qz k r5.2.2.2.2.2.2.2.2.2.2.2.2.2.2.2.1 r5.2.2.2.2.2.2.2.2.2.2.2.2.2.2.2.2.1 r5.2.2.2.2.2.2.2.2.2.2.2.2.2.2.2.2.2.1 (0:Int) [] []) fun r7=>
 if((!r7)=true)then
 (some false)
 else
 if(r5.2.2.2.1=true)then
 Option.bind (qh k r5.2.2.2.2.2.2.2.2.2.2.2.2.2.2.2.2.2.2.1 r5.2.2.2.2.2.2.2.2.2.2.2.2.2.2.2.2.2.2.2.1 r5.2.2.2.2.2.2.2.2.2.2.2.2.2.2.2.2.2.2.2.2.1 r5.2.2.2.2.2.2.2.2.2.2.2.2.2.2.2.2.2.2.2.2.2) fun r8=>
 if(r8=true)then
 (some (r5.2.2.2.2.2.2.2.2.2.2.2.2.2.2.2.2.2.2.2.1 == r5.2.2.2.2.2.2.2.2.2.1))
 else
 (some false)
 else
 Option.bind (qj k r5.2.2.2.2.2.2.2.2.2.2.2.2.2.2.2.2.2.2.1 r5.2.2.2.2.2.2.2.2.2.2.2.2.2.2.2.2.2.2.2.1 r5.2.2.2.2.2.2.2.2.2.2.2.2.2.2.2.2.2.2.2.2.1 r5.2.2.2.2.2.2.2.2.2.2.2.2.2.2.2.2.2.2.2.2.2 (ByteArray.mk (List.toArray [])) (0:Int) [] []) fun r8=>
 (some r8)
 else
 if(r5.2.2.2.1=true)then
 Option.bind (qh k r5.2.2.2.2.2.2.2.2.2.2.2.2.2.2.2.2.2.2.1 r5.2.2.2.2.2.2.2.2.2.2.2.2.2.2.2.2.2.2.2.1 r5.2.2.2.2.2.2.2.2.2.2.2.2.2.2.2.2.2.2.2.2.1 r5.2.2.2.2.2.2.2.2.2.2.2.2.2.2.2.2.2.2.2.2.2) fun r7=>
 if(r7=true)then
 (some (r5.2.2.2.2.2.2.2.2.2.2.2.2.2.2.2.2.2.2.2.1 == r5.2.2.2.2.2.2.2.2.2.1))
 else
 (some false)
 else
 Option.bind (qj k r5.2.2.2.2.2.2.2.2.2.2.2.2.2.2.2.2.2.2.1 r5.2.2.2.2.2.2.2.2.2.2.2.2.2.2.2.2.2.2.2.1 r5.2.2.2.2.2.2.2.2.2.2.2.2.2.2.2.2.2.2.2.2.1 r5.2.2.2.2.2.2.2.2.2.2.2.2.2.2.2.2.2.2.2.2.2 (ByteArray.mk (List.toArray [])) (0:Int) [] []) fun r7=>
 (some r7)
 else
 (some false)
 else
 if((!r5.2.1)=true)then
 if((r5.2.2.2.2.2.2.2.2.2.2.2.2.2.1 == (0:Int))=true)then
 if((r5.2.2.2.2.2.2.2.2.2.2.2.2.2.2.1 == (0:Int))=true)then
 if(r5.2.2.1=true)then
 Option.bind (qab k r5.2.2.2.2.2.2.2.2.2.2.2.2.2.2.2.1 r5.2.2.2.2.2.2.2.2.2.2.2.2.2.2.2.2.1 r5.2.2.2.2.2.2.2.2.2.2.2.2.2.2.2.2.2.1) fun r6=>
 if((!r6)=false)then
 if((!r5.2.2.1)=true)then
 Option.bind (qz k r5.2.2.2.2.2.2.2.2.2.2.2.2.2.2.2.1 r5.2.2.2.2.2.2.2.2.2.2.2.2.2.2.2.2.1 r5.2.2.2.2.2.2.2.2.2.2.2.2.2.2.2.2.2.1 (0:Int) [] []) fun r7=>
 if((!r7)=true)then
 (some false)
 else
 if(r5.2.2.2.1=true)then
 Option.bind (qh k r5.2.2.2.2.2.2.2.2.2.2.2.2.2.2.2.2.2.2.1 r5.2.2.2.2.2.2.2.2.2.2.2.2.2.2.2.2.2.2.2.1 r5.2.2.2.2.2.2.2.2.2.2.2.2.2.2.2.2.2.2.2.2.1 r5.2.2.2.2.2.2.2.2.2.2.2.2.2.2.2.2.2.2.2.2.2) fun r8=>
 if(r8=true)then
 (some (r5.2.2.2.2.2.2.2.2.2.2.2.2.2.2.2.2.2.2.2.1 == r5.2.2.2.2.2.2.2.2.2.1))
 else
 (some false)
 else
 Option.bind (qj k r5.2.2.2.2.2.2.2.2.2.2.2.2.2.2.2.2.2.2.1 r5.2.2.2.2.2.2.2.2.2.2.2.2.2.2.2.2.2.2.2.1 r5.2.2.2.2.2.2.2.2.2.2.2.2.2.2.2.2.2.2.2.2.1 r5.2.2.2.2.2.2.2.2.2.2.2.2.2.2.2.2.2.2.2.2.2 (ByteArray.mk (List.toArray [])) (0:Int) [] []) fun r8=>
 (some r8)
 else
 if(r5.2.2.2.1=true)then
 Option.bind (qh k r5.2.2.2.2.2.2.2.2.2.2.2.2.2.2.2.2.2.2.1 r5.2.2.2.2.2.2.2.2.2.2.2.2.2.2.2.2.2.2.2.1 r5.2.2.2.2.2.2.2.2.2.2.2.2.2.2.2.2.2.2.2.2.1 r5.2.2.2.2.2.2.2.2.2.2.2.2.2.2.2.2.2.2.2.2.2) fun r7=>
 if(r7=true)then
 (some (r5.2.2.2.2.2.2.2.2.2.2.2.2.2.2.2.2.2.2.2.1 == r5.2.2.2.2.2.2.2.2.2.1))
 else
 (some false)
 else
 Option.bind (qj k r5.2.2.2.2.2.2.2.2.2.2.2.2.2.2.2.2.2.2.1 r5.2.2.2.2.2.2.2.2.2.2.2.2.2.2.2.2.2.2.2.1 r5.2.2.2.2.2.2.2.2.2.2.2.2.2.2.2.2.2.2.2.2.1 r5.2.2.2.2.2.2.2.2.2.2.2.2.2.2.2.2.2.2.2.2.2 (ByteArray.mk (List.toArray [])) (0:Int) [] []) fun r7=>
 (some r7)
 else
 (some false)
 else
 if((!r5.2.2.1)=true)then
 Option.bind (qz k r5.2.2.2.2.2.2.2.2.2.2.2.2.2.2.2.1 r5.2.2.2.2.2.2.2.2.2.2.2.2.2.2.2.2.1 r5.2.2.2.2.2.2.2.2.2.2.2.2.2.2.2.2.2.1 (0:Int) [] []) fun r6=>
 if((!r6)=true)then
 (some false)
 else
 if(r5.2.2.2.1=true)then
 Option.bind (qh k r5.2.2.2.2.2.2.2.2.2.2.2.2.2.2.2.2.2.2.1 r5.2.2.2.2.2.2.2.2.2.2.2.2.2.2.2.2.2.2.2.1 r5.2.2.2.2.2.2.2.2.2.2.2.2.2.2.2.2.2.2.2.2.1 r5.2.2.2.2.2.2.2.2.2.2.2.2.2.2.2.2.2.2.2.2.2) fun r7=>
 if(r7=true)then
 (some (r5.2.2.2.2.2.2.2.2.2.2.2.2.2.2.2.2.2.2.2.1 == r5.2.2.2.2.2.2.2.2.2.1))
 else
 (some false)
 else
 Option.bind (qj k r5.2.2.2.2.2.2.2.2.2.2.2.2.2.2.2.2.2.2.1 r5.2.2.2.2.2.2.2.2.2.2.2.2.2.2.2.2.2.2.2.1 r5.2.2.2.2.2.2.2.2.2.2.2.2.2.2.2.2.2.2.2.2.1 r5.2.2.2.2.2.2.2.2.2.2.2.2.2.2.2.2.2.2.2.2.2 (ByteArray.mk (List.toArray [])) (0:Int) [] []) fun r7=>
 (some r7)
 else
 if(r5.2.2.2.1=true)then
 Option.bind (qh k r5.2.2.2.2.2.2.2.2.2.2.2.2.2.2.2.2.2.2.1 r5.2.2.2.2.2.2.2.2.2.2.2.2.2.2.2.2.2.2.2.1 r5.2.2.2.2.2.2.2.2.2.2.2.2.2.2.2.2.2.2.2.2.1 r5.2.2.2.2.2.2.2.2.2.2.2.2.2.2.2.2.2.2.2.2.2) fun r6=>
 if(r6=true)then
 (some (r5.2.2.2.2.2.2.2.2.2.2.2.2.2.2.2.2.2.2.2.1 == r5.2.2.2.2.2.2.2.2.2.1))
 else
 (some false)
 else
 Option.bind (qj k r5.2.2.2.2.2.2.2.2.2.2.2.2.2.2.2.2.2.2.1 r5.2.2.2.2.2.2.2.2.2.2.2.2.2.2.2.2.2.2.2.1 r5.2.2.2.2.2.2.2.2.2.2.2.2.2.2.2.2.2.2.2.2.1 r5.2.2.2.2.2.2.2.2.2.2.2.2.2.2.2.2.2.2.2.2.2 (ByteArray.mk (List.toArray [])) (0:Int) [] []) fun r6=>
 (some r6)
 else
 (some false)
 else
 (some false)
 else
 if(r5.2.2.1=true)then
 Option.bind (qab k r5.2.2.2.2.2.2.2.2.2.2.2.2.2.2.2.1 r5.2.2.2.2.2.2.2.2.2.2.2.2.2.2.2.2.1 r5.2.2.2.2.2.2.2.2.2.2.2.2.2.2.2.2.2.1) fun r6=>
 if((!r6)=false)then
 if((!r5.2.2.1)=true)then
 Option.bind (qz k r5.2.2.2.2.2.2.2.2.2.2.2.2.2.2.2.1 r5.2.2.2.2.2.2.2.2.2.2.2.2.2.2.2.2.1 r5.2.2.2.2.2.2.2.2.2.2.2.2.2.2.2.2.2.1 (0:Int) [] []) fun r7=>
 if((!r7)=true)then
 (some false)
 else
 if(r5.2.2.2.1=true)then
 Option.bind (qh k r5.2.2.2.2.2.2.2.2.2.2.2.2.2.2.2.2.2.2.1 r5.2.2.2.2.2.2.2.2.2.2.2.2.2.2.2.2.2.2.2.1 r5.2.2.2.2.2.2.2.2.2.2.2.2.2.2.2.2.2.2.2.2.1 r5.2.2.2.2.2.2.2.2.2.2.2.2.2.2.2.2.2.2.2.2.2) fun r8=>
 if(r8=true)then
 (some (r5.2.2.2.2.2.2.2.2.2.2.2.2.2.2.2.2.2.2.2.1 == r5.2.2.2.2.2.2.2.2.2.1))
 else
 (some false)
 else
 Option.bind (qj k r5.2.2.2.2.2.2.2.2.2.2.2.2.2.2.2.2.2.2.1 r5.2.2.2.2.2.2.2.2.2.2.2.2.2.2.2.2.2.2.2.1 r5.2.2.2.2.2.2.2.2.2.2.2.2.2.2.2.2.2.2.2.2.1 r5.2.2.2.2.2.2.2.2.2.2.2.2.2.2.2.2.2.2.2.2.2 (ByteArray.mk (List.toArray [])) (0:Int) [] []) fun r8=>
 (some r8)
 else
 if(r5.2.2.2.1=true)then
 Option.bind (qh k r5.2.2.2.2.2.2.2.2.2.2.2.2.2.2.2.2.2.2.1 r5.2.2.2.2.2.2.2.2.2.2.2.2.2.2.2.2.2.2.2.1 r5.2.2.2.2.2.2.2.2.2.2.2.2.2.2.2.2.2.2.2.2.1 r5.2.2.2.2.2.2.2.2.2.2.2.2.2.2.2.2.2.2.2.2.2) fun r7=>
 if(r7=true)then
 (some (r5.2.2.2.2.2.2.2.2.2.2.2.2.2.2.2.2.2.2.2.1 == r5.2.2.2.2.2.2.2.2.2.1))
 else
 (some false)
 else
 Option.bind (qj k r5.2.2.2.2.2.2.2.2.2.2.2.2.2.2.2.2.2.2.1 r5.2.2.2.2.2.2.2.2.2.2.2.2.2.2.2.2.2.2.2.1 r5.2.2.2.2.2.2.2.2.2.2.2.2.2.2.2.2.2.2.2.2.1 r5.2.2.2.2.2.2.2.2.2.2.2.2.2.2.2.2.2.2.2.2.2 (ByteArray.mk (List.toArray [])) (0:Int) [] []) fun r7=>
 (some r7)
 else
 (some false)
 else
 if((!r5.2.2.1)=true)then
 Option.bind (qz k r5.2.2.2.2.2.2.2.2.2.2.2.2.2.2.2.1 r5.2.2.2.2.2.2.2.2.2.2.2.2.2.2.2.2.1 r5.2.2.2.2.2.2.2.2.2.2.2.2.2.2.2.2.2.1 (0:Int) [] []) fun r6=>
 if((!r6)=true)then
 (some false)
 else
 if(r5.2.2.2.1=true)then
 Option.bind (qh k r5.2.2.2.2.2.2.2.2.2.2.2.2.2.2.2.2.2.2.1 r5.2.2.2.2.2.2.2.2.2.2.2.2.2.2.2.2.2.2.2.1 r5.2.2.2.2.2.2.2.2.2.2.2.2.2.2.2.2.2.2.2.2.1 r5.2.2.2.2.2.2.2.2.2.2.2.2.2.2.2.2.2.2.2.2.2) fun r7=>
 if(r7=true)then
 (some (r5.2.2.2.2.2.2.2.2.2.2.2.2.2.2.2.2.2.2.2.1 == r5.2.2.2.2.2.2.2.2.2.1))
 else
 (some false)
 else
 Option.bind (qj k r5.2.2.2.2.2.2.2.2.2.2.2.2.2.2.2.2.2.2.1 r5.2.2.2.2.2.2.2.2.2.2.2.2.2.2.2.2.2.2.2.1 r5.2.2.2.2.2.2.2.2.2.2.2.2.2.2.2.2.2.2.2.2.1 r5.2.2.2.2.2.2.2.2.2.2.2.2.2.2.2.2.2.2.2.2.2 (ByteArray.mk (List.toArray [])) (0:Int) [] []) fun r7=>
 (some r7)
 else
 if(r5.2.2.2.1=true)then
 Option.bind (qh k r5.2.2.2.2.2.2.2.2.2.2.2.2.2.2.2.2.2.2.1 r5.2.2.2.2.2.2.2.2.2.2.2.2.2.2.2.2.2.2.2.1 r5.2.2.2.2.2.2.2.2.2.2.2.2.2.2.2.2.2.2.2.2.1 r5.2.2.2.2.2.2.2.2.2.2.2.2.2.2.2.2.2.2.2.2.2) fun r6=>
 if(r6=true)then
 (some (r5.2.2.2.2.2.2.2.2.2.2.2.2.2.2.2.2.2.2.2.1 == r5.2.2.2.2.2.2.2.2.2.1))
 else
 (some false)
 else
 Option.bind (qj k r5.2.2.2.2.2.2.2.2.2.2.2.2.2.2.2.2.2.2.1 r5.2.2.2.2.2.2.2.2.2.2.2.2.2.2.2.2.2.2.2.1 r5.2.2.2.2.2.2.2.2.2.2.2.2.2.2.2.2.2.2.2.2.1 r5.2.2.2.2.2.2.2.2.2.2.2.2.2.2.2.2.2.2.2.2.2 (ByteArray.mk (List.toArray [])) (0:Int) [] []) fun r6=>
 (some r6)
 else
 none
 else
 (some false)
 else
 (some false)
 else
 if((r5.2.2.2.2.2.2.2.2.2.2.2.2.1 != (0:Int))=true)then
 (some false)
 else
 if(r5.2.1=true)then
 Option.bind (qaJ k r5.2.2.2.2.2.2.2.2.2.2.2.2.2.1 r5.2.2.2.2.2.2.2.2.2.2.2.2.2.2.1) fun r6=>
 if((!r6)=false)then
 if((!r5.2.1)=true)then
 if((r5.2.2.2.2.2.2.2.2.2.2.2.2.2.1 == (0:Int))=true)then
 if((r5.2.2.2.2.2.2.2.2.2.2.2.2.2.2.1 == (0:Int))=true)then
 if(r5.2.2.1=true)then
 Option.bind (qab k r5.2.2.2.2.2.2.2.2.2.2.2.2.2.2.2.1 r5.2.2.2.2.2.2.2.2.2.2.2.2.2.2.2.2.1 r5.2.2.2.2.2.2.2.2.2.2.2.2.2.2.2.2.2.1) fun r7=>
 if((!r7)=false)then
 if((!r5.2.2.1)=true)then
 Option.bind (qz k r5.2.2.2.2.2.2.2.2.2.2.2.2.2.2.2.1 r5.2.2.2.2.2.2.2.2.2.2.2.2.2.2.2.2.1 r5.2.2.2.2.2.2.2.2.2.2.2.2.2.2.2.2.2.1 (0:Int) [] []) fun r8=>
 if((!r8)=true)then
 (some false)
 else
 if(r5.2.2.2.1=true)then
 Option.bind (qh k r5.2.2.2.2.2.2.2.2.2.2.2.2.2.2.2.2.2.2.1 r5.2.2.2.2.2.2.2.2.2.2.2.2.2.2.2.2.2.2.2.1 r5.2.2.2.2.2.2.2.2.2.2.2.2.2.2.2.2.2.2.2.2.1 r5.2.2.2.2.2.2.2.2.2.2.2.2.2.2.2.2.2.2.2.2.2) fun r9=>
 if(r9=true)then
 (some (r5.2.2.2.2.2.2.2.2.2.2.2.2.2.2.2.2.2.2.2.1 == r5.2.2.2.2.2.2.2.2.2.1))
 else
 (some false)
 else
 Option.bind (qj k r5.2.2.2.2.2.2.2.2.2.2.2.2.2.2.2.2.2.2.1 r5.2.2.2.2.2.2.2.2.2.2.2.2.2.2.2.2.2.2.2.1 r5.2.2.2.2.2.2.2.2.2.2.2.2.2.2.2.2.2.2.2.2.1 r5.2.2.2.2.2.2.2.2.2.2.2.2.2.2.2.2.2.2.2.2.2 (ByteArray.mk (List.toArray [])) (0:Int) [] []) fun r9=>
 (some r9)
 else
 if(r5.2.2.2.1=true)then
 Option.bind (qh k r5.2.2.2.2.2.2.2.2.2.2.2.2.2.2.2.2.2.2.1 r5.2.2.2.2.2.2.2.2.2.2.2.2.2.2.2.2.2.2.2.1 r5.2.2.2.2.2.2.2.2.2.2.2.2.2.2.2.2.2.2.2.2.1 r5.2.2.2.2.2.2.2.2.2.2.2.2.2.2.2.2.2.2.2.2.2) fun r8=>
 if(r8=true)then
 (some (r5.2.2.2.2.2.2.2.2.2.2.2.2.2.2.2.2.2.2.2.1 == r5.2.2.2.2.2.2.2.2.2.1))
 else
 (some false)
 else
 Option.bind (qj k r5.2.2.2.2.2.2.2.2.2.2.2.2.2.2.2.2.2.2.1 r5.2.2.2.2.2.2.2.2.2.2.2.2.2.2.2.2.2.2.2.1 r5.2.2.2.2.2.2.2.2.2.2.2.2.2.2.2.2.2.2.2.2.1 r5.2.2.2.2.2.2.2.2.2.2.2.2.2.2.2.2.2.2.2.2.2 (ByteArray.mk (List.toArray [])) (0:Int) [] []) fun r8=>
 (some r8)
 else
 (some false)
 else
 if((!r5.2.2.1)=true)then
 Option.bind (qz k r5.2.2.2.2.2.2.2.2.2.2.2.2.2.2.2.1 r5.2.2.2.2.2.2.2.2.2.2.2.2.2.2.2.2.1 r5.2.2.2.2.2.2.2.2.2.2.2.2.2.2.2.2.2.1 (0:Int) [] []) fun r7=>
 if((!r7)=true)then
 (some false)
 else
 if(r5.2.2.2.1=true)then
 Option.bind (qh k r5.2.2.2.2.2.2.2.2.2.2.2.2.2.2.2.2.2.2.1 r5.2.2.2.2.2.2.2.2.2.2.2.2.2.2.2.2.2.2.2.1 r5.2.2.2.2.2.2.2.2.2.2.2.2.2.2.2.2.2.2.2.2.1 r5.2.2.2.2.2.2.2.2.2.2.2.2.2.2.2.2.2.2.2.2.2) fun r8=>
 if(r8=true)then
 (some (r5.2.2.2.2.2.2.2.2.2.2.2.2.2.2.2.2.2.2.2.1 == r5.2.2.2.2.2.2.2.2.2.1))
 else
 (some false)
 else
 Option.bind (qj k r5.2.2.2.2.2.2.2.2.2.2.2.2.2.2.2.2.2.2.1 r5.2.2.2.2.2.2.2.2.2.2.2.2.2.2.2.2.2.2.2.1 r5.2.2.2.2.2.2.2.2.2.2.2.2.2.2.2.2.2.2.2.2.1 r5.2.2.2.2.2.2.2.2.2.2.2.2.2.2.2.2.2.2.2.2.2 (ByteArray.mk (List.toArray [])) (0:Int) [] []) fun r8=>
 (some r8)
 else
 if(r5.2.2.2.1=true)then
 Option.bind (qh k r5.2.2.2.2.2.2.2.2.2.2.2.2.2.2.2.2.2.2.1 r5.2.2.2.2.2.2.2.2.2.2.2.2.2.2.2.2.2.2.2.1 r5.2.2.2.2.2.2.2.2.2.2.2.2.2.2.2.2.2.2.2.2.1 r5.2.2.2.2.2.2.2.2.2.2.2.2.2.2.2.2.2.2.2.2.2) fun r7=>
 if(r7=true)then
 (some (r5.2.2.2.2.2.2.2.2.2.2.2.2.2.2.2.2.2.2.2.1 == r5.2.2.2.2.2.2.2.2.2.1))
 else
 (some false)
 else
 Option.bind (qj k r5.2.2.2.2.2.2.2.2.2.2.2.2.2.2.2.2.2.2.1 r5.2.2.2.2.2.2.2.2.2.2.2.2.2.2.2.2.2.2.2.1 r5.2.2.2.2.2.2.2.2.2.2.2.2.2.2.2.2.2.2.2.2.1 r5.2.2.2.2.2.2.2.2.2.2.2.2.2.2.2.2.2.2.2.2.2 (ByteArray.mk (List.toArray [])) (0:Int) [] []) fun r7=>
 (some r7)
 else
 (some false)
 else
 (some false)
 else
 if(r5.2.2.1=true)then
 Option.bind (qab k r5.2.2.2.2.2.2.2.2.2.2.2.2.2.2.2.1 r5.2.2.2.2.2.2.2.2.2.2.2.2.2.2.2.2.1 r5.2.2.2.2.2.2.2.2.2.2.2.2.2.2.2.2.2.1) fun r7=>
 if((!r7)=false)then
 if((!r5.2.2.1)=true)then
 Option.bind (qz k r5.2.2.2.2.2.2.2.2.2.2.2.2.2.2.2.1 r5.2.2.2.2.2.2.2.2.2.2.2.2.2.2.2.2.1 r5.2.2.2.2.2.2.2.2.2.2.2.2.2.2.2.2.2.1 (0:Int) [] []) fun r8=>
 if((!r8)=true)then
 (some false)
 else
 if(r5.2.2.2.1=true)then
 Option.bind (qh k r5.2.2.2.2.2.2.2.2.2.2.2.2.2.2.2.2.2.2.1 r5.2.2.2.2.2.2.2.2.2.2.2.2.2.2.2.2.2.2.2.1 r5.2.2.2.2.2.2.2.2.2.2.2.2.2.2.2.2.2.2.2.2.1 r5.2.2.2.2.2.2.2.2.2.2.2.2.2.2.2.2.2.2.2.2.2) fun r9=>
 if(r9=true)then
 (some (r5.2.2.2.2.2.2.2.2.2.2.2.2.2.2.2.2.2.2.2.1 == r5.2.2.2.2.2.2.2.2.2.1))
 else
 (some false)
 else
 Option.bind (qj k r5.2.2.2.2.2.2.2.2.2.2.2.2.2.2.2.2.2.2.1 r5.2.2.2.2.2.2.2.2.2.2.2.2.2.2.2.2.2.2.2.1 r5.2.2.2.2.2.2.2.2.2.2.2.2.2.2.2.2.2.2.2.2.1 r5.2.2.2.2.2.2.2.2.2.2.2.2.2.2.2.2.2.2.2.2.2 (ByteArray.mk (List.toArray [])) (0:Int) [] []) fun r9=>
 (some r9)
 else
 if(r5.2.2.2.1=true)then
 Option.bind (qh k r5.2.2.2.2.2.2.2.2.2.2.2.2.2.2.2.2.2.2.1 r5.2.2.2.2.2.2.2.2.2.2.2.2.2.2.2.2.2.2.2.1 r5.2.2.2.2.2.2.2.2.2.2.2.2.2.2.2.2.2.2.2.2.1 r5.2.2.2.2.2.2.2.2.2.2.2.2.2.2.2.2.2.2.2.2.2) fun r8=>
 if(r8=true)then
 (some (r5.2.2.2.2.2.2.2.2.2.2.2.2.2.2.2.2.2.2.2.1 == r5.2.2.2.2.2.2.2.2.2.1))
 else
 (some false)
 else
 Option.bind (qj k r5.2.2.2.2.2.2.2.2.2.2.2.2.2.2.2.2.2.2.1 r5.2.2.2.2.2.2.2.2.2.2.2.2.2.2.2.2.2.2.2.1 r5.2.2.2.2.2.2.2.2.2.2.2.2.2.2.2.2.2.2.2.2.1 r5.2.2.2.2.2.2.2.2.2.2.2.2.2.2.2.2.2.2.2.2.2 (ByteArray.mk (List.toArray [])) (0:Int) [] []) fun r8=>
 (some r8)
 else
 (some false)
 else
 if((!r5.2.2.1)=true)then
 Option.bind (qz k r5.2.2.2.2.2.2.2.2.2.2.2.2.2.2.2.1 r5.2.2.2.2.2.2.2.2.2.2.2.2.2.2.2.2.1 r5.2.2.2.2.2.2.2.2.2.2.2.2.2.2.2.2.2.1 (0:Int) [] []) fun r7=>
 if((!r7)=true)then
 (some false)
 else
 if(r5.2.2.2.1=true)then
 Option.bind (qh k r5.2.2.2.2.2.2.2.2.2.2.2.2.2.2.2.2.2.2.1 r5.2.2.2.2.2.2.2.2.2.2.2.2.2.2.2.2.2.2.2.1 r5.2.2.2.2.2.2.2.2.2.2.2.2.2.2.2.2.2.2.2.2.1 r5.2.2.2.2.2.2.2.2.2.2.2.2.2.2.2.2.2.2.2.2.2) fun r8=>
 if(r8=true)then
 (some (r5.2.2.2.2.2.2.2.2.2.2.2.2.2.2.2.2.2.2.2.1 == r5.2.2.2.2.2.2.2.2.2.1))
 else
 (some false)
 else
 Option.bind (qj k r5.2.2.2.2.2.2.2.2.2.2.2.2.2.2.2.2.2.2.1 r5.2.2.2.2.2.2.2.2.2.2.2.2.2.2.2.2.2.2.2.1 r5.2.2.2.2.2.2.2.2.2.2.2.2.2.2.2.2.2.2.2.2.1 r5.2.2.2.2.2.2.2.2.2.2.2.2.2.2.2.2.2.2.2.2.2 (ByteArray.mk (List.toArray [])) (0:Int) [] []) fun r8=>
 (some r8)
 else
 if(r5.2.2.2.1=true)then
 Option.bind (qh k r5.2.2.2.2.2.2.2.2.2.2.2.2.2.2.2.2.2.2.1 r5.2.2.2.2.2.2.2.2.2.2.2.2.2.2.2.2.2.2.2.1 r5.2.2.2.2.2.2.2.2.2.2.2.2.2.2.2.2.2.2.2.2.1 r5.2.2.2.2.2.2.2.2.2.2.2.2.2.2.2.2.2.2.2.2.2) fun r7=>
 if(r7=true)then
 (some (r5.2.2.2.2.2.2.2.2.2.2.2.2.2.2.2.2.2.2.2.1 == r5.2.2.2.2.2.2.2.2.2.1))
 else
 (some false)
 else
 Option.bind (qj k r5.2.2.2.2.2.2.2.2.2.2.2.2.2.2.2.2.2.2.1 r5.2.2.2.2.2.2.2.2.2.2.2.2.2.2.2.2.2.2.2.1 r5.2.2.2.2.2.2.2.2.2.2.2.2.2.2.2.2.2.2.2.2.1 r5.2.2.2.2.2.2.2.2.2.2.2.2.2.2.2.2.2.2.2.2.2 (ByteArray.mk (List.toArray [])) (0:Int) [] []) fun r7=>
 (some r7)
 else
 (some false)
 else
 if((!r5.2.1)=true)then
 if((r5.2.2.2.2.2.2.2.2.2.2.2.2.2.1 == (0:Int))=true)then
 if((r5.2.2.2.2.2.2.2.2.2.2.2.2.2.2.1 == (0:Int))=true)then
 if(r5.2.2.1=true)then
 Option.bind (qab k r5.2.2.2.2.2.2.2.2.2.2.2.2.2.2.2.1 r5.2.2.2.2.2.2.2.2.2.2.2.2.2.2.2.2.1 r5.2.2.2.2.2.2.2.2.2.2.2.2.2.2.2.2.2.1) fun r6=>
 if((!r6)=false)then
 if((!r5.2.2.1)=true)then
 Option.bind (qz k r5.2.2.2.2.2.2.2.2.2.2.2.2.2.2.2.1 r5.2.2.2.2.2.2.2.2.2.2.2.2.2.2.2.2.1 r5.2.2.2.2.2.2.2.2.2.2.2.2.2.2.2.2.2.1 (0:Int) [] []) fun r7=>
 if((!r7)=true)then
 (some false)
 else
 if(r5.2.2.2.1=true)then
 Option.bind (qh k r5.2.2.2.2.2.2.2.2.2.2.2.2.2.2.2.2.2.2.1 r5.2.2.2.2.2.2.2.2.2.2.2.2.2.2.2.2.2.2.2.1 r5.2.2.2.2.2.2.2.2.2.2.2.2.2.2.2.2.2.2.2.2.1 r5.2.2.2.2.2.2.2.2.2.2.2.2.2.2.2.2.2.2.2.2.2) fun r8=>
 if(r8=true)then
 (some (r5.2.2.2.2.2.2.2.2.2.2.2.2.2.2.2.2.2.2.2.1 == r5.2.2.2.2.2.2.2.2.2.1))
 else
 (some false)
 else
 Option.bind (qj k r5.2.2.2.2.2.2.2.2.2.2.2.2.2.2.2.2.2.2.1 r5.2.2.2.2.2.2.2.2.2.2.2.2.2.2.2.2.2.2.2.1 r5.2.2.2.2.2.2.2.2.2.2.2.2.2.2.2.2.2.2.2.2.1 r5.2.2.2.2.2.2.2.2.2.2.2.2.2.2.2.2.2.2.2.2.2 (ByteArray.mk (List.toArray [])) (0:Int) [] []) fun r8=>
 (some r8)
 else
 if(r5.2.2.2.1=true)then
 Option.bind (qh k r5.2.2.2.2.2.2.2.2.2.2.2.2.2.2.2.2.2.2.1 r5.2.2.2.2.2.2.2.2.2.2.2.2.2.2.2.2.2.2.2.1 r5.2.2.2.2.2.2.2.2.2.2.2.2.2.2.2.2.2.2.2.2.1 r5.2.2.2.2.2.2.2.2.2.2.2.2.2.2.2.2.2.2.2.2.2) fun r7=>
 if(r7=true)then
 (some (r5.2.2.2.2.2.2.2.2.2.2.2.2.2.2.2.2.2.2.2.1 == r5.2.2.2.2.2.2.2.2.2.1))
 else
 (some false)
 else
 Option.bind (qj k r5.2.2.2.2.2.2.2.2.2.2.2.2.2.2.2.2.2.2.1 r5.2.2.2.2.2.2.2.2.2.2.2.2.2.2.2.2.2.2.2.1 r5.2.2.2.2.2.2.2.2.2.2.2.2.2.2.2.2.2.2.2.2.1 r5.2.2.2.2.2.2.2.2.2.2.2.2.2.2.2.2.2.2.2.2.2 (ByteArray.mk (List.toArray [])) (0:Int) [] []) fun r7=>
 (some r7)
 else
 (some false)
 else
 if((!r5.2.2.1)=true)then
 Option.bind (qz k r5.2.2.2.2.2.2.2.2.2.2.2.2.2.2.2.1 r5.2.2.2.2.2.2.2.2.2.2.2.2.2.2.2.2.1 r5.2.2.2.2.2.2.2.2.2.2.2.2.2.2.2.2.2.1 (0:Int) [] []) fun r6=>
 if((!r6)=true)then
 (some false)
 else
 if(r5.2.2.2.1=true)then
 Option.bind (qh k r5.2.2.2.2.2.2.2.2.2.2.2.2.2.2.2.2.2.2.1 r5.2.2.2.2.2.2.2.2.2.2.2.2.2.2.2.2.2.2.2.1 r5.2.2.2.2.2.2.2.2.2.2.2.2.2.2.2.2.2.2.2.2.1 r5.2.2.2.2.2.2.2.2.2.2.2.2.2.2.2.2.2.2.2.2.2) fun r7=>
 if(r7=true)then
 (some (r5.2.2.2.2.2.2.2.2.2.2.2.2.2.2.2.2.2.2.2.1 == r5.2.2.2.2.2.2.2.2.2.1))
 else
 (some false)
 else
 Option.bind (qj k r5.2.2.2.2.2.2.2.2.2.2.2.2.2.2.2.2.2.2.1 r5.2.2.2.2.2.2.2.2.2.2.2.2.2.2.2.2.2.2.2.1 r5.2.2.2.2.2.2.2.2.2.2.2.2.2.2.2.2.2.2.2.2.1 r5.2.2.2.2.2.2.2.2.2.2.2.2.2.2.2.2.2.2.2.2.2 (ByteArray.mk (List.toArray [])) (0:Int) [] []) fun r7=>
 (some r7)
 else
 if(r5.2.2.2.1=true)then
 Option.bind (qh k r5.2.2.2.2.2.2.2.2.2.2.2.2.2.2.2.2.2.2.1 r5.2.2.2.2.2.2.2.2.2.2.2.2.2.2.2.2.2.2.2.1 r5.2.2.2.2.2.2.2.2.2.2.2.2.2.2.2.2.2.2.2.2.1 r5.2.2.2.2.2.2.2.2.2.2.2.2.2.2.2.2.2.2.2.2.2) fun r6=>
 if(r6=true)then
 (some (r5.2.2.2.2.2.2.2.2.2.2.2.2.2.2.2.2.2.2.2.1 == r5.2.2.2.2.2.2.2.2.2.1))
 else
 (some false)
 else
 Option.bind (qj k r5.2.2.2.2.2.2.2.2.2.2.2.2.2.2.2.2.2.2.1 r5.2.2.2.2.2.2.2.2.2.2.2.2.2.2.2.2.2.2.2.1 r5.2.2.2.2.2.2.2.2.2.2.2.2.2.2.2.2.2.2.2.2.1 r5.2.2.2.2.2.2.2.2.2.2.2.2.2.2.2.2.2.2.2.2.2 (ByteArray.mk (List.toArray [])) (0:Int) [] []) fun r6=>
 (some r6)
 else
 (some false)
 else
 (some false)
 else
 if(r5.2.2.1=true)then
 Option.bind (qab k r5.2.2.2.2.2.2.2.2.2.2.2.2.2.2.2.1 r5.2.2.2.2.2.2.2.2.2.2.2.2.2.2.2.2.1 r5.2.2.2.2.2.2.2.2.2.2.2.2.2.2.2.2.2.1) fun r6=>
 if((!r6)=false)then
 if((!r5.2.2.1)=true)then
 Option.bind (qz k r5.2.2.2.2.2.2.2.2.2.2.2.2.2.2.2.1 r5.2.2.2.2.2.2.2.2.2.2.2.2.2.2.2.2.1 r5.2.2.2.2.2.2.2.2.2.2.2.2.2.2.2.2.2.1 (0:Int) [] []) fun r7=>
 if((!r7)=true)then
 (some false)
 else
 if(r5.2.2.2.1=true)then
 Option.bind (qh k r5.2.2.2.2.2.2.2.2.2.2.2.2.2.2.2.2.2.2.1 r5.2.2.2.2.2.2.2.2.2.2.2.2.2.2.2.2.2.2.2.1 r5.2.2.2.2.2.2.2.2.2.2.2.2.2.2.2.2.2.2.2.2.1 r5.2.2.2.2.2.2.2.2.2.2.2.2.2.2.2.2.2.2.2.2.2) fun r8=>
 if(r8=true)then
 (some (r5.2.2.2.2.2.2.2.2.2.2.2.2.2.2.2.2.2.2.2.1 == r5.2.2.2.2.2.2.2.2.2.1))
 else
 (some false)
 else
 Option.bind (qj k r5.2.2.2.2.2.2.2.2.2.2.2.2.2.2.2.2.2.2.1 r5.2.2.2.2.2.2.2.2.2.2.2.2.2.2.2.2.2.2.2.1 r5.2.2.2.2.2.2.2.2.2.2.2.2.2.2.2.2.2.2.2.2.1 r5.2.2.2.2.2.2.2.2.2.2.2.2.2.2.2.2.2.2.2.2.2 (ByteArray.mk (List.toArray [])) (0:Int) [] []) fun r8=>
 (some r8)
 else
 if(r5.2.2.2.1=true)then
 Option.bind (qh k r5.2.2.2.2.2.2.2.2.2.2.2.2.2.2.2.2.2.2.1 r5.2.2.2.2.2.2.2.2.2.2.2.2.2.2.2.2.2.2.2.1 r5.2.2.2.2.2.2.2.2.2.2.2.2.2.2.2.2.2.2.2.2.1 r5.2.2.2.2.2.2.2.2.2.2.2.2.2.2.2.2.2.2.2.2.2) fun r7=>
 if(r7=true)then
 (some (r5.2.2.2.2.2.2.2.2.2.2.2.2.2.2.2.2.2.2.2.1 == r5.2.2.2.2.2.2.2.2.2.1))
 else
 (some false)
 else
 Option.bind (qj k r5.2.2.2.2.2.2.2.2.2.2.2.2.2.2.2.2.2.2.1 r5.2.2.2.2.2.2.2.2.2.2.2.2.2.2.2.2.2.2.2.1 r5.2.2.2.2.2.2.2.2.2.2.2.2.2.2.2.2.2.2.2.2.1 r5.2.2.2.2.2.2.2.2.2.2.2.2.2.2.2.2.2.2.2.2.2 (ByteArray.mk (List.toArray [])) (0:Int) [] []) fun r7=>
 (some r7)
 else
 (some false)
 else
 if((!r5.2.2.1)=true)then
 Option.bind (qz k r5.2.2.2.2.2.2.2.2.2.2.2.2.2.2.2.1 r5.2.2.2.2.2.2.2.2.2.2.2.2.2.2.2.2.1 r5.2.2.2.2.2.2.2.2.2.2.2.2.2.2.2.2.2.1 (0:Int) [] []) fun r6=>
 if((!r6)=true)then
 (some false)
 else
 if(r5.2.2.2.1=true)then
 Option.bind (qh k r5.2.2.2.2.2.2.2.2.2.2.2.2.2.2.2.2.2.2.1 r5.2.2.2.2.2.2.2.2.2.2.2.2.2.2.2.2.2.2.2.1 r5.2.2.2.2.2.2.2.2.2.2.2.2.2.2.2.2.2.2.2.2.1 r5.2.2.2.2.2.2.2.2.2.2.2.2.2.2.2.2.2.2.2.2.2) fun r7=>
 if(r7=true)then
 (some (r5.2.2.2.2.2.2.2.2.2.2.2.2.2.2.2.2.2.2.2.1 == r5.2.2.2.2.2.2.2.2.2.1))
 else
 (some false)
 else
 Option.bind (qj k r5.2.2.2.2.2.2.2.2.2.2.2.2.2.2.2.2.2.2.1 r5.2.2.2.2.2.2.2.2.2.2.2.2.2.2.2.2.2.2.2.1 r5.2.2.2.2.2.2.2.2.2.2.2.2.2.2.2.2.2.2.2.2.1 r5.2.2.2.2.2.2.2.2.2.2.2.2.2.2.2.2.2.2.2.2.2 (ByteArray.mk (List.toArray [])) (0:Int) [] []) fun r7=>
 (some r7)
 else
 if(r5.2.2.2.1=true)then
 Option.bind (qh k r5.2.2.2.2.2.2.2.2.2.2.2.2.2.2.2.2.2.2.1 r5.2.2.2.2.2.2.2.2.2.2.2.2.2.2.2.2.2.2.2.1 r5.2.2.2.2.2.2.2.2.2.2.2.2.2.2.2.2.2.2.2.2.1 r5.2.2.2.2.2.2.2.2.2.2.2.2.2.2.2.2.2.2.2.2.2) fun r6=>
 if(r6=true)then
 (some (r5.2.2.2.2.2.2.2.2.2.2.2.2.2.2.2.2.2.2.2.1 == r5.2.2.2.2.2.2.2.2.2.1))
 else
 (some false)
 else
 Option.bind (qj k r5.2.2.2.2.2.2.2.2.2.2.2.2.2.2.2.2.2.2.1 r5.2.2.2.2.2.2.2.2.2.2.2.2.2.2.2.2.2.2.2.1 r5.2.2.2.2.2.2.2.2.2.2.2.2.2.2.2.2.2.2.2.2.1 r5.2.2.2.2.2.2.2.2.2.2.2.2.2.2.2.2.2.2.2.2.2 (ByteArray.mk (List.toArray [])) (0:Int) [] []) fun r6=>
 (some r6)
def qfT (k:Nat) (f0:List ByteArray) (f1:List DvT) (f2:Int) (f3:Int) (f4:Int) (d0:Int) (d1:ByteArray) (d2:List Int) (d3:Int) (d4:Int) (d5:Int) (d6:Int) (d7:List (Int×Int)) (d8:List Int) (d9:ByteArray) (d10:Int) (d11:List (Int×Int)) (d12:List (Int×Int)):Option (Bool):=
 if((d0 == (114:Int))=true)then
 if((d4 == (0:Int))=true)then
 (some false)
 else
 if(((((List.length d2):Nat):Int) != (2:Int))=false)then
 Option.bind (qp k d1) fun r4=>
 if((!r4)=true)then
 (some false)
 else
 Option.bind (qr k k (2:Int) false true false false (0:Int) f0 f1 f2 f3 f4 d0 d1 d2 d3 d4 d5 d6 d7 d8 d9 d10 d11 d12) fun r5=>
 qc r5
 (fun r5=>
 (some r5.1))
 (qg k)
 else
 (some false)
 else
 if((d0 == (99:Int))=true)then
 if((d4 == (0:Int))=true)then
 (some false)
 else
 if(((((List.length d2):Nat):Int) != (2:Int))=false)then
 Option.bind (qp k d1) fun r4=>
 if((!r4)=true)then
 (some false)
 else
 Option.bind (qr k k (2:Int) false true false false (0:Int) f0 f1 f2 f3 f4 d0 d1 d2 d3 d4 d5 d6 d7 d8 d9 d10 d11 d12) fun r5=>
 qc r5
 (fun r5=>
 (some r5.1))
 (qg k)
 else
 (some false)
 else
 if((d0 == (108:Int))=true)then
 if((d4 == (0:Int))=true)then
 (some false)
 else
 if(((((List.length d2):Nat):Int) != (2:Int))=false)then
 Option.bind (qp k d1) fun r4=>
 if((!r4)=true)then
 (some false)
 else
 Option.bind (qr k k (2:Int) false true false false (0:Int) f0 f1 f2 f3 f4 d0 d1 d2 d3 d4 d5 d6 d7 d8 d9 d10 d11 d12) fun r5=>
 qc r5
 (fun r5=>
 (some r5.1))
 (qg k)
 else
 (some false)
 else
 if((d0 == (118:Int))=true)then
 if(((((List.length d2):Nat):Int) != (2:Int))=false)then
 Option.bind (qp k d1) fun r4=>
 if((!r4)=true)then
 (some false)
 else
 Option.bind (qr k k (2:Int) false false true false (0:Int) f0 f1 f2 f3 f4 d0 d1 d2 d3 d4 d5 d6 d7 d8 d9 d10 d11 d12) fun r5=>
 qc r5
 (fun r5=>
 (some r5.1))
 (qg k)
 else
 (some false)
 else
 if((d0 == (105:Int))=true)then
 if(((((List.length d2):Nat):Int) != (2:Int))=false)then
 Option.bind (qp k d1) fun r4=>
 if((!r4)=true)then
 (some false)
 else
 Option.bind (qr k k (2:Int) false false true false (0:Int) f0 f1 f2 f3 f4 d0 d1 d2 d3 d4 d5 d6 d7 d8 d9 d10 d11 d12) fun r5=>
 qc r5
 (fun r5=>
 (some r5.1))
 (qg k)
 else
 (some false)
 else
 if((d0 == (101:Int))=true)then
 if(((((List.length d2):Nat):Int) != (4:Int))=false)then
 Option.bind (qp k d1) fun r4=>
 if((!r4)=true)then
 (some false)
 else
 Option.bind (qr k k (4:Int) false true false false (0:Int) f0 f1 f2 f3 f4 d0 d1 d2 d3 d4 d5 d6 d7 d8 d9 d10 d11 d12) fun r5=>
 qc r5
 (fun r5=>
 (some r5.1))
 (qg k)
 else
 (some false)
 else
 if((d0 == (103:Int))=true)then
 if(((((List.length d2):Nat):Int) != (4:Int))=false)then
 Option.bind (qp k d1) fun r4=>
 if((!r4)=true)then
 (some false)
 else
 Option.bind (qr k k (4:Int) false true false false (0:Int) f0 f1 f2 f3 f4 d0 d1 d2 d3 d4 d5 d6 d7 d8 d9 d10 d11 d12) fun r5=>
 qc r5
 (fun r5=>
 (some r5.1))
 (qg k)
 else
 (some false)
 else
 if((d0 == (116:Int))=true)then
 if(((((List.length d2):Nat):Int) != (4:Int))=false)then
 Option.bind (qp k d1) fun r4=>
 if((!r4)=true)then
 (some false)
 else
 Option.bind (qr k k (4:Int) false true false false (0:Int) f0 f1 f2 f3 f4 d0 d1 d2 d3 d4 d5 d6 d7 d8 d9 d10 d11 d12) fun r5=>
 qc r5
 (fun r5=>
 (some r5.1))
 (qg k)
 else
 (some false)
 else
 if((d0 == (102:Int))=true)then
 if(((((List.length d2):Nat):Int) != (2:Int))=false)then
 Option.bind (qp k d1) fun r4=>
 if((!r4)=true)then
 (some false)
 else
 Option.bind (qr k k (2:Int) true true false false (0:Int) f0 f1 f2 f3 f4 d0 d1 d2 d3 d4 d5 d6 d7 d8 d9 d10 d11 d12) fun r5=>
 qc r5
 (fun r5=>
 (some r5.1))
 (qg k)
 else
 (some false)
 else
 if((d0 == (104:Int))=true)then
 if(((((List.length d2):Nat):Int) != (2:Int))=false)then
 Option.bind (qp k d1) fun r4=>
 if((!r4)=true)then
 (some false)
 else
 Option.bind (qr k k (2:Int) true true false false (0:Int) f0 f1 f2 f3 f4 d0 d1 d2 d3 d4 d5 d6 d7 d8 d9 d10 d11 d12) fun r5=>
 qc r5
 (fun r5=>
 (some r5.1))
 (qg k)
 else
 (some false)
 else
 if((d0 == (100:Int))=true)then
 if(((((List.length d2):Nat):Int) != (2:Int))=false)then
 Option.bind (qp k d1) fun r4=>
 if((!r4)=true)then
 (some false)
 else
 Option.bind (qr k k (2:Int) false false false true (0:Int) f0 f1 f2 f3 f4 d0 d1 d2 d3 d4 d5 d6 d7 d8 d9 d10 d11 d12) fun r5=>
 qc r5
 (fun r5=>
 (some r5.1))
 (qg k)
 else
 (some false)
 else
 if((d0 == (115:Int))=true)then
 if(((((List.length d2):Nat):Int) != (4:Int))=false)then
 Option.bind (qp k d1) fun r4=>
 if((!r4)=true)then
 (some false)
 else
 Option.bind (qr k k (4:Int) false false false true (0:Int) f0 f1 f2 f3 f4 d0 d1 d2 d3 d4 d5 d6 d7 d8 d9 d10 d11 d12) fun r5=>
 qc r5
 (fun r5=>
 (some r5.1))
 (qg k)
 else
 (some false)
 else
 (some false)
def qdr:Nat→List ByteArray→List DvT→Int→Int→Int→Int→ByteArray→List Int→Int→Int→Int→Int→List (Int×Int)→List Int→ByteArray→Int→List (Int×Int)→List (Int×Int)→Option (Bool)
 | 0,_,_,_,_,_,_,_,_,_,_,_,_,_,_,_,_,_,_=>none
 | k+1,f0,f1,f2,f3,f4,d0,d1,d2,d3,d4,d5,d6,d7,d8,d9,d10,d11,d12=>qfT k f0 f1 f2 f3 f4 d0 d1 d2 d3 d4 d5 d6 d7 d8 d9 d10 d11 d12
def qzz:Nat→Inst:=mkI 68 ⟨[.g [.lf (.sl .str),.lf (.sl qF),.lf (.int .i64),.lf (.int .i64),.lf (.int .i64)],.g [.lf (.int .u8),.lf .str,.lf (.sl (.int .i64)),.lf (.int .i64),.lf (.int .i64),.lf (.int .i64),.lf (.int .i64),.lf cE,.lf (.sl (.int .i64)),.lf .str,.lf (.int .u8),.lf cE,.lf cE]],[]⟩ [⟨[vB],[]⟩] fun k x=>qdr k x.1 x.2.1 x.2.2.1 x.2.2.2.1 x.2.2.2.2.1 x.2.2.2.2.2.1 x.2.2.2.2.2.2.1 x.2.2.2.2.2.2.2.1 x.2.2.2.2.2.2.2.2.1 x.2.2.2.2.2.2.2.2.2.1 x.2.2.2.2.2.2.2.2.2.2.1 x.2.2.2.2.2.2.2.2.2.2.2.1 x.2.2.2.2.2.2.2.2.2.2.2.2.1 x.2.2.2.2.2.2.2.2.2.2.2.2.2.1 x.2.2.2.2.2.2.2.2.2.2.2.2.2.2.1 x.2.2.2.2.2.2.2.2.2.2.2.2.2.2.2.1 x.2.2.2.2.2.2.2.2.2.2.2.2.2.2.2.2.1 x.2.2.2.2.2.2.2.2.2.2.2.2.2.2.2.2.2
theorem quX (k:Nat):qat (call cf k) [qqw k,qn6 k,qzg k,qzn k,qzu k,qzy k]:=
 ac (qqx k) (ac (qm7 k) (ac (qBs k) (ac (qBt k) (ac (quW k) (ac (qBz k) a0)))))
def qzA (k:Nat):LInst:=mkL 1 [⟨[(2,.a (.ptr 0 0 0)),(3,.a (.ptr 1 0 0)),(5,vI),(6,vB),(7,vB),(8,vB),(9,vB),(10,vI)],[(0,some (.raw [[.lf (.sl .str),.lf (.sl qF),.lf (.int .i64),.lf (.int .i64),.lf (.int .i64)]] 5 27 true false false)),(1,some (.raw [[.lf (.int .u8),.lf .str,.lf (.sl (.int .i64)),.lf (.int .i64),.lf (.int .i64),.lf (.int .i64),.lf (.int .i64),.lf cE,.lf (.sl (.int .i64)),.lf .str,.lf (.int .u8),.lf cE,.lf cE]] 13 48 true false false))],2⟩] [⟨none,⟨[(4,vB)],[(0,some (.raw [[.lf (.sl .str),.lf (.sl qF),.lf (.int .i64),.lf (.int .i64),.lf (.int .i64)]] 5 27 true false false)),(1,some (.raw [[.lf (.int .u8),.lf .str,.lf (.sl (.int .i64)),.lf (.int .i64),.lf (.int .i64),.lf (.int .i64),.lf (.int .i64),.lf cE,.lf (.sl (.int .i64)),.lf .str,.lf (.int .u8),.lf cE,.lf cE]] 13 48 true false false))],2⟩⟩,⟨some 1,⟨[(2,.a (.ptr 0 0 0)),(3,.a (.ptr 1 0 0)),(6,vB),(7,vB),(8,vB),(9,vB)],[(0,some (.raw [[.lf (.sl .str),.lf (.sl qF),.lf (.int .i64),.lf (.int .i64),.lf (.int .i64)]] 5 27 true false false)),(1,some (.raw [[.lf (.int .u8),.lf .str,.lf (.sl (.int .i64)),.lf (.int .i64),.lf (.int .i64),.lf (.int .i64),.lf (.int .i64),.lf cE,.lf (.sl (.int .i64)),.lf .str,.lf (.int .u8),.lf cE,.lf cE]] 13 48 true false false))],2⟩⟩] (fun n x=>qr k n x.1 x.2.1 x.2.2.1 x.2.2.2.1 x.2.2.2.2.1 x.2.2.2.2.2.1 x.2.2.2.2.2.2.1 x.2.2.2.2.2.2.2.1 x.2.2.2.2.2.2.2.2.1 x.2.2.2.2.2.2.2.2.2.1 x.2.2.2.2.2.2.2.2.2.2.1 x.2.2.2.2.2.2.2.2.2.2.2.1 x.2.2.2.2.2.2.2.2.2.2.2.2.1 x.2.2.2.2.2.2.2.2.2.2.2.2.2.1 x.2.2.2.2.2.2.2.2.2.2.2.2.2.2.1 x.2.2.2.2.2.2.2.2.2.2.2.2.2.2.2.1 x.2.2.2.2.2.2.2.2.2.2.2.2.2.2.2.2.1 x.2.2.2.2.2.2.2.2.2.2.2.2.2.2.2.2.2.1 x.2.2.2.2.2.2.2.2.2.2.2.2.2.2.2.2.2.2.1 x.2.2.2.2.2.2.2.2.2.2.2.2.2.2.2.2.2.2.2.1 x.2.2.2.2.2.2.2.2.2.2.2.2.2.2.2.2.2.2.2.2.1 x.2.2.2.2.2.2.2.2.2.2.2.2.2.2.2.2.2.2.2.2.2.1 x.2.2.2.2.2.2.2.2.2.2.2.2.2.2.2.2.2.2.2.2.2.2.1 x.2.2.2.2.2.2.2.2.2.2.2.2.2.2.2.2.2.2.2.2.2.2.2) k
theorem qzB (k:Nat):LIo 68 Tryz.f68 0 k (qzA k):=
 lpk [] (quX k) l0 (fun _=>rfl) (by kernel_rfl) fun n x=>by kernel_rfl
theorem qBA:∀k,qe (call cf k) (qzz k):=
 fnk 0 [1] Tryz.func68 (fun k=>(quX k)) (fun k=>(lc (qzB k) l0)) ⟨rfl,rfl,⟨rfl,Nat.le_of_ble_eq_true rfl⟩,rfl⟩ (fun _=>rfl) (by kernel_rfl) fun k x=>by kernel_rfl

def qbC (k:Nat) (rec:ByteArray→List ByteArray→Int→Option ((Bool) ⊕ (Unit))) (s:ByteArray) (l:List ByteArray) (i:Int):Option ((Bool) ⊕ (Unit)):=
 if((decide (i<(((List.length l):Nat):Int)))=true)then
 if((0:Int)≤i)then
 Option.bind (l)[(Int.toNat i)]? fun x2=>
 if(((Array.toList (ByteArray.data x2)) == (Array.toList (ByteArray.data s)))=true)then
 (some (Sum.inl true))
 else
 rec s l (IntKind.wrap .i64 (i+(1:Int)))
 else
 none
 else
 (some (Sum.inr ()))
def qaD (k n:Nat):ByteArray→List ByteArray→Int→Option ((Bool) ⊕ (Unit)):=Nat.rec (fun _ _ _=>none) (fun _ r=>qbC k r) n
def qgv (k:Nat) (s:ByteArray) (l:List ByteArray):Option (Bool):=
 Option.bind (qaD k k s l (0:Int)) fun r6=>
 qc r6
 (fun r6=>
 (some r6))
 (fun r6=>
 (some false))
def qdN:Nat→ByteArray→List ByteArray→Option (Bool)
 | 0,_,_=>none
 | k+1,s,l=>qgv k s l
def qzC:Nat→Inst:=mkI 127 ⟨[vS,vR],[]⟩ [⟨[vB],[]⟩] fun k x=>qdN k x.1 x.2
def qzD (k:Nat):LInst:=mkL 0 [⟨[(0,vS),(1,vR),(5,vI)],[],0⟩] [⟨none,⟨[(4,vB)],[],0⟩⟩,⟨some 0,⟨[],[],0⟩⟩] (fun n x=>qaD k n x.1 x.2.1 x.2.2) k
theorem qzE (k:Nat):LIo 127 Tryz.f127 0 k (qzD k):=
 lpk [] a0 l0 (fun _=>rfl) (by kernel_rfl) fun n x=>by kernel_rfl
theorem qBB:∀k,qe (call cf k) (qzC k):=
 fnk 0 [0] Tryz.func127 (fun k=>a0) (fun k=>(lc (qzE k) l0)) ⟨rfl,rfl,⟨rfl,Nat.le_of_ble_eq_true rfl⟩,rfl⟩ (fun _=>rfl) (by kernel_rfl) fun k x=>by kernel_rfl

def qba (k:Nat) (rec:List ByteArray→Int→Option ((Bool) ⊕ (Unit))) (l:List ByteArray) (i:Int):Option ((Bool) ⊕ (Unit)):=
 if((decide (i<(((List.length l):Nat):Int)))=true)then
 if((0:Int)≤i)then
 Option.bind (l)[(Int.toNat i)]? fun x1=>
 if(((0:Int)≤(0:Int))∧(((0:Int)≤i)∧(i≤(((List.length l):Nat):Int))))then
 Option.bind (qdN k x1 (List.take (Int.toNat i) l)) fun r6=>
 if(r6=true)then
 (some (Sum.inl true))
 else
 rec l (IntKind.wrap .i64 (i+(1:Int)))
 else
 none
 else
 none
 else
 (some (Sum.inr ()))
def qan (k n:Nat):List ByteArray→Int→Option ((Bool) ⊕ (Unit)):=Nat.rec (fun _ _=>none) (fun _ r=>qba k r) n
def qfU (k:Nat) (l:List ByteArray):Option (Bool):=
 Option.bind (qan k k l (0:Int)) fun r6=>
 qc r6
 (fun r6=>
 (some r6))
 (fun r6=>
 (some false))
def qb2:Nat→List ByteArray→Option (Bool)
 | 0,_=>none
 | k+1,l=>qfU k l
def qzF:Nat→Inst:=mkI 70 ⟨[vR],[]⟩ [⟨[vB],[]⟩] fun k x=>qb2 k x
theorem quY (k:Nat):qat (call cf k) [qzC k]:=
 ac (qBB k) a0
def qzG (k:Nat):LInst:=mkL 0 [⟨[(0,vR),(3,vI)],[],0⟩] [⟨none,⟨[(2,vB)],[],0⟩⟩,⟨some 0,⟨[],[],0⟩⟩] (fun n x=>qan k n x.1 x.2) k
theorem qzH (k:Nat):LIo 70 Tryz.f70 0 k (qzG k):=
 lpk [] (quY k) l0 (fun _=>rfl) (by kernel_rfl) fun n x=>by kernel_rfl
theorem qBC:∀k,qe (call cf k) (qzF k):=
 fnk 0 [0] Tryz.func70 (fun k=>(quY k)) (fun k=>(lc (qzH k) l0)) ⟨rfl,rfl,⟨rfl,Nat.le_of_ble_eq_true rfl⟩,rfl⟩ (fun _=>rfl) (by kernel_rfl) fun k x=>by kernel_rfl

def qeF (k:Nat) (kind:Int):Option (Bool):=
 if((kind == (118:Int))=false)then
 if((kind == (101:Int))=false)then
 if((kind == (104:Int))=false)then
 if((kind == (99:Int))=false)then
 if((kind == (108:Int))=false)then
 (some (kind == (116:Int)))
 else
 (some true)
 else
 (some true)
 else
 (some true)
 else
 (some true)
 else
 (some true)
def qdw:Nat→Int→Option (Bool)
 | 0,_=>none
 | k+1,kind=>qeF k kind
def qzI:Nat→Inst:=mkI 128 ⟨[.a (.lf (.int .u8))],[]⟩ [⟨[vB],[]⟩] fun k x=>qdw k x
theorem qBD:∀k,qe (call cf k) (qzI k):=
 fnk 0 [] Tryz.func128 (fun k=>a0) (fun k=>l0) ⟨rfl,rfl,⟨rfl,Nat.le_of_ble_eq_true rfl⟩,rfl⟩ (fun _=>rfl) (by kernel_rfl) fun k x=>by kernel_rfl

def qcx (k:Nat) (rec:Int→Nat→Int→List ByteArray→List DvT→Int→Int→Int→List Int→Option (Int×Nat×List ByteArray×List DvT×Int×Int×Int×List Int)) (n:Int) (b:Nat) (i:Int) (f0:List ByteArray) (f1:List DvT) (f2:Int) (f3:Int) (f4:Int) (bs:List Int):Option (Int×Nat×List ByteArray×List DvT×Int×Int×Int×List Int):=
 if((decide (i<(((List.length f1):Nat):Int)))=true)then
 if((0:Int)≤i)then
 Option.bind (f1)[(Int.toNat i)]? fun x1=>
 Option.bind (qdw k x1.1) fun r8=>
 if(r8=true)then
 if(b≤(List.length bs))then
 if(((b+(List.length (List.take 1 (n:: []))))*8)≤140737488355328)then
 rec (IntKind.wrap .i64 (n+(1:Int))) (b+(List.length (List.take 1 (n:: [])))) (IntKind.wrap .i64 (i+(1:Int))) f0 f1 f2 f3 f4 ((List.take b bs)++(List.take 1 (n:: [])))
 else
 none
 else
 none
 else
 if(b≤(List.length bs))then
 if(((b+1)*8)≤140737488355328)then
 rec n (b+1) (IntKind.wrap .i64 (i+(1:Int))) f0 f1 f2 f3 f4 ((List.take b bs)++(List.take 1 ((-(1:Int)):: [])))
 else
 none
 else
 none
 else
 none
 else
 (some (n,b,f0,f1,f2,f3,f4,bs))
def qbD (k n:Nat):Int→Nat→Int→List ByteArray→List DvT→Int→Int→Int→List Int→Option (Int×Nat×List ByteArray×List DvT×Int×Int×Int×List Int):=Nat.rec (fun _ _ _ _ _ _ _ _ _=>none) (fun _ r=>qcx k r) n
def qfV (k:Nat) (f0:List ByteArray) (f1:List DvT) (f2:Int) (f3:Int) (f4:Int):Option (Int×List Int):=
 Option.bind (qbD k k (IntKind.wrap .i64 ((((List.length f0):Nat):Int)-(1:Int))) 0 (0:Int) f0 f1 f2 f3 f4 []) fun r8=>
 if((0+r8.2.1)≤(List.length r8.2.2.2.2.2.2.2))then
 (some (r8.1,(List.take r8.2.1 r8.2.2.2.2.2.2.2)))
 else
 none
def qcA:Nat→List ByteArray→List DvT→Int→Int→Int→Option (Int×List Int)
 | 0,_,_,_,_,_=>none
 | k+1,f0,f1,f2,f3,f4=>qfV k f0 f1 f2 f3 f4
def qtw:Nat→Inst:=mkI 71 ⟨[.g [.lf (.sl .str),.lf (.sl qF),.lf (.int .i64),.lf (.int .i64),.lf (.int .i64)]],[]⟩ [⟨[vI,vJ],[]⟩] fun k x=>qcA k x.1 x.2.1 x.2.2.1 x.2.2.2.1 x.2.2.2.2
theorem quZ (k:Nat):qat (call cf k) [qzI k]:=
 ac (qBD k) a0
def qzJ (k:Nat):LInst:=mkL 0 [⟨[(1,.a (.ptr 0 0 0)),(4,vI),(5,.a (.smz 1)),(6,vI)],[(0,some (.raw [[.lf (.sl .str),.lf (.sl qF),.lf (.int .i64),.lf (.int .i64),.lf (.int .i64)]] 5 27 true false false)),(1,some (.arr (.int .i64) 1 3 false))],2⟩] [⟨some 0,⟨[(4,vI),(5,.a (.smz 1))],[(0,some (.raw [[.lf (.sl .str),.lf (.sl qF),.lf (.int .i64),.lf (.int .i64),.lf (.int .i64)]] 5 27 true false false)),(1,some (.arr (.int .i64) 1 3 false))],2⟩⟩] (fun n x=>qbD k n x.1 x.2.1 x.2.2.1 x.2.2.2.1 x.2.2.2.2.1 x.2.2.2.2.2.1 x.2.2.2.2.2.2.1 x.2.2.2.2.2.2.2.1 x.2.2.2.2.2.2.2.2) k
theorem qzK (k:Nat):LIo 71 Tryz.f71 0 k (qzJ k):=
 lpk [] (quZ k) l0 (fun _=>rfl) (by kernel_rfl) fun n x=>by kernel_rfl
theorem qu0:∀k,qe (call cf k) (qtw k):=
 fnk 0 [0] Tryz.func71 (fun k=>(quZ k)) (fun k=>(lc (qzK k) l0)) ⟨rfl,rfl,⟨rfl,Nat.le_of_ble_eq_true rfl⟩,rfl⟩ (fun _=>rfl) (by kernel_rfl) fun k x=>by kernel_rfl

def qbb (k:Nat) (rec:Nat→Int→List ByteArray→List DvT→Int→Int→Int→List ByteArray→Option ((Int×List ByteArray×List DvT×Int×Int×Int×List ByteArray) ⊕ (Nat×List ByteArray×List DvT×Int×Int×Int×List ByteArray))) (qbE:Nat) (i:Int) (f0:List ByteArray) (f1:List DvT) (f2:Int) (f3:Int) (f4:Int) (namess:List ByteArray):Option ((Int×List ByteArray×List DvT×Int×Int×Int×List ByteArray) ⊕ (Nat×List ByteArray×List DvT×Int×Int×Int×List ByteArray)):=
 if((decide (i<(((List.length f1):Nat):Int)))=true)then
 if((0:Int)≤i)then
 Option.bind (f1)[(Int.toNat i)]? fun x1=>
 Option.bind (qdr k f0 f1 f2 f3 f4 x1.1 x1.2.1 x1.2.2.1 x1.2.2.2.1 x1.2.2.2.2.1.1 x1.2.2.2.2.1.2 x1.2.2.2.2.2.1.1 x1.2.2.2.2.2.1.2.1 x1.2.2.2.2.2.1.2.2 x1.2.2.2.2.2.2.1 x1.2.2.2.2.2.2.2.1 x1.2.2.2.2.2.2.2.2.1 x1.2.2.2.2.2.2.2.2.2) fun r4=>
 if((!r4)=true)then
 (some (Sum.inl ((90:Int),f0,f1,f2,f3,f4,namess)))
 else
 if((0:Int)≤i)then
 Option.bind (f1)[(Int.toNat i)]? fun x2=>
 if(qbE≤(List.length namess))then
 if(((qbE+(List.length (List.take 1 (x2.2.1:: []))))*16)≤140737488355328)then
 rec (qbE+(List.length (List.take 1 (x2.2.1:: [])))) (IntKind.wrap .i64 (i+(1:Int))) f0 f1 f2 f3 f4 ((List.take qbE namess)++(List.take 1 (x2.2.1:: [])))
 else
 none
 else
 none
 else
 none
 else
 none
 else
 (some (Sum.inr (qbE,f0,f1,f2,f3,f4,namess)))
def qao (k n:Nat):Nat→Int→List ByteArray→List DvT→Int→Int→Int→List ByteArray→Option ((Int×List ByteArray×List DvT×Int×Int×Int×List ByteArray) ⊕ (Nat×List ByteArray×List DvT×Int×Int×Int×List ByteArray)):=Nat.rec (fun _ _ _ _ _ _ _ _=>none) (fun _ r=>qbb k r) n
def qbc (k:Nat) (rec:Nat→Int→List ByteArray→List DvT→Int→Int→Int→List ByteArray→Option ((Int×List ByteArray×List DvT×Int×Int×Int×List ByteArray) ⊕ (Nat×List ByteArray×List DvT×Int×Int×Int×List ByteArray))) (qbE:Nat) (i:Int) (f0:List ByteArray) (f1:List DvT) (f2:Int) (f3:Int) (f4:Int) (namess:List ByteArray):Option ((Int×List ByteArray×List DvT×Int×Int×Int×List ByteArray) ⊕ (Nat×List ByteArray×List DvT×Int×Int×Int×List ByteArray)):=
 if((decide (i<(((List.length f0):Nat):Int)))=true)then
 if((0:Int)≤i)then
 Option.bind (f0)[(Int.toNat i)]? fun x1=>
 Option.bind (qp k x1) fun r5=>
 if((!r5)=true)then
 (some (Sum.inl ((90:Int),f0,f1,f2,f3,f4,namess)))
 else
 rec qbE (IntKind.wrap .i64 (i+(1:Int))) f0 f1 f2 f3 f4 namess
 else
 none
 else
 (some (Sum.inr (qbE,f0,f1,f2,f3,f4,namess)))
def qO (k n:Nat):Nat→Int→List ByteArray→List DvT→Int→Int→Int→List ByteArray→Option ((Int×List ByteArray×List DvT×Int×Int×Int×List ByteArray) ⊕ (Nat×List ByteArray×List DvT×Int×Int×Int×List ByteArray)):=Nat.rec (fun _ _ _ _ _ _ _ _=>none) (fun _ r=>qbc k r) n
def qfW (k:Nat) (f0:List ByteArray) (f1:List DvT) (f2:Int) (f3:Int) (f4:Int):Option (Int):=
 Option.bind (qaJ k f2 f3) fun r3=>
 if((!r3)=false)then
 if((decide (f2<(1:Int)))=false)then
 if((decide (f4<(1:Int)))=false)then
 if((decide (f4>(2:Int)))=false)then
 if((decide ((((List.length f0):Nat):Int)<(1:Int)))=false)then
 if((decide ((((List.length f0):Nat):Int)>(32:Int)))=false)then
 if((decide ((((List.length f1):Nat):Int)>(64:Int)))=false)then
 Option.bind (f0)[0]? fun x=>
 if((!((Array.toList (ByteArray.data x)) == (Array.toList (ByteArray.data (ByteArray.mk (List.toArray (48:: [])))))))=true)then
 (some (90:Int))
 else
 Option.bind (qao k k 0 (0:Int) f0 f1 f2 f3 f4 []) fun r4=>
 qc r4
 (fun r4=>
 (some r4.1))
 (fun r4=>
 Option.bind (qO k k r4.1 (0:Int) r4.2.1 r4.2.2.1 r4.2.2.2.1 r4.2.2.2.2.1 r4.2.2.2.2.2.1 r4.2.2.2.2.2.2) fun r5=>
 qc r5
 (fun r5=>
 (some r5.1))
 (fun r5=>
 if((0+r5.1)≤(List.length r5.2.2.2.2.2.2))then
 Option.bind (qb2 k (List.take r5.1 r5.2.2.2.2.2.2)) fun r6=>
 if(r6=false)then
 Option.bind (qb2 k r5.2.1) fun r7=>
 if(r7=true)then
 (some (90:Int))
 else
 Option.bind (qcA k r5.2.1 r5.2.2.1 r5.2.2.2.1 r5.2.2.2.2.1 r5.2.2.2.2.2.1) fun r8=>
 if((decide (r8.1>(48:Int)))=true)then
 (some (5:Int))
 else
 (some (0:Int))
 else
 (some (90:Int))
 else
 none))
 else
 (some (90:Int))
 else
 (some (90:Int))
 else
 (some (90:Int))
 else
 (some (90:Int))
 else
 (some (90:Int))
 else
 (some (90:Int))
 else
 (some (90:Int))
def qee:Nat→List ByteArray→List DvT→Int→Int→Int→Option (Int)
 | 0,_,_,_,_,_=>none
 | k+1,f0,f1,f2,f3,f4=>qfW k f0 f1 f2 f3 f4
def qzL:Nat→Inst:=mkI 24 ⟨[.g [.lf (.sl .str),.lf (.sl qF),.lf (.int .i64),.lf (.int .i64),.lf (.int .i64)]],[]⟩ [⟨[vI],[]⟩] fun k x=>qee k x.1 x.2.1 x.2.2.1 x.2.2.2.1 x.2.2.2.2
theorem qqA (k:Nat):qat (call cf k) [qn6 k,qzz k,qqw k,qzF k,qtw k]:=
 ac (qm7 k) (ac (qBA k) (ac (qqx k) (ac (qBC k) (ac (qu0 k) a0))))
def qzM (k:Nat):LInst:=mkL 0 [⟨[(1,.a (.ptr 0 0 0)),(3,.a (.smz 1)),(4,vI)],[(0,some (.raw [[.lf (.sl .str),.lf (.sl qF),.lf (.int .i64),.lf (.int .i64),.lf (.int .i64)]] 5 27 true false false)),(1,some (.arr .str 1 9 false))],2⟩] [⟨none,⟨[(2,vI)],[(0,some (.raw [[.lf (.sl .str),.lf (.sl qF),.lf (.int .i64),.lf (.int .i64),.lf (.int .i64)]] 5 27 true false false)),(1,some (.arr .str 1 9 false))],2⟩⟩,⟨some 0,⟨[(1,.a (.ptr 0 0 0)),(3,.a (.smz 1))],[(0,some (.raw [[.lf (.sl .str),.lf (.sl qF),.lf (.int .i64),.lf (.int .i64),.lf (.int .i64)]] 5 27 true false false)),(1,some (.arr .str 1 9 false))],2⟩⟩] (fun n x=>qao k n x.1 x.2.1 x.2.2.1 x.2.2.2.1 x.2.2.2.2.1 x.2.2.2.2.2.1 x.2.2.2.2.2.2.1 x.2.2.2.2.2.2.2) k
theorem qr1 (k:Nat):LIo 24 Tryz.f24 0 k (qzM k):=
 lpk [] (qqA k) l0 (fun _=>rfl) (by kernel_rfl) fun n x=>by kernel_rfl
def qzN (k:Nat):LInst:=mkL 2 [⟨[(1,.a (.ptr 0 0 0)),(3,.a (.smz 1)),(5,vI)],[(0,some (.raw [[.lf (.sl .str),.lf (.sl qF),.lf (.int .i64),.lf (.int .i64),.lf (.int .i64)]] 5 27 true false false)),(1,some (.arr .str 1 9 false))],2⟩] [⟨none,⟨[(2,vI)],[(0,some (.raw [[.lf (.sl .str),.lf (.sl qF),.lf (.int .i64),.lf (.int .i64),.lf (.int .i64)]] 5 27 true false false)),(1,some (.arr .str 1 9 false))],2⟩⟩,⟨some 2,⟨[(1,.a (.ptr 0 0 0)),(3,.a (.smz 1))],[(0,some (.raw [[.lf (.sl .str),.lf (.sl qF),.lf (.int .i64),.lf (.int .i64),.lf (.int .i64)]] 5 27 true false false)),(1,some (.arr .str 1 9 false))],2⟩⟩] (fun n x=>qO k n x.1 x.2.1 x.2.2.1 x.2.2.2.1 x.2.2.2.2.1 x.2.2.2.2.2.1 x.2.2.2.2.2.2.1 x.2.2.2.2.2.2.2) k
theorem qzO (k:Nat):LIo 24 Tryz.f24 0 k (qzN k):=
 lpk [] (qqA k) (lc (qr1 k) l0) (fun _=>rfl) (by kernel_rfl) fun n x=>by kernel_rfl
theorem qBE:∀k,qe (call cf k) (qzL k):=
 fnk 0 [0,2] Tryz.func24 (fun k=>(qqA k)) (fun k=>(lc (qr1 k) (lc (qzO k) l0))) ⟨rfl,rfl,⟨rfl,Nat.le_of_ble_eq_true rfl⟩,rfl⟩ (fun _=>rfl) (by kernel_rfl) fun k x=>by kernel_rfl

def qcE (k:Nat) (rec:Nat→Int→List ByteArray→List DvT→Int→Int→Int→List Int→Option (Nat×List ByteArray×List DvT×Int×Int×Int×List Int)) (l:Nat) (i:Int) (f0:List ByteArray) (f1:List DvT) (f2:Int) (f3:Int) (f4:Int) (ls:List Int):Option (Nat×List ByteArray×List DvT×Int×Int×Int×List Int):=
 if((decide (i<(((List.length f1):Nat):Int)))=true)then
 if((0:Int)≤i)then
 Option.bind (f1)[(Int.toNat i)]? fun x=>
 if((x.1 == (100:Int))=false)then
 if((0:Int)≤i)then
 Option.bind (f1)[(Int.toNat i)]? fun x1=>
 if((x1.1 == (115:Int))=true)then
 if(l≤(List.length ls))then
 if(((l+(List.length (List.take 1 (i:: []))))*8)≤140737488355328)then
 rec (l+(List.length (List.take 1 (i:: [])))) (IntKind.wrap .i64 (i+(1:Int))) f0 f1 f2 f3 f4 ((List.take l ls)++(List.take 1 (i:: [])))
 else
 none
 else
 none
 else
 rec l (IntKind.wrap .i64 (i+(1:Int))) f0 f1 f2 f3 f4 ls
 else
 none
 else
 if(l≤(List.length ls))then
 if(((l+(List.length (List.take 1 (i:: []))))*8)≤140737488355328)then
 rec (l+(List.length (List.take 1 (i:: [])))) (IntKind.wrap .i64 (i+(1:Int))) f0 f1 f2 f3 f4 ((List.take l ls)++(List.take 1 (i:: [])))
 else
 none
 else
 none
 else
 none
 else
 (some (l,f0,f1,f2,f3,f4,ls))
def qbQ (k n:Nat):Nat→Int→List ByteArray→List DvT→Int→Int→Int→List Int→Option (Nat×List ByteArray×List DvT×Int×Int×Int×List Int):=Nat.rec (fun _ _ _ _ _ _ _ _=>none) (fun _ r=>qcE k r) n
def qgw (k:Nat) (f0:List ByteArray) (f1:List DvT) (f2:Int) (f3:Int) (f4:Int):Option (List Int):=
 Option.bind (qbQ k k 0 (0:Int) f0 f1 f2 f3 f4 []) fun r5=>
 if((0+r5.1)≤(List.length r5.2.2.2.2.2.2))then
 (some (List.take r5.1 r5.2.2.2.2.2.2))
 else
 none
def qeG:Nat→List ByteArray→List DvT→Int→Int→Int→Option (List Int)
 | 0,_,_,_,_,_=>none
 | k+1,f0,f1,f2,f3,f4=>qgw k f0 f1 f2 f3 f4
def qzP:Nat→Inst:=mkI 80 ⟨[.g [.lf (.sl .str),.lf (.sl qF),.lf (.int .i64),.lf (.int .i64),.lf (.int .i64)]],[]⟩ [⟨[vJ],[]⟩] fun k x=>qeG k x.1 x.2.1 x.2.2.1 x.2.2.2.1 x.2.2.2.2
def qzQ (k:Nat):LInst:=mkL 0 [⟨[(1,.a (.ptr 0 0 0)),(3,.a (.smz 1)),(4,vI)],[(0,some (.raw [[.lf (.sl .str),.lf (.sl qF),.lf (.int .i64),.lf (.int .i64),.lf (.int .i64)]] 5 27 true false false)),(1,some (.arr (.int .i64) 1 3 false))],2⟩] [⟨some 0,⟨[(3,.a (.smz 1))],[(0,some (.raw [[.lf (.sl .str),.lf (.sl qF),.lf (.int .i64),.lf (.int .i64),.lf (.int .i64)]] 5 27 true false false)),(1,some (.arr (.int .i64) 1 3 false))],2⟩⟩] (fun n x=>qbQ k n x.1 x.2.1 x.2.2.1 x.2.2.2.1 x.2.2.2.2.1 x.2.2.2.2.2.1 x.2.2.2.2.2.2.1 x.2.2.2.2.2.2.2) k
theorem qzR (k:Nat):LIo 80 Tryz.f80 0 k (qzQ k):=
 lpk [] a0 l0 (fun _=>rfl) (by kernel_rfl) fun n x=>by kernel_rfl
theorem qBF:∀k,qe (call cf k) (qzP k):=
 fnk 0 [0] Tryz.func80 (fun k=>a0) (fun k=>(lc (qzR k) l0)) ⟨rfl,rfl,⟨rfl,Nat.le_of_ble_eq_true rfl⟩,rfl⟩ (fun _=>rfl) (by kernel_rfl) fun k x=>by kernel_rfl

def qaS (k:Nat) (rec:List Int→Int→Option ((Bool) ⊕ (Unit))) (l:List Int) (i:Int):Option ((Bool) ⊕ (Unit)):=
 if((decide (i<(((List.length l):Nat):Int)))=true)then
 if((0:Int)≤i)then
 Option.bind (l)[(Int.toNat i)]? fun x=>
 if((decide (x>(1000000000000000000:Int)))=false)then
 if((0:Int)≤i)then
 Option.bind (l)[(Int.toNat i)]? fun x1=>
 if((decide (x1<(-(1000000000000000000:Int))))=true)then
 (some (Sum.inl false))
 else
 rec l (IntKind.wrap .i64 (i+(1:Int)))
 else
 none
 else
 (some (Sum.inl false))
 else
 none
 else
 (some (Sum.inr ()))
def qaf (k n:Nat):List Int→Int→Option ((Bool) ⊕ (Unit)):=Nat.rec (fun _ _=>none) (fun _ r=>qaS k r) n
def qfs (k:Nat) (l:List Int):Option (Bool):=
 Option.bind (qaf k k l (0:Int)) fun r6=>
 qc r6
 (fun r6=>
 (some r6))
 (fun r6=>
 (some true))
def qc8:Nat→List Int→Option (Bool)
 | 0,_=>none
 | k+1,l=>qfs k l
def qzS:Nat→Inst:=mkI 81 ⟨[vJ],[]⟩ [⟨[vB],[]⟩] fun k x=>qc8 k x
def qzT (k:Nat):LInst:=mkL 0 [⟨[(0,vJ),(3,vI)],[],0⟩] [⟨none,⟨[(2,vB)],[],0⟩⟩,⟨some 0,⟨[],[],0⟩⟩] (fun n x=>qaf k n x.1 x.2) k
theorem qzU (k:Nat):LIo 81 Tryz.f81 0 k (qzT k):=
 lpk [] a0 l0 (fun _=>rfl) (by kernel_rfl) fun n x=>by kernel_rfl
theorem qBG:∀k,qe (call cf k) (qzS k):=
 fnk 0 [0] Tryz.func81 (fun k=>a0) (fun k=>(lc (qzU k) l0)) ⟨rfl,rfl,⟨rfl,Nat.le_of_ble_eq_true rfl⟩,rfl⟩ (fun _=>rfl) (by kernel_rfl) fun k x=>by kernel_rfl

def qkq (k:Nat) (m0:ByteArray) (m1:Int) (m2:List (Int×Int)) (m3:List (Int×Int)) (k1:Int):Option (Int):=
 Option.bind (qh k m0 m1 m2 m3) fun r8=>
 if((!r8)=true)then
 (some (50:Int))
 else
 if((decide (k1<(0:Int)))=false)then
 if((decide (k1>(IntKind.wrap .i64 ((((List.length m2):Nat):Int)-(1:Int)))))=true)then
 (some (111:Int))
 else
 (some (0:Int))
 else
 (some (111:Int))
def qds:Nat→ByteArray→Int→List (Int×Int)→List (Int×Int)→Int→Option (Int)
 | 0,_,_,_,_,_=>none
 | k+1,m0,m1,m2,m3,k1=>qkq k m0 m1 m2 m3 k1
def qzV:Nat→Inst:=mkI 82 ⟨[.g [.lf .str,.lf (.int .u8),.lf cE,.lf cE],vI],[]⟩ [⟨[vI],[]⟩] fun k x=>qds k x.1 x.2.1 x.2.2.1 x.2.2.2.1 x.2.2.2.2
theorem qBH:∀k,qe (call cf k) (qzV k):=
 fnk 0 [] Tryz.func82 (fun k=>(ac (quW k) a0)) (fun k=>l0) ⟨rfl,rfl,⟨rfl,Nat.le_of_ble_eq_true rfl⟩,rfl⟩ (fun _=>rfl) (by kernel_rfl) fun k x=>by kernel_rfl

def qbd (k:Nat) (rec:List Int→Int→List ByteArray→List DvT→Int→Int→Int→Int→List Int→List Int→List Int→Option ((Int×List ByteArray×List DvT×Int×Int×Int×Int×List Int×List Int×List Int) ⊕ (List ByteArray×List DvT×Int×Int×Int×Int×List Int×List Int×List Int))) (bent:List Int) (i:Int) (f0:List ByteArray) (f1:List DvT) (f2:Int) (f3:Int) (f4:Int) (st0:Int) (st1:List Int) (st2:List Int) (st3:List Int):Option ((Int×List ByteArray×List DvT×Int×Int×Int×Int×List Int×List Int×List Int) ⊕ (List ByteArray×List DvT×Int×Int×Int×Int×List Int×List Int×List Int)):=
 if((decide (i<(((List.length bent):Nat):Int)))=true)then
 if((0:Int)≤i)then
 Option.bind (bent)[(Int.toNat i)]? fun x=>
 if((0:Int)≤x)then
 Option.bind (f1)[(Int.toNat x)]? fun x1=>
 if((0:Int)≤i)then
 Option.bind (st3)[(Int.toNat i)]? fun x2=>
 Option.bind (qds k x1.2.2.2.2.2.2.1 x1.2.2.2.2.2.2.2.1 x1.2.2.2.2.2.2.2.2.1 x1.2.2.2.2.2.2.2.2.2 x2) fun r8=>
 if((r8 != (0:Int))=true)then
 (some (Sum.inl ((190:Int),f0,f1,f2,f3,f4,st0,st1,st2,st3)))
 else
 rec bent (IntKind.wrap .i64 (i+(1:Int))) f0 f1 f2 f3 f4 st0 st1 st2 st3
 else
 none
 else
 none
 else
 none
 else
 (some (Sum.inr (f0,f1,f2,f3,f4,st0,st1,st2,st3)))
def qW (k n:Nat):List Int→Int→List ByteArray→List DvT→Int→Int→Int→Int→List Int→List Int→List Int→Option ((Int×List ByteArray×List DvT×Int×Int×Int×Int×List Int×List Int×List Int) ⊕ (List ByteArray×List DvT×Int×Int×Int×Int×List Int×List Int×List Int)):=Nat.rec (fun _ _ _ _ _ _ _ _ _ _ _=>none) (fun _ r=>qbd k r) n
def qfX (k:Nat) (f0:List ByteArray) (f1:List DvT) (f2:Int) (f3:Int) (f4:Int) (st0:Int) (st1:List Int) (st2:List Int) (st3:List Int):Option (Int):=
 Option.bind (qee k f0 f1 f2 f3 f4) fun r3=>
 if((r3 != (0:Int))=true)then
 (some r3)
 else
 Option.bind (qcA k f0 f1 f2 f3 f4) fun r4=>
 Option.bind (qeG k f0 f1 f2 f3 f4) fun r5=>
 if((decide (st0<(0:Int)))=false)then
 if((decide (st0>(1000000000:Int)))=false)then
 if(((((List.length st1):Nat):Int) != r4.1)=false)then
 if(((((List.length st2):Nat):Int) != (((List.length f1):Nat):Int))=false)then
 if(((((List.length st3):Nat):Int) != (((List.length r5):Nat):Int))=true)then
 (some (190:Int))
 else
 Option.bind (qc8 k st1) fun r6=>
 if((!r6)=false)then
 Option.bind (qc8 k st2) fun r7=>
 if((!r7)=true)then
 (some (190:Int))
 else
 Option.bind (qW k k r5 (0:Int) f0 f1 f2 f3 f4 st0 st1 st2 st3) fun r8=>
 qc r8
 (fun r8=>
 (some r8.1))
 (fun r8=>
 (some (0:Int)))
 else
 (some (190:Int))
 else
 (some (190:Int))
 else
 (some (190:Int))
 else
 (some (190:Int))
 else
 (some (190:Int))
def qef:Nat→List ByteArray→List DvT→Int→Int→Int→Int→List Int→List Int→List Int→Option (Int)
 | 0,_,_,_,_,_,_,_,_,_=>none
 | k+1,f0,f1,f2,f3,f4,st0,st1,st2,st3=>qfX k f0 f1 f2 f3 f4 st0 st1 st2 st3
def qzW:Nat→Inst:=mkI 29 ⟨[.g [.lf (.sl .str),.lf (.sl qF),.lf (.int .i64),.lf (.int .i64),.lf (.int .i64)],.g [.lf (.int .i64),.lf (.sl (.int .i64)),.lf (.sl (.int .i64)),.lf (.sl (.int .i64))]],[]⟩ [⟨[vI],[]⟩] fun k x=>qef k x.1 x.2.1 x.2.2.1 x.2.2.2.1 x.2.2.2.2.1 x.2.2.2.2.2.1 x.2.2.2.2.2.2.1 x.2.2.2.2.2.2.2.1 x.2.2.2.2.2.2.2.2
theorem qu1 (k:Nat):qat (call cf k) [qzL k,qtw k,qzP k,qzS k,qzV k]:=
 ac (qBE k) (ac (qu0 k) (ac (qBF k) (ac (qBG k) (ac (qBH k) a0))))
def qzX (k:Nat):LInst:=mkL 0 [⟨[(2,.a (.ptr 0 0 0)),(3,.a (.ptr 1 0 0)),(8,vJ),(9,vI)],[(0,some (.raw [[.lf (.sl .str),.lf (.sl qF),.lf (.int .i64),.lf (.int .i64),.lf (.int .i64)]] 5 27 true false false)),(1,some (.raw [[.lf (.int .i64),.lf (.sl (.int .i64)),.lf (.sl (.int .i64)),.lf (.sl (.int .i64))]] 4 53 true false false))],2⟩] [⟨none,⟨[(4,vI)],[(0,some (.raw [[.lf (.sl .str),.lf (.sl qF),.lf (.int .i64),.lf (.int .i64),.lf (.int .i64)]] 5 27 true false false)),(1,some (.raw [[.lf (.int .i64),.lf (.sl (.int .i64)),.lf (.sl (.int .i64)),.lf (.sl (.int .i64))]] 4 53 true false false))],2⟩⟩,⟨some 0,⟨[],[(0,some (.raw [[.lf (.sl .str),.lf (.sl qF),.lf (.int .i64),.lf (.int .i64),.lf (.int .i64)]] 5 27 true false false)),(1,some (.raw [[.lf (.int .i64),.lf (.sl (.int .i64)),.lf (.sl (.int .i64)),.lf (.sl (.int .i64))]] 4 53 true false false))],2⟩⟩] (fun n x=>qW k n x.1 x.2.1 x.2.2.1 x.2.2.2.1 x.2.2.2.2.1 x.2.2.2.2.2.1 x.2.2.2.2.2.2.1 x.2.2.2.2.2.2.2.1 x.2.2.2.2.2.2.2.2.1 x.2.2.2.2.2.2.2.2.2.1 x.2.2.2.2.2.2.2.2.2.2) k
theorem qzY (k:Nat):LIo 29 Tryz.f29 0 k (qzX k):=
 lpk [] (qu1 k) l0 (fun _=>rfl) (by kernel_rfl) fun n x=>by kernel_rfl
theorem qBI:∀k,qe (call cf k) (qzW k):=
 fnk 0 [0] Tryz.func29 (fun k=>(qu1 k)) (fun k=>(lc (qzY k) l0)) ⟨rfl,rfl,⟨rfl,Nat.le_of_ble_eq_true rfl⟩,rfl⟩ (fun _=>rfl) (by kernel_rfl) fun k x=>by kernel_rfl

def qbR (k:Nat) (rec:ByteArray→Int→List ByteArray→List DvT→Int→Int→Int→Option ((Int×Int×List ByteArray×List DvT×Int×Int×Int) ⊕ (List ByteArray×List DvT×Int×Int×Int))) (name:ByteArray) (i:Int) (f0:List ByteArray) (f1:List DvT) (f2:Int) (f3:Int) (f4:Int):Option ((Int×Int×List ByteArray×List DvT×Int×Int×Int) ⊕ (List ByteArray×List DvT×Int×Int×Int)):=
 if((decide (i<(((List.length f1):Nat):Int)))=true)then
 if((0:Int)≤i)then
 Option.bind (f1)[(Int.toNat i)]? fun x5=>
 if(((Array.toList (ByteArray.data x5.2.1)) == (Array.toList (ByteArray.data name)))=true)then
 (some (Sum.inl (i,(0:Int),f0,f1,f2,f3,f4)))
 else
 rec name (IntKind.wrap .i64 (i+(1:Int))) f0 f1 f2 f3 f4
 else
 none
 else
 (some (Sum.inr (f0,f1,f2,f3,f4)))
def qaK (k n:Nat):ByteArray→Int→List ByteArray→List DvT→Int→Int→Int→Option ((Int×Int×List ByteArray×List DvT×Int×Int×Int) ⊕ (List ByteArray×List DvT×Int×Int×Int)):=Nat.rec (fun _ _ _ _ _ _ _=>none) (fun _ r=>qbR k r) n
def qgW (k:Nat) (f0:List ByteArray) (f1:List DvT) (f2:Int) (f3:Int) (f4:Int) (name:ByteArray):Option (Int×Int):=
 Option.bind (qaK k k name (0:Int) f0 f1 f2 f3 f4) fun r6=>
 qc r6
 (fun r6=>
 (some (r6.1,r6.2.1)))
 (fun r6=>
 (some ((0:Int),(6:Int))))
def qd2:Nat→List ByteArray→List DvT→Int→Int→Int→ByteArray→Option (Int×Int)
 | 0,_,_,_,_,_,_=>none
 | k+1,f0,f1,f2,f3,f4,name=>qgW k f0 f1 f2 f3 f4 name
def qzZ:Nat→Inst:=mkI 77 ⟨[.g [.lf (.sl .str),.lf (.sl qF),.lf (.int .i64),.lf (.int .i64),.lf (.int .i64)],vS],[]⟩ [⟨[vI,vI],[]⟩] fun k x=>qd2 k x.1 x.2.1 x.2.2.1 x.2.2.2.1 x.2.2.2.2.1 x.2.2.2.2.2
def qz0 (k:Nat):LInst:=mkL 0 [⟨[(1,vS),(2,.a (.ptr 0 0 0)),(6,vI)],[(0,some (.raw [[.lf (.sl .str),.lf (.sl qF),.lf (.int .i64),.lf (.int .i64),.lf (.int .i64)]] 5 27 true false false))],1⟩] [⟨none,⟨[(4,vI),(5,vI)],[(0,some (.raw [[.lf (.sl .str),.lf (.sl qF),.lf (.int .i64),.lf (.int .i64),.lf (.int .i64)]] 5 27 true false false))],1⟩⟩,⟨some 0,⟨[],[(0,some (.raw [[.lf (.sl .str),.lf (.sl qF),.lf (.int .i64),.lf (.int .i64),.lf (.int .i64)]] 5 27 true false false))],1⟩⟩] (fun n x=>qaK k n x.1 x.2.1 x.2.2.1 x.2.2.2.1 x.2.2.2.2.1 x.2.2.2.2.2.1 x.2.2.2.2.2.2) k
theorem qz1 (k:Nat):LIo 77 Tryz.f77 0 k (qz0 k):=
 lpk [] a0 l0 (fun _=>rfl) (by kernel_rfl) fun n x=>by kernel_rfl
theorem qBJ:∀k,qe (call cf k) (qzZ k):=
 fnk 0 [0] Tryz.func77 (fun k=>a0) (fun k=>(lc (qz1 k) l0)) ⟨rfl,rfl,⟨rfl,Nat.le_of_ble_eq_true rfl⟩,rfl⟩ (fun _=>rfl) (by kernel_rfl) fun k x=>by kernel_rfl

def qbe (k:Nat) (rec:ByteArray→List ByteArray→Int→Option ((Int) ⊕ (Unit))) (s:ByteArray) (l:List ByteArray) (i:Int):Option ((Int) ⊕ (Unit)):=
 if((decide (i<(((List.length l):Nat):Int)))=true)then
 if((0:Int)≤i)then
 Option.bind (l)[(Int.toNat i)]? fun x5=>
 if(((Array.toList (ByteArray.data x5)) == (Array.toList (ByteArray.data s)))=true)then
 (some (Sum.inl i))
 else
 rec s l (IntKind.wrap .i64 (i+(1:Int)))
 else
 none
 else
 (some (Sum.inr ()))
def qX (k n:Nat):ByteArray→List ByteArray→Int→Option ((Int) ⊕ (Unit)):=Nat.rec (fun _ _ _=>none) (fun _ r=>qbe k r) n
def qfY (k:Nat) (s:ByteArray) (l:List ByteArray):Option (Int):=
 Option.bind (qX k k s l (0:Int)) fun r7=>
 qc r7
 (fun r7=>
 (some r7))
 (fun r7=>
 (some (-(1:Int))))
def qdt:Nat→ByteArray→List ByteArray→Option (Int)
 | 0,_,_=>none
 | k+1,s,l=>qfY k s l
def qCB:Nat→Inst:=mkI 138 ⟨[vS,vR],[]⟩ [⟨[vI],[]⟩] fun k x=>qdt k x.1 x.2
def qz2 (k:Nat):LInst:=mkL 0 [⟨[(0,vS),(1,vR),(5,vI)],[],0⟩] [⟨none,⟨[(4,vI)],[],0⟩⟩,⟨some 0,⟨[],[],0⟩⟩] (fun n x=>qX k n x.1 x.2.1 x.2.2) k
theorem qz3 (k:Nat):LIo 138 Tryz.f138 0 k (qz2 k):=
 lpk [] a0 l0 (fun _=>rfl) (by kernel_rfl) fun n x=>by kernel_rfl
theorem qBK:∀k,qe (call cf k) (qCB k):=
 fnk 0 [0] Tryz.func138 (fun k=>a0) (fun k=>(lc (qz3 k) l0)) ⟨rfl,rfl,⟨rfl,Nat.le_of_ble_eq_true rfl⟩,rfl⟩ (fun _=>rfl) (by kernel_rfl) fun k x=>by kernel_rfl

def qgx (k:Nat) (f0:List ByteArray) (f1:List DvT) (f2:Int) (f3:Int) (f4:Int) (name:ByteArray):Option (Int×Int):=
 Option.bind (qdt k name f0) fun r7=>
 if((decide (r7<(0:Int)))=true)then
 (some ((0:Int),(6:Int)))
 else
 (some (r7,(0:Int)))
def qY:Nat→List ByteArray→List DvT→Int→Int→Int→ByteArray→Option (Int×Int)
 | 0,_,_,_,_,_,_=>none
 | k+1,f0,f1,f2,f3,f4,name=>qgx k f0 f1 f2 f3 f4 name
def qz4:Nat→Inst:=mkI 78 ⟨[.g [.lf (.sl .str),.lf (.sl qF),.lf (.int .i64),.lf (.int .i64),.lf (.int .i64)],vS],[]⟩ [⟨[vI,vI],[]⟩] fun k x=>qY k x.1 x.2.1 x.2.2.1 x.2.2.2.1 x.2.2.2.2.1 x.2.2.2.2.2
theorem qBL:∀k,qe (call cf k) (qz4 k):=
 fnk 0 [] Tryz.func78 (fun k=>(ac (qBK k) a0)) (fun k=>l0) ⟨rfl,rfl,⟨rfl,Nat.le_of_ble_eq_true rfl⟩,rfl⟩ (fun _=>rfl) (by kernel_rfl) fun k x=>by kernel_rfl

def qfZ (k:Nat) (st0:Int) (st1:List Int) (st2:List Int) (st3:List Int) (n:Int):Option (Int):=
 if((n == (0:Int))=true)then
 (some (0:Int))
 else
 if((0:Int)≤(IntKind.wrap .i64 (n-(1:Int))))then
 Option.bind (st1)[(Int.toNat (IntKind.wrap .i64 (n-(1:Int))))]? fun x5=>
 (some x5)
 else
 none
def qac:Nat→Int→List Int→List Int→List Int→Int→Option (Int)
 | 0,_,_,_,_,_=>none
 | k+1,st0,st1,st2,st3,n=>qfZ k st0 st1 st2 st3 n
def qz5:Nat→Inst:=mkI 79 ⟨[.g [.lf (.int .i64),.lf (.sl (.int .i64)),.lf (.sl (.int .i64)),.lf (.sl (.int .i64))],vI],[]⟩ [⟨[vI],[]⟩] fun k x=>qac k x.1 x.2.1 x.2.2.1 x.2.2.2.1 x.2.2.2.2
theorem qBM:∀k,qe (call cf k) (qz5 k):=
 fnk 0 [] Tryz.func79 (fun k=>a0) (fun k=>l0) ⟨rfl,rfl,⟨rfl,Nat.le_of_ble_eq_true rfl⟩,rfl⟩ (fun _=>rfl) (by kernel_rfl) fun k x=>by kernel_rfl

def qap (k:Nat) (rec:ByteArray→ByteArray→Int→Int→List ByteArray→List DvT→Int→Int→Int→Int→List Int→List Int→List Int→Option (ByteArray×ByteArray×Int×List ByteArray×List DvT×Int×Int×Int×Int×List Int×List Int×List Int)) (s:ByteArray) (inner:ByteArray) (comma:Int) (i:Int) (f0:List ByteArray) (f1:List DvT) (f2:Int) (f3:Int) (f4:Int) (st0:Int) (st1:List Int) (st2:List Int) (st3:List Int):Option (ByteArray×ByteArray×Int×List ByteArray×List DvT×Int×Int×Int×Int×List Int×List Int×List Int):=
 if((decide (i<(((ByteArray.size inner):Nat):Int)))=true)then
 if((0:Int)≤i)then
 Option.bind ((ByteArray.data inner))[(Int.toNat i)]? fun x4=>
 if(((((UInt8.toNat x4):Nat):Int) == (44:Int))=true)then
 if((decide (comma<(0:Int)))=true)then
 rec s inner i (IntKind.wrap .i64 (i+(1:Int))) f0 f1 f2 f3 f4 st0 st1 st2 st3
 else
 rec s inner comma (IntKind.wrap .i64 (i+(1:Int))) f0 f1 f2 f3 f4 st0 st1 st2 st3
 else
 rec s inner comma (IntKind.wrap .i64 (i+(1:Int))) f0 f1 f2 f3 f4 st0 st1 st2 st3
 else
 none
 else
 (some (s,inner,comma,f0,f1,f2,f3,f4,st0,st1,st2,st3))
def qG (k n:Nat):ByteArray→ByteArray→Int→Int→List ByteArray→List DvT→Int→Int→Int→Int→List Int→List Int→List Int→Option (ByteArray×ByteArray×Int×List ByteArray×List DvT×Int×Int×Int×Int×List Int×List Int×List Int):=Nat.rec (fun _ _ _ _ _ _ _ _ _ _ _ _ _=>none) (fun _ r=>qap k r) n
def qcg (k:Nat) (f0:List ByteArray) (f1:List DvT) (f2:Int) (f3:Int) (f4:Int) (st0:Int) (st1:List Int) (st2:List Int) (st3:List Int) (s:ByteArray):Option (Int×Int):=
 Option.bind (qef k f0 f1 f2 f3 f4 st0 st1 st2 st3) fun r3=>
 if((r3 != (0:Int))=true)then
 (some ((0:Int),r3))
 else
 if((decide ((((ByteArray.size s):Nat):Int)<(3:Int)))=false)then
 Option.bind ((ByteArray.data s))[0]? fun x=>
 if(((((UInt8.toNat x):Nat):Int) != (118:Int))=true)then
 Option.bind ((ByteArray.data s))[0]? fun x1=>
 if(((((UInt8.toNat x1):Nat):Int) != (105:Int))=false)then
 Option.bind ((ByteArray.data s))[1]? fun x2=>
 if(((((UInt8.toNat x2):Nat):Int) != (40:Int))=false)then
 if((0:Int)≤(IntKind.wrap .i64 ((((ByteArray.size s):Nat):Int)-(1:Int))))then
 Option.bind ((ByteArray.data s))[(Int.toNat (IntKind.wrap .i64 ((((ByteArray.size s):Nat):Int)-(1:Int))))]? fun x3=>
 if(((((UInt8.toNat x3):Nat):Int) != (41:Int))=true)then
 (some ((0:Int),(3:Int)))
 else
 if(((0:Int)≤(2:Int))∧(((2:Int)≤(IntKind.wrap .i64 ((((ByteArray.size s):Nat):Int)-(1:Int))))∧((IntKind.wrap .i64 ((((ByteArray.size s):Nat):Int)-(1:Int)))≤(((ByteArray.size s):Nat):Int))))then
 Option.bind (qG k k s (ByteArray.extract s 2 (Int.toNat (IntKind.wrap .i64 ((((ByteArray.size s):Nat):Int)-(1:Int))))) (-(1:Int)) (0:Int) f0 f1 f2 f3 f4 st0 st1 st2 st3) fun r4=>
 Option.bind ((ByteArray.data r4.1))[0]? fun x4=>
 if(((((UInt8.toNat x4):Nat):Int) == (105:Int))=true)then
 Option.bind (qp k r4.2.1) fun r5=>
 if((!r5)=true)then
 (some ((0:Int),(3:Int)))
 else
 Option.bind (qd2 k r4.2.2.2.1 r4.2.2.2.2.1 r4.2.2.2.2.2.1 r4.2.2.2.2.2.2.1 r4.2.2.2.2.2.2.2.1 r4.2.1) fun r6=>
 if((r6.2 != (0:Int))=true)then
 (some ((0:Int),r6.2))
 else
 if((0:Int)≤r6.1)then
 Option.bind (r4.2.2.2.2.2.2.2.2.2.2.1)[(Int.toNat r6.1)]? fun x5=>
 (some (x5,(0:Int)))
 else
 none
 else
 if((decide (r4.2.2.1≥(0:Int)))=true)then
 if(((0:Int)≤(0:Int))∧(((0:Int)≤r4.2.2.1)∧(r4.2.2.1≤(((ByteArray.size r4.2.1):Nat):Int))))then
 if(((0:Int)≤(IntKind.wrap .i64 (r4.2.2.1+(1:Int))))∧(((IntKind.wrap .i64 (r4.2.2.1+(1:Int)))≤(((ByteArray.size r4.2.1):Nat):Int))∧((((ByteArray.size r4.2.1):Nat):Int)≤(((ByteArray.size r4.2.1):Nat):Int))))then
 Option.bind (qp k (ByteArray.extract r4.2.1 0 (Int.toNat r4.2.2.1))) fun r5=>
 if((!r5)=false)then
 Option.bind (qp k (ByteArray.extract r4.2.1 (Int.toNat (IntKind.wrap .i64 (r4.2.2.1+(1:Int)))) (Int.toNat (((ByteArray.size r4.2.1):Nat):Int)))) fun r6=>
 if((!r6)=true)then
 (some ((0:Int),(3:Int)))
 else
 Option.bind (qY k r4.2.2.2.1 r4.2.2.2.2.1 r4.2.2.2.2.2.1 r4.2.2.2.2.2.2.1 r4.2.2.2.2.2.2.2.1 (ByteArray.extract r4.2.1 0 (Int.toNat r4.2.2.1))) fun r7=>
 if((r7.2 != (0:Int))=true)then
 (some ((0:Int),r7.2))
 else
 Option.bind (qY k r4.2.2.2.1 r4.2.2.2.2.1 r4.2.2.2.2.2.1 r4.2.2.2.2.2.2.1 r4.2.2.2.2.2.2.2.1 (ByteArray.extract r4.2.1 (Int.toNat (IntKind.wrap .i64 (r4.2.2.1+(1:Int)))) (Int.toNat (((ByteArray.size r4.2.1):Nat):Int)))) fun r8=>
 if((r8.2 != (0:Int))=true)then
 (some ((0:Int),r8.2))
 else
 Option.bind (qac k r4.2.2.2.2.2.2.2.2.1 r4.2.2.2.2.2.2.2.2.2.1 r4.2.2.2.2.2.2.2.2.2.2.1 r4.2.2.2.2.2.2.2.2.2.2.2 r7.1) fun r9=>
 Option.bind (qac k r4.2.2.2.2.2.2.2.2.1 r4.2.2.2.2.2.2.2.2.2.1 r4.2.2.2.2.2.2.2.2.2.2.1 r4.2.2.2.2.2.2.2.2.2.2.2 r8.1) fun r10=>
 (some ((IntKind.wrap .i64 (r9-r10)),(0:Int)))
 else
 (some ((0:Int),(3:Int)))
 else
 none
 else
 none
 else
 Option.bind (qp k r4.2.1) fun r5=>
 if((!r5)=false)then
 Option.bind (qp k (ByteArray.mk (List.toArray (48:: [])))) fun r6=>
 if((!r6)=true)then
 (some ((0:Int),(3:Int)))
 else
 Option.bind (qY k r4.2.2.2.1 r4.2.2.2.2.1 r4.2.2.2.2.2.1 r4.2.2.2.2.2.2.1 r4.2.2.2.2.2.2.2.1 r4.2.1) fun r7=>
 if((r7.2 != (0:Int))=true)then
 (some ((0:Int),r7.2))
 else
 Option.bind (qY k r4.2.2.2.1 r4.2.2.2.2.1 r4.2.2.2.2.2.1 r4.2.2.2.2.2.2.1 r4.2.2.2.2.2.2.2.1 (ByteArray.mk (List.toArray (48:: [])))) fun r8=>
 if((r8.2 != (0:Int))=true)then
 (some ((0:Int),r8.2))
 else
 Option.bind (qac k r4.2.2.2.2.2.2.2.2.1 r4.2.2.2.2.2.2.2.2.2.1 r4.2.2.2.2.2.2.2.2.2.2.1 r4.2.2.2.2.2.2.2.2.2.2.2 r7.1) fun r9=>
 Option.bind (qac k r4.2.2.2.2.2.2.2.2.1 r4.2.2.2.2.2.2.2.2.2.1 r4.2.2.2.2.2.2.2.2.2.2.1 r4.2.2.2.2.2.2.2.2.2.2.2 r8.1) fun r10=>
 (some ((IntKind.wrap .i64 (r9-r10)),(0:Int)))
 else
 (some ((0:Int),(3:Int)))
 else
 none
 else
 none
 else
 (some ((0:Int),(3:Int)))
 else
 (some ((0:Int),(3:Int)))
 else
 Option.bind ((ByteArray.data s))[1]? fun x1=>
 if(((((UInt8.toNat x1):Nat):Int) != (40:Int))=false)then
 if((0:Int)≤(IntKind.wrap .i64 ((((ByteArray.size s):Nat):Int)-(1:Int))))then
 Option.bind ((ByteArray.data s))[(Int.toNat (IntKind.wrap .i64 ((((ByteArray.size s):Nat):Int)-(1:Int))))]? fun x2=>
 if(((((UInt8.toNat x2):Nat):Int) != (41:Int))=true)then
 (some ((0:Int),(3:Int)))
 else
 if(((0:Int)≤(2:Int))∧(((2:Int)≤(IntKind.wrap .i64 ((((ByteArray.size s):Nat):Int)-(1:Int))))∧((IntKind.wrap .i64 ((((ByteArray.size s):Nat):Int)-(1:Int)))≤(((ByteArray.size s):Nat):Int))))then
 Option.bind (qG k k s (ByteArray.extract s 2 (Int.toNat (IntKind.wrap .i64 ((((ByteArray.size s):Nat):Int)-(1:Int))))) (-(1:Int)) (0:Int) f0 f1 f2 f3 f4 st0 st1 st2 st3) fun r4=>
 Option.bind ((ByteArray.data r4.1))[0]? fun x3=>
 if(((((UInt8.toNat x3):Nat):Int) == (105:Int))=true)then
 Option.bind (qp k r4.2.1) fun r5=>
 if((!r5)=true)then
 (some ((0:Int),(3:Int)))
 else
 Option.bind (qd2 k r4.2.2.2.1 r4.2.2.2.2.1 r4.2.2.2.2.2.1 r4.2.2.2.2.2.2.1 r4.2.2.2.2.2.2.2.1 r4.2.1) fun r6=>
 if((r6.2 != (0:Int))=true)then
 (some ((0:Int),r6.2))
 else
 if((0:Int)≤r6.1)then
 Option.bind (r4.2.2.2.2.2.2.2.2.2.2.1)[(Int.toNat r6.1)]? fun x4=>
 (some (x4,(0:Int)))
 else
 none
 else
 if((decide (r4.2.2.1≥(0:Int)))=true)then
 if(((0:Int)≤(0:Int))∧(((0:Int)≤r4.2.2.1)∧(r4.2.2.1≤(((ByteArray.size r4.2.1):Nat):Int))))then
 if(((0:Int)≤(IntKind.wrap .i64 (r4.2.2.1+(1:Int))))∧(((IntKind.wrap .i64 (r4.2.2.1+(1:Int)))≤(((ByteArray.size r4.2.1):Nat):Int))∧((((ByteArray.size r4.2.1):Nat):Int)≤(((ByteArray.size r4.2.1):Nat):Int))))then
 Option.bind (qp k (ByteArray.extract r4.2.1 0 (Int.toNat r4.2.2.1))) fun r5=>
 if((!r5)=false)then
 Option.bind (qp k (ByteArray.extract r4.2.1 (Int.toNat (IntKind.wrap .i64 (r4.2.2.1+(1:Int)))) (Int.toNat (((ByteArray.size r4.2.1):Nat):Int)))) fun r6=>
 if((!r6)=true)then
 (some ((0:Int),(3:Int)))
 else
 Option.bind (qY k r4.2.2.2.1 r4.2.2.2.2.1 r4.2.2.2.2.2.1 r4.2.2.2.2.2.2.1 r4.2.2.2.2.2.2.2.1 (ByteArray.extract r4.2.1 0 (Int.toNat r4.2.2.1))) fun r7=>
 if((r7.2 != (0:Int))=true)then
 (some ((0:Int),r7.2))
 else
 Option.bind (qY k r4.2.2.2.1 r4.2.2.2.2.1 r4.2.2.2.2.2.1 r4.2.2.2.2.2.2.1 r4.2.2.2.2.2.2.2.1 (ByteArray.extract r4.2.1 (Int.toNat (IntKind.wrap .i64 (r4.2.2.1+(1:Int)))) (Int.toNat (((ByteArray.size r4.2.1):Nat):Int)))) fun r8=>
 if((r8.2 != (0:Int))=true)then
 (some ((0:Int),r8.2))
 else
 Option.bind (qac k r4.2.2.2.2.2.2.2.2.1 r4.2.2.2.2.2.2.2.2.2.1 r4.2.2.2.2.2.2.2.2.2.2.1 r4.2.2.2.2.2.2.2.2.2.2.2 r7.1) fun r9=>
 Option.bind (qac k r4.2.2.2.2.2.2.2.2.1 r4.2.2.2.2.2.2.2.2.2.1 r4.2.2.2.2.2.2.2.2.2.2.1 r4.2.2.2.2.2.2.2.2.2.2.2 r8.1) fun r10=>
 (some ((IntKind.wrap .i64 (r9-r10)),(0:Int)))
 else
 (some ((0:Int),(3:Int)))
 else
 none
 else
 none
 else
 Option.bind (qp k r4.2.1) fun r5=>
 if((!r5)=false)then
 Option.bind (qp k (ByteArray.mk (List.toArray (48:: [])))) fun r6=>
 if((!r6)=true)then
 (some ((0:Int),(3:Int)))
 else
 Option.bind (qY k r4.2.2.2.1 r4.2.2.2.2.1 r4.2.2.2.2.2.1 r4.2.2.2.2.2.2.1 r4.2.2.2.2.2.2.2.1 r4.2.1) fun r7=>
 if((r7.2 != (0:Int))=true)then
 (some ((0:Int),r7.2))
 else
 Option.bind (qY k r4.2.2.2.1 r4.2.2.2.2.1 r4.2.2.2.2.2.1 r4.2.2.2.2.2.2.1 r4.2.2.2.2.2.2.2.1 (ByteArray.mk (List.toArray (48:: [])))) fun r8=>
 if((r8.2 != (0:Int))=true)then
 (some ((0:Int),r8.2))
 else
 Option.bind (qac k r4.2.2.2.2.2.2.2.2.1 r4.2.2.2.2.2.2.2.2.2.1 r4.2.2.2.2.2.2.2.2.2.2.1 r4.2.2.2.2.2.2.2.2.2.2.2 r7.1) fun r9=>
 Option.bind (qac k r4.2.2.2.2.2.2.2.2.1 r4.2.2.2.2.2.2.2.2.2.1 r4.2.2.2.2.2.2.2.2.2.2.1 r4.2.2.2.2.2.2.2.2.2.2.2 r8.1) fun r10=>
 (some ((IntKind.wrap .i64 (r9-r10)),(0:Int)))
 else
 (some ((0:Int),(3:Int)))
 else
 none
 else
 none
 else
 (some ((0:Int),(3:Int)))
 else
 (some ((0:Int),(3:Int)))
def qbf:Nat→List ByteArray→List DvT→Int→Int→Int→Int→List Int→List Int→List Int→ByteArray→Option (Int×Int)
 | 0,_,_,_,_,_,_,_,_,_,_=>none
 | k+1,f0,f1,f2,f3,f4,st0,st1,st2,st3,s=>qcg k f0 f1 f2 f3 f4 st0 st1 st2 st3 s
def qCC:Nat→Inst:=mkI 28 ⟨[.g [.lf (.sl .str),.lf (.sl qF),.lf (.int .i64),.lf (.int .i64),.lf (.int .i64)],.g [.lf (.int .i64),.lf (.sl (.int .i64)),.lf (.sl (.int .i64)),.lf (.sl (.int .i64))],vS],[]⟩ [⟨[vI,vI],[]⟩] fun k x=>qbf k x.1 x.2.1 x.2.2.1 x.2.2.2.1 x.2.2.2.2.1 x.2.2.2.2.2.1 x.2.2.2.2.2.2.1 x.2.2.2.2.2.2.2.1 x.2.2.2.2.2.2.2.2.1 x.2.2.2.2.2.2.2.2.2
theorem qu2 (k:Nat):qat (call cf k) [qzW k,qqw k,qzZ k,qz4 k,qz5 k]:=
 ac (qBI k) (ac (qqx k) (ac (qBJ k) (ac (qBL k) (ac (qBM k) a0))))
def qz6 (k:Nat):LInst:=mkL 0 [⟨[(2,vS),(3,.a (.ptr 0 0 0)),(4,.a (.ptr 1 0 0)),(10,vS),(11,vI),(12,vI)],[(0,some (.raw [[.lf (.sl .str),.lf (.sl qF),.lf (.int .i64),.lf (.int .i64),.lf (.int .i64)]] 5 27 true false false)),(1,some (.raw [[.lf (.int .i64),.lf (.sl (.int .i64)),.lf (.sl (.int .i64)),.lf (.sl (.int .i64))]] 4 53 true false false))],2⟩] [⟨some 0,⟨[(2,vS),(3,.a (.ptr 0 0 0)),(4,.a (.ptr 1 0 0)),(10,vS),(11,vI)],[(0,some (.raw [[.lf (.sl .str),.lf (.sl qF),.lf (.int .i64),.lf (.int .i64),.lf (.int .i64)]] 5 27 true false false)),(1,some (.raw [[.lf (.int .i64),.lf (.sl (.int .i64)),.lf (.sl (.int .i64)),.lf (.sl (.int .i64))]] 4 53 true false false))],2⟩⟩] (fun n x=>qG k n x.1 x.2.1 x.2.2.1 x.2.2.2.1 x.2.2.2.2.1 x.2.2.2.2.2.1 x.2.2.2.2.2.2.1 x.2.2.2.2.2.2.2.1 x.2.2.2.2.2.2.2.2.1 x.2.2.2.2.2.2.2.2.2.1 x.2.2.2.2.2.2.2.2.2.2.1 x.2.2.2.2.2.2.2.2.2.2.2.1 x.2.2.2.2.2.2.2.2.2.2.2.2) k
theorem qz7 (k:Nat):LIo 28 Tryz.f28 0 k (qz6 k):=
 lpk [] (qu2 k) l0 (fun _=>rfl) (by kernel_rfl) fun n x=>by kernel_rfl
theorem qBN:∀k,qe (call cf k) (qCC k):=
 fnk 0 [0] Tryz.func28 (fun k=>(qu2 k)) (fun k=>(lc (qz7 k) l0)) ⟨rfl,rfl,⟨rfl,Nat.le_of_ble_eq_true rfl⟩,rfl⟩ (fun _=>rfl) (by kernel_rfl) fun k x=>by kernel_rfl

def qea (k:Nat) (f0:List ByteArray) (f1:List DvT) (f2:Int) (f3:Int) (f4:Int) (st0:Int) (st1:List Int) (st2:List Int) (st3:List Int) (text:ByteArray):Option (Bool):=
 Option.bind (qfL k) fun r=>
 if((!r)=true)then
 (some false)
 else
 Option.bind (qed k f0 f1 f2 f3 f4 st0 st1 st2 st3) fun r1=>
 if(r1=true)then
 (some true)
 else
 Option.bind (qca k f0 f1 f2 f3 f4 st0 st1 st2 st3 text) fun r2=>
 Option.bind (qbf k f0 f1 f2 f3 f4 st0 st1 st2 st3 text) fun r3=>
 if((r2.1 == r3.1)=true)then
 (some (r2.2 == r3.2))
 else
 (some false)
def qc0:Nat→List ByteArray→List DvT→Int→Int→Int→Int→List Int→List Int→List Int→ByteArray→Option (Bool)
 | 0,_,_,_,_,_,_,_,_,_,_=>none
 | k+1,f0,f1,f2,f3,f4,st0,st1,st2,st3,text=>qea k f0 f1 f2 f3 f4 st0 st1 st2 st3 text
def qCD:Nat→Inst:=mkI 5 ⟨[.g [.lf (.sl .str),.lf (.sl qF),.lf (.int .i64),.lf (.int .i64),.lf (.int .i64)],.g [.lf (.int .i64),.lf (.sl (.int .i64)),.lf (.sl (.int .i64)),.lf (.sl (.int .i64))],vS],[]⟩ [⟨[vB],[]⟩] fun k x=>qc0 k x.1 x.2.1 x.2.2.1 x.2.2.2.1 x.2.2.2.2.1 x.2.2.2.2.2.1 x.2.2.2.2.2.2.1 x.2.2.2.2.2.2.2.1 x.2.2.2.2.2.2.2.2.1 x.2.2.2.2.2.2.2.2.2
theorem qBO:∀k,qe (call cf k) (qCD k):=
 fnk 0 [] Tryz.func5 (fun k=>(ac (qBi k) (ac (qBq k) (ac (quE k) (ac (qBN k) a0))))) (fun k=>l0) ⟨rfl,rfl,⟨rfl,Nat.le_of_ble_eq_true rfl⟩,rfl⟩ (fun _=>rfl) (by kernel_rfl) fun k x=>by kernel_rfl


end
end Go.Proofs.YtlnailgfialgnaaGreatDoor.Am
