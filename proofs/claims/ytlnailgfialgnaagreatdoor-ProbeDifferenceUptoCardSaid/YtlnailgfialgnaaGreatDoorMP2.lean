/- Printed functions: each says what the typed machine says of the program -/
import Derived.Test.YtlnailgfialgnaaGreatDoorMP1
import Derived.KernelRfl

set_option linter.unusedVariables false
set_option maxRecDepth 100000
namespace Go.Proofs.YtlnailgfialgnaaGreatDoor.Am
open Go
noncomputable section

def qbo (k:Nat) (rec:Int→Bool→Nat→Bool→Nat→List Int→List Int→Option (Bool×Nat×Bool×Nat×List Int×List Int)) (u:Int) (x0:Bool) (x1:Nat) (a0:Bool) (a1:Nat) (m:List Int) (m1:List Int):Option (Bool×Nat×Bool×Nat×List Int×List Int):=
 if((decide (u>(0:Int)))=true)then
 if(a1≤(List.length m1))then
 if(((a1+(List.length (List.take 1 ((IntKind.wrap .i64 (Int.tmod u (65536:Int))):: []))))*8)≤140737488355328)then
 rec (IntKind.wrap .u64 (Int.tdiv u (65536:Int))) x0 x1 a0 (a1+(List.length (List.take 1 ((IntKind.wrap .i64 (Int.tmod u (65536:Int))):: [])))) m ((List.take a1 m1)++(List.take 1 ((IntKind.wrap .i64 (Int.tmod u (65536:Int))):: [])))
 else
 none
 else
 none
 else
 (some (x0,x1,a0,a1,m,m1))
def qaS (k n:Nat):Int→Bool→Nat→Bool→Nat→List Int→List Int→Option (Bool×Nat×Bool×Nat×List Int×List Int):=Nat.rec (fun _ _ _ _ _ _ _=>none) (fun _ r=>qbo k r) n
def qdy (k:Nat) (v:Int):Option (Bool×List Int):=
 if((decide (v<(0:Int)))=true)then
 Option.bind (qaS k k (IntKind.wrap .u64 ((0:Int)-(IntKind.wrap .u64 v))) false 0 true 0 [] []) fun r5=>
 if((0+r5.2.2.2.1)≤(List.length r5.2.2.2.2.2))then
 (some (r5.2.2.1,(List.take r5.2.2.2.1 r5.2.2.2.2.2)))
 else
 none
 else
 Option.bind (qaS k k (IntKind.wrap .u64 v) false 0 false 0 [] []) fun r5=>
 if((0+r5.2.2.2.1)≤(List.length r5.2.2.2.2.2))then
 (some (r5.2.2.1,(List.take r5.2.2.2.1 r5.2.2.2.2.2)))
 else
 none
def qdz:Nat→Int→Option (Bool×List Int)
 | 0,_=>none
 | k+1,v=>qdy k v
def qBJ:Nat→Inst:=mkI 91 ⟨[vI],[]⟩ [⟨[.g [.lf .bool,.lf (.sl (.int .i64))]],[]⟩] fun k x=>qdz k x
def qya (k:Nat):LInst:=mkL 0 [⟨[(2,.a (.ptr 0 0 0)),(3,.a (.ptr 1 0 0)),(4,vU)],[(0,some (.raw [[.lf .bool,.smz 2]] 2 154 false false false)),(1,some (.raw [[.lf .bool,.smz 3]] 2 154 false false false)),(2,some (.arr (.int .i64) 1 3 false)),(3,some (.arr (.int .i64) 1 3 false))],4⟩] [⟨some 0,⟨[(2,.a (.ptr 0 0 0)),(3,.a (.ptr 1 0 0))],[(0,some (.raw [[.lf .bool,.smz 2]] 2 154 false false false)),(1,some (.raw [[.lf .bool,.smz 3]] 2 154 false false false)),(2,some (.arr (.int .i64) 1 3 false)),(3,some (.arr (.int .i64) 1 3 false))],4⟩⟩] (fun n x=>qaS k n x.1 x.2.1 x.2.2.1 x.2.2.2.1 x.2.2.2.2.1 x.2.2.2.2.2.1 x.2.2.2.2.2.2) k
theorem qyb (k:Nat):LIo 91 Tryz.f91 0 k (qya k):=
 lpk [] a0 l0 (fun _=>rfl) (by kernel_rfl) fun n x=>by kernel_rfl
theorem qAC:∀k,qe (call cf k) (qBJ k):=
 fnk 0 [0] Tryz.func91 (fun k=>a0) (fun k=>(lc (qyb k) l0)) ⟨rfl,rfl,⟨rfl,Nat.le_of_ble_eq_true rfl⟩,rfl⟩ (fun _=>rfl) (by kernel_rfl) fun k x=>by kernel_rfl

def qbU (k:Nat) (rec:Nat→Int→List Int→Option (Nat×Int×List Int)) (d:Nat) (n:Int) (ds:List Int):Option (Nat×Int×List Int):=
 if((decide (n>(0:Int)))=true)then
 if(((0:Int)≤(IntKind.wrap .i64 (n-(1:Int))))∧((IntKind.wrap .i64 (n-(1:Int)))<((d:Nat):Int)))then
 Option.bind (ds)[(0+(Int.toNat (IntKind.wrap .i64 (n-(1:Int)))))]? fun x4=>
 if((x4 == (0:Int))=true)then
 rec d (IntKind.wrap .i64 (n-(1:Int))) ds
 else
 (some (d,n,ds))
 else
 none
 else
 (some (d,n,ds))
def qb5 (k n:Nat):Nat→Int→List Int→Option (Nat×Int×List Int):=Nat.rec (fun _ _ _=>none) (fun _ r=>qbU k r) n
def qaX (k:Nat) (d:Nat) (ds:List Int):Option (Nat×List Int):=
 Option.bind (qb5 k k d ((d:Nat):Int) ds) fun r7=>
 if(((0:Int)≤(0:Int))∧(((0:Int)≤r7.2.1)∧(((0+(Int.toNat r7.2.1))≤(List.length r7.2.2))∧(((0:Int)<r7.2.1)∨(true=true)))))then
 (some ((Int.toNat r7.2.1),r7.2.2))
 else
 none
def qE:Nat→Nat→List Int→Option (Nat×List Int)
 | 0,_,_=>none
 | k+1,d,ds=>qaX k d ds
def qnJ:Nat→Inst:=mkI 205 ⟨[.a (.smz 0)],[.arr (.int .i64) 1 3 false]⟩ [⟨[.a (.smz 0)],[.arr (.int .i64) 1 3 false]⟩] fun k x=>qE k x.1 x.2
def qrx:SS:=⟨[(0,.a (.smz 0)),(3,vI)],[(0,some (.arr (.int .i64) 1 3 false))],1⟩
def qyc (k:Nat):LInst:=mkL 0 [qrx] [⟨some 0,qrx⟩] (fun n x=>qb5 k n x.1 x.2.1 x.2.2) k
theorem qyd (k:Nat):LIo 205 Tryz.f205 1 k (qyc k):=
 lpk [] a0 l0 (fun _=>rfl) (by kernel_rfl) fun n x=>by kernel_rfl
theorem qmJ:∀k,qe (call cf k) (qnJ k):=
 fnk 1 [0] Tryz.func205 (fun k=>a0) (fun k=>(lc (qyd k) l0)) ⟨rfl,rfl,⟨rfl,Nat.le_of_ble_eq_true rfl⟩,rfl⟩ (fun _=>rfl) (by kernel_rfl) fun k x=>by kernel_rfl

def qbp (k:Nat) (rec:List Int→List Int→Nat→Int→Int→List Int→Option (Nat×List Int)) (a:List Int) (b:List Int) (d:Nat) (carry:Int) (i:Int) (ds:List Int):Option (Nat×List Int):=
 if((decide (i<(((List.length a):Nat):Int)))=false)then
 if((decide (i<(((List.length b):Nat):Int)))=false)then
 if((decide (carry>(0:Int)))=true)then
 if((decide (i<(((List.length a):Nat):Int)))=true)then
 if((0:Int)≤i)then
 Option.bind (a)[(Int.toNat i)]? fun x4=>
 if((decide (i<(((List.length b):Nat):Int)))=true)then
 if((0:Int)≤i)then
 Option.bind (b)[(Int.toNat i)]? fun x5=>
 if(d≤(List.length ds))then
 if(((d+(List.length (List.take 1 ((Int.tmod (IntKind.wrap .i64 ((IntKind.wrap .i64 (carry+x4))+x5)) (65536:Int)):: []))))*8)≤140737488355328)then
 rec a b (d+(List.length (List.take 1 ((Int.tmod (IntKind.wrap .i64 ((IntKind.wrap .i64 (carry+x4))+x5)) (65536:Int)):: [])))) (IntKind.wrap .i64 (Int.tdiv (IntKind.wrap .i64 ((IntKind.wrap .i64 (carry+x4))+x5)) (65536:Int))) (IntKind.wrap .i64 (i+(1:Int))) ((List.take d ds)++(List.take 1 ((Int.tmod (IntKind.wrap .i64 ((IntKind.wrap .i64 (carry+x4))+x5)) (65536:Int)):: [])))
 else
 none
 else
 none
 else
 none
 else
 if(d≤(List.length ds))then
 if(((d+(List.length (List.take 1 ((Int.tmod (IntKind.wrap .i64 (carry+x4)) (65536:Int)):: []))))*8)≤140737488355328)then
 rec a b (d+(List.length (List.take 1 ((Int.tmod (IntKind.wrap .i64 (carry+x4)) (65536:Int)):: [])))) (IntKind.wrap .i64 (Int.tdiv (IntKind.wrap .i64 (carry+x4)) (65536:Int))) (IntKind.wrap .i64 (i+(1:Int))) ((List.take d ds)++(List.take 1 ((Int.tmod (IntKind.wrap .i64 (carry+x4)) (65536:Int)):: [])))
 else
 none
 else
 none
 else
 none
 else
 if((decide (i<(((List.length b):Nat):Int)))=true)then
 if((0:Int)≤i)then
 Option.bind (b)[(Int.toNat i)]? fun x4=>
 if(d≤(List.length ds))then
 if(((d+(List.length (List.take 1 ((Int.tmod (IntKind.wrap .i64 (carry+x4)) (65536:Int)):: []))))*8)≤140737488355328)then
 rec a b (d+(List.length (List.take 1 ((Int.tmod (IntKind.wrap .i64 (carry+x4)) (65536:Int)):: [])))) (IntKind.wrap .i64 (Int.tdiv (IntKind.wrap .i64 (carry+x4)) (65536:Int))) (IntKind.wrap .i64 (i+(1:Int))) ((List.take d ds)++(List.take 1 ((Int.tmod (IntKind.wrap .i64 (carry+x4)) (65536:Int)):: [])))
 else
 none
 else
 none
 else
 none
 else
 if(d≤(List.length ds))then
 if(((d+(List.length (List.take 1 ((Int.tmod carry (65536:Int)):: []))))*8)≤140737488355328)then
 rec a b (d+(List.length (List.take 1 ((Int.tmod carry (65536:Int)):: [])))) (IntKind.wrap .i64 (Int.tdiv carry (65536:Int))) (IntKind.wrap .i64 (i+(1:Int))) ((List.take d ds)++(List.take 1 ((Int.tmod carry (65536:Int)):: [])))
 else
 none
 else
 none
 else
 (some (d,ds))
 else
 if((decide (i<(((List.length a):Nat):Int)))=true)then
 if((0:Int)≤i)then
 Option.bind (a)[(Int.toNat i)]? fun x4=>
 if((decide (i<(((List.length b):Nat):Int)))=true)then
 if((0:Int)≤i)then
 Option.bind (b)[(Int.toNat i)]? fun x5=>
 if(d≤(List.length ds))then
 if(((d+(List.length (List.take 1 ((Int.tmod (IntKind.wrap .i64 ((IntKind.wrap .i64 (carry+x4))+x5)) (65536:Int)):: []))))*8)≤140737488355328)then
 rec a b (d+(List.length (List.take 1 ((Int.tmod (IntKind.wrap .i64 ((IntKind.wrap .i64 (carry+x4))+x5)) (65536:Int)):: [])))) (IntKind.wrap .i64 (Int.tdiv (IntKind.wrap .i64 ((IntKind.wrap .i64 (carry+x4))+x5)) (65536:Int))) (IntKind.wrap .i64 (i+(1:Int))) ((List.take d ds)++(List.take 1 ((Int.tmod (IntKind.wrap .i64 ((IntKind.wrap .i64 (carry+x4))+x5)) (65536:Int)):: [])))
 else
 none
 else
 none
 else
 none
 else
 if(d≤(List.length ds))then
 if(((d+(List.length (List.take 1 ((Int.tmod (IntKind.wrap .i64 (carry+x4)) (65536:Int)):: []))))*8)≤140737488355328)then
 rec a b (d+(List.length (List.take 1 ((Int.tmod (IntKind.wrap .i64 (carry+x4)) (65536:Int)):: [])))) (IntKind.wrap .i64 (Int.tdiv (IntKind.wrap .i64 (carry+x4)) (65536:Int))) (IntKind.wrap .i64 (i+(1:Int))) ((List.take d ds)++(List.take 1 ((Int.tmod (IntKind.wrap .i64 (carry+x4)) (65536:Int)):: [])))
 else
 none
 else
 none
 else
 none
 else
 if((decide (i<(((List.length b):Nat):Int)))=true)then
 if((0:Int)≤i)then
 Option.bind (b)[(Int.toNat i)]? fun x4=>
 if(d≤(List.length ds))then
 if(((d+(List.length (List.take 1 ((Int.tmod (IntKind.wrap .i64 (carry+x4)) (65536:Int)):: []))))*8)≤140737488355328)then
 rec a b (d+(List.length (List.take 1 ((Int.tmod (IntKind.wrap .i64 (carry+x4)) (65536:Int)):: [])))) (IntKind.wrap .i64 (Int.tdiv (IntKind.wrap .i64 (carry+x4)) (65536:Int))) (IntKind.wrap .i64 (i+(1:Int))) ((List.take d ds)++(List.take 1 ((Int.tmod (IntKind.wrap .i64 (carry+x4)) (65536:Int)):: [])))
 else
 none
 else
 none
 else
 none
 else
 if(d≤(List.length ds))then
 if(((d+(List.length (List.take 1 ((Int.tmod carry (65536:Int)):: []))))*8)≤140737488355328)then
 rec a b (d+(List.length (List.take 1 ((Int.tmod carry (65536:Int)):: [])))) (IntKind.wrap .i64 (Int.tdiv carry (65536:Int))) (IntKind.wrap .i64 (i+(1:Int))) ((List.take d ds)++(List.take 1 ((Int.tmod carry (65536:Int)):: [])))
 else
 none
 else
 none
 else
 if((decide (i<(((List.length a):Nat):Int)))=true)then
 if((0:Int)≤i)then
 Option.bind (a)[(Int.toNat i)]? fun x4=>
 if((decide (i<(((List.length b):Nat):Int)))=true)then
 if((0:Int)≤i)then
 Option.bind (b)[(Int.toNat i)]? fun x5=>
 if(d≤(List.length ds))then
 if(((d+(List.length (List.take 1 ((Int.tmod (IntKind.wrap .i64 ((IntKind.wrap .i64 (carry+x4))+x5)) (65536:Int)):: []))))*8)≤140737488355328)then
 rec a b (d+(List.length (List.take 1 ((Int.tmod (IntKind.wrap .i64 ((IntKind.wrap .i64 (carry+x4))+x5)) (65536:Int)):: [])))) (IntKind.wrap .i64 (Int.tdiv (IntKind.wrap .i64 ((IntKind.wrap .i64 (carry+x4))+x5)) (65536:Int))) (IntKind.wrap .i64 (i+(1:Int))) ((List.take d ds)++(List.take 1 ((Int.tmod (IntKind.wrap .i64 ((IntKind.wrap .i64 (carry+x4))+x5)) (65536:Int)):: [])))
 else
 none
 else
 none
 else
 none
 else
 if(d≤(List.length ds))then
 if(((d+(List.length (List.take 1 ((Int.tmod (IntKind.wrap .i64 (carry+x4)) (65536:Int)):: []))))*8)≤140737488355328)then
 rec a b (d+(List.length (List.take 1 ((Int.tmod (IntKind.wrap .i64 (carry+x4)) (65536:Int)):: [])))) (IntKind.wrap .i64 (Int.tdiv (IntKind.wrap .i64 (carry+x4)) (65536:Int))) (IntKind.wrap .i64 (i+(1:Int))) ((List.take d ds)++(List.take 1 ((Int.tmod (IntKind.wrap .i64 (carry+x4)) (65536:Int)):: [])))
 else
 none
 else
 none
 else
 none
 else
 if((decide (i<(((List.length b):Nat):Int)))=true)then
 if((0:Int)≤i)then
 Option.bind (b)[(Int.toNat i)]? fun x4=>
 if(d≤(List.length ds))then
 if(((d+(List.length (List.take 1 ((Int.tmod (IntKind.wrap .i64 (carry+x4)) (65536:Int)):: []))))*8)≤140737488355328)then
 rec a b (d+(List.length (List.take 1 ((Int.tmod (IntKind.wrap .i64 (carry+x4)) (65536:Int)):: [])))) (IntKind.wrap .i64 (Int.tdiv (IntKind.wrap .i64 (carry+x4)) (65536:Int))) (IntKind.wrap .i64 (i+(1:Int))) ((List.take d ds)++(List.take 1 ((Int.tmod (IntKind.wrap .i64 (carry+x4)) (65536:Int)):: [])))
 else
 none
 else
 none
 else
 none
 else
 if(d≤(List.length ds))then
 if(((d+(List.length (List.take 1 ((Int.tmod carry (65536:Int)):: []))))*8)≤140737488355328)then
 rec a b (d+(List.length (List.take 1 ((Int.tmod carry (65536:Int)):: [])))) (IntKind.wrap .i64 (Int.tdiv carry (65536:Int))) (IntKind.wrap .i64 (i+(1:Int))) ((List.take d ds)++(List.take 1 ((Int.tmod carry (65536:Int)):: [])))
 else
 none
 else
 none
def qaT (k n:Nat):List Int→List Int→Nat→Int→Int→List Int→Option (Nat×List Int):=Nat.rec (fun _ _ _ _ _ _=>none) (fun _ r=>qbp k r) n
def qf2 (k:Nat) (a:List Int) (b:List Int):Option (List Int):=
 Option.bind (qaT k k a b 0 (0:Int) (0:Int) []) fun r6=>
 Option.bind (qE k r6.1 r6.2) fun r7=>
 if((0+r7.1)≤(List.length r7.2))then
 (some (List.take r7.1 r7.2))
 else
 none
def qdA:Nat→List Int→List Int→Option (List Int)
 | 0,_,_=>none
 | k+1,a,b=>qf2 k a b
def qBK:Nat→Inst:=mkI 145 ⟨[vJ,vJ],[]⟩ [⟨[vJ],[]⟩] fun k x=>qdA k x.1 x.2
theorem que (k:Nat):qas (call cf k) [qnJ k]:=
 ac (qmJ k) a0
def qye (k:Nat):LInst:=mkL 0 [⟨[(0,vJ),(1,vJ),(5,.a (.smz 0)),(6,vI),(7,vI)],[(0,some (.arr (.int .i64) 1 3 false))],1⟩] [⟨some 0,⟨[(5,.a (.smz 0))],[(0,some (.arr (.int .i64) 1 3 false))],1⟩⟩] (fun n x=>qaT k n x.1 x.2.1 x.2.2.1 x.2.2.2.1 x.2.2.2.2.1 x.2.2.2.2.2) k
theorem qyf (k:Nat):LIo 145 Tryz.f145 0 k (qye k):=
 lpk [] (que k) l0 (fun _=>rfl) (by kernel_rfl) fun n x=>by kernel_rfl
theorem qAD:∀k,qe (call cf k) (qBK k):=
 fnk 0 [0] Tryz.func145 (fun k=>(que k)) (fun k=>(lc (qyf k) l0)) ⟨rfl,rfl,⟨rfl,Nat.le_of_ble_eq_true rfl⟩,rfl⟩ (fun _=>rfl) (by kernel_rfl) fun k x=>by kernel_rfl

def qaj (k:Nat) (rec:List Int→List Int→Int→Option ((Int) ⊕ (Unit))) (a:List Int) (b:List Int) (i:Int):Option ((Int) ⊕ (Unit)):=
 if((decide (i≥(0:Int)))=true)then
 if((0:Int)≤i)then
 Option.bind (a)[(Int.toNat i)]? fun x4=>
 if((0:Int)≤i)then
 Option.bind (b)[(Int.toNat i)]? fun x5=>
 if((decide (x4<x5))=true)then
 (some (Sum.inl (-(1:Int))))
 else
 if((0:Int)≤i)then
 Option.bind (a)[(Int.toNat i)]? fun x6=>
 if((0:Int)≤i)then
 Option.bind (b)[(Int.toNat i)]? fun x7=>
 if((decide (x6>x7))=true)then
 (some (Sum.inl (1:Int)))
 else
 rec a b (IntKind.wrap .i64 (i-(1:Int)))
 else
 none
 else
 none
 else
 none
 else
 none
 else
 (some (Sum.inr ()))
def qbK (k n:Nat):List Int→List Int→Int→Option ((Int) ⊕ (Unit)):=Nat.rec (fun _ _ _=>none) (fun _ r=>qaj k r) n
def qf3 (k:Nat) (a:List Int) (b:List Int):Option (Int):=
 if(((((List.length a):Nat):Int) != (((List.length b):Nat):Int))=true)then
 if((decide ((((List.length a):Nat):Int)<(((List.length b):Nat):Int)))=true)then
 (some (-(1:Int)))
 else
 (some (1:Int))
 else
 Option.bind (qbK k k a b (IntKind.wrap .i64 ((((List.length a):Nat):Int)-(1:Int)))) fun r6=>
 qc r6
 (fun r6=>
 (some r6))
 (fun r6=>
 (some (0:Int)))
def qdB:Nat→List Int→List Int→Option (Int)
 | 0,_,_=>none
 | k+1,a,b=>qf3 k a b
def qyg:Nat→Inst:=mkI 146 ⟨[vJ,vJ],[]⟩ [⟨[vI],[]⟩] fun k x=>qdB k x.1 x.2
def qyh (k:Nat):LInst:=mkL 0 [⟨[(0,vJ),(1,vJ),(5,vI)],[],0⟩] [⟨none,⟨[(4,vI)],[],0⟩⟩,⟨some 0,⟨[],[],0⟩⟩] (fun n x=>qbK k n x.1 x.2.1 x.2.2) k
theorem qyi (k:Nat):LIo 146 Tryz.f146 0 k (qyh k):=
 lpk [] a0 l0 (fun _=>rfl) (by kernel_rfl) fun n x=>by kernel_rfl
theorem quf:∀k,qe (call cf k) (qyg k):=
 fnk 0 [0] Tryz.func146 (fun k=>a0) (fun k=>(lc (qyi k) l0)) ⟨rfl,rfl,⟨rfl,Nat.le_of_ble_eq_true rfl⟩,rfl⟩ (fun _=>rfl) (by kernel_rfl) fun k x=>by kernel_rfl

def qaY (k:Nat) (rec:List Int→List Int→Nat→Int→Int→List Int→Option (Nat×List Int)) (a:List Int) (b:List Int) (d:Nat) (borrow:Int) (i:Int) (ds:List Int):Option (Nat×List Int):=
 if((decide (i<(((List.length a):Nat):Int)))=true)then
 if((0:Int)≤i)then
 Option.bind (a)[(Int.toNat i)]? fun x4=>
 if((decide (i<(((List.length b):Nat):Int)))=true)then
 if((0:Int)≤i)then
 Option.bind (b)[(Int.toNat i)]? fun x5=>
 if((decide ((IntKind.wrap .i64 ((IntKind.wrap .i64 (x4-borrow))-x5))<(0:Int)))=true)then
 if(d≤(List.length ds))then
 if(((d+(List.length (List.take 1 ((IntKind.wrap .i64 ((IntKind.wrap .i64 ((IntKind.wrap .i64 (x4-borrow))-x5))+(65536:Int))):: []))))*8)≤140737488355328)then
 rec a b (d+(List.length (List.take 1 ((IntKind.wrap .i64 ((IntKind.wrap .i64 ((IntKind.wrap .i64 (x4-borrow))-x5))+(65536:Int))):: [])))) (1:Int) (IntKind.wrap .i64 (i+(1:Int))) ((List.take d ds)++(List.take 1 ((IntKind.wrap .i64 ((IntKind.wrap .i64 ((IntKind.wrap .i64 (x4-borrow))-x5))+(65536:Int))):: [])))
 else
 none
 else
 none
 else
 if(d≤(List.length ds))then
 if(((d+(List.length (List.take 1 ((IntKind.wrap .i64 ((IntKind.wrap .i64 (x4-borrow))-x5)):: []))))*8)≤140737488355328)then
 rec a b (d+(List.length (List.take 1 ((IntKind.wrap .i64 ((IntKind.wrap .i64 (x4-borrow))-x5)):: [])))) (0:Int) (IntKind.wrap .i64 (i+(1:Int))) ((List.take d ds)++(List.take 1 ((IntKind.wrap .i64 ((IntKind.wrap .i64 (x4-borrow))-x5)):: [])))
 else
 none
 else
 none
 else
 none
 else
 if((decide ((IntKind.wrap .i64 (x4-borrow))<(0:Int)))=true)then
 if(d≤(List.length ds))then
 if(((d+(List.length (List.take 1 ((IntKind.wrap .i64 ((IntKind.wrap .i64 (x4-borrow))+(65536:Int))):: []))))*8)≤140737488355328)then
 rec a b (d+(List.length (List.take 1 ((IntKind.wrap .i64 ((IntKind.wrap .i64 (x4-borrow))+(65536:Int))):: [])))) (1:Int) (IntKind.wrap .i64 (i+(1:Int))) ((List.take d ds)++(List.take 1 ((IntKind.wrap .i64 ((IntKind.wrap .i64 (x4-borrow))+(65536:Int))):: [])))
 else
 none
 else
 none
 else
 if(d≤(List.length ds))then
 if(((d+(List.length (List.take 1 ((IntKind.wrap .i64 (x4-borrow)):: []))))*8)≤140737488355328)then
 rec a b (d+(List.length (List.take 1 ((IntKind.wrap .i64 (x4-borrow)):: [])))) (0:Int) (IntKind.wrap .i64 (i+(1:Int))) ((List.take d ds)++(List.take 1 ((IntKind.wrap .i64 (x4-borrow)):: [])))
 else
 none
 else
 none
 else
 none
 else
 (some (d,ds))
def qaB (k n:Nat):List Int→List Int→Nat→Int→Int→List Int→Option (Nat×List Int):=Nat.rec (fun _ _ _ _ _ _=>none) (fun _ r=>qaY k r) n
def qfv (k:Nat) (a:List Int) (b:List Int):Option (List Int):=
 Option.bind (qaB k k a b 0 (0:Int) (0:Int) []) fun r7=>
 Option.bind (qE k r7.1 r7.2) fun r8=>
 if((0+r8.1)≤(List.length r8.2))then
 (some (List.take r8.1 r8.2))
 else
 none
def qaE:Nat→List Int→List Int→Option (List Int)
 | 0,_,_=>none
 | k+1,a,b=>qfv k a b
def qyj:Nat→Inst:=mkI 147 ⟨[vJ,vJ],[]⟩ [⟨[vJ],[]⟩] fun k x=>qaE k x.1 x.2
theorem qug (k:Nat):qas (call cf k) [qnJ k]:=
 ac (qmJ k) a0
def qyk (k:Nat):LInst:=mkL 0 [⟨[(0,vJ),(1,vJ),(5,.a (.smz 0)),(6,vI),(7,vI)],[(0,some (.arr (.int .i64) 1 3 false))],1⟩] [⟨some 0,⟨[(5,.a (.smz 0))],[(0,some (.arr (.int .i64) 1 3 false))],1⟩⟩] (fun n x=>qaB k n x.1 x.2.1 x.2.2.1 x.2.2.2.1 x.2.2.2.2.1 x.2.2.2.2.2) k
theorem qyl (k:Nat):LIo 147 Tryz.f147 0 k (qyk k):=
 lpk [] (qug k) l0 (fun _=>rfl) (by kernel_rfl) fun n x=>by kernel_rfl
theorem quh:∀k,qe (call cf k) (qyj k):=
 fnk 0 [0] Tryz.func147 (fun k=>(qug k)) (fun k=>(lc (qyl k) l0)) ⟨rfl,rfl,⟨rfl,Nat.le_of_ble_eq_true rfl⟩,rfl⟩ (fun _=>rfl) (by kernel_rfl) fun k x=>by kernel_rfl

def qb9 (k:Nat) (a0:Bool) (a1:List Int) (b0:Bool) (b1:List Int):Option (Bool×List Int):=
 if((a0 == b0)=true)then
 Option.bind (qdA k a1 b1) fun r6=>
 if(a0=true)then
 (some ((decide ((((List.length r6):Nat):Int)>(0:Int))),r6))
 else
 (some (false,r6))
 else
 Option.bind (qdB k a1 b1) fun r6=>
 if((decide (r6≥(0:Int)))=true)then
 Option.bind (qaE k a1 b1) fun r7=>
 if(a0=true)then
 (some ((decide ((((List.length r7):Nat):Int)>(0:Int))),r7))
 else
 (some (false,r7))
 else
 Option.bind (qaE k b1 a1) fun r7=>
 (some (b0,r7))
def qcJ:Nat→Bool→List Int→Bool→List Int→Option (Bool×List Int)
 | 0,_,_,_,_=>none
 | k+1,a0,a1,b0,b1=>qb9 k a0 a1 b0 b1
def qBL:Nat→Inst:=mkI 90 ⟨[.g [.lf .bool,.lf (.sl (.int .i64))],.g [.lf .bool,.lf (.sl (.int .i64))]],[]⟩ [⟨[.g [.lf .bool,.lf (.sl (.int .i64))]],[]⟩] fun k x=>qcJ k x.1 x.2.1 x.2.2.1 x.2.2.2
theorem qAE:∀k,qe (call cf k) (qBL k):=
 fnk 0 [] Tryz.func90 (fun k=>(ac (qAD k) (ac (quf k) (ac (quh k) a0)))) (fun k=>l0) ⟨rfl,rfl,⟨rfl,Nat.le_of_ble_eq_true rfl⟩,rfl⟩ (fun _=>rfl) (by kernel_rfl) fun k x=>by kernel_rfl

def qaZ (k:Nat) (rec:Int→Bool→Nat→Bool→Nat→List Int→List Int→Option (Bool×Nat×Bool×Nat×List Int×List Int)) (v:Int) (x0:Bool) (x1:Nat) (a0:Bool) (a1:Nat) (m:List Int) (m1:List Int):Option (Bool×Nat×Bool×Nat×List Int×List Int):=
 if((decide (v>(0:Int)))=true)then
 if(a1≤(List.length m1))then
 if(((a1+(List.length (List.take 1 ((Int.tmod v (65536:Int)):: []))))*8)≤140737488355328)then
 rec (IntKind.wrap .i64 (Int.tdiv v (65536:Int))) x0 x1 a0 (a1+(List.length (List.take 1 ((Int.tmod v (65536:Int)):: [])))) m ((List.take a1 m1)++(List.take 1 ((Int.tmod v (65536:Int)):: [])))
 else
 none
 else
 none
 else
 (some (x0,x1,a0,a1,m,m1))
def qaC (k n:Nat):Int→Bool→Nat→Bool→Nat→List Int→List Int→Option (Bool×Nat×Bool×Nat×List Int×List Int):=Nat.rec (fun _ _ _ _ _ _ _=>none) (fun _ r=>qaZ k r) n
def qdg (k:Nat) (v:Int):Option (Bool×List Int):=
 if((decide (v<(0:Int)))=true)then
 Option.bind (qaC k k (IntKind.wrap .i64 ((0:Int)-v)) false 0 true 0 [] []) fun r6=>
 if((0+r6.2.2.2.1)≤(List.length r6.2.2.2.2.2))then
 (some (r6.2.2.1,(List.take r6.2.2.2.1 r6.2.2.2.2.2)))
 else
 none
 else
 Option.bind (qaC k k v false 0 false 0 [] []) fun r6=>
 if((0+r6.2.2.2.1)≤(List.length r6.2.2.2.2.2))then
 (some (r6.2.2.1,(List.take r6.2.2.2.1 r6.2.2.2.2.2)))
 else
 none
def qW:Nat→Int→Option (Bool×List Int)
 | 0,_=>none
 | k+1,v=>qdg k v
def qp8:Nat→Inst:=mkI 94 ⟨[vI],[]⟩ [⟨[.g [.lf .bool,.lf (.sl (.int .i64))]],[]⟩] fun k x=>qW k x
def qym (k:Nat):LInst:=mkL 0 [⟨[(0,vI),(2,.a (.ptr 0 0 0)),(3,.a (.ptr 1 0 0))],[(0,some (.raw [[.lf .bool,.smz 2]] 2 154 false false false)),(1,some (.raw [[.lf .bool,.smz 3]] 2 154 false false false)),(2,some (.arr (.int .i64) 1 3 false)),(3,some (.arr (.int .i64) 1 3 false))],4⟩] [⟨some 0,⟨[(2,.a (.ptr 0 0 0)),(3,.a (.ptr 1 0 0))],[(0,some (.raw [[.lf .bool,.smz 2]] 2 154 false false false)),(1,some (.raw [[.lf .bool,.smz 3]] 2 154 false false false)),(2,some (.arr (.int .i64) 1 3 false)),(3,some (.arr (.int .i64) 1 3 false))],4⟩⟩] (fun n x=>qaC k n x.1 x.2.1 x.2.2.1 x.2.2.2.1 x.2.2.2.2.1 x.2.2.2.2.2.1 x.2.2.2.2.2.2) k
theorem qyn (k:Nat):LIo 94 Tryz.f94 0 k (qym k):=
 lpk [] a0 l0 (fun _=>rfl) (by kernel_rfl) fun n x=>by kernel_rfl
theorem qmK:∀k,qe (call cf k) (qp8 k):=
 fnk 0 [0] Tryz.func94 (fun k=>a0) (fun k=>(lc (qyn k) l0)) ⟨rfl,rfl,⟨rfl,Nat.le_of_ble_eq_true rfl⟩,rfl⟩ (fun _=>rfl) (by kernel_rfl) fun k x=>by kernel_rfl

def qf4 (k:Nat) (a0:Bool) (a1:List Int):Option (Int):=
 if(((((List.length a1):Nat):Int) == (0:Int))=true)then
 (some (0:Int))
 else
 if(a0=true)then
 (some (-(1:Int)))
 else
 (some (1:Int))
def qdC:Nat→Bool→List Int→Option (Int)
 | 0,_,_=>none
 | k+1,a0,a1=>qf4 k a0 a1
def qBM:Nat→Inst:=mkI 149 ⟨[.g [.lf .bool,.lf (.sl (.int .i64))]],[]⟩ [⟨[vI],[]⟩] fun k x=>qdC k x.1 x.2
theorem qui:∀k,qe (call cf k) (qBM k):=
 fnk 0 [] Tryz.func149 (fun k=>a0) (fun k=>l0) ⟨rfl,rfl,⟨rfl,Nat.le_of_ble_eq_true rfl⟩,rfl⟩ (fun _=>rfl) (by kernel_rfl) fun k x=>by kernel_rfl

def qdh (k:Nat) (a0:Bool) (a1:List Int):Option (Bool×List Int):=
 if(((((List.length a1):Nat):Int) == (0:Int))=true)then
 (some (false,[]))
 else
 (some ((!a0),a1))
def qbW:Nat→Bool→List Int→Option (Bool×List Int)
 | 0,_,_=>none
 | k+1,a0,a1=>qdh k a0 a1
def qBN:Nat→Inst:=mkI 150 ⟨[.g [.lf .bool,.lf (.sl (.int .i64))]],[]⟩ [⟨[.g [.lf .bool,.lf (.sl (.int .i64))]],[]⟩] fun k x=>qbW k x.1 x.2
theorem quj:∀k,qe (call cf k) (qBN k):=
 fnk 0 [] Tryz.func150 (fun k=>a0) (fun k=>l0) ⟨rfl,rfl,⟨rfl,Nat.le_of_ble_eq_true rfl⟩,rfl⟩ (fun _=>rfl) (by kernel_rfl) fun k x=>by kernel_rfl

def qle (k:Nat) (a0:Bool) (a1:List Int):Option (Bool×List Int):=
 (some (false,a1))
def qb1:Nat→Bool→List Int→Option (Bool×List Int)
 | 0,_,_=>none
 | k+1,a0,a1=>qle k a0 a1
def qyo:Nat→Inst:=mkI 206 ⟨[.g [.lf .bool,.lf (.sl (.int .i64))]],[]⟩ [⟨[.g [.lf .bool,.lf (.sl (.int .i64))]],[]⟩] fun k x=>qb1 k x.1 x.2
theorem qAF:∀k,qe (call cf k) (qyo k):=
 fnk 0 [] Tryz.func206 (fun k=>a0) (fun k=>l0) ⟨rfl,rfl,⟨rfl,Nat.le_of_ble_eq_true rfl⟩,rfl⟩ (fun _=>rfl) (by kernel_rfl) fun k x=>by kernel_rfl

def qcm (k:Nat) (rec:Nat→Int→Int→Int→Bool→List Int→Bool→List Int→Bool→Nat→List Int→List Int→Option (Nat×Int×Int×Bool×List Int×Bool×List Int×Bool×Nat×List Int×List Int)) (d:Nat) (i:Int) (carry:Int) (j:Int) (a0:Bool) (a1:List Int) (b0:Bool) (b1:List Int) (x0:Bool) (x1:Nat) (ds:List Int) (m:List Int):Option (Nat×Int×Int×Bool×List Int×Bool×List Int×Bool×Nat×List Int×List Int):=
 if((decide (j<(((List.length b1):Nat):Int)))=true)then
 if(((0:Int)≤(IntKind.wrap .i64 (i+j)))∧((IntKind.wrap .i64 (i+j))<((d:Nat):Int)))then
 Option.bind (ds)[(0+(Int.toNat (IntKind.wrap .i64 (i+j))))]? fun x2=>
 if((0:Int)≤i)then
 Option.bind (a1)[(Int.toNat i)]? fun x3=>
 if((0:Int)≤j)then
 Option.bind (b1)[(Int.toNat j)]? fun x4=>
 if(((0:Int)≤(IntKind.wrap .i64 (i+j)))∧((IntKind.wrap .i64 (i+j))<((d:Nat):Int)))then
 Option.bind (ds)[(0+(Int.toNat (IntKind.wrap .i64 (i+j))))]? fun x5=>
 rec d i (IntKind.wrap .i64 (Int.tdiv (IntKind.wrap .i64 ((IntKind.wrap .i64 (x2+(IntKind.wrap .i64 (x3*x4))))+carry)) (65536:Int))) (IntKind.wrap .i64 (j+(1:Int))) a0 a1 b0 b1 x0 x1 (List.set ds (0+(Int.toNat (IntKind.wrap .i64 (i+j)))) (Int.tmod (IntKind.wrap .i64 ((IntKind.wrap .i64 (x2+(IntKind.wrap .i64 (x3*x4))))+carry)) (65536:Int))) m
 else
 none
 else
 none
 else
 none
 else
 none
 else
 (some (d,i,carry,a0,a1,b0,b1,x0,x1,ds,m))
def qb2 (k n:Nat):Nat→Int→Int→Int→Bool→List Int→Bool→List Int→Bool→Nat→List Int→List Int→Option (Nat×Int×Int×Bool×List Int×Bool×List Int×Bool×Nat×List Int×List Int):=Nat.rec (fun _ _ _ _ _ _ _ _ _ _ _ _=>none) (fun _ r=>qcm k r) n
def qcn (k:Nat) (rec:Nat→Int→Bool→List Int→Bool→List Int→Bool→Nat→List Int→List Int→Option (Nat×Bool×List Int×Bool×List Int×Bool×Nat×List Int×List Int)) (d:Nat) (i:Int) (a0:Bool) (a1:List Int) (b0:Bool) (b1:List Int) (x0:Bool) (x1:Nat) (ds:List Int) (m:List Int):Option (Nat×Bool×List Int×Bool×List Int×Bool×Nat×List Int×List Int):=
 if((decide (i<(((List.length a1):Nat):Int)))=true)then
 Option.bind (qb2 k k d i (0:Int) (0:Int) a0 a1 b0 b1 x0 x1 ds m) fun r15=>
 if(((0:Int)≤(IntKind.wrap .i64 (r15.2.1+(((List.length r15.2.2.2.2.2.2.1):Nat):Int))))∧((IntKind.wrap .i64 (r15.2.1+(((List.length r15.2.2.2.2.2.2.1):Nat):Int)))<((r15.1:Nat):Int)))then
 Option.bind (r15.2.2.2.2.2.2.2.2.2.1)[(0+(Int.toNat (IntKind.wrap .i64 (r15.2.1+(((List.length r15.2.2.2.2.2.2.1):Nat):Int)))))]? fun x2=>
 if(((0:Int)≤(IntKind.wrap .i64 (r15.2.1+(((List.length r15.2.2.2.2.2.2.1):Nat):Int))))∧((IntKind.wrap .i64 (r15.2.1+(((List.length r15.2.2.2.2.2.2.1):Nat):Int)))<((r15.1:Nat):Int)))then
 Option.bind (r15.2.2.2.2.2.2.2.2.2.1)[(0+(Int.toNat (IntKind.wrap .i64 (r15.2.1+(((List.length r15.2.2.2.2.2.2.1):Nat):Int)))))]? fun x3=>
 rec r15.1 (IntKind.wrap .i64 (r15.2.1+(1:Int))) r15.2.2.2.1 r15.2.2.2.2.1 r15.2.2.2.2.2.1 r15.2.2.2.2.2.2.1 r15.2.2.2.2.2.2.2.1 r15.2.2.2.2.2.2.2.2.1 (List.set r15.2.2.2.2.2.2.2.2.2.1 (0+(Int.toNat (IntKind.wrap .i64 (r15.2.1+(((List.length r15.2.2.2.2.2.2.1):Nat):Int))))) (IntKind.wrap .i64 (x2+r15.2.2.1))) r15.2.2.2.2.2.2.2.2.2.2
 else
 none
 else
 none
 else
 (some (d,a0,a1,b0,b1,x0,x1,ds,m))
def qb3 (k n:Nat):Nat→Int→Bool→List Int→Bool→List Int→Bool→Nat→List Int→List Int→Option (Nat×Bool×List Int×Bool×List Int×Bool×Nat×List Int×List Int):=Nat.rec (fun _ _ _ _ _ _ _ _ _ _=>none) (fun _ r=>qcn k r) n
def qfw (k:Nat) (a0:Bool) (a1:List Int) (b0:Bool) (b1:List Int):Option (Bool×List Int):=
 if(((0:Int)≤(IntKind.wrap .i64 ((((List.length a1):Nat):Int)+(((List.length b1):Nat):Int))))∧(((IntKind.wrap .i64 ((((List.length a1):Nat):Int)+(((List.length b1):Nat):Int)))≤(IntKind.wrap .i64 ((((List.length a1):Nat):Int)+(((List.length b1):Nat):Int))))∧(((IntKind.wrap .i64 ((((List.length a1):Nat):Int)+(((List.length b1):Nat):Int)))*(8:Int))≤(140737488355328:Int))))then
 Option.bind (qb3 k k (Int.toNat (IntKind.wrap .i64 ((((List.length a1):Nat):Int)+(((List.length b1):Nat):Int)))) (0:Int) a0 a1 b0 b1 false 0 (List.replicate (Int.toNat (IntKind.wrap .i64 ((((List.length a1):Nat):Int)+(((List.length b1):Nat):Int)))) (0:Int)) []) fun r15=>
 Option.bind (qE k r15.1 r15.2.2.2.2.2.2.2.1) fun r16=>
 if((!(r15.2.1 == r15.2.2.2.1))=true)then
 if((0+r16.1)≤(List.length r16.2))then
 (some ((decide (((r16.1:Nat):Int)>(0:Int))),(List.take r16.1 r16.2)))
 else
 none
 else
 if((0+r16.1)≤(List.length r16.2))then
 (some (false,(List.take r16.1 r16.2)))
 else
 none
 else
 none
def qX:Nat→Bool→List Int→Bool→List Int→Option (Bool×List Int)
 | 0,_,_,_,_=>none
 | k+1,a0,a1,b0,b1=>qfw k a0 a1 b0 b1
def qp9:Nat→Inst:=mkI 208 ⟨[.g [.lf .bool,.lf (.sl (.int .i64))],.g [.lf .bool,.lf (.sl (.int .i64))]],[]⟩ [⟨[.g [.lf .bool,.lf (.sl (.int .i64))]],[]⟩] fun k x=>qX k x.1 x.2.1 x.2.2.1 x.2.2.2
theorem qqa (k:Nat):qas (call cf k) [qnJ k]:=
 ac (qmJ k) a0
def qyp (k:Nat):LInst:=mkL 2 [⟨[(2,.a (.ptr 0 0 0)),(3,.a (.ptr 1 0 0)),(4,.a (.ptr 2 0 0)),(5,.a (.smz 3)),(6,vI),(7,vI),(8,vI)],[(0,some (.raw [[.lf .bool,.lf (.sl (.int .i64))]] 2 154 true false false)),(1,some (.raw [[.lf .bool,.lf (.sl (.int .i64))]] 2 154 true false false)),(2,some (.raw [[.lf .bool,.smz 4]] 2 154 false false false)),(3,some (.arr (.int .i64) 1 3 false)),(4,some (.arr (.int .i64) 1 3 false))],5⟩] [⟨some 2,⟨[(2,.a (.ptr 0 0 0)),(3,.a (.ptr 1 0 0)),(4,.a (.ptr 2 0 0)),(5,.a (.smz 3)),(6,vI),(7,vI)],[(0,some (.raw [[.lf .bool,.lf (.sl (.int .i64))]] 2 154 true false false)),(1,some (.raw [[.lf .bool,.lf (.sl (.int .i64))]] 2 154 true false false)),(2,some (.raw [[.lf .bool,.smz 4]] 2 154 false false false)),(3,some (.arr (.int .i64) 1 3 false)),(4,some (.arr (.int .i64) 1 3 false))],5⟩⟩] (fun n x=>qb2 k n x.1 x.2.1 x.2.2.1 x.2.2.2.1 x.2.2.2.2.1 x.2.2.2.2.2.1 x.2.2.2.2.2.2.1 x.2.2.2.2.2.2.2.1 x.2.2.2.2.2.2.2.2.1 x.2.2.2.2.2.2.2.2.2.1 x.2.2.2.2.2.2.2.2.2.2.1 x.2.2.2.2.2.2.2.2.2.2.2) k
theorem qry (k:Nat):LIo 208 Tryz.f208 0 k (qyp k):=
 lpk [] (qqa k) l0 (fun _=>rfl) (by kernel_rfl) fun n x=>by kernel_rfl
def qyq (k:Nat):LInst:=mkL 0 [⟨[(2,.a (.ptr 0 0 0)),(3,.a (.ptr 1 0 0)),(4,.a (.ptr 2 0 0)),(5,.a (.smz 3)),(6,vI)],[(0,some (.raw [[.lf .bool,.lf (.sl (.int .i64))]] 2 154 true false false)),(1,some (.raw [[.lf .bool,.lf (.sl (.int .i64))]] 2 154 true false false)),(2,some (.raw [[.lf .bool,.smz 4]] 2 154 false false false)),(3,some (.arr (.int .i64) 1 3 false)),(4,some (.arr (.int .i64) 1 3 false))],5⟩] [⟨some 0,⟨[(2,.a (.ptr 0 0 0)),(3,.a (.ptr 1 0 0)),(4,.a (.ptr 2 0 0)),(5,.a (.smz 3))],[(0,some (.raw [[.lf .bool,.lf (.sl (.int .i64))]] 2 154 true false false)),(1,some (.raw [[.lf .bool,.lf (.sl (.int .i64))]] 2 154 true false false)),(2,some (.raw [[.lf .bool,.smz 4]] 2 154 false false false)),(3,some (.arr (.int .i64) 1 3 false)),(4,some (.arr (.int .i64) 1 3 false))],5⟩⟩] (fun n x=>qb3 k n x.1 x.2.1 x.2.2.1 x.2.2.2.1 x.2.2.2.2.1 x.2.2.2.2.2.1 x.2.2.2.2.2.2.1 x.2.2.2.2.2.2.2.1 x.2.2.2.2.2.2.2.2.1 x.2.2.2.2.2.2.2.2.2) k
theorem qyr (k:Nat):LIo 208 Tryz.f208 0 k (qyq k):=
 lpk [2] (qqa k) (lc (qry k) l0) (fun _=>rfl) (by kernel_rfl) fun n x=>by kernel_rfl
theorem qlf:∀k,qe (call cf k) (qp9 k):=
 fnk 0 [0] Tryz.func208 (fun k=>(qqa k)) (fun k=>(lc (qry k) (lc (qyr k) l0))) ⟨rfl,rfl,⟨rfl,Nat.le_of_ble_eq_true rfl⟩,rfl⟩ (fun _=>rfl) (by kernel_rfl) fun k x=>by kernel_rfl

def qaa (k:Nat) (rec:List Int→List Int→Int→Int→Option (Int)) (r:List Int) (b:List Int) (low:Int) (high:Int):Option (Int):=
 if((decide (low<high))=true)then
 Option.bind (qW k (IntKind.wrap .i64 (Int.tdiv (IntKind.wrap .i64 ((IntKind.wrap .i64 (low+high))+(1:Int))) (2:Int)))) fun r14=>
 Option.bind (qX k false b r14.1 r14.2) fun r15=>
 Option.bind (qdB k r15.2 r) fun r16=>
 if((decide (r16≤(0:Int)))=true)then
 rec r b (IntKind.wrap .i64 (Int.tdiv (IntKind.wrap .i64 ((IntKind.wrap .i64 (low+high))+(1:Int))) (2:Int))) high
 else
 rec r b low (IntKind.wrap .i64 ((IntKind.wrap .i64 (Int.tdiv (IntKind.wrap .i64 ((IntKind.wrap .i64 (low+high))+(1:Int))) (2:Int)))-(1:Int)))
 else
 (some low)
def qbq (k n:Nat):List Int→List Int→Int→Int→Option (Int):=Nat.rec (fun _ _ _ _=>none) (fun _ r=>qaa k r) n
def qfx (k:Nat) (r:List Int) (b:List Int):Option (Int):=
 Option.bind (qdB k r b) fun r13=>
 if((decide (r13<(0:Int)))=true)then
 (some (0:Int))
 else
 Option.bind (qbq k k r b (0:Int) (65535:Int)) fun r14=>
 (some r14)
def qcs:Nat→List Int→List Int→Option (Int)
 | 0,_,_=>none
 | k+1,r,b=>qfx k r b
def qys:Nat→Inst:=mkI 207 ⟨[vJ,vJ],[]⟩ [⟨[vI],[]⟩] fun k x=>qcs k x.1 x.2
theorem quk (k:Nat):qas (call cf k) [qyg k,qp8 k,qp9 k]:=
 ac (quf k) (ac (qmK k) (ac (qlf k) a0))
def qyt (k:Nat):LInst:=mkL 0 [⟨[(0,vJ),(1,vJ),(5,vI),(6,vI)],[],0⟩] [⟨some 0,⟨[(5,vI)],[],0⟩⟩] (fun n x=>qbq k n x.1 x.2.1 x.2.2.1 x.2.2.2) k
theorem qyu (k:Nat):LIo 207 Tryz.f207 0 k (qyt k):=
 lpk [] (quk k) l0 (fun _=>rfl) (by kernel_rfl) fun n x=>by kernel_rfl
theorem qAG:∀k,qe (call cf k) (qys k):=
 fnk 0 [0] Tryz.func207 (fun k=>(quk k)) (fun k=>(lc (qyu k) l0)) ⟨rfl,rfl,⟨rfl,Nat.le_of_ble_eq_true rfl⟩,rfl⟩ (fun _=>rfl) (by kernel_rfl) fun k x=>by kernel_rfl

def qz (k:Nat) (rec:((Nat×Nat×Int×Bool×List Int×Bool×List Int×Bool×Nat×Bool×Nat×List Int×List Int×List Int×List Int) ⊕ (Nat×List Int×Int×Bool×List Int×Bool×List Int×Bool×Nat×Bool×Nat×List Int×List Int×List Int))→Option ((Nat×Nat×Bool×List Int×Bool×List Int×Bool×Nat×Bool×Nat×List Int×List Int×List Int×List Int) ⊕ (Nat×List Int×Bool×List Int×Bool×List Int×Bool×Nat×Bool×Nat×List Int×List Int×List Int))) (x:(Nat×Nat×Int×Bool×List Int×Bool×List Int×Bool×Nat×Bool×Nat×List Int×List Int×List Int×List Int) ⊕ (Nat×List Int×Int×Bool×List Int×Bool×List Int×Bool×Nat×Bool×Nat×List Int×List Int×List Int)):Option ((Nat×Nat×Bool×List Int×Bool×List Int×Bool×Nat×Bool×Nat×List Int×List Int×List Int×List Int) ⊕ (Nat×List Int×Bool×List Int×Bool×List Int×Bool×Nat×Bool×Nat×List Int×List Int×List Int)):=
 qc x
 (fun x=>
 if((decide (x.2.2.1≥(0:Int)))=true)then
 if((0:Int)≤x.2.2.1)then
 Option.bind (x.2.2.2.2.1)[(Int.toNat x.2.2.1)]? fun x2=>
 if((0+x.2.1)≤(List.length x.2.2.2.2.2.2.2.2.2.2.2.2.1))then
 if(((1+(List.length (List.take x.2.1 x.2.2.2.2.2.2.2.2.2.2.2.2.1)))*8)≤140737488355328)then
 Option.bind (qE k (1+(List.length (List.take x.2.1 x.2.2.2.2.2.2.2.2.2.2.2.2.1))) ((List.take 1 (x2:: []))++(List.take x.2.1 x.2.2.2.2.2.2.2.2.2.2.2.2.1))) fun r12=>
 if((0+r12.1)≤(List.length r12.2))then
 Option.bind (qcs k (List.take r12.1 r12.2) x.2.2.2.2.2.2.1) fun r13=>
 if((decide (r13>(0:Int)))=true)then
 Option.bind (qW k r13) fun r14=>
 Option.bind (qX k false x.2.2.2.2.2.2.1 r14.1 r14.2) fun r15=>
 if((0+r12.1)≤(List.length r12.2))then
 Option.bind (qaE k (List.take r12.1 r12.2) r15.2) fun r16=>
 if(((0:Int)≤x.2.2.1)∧(x.2.2.1<((x.1:Nat):Int)))then
 Option.bind (x.2.2.2.2.2.2.2.2.2.2.2.1)[(0+(Int.toNat x.2.2.1))]? fun x3=>
 rec (Sum.inr (x.1,r16,(IntKind.wrap .i64 (x.2.2.1-(1:Int))),x.2.2.2.1,x.2.2.2.2.1,x.2.2.2.2.2.1,x.2.2.2.2.2.2.1,x.2.2.2.2.2.2.2.1,x.2.2.2.2.2.2.2.2.1,x.2.2.2.2.2.2.2.2.2.1,x.2.2.2.2.2.2.2.2.2.2.1,(List.set x.2.2.2.2.2.2.2.2.2.2.2.1 (0+(Int.toNat x.2.2.1)) r13),x.2.2.2.2.2.2.2.2.2.2.2.2.2.1,x.2.2.2.2.2.2.2.2.2.2.2.2.2.2))
 else
 none
 else
 none
 else
 if(((0:Int)≤x.2.2.1)∧(x.2.2.1<((x.1:Nat):Int)))then
 Option.bind (x.2.2.2.2.2.2.2.2.2.2.2.1)[(0+(Int.toNat x.2.2.1))]? fun x3=>
 rec (Sum.inl (x.1,r12.1,(IntKind.wrap .i64 (x.2.2.1-(1:Int))),x.2.2.2.1,x.2.2.2.2.1,x.2.2.2.2.2.1,x.2.2.2.2.2.2.1,x.2.2.2.2.2.2.2.1,x.2.2.2.2.2.2.2.2.1,x.2.2.2.2.2.2.2.2.2.1,x.2.2.2.2.2.2.2.2.2.2.1,(List.set x.2.2.2.2.2.2.2.2.2.2.2.1 (0+(Int.toNat x.2.2.1)) r13),r12.2,x.2.2.2.2.2.2.2.2.2.2.2.2.2.1,x.2.2.2.2.2.2.2.2.2.2.2.2.2.2))
 else
 none
 else
 none
 else
 none
 else
 none
 else
 none
 else
 (some (Sum.inl (x.1,x.2.1,x.2.2.2.1,x.2.2.2.2.1,x.2.2.2.2.2.1,x.2.2.2.2.2.2.1,x.2.2.2.2.2.2.2.1,x.2.2.2.2.2.2.2.2.1,x.2.2.2.2.2.2.2.2.2.1,x.2.2.2.2.2.2.2.2.2.2.1,x.2.2.2.2.2.2.2.2.2.2.2.1,x.2.2.2.2.2.2.2.2.2.2.2.2.1,x.2.2.2.2.2.2.2.2.2.2.2.2.2.1,x.2.2.2.2.2.2.2.2.2.2.2.2.2.2))))
 (fun x=>
 if((decide (x.2.2.1≥(0:Int)))=true)then
 if((0:Int)≤x.2.2.1)then
 Option.bind (x.2.2.2.2.1)[(Int.toNat x.2.2.1)]? fun x2=>
 if(((1+(List.length x.2.1))*8)≤140737488355328)then
 Option.bind (qE k (1+(List.length x.2.1)) ((List.take 1 (x2:: []))++x.2.1)) fun r12=>
 if((0+r12.1)≤(List.length r12.2))then
 Option.bind (qcs k (List.take r12.1 r12.2) x.2.2.2.2.2.2.1) fun r13=>
 if((decide (r13>(0:Int)))=true)then
 Option.bind (qW k r13) fun r14=>
 Option.bind (qX k false x.2.2.2.2.2.2.1 r14.1 r14.2) fun r15=>
 if((0+r12.1)≤(List.length r12.2))then
 Option.bind (qaE k (List.take r12.1 r12.2) r15.2) fun r16=>
 if(((0:Int)≤x.2.2.1)∧(x.2.2.1<((x.1:Nat):Int)))then
 Option.bind (x.2.2.2.2.2.2.2.2.2.2.2.1)[(0+(Int.toNat x.2.2.1))]? fun x3=>
 rec (Sum.inr (x.1,r16,(IntKind.wrap .i64 (x.2.2.1-(1:Int))),x.2.2.2.1,x.2.2.2.2.1,x.2.2.2.2.2.1,x.2.2.2.2.2.2.1,x.2.2.2.2.2.2.2.1,x.2.2.2.2.2.2.2.2.1,x.2.2.2.2.2.2.2.2.2.1,x.2.2.2.2.2.2.2.2.2.2.1,(List.set x.2.2.2.2.2.2.2.2.2.2.2.1 (0+(Int.toNat x.2.2.1)) r13),x.2.2.2.2.2.2.2.2.2.2.2.2.1,x.2.2.2.2.2.2.2.2.2.2.2.2.2))
 else
 none
 else
 none
 else
 if(((0:Int)≤x.2.2.1)∧(x.2.2.1<((x.1:Nat):Int)))then
 Option.bind (x.2.2.2.2.2.2.2.2.2.2.2.1)[(0+(Int.toNat x.2.2.1))]? fun x3=>
 rec (Sum.inl (x.1,r12.1,(IntKind.wrap .i64 (x.2.2.1-(1:Int))),x.2.2.2.1,x.2.2.2.2.1,x.2.2.2.2.2.1,x.2.2.2.2.2.2.1,x.2.2.2.2.2.2.2.1,x.2.2.2.2.2.2.2.2.1,x.2.2.2.2.2.2.2.2.2.1,x.2.2.2.2.2.2.2.2.2.2.1,(List.set x.2.2.2.2.2.2.2.2.2.2.2.1 (0+(Int.toNat x.2.2.1)) r13),r12.2,x.2.2.2.2.2.2.2.2.2.2.2.2.1,x.2.2.2.2.2.2.2.2.2.2.2.2.2))
 else
 none
 else
 none
 else
 none
 else
 none
 else
 (some (Sum.inr (x.1,x.2.1,x.2.2.2.1,x.2.2.2.2.1,x.2.2.2.2.2.1,x.2.2.2.2.2.2.1,x.2.2.2.2.2.2.2.1,x.2.2.2.2.2.2.2.2.1,x.2.2.2.2.2.2.2.2.2.1,x.2.2.2.2.2.2.2.2.2.2.1,x.2.2.2.2.2.2.2.2.2.2.2.1,x.2.2.2.2.2.2.2.2.2.2.2.2.1,x.2.2.2.2.2.2.2.2.2.2.2.2.2))))
def qO (k n:Nat):((Nat×Nat×Int×Bool×List Int×Bool×List Int×Bool×Nat×Bool×Nat×List Int×List Int×List Int×List Int) ⊕ (Nat×List Int×Int×Bool×List Int×Bool×List Int×Bool×Nat×Bool×Nat×List Int×List Int×List Int))→Option ((Nat×Nat×Bool×List Int×Bool×List Int×Bool×Nat×Bool×Nat×List Int×List Int×List Int×List Int) ⊕ (Nat×List Int×Bool×List Int×Bool×List Int×Bool×Nat×Bool×Nat×List Int×List Int×List Int)):=Nat.rec (fun _=>none) (fun _ r=>qz k r) n
def qe8 (k:Nat) (a0:Bool) (a1:List Int) (b0:Bool) (b1:List Int):Option (Bool×List Int×Bool×List Int):=
 if(((0:Int)≤(((List.length a1):Nat):Int))∧(((((List.length a1):Nat):Int)≤(((List.length a1):Nat):Int))∧(((((List.length a1):Nat):Int)*(8:Int))≤(140737488355328:Int))))then
 Option.bind (qO k k (Sum.inl ((Int.toNat (((List.length a1):Nat):Int)),0,(IntKind.wrap .i64 ((((List.length a1):Nat):Int)-(1:Int))),a0,a1,b0,b1,false,0,false,0,(List.replicate (Int.toNat (((List.length a1):Nat):Int)) (0:Int)),[],[],[]))) fun r12=>
 qc r12
 (fun r12=>
 Option.bind (qE k r12.1 r12.2.2.2.2.2.2.2.2.2.2.1) fun r13=>
 if((!(r12.2.2.1 == r12.2.2.2.2.1))=true)then
 if(r12.2.2.1=true)then
 if((0+r13.1)≤(List.length r13.2))then
 if((0+r12.2.1)≤(List.length r12.2.2.2.2.2.2.2.2.2.2.2.1))then
 (some ((decide (((r13.1:Nat):Int)>(0:Int))),(List.take r13.1 r13.2),(decide (((r12.2.1:Nat):Int)>(0:Int))),(List.take r12.2.1 r12.2.2.2.2.2.2.2.2.2.2.2.1)))
 else
 none
 else
 none
 else
 if((0+r13.1)≤(List.length r13.2))then
 if((0+r12.2.1)≤(List.length r12.2.2.2.2.2.2.2.2.2.2.2.1))then
 (some ((decide (((r13.1:Nat):Int)>(0:Int))),(List.take r13.1 r13.2),false,(List.take r12.2.1 r12.2.2.2.2.2.2.2.2.2.2.2.1)))
 else
 none
 else
 none
 else
 if(r12.2.2.1=true)then
 if((0+r13.1)≤(List.length r13.2))then
 if((0+r12.2.1)≤(List.length r12.2.2.2.2.2.2.2.2.2.2.2.1))then
 (some (false,(List.take r13.1 r13.2),(decide (((r12.2.1:Nat):Int)>(0:Int))),(List.take r12.2.1 r12.2.2.2.2.2.2.2.2.2.2.2.1)))
 else
 none
 else
 none
 else
 if((0+r13.1)≤(List.length r13.2))then
 if((0+r12.2.1)≤(List.length r12.2.2.2.2.2.2.2.2.2.2.2.1))then
 (some (false,(List.take r13.1 r13.2),false,(List.take r12.2.1 r12.2.2.2.2.2.2.2.2.2.2.2.1)))
 else
 none
 else
 none)
 (fun r12=>
 Option.bind (qE k r12.1 r12.2.2.2.2.2.2.2.2.2.2.1) fun r13=>
 if((!(r12.2.2.1 == r12.2.2.2.2.1))=true)then
 if(r12.2.2.1=true)then
 if((0+r13.1)≤(List.length r13.2))then
 (some ((decide (((r13.1:Nat):Int)>(0:Int))),(List.take r13.1 r13.2),(decide ((((List.length r12.2.1):Nat):Int)>(0:Int))),r12.2.1))
 else
 none
 else
 if((0+r13.1)≤(List.length r13.2))then
 (some ((decide (((r13.1:Nat):Int)>(0:Int))),(List.take r13.1 r13.2),false,r12.2.1))
 else
 none
 else
 if(r12.2.2.1=true)then
 if((0+r13.1)≤(List.length r13.2))then
 (some (false,(List.take r13.1 r13.2),(decide ((((List.length r12.2.1):Nat):Int)>(0:Int))),r12.2.1))
 else
 none
 else
 if((0+r13.1)≤(List.length r13.2))then
 (some (false,(List.take r13.1 r13.2),false,r12.2.1))
 else
 none)
 else
 none
def qaU:Nat→Bool→List Int→Bool→List Int→Option (Bool×List Int×Bool×List Int)
 | 0,_,_,_,_=>none
 | k+1,a0,a1,b0,b1=>qe8 k a0 a1 b0 b1
def qyv:Nat→Inst:=mkI 152 ⟨[.g [.lf .bool,.lf (.sl (.int .i64))],.g [.lf .bool,.lf (.sl (.int .i64))]],[]⟩ [⟨[.g [.lf .bool,.lf (.sl (.int .i64))],.g [.lf .bool,.lf (.sl (.int .i64))]],[]⟩] fun k x=>qaU k x.1 x.2.1 x.2.2.1 x.2.2.2
theorem qul (k:Nat):qas (call cf k) [qnJ k,qys k,qp8 k,qp9 k,qyj k]:=
 ac (qmJ k) (ac (qAG k) (ac (qmK k) (ac (qlf k) (ac (quh k) a0))))
def qyw (k:Nat):LInst:=mkL 0 [⟨[(2,.a (.ptr 0 0 0)),(3,.a (.ptr 1 0 0)),(4,.a (.ptr 2 0 0)),(5,.a (.ptr 3 0 0)),(6,.a (.smz 4)),(7,.a (.smz 5)),(8,vI)],[(0,some (.raw [[.lf .bool,.lf (.sl (.int .i64))]] 2 154 true false false)),(1,some (.raw [[.lf .bool,.lf (.sl (.int .i64))]] 2 154 true false false)),(2,some (.raw [[.lf .bool,.smz 6]] 2 154 false false false)),(3,some (.raw [[.lf .bool,.smz 7]] 2 154 false false false)),(4,some (.arr (.int .i64) 1 3 false)),(5,some (.arr (.int .i64) 1 3 false)),(6,some (.arr (.int .i64) 1 3 false)),(7,some (.arr (.int .i64) 1 3 false))],8⟩,⟨[(2,.a (.ptr 0 0 0)),(3,.a (.ptr 1 0 0)),(4,.a (.ptr 2 0 0)),(5,.a (.ptr 3 0 0)),(6,.a (.smz 4)),(7,vJ),(8,vI)],[(0,some (.raw [[.lf .bool,.lf (.sl (.int .i64))]] 2 154 true false false)),(1,some (.raw [[.lf .bool,.lf (.sl (.int .i64))]] 2 154 true false false)),(2,some (.raw [[.lf .bool,.smz 5]] 2 154 false false false)),(3,some (.raw [[.lf .bool,.smz 6]] 2 154 false false false)),(4,some (.arr (.int .i64) 1 3 false)),(5,some (.arr (.int .i64) 1 3 false)),(6,some (.arr (.int .i64) 1 3 false))],7⟩] [⟨some 0,⟨[(2,.a (.ptr 0 0 0)),(3,.a (.ptr 1 0 0)),(4,.a (.ptr 2 0 0)),(5,.a (.ptr 3 0 0)),(6,.a (.smz 4)),(7,.a (.smz 5))],[(0,some (.raw [[.lf .bool,.lf (.sl (.int .i64))]] 2 154 true false false)),(1,some (.raw [[.lf .bool,.lf (.sl (.int .i64))]] 2 154 true false false)),(2,some (.raw [[.lf .bool,.smz 6]] 2 154 false false false)),(3,some (.raw [[.lf .bool,.smz 7]] 2 154 false false false)),(4,some (.arr (.int .i64) 1 3 false)),(5,some (.arr (.int .i64) 1 3 false)),(6,some (.arr (.int .i64) 1 3 false)),(7,some (.arr (.int .i64) 1 3 false))],8⟩⟩,⟨some 0,⟨[(2,.a (.ptr 0 0 0)),(3,.a (.ptr 1 0 0)),(4,.a (.ptr 2 0 0)),(5,.a (.ptr 3 0 0)),(6,.a (.smz 4)),(7,vJ)],[(0,some (.raw [[.lf .bool,.lf (.sl (.int .i64))]] 2 154 true false false)),(1,some (.raw [[.lf .bool,.lf (.sl (.int .i64))]] 2 154 true false false)),(2,some (.raw [[.lf .bool,.smz 5]] 2 154 false false false)),(3,some (.raw [[.lf .bool,.smz 6]] 2 154 false false false)),(4,some (.arr (.int .i64) 1 3 false)),(5,some (.arr (.int .i64) 1 3 false)),(6,some (.arr (.int .i64) 1 3 false))],7⟩⟩] (fun n x=>qO k n x) k
theorem qyx (k:Nat):LIo 152 Tryz.f152 0 k (qyw k):=
 lpk [] (qul k) l0 (fun _=>rfl) (by kernel_rfl) fun n x=>by kernel_rfl
theorem qum:∀k,qe (call cf k) (qyv k):=
 fnk 0 [0] Tryz.func152 (fun k=>(qul k)) (fun k=>(lc (qyx k) l0)) ⟨rfl,rfl,⟨rfl,Nat.le_of_ble_eq_true rfl⟩,rfl⟩ (fun _=>rfl) (by kernel_rfl) fun k x=>by kernel_rfl

def qcf (k:Nat) (rec:Bool→List Int→Bool→List Int→Bool→Nat→List Int→Option (Bool×List Int×Bool×List Int×Bool×Nat×List Int)) (a0:Bool) (a1:List Int) (b0:Bool) (b1:List Int) (x0:Bool) (x1:Nat) (m:List Int):Option (Bool×List Int×Bool×List Int×Bool×Nat×List Int):=
 if((decide ((((List.length b1):Nat):Int)>(0:Int)))=true)then
 Option.bind (qaU k a0 a1 b0 b1) fun r12=>
 rec b0 b1 r12.2.2.1 r12.2.2.2 x0 x1 m
 else
 (some (a0,a1,b0,b1,x0,x1,m))
def qco (k n:Nat):Bool→List Int→Bool→List Int→Bool→Nat→List Int→Option (Bool×List Int×Bool×List Int×Bool×Nat×List Int):=Nat.rec (fun _ _ _ _ _ _ _=>none) (fun _ r=>qcf k r) n
def qju (k:Nat) (a0:Bool) (a1:List Int) (b0:Bool) (b1:List Int):Option (Bool×List Int):=
 Option.bind (qb1 k a0 a1) fun r10=>
 Option.bind (qb1 k b0 b1) fun r11=>
 Option.bind (qco k k r10.1 r10.2 r11.1 r11.2 false 0 []) fun r12=>
 (some (r12.1,r12.2.1))
def qcW:Nat→Bool→List Int→Bool→List Int→Option (Bool×List Int)
 | 0,_,_,_,_=>none
 | k+1,a0,a1,b0,b1=>qju k a0 a1 b0 b1
def qBO:Nat→Inst:=mkI 151 ⟨[.g [.lf .bool,.lf (.sl (.int .i64))],.g [.lf .bool,.lf (.sl (.int .i64))]],[]⟩ [⟨[.g [.lf .bool,.lf (.sl (.int .i64))]],[]⟩] fun k x=>qcW k x.1 x.2.1 x.2.2.1 x.2.2.2
theorem qun (k:Nat):qas (call cf k) [qyo k,qyv k]:=
 ac (qAF k) (ac (qum k) a0)
def qyy (k:Nat):LInst:=mkL 0 [⟨[(2,.a (.ptr 0 0 0)),(3,.a (.ptr 1 0 0)),(4,.a (.ptr 2 0 0))],[(0,some (.raw [[.lf .bool,.lf (.sl (.int .i64))]] 2 154 true false false)),(1,some (.raw [[.lf .bool,.lf (.sl (.int .i64))]] 2 154 true false false)),(2,some (.raw [[.lf .bool,.smz 3]] 2 154 false false false)),(3,some (.arr (.int .i64) 1 3 false))],4⟩] [⟨some 0,⟨[(2,.a (.ptr 0 0 0)),(4,.a (.ptr 2 0 0))],[(0,some (.raw [[.lf .bool,.lf (.sl (.int .i64))]] 2 154 true false false)),(1,some (.raw [[.lf .bool,.lf (.sl (.int .i64))]] 2 154 true false false)),(2,some (.raw [[.lf .bool,.smz 3]] 2 154 false false false)),(3,some (.arr (.int .i64) 1 3 false))],4⟩⟩] (fun n x=>qco k n x.1 x.2.1 x.2.2.1 x.2.2.2.1 x.2.2.2.2.1 x.2.2.2.2.2.1 x.2.2.2.2.2.2) k
theorem qyz (k:Nat):LIo 151 Tryz.f151 0 k (qyy k):=
 lpk [] (qun k) l0 (fun _=>rfl) (by kernel_rfl) fun n x=>by kernel_rfl
theorem qAH:∀k,qe (call cf k) (qBO k):=
 fnk 0 [0] Tryz.func151 (fun k=>(qun k)) (fun k=>(lc (qyz k) l0)) ⟨rfl,rfl,⟨rfl,Nat.le_of_ble_eq_true rfl⟩,rfl⟩ (fun _=>rfl) (by kernel_rfl) fun k x=>by kernel_rfl

def qcX (k:Nat) (num0:Bool) (num1:List Int) (den0:Bool) (den1:List Int):Option (Bool×List Int×Bool×List Int):=
 Option.bind (qdC k den0 den1) fun r7=>
 if((decide (r7<(0:Int)))=true)then
 Option.bind (qbW k num0 num1) fun r8=>
 Option.bind (qbW k den0 den1) fun r9=>
 Option.bind (qcW k r8.1 r8.2 r9.1 r9.2) fun r10=>
 Option.bind (qaU k r8.1 r8.2 r10.1 r10.2) fun r11=>
 Option.bind (qaU k r9.1 r9.2 r10.1 r10.2) fun r12=>
 (some (r11.1,r11.2.1,r12.1,r12.2.1))
 else
 Option.bind (qcW k num0 num1 den0 den1) fun r8=>
 Option.bind (qaU k num0 num1 r8.1 r8.2) fun r9=>
 Option.bind (qaU k den0 den1 r8.1 r8.2) fun r10=>
 (some (r9.1,r9.2.1,r10.1,r10.2.1))
def qcY:Nat→Bool→List Int→Bool→List Int→Option (Bool×List Int×Bool×List Int)
 | 0,_,_,_,_=>none
 | k+1,num0,num1,den0,den1=>qcX k num0 num1 den0 den1
def qBP:Nat→Inst:=mkI 93 ⟨[.g [.lf .bool,.lf (.sl (.int .i64))],.g [.lf .bool,.lf (.sl (.int .i64))]],[]⟩ [⟨[.g [.lf .bool,.lf (.sl (.int .i64)),.lf .bool,.lf (.sl (.int .i64))]],[]⟩] fun k x=>qcY k x.1 x.2.1 x.2.2.1 x.2.2.2
theorem qAI:∀k,qe (call cf k) (qBP k):=
 fnk 0 [] Tryz.func93 (fun k=>(ac (qui k) (ac (quj k) (ac (qAH k) (ac (qum k) a0))))) (fun k=>l0) ⟨rfl,rfl,⟨rfl,Nat.le_of_ble_eq_true rfl⟩,rfl⟩ (fun _=>rfl) (by kernel_rfl) fun k x=>by kernel_rfl

def qa0 (k:Nat) (rec:Int→Int→List ByteArray→List DvT→Int→Int→Int→Option (Int×List ByteArray×List DvT×Int×Int×Int)) (n:Int) (i:Int) (f0:List ByteArray) (f1:List DvT) (f2:Int) (f3:Int) (f4:Int):Option (Int×List ByteArray×List DvT×Int×Int×Int):=
 if((decide (i<(((List.length f1):Nat):Int)))=true)then
 if((decide (n<(800:Int)))=true)then
 if((0:Int)≤i)then
 Option.bind (f1)[(Int.toNat i)]? fun x=>
 rec (IntKind.wrap .i64 (n+(IntKind.wrap .i64 ((IntKind.wrap .i64 ((IntKind.wrap .i64 ((IntKind.wrap .i64 ((IntKind.wrap .i64 ((1:Int)+(min (400:Int) (((List.length x.2.2.1):Nat):Int))))+(min (400:Int) (((List.length x.2.2.2.2.2.1.2.1):Nat):Int))))+(min (400:Int) (((List.length x.2.2.2.2.2.1.2.2):Nat):Int))))+(min (400:Int) (((List.length x.2.2.2.2.2.2.2.2.1):Nat):Int))))+(min (400:Int) (((List.length x.2.2.2.2.2.2.2.2.2):Nat):Int)))))) (IntKind.wrap .i64 (i+(1:Int))) f0 f1 f2 f3 f4
 else
 none
 else
 (some (n,f0,f1,f2,f3,f4))
 else
 (some (n,f0,f1,f2,f3,f4))
def qH (k n:Nat):Int→Int→List ByteArray→List DvT→Int→Int→Int→Option (Int×List ByteArray×List DvT×Int×Int×Int):=Nat.rec (fun _ _ _ _ _ _ _=>none) (fun _ r=>qa0 k r) n
def qfy (k:Nat) (f0:List ByteArray) (f1:List DvT) (f2:Int) (f3:Int) (f4:Int) (st0:Int) (st1:List Int) (st2:List Int) (st3:List Int):Option (Bool):=
 Option.bind (qH k k (IntKind.wrap .i64 ((IntKind.wrap .i64 ((IntKind.wrap .i64 ((((List.length f0):Nat):Int)+(min (400:Int) (((List.length st1):Nat):Int))))+(min (400:Int) (((List.length st2):Nat):Int))))+(min (400:Int) (((List.length st3):Nat):Int)))) (0:Int) f0 f1 f2 f3 f4) fun r1=>
 (some (decide (r1.1≥(800:Int))))
def qdZ:Nat→List ByteArray→List DvT→Int→Int→Int→Int→List Int→List Int→List Int→Option (Bool)
 | 0,_,_,_,_,_,_,_,_,_=>none
 | k+1,f0,f1,f2,f3,f4,st0,st1,st2,st3=>qfy k f0 f1 f2 f3 f4 st0 st1 st2 st3
def qBQ:Nat→Inst:=mkI 26 ⟨[.g [.lf (.sl .str),.lf (.sl qN),.lf (.int .i64),.lf (.int .i64),.lf (.int .i64)],.g [.lf (.int .i64),.lf (.sl (.int .i64)),.lf (.sl (.int .i64)),.lf (.sl (.int .i64))]],[]⟩ [⟨[vB],[]⟩] fun k x=>qdZ k x.1 x.2.1 x.2.2.1 x.2.2.2.1 x.2.2.2.2.1 x.2.2.2.2.2.1 x.2.2.2.2.2.2.1 x.2.2.2.2.2.2.2.1 x.2.2.2.2.2.2.2.2
def qyA (k:Nat):LInst:=mkL 0 [⟨[(2,.a (.ptr 0 0 0)),(5,vI),(6,vI)],[(0,some (.raw [[.lf (.sl .str),.lf (.sl qN),.lf (.int .i64),.lf (.int .i64),.lf (.int .i64)]] 5 27 true false false))],1⟩] [⟨some 0,⟨[(5,vI)],[(0,some (.raw [[.lf (.sl .str),.lf (.sl qN),.lf (.int .i64),.lf (.int .i64),.lf (.int .i64)]] 5 27 true false false))],1⟩⟩] (fun n x=>qH k n x.1 x.2.1 x.2.2.1 x.2.2.2.1 x.2.2.2.2.1 x.2.2.2.2.2.1 x.2.2.2.2.2.2) k
theorem qyB (k:Nat):LIo 26 Tryz.f26 0 k (qyA k):=
 lpk [] a0 l0 (fun _=>rfl) (by kernel_rfl) fun n x=>by kernel_rfl
theorem qAJ:∀k,qe (call cf k) (qBQ k):=
 fnk 0 [0] Tryz.func26 (fun k=>a0) (fun k=>(lc (qyB k) l0)) ⟨rfl,rfl,⟨rfl,Nat.le_of_ble_eq_true rfl⟩,rfl⟩ (fun _=>rfl) (by kernel_rfl) fun k x=>by kernel_rfl

def qfz (k:Nat) (n0:Int) (n1:Int):Option (Bool):=
 if((n0 == (0:Int))=false)then
 if(((Int.tmod n0 (10:Int)) == (0:Int))=true)then
 if((n0 == (0:Int))=true)then
 (some (n1 == (0:Int)))
 else
 (some false)
 else
 if((decide (n0≤(999999999:Int)))=true)then
 if((decide (n0≥(-(999999999:Int))))=true)then
 if((decide (n1≤(9:Int)))=true)then
 (some (decide (n1≥(-(18:Int)))))
 else
 (some false)
 else
 (some false)
 else
 (some false)
 else
 if((n0 == (0:Int))=true)then
 (some (n1 == (0:Int)))
 else
 (some false)
def qaF:Nat→Int→Int→Option (Bool)
 | 0,_,_=>none
 | k+1,n0,n1=>qfz k n0 n1
def qnK:Nat→Inst:=mkI 67 ⟨[.g [.lf (.int .i64),.lf (.int .i64)]],[]⟩ [⟨[vB],[]⟩] fun k x=>qaF k x.1 x.2
theorem qmL:∀k,qe (call cf k) (qnK k):=
 fnk 0 [] Tryz.func67 (fun k=>a0) (fun k=>l0) ⟨rfl,rfl,⟨rfl,Nat.le_of_ble_eq_true rfl⟩,rfl⟩ (fun _=>rfl) (by kernel_rfl) fun k x=>by kernel_rfl

def qbr (k:Nat) (rec:ByteArray→Int→Option ((Bool) ⊕ (ByteArray))) (s:ByteArray) (i:Int):Option ((Bool) ⊕ (ByteArray)):=
 if((decide (i<(((ByteArray.size s):Nat):Int)))=true)then
 if((0:Int)≤i)then
 Option.bind ((ByteArray.data s))[(Int.toNat i)]? fun x3=>
 if((decide ((((UInt8.toNat x3):Nat):Int)<(97:Int)))=false)then
 if((decide ((((UInt8.toNat x3):Nat):Int)>(122:Int)))=true)then
 if((decide ((((UInt8.toNat x3):Nat):Int)<(48:Int)))=false)then
 if((decide ((((UInt8.toNat x3):Nat):Int)>(57:Int)))=true)then
 if(((((UInt8.toNat x3):Nat):Int) != (95:Int))=true)then
 (some (Sum.inl false))
 else
 rec s (IntKind.wrap .i64 (i+(1:Int)))
 else
 rec s (IntKind.wrap .i64 (i+(1:Int)))
 else
 if(((((UInt8.toNat x3):Nat):Int) != (95:Int))=true)then
 (some (Sum.inl false))
 else
 rec s (IntKind.wrap .i64 (i+(1:Int)))
 else
 rec s (IntKind.wrap .i64 (i+(1:Int)))
 else
 if((decide ((((UInt8.toNat x3):Nat):Int)<(48:Int)))=false)then
 if((decide ((((UInt8.toNat x3):Nat):Int)>(57:Int)))=true)then
 if(((((UInt8.toNat x3):Nat):Int) != (95:Int))=true)then
 (some (Sum.inl false))
 else
 rec s (IntKind.wrap .i64 (i+(1:Int)))
 else
 rec s (IntKind.wrap .i64 (i+(1:Int)))
 else
 if(((((UInt8.toNat x3):Nat):Int) != (95:Int))=true)then
 (some (Sum.inl false))
 else
 rec s (IntKind.wrap .i64 (i+(1:Int)))
 else
 none
 else
 (some (Sum.inr s))
def qad (k n:Nat):ByteArray→Int→Option ((Bool) ⊕ (ByteArray)):=Nat.rec (fun _ _=>none) (fun _ r=>qbr k r) n
def qf5 (k:Nat) (s:ByteArray):Option (Bool):=
 Option.bind (qad k k s (0:Int)) fun r4=>
 qc r4
 (fun r4=>
 (some r4))
 (fun r4=>
 if((decide ((((ByteArray.size r4):Nat):Int)≥(1:Int)))=true)then
 (some (decide ((((ByteArray.size r4):Nat):Int)≤(16:Int))))
 else
 (some false))
def qcK:Nat→ByteArray→Option (Bool)
 | 0,_=>none
 | k+1,s=>qf5 k s
def qs8:Nat→Inst:=mkI 126 ⟨[vS],[]⟩ [⟨[vB],[]⟩] fun k x=>qcK k x
def qyC (k:Nat):LInst:=mkL 0 [⟨[(0,vS),(3,vI)],[],0⟩] [⟨none,⟨[(2,vB)],[],0⟩⟩,⟨some 0,⟨[(0,vS)],[],0⟩⟩] (fun n x=>qad k n x.1 x.2) k
theorem qyD (k:Nat):LIo 126 Tryz.f126 0 k (qyC k):=
 lpk [] a0 l0 (fun _=>rfl) (by kernel_rfl) fun n x=>by kernel_rfl
theorem qup:∀k,qe (call cf k) (qs8 k):=
 fnk 0 [0] Tryz.func126 (fun k=>a0) (fun k=>(lc (qyD k) l0)) ⟨rfl,rfl,⟨rfl,Nat.le_of_ble_eq_true rfl⟩,rfl⟩ (fun _=>rfl) (by kernel_rfl) fun k x=>by kernel_rfl

def qbs (k:Nat) (rec:ByteArray→Int→Int→Int→Option ((Bool) ⊕ (Int))) (s:ByteArray) (parts:Int) (from1:Int) (i:Int):Option ((Bool) ⊕ (Int)):=
 if((decide (i≤(((ByteArray.size s):Nat):Int)))=true)then
 if((i == (((ByteArray.size s):Nat):Int))=false)then
 if((0:Int)≤i)then
 Option.bind ((ByteArray.data s))[(Int.toNat i)]? fun x2=>
 if(((((UInt8.toNat x2):Nat):Int) == (46:Int))=true)then
 if(((0:Int)≤from1)∧((from1≤i)∧(i≤(((ByteArray.size s):Nat):Int))))then
 Option.bind (qcK k (ByteArray.extract s (Int.toNat from1) (Int.toNat i))) fun r4=>
 if((!r4)=true)then
 (some (Sum.inl false))
 else
 rec s (IntKind.wrap .i64 (parts+(1:Int))) (IntKind.wrap .i64 (i+(1:Int))) (IntKind.wrap .i64 (i+(1:Int)))
 else
 none
 else
 rec s parts from1 (IntKind.wrap .i64 (i+(1:Int)))
 else
 none
 else
 if(((0:Int)≤from1)∧((from1≤i)∧(i≤(((ByteArray.size s):Nat):Int))))then
 Option.bind (qcK k (ByteArray.extract s (Int.toNat from1) (Int.toNat i))) fun r4=>
 if((!r4)=true)then
 (some (Sum.inl false))
 else
 rec s (IntKind.wrap .i64 (parts+(1:Int))) (IntKind.wrap .i64 (i+(1:Int))) (IntKind.wrap .i64 (i+(1:Int)))
 else
 none
 else
 (some (Sum.inr parts))
def qaw (k n:Nat):ByteArray→Int→Int→Int→Option ((Bool) ⊕ (Int)):=Nat.rec (fun _ _ _ _=>none) (fun _ r=>qbs k r) n
def qf6 (k:Nat) (s:ByteArray):Option (Bool):=
 Option.bind (qaw k k s (0:Int) (0:Int) (0:Int)) fun r4=>
 qc r4
 (fun r4=>
 (some r4))
 (fun r4=>
 (some (decide (r4≤(9:Int)))))
def qC:Nat→ByteArray→Option (Bool)
 | 0,_=>none
 | k+1,s=>qf6 k s
def qs9:Nat→Inst:=mkI 69 ⟨[vS],[]⟩ [⟨[vB],[]⟩] fun k x=>qC k x
theorem quq (k:Nat):qas (call cf k) [qs8 k]:=
 ac (qup k) a0
def qyE (k:Nat):LInst:=mkL 0 [⟨[(0,vS),(3,vI),(4,vI),(5,vI)],[],0⟩] [⟨none,⟨[(2,vB)],[],0⟩⟩,⟨some 0,⟨[(3,vI)],[],0⟩⟩] (fun n x=>qaw k n x.1 x.2.1 x.2.2.1 x.2.2.2) k
theorem qyF (k:Nat):LIo 69 Tryz.f69 0 k (qyE k):=
 lpk [] (quq k) l0 (fun _=>rfl) (by kernel_rfl) fun n x=>by kernel_rfl
theorem qur:∀k,qe (call cf k) (qs9 k):=
 fnk 0 [0] Tryz.func69 (fun k=>(quq k)) (fun k=>(lc (qyF k) l0)) ⟨rfl,rfl,⟨rfl,Nat.le_of_ble_eq_true rfl⟩,rfl⟩ (fun _=>rfl) (by kernel_rfl) fun k x=>by kernel_rfl

def qaM (k:Nat) (rec:List Int→Int→Option ((Bool) ⊕ (Unit))) (l:List Int) (i:Int):Option ((Bool) ⊕ (Unit)):=
 if((decide (i<(((List.length l):Nat):Int)))=true)then
 if((0:Int)≤(IntKind.wrap .i64 (i-(1:Int))))then
 Option.bind (l)[(Int.toNat (IntKind.wrap .i64 (i-(1:Int))))]? fun x3=>
 if((0:Int)≤i)then
 Option.bind (l)[(Int.toNat i)]? fun x4=>
 if((decide (x3≥x4))=true)then
 (some (Sum.inl false))
 else
 rec l (IntKind.wrap .i64 (i+(1:Int)))
 else
 none
 else
 none
 else
 (some (Sum.inr ()))
def qP (k n:Nat):List Int→Int→Option ((Bool) ⊕ (Unit)):=Nat.rec (fun _ _=>none) (fun _ r=>qaM k r) n
def qjv (k:Nat) (l:List Int):Option (Bool):=
 Option.bind (qP k k l (1:Int)) fun r9=>
 qc r9
 (fun r9=>
 (some r9))
 (fun r9=>
 (some true))
def qcZ:Nat→List Int→Option (Bool)
 | 0,_=>none
 | k+1,l=>qjv k l
def qyG:Nat→Inst:=mkI 189 ⟨[vJ],[]⟩ [⟨[vB],[]⟩] fun k x=>qcZ k x
def qyH (k:Nat):LInst:=mkL 0 [⟨[(0,vJ),(3,vI)],[],0⟩] [⟨none,⟨[(2,vB)],[],0⟩⟩,⟨some 0,⟨[],[],0⟩⟩] (fun n x=>qP k n x.1 x.2) k
theorem qyI (k:Nat):LIo 189 Tryz.f189 0 k (qyH k):=
 lpk [] a0 l0 (fun _=>rfl) (by kernel_rfl) fun n x=>by kernel_rfl
theorem qAK:∀k,qe (call cf k) (qyG k):=
 fnk 0 [0] Tryz.func189 (fun k=>a0) (fun k=>(lc (qyI k) l0)) ⟨rfl,rfl,⟨rfl,Nat.le_of_ble_eq_true rfl⟩,rfl⟩ (fun _=>rfl) (by kernel_rfl) fun k x=>by kernel_rfl

def qa1 (k:Nat) (rec:Int→Int→List (Int×Int)→List Int→Option ((Bool×Int×List (Int×Int)×List Int) ⊕ (Int×List (Int×Int)×List Int))) (i:Int) (w0:Int) (w1:List (Int×Int)) (w2:List Int):Option ((Bool×Int×List (Int×Int)×List Int) ⊕ (Int×List (Int×Int)×List Int)):=
 if((decide (i<(((List.length w1):Nat):Int)))=true)then
 if((0:Int)≤i)then
 Option.bind (w1)[(Int.toNat i)]? fun x3=>
 Option.bind (qaF k x3.1 x3.2) fun r7=>
 if((!r7)=true)then
 (some (Sum.inl (false,w0,w1,w2)))
 else
 rec (IntKind.wrap .i64 (i+(1:Int))) w0 w1 w2
 else
 none
 else
 (some (Sum.inr (w0,w1,w2)))
def qR (k n:Nat):Int→Int→List (Int×Int)→List Int→Option ((Bool×Int×List (Int×Int)×List Int) ⊕ (Int×List (Int×Int)×List Int)):=Nat.rec (fun _ _ _ _=>none) (fun _ r=>qa1 k r) n
def qa2 (k:Nat) (rec:Int→Int→List (Int×Int)→List Int→Option ((Bool×Int×List (Int×Int)×List Int) ⊕ (Int×List (Int×Int)×List Int))) (i:Int) (w0:Int) (w1:List (Int×Int)) (w2:List Int):Option ((Bool×Int×List (Int×Int)×List Int) ⊕ (Int×List (Int×Int)×List Int)):=
 if((decide (i<(((List.length w2):Nat):Int)))=true)then
 if((0:Int)≤i)then
 Option.bind (w2)[(Int.toNat i)]? fun x3=>
 if((decide (x3<(0:Int)))=false)then
 if((0:Int)≤i)then
 Option.bind (w2)[(Int.toNat i)]? fun x4=>
 if((decide (x4>(1000000000:Int)))=true)then
 (some (Sum.inl (false,w0,w1,w2)))
 else
 rec (IntKind.wrap .i64 (i+(1:Int))) w0 w1 w2
 else
 none
 else
 (some (Sum.inl (false,w0,w1,w2)))
 else
 none
 else
 (some (Sum.inr (w0,w1,w2)))
def qL (k n:Nat):Int→Int→List (Int×Int)→List Int→Option ((Bool×Int×List (Int×Int)×List Int) ⊕ (Int×List (Int×Int)×List Int)):=Nat.rec (fun _ _ _ _=>none) (fun _ r=>qa2 k r) n
def qfA (k:Nat) (w0:Int) (w1:List (Int×Int)) (w2:List Int):Option (Bool):=
 Option.bind (qR k k (0:Int) w0 w1 w2) fun r7=>
 qc r7
 (fun r7=>
 (some r7.1))
 (fun r7=>
 Option.bind (qL k k (0:Int) r7.1 r7.2.1 r7.2.2) fun r8=>
 qc r8
 (fun r8=>
 (some r8.1))
 (fun r8=>
 if((r8.1 == (1:Int))=true)then
 if(((((List.length r8.2.1):Nat):Int) == (1:Int))=true)then
 (some ((((List.length r8.2.2):Nat):Int) == (0:Int)))
 else
 (some false)
 else
 if((r8.1 == (2:Int))=true)then
 if(((((List.length r8.2.1):Nat):Int) == (2:Int))=true)then
 if(((((List.length r8.2.2):Nat):Int) == (5:Int))=true)then
 Option.bind (r8.2.2)[4]? fun x3=>
 if((decide (x3>(0:Int)))=true)then
 Option.bind (r8.2.2)[1]? fun x4=>
 Option.bind (r8.2.2)[2]? fun x5=>
 Option.bind (r8.2.2)[3]? fun x6=>
 Option.bind (r8.2.2)[4]? fun x7=>
 (some (decide ((IntKind.wrap .i64 ((IntKind.wrap .i64 (x4+x5))+x6))≤x7)))
 else
 (some false)
 else
 (some false)
 else
 (some false)
 else
 if((r8.1 == (3:Int))=true)then
 if(((((List.length r8.2.1):Nat):Int) == (((List.length r8.2.2):Nat):Int))=true)then
 if((decide ((((List.length r8.2.1):Nat):Int)≥(1:Int)))=true)then
 if((decide ((((List.length r8.2.1):Nat):Int)≤(16:Int)))=true)then
 Option.bind (qcZ k r8.2.2) fun r9=>
 (some r9)
 else
 (some false)
 else
 (some false)
 else
 (some false)
 else
 if((r8.1 == (4:Int))=true)then
 if((decide ((((List.length r8.2.1):Nat):Int)≥(1:Int)))=true)then
 if((decide ((((List.length r8.2.1):Nat):Int)≤(16:Int)))=true)then
 (some ((((List.length r8.2.2):Nat):Int) == (0:Int)))
 else
 (some false)
 else
 (some false)
 else
 (some false)))
def qY:Nat→Int→List (Int×Int)→List Int→Option (Bool)
 | 0,_,_,_=>none
 | k+1,w0,w1,w2=>qfA k w0 w1 w2
def qyJ:Nat→Inst:=mkI 124 ⟨[.g [.lf (.int .i64),.lf cE,.lf (.sl (.int .i64))]],[]⟩ [⟨[vB],[]⟩] fun k x=>qY k x.1 x.2.1 x.2.2
theorem qqb (k:Nat):qas (call cf k) [qnK k,qyG k]:=
 ac (qmL k) (ac (qAK k) a0)
def qyK (k:Nat):LInst:=mkL 0 [⟨[(1,.a (.ptr 0 0 0)),(3,vI)],[(0,some (.raw [[.lf (.int .i64),.lf cE,.lf (.sl (.int .i64))]] 3 44 true false false))],1⟩] [⟨none,⟨[(2,vB)],[(0,some (.raw [[.lf (.int .i64),.lf cE,.lf (.sl (.int .i64))]] 3 44 true false false))],1⟩⟩,⟨some 0,⟨[(1,.a (.ptr 0 0 0))],[(0,some (.raw [[.lf (.int .i64),.lf cE,.lf (.sl (.int .i64))]] 3 44 true false false))],1⟩⟩] (fun n x=>qR k n x.1 x.2.1 x.2.2.1 x.2.2.2) k
theorem qrz (k:Nat):LIo 124 Tryz.f124 0 k (qyK k):=
 lpk [] (qqb k) l0 (fun _=>rfl) (by kernel_rfl) fun n x=>by kernel_rfl
def qyL (k:Nat):LInst:=mkL 2 [⟨[(1,.a (.ptr 0 0 0)),(4,vI)],[(0,some (.raw [[.lf (.int .i64),.lf cE,.lf (.sl (.int .i64))]] 3 44 true false false))],1⟩] [⟨none,⟨[(2,vB)],[(0,some (.raw [[.lf (.int .i64),.lf cE,.lf (.sl (.int .i64))]] 3 44 true false false))],1⟩⟩,⟨some 2,⟨[(1,.a (.ptr 0 0 0))],[(0,some (.raw [[.lf (.int .i64),.lf cE,.lf (.sl (.int .i64))]] 3 44 true false false))],1⟩⟩] (fun n x=>qL k n x.1 x.2.1 x.2.2.1 x.2.2.2) k
theorem qyM (k:Nat):LIo 124 Tryz.f124 0 k (qyL k):=
 lpk [] (qqb k) (lc (qrz k) l0) (fun _=>rfl) (by kernel_rfl) fun n x=>by kernel_rfl
theorem qAL:∀k,qe (call cf k) (qyJ k):=
 fnk 0 [0,2] Tryz.func124 (fun k=>(qqb k)) (fun k=>(lc (qrz k) (lc (qyM k) l0))) ⟨rfl,rfl,⟨rfl,Nat.le_of_ble_eq_true rfl⟩,rfl⟩ (fun _=>rfl) (by kernel_rfl) fun k x=>by kernel_rfl

def qbt (k:Nat) (rec:List (Int×Int)→List (Int×Int)→Int→Option ((Bool) ⊕ (Unit))) (a:List (Int×Int)) (b:List (Int×Int)) (i:Int):Option ((Bool) ⊕ (Unit)):=
 if((decide (i<(((List.length a):Nat):Int)))=true)then
 if((0:Int)≤i)then
 Option.bind (a)[(Int.toNat i)]? fun x3=>
 if((0:Int)≤i)then
 Option.bind (b)[(Int.toNat i)]? fun x4=>
 if((x3.1 == x4.1)=true)then
 if((x3.2 == x4.2)=true)then
 rec a b (IntKind.wrap .i64 (i+(1:Int)))
 else
 (some (Sum.inl false))
 else
 (some (Sum.inl false))
 else
 none
 else
 none
 else
 (some (Sum.inr ()))
def qax (k n:Nat):List (Int×Int)→List (Int×Int)→Int→Option ((Bool) ⊕ (Unit)):=Nat.rec (fun _ _ _=>none) (fun _ r=>qbt k r) n
def qf7 (k:Nat) (a:List (Int×Int)) (b:List (Int×Int)):Option (Bool):=
 if(((((List.length a):Nat):Int) != (((List.length b):Nat):Int))=true)then
 (some false)
 else
 Option.bind (qax k k a b (0:Int)) fun r9=>
 qc r9
 (fun r9=>
 (some r9))
 (fun r9=>
 (some true))
def qcL:Nat→List (Int×Int)→List (Int×Int)→Option (Bool)
 | 0,_,_=>none
 | k+1,a,b=>qf7 k a b
def qyN:Nat→Inst:=mkI 188 ⟨[.a (.lf cE),.a (.lf cE)],[]⟩ [⟨[vB],[]⟩] fun k x=>qcL k x.1 x.2
def qyO (k:Nat):LInst:=mkL 0 [⟨[(0,.a (.lf cE)),(1,.a (.lf cE)),(5,vI)],[],0⟩] [⟨none,⟨[(4,vB)],[],0⟩⟩,⟨some 0,⟨[],[],0⟩⟩] (fun n x=>qax k n x.1 x.2.1 x.2.2) k
theorem qyP (k:Nat):LIo 188 Tryz.f188 0 k (qyO k):=
 lpk [] a0 l0 (fun _=>rfl) (by kernel_rfl) fun n x=>by kernel_rfl
theorem qus:∀k,qe (call cf k) (qyN k):=
 fnk 0 [0] Tryz.func188 (fun k=>a0) (fun k=>(lc (qyP k) l0)) ⟨rfl,rfl,⟨rfl,Nat.le_of_ble_eq_true rfl⟩,rfl⟩ (fun _=>rfl) (by kernel_rfl) fun k x=>by kernel_rfl

def qbu (k:Nat) (rec:Int→Int→List (Int×Int)→List Int→Int→List (Int×Int)→List Int→Option ((Bool×Int×List (Int×Int)×List Int×Int×List (Int×Int)×List Int) ⊕ (Int×List (Int×Int)×List Int×Int×List (Int×Int)×List Int))) (i:Int) (a0:Int) (a1:List (Int×Int)) (a2:List Int) (b0:Int) (b1:List (Int×Int)) (b2:List Int):Option ((Bool×Int×List (Int×Int)×List Int×Int×List (Int×Int)×List Int) ⊕ (Int×List (Int×Int)×List Int×Int×List (Int×Int)×List Int)):=
 if((decide (i<(((List.length a2):Nat):Int)))=true)then
 if((0:Int)≤i)then
 Option.bind (a2)[(Int.toNat i)]? fun x3=>
 if((0:Int)≤i)then
 Option.bind (b2)[(Int.toNat i)]? fun x4=>
 if((x3 != x4)=true)then
 (some (Sum.inl (false,a0,a1,a2,b0,b1,b2)))
 else
 rec (IntKind.wrap .i64 (i+(1:Int))) a0 a1 a2 b0 b1 b2
 else
 none
 else
 none
 else
 (some (Sum.inr (a0,a1,a2,b0,b1,b2)))
def qay (k n:Nat):Int→Int→List (Int×Int)→List Int→Int→List (Int×Int)→List Int→Option ((Bool×Int×List (Int×Int)×List Int×Int×List (Int×Int)×List Int) ⊕ (Int×List (Int×Int)×List Int×Int×List (Int×Int)×List Int)):=Nat.rec (fun _ _ _ _ _ _ _=>none) (fun _ r=>qbu k r) n
def qf8 (k:Nat) (a0:Int) (a1:List (Int×Int)) (a2:List Int) (b0:Int) (b1:List (Int×Int)) (b2:List Int):Option (Bool):=
 if((a0 != b0)=false)then
 if(((((List.length a2):Nat):Int) != (((List.length b2):Nat):Int))=true)then
 (some false)
 else
 Option.bind (qay k k (0:Int) a0 a1 a2 b0 b1 b2) fun r8=>
 qc r8
 (fun r8=>
 (some r8.1))
 (fun r8=>
 Option.bind (qcL k r8.2.1 r8.2.2.2.2.1) fun r9=>
 (some r9))
 else
 (some false)
def qw:Nat→Int→List (Int×Int)→List Int→Int→List (Int×Int)→List Int→Option (Bool)
 | 0,_,_,_,_,_,_=>none
 | k+1,a0,a1,a2,b0,b1,b2=>qf8 k a0 a1 a2 b0 b1 b2
def qyQ:Nat→Inst:=mkI 122 ⟨[.g [.lf (.int .i64),.lf cE,.lf (.sl (.int .i64))],.g [.lf (.int .i64),.lf cE,.lf (.sl (.int .i64))]],[]⟩ [⟨[vB],[]⟩] fun k x=>qw k x.1 x.2.1 x.2.2.1 x.2.2.2.1 x.2.2.2.2.1 x.2.2.2.2.2
theorem qut (k:Nat):qas (call cf k) [qyN k]:=
 ac (qus k) a0
def qyR (k:Nat):LInst:=mkL 0 [⟨[(2,.a (.ptr 0 0 0)),(3,.a (.ptr 1 0 0)),(5,vI)],[(0,some (.raw [[.lf (.int .i64),.lf cE,.lf (.sl (.int .i64))]] 3 44 true false false)),(1,some (.raw [[.lf (.int .i64),.lf cE,.lf (.sl (.int .i64))]] 3 44 true false false))],2⟩] [⟨none,⟨[(4,vB)],[(0,some (.raw [[.lf (.int .i64),.lf cE,.lf (.sl (.int .i64))]] 3 44 true false false)),(1,some (.raw [[.lf (.int .i64),.lf cE,.lf (.sl (.int .i64))]] 3 44 true false false))],2⟩⟩,⟨some 0,⟨[(2,.a (.ptr 0 0 0)),(3,.a (.ptr 1 0 0))],[(0,some (.raw [[.lf (.int .i64),.lf cE,.lf (.sl (.int .i64))]] 3 44 true false false)),(1,some (.raw [[.lf (.int .i64),.lf cE,.lf (.sl (.int .i64))]] 3 44 true false false))],2⟩⟩] (fun n x=>qay k n x.1 x.2.1 x.2.2.1 x.2.2.2.1 x.2.2.2.2.1 x.2.2.2.2.2.1 x.2.2.2.2.2.2) k
theorem qyS (k:Nat):LIo 122 Tryz.f122 0 k (qyR k):=
 lpk [] (qut k) l0 (fun _=>rfl) (by kernel_rfl) fun n x=>by kernel_rfl
theorem qAM:∀k,qe (call cf k) (qyQ k):=
 fnk 0 [0] Tryz.func122 (fun k=>(qut k)) (fun k=>(lc (qyS k) l0)) ⟨rfl,rfl,⟨rfl,Nat.le_of_ble_eq_true rfl⟩,rfl⟩ (fun _=>rfl) (by kernel_rfl) fun k x=>by kernel_rfl

def qcp (k:Nat) (rec:Int→Int→Bool→Nat→Bool→List Int→List Int→Option (Bool×Nat×Bool×List Int×List Int)) (k1:Int) (i:Int) (x0:Bool) (x1:Nat) (p0:Bool) (p1:List Int) (m:List Int):Option (Bool×Nat×Bool×List Int×List Int):=
 if((decide (i<k1))=true)then
 Option.bind (qW k (10:Int)) fun r14=>
 Option.bind (qX k p0 p1 r14.1 r14.2) fun r15=>
 rec k1 (IntKind.wrap .i64 (i+(1:Int))) x0 x1 r15.1 r15.2 m
 else
 (some (x0,x1,p0,p1,m))
def qbv (k n:Nat):Int→Int→Bool→Nat→Bool→List Int→List Int→Option (Bool×Nat×Bool×List Int×List Int):=Nat.rec (fun _ _ _ _ _ _ _=>none) (fun _ r=>qcp k r) n
def qj2 (k:Nat) (k1:Int):Option (Bool×List Int):=
 Option.bind (qW k (1:Int)) fun r13=>
 Option.bind (qbv k k k1 (0:Int) false 0 r13.1 r13.2 []) fun r14=>
 (some (r14.2.2.1,r14.2.2.2.1))
def qdi:Nat→Int→Option (Bool×List Int)
 | 0,_=>none
 | k+1,k1=>qj2 k k1
def qBR:Nat→Inst:=mkI 217 ⟨[vI],[]⟩ [⟨[.g [.lf .bool,.lf (.sl (.int .i64))]],[]⟩] fun k x=>qdi k x
theorem quu (k:Nat):qas (call cf k) [qp8 k,qp9 k]:=
 ac (qmK k) (ac (qlf k) a0)
def qyT (k:Nat):LInst:=mkL 0 [⟨[(0,vI),(2,.a (.ptr 0 0 0)),(3,.a (.ptr 1 0 0)),(4,vI)],[(0,some (.raw [[.lf .bool,.smz 2]] 2 154 false false false)),(1,some (.raw [[.lf .bool,.lf (.sl (.int .i64))]] 2 154 true false false)),(2,some (.arr (.int .i64) 1 3 false))],3⟩] [⟨some 0,⟨[(2,.a (.ptr 0 0 0)),(3,.a (.ptr 1 0 0))],[(0,some (.raw [[.lf .bool,.smz 2]] 2 154 false false false)),(1,some (.raw [[.lf .bool,.lf (.sl (.int .i64))]] 2 154 true false false)),(2,some (.arr (.int .i64) 1 3 false))],3⟩⟩] (fun n x=>qbv k n x.1 x.2.1 x.2.2.1 x.2.2.2.1 x.2.2.2.2.1 x.2.2.2.2.2.1 x.2.2.2.2.2.2) k
theorem qyU (k:Nat):LIo 217 Tryz.f217 0 k (qyT k):=
 lpk [] (quu k) l0 (fun _=>rfl) (by kernel_rfl) fun n x=>by kernel_rfl
theorem qAN:∀k,qe (call cf k) (qBR k):=
 fnk 0 [0] Tryz.func217 (fun k=>(quu k)) (fun k=>(lc (qyU k) l0)) ⟨rfl,rfl,⟨rfl,Nat.le_of_ble_eq_true rfl⟩,rfl⟩ (fun _=>rfl) (by kernel_rfl) fun k x=>by kernel_rfl

def qiq (k:Nat) (n0:Int) (n1:Int):Option (Bool×List Int×Bool×List Int):=
 Option.bind (qdz k n0) fun r12=>
 if((decide (n1<(0:Int)))=true)then
 Option.bind (qdi k (IntKind.wrap .i64 ((0:Int)-n1))) fun r13=>
 Option.bind (qcY k r12.1 r12.2 r13.1 r13.2) fun r14=>
 (some (r14.1,r14.2.1,r14.2.2.1,r14.2.2.2))
 else
 Option.bind (qdi k n1) fun r13=>
 Option.bind (qX k r12.1 r12.2 r13.1 r13.2) fun r14=>
 Option.bind (qW k (1:Int)) fun r15=>
 (some (r14.1,r14.2,r15.1,r15.2))
def qcg:Nat→Int→Int→Option (Bool×List Int×Bool×List Int)
 | 0,_,_=>none
 | k+1,n0,n1=>qiq k n0 n1
def qyV:Nat→Inst:=mkI 180 ⟨[.g [.lf (.int .i64),.lf (.int .i64)]],[]⟩ [⟨[.g [.lf .bool,.lf (.sl (.int .i64)),.lf .bool,.lf (.sl (.int .i64))]],[]⟩] fun k x=>qcg k x.1 x.2
theorem qAO:∀k,qe (call cf k) (qyV k):=
 fnk 0 [] Tryz.func180 (fun k=>(ac (qAC k) (ac (qAN k) (ac (qAI k) (ac (qlf k) (ac (qmK k) a0)))))) (fun k=>l0) ⟨rfl,rfl,⟨rfl,Nat.le_of_ble_eq_true rfl⟩,rfl⟩ (fun _=>rfl) (by kernel_rfl) fun k x=>by kernel_rfl

def qkx (k:Nat) (a0:Bool) (a1:List Int) (b0:Bool) (b1:List Int):Option (Bool×List Int):=
 Option.bind (qbW k b0 b1) fun r16=>
 Option.bind (qcJ k a0 a1 r16.1 r16.2) fun r17=>
 (some (r17.1,r17.2))
def qem:Nat→Bool→List Int→Bool→List Int→Option (Bool×List Int)
 | 0,_,_,_,_=>none
 | k+1,a0,a1,b0,b1=>qkx k a0 a1 b0 b1
def qBS:Nat→Inst:=mkI 236 ⟨[.g [.lf .bool,.lf (.sl (.int .i64))],.g [.lf .bool,.lf (.sl (.int .i64))]],[]⟩ [⟨[.g [.lf .bool,.lf (.sl (.int .i64))]],[]⟩] fun k x=>qem k x.1 x.2.1 x.2.2.1 x.2.2.2
theorem qAP:∀k,qe (call cf k) (qBS k):=
 fnk 0 [] Tryz.func236 (fun k=>(ac (quj k) (ac (qAE k) a0))) (fun k=>l0) ⟨rfl,rfl,⟨rfl,Nat.le_of_ble_eq_true rfl⟩,rfl⟩ (fun _=>rfl) (by kernel_rfl) fun k x=>by kernel_rfl

def qky (k:Nat) (a0:Bool) (a1:List Int) (b0:Bool) (b1:List Int):Option (Int):=
 Option.bind (qem k a0 a1 b0 b1) fun r16=>
 Option.bind (qdC k r16.1 r16.2) fun r17=>
 (some r17)
def qen:Nat→Bool→List Int→Bool→List Int→Option (Int)
 | 0,_,_,_,_=>none
 | k+1,a0,a1,b0,b1=>qky k a0 a1 b0 b1
def qBT:Nat→Inst:=mkI 225 ⟨[.g [.lf .bool,.lf (.sl (.int .i64))],.g [.lf .bool,.lf (.sl (.int .i64))]],[]⟩ [⟨[vI],[]⟩] fun k x=>qen k x.1 x.2.1 x.2.2.1 x.2.2.2
theorem qAQ:∀k,qe (call cf k) (qBT k):=
 fnk 0 [] Tryz.func225 (fun k=>(ac (qAP k) (ac (qui k) a0))) (fun k=>l0) ⟨rfl,rfl,⟨rfl,Nat.le_of_ble_eq_true rfl⟩,rfl⟩ (fun _=>rfl) (by kernel_rfl) fun k x=>by kernel_rfl

def qkz (k:Nat) (a0:Bool) (a1:List Int) (a2:Bool) (a3:List Int) (b0:Bool) (b1:List Int) (b2:Bool) (b3:List Int):Option (Int):=
 Option.bind (qX k a0 a1 b2 b3) fun r14=>
 Option.bind (qX k b0 b1 a2 a3) fun r15=>
 Option.bind (qen k r14.1 r14.2 r15.1 r15.2) fun r16=>
 (some r16)
def qdD:Nat→Bool→List Int→Bool→List Int→Bool→List Int→Bool→List Int→Option (Int)
 | 0,_,_,_,_,_,_,_,_=>none
 | k+1,a0,a1,a2,a3,b0,b1,b2,b3=>qkz k a0 a1 a2 a3 b0 b1 b2 b3
def qyW:Nat→Inst:=mkI 190 ⟨[.g [.lf .bool,.lf (.sl (.int .i64)),.lf .bool,.lf (.sl (.int .i64))],.g [.lf .bool,.lf (.sl (.int .i64)),.lf .bool,.lf (.sl (.int .i64))]],[]⟩ [⟨[vI],[]⟩] fun k x=>qdD k x.1 x.2.1 x.2.2.1 x.2.2.2.1 x.2.2.2.2.1 x.2.2.2.2.2.1 x.2.2.2.2.2.2.1 x.2.2.2.2.2.2.2
theorem qAR:∀k,qe (call cf k) (qyW k):=
 fnk 0 [] Tryz.func190 (fun k=>(ac (qlf k) (ac (qAQ k) a0))) (fun k=>l0) ⟨rfl,rfl,⟨rfl,Nat.le_of_ble_eq_true rfl⟩,rfl⟩ (fun _=>rfl) (by kernel_rfl) fun k x=>by kernel_rfl

def qa3 (k:Nat) (rec:Int→ByteArray→Int→List (Int×Int)→List (Int×Int)→Option ((Bool×ByteArray×Int×List (Int×Int)×List (Int×Int)) ⊕ (ByteArray×Int×List (Int×Int)×List (Int×Int)))) (i:Int) (m0:ByteArray) (m1:Int) (m2:List (Int×Int)) (m3:List (Int×Int)):Option ((Bool×ByteArray×Int×List (Int×Int)×List (Int×Int)) ⊕ (ByteArray×Int×List (Int×Int)×List (Int×Int))):=
 if((decide (i<(((List.length m2):Nat):Int)))=true)then
 if((0:Int)≤i)then
 Option.bind (m2)[(Int.toNat i)]? fun x3=>
 Option.bind (qaF k x3.1 x3.2) fun r10=>
 if((!r10)=true)then
 (some (Sum.inl (false,m0,m1,m2,m3)))
 else
 rec (IntKind.wrap .i64 (i+(1:Int))) m0 m1 m2 m3
 else
 none
 else
 (some (Sum.inr (m0,m1,m2,m3)))
def qS (k n:Nat):Int→ByteArray→Int→List (Int×Int)→List (Int×Int)→Option ((Bool×ByteArray×Int×List (Int×Int)×List (Int×Int)) ⊕ (ByteArray×Int×List (Int×Int)×List (Int×Int))):=Nat.rec (fun _ _ _ _ _=>none) (fun _ r=>qa3 k r) n
def qa4 (k:Nat) (rec:Int→ByteArray→Int→List (Int×Int)→List (Int×Int)→Option ((Bool×ByteArray×Int×List (Int×Int)×List (Int×Int)) ⊕ (ByteArray×Int×List (Int×Int)×List (Int×Int)))) (i:Int) (m0:ByteArray) (m1:Int) (m2:List (Int×Int)) (m3:List (Int×Int)):Option ((Bool×ByteArray×Int×List (Int×Int)×List (Int×Int)) ⊕ (ByteArray×Int×List (Int×Int)×List (Int×Int))):=
 if((decide (i<(((List.length m3):Nat):Int)))=true)then
 if((0:Int)≤i)then
 Option.bind (m3)[(Int.toNat i)]? fun x3=>
 Option.bind (qaF k x3.1 x3.2) fun r11=>
 if((!r11)=true)then
 (some (Sum.inl (false,m0,m1,m2,m3)))
 else
 if((m1 == (100:Int))=true)then
 if((decide (i>(0:Int)))=true)then
 if((0:Int)≤(IntKind.wrap .i64 (i-(1:Int))))then
 Option.bind (m3)[(Int.toNat (IntKind.wrap .i64 (i-(1:Int))))]? fun x4=>
 Option.bind (qcg k x4.1 x4.2) fun r12=>
 if((0:Int)≤i)then
 Option.bind (m3)[(Int.toNat i)]? fun x5=>
 Option.bind (qcg k x5.1 x5.2) fun r13=>
 Option.bind (qdD k r12.1 r12.2.1 r12.2.2.1 r12.2.2.2 r13.1 r13.2.1 r13.2.2.1 r13.2.2.2) fun r14=>
 if((decide (r14≥(0:Int)))=true)then
 (some (Sum.inl (false,m0,m1,m2,m3)))
 else
 rec (IntKind.wrap .i64 (i+(1:Int))) m0 m1 m2 m3
 else
 none
 else
 none
 else
 rec (IntKind.wrap .i64 (i+(1:Int))) m0 m1 m2 m3
 else
 rec (IntKind.wrap .i64 (i+(1:Int))) m0 m1 m2 m3
 else
 none
 else
 (some (Sum.inr (m0,m1,m2,m3)))
def qU (k n:Nat):Int→ByteArray→Int→List (Int×Int)→List (Int×Int)→Option ((Bool×ByteArray×Int×List (Int×Int)×List (Int×Int)) ⊕ (ByteArray×Int×List (Int×Int)×List (Int×Int))):=Nat.rec (fun _ _ _ _ _=>none) (fun _ r=>qa4 k r) n
def qfB (k:Nat) (m0:ByteArray) (m1:Int) (m2:List (Int×Int)) (m3:List (Int×Int)):Option (Bool):=
 Option.bind (qcK k m0) fun r9=>
 if((!r9)=true)then
 (some false)
 else
 Option.bind (qS k k (0:Int) m0 m1 m2 m3) fun r10=>
 qc r10
 (fun r10=>
 (some r10.1))
 (fun r10=>
 Option.bind (qU k k (0:Int) r10.1 r10.2.1 r10.2.2.1 r10.2.2.2) fun r11=>
 qc r11
 (fun r11=>
 (some r11.1))
 (fun r11=>
 if((r11.2.1 == (115:Int))=true)then
 if(((((List.length r11.2.2.1):Nat):Int) == (2:Int))=true)then
 (some ((((List.length r11.2.2.2):Nat):Int) == (1:Int)))
 else
 (some false)
 else
 if((r11.2.1 == (100:Int))=true)then
 if((decide ((((List.length r11.2.2.1):Nat):Int)≥(1:Int)))=true)then
 if((decide ((((List.length r11.2.2.1):Nat):Int)≤(4:Int)))=true)then
 (some ((IntKind.wrap .i64 ((((List.length r11.2.2.2):Nat):Int)+(1:Int))) == (((List.length r11.2.2.1):Nat):Int)))
 else
 (some false)
 else
 (some false)
 else
 (some false)))
def qh:Nat→ByteArray→Int→List (Int×Int)→List (Int×Int)→Option (Bool)
 | 0,_,_,_,_=>none
 | k+1,m0,m1,m2,m3=>qfB k m0 m1 m2 m3
def qyX:Nat→Inst:=mkI 125 ⟨[.g [.lf .str,.lf (.int .u8),.lf cE,.lf cE]],[]⟩ [⟨[vB],[]⟩] fun k x=>qh k x.1 x.2.1 x.2.2.1 x.2.2.2
theorem qqc (k:Nat):qas (call cf k) [qs8 k,qnK k,qyV k,qyW k]:=
 ac (qup k) (ac (qmL k) (ac (qAO k) (ac (qAR k) a0)))
def qyY (k:Nat):LInst:=mkL 0 [⟨[(1,.a (.ptr 0 0 0)),(3,vI)],[(0,some (.raw [[.lf .str,.lf (.int .u8),.lf cE,.lf cE]] 4 46 true false false))],1⟩] [⟨none,⟨[(2,vB)],[(0,some (.raw [[.lf .str,.lf (.int .u8),.lf cE,.lf cE]] 4 46 true false false))],1⟩⟩,⟨some 0,⟨[(1,.a (.ptr 0 0 0))],[(0,some (.raw [[.lf .str,.lf (.int .u8),.lf cE,.lf cE]] 4 46 true false false))],1⟩⟩] (fun n x=>qS k n x.1 x.2.1 x.2.2.1 x.2.2.2.1 x.2.2.2.2) k
theorem qrA (k:Nat):LIo 125 Tryz.f125 0 k (qyY k):=
 lpk [] (qqc k) l0 (fun _=>rfl) (by kernel_rfl) fun n x=>by kernel_rfl
def qyZ (k:Nat):LInst:=mkL 2 [⟨[(1,.a (.ptr 0 0 0)),(4,vI)],[(0,some (.raw [[.lf .str,.lf (.int .u8),.lf cE,.lf cE]] 4 46 true false false))],1⟩] [⟨none,⟨[(2,vB)],[(0,some (.raw [[.lf .str,.lf (.int .u8),.lf cE,.lf cE]] 4 46 true false false))],1⟩⟩,⟨some 2,⟨[(1,.a (.ptr 0 0 0))],[(0,some (.raw [[.lf .str,.lf (.int .u8),.lf cE,.lf cE]] 4 46 true false false))],1⟩⟩] (fun n x=>qU k n x.1 x.2.1 x.2.2.1 x.2.2.2.1 x.2.2.2.2) k
theorem qy0 (k:Nat):LIo 125 Tryz.f125 0 k (qyZ k):=
 lpk [] (qqc k) (lc (qrA k) l0) (fun _=>rfl) (by kernel_rfl) fun n x=>by kernel_rfl
theorem quv:∀k,qe (call cf k) (qyX k):=
 fnk 0 [0,2] Tryz.func125 (fun k=>(qqc k)) (fun k=>(lc (qrA k) (lc (qy0 k) l0))) ⟨rfl,rfl,⟨rfl,Nat.le_of_ble_eq_true rfl⟩,rfl⟩ (fun _=>rfl) (by kernel_rfl) fun k x=>by kernel_rfl

def qf9 (k:Nat) (a0:ByteArray) (a1:Int) (a2:List (Int×Int)) (a3:List (Int×Int)) (b0:ByteArray) (b1:Int) (b2:List (Int×Int)) (b3:List (Int×Int)):Option (Bool):=
 if(((Array.toList (ByteArray.data a0)) == (Array.toList (ByteArray.data b0)))=true)then
 if((a1 == b1)=true)then
 Option.bind (qcL k a2 b2) fun r9=>
 if(r9=true)then
 Option.bind (qcL k a3 b3) fun r10=>
 (some r10)
 else
 (some false)
 else
 (some false)
 else
 (some false)
def qj:Nat→ByteArray→Int→List (Int×Int)→List (Int×Int)→ByteArray→Int→List (Int×Int)→List (Int×Int)→Option (Bool)
 | 0,_,_,_,_,_,_,_,_=>none
 | k+1,a0,a1,a2,a3,b0,b1,b2,b3=>qf9 k a0 a1 a2 a3 b0 b1 b2 b3
def qy1:Nat→Inst:=mkI 123 ⟨[.g [.lf .str,.lf (.int .u8),.lf cE,.lf cE],.g [.lf .str,.lf (.int .u8),.lf cE,.lf cE]],[]⟩ [⟨[vB],[]⟩] fun k x=>qj k x.1 x.2.1 x.2.2.1 x.2.2.2.1 x.2.2.2.2.1 x.2.2.2.2.2.1 x.2.2.2.2.2.2.1 x.2.2.2.2.2.2.2
theorem qAS:∀k,qe (call cf k) (qy1 k):=
 fnk 0 [] Tryz.func123 (fun k=>(ac (qus k) a0)) (fun k=>l0) ⟨rfl,rfl,⟨rfl,Nat.le_of_ble_eq_true rfl⟩,rfl⟩ (fun _=>rfl) (by kernel_rfl) fun k x=>by kernel_rfl


end
noncomputable section

def qa5 (k:Nat) (rec:Int→Bool→Bool→Bool→Bool→Int→List ByteArray→List DvT→Int→Int→Int→Int→ByteArray→List Int→Int→Int→Int→Int→List (Int×Int)→List Int→ByteArray→Int→List (Int×Int)→List (Int×Int)→Option ((Bool×List ByteArray×List DvT×Int×Int×Int×Int×ByteArray×List Int×Int×Int×Int×Int×List (Int×Int)×List Int×ByteArray×Int×List (Int×Int)×List (Int×Int)) ⊕ (Bool×Bool×Bool×Bool×List ByteArray×List DvT×Int×Int×Int×Int×ByteArray×List Int×Int×Int×Int×Int×List (Int×Int)×List Int×ByteArray×Int×List (Int×Int)×List (Int×Int)))) (nodes:Int) (ref:Bool) (value:Bool) (source:Bool) (modelled:Bool) (i:Int) (f0:List ByteArray) (f1:List DvT) (f2:Int) (f3:Int) (f4:Int) (d0:Int) (d1:ByteArray) (d2:List Int) (d3:Int) (d4:Int) (d5:Int) (d6:Int) (d7:List (Int×Int)) (d8:List Int) (d9:ByteArray) (d10:Int) (d11:List (Int×Int)) (d12:List (Int×Int)):Option ((Bool×List ByteArray×List DvT×Int×Int×Int×Int×ByteArray×List Int×Int×Int×Int×Int×List (Int×Int)×List Int×ByteArray×Int×List (Int×Int)×List (Int×Int)) ⊕ (Bool×Bool×Bool×Bool×List ByteArray×List DvT×Int×Int×Int×Int×ByteArray×List Int×Int×Int×Int×Int×List (Int×Int)×List Int×ByteArray×Int×List (Int×Int)×List (Int×Int))):=
 if((decide (i<nodes))=true)then
 if((0:Int)≤i)then
 Option.bind (d2)[(Int.toNat i)]? fun x2=>
 if((decide (x2<(0:Int)))=false)then
 if((0:Int)≤i)then
 Option.bind (d2)[(Int.toNat i)]? fun x3=>
 if((decide (x3≥(((List.length f0):Nat):Int)))=true)then
 (some (Sum.inl (false,f0,f1,f2,f3,f4,d0,d1,d2,d3,d4,d5,d6,d7,d8,d9,d10,d11,d12)))
 else
 rec nodes ref value source modelled (IntKind.wrap .i64 (i+(1:Int))) f0 f1 f2 f3 f4 d0 d1 d2 d3 d4 d5 d6 d7 d8 d9 d10 d11 d12
 else
 none
 else
 (some (Sum.inl (false,f0,f1,f2,f3,f4,d0,d1,d2,d3,d4,d5,d6,d7,d8,d9,d10,d11,d12)))
 else
 none
 else
 (some (Sum.inr (ref,value,source,modelled,f0,f1,f2,f3,f4,d0,d1,d2,d3,d4,d5,d6,d7,d8,d9,d10,d11,d12)))
def qq (k n:Nat):Int→Bool→Bool→Bool→Bool→Int→List ByteArray→List DvT→Int→Int→Int→Int→ByteArray→List Int→Int→Int→Int→Int→List (Int×Int)→List Int→ByteArray→Int→List (Int×Int)→List (Int×Int)→Option ((Bool×List ByteArray×List DvT×Int×Int×Int×Int×ByteArray×List Int×Int×Int×Int×Int×List (Int×Int)×List Int×ByteArray×Int×List (Int×Int)×List (Int×Int)) ⊕ (Bool×Bool×Bool×Bool×List ByteArray×List DvT×Int×Int×Int×Int×ByteArray×List Int×Int×Int×Int×Int×List (Int×Int)×List Int×ByteArray×Int×List (Int×Int)×List (Int×Int))):=Nat.rec (fun _ _ _ _ _ _ _ _ _ _ _ _ _ _ _ _ _ _ _ _ _ _ _ _=>none) (fun _ r=>qa5 k r) n
def qg (k:Nat) (r5:Bool×Bool×Bool×Bool×List ByteArray×List DvT×Int×Int×Int×Int×ByteArray×List Int×Int×Int×Int×Int×List (Int×Int)×List Int×ByteArray×Int×List (Int×Int)×List (Int×Int)):Option (Bool):=
 if(r5.1=true)then
 if((decide (r5.2.2.2.2.2.2.2.2.2.2.2.2.1<(0:Int)))=false)then
 if((decide (r5.2.2.2.2.2.2.2.2.2.2.2.2.1≥(((List.length r5.2.2.2.2.2.1):Nat):Int)))=false)then
 if((0:Int)≤r5.2.2.2.2.2.2.2.2.2.2.2.2.1)then
 Option.bind (r5.2.2.2.2.2.1)[(Int.toNat r5.2.2.2.2.2.2.2.2.2.2.2.2.1)]? fun x2=>
 if((x2.1 != (118:Int))=true)then
 (some false)
 else
 if(r5.2.1=true)then
 Option.bind (qaF k r5.2.2.2.2.2.2.2.2.2.2.2.2.2.1 r5.2.2.2.2.2.2.2.2.2.2.2.2.2.2.1) fun r6=>
 if((!r6)=false)then
 if((!r5.2.1)=true)then
 if((r5.2.2.2.2.2.2.2.2.2.2.2.2.2.1 == (0:Int))=true)then
 if((r5.2.2.2.2.2.2.2.2.2.2.2.2.2.2.1 == (0:Int))=true)then
 if(r5.2.2.1=true)then
 Option.bind (qY k r5.2.2.2.2.2.2.2.2.2.2.2.2.2.2.2.1 r5.2.2.2.2.2.2.2.2.2.2.2.2.2.2.2.2.1 r5.2.2.2.2.2.2.2.2.2.2.2.2.2.2.2.2.2.1) fun r7=>
 if((!r7)=false)then
 if((!r5.2.2.1)=true)then
 Option.bind (qw k r5.2.2.2.2.2.2.2.2.2.2.2.2.2.2.2.1 r5.2.2.2.2.2.2.2.2.2.2.2.2.2.2.2.2.1 r5.2.2.2.2.2.2.2.2.2.2.2.2.2.2.2.2.2.1 (0:Int) [] []) fun r8=>
 if((!r8)=true)then
 (some false)
 else
 if(r5.2.2.2.1=true)then
 Option.bind (qh k r5.2.2.2.2.2.2.2.2.2.2.2.2.2.2.2.2.2.2.1 r5.2.2.2.2.2.2.2.2.2.2.2.2.2.2.2.2.2.2.2.1 r5.2.2.2.2.2.2.2.2.2.2.2.2.2.2.2.2.2.2.2.2.1 r5.2.2.2.2.2.2.2.2.2.2.2.2.2.2.2.2.2.2.2.2.2) fun r9=>
 if(r9=true)then
 (some (r5.2.2.2.2.2.2.2.2.2.2.2.2.2.2.2.2.2.2.2.1 == r5.2.2.2.2.2.2.2.2.2.1))
 else
 (some false)
 else
 Option.bind (qj k r5.2.2.2.2.2.2.2.2.2.2.2.2.2.2.2.2.2.2.1 r5.2.2.2.2.2.2.2.2.2.2.2.2.2.2.2.2.2.2.2.1 r5.2.2.2.2.2.2.2.2.2.2.2.2.2.2.2.2.2.2.2.2.1 r5.2.2.2.2.2.2.2.2.2.2.2.2.2.2.2.2.2.2.2.2.2 (ByteArray.mk (List.toArray [])) (0:Int) [] []) fun r9=>
 (some r9)
 else
 if(r5.2.2.2.1=true)then
 Option.bind (qh k r5.2.2.2.2.2.2.2.2.2.2.2.2.2.2.2.2.2.2.1 r5.2.2.2.2.2.2.2.2.2.2.2.2.2.2.2.2.2.2.2.1 r5.2.2.2.2.2.2.2.2.2.2.2.2.2.2.2.2.2.2.2.2.1 r5.2.2.2.2.2.2.2.2.2.2.2.2.2.2.2.2.2.2.2.2.2) fun r8=>
 if(r8=true)then
 (some (r5.2.2.2.2.2.2.2.2.2.2.2.2.2.2.2.2.2.2.2.1 == r5.2.2.2.2.2.2.2.2.2.1))
 else
 (some false)
 else
 Option.bind (qj k r5.2.2.2.2.2.2.2.2.2.2.2.2.2.2.2.2.2.2.1 r5.2.2.2.2.2.2.2.2.2.2.2.2.2.2.2.2.2.2.2.1 r5.2.2.2.2.2.2.2.2.2.2.2.2.2.2.2.2.2.2.2.2.1 r5.2.2.2.2.2.2.2.2.2.2.2.2.2.2.2.2.2.2.2.2.2 (ByteArray.mk (List.toArray [])) (0:Int) [] []) fun r8=>
 (some r8)
 else
 (some false)
 else
 if((!r5.2.2.1)=true)then
 Option.bind (qw k r5.2.2.2.2.2.2.2.2.2.2.2.2.2.2.2.1 r5.2.2.2.2.2.2.2.2.2.2.2.2.2.2.2.2.1 r5.2.2.2.2.2.2.2.2.2.2.2.2.2.2.2.2.2.1 (0:Int) [] []) fun r7=>
 if((!r7)=true)then
 (some false)
 else
 if(r5.2.2.2.1=true)then
 Option.bind (qh k r5.2.2.2.2.2.2.2.2.2.2.2.2.2.2.2.2.2.2.1 r5.2.2.2.2.2.2.2.2.2.2.2.2.2.2.2.2.2.2.2.1 r5.2.2.2.2.2.2.2.2.2.2.2.2.2.2.2.2.2.2.2.2.1 r5.2.2.2.2.2.2.2.2.2.2.2.2.2.2.2.2.2.2.2.2.2) fun r8=>
 if(r8=true)then
 (some (r5.2.2.2.2.2.2.2.2.2.2.2.2.2.2.2.2.2.2.2.1 == r5.2.2.2.2.2.2.2.2.2.1))
 else
 (some false)
 else
 Option.bind (qj k r5.2.2.2.2.2.2.2.2.2.2.2.2.2.2.2.2.2.2.1 r5.2.2.2.2.2.2.2.2.2.2.2.2.2.2.2.2.2.2.2.1 r5.2.2.2.2.2.2.2.2.2.2.2.2.2.2.2.2.2.2.2.2.1 r5.2.2.2.2.2.2.2.2.2.2.2.2.2.2.2.2.2.2.2.2.2 (ByteArray.mk (List.toArray [])) (0:Int) [] []) fun r8=>
 (some r8)
 else
 if(r5.2.2.2.1=true)then
 Option.bind (qh k r5.2.2.2.2.2.2.2.2.2.2.2.2.2.2.2.2.2.2.1 r5.2.2.2.2.2.2.2.2.2.2.2.2.2.2.2.2.2.2.2.1 r5.2.2.2.2.2.2.2.2.2.2.2.2.2.2.2.2.2.2.2.2.1 r5.2.2.2.2.2.2.2.2.2.2.2.2.2.2.2.2.2.2.2.2.2) fun r7=>
 if(r7=true)then
 (some (r5.2.2.2.2.2.2.2.2.2.2.2.2.2.2.2.2.2.2.2.1 == r5.2.2.2.2.2.2.2.2.2.1))
 else
 (some false)
 else
 Option.bind (qj k r5.2.2.2.2.2.2.2.2.2.2.2.2.2.2.2.2.2.2.1 r5.2.2.2.2.2.2.2.2.2.2.2.2.2.2.2.2.2.2.2.1 r5.2.2.2.2.2.2.2.2.2.2.2.2.2.2.2.2.2.2.2.2.1 r5.2.2.2.2.2.2.2.2.2.2.2.2.2.2.2.2.2.2.2.2.2 (ByteArray.mk (List.toArray [])) (0:Int) [] []) fun r7=>
 (some r7)
 else
 (some false)
 else
 (some false)
 else
 if(r5.2.2.1=true)then
 Option.bind (qY k r5.2.2.2.2.2.2.2.2.2.2.2.2.2.2.2.1 r5.2.2.2.2.2.2.2.2.2.2.2.2.2.2.2.2.1 r5.2.2.2.2.2.2.2.2.2.2.2.2.2.2.2.2.2.1) fun r7=>
 if((!r7)=false)then
 if((!r5.2.2.1)=true)then
 Option.bind (qw k r5.2.2.2.2.2.2.2.2.2.2.2.2.2.2.2.1 r5.2.2.2.2.2.2.2.2.2.2.2.2.2.2.2.2.1 r5.2.2.2.2.2.2.2.2.2.2.2.2.2.2.2.2.2.1 (0:Int) [] []) fun r8=>
 if((!r8)=true)then
 (some false)
 else
 if(r5.2.2.2.1=true)then
 Option.bind (qh k r5.2.2.2.2.2.2.2.2.2.2.2.2.2.2.2.2.2.2.1 r5.2.2.2.2.2.2.2.2.2.2.2.2.2.2.2.2.2.2.2.1 r5.2.2.2.2.2.2.2.2.2.2.2.2.2.2.2.2.2.2.2.2.1 r5.2.2.2.2.2.2.2.2.2.2.2.2.2.2.2.2.2.2.2.2.2) fun r9=>
 if(r9=true)then
 (some (r5.2.2.2.2.2.2.2.2.2.2.2.2.2.2.2.2.2.2.2.1 == r5.2.2.2.2.2.2.2.2.2.1))
 else
 (some false)
 else
 Option.bind (qj k r5.2.2.2.2.2.2.2.2.2.2.2.2.2.2.2.2.2.2.1 r5.2.2.2.2.2.2.2.2.2.2.2.2.2.2.2.2.2.2.2.1 r5.2.2.2.2.2.2.2.2.2.2.2.2.2.2.2.2.2.2.2.2.1 r5.2.2.2.2.2.2.2.2.2.2.2.2.2.2.2.2.2.2.2.2.2 (ByteArray.mk (List.toArray [])) (0:Int) [] []) fun r9=>
 (some r9)
 else
 if(r5.2.2.2.1=true)then
 Option.bind (qh k r5.2.2.2.2.2.2.2.2.2.2.2.2.2.2.2.2.2.2.1 r5.2.2.2.2.2.2.2.2.2.2.2.2.2.2.2.2.2.2.2.1 r5.2.2.2.2.2.2.2.2.2.2.2.2.2.2.2.2.2.2.2.2.1 r5.2.2.2.2.2.2.2.2.2.2.2.2.2.2.2.2.2.2.2.2.2) fun r8=>
 if(r8=true)then
 (some (r5.2.2.2.2.2.2.2.2.2.2.2.2.2.2.2.2.2.2.2.1 == r5.2.2.2.2.2.2.2.2.2.1))
 else
 (some false)
 else
 Option.bind (qj k r5.2.2.2.2.2.2.2.2.2.2.2.2.2.2.2.2.2.2.1 r5.2.2.2.2.2.2.2.2.2.2.2.2.2.2.2.2.2.2.2.1 r5.2.2.2.2.2.2.2.2.2.2.2.2.2.2.2.2.2.2.2.2.1 r5.2.2.2.2.2.2.2.2.2.2.2.2.2.2.2.2.2.2.2.2.2 (ByteArray.mk (List.toArray [])) (0:Int) [] []) fun r8=>
 (some r8)
 else
 (some false)
 else
 if((!r5.2.2.1)=true)then
 Option.bind (qw k r5.2.2.2.2.2.2.2.2.2.2.2.2.2.2.2.1 r5.2.2.2.2.2.2.2.2.2.2.2.2.2.2.2.2.1 r5.2.2.2.2.2.2.2.2.2.2.2.2.2.2.2.2.2.1 (0:Int) [] []) fun r7=>
 if((!r7)=true)then
 (some false)
 else
 if(r5.2.2.2.1=true)then
 Option.bind (qh k r5.2.2.2.2.2.2.2.2.2.2.2.2.2.2.2.2.2.2.1 r5.2.2.2.2.2.2.2.2.2.2.2.2.2.2.2.2.2.2.2.1 r5.2.2.2.2.2.2.2.2.2.2.2.2.2.2.2.2.2.2.2.2.1 r5.2.2.2.2.2.2.2.2.2.2.2.2.2.2.2.2.2.2.2.2.2) fun r8=>
 if(r8=true)then
 (some (r5.2.2.2.2.2.2.2.2.2.2.2.2.2.2.2.2.2.2.2.1 == r5.2.2.2.2.2.2.2.2.2.1))
 else
 (some false)
 else
 Option.bind (qj k r5.2.2.2.2.2.2.2.2.2.2.2.2.2.2.2.2.2.2.1 r5.2.2.2.2.2.2.2.2.2.2.2.2.2.2.2.2.2.2.2.1 r5.2.2.2.2.2.2.2.2.2.2.2.2.2.2.2.2.2.2.2.2.1 r5.2.2.2.2.2.2.2.2.2.2.2.2.2.2.2.2.2.2.2.2.2 (ByteArray.mk (List.toArray [])) (0:Int) [] []) fun r8=>
 (some r8)
 else
 if(r5.2.2.2.1=true)then
 Option.bind (qh k r5.2.2.2.2.2.2.2.2.2.2.2.2.2.2.2.2.2.2.1 r5.2.2.2.2.2.2.2.2.2.2.2.2.2.2.2.2.2.2.2.1 r5.2.2.2.2.2.2.2.2.2.2.2.2.2.2.2.2.2.2.2.2.1 r5.2.2.2.2.2.2.2.2.2.2.2.2.2.2.2.2.2.2.2.2.2) fun r7=>
 if(r7=true)then
 (some (r5.2.2.2.2.2.2.2.2.2.2.2.2.2.2.2.2.2.2.2.1 == r5.2.2.2.2.2.2.2.2.2.1))
 else
 (some false)
 else
 Option.bind (qj k r5.2.2.2.2.2.2.2.2.2.2.2.2.2.2.2.2.2.2.1 r5.2.2.2.2.2.2.2.2.2.2.2.2.2.2.2.2.2.2.2.1 r5.2.2.2.2.2.2.2.2.2.2.2.2.2.2.2.2.2.2.2.2.1 r5.2.2.2.2.2.2.2.2.2.2.2.2.2.2.2.2.2.2.2.2.2 (ByteArray.mk (List.toArray [])) (0:Int) [] []) fun r7=>
 (some r7)
 else
 (some false)
 else
 if((!r5.2.1)=true)then
 if((r5.2.2.2.2.2.2.2.2.2.2.2.2.2.1 == (0:Int))=true)then
 if((r5.2.2.2.2.2.2.2.2.2.2.2.2.2.2.1 == (0:Int))=true)then
 if(r5.2.2.1=true)then
 Option.bind (qY k r5.2.2.2.2.2.2.2.2.2.2.2.2.2.2.2.1 r5.2.2.2.2.2.2.2.2.2.2.2.2.2.2.2.2.1 r5.2.2.2.2.2.2.2.2.2.2.2.2.2.2.2.2.2.1) fun r6=>
 if((!r6)=false)then
 if((!r5.2.2.1)=true)then
 Option.bind (qw k r5.2.2.2.2.2.2.2.2.2.2.2.2.2.2.2.1 r5.2.2.2.2.2.2.2.2.2.2.2.2.2.2.2.2.1 r5.2.2.2.2.2.2.2.2.2.2.2.2.2.2.2.2.2.1 (0:Int) [] []) fun r7=>
 if((!r7)=true)then
 (some false)
 else
 if(r5.2.2.2.1=true)then
 Option.bind (qh k r5.2.2.2.2.2.2.2.2.2.2.2.2.2.2.2.2.2.2.1 r5.2.2.2.2.2.2.2.2.2.2.2.2.2.2.2.2.2.2.2.1 r5.2.2.2.2.2.2.2.2.2.2.2.2.2.2.2.2.2.2.2.2.1 r5.2.2.2.2.2.2.2.2.2.2.2.2.2.2.2.2.2.2.2.2.2) fun r8=>
 if(r8=true)then
 (some (r5.2.2.2.2.2.2.2.2.2.2.2.2.2.2.2.2.2.2.2.1 == r5.2.2.2.2.2.2.2.2.2.1))
 else
 (some false)
 else
 Option.bind (qj k r5.2.2.2.2.2.2.2.2.2.2.2.2.2.2.2.2.2.2.1 r5.2.2.2.2.2.2.2.2.2.2.2.2.2.2.2.2.2.2.2.1 r5.2.2.2.2.2.2.2.2.2.2.2.2.2.2.2.2.2.2.2.2.1 r5.2.2.2.2.2.2.2.2.2.2.2.2.2.2.2.2.2.2.2.2.2 (ByteArray.mk (List.toArray [])) (0:Int) [] []) fun r8=>
 (some r8)
 else
 if(r5.2.2.2.1=true)then
 Option.bind (qh k r5.2.2.2.2.2.2.2.2.2.2.2.2.2.2.2.2.2.2.1 r5.2.2.2.2.2.2.2.2.2.2.2.2.2.2.2.2.2.2.2.1 r5.2.2.2.2.2.2.2.2.2.2.2.2.2.2.2.2.2.2.2.2.1 r5.2.2.2.2.2.2.2.2.2.2.2.2.2.2.2.2.2.2.2.2.2) fun r7=>
 if(r7=true)then
 (some (r5.2.2.2.2.2.2.2.2.2.2.2.2.2.2.2.2.2.2.2.1 == r5.2.2.2.2.2.2.2.2.2.1))
 else
 (some false)
 else
 Option.bind (qj k r5.2.2.2.2.2.2.2.2.2.2.2.2.2.2.2.2.2.2.1 r5.2.2.2.2.2.2.2.2.2.2.2.2.2.2.2.2.2.2.2.1 r5.2.2.2.2.2.2.2.2.2.2.2.2.2.2.2.2.2.2.2.2.1 r5.2.2.2.2.2.2.2.2.2.2.2.2.2.2.2.2.2.2.2.2.2 (ByteArray.mk (List.toArray [])) (0:Int) [] []) fun r7=>
 (some r7)
 else
 (some false)
 else
 if((!r5.2.2.1)=true)then
 Option.bind (qw k r5.2.2.2.2.2.2.2.2.2.2.2.2.2.2.2.1 r5.2.2.2.2.2.2.2.2.2.2.2.2.2.2.2.2.1 r5.2.2.2.2.2.2.2.2.2.2.2.2.2.2.2.2.2.1 (0:Int) [] []) fun r6=>
 if((!r6)=true)then
 (some false)
 else
 if(r5.2.2.2.1=true)then
 Option.bind (qh k r5.2.2.2.2.2.2.2.2.2.2.2.2.2.2.2.2.2.2.1 r5.2.2.2.2.2.2.2.2.2.2.2.2.2.2.2.2.2.2.2.1 r5.2.2.2.2.2.2.2.2.2.2.2.2.2.2.2.2.2.2.2.2.1 r5.2.2.2.2.2.2.2.2.2.2.2.2.2.2.2.2.2.2.2.2.2) fun r7=>
 if(r7=true)then
 (some (r5.2.2.2.2.2.2.2.2.2.2.2.2.2.2.2.2.2.2.2.1 == r5.2.2.2.2.2.2.2.2.2.1))
 else
 (some false)
 else
 Option.bind (qj k r5.2.2.2.2.2.2.2.2.2.2.2.2.2.2.2.2.2.2.1 r5.2.2.2.2.2.2.2.2.2.2.2.2.2.2.2.2.2.2.2.1 r5.2.2.2.2.2.2.2.2.2.2.2.2.2.2.2.2.2.2.2.2.1 r5.2.2.2.2.2.2.2.2.2.2.2.2.2.2.2.2.2.2.2.2.2 (ByteArray.mk (List.toArray [])) (0:Int) [] []) fun r7=>
 (some r7)
 else
 if(r5.2.2.2.1=true)then
 Option.bind (qh k r5.2.2.2.2.2.2.2.2.2.2.2.2.2.2.2.2.2.2.1 r5.2.2.2.2.2.2.2.2.2.2.2.2.2.2.2.2.2.2.2.1 r5.2.2.2.2.2.2.2.2.2.2.2.2.2.2.2.2.2.2.2.2.1 r5.2.2.2.2.2.2.2.2.2.2.2.2.2.2.2.2.2.2.2.2.2) fun r6=>
 if(r6=true)then
 (some (r5.2.2.2.2.2.2.2.2.2.2.2.2.2.2.2.2.2.2.2.1 == r5.2.2.2.2.2.2.2.2.2.1))
 else
 (some false)
 else
 Option.bind (qj k r5.2.2.2.2.2.2.2.2.2.2.2.2.2.2.2.2.2.2.1 r5.2.2.2.2.2.2.2.2.2.2.2.2.2.2.2.2.2.2.2.1 r5.2.2.2.2.2.2.2.2.2.2.2.2.2.2.2.2.2.2.2.2.1 r5.2.2.2.2.2.2.2.2.2.2.2.2.2.2.2.2.2.2.2.2.2 (ByteArray.mk (List.toArray [])) (0:Int) [] []) fun r6=>
 (some r6)
 else
 (some false)
 else
 (some false)
 else
 if(r5.2.2.1=true)then
 Option.bind (qY k r5.2.2.2.2.2.2.2.2.2.2.2.2.2.2.2.1 r5.2.2.2.2.2.2.2.2.2.2.2.2.2.2.2.2.1 r5.2.2.2.2.2.2.2.2.2.2.2.2.2.2.2.2.2.1) fun r6=>
 if((!r6)=false)then
 if((!r5.2.2.1)=true)then
 Option.bind (qw k r5.2.2.2.2.2.2.2.2.2.2.2.2.2.2.2.1 r5.2.2.2.2.2.2.2.2.2.2.2.2.2.2.2.2.1 r5.2.2.2.2.2.2.2.2.2.2.2.2.2.2.2.2.2.1 (0:Int) [] []) fun r7=>
 if((!r7)=true)then
 (some false)
 else
 if(r5.2.2.2.1=true)then
 Option.bind (qh k r5.2.2.2.2.2.2.2.2.2.2.2.2.2.2.2.2.2.2.1 r5.2.2.2.2.2.2.2.2.2.2.2.2.2.2.2.2.2.2.2.1 r5.2.2.2.2.2.2.2.2.2.2.2.2.2.2.2.2.2.2.2.2.1 r5.2.2.2.2.2.2.2.2.2.2.2.2.2.2.2.2.2.2.2.2.2) fun r8=>
 if(r8=true)then
 (some (r5.2.2.2.2.2.2.2.2.2.2.2.2.2.2.2.2.2.2.2.1 == r5.2.2.2.2.2.2.2.2.2.1))
 else
 (some false)
 else
 Option.bind (qj k r5.2.2.2.2.2.2.2.2.2.2.2.2.2.2.2.2.2.2.1 r5.2.2.2.2.2.2.2.2.2.2.2.2.2.2.2.2.2.2.2.1 r5.2.2.2.2.2.2.2.2.2.2.2.2.2.2.2.2.2.2.2.2.1 r5.2.2.2.2.2.2.2.2.2.2.2.2.2.2.2.2.2.2.2.2.2 (ByteArray.mk (List.toArray [])) (0:Int) [] []) fun r8=>
 (some r8)
 else
 if(r5.2.2.2.1=true)then
 Option.bind (qh k r5.2.2.2.2.2.2.2.2.2.2.2.2.2.2.2.2.2.2.1 r5.2.2.2.2.2.2.2.2.2.2.2.2.2.2.2.2.2.2.2.1 r5.2.2.2.2.2.2.2.2.2.2.2.2.2.2.2.2.2.2.2.2.1 r5.2.2.2.2.2.2.2.2.2.2.2.2.2.2.2.2.2.2.2.2.2) fun r7=>
 if(r7=true)then
 (some (r5.2.2.2.2.2.2.2.2.2.2.2.2.2.2.2.2.2.2.2.1 == r5.2.2.2.2.2.2.2.2.2.1))
 else
 (some false)
 else
 Option.bind (qj k r5.2.2.2.2.2.2.2.2.2.2.2.2.2.2.2.2.2.2.1 r5.2.2.2.2.2.2.2.2.2.2.2.2.2.2.2.2.2.2.2.1 r5.2.2.2.2.2.2.2.2.2.2.2.2.2.2.2.2.2.2.2.2.1 r5.2.2.2.2.2.2.2.2.2.2.2.2.2.2.2.2.2.2.2.2.2 (ByteArray.mk (List.toArray [])) (0:Int) [] []) fun r7=>
 (some r7)
 else
 (some false)
 else
 if((!r5.2.2.1)=true)then
 Option.bind (qw k r5.2.2.2.2.2.2.2.2.2.2.2.2.2.2.2.1 r5.2.2.2.2.2.2.2.2.2.2.2.2.2.2.2.2.1 r5.2.2.2.2.2.2.2.2.2.2.2.2.2.2.2.2.2.1 (0:Int) [] []) fun r6=>
 if((!r6)=true)then
 (some false)
 else
 if(r5.2.2.2.1=true)then
 Option.bind (qh k r5.2.2.2.2.2.2.2.2.2.2.2.2.2.2.2.2.2.2.1 r5.2.2.2.2.2.2.2.2.2.2.2.2.2.2.2.2.2.2.2.1 r5.2.2.2.2.2.2.2.2.2.2.2.2.2.2.2.2.2.2.2.2.1 r5.2.2.2.2.2.2.2.2.2.2.2.2.2.2.2.2.2.2.2.2.2) fun r7=>
 if(r7=true)then
 (some (r5.2.2.2.2.2.2.2.2.2.2.2.2.2.2.2.2.2.2.2.1 == r5.2.2.2.2.2.2.2.2.2.1))
 else
 (some false)
 else
 Option.bind (qj k r5.2.2.2.2.2.2.2.2.2.2.2.2.2.2.2.2.2.2.1 r5.2.2.2.2.2.2.2.2.2.2.2.2.2.2.2.2.2.2.2.1 r5.2.2.2.2.2.2.2.2.2.2.2.2.2.2.2.2.2.2.2.2.1 r5.2.2.2.2.2.2.2.2.2.2.2.2.2.2.2.2.2.2.2.2.2 (ByteArray.mk (List.toArray [])) (0:Int) [] []) fun r7=>
 (some r7)
 else
 if(r5.2.2.2.1=true)then
 Option.bind (qh k r5.2.2.2.2.2.2.2.2.2.2.2.2.2.2.2.2.2.2.1 r5.2.2.2.2.2.2.2.2.2.2.2.2.2.2.2.2.2.2.2.1 r5.2.2.2.2.2.2.2.2.2.2.2.2.2.2.2.2.2.2.2.2.1 r5.2.2.2.2.2.2.2.2.2.2.2.2.2.2.2.2.2.2.2.2.2) fun r6=>
 if(r6=true)then
 (some (r5.2.2.2.2.2.2.2.2.2.2.2.2.2.2.2.2.2.2.2.1 == r5.2.2.2.2.2.2.2.2.2.1))
 else
 (some false)
 else
 Option.bind (qj k r5.2.2.2.2.2.2.2.2.2.2.2.2.2.2.2.2.2.2.1 r5.2.2.2.2.2.2.2.2.2.2.2.2.2.2.2.2.2.2.2.1 r5.2.2.2.2.2.2.2.2.2.2.2.2.2.2.2.2.2.2.2.2.1 r5.2.2.2.2.2.2.2.2.2.2.2.2.2.2.2.2.2.2.2.2.2 (ByteArray.mk (List.toArray [])) (0:Int) [] []) fun r6=>
 (some r6)
 else
 none
 else
 (some false)
 else
 (some false)
 else
 if((r5.2.2.2.2.2.2.2.2.2.2.2.2.1 != (0:Int))=true)then
 (some false)
 else
 if(r5.2.1=true)then
 Option.bind (qaF k r5.2.2.2.2.2.2.2.2.2.2.2.2.2.1 r5.2.2.2.2.2.2.2.2.2.2.2.2.2.2.1) fun r6=>
 if((!r6)=false)then
 if((!r5.2.1)=true)then
 if((r5.2.2.2.2.2.2.2.2.2.2.2.2.2.1 == (0:Int))=true)then
 if((r5.2.2.2.2.2.2.2.2.2.2.2.2.2.2.1 == (0:Int))=true)then
 if(r5.2.2.1=true)then
 Option.bind (qY k r5.2.2.2.2.2.2.2.2.2.2.2.2.2.2.2.1 r5.2.2.2.2.2.2.2.2.2.2.2.2.2.2.2.2.1 r5.2.2.2.2.2.2.2.2.2.2.2.2.2.2.2.2.2.1) fun r7=>
 if((!r7)=false)then
 if((!r5.2.2.1)=true)then
 Option.bind (qw k r5.2.2.2.2.2.2.2.2.2.2.2.2.2.2.2.1 r5.2.2.2.2.2.2.2.2.2.2.2.2.2.2.2.2.1 r5.2.2.2.2.2.2.2.2.2.2.2.2.2.2.2.2.2.1 (0:Int) [] []) fun r8=>
 if((!r8)=true)then
 (some false)
 else
 if(r5.2.2.2.1=true)then
 Option.bind (qh k r5.2.2.2.2.2.2.2.2.2.2.2.2.2.2.2.2.2.2.1 r5.2.2.2.2.2.2.2.2.2.2.2.2.2.2.2.2.2.2.2.1 r5.2.2.2.2.2.2.2.2.2.2.2.2.2.2.2.2.2.2.2.2.1 r5.2.2.2.2.2.2.2.2.2.2.2.2.2.2.2.2.2.2.2.2.2) fun r9=>
 if(r9=true)then
 (some (r5.2.2.2.2.2.2.2.2.2.2.2.2.2.2.2.2.2.2.2.1 == r5.2.2.2.2.2.2.2.2.2.1))
 else
 (some false)
 else
 Option.bind (qj k r5.2.2.2.2.2.2.2.2.2.2.2.2.2.2.2.2.2.2.1 r5.2.2.2.2.2.2.2.2.2.2.2.2.2.2.2.2.2.2.2.1 r5.2.2.2.2.2.2.2.2.2.2.2.2.2.2.2.2.2.2.2.2.1 r5.2.2.2.2.2.2.2.2.2.2.2.2.2.2.2.2.2.2.2.2.2 (ByteArray.mk (List.toArray [])) (0:Int) [] []) fun r9=>
 (some r9)
 else
 if(r5.2.2.2.1=true)then
 Option.bind (qh k r5.2.2.2.2.2.2.2.2.2.2.2.2.2.2.2.2.2.2.1 r5.2.2.2.2.2.2.2.2.2.2.2.2.2.2.2.2.2.2.2.1 r5.2.2.2.2.2.2.2.2.2.2.2.2.2.2.2.2.2.2.2.2.1 r5.2.2.2.2.2.2.2.2.2.2.2.2.2.2.2.2.2.2.2.2.2) fun r8=>
 if(r8=true)then
 (some (r5.2.2.2.2.2.2.2.2.2.2.2.2.2.2.2.2.2.2.2.1 == r5.2.2.2.2.2.2.2.2.2.1))
 else
 (some false)
 else
 Option.bind (qj k r5.2.2.2.2.2.2.2.2.2.2.2.2.2.2.2.2.2.2.1 r5.2.2.2.2.2.2.2.2.2.2.2.2.2.2.2.2.2.2.2.1 r5.2.2.2.2.2.2.2.2.2.2.2.2.2.2.2.2.2.2.2.2.1 r5.2.2.2.2.2.2.2.2.2.2.2.2.2.2.2.2.2.2.2.2.2 (ByteArray.mk (List.toArray [])) (0:Int) [] []) fun r8=>
 (some r8)
 else
 (some false)
 else
 if((!r5.2.2.1)=true)then
 Option.bind (qw k r5.2.2.2.2.2.2.2.2.2.2.2.2.2.2.2.1 r5.2.2.2.2.2.2.2.2.2.2.2.2.2.2.2.2.1 r5.2.2.2.2.2.2.2.2.2.2.2.2.2.2.2.2.2.1 (0:Int) [] []) fun r7=>
 if((!r7)=true)then
 (some false)
 else
 if(r5.2.2.2.1=true)then
 Option.bind (qh k r5.2.2.2.2.2.2.2.2.2.2.2.2.2.2.2.2.2.2.1 r5.2.2.2.2.2.2.2.2.2.2.2.2.2.2.2.2.2.2.2.1 r5.2.2.2.2.2.2.2.2.2.2.2.2.2.2.2.2.2.2.2.2.1 r5.2.2.2.2.2.2.2.2.2.2.2.2.2.2.2.2.2.2.2.2.2) fun r8=>
 if(r8=true)then
 (some (r5.2.2.2.2.2.2.2.2.2.2.2.2.2.2.2.2.2.2.2.1 == r5.2.2.2.2.2.2.2.2.2.1))
 else
 (some false)
 else
 Option.bind (qj k r5.2.2.2.2.2.2.2.2.2.2.2.2.2.2.2.2.2.2.1 r5.2.2.2.2.2.2.2.2.2.2.2.2.2.2.2.2.2.2.2.1 r5.2.2.2.2.2.2.2.2.2.2.2.2.2.2.2.2.2.2.2.2.1 r5.2.2.2.2.2.2.2.2.2.2.2.2.2.2.2.2.2.2.2.2.2 (ByteArray.mk (List.toArray [])) (0:Int) [] []) fun r8=>
 (some r8)
 else
 if(r5.2.2.2.1=true)then
 Option.bind (qh k r5.2.2.2.2.2.2.2.2.2.2.2.2.2.2.2.2.2.2.1 r5.2.2.2.2.2.2.2.2.2.2.2.2.2.2.2.2.2.2.2.1 r5.2.2.2.2.2.2.2.2.2.2.2.2.2.2.2.2.2.2.2.2.1 r5.2.2.2.2.2.2.2.2.2.2.2.2.2.2.2.2.2.2.2.2.2) fun r7=>
 if(r7=true)then
 (some (r5.2.2.2.2.2.2.2.2.2.2.2.2.2.2.2.2.2.2.2.1 == r5.2.2.2.2.2.2.2.2.2.1))
 else
 (some false)
 else
 Option.bind (qj k r5.2.2.2.2.2.2.2.2.2.2.2.2.2.2.2.2.2.2.1 r5.2.2.2.2.2.2.2.2.2.2.2.2.2.2.2.2.2.2.2.1 r5.2.2.2.2.2.2.2.2.2.2.2.2.2.2.2.2.2.2.2.2.1 r5.2.2.2.2.2.2.2.2.2.2.2.2.2.2.2.2.2.2.2.2.2 (ByteArray.mk (List.toArray [])) (0:Int) [] []) fun r7=>
 (some r7)
 else
 (some false)
 else
 (some false)
 else
 if(r5.2.2.1=true)then
 Option.bind (qY k r5.2.2.2.2.2.2.2.2.2.2.2.2.2.2.2.1 r5.2.2.2.2.2.2.2.2.2.2.2.2.2.2.2.2.1 r5.2.2.2.2.2.2.2.2.2.2.2.2.2.2.2.2.2.1) fun r7=>
 if((!r7)=false)then
 if((!r5.2.2.1)=true)then
 Option.bind (qw k r5.2.2.2.2.2.2.2.2.2.2.2.2.2.2.2.1 r5.2.2.2.2.2.2.2.2.2.2.2.2.2.2.2.2.1 r5.2.2.2.2.2.2.2.2.2.2.2.2.2.2.2.2.2.1 (0:Int) [] []) fun r8=>
 if((!r8)=true)then
 (some false)
 else
 if(r5.2.2.2.1=true)then
 Option.bind (qh k r5.2.2.2.2.2.2.2.2.2.2.2.2.2.2.2.2.2.2.1 r5.2.2.2.2.2.2.2.2.2.2.2.2.2.2.2.2.2.2.2.1 r5.2.2.2.2.2.2.2.2.2.2.2.2.2.2.2.2.2.2.2.2.1 r5.2.2.2.2.2.2.2.2.2.2.2.2.2.2.2.2.2.2.2.2.2) fun r9=>
 if(r9=true)then
 (some (r5.2.2.2.2.2.2.2.2.2.2.2.2.2.2.2.2.2.2.2.1 == r5.2.2.2.2.2.2.2.2.2.1))
 else
 (some false)
 else
 Option.bind (qj k r5.2.2.2.2.2.2.2.2.2.2.2.2.2.2.2.2.2.2.1 r5.2.2.2.2.2.2.2.2.2.2.2.2.2.2.2.2.2.2.2.1 r5.2.2.2.2.2.2.2.2.2.2.2.2.2.2.2.2.2.2.2.2.1 r5.2.2.2.2.2.2.2.2.2.2.2.2.2.2.2.2.2.2.2.2.2 (ByteArray.mk (List.toArray [])) (0:Int) [] []) fun r9=>
 (some r9)
 else
 if(r5.2.2.2.1=true)then
 Option.bind (qh k r5.2.2.2.2.2.2.2.2.2.2.2.2.2.2.2.2.2.2.1 r5.2.2.2.2.2.2.2.2.2.2.2.2.2.2.2.2.2.2.2.1 r5.2.2.2.2.2.2.2.2.2.2.2.2.2.2.2.2.2.2.2.2.1 r5.2.2.2.2.2.2.2.2.2.2.2.2.2.2.2.2.2.2.2.2.2) fun r8=>
 if(r8=true)then
 (some (r5.2.2.2.2.2.2.2.2.2.2.2.2.2.2.2.2.2.2.2.1 == r5.2.2.2.2.2.2.2.2.2.1))
 else
 (some false)
 else
 Option.bind (qj k r5.2.2.2.2.2.2.2.2.2.2.2.2.2.2.2.2.2.2.1 r5.2.2.2.2.2.2.2.2.2.2.2.2.2.2.2.2.2.2.2.1 r5.2.2.2.2.2.2.2.2.2.2.2.2.2.2.2.2.2.2.2.2.1 r5.2.2.2.2.2.2.2.2.2.2.2.2.2.2.2.2.2.2.2.2.2 (ByteArray.mk (List.toArray [])) (0:Int) [] []) fun r8=>
 (some r8)
 else
 (some false)
 else
 if((!r5.2.2.1)=true)then
 Option.bind (qw k r5.2.2.2.2.2.2.2.2.2.2.2.2.2.2.2.1 r5.2.2.2.2.2.2.2.2.2.2.2.2.2.2.2.2.1 r5.2.2.2.2.2.2.2.2.2.2.2.2.2.2.2.2.2.1 (0:Int) [] []) fun r7=>
 if((!r7)=true)then
 (some false)
 else
 if(r5.2.2.2.1=true)then
 Option.bind (qh k r5.2.2.2.2.2.2.2.2.2.2.2.2.2.2.2.2.2.2.1 r5.2.2.2.2.2.2.2.2.2.2.2.2.2.2.2.2.2.2.2.1 r5.2.2.2.2.2.2.2.2.2.2.2.2.2.2.2.2.2.2.2.2.1 r5.2.2.2.2.2.2.2.2.2.2.2.2.2.2.2.2.2.2.2.2.2) fun r8=>
 if(r8=true)then
 (some (r5.2.2.2.2.2.2.2.2.2.2.2.2.2.2.2.2.2.2.2.1 == r5.2.2.2.2.2.2.2.2.2.1))
 else
 (some false)
 else
 Option.bind (qj k r5.2.2.2.2.2.2.2.2.2.2.2.2.2.2.2.2.2.2.1 r5.2.2.2.2.2.2.2.2.2.2.2.2.2.2.2.2.2.2.2.1 r5.2.2.2.2.2.2.2.2.2.2.2.2.2.2.2.2.2.2.2.2.1 r5.2.2.2.2.2.2.2.2.2.2.2.2.2.2.2.2.2.2.2.2.2 (ByteArray.mk (List.toArray [])) (0:Int) [] []) fun r8=>
 (some r8)
 else
 if(r5.2.2.2.1=true)then
 Option.bind (qh k r5.2.2.2.2.2.2.2.2.2.2.2.2.2.2.2.2.2.2.1 r5.2.2.2.2.2.2.2.2.2.2.2.2.2.2.2.2.2.2.2.1 r5.2.2.2.2.2.2.2.2.2.2.2.2.2.2.2.2.2.2.2.2.1 r5.2.2.2.2.2.2.2.2.2.2.2.2.2.2.2.2.2.2.2.2.2) fun r7=>
 if(r7=true)then
 (some (r5.2.2.2.2.2.2.2.2.2.2.2.2.2.2.2.2.2.2.2.1 == r5.2.2.2.2.2.2.2.2.2.1))
 else
 (some false)
 else
 Option.bind (qj k r5.2.2.2.2.2.2.2.2.2.2.2.2.2.2.2.2.2.2.1 r5.2.2.2.2.2.2.2.2.2.2.2.2.2.2.2.2.2.2.2.1 r5.2.2.2.2.2.2.2.2.2.2.2.2.2.2.2.2.2.2.2.2.1 r5.2.2.2.2.2.2.2.2.2.2.2.2.2.2.2.2.2.2.2.2.2 (ByteArray.mk (List.toArray [])) (0:Int) [] []) fun r7=>
 (some r7)
 else
 (some false)
 else
 if((!r5.2.1)=true)then
 if((r5.2.2.2.2.2.2.2.2.2.2.2.2.2.1 == (0:Int))=true)then
 if((r5.2.2.2.2.2.2.2.2.2.2.2.2.2.2.1 == (0:Int))=true)then
 if(r5.2.2.1=true)then
 Option.bind (qY k r5.2.2.2.2.2.2.2.2.2.2.2.2.2.2.2.1 r5.2.2.2.2.2.2.2.2.2.2.2.2.2.2.2.2.1 r5.2.2.2.2.2.2.2.2.2.2.2.2.2.2.2.2.2.1) fun r6=>
 if((!r6)=false)then
 if((!r5.2.2.1)=true)then
 Option.bind (qw k r5.2.2.2.2.2.2.2.2.2.2.2.2.2.2.2.1 r5.2.2.2.2.2.2.2.2.2.2.2.2.2.2.2.2.1 r5.2.2.2.2.2.2.2.2.2.2.2.2.2.2.2.2.2.1 (0:Int) [] []) fun r7=>
 if((!r7)=true)then
 (some false)
 else
 if(r5.2.2.2.1=true)then
 Option.bind (qh k r5.2.2.2.2.2.2.2.2.2.2.2.2.2.2.2.2.2.2.1 r5.2.2.2.2.2.2.2.2.2.2.2.2.2.2.2.2.2.2.2.1 r5.2.2.2.2.2.2.2.2.2.2.2.2.2.2.2.2.2.2.2.2.1 r5.2.2.2.2.2.2.2.2.2.2.2.2.2.2.2.2.2.2.2.2.2) fun r8=>
 if(r8=true)then
 (some (r5.2.2.2.2.2.2.2.2.2.2.2.2.2.2.2.2.2.2.2.1 == r5.2.2.2.2.2.2.2.2.2.1))
 else
 (some false)
 else
 Option.bind (qj k r5.2.2.2.2.2.2.2.2.2.2.2.2.2.2.2.2.2.2.1 r5.2.2.2.2.2.2.2.2.2.2.2.2.2.2.2.2.2.2.2.1 r5.2.2.2.2.2.2.2.2.2.2.2.2.2.2.2.2.2.2.2.2.1 r5.2.2.2.2.2.2.2.2.2.2.2.2.2.2.2.2.2.2.2.2.2 (ByteArray.mk (List.toArray [])) (0:Int) [] []) fun r8=>
 (some r8)
 else
 if(r5.2.2.2.1=true)then
 Option.bind (qh k r5.2.2.2.2.2.2.2.2.2.2.2.2.2.2.2.2.2.2.1 r5.2.2.2.2.2.2.2.2.2.2.2.2.2.2.2.2.2.2.2.1 r5.2.2.2.2.2.2.2.2.2.2.2.2.2.2.2.2.2.2.2.2.1 r5.2.2.2.2.2.2.2.2.2.2.2.2.2.2.2.2.2.2.2.2.2) fun r7=>
 if(r7=true)then
 (some (r5.2.2.2.2.2.2.2.2.2.2.2.2.2.2.2.2.2.2.2.1 == r5.2.2.2.2.2.2.2.2.2.1))
 else
 (some false)
 else
 Option.bind (qj k r5.2.2.2.2.2.2.2.2.2.2.2.2.2.2.2.2.2.2.1 r5.2.2.2.2.2.2.2.2.2.2.2.2.2.2.2.2.2.2.2.1 r5.2.2.2.2.2.2.2.2.2.2.2.2.2.2.2.2.2.2.2.2.1 r5.2.2.2.2.2.2.2.2.2.2.2.2.2.2.2.2.2.2.2.2.2 (ByteArray.mk (List.toArray [])) (0:Int) [] []) fun r7=>
 (some r7)
 else
 (some false)
 else
 if((!r5.2.2.1)=true)then
 Option.bind (qw k r5.2.2.2.2.2.2.2.2.2.2.2.2.2.2.2.1 r5.2.2.2.2.2.2.2.2.2.2.2.2.2.2.2.2.1 r5.2.2.2.2.2.2.2.2.2.2.2.2.2.2.2.2.2.1 (0:Int) [] []) fun r6=>
 if((!r6)=true)then
 (some false)
 else
 if(r5.2.2.2.1=true)then
 Option.bind (qh k r5.2.2.2.2.2.2.2.2.2.2.2.2.2.2.2.2.2.2.1 r5.2.2.2.2.2.2.2.2.2.2.2.2.2.2.2.2.2.2.2.1 r5.2.2.2.2.2.2.2.2.2.2.2.2.2.2.2.2.2.2.2.2.1 r5.2.2.2.2.2.2.2.2.2.2.2.2.2.2.2.2.2.2.2.2.2) fun r7=>
 if(r7=true)then
 (some (r5.2.2.2.2.2.2.2.2.2.2.2.2.2.2.2.2.2.2.2.1 == r5.2.2.2.2.2.2.2.2.2.1))
 else
 (some false)
 else
 Option.bind (qj k r5.2.2.2.2.2.2.2.2.2.2.2.2.2.2.2.2.2.2.1 r5.2.2.2.2.2.2.2.2.2.2.2.2.2.2.2.2.2.2.2.1 r5.2.2.2.2.2.2.2.2.2.2.2.2.2.2.2.2.2.2.2.2.1 r5.2.2.2.2.2.2.2.2.2.2.2.2.2.2.2.2.2.2.2.2.2 (ByteArray.mk (List.toArray [])) (0:Int) [] []) fun r7=>
 (some r7)
 else
 if(r5.2.2.2.1=true)then
 Option.bind (qh k r5.2.2.2.2.2.2.2.2.2.2.2.2.2.2.2.2.2.2.1 r5.2.2.2.2.2.2.2.2.2.2.2.2.2.2.2.2.2.2.2.1 r5.2.2.2.2.2.2.2.2.2.2.2.2.2.2.2.2.2.2.2.2.1 r5.2.2.2.2.2.2.2.2.2.2.2.2.2.2.2.2.2.2.2.2.2) fun r6=>
 if(r6=true)then
 (some (r5.2.2.2.2.2.2.2.2.2.2.2.2.2.2.2.2.2.2.2.1 == r5.2.2.2.2.2.2.2.2.2.1))
 else
 (some false)
 else
 Option.bind (qj k r5.2.2.2.2.2.2.2.2.2.2.2.2.2.2.2.2.2.2.1 r5.2.2.2.2.2.2.2.2.2.2.2.2.2.2.2.2.2.2.2.1 r5.2.2.2.2.2.2.2.2.2.2.2.2.2.2.2.2.2.2.2.2.1 r5.2.2.2.2.2.2.2.2.2.2.2.2.2.2.2.2.2.2.2.2.2 (ByteArray.mk (List.toArray [])) (0:Int) [] []) fun r6=>
 (some r6)
 else
 (some false)
 else
 (some false)
 else
 if(r5.2.2.1=true)then
 Option.bind (qY k r5.2.2.2.2.2.2.2.2.2.2.2.2.2.2.2.1 r5.2.2.2.2.2.2.2.2.2.2.2.2.2.2.2.2.1 r5.2.2.2.2.2.2.2.2.2.2.2.2.2.2.2.2.2.1) fun r6=>
 if((!r6)=false)then
 if((!r5.2.2.1)=true)then
 Option.bind (qw k r5.2.2.2.2.2.2.2.2.2.2.2.2.2.2.2.1 r5.2.2.2.2.2.2.2.2.2.2.2.2.2.2.2.2.1 r5.2.2.2.2.2.2.2.2.2.2.2.2.2.2.2.2.2.1 (0:Int) [] []) fun r7=>
 if((!r7)=true)then
 (some false)
 else
 if(r5.2.2.2.1=true)then
 Option.bind (qh k r5.2.2.2.2.2.2.2.2.2.2.2.2.2.2.2.2.2.2.1 r5.2.2.2.2.2.2.2.2.2.2.2.2.2.2.2.2.2.2.2.1 r5.2.2.2.2.2.2.2.2.2.2.2.2.2.2.2.2.2.2.2.2.1 r5.2.2.2.2.2.2.2.2.2.2.2.2.2.2.2.2.2.2.2.2.2) fun r8=>
 if(r8=true)then
 (some (r5.2.2.2.2.2.2.2.2.2.2.2.2.2.2.2.2.2.2.2.1 == r5.2.2.2.2.2.2.2.2.2.1))
 else
 (some false)
 else
 Option.bind (qj k r5.2.2.2.2.2.2.2.2.2.2.2.2.2.2.2.2.2.2.1 r5.2.2.2.2.2.2.2.2.2.2.2.2.2.2.2.2.2.2.2.1 r5.2.2.2.2.2.2.2.2.2.2.2.2.2.2.2.2.2.2.2.2.1 r5.2.2.2.2.2.2.2.2.2.2.2.2.2.2.2.2.2.2.2.2.2 (ByteArray.mk (List.toArray [])) (0:Int) [] []) fun r8=>
 (some r8)
 else
 if(r5.2.2.2.1=true)then
 Option.bind (qh k r5.2.2.2.2.2.2.2.2.2.2.2.2.2.2.2.2.2.2.1 r5.2.2.2.2.2.2.2.2.2.2.2.2.2.2.2.2.2.2.2.1 r5.2.2.2.2.2.2.2.2.2.2.2.2.2.2.2.2.2.2.2.2.1 r5.2.2.2.2.2.2.2.2.2.2.2.2.2.2.2.2.2.2.2.2.2) fun r7=>
 if(r7=true)then
 (some (r5.2.2.2.2.2.2.2.2.2.2.2.2.2.2.2.2.2.2.2.1 == r5.2.2.2.2.2.2.2.2.2.1))
 else
 (some false)
 else
 Option.bind (qj k r5.2.2.2.2.2.2.2.2.2.2.2.2.2.2.2.2.2.2.1 r5.2.2.2.2.2.2.2.2.2.2.2.2.2.2.2.2.2.2.2.1 r5.2.2.2.2.2.2.2.2.2.2.2.2.2.2.2.2.2.2.2.2.1 r5.2.2.2.2.2.2.2.2.2.2.2.2.2.2.2.2.2.2.2.2.2 (ByteArray.mk (List.toArray [])) (0:Int) [] []) fun r7=>
 (some r7)
 else
 (some false)
 else
 if((!r5.2.2.1)=true)then
 Option.bind (qw k r5.2.2.2.2.2.2.2.2.2.2.2.2.2.2.2.1 r5.2.2.2.2.2.2.2.2.2.2.2.2.2.2.2.2.1 r5.2.2.2.2.2.2.2.2.2.2.2.2.2.2.2.2.2.1 (0:Int) [] []) fun r6=>
 if((!r6)=true)then
 (some false)
 else
 if(r5.2.2.2.1=true)then
 Option.bind (qh k r5.2.2.2.2.2.2.2.2.2.2.2.2.2.2.2.2.2.2.1 r5.2.2.2.2.2.2.2.2.2.2.2.2.2.2.2.2.2.2.2.1 r5.2.2.2.2.2.2.2.2.2.2.2.2.2.2.2.2.2.2.2.2.1 r5.2.2.2.2.2.2.2.2.2.2.2.2.2.2.2.2.2.2.2.2.2) fun r7=>
 if(r7=true)then
 (some (r5.2.2.2.2.2.2.2.2.2.2.2.2.2.2.2.2.2.2.2.1 == r5.2.2.2.2.2.2.2.2.2.1))
 else
 (some false)
 else
 Option.bind (qj k r5.2.2.2.2.2.2.2.2.2.2.2.2.2.2.2.2.2.2.1 r5.2.2.2.2.2.2.2.2.2.2.2.2.2.2.2.2.2.2.2.1 r5.2.2.2.2.2.2.2.2.2.2.2.2.2.2.2.2.2.2.2.2.1 r5.2.2.2.2.2.2.2.2.2.2.2.2.2.2.2.2.2.2.2.2.2 (ByteArray.mk (List.toArray [])) (0:Int) [] []) fun r7=>
 (some r7)
 else
 if(r5.2.2.2.1=true)then
 Option.bind (qh k r5.2.2.2.2.2.2.2.2.2.2.2.2.2.2.2.2.2.2.1 r5.2.2.2.2.2.2.2.2.2.2.2.2.2.2.2.2.2.2.2.1 r5.2.2.2.2.2.2.2.2.2.2.2.2.2.2.2.2.2.2.2.2.1 r5.2.2.2.2.2.2.2.2.2.2.2.2.2.2.2.2.2.2.2.2.2) fun r6=>
 if(r6=true)then
 (some (r5.2.2.2.2.2.2.2.2.2.2.2.2.2.2.2.2.2.2.2.1 == r5.2.2.2.2.2.2.2.2.2.1))
 else
 (some false)
 else
 Option.bind (qj k r5.2.2.2.2.2.2.2.2.2.2.2.2.2.2.2.2.2.2.1 r5.2.2.2.2.2.2.2.2.2.2.2.2.2.2.2.2.2.2.2.1 r5.2.2.2.2.2.2.2.2.2.2.2.2.2.2.2.2.2.2.2.2.1 r5.2.2.2.2.2.2.2.2.2.2.2.2.2.2.2.2.2.2.2.2.2 (ByteArray.mk (List.toArray [])) (0:Int) [] []) fun r6=>
 (some r6)
def qfC (k:Nat) (f0:List ByteArray) (f1:List DvT) (f2:Int) (f3:Int) (f4:Int) (d0:Int) (d1:ByteArray) (d2:List Int) (d3:Int) (d4:Int) (d5:Int) (d6:Int) (d7:List (Int×Int)) (d8:List Int) (d9:ByteArray) (d10:Int) (d11:List (Int×Int)) (d12:List (Int×Int)):Option (Bool):=
 if((d0 == (114:Int))=true)then
 if((d4 == (0:Int))=true)then
 (some false)
 else
 if(((((List.length d2):Nat):Int) != (2:Int))=false)then
 Option.bind (qC k d1) fun r4=>
 if((!r4)=true)then
 (some false)
 else
 Option.bind (qq k k (2:Int) false true false false (0:Int) f0 f1 f2 f3 f4 d0 d1 d2 d3 d4 d5 d6 d7 d8 d9 d10 d11 d12) fun r5=>
 qc r5
 (fun r5=>
 (some r5.1))
 (qg k)
 else
 (some false)
 else
 if((d0 == (99:Int))=true)then
 if((d4 == (0:Int))=true)then
 (some false)
 else
 if(((((List.length d2):Nat):Int) != (2:Int))=false)then
 Option.bind (qC k d1) fun r4=>
 if((!r4)=true)then
 (some false)
 else
 Option.bind (qq k k (2:Int) false true false false (0:Int) f0 f1 f2 f3 f4 d0 d1 d2 d3 d4 d5 d6 d7 d8 d9 d10 d11 d12) fun r5=>
 qc r5
 (fun r5=>
 (some r5.1))
 (qg k)
 else
 (some false)
 else
 if((d0 == (108:Int))=true)then
 if((d4 == (0:Int))=true)then
 (some false)
 else
 if(((((List.length d2):Nat):Int) != (2:Int))=false)then
 Option.bind (qC k d1) fun r4=>
 if((!r4)=true)then
 (some false)
 else
 Option.bind (qq k k (2:Int) false true false false (0:Int) f0 f1 f2 f3 f4 d0 d1 d2 d3 d4 d5 d6 d7 d8 d9 d10 d11 d12) fun r5=>
 qc r5
 (fun r5=>
 (some r5.1))
 (qg k)
 else
 (some false)
 else
 if((d0 == (118:Int))=true)then
 if(((((List.length d2):Nat):Int) != (2:Int))=false)then
 Option.bind (qC k d1) fun r4=>
 if((!r4)=true)then
 (some false)
 else
 Option.bind (qq k k (2:Int) false false true false (0:Int) f0 f1 f2 f3 f4 d0 d1 d2 d3 d4 d5 d6 d7 d8 d9 d10 d11 d12) fun r5=>
 qc r5
 (fun r5=>
 (some r5.1))
 (qg k)
 else
 (some false)
 else
 if((d0 == (105:Int))=true)then
 if(((((List.length d2):Nat):Int) != (2:Int))=false)then
 Option.bind (qC k d1) fun r4=>
 if((!r4)=true)then
 (some false)
 else
 Option.bind (qq k k (2:Int) false false true false (0:Int) f0 f1 f2 f3 f4 d0 d1 d2 d3 d4 d5 d6 d7 d8 d9 d10 d11 d12) fun r5=>
 qc r5
 (fun r5=>
 (some r5.1))
 (qg k)
 else
 (some false)
 else
 if((d0 == (101:Int))=true)then
 if(((((List.length d2):Nat):Int) != (4:Int))=false)then
 Option.bind (qC k d1) fun r4=>
 if((!r4)=true)then
 (some false)
 else
 Option.bind (qq k k (4:Int) false true false false (0:Int) f0 f1 f2 f3 f4 d0 d1 d2 d3 d4 d5 d6 d7 d8 d9 d10 d11 d12) fun r5=>
 qc r5
 (fun r5=>
 (some r5.1))
 (qg k)
 else
 (some false)
 else
 if((d0 == (103:Int))=true)then
 if(((((List.length d2):Nat):Int) != (4:Int))=false)then
 Option.bind (qC k d1) fun r4=>
 if((!r4)=true)then
 (some false)
 else
 Option.bind (qq k k (4:Int) false true false false (0:Int) f0 f1 f2 f3 f4 d0 d1 d2 d3 d4 d5 d6 d7 d8 d9 d10 d11 d12) fun r5=>
 qc r5
 (fun r5=>
 (some r5.1))
 (qg k)
 else
 (some false)
 else
 if((d0 == (116:Int))=true)then
 if(((((List.length d2):Nat):Int) != (4:Int))=false)then
 Option.bind (qC k d1) fun r4=>
 if((!r4)=true)then
 (some false)
 else
 Option.bind (qq k k (4:Int) false true false false (0:Int) f0 f1 f2 f3 f4 d0 d1 d2 d3 d4 d5 d6 d7 d8 d9 d10 d11 d12) fun r5=>
 qc r5
 (fun r5=>
 (some r5.1))
 (qg k)
 else
 (some false)
 else
 if((d0 == (102:Int))=true)then
 if(((((List.length d2):Nat):Int) != (2:Int))=false)then
 Option.bind (qC k d1) fun r4=>
 if((!r4)=true)then
 (some false)
 else
 Option.bind (qq k k (2:Int) true true false false (0:Int) f0 f1 f2 f3 f4 d0 d1 d2 d3 d4 d5 d6 d7 d8 d9 d10 d11 d12) fun r5=>
 qc r5
 (fun r5=>
 (some r5.1))
 (qg k)
 else
 (some false)
 else
 if((d0 == (104:Int))=true)then
 if(((((List.length d2):Nat):Int) != (2:Int))=false)then
 Option.bind (qC k d1) fun r4=>
 if((!r4)=true)then
 (some false)
 else
 Option.bind (qq k k (2:Int) true true false false (0:Int) f0 f1 f2 f3 f4 d0 d1 d2 d3 d4 d5 d6 d7 d8 d9 d10 d11 d12) fun r5=>
 qc r5
 (fun r5=>
 (some r5.1))
 (qg k)
 else
 (some false)
 else
 if((d0 == (100:Int))=true)then
 if(((((List.length d2):Nat):Int) != (2:Int))=false)then
 Option.bind (qC k d1) fun r4=>
 if((!r4)=true)then
 (some false)
 else
 Option.bind (qq k k (2:Int) false false false true (0:Int) f0 f1 f2 f3 f4 d0 d1 d2 d3 d4 d5 d6 d7 d8 d9 d10 d11 d12) fun r5=>
 qc r5
 (fun r5=>
 (some r5.1))
 (qg k)
 else
 (some false)
 else
 if((d0 == (115:Int))=true)then
 if(((((List.length d2):Nat):Int) != (4:Int))=false)then
 Option.bind (qC k d1) fun r4=>
 if((!r4)=true)then
 (some false)
 else
 Option.bind (qq k k (4:Int) false false false true (0:Int) f0 f1 f2 f3 f4 d0 d1 d2 d3 d4 d5 d6 d7 d8 d9 d10 d11 d12) fun r5=>
 qc r5
 (fun r5=>
 (some r5.1))
 (qg k)
 else
 (some false)
 else
 (some false)
def qdj:Nat→List ByteArray→List DvT→Int→Int→Int→Int→ByteArray→List Int→Int→Int→Int→Int→List (Int×Int)→List Int→ByteArray→Int→List (Int×Int)→List (Int×Int)→Option (Bool)
 | 0,_,_,_,_,_,_,_,_,_,_,_,_,_,_,_,_,_,_=>none
 | k+1,f0,f1,f2,f3,f4,d0,d1,d2,d3,d4,d5,d6,d7,d8,d9,d10,d11,d12=>qfC k f0 f1 f2 f3 f4 d0 d1 d2 d3 d4 d5 d6 d7 d8 d9 d10 d11 d12
def qy2:Nat→Inst:=mkI 68 ⟨[.g [.lf (.sl .str),.lf (.sl qN),.lf (.int .i64),.lf (.int .i64),.lf (.int .i64)],.g [.lf (.int .u8),.lf .str,.lf (.sl (.int .i64)),.lf (.int .i64),.lf (.int .i64),.lf (.int .i64),.lf (.int .i64),.lf cE,.lf (.sl (.int .i64)),.lf .str,.lf (.int .u8),.lf cE,.lf cE]],[]⟩ [⟨[vB],[]⟩] fun k x=>qdj k x.1 x.2.1 x.2.2.1 x.2.2.2.1 x.2.2.2.2.1 x.2.2.2.2.2.1 x.2.2.2.2.2.2.1 x.2.2.2.2.2.2.2.1 x.2.2.2.2.2.2.2.2.1 x.2.2.2.2.2.2.2.2.2.1 x.2.2.2.2.2.2.2.2.2.2.1 x.2.2.2.2.2.2.2.2.2.2.2.1 x.2.2.2.2.2.2.2.2.2.2.2.2.1 x.2.2.2.2.2.2.2.2.2.2.2.2.2.1 x.2.2.2.2.2.2.2.2.2.2.2.2.2.2.1 x.2.2.2.2.2.2.2.2.2.2.2.2.2.2.2.1 x.2.2.2.2.2.2.2.2.2.2.2.2.2.2.2.2.1 x.2.2.2.2.2.2.2.2.2.2.2.2.2.2.2.2.2
theorem quw (k:Nat):qas (call cf k) [qs9 k,qnK k,qyJ k,qyQ k,qyX k,qy1 k]:=
 ac (qur k) (ac (qmL k) (ac (qAL k) (ac (qAM k) (ac (quv k) (ac (qAS k) a0)))))
def qy3 (k:Nat):LInst:=mkL 1 [⟨[(2,.a (.ptr 0 0 0)),(3,.a (.ptr 1 0 0)),(5,vI),(6,vB),(7,vB),(8,vB),(9,vB),(10,vI)],[(0,some (.raw [[.lf (.sl .str),.lf (.sl qN),.lf (.int .i64),.lf (.int .i64),.lf (.int .i64)]] 5 27 true false false)),(1,some (.raw [[.lf (.int .u8),.lf .str,.lf (.sl (.int .i64)),.lf (.int .i64),.lf (.int .i64),.lf (.int .i64),.lf (.int .i64),.lf cE,.lf (.sl (.int .i64)),.lf .str,.lf (.int .u8),.lf cE,.lf cE]] 13 48 true false false))],2⟩] [⟨none,⟨[(4,vB)],[(0,some (.raw [[.lf (.sl .str),.lf (.sl qN),.lf (.int .i64),.lf (.int .i64),.lf (.int .i64)]] 5 27 true false false)),(1,some (.raw [[.lf (.int .u8),.lf .str,.lf (.sl (.int .i64)),.lf (.int .i64),.lf (.int .i64),.lf (.int .i64),.lf (.int .i64),.lf cE,.lf (.sl (.int .i64)),.lf .str,.lf (.int .u8),.lf cE,.lf cE]] 13 48 true false false))],2⟩⟩,⟨some 1,⟨[(2,.a (.ptr 0 0 0)),(3,.a (.ptr 1 0 0)),(6,vB),(7,vB),(8,vB),(9,vB)],[(0,some (.raw [[.lf (.sl .str),.lf (.sl qN),.lf (.int .i64),.lf (.int .i64),.lf (.int .i64)]] 5 27 true false false)),(1,some (.raw [[.lf (.int .u8),.lf .str,.lf (.sl (.int .i64)),.lf (.int .i64),.lf (.int .i64),.lf (.int .i64),.lf (.int .i64),.lf cE,.lf (.sl (.int .i64)),.lf .str,.lf (.int .u8),.lf cE,.lf cE]] 13 48 true false false))],2⟩⟩] (fun n x=>qq k n x.1 x.2.1 x.2.2.1 x.2.2.2.1 x.2.2.2.2.1 x.2.2.2.2.2.1 x.2.2.2.2.2.2.1 x.2.2.2.2.2.2.2.1 x.2.2.2.2.2.2.2.2.1 x.2.2.2.2.2.2.2.2.2.1 x.2.2.2.2.2.2.2.2.2.2.1 x.2.2.2.2.2.2.2.2.2.2.2.1 x.2.2.2.2.2.2.2.2.2.2.2.2.1 x.2.2.2.2.2.2.2.2.2.2.2.2.2.1 x.2.2.2.2.2.2.2.2.2.2.2.2.2.2.1 x.2.2.2.2.2.2.2.2.2.2.2.2.2.2.2.1 x.2.2.2.2.2.2.2.2.2.2.2.2.2.2.2.2.1 x.2.2.2.2.2.2.2.2.2.2.2.2.2.2.2.2.2.1 x.2.2.2.2.2.2.2.2.2.2.2.2.2.2.2.2.2.2.1 x.2.2.2.2.2.2.2.2.2.2.2.2.2.2.2.2.2.2.2.1 x.2.2.2.2.2.2.2.2.2.2.2.2.2.2.2.2.2.2.2.2.1 x.2.2.2.2.2.2.2.2.2.2.2.2.2.2.2.2.2.2.2.2.2.1 x.2.2.2.2.2.2.2.2.2.2.2.2.2.2.2.2.2.2.2.2.2.2.1 x.2.2.2.2.2.2.2.2.2.2.2.2.2.2.2.2.2.2.2.2.2.2.2) k
theorem qy4 (k:Nat):LIo 68 Tryz.f68 0 k (qy3 k):=
 lpk [] (quw k) l0 (fun _=>rfl) (by kernel_rfl) fun n x=>by kernel_rfl
theorem qAT:∀k,qe (call cf k) (qy2 k):=
 fnk 0 [1] Tryz.func68 (fun k=>(quw k)) (fun k=>(lc (qy4 k) l0)) ⟨rfl,rfl,⟨rfl,Nat.le_of_ble_eq_true rfl⟩,rfl⟩ (fun _=>rfl) (by kernel_rfl) fun k x=>by kernel_rfl

def qbw (k:Nat) (rec:ByteArray→List ByteArray→Int→Option ((Bool) ⊕ (Unit))) (s:ByteArray) (l:List ByteArray) (i:Int):Option ((Bool) ⊕ (Unit)):=
 if((decide (i<(((List.length l):Nat):Int)))=true)then
 if((0:Int)≤i)then
 Option.bind (l)[(Int.toNat i)]? fun x2=>
 if(((Array.toList (ByteArray.data x2)) == (Array.toList (ByteArray.data s)))=true)then
 (some (Sum.inl true))
 else
 rec s l (IntKind.wrap .i64 (i+(1:Int)))
 else
 none
 else
 (some (Sum.inr ()))
def qaz (k n:Nat):ByteArray→List ByteArray→Int→Option ((Bool) ⊕ (Unit)):=Nat.rec (fun _ _ _=>none) (fun _ r=>qbw k r) n
def qga (k:Nat) (s:ByteArray) (l:List ByteArray):Option (Bool):=
 Option.bind (qaz k k s l (0:Int)) fun r6=>
 qc r6
 (fun r6=>
 (some r6))
 (fun r6=>
 (some false))
def qdE:Nat→ByteArray→List ByteArray→Option (Bool)
 | 0,_,_=>none
 | k+1,s,l=>qga k s l
def qy5:Nat→Inst:=mkI 127 ⟨[vS,vR],[]⟩ [⟨[vB],[]⟩] fun k x=>qdE k x.1 x.2
def qy6 (k:Nat):LInst:=mkL 0 [⟨[(0,vS),(1,vR),(5,vI)],[],0⟩] [⟨none,⟨[(4,vB)],[],0⟩⟩,⟨some 0,⟨[],[],0⟩⟩] (fun n x=>qaz k n x.1 x.2.1 x.2.2) k
theorem qy7 (k:Nat):LIo 127 Tryz.f127 0 k (qy6 k):=
 lpk [] a0 l0 (fun _=>rfl) (by kernel_rfl) fun n x=>by kernel_rfl
theorem qAU:∀k,qe (call cf k) (qy5 k):=
 fnk 0 [0] Tryz.func127 (fun k=>a0) (fun k=>(lc (qy7 k) l0)) ⟨rfl,rfl,⟨rfl,Nat.le_of_ble_eq_true rfl⟩,rfl⟩ (fun _=>rfl) (by kernel_rfl) fun k x=>by kernel_rfl

def qa6 (k:Nat) (rec:List ByteArray→Int→Option ((Bool) ⊕ (Unit))) (l:List ByteArray) (i:Int):Option ((Bool) ⊕ (Unit)):=
 if((decide (i<(((List.length l):Nat):Int)))=true)then
 if((0:Int)≤i)then
 Option.bind (l)[(Int.toNat i)]? fun x1=>
 if(((0:Int)≤(0:Int))∧(((0:Int)≤i)∧(i≤(((List.length l):Nat):Int))))then
 Option.bind (qdE k x1 (List.take (Int.toNat i) l)) fun r6=>
 if(r6=true)then
 (some (Sum.inl true))
 else
 rec l (IntKind.wrap .i64 (i+(1:Int)))
 else
 none
 else
 none
 else
 (some (Sum.inr ()))
def qak (k n:Nat):List ByteArray→Int→Option ((Bool) ⊕ (Unit)):=Nat.rec (fun _ _=>none) (fun _ r=>qa6 k r) n
def qfD (k:Nat) (l:List ByteArray):Option (Bool):=
 Option.bind (qak k k l (0:Int)) fun r6=>
 qc r6
 (fun r6=>
 (some r6))
 (fun r6=>
 (some false))
def qbX:Nat→List ByteArray→Option (Bool)
 | 0,_=>none
 | k+1,l=>qfD k l
def qy8:Nat→Inst:=mkI 70 ⟨[vR],[]⟩ [⟨[vB],[]⟩] fun k x=>qbX k x
theorem qux (k:Nat):qas (call cf k) [qy5 k]:=
 ac (qAU k) a0
def qy9 (k:Nat):LInst:=mkL 0 [⟨[(0,vR),(3,vI)],[],0⟩] [⟨none,⟨[(2,vB)],[],0⟩⟩,⟨some 0,⟨[],[],0⟩⟩] (fun n x=>qak k n x.1 x.2) k
theorem qza (k:Nat):LIo 70 Tryz.f70 0 k (qy9 k):=
 lpk [] (qux k) l0 (fun _=>rfl) (by kernel_rfl) fun n x=>by kernel_rfl
theorem qAV:∀k,qe (call cf k) (qy8 k):=
 fnk 0 [0] Tryz.func70 (fun k=>(qux k)) (fun k=>(lc (qza k) l0)) ⟨rfl,rfl,⟨rfl,Nat.le_of_ble_eq_true rfl⟩,rfl⟩ (fun _=>rfl) (by kernel_rfl) fun k x=>by kernel_rfl

def qeo (k:Nat) (kind:Int):Option (Bool):=
 if((kind == (118:Int))=false)then
 if((kind == (101:Int))=false)then
 if((kind == (104:Int))=false)then
 if((kind == (99:Int))=false)then
 if((kind == (108:Int))=false)then
 (some (kind == (116:Int)))
 else
 (some true)
 else
 (some true)
 else
 (some true)
 else
 (some true)
 else
 (some true)
def qdn:Nat→Int→Option (Bool)
 | 0,_=>none
 | k+1,kind=>qeo k kind
def qzb:Nat→Inst:=mkI 128 ⟨[.a (.lf (.int .u8))],[]⟩ [⟨[vB],[]⟩] fun k x=>qdn k x
theorem qAW:∀k,qe (call cf k) (qzb k):=
 fnk 0 [] Tryz.func128 (fun k=>a0) (fun k=>l0) ⟨rfl,rfl,⟨rfl,Nat.le_of_ble_eq_true rfl⟩,rfl⟩ (fun _=>rfl) (by kernel_rfl) fun k x=>by kernel_rfl

def qcq (k:Nat) (rec:Int→Nat→Int→List ByteArray→List DvT→Int→Int→Int→List Int→Option (Int×Nat×List ByteArray×List DvT×Int×Int×Int×List Int)) (n:Int) (b:Nat) (i:Int) (f0:List ByteArray) (f1:List DvT) (f2:Int) (f3:Int) (f4:Int) (bs:List Int):Option (Int×Nat×List ByteArray×List DvT×Int×Int×Int×List Int):=
 if((decide (i<(((List.length f1):Nat):Int)))=true)then
 if((0:Int)≤i)then
 Option.bind (f1)[(Int.toNat i)]? fun x1=>
 Option.bind (qdn k x1.1) fun r8=>
 if(r8=true)then
 if(b≤(List.length bs))then
 if(((b+(List.length (List.take 1 (n:: []))))*8)≤140737488355328)then
 rec (IntKind.wrap .i64 (n+(1:Int))) (b+(List.length (List.take 1 (n:: [])))) (IntKind.wrap .i64 (i+(1:Int))) f0 f1 f2 f3 f4 ((List.take b bs)++(List.take 1 (n:: [])))
 else
 none
 else
 none
 else
 if(b≤(List.length bs))then
 if(((b+1)*8)≤140737488355328)then
 rec n (b+1) (IntKind.wrap .i64 (i+(1:Int))) f0 f1 f2 f3 f4 ((List.take b bs)++(List.take 1 ((-(1:Int)):: [])))
 else
 none
 else
 none
 else
 none
 else
 (some (n,b,f0,f1,f2,f3,f4,bs))
def qbx (k n:Nat):Int→Nat→Int→List ByteArray→List DvT→Int→Int→Int→List Int→Option (Int×Nat×List ByteArray×List DvT×Int×Int×Int×List Int):=Nat.rec (fun _ _ _ _ _ _ _ _ _=>none) (fun _ r=>qcq k r) n
def qfE (k:Nat) (f0:List ByteArray) (f1:List DvT) (f2:Int) (f3:Int) (f4:Int):Option (Int×List Int):=
 Option.bind (qbx k k (IntKind.wrap .i64 ((((List.length f0):Nat):Int)-(1:Int))) 0 (0:Int) f0 f1 f2 f3 f4 []) fun r8=>
 if((0+r8.2.1)≤(List.length r8.2.2.2.2.2.2.2))then
 (some (r8.1,(List.take r8.2.1 r8.2.2.2.2.2.2.2)))
 else
 none
def qct:Nat→List ByteArray→List DvT→Int→Int→Int→Option (Int×List Int)
 | 0,_,_,_,_,_=>none
 | k+1,f0,f1,f2,f3,f4=>qfE k f0 f1 f2 f3 f4
def qta:Nat→Inst:=mkI 71 ⟨[.g [.lf (.sl .str),.lf (.sl qN),.lf (.int .i64),.lf (.int .i64),.lf (.int .i64)]],[]⟩ [⟨[vI,vJ],[]⟩] fun k x=>qct k x.1 x.2.1 x.2.2.1 x.2.2.2.1 x.2.2.2.2
theorem quy (k:Nat):qas (call cf k) [qzb k]:=
 ac (qAW k) a0
def qzc (k:Nat):LInst:=mkL 0 [⟨[(1,.a (.ptr 0 0 0)),(4,vI),(5,.a (.smz 1)),(6,vI)],[(0,some (.raw [[.lf (.sl .str),.lf (.sl qN),.lf (.int .i64),.lf (.int .i64),.lf (.int .i64)]] 5 27 true false false)),(1,some (.arr (.int .i64) 1 3 false))],2⟩] [⟨some 0,⟨[(4,vI),(5,.a (.smz 1))],[(0,some (.raw [[.lf (.sl .str),.lf (.sl qN),.lf (.int .i64),.lf (.int .i64),.lf (.int .i64)]] 5 27 true false false)),(1,some (.arr (.int .i64) 1 3 false))],2⟩⟩] (fun n x=>qbx k n x.1 x.2.1 x.2.2.1 x.2.2.2.1 x.2.2.2.2.1 x.2.2.2.2.2.1 x.2.2.2.2.2.2.1 x.2.2.2.2.2.2.2.1 x.2.2.2.2.2.2.2.2) k
theorem qzd (k:Nat):LIo 71 Tryz.f71 0 k (qzc k):=
 lpk [] (quy k) l0 (fun _=>rfl) (by kernel_rfl) fun n x=>by kernel_rfl
theorem quz:∀k,qe (call cf k) (qta k):=
 fnk 0 [0] Tryz.func71 (fun k=>(quy k)) (fun k=>(lc (qzd k) l0)) ⟨rfl,rfl,⟨rfl,Nat.le_of_ble_eq_true rfl⟩,rfl⟩ (fun _=>rfl) (by kernel_rfl) fun k x=>by kernel_rfl

def qa7 (k:Nat) (rec:Nat→Int→List ByteArray→List DvT→Int→Int→Int→List ByteArray→Option ((Int×List ByteArray×List DvT×Int×Int×Int×List ByteArray) ⊕ (Nat×List ByteArray×List DvT×Int×Int×Int×List ByteArray))) (qbz:Nat) (i:Int) (f0:List ByteArray) (f1:List DvT) (f2:Int) (f3:Int) (f4:Int) (namess:List ByteArray):Option ((Int×List ByteArray×List DvT×Int×Int×Int×List ByteArray) ⊕ (Nat×List ByteArray×List DvT×Int×Int×Int×List ByteArray)):=
 if((decide (i<(((List.length f1):Nat):Int)))=true)then
 if((0:Int)≤i)then
 Option.bind (f1)[(Int.toNat i)]? fun x1=>
 Option.bind (qdj k f0 f1 f2 f3 f4 x1.1 x1.2.1 x1.2.2.1 x1.2.2.2.1 x1.2.2.2.2.1.1 x1.2.2.2.2.1.2 x1.2.2.2.2.2.1.1 x1.2.2.2.2.2.1.2.1 x1.2.2.2.2.2.1.2.2 x1.2.2.2.2.2.2.1 x1.2.2.2.2.2.2.2.1 x1.2.2.2.2.2.2.2.2.1 x1.2.2.2.2.2.2.2.2.2) fun r4=>
 if((!r4)=true)then
 (some (Sum.inl ((90:Int),f0,f1,f2,f3,f4,namess)))
 else
 if((0:Int)≤i)then
 Option.bind (f1)[(Int.toNat i)]? fun x2=>
 if(qbz≤(List.length namess))then
 if(((qbz+(List.length (List.take 1 (x2.2.1:: []))))*16)≤140737488355328)then
 rec (qbz+(List.length (List.take 1 (x2.2.1:: [])))) (IntKind.wrap .i64 (i+(1:Int))) f0 f1 f2 f3 f4 ((List.take qbz namess)++(List.take 1 (x2.2.1:: [])))
 else
 none
 else
 none
 else
 none
 else
 none
 else
 (some (Sum.inr (qbz,f0,f1,f2,f3,f4,namess)))
def qal (k n:Nat):Nat→Int→List ByteArray→List DvT→Int→Int→Int→List ByteArray→Option ((Int×List ByteArray×List DvT×Int×Int×Int×List ByteArray) ⊕ (Nat×List ByteArray×List DvT×Int×Int×Int×List ByteArray)):=Nat.rec (fun _ _ _ _ _ _ _ _=>none) (fun _ r=>qa7 k r) n
def qa8 (k:Nat) (rec:Nat→Int→List ByteArray→List DvT→Int→Int→Int→List ByteArray→Option ((Int×List ByteArray×List DvT×Int×Int×Int×List ByteArray) ⊕ (Nat×List ByteArray×List DvT×Int×Int×Int×List ByteArray))) (qbz:Nat) (i:Int) (f0:List ByteArray) (f1:List DvT) (f2:Int) (f3:Int) (f4:Int) (namess:List ByteArray):Option ((Int×List ByteArray×List DvT×Int×Int×Int×List ByteArray) ⊕ (Nat×List ByteArray×List DvT×Int×Int×Int×List ByteArray)):=
 if((decide (i<(((List.length f0):Nat):Int)))=true)then
 if((0:Int)≤i)then
 Option.bind (f0)[(Int.toNat i)]? fun x1=>
 Option.bind (qC k x1) fun r5=>
 if((!r5)=true)then
 (some (Sum.inl ((90:Int),f0,f1,f2,f3,f4,namess)))
 else
 rec qbz (IntKind.wrap .i64 (i+(1:Int))) f0 f1 f2 f3 f4 namess
 else
 none
 else
 (some (Sum.inr (qbz,f0,f1,f2,f3,f4,namess)))
def qM (k n:Nat):Nat→Int→List ByteArray→List DvT→Int→Int→Int→List ByteArray→Option ((Int×List ByteArray×List DvT×Int×Int×Int×List ByteArray) ⊕ (Nat×List ByteArray×List DvT×Int×Int×Int×List ByteArray)):=Nat.rec (fun _ _ _ _ _ _ _ _=>none) (fun _ r=>qa8 k r) n
def qfF (k:Nat) (f0:List ByteArray) (f1:List DvT) (f2:Int) (f3:Int) (f4:Int):Option (Int):=
 Option.bind (qaF k f2 f3) fun r3=>
 if((!r3)=false)then
 if((decide (f2<(1:Int)))=false)then
 if((decide (f4<(1:Int)))=false)then
 if((decide (f4>(2:Int)))=false)then
 if((decide ((((List.length f0):Nat):Int)<(1:Int)))=false)then
 if((decide ((((List.length f0):Nat):Int)>(32:Int)))=false)then
 if((decide ((((List.length f1):Nat):Int)>(64:Int)))=false)then
 Option.bind (f0)[0]? fun x=>
 if((!((Array.toList (ByteArray.data x)) == (Array.toList (ByteArray.data (ByteArray.mk (List.toArray (48:: [])))))))=true)then
 (some (90:Int))
 else
 Option.bind (qal k k 0 (0:Int) f0 f1 f2 f3 f4 []) fun r4=>
 qc r4
 (fun r4=>
 (some r4.1))
 (fun r4=>
 Option.bind (qM k k r4.1 (0:Int) r4.2.1 r4.2.2.1 r4.2.2.2.1 r4.2.2.2.2.1 r4.2.2.2.2.2.1 r4.2.2.2.2.2.2) fun r5=>
 qc r5
 (fun r5=>
 (some r5.1))
 (fun r5=>
 if((0+r5.1)≤(List.length r5.2.2.2.2.2.2))then
 Option.bind (qbX k (List.take r5.1 r5.2.2.2.2.2.2)) fun r6=>
 if(r6=false)then
 Option.bind (qbX k r5.2.1) fun r7=>
 if(r7=true)then
 (some (90:Int))
 else
 Option.bind (qct k r5.2.1 r5.2.2.1 r5.2.2.2.1 r5.2.2.2.2.1 r5.2.2.2.2.2.1) fun r8=>
 if((decide (r8.1>(48:Int)))=true)then
 (some (5:Int))
 else
 (some (0:Int))
 else
 (some (90:Int))
 else
 none))
 else
 (some (90:Int))
 else
 (some (90:Int))
 else
 (some (90:Int))
 else
 (some (90:Int))
 else
 (some (90:Int))
 else
 (some (90:Int))
 else
 (some (90:Int))
def qd0:Nat→List ByteArray→List DvT→Int→Int→Int→Option (Int)
 | 0,_,_,_,_,_=>none
 | k+1,f0,f1,f2,f3,f4=>qfF k f0 f1 f2 f3 f4
def qze:Nat→Inst:=mkI 24 ⟨[.g [.lf (.sl .str),.lf (.sl qN),.lf (.int .i64),.lf (.int .i64),.lf (.int .i64)]],[]⟩ [⟨[vI],[]⟩] fun k x=>qd0 k x.1 x.2.1 x.2.2.1 x.2.2.2.1 x.2.2.2.2
theorem qqd (k:Nat):qas (call cf k) [qnK k,qy2 k,qs9 k,qy8 k,qta k]:=
 ac (qmL k) (ac (qAT k) (ac (qur k) (ac (qAV k) (ac (quz k) a0))))
def qzf (k:Nat):LInst:=mkL 0 [⟨[(1,.a (.ptr 0 0 0)),(3,.a (.smz 1)),(4,vI)],[(0,some (.raw [[.lf (.sl .str),.lf (.sl qN),.lf (.int .i64),.lf (.int .i64),.lf (.int .i64)]] 5 27 true false false)),(1,some (.arr .str 1 9 false))],2⟩] [⟨none,⟨[(2,vI)],[(0,some (.raw [[.lf (.sl .str),.lf (.sl qN),.lf (.int .i64),.lf (.int .i64),.lf (.int .i64)]] 5 27 true false false)),(1,some (.arr .str 1 9 false))],2⟩⟩,⟨some 0,⟨[(1,.a (.ptr 0 0 0)),(3,.a (.smz 1))],[(0,some (.raw [[.lf (.sl .str),.lf (.sl qN),.lf (.int .i64),.lf (.int .i64),.lf (.int .i64)]] 5 27 true false false)),(1,some (.arr .str 1 9 false))],2⟩⟩] (fun n x=>qal k n x.1 x.2.1 x.2.2.1 x.2.2.2.1 x.2.2.2.2.1 x.2.2.2.2.2.1 x.2.2.2.2.2.2.1 x.2.2.2.2.2.2.2) k
theorem qrB (k:Nat):LIo 24 Tryz.f24 0 k (qzf k):=
 lpk [] (qqd k) l0 (fun _=>rfl) (by kernel_rfl) fun n x=>by kernel_rfl
def qzg (k:Nat):LInst:=mkL 2 [⟨[(1,.a (.ptr 0 0 0)),(3,.a (.smz 1)),(5,vI)],[(0,some (.raw [[.lf (.sl .str),.lf (.sl qN),.lf (.int .i64),.lf (.int .i64),.lf (.int .i64)]] 5 27 true false false)),(1,some (.arr .str 1 9 false))],2⟩] [⟨none,⟨[(2,vI)],[(0,some (.raw [[.lf (.sl .str),.lf (.sl qN),.lf (.int .i64),.lf (.int .i64),.lf (.int .i64)]] 5 27 true false false)),(1,some (.arr .str 1 9 false))],2⟩⟩,⟨some 2,⟨[(1,.a (.ptr 0 0 0)),(3,.a (.smz 1))],[(0,some (.raw [[.lf (.sl .str),.lf (.sl qN),.lf (.int .i64),.lf (.int .i64),.lf (.int .i64)]] 5 27 true false false)),(1,some (.arr .str 1 9 false))],2⟩⟩] (fun n x=>qM k n x.1 x.2.1 x.2.2.1 x.2.2.2.1 x.2.2.2.2.1 x.2.2.2.2.2.1 x.2.2.2.2.2.2.1 x.2.2.2.2.2.2.2) k
theorem qzh (k:Nat):LIo 24 Tryz.f24 0 k (qzg k):=
 lpk [] (qqd k) (lc (qrB k) l0) (fun _=>rfl) (by kernel_rfl) fun n x=>by kernel_rfl
theorem qAX:∀k,qe (call cf k) (qze k):=
 fnk 0 [0,2] Tryz.func24 (fun k=>(qqd k)) (fun k=>(lc (qrB k) (lc (qzh k) l0))) ⟨rfl,rfl,⟨rfl,Nat.le_of_ble_eq_true rfl⟩,rfl⟩ (fun _=>rfl) (by kernel_rfl) fun k x=>by kernel_rfl

def qcx (k:Nat) (rec:Nat→Int→List ByteArray→List DvT→Int→Int→Int→List Int→Option (Nat×List ByteArray×List DvT×Int×Int×Int×List Int)) (l:Nat) (i:Int) (f0:List ByteArray) (f1:List DvT) (f2:Int) (f3:Int) (f4:Int) (ls:List Int):Option (Nat×List ByteArray×List DvT×Int×Int×Int×List Int):=
 if((decide (i<(((List.length f1):Nat):Int)))=true)then
 if((0:Int)≤i)then
 Option.bind (f1)[(Int.toNat i)]? fun x=>
 if((x.1 == (100:Int))=false)then
 if((0:Int)≤i)then
 Option.bind (f1)[(Int.toNat i)]? fun x1=>
 if((x1.1 == (115:Int))=true)then
 if(l≤(List.length ls))then
 if(((l+(List.length (List.take 1 (i:: []))))*8)≤140737488355328)then
 rec (l+(List.length (List.take 1 (i:: [])))) (IntKind.wrap .i64 (i+(1:Int))) f0 f1 f2 f3 f4 ((List.take l ls)++(List.take 1 (i:: [])))
 else
 none
 else
 none
 else
 rec l (IntKind.wrap .i64 (i+(1:Int))) f0 f1 f2 f3 f4 ls
 else
 none
 else
 if(l≤(List.length ls))then
 if(((l+(List.length (List.take 1 (i:: []))))*8)≤140737488355328)then
 rec (l+(List.length (List.take 1 (i:: [])))) (IntKind.wrap .i64 (i+(1:Int))) f0 f1 f2 f3 f4 ((List.take l ls)++(List.take 1 (i:: [])))
 else
 none
 else
 none
 else
 none
 else
 (some (l,f0,f1,f2,f3,f4,ls))
def qbL (k n:Nat):Nat→Int→List ByteArray→List DvT→Int→Int→Int→List Int→Option (Nat×List ByteArray×List DvT×Int×Int×Int×List Int):=Nat.rec (fun _ _ _ _ _ _ _ _=>none) (fun _ r=>qcx k r) n
def qgb (k:Nat) (f0:List ByteArray) (f1:List DvT) (f2:Int) (f3:Int) (f4:Int):Option (List Int):=
 Option.bind (qbL k k 0 (0:Int) f0 f1 f2 f3 f4 []) fun r5=>
 if((0+r5.1)≤(List.length r5.2.2.2.2.2.2))then
 (some (List.take r5.1 r5.2.2.2.2.2.2))
 else
 none
def qep:Nat→List ByteArray→List DvT→Int→Int→Int→Option (List Int)
 | 0,_,_,_,_,_=>none
 | k+1,f0,f1,f2,f3,f4=>qgb k f0 f1 f2 f3 f4
def qzi:Nat→Inst:=mkI 80 ⟨[.g [.lf (.sl .str),.lf (.sl qN),.lf (.int .i64),.lf (.int .i64),.lf (.int .i64)]],[]⟩ [⟨[vJ],[]⟩] fun k x=>qep k x.1 x.2.1 x.2.2.1 x.2.2.2.1 x.2.2.2.2
def qzj (k:Nat):LInst:=mkL 0 [⟨[(1,.a (.ptr 0 0 0)),(3,.a (.smz 1)),(4,vI)],[(0,some (.raw [[.lf (.sl .str),.lf (.sl qN),.lf (.int .i64),.lf (.int .i64),.lf (.int .i64)]] 5 27 true false false)),(1,some (.arr (.int .i64) 1 3 false))],2⟩] [⟨some 0,⟨[(3,.a (.smz 1))],[(0,some (.raw [[.lf (.sl .str),.lf (.sl qN),.lf (.int .i64),.lf (.int .i64),.lf (.int .i64)]] 5 27 true false false)),(1,some (.arr (.int .i64) 1 3 false))],2⟩⟩] (fun n x=>qbL k n x.1 x.2.1 x.2.2.1 x.2.2.2.1 x.2.2.2.2.1 x.2.2.2.2.2.1 x.2.2.2.2.2.2.1 x.2.2.2.2.2.2.2) k
theorem qzk (k:Nat):LIo 80 Tryz.f80 0 k (qzj k):=
 lpk [] a0 l0 (fun _=>rfl) (by kernel_rfl) fun n x=>by kernel_rfl
theorem qAY:∀k,qe (call cf k) (qzi k):=
 fnk 0 [0] Tryz.func80 (fun k=>a0) (fun k=>(lc (qzk k) l0)) ⟨rfl,rfl,⟨rfl,Nat.le_of_ble_eq_true rfl⟩,rfl⟩ (fun _=>rfl) (by kernel_rfl) fun k x=>by kernel_rfl

def qaN (k:Nat) (rec:List Int→Int→Option ((Bool) ⊕ (Unit))) (l:List Int) (i:Int):Option ((Bool) ⊕ (Unit)):=
 if((decide (i<(((List.length l):Nat):Int)))=true)then
 if((0:Int)≤i)then
 Option.bind (l)[(Int.toNat i)]? fun x=>
 if((decide (x>(1000000000000000000:Int)))=false)then
 if((0:Int)≤i)then
 Option.bind (l)[(Int.toNat i)]? fun x1=>
 if((decide (x1<(-(1000000000000000000:Int))))=true)then
 (some (Sum.inl false))
 else
 rec l (IntKind.wrap .i64 (i+(1:Int)))
 else
 none
 else
 (some (Sum.inl false))
 else
 none
 else
 (some (Sum.inr ()))
def qab (k n:Nat):List Int→Int→Option ((Bool) ⊕ (Unit)):=Nat.rec (fun _ _=>none) (fun _ r=>qaN k r) n
def qe9 (k:Nat) (l:List Int):Option (Bool):=
 Option.bind (qab k k l (0:Int)) fun r6=>
 qc r6
 (fun r6=>
 (some r6))
 (fun r6=>
 (some true))
def qc0:Nat→List Int→Option (Bool)
 | 0,_=>none
 | k+1,l=>qe9 k l
def qzl:Nat→Inst:=mkI 81 ⟨[vJ],[]⟩ [⟨[vB],[]⟩] fun k x=>qc0 k x
def qzm (k:Nat):LInst:=mkL 0 [⟨[(0,vJ),(3,vI)],[],0⟩] [⟨none,⟨[(2,vB)],[],0⟩⟩,⟨some 0,⟨[],[],0⟩⟩] (fun n x=>qab k n x.1 x.2) k
theorem qzn (k:Nat):LIo 81 Tryz.f81 0 k (qzm k):=
 lpk [] a0 l0 (fun _=>rfl) (by kernel_rfl) fun n x=>by kernel_rfl
theorem qAZ:∀k,qe (call cf k) (qzl k):=
 fnk 0 [0] Tryz.func81 (fun k=>a0) (fun k=>(lc (qzn k) l0)) ⟨rfl,rfl,⟨rfl,Nat.le_of_ble_eq_true rfl⟩,rfl⟩ (fun _=>rfl) (by kernel_rfl) fun k x=>by kernel_rfl

def qj3 (k:Nat) (m0:ByteArray) (m1:Int) (m2:List (Int×Int)) (m3:List (Int×Int)) (k1:Int):Option (Int):=
 Option.bind (qh k m0 m1 m2 m3) fun r8=>
 if((!r8)=true)then
 (some (50:Int))
 else
 if((decide (k1<(0:Int)))=false)then
 if((decide (k1>(IntKind.wrap .i64 ((((List.length m2):Nat):Int)-(1:Int)))))=true)then
 (some (111:Int))
 else
 (some (0:Int))
 else
 (some (111:Int))
def qdk:Nat→ByteArray→Int→List (Int×Int)→List (Int×Int)→Int→Option (Int)
 | 0,_,_,_,_,_=>none
 | k+1,m0,m1,m2,m3,k1=>qj3 k m0 m1 m2 m3 k1
def qzo:Nat→Inst:=mkI 82 ⟨[.g [.lf .str,.lf (.int .u8),.lf cE,.lf cE],vI],[]⟩ [⟨[vI],[]⟩] fun k x=>qdk k x.1 x.2.1 x.2.2.1 x.2.2.2.1 x.2.2.2.2
theorem qA0:∀k,qe (call cf k) (qzo k):=
 fnk 0 [] Tryz.func82 (fun k=>(ac (quv k) a0)) (fun k=>l0) ⟨rfl,rfl,⟨rfl,Nat.le_of_ble_eq_true rfl⟩,rfl⟩ (fun _=>rfl) (by kernel_rfl) fun k x=>by kernel_rfl

def qa9 (k:Nat) (rec:List Int→Int→List ByteArray→List DvT→Int→Int→Int→Int→List Int→List Int→List Int→Option ((Int×List ByteArray×List DvT×Int×Int×Int×Int×List Int×List Int×List Int) ⊕ (List ByteArray×List DvT×Int×Int×Int×Int×List Int×List Int×List Int))) (bent:List Int) (i:Int) (f0:List ByteArray) (f1:List DvT) (f2:Int) (f3:Int) (f4:Int) (st0:Int) (st1:List Int) (st2:List Int) (st3:List Int):Option ((Int×List ByteArray×List DvT×Int×Int×Int×Int×List Int×List Int×List Int) ⊕ (List ByteArray×List DvT×Int×Int×Int×Int×List Int×List Int×List Int)):=
 if((decide (i<(((List.length bent):Nat):Int)))=true)then
 if((0:Int)≤i)then
 Option.bind (bent)[(Int.toNat i)]? fun x=>
 if((0:Int)≤x)then
 Option.bind (f1)[(Int.toNat x)]? fun x1=>
 if((0:Int)≤i)then
 Option.bind (st3)[(Int.toNat i)]? fun x2=>
 Option.bind (qdk k x1.2.2.2.2.2.2.1 x1.2.2.2.2.2.2.2.1 x1.2.2.2.2.2.2.2.2.1 x1.2.2.2.2.2.2.2.2.2 x2) fun r8=>
 if((r8 != (0:Int))=true)then
 (some (Sum.inl ((190:Int),f0,f1,f2,f3,f4,st0,st1,st2,st3)))
 else
 rec bent (IntKind.wrap .i64 (i+(1:Int))) f0 f1 f2 f3 f4 st0 st1 st2 st3
 else
 none
 else
 none
 else
 none
 else
 (some (Sum.inr (f0,f1,f2,f3,f4,st0,st1,st2,st3)))
def qV (k n:Nat):List Int→Int→List ByteArray→List DvT→Int→Int→Int→Int→List Int→List Int→List Int→Option ((Int×List ByteArray×List DvT×Int×Int×Int×Int×List Int×List Int×List Int) ⊕ (List ByteArray×List DvT×Int×Int×Int×Int×List Int×List Int×List Int)):=Nat.rec (fun _ _ _ _ _ _ _ _ _ _ _=>none) (fun _ r=>qa9 k r) n
def qfG (k:Nat) (f0:List ByteArray) (f1:List DvT) (f2:Int) (f3:Int) (f4:Int) (st0:Int) (st1:List Int) (st2:List Int) (st3:List Int):Option (Int):=
 Option.bind (qd0 k f0 f1 f2 f3 f4) fun r3=>
 if((r3 != (0:Int))=true)then
 (some r3)
 else
 Option.bind (qct k f0 f1 f2 f3 f4) fun r4=>
 Option.bind (qep k f0 f1 f2 f3 f4) fun r5=>
 if((decide (st0<(0:Int)))=false)then
 if((decide (st0>(1000000000:Int)))=false)then
 if(((((List.length st1):Nat):Int) != r4.1)=false)then
 if(((((List.length st2):Nat):Int) != (((List.length f1):Nat):Int))=false)then
 if(((((List.length st3):Nat):Int) != (((List.length r5):Nat):Int))=true)then
 (some (190:Int))
 else
 Option.bind (qc0 k st1) fun r6=>
 if((!r6)=false)then
 Option.bind (qc0 k st2) fun r7=>
 if((!r7)=true)then
 (some (190:Int))
 else
 Option.bind (qV k k r5 (0:Int) f0 f1 f2 f3 f4 st0 st1 st2 st3) fun r8=>
 qc r8
 (fun r8=>
 (some r8.1))
 (fun r8=>
 (some (0:Int)))
 else
 (some (190:Int))
 else
 (some (190:Int))
 else
 (some (190:Int))
 else
 (some (190:Int))
 else
 (some (190:Int))
def qd1:Nat→List ByteArray→List DvT→Int→Int→Int→Int→List Int→List Int→List Int→Option (Int)
 | 0,_,_,_,_,_,_,_,_,_=>none
 | k+1,f0,f1,f2,f3,f4,st0,st1,st2,st3=>qfG k f0 f1 f2 f3 f4 st0 st1 st2 st3
def qBU:Nat→Inst:=mkI 29 ⟨[.g [.lf (.sl .str),.lf (.sl qN),.lf (.int .i64),.lf (.int .i64),.lf (.int .i64)],.g [.lf (.int .i64),.lf (.sl (.int .i64)),.lf (.sl (.int .i64)),.lf (.sl (.int .i64))]],[]⟩ [⟨[vI],[]⟩] fun k x=>qd1 k x.1 x.2.1 x.2.2.1 x.2.2.2.1 x.2.2.2.2.1 x.2.2.2.2.2.1 x.2.2.2.2.2.2.1 x.2.2.2.2.2.2.2.1 x.2.2.2.2.2.2.2.2
theorem quA (k:Nat):qas (call cf k) [qze k,qta k,qzi k,qzl k,qzo k]:=
 ac (qAX k) (ac (quz k) (ac (qAY k) (ac (qAZ k) (ac (qA0 k) a0))))
def qzp (k:Nat):LInst:=mkL 0 [⟨[(2,.a (.ptr 0 0 0)),(3,.a (.ptr 1 0 0)),(8,vJ),(9,vI)],[(0,some (.raw [[.lf (.sl .str),.lf (.sl qN),.lf (.int .i64),.lf (.int .i64),.lf (.int .i64)]] 5 27 true false false)),(1,some (.raw [[.lf (.int .i64),.lf (.sl (.int .i64)),.lf (.sl (.int .i64)),.lf (.sl (.int .i64))]] 4 53 true false false))],2⟩] [⟨none,⟨[(4,vI)],[(0,some (.raw [[.lf (.sl .str),.lf (.sl qN),.lf (.int .i64),.lf (.int .i64),.lf (.int .i64)]] 5 27 true false false)),(1,some (.raw [[.lf (.int .i64),.lf (.sl (.int .i64)),.lf (.sl (.int .i64)),.lf (.sl (.int .i64))]] 4 53 true false false))],2⟩⟩,⟨some 0,⟨[],[(0,some (.raw [[.lf (.sl .str),.lf (.sl qN),.lf (.int .i64),.lf (.int .i64),.lf (.int .i64)]] 5 27 true false false)),(1,some (.raw [[.lf (.int .i64),.lf (.sl (.int .i64)),.lf (.sl (.int .i64)),.lf (.sl (.int .i64))]] 4 53 true false false))],2⟩⟩] (fun n x=>qV k n x.1 x.2.1 x.2.2.1 x.2.2.2.1 x.2.2.2.2.1 x.2.2.2.2.2.1 x.2.2.2.2.2.2.1 x.2.2.2.2.2.2.2.1 x.2.2.2.2.2.2.2.2.1 x.2.2.2.2.2.2.2.2.2.1 x.2.2.2.2.2.2.2.2.2.2) k
theorem qzq (k:Nat):LIo 29 Tryz.f29 0 k (qzp k):=
 lpk [] (quA k) l0 (fun _=>rfl) (by kernel_rfl) fun n x=>by kernel_rfl
theorem qA1:∀k,qe (call cf k) (qBU k):=
 fnk 0 [0] Tryz.func29 (fun k=>(quA k)) (fun k=>(lc (qzq k) l0)) ⟨rfl,rfl,⟨rfl,Nat.le_of_ble_eq_true rfl⟩,rfl⟩ (fun _=>rfl) (by kernel_rfl) fun k x=>by kernel_rfl

def qaV (k:Nat) (f0:List ByteArray) (f1:List DvT) (f2:Int) (f3:Int) (f4:Int) (st0:Int) (st1:List Int) (st2:List Int) (st3:List Int) (which:Int):Option (Bool):=
 Option.bind (qfu k) fun r=>
 if((!r)=true)then
 (some false)
 else
 Option.bind (qdZ k f0 f1 f2 f3 f4 st0 st1 st2 st3) fun r1=>
 if(r1=false)then
 Option.bind (qd1 k f0 f1 f2 f3 f4 st0 st1 st2 st3) fun r2=>
 if((r2 != (0:Int))=true)then
 (some true)
 else
 if((((List.length f0):Nat):Int)=(0:Int))then
 none
 else
 if((0:Int)≤(Int.tmod (IntKind.wrap .i64 (Int.tmod which (256:Int))) (((List.length f0):Nat):Int)))then
 Option.bind (f0)[(Int.toNat (Int.tmod (IntKind.wrap .i64 (Int.tmod which (256:Int))) (((List.length f0):Nat):Int)))]? fun x=>
 if((((List.length f0):Nat):Int)=(0:Int))then
 none
 else
 if((0:Int)≤(Int.tmod (IntKind.wrap .i64 (IntKind.wrap .u16 (Int.tdiv which (256:Int)))) (((List.length f0):Nat):Int)))then
 Option.bind (f0)[(Int.toNat (Int.tmod (IntKind.wrap .i64 (IntKind.wrap .u16 (Int.tdiv which (256:Int)))) (((List.length f0):Nat):Int)))]? fun x1=>
 if((((2+(ByteArray.size x)):Nat):Int)>(9223372036854775807:Int))then
 none
 else
 if(((((ByteArray.size ((ByteArray.mk (List.toArray (118::(40:: []))))++x))+1):Nat):Int)>(9223372036854775807:Int))then
 none
 else
 Option.bind (qbQ k f0 f1 f2 f3 f4 st0 st1 st2 st3 (((ByteArray.mk (List.toArray (118::(40:: []))))++x)++(ByteArray.mk (List.toArray (41:: []))))) fun r3=>
 if((((2+(ByteArray.size x1)):Nat):Int)>(9223372036854775807:Int))then
 none
 else
 if(((((ByteArray.size ((ByteArray.mk (List.toArray (118::(40:: []))))++x1))+1):Nat):Int)>(9223372036854775807:Int))then
 none
 else
 Option.bind (qbQ k f0 f1 f2 f3 f4 st0 st1 st2 st3 (((ByteArray.mk (List.toArray (118::(40:: []))))++x1)++(ByteArray.mk (List.toArray (41:: []))))) fun r4=>
 if((((2+(ByteArray.size x)):Nat):Int)>(9223372036854775807:Int))then
 none
 else
 if(((((ByteArray.size ((ByteArray.mk (List.toArray (118::(40:: []))))++x))+1):Nat):Int)>(9223372036854775807:Int))then
 none
 else
 if(((((ByteArray.size (((ByteArray.mk (List.toArray (118::(40:: []))))++x)++(ByteArray.mk (List.toArray (44:: [])))))+(ByteArray.size x1)):Nat):Int)>(9223372036854775807:Int))then
 none
 else
 if(((((ByteArray.size ((((ByteArray.mk (List.toArray (118::(40:: []))))++x)++(ByteArray.mk (List.toArray (44:: []))))++x1))+1):Nat):Int)>(9223372036854775807:Int))then
 none
 else
 Option.bind (qbQ k f0 f1 f2 f3 f4 st0 st1 st2 st3 (((((ByteArray.mk (List.toArray (118::(40:: []))))++x)++(ByteArray.mk (List.toArray (44:: []))))++x1)++(ByteArray.mk (List.toArray (41:: []))))) fun r5=>
 if((((2+(ByteArray.size x1)):Nat):Int)>(9223372036854775807:Int))then
 none
 else
 if(((((ByteArray.size ((ByteArray.mk (List.toArray (118::(40:: []))))++x1))+1):Nat):Int)>(9223372036854775807:Int))then
 none
 else
 if(((((ByteArray.size (((ByteArray.mk (List.toArray (118::(40:: []))))++x1)++(ByteArray.mk (List.toArray (44:: [])))))+(ByteArray.size x)):Nat):Int)>(9223372036854775807:Int))then
 none
 else
 if(((((ByteArray.size ((((ByteArray.mk (List.toArray (118::(40:: []))))++x1)++(ByteArray.mk (List.toArray (44:: []))))++x))+1):Nat):Int)>(9223372036854775807:Int))then
 none
 else
 Option.bind (qbQ k f0 f1 f2 f3 f4 st0 st1 st2 st3 (((((ByteArray.mk (List.toArray (118::(40:: []))))++x1)++(ByteArray.mk (List.toArray (44:: []))))++x)++(ByteArray.mk (List.toArray (41:: []))))) fun r6=>
 Option.bind (qbQ k f0 f1 f2 f3 f4 st0 st1 st2 st3 (ByteArray.mk (List.toArray (118::(40::(48::(41:: []))))))) fun r7=>
 if(((IntKind.wrap .i64 ((IntKind.wrap .i64 ((IntKind.wrap .i64 ((IntKind.wrap .i64 (r3.2+r4.2))+r5.2))+r6.2))+r7.2)) == (0:Int))=true)then
 if((r5.1 == (IntKind.wrap .i64 (r3.1-r4.1)))=true)then
 if((r6.1 == (IntKind.wrap .i64 ((0:Int)-r5.1)))=true)then
 (some (r7.1 == (0:Int)))
 else
 (some false)
 else
 (some false)
 else
 (some false)
 else
 none
 else
 none
 else
 (some true)
def qam:Nat→List ByteArray→List DvT→Int→Int→Int→Int→List Int→List Int→List Int→Int→Option (Bool)
 | 0,_,_,_,_,_,_,_,_,_,_=>none
 | k+1,f0,f1,f2,f3,f4,st0,st1,st2,st3,which=>qaV k f0 f1 f2 f3 f4 st0 st1 st2 st3 which
def qBV:Nat→Inst:=mkI 6 ⟨[.g [.lf (.sl .str),.lf (.sl qN),.lf (.int .i64),.lf (.int .i64),.lf (.int .i64)],.g [.lf (.int .i64),.lf (.sl (.int .i64)),.lf (.sl (.int .i64)),.lf (.sl (.int .i64))],.a (.lf (.int .u16))],[]⟩ [⟨[vB],[]⟩] fun k x=>qam k x.1 x.2.1 x.2.2.1 x.2.2.2.1 x.2.2.2.2.1 x.2.2.2.2.2.1 x.2.2.2.2.2.2.1 x.2.2.2.2.2.2.2.1 x.2.2.2.2.2.2.2.2.1 x.2.2.2.2.2.2.2.2.2
theorem qA2:∀k,qe (call cf k) (qBV k):=
 fnk 0 [] Tryz.func6 (fun k=>(ac (qAB k) (ac (qAJ k) (ac (qA1 k) (ac (qua k) a0))))) (fun k=>l0) ⟨rfl,rfl,⟨rfl,Nat.le_of_ble_eq_true rfl⟩,rfl⟩ (fun _=>rfl) (by kernel_rfl) fun k x=>by kernel_rfl


end
end Go.Proofs.YtlnailgfialgnaaGreatDoor.Am
