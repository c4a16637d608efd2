/- Printed functions: each says what the typed machine says of the program -/
import Derived.Test.YtlnailgfialgnaaGreatDoorMA3
import Derived.KernelRfl

set_option linter.unusedVariables false
set_option maxRecDepth 100000
namespace Go.Proofs.YtlnailgfialgnaaGreatDoor.Am
theorem qT:True:=True.intro
theorem qA {a b:Prop} (h:a) (k:b):a∧b:=And.intro h k
open Go
noncomputable section
abbrev DvT:Type:=Int×ByteArray×List Int×Int×(Int×Int)×(Int×List (Int×Int)×List Int)×ByteArray×Int×List (Int×Int)×List (Int×Int)
abbrev qF:Cd:= .pr (.int .u8) (.pr .str (.pr (.sl (.int .i64)) (.pr (.int .i64) (.pr (.pr (.int .i64) (.int .i64)) (.pr (.pr (.int .i64) (.pr (.sl (.pr (.int .i64) (.int .i64))) (.sl (.int .i64)))) (.pr .str (.pr (.int .u8) (.pr (.sl (.pr (.int .i64) (.int .i64))) (.sl (.pr (.int .i64) (.int .i64)))))))))))

def qfi (k:Nat) (rec:List Int→Int→Option (List Int×Int)) (w:List Int) (n:Int):Option (List Int×Int):=
 if((decide (n>(0:Int)))=true)then
 if((0:Int)≤(IntKind.wrap .i64 (n-(1:Int))))then
 Option.bind (w)[(Int.toNat (IntKind.wrap .i64 (n-(1:Int))))]? fun x=>
 if((x == (0:Int))=true)then
 rec w (IntKind.wrap .i64 (n-(1:Int)))
 else
 (some (w,n))
 else
 none
 else
 (some (w,n))
def qf2 (k n:Nat):List Int→Int→Option (List Int×Int):=Nat.rec (fun _ _=>none) (fun _ r=>qfi k r) n
def qjJ (k:Nat) (w:List Int):Option (List Int):=
 Option.bind (qf2 k k w (((List.length w):Nat):Int)) fun r1=>
 if(((0:Int)≤(0:Int))∧(((0:Int)≤r1.2)∧(r1.2≤(((List.length r1.1):Nat):Int))))then
 (some (List.take (Int.toNat r1.2) r1.1))
 else
 none
def qdW:Nat→List Int→Option (List Int)
 | 0,_=>none
 | k+1,w=>qjJ k w
def qwD:Nat→Inst:=mkI 141 ⟨[vT],[]⟩ [⟨[vT],[]⟩] fun k x=>qdW k x
def qkv:SS:=⟨[(0,vT),(3,vI)],[],0⟩
def qwE (k:Nat):LInst:=mkL 0 [qkv] [⟨some 0,qkv⟩] (fun n x=>qf2 k n x.1 x.2) k
theorem qwF (k:Nat):LIo 141 Tryz.f141 0 k (qwE k):=
 lpk [] a0 l0 (fun _=>rfl) (by kernel_rfl) fun n x=>by kernel_rfl
theorem qlt:∀k,qe (call cf k) (qwD k):=
 fnk 0 [0] Tryz.func141 (fun k=>a0) (fun k=>(lc (qwF k) l0)) ⟨rfl,rfl,⟨rfl,Nat.le_of_ble_eq_true rfl⟩,rfl⟩ (fun _=>rfl) (by kernel_rfl) fun k x=>by kernel_rfl

def qgi (k:Nat) (neg:Bool) (w:List Int) (z:Bool):Option (Bool×List Int):=
 Option.bind (qdW k w) fun r1=>
 if(neg=true)then
 (some ((decide ((((List.length r1):Nat):Int)>(0:Int))),r1))
 else
 (some (false,r1))
def qbJ:Nat→Bool→List Int→Bool→Option (Bool×List Int)
 | 0,_,_,_=>none
 | k+1,neg,w,z=>qgi k neg w z
def Iq8:Nat→Inst:=mkI 198 ⟨[.a (.ptr 0 0 0),vB,vT],[.raw [[.lf .bool,.snil 1 106]] 2 147 true false false]⟩ [⟨[.a (.ptr 0 0 0)],[.raw [[.lf .bool,.lf cW]] 2 147 true false false]⟩] fun k x=>qbJ k x.1 x.2.1 x.2.2
theorem qqn:∀k,qe (call cf k) (Iq8 k):=
 fnk 1 [] Tryz.func198 (fun k=>(ac (qlt k) a0)) (fun k=>l0) ⟨rfl,rfl,⟨rfl,Nat.le_of_ble_eq_true rfl⟩,rfl⟩ (fun _=>rfl) (by kernel_rfl) fun k x=>by kernel_rfl

def qak (k:Nat) (rec:Nat→Int→Int→Int→List Int→Int→Int→List Int→Int→Int→Bool→Bool→List Int→Bool→List Int→List Int→Option (Nat×Int×Int×List Int×Int×Int×Bool×Bool×List Int×Bool×List Int×List Int)) (out1:Nat) (i:Int) (a:Int) (carry:Int) (x:List Int) (x1:Int) (x2:Int) (x3:List Int) (x4:Int) (x5:Int) (z:Bool) (x0:Bool) (x11:List Int) (y0:Bool) (y1:List Int) (outs:List Int):Option (Nat×Int×Int×List Int×Int×Int×Bool×Bool×List Int×Bool×List Int×List Int):=
 if((decide (x5<x4))=true)then
 if((0:Int)≤x5)then
 Option.bind (x3)[(Int.toNat x5)]? fun x6=>
 if(((0:Int)≤(IntKind.wrap .i64 (i+x5)))∧((IntKind.wrap .i64 (i+x5))<((out1:Nat):Int)))then
 Option.bind (outs)[(0+(Int.toNat (IntKind.wrap .i64 (i+x5))))]? fun x7=>
 if(((0:Int)≤(IntKind.wrap .i64 (i+x5)))∧((IntKind.wrap .i64 (i+x5))<((out1:Nat):Int)))then
 Option.bind (outs)[(0+(Int.toNat (IntKind.wrap .i64 (i+x5))))]? fun x8=>
 rec out1 i a (Int.fdiv (IntKind.wrap .u64 ((IntKind.wrap .u64 ((IntKind.wrap .u64 ((IntKind.wrap .u64 a)*(IntKind.wrap .u64 x6)))+(IntKind.wrap .u64 x7)))+carry)) (4294967296:Int)) x x1 x2 x3 x4 (IntKind.wrap .i64 (x5+(1:Int))) z x0 x11 y0 y1 (List.set outs (0+(Int.toNat (IntKind.wrap .i64 (i+x5)))) (IntKind.wrap .u32 (IntKind.wrap .u64 ((IntKind.wrap .u64 ((IntKind.wrap .u64 ((IntKind.wrap .u64 a)*(IntKind.wrap .u64 x6)))+(IntKind.wrap .u64 x7)))+carry))))
 else
 none
 else
 none
 else
 none
 else
 (some (out1,i,carry,x,x1,x2,z,x0,x11,y0,y1,outs))
def qag (k n:Nat):Nat→Int→Int→Int→List Int→Int→Int→List Int→Int→Int→Bool→Bool→List Int→Bool→List Int→List Int→Option (Nat×Int×Int×List Int×Int×Int×Bool×Bool×List Int×Bool×List Int×List Int):=Nat.rec (fun _ _ _ _ _ _ _ _ _ _ _ _ _ _ _ _=>none) (fun _ r=>qak k r) n
def qal (k:Nat) (rec:Nat→List Int→Int→Int→Bool→Bool→List Int→Bool→List Int→List Int→Option (Nat×Bool×Bool×List Int×Bool×List Int×List Int)) (out1:Nat) (x:List Int) (x1:Int) (x2:Int) (z:Bool) (x0:Bool) (x11:List Int) (y0:Bool) (y1:List Int) (outs:List Int):Option (Nat×Bool×Bool×List Int×Bool×List Int×List Int):=
 if((decide (x2<x1))=true)then
 if((0:Int)≤x2)then
 Option.bind (x)[(Int.toNat x2)]? fun x3=>
 Option.bind (qag k k out1 x2 x3 (0:Int) x x1 x2 y1 (((List.length y1):Nat):Int) (0:Int) z x0 x11 y0 y1 outs) fun r=>
 if(((0:Int)≤(IntKind.wrap .i64 (r.2.1+(((List.length r.2.2.2.2.2.2.2.2.2.2.1):Nat):Int))))∧((IntKind.wrap .i64 (r.2.1+(((List.length r.2.2.2.2.2.2.2.2.2.2.1):Nat):Int)))<((r.1:Nat):Int)))then
 Option.bind (r.2.2.2.2.2.2.2.2.2.2.2)[(0+(Int.toNat (IntKind.wrap .i64 (r.2.1+(((List.length r.2.2.2.2.2.2.2.2.2.2.1):Nat):Int)))))]? fun x4=>
 rec r.1 r.2.2.2.1 r.2.2.2.2.1 (IntKind.wrap .i64 (r.2.2.2.2.2.1+(1:Int))) r.2.2.2.2.2.2.1 r.2.2.2.2.2.2.2.1 r.2.2.2.2.2.2.2.2.1 r.2.2.2.2.2.2.2.2.2.1 r.2.2.2.2.2.2.2.2.2.2.1 (List.set r.2.2.2.2.2.2.2.2.2.2.2 (0+(Int.toNat (IntKind.wrap .i64 (r.2.1+(((List.length r.2.2.2.2.2.2.2.2.2.2.1):Nat):Int))))) (IntKind.wrap .u32 r.2.2.1))
 else
 none
 else
 none
 else
 (some (out1,z,x0,x11,y0,y1,outs))
def qR (k n:Nat):Nat→List Int→Int→Int→Bool→Bool→List Int→Bool→List Int→List Int→Option (Nat×Bool×Bool×List Int×Bool×List Int×List Int):=Nat.rec (fun _ _ _ _ _ _ _ _ _ _=>none) (fun _ r=>qal k r) n
def qdC (k:Nat) (z:Bool) (x0:Bool) (x1:List Int) (y0:Bool) (y1:List Int):Option (Bool×List Int×Bool×List Int×Bool×List Int):=
 if(((0:Int)≤(IntKind.wrap .i64 ((((List.length x1):Nat):Int)+(((List.length y1):Nat):Int))))∧(((IntKind.wrap .i64 ((((List.length x1):Nat):Int)+(((List.length y1):Nat):Int)))≤(IntKind.wrap .i64 ((((List.length x1):Nat):Int)+(((List.length y1):Nat):Int))))∧(((IntKind.wrap .i64 ((((List.length x1):Nat):Int)+(((List.length y1):Nat):Int)))*(4:Int))≤(140737488355328:Int))))then
 Option.bind (qR k k (Int.toNat (IntKind.wrap .i64 ((((List.length x1):Nat):Int)+(((List.length y1):Nat):Int)))) x1 (((List.length x1):Nat):Int) (0:Int) z x0 x1 y0 y1 (List.replicate (Int.toNat (IntKind.wrap .i64 ((((List.length x1):Nat):Int)+(((List.length y1):Nat):Int)))) (0:Int))) fun r=>
 if((0+r.1)≤(List.length r.2.2.2.2.2.2))then
 Option.bind (qbJ k (!(r.2.2.1 == r.2.2.2.2.1)) (List.take r.1 r.2.2.2.2.2.2) r.2.1) fun r1=>
 (some (r1.1,r1.2,r.2.2.1,r.2.2.2.1,r.2.2.2.2.1,r.2.2.2.2.2.1))
 else
 none
 else
 none
def qex:Nat→Bool→Bool→List Int→Bool→List Int→Option (Bool×List Int×Bool×List Int×Bool×List Int)
 | 0,_,_,_,_,_=>none
 | k+1,z,x0,x1,y0,y1=>qdC k z x0 x1 y0 y1
def Iq3:Nat→Inst:=mkI 155 ⟨[.a (.ptr 0 0 0),.a (.ptr 1 0 0),.a (.ptr 2 0 0)],[.raw [[.lf .bool,.snil 1 106]] 2 147 true false false,.raw [[.lf .bool,.lf cW]] 2 147 true false false,.raw [[.lf .bool,.lf cW]] 2 147 true false false]⟩ [⟨[.a (.ptr 0 0 0)],[.raw [[.lf .bool,.lf cW]] 2 147 true false false,.raw [[.lf .bool,.lf cW]] 2 147 true false false,.raw [[.lf .bool,.lf cW]] 2 147 true false false]⟩] fun k x=>qex k x.1 x.2.1 x.2.2.1 x.2.2.2.1 x.2.2.2.2
theorem qtp (k:Nat):qat (call cf k) [Iq8 k]:=
 ac (qqn k) a0
def qwG (k:Nat):LInst:=mkL 2 [⟨[(0,.a (.ptr 0 0 0)),(1,.a (.ptr 1 0 0)),(2,.a (.ptr 2 0 0)),(7,.a (.smz 3)),(8,vI),(9,.a (.lf (.int .u32))),(10,vU),(29,vT),(30,vI),(31,vI),(39,vT),(40,vI),(41,vI)],[(0,some (.raw [[.lf .bool,.snil 1 106]] 2 147 true false false)),(1,some (.raw [[.lf .bool,.lf cW]] 2 147 true false false)),(2,some (.raw [[.lf .bool,.lf cW]] 2 147 true false false)),(3,some (.arr (.int .u32) 1 106 false))],4⟩] [⟨some 2,⟨[(0,.a (.ptr 0 0 0)),(1,.a (.ptr 1 0 0)),(2,.a (.ptr 2 0 0)),(7,.a (.smz 3)),(8,vI),(10,vU),(29,vT),(30,vI),(31,vI)],[(0,some (.raw [[.lf .bool,.snil 1 106]] 2 147 true false false)),(1,some (.raw [[.lf .bool,.lf cW]] 2 147 true false false)),(2,some (.raw [[.lf .bool,.lf cW]] 2 147 true false false)),(3,some (.arr (.int .u32) 1 106 false))],4⟩⟩] (fun n x=>qag k n x.1 x.2.1 x.2.2.1 x.2.2.2.1 x.2.2.2.2.1 x.2.2.2.2.2.1 x.2.2.2.2.2.2.1 x.2.2.2.2.2.2.2.1 x.2.2.2.2.2.2.2.2.1 x.2.2.2.2.2.2.2.2.2.1 x.2.2.2.2.2.2.2.2.2.2.1 x.2.2.2.2.2.2.2.2.2.2.2.1 x.2.2.2.2.2.2.2.2.2.2.2.2.1 x.2.2.2.2.2.2.2.2.2.2.2.2.2.1 x.2.2.2.2.2.2.2.2.2.2.2.2.2.2.1 x.2.2.2.2.2.2.2.2.2.2.2.2.2.2.2) k
theorem qrI (k:Nat):LIo 155 Tryz.f155 3 k (qwG k):=
 lpk [] (qtp k) l0 (fun _=>rfl) (by kernel_rfl) fun n x=>by kernel_rfl
def qwH (k:Nat):LInst:=mkL 0 [⟨[(0,.a (.ptr 0 0 0)),(1,.a (.ptr 1 0 0)),(2,.a (.ptr 2 0 0)),(7,.a (.smz 3)),(29,vT),(30,vI),(31,vI)],[(0,some (.raw [[.lf .bool,.snil 1 106]] 2 147 true false false)),(1,some (.raw [[.lf .bool,.lf cW]] 2 147 true false false)),(2,some (.raw [[.lf .bool,.lf cW]] 2 147 true false false)),(3,some (.arr (.int .u32) 1 106 false))],4⟩] [⟨some 0,⟨[(0,.a (.ptr 0 0 0)),(1,.a (.ptr 1 0 0)),(2,.a (.ptr 2 0 0)),(7,.a (.smz 3))],[(0,some (.raw [[.lf .bool,.snil 1 106]] 2 147 true false false)),(1,some (.raw [[.lf .bool,.lf cW]] 2 147 true false false)),(2,some (.raw [[.lf .bool,.lf cW]] 2 147 true false false)),(3,some (.arr (.int .u32) 1 106 false))],4⟩⟩] (fun n x=>qR k n x.1 x.2.1 x.2.2.1 x.2.2.2.1 x.2.2.2.2.1 x.2.2.2.2.2.1 x.2.2.2.2.2.2.1 x.2.2.2.2.2.2.2.1 x.2.2.2.2.2.2.2.2.1 x.2.2.2.2.2.2.2.2.2) k
theorem qwI (k:Nat):LIo 155 Tryz.f155 3 k (qwH k):=
 lpk [2] (qtp k) (lc (qrI k) l0) (fun _=>rfl) (by kernel_rfl) fun n x=>by kernel_rfl
theorem qCK:∀k,qe (call cf k) (Iq3 k):=
 fnk 3 [0] Tryz.func155 (fun k=>(qtp k)) (fun k=>(lc (qrI k) (lc (qwI k) l0))) ⟨rfl,rfl,⟨rfl,Nat.le_of_ble_eq_true rfl⟩,rfl⟩ (fun _=>rfl) (by kernel_rfl) fun k x=>by kernel_rfl

def qju (k:Nat):Option (List ByteArray×List DvT×Int×Int×Int):=
 (some ((List.take 3 ((ByteArray.mk (List.toArray (48:: [])))::((ByteArray.mk (List.toArray (97:: [])))::((ByteArray.mk (List.toArray (120::(49::(46::(98:: [])))))):: [])))),(List.take 1 (((114:Int),((ByteArray.mk (List.toArray (120::(49::(46::(114::(49:: []))))))),((List.take 2 ((1:Int)::((2:Int):: []))),((0:Int),(((1:Int),(0:Int)),(((0:Int),(([]:List (Int×Int)),([]:List Int))),((ByteArray.mk (List.toArray [])),((0:Int),(([]:List (Int×Int)),([]:List (Int×Int))))))))))):: [])),(1:Int),(0:Int),(1:Int)))
def qe1:Nat→Option (List ByteArray×List DvT×Int×Int×Int)
 | 0=>none
 | k+1=>qju k
def qB1:Nat→Inst:=mkI 72 ⟨[],[]⟩ [⟨[.g [.lf (.sl .str),.lf (.sl qF),.lf (.int .i64),.lf (.int .i64),.lf (.int .i64)]],[]⟩] fun k x=>qe1 k
theorem qAA:∀k,qe (call cf k) (qB1 k):=
 fnk 0 [] Tryz.func72 (fun k=>a0) (fun k=>l0) ⟨rfl,rfl,⟨rfl,Nat.le_of_ble_eq_true rfl⟩,rfl⟩ (fun _=>rfl) (by kernel_rfl) fun k x=>by kernel_rfl

def qi7 (k:Nat) (n0:Int) (n1:Int):Option (Bool):=
 if((n0 == (0:Int))=true)then
 (some (n1 == (0:Int)))
 else
 if((decide (n0≥(-(999999999:Int))))=true)then
 if((decide (n0≤(999999999:Int)))=true)then
 if(((Int.tmod n0 (10:Int)) != (0:Int))=true)then
 if((decide (n1≥(-(18:Int))))=true)then
 (some (decide (n1≤(9:Int))))
 else
 (some false)
 else
 (some false)
 else
 (some false)
 else
 (some false)
def qad:Nat→Int→Int→Option (Bool)
 | 0,_,_=>none
 | k+1,n0,n1=>qi7 k n0 n1
def qnZ:Nat→Inst:=mkI 118 ⟨[.g [.lf (.int .i64),.lf (.int .i64)]],[]⟩ [⟨[vB],[]⟩] fun k x=>qad k x.1 x.2
theorem qlu:∀k,qe (call cf k) (qnZ k):=
 fnk 0 [] Tryz.func118 (fun k=>a0) (fun k=>l0) ⟨rfl,rfl,⟨rfl,Nat.le_of_ble_eq_true rfl⟩,rfl⟩ (fun _=>rfl) (by kernel_rfl) fun k x=>by kernel_rfl

def qem (k:Nat) (rec:List ByteArray→List ByteArray→Int→Int→List (ByteArray×Int)→Option (List ByteArray×List (ByteArray×Int))) (l:List ByteArray) (x:List ByteArray) (x1:Int) (x2:Int) (seens:List (ByteArray×Int)):Option (List ByteArray×List (ByteArray×Int)):=
 if((decide (x2<x1))=true)then
 if((0:Int)≤x2)then
 Option.bind (x)[(Int.toNat x2)]? fun x3=>
 rec l x x1 (IntKind.wrap .i64 (x2+(1:Int))) (qas .str (.int .i64) seens x3 (IntKind.wrap .i64 ((qhB .str (.int .i64) seens x3 (0:Int))+(1:Int))))
 else
 none
 else
 (some (l,seens))
def qdh (k n:Nat):List ByteArray→List ByteArray→Int→Int→List (ByteArray×Int)→Option (List ByteArray×List (ByteArray×Int)):=Nat.rec (fun _ _ _ _ _=>none) (fun _ r=>qem k r) n
def qit (k:Nat) (l:List ByteArray):Option (Bool):=
 Option.bind (qdh k k l l (((List.length l):Nat):Int) (0:Int) []) fun r2=>
 (some ((((List.length r2.2):Nat):Int) != (((List.length r2.1):Nat):Int)))
def qb9:Nat→List ByteArray→Option (Bool)
 | 0,_=>none
 | k+1,l=>qit k l
def qwJ:Nat→Inst:=mkI 183 ⟨[vR],[]⟩ [⟨[vB],[]⟩] fun k x=>qb9 k x
def qwK (k:Nat):LInst:=mkL 0 [⟨[(0,vR),(3,.a (.mp 0)),(7,vR),(8,vI),(9,vI)],[(0,some (.map .str (.int .i64) 261 false))],1⟩] [⟨some 0,⟨[(0,vR),(3,.a (.mp 0))],[(0,some (.map .str (.int .i64) 261 false))],1⟩⟩] (fun n x=>qdh k n x.1 x.2.1 x.2.2.1 x.2.2.2.1 x.2.2.2.2) k
theorem qwL (k:Nat):LIo 183 Tryz.f183 0 k (qwK k):=
 lpk [] a0 l0 (fun _=>rfl) (by kernel_rfl) fun n x=>by kernel_rfl
theorem qAB:∀k,qe (call cf k) (qwJ k):=
 fnk 0 [0] Tryz.func183 (fun k=>a0) (fun k=>(lc (qwL k) l0)) ⟨rfl,rfl,⟨rfl,Nat.le_of_ble_eq_true rfl⟩,rfl⟩ (fun _=>rfl) (by kernel_rfl) fun k x=>by kernel_rfl

def qgE (k:Nat) (s:ByteArray):Option (Empty):=
 none
def qdS:Nat→ByteArray→Option (Empty)
 | 0,_=>none
 | k+1,s=>qgE k s
def qAC:Nat→Inst:=mkI 237 ⟨[vS],[]⟩ [] fun k x=>qdS k x
theorem qwM:∀k,qe (call cf k) (qAC k):=
 fnk 0 [0] Tryz.func237 (fun k=>a0) (fun k=>l0) ⟨rfl,rfl,⟨rfl,Nat.le_of_ble_eq_true rfl⟩,rfl⟩ (fun _=>rfl) (by kernel_rfl) fun k x=>by kernel_rfl

def qkP (k:Nat) (s:ByteArray) (n:Int):Option (Empty):=
 Option.bind (qdS k s) fun r3=>
 nomatch r3
def qhY:Nat→ByteArray→Int→Option (Empty)
 | 0,_,_=>none
 | k+1,s,n=>qkP k s n
def qui:Nat→Inst:=mkI 228 ⟨[vS,vI],[]⟩ [] fun k x=>qhY k x.1 x.2
theorem qwN:∀k,qe (call cf k) (qui k):=
 fnk 0 [0] Tryz.func228 (fun k=>(ac (qwM k) a0)) (fun k=>l0) ⟨rfl,rfl,⟨rfl,Nat.le_of_ble_eq_true rfl⟩,rfl⟩ (fun _=>rfl) (by kernel_rfl) fun k x=>by kernel_rfl

def qg6 (k:Nat) (s:ByteArray) (substr:ByteArray):Option (Int):=
 if((List.length (Array.toList (ByteArray.data substr)))=1)then
 (some (qtj s substr))
 else
 none
def qdA:Nat→ByteArray→ByteArray→Option (Int)
 | 0,_,_=>none
 | k+1,s,substr=>qg6 k s substr
def qjK:FS:=⟨[vS,vS],[]⟩
def qlv:List FS:= [⟨[vI],[]⟩]
def quj (k:Nat):Inst:=⟨229,qjK,qlv,fun x=>qdA k x.1 x.2⟩
theorem qwO (k:Nat) (x:qjK.D):qdA (k+1) x.1 x.2=(qkh) (DS FS.D qlv) (qjK.enc x).1 (qjK.enc x).2 (qg5 FS.dec qlv):=by kernel_rfl
theorem qwP:∀k,qe (call cf k) (quj k)
 | 0=>fun x y e=>absurd (show(none:Option _)=some y from e) (by simp)
 | k+1=>qkN (c:=cf) (k:=k) (f:=229) (g:=qhQ) (G:=qkh) (sh:=qjK) (os:=qlv) rfl (qqm) (fun x=>qdA (k+1) x.1 x.2) (qwO k)

def qg7 (k:Nat) (s:ByteArray) (substr:ByteArray):Option (Int):=
 if((List.length (Array.toList (ByteArray.data substr)))=1)then
 (some (qti s substr))
 else
 none
def qdB:Nat→ByteArray→ByteArray→Option (Int)
 | 0,_,_=>none
 | k+1,s,substr=>qg7 k s substr
def qjL:FS:=⟨[vS,vS],[]⟩
def qlw:List FS:= [⟨[vI],[]⟩]
def quk (k:Nat):Inst:=⟨230,qjL,qlw,fun x=>qdB k x.1 x.2⟩
theorem qwQ (k:Nat) (x:qjL.D):qdB (k+1) x.1 x.2=(qkg) (DS FS.D qlw) (qjL.enc x).1 (qjL.enc x).2 (qg5 FS.dec qlw):=by kernel_rfl
theorem qwR:∀k,qe (call cf k) (quk k)
 | 0=>fun x y e=>absurd (show(none:Option _)=some y from e) (by simp)
 | k+1=>qkN (c:=cf) (k:=k) (f:=230) (g:=qhP) (G:=qkg) (sh:=qjL) (os:=qlw) rfl (qql) (fun x=>qdB (k+1) x.1 x.2) (qwQ k)

def qcr (k:Nat) (rec:ByteArray→ByteArray→Int→Int→Nat→Int→List ByteArray→Option (ByteArray×Nat×Int×List ByteArray)) (s:ByteArray) (sep:ByteArray) (sepSave:Int) (n:Int) (a:Nat) (i:Int) (as1:List ByteArray):Option (ByteArray×Nat×Int×List ByteArray):=
 if((decide (i<n))=true)then
 Option.bind (qdB k s sep) fun r4=>
 if((decide (r4<(0:Int)))=true)then
 (some (s,a,i,as1))
 else
 if(((0:Int)≤(0:Int))∧(((0:Int)≤(IntKind.wrap .i64 (r4+sepSave)))∧((IntKind.wrap .i64 (r4+sepSave))≤(((ByteArray.size s):Nat):Int))))then
 if(((0:Int)≤i)∧(i<((a:Nat):Int)))then
 Option.bind (as1)[(0+(Int.toNat i))]? fun x4=>
 if(((0:Int)≤(IntKind.wrap .i64 (r4+(((ByteArray.size sep):Nat):Int))))∧(((IntKind.wrap .i64 (r4+(((ByteArray.size sep):Nat):Int)))≤(((ByteArray.size s):Nat):Int))∧((((ByteArray.size s):Nat):Int)≤(((ByteArray.size s):Nat):Int))))then
 rec (ByteArray.extract s (Int.toNat (IntKind.wrap .i64 (r4+(((ByteArray.size sep):Nat):Int)))) (Int.toNat (((ByteArray.size s):Nat):Int))) sep sepSave n a (IntKind.wrap .i64 (i+(1:Int))) (List.set as1 (0+(Int.toNat i)) (ByteArray.extract s 0 (Int.toNat (IntKind.wrap .i64 (r4+sepSave)))))
 else
 none
 else
 none
 else
 none
 else
 (some (s,a,i,as1))
def qaE (k n:Nat):ByteArray→ByteArray→Int→Int→Nat→Int→List ByteArray→Option (ByteArray×Nat×Int×List ByteArray):=Nat.rec (fun _ _ _ _ _ _ _=>none) (fun _ r=>qcr k r) n
def qfI (k:Nat) (s:ByteArray) (sep:ByteArray) (sepSave:Int) (n:Int):Option (List ByteArray):=
 if((n == (0:Int))=true)then
 (some [])
 else
 if(((Array.toList (ByteArray.data sep)) == (Array.toList (ByteArray.data (ByteArray.mk (List.toArray [])))))=true)then
 Option.bind (qhY k s n) fun r3=>
 nomatch r3
 else
 if((decide (n<(0:Int)))=true)then
 Option.bind (qdA k s sep) fun r3=>
 if(((0:Int)≤(min (IntKind.wrap .i64 (r3+(1:Int))) (IntKind.wrap .i64 ((((ByteArray.size s):Nat):Int)+(1:Int)))))∧(((min (IntKind.wrap .i64 (r3+(1:Int))) (IntKind.wrap .i64 ((((ByteArray.size s):Nat):Int)+(1:Int))))≤(min (IntKind.wrap .i64 (r3+(1:Int))) (IntKind.wrap .i64 ((((ByteArray.size s):Nat):Int)+(1:Int)))))∧(((min (IntKind.wrap .i64 (r3+(1:Int))) (IntKind.wrap .i64 ((((ByteArray.size s):Nat):Int)+(1:Int))))*(16:Int))≤(140737488355328:Int))))then
 Option.bind (qaE k k s sep sepSave (IntKind.wrap .i64 ((min (IntKind.wrap .i64 (r3+(1:Int))) (IntKind.wrap .i64 ((((ByteArray.size s):Nat):Int)+(1:Int))))-(1:Int))) (Int.toNat (min (IntKind.wrap .i64 (r3+(1:Int))) (IntKind.wrap .i64 ((((ByteArray.size s):Nat):Int)+(1:Int))))) (0:Int) (List.replicate (Int.toNat (min (IntKind.wrap .i64 (r3+(1:Int))) (IntKind.wrap .i64 ((((ByteArray.size s):Nat):Int)+(1:Int))))) (ByteArray.mk (List.toArray [])))) fun r4=>
 if(((0:Int)≤r4.2.2.1)∧(r4.2.2.1<((r4.2.1:Nat):Int)))then
 Option.bind (r4.2.2.2)[(0+(Int.toNat r4.2.2.1))]? fun x4=>
 if(((0:Int)≤(0:Int))∧(((0:Int)≤(IntKind.wrap .i64 (r4.2.2.1+(1:Int))))∧(((0+(Int.toNat (IntKind.wrap .i64 (r4.2.2.1+(1:Int)))))≤(List.length (List.set r4.2.2.2 (0+(Int.toNat r4.2.2.1)) r4.1)))∧(((0:Int)<(IntKind.wrap .i64 (r4.2.2.1+(1:Int))))∨(true=true)))))then
 if((0+(Int.toNat (IntKind.wrap .i64 (r4.2.2.1+(1:Int)))))≤(List.length (List.set r4.2.2.2 (0+(Int.toNat r4.2.2.1)) r4.1)))then
 (some (List.take (Int.toNat (IntKind.wrap .i64 (r4.2.2.1+(1:Int)))) (List.set r4.2.2.2 (0+(Int.toNat r4.2.2.1)) r4.1)))
 else
 none
 else
 none
 else
 none
 else
 none
 else
 if(((0:Int)≤(min n (IntKind.wrap .i64 ((((ByteArray.size s):Nat):Int)+(1:Int)))))∧(((min n (IntKind.wrap .i64 ((((ByteArray.size s):Nat):Int)+(1:Int))))≤(min n (IntKind.wrap .i64 ((((ByteArray.size s):Nat):Int)+(1:Int)))))∧(((min n (IntKind.wrap .i64 ((((ByteArray.size s):Nat):Int)+(1:Int))))*(16:Int))≤(140737488355328:Int))))then
 Option.bind (qaE k k s sep sepSave (IntKind.wrap .i64 ((min n (IntKind.wrap .i64 ((((ByteArray.size s):Nat):Int)+(1:Int))))-(1:Int))) (Int.toNat (min n (IntKind.wrap .i64 ((((ByteArray.size s):Nat):Int)+(1:Int))))) (0:Int) (List.replicate (Int.toNat (min n (IntKind.wrap .i64 ((((ByteArray.size s):Nat):Int)+(1:Int))))) (ByteArray.mk (List.toArray [])))) fun r3=>
 if(((0:Int)≤r3.2.2.1)∧(r3.2.2.1<((r3.2.1:Nat):Int)))then
 Option.bind (r3.2.2.2)[(0+(Int.toNat r3.2.2.1))]? fun x4=>
 if(((0:Int)≤(0:Int))∧(((0:Int)≤(IntKind.wrap .i64 (r3.2.2.1+(1:Int))))∧(((0+(Int.toNat (IntKind.wrap .i64 (r3.2.2.1+(1:Int)))))≤(List.length (List.set r3.2.2.2 (0+(Int.toNat r3.2.2.1)) r3.1)))∧(((0:Int)<(IntKind.wrap .i64 (r3.2.2.1+(1:Int))))∨(true=true)))))then
 if((0+(Int.toNat (IntKind.wrap .i64 (r3.2.2.1+(1:Int)))))≤(List.length (List.set r3.2.2.2 (0+(Int.toNat r3.2.2.1)) r3.1)))then
 (some (List.take (Int.toNat (IntKind.wrap .i64 (r3.2.2.1+(1:Int)))) (List.set r3.2.2.2 (0+(Int.toNat r3.2.2.1)) r3.1)))
 else
 none
 else
 none
 else
 none
 else
 none
def qfJ:Nat→ByteArray→ByteArray→Int→Int→Option (List ByteArray)
 | 0,_,_,_,_=>none
 | k+1,s,sep,sepSave,n=>qfI k s sep sepSave n
def qAD:Nat→Inst:=mkI 193 ⟨[vS,vS,vI,vI],[]⟩ [⟨[vR],[]⟩] fun k x=>qfJ k x.1 x.2.1 x.2.2.1 x.2.2.2
theorem qrJ (k:Nat):qat (call cf k) [qui k,quj k,quk k]:=
 ac (qwN k) (ac (qwP k) (ac (qwR k) a0))
def qwS (k:Nat):LInst:=mkL 0 [⟨[(0,vS),(1,vS),(2,vI),(3,vI),(9,.a (.smz 0)),(10,vI)],[(0,some (.arr .str 1 9 false))],1⟩] [⟨some 0,⟨[(0,vS),(9,.a (.smz 0)),(10,vI)],[(0,some (.arr .str 1 9 false))],1⟩⟩] (fun n x=>qaE k n x.1 x.2.1 x.2.2.1 x.2.2.2.1 x.2.2.2.2.1 x.2.2.2.2.2.1 x.2.2.2.2.2.2) k
theorem qwT (k:Nat):LIo 193 Tryz.f193 0 k (qwS k):=
 lpk [] (qrJ k) l0 (fun _=>rfl) (by kernel_rfl) fun n x=>by kernel_rfl
theorem qwU:∀k,qe (call cf k) (qAD k):=
 fnk 0 [0] Tryz.func193 (fun k=>(qrJ k)) (fun k=>(lc (qwT k) l0)) ⟨rfl,rfl,⟨rfl,Nat.le_of_ble_eq_true rfl⟩,rfl⟩ (fun _=>rfl) (by kernel_rfl) fun k x=>by kernel_rfl

def qg8 (k:Nat) (s:ByteArray) (sep:ByteArray):Option (List ByteArray):=
 Option.bind (qfJ k s sep (0:Int) (-(1:Int))) fun r3=>
 (some r3)
def qck:Nat→ByteArray→ByteArray→Option (List ByteArray)
 | 0,_,_=>none
 | k+1,s,sep=>qg8 k s sep
def qAE:Nat→Inst:=mkI 133 ⟨[vS,vS],[]⟩ [⟨[vR],[]⟩] fun k x=>qck k x.1 x.2
theorem qn0:∀k,qe (call cf k) (qAE k):=
 fnk 0 [] Tryz.func133 (fun k=>(ac (qwU k) a0)) (fun k=>l0) ⟨rfl,rfl,⟨rfl,Nat.le_of_ble_eq_true rfl⟩,rfl⟩ (fun _=>rfl) (by kernel_rfl) fun k x=>by kernel_rfl

def qcG (k:Nat) (rec:List Int→Int→Int→Option ((Bool) ⊕ (Unit))) (x:List Int) (x1:Int) (x2:Int):Option ((Bool) ⊕ (Unit)):=
 if((decide (x2<x1))=true)then
 if((0:Int)≤x2)then
 Option.bind (x)[(Int.toNat x2)]? fun x5=>
 if((decide (x5≥(97:Int)))=true)then
 if((decide (x5≤(122:Int)))=false)then
 if((decide (x5≥(48:Int)))=true)then
 if((decide (x5≤(57:Int)))=false)then
 if((!(x5 == (95:Int)))=true)then
 (some (Sum.inl false))
 else
 rec x x1 (IntKind.wrap .i64 (x2+(1:Int)))
 else
 rec x x1 (IntKind.wrap .i64 (x2+(1:Int)))
 else
 if((!(x5 == (95:Int)))=true)then
 (some (Sum.inl false))
 else
 rec x x1 (IntKind.wrap .i64 (x2+(1:Int)))
 else
 rec x x1 (IntKind.wrap .i64 (x2+(1:Int)))
 else
 if((decide (x5≥(48:Int)))=true)then
 if((decide (x5≤(57:Int)))=false)then
 if((!(x5 == (95:Int)))=true)then
 (some (Sum.inl false))
 else
 rec x x1 (IntKind.wrap .i64 (x2+(1:Int)))
 else
 rec x x1 (IntKind.wrap .i64 (x2+(1:Int)))
 else
 if((!(x5 == (95:Int)))=true)then
 (some (Sum.inl false))
 else
 rec x x1 (IntKind.wrap .i64 (x2+(1:Int)))
 else
 none
 else
 (some (Sum.inr ()))
def qbT (k n:Nat):List Int→Int→Int→Option ((Bool) ⊕ (Unit)):=Nat.rec (fun _ _ _=>none) (fun _ r=>qcG k r) n
def qiu (k:Nat) (s:ByteArray):Option (Bool):=
 if((decide ((((ByteArray.size s):Nat):Int)<(1:Int)))=false)then
 if((decide ((((ByteArray.size s):Nat):Int)>(16:Int)))=true)then
 (some false)
 else
 Option.bind (qbT k k (List.map (fun b:UInt8=>((UInt8.toNat b:Nat):Int)) (Array.toList (ByteArray.data s))) (((List.length (List.map (fun b:UInt8=>((UInt8.toNat b:Nat):Int)) (Array.toList (ByteArray.data s)))):Nat):Int) (0:Int)) fun r4=>
 qc r4
 (fun r4=>
 (some r4))
 (fun r4=>
 (some true))
 else
 (some false)
def qf3:Nat→ByteArray→Option (Bool)
 | 0,_=>none
 | k+1,s=>qiu k s
def qwV:Nat→Inst:=mkI 226 ⟨[vS],[]⟩ [⟨[vB],[]⟩] fun k x=>qf3 k x
def qwW (k:Nat):LInst:=mkL 0 [⟨[(14,.a (.lf (.sl (.int .u8)))),(15,vI),(16,vI)],[],0⟩] [⟨none,⟨[(2,vB)],[],0⟩⟩,⟨some 0,⟨[],[],0⟩⟩] (fun n x=>qbT k n x.1 x.2.1 x.2.2) k
theorem qwX (k:Nat):LIo 226 Tryz.f226 0 k (qwW k):=
 lpk [] a0 l0 (fun _=>rfl) (by kernel_rfl) fun n x=>by kernel_rfl
theorem qul:∀k,qe (call cf k) (qwV k):=
 fnk 0 [0] Tryz.func226 (fun k=>a0) (fun k=>(lc (qwX k) l0)) ⟨rfl,rfl,⟨rfl,Nat.le_of_ble_eq_true rfl⟩,rfl⟩ (fun _=>rfl) (by kernel_rfl) fun k x=>by kernel_rfl

def qi8 (k:Nat) (s:ByteArray):Option (Bool):=
 Option.bind (qf3 k s) fun r4=>
 (some r4)
def qgP:Nat→ByteArray→Option (Bool)
 | 0,_=>none
 | k+1,s=>qi8 k s
def qB2:Nat→Inst:=mkI 196 ⟨[vS],[]⟩ [⟨[vB],[]⟩] fun k x=>qgP k x
theorem qum:∀k,qe (call cf k) (qB2 k):=
 fnk 0 [] Tryz.func196 (fun k=>(ac (qul k) a0)) (fun k=>l0) ⟨rfl,rfl,⟨rfl,Nat.le_of_ble_eq_true rfl⟩,rfl⟩ (fun _=>rfl) (by kernel_rfl) fun k x=>by kernel_rfl

def qhZ (k:Nat) (p:ByteArray):Option (Bool):=
 Option.bind (qgP k p) fun r4=>
 (some (!r4))
def qgQ:Nat→ByteArray→Option (Bool)
 | 0,_=>none
 | k+1,p=>qhZ k p
def qwY:Nat→Inst:=mkI 221 ⟨[vS],[]⟩ [⟨[vB],[]⟩] fun k x=>qgQ k x
theorem qAF:∀k,qe (call cf k) (qwY k):=
 fnk 0 [] Tryz.func221 (fun k=>(ac (qum k) a0)) (fun k=>l0) ⟨rfl,rfl,⟨rfl,Nat.le_of_ble_eq_true rfl⟩,rfl⟩ (fun _=>rfl) (by kernel_rfl) fun k x=>by kernel_rfl

def qeJ (k:Nat) (rec:List ByteArray→Int→Int→Option ((Int) ⊕ (Unit))) (s:List ByteArray) (x:Int) (x1:Int):Option ((Int) ⊕ (Unit)):=
 if((decide (x1<x))=true)then
 if((0:Int)≤x1)then
 Option.bind (s)[(Int.toNat x1)]? fun x4=>
 Option.bind (qgQ k x4) fun r4=>
 if(r4=true)then
 (some (Sum.inl x1))
 else
 rec s x (IntKind.wrap .i64 (x1+(1:Int)))
 else
 none
 else
 (some (Sum.inr ()))
def qbr (k n:Nat):List ByteArray→Int→Int→Option ((Int) ⊕ (Unit)):=Nat.rec (fun _ _ _=>none) (fun _ r=>qeJ k r) n
def qbK (k:Nat) (s:List ByteArray):Option (Int):=
 Option.bind (qbr k k s (((List.length s):Nat):Int) (0:Int)) fun r4=>
 qc r4
 (fun r4=>
 (some r4))
 (fun r4=>
 (some (-(1:Int))))
def qax:Nat→List ByteArray→Option (Int)
 | 0,_=>none
 | k+1,s=>qbK k s
def qAG:Nat→Inst:=mkI 194 ⟨[vR,.a (.fn 221 [])],[]⟩ [⟨[vI],[]⟩] fun k x=>qax k x
theorem qrK (k:Nat):qat (call cf k) [qwY k]:=
 ac (qAF k) a0
def qwZ (k:Nat):LInst:=mkL 0 [⟨[(0,vR),(1,.a (.fn 221 [])),(7,vI),(8,vI)],[],0⟩] [⟨none,⟨[(4,vI)],[],0⟩⟩,⟨some 0,⟨[],[],0⟩⟩] (fun n x=>qbr k n x.1 x.2.1 x.2.2) k
theorem qw0 (k:Nat):LIo 194 Tryz.f194 0 k (qwZ k):=
 lpk [] (qrK k) l0 (fun _=>rfl) (by kernel_rfl) fun n x=>by kernel_rfl
theorem qw1:∀k,qe (call cf k) (qAG k):=
 fnk 0 [0] Tryz.func194 (fun k=>(qrK k)) (fun k=>(lc (qw0 k) l0)) ⟨rfl,rfl,⟨rfl,Nat.le_of_ble_eq_true rfl⟩,rfl⟩ (fun _=>rfl) (by kernel_rfl) fun k x=>by kernel_rfl

def qbi (k:Nat) (s:List ByteArray):Option (Bool):=
 Option.bind (qax k s) fun r4=>
 (some (decide (r4≥(0:Int))))
def qbj:Nat→List ByteArray→Option (Bool)
 | 0,_=>none
 | k+1,s=>qbi k s
def qAH:Nat→Inst:=mkI 134 ⟨[vR,.a (.fn 221 [])],[]⟩ [⟨[vB],[]⟩] fun k x=>qbj k x
theorem qw2:∀k,qe (call cf k) (qAH k):=
 fnk 0 [] Tryz.func134 (fun k=>(ac (qw1 k) a0)) (fun k=>l0) ⟨rfl,rfl,⟨rfl,Nat.le_of_ble_eq_true rfl⟩,rfl⟩ (fun _=>rfl) (by kernel_rfl) fun k x=>by kernel_rfl

def qi9 (k:Nat) (s:ByteArray):Option (Bool):=
 Option.bind (qck k s (ByteArray.mk (List.toArray (46:: [])))) fun r3=>
 if((decide ((((List.length r3):Nat):Int)≤(9:Int)))=true)then
 Option.bind (qbj k r3) fun r4=>
 (some (!r4))
 else
 (some false)
def qfB:Nat→ByteArray→Option (Bool)
 | 0,_=>none
 | k+1,s=>qi9 k s
def qtq:Nat→Inst:=mkI 184 ⟨[vS],[]⟩ [⟨[vB],[]⟩] fun k x=>qfB k x
theorem qun:∀k,qe (call cf k) (qtq k):=
 fnk 0 [] Tryz.func184 (fun k=>(ac (qn0 k) (ac (qw2 k) a0))) (fun k=>l0) ⟨rfl,rfl,⟨rfl,Nat.le_of_ble_eq_true rfl⟩,rfl⟩ (fun _=>rfl) (by kernel_rfl) fun k x=>by kernel_rfl

def qcH (k:Nat) (rec:List (Int×Int)→Int→Int→Int→List (Int×Int)→List Int→Option ((Bool×Int×List (Int×Int)×List Int×Int×Int) ⊕ (Int×List (Int×Int)×List Int))) (x:List (Int×Int)) (x1:Int) (x2:Int) (w0:Int) (w1:List (Int×Int)) (w2:List Int):Option ((Bool×Int×List (Int×Int)×List Int×Int×Int) ⊕ (Int×List (Int×Int)×List Int)):=
 if((decide (x2<x1))=true)then
 if((0:Int)≤x2)then
 Option.bind (x)[(Int.toNat x2)]? fun x4=>
 Option.bind (qad k x4.1 x4.2) fun r6=>
 if((!r6)=true)then
 (some (Sum.inl (false,w0,w1,w2,x4.1,x4.2)))
 else
 rec x x1 (IntKind.wrap .i64 (x2+(1:Int))) w0 w1 w2
 else
 none
 else
 (some (Sum.inr (w0,w1,w2)))
def qbU (k n:Nat):List (Int×Int)→Int→Int→Int→List (Int×Int)→List Int→Option ((Bool×Int×List (Int×Int)×List Int×Int×Int) ⊕ (Int×List (Int×Int)×List Int)):=Nat.rec (fun _ _ _ _ _ _=>none) (fun _ r=>qcH k r) n
def qcI (k:Nat) (rec:List Int→Int→Int→Int→List (Int×Int)→List Int→Option ((Bool×Int×List (Int×Int)×List Int) ⊕ (Int×List (Int×Int)×List Int))) (x:List Int) (x1:Int) (x2:Int) (w0:Int) (w1:List (Int×Int)) (w2:List Int):Option ((Bool×Int×List (Int×Int)×List Int) ⊕ (Int×List (Int×Int)×List Int)):=
 if((decide (x2<x1))=true)then
 if((0:Int)≤x2)then
 Option.bind (x)[(Int.toNat x2)]? fun x4=>
 if((decide (x4<(0:Int)))=false)then
 if((decide (x4>(1000000000:Int)))=true)then
 (some (Sum.inl (false,w0,w1,w2)))
 else
 rec x x1 (IntKind.wrap .i64 (x2+(1:Int))) w0 w1 w2
 else
 (some (Sum.inl (false,w0,w1,w2)))
 else
 none
 else
 (some (Sum.inr (w0,w1,w2)))
def qbk (k n:Nat):List Int→Int→Int→Int→List (Int×Int)→List Int→Option ((Bool×Int×List (Int×Int)×List Int) ⊕ (Int×List (Int×Int)×List Int)):=Nat.rec (fun _ _ _ _ _ _=>none) (fun _ r=>qcI k r) n
def qbY (k:Nat) (rec:Int→Int→List (Int×Int)→List Int→Option ((Bool×Int×List (Int×Int)×List Int) ⊕ (Int×List (Int×Int)×List Int))) (i:Int) (w0:Int) (w1:List (Int×Int)) (w2:List Int):Option ((Bool×Int×List (Int×Int)×List Int) ⊕ (Int×List (Int×Int)×List Int)):=
 if((decide (i<(((List.length w2):Nat):Int)))=true)then
 if((0:Int)≤i)then
 Option.bind (w2)[(Int.toNat i)]? fun x4=>
 if((0:Int)≤(IntKind.wrap .i64 (i-(1:Int))))then
 Option.bind (w2)[(Int.toNat (IntKind.wrap .i64 (i-(1:Int))))]? fun x5=>
 if((decide (x4≤x5))=true)then
 (some (Sum.inl (false,w0,w1,w2)))
 else
 rec (IntKind.wrap .i64 (i+(1:Int))) w0 w1 w2
 else
 none
 else
 none
 else
 (some (Sum.inr (w0,w1,w2)))
def qaL (k n:Nat):Int→Int→List (Int×Int)→List Int→Option ((Bool×Int×List (Int×Int)×List Int) ⊕ (Int×List (Int×Int)×List Int)):=Nat.rec (fun _ _ _ _=>none) (fun _ r=>qbY k r) n
def qiv (k:Nat) (w0:Int) (w1:List (Int×Int)) (w2:List Int):Option (Bool):=
 Option.bind (qbU k k w1 (((List.length w1):Nat):Int) (0:Int) w0 w1 w2) fun r6=>
 qc r6
 (fun r6=>
 (some r6.1))
 (fun r6=>
 Option.bind (qbk k k r6.2.2 (((List.length r6.2.2):Nat):Int) (0:Int) r6.1 r6.2.1 r6.2.2) fun r7=>
 qc r7
 (fun r7=>
 (some r7.1))
 (fun r7=>
 if((r7.1 == (1:Int))=true)then
 if(((((List.length r7.2.1):Nat):Int) == (1:Int))=true)then
 (some ((((List.length r7.2.2):Nat):Int) == (0:Int)))
 else
 (some false)
 else
 if((r7.1 == (2:Int))=true)then
 if(((((List.length r7.2.1):Nat):Int) == (2:Int))=true)then
 if(((((List.length r7.2.2):Nat):Int) == (5:Int))=true)then
 Option.bind (r7.2.2)[4]? fun x4=>
 if((decide (x4≥(1:Int)))=true)then
 Option.bind (r7.2.2)[1]? fun x5=>
 Option.bind (r7.2.2)[2]? fun x6=>
 Option.bind (r7.2.2)[3]? fun x7=>
 Option.bind (r7.2.2)[4]? fun x8=>
 (some (decide ((IntKind.wrap .i64 ((IntKind.wrap .i64 (x5+x6))+x7))≤x8)))
 else
 (some false)
 else
 (some false)
 else
 (some false)
 else
 if((r7.1 == (3:Int))=true)then
 Option.bind (qaL k k (1:Int) r7.1 r7.2.1 r7.2.2) fun r8=>
 qc r8
 (fun r8=>
 (some r8.1))
 (fun r8=>
 if(((((List.length r8.2.1):Nat):Int) == (((List.length r8.2.2):Nat):Int))=true)then
 if((decide ((((List.length r8.2.1):Nat):Int)≥(1:Int)))=true)then
 (some (decide ((((List.length r8.2.1):Nat):Int)≤(16:Int))))
 else
 (some false)
 else
 (some false))
 else
 if((r7.1 == (4:Int))=true)then
 if((decide ((((List.length r7.2.1):Nat):Int)≥(1:Int)))=true)then
 if((decide ((((List.length r7.2.1):Nat):Int)≤(16:Int)))=true)then
 (some ((((List.length r7.2.2):Nat):Int) == (0:Int)))
 else
 (some false)
 else
 (some false)
 else
 (some false)))
def qeS:Nat→Int→List (Int×Int)→List Int→Option (Bool)
 | 0,_,_,_=>none
 | k+1,w0,w1,w2=>qiv k w0 w1 w2
def qup:Nat→Inst:=mkI 222 ⟨[.g [.lf (.int .i64),.lf cE,.lf (.sl (.int .i64))]],[]⟩ [⟨[vB],[]⟩] fun k x=>qeS k x.1 x.2.1 x.2.2
theorem qlx (k:Nat):qat (call cf k) [qnZ k]:=
 ac (qlu k) a0
def qw3 (k:Nat):LInst:=mkL 0 [⟨[(1,.a (.ptr 0 0 0)),(9,.a (.lf cE)),(10,vI),(11,vI)],[(0,some (.raw [[.lf (.int .i64),.lf cE,.lf (.sl (.int .i64))]] 3 44 true false false))],1⟩] [⟨none,⟨[(2,vB)],[(0,some (.raw [[.lf (.int .i64),.lf cE,.lf (.sl (.int .i64))]] 3 44 true false false)),(1,some (.raw [[.lf (.int .i64),.lf (.int .i64)]] 2 25 true false false))],2⟩⟩,⟨some 0,⟨[(1,.a (.ptr 0 0 0))],[(0,some (.raw [[.lf (.int .i64),.lf cE,.lf (.sl (.int .i64))]] 3 44 true false false))],1⟩⟩] (fun n x=>qbU k n x.1 x.2.1 x.2.2.1 x.2.2.2.1 x.2.2.2.2.1 x.2.2.2.2.2) k
theorem qn1 (k:Nat):LIo 222 Tryz.f222 0 k (qw3 k):=
 lpk [] (qlx k) l0 (fun _=>rfl) (by kernel_rfl) fun n x=>by kernel_rfl
def qw4 (k:Nat):LInst:=mkL 2 [⟨[(1,.a (.ptr 0 0 0)),(20,vJ),(21,vI),(22,vI)],[(0,some (.raw [[.lf (.int .i64),.lf cE,.lf (.sl (.int .i64))]] 3 44 true false false))],1⟩] [⟨none,⟨[(2,vB)],[(0,some (.raw [[.lf (.int .i64),.lf cE,.lf (.sl (.int .i64))]] 3 44 true false false))],1⟩⟩,⟨some 2,⟨[(1,.a (.ptr 0 0 0))],[(0,some (.raw [[.lf (.int .i64),.lf cE,.lf (.sl (.int .i64))]] 3 44 true false false))],1⟩⟩] (fun n x=>qbk k n x.1 x.2.1 x.2.2.1 x.2.2.2.1 x.2.2.2.2.1 x.2.2.2.2.2) k
theorem qrL (k:Nat):LIo 222 Tryz.f222 0 k (qw4 k):=
 lpk [] (qlx k) (lc (qn1 k) l0) (fun _=>rfl) (by kernel_rfl) fun n x=>by kernel_rfl
def qw5 (k:Nat):LInst:=mkL 5 [⟨[(1,.a (.ptr 0 0 0)),(7,vI)],[(0,some (.raw [[.lf (.int .i64),.lf cE,.lf (.sl (.int .i64))]] 3 44 true false false))],1⟩] [⟨none,⟨[(2,vB)],[(0,some (.raw [[.lf (.int .i64),.lf cE,.lf (.sl (.int .i64))]] 3 44 true false false))],1⟩⟩,⟨some 5,⟨[(1,.a (.ptr 0 0 0))],[(0,some (.raw [[.lf (.int .i64),.lf cE,.lf (.sl (.int .i64))]] 3 44 true false false))],1⟩⟩] (fun n x=>qaL k n x.1 x.2.1 x.2.2.1 x.2.2.2) k
theorem qw6 (k:Nat):LIo 222 Tryz.f222 0 k (qw5 k):=
 lpk [] (qlx k) (lc (qn1 k) (lc (qrL k) l0)) (fun _=>rfl) (by kernel_rfl) fun n x=>by kernel_rfl
theorem qw7:∀k,qe (call cf k) (qup k):=
 fnk 0 [0,2,5] Tryz.func222 (fun k=>(qlx k)) (fun k=>(lc (qn1 k) (lc (qrL k) (lc (qw6 k) l0)))) ⟨rfl,rfl,⟨rfl,Nat.le_of_ble_eq_true rfl⟩,rfl⟩ (fun _=>rfl) (by kernel_rfl) fun k x=>by kernel_rfl

def qhC (k:Nat) (m0:ByteArray) (m1:Int) (m2:List (Int×Int)) (m3:List (Int×Int)):Option (Bool):=
 if(((Array.toList (ByteArray.data m0)) == (Array.toList (ByteArray.data (ByteArray.mk (List.toArray [])))))=true)then
 if((m1 == (0:Int))=true)then
 (some ((IntKind.wrap .i64 ((((List.length m2):Nat):Int)+(((List.length m3):Nat):Int))) == (0:Int)))
 else
 (some false)
 else
 (some false)
def qI:Nat→ByteArray→Int→List (Int×Int)→List (Int×Int)→Option (Bool)
 | 0,_,_,_,_=>none
 | k+1,m0,m1,m2,m3=>qhC k m0 m1 m2 m3
def qw8:Nat→Inst:=mkI 223 ⟨[.g [.lf .str,.lf (.int .u8),.lf cE,.lf cE]],[]⟩ [⟨[vB],[]⟩] fun k x=>qI k x.1 x.2.1 x.2.2.1 x.2.2.2
theorem qAI:∀k,qe (call cf k) (qw8 k):=
 fnk 0 [] Tryz.func223 (fun k=>a0) (fun k=>l0) ⟨rfl,rfl,⟨rfl,Nat.le_of_ble_eq_true rfl⟩,rfl⟩ (fun _=>rfl) (by kernel_rfl) fun k x=>by kernel_rfl

def qh0 (k:Nat) (w0:Int) (w1:List (Int×Int)) (w2:List Int):Option (Bool):=
 if((w0 == (0:Int))=true)then
 (some ((IntKind.wrap .i64 ((((List.length w1):Nat):Int)+(((List.length w2):Nat):Int))) == (0:Int)))
 else
 (some false)
def qM:Nat→Int→List (Int×Int)→List Int→Option (Bool)
 | 0,_,_,_=>none
 | k+1,w0,w1,w2=>qh0 k w0 w1 w2
def qw9:Nat→Inst:=mkI 224 ⟨[.g [.lf (.int .i64),.lf cE,.lf (.sl (.int .i64))]],[]⟩ [⟨[vB],[]⟩] fun k x=>qM k x.1 x.2.1 x.2.2
theorem qAJ:∀k,qe (call cf k) (qw9 k):=
 fnk 0 [] Tryz.func224 (fun k=>a0) (fun k=>l0) ⟨rfl,rfl,⟨rfl,Nat.le_of_ble_eq_true rfl⟩,rfl⟩ (fun _=>rfl) (by kernel_rfl) fun k x=>by kernel_rfl

def qf4 (k:Nat) (v:Int):Option (Bool×List Int):=
 if((decide (v<(0:Int)))=true)then
 Option.bind (qdW k (List.take 2 ((IntKind.wrap .u32 (IntKind.wrap .u64 ((0:Int)-(IntKind.wrap .u64 v))))::((IntKind.wrap .u32 (Int.fdiv (IntKind.wrap .u64 ((0:Int)-(IntKind.wrap .u64 v))) (4294967296:Int))):: [])))) fun r11=>
 (some ((decide (v<(0:Int))),r11))
 else
 Option.bind (qdW k (List.take 2 ((IntKind.wrap .u32 (IntKind.wrap .u64 v))::((IntKind.wrap .u32 (Int.fdiv (IntKind.wrap .u64 v) (4294967296:Int))):: [])))) fun r11=>
 (some ((decide (v<(0:Int))),r11))
def qcp:Nat→Int→Option (Bool×List Int)
 | 0,_=>none
 | k+1,v=>qf4 k v
def qxa:Nat→Inst:=mkI 87 ⟨[vI],[]⟩ [⟨[.a (.ptr 0 0 0)],[.raw [[.lf .bool,.lf cW]] 2 147 true false false]⟩] fun k x=>qcp k x
theorem qqo:∀k,qe (call cf k) (qxa k):=
 fnk 0 [] Tryz.func87 (fun k=>(ac (qlt k) a0)) (fun k=>l0) ⟨rfl,rfl,⟨rfl,Nat.le_of_ble_eq_true rfl⟩,rfl⟩ (fun _=>rfl) (by kernel_rfl) fun k x=>by kernel_rfl

def qgj (k:Nat) (neg:Bool) (w:List Int) (z0:Bool) (z1:List Int):Option (Bool×List Int):=
 Option.bind (qdW k w) fun r14=>
 if(neg=true)then
 (some ((decide ((((List.length r14):Nat):Int)>(0:Int))),r14))
 else
 (some (false,r14))
def qey:Nat→Bool→List Int→Bool→List Int→Option (Bool×List Int)
 | 0,_,_,_,_=>none
 | k+1,neg,w,z0,z1=>qgj k neg w z0 z1
def Iq9:Nat→Inst:=mkI 198 ⟨[.a (.ptr 0 0 0),vB,vT],[.raw [[.lf .bool,.lf cW]] 2 147 true false false]⟩ [⟨[.a (.ptr 0 0 0)],[.raw [[.lf .bool,.lf cW]] 2 147 true false false]⟩] fun k x=>qey k x.1 x.2.1 x.2.2.1 x.2.2.2
theorem qB3:∀k,qe (call cf k) (Iq9 k):=
 fnk 1 [] Tryz.func198 (fun k=>(ac (qlt k) a0)) (fun k=>l0) ⟨rfl,rfl,⟨rfl,Nat.le_of_ble_eq_true rfl⟩,rfl⟩ (fun _=>rfl) (by kernel_rfl) fun k x=>by kernel_rfl

def qe2 (k:Nat) (rec:Nat→Int→Int→Int→List Int→Int→Int→List Int→Int→Int→Bool→List Int→Bool→List Int→List Int→Option (Nat×Int×Int×List Int×Int×Int×Bool×List Int×Bool×List Int×List Int)) (out1:Nat) (i:Int) (a:Int) (carry:Int) (x:List Int) (x1:Int) (x2:Int) (x3:List Int) (x4:Int) (x5:Int) (x0:Bool) (x11:List Int) (y0:Bool) (y1:List Int) (outs:List Int):Option (Nat×Int×Int×List Int×Int×Int×Bool×List Int×Bool×List Int×List Int):=
 if((decide (x5<x4))=true)then
 if((0:Int)≤x5)then
 Option.bind (x3)[(Int.toNat x5)]? fun x7=>
 if(((0:Int)≤(IntKind.wrap .i64 (i+x5)))∧((IntKind.wrap .i64 (i+x5))<((out1:Nat):Int)))then
 Option.bind (outs)[(0+(Int.toNat (IntKind.wrap .i64 (i+x5))))]? fun x8=>
 if(((0:Int)≤(IntKind.wrap .i64 (i+x5)))∧((IntKind.wrap .i64 (i+x5))<((out1:Nat):Int)))then
 Option.bind (outs)[(0+(Int.toNat (IntKind.wrap .i64 (i+x5))))]? fun x9=>
 rec out1 i a (Int.fdiv (IntKind.wrap .u64 ((IntKind.wrap .u64 ((IntKind.wrap .u64 ((IntKind.wrap .u64 a)*(IntKind.wrap .u64 x7)))+(IntKind.wrap .u64 x8)))+carry)) (4294967296:Int)) x x1 x2 x3 x4 (IntKind.wrap .i64 (x5+(1:Int))) x0 x11 y0 y1 (List.set outs (0+(Int.toNat (IntKind.wrap .i64 (i+x5)))) (IntKind.wrap .u32 (IntKind.wrap .u64 ((IntKind.wrap .u64 ((IntKind.wrap .u64 ((IntKind.wrap .u64 a)*(IntKind.wrap .u64 x7)))+(IntKind.wrap .u64 x8)))+carry))))
 else
 none
 else
 none
 else
 none
 else
 (some (out1,i,carry,x,x1,x2,x0,x11,y0,y1,outs))
def qdX (k n:Nat):Nat→Int→Int→Int→List Int→Int→Int→List Int→Int→Int→Bool→List Int→Bool→List Int→List Int→Option (Nat×Int×Int×List Int×Int×Int×Bool×List Int×Bool×List Int×List Int):=Nat.rec (fun _ _ _ _ _ _ _ _ _ _ _ _ _ _ _=>none) (fun _ r=>qe2 k r) n
def qe3 (k:Nat) (rec:Nat→List Int→Int→Int→Bool→List Int→Bool→List Int→List Int→Option (Nat×Bool×List Int×Bool×List Int×List Int)) (out1:Nat) (x:List Int) (x1:Int) (x2:Int) (x0:Bool) (x11:List Int) (y0:Bool) (y1:List Int) (outs:List Int):Option (Nat×Bool×List Int×Bool×List Int×List Int):=
 if((decide (x2<x1))=true)then
 if((0:Int)≤x2)then
 Option.bind (x)[(Int.toNat x2)]? fun x6=>
 Option.bind (qdX k k out1 x2 x6 (0:Int) x x1 x2 y1 (((List.length y1):Nat):Int) (0:Int) x0 x11 y0 y1 outs) fun r13=>
 if(((0:Int)≤(IntKind.wrap .i64 (r13.2.1+(((List.length r13.2.2.2.2.2.2.2.2.2.1):Nat):Int))))∧((IntKind.wrap .i64 (r13.2.1+(((List.length r13.2.2.2.2.2.2.2.2.2.1):Nat):Int)))<((r13.1:Nat):Int)))then
 Option.bind (r13.2.2.2.2.2.2.2.2.2.2)[(0+(Int.toNat (IntKind.wrap .i64 (r13.2.1+(((List.length r13.2.2.2.2.2.2.2.2.2.1):Nat):Int)))))]? fun x7=>
 rec r13.1 r13.2.2.2.1 r13.2.2.2.2.1 (IntKind.wrap .i64 (r13.2.2.2.2.2.1+(1:Int))) r13.2.2.2.2.2.2.1 r13.2.2.2.2.2.2.2.1 r13.2.2.2.2.2.2.2.2.1 r13.2.2.2.2.2.2.2.2.2.1 (List.set r13.2.2.2.2.2.2.2.2.2.2 (0+(Int.toNat (IntKind.wrap .i64 (r13.2.1+(((List.length r13.2.2.2.2.2.2.2.2.2.1):Nat):Int))))) (IntKind.wrap .u32 r13.2.2.1))
 else
 none
 else
 none
 else
 (some (out1,x0,x11,y0,y1,outs))
def qc1 (k n:Nat):Nat→List Int→Int→Int→Bool→List Int→Bool→List Int→List Int→Option (Nat×Bool×List Int×Bool×List Int×List Int):=Nat.rec (fun _ _ _ _ _ _ _ _ _=>none) (fun _ r=>qe3 k r) n
def qgk (k:Nat) (x0:Bool) (x1:List Int) (y0:Bool) (y1:List Int):Option (Bool×List Int×Bool×List Int):=
 if(((0:Int)≤(IntKind.wrap .i64 ((((List.length x1):Nat):Int)+(((List.length y1):Nat):Int))))∧(((IntKind.wrap .i64 ((((List.length x1):Nat):Int)+(((List.length y1):Nat):Int)))≤(IntKind.wrap .i64 ((((List.length x1):Nat):Int)+(((List.length y1):Nat):Int))))∧(((IntKind.wrap .i64 ((((List.length x1):Nat):Int)+(((List.length y1):Nat):Int)))*(4:Int))≤(140737488355328:Int))))then
 Option.bind (qc1 k k (Int.toNat (IntKind.wrap .i64 ((((List.length x1):Nat):Int)+(((List.length y1):Nat):Int)))) x1 (((List.length x1):Nat):Int) (0:Int) x0 x1 y0 y1 (List.replicate (Int.toNat (IntKind.wrap .i64 ((((List.length x1):Nat):Int)+(((List.length y1):Nat):Int)))) (0:Int))) fun r13=>
 if((0+r13.1)≤(List.length r13.2.2.2.2.2))then
 Option.bind (qey k (!(r13.2.1 == r13.2.2.2.1)) (List.take r13.1 r13.2.2.2.2.2) r13.2.1 r13.2.2.1) fun r14=>
 (some (r14.1,r14.2,r13.2.2.2.1,r13.2.2.2.2.1))
 else
 none
 else
 none
def qdD:Nat→Bool→List Int→Bool→List Int→Option (Bool×List Int×Bool×List Int)
 | 0,_,_,_,_=>none
 | k+1,x0,x1,y0,y1=>qgk k x0 x1 y0 y1
def Iq4:Nat→Inst:=mkI 155 ⟨[.a (.ptr 0 0 0),.a (.ptr 0 0 0),.a (.ptr 1 0 0)],[.raw [[.lf .bool,.lf cW]] 2 147 true false false,.raw [[.lf .bool,.lf cW]] 2 147 true false false]⟩ [⟨[.a (.ptr 0 0 0)],[.raw [[.lf .bool,.lf cW]] 2 147 true false false,.raw [[.lf .bool,.lf cW]] 2 147 true false false]⟩] fun k x=>qdD k x.1 x.2.1 x.2.2.1 x.2.2.2
theorem qtr (k:Nat):qat (call cf k) [Iq9 k]:=
 ac (qB3 k) a0
def qxb (k:Nat):LInst:=mkL 2 [⟨[(0,.a (.ptr 0 0 0)),(1,.a (.ptr 0 0 0)),(2,.a (.ptr 1 0 0)),(7,.a (.smz 2)),(8,vI),(9,.a (.lf (.int .u32))),(10,vU),(29,vT),(30,vI),(31,vI),(39,vT),(40,vI),(41,vI)],[(0,some (.raw [[.lf .bool,.lf cW]] 2 147 true false false)),(1,some (.raw [[.lf .bool,.lf cW]] 2 147 true false false)),(2,some (.arr (.int .u32) 1 106 false))],3⟩] [⟨some 2,⟨[(0,.a (.ptr 0 0 0)),(1,.a (.ptr 0 0 0)),(2,.a (.ptr 1 0 0)),(7,.a (.smz 2)),(8,vI),(10,vU),(29,vT),(30,vI),(31,vI)],[(0,some (.raw [[.lf .bool,.lf cW]] 2 147 true false false)),(1,some (.raw [[.lf .bool,.lf cW]] 2 147 true false false)),(2,some (.arr (.int .u32) 1 106 false))],3⟩⟩] (fun n x=>qdX k n x.1 x.2.1 x.2.2.1 x.2.2.2.1 x.2.2.2.2.1 x.2.2.2.2.2.1 x.2.2.2.2.2.2.1 x.2.2.2.2.2.2.2.1 x.2.2.2.2.2.2.2.2.1 x.2.2.2.2.2.2.2.2.2.1 x.2.2.2.2.2.2.2.2.2.2.1 x.2.2.2.2.2.2.2.2.2.2.2.1 x.2.2.2.2.2.2.2.2.2.2.2.2.1 x.2.2.2.2.2.2.2.2.2.2.2.2.2.1 x.2.2.2.2.2.2.2.2.2.2.2.2.2.2) k
theorem qrM (k:Nat):LIo 155 Tryz.f155 2 k (qxb k):=
 lpk [] (qtr k) l0 (fun _=>rfl) (by kernel_rfl) fun n x=>by kernel_rfl
def qxc (k:Nat):LInst:=mkL 0 [⟨[(0,.a (.ptr 0 0 0)),(1,.a (.ptr 0 0 0)),(2,.a (.ptr 1 0 0)),(7,.a (.smz 2)),(29,vT),(30,vI),(31,vI)],[(0,some (.raw [[.lf .bool,.lf cW]] 2 147 true false false)),(1,some (.raw [[.lf .bool,.lf cW]] 2 147 true false false)),(2,some (.arr (.int .u32) 1 106 false))],3⟩] [⟨some 0,⟨[(0,.a (.ptr 0 0 0)),(1,.a (.ptr 0 0 0)),(2,.a (.ptr 1 0 0)),(7,.a (.smz 2))],[(0,some (.raw [[.lf .bool,.lf cW]] 2 147 true false false)),(1,some (.raw [[.lf .bool,.lf cW]] 2 147 true false false)),(2,some (.arr (.int .u32) 1 106 false))],3⟩⟩] (fun n x=>qc1 k n x.1 x.2.1 x.2.2.1 x.2.2.2.1 x.2.2.2.2.1 x.2.2.2.2.2.1 x.2.2.2.2.2.2.1 x.2.2.2.2.2.2.2.1 x.2.2.2.2.2.2.2.2) k
theorem qxd (k:Nat):LIo 155 Tryz.f155 2 k (qxc k):=
 lpk [2] (qtr k) (lc (qrM k) l0) (fun _=>rfl) (by kernel_rfl) fun n x=>by kernel_rfl
theorem qxe:∀k,qe (call cf k) (Iq4 k):=
 fnk 2 [0] Tryz.func155 (fun k=>(qtr k)) (fun k=>(lc (qrM k) (lc (qxd k) l0))) ⟨rfl,rfl,⟨rfl,Nat.le_of_ble_eq_true rfl⟩,rfl⟩ (fun _=>rfl) (by kernel_rfl) fun k x=>by kernel_rfl

def qf5 (k:Nat) (rec:Int→Int→Bool→List Int→Bool→List Int→Option (Bool×List Int×Bool×List Int)) (x:Int) (x1:Int) (z0:Bool) (z1:List Int) (ten0:Bool) (ten1:List Int):Option (Bool×List Int×Bool×List Int):=
 if((decide (x1<x))=true)then
 Option.bind (qdD k z0 z1 ten0 ten1) fun r13=>
 rec x (IntKind.wrap .i64 (x1+(1:Int))) r13.1 r13.2.1 r13.2.2.1 r13.2.2.2
 else
 (some (z0,z1,ten0,ten1))
def qez (k n:Nat):Int→Int→Bool→List Int→Bool→List Int→Option (Bool×List Int×Bool×List Int):=Nat.rec (fun _ _ _ _ _ _=>none) (fun _ r=>qf5 k r) n
def qts (k:Nat) (k1:Int):Option (Bool×List Int):=
 Option.bind (qcp k (1:Int)) fun r11=>
 Option.bind (qcp k (10:Int)) fun r12=>
 Option.bind (qez k k k1 (0:Int) r11.1 r11.2 r12.1 r12.2) fun r13=>
 (some (r13.1,r13.2.1))
def qja:Nat→Int→Option (Bool×List Int)
 | 0,_=>none
 | k+1,k1=>qts k k1
def qB4:Nat→Inst:=mkI 234 ⟨[vI],[]⟩ [⟨[.a (.ptr 0 0 0)],[.raw [[.lf .bool,.lf cW]] 2 147 true false false]⟩] fun k x=>qja k x
theorem quq (k:Nat):qat (call cf k) [qxa k,Iq4 k]:=
 ac (qqo k) (ac (qxe k) a0)
def qxf (k:Nat):LInst:=mkL 0 [⟨[(3,.a (.ptr 0 0 0)),(4,.a (.ptr 1 0 0)),(7,vI),(8,vI)],[(0,some (.raw [[.lf .bool,.lf cW]] 2 147 true false false)),(1,some (.raw [[.lf .bool,.lf cW]] 2 147 true false false))],2⟩] [⟨some 0,⟨[(3,.a (.ptr 0 0 0))],[(0,some (.raw [[.lf .bool,.lf cW]] 2 147 true false false)),(1,some (.raw [[.lf .bool,.lf cW]] 2 147 true false false))],2⟩⟩] (fun n x=>qez k n x.1 x.2.1 x.2.2.1 x.2.2.2.1 x.2.2.2.2.1 x.2.2.2.2.2) k
theorem qxg (k:Nat):LIo 234 Tryz.f234 0 k (qxf k):=
 lpk [] (quq k) l0 (fun _=>rfl) (by kernel_rfl) fun n x=>by kernel_rfl
theorem qAK:∀k,qe (call cf k) (qB4 k):=
 fnk 0 [0] Tryz.func234 (fun k=>(quq k)) (fun k=>(lc (qxg k) l0)) ⟨rfl,rfl,⟨rfl,Nat.le_of_ble_eq_true rfl⟩,rfl⟩ (fun _=>rfl) (by kernel_rfl) fun k x=>by kernel_rfl

def qcW (k:Nat) (rec:List Int→List Int→Int→Option ((Int) ⊕ (Unit))) (a:List Int) (b:List Int) (i:Int):Option ((Int) ⊕ (Unit)):=
 if((decide (i≥(0:Int)))=true)then
 if((0:Int)≤i)then
 Option.bind (a)[(Int.toNat i)]? fun x6=>
 if((0:Int)≤i)then
 Option.bind (b)[(Int.toNat i)]? fun x7=>
 if((x6 != x7)=true)then
 if((0:Int)≤i)then
 Option.bind (a)[(Int.toNat i)]? fun x8=>
 if((0:Int)≤i)then
 Option.bind (b)[(Int.toNat i)]? fun x9=>
 if((decide (x8<x9))=true)then
 (some (Sum.inl (-(1:Int))))
 else
 (some (Sum.inl (1:Int)))
 else
 none
 else
 none
 else
 rec a b (IntKind.wrap .i64 (i-(1:Int)))
 else
 none
 else
 none
 else
 (some (Sum.inr ()))
def qeA (k n:Nat):List Int→List Int→Int→Option ((Int) ⊕ (Unit)):=Nat.rec (fun _ _ _=>none) (fun _ r=>qcW k r) n
def qkQ (k:Nat) (a:List Int) (b:List Int):Option (Int):=
 if(((((List.length a):Nat):Int) != (((List.length b):Nat):Int))=true)then
 if((decide ((((List.length a):Nat):Int)<(((List.length b):Nat):Int)))=true)then
 (some (-(1:Int)))
 else
 (some (1:Int))
 else
 Option.bind (qeA k k a b (IntKind.wrap .i64 ((((List.length a):Nat):Int)-(1:Int)))) fun r13=>
 qc r13
 (fun r13=>
 (some r13))
 (fun r13=>
 (some (0:Int)))
def qjb:Nat→List Int→List Int→Option (Int)
 | 0,_,_=>none
 | k+1,a,b=>qkQ k a b
def qB5:Nat→Inst:=mkI 200 ⟨[vT,vT],[]⟩ [⟨[vI],[]⟩] fun k x=>qjb k x.1 x.2
def qxh (k:Nat):LInst:=mkL 0 [⟨[(0,vT),(1,vT),(5,vI)],[],0⟩] [⟨none,⟨[(4,vI)],[],0⟩⟩,⟨some 0,⟨[],[],0⟩⟩] (fun n x=>qeA k n x.1 x.2.1 x.2.2) k
theorem qxi (k:Nat):LIo 200 Tryz.f200 0 k (qxh k):=
 lpk [] a0 l0 (fun _=>rfl) (by kernel_rfl) fun n x=>by kernel_rfl
theorem qur:∀k,qe (call cf k) (qB5 k):=
 fnk 0 [0] Tryz.func200 (fun k=>a0) (fun k=>(lc (qxi k) l0)) ⟨rfl,rfl,⟨rfl,Nat.le_of_ble_eq_true rfl⟩,rfl⟩ (fun _=>rfl) (by kernel_rfl) fun k x=>by kernel_rfl

def qeK (k:Nat) (rec:List Int→Int→Nat→Int→Int→List Int→Option (Nat×Int×List Int)) (a:List Int) (d:Int) (q:Nat) (r:Int) (i:Int) (qs:List Int):Option (Nat×Int×List Int):=
 if((decide (i≥(0:Int)))=true)then
 if((0:Int)≤i)then
 Option.bind (a)[(Int.toNat i)]? fun x7=>
 if((IntKind.wrap .u64 d)=(0:Int))then
 none
 else
 if(((0:Int)≤i)∧(i<((q:Nat):Int)))then
 Option.bind (qs)[(0+(Int.toNat i))]? fun x8=>
 if((IntKind.wrap .u64 d)=(0:Int))then
 none
 else
 rec a d q (Int.tmod (IntKind.wrap .u64 (((BitVec.toNat ((BitVec.ofInt 64 (IntKind.wrap .u64 (r*(4294967296:Int)))) ||| (BitVec.ofInt 64 (IntKind.wrap .u64 x7)))):Nat):Int)) (IntKind.wrap .u64 d)) (IntKind.wrap .i64 (i-(1:Int))) (List.set qs (0+(Int.toNat i)) (IntKind.wrap .u32 (IntKind.wrap .u64 (Int.tdiv (IntKind.wrap .u64 (((BitVec.toNat ((BitVec.ofInt 64 (IntKind.wrap .u64 (r*(4294967296:Int)))) ||| (BitVec.ofInt 64 (IntKind.wrap .u64 x7)))):Nat):Int)) (IntKind.wrap .u64 d)))))
 else
 none
 else
 none
 else
 (some (q,r,qs))
def qen (k n:Nat):List Int→Int→Nat→Int→Int→List Int→Option (Nat×Int×List Int):=Nat.rec (fun _ _ _ _ _ _=>none) (fun _ r=>qeK k r) n
def qjc (k:Nat) (a:List Int) (d:Int):Option (List Int×Int):=
 if(((0:Int)≤(((List.length a):Nat):Int))∧(((((List.length a):Nat):Int)≤(((List.length a):Nat):Int))∧(((((List.length a):Nat):Int)*(4:Int))≤(140737488355328:Int))))then
 Option.bind (qen k k a d (Int.toNat (((List.length a):Nat):Int)) (0:Int) (IntKind.wrap .i64 ((((List.length a):Nat):Int)-(1:Int))) (List.replicate (Int.toNat (((List.length a):Nat):Int)) (0:Int))) fun r14=>
 if((0+r14.1)≤(List.length r14.2.2))then
 (some ((List.take r14.1 r14.2.2),(IntKind.wrap .u32 r14.2.1)))
 else
 none
 else
 none
def qjd:Nat→List Int→Int→Option (List Int×Int)
 | 0,_,_=>none
 | k+1,a,d=>qjc k a d
def qB6:Nat→Inst:=mkI 241 ⟨[vT,.a (.lf (.int .u32))],[]⟩ [⟨[vT,.a (.lf (.int .u32))],[]⟩] fun k x=>qjd k x.1 x.2
def qxj (k:Nat):LInst:=mkL 0 [⟨[(0,vT),(1,.a (.lf (.int .u32))),(6,.a (.smz 0)),(7,vU),(8,vI)],[(0,some (.arr (.int .u32) 1 106 false))],1⟩] [⟨some 0,⟨[(6,.a (.smz 0)),(7,vU)],[(0,some (.arr (.int .u32) 1 106 false))],1⟩⟩] (fun n x=>qen k n x.1 x.2.1 x.2.2.1 x.2.2.2.1 x.2.2.2.2.1 x.2.2.2.2.2) k
theorem qxk (k:Nat):LIo 241 Tryz.f241 0 k (qxj k):=
 lpk [] a0 l0 (fun _=>rfl) (by kernel_rfl) fun n x=>by kernel_rfl
theorem qAL:∀k,qe (call cf k) (qB6 k):=
 fnk 0 [0] Tryz.func241 (fun k=>a0) (fun k=>(lc (qxk k) l0)) ⟨rfl,rfl,⟨rfl,Nat.le_of_ble_eq_true rfl⟩,rfl⟩ (fun _=>rfl) (by kernel_rfl) fun k x=>by kernel_rfl

def qeL (k:Nat) (rec:Int→Nat→List Int→Int→Int→List Int→Option (Nat×List Int)) (bits:Int) (out1:Nat) (x:List Int) (x1:Int) (x2:Int) (outs:List Int):Option (Nat×List Int):=
 if((decide (x2<x1))=true)then
 if((0:Int)≤x2)then
 Option.bind (x)[(Int.toNat x2)]? fun x6=>
 if(bits<(0:Int))then
 none
 else
 if(((0:Int)≤x2)∧(x2<((out1:Nat):Int)))then
 Option.bind (outs)[(0+(Int.toNat x2))]? fun x7=>
 if(((0:Int)≤x2)∧(x2<((out1:Nat):Int)))then
 Option.bind (outs)[(0+(Int.toNat x2))]? fun x8=>
 if(((0:Int)≤(IntKind.wrap .i64 (x2+(1:Int))))∧((IntKind.wrap .i64 (x2+(1:Int)))<((out1:Nat):Int)))then
 Option.bind ((List.set outs (0+(Int.toNat x2)) (IntKind.wrap .u32 (((BitVec.toNat ((BitVec.ofInt 32 x7) ||| (BitVec.ofInt 32 (IntKind.wrap .u32 (IntKind.wrap .u64 ((IntKind.wrap .u64 x6)*((2:Int)^(min (Int.toNat bits) 64)))))))):Nat):Int))))[(0+(Int.toNat (IntKind.wrap .i64 (x2+(1:Int)))))]? fun x9=>
 rec bits out1 x x1 (IntKind.wrap .i64 (x2+(1:Int))) (List.set (List.set outs (0+(Int.toNat x2)) (IntKind.wrap .u32 (((BitVec.toNat ((BitVec.ofInt 32 x7) ||| (BitVec.ofInt 32 (IntKind.wrap .u32 (IntKind.wrap .u64 ((IntKind.wrap .u64 x6)*((2:Int)^(min (Int.toNat bits) 64)))))))):Nat):Int))) (0+(Int.toNat (IntKind.wrap .i64 (x2+(1:Int))))) (IntKind.wrap .u32 (Int.fdiv (IntKind.wrap .u64 ((IntKind.wrap .u64 x6)*((2:Int)^(min (Int.toNat bits) 64)))) (4294967296:Int))))
 else
 none
 else
 none
 else
 none
 else
 none
 else
 (some (out1,outs))
def qeo (k n:Nat):Int→Nat→List Int→Int→Int→List Int→Option (Nat×List Int):=Nat.rec (fun _ _ _ _ _ _=>none) (fun _ r=>qeL k r) n
def qje (k:Nat) (a:List Int) (bits:Int):Option (Nat×List Int):=
 if(((0:Int)≤(IntKind.wrap .i64 ((((List.length a):Nat):Int)+(1:Int))))∧(((IntKind.wrap .i64 ((((List.length a):Nat):Int)+(1:Int)))≤(IntKind.wrap .i64 ((((List.length a):Nat):Int)+(1:Int))))∧(((IntKind.wrap .i64 ((((List.length a):Nat):Int)+(1:Int)))*(4:Int))≤(140737488355328:Int))))then
 Option.bind (qeo k k bits (Int.toNat (IntKind.wrap .i64 ((((List.length a):Nat):Int)+(1:Int)))) a (((List.length a):Nat):Int) (0:Int) (List.replicate (Int.toNat (IntKind.wrap .i64 ((((List.length a):Nat):Int)+(1:Int)))) (0:Int))) fun r15=>
 (some (r15.1,r15.2))
 else
 none
def qgR:Nat→List Int→Int→Option (Nat×List Int)
 | 0,_,_=>none
 | k+1,a,bits=>qje k a bits
def qxl:Nat→Inst:=mkI 247 ⟨[vT,vU],[]⟩ [⟨[.a (.smz 0)],[.arr (.int .u32) 1 106 false]⟩] fun k x=>qgR k x.1 x.2
def qxm (k:Nat):LInst:=mkL 0 [⟨[(1,vU),(5,.a (.smz 0)),(13,vT),(14,vI),(15,vI)],[(0,some (.arr (.int .u32) 1 106 false))],1⟩] [⟨some 0,⟨[(5,.a (.smz 0))],[(0,some (.arr (.int .u32) 1 106 false))],1⟩⟩] (fun n x=>qeo k n x.1 x.2.1 x.2.2.1 x.2.2.2.1 x.2.2.2.2.1 x.2.2.2.2.2) k
theorem qxn (k:Nat):LIo 247 Tryz.f247 0 k (qxm k):=
 lpk [] a0 l0 (fun _=>rfl) (by kernel_rfl) fun n x=>by kernel_rfl
theorem qAM:∀k,qe (call cf k) (qxl k):=
 fnk 0 [0] Tryz.func247 (fun k=>a0) (fun k=>(lc (qxn k) l0)) ⟨rfl,rfl,⟨rfl,Nat.le_of_ble_eq_true rfl⟩,rfl⟩ (fun _=>rfl) (by kernel_rfl) fun k x=>by kernel_rfl

def qaj (k:Nat) (rec:Nat→Nat→Nat→Int→Int→Int→Int→Int→List Int→List Int→Option (Nat×Nat×Nat×Int×Int×List Int×List Int)) (u0:Nat) (u1:Nat) (v:Nat) (d:Int) (carry:Int) (borrow:Int) (x:Int) (x1:Int) (us:List Int) (vs:List Int):Option (Nat×Nat×Nat×Int×Int×List Int×List Int):=
 if((decide (x1<x))=true)then
 if((decide (x1<((v:Nat):Int)))=true)then
 if(((0:Int)≤x1)∧(x1<((v:Nat):Int)))then
 Option.bind (vs)[(0+(Int.toNat x1))]? fun x10=>
 if(((0:Int)≤x1)∧(x1<((u1:Nat):Int)))then
 Option.bind (us)[(u0+(Int.toNat x1))]? fun x11=>
 if((decide ((IntKind.wrap .u64 x11)<(IntKind.wrap .u64 ((IntKind.wrap .u64 (((BitVec.toNat ((BitVec.ofInt 64 (IntKind.wrap .u64 (carry+(IntKind.wrap .u64 (d*(IntKind.wrap .u64 x10)))))) &&& (BitVec.ofInt 64 (4294967295:Int)))):Nat):Int))+borrow))))=true)then
 if(((0:Int)≤x1)∧(x1<((u1:Nat):Int)))then
 Option.bind (us)[(u0+(Int.toNat x1))]? fun x12=>
 if(((0:Int)≤x1)∧(x1<((u1:Nat):Int)))then
 Option.bind (us)[(u0+(Int.toNat x1))]? fun x13=>
 rec u0 u1 v d (Int.fdiv (IntKind.wrap .u64 (carry+(IntKind.wrap .u64 (d*(IntKind.wrap .u64 x10))))) (4294967296:Int)) (1:Int) x (IntKind.wrap .i64 (x1+(1:Int))) (List.set us (u0+(Int.toNat x1)) (IntKind.wrap .u32 (IntKind.wrap .u64 ((IntKind.wrap .u64 x12)-(IntKind.wrap .u64 ((IntKind.wrap .u64 (((BitVec.toNat ((BitVec.ofInt 64 (IntKind.wrap .u64 (carry+(IntKind.wrap .u64 (d*(IntKind.wrap .u64 x10)))))) &&& (BitVec.ofInt 64 (4294967295:Int)))):Nat):Int))+borrow)))))) vs
 else
 none
 else
 none
 else
 if(((0:Int)≤x1)∧(x1<((u1:Nat):Int)))then
 Option.bind (us)[(u0+(Int.toNat x1))]? fun x12=>
 if(((0:Int)≤x1)∧(x1<((u1:Nat):Int)))then
 Option.bind (us)[(u0+(Int.toNat x1))]? fun x13=>
 rec u0 u1 v d (Int.fdiv (IntKind.wrap .u64 (carry+(IntKind.wrap .u64 (d*(IntKind.wrap .u64 x10))))) (4294967296:Int)) (0:Int) x (IntKind.wrap .i64 (x1+(1:Int))) (List.set us (u0+(Int.toNat x1)) (IntKind.wrap .u32 (IntKind.wrap .u64 ((IntKind.wrap .u64 x12)-(IntKind.wrap .u64 ((IntKind.wrap .u64 (((BitVec.toNat ((BitVec.ofInt 64 (IntKind.wrap .u64 (carry+(IntKind.wrap .u64 (d*(IntKind.wrap .u64 x10)))))) &&& (BitVec.ofInt 64 (4294967295:Int)))):Nat):Int))+borrow)))))) vs
 else
 none
 else
 none
 else
 none
 else
 none
 else
 if(((0:Int)≤x1)∧(x1<((u1:Nat):Int)))then
 Option.bind (us)[(u0+(Int.toNat x1))]? fun x10=>
 if((decide ((IntKind.wrap .u64 x10)<(IntKind.wrap .u64 ((IntKind.wrap .u64 (((BitVec.toNat ((BitVec.ofInt 64 carry) &&& (BitVec.ofInt 64 (4294967295:Int)))):Nat):Int))+borrow))))=true)then
 if(((0:Int)≤x1)∧(x1<((u1:Nat):Int)))then
 Option.bind (us)[(u0+(Int.toNat x1))]? fun x11=>
 if(((0:Int)≤x1)∧(x1<((u1:Nat):Int)))then
 Option.bind (us)[(u0+(Int.toNat x1))]? fun x12=>
 rec u0 u1 v d (Int.fdiv carry (4294967296:Int)) (1:Int) x (IntKind.wrap .i64 (x1+(1:Int))) (List.set us (u0+(Int.toNat x1)) (IntKind.wrap .u32 (IntKind.wrap .u64 ((IntKind.wrap .u64 x11)-(IntKind.wrap .u64 ((IntKind.wrap .u64 (((BitVec.toNat ((BitVec.ofInt 64 carry) &&& (BitVec.ofInt 64 (4294967295:Int)))):Nat):Int))+borrow)))))) vs
 else
 none
 else
 none
 else
 if(((0:Int)≤x1)∧(x1<((u1:Nat):Int)))then
 Option.bind (us)[(u0+(Int.toNat x1))]? fun x11=>
 if(((0:Int)≤x1)∧(x1<((u1:Nat):Int)))then
 Option.bind (us)[(u0+(Int.toNat x1))]? fun x12=>
 rec u0 u1 v d (Int.fdiv carry (4294967296:Int)) (0:Int) x (IntKind.wrap .i64 (x1+(1:Int))) (List.set us (u0+(Int.toNat x1)) (IntKind.wrap .u32 (IntKind.wrap .u64 ((IntKind.wrap .u64 x11)-(IntKind.wrap .u64 ((IntKind.wrap .u64 (((BitVec.toNat ((BitVec.ofInt 64 carry) &&& (BitVec.ofInt 64 (4294967295:Int)))):Nat):Int))+borrow)))))) vs
 else
 none
 else
 none
 else
 none
 else
 (some (u0,u1,v,d,borrow,us,vs))
def qaU (k n:Nat):Nat→Nat→Nat→Int→Int→Int→Int→Int→List Int→List Int→Option (Nat×Nat×Nat×Int×Int×List Int×List Int):=Nat.rec (fun _ _ _ _ _ _ _ _ _ _=>none) (fun _ r=>qaj k r) n
def qcd (k:Nat) (rec:Nat→Nat→Nat→Int→Int→Int→Int→List Int→List Int→Option (Int×List Int×List Int)) (u0:Nat) (u1:Nat) (v:Nat) (d:Int) (carry:Int) (x:Int) (x1:Int) (us:List Int) (vs:List Int):Option (Int×List Int×List Int):=
 if((decide (x1<x))=true)then
 if(((0:Int)≤x1)∧(x1<((u1:Nat):Int)))then
 Option.bind (us)[(u0+(Int.toNat x1))]? fun x10=>
 if((decide (x1<((v:Nat):Int)))=true)then
 if(((0:Int)≤x1)∧(x1<((v:Nat):Int)))then
 Option.bind (vs)[(0+(Int.toNat x1))]? fun x11=>
 if(((0:Int)≤x1)∧(x1<((u1:Nat):Int)))then
 Option.bind (us)[(u0+(Int.toNat x1))]? fun x12=>
 rec u0 u1 v d (Int.fdiv (IntKind.wrap .u64 ((IntKind.wrap .u64 ((IntKind.wrap .u64 x10)+carry))+(IntKind.wrap .u64 x11))) (4294967296:Int)) x (IntKind.wrap .i64 (x1+(1:Int))) (List.set us (u0+(Int.toNat x1)) (IntKind.wrap .u32 (IntKind.wrap .u64 ((IntKind.wrap .u64 ((IntKind.wrap .u64 x10)+carry))+(IntKind.wrap .u64 x11))))) vs
 else
 none
 else
 none
 else
 if(((0:Int)≤x1)∧(x1<((u1:Nat):Int)))then
 Option.bind (us)[(u0+(Int.toNat x1))]? fun x11=>
 rec u0 u1 v d (Int.fdiv (IntKind.wrap .u64 ((IntKind.wrap .u64 x10)+carry)) (4294967296:Int)) x (IntKind.wrap .i64 (x1+(1:Int))) (List.set us (u0+(Int.toNat x1)) (IntKind.wrap .u32 (IntKind.wrap .u64 ((IntKind.wrap .u64 x10)+carry)))) vs
 else
 none
 else
 none
 else
 (some (d,us,vs))
def qb5 (k n:Nat):Nat→Nat→Nat→Int→Int→Int→Int→List Int→List Int→Option (Int×List Int×List Int):=Nat.rec (fun _ _ _ _ _ _ _ _ _=>none) (fun _ r=>qcd k r) n
def qgc (k:Nat) (u0:Nat) (u1:Nat) (v:Nat) (d:Int) (us:List Int) (vs:List Int):Option (Int×List Int×List Int):=
 Option.bind (qaU k k u0 u1 v d (0:Int) (0:Int) ((u1:Nat):Int) (0:Int) us vs) fun r18=>
 if((r18.2.2.2.2.1 == (0:Int))=true)then
 (some ((IntKind.wrap .u32 r18.2.2.2.1),r18.2.2.2.2.2.1,r18.2.2.2.2.2.2))
 else
 Option.bind (qb5 k k r18.1 r18.2.1 r18.2.2.1 r18.2.2.2.1 (0:Int) ((r18.2.1:Nat):Int) (0:Int) r18.2.2.2.2.2.1 r18.2.2.2.2.2.2) fun r19=>
 (some ((IntKind.wrap .u32 (IntKind.wrap .u64 (r19.1-(1:Int)))),r19.2.1,r19.2.2))
def qgd:Nat→Nat→Nat→Nat→Int→List Int→List Int→Option (Int×List Int×List Int)
 | 0,_,_,_,_,_,_=>none
 | k+1,u0,u1,v,d,us,vs=>qgc k u0 u1 v d us vs
def qxo:Nat→Inst:=mkI 248 ⟨[.a (.sms 0),.a (.smz 1),vU],[.arr (.int .u32) 1 106 false,.arr (.int .u32) 1 106 false]⟩ [⟨[.a (.lf (.int .u32))],[.arr (.int .u32) 1 106 false,.arr (.int .u32) 1 106 false]⟩] fun k x=>qgd k x.1 x.2.1 x.2.2.1 x.2.2.2.1 x.2.2.2.2.1 x.2.2.2.2.2
def qxp (k:Nat):LInst:=mkL 0 [⟨[(0,.a (.sms 0)),(1,.a (.smz 1)),(2,vU),(7,vU),(8,vU),(14,vI),(15,vI)],[(0,some (.arr (.int .u32) 1 106 false)),(1,some (.arr (.int .u32) 1 106 false))],2⟩] [⟨some 0,⟨[(0,.a (.sms 0)),(1,.a (.smz 1)),(2,vU),(8,vU)],[(0,some (.arr (.int .u32) 1 106 false)),(1,some (.arr (.int .u32) 1 106 false))],2⟩⟩] (fun n x=>qaU k n x.1 x.2.1 x.2.2.1 x.2.2.2.1 x.2.2.2.2.1 x.2.2.2.2.2.1 x.2.2.2.2.2.2.1 x.2.2.2.2.2.2.2.1 x.2.2.2.2.2.2.2.2.1 x.2.2.2.2.2.2.2.2.2) k
theorem qrN (k:Nat):LIo 248 Tryz.f248 2 k (qxp k):=
 lpk [] a0 l0 (fun _=>rfl) (by kernel_rfl) fun n x=>by kernel_rfl
def qxq (k:Nat):LInst:=mkL 2 [⟨[(0,.a (.sms 0)),(1,.a (.smz 1)),(2,vU),(7,vU),(61,vI),(62,vI)],[(0,some (.arr (.int .u32) 1 106 false)),(1,some (.arr (.int .u32) 1 106 false))],2⟩] [⟨some 2,⟨[(2,vU)],[(0,some (.arr (.int .u32) 1 106 false)),(1,some (.arr (.int .u32) 1 106 false))],2⟩⟩] (fun n x=>qb5 k n x.1 x.2.1 x.2.2.1 x.2.2.2.1 x.2.2.2.2.1 x.2.2.2.2.2.1 x.2.2.2.2.2.2.1 x.2.2.2.2.2.2.2.1 x.2.2.2.2.2.2.2.2) k
theorem qxr (k:Nat):LIo 248 Tryz.f248 2 k (qxq k):=
 lpk [] a0 (lc (qrN k) l0) (fun _=>rfl) (by kernel_rfl) fun n x=>by kernel_rfl
theorem qAN:∀k,qe (call cf k) (qxo k):=
 fnk 2 [0,2] Tryz.func248 (fun k=>a0) (fun k=>(lc (qrN k) (lc (qxr k) l0))) ⟨rfl,rfl,⟨rfl,Nat.le_of_ble_eq_true rfl⟩,rfl⟩ (fun _=>rfl) (by kernel_rfl) fun k x=>by kernel_rfl

def qfj (k:Nat) (rec:List Int→List Int→Int→Option (List Int×List Int×Int)) (a:List Int) (b:List Int) (bits:Int):Option (List Int×List Int×Int):=
 if((0:Int)≤(IntKind.wrap .i64 ((((List.length b):Nat):Int)-(1:Int))))then
 Option.bind (b)[(Int.toNat (IntKind.wrap .i64 ((((List.length b):Nat):Int)-(1:Int))))]? fun x6=>
 if(bits<(0:Int))then
 none
 else
 if(((Int.fdiv (IntKind.wrap .u32 (x6*((2:Int)^(min (Int.toNat bits) 32)))) (2147483648:Int)) == (0:Int))=true)then
 rec a b (IntKind.wrap .u64 (bits+(1:Int)))
 else
 (some (a,b,bits))
 else
 none
def qeT (k n:Nat):List Int→List Int→Int→Option (List Int×List Int×Int):=Nat.rec (fun _ _ _=>none) (fun _ r=>qfj k r) n
def qbL (k:Nat) (rec:Nat→Int→Int→Nat→Nat→Int→Int→Int→List Int→List Int→List Int→Option (Nat×Int×Int×Nat×Nat×Int×Int×List Int×List Int×List Int)) (q:Nat) (bits:Int) (n:Int) (u:Nat) (v:Nat) (j:Int) (d:Int) (rest:Int) (qs:List Int) (us:List Int) (vs:List Int):Option (Nat×Int×Int×Nat×Nat×Int×Int×List Int×List Int×List Int):=
 if((decide (d>(4294967295:Int)))=false)then
 if((decide (rest≤(4294967295:Int)))=true)then
 if(((0:Int)≤(IntKind.wrap .i64 (n-(2:Int))))∧((IntKind.wrap .i64 (n-(2:Int)))<((v:Nat):Int)))then
 Option.bind (vs)[(0+(Int.toNat (IntKind.wrap .i64 (n-(2:Int)))))]? fun x10=>
 if(((0:Int)≤(IntKind.wrap .i64 ((IntKind.wrap .i64 (j+n))-(2:Int))))∧((IntKind.wrap .i64 ((IntKind.wrap .i64 (j+n))-(2:Int)))<((u:Nat):Int)))then
 Option.bind (us)[(0+(Int.toNat (IntKind.wrap .i64 ((IntKind.wrap .i64 (j+n))-(2:Int)))))]? fun x11=>
 if((decide ((IntKind.wrap .u64 (d*(IntKind.wrap .u64 x10)))>(IntKind.wrap .u64 (((BitVec.toNat ((BitVec.ofInt 64 (IntKind.wrap .u64 (rest*(4294967296:Int)))) ||| (BitVec.ofInt 64 (IntKind.wrap .u64 x11)))):Nat):Int))))=true)then
 if(((0:Int)≤(IntKind.wrap .i64 (n-(1:Int))))∧((IntKind.wrap .i64 (n-(1:Int)))<((v:Nat):Int)))then
 Option.bind (vs)[(0+(Int.toNat (IntKind.wrap .i64 (n-(1:Int)))))]? fun x12=>
 if((decide ((IntKind.wrap .u64 (rest+(IntKind.wrap .u64 x12)))>(4294967295:Int)))=true)then
 (some (q,bits,n,u,v,j,(IntKind.wrap .u64 (d-(1:Int))),qs,us,vs))
 else
 rec q bits n u v j (IntKind.wrap .u64 (d-(1:Int))) (IntKind.wrap .u64 (rest+(IntKind.wrap .u64 x12))) qs us vs
 else
 none
 else
 (some (q,bits,n,u,v,j,d,qs,us,vs))
 else
 none
 else
 none
 else
 (some (q,bits,n,u,v,j,d,qs,us,vs))
 else
 if(((0:Int)≤(IntKind.wrap .i64 (n-(1:Int))))∧((IntKind.wrap .i64 (n-(1:Int)))<((v:Nat):Int)))then
 Option.bind (vs)[(0+(Int.toNat (IntKind.wrap .i64 (n-(1:Int)))))]? fun x10=>
 if((decide ((IntKind.wrap .u64 (rest+(IntKind.wrap .u64 x10)))>(4294967295:Int)))=true)then
 (some (q,bits,n,u,v,j,(IntKind.wrap .u64 (d-(1:Int))),qs,us,vs))
 else
 rec q bits n u v j (IntKind.wrap .u64 (d-(1:Int))) (IntKind.wrap .u64 (rest+(IntKind.wrap .u64 x10))) qs us vs
 else
 none
def qcX (k n:Nat):Nat→Int→Int→Nat→Nat→Int→Int→Int→List Int→List Int→List Int→Option (Nat×Int×Int×Nat×Nat×Int×Int×List Int×List Int×List Int):=Nat.rec (fun _ _ _ _ _ _ _ _ _ _ _=>none) (fun _ r=>qbL k r) n
def qfk (k:Nat) (rec:Nat→Int→Int→Nat→Nat→Int→List Int→List Int→List Int→Option (Nat×Int×Int×Nat×List Int×List Int×List Int)) (q:Nat) (bits:Int) (n:Int) (u:Nat) (v:Nat) (j:Int) (qs:List Int) (us:List Int) (vs:List Int):Option (Nat×Int×Int×Nat×List Int×List Int×List Int):=
 if((decide (j≥(0:Int)))=true)then
 if(((0:Int)≤(IntKind.wrap .i64 (j+n)))∧((IntKind.wrap .i64 (j+n))<((u:Nat):Int)))then
 Option.bind (us)[(0+(Int.toNat (IntKind.wrap .i64 (j+n))))]? fun x6=>
 if(((0:Int)≤(IntKind.wrap .i64 ((IntKind.wrap .i64 (j+n))-(1:Int))))∧((IntKind.wrap .i64 ((IntKind.wrap .i64 (j+n))-(1:Int)))<((u:Nat):Int)))then
 Option.bind (us)[(0+(Int.toNat (IntKind.wrap .i64 ((IntKind.wrap .i64 (j+n))-(1:Int)))))]? fun x7=>
 if(((0:Int)≤(IntKind.wrap .i64 (n-(1:Int))))∧((IntKind.wrap .i64 (n-(1:Int)))<((v:Nat):Int)))then
 Option.bind (vs)[(0+(Int.toNat (IntKind.wrap .i64 (n-(1:Int)))))]? fun x8=>
 if((IntKind.wrap .u64 x8)=(0:Int))then
 none
 else
 if(((0:Int)≤(IntKind.wrap .i64 (n-(1:Int))))∧((IntKind.wrap .i64 (n-(1:Int)))<((v:Nat):Int)))then
 Option.bind (vs)[(0+(Int.toNat (IntKind.wrap .i64 (n-(1:Int)))))]? fun x9=>
 if((IntKind.wrap .u64 x9)=(0:Int))then
 none
 else
 Option.bind (qcX k k q bits n u v j (IntKind.wrap .u64 (Int.tdiv (IntKind.wrap .u64 (((BitVec.toNat ((BitVec.ofInt 64 (IntKind.wrap .u64 ((IntKind.wrap .u64 x6)*(4294967296:Int)))) ||| (BitVec.ofInt 64 (IntKind.wrap .u64 x7)))):Nat):Int)) (IntKind.wrap .u64 x8))) (Int.tmod (IntKind.wrap .u64 (((BitVec.toNat ((BitVec.ofInt 64 (IntKind.wrap .u64 ((IntKind.wrap .u64 x6)*(4294967296:Int)))) ||| (BitVec.ofInt 64 (IntKind.wrap .u64 x7)))):Nat):Int)) (IntKind.wrap .u64 x9)) qs us vs) fun r17=>
 if(((0:Int)≤r17.2.2.2.2.2.1)∧((r17.2.2.2.2.2.1≤(IntKind.wrap .i64 ((IntKind.wrap .i64 (r17.2.2.2.2.2.1+r17.2.2.1))+(1:Int))))∧(((0+(Int.toNat (IntKind.wrap .i64 ((IntKind.wrap .i64 (r17.2.2.2.2.2.1+r17.2.2.1))+(1:Int)))))≤(List.length r17.2.2.2.2.2.2.2.2.1))∧((r17.2.2.2.2.2.1<(IntKind.wrap .i64 ((IntKind.wrap .i64 (r17.2.2.2.2.2.1+r17.2.2.1))+(1:Int))))∨(false=true)))))then
 Option.bind (qgd k (0+(Int.toNat r17.2.2.2.2.2.1)) ((Int.toNat (IntKind.wrap .i64 ((IntKind.wrap .i64 (r17.2.2.2.2.2.1+r17.2.2.1))+(1:Int))))-(Int.toNat r17.2.2.2.2.2.1)) r17.2.2.2.2.1 r17.2.2.2.2.2.2.1 r17.2.2.2.2.2.2.2.2.1 r17.2.2.2.2.2.2.2.2.2) fun r18=>
 if(((0:Int)≤r17.2.2.2.2.2.1)∧(r17.2.2.2.2.2.1<((r17.1:Nat):Int)))then
 Option.bind (r17.2.2.2.2.2.2.2.1)[(0+(Int.toNat r17.2.2.2.2.2.1))]? fun x10=>
 rec r17.1 r17.2.1 r17.2.2.1 r17.2.2.2.1 r17.2.2.2.2.1 (IntKind.wrap .i64 (r17.2.2.2.2.2.1-(1:Int))) (List.set r17.2.2.2.2.2.2.2.1 (0+(Int.toNat r17.2.2.2.2.2.1)) r18.1) r18.2.1 r18.2.2
 else
 none
 else
 none
 else
 none
 else
 none
 else
 none
 else
 none
 else
 (some (q,bits,n,u,qs,us,vs))
def qf6 (k n:Nat):Nat→Int→Int→Nat→Nat→Int→List Int→List Int→List Int→Option (Nat×Int×Int×Nat×List Int×List Int×List Int):=Nat.rec (fun _ _ _ _ _ _ _ _ _=>none) (fun _ r=>qfk k r) n
def qfl (k:Nat) (rec:Nat→Nat→Int→Nat→Int→Int→List Int→List Int→List Int→Option (Nat×Nat×List Int×List Int×List Int)) (q:Nat) (r:Nat) (bits:Int) (u:Nat) (x:Int) (x1:Int) (qs:List Int) (rs:List Int) (us:List Int):Option (Nat×Nat×List Int×List Int×List Int):=
 if((decide (x1<x))=true)then
 if(((0:Int)≤x1)∧(x1<((u:Nat):Int)))then
 Option.bind (us)[(0+(Int.toNat x1))]? fun x6=>
 if(bits<(0:Int))then
 none
 else
 if(((0:Int)≤(IntKind.wrap .i64 (x1+(1:Int))))∧((IntKind.wrap .i64 (x1+(1:Int)))<((u:Nat):Int)))then
 Option.bind (us)[(0+(Int.toNat (IntKind.wrap .i64 (x1+(1:Int)))))]? fun x7=>
 if((IntKind.wrap .u64 ((32:Int)-bits))<(0:Int))then
 none
 else
 if(((0:Int)≤x1)∧(x1<((r:Nat):Int)))then
 Option.bind (rs)[(0+(Int.toNat x1))]? fun x8=>
 rec q r bits u x (IntKind.wrap .i64 (x1+(1:Int))) qs (List.set rs (0+(Int.toNat x1)) (IntKind.wrap .u32 (((BitVec.toNat ((BitVec.ofInt 32 (Int.fdiv x6 ((2:Int)^(min (Int.toNat bits) 32)))) ||| (BitVec.ofInt 32 (IntKind.wrap .u32 (IntKind.wrap .u64 ((IntKind.wrap .u64 x7)*((2:Int)^(min (Int.toNat (IntKind.wrap .u64 ((32:Int)-bits))) 64)))))))):Nat):Int))) us
 else
 none
 else
 none
 else
 none
 else
 (some (q,r,qs,rs,us))
def qeU (k n:Nat):Nat→Nat→Int→Nat→Int→Int→List Int→List Int→List Int→Option (Nat×Nat×List Int×List Int×List Int):=Nat.rec (fun _ _ _ _ _ _ _ _ _=>none) (fun _ r=>qfl k r) n
def qjM (k:Nat) (a:List Int) (b:List Int):Option (List Int×List Int):=
 Option.bind (qeT k k a b (0:Int)) fun r14=>
 Option.bind (qgR k r14.1 r14.2.2) fun r15=>
 Option.bind (qgR k r14.2.1 r14.2.2) fun r16=>
 if(((0:Int)≤(0:Int))∧(((0:Int)≤(((List.length r14.2.1):Nat):Int))∧(((0+(Int.toNat (((List.length r14.2.1):Nat):Int)))≤(List.length r16.2))∧(((0:Int)<(((List.length r14.2.1):Nat):Int))∨(true=true)))))then
 if(((0:Int)≤(IntKind.wrap .i64 (((r15.1:Nat):Int)-(((List.length r14.2.1):Nat):Int))))∧(((IntKind.wrap .i64 (((r15.1:Nat):Int)-(((List.length r14.2.1):Nat):Int)))≤(IntKind.wrap .i64 (((r15.1:Nat):Int)-(((List.length r14.2.1):Nat):Int))))∧(((IntKind.wrap .i64 (((r15.1:Nat):Int)-(((List.length r14.2.1):Nat):Int)))*(4:Int))≤(140737488355328:Int))))then
 Option.bind (qf6 k k (Int.toNat (IntKind.wrap .i64 (((r15.1:Nat):Int)-(((List.length r14.2.1):Nat):Int)))) r14.2.2 (((List.length r14.2.1):Nat):Int) r15.1 (Int.toNat (((List.length r14.2.1):Nat):Int)) (IntKind.wrap .i64 ((IntKind.wrap .i64 (((r15.1:Nat):Int)-(((List.length r14.2.1):Nat):Int)))-(1:Int))) (List.replicate (Int.toNat (IntKind.wrap .i64 (((r15.1:Nat):Int)-(((List.length r14.2.1):Nat):Int)))) (0:Int)) r15.2 r16.2) fun r17=>
 if(((0:Int)≤r17.2.2.1)∧((r17.2.2.1≤r17.2.2.1)∧((r17.2.2.1*(4:Int))≤(140737488355328:Int))))then
 Option.bind (qeU k k r17.1 (Int.toNat r17.2.2.1) r17.2.1 r17.2.2.2.1 r17.2.2.1 (0:Int) r17.2.2.2.2.1 (List.replicate (Int.toNat r17.2.2.1) (0:Int)) r17.2.2.2.2.2.1) fun r18=>
 if((0+r18.1)≤(List.length r18.2.2.1))then
 if((0+r18.2.1)≤(List.length r18.2.2.2.1))then
 (some ((List.take r18.1 r18.2.2.1),(List.take r18.2.1 r18.2.2.2.1)))
 else
 none
 else
 none
 else
 none
 else
 none
 else
 none
def qii:Nat→List Int→List Int→Option (List Int×List Int)
 | 0,_,_=>none
 | k+1,a,b=>qjM k a b
def qB7:Nat→Inst:=mkI 242 ⟨[vT,vT],[]⟩ [⟨[vT,vT],[]⟩] fun k x=>qii k x.1 x.2
theorem qly (k:Nat):qat (call cf k) [qxl k,qxo k]:=
 ac (qAM k) (ac (qAN k) a0)
def qkw:SS:=⟨[(0,vT),(1,vT),(6,vU)],[],0⟩
def qxs (k:Nat):LInst:=mkL 0 [qkw] [⟨some 0,qkw⟩] (fun n x=>qeT k n x.1 x.2.1 x.2.2) k
theorem qlz (k:Nat):LIo 242 Tryz.f242 0 k (qxs k):=
 lpk [] (qly k) l0 (fun _=>rfl) (by kernel_rfl) fun n x=>by kernel_rfl
def qxt (k:Nat):LInst:=mkL 4 [⟨[(4,.a (.smz 0)),(6,vU),(7,vI),(8,.a (.smz 1)),(9,.a (.smz 2)),(10,vI),(12,vU),(13,vU)],[(0,some (.arr (.int .u32) 1 106 false)),(1,some (.arr (.int .u32) 1 106 false)),(2,some (.arr (.int .u32) 1 106 false))],3⟩] [⟨some 4,⟨[(4,.a (.smz 0)),(6,vU),(7,vI),(8,.a (.smz 1)),(9,.a (.smz 2)),(10,vI),(12,vU)],[(0,some (.arr (.int .u32) 1 106 false)),(1,some (.arr (.int .u32) 1 106 false)),(2,some (.arr (.int .u32) 1 106 false))],3⟩⟩] (fun n x=>qcX k n x.1 x.2.1 x.2.2.1 x.2.2.2.1 x.2.2.2.2.1 x.2.2.2.2.2.1 x.2.2.2.2.2.2.1 x.2.2.2.2.2.2.2.1 x.2.2.2.2.2.2.2.2.1 x.2.2.2.2.2.2.2.2.2.1 x.2.2.2.2.2.2.2.2.2.2) k
theorem qn2 (k:Nat):LIo 242 Tryz.f242 0 k (qxt k):=
 lpk [] (qly k) (lc (qlz k) l0) (fun _=>rfl) (by kernel_rfl) fun n x=>by kernel_rfl
def qxu (k:Nat):LInst:=mkL 2 [⟨[(4,.a (.smz 0)),(6,vU),(7,vI),(8,.a (.smz 1)),(9,.a (.smz 2)),(10,vI)],[(0,some (.arr (.int .u32) 1 106 false)),(1,some (.arr (.int .u32) 1 106 false)),(2,some (.arr (.int .u32) 1 106 false))],3⟩] [⟨some 2,⟨[(4,.a (.smz 0)),(6,vU),(7,vI),(8,.a (.smz 1))],[(0,some (.arr (.int .u32) 1 106 false)),(1,some (.arr (.int .u32) 1 106 false)),(2,some (.arr (.int .u32) 1 106 false))],3⟩⟩] (fun n x=>qf6 k n x.1 x.2.1 x.2.2.1 x.2.2.2.1 x.2.2.2.2.1 x.2.2.2.2.2.1 x.2.2.2.2.2.2.1 x.2.2.2.2.2.2.2.1 x.2.2.2.2.2.2.2.2) k
theorem qrO (k:Nat):LIo 242 Tryz.f242 0 k (qxu k):=
 lpk [4] (qly k) (lc (qlz k) (lc (qn2 k) l0)) (fun _=>rfl) (by kernel_rfl) fun n x=>by kernel_rfl
def qxv (k:Nat):LInst:=mkL 6 [⟨[(4,.a (.smz 0)),(5,.a (.smz 1)),(6,vU),(8,.a (.smz 2)),(139,vI),(140,vI)],[(0,some (.arr (.int .u32) 1 106 false)),(1,some (.arr (.int .u32) 1 106 false)),(2,some (.arr (.int .u32) 1 106 false))],3⟩] [⟨some 6,⟨[(4,.a (.smz 0)),(5,.a (.smz 1))],[(0,some (.arr (.int .u32) 1 106 false)),(1,some (.arr (.int .u32) 1 106 false)),(2,some (.arr (.int .u32) 1 106 false))],3⟩⟩] (fun n x=>qeU k n x.1 x.2.1 x.2.2.1 x.2.2.2.1 x.2.2.2.2.1 x.2.2.2.2.2.1 x.2.2.2.2.2.2.1 x.2.2.2.2.2.2.2.1 x.2.2.2.2.2.2.2.2) k
theorem qxw (k:Nat):LIo 242 Tryz.f242 0 k (qxv k):=
 lpk [] (qly k) (lc (qlz k) (lc (qn2 k) (lc (qrO k) l0))) (fun _=>rfl) (by kernel_rfl) fun n x=>by kernel_rfl
theorem qAO:∀k,qe (call cf k) (qB7 k):=
 fnk 0 [0,2,6] Tryz.func242 (fun k=>(qly k)) (fun k=>(lc (qlz k) (lc (qn2 k) (lc (qrO k) (lc (qxw k) l0))))) ⟨rfl,rfl,⟨rfl,Nat.le_of_ble_eq_true rfl⟩,rfl⟩ (fun _=>rfl) (by kernel_rfl) fun k x=>by kernel_rfl

def qd6 (k:Nat) (a:List Int) (b:List Int):Option (List Int×List Int):=
 Option.bind (qjb k a b) fun r13=>
 if((decide (r13<(0:Int)))=true)then
 (some ([],a))
 else
 if(((((List.length b):Nat):Int) == (1:Int))=true)then
 Option.bind (b)[0]? fun x6=>
 Option.bind (qjd k a x6) fun r14=>
 (some (r14.1,(List.take 1 (r14.2:: []))))
 else
 Option.bind (qii k a b) fun r14=>
 (some (r14.1,r14.2))
def qd7:Nat→List Int→List Int→Option (List Int×List Int)
 | 0,_,_=>none
 | k+1,a,b=>qd6 k a b
def qxx:Nat→Inst:=mkI 231 ⟨[vT,vT],[]⟩ [⟨[vT,vT],[]⟩] fun k x=>qd7 k x.1 x.2
theorem qus:∀k,qe (call cf k) (qxx k):=
 fnk 0 [] Tryz.func231 (fun k=>(ac (qur k) (ac (qAL k) (ac (qAO k) a0)))) (fun k=>l0) ⟨rfl,rfl,⟨rfl,Nat.le_of_ble_eq_true rfl⟩,rfl⟩ (fun _=>rfl) (by kernel_rfl) fun k x=>by kernel_rfl

def qdY (k:Nat) (rec:List Int→List Int→Bool→List Int→Bool→List Int→Option (List Int×Bool×List Int×Bool×List Int)) (a:List Int) (b:List Int) (m0:Bool) (m1:List Int) (m01:Bool) (m11:List Int):Option (List Int×Bool×List Int×Bool×List Int):=
 if((decide ((((List.length b):Nat):Int)>(0:Int)))=true)then
 Option.bind (qd7 k a b) fun r13=>
 if(((0+(List.length r13.2))*4)≤140737488355328)then
 if((0+(0+(List.length r13.2)))≤(List.length ((List.take 0 [])++r13.2)))then
 Option.bind (qdW k (List.take (0+(List.length r13.2)) ((List.take 0 [])++r13.2))) fun r14=>
 rec b r14 m0 m1 m01 m11
 else
 none
 else
 none
 else
 (some (a,m0,m1,m01,m11))
def qep (k n:Nat):List Int→List Int→Bool→List Int→Bool→List Int→Option (List Int×Bool×List Int×Bool×List Int):=Nat.rec (fun _ _ _ _ _ _=>none) (fun _ r=>qdY k r) n
def qh1 (k:Nat) (x0:Bool) (x1:List Int) (y0:Bool) (y1:List Int):Option (Bool×List Int×Bool×List Int×Bool×List Int):=
 Option.bind (qep k k x1 y1 x0 x1 y0 y1) fun r13=>
 Option.bind (qbJ k false r13.1 false) fun r14=>
 (some (r13.2.1,r13.2.2.1,r13.2.2.2.1,r13.2.2.2.2,r14.1,r14.2))
def qgS:Nat→Bool→List Int→Bool→List Int→Option (Bool×List Int×Bool×List Int×Bool×List Int)
 | 0,_,_,_,_=>none
 | k+1,x0,x1,y0,y1=>qh1 k x0 x1 y0 y1
def Iq1:Nat→Inst:=mkI 203 ⟨[.a (.ptr 0 0 0),.a (.ptr 1 0 0)],[.raw [[.lf .bool,.lf cW]] 2 147 true false false,.raw [[.lf .bool,.lf cW]] 2 147 true false false]⟩ [⟨[.a (.ptr 2 0 0)],[.raw [[.lf .bool,.lf cW]] 2 147 true false false,.raw [[.lf .bool,.lf cW]] 2 147 true false false,.raw [[.lf .bool,.lf cW]] 2 147 true false false]⟩] fun k x=>qgS k x.1 x.2.1 x.2.2.1 x.2.2.2
theorem qxy (k:Nat):qat (call cf k) [qxx k,qwD k,Iq8 k]:=
 ac (qus k) (ac (qlt k) (ac (qqn k) a0))
def qxz (k:Nat):LInst:=mkL 0 [⟨[(5,vT),(6,vT)],[(0,some (.raw [[.lf .bool,.lf cW]] 2 147 true false false)),(1,some (.raw [[.lf .bool,.lf cW]] 2 147 true false false))],2⟩] [⟨some 0,⟨[(5,vT)],[(0,some (.raw [[.lf .bool,.lf cW]] 2 147 true false false)),(1,some (.raw [[.lf .bool,.lf cW]] 2 147 true false false))],2⟩⟩] (fun n x=>qep k n x.1 x.2.1 x.2.2.1 x.2.2.2.1 x.2.2.2.2.1 x.2.2.2.2.2) k
theorem qxA (k:Nat):LIo 203 Tryz.f203 2 k (qxz k):=
 lpk [] (qxy k) l0 (fun _=>rfl) (by kernel_rfl) fun n x=>by kernel_rfl
theorem qB8:∀k,qe (call cf k) (Iq1 k):=
 fnk 2 [0] Tryz.func203 (fun k=>(qxy k)) (fun k=>(lc (qxA k) l0)) ⟨rfl,rfl,⟨rfl,Nat.le_of_ble_eq_true rfl⟩,rfl⟩ (fun _=>rfl) (by kernel_rfl) fun k x=>by kernel_rfl

def qe4 (k:Nat) (z:Bool) (x0:Bool) (x1:List Int) (y0:Bool) (y1:List Int) (r:Bool):Option (Bool×List Int×Bool×List Int×Bool×List Int×Bool×List Int):=
 Option.bind (qd7 k x1 y1) fun r14=>
 Option.bind (qbJ k x0 r14.2 r) fun r15=>
 Option.bind (qbJ k (!(x0 == y0)) r14.1 z) fun r16=>
 (some (r16.1,r16.2,x0,x1,y0,y1,r15.1,r15.2))
def qdR:Nat→Bool→Bool→List Int→Bool→List Int→Bool→Option (Bool×List Int×Bool×List Int×Bool×List Int×Bool×List Int)
 | 0,_,_,_,_,_,_=>none
 | k+1,z,x0,x1,y0,y1,r=>qe4 k z x0 x1 y0 y1 r
def Iq6:Nat→Inst:=mkI 232 ⟨[.a (.ptr 0 0 0),.a (.ptr 1 0 0),.a (.ptr 2 0 0),.a (.ptr 3 0 0)],[.raw [[.lf .bool,.snil 1 106]] 2 147 true false false,.raw [[.lf .bool,.lf cW]] 2 147 true false false,.raw [[.lf .bool,.lf cW]] 2 147 true false false,.raw [[.lf .bool,.snil 1 106]] 2 147 true false false]⟩ [⟨[.a (.ptr 0 0 0),.a (.ptr 3 0 0)],[.raw [[.lf .bool,.lf cW]] 2 147 true false false,.raw [[.lf .bool,.lf cW]] 2 147 true false false,.raw [[.lf .bool,.lf cW]] 2 147 true false false,.raw [[.lf .bool,.lf cW]] 2 147 true false false]⟩] fun k x=>qdR k x.1 x.2.1 x.2.2.1 x.2.2.2.1 x.2.2.2.2.1 x.2.2.2.2.2
theorem qB9:∀k,qe (call cf k) (Iq6 k):=
 fnk 4 [] Tryz.func232 (fun k=>(ac (qus k) (ac (qqn k) a0))) (fun k=>l0) ⟨rfl,rfl,⟨rfl,Nat.le_of_ble_eq_true rfl⟩,rfl⟩ (fun _=>rfl) (by kernel_rfl) fun k x=>by kernel_rfl

def qkR (k:Nat) (z:Bool) (x0:Bool) (x1:List Int) (y0:Bool) (y1:List Int):Option (Bool×List Int×Bool×List Int×Bool×List Int):=
 Option.bind (qdR k z x0 x1 y0 y1 false) fun r14=>
 (some (r14.1,r14.2.1,r14.2.2.1,r14.2.2.2.1,r14.2.2.2.2.1,r14.2.2.2.2.2.1))
def qce:Nat→Bool→Bool→List Int→Bool→List Int→Option (Bool×List Int×Bool×List Int×Bool×List Int)
 | 0,_,_,_,_,_=>none
 | k+1,z,x0,x1,y0,y1=>qkR k z x0 x1 y0 y1
def Iq7:Nat→Inst:=mkI 204 ⟨[.a (.ptr 0 0 0),.a (.ptr 1 0 0),.a (.ptr 2 0 0)],[.raw [[.lf .bool,.snil 1 106]] 2 147 true false false,.raw [[.lf .bool,.lf cW]] 2 147 true false false,.raw [[.lf .bool,.lf cW]] 2 147 true false false]⟩ [⟨[.a (.ptr 0 0 0)],[.raw [[.lf .bool,.lf cW]] 2 147 true false false,.raw [[.lf .bool,.lf cW]] 2 147 true false false,.raw [[.lf .bool,.lf cW]] 2 147 true false false]⟩] fun k x=>qce k x.1 x.2.1 x.2.2.1 x.2.2.2.1 x.2.2.2.2
theorem qCa:∀k,qe (call cf k) (Iq7 k):=
 fnk 3 [] Tryz.func204 (fun k=>(ac (qB9 k) a0)) (fun k=>l0) ⟨rfl,rfl,⟨rfl,Nat.le_of_ble_eq_true rfl⟩,rfl⟩ (fun _=>rfl) (by kernel_rfl) fun k x=>by kernel_rfl

def qdl (k:Nat) (z0:Bool) (z1:Bool) (n0:Bool) (n1:List Int) (d0:Bool) (d1:List Int):Option (Bool×List Int×Bool×List Int×Bool×List Int×Bool×List Int):=
 Option.bind (qgS k n0 n1 d0 d1) fun r13=>
 if(r13.2.2.1=true)then
 Option.bind (qce k false r13.1 r13.2.1 true r13.2.2.2.2.2) fun r14=>
 Option.bind (qce k false r13.2.2.1 r13.2.2.2.1 r14.2.2.2.2.1 r14.2.2.2.2.2) fun r15=>
 (some (r14.1,r14.2.1,r15.1,r15.2.1,r14.2.2.1,r14.2.2.2.1,r15.2.2.1,r15.2.2.2.1))
 else
 Option.bind (qce k false r13.1 r13.2.1 r13.2.2.2.2.1 r13.2.2.2.2.2) fun r14=>
 Option.bind (qce k false r13.2.2.1 r13.2.2.2.1 r14.2.2.2.2.1 r14.2.2.2.2.2) fun r15=>
 (some (r14.1,r14.2.1,r15.1,r15.2.1,r14.2.2.1,r14.2.2.2.1,r15.2.2.1,r15.2.2.2.1))
def qdm:Nat→Bool→Bool→Bool→List Int→Bool→List Int→Option (Bool×List Int×Bool×List Int×Bool×List Int×Bool×List Int)
 | 0,_,_,_,_,_,_=>none
 | k+1,z0,z1,n0,n1,d0,d1=>qdl k z0 z1 n0 n1 d0 d1
def qCb:Nat→Inst:=mkI 144 ⟨[.a (.ptr 0 0 0),.a (.ptr 1 0 0),.a (.ptr 2 0 0)],[.raw [[.lf .bool,.snil 1 106,.lf .bool,.snil 1 106]] 4 180 true false false,.raw [[.lf .bool,.lf cW]] 2 147 true false false,.raw [[.lf .bool,.lf cW]] 2 147 true false false]⟩ [⟨[.a (.ptr 0 0 0)],[.raw [[.lf .bool,.lf cW,.lf .bool,.lf cW]] 4 180 true false false,.raw [[.lf .bool,.lf cW]] 2 147 true false false,.raw [[.lf .bool,.lf cW]] 2 147 true false false]⟩] fun k x=>qdm k x.1 x.2.1 x.2.2.1 x.2.2.2.1 x.2.2.2.2.1 x.2.2.2.2.2
theorem qAP:∀k,qe (call cf k) (qCb k):=
 fnk 3 [] Tryz.func144 (fun k=>(ac (qB8 k) (ac (qCa k) a0))) (fun k=>l0) ⟨rfl,rfl,⟨rfl,Nat.le_of_ble_eq_true rfl⟩,rfl⟩ (fun _=>rfl) (by kernel_rfl) fun k x=>by kernel_rfl

def qmK (k:Nat) (n0:Bool) (n1:List Int) (d0:Bool) (d1:List Int):Option (Bool×List Int×Bool×List Int×Bool×List Int×Bool×List Int):=
 Option.bind (qdm k false false n0 n1 d0 d1) fun r13=>
 (some (r13.2.2.2.2.1,r13.2.2.2.2.2.1,r13.2.2.2.2.2.2.1,r13.2.2.2.2.2.2.2,r13.1,r13.2.1,r13.2.2.1,r13.2.2.2.1))
def qeM:Nat→Bool→List Int→Bool→List Int→Option (Bool×List Int×Bool×List Int×Bool×List Int×Bool×List Int)
 | 0,_,_,_,_=>none
 | k+1,n0,n1,d0,d1=>qmK k n0 n1 d0 d1
def Iq0:Nat→Inst:=mkI 89 ⟨[.a (.ptr 0 0 0),.a (.ptr 1 0 0)],[.raw [[.lf .bool,.lf cW]] 2 147 true false false,.raw [[.lf .bool,.lf cW]] 2 147 true false false]⟩ [⟨[.a (.ptr 2 0 0)],[.raw [[.lf .bool,.lf cW]] 2 147 true false false,.raw [[.lf .bool,.lf cW]] 2 147 true false false,.raw [[.lf .bool,.lf cW,.lf .bool,.lf cW]] 4 180 true false false]⟩] fun k x=>qeM k x.1 x.2.1 x.2.2.1 x.2.2.2
theorem qCc:∀k,qe (call cf k) (Iq0 k):=
 fnk 2 [] Tryz.func89 (fun k=>(ac (qAP k) a0)) (fun k=>l0) ⟨rfl,rfl,⟨rfl,Nat.le_of_ble_eq_true rfl⟩,rfl⟩ (fun _=>rfl) (by kernel_rfl) fun k x=>by kernel_rfl

def qhv (k:Nat) (n0:Int) (n1:Int):Option (Bool×List Int×Bool×List Int):=
 Option.bind (qja k (max n1 (IntKind.wrap .i64 ((0:Int)-n1)))) fun r11=>
 if((decide (n1<(0:Int)))=true)then
 Option.bind (qcp k n0) fun r12=>
 Option.bind (qeM k r12.1 r12.2 r11.1 r11.2) fun r13=>
 (some (r13.2.2.2.2.1,r13.2.2.2.2.2.1,r13.2.2.2.2.2.2.1,r13.2.2.2.2.2.2.2))
 else
 Option.bind (qcp k n0) fun r12=>
 Option.bind (qdD k r11.1 r11.2 r12.1 r12.2) fun r13=>
 Option.bind (qcp k (1:Int)) fun r14=>
 Option.bind (qeM k r13.1 r13.2.1 r14.1 r14.2) fun r15=>
 (some (r15.2.2.2.2.1,r15.2.2.2.2.2.1,r15.2.2.2.2.2.2.1,r15.2.2.2.2.2.2.2))
def qgD:Nat→Int→Int→Option (Bool×List Int×Bool×List Int)
 | 0,_,_=>none
 | k+1,n0,n1=>qhv k n0 n1
def qCd:Nat→Inst:=mkI 214 ⟨[.g [.lf (.int .i64),.lf (.int .i64)]],[]⟩ [⟨[.a (.ptr 0 0 0)],[.raw [[.lf .bool,.lf cW,.lf .bool,.lf cW]] 4 180 true false false]⟩] fun k x=>qgD k x.1 x.2
theorem qAQ:∀k,qe (call cf k) (qCd k):=
 fnk 0 [] Tryz.func214 (fun k=>(ac (qAK k) (ac (qqo k) (ac (qCc k) (ac (qxe k) a0))))) (fun k=>l0) ⟨rfl,rfl,⟨rfl,Nat.le_of_ble_eq_true rfl⟩,rfl⟩ (fun _=>rfl) (by kernel_rfl) fun k x=>by kernel_rfl

def ql5 (k:Nat) (neg:Bool) (w:List Int):Option (Bool×List Int):=
 if(((0+(List.length w))*4)≤140737488355328)then
 if((0+(0+(List.length w)))≤(List.length ((List.take 0 [])++w)))then
 Option.bind (qdW k (List.take (0+(List.length w)) ((List.take 0 [])++w))) fun r13=>
 if(neg=true)then
 (some ((decide ((((List.length r13):Nat):Int)>(0:Int))),r13))
 else
 (some (false,r13))
 else
 none
 else
 none
def qiH:Nat→Bool→List Int→Option (Bool×List Int)
 | 0,_,_=>none
 | k+1,neg,w=>ql5 k neg w
def qCe:Nat→Inst:=mkI 202 ⟨[vB,vT],[]⟩ [⟨[.a (.ptr 0 0 0)],[.raw [[.lf .bool,.lf cW]] 2 147 true false false]⟩] fun k x=>qiH k x.1 x.2
theorem qAR:∀k,qe (call cf k) (qCe k):=
 fnk 0 [] Tryz.func202 (fun k=>(ac (qlt k) a0)) (fun k=>l0) ⟨rfl,rfl,⟨rfl,Nat.le_of_ble_eq_true rfl⟩,rfl⟩ (fun _=>rfl) (by kernel_rfl) fun k x=>by kernel_rfl

def qfm (k:Nat) (z0:Bool) (z1:List Int) (z2:Bool) (z3:List Int):Option (Bool×List Int×Bool×List Int×Bool×List Int):=
 if(((((List.length z3):Nat):Int) == (0:Int))=true)then
 Option.bind (qcp k (1:Int)) fun r13=>
 (some (z0,z1,z2,z3,r13.1,r13.2))
 else
 Option.bind (qiH k false z3) fun r13=>
 (some (z0,z1,z2,z3,r13.1,r13.2))
def qc2:Nat→Bool→List Int→Bool→List Int→Option (Bool×List Int×Bool×List Int×Bool×List Int)
 | 0,_,_,_,_=>none
 | k+1,z0,z1,z2,z3=>qfm k z0 z1 z2 z3
def qCf:Nat→Inst:=mkI 143 ⟨[.a (.ptr 0 0 0)],[.raw [[.lf .bool,.lf cW,.lf .bool,.lf cW]] 4 180 true false false]⟩ [⟨[.a (.ptr 1 0 0)],[.raw [[.lf .bool,.lf cW,.lf .bool,.lf cW]] 4 180 true false false,.raw [[.lf .bool,.lf cW]] 2 147 true false false]⟩] fun k x=>qc2 k x.1 x.2.1 x.2.2.1 x.2.2.2
theorem qAS:∀k,qe (call cf k) (qCf k):=
 fnk 1 [] Tryz.func143 (fun k=>(ac (qqo k) (ac (qAR k) a0))) (fun k=>l0) ⟨rfl,rfl,⟨rfl,Nat.le_of_ble_eq_true rfl⟩,rfl⟩ (fun _=>rfl) (by kernel_rfl) fun k x=>by kernel_rfl

def qe5 (k:Nat) (rec:Nat→Int→Int→Int→List Int→Int→Int→List Int→Int→Int→Bool→Bool→List Int→Bool→List Int→Bool→List Int→List Int→Option (Nat×Int×Int×List Int×Int×Int×Bool×Bool×List Int×Bool×List Int×Bool×List Int×List Int)) (out1:Nat) (i:Int) (a:Int) (carry:Int) (x:List Int) (x1:Int) (x2:Int) (x3:List Int) (x4:Int) (x5:Int) (z:Bool) (x0:Bool) (x11:List Int) (x21:Bool) (x31:List Int) (y0:Bool) (y1:List Int) (outs:List Int):Option (Nat×Int×Int×List Int×Int×Int×Bool×Bool×List Int×Bool×List Int×Bool×List Int×List Int):=
 if((decide (x5<x4))=true)then
 if((0:Int)≤x5)then
 Option.bind (x3)[(Int.toNat x5)]? fun x7=>
 if(((0:Int)≤(IntKind.wrap .i64 (i+x5)))∧((IntKind.wrap .i64 (i+x5))<((out1:Nat):Int)))then
 Option.bind (outs)[(0+(Int.toNat (IntKind.wrap .i64 (i+x5))))]? fun x8=>
 if(((0:Int)≤(IntKind.wrap .i64 (i+x5)))∧((IntKind.wrap .i64 (i+x5))<((out1:Nat):Int)))then
 Option.bind (outs)[(0+(Int.toNat (IntKind.wrap .i64 (i+x5))))]? fun x9=>
 rec out1 i a (Int.fdiv (IntKind.wrap .u64 ((IntKind.wrap .u64 ((IntKind.wrap .u64 ((IntKind.wrap .u64 a)*(IntKind.wrap .u64 x7)))+(IntKind.wrap .u64 x8)))+carry)) (4294967296:Int)) x x1 x2 x3 x4 (IntKind.wrap .i64 (x5+(1:Int))) z x0 x11 x21 x31 y0 y1 (List.set outs (0+(Int.toNat (IntKind.wrap .i64 (i+x5)))) (IntKind.wrap .u32 (IntKind.wrap .u64 ((IntKind.wrap .u64 ((IntKind.wrap .u64 ((IntKind.wrap .u64 a)*(IntKind.wrap .u64 x7)))+(IntKind.wrap .u64 x8)))+carry))))
 else
 none
 else
 none
 else
 none
 else
 (some (out1,i,carry,x,x1,x2,z,x0,x11,x21,x31,y0,y1,outs))
def qdZ (k n:Nat):Nat→Int→Int→Int→List Int→Int→Int→List Int→Int→Int→Bool→Bool→List Int→Bool→List Int→Bool→List Int→List Int→Option (Nat×Int×Int×List Int×Int×Int×Bool×Bool×List Int×Bool×List Int×Bool×List Int×List Int):=Nat.rec (fun _ _ _ _ _ _ _ _ _ _ _ _ _ _ _ _ _ _=>none) (fun _ r=>qe5 k r) n
def qe6 (k:Nat) (rec:Nat→List Int→Int→Int→Bool→Bool→List Int→Bool→List Int→Bool→List Int→List Int→Option (Nat×Bool×Bool×List Int×Bool×List Int×Bool×List Int×List Int)) (out1:Nat) (x:List Int) (x1:Int) (x2:Int) (z:Bool) (x0:Bool) (x11:List Int) (x21:Bool) (x3:List Int) (y0:Bool) (y1:List Int) (outs:List Int):Option (Nat×Bool×Bool×List Int×Bool×List Int×Bool×List Int×List Int):=
 if((decide (x2<x1))=true)then
 if((0:Int)≤x2)then
 Option.bind (x)[(Int.toNat x2)]? fun x6=>
 Option.bind (qdZ k k out1 x2 x6 (0:Int) x x1 x2 y1 (((List.length y1):Nat):Int) (0:Int) z x0 x11 x21 x3 y0 y1 outs) fun r14=>
 if(((0:Int)≤(IntKind.wrap .i64 (r14.2.1+(((List.length r14.2.2.2.2.2.2.2.2.2.2.2.2.1):Nat):Int))))∧((IntKind.wrap .i64 (r14.2.1+(((List.length r14.2.2.2.2.2.2.2.2.2.2.2.2.1):Nat):Int)))<((r14.1:Nat):Int)))then
 Option.bind (r14.2.2.2.2.2.2.2.2.2.2.2.2.2)[(0+(Int.toNat (IntKind.wrap .i64 (r14.2.1+(((List.length r14.2.2.2.2.2.2.2.2.2.2.2.2.1):Nat):Int)))))]? fun x7=>
 rec r14.1 r14.2.2.2.1 r14.2.2.2.2.1 (IntKind.wrap .i64 (r14.2.2.2.2.2.1+(1:Int))) r14.2.2.2.2.2.2.1 r14.2.2.2.2.2.2.2.1 r14.2.2.2.2.2.2.2.2.1 r14.2.2.2.2.2.2.2.2.2.1 r14.2.2.2.2.2.2.2.2.2.2.1 r14.2.2.2.2.2.2.2.2.2.2.2.1 r14.2.2.2.2.2.2.2.2.2.2.2.2.1 (List.set r14.2.2.2.2.2.2.2.2.2.2.2.2.2 (0+(Int.toNat (IntKind.wrap .i64 (r14.2.1+(((List.length r14.2.2.2.2.2.2.2.2.2.2.2.2.1):Nat):Int))))) (IntKind.wrap .u32 r14.2.2.1))
 else
 none
 else
 none
 else
 (some (out1,z,x0,x11,x21,x3,y0,y1,outs))
def qd0 (k n:Nat):Nat→List Int→Int→Int→Bool→Bool→List Int→Bool→List Int→Bool→List Int→List Int→Option (Nat×Bool×Bool×List Int×Bool×List Int×Bool×List Int×List Int):=Nat.rec (fun _ _ _ _ _ _ _ _ _ _ _ _=>none) (fun _ r=>qe6 k r) n
def qgl (k:Nat) (z:Bool) (x0:Bool) (x1:List Int) (x2:Bool) (x3:List Int) (y0:Bool) (y1:List Int):Option (Bool×List Int×Bool×List Int×Bool×List Int×Bool×List Int):=
 if(((0:Int)≤(IntKind.wrap .i64 ((((List.length x1):Nat):Int)+(((List.length y1):Nat):Int))))∧(((IntKind.wrap .i64 ((((List.length x1):Nat):Int)+(((List.length y1):Nat):Int)))≤(IntKind.wrap .i64 ((((List.length x1):Nat):Int)+(((List.length y1):Nat):Int))))∧(((IntKind.wrap .i64 ((((List.length x1):Nat):Int)+(((List.length y1):Nat):Int)))*(4:Int))≤(140737488355328:Int))))then
 Option.bind (qd0 k k (Int.toNat (IntKind.wrap .i64 ((((List.length x1):Nat):Int)+(((List.length y1):Nat):Int)))) x1 (((List.length x1):Nat):Int) (0:Int) z x0 x1 x2 x3 y0 y1 (List.replicate (Int.toNat (IntKind.wrap .i64 ((((List.length x1):Nat):Int)+(((List.length y1):Nat):Int)))) (0:Int))) fun r14=>
 if((0+r14.1)≤(List.length r14.2.2.2.2.2.2.2.2))then
 Option.bind (qbJ k (!(r14.2.2.1 == r14.2.2.2.2.2.2.1)) (List.take r14.1 r14.2.2.2.2.2.2.2.2) r14.2.1) fun r15=>
 (some (r15.1,r15.2,r14.2.2.1,r14.2.2.2.1,r14.2.2.2.2.1,r14.2.2.2.2.2.1,r14.2.2.2.2.2.2.1,r14.2.2.2.2.2.2.2.1))
 else
 none
 else
 none
def qdE:Nat→Bool→Bool→List Int→Bool→List Int→Bool→List Int→Option (Bool×List Int×Bool×List Int×Bool×List Int×Bool×List Int)
 | 0,_,_,_,_,_,_,_=>none
 | k+1,z,x0,x1,x2,x3,y0,y1=>qgl k z x0 x1 x2 x3 y0 y1
def Iq5:Nat→Inst:=mkI 155 ⟨[.a (.ptr 0 0 0),.a (.ptr 1 0 0),.a (.ptr 2 0 0)],[.raw [[.lf .bool,.snil 1 106]] 2 147 true false false,.raw [[.lf .bool,.lf cW,.lf .bool,.lf cW]] 4 180 true false false,.raw [[.lf .bool,.lf cW]] 2 147 true false false]⟩ [⟨[.a (.ptr 0 0 0)],[.raw [[.lf .bool,.lf cW]] 2 147 true false false,.raw [[.lf .bool,.lf cW,.lf .bool,.lf cW]] 4 180 true false false,.raw [[.lf .bool,.lf cW]] 2 147 true false false]⟩] fun k x=>qdE k x.1 x.2.1 x.2.2.1 x.2.2.2.1 x.2.2.2.2.1 x.2.2.2.2.2.1 x.2.2.2.2.2.2
theorem qtt (k:Nat):qat (call cf k) [Iq8 k]:=
 ac (qqn k) a0
def qxB (k:Nat):LInst:=mkL 2 [⟨[(0,.a (.ptr 0 0 0)),(1,.a (.ptr 1 0 0)),(2,.a (.ptr 2 0 0)),(7,.a (.smz 3)),(8,vI),(9,.a (.lf (.int .u32))),(10,vU),(29,vT),(30,vI),(31,vI),(39,vT),(40,vI),(41,vI)],[(0,some (.raw [[.lf .bool,.snil 1 106]] 2 147 true false false)),(1,some (.raw [[.lf .bool,.lf cW,.lf .bool,.lf cW]] 4 180 true false false)),(2,some (.raw [[.lf .bool,.lf cW]] 2 147 true false false)),(3,some (.arr (.int .u32) 1 106 false))],4⟩] [⟨some 2,⟨[(0,.a (.ptr 0 0 0)),(1,.a (.ptr 1 0 0)),(2,.a (.ptr 2 0 0)),(7,.a (.smz 3)),(8,vI),(10,vU),(29,vT),(30,vI),(31,vI)],[(0,some (.raw [[.lf .bool,.snil 1 106]] 2 147 true false false)),(1,some (.raw [[.lf .bool,.lf cW,.lf .bool,.lf cW]] 4 180 true false false)),(2,some (.raw [[.lf .bool,.lf cW]] 2 147 true false false)),(3,some (.arr (.int .u32) 1 106 false))],4⟩⟩] (fun n x=>qdZ k n x.1 x.2.1 x.2.2.1 x.2.2.2.1 x.2.2.2.2.1 x.2.2.2.2.2.1 x.2.2.2.2.2.2.1 x.2.2.2.2.2.2.2.1 x.2.2.2.2.2.2.2.2.1 x.2.2.2.2.2.2.2.2.2.1 x.2.2.2.2.2.2.2.2.2.2.1 x.2.2.2.2.2.2.2.2.2.2.2.1 x.2.2.2.2.2.2.2.2.2.2.2.2.1 x.2.2.2.2.2.2.2.2.2.2.2.2.2.1 x.2.2.2.2.2.2.2.2.2.2.2.2.2.2.1 x.2.2.2.2.2.2.2.2.2.2.2.2.2.2.2.1 x.2.2.2.2.2.2.2.2.2.2.2.2.2.2.2.2.1 x.2.2.2.2.2.2.2.2.2.2.2.2.2.2.2.2.2) k
theorem qrP (k:Nat):LIo 155 Tryz.f155 3 k (qxB k):=
 lpk [] (qtt k) l0 (fun _=>rfl) (by kernel_rfl) fun n x=>by kernel_rfl
def qxC (k:Nat):LInst:=mkL 0 [⟨[(0,.a (.ptr 0 0 0)),(1,.a (.ptr 1 0 0)),(2,.a (.ptr 2 0 0)),(7,.a (.smz 3)),(29,vT),(30,vI),(31,vI)],[(0,some (.raw [[.lf .bool,.snil 1 106]] 2 147 true false false)),(1,some (.raw [[.lf .bool,.lf cW,.lf .bool,.lf cW]] 4 180 true false false)),(2,some (.raw [[.lf .bool,.lf cW]] 2 147 true false false)),(3,some (.arr (.int .u32) 1 106 false))],4⟩] [⟨some 0,⟨[(0,.a (.ptr 0 0 0)),(1,.a (.ptr 1 0 0)),(2,.a (.ptr 2 0 0)),(7,.a (.smz 3))],[(0,some (.raw [[.lf .bool,.snil 1 106]] 2 147 true false false)),(1,some (.raw [[.lf .bool,.lf cW,.lf .bool,.lf cW]] 4 180 true false false)),(2,some (.raw [[.lf .bool,.lf cW]] 2 147 true false false)),(3,some (.arr (.int .u32) 1 106 false))],4⟩⟩] (fun n x=>qd0 k n x.1 x.2.1 x.2.2.1 x.2.2.2.1 x.2.2.2.2.1 x.2.2.2.2.2.1 x.2.2.2.2.2.2.1 x.2.2.2.2.2.2.2.1 x.2.2.2.2.2.2.2.2.1 x.2.2.2.2.2.2.2.2.2.1 x.2.2.2.2.2.2.2.2.2.2.1 x.2.2.2.2.2.2.2.2.2.2.2) k
theorem qxD (k:Nat):LIo 155 Tryz.f155 3 k (qxC k):=
 lpk [2] (qtt k) (lc (qrP k) l0) (fun _=>rfl) (by kernel_rfl) fun n x=>by kernel_rfl
theorem qCg:∀k,qe (call cf k) (Iq5 k):=
 fnk 3 [0] Tryz.func155 (fun k=>(qtt k)) (fun k=>(lc (qrP k) (lc (qxD k) l0))) ⟨rfl,rfl,⟨rfl,Nat.le_of_ble_eq_true rfl⟩,rfl⟩ (fun _=>rfl) (by kernel_rfl) fun k x=>by kernel_rfl

def qgm (k:Nat) (z0:Bool) (z1:List Int) (y0:Bool) (y1:List Int):Option (Int×Bool×List Int×Bool×List Int):=
 if((!(z0 == y0))=true)then
 if(z0=true)then
 (some ((-(1:Int)),z0,z1,y0,y1))
 else
 (some ((1:Int),z0,z1,y0,y1))
 else
 Option.bind (qjb k z1 y1) fun r17=>
 if(z0=true)then
 (some ((IntKind.wrap .i64 ((0:Int)-r17)),z0,z1,y0,y1))
 else
 (some (r17,z0,z1,y0,y1))
def qeB:Nat→Bool→List Int→Bool→List Int→Option (Int×Bool×List Int×Bool×List Int)
 | 0,_,_,_,_=>none
 | k+1,z0,z1,y0,y1=>qgm k z0 z1 y0 y1
def Iq2:Nat→Inst:=mkI 156 ⟨[.a (.ptr 0 0 0),.a (.ptr 1 0 0)],[.raw [[.lf .bool,.lf cW]] 2 147 true false false,.raw [[.lf .bool,.lf cW]] 2 147 true false false]⟩ [⟨[vI],[.raw [[.lf .bool,.lf cW]] 2 147 true false false,.raw [[.lf .bool,.lf cW]] 2 147 true false false]⟩] fun k x=>qeB k x.1 x.2.1 x.2.2.1 x.2.2.2
theorem qCh:∀k,qe (call cf k) (Iq2 k):=
 fnk 2 [] Tryz.func156 (fun k=>(ac (qur k) a0)) (fun k=>l0) ⟨rfl,rfl,⟨rfl,Nat.le_of_ble_eq_true rfl⟩,rfl⟩ (fun _=>rfl) (by kernel_rfl) fun k x=>by kernel_rfl

def qkS (k:Nat) (z0:Bool) (z1:List Int) (z2:Bool) (z3:List Int) (y0:Bool) (y1:List Int) (y2:Bool) (y3:List Int):Option (Int×Bool×List Int×Bool×List Int×Bool×List Int×Bool×List Int):=
 Option.bind (qc2 k y0 y1 y2 y3) fun r13=>
 Option.bind (qdE k false z0 z1 z2 z3 r13.2.2.2.2.1 r13.2.2.2.2.2) fun r14=>
 Option.bind (qc2 k r14.2.2.1 r14.2.2.2.1 r14.2.2.2.2.1 r14.2.2.2.2.2.1) fun r15=>
 Option.bind (qdE k false r13.1 r13.2.1 r13.2.2.1 r13.2.2.2.1 r15.2.2.2.2.1 r15.2.2.2.2.2) fun r16=>
 Option.bind (qeB k r14.1 r14.2.1 r16.1 r16.2.1) fun r17=>
 (some (r17.1,r15.1,r15.2.1,r15.2.2.1,r15.2.2.2.1,r16.2.2.1,r16.2.2.2.1,r16.2.2.2.2.1,r16.2.2.2.2.2.1))
def qeC:Nat→Bool→List Int→Bool→List Int→Bool→List Int→Bool→List Int→Option (Int×Bool×List Int×Bool×List Int×Bool×List Int×Bool×List Int)
 | 0,_,_,_,_,_,_,_,_=>none
 | k+1,z0,z1,z2,z3,y0,y1,y2,y3=>qkS k z0 z1 z2 z3 y0 y1 y2 y3
def qCi:Nat→Inst:=mkI 100 ⟨[.a (.ptr 0 0 0),.a (.ptr 1 0 0)],[.raw [[.lf .bool,.lf cW,.lf .bool,.lf cW]] 4 180 true false false,.raw [[.lf .bool,.lf cW,.lf .bool,.lf cW]] 4 180 true false false]⟩ [⟨[vI],[.raw [[.lf .bool,.lf cW,.lf .bool,.lf cW]] 4 180 true false false,.raw [[.lf .bool,.lf cW,.lf .bool,.lf cW]] 4 180 true false false]⟩] fun k x=>qeC k x.1 x.2.1 x.2.2.1 x.2.2.2.1 x.2.2.2.2.1 x.2.2.2.2.2.1 x.2.2.2.2.2.2.1 x.2.2.2.2.2.2.2
theorem qAT:∀k,qe (call cf k) (qCi k):=
 fnk 2 [] Tryz.func100 (fun k=>(ac (qAS k) (ac (qCg k) (ac (qCh k) a0)))) (fun k=>l0) ⟨rfl,rfl,⟨rfl,Nat.le_of_ble_eq_true rfl⟩,rfl⟩ (fun _=>rfl) (by kernel_rfl) fun k x=>by kernel_rfl

def qkT (k:Nat) (a0:Int) (a1:Int) (b0:Int) (b1:Int):Option (Int×Int):=
 Option.bind (qad k a0 a1) fun r9=>
 if((!r9)=false)then
 Option.bind (qad k b0 b1) fun r10=>
 if((!r10)=true)then
 (some ((0:Int),(30:Int)))
 else
 Option.bind (qgD k a0 a1) fun r11=>
 Option.bind (qgD k b0 b1) fun r12=>
 Option.bind (qeC k r11.1 r11.2.1 r11.2.2.1 r11.2.2.2 r12.1 r12.2.1 r12.2.2.1 r12.2.2.2) fun r13=>
 (some (r13.1,(0:Int)))
 else
 (some ((0:Int),(30:Int)))
def qh2:Nat→Int→Int→Int→Int→Option (Int×Int)
 | 0,_,_,_,_=>none
 | k+1,a0,a1,b0,b1=>qkT k a0 a1 b0 b1
def qxE:Nat→Inst:=mkI 227 ⟨[.g [.lf (.int .i64),.lf (.int .i64)],.g [.lf (.int .i64),.lf (.int .i64)]],[]⟩ [⟨[vI,vI],[]⟩] fun k x=>qh2 k x.1 x.2.1 x.2.2.1 x.2.2.2
theorem qAU:∀k,qe (call cf k) (qxE k):=
 fnk 0 [] Tryz.func227 (fun k=>(ac (qlu k) (ac (qAQ k) (ac (qAT k) a0)))) (fun k=>l0) ⟨rfl,rfl,⟨rfl,Nat.le_of_ble_eq_true rfl⟩,rfl⟩ (fun _=>rfl) (by kernel_rfl) fun k x=>by kernel_rfl

def qcs (k:Nat) (rec:List (Int×Int)→List (Int×Int)→Int→List (Int×Int)→Int→Int→ByteArray→Int→List (Int×Int)→List (Int×Int)→Option ((Bool×ByteArray×Int×List (Int×Int)×List (Int×Int)×Int×Int) ⊕ (List (Int×Int)×List (Int×Int)×Int×ByteArray×Int×List (Int×Int)×List (Int×Int)))) (x0:List (Int×Int)) (x1:List (Int×Int)) (x:Int) (x2:List (Int×Int)) (x3:Int) (x4:Int) (m0:ByteArray) (m1:Int) (m2:List (Int×Int)) (m3:List (Int×Int)):Option ((Bool×ByteArray×Int×List (Int×Int)×List (Int×Int)×Int×Int) ⊕ (List (Int×Int)×List (Int×Int)×Int×ByteArray×Int×List (Int×Int)×List (Int×Int))):=
 if((decide (x4<x3))=true)then
 if((0:Int)≤x4)then
 Option.bind (x2)[(Int.toNat x4)]? fun x5=>
 Option.bind (qad k x5.1 x5.2) fun r8=>
 if((!r8)=true)then
 (some (Sum.inl (false,m0,m1,m2,m3,x5.1,x5.2)))
 else
 rec x0 x1 x x2 x3 (IntKind.wrap .i64 (x4+(1:Int))) m0 m1 m2 m3
 else
 none
 else
 (some (Sum.inr (x0,x1,x,m0,m1,m2,m3)))
def qaP (k n:Nat):List (Int×Int)→List (Int×Int)→Int→List (Int×Int)→Int→Int→ByteArray→Int→List (Int×Int)→List (Int×Int)→Option ((Bool×ByteArray×Int×List (Int×Int)×List (Int×Int)×Int×Int) ⊕ (List (Int×Int)×List (Int×Int)×Int×ByteArray×Int×List (Int×Int)×List (Int×Int))):=Nat.rec (fun _ _ _ _ _ _ _ _ _ _=>none) (fun _ r=>qcs k r) n
def qdd (k:Nat) (rec:List (Int×Int)→List (Int×Int)→Int→ByteArray→Int→List (Int×Int)→List (Int×Int)→Option ((Bool×ByteArray×Int×List (Int×Int)×List (Int×Int)×Int×Int) ⊕ (ByteArray×Int×List (Int×Int)×List (Int×Int)))) (x0:List (Int×Int)) (x1:List (Int×Int)) (x:Int) (m0:ByteArray) (m1:Int) (m2:List (Int×Int)) (m3:List (Int×Int)):Option ((Bool×ByteArray×Int×List (Int×Int)×List (Int×Int)×Int×Int) ⊕ (ByteArray×Int×List (Int×Int)×List (Int×Int))):=
 if((decide (x<(2:Int)))=true)then
 if(x=(0:Int))then
 Option.bind (qaP k k x0 x1 x x0 (((List.length x0):Nat):Int) (0:Int) m0 m1 m2 m3) fun r8=>
 qc r8
 (fun r8=>
 (some (Sum.inl (r8.1,r8.2.1,r8.2.2.1,r8.2.2.2.1,r8.2.2.2.2.1,r8.2.2.2.2.2.1,r8.2.2.2.2.2.2))))
 (fun r8=>
 rec r8.1 r8.2.1 (IntKind.wrap .i64 (r8.2.2.1+(1:Int))) r8.2.2.2.1 r8.2.2.2.2.1 r8.2.2.2.2.2.1 r8.2.2.2.2.2.2)
 else
 if((x-(1:Int))=(0:Int))then
 Option.bind (qaP k k x0 x1 x x1 (((List.length x1):Nat):Int) (0:Int) m0 m1 m2 m3) fun r8=>
 qc r8
 (fun r8=>
 (some (Sum.inl (r8.1,r8.2.1,r8.2.2.1,r8.2.2.2.1,r8.2.2.2.2.1,r8.2.2.2.2.2.1,r8.2.2.2.2.2.2))))
 (fun r8=>
 rec r8.1 r8.2.1 (IntKind.wrap .i64 (r8.2.2.1+(1:Int))) r8.2.2.2.1 r8.2.2.2.2.1 r8.2.2.2.2.2.1 r8.2.2.2.2.2.2)
 else
 none
 else
 (some (Sum.inr (m0,m1,m2,m3)))
def qav (k n:Nat):List (Int×Int)→List (Int×Int)→Int→ByteArray→Int→List (Int×Int)→List (Int×Int)→Option ((Bool×ByteArray×Int×List (Int×Int)×List (Int×Int)×Int×Int) ⊕ (ByteArray×Int×List (Int×Int)×List (Int×Int))):=Nat.rec (fun _ _ _ _ _ _ _=>none) (fun _ r=>qdd k r) n
def qbF (k:Nat) (rec:Int→ByteArray→Int→List (Int×Int)→List (Int×Int)→Option ((Bool×ByteArray×Int×List (Int×Int)×List (Int×Int)) ⊕ (ByteArray×Int×List (Int×Int)×List (Int×Int)))) (i:Int) (m0:ByteArray) (m1:Int) (m2:List (Int×Int)) (m3:List (Int×Int)):Option ((Bool×ByteArray×Int×List (Int×Int)×List (Int×Int)) ⊕ (ByteArray×Int×List (Int×Int)×List (Int×Int))):=
 if((decide (i<(((List.length m3):Nat):Int)))=true)then
 if((0:Int)≤(IntKind.wrap .i64 (i-(1:Int))))then
 Option.bind (m3)[(Int.toNat (IntKind.wrap .i64 (i-(1:Int))))]? fun x4=>
 if((0:Int)≤i)then
 Option.bind (m3)[(Int.toNat i)]? fun x5=>
 Option.bind (qh2 k x4.1 x4.2 x5.1 x5.2) fun r9=>
 if((decide (r9.1≥(0:Int)))=true)then
 (some (Sum.inl (false,m0,m1,m2,m3)))
 else
 rec (IntKind.wrap .i64 (i+(1:Int))) m0 m1 m2 m3
 else
 none
 else
 none
 else
 (some (Sum.inr (m0,m1,m2,m3)))
def qai (k n:Nat):Int→ByteArray→Int→List (Int×Int)→List (Int×Int)→Option ((Bool×ByteArray×Int×List (Int×Int)×List (Int×Int)) ⊕ (ByteArray×Int×List (Int×Int)×List (Int×Int))):=Nat.rec (fun _ _ _ _ _=>none) (fun _ r=>qbF k r) n
def qh3 (k:Nat) (m0:ByteArray) (m1:Int) (m2:List (Int×Int)) (m3:List (Int×Int)):Option (Bool):=
 Option.bind (qf3 k m0) fun r7=>
 if((!r7)=true)then
 (some false)
 else
 Option.bind (qav k k m2 m3 (0:Int) m0 m1 m2 m3) fun r8=>
 qc r8
 (fun r8=>
 (some r8.1))
 (fun r8=>
 if((r8.2.1 == (115:Int))=true)then
 if(((((List.length r8.2.2.1):Nat):Int) == (2:Int))=true)then
 (some ((((List.length r8.2.2.2):Nat):Int) == (1:Int)))
 else
 (some false)
 else
 if((r8.2.1 == (100:Int))=true)then
 if((decide ((((List.length r8.2.2.1):Nat):Int)<(1:Int)))=false)then
 if((decide ((((List.length r8.2.2.1):Nat):Int)>(4:Int)))=false)then
 if(((((List.length r8.2.2.2):Nat):Int) != (IntKind.wrap .i64 ((((List.length r8.2.2.1):Nat):Int)-(1:Int))))=true)then
 (some false)
 else
 Option.bind (qai k k (1:Int) r8.1 r8.2.1 r8.2.2.1 r8.2.2.2) fun r9=>
 qc r9
 (fun r9=>
 (some r9.1))
 (fun r9=>
 (some true))
 else
 (some false)
 else
 (some false)
 else
 (some false))
def qdF:Nat→ByteArray→Int→List (Int×Int)→List (Int×Int)→Option (Bool)
 | 0,_,_,_,_=>none
 | k+1,m0,m1,m2,m3=>qh3 k m0 m1 m2 m3
def qxF:Nat→Inst:=mkI 192 ⟨[.g [.lf .str,.lf (.int .u8),.lf cE,.lf cE]],[]⟩ [⟨[vB],[]⟩] fun k x=>qdF k x.1 x.2.1 x.2.2.1 x.2.2.2
theorem qm4 (k:Nat):qat (call cf k) [qwV k,qnZ k,qxE k]:=
 ac (qul k) (ac (qlu k) (ac (qAU k) a0))
def qxG (k:Nat):LInst:=mkL 2 [⟨[(1,.a (.ptr 0 0 0)),(18,.g [.lf cE,.lf cE]),(19,vI),(22,.a (.lf cE)),(23,vI),(24,vI)],[(0,some (.raw [[.lf .str,.lf (.int .u8),.lf cE,.lf cE]] 4 46 true false false))],1⟩] [⟨none,⟨[(2,vB)],[(0,some (.raw [[.lf .str,.lf (.int .u8),.lf cE,.lf cE]] 4 46 true false false)),(1,some (.raw [[.lf (.int .i64),.lf (.int .i64)]] 2 25 true false false))],2⟩⟩,⟨some 2,⟨[(1,.a (.ptr 0 0 0)),(18,.g [.lf cE,.lf cE]),(19,vI)],[(0,some (.raw [[.lf .str,.lf (.int .u8),.lf cE,.lf cE]] 4 46 true false false))],1⟩⟩] (fun n x=>qaP k n x.1 x.2.1 x.2.2.1 x.2.2.2.1 x.2.2.2.2.1 x.2.2.2.2.2.1 x.2.2.2.2.2.2.1 x.2.2.2.2.2.2.2.1 x.2.2.2.2.2.2.2.2.1 x.2.2.2.2.2.2.2.2.2) k
theorem qn3 (k:Nat):LIo 192 Tryz.f192 0 k (qxG k):=
 lpk [] (qm4 k) l0 (fun _=>rfl) (by kernel_rfl) fun n x=>by kernel_rfl
def qxH (k:Nat):LInst:=mkL 0 [⟨[(1,.a (.ptr 0 0 0)),(18,.g [.lf cE,.lf cE]),(19,vI)],[(0,some (.raw [[.lf .str,.lf (.int .u8),.lf cE,.lf cE]] 4 46 true false false))],1⟩] [⟨none,⟨[(2,vB)],[(0,some (.raw [[.lf .str,.lf (.int .u8),.lf cE,.lf cE]] 4 46 true false false)),(1,some (.raw [[.lf (.int .i64),.lf (.int .i64)]] 2 25 true false false))],2⟩⟩,⟨some 0,⟨[(1,.a (.ptr 0 0 0))],[(0,some (.raw [[.lf .str,.lf (.int .u8),.lf cE,.lf cE]] 4 46 true false false))],1⟩⟩] (fun n x=>qav k n x.1 x.2.1 x.2.2.1 x.2.2.2.1 x.2.2.2.2.1 x.2.2.2.2.2.1 x.2.2.2.2.2.2) k
theorem qrQ (k:Nat):LIo 192 Tryz.f192 0 k (qxH k):=
 lpk [2] (qm4 k) (lc (qn3 k) l0) (fun _=>rfl) (by kernel_rfl) fun n x=>by kernel_rfl
def qxI (k:Nat):LInst:=mkL 5 [⟨[(1,.a (.ptr 0 0 0)),(7,vI)],[(0,some (.raw [[.lf .str,.lf (.int .u8),.lf cE,.lf cE]] 4 46 true false false))],1⟩] [⟨none,⟨[(2,vB)],[(0,some (.raw [[.lf .str,.lf (.int .u8),.lf cE,.lf cE]] 4 46 true false false))],1⟩⟩,⟨some 5,⟨[],[(0,some (.raw [[.lf .str,.lf (.int .u8),.lf cE,.lf cE]] 4 46 true false false))],1⟩⟩] (fun n x=>qai k n x.1 x.2.1 x.2.2.1 x.2.2.2.1 x.2.2.2.2) k
theorem qxJ (k:Nat):LIo 192 Tryz.f192 0 k (qxI k):=
 lpk [] (qm4 k) (lc (qn3 k) (lc (qrQ k) l0)) (fun _=>rfl) (by kernel_rfl) fun n x=>by kernel_rfl
theorem qut:∀k,qe (call cf k) (qxF k):=
 fnk 0 [0,5] Tryz.func192 (fun k=>(qm4 k)) (fun k=>(lc (qn3 k) (lc (qrQ k) (lc (qxJ k) l0)))) ⟨rfl,rfl,⟨rfl,Nat.le_of_ble_eq_true rfl⟩,rfl⟩ (fun _=>rfl) (by kernel_rfl) fun k x=>by kernel_rfl

def qcJ (k:Nat) (rec:List Int→Int→Int→List ByteArray→List DvT→Int→Int→Int→Int→ByteArray→List Int→Int→Int→Int→Int→List (Int×Int)→List Int→ByteArray→Int→List (Int×Int)→List (Int×Int)→Option ((Bool×List ByteArray×List DvT×Int×Int×Int×Int×ByteArray×List Int×Int×Int×Int×Int×List (Int×Int)×List Int×ByteArray×Int×List (Int×Int)×List (Int×Int)) ⊕ (List ByteArray×List DvT×Int×Int×Int×Int×ByteArray×List Int×Int×Int×Int×Int×List (Int×Int)×List Int×ByteArray×Int×List (Int×Int)×List (Int×Int)))) (x:List Int) (x1:Int) (x2:Int) (f0:List ByteArray) (f1:List DvT) (f2:Int) (f3:Int) (f4:Int) (d0:Int) (d1:ByteArray) (d2:List Int) (d3:Int) (d4:Int) (d5:Int) (d6:Int) (d7:List (Int×Int)) (d8:List Int) (d9:ByteArray) (d10:Int) (d11:List (Int×Int)) (d12:List (Int×Int)):Option ((Bool×List ByteArray×List DvT×Int×Int×Int×Int×ByteArray×List Int×Int×Int×Int×Int×List (Int×Int)×List Int×ByteArray×Int×List (Int×Int)×List (Int×Int)) ⊕ (List ByteArray×List DvT×Int×Int×Int×Int×ByteArray×List Int×Int×Int×Int×Int×List (Int×Int)×List Int×ByteArray×Int×List (Int×Int)×List (Int×Int))):=
 if((decide (x2<x1))=true)then
 if((0:Int)≤x2)then
 Option.bind (x)[(Int.toNat x2)]? fun x4=>
 if((decide (x4<(0:Int)))=false)then
 if((decide (x4≥(((List.length f0):Nat):Int)))=true)then
 (some (Sum.inl (false,f0,f1,f2,f3,f4,d0,d1,d2,d3,d4,d5,d6,d7,d8,d9,d10,d11,d12)))
 else
 rec x x1 (IntKind.wrap .i64 (x2+(1:Int))) f0 f1 f2 f3 f4 d0 d1 d2 d3 d4 d5 d6 d7 d8 d9 d10 d11 d12
 else
 (some (Sum.inl (false,f0,f1,f2,f3,f4,d0,d1,d2,d3,d4,d5,d6,d7,d8,d9,d10,d11,d12)))
 else
 none
 else
 (some (Sum.inr (f0,f1,f2,f3,f4,d0,d1,d2,d3,d4,d5,d6,d7,d8,d9,d10,d11,d12)))
def qbl (k n:Nat):List Int→Int→Int→List ByteArray→List DvT→Int→Int→Int→Int→ByteArray→List Int→Int→Int→Int→Int→List (Int×Int)→List Int→ByteArray→Int→List (Int×Int)→List (Int×Int)→Option ((Bool×List ByteArray×List DvT×Int×Int×Int×Int×ByteArray×List Int×Int×Int×Int×Int×List (Int×Int)×List Int×ByteArray×Int×List (Int×Int)×List (Int×Int)) ⊕ (List ByteArray×List DvT×Int×Int×Int×Int×ByteArray×List Int×Int×Int×Int×Int×List (Int×Int)×List Int×ByteArray×Int×List (Int×Int)×List (Int×Int))):=Nat.rec (fun _ _ _ _ _ _ _ _ _ _ _ _ _ _ _ _ _ _ _ _ _=>none) (fun _ r=>qcJ k r) n
def qhk (k:Nat) (f0:List ByteArray) (f1:List DvT) (f2:Int) (f3:Int) (f4:Int) (d0:Int) (d1:ByteArray) (d2:List Int) (d3:Int) (d4:Int) (d5:Int) (d6:Int) (d7:List (Int×Int)) (d8:List Int) (d9:ByteArray) (d10:Int) (d11:List (Int×Int)) (d12:List (Int×Int)):Option (Bool):=
 if(((qhB (.int .u8) (.int .i64) (qas (.int .u8) (.int .i64) (qas (.int .u8) (.int .i64) (qas (.int .u8) (.int .i64) (qas (.int .u8) (.int .i64) (qas (.int .u8) (.int .i64) (qas (.int .u8) (.int .i64) (qas (.int .u8) (.int .i64) (qas (.int .u8) (.int .i64) (qas (.int .u8) (.int .i64) (qas (.int .u8) (.int .i64) (qas (.int .u8) (.int .i64) (qas (.int .u8) (.int .i64) [] (114:Int) (2:Int)) (99:Int) (2:Int)) (108:Int) (2:Int)) (118:Int) (2:Int)) (105:Int) (2:Int)) (101:Int) (4:Int)) (103:Int) (4:Int)) (102:Int) (2:Int)) (104:Int) (2:Int)) (116:Int) (4:Int)) (100:Int) (2:Int)) (115:Int) (4:Int)) d0 (0:Int)) == (0:Int))=false)then
 if(((((List.length d2):Nat):Int) != (qhB (.int .u8) (.int .i64) (qas (.int .u8) (.int .i64) (qas (.int .u8) (.int .i64) (qas (.int .u8) (.int .i64) (qas (.int .u8) (.int .i64) (qas (.int .u8) (.int .i64) (qas (.int .u8) (.int .i64) (qas (.int .u8) (.int .i64) (qas (.int .u8) (.int .i64) (qas (.int .u8) (.int .i64) (qas (.int .u8) (.int .i64) (qas (.int .u8) (.int .i64) (qas (.int .u8) (.int .i64) [] (114:Int) (2:Int)) (99:Int) (2:Int)) (108:Int) (2:Int)) (118:Int) (2:Int)) (105:Int) (2:Int)) (101:Int) (4:Int)) (103:Int) (4:Int)) (102:Int) (2:Int)) (104:Int) (2:Int)) (116:Int) (4:Int)) (100:Int) (2:Int)) (115:Int) (4:Int)) d0 (0:Int)))=false)then
 Option.bind (qfB k d1) fun r4=>
 if((!r4)=true)then
 (some false)
 else
 Option.bind (qbl k k d2 (((List.length d2):Nat):Int) (0:Int) f0 f1 f2 f3 f4 d0 d1 d2 d3 d4 d5 d6 d7 d8 d9 d10 d11 d12) fun r5=>
 qc r5
 (fun r5=>
 (some r5.1))
 (fun r5=>
 if((r5.2.2.2.2.2.1 == (118:Int))=true)then
 Option.bind (qeS k r5.2.2.2.2.2.2.2.2.2.2.2.1 r5.2.2.2.2.2.2.2.2.2.2.2.2.1 r5.2.2.2.2.2.2.2.2.2.2.2.2.2.1) fun r6=>
 if(r6=true)then
 if((r5.2.2.2.2.2.2.2.2.2.1 == (0:Int))=true)then
 if((r5.2.2.2.2.2.2.2.2.2.2.1 == (0:Int))=true)then
 Option.bind (qI k r5.2.2.2.2.2.2.2.2.2.2.2.2.2.2.1 r5.2.2.2.2.2.2.2.2.2.2.2.2.2.2.2.1 r5.2.2.2.2.2.2.2.2.2.2.2.2.2.2.2.2.1 r5.2.2.2.2.2.2.2.2.2.2.2.2.2.2.2.2.2) fun r7=>
 if(r7=true)then
 (some (r5.2.2.2.2.2.2.2.2.1 == (0:Int)))
 else
 (some false)
 else
 (some false)
 else
 (some false)
 else
 (some false)
 else
 if((r5.2.2.2.2.2.1 == (105:Int))=true)then
 Option.bind (qeS k r5.2.2.2.2.2.2.2.2.2.2.2.1 r5.2.2.2.2.2.2.2.2.2.2.2.2.1 r5.2.2.2.2.2.2.2.2.2.2.2.2.2.1) fun r6=>
 if(r6=true)then
 if((r5.2.2.2.2.2.2.2.2.2.1 == (0:Int))=true)then
 if((r5.2.2.2.2.2.2.2.2.2.2.1 == (0:Int))=true)then
 Option.bind (qI k r5.2.2.2.2.2.2.2.2.2.2.2.2.2.2.1 r5.2.2.2.2.2.2.2.2.2.2.2.2.2.2.2.1 r5.2.2.2.2.2.2.2.2.2.2.2.2.2.2.2.2.1 r5.2.2.2.2.2.2.2.2.2.2.2.2.2.2.2.2.2) fun r7=>
 if(r7=true)then
 (some (r5.2.2.2.2.2.2.2.2.1 == (0:Int)))
 else
 (some false)
 else
 (some false)
 else
 (some false)
 else
 (some false)
 else
 if((r5.2.2.2.2.2.1 == (100:Int))=true)then
 Option.bind (qM k r5.2.2.2.2.2.2.2.2.2.2.2.1 r5.2.2.2.2.2.2.2.2.2.2.2.2.1 r5.2.2.2.2.2.2.2.2.2.2.2.2.2.1) fun r6=>
 if(r6=true)then
 if((r5.2.2.2.2.2.2.2.2.2.1 == (0:Int))=true)then
 if((r5.2.2.2.2.2.2.2.2.2.2.1 == (0:Int))=true)then
 Option.bind (qdF k r5.2.2.2.2.2.2.2.2.2.2.2.2.2.2.1 r5.2.2.2.2.2.2.2.2.2.2.2.2.2.2.2.1 r5.2.2.2.2.2.2.2.2.2.2.2.2.2.2.2.2.1 r5.2.2.2.2.2.2.2.2.2.2.2.2.2.2.2.2.2) fun r7=>
 if(r7=true)then
 if((r5.2.2.2.2.2.2.2.2.2.2.2.2.2.2.2.1 == r5.2.2.2.2.2.1)=true)then
 (some (r5.2.2.2.2.2.2.2.2.1 == (0:Int)))
 else
 (some false)
 else
 (some false)
 else
 (some false)
 else
 (some false)
 else
 (some false)
 else
 if((r5.2.2.2.2.2.1 == (115:Int))=true)then
 Option.bind (qM k r5.2.2.2.2.2.2.2.2.2.2.2.1 r5.2.2.2.2.2.2.2.2.2.2.2.2.1 r5.2.2.2.2.2.2.2.2.2.2.2.2.2.1) fun r6=>
 if(r6=true)then
 if((r5.2.2.2.2.2.2.2.2.2.1 == (0:Int))=true)then
 if((r5.2.2.2.2.2.2.2.2.2.2.1 == (0:Int))=true)then
 Option.bind (qdF k r5.2.2.2.2.2.2.2.2.2.2.2.2.2.2.1 r5.2.2.2.2.2.2.2.2.2.2.2.2.2.2.2.1 r5.2.2.2.2.2.2.2.2.2.2.2.2.2.2.2.2.1 r5.2.2.2.2.2.2.2.2.2.2.2.2.2.2.2.2.2) fun r7=>
 if(r7=true)then
 if((r5.2.2.2.2.2.2.2.2.2.2.2.2.2.2.2.1 == r5.2.2.2.2.2.1)=true)then
 (some (r5.2.2.2.2.2.2.2.2.1 == (0:Int)))
 else
 (some false)
 else
 (some false)
 else
 (some false)
 else
 (some false)
 else
 (some false)
 else
 if((r5.2.2.2.2.2.1 == (102:Int))=true)then
 if((decide (r5.2.2.2.2.2.2.2.2.1<(0:Int)))=false)then
 if((decide (r5.2.2.2.2.2.2.2.2.1≥(((List.length r5.2.1):Nat):Int)))=false)then
 if((0:Int)≤r5.2.2.2.2.2.2.2.2.1)then
 Option.bind (r5.2.1)[(Int.toNat r5.2.2.2.2.2.2.2.2.1)]? fun x4=>
 if((x4.1 != (118:Int))=true)then
 (some false)
 else
 if((r5.2.2.2.2.2.1 == (114:Int))=false)then
 if((r5.2.2.2.2.2.1 == (99:Int))=false)then
 Option.bind (qad k r5.2.2.2.2.2.2.2.2.2.1 r5.2.2.2.2.2.2.2.2.2.2.1) fun r6=>
 if(r6=true)then
 if((r5.2.2.2.2.2.2.2.2.2.1 != (0:Int))=false)then
 if((!(r5.2.2.2.2.2.1 == (108:Int)))=true)then
 Option.bind (qM k r5.2.2.2.2.2.2.2.2.2.2.2.1 r5.2.2.2.2.2.2.2.2.2.2.2.2.1 r5.2.2.2.2.2.2.2.2.2.2.2.2.2.1) fun r7=>
 if(r7=true)then
 Option.bind (qI k r5.2.2.2.2.2.2.2.2.2.2.2.2.2.2.1 r5.2.2.2.2.2.2.2.2.2.2.2.2.2.2.2.1 r5.2.2.2.2.2.2.2.2.2.2.2.2.2.2.2.2.1 r5.2.2.2.2.2.2.2.2.2.2.2.2.2.2.2.2.2) fun r8=>
 (some r8)
 else
 (some false)
 else
 (some false)
 else
 Option.bind (qM k r5.2.2.2.2.2.2.2.2.2.2.2.1 r5.2.2.2.2.2.2.2.2.2.2.2.2.1 r5.2.2.2.2.2.2.2.2.2.2.2.2.2.1) fun r7=>
 if(r7=true)then
 Option.bind (qI k r5.2.2.2.2.2.2.2.2.2.2.2.2.2.2.1 r5.2.2.2.2.2.2.2.2.2.2.2.2.2.2.2.1 r5.2.2.2.2.2.2.2.2.2.2.2.2.2.2.2.2.1 r5.2.2.2.2.2.2.2.2.2.2.2.2.2.2.2.2.2) fun r8=>
 (some r8)
 else
 (some false)
 else
 (some false)
 else
 Option.bind (qad k r5.2.2.2.2.2.2.2.2.2.1 r5.2.2.2.2.2.2.2.2.2.2.1) fun r6=>
 if(r6=true)then
 if((r5.2.2.2.2.2.2.2.2.2.1 != (0:Int))=false)then
 (some false)
 else
 Option.bind (qM k r5.2.2.2.2.2.2.2.2.2.2.2.1 r5.2.2.2.2.2.2.2.2.2.2.2.2.1 r5.2.2.2.2.2.2.2.2.2.2.2.2.2.1) fun r7=>
 if(r7=true)then
 Option.bind (qI k r5.2.2.2.2.2.2.2.2.2.2.2.2.2.2.1 r5.2.2.2.2.2.2.2.2.2.2.2.2.2.2.2.1 r5.2.2.2.2.2.2.2.2.2.2.2.2.2.2.2.2.1 r5.2.2.2.2.2.2.2.2.2.2.2.2.2.2.2.2.2) fun r8=>
 (some r8)
 else
 (some false)
 else
 (some false)
 else
 Option.bind (qad k r5.2.2.2.2.2.2.2.2.2.1 r5.2.2.2.2.2.2.2.2.2.2.1) fun r6=>
 if(r6=true)then
 if((r5.2.2.2.2.2.2.2.2.2.1 != (0:Int))=false)then
 (some false)
 else
 Option.bind (qM k r5.2.2.2.2.2.2.2.2.2.2.2.1 r5.2.2.2.2.2.2.2.2.2.2.2.2.1 r5.2.2.2.2.2.2.2.2.2.2.2.2.2.1) fun r7=>
 if(r7=true)then
 Option.bind (qI k r5.2.2.2.2.2.2.2.2.2.2.2.2.2.2.1 r5.2.2.2.2.2.2.2.2.2.2.2.2.2.2.2.1 r5.2.2.2.2.2.2.2.2.2.2.2.2.2.2.2.2.1 r5.2.2.2.2.2.2.2.2.2.2.2.2.2.2.2.2.2) fun r8=>
 (some r8)
 else
 (some false)
 else
 (some false)
 else
 none
 else
 (some false)
 else
 (some false)
 else
 if((r5.2.2.2.2.2.1 == (104:Int))=true)then
 if((decide (r5.2.2.2.2.2.2.2.2.1<(0:Int)))=false)then
 if((decide (r5.2.2.2.2.2.2.2.2.1≥(((List.length r5.2.1):Nat):Int)))=false)then
 if((0:Int)≤r5.2.2.2.2.2.2.2.2.1)then
 Option.bind (r5.2.1)[(Int.toNat r5.2.2.2.2.2.2.2.2.1)]? fun x4=>
 if((x4.1 != (118:Int))=true)then
 (some false)
 else
 if((r5.2.2.2.2.2.1 == (114:Int))=false)then
 if((r5.2.2.2.2.2.1 == (99:Int))=false)then
 Option.bind (qad k r5.2.2.2.2.2.2.2.2.2.1 r5.2.2.2.2.2.2.2.2.2.2.1) fun r6=>
 if(r6=true)then
 if((r5.2.2.2.2.2.2.2.2.2.1 != (0:Int))=false)then
 if((!(r5.2.2.2.2.2.1 == (108:Int)))=true)then
 Option.bind (qM k r5.2.2.2.2.2.2.2.2.2.2.2.1 r5.2.2.2.2.2.2.2.2.2.2.2.2.1 r5.2.2.2.2.2.2.2.2.2.2.2.2.2.1) fun r7=>
 if(r7=true)then
 Option.bind (qI k r5.2.2.2.2.2.2.2.2.2.2.2.2.2.2.1 r5.2.2.2.2.2.2.2.2.2.2.2.2.2.2.2.1 r5.2.2.2.2.2.2.2.2.2.2.2.2.2.2.2.2.1 r5.2.2.2.2.2.2.2.2.2.2.2.2.2.2.2.2.2) fun r8=>
 (some r8)
 else
 (some false)
 else
 (some false)
 else
 Option.bind (qM k r5.2.2.2.2.2.2.2.2.2.2.2.1 r5.2.2.2.2.2.2.2.2.2.2.2.2.1 r5.2.2.2.2.2.2.2.2.2.2.2.2.2.1) fun r7=>
 if(r7=true)then
 Option.bind (qI k r5.2.2.2.2.2.2.2.2.2.2.2.2.2.2.1 r5.2.2.2.2.2.2.2.2.2.2.2.2.2.2.2.1 r5.2.2.2.2.2.2.2.2.2.2.2.2.2.2.2.2.1 r5.2.2.2.2.2.2.2.2.2.2.2.2.2.2.2.2.2) fun r8=>
 (some r8)
 else
 (some false)
 else
 (some false)
 else
 Option.bind (qad k r5.2.2.2.2.2.2.2.2.2.1 r5.2.2.2.2.2.2.2.2.2.2.1) fun r6=>
 if(r6=true)then
 if((r5.2.2.2.2.2.2.2.2.2.1 != (0:Int))=false)then
 (some false)
 else
 Option.bind (qM k r5.2.2.2.2.2.2.2.2.2.2.2.1 r5.2.2.2.2.2.2.2.2.2.2.2.2.1 r5.2.2.2.2.2.2.2.2.2.2.2.2.2.1) fun r7=>
 if(r7=true)then
 Option.bind (qI k r5.2.2.2.2.2.2.2.2.2.2.2.2.2.2.1 r5.2.2.2.2.2.2.2.2.2.2.2.2.2.2.2.1 r5.2.2.2.2.2.2.2.2.2.2.2.2.2.2.2.2.1 r5.2.2.2.2.2.2.2.2.2.2.2.2.2.2.2.2.2) fun r8=>
 (some r8)
 else
 (some false)
 else
 (some false)
 else
 Option.bind (qad k r5.2.2.2.2.2.2.2.2.2.1 r5.2.2.2.2.2.2.2.2.2.2.1) fun r6=>
 if(r6=true)then
 if((r5.2.2.2.2.2.2.2.2.2.1 != (0:Int))=false)then
 (some false)
 else
 Option.bind (qM k r5.2.2.2.2.2.2.2.2.2.2.2.1 r5.2.2.2.2.2.2.2.2.2.2.2.2.1 r5.2.2.2.2.2.2.2.2.2.2.2.2.2.1) fun r7=>
 if(r7=true)then
 Option.bind (qI k r5.2.2.2.2.2.2.2.2.2.2.2.2.2.2.1 r5.2.2.2.2.2.2.2.2.2.2.2.2.2.2.2.1 r5.2.2.2.2.2.2.2.2.2.2.2.2.2.2.2.2.1 r5.2.2.2.2.2.2.2.2.2.2.2.2.2.2.2.2.2) fun r8=>
 (some r8)
 else
 (some false)
 else
 (some false)
 else
 none
 else
 (some false)
 else
 (some false)
 else
 if((r5.2.2.2.2.2.2.2.2.1 != (0:Int))=true)then
 (some false)
 else
 if((r5.2.2.2.2.2.1 == (114:Int))=false)then
 if((r5.2.2.2.2.2.1 == (99:Int))=false)then
 Option.bind (qad k r5.2.2.2.2.2.2.2.2.2.1 r5.2.2.2.2.2.2.2.2.2.2.1) fun r6=>
 if(r6=true)then
 if((r5.2.2.2.2.2.2.2.2.2.1 != (0:Int))=false)then
 if((!(r5.2.2.2.2.2.1 == (108:Int)))=true)then
 Option.bind (qM k r5.2.2.2.2.2.2.2.2.2.2.2.1 r5.2.2.2.2.2.2.2.2.2.2.2.2.1 r5.2.2.2.2.2.2.2.2.2.2.2.2.2.1) fun r7=>
 if(r7=true)then
 Option.bind (qI k r5.2.2.2.2.2.2.2.2.2.2.2.2.2.2.1 r5.2.2.2.2.2.2.2.2.2.2.2.2.2.2.2.1 r5.2.2.2.2.2.2.2.2.2.2.2.2.2.2.2.2.1 r5.2.2.2.2.2.2.2.2.2.2.2.2.2.2.2.2.2) fun r8=>
 (some r8)
 else
 (some false)
 else
 (some false)
 else
 Option.bind (qM k r5.2.2.2.2.2.2.2.2.2.2.2.1 r5.2.2.2.2.2.2.2.2.2.2.2.2.1 r5.2.2.2.2.2.2.2.2.2.2.2.2.2.1) fun r7=>
 if(r7=true)then
 Option.bind (qI k r5.2.2.2.2.2.2.2.2.2.2.2.2.2.2.1 r5.2.2.2.2.2.2.2.2.2.2.2.2.2.2.2.1 r5.2.2.2.2.2.2.2.2.2.2.2.2.2.2.2.2.1 r5.2.2.2.2.2.2.2.2.2.2.2.2.2.2.2.2.2) fun r8=>
 (some r8)
 else
 (some false)
 else
 (some false)
 else
 Option.bind (qad k r5.2.2.2.2.2.2.2.2.2.1 r5.2.2.2.2.2.2.2.2.2.2.1) fun r6=>
 if(r6=true)then
 if((r5.2.2.2.2.2.2.2.2.2.1 != (0:Int))=false)then
 (some false)
 else
 Option.bind (qM k r5.2.2.2.2.2.2.2.2.2.2.2.1 r5.2.2.2.2.2.2.2.2.2.2.2.2.1 r5.2.2.2.2.2.2.2.2.2.2.2.2.2.1) fun r7=>
 if(r7=true)then
 Option.bind (qI k r5.2.2.2.2.2.2.2.2.2.2.2.2.2.2.1 r5.2.2.2.2.2.2.2.2.2.2.2.2.2.2.2.1 r5.2.2.2.2.2.2.2.2.2.2.2.2.2.2.2.2.1 r5.2.2.2.2.2.2.2.2.2.2.2.2.2.2.2.2.2) fun r8=>
 (some r8)
 else
 (some false)
 else
 (some false)
 else
 Option.bind (qad k r5.2.2.2.2.2.2.2.2.2.1 r5.2.2.2.2.2.2.2.2.2.2.1) fun r6=>
 if(r6=true)then
 if((r5.2.2.2.2.2.2.2.2.2.1 != (0:Int))=false)then
 (some false)
 else
 Option.bind (qM k r5.2.2.2.2.2.2.2.2.2.2.2.1 r5.2.2.2.2.2.2.2.2.2.2.2.2.1 r5.2.2.2.2.2.2.2.2.2.2.2.2.2.1) fun r7=>
 if(r7=true)then
 Option.bind (qI k r5.2.2.2.2.2.2.2.2.2.2.2.2.2.2.1 r5.2.2.2.2.2.2.2.2.2.2.2.2.2.2.2.1 r5.2.2.2.2.2.2.2.2.2.2.2.2.2.2.2.2.1 r5.2.2.2.2.2.2.2.2.2.2.2.2.2.2.2.2.2) fun r8=>
 (some r8)
 else
 (some false)
 else
 (some false))
 else
 (some false)
 else
 (some false)
def qf7:Nat→List ByteArray→List DvT→Int→Int→Int→Int→ByteArray→List Int→Int→Int→Int→Int→List (Int×Int)→List Int→ByteArray→Int→List (Int×Int)→List (Int×Int)→Option (Bool)
 | 0,_,_,_,_,_,_,_,_,_,_,_,_,_,_,_,_,_,_=>none
 | k+1,f0,f1,f2,f3,f4,d0,d1,d2,d3,d4,d5,d6,d7,d8,d9,d10,d11,d12=>qhk k f0 f1 f2 f3 f4 d0 d1 d2 d3 d4 d5 d6 d7 d8 d9 d10 d11 d12
def qxK:Nat→Inst:=mkI 185 ⟨[.g [.lf (.sl .str),.lf (.sl qF),.lf (.int .i64),.lf (.int .i64),.lf (.int .i64)],.g [.lf (.int .u8),.lf .str,.lf (.sl (.int .i64)),.lf (.int .i64),.lf (.int .i64),.lf (.int .i64),.lf (.int .i64),.lf cE,.lf (.sl (.int .i64)),.lf .str,.lf (.int .u8),.lf cE,.lf cE]],[]⟩ [⟨[vB],[]⟩] fun k x=>qf7 k x.1 x.2.1 x.2.2.1 x.2.2.2.1 x.2.2.2.2.1 x.2.2.2.2.2.1 x.2.2.2.2.2.2.1 x.2.2.2.2.2.2.2.1 x.2.2.2.2.2.2.2.2.1 x.2.2.2.2.2.2.2.2.2.1 x.2.2.2.2.2.2.2.2.2.2.1 x.2.2.2.2.2.2.2.2.2.2.2.1 x.2.2.2.2.2.2.2.2.2.2.2.2.1 x.2.2.2.2.2.2.2.2.2.2.2.2.2.1 x.2.2.2.2.2.2.2.2.2.2.2.2.2.2.1 x.2.2.2.2.2.2.2.2.2.2.2.2.2.2.2.1 x.2.2.2.2.2.2.2.2.2.2.2.2.2.2.2.2.1 x.2.2.2.2.2.2.2.2.2.2.2.2.2.2.2.2.2
theorem quu (k:Nat):qat (call cf k) [qtq k,qup k,qw8 k,qw9 k,qxF k,qnZ k]:=
 ac (qun k) (ac (qw7 k) (ac (qAI k) (ac (qAJ k) (ac (qut k) (ac (qlu k) a0)))))
def qxL (k:Nat):LInst:=mkL 0 [⟨[(2,.a (.ptr 0 0 0)),(3,.a (.ptr 1 0 0)),(30,vJ),(31,vI),(32,vI)],[(0,some (.raw [[.lf (.sl .str),.lf (.sl qF),.lf (.int .i64),.lf (.int .i64),.lf (.int .i64)]] 5 27 true false false)),(1,some (.raw [[.lf (.int .u8),.lf .str,.lf (.sl (.int .i64)),.lf (.int .i64),.lf (.int .i64),.lf (.int .i64),.lf (.int .i64),.lf cE,.lf (.sl (.int .i64)),.lf .str,.lf (.int .u8),.lf cE,.lf cE]] 13 48 true false false))],2⟩] [⟨none,⟨[(4,vB)],[(0,some (.raw [[.lf (.sl .str),.lf (.sl qF),.lf (.int .i64),.lf (.int .i64),.lf (.int .i64)]] 5 27 true false false)),(1,some (.raw [[.lf (.int .u8),.lf .str,.lf (.sl (.int .i64)),.lf (.int .i64),.lf (.int .i64),.lf (.int .i64),.lf (.int .i64),.lf cE,.lf (.sl (.int .i64)),.lf .str,.lf (.int .u8),.lf cE,.lf cE]] 13 48 true false false))],2⟩⟩,⟨some 0,⟨[(2,.a (.ptr 0 0 0)),(3,.a (.ptr 1 0 0))],[(0,some (.raw [[.lf (.sl .str),.lf (.sl qF),.lf (.int .i64),.lf (.int .i64),.lf (.int .i64)]] 5 27 true false false)),(1,some (.raw [[.lf (.int .u8),.lf .str,.lf (.sl (.int .i64)),.lf (.int .i64),.lf (.int .i64),.lf (.int .i64),.lf (.int .i64),.lf cE,.lf (.sl (.int .i64)),.lf .str,.lf (.int .u8),.lf cE,.lf cE]] 13 48 true false false))],2⟩⟩] (fun n x=>qbl k n x.1 x.2.1 x.2.2.1 x.2.2.2.1 x.2.2.2.2.1 x.2.2.2.2.2.1 x.2.2.2.2.2.2.1 x.2.2.2.2.2.2.2.1 x.2.2.2.2.2.2.2.2.1 x.2.2.2.2.2.2.2.2.2.1 x.2.2.2.2.2.2.2.2.2.2.1 x.2.2.2.2.2.2.2.2.2.2.2.1 x.2.2.2.2.2.2.2.2.2.2.2.2.1 x.2.2.2.2.2.2.2.2.2.2.2.2.2.1 x.2.2.2.2.2.2.2.2.2.2.2.2.2.2.1 x.2.2.2.2.2.2.2.2.2.2.2.2.2.2.2.1 x.2.2.2.2.2.2.2.2.2.2.2.2.2.2.2.2.1 x.2.2.2.2.2.2.2.2.2.2.2.2.2.2.2.2.2.1 x.2.2.2.2.2.2.2.2.2.2.2.2.2.2.2.2.2.2.1 x.2.2.2.2.2.2.2.2.2.2.2.2.2.2.2.2.2.2.2.1 x.2.2.2.2.2.2.2.2.2.2.2.2.2.2.2.2.2.2.2.2) k
theorem qxM (k:Nat):LIo 185 Tryz.f185 0 k (qxL k):=
 lpk [] (quu k) l0 (fun _=>rfl) (by kernel_rfl) fun n x=>by kernel_rfl
theorem qAV:∀k,qe (call cf k) (qxK k):=
 fnk 0 [0] Tryz.func185 (fun k=>(quu k)) (fun k=>(lc (qxM k) l0)) ⟨rfl,rfl,⟨rfl,Nat.le_of_ble_eq_true rfl⟩,rfl⟩ (fun _=>rfl) (by kernel_rfl) fun k x=>by kernel_rfl

def qfn (k:Nat) (s:ByteArray) (c:Int):Option (Int):=
 (some (qe0 s c))
def qcl:Nat→ByteArray→Int→Option (Int)
 | 0,_,_=>none
 | k+1,s,c=>qfn k s c
def qjN:FS:=⟨[vS,.a (.lf (.int .u8))],[]⟩
def qlA:List FS:= [⟨[vI],[]⟩]
def quv (k:Nat):Inst:=⟨59,qjN,qlA,fun x=>qcl k x.1 x.2⟩
theorem qxN (k:Nat) (x:qjN.D):qcl (k+1) x.1 x.2=(qhL) (DS FS.D qlA) (qjN.enc x).1 (qjN.enc x).2 (qg5 FS.dec qlA):=by kernel_rfl
theorem qxO:∀k,qe (call cf k) (quv k)
 | 0=>fun x y e=>absurd (show(none:Option _)=some y from e) (by simp)
 | k+1=>qkN (c:=cf) (k:=k) (f:=59) (g:=qfA) (G:=qhL) (sh:=qjN) (os:=qlA) rfl (qmJ) (fun x=>qcl (k+1) x.1 x.2) (qxN k)

def qeq (k:Nat) (rec:Int→Nat→List DvT→Int→Int→List Int→Option (Int×Nat×List Int)) (n:Int) (branch:Nat) (x:List DvT) (x1:Int) (x2:Int) (branchs:List Int):Option (Int×Nat×List Int):=
 if((decide (x2<x1))=true)then
 if((0:Int)≤x2)then
 Option.bind (x)[(Int.toNat x2)]? fun x3=>
 Option.bind (qcl k (ByteArray.mk (List.toArray (118::(101::(104::(99::(108::(116:: [])))))))) x3.1) fun r6=>
 if((decide (r6≥(0:Int)))=true)then
 if(branch≤(List.length branchs))then
 if(((branch+(List.length (List.take 1 (n:: []))))*8)≤140737488355328)then
 rec (IntKind.wrap .i64 (n+(1:Int))) (branch+(List.length (List.take 1 (n:: [])))) x x1 (IntKind.wrap .i64 (x2+(1:Int))) ((List.take branch branchs)++(List.take 1 (n:: [])))
 else
 none
 else
 none
 else
 if(branch≤(List.length branchs))then
 if(((branch+1)*8)≤140737488355328)then
 rec n (branch+1) x x1 (IntKind.wrap .i64 (x2+(1:Int))) ((List.take branch branchs)++(List.take 1 ((-(1:Int)):: [])))
 else
 none
 else
 none
 else
 none
 else
 (some (n,branch,branchs))
def qdi (k n:Nat):Int→Nat→List DvT→Int→Int→List Int→Option (Int×Nat×List Int):=Nat.rec (fun _ _ _ _ _ _=>none) (fun _ r=>qeq k r) n
def qiw (k:Nat) (f0:List ByteArray) (f1:List DvT) (f2:Int) (f3:Int) (f4:Int):Option (Int×List Int):=
 Option.bind (qdi k k (IntKind.wrap .i64 ((((List.length f0):Nat):Int)-(1:Int))) 0 f1 (((List.length f1):Nat):Int) (0:Int) []) fun r6=>
 if((0+r6.2.1)≤(List.length r6.2.2))then
 (some (r6.1,(List.take r6.2.1 r6.2.2)))
 else
 none
def qcY:Nat→List ByteArray→List DvT→Int→Int→Int→Option (Int×List Int)
 | 0,_,_,_,_,_=>none
 | k+1,f0,f1,f2,f3,f4=>qiw k f0 f1 f2 f3 f4
def qxP:Nat→Inst:=mkI 186 ⟨[.g [.lf (.sl .str),.lf (.sl qF),.lf (.int .i64),.lf (.int .i64),.lf (.int .i64)]],[]⟩ [⟨[vI,vJ],[]⟩] fun k x=>qcY k x.1 x.2.1 x.2.2.1 x.2.2.2.1 x.2.2.2.2
theorem quw (k:Nat):qat (call cf k) [quv k]:=
 ac (qxO k) a0
def qxQ (k:Nat):LInst:=mkL 0 [⟨[(4,vI),(5,.a (.smz 0)),(14,.a (.lf (.sl qF))),(15,vI),(16,vI)],[(0,some (.arr (.int .i64) 1 3 false))],1⟩] [⟨some 0,⟨[(4,vI),(5,.a (.smz 0))],[(0,some (.arr (.int .i64) 1 3 false))],1⟩⟩] (fun n x=>qdi k n x.1 x.2.1 x.2.2.1 x.2.2.2.1 x.2.2.2.2.1 x.2.2.2.2.2) k
theorem qxR (k:Nat):LIo 186 Tryz.f186 0 k (qxQ k):=
 lpk [] (quw k) l0 (fun _=>rfl) (by kernel_rfl) fun n x=>by kernel_rfl
theorem qux:∀k,qe (call cf k) (qxP k):=
 fnk 0 [0] Tryz.func186 (fun k=>(quw k)) (fun k=>(lc (qxR k) l0)) ⟨rfl,rfl,⟨rfl,Nat.le_of_ble_eq_true rfl⟩,rfl⟩ (fun _=>rfl) (by kernel_rfl) fun k x=>by kernel_rfl

def qcK (k:Nat) (rec:List ByteArray→Int→Int→List ByteArray→List DvT→Int→Int→Int→Option ((Int×List ByteArray×List DvT×Int×Int×Int) ⊕ (List ByteArray×List DvT×Int×Int×Int))) (x:List ByteArray) (x1:Int) (x2:Int) (f0:List ByteArray) (f1:List DvT) (f2:Int) (f3:Int) (f4:Int):Option ((Int×List ByteArray×List DvT×Int×Int×Int) ⊕ (List ByteArray×List DvT×Int×Int×Int)):=
 if((decide (x2<x1))=true)then
 if((0:Int)≤x2)then
 Option.bind (x)[(Int.toNat x2)]? fun x3=>
 Option.bind (qfB k x3) fun r3=>
 if((!r3)=true)then
 (some (Sum.inl ((90:Int),f0,f1,f2,f3,f4)))
 else
 rec x x1 (IntKind.wrap .i64 (x2+(1:Int))) f0 f1 f2 f3 f4
 else
 none
 else
 (some (Sum.inr (f0,f1,f2,f3,f4)))
def qaM (k n:Nat):List ByteArray→Int→Int→List ByteArray→List DvT→Int→Int→Int→Option ((Int×List ByteArray×List DvT×Int×Int×Int) ⊕ (List ByteArray×List DvT×Int×Int×Int)):=Nat.rec (fun _ _ _ _ _ _ _ _=>none) (fun _ r=>qcK k r) n
def qcL (k:Nat) (rec:Nat→List DvT→Int→Int→List ByteArray→List DvT→Int→Int→Int→List ByteArray→Option ((Int×List ByteArray×List DvT×Int×Int×Int×List ByteArray×Int×ByteArray×List Int×Int×Int×Int×Int×List (Int×Int)×List Int×ByteArray×Int×List (Int×Int)×List (Int×Int)) ⊕ (Nat×List ByteArray×List DvT×Int×Int×Int×List ByteArray))) (qbE:Nat) (x:List DvT) (x1:Int) (x2:Int) (f0:List ByteArray) (f1:List DvT) (f2:Int) (f3:Int) (f4:Int) (namess:List ByteArray):Option ((Int×List ByteArray×List DvT×Int×Int×Int×List ByteArray×Int×ByteArray×List Int×Int×Int×Int×Int×List (Int×Int)×List Int×ByteArray×Int×List (Int×Int)×List (Int×Int)) ⊕ (Nat×List ByteArray×List DvT×Int×Int×Int×List ByteArray)):=
 if((decide (x2<x1))=true)then
 if((0:Int)≤x2)then
 Option.bind (x)[(Int.toNat x2)]? fun x3=>
 Option.bind (qf7 k f0 f1 f2 f3 f4 x3.1 x3.2.1 x3.2.2.1 x3.2.2.2.1 x3.2.2.2.2.1.1 x3.2.2.2.2.1.2 x3.2.2.2.2.2.1.1 x3.2.2.2.2.2.1.2.1 x3.2.2.2.2.2.1.2.2 x3.2.2.2.2.2.2.1 x3.2.2.2.2.2.2.2.1 x3.2.2.2.2.2.2.2.2.1 x3.2.2.2.2.2.2.2.2.2) fun r4=>
 if((!r4)=true)then
 (some (Sum.inl ((90:Int),f0,f1,f2,f3,f4,namess,x3.1,x3.2.1,x3.2.2.1,x3.2.2.2.1,x3.2.2.2.2.1.1,x3.2.2.2.2.1.2,x3.2.2.2.2.2.1.1,x3.2.2.2.2.2.1.2.1,x3.2.2.2.2.2.1.2.2,x3.2.2.2.2.2.2.1,x3.2.2.2.2.2.2.2.1,x3.2.2.2.2.2.2.2.2.1,x3.2.2.2.2.2.2.2.2.2)))
 else
 if(qbE≤(List.length namess))then
 if(((qbE+(List.length (List.take 1 (x3.2.1:: []))))*16)≤140737488355328)then
 rec (qbE+(List.length (List.take 1 (x3.2.1:: [])))) x x1 (IntKind.wrap .i64 (x2+(1:Int))) f0 f1 f2 f3 f4 ((List.take qbE namess)++(List.take 1 (x3.2.1:: [])))
 else
 none
 else
 none
 else
 none
 else
 (some (Sum.inr (qbE,f0,f1,f2,f3,f4,namess)))
def qaw (k n:Nat):Nat→List DvT→Int→Int→List ByteArray→List DvT→Int→Int→Int→List ByteArray→Option ((Int×List ByteArray×List DvT×Int×Int×Int×List ByteArray×Int×ByteArray×List Int×Int×Int×Int×Int×List (Int×Int)×List Int×ByteArray×Int×List (Int×Int)×List (Int×Int)) ⊕ (Nat×List ByteArray×List DvT×Int×Int×Int×List ByteArray)):=Nat.rec (fun _ _ _ _ _ _ _ _ _ _=>none) (fun _ r=>qcL k r) n
def qhl (k:Nat) (f0:List ByteArray) (f1:List DvT) (f2:Int) (f3:Int) (f4:Int):Option (Int):=
 Option.bind (qad k f2 f3) fun r1=>
 if((!r1)=false)then
 if((decide (f2≤(0:Int)))=false)then
 if((f4 != (1:Int))=true)then
 if((f4 != (2:Int))=true)then
 (some (90:Int))
 else
 if((decide ((((List.length f0):Nat):Int)<(1:Int)))=false)then
 if((decide ((((List.length f0):Nat):Int)>(32:Int)))=false)then
 Option.bind (f0)[0]? fun x=>
 if((!((Array.toList (ByteArray.data x)) == (Array.toList (ByteArray.data (ByteArray.mk (List.toArray (48:: [])))))))=false)then
 if((decide ((((List.length f1):Nat):Int)>(64:Int)))=false)then
 Option.bind (qb9 k f0) fun r2=>
 if(r2=true)then
 (some (90:Int))
 else
 Option.bind (qaM k k f0 (((List.length f0):Nat):Int) (0:Int) f0 f1 f2 f3 f4) fun r3=>
 qc r3
 (fun r3=>
 (some r3.1))
 (fun r3=>
 Option.bind (qaw k k 0 r3.2.1 (((List.length r3.2.1):Nat):Int) (0:Int) r3.1 r3.2.1 r3.2.2.1 r3.2.2.2.1 r3.2.2.2.2 []) fun r4=>
 qc r4
 (fun r4=>
 (some r4.1))
 (fun r4=>
 if((0+r4.1)≤(List.length r4.2.2.2.2.2.2))then
 Option.bind (qb9 k (List.take r4.1 r4.2.2.2.2.2.2)) fun r5=>
 if(r5=true)then
 (some (90:Int))
 else
 Option.bind (qcY k r4.2.1 r4.2.2.1 r4.2.2.2.1 r4.2.2.2.2.1 r4.2.2.2.2.2.1) fun r6=>
 if((decide (r6.1>(48:Int)))=true)then
 (some (5:Int))
 else
 (some (0:Int))
 else
 none))
 else
 (some (90:Int))
 else
 (some (90:Int))
 else
 (some (90:Int))
 else
 (some (90:Int))
 else
 if((decide ((((List.length f0):Nat):Int)<(1:Int)))=false)then
 if((decide ((((List.length f0):Nat):Int)>(32:Int)))=false)then
 Option.bind (f0)[0]? fun x=>
 if((!((Array.toList (ByteArray.data x)) == (Array.toList (ByteArray.data (ByteArray.mk (List.toArray (48:: [])))))))=false)then
 if((decide ((((List.length f1):Nat):Int)>(64:Int)))=false)then
 Option.bind (qb9 k f0) fun r2=>
 if(r2=true)then
 (some (90:Int))
 else
 Option.bind (qaM k k f0 (((List.length f0):Nat):Int) (0:Int) f0 f1 f2 f3 f4) fun r3=>
 qc r3
 (fun r3=>
 (some r3.1))
 (fun r3=>
 Option.bind (qaw k k 0 r3.2.1 (((List.length r3.2.1):Nat):Int) (0:Int) r3.1 r3.2.1 r3.2.2.1 r3.2.2.2.1 r3.2.2.2.2 []) fun r4=>
 qc r4
 (fun r4=>
 (some r4.1))
 (fun r4=>
 if((0+r4.1)≤(List.length r4.2.2.2.2.2.2))then
 Option.bind (qb9 k (List.take r4.1 r4.2.2.2.2.2.2)) fun r5=>
 if(r5=true)then
 (some (90:Int))
 else
 Option.bind (qcY k r4.2.1 r4.2.2.1 r4.2.2.2.1 r4.2.2.2.2.1 r4.2.2.2.2.2.1) fun r6=>
 if((decide (r6.1>(48:Int)))=true)then
 (some (5:Int))
 else
 (some (0:Int))
 else
 none))
 else
 (some (90:Int))
 else
 (some (90:Int))
 else
 (some (90:Int))
 else
 (some (90:Int))
 else
 (some (90:Int))
 else
 (some (90:Int))
def qd8:Nat→List ByteArray→List DvT→Int→Int→Int→Option (Int)
 | 0,_,_,_,_,_=>none
 | k+1,f0,f1,f2,f3,f4=>qhl k f0 f1 f2 f3 f4
def qxS:Nat→Inst:=mkI 120 ⟨[.g [.lf (.sl .str),.lf (.sl qF),.lf (.int .i64),.lf (.int .i64),.lf (.int .i64)]],[]⟩ [⟨[vI],[]⟩] fun k x=>qd8 k x.1 x.2.1 x.2.2.1 x.2.2.2.1 x.2.2.2.2
theorem qqp (k:Nat):qat (call cf k) [qnZ k,qwJ k,qtq k,qxK k,qxP k]:=
 ac (qlu k) (ac (qAB k) (ac (qun k) (ac (qAV k) (ac (qux k) a0))))
def qxT (k:Nat):LInst:=mkL 0 [⟨[(1,.a (.ptr 0 0 0)),(59,vR),(60,vI),(61,vI)],[(0,some (.raw [[.lf (.sl .str),.lf (.sl qF),.lf (.int .i64),.lf (.int .i64),.lf (.int .i64)]] 5 27 true false false))],1⟩] [⟨none,⟨[(2,vI)],[(0,some (.raw [[.lf (.sl .str),.lf (.sl qF),.lf (.int .i64),.lf (.int .i64),.lf (.int .i64)]] 5 27 true false false))],1⟩⟩,⟨some 0,⟨[(1,.a (.ptr 0 0 0))],[(0,some (.raw [[.lf (.sl .str),.lf (.sl qF),.lf (.int .i64),.lf (.int .i64),.lf (.int .i64)]] 5 27 true false false))],1⟩⟩] (fun n x=>qaM k n x.1 x.2.1 x.2.2.1 x.2.2.2.1 x.2.2.2.2.1 x.2.2.2.2.2.1 x.2.2.2.2.2.2.1 x.2.2.2.2.2.2.2) k
theorem qrR (k:Nat):LIo 120 Tryz.f120 0 k (qxT k):=
 lpk [] (qqp k) l0 (fun _=>rfl) (by kernel_rfl) fun n x=>by kernel_rfl
def qxU (k:Nat):LInst:=mkL 2 [⟨[(1,.a (.ptr 0 0 0)),(5,.a (.smz 1)),(70,.a (.lf (.sl qF))),(71,vI),(72,vI)],[(0,some (.raw [[.lf (.sl .str),.lf (.sl qF),.lf (.int .i64),.lf (.int .i64),.lf (.int .i64)]] 5 27 true false false)),(1,some (.arr .str 1 9 false))],2⟩] [⟨none,⟨[(2,vI)],[(0,some (.raw [[.lf (.sl .str),.lf (.sl qF),.lf (.int .i64),.lf (.int .i64),.lf (.int .i64)]] 5 27 true false false)),(1,some (.arr .str 1 9 false)),(2,some (.raw [[.lf (.int .u8),.lf .str,.lf (.sl (.int .i64)),.lf (.int .i64),.lf (.int .i64),.lf (.int .i64),.lf (.int .i64),.lf cE,.lf (.sl (.int .i64)),.lf .str,.lf (.int .u8),.lf cE,.lf cE]] 13 48 true false false))],3⟩⟩,⟨some 2,⟨[(1,.a (.ptr 0 0 0)),(5,.a (.smz 1))],[(0,some (.raw [[.lf (.sl .str),.lf (.sl qF),.lf (.int .i64),.lf (.int .i64),.lf (.int .i64)]] 5 27 true false false)),(1,some (.arr .str 1 9 false))],2⟩⟩] (fun n x=>qaw k n x.1 x.2.1 x.2.2.1 x.2.2.2.1 x.2.2.2.2.1 x.2.2.2.2.2.1 x.2.2.2.2.2.2.1 x.2.2.2.2.2.2.2.1 x.2.2.2.2.2.2.2.2.1 x.2.2.2.2.2.2.2.2.2) k
theorem qxV (k:Nat):LIo 120 Tryz.f120 0 k (qxU k):=
 lpk [] (qqp k) (lc (qrR k) l0) (fun _=>rfl) (by kernel_rfl) fun n x=>by kernel_rfl
theorem quy:∀k,qe (call cf k) (qxS k):=
 fnk 0 [0,2] Tryz.func120 (fun k=>(qqp k)) (fun k=>(lc (qrR k) (lc (qxV k) l0))) ⟨rfl,rfl,⟨rfl,Nat.le_of_ble_eq_true rfl⟩,rfl⟩ (fun _=>rfl) (by kernel_rfl) fun k x=>by kernel_rfl

def qg9 (k:Nat) (f0:List ByteArray) (f1:List DvT) (f2:Int) (f3:Int) (f4:Int):Option (Int×List Int):=
 Option.bind (qd8 k f0 f1 f2 f3 f4) fun r2=>
 if((r2 != (0:Int))=true)then
 (some ((0:Int),[]))
 else
 Option.bind (qcY k f0 f1 f2 f3 f4) fun r3=>
 (some (r3.1,r3.2))
def qfC:Nat→List ByteArray→List DvT→Int→Int→Int→Option (Int×List Int)
 | 0,_,_,_,_,_=>none
 | k+1,f0,f1,f2,f3,f4=>qg9 k f0 f1 f2 f3 f4
def qxW:Nat→Inst:=mkI 129 ⟨[.g [.lf (.sl .str),.lf (.sl qF),.lf (.int .i64),.lf (.int .i64),.lf (.int .i64)]],[]⟩ [⟨[vI,vJ],[]⟩] fun k x=>qfC k x.1 x.2.1 x.2.2.1 x.2.2.2.1 x.2.2.2.2
theorem qAW:∀k,qe (call cf k) (qxW k):=
 fnk 0 [] Tryz.func129 (fun k=>(ac (quy k) (ac (qux k) a0))) (fun k=>l0) ⟨rfl,rfl,⟨rfl,Nat.le_of_ble_eq_true rfl⟩,rfl⟩ (fun _=>rfl) (by kernel_rfl) fun k x=>by kernel_rfl

def qd1 (k:Nat) (rec:Nat→List DvT→Int→Int→List Int→Option (Nat×List Int)) (l:Nat) (x:List DvT) (x1:Int) (x2:Int) (ls:List Int):Option (Nat×List Int):=
 if((decide (x2<x1))=true)then
 if((0:Int)≤x2)then
 Option.bind (x)[(Int.toNat x2)]? fun x3=>
 if((x3.1 == (100:Int))=false)then
 if((x3.1 == (115:Int))=true)then
 if(l≤(List.length ls))then
 if(((l+(List.length (List.take 1 (x2:: []))))*8)≤140737488355328)then
 rec (l+(List.length (List.take 1 (x2:: [])))) x x1 (IntKind.wrap .i64 (x2+(1:Int))) ((List.take l ls)++(List.take 1 (x2:: [])))
 else
 none
 else
 none
 else
 rec l x x1 (IntKind.wrap .i64 (x2+(1:Int))) ls
 else
 if(l≤(List.length ls))then
 if(((l+(List.length (List.take 1 (x2:: []))))*8)≤140737488355328)then
 rec (l+(List.length (List.take 1 (x2:: [])))) x x1 (IntKind.wrap .i64 (x2+(1:Int))) ((List.take l ls)++(List.take 1 (x2:: [])))
 else
 none
 else
 none
 else
 none
 else
 (some (l,ls))
def qcM (k n:Nat):Nat→List DvT→Int→Int→List Int→Option (Nat×List Int):=Nat.rec (fun _ _ _ _ _=>none) (fun _ r=>qd1 k r) n
def qh4 (k:Nat) (f0:List ByteArray) (f1:List DvT) (f2:Int) (f3:Int) (f4:Int):Option (List Int):=
 Option.bind (qcM k k 0 f1 (((List.length f1):Nat):Int) (0:Int) []) fun r3=>
 if((0+r3.1)≤(List.length r3.2))then
 (some (List.take r3.1 r3.2))
 else
 none
def qgT:Nat→List ByteArray→List DvT→Int→Int→Int→Option (List Int)
 | 0,_,_,_,_,_=>none
 | k+1,f0,f1,f2,f3,f4=>qh4 k f0 f1 f2 f3 f4
def quz:Nat→Inst:=mkI 130 ⟨[.g [.lf (.sl .str),.lf (.sl qF),.lf (.int .i64),.lf (.int .i64),.lf (.int .i64)]],[]⟩ [⟨[vJ],[]⟩] fun k x=>qgT k x.1 x.2.1 x.2.2.1 x.2.2.2.1 x.2.2.2.2
def qxX (k:Nat):LInst:=mkL 0 [⟨[(3,.a (.smz 0)),(7,.a (.lf (.sl qF))),(8,vI),(9,vI)],[(0,some (.arr (.int .i64) 1 3 false))],1⟩] [⟨some 0,⟨[(3,.a (.smz 0))],[(0,some (.arr (.int .i64) 1 3 false))],1⟩⟩] (fun n x=>qcM k n x.1 x.2.1 x.2.2.1 x.2.2.2.1 x.2.2.2.2) k
theorem qxY (k:Nat):LIo 130 Tryz.f130 0 k (qxX k):=
 lpk [] a0 l0 (fun _=>rfl) (by kernel_rfl) fun n x=>by kernel_rfl
theorem qxZ:∀k,qe (call cf k) (quz k):=
 fnk 0 [0] Tryz.func130 (fun k=>a0) (fun k=>(lc (qxY k) l0)) ⟨rfl,rfl,⟨rfl,Nat.le_of_ble_eq_true rfl⟩,rfl⟩ (fun _=>rfl) (by kernel_rfl) fun k x=>by kernel_rfl

def qha (k:Nat) (v:Int):Option (Bool):=
 if((decide (v>(1000000000000000000:Int)))=false)then
 (some (decide (v<(-(1000000000000000000:Int)))))
 else
 (some true)
def qer:Nat→Int→Option (Bool)
 | 0,_=>none
 | k+1,v=>qha k v
def quA:Nat→Inst:=mkI 191 ⟨[vI],[]⟩ [⟨[vB],[]⟩] fun k x=>qer k x
theorem qx0:∀k,qe (call cf k) (quA k):=
 fnk 0 [] Tryz.func191 (fun k=>a0) (fun k=>l0) ⟨rfl,rfl,⟨rfl,Nat.le_of_ble_eq_true rfl⟩,rfl⟩ (fun _=>rfl) (by kernel_rfl) fun k x=>by kernel_rfl

def qfa (k:Nat) (rec:List Int→Int→Int→Option ((Int) ⊕ (Unit))) (s:List Int) (x:Int) (x1:Int):Option ((Int) ⊕ (Unit)):=
 if((decide (x1<x))=true)then
 if((0:Int)≤x1)then
 Option.bind (s)[(Int.toNat x1)]? fun x2=>
 Option.bind (qer k x2) fun r4=>
 if(r4=true)then
 (some (Sum.inl x1))
 else
 rec s x (IntKind.wrap .i64 (x1+(1:Int)))
 else
 none
 else
 (some (Sum.inr ()))
def qbM (k n:Nat):List Int→Int→Int→Option ((Int) ⊕ (Unit)):=Nat.rec (fun _ _ _=>none) (fun _ r=>qfa k r) n
def qb0 (k:Nat) (s:List Int):Option (Int):=
 Option.bind (qbM k k s (((List.length s):Nat):Int) (0:Int)) fun r4=>
 qc r4
 (fun r4=>
 (some r4))
 (fun r4=>
 (some (-(1:Int))))
def qaH:Nat→List Int→Option (Int)
 | 0,_=>none
 | k+1,s=>qb0 k s
def qAX:Nat→Inst:=mkI 197 ⟨[vJ,.a (.fn 191 [])],[]⟩ [⟨[vI],[]⟩] fun k x=>qaH k x
theorem qrS (k:Nat):qat (call cf k) [quA k]:=
 ac (qx0 k) a0
def qx1 (k:Nat):LInst:=mkL 0 [⟨[(0,vJ),(1,.a (.fn 191 [])),(7,vI),(8,vI)],[],0⟩] [⟨none,⟨[(4,vI)],[],0⟩⟩,⟨some 0,⟨[],[],0⟩⟩] (fun n x=>qbM k n x.1 x.2.1 x.2.2) k
theorem qx2 (k:Nat):LIo 197 Tryz.f197 0 k (qx1 k):=
 lpk [] (qrS k) l0 (fun _=>rfl) (by kernel_rfl) fun n x=>by kernel_rfl
theorem qx3:∀k,qe (call cf k) (qAX k):=
 fnk 0 [0] Tryz.func197 (fun k=>(qrS k)) (fun k=>(lc (qx2 k) l0)) ⟨rfl,rfl,⟨rfl,Nat.le_of_ble_eq_true rfl⟩,rfl⟩ (fun _=>rfl) (by kernel_rfl) fun k x=>by kernel_rfl

def qbH (k:Nat) (s:List Int):Option (Bool):=
 Option.bind (qaH k s) fun r4=>
 (some (decide (r4≥(0:Int))))
def qar:Nat→List Int→Option (Bool)
 | 0,_=>none
 | k+1,s=>qbH k s
def qAY:Nat→Inst:=mkI 139 ⟨[vJ,.a (.fn 191 [])],[]⟩ [⟨[vB],[]⟩] fun k x=>qar k x
theorem qx4:∀k,qe (call cf k) (qAY k):=
 fnk 0 [] Tryz.func139 (fun k=>(ac (qx3 k) a0)) (fun k=>l0) ⟨rfl,rfl,⟨rfl,Nat.le_of_ble_eq_true rfl⟩,rfl⟩ (fun _=>rfl) (by kernel_rfl) fun k x=>by kernel_rfl

def qh5 (k:Nat) (l:List Int):Option (Bool):=
 Option.bind (qar k l) fun r4=>
 (some (!r4))
def qfo:Nat→List Int→Option (Bool)
 | 0,_=>none
 | k+1,l=>qh5 k l
def quB:Nat→Inst:=mkI 131 ⟨[vJ],[]⟩ [⟨[vB],[]⟩] fun k x=>qfo k x
theorem qx5:∀k,qe (call cf k) (quB k):=
 fnk 0 [] Tryz.func131 (fun k=>(ac (qx4 k) a0)) (fun k=>l0) ⟨rfl,rfl,⟨rfl,Nat.le_of_ble_eq_true rfl⟩,rfl⟩ (fun _=>rfl) (by kernel_rfl) fun k x=>by kernel_rfl

def qn4 (k:Nat) (m0:ByteArray) (m1:Int) (m2:List (Int×Int)) (m3:List (Int×Int)):Option (Int):=
 Option.bind (qdF k m0 m1 m2 m3) fun r6=>
 if((!r6)=true)then
 (some (0:Int))
 else
 (some (((List.length m2):Nat):Int))
def qgU:Nat→ByteArray→Int→List (Int×Int)→List (Int×Int)→Option (Int)
 | 0,_,_,_,_=>none
 | k+1,m0,m1,m2,m3=>qn4 k m0 m1 m2 m3
def qx6:Nat→Inst:=mkI 132 ⟨[.g [.lf .str,.lf (.int .u8),.lf cE,.lf cE]],[]⟩ [⟨[vI],[]⟩] fun k x=>qgU k x.1 x.2.1 x.2.2.1 x.2.2.2
theorem qAZ:∀k,qe (call cf k) (qx6 k):=
 fnk 0 [] Tryz.func132 (fun k=>(ac (qut k) a0)) (fun k=>l0) ⟨rfl,rfl,⟨rfl,Nat.le_of_ble_eq_true rfl⟩,rfl⟩ (fun _=>rfl) (by kernel_rfl) fun k x=>by kernel_rfl

def qcN (k:Nat) (rec:List Int→Int→Int→List ByteArray→List DvT→Int→Int→Int→Int→List Int→List Int→List Int→Option ((Int×List ByteArray×List DvT×Int×Int×Int×Int×List Int×List Int×List Int) ⊕ (List ByteArray×List DvT×Int×Int×Int×Int×List Int×List Int×List Int))) (x:List Int) (x1:Int) (x2:Int) (f0:List ByteArray) (f1:List DvT) (f2:Int) (f3:Int) (f4:Int) (st0:Int) (st1:List Int) (st2:List Int) (st3:List Int):Option ((Int×List ByteArray×List DvT×Int×Int×Int×Int×List Int×List Int×List Int) ⊕ (List ByteArray×List DvT×Int×Int×Int×Int×List Int×List Int×List Int)):=
 if((decide (x2<x1))=true)then
 if((0:Int)≤x2)then
 Option.bind (x)[(Int.toNat x2)]? fun x3=>
 if((0:Int)≤x2)then
 Option.bind (st3)[(Int.toNat x2)]? fun x4=>
 if((decide (x4<(0:Int)))=false)then
 if((0:Int)≤x2)then
 Option.bind (st3)[(Int.toNat x2)]? fun x5=>
 if((0:Int)≤x3)then
 Option.bind (f1)[(Int.toNat x3)]? fun x6=>
 Option.bind (qgU k x6.2.2.2.2.2.2.1 x6.2.2.2.2.2.2.2.1 x6.2.2.2.2.2.2.2.2.1 x6.2.2.2.2.2.2.2.2.2) fun r6=>
 if((decide (x5≥r6))=true)then
 (some (Sum.inl ((190:Int),f0,f1,f2,f3,f4,st0,st1,st2,st3)))
 else
 rec x x1 (IntKind.wrap .i64 (x2+(1:Int))) f0 f1 f2 f3 f4 st0 st1 st2 st3
 else
 none
 else
 none
 else
 (some (Sum.inl ((190:Int),f0,f1,f2,f3,f4,st0,st1,st2,st3)))
 else
 none
 else
 none
 else
 (some (Sum.inr (f0,f1,f2,f3,f4,st0,st1,st2,st3)))
def qbV (k n:Nat):List Int→Int→Int→List ByteArray→List DvT→Int→Int→Int→Int→List Int→List Int→List Int→Option ((Int×List ByteArray×List DvT×Int×Int×Int×Int×List Int×List Int×List Int) ⊕ (List ByteArray×List DvT×Int×Int×Int×Int×List Int×List Int×List Int)):=Nat.rec (fun _ _ _ _ _ _ _ _ _ _ _ _=>none) (fun _ r=>qcN k r) n
def qix (k:Nat) (f0:List ByteArray) (f1:List DvT) (f2:Int) (f3:Int) (f4:Int) (st0:Int) (st1:List Int) (st2:List Int) (st3:List Int):Option (Int):=
 Option.bind (qd8 k f0 f1 f2 f3 f4) fun r1=>
 if((r1 != (0:Int))=true)then
 (some r1)
 else
 Option.bind (qfC k f0 f1 f2 f3 f4) fun r2=>
 Option.bind (qgT k f0 f1 f2 f3 f4) fun r3=>
 if((decide (st0<(0:Int)))=false)then
 if((decide (st0>(1000000000:Int)))=false)then
 if(((((List.length st1):Nat):Int) != r2.1)=false)then
 if(((((List.length st2):Nat):Int) != (((List.length f1):Nat):Int))=false)then
 if(((((List.length st3):Nat):Int) != (((List.length r3):Nat):Int))=false)then
 Option.bind (qfo k st1) fun r4=>
 if((!r4)=false)then
 Option.bind (qfo k st2) fun r5=>
 if((!r5)=true)then
 (some (190:Int))
 else
 Option.bind (qbV k k r3 (((List.length r3):Nat):Int) (0:Int) f0 f1 f2 f3 f4 st0 st1 st2 st3) fun r6=>
 qc r6
 (fun r6=>
 (some r6.1))
 (fun r6=>
 (some (0:Int)))
 else
 (some (190:Int))
 else
 (some (190:Int))
 else
 (some (190:Int))
 else
 (some (190:Int))
 else
 (some (190:Int))
 else
 (some (190:Int))
def qhm:Nat→List ByteArray→List DvT→Int→Int→Int→Int→List Int→List Int→List Int→Option (Int)
 | 0,_,_,_,_,_,_,_,_,_=>none
 | k+1,f0,f1,f2,f3,f4,st0,st1,st2,st3=>qix k f0 f1 f2 f3 f4 st0 st1 st2 st3
def quC:Nat→Inst:=mkI 73 ⟨[.g [.lf (.sl .str),.lf (.sl qF),.lf (.int .i64),.lf (.int .i64),.lf (.int .i64)],.g [.lf (.int .i64),.lf (.sl (.int .i64)),.lf (.sl (.int .i64)),.lf (.sl (.int .i64))]],[]⟩ [⟨[vI],[]⟩] fun k x=>qhm k x.1 x.2.1 x.2.2.1 x.2.2.2.1 x.2.2.2.2.1 x.2.2.2.2.2.1 x.2.2.2.2.2.2.1 x.2.2.2.2.2.2.2.1 x.2.2.2.2.2.2.2.2
theorem qrT (k:Nat):qat (call cf k) [qxS k,qxW k,quz k,quB k,qx6 k]:=
 ac (quy k) (ac (qAW k) (ac (qxZ k) (ac (qx5 k) (ac (qAZ k) a0))))
def qx7 (k:Nat):LInst:=mkL 0 [⟨[(2,.a (.ptr 0 0 0)),(3,.a (.ptr 1 0 0)),(67,vJ),(68,vI),(69,vI)],[(0,some (.raw [[.lf (.sl .str),.lf (.sl qF),.lf (.int .i64),.lf (.int .i64),.lf (.int .i64)]] 5 27 true false false)),(1,some (.raw [[.lf (.int .i64),.lf (.sl (.int .i64)),.lf (.sl (.int .i64)),.lf (.sl (.int .i64))]] 4 53 true false false))],2⟩] [⟨none,⟨[(4,vI)],[(0,some (.raw [[.lf (.sl .str),.lf (.sl qF),.lf (.int .i64),.lf (.int .i64),.lf (.int .i64)]] 5 27 true false false)),(1,some (.raw [[.lf (.int .i64),.lf (.sl (.int .i64)),.lf (.sl (.int .i64)),.lf (.sl (.int .i64))]] 4 53 true false false))],2⟩⟩,⟨some 0,⟨[],[(0,some (.raw [[.lf (.sl .str),.lf (.sl qF),.lf (.int .i64),.lf (.int .i64),.lf (.int .i64)]] 5 27 true false false)),(1,some (.raw [[.lf (.int .i64),.lf (.sl (.int .i64)),.lf (.sl (.int .i64)),.lf (.sl (.int .i64))]] 4 53 true false false))],2⟩⟩] (fun n x=>qbV k n x.1 x.2.1 x.2.2.1 x.2.2.2.1 x.2.2.2.2.1 x.2.2.2.2.2.1 x.2.2.2.2.2.2.1 x.2.2.2.2.2.2.2.1 x.2.2.2.2.2.2.2.2.1 x.2.2.2.2.2.2.2.2.2.1 x.2.2.2.2.2.2.2.2.2.2.1 x.2.2.2.2.2.2.2.2.2.2.2) k
theorem qx8 (k:Nat):LIo 73 Tryz.f73 0 k (qx7 k):=
 lpk [] (qrT k) l0 (fun _=>rfl) (by kernel_rfl) fun n x=>by kernel_rfl
theorem qx9:∀k,qe (call cf k) (quC k):=
 fnk 0 [0] Tryz.func73 (fun k=>(qrT k)) (fun k=>(lc (qx8 k) l0)) ⟨rfl,rfl,⟨rfl,Nat.le_of_ble_eq_true rfl⟩,rfl⟩ (fun _=>rfl) (by kernel_rfl) fun k x=>by kernel_rfl

def qhD (k:Nat) (p:ByteArray):Option (Bool):=
 Option.bind (qgP k p) fun r4=>
 (some (!r4))
def qge:Nat→ByteArray→Option (Bool)
 | 0,_=>none
 | k+1,p=>qhD k p
def qya:Nat→Inst:=mkI 195 ⟨[vS],[]⟩ [⟨[vB],[]⟩] fun k x=>qge k x
theorem qA0:∀k,qe (call cf k) (qya k):=
 fnk 0 [] Tryz.func195 (fun k=>(ac (qum k) a0)) (fun k=>l0) ⟨rfl,rfl,⟨rfl,Nat.le_of_ble_eq_true rfl⟩,rfl⟩ (fun _=>rfl) (by kernel_rfl) fun k x=>by kernel_rfl

def qeN (k:Nat) (rec:List ByteArray→Int→Int→Option ((Int) ⊕ (Unit))) (s:List ByteArray) (x:Int) (x1:Int):Option ((Int) ⊕ (Unit)):=
 if((decide (x1<x))=true)then
 if((0:Int)≤x1)then
 Option.bind (s)[(Int.toNat x1)]? fun x6=>
 Option.bind (qge k x6) fun r4=>
 if(r4=true)then
 (some (Sum.inl x1))
 else
 rec s x (IntKind.wrap .i64 (x1+(1:Int)))
 else
 none
 else
 (some (Sum.inr ()))
def qbs (k n:Nat):List ByteArray→Int→Int→Option ((Int) ⊕ (Unit)):=Nat.rec (fun _ _ _=>none) (fun _ r=>qeN k r) n
def qbN (k:Nat) (s:List ByteArray):Option (Int):=
 Option.bind (qbs k k s (((List.length s):Nat):Int) (0:Int)) fun r4=>
 qc r4
 (fun r4=>
 (some r4))
 (fun r4=>
 (some (-(1:Int))))
def qay:Nat→List ByteArray→Option (Int)
 | 0,_=>none
 | k+1,s=>qbN k s
def qA1:Nat→Inst:=mkI 194 ⟨[vR,.a (.fn 195 [])],[]⟩ [⟨[vI],[]⟩] fun k x=>qay k x
theorem qrU (k:Nat):qat (call cf k) [qya k]:=
 ac (qA0 k) a0
def qyb (k:Nat):LInst:=mkL 0 [⟨[(0,vR),(1,.a (.fn 195 [])),(7,vI),(8,vI)],[],0⟩] [⟨none,⟨[(4,vI)],[],0⟩⟩,⟨some 0,⟨[],[],0⟩⟩] (fun n x=>qbs k n x.1 x.2.1 x.2.2) k
theorem qyc (k:Nat):LIo 194 Tryz.f194 0 k (qyb k):=
 lpk [] (qrU k) l0 (fun _=>rfl) (by kernel_rfl) fun n x=>by kernel_rfl
theorem qyd:∀k,qe (call cf k) (qA1 k):=
 fnk 0 [0] Tryz.func194 (fun k=>(qrU k)) (fun k=>(lc (qyc k) l0)) ⟨rfl,rfl,⟨rfl,Nat.le_of_ble_eq_true rfl⟩,rfl⟩ (fun _=>rfl) (by kernel_rfl) fun k x=>by kernel_rfl

def qbm (k:Nat) (s:List ByteArray):Option (Bool):=
 Option.bind (qay k s) fun r4=>
 (some (decide (r4≥(0:Int))))
def qbn:Nat→List ByteArray→Option (Bool)
 | 0,_=>none
 | k+1,s=>qbm k s
def qA2:Nat→Inst:=mkI 134 ⟨[vR,.a (.fn 195 [])],[]⟩ [⟨[vB],[]⟩] fun k x=>qbn k x
theorem qye:∀k,qe (call cf k) (qA2 k):=
 fnk 0 [] Tryz.func134 (fun k=>(ac (qyd k) a0)) (fun k=>l0) ⟨rfl,rfl,⟨rfl,Nat.le_of_ble_eq_true rfl⟩,rfl⟩ (fun _=>rfl) (by kernel_rfl) fun k x=>by kernel_rfl

def qiy (k:Nat) (s:ByteArray):Option (Bool):=
 Option.bind (qck k s (ByteArray.mk (List.toArray (46:: [])))) fun r3=>
 if((decide ((((List.length r3):Nat):Int)≤(9:Int)))=true)then
 Option.bind (qbn k r3) fun r4=>
 (some (!r4))
 else
 (some false)
def qhn:Nat→ByteArray→Option (Bool)
 | 0,_=>none
 | k+1,s=>qiy k s
def qCj:Nat→Inst:=mkI 136 ⟨[vS],[]⟩ [⟨[vB],[]⟩] fun k x=>qhn k x
theorem qA3:∀k,qe (call cf k) (qCj k):=
 fnk 0 [] Tryz.func136 (fun k=>(ac (qn0 k) (ac (qye k) a0))) (fun k=>l0) ⟨rfl,rfl,⟨rfl,Nat.le_of_ble_eq_true rfl⟩,rfl⟩ (fun _=>rfl) (by kernel_rfl) fun k x=>by kernel_rfl

def qhE (k:Nat) (n:ByteArray):Option (Bool):=
 Option.bind (qhn k n) fun r3=>
 (some (!r3))
def qgf:Nat→ByteArray→Option (Bool)
 | 0,_=>none
 | k+1,n=>qhE k n
def qyf:Nat→Inst:=mkI 135 ⟨[vS],[]⟩ [⟨[vB],[]⟩] fun k x=>qgf k x
theorem qA4:∀k,qe (call cf k) (qyf k):=
 fnk 0 [] Tryz.func135 (fun k=>(ac (qA3 k) a0)) (fun k=>l0) ⟨rfl,rfl,⟨rfl,Nat.le_of_ble_eq_true rfl⟩,rfl⟩ (fun _=>rfl) (by kernel_rfl) fun k x=>by kernel_rfl

def qeO (k:Nat) (rec:List ByteArray→Int→Int→Option ((Int) ⊕ (Unit))) (s:List ByteArray) (x:Int) (x1:Int):Option ((Int) ⊕ (Unit)):=
 if((decide (x1<x))=true)then
 if((0:Int)≤x1)then
 Option.bind (s)[(Int.toNat x1)]? fun x5=>
 Option.bind (qgf k x5) fun r3=>
 if(r3=true)then
 (some (Sum.inl x1))
 else
 rec s x (IntKind.wrap .i64 (x1+(1:Int)))
 else
 none
 else
 (some (Sum.inr ()))
def qbt (k n:Nat):List ByteArray→Int→Int→Option ((Int) ⊕ (Unit)):=Nat.rec (fun _ _ _=>none) (fun _ r=>qeO k r) n
def qbO (k:Nat) (s:List ByteArray):Option (Int):=
 Option.bind (qbt k k s (((List.length s):Nat):Int) (0:Int)) fun r3=>
 qc r3
 (fun r3=>
 (some r3))
 (fun r3=>
 (some (-(1:Int))))
def qaz:Nat→List ByteArray→Option (Int)
 | 0,_=>none
 | k+1,s=>qbO k s
def qA5:Nat→Inst:=mkI 194 ⟨[vR,.a (.fn 135 [])],[]⟩ [⟨[vI],[]⟩] fun k x=>qaz k x
theorem qrV (k:Nat):qat (call cf k) [qyf k]:=
 ac (qA4 k) a0
def qyg (k:Nat):LInst:=mkL 0 [⟨[(0,vR),(1,.a (.fn 135 [])),(7,vI),(8,vI)],[],0⟩] [⟨none,⟨[(4,vI)],[],0⟩⟩,⟨some 0,⟨[],[],0⟩⟩] (fun n x=>qbt k n x.1 x.2.1 x.2.2) k
theorem qyh (k:Nat):LIo 194 Tryz.f194 0 k (qyg k):=
 lpk [] (qrV k) l0 (fun _=>rfl) (by kernel_rfl) fun n x=>by kernel_rfl
theorem qyi:∀k,qe (call cf k) (qA5 k):=
 fnk 0 [0] Tryz.func194 (fun k=>(qrV k)) (fun k=>(lc (qyh k) l0)) ⟨rfl,rfl,⟨rfl,Nat.le_of_ble_eq_true rfl⟩,rfl⟩ (fun _=>rfl) (by kernel_rfl) fun k x=>by kernel_rfl

def qbo (k:Nat) (s:List ByteArray):Option (Bool):=
 Option.bind (qaz k s) fun r3=>
 (some (decide (r3≥(0:Int))))
def qq:Nat→List ByteArray→Option (Bool)
 | 0,_=>none
 | k+1,s=>qbo k s
def qA6:Nat→Inst:=mkI 134 ⟨[vR,.a (.fn 135 [])],[]⟩ [⟨[vB],[]⟩] fun k x=>qq k x
theorem qyj:∀k,qe (call cf k) (qA6 k):=
 fnk 0 [] Tryz.func134 (fun k=>(ac (qyi k) a0)) (fun k=>l0) ⟨rfl,rfl,⟨rfl,Nat.le_of_ble_eq_true rfl⟩,rfl⟩ (fun _=>rfl) (by kernel_rfl) fun k x=>by kernel_rfl

def qf8 (k:Nat) (text:ByteArray):Option (Int×List ByteArray×Bool):=
 if((decide ((((ByteArray.size text):Nat):Int)<(4:Int)))=false)then
 Option.bind ((ByteArray.data text))[0]? fun x=>
 if(((((UInt8.toNat x):Nat):Int) != (118:Int))=true)then
 Option.bind ((ByteArray.data text))[0]? fun x1=>
 if(((((UInt8.toNat x1):Nat):Int) != (105:Int))=false)then
 Option.bind ((ByteArray.data text))[1]? fun x2=>
 if(((((UInt8.toNat x2):Nat):Int) != (40:Int))=false)then
 if((0:Int)≤(IntKind.wrap .i64 ((((ByteArray.size text):Nat):Int)-(1:Int))))then
 Option.bind ((ByteArray.data text))[(Int.toNat (IntKind.wrap .i64 ((((ByteArray.size text):Nat):Int)-(1:Int))))]? fun x3=>
 if(((((UInt8.toNat x3):Nat):Int) != (41:Int))=true)then
 (some ((0:Int),[],false))
 else
 if(((0:Int)≤(2:Int))∧(((2:Int)≤(IntKind.wrap .i64 ((((ByteArray.size text):Nat):Int)-(1:Int))))∧((IntKind.wrap .i64 ((((ByteArray.size text):Nat):Int)-(1:Int)))≤(((ByteArray.size text):Nat):Int))))then
 Option.bind (qck k (ByteArray.extract text 2 (Int.toNat (IntKind.wrap .i64 ((((ByteArray.size text):Nat):Int)-(1:Int))))) (ByteArray.mk (List.toArray (44:: [])))) fun r2=>
 if((decide ((((List.length r2):Nat):Int)>(2:Int)))=false)then
 Option.bind ((ByteArray.data text))[0]? fun x4=>
 if(((((UInt8.toNat x4):Nat):Int) == (105:Int))=true)then
 if(((((List.length r2):Nat):Int) != (1:Int))=false)then
 Option.bind (qq k r2) fun r3=>
 if(r3=true)then
 (some ((0:Int),[],false))
 else
 Option.bind ((ByteArray.data text))[0]? fun x5=>
 (some ((((UInt8.toNat x5):Nat):Int),r2,true))
 else
 (some ((0:Int),[],false))
 else
 Option.bind (qq k r2) fun r3=>
 if(r3=true)then
 (some ((0:Int),[],false))
 else
 Option.bind ((ByteArray.data text))[0]? fun x5=>
 (some ((((UInt8.toNat x5):Nat):Int),r2,true))
 else
 (some ((0:Int),[],false))
 else
 none
 else
 none
 else
 (some ((0:Int),[],false))
 else
 (some ((0:Int),[],false))
 else
 Option.bind ((ByteArray.data text))[1]? fun x1=>
 if(((((UInt8.toNat x1):Nat):Int) != (40:Int))=false)then
 if((0:Int)≤(IntKind.wrap .i64 ((((ByteArray.size text):Nat):Int)-(1:Int))))then
 Option.bind ((ByteArray.data text))[(Int.toNat (IntKind.wrap .i64 ((((ByteArray.size text):Nat):Int)-(1:Int))))]? fun x2=>
 if(((((UInt8.toNat x2):Nat):Int) != (41:Int))=true)then
 (some ((0:Int),[],false))
 else
 if(((0:Int)≤(2:Int))∧(((2:Int)≤(IntKind.wrap .i64 ((((ByteArray.size text):Nat):Int)-(1:Int))))∧((IntKind.wrap .i64 ((((ByteArray.size text):Nat):Int)-(1:Int)))≤(((ByteArray.size text):Nat):Int))))then
 Option.bind (qck k (ByteArray.extract text 2 (Int.toNat (IntKind.wrap .i64 ((((ByteArray.size text):Nat):Int)-(1:Int))))) (ByteArray.mk (List.toArray (44:: [])))) fun r2=>
 if((decide ((((List.length r2):Nat):Int)>(2:Int)))=false)then
 Option.bind ((ByteArray.data text))[0]? fun x3=>
 if(((((UInt8.toNat x3):Nat):Int) == (105:Int))=true)then
 if(((((List.length r2):Nat):Int) != (1:Int))=false)then
 Option.bind (qq k r2) fun r3=>
 if(r3=true)then
 (some ((0:Int),[],false))
 else
 Option.bind ((ByteArray.data text))[0]? fun x4=>
 (some ((((UInt8.toNat x4):Nat):Int),r2,true))
 else
 (some ((0:Int),[],false))
 else
 Option.bind (qq k r2) fun r3=>
 if(r3=true)then
 (some ((0:Int),[],false))
 else
 Option.bind ((ByteArray.data text))[0]? fun x4=>
 (some ((((UInt8.toNat x4):Nat):Int),r2,true))
 else
 (some ((0:Int),[],false))
 else
 none
 else
 none
 else
 (some ((0:Int),[],false))
 else
 (some ((0:Int),[],false))
def qeV:Nat→ByteArray→Option (Int×List ByteArray×Bool)
 | 0,_=>none
 | k+1,text=>qf8 k text
def qyk:Nat→Inst:=mkI 74 ⟨[vS],[]⟩ [⟨[.a (.lf (.int .u8)),vR,vB],[]⟩] fun k x=>qeV k x
theorem qA7:∀k,qe (call cf k) (qyk k):=
 fnk 0 [] Tryz.func74 (fun k=>(ac (qn0 k) (ac (qyj k) a0))) (fun k=>l0) ⟨rfl,rfl,⟨rfl,Nat.le_of_ble_eq_true rfl⟩,rfl⟩ (fun _=>rfl) (by kernel_rfl) fun k x=>by kernel_rfl

def qdG (k:Nat) (rec:ByteArray→List DvT→Int→Int→Option ((Int×Int×Int×ByteArray×List Int×Int×Int×Int×Int×List (Int×Int)×List Int×ByteArray×Int×List (Int×Int)×List (Int×Int)) ⊕ (Unit))) (name:ByteArray) (x:List DvT) (x1:Int) (x2:Int):Option ((Int×Int×Int×ByteArray×List Int×Int×Int×Int×Int×List (Int×Int)×List Int×ByteArray×Int×List (Int×Int)×List (Int×Int)) ⊕ (Unit)):=
 if((decide (x2<x1))=true)then
 if((0:Int)≤x2)then
 Option.bind (x)[(Int.toNat x2)]? fun x3=>
 if(((Array.toList (ByteArray.data x3.2.1)) == (Array.toList (ByteArray.data name)))=true)then
 (some (Sum.inl (x2,(0:Int),x3.1,x3.2.1,x3.2.2.1,x3.2.2.2.1,x3.2.2.2.2.1.1,x3.2.2.2.2.1.2,x3.2.2.2.2.2.1.1,x3.2.2.2.2.2.1.2.1,x3.2.2.2.2.2.1.2.2,x3.2.2.2.2.2.2.1,x3.2.2.2.2.2.2.2.1,x3.2.2.2.2.2.2.2.2.1,x3.2.2.2.2.2.2.2.2.2)))
 else
 rec name x x1 (IntKind.wrap .i64 (x2+(1:Int)))
 else
 none
 else
 (some (Sum.inr ()))
def qcZ (k n:Nat):ByteArray→List DvT→Int→Int→Option ((Int×Int×Int×ByteArray×List Int×Int×Int×Int×Int×List (Int×Int)×List Int×ByteArray×Int×List (Int×Int)×List (Int×Int)) ⊕ (Unit)):=Nat.rec (fun _ _ _ _=>none) (fun _ r=>qdG k r) n
def qjO (k:Nat) (f0:List ByteArray) (f1:List DvT) (f2:Int) (f3:Int) (f4:Int) (name:ByteArray):Option (Int×Int):=
 Option.bind (qcZ k k name f1 (((List.length f1):Nat):Int) (0:Int)) fun r3=>
 qc r3
 (fun r3=>
 (some (r3.1,r3.2.1)))
 (fun r3=>
 (some ((0:Int),(6:Int))))
def qij:Nat→List ByteArray→List DvT→Int→Int→Int→ByteArray→Option (Int×Int)
 | 0,_,_,_,_,_,_=>none
 | k+1,f0,f1,f2,f3,f4,name=>qjO k f0 f1 f2 f3 f4 name
def qyl:Nat→Inst:=mkI 75 ⟨[.g [.lf (.sl .str),.lf (.sl qF),.lf (.int .i64),.lf (.int .i64),.lf (.int .i64)],vS],[]⟩ [⟨[vI,vI],[]⟩] fun k x=>qij k x.1 x.2.1 x.2.2.1 x.2.2.2.1 x.2.2.2.2.1 x.2.2.2.2.2
def qym (k:Nat):LInst:=mkL 0 [⟨[(1,vS),(9,.a (.lf (.sl qF))),(10,vI),(11,vI)],[],0⟩] [⟨none,⟨[(4,vI),(5,vI)],[(0,some (.raw [[.lf (.int .u8),.lf .str,.lf (.sl (.int .i64)),.lf (.int .i64),.lf (.int .i64),.lf (.int .i64),.lf (.int .i64),.lf cE,.lf (.sl (.int .i64)),.lf .str,.lf (.int .u8),.lf cE,.lf cE]] 13 48 true false false))],1⟩⟩,⟨some 0,⟨[],[],0⟩⟩] (fun n x=>qcZ k n x.1 x.2.1 x.2.2.1 x.2.2.2) k
theorem qyn (k:Nat):LIo 75 Tryz.f75 0 k (qym k):=
 lpk [] a0 l0 (fun _=>rfl) (by kernel_rfl) fun n x=>by kernel_rfl
theorem qA8:∀k,qe (call cf k) (qyl k):=
 fnk 0 [0] Tryz.func75 (fun k=>a0) (fun k=>(lc (qyn k) l0)) ⟨rfl,rfl,⟨rfl,Nat.le_of_ble_eq_true rfl⟩,rfl⟩ (fun _=>rfl) (by kernel_rfl) fun k x=>by kernel_rfl

def qH (k:Nat) (rec:List ByteArray→ByteArray→Int→Int→Option ((Int) ⊕ (Unit))) (s:List ByteArray) (v:ByteArray) (x:Int) (x1:Int):Option ((Int) ⊕ (Unit)):=
 if((decide (x1<x))=true)then
 if((0:Int)≤x1)then
 Option.bind (s)[(Int.toNat x1)]? fun x4=>
 if(((Array.toList (ByteArray.data v)) == (Array.toList (ByteArray.data x4)))=true)then
 (some (Sum.inl x1))
 else
 rec s v x (IntKind.wrap .i64 (x1+(1:Int)))
 else
 none
 else
 (some (Sum.inr ()))
def qw (k n:Nat):List ByteArray→ByteArray→Int→Int→Option ((Int) ⊕ (Unit)):=Nat.rec (fun _ _ _ _=>none) (fun _ r=>qH k r) n
def qcO (k:Nat) (s:List ByteArray) (v:ByteArray):Option (Int):=
 Option.bind (qw k k s v (((List.length s):Nat):Int) (0:Int)) fun r3=>
 qc r3
 (fun r3=>
 (some r3))
 (fun r3=>
 (some (-(1:Int))))
def qaQ:Nat→List ByteArray→ByteArray→Option (Int)
 | 0,_,_=>none
 | k+1,s,v=>qcO k s v
def qA9:Nat→Inst:=mkI 137 ⟨[vR,vS],[]⟩ [⟨[vI],[]⟩] fun k x=>qaQ k x.1 x.2
def qyo (k:Nat):LInst:=mkL 0 [⟨[(0,vR),(1,vS),(7,vI),(8,vI)],[],0⟩] [⟨none,⟨[(4,vI)],[],0⟩⟩,⟨some 0,⟨[],[],0⟩⟩] (fun n x=>qw k n x.1 x.2.1 x.2.2.1 x.2.2.2) k
theorem qyp (k:Nat):LIo 137 Tryz.f137 0 k (qyo k):=
 lpk [] a0 l0 (fun _=>rfl) (by kernel_rfl) fun n x=>by kernel_rfl
theorem qyq:∀k,qe (call cf k) (qA9 k):=
 fnk 0 [0] Tryz.func137 (fun k=>a0) (fun k=>(lc (qyp k) l0)) ⟨rfl,rfl,⟨rfl,Nat.le_of_ble_eq_true rfl⟩,rfl⟩ (fun _=>rfl) (by kernel_rfl) fun k x=>by kernel_rfl

def qjf (k:Nat) (f0:List ByteArray) (f1:List DvT) (f2:Int) (f3:Int) (f4:Int) (name:ByteArray):Option (Int×Int):=
 Option.bind (qaQ k f0 name) fun r3=>
 if((decide (r3<(0:Int)))=true)then
 (some ((0:Int),(6:Int)))
 else
 (some (r3,(0:Int)))
def qgV:Nat→List ByteArray→List DvT→Int→Int→Int→ByteArray→Option (Int×Int)
 | 0,_,_,_,_,_,_=>none
 | k+1,f0,f1,f2,f3,f4,name=>qjf k f0 f1 f2 f3 f4 name
def qyr:Nat→Inst:=mkI 76 ⟨[.g [.lf (.sl .str),.lf (.sl qF),.lf (.int .i64),.lf (.int .i64),.lf (.int .i64)],vS],[]⟩ [⟨[vI,vI],[]⟩] fun k x=>qgV k x.1 x.2.1 x.2.2.1 x.2.2.2.1 x.2.2.2.2.1 x.2.2.2.2.2
theorem qBa:∀k,qe (call cf k) (qyr k):=
 fnk 0 [] Tryz.func76 (fun k=>(ac (qyq k) a0)) (fun k=>l0) ⟨rfl,rfl,⟨rfl,Nat.le_of_ble_eq_true rfl⟩,rfl⟩ (fun _=>rfl) (by kernel_rfl) fun k x=>by kernel_rfl

def qcP (k:Nat) (rec:Int→Int→List ByteArray→Int→Int→List ByteArray→List DvT→Int→Int→Int→Int→List Int→List Int→List Int→Option ((Int×Int×List ByteArray×List DvT×Int×Int×Int×Int×List Int×List Int×List Int) ⊕ (Int×List ByteArray×List DvT×Int×Int×Int×Int×List Int×List Int×List Int))) (v:Int) (sign:Int) (x:List ByteArray) (x1:Int) (x2:Int) (f0:List ByteArray) (f1:List DvT) (f2:Int) (f3:Int) (f4:Int) (st0:Int) (st1:List Int) (st2:List Int) (st3:List Int):Option ((Int×Int×List ByteArray×List DvT×Int×Int×Int×Int×List Int×List Int×List Int) ⊕ (Int×List ByteArray×List DvT×Int×Int×Int×Int×List Int×List Int×List Int)):=
 if((decide (x2<x1))=true)then
 if((0:Int)≤x2)then
 Option.bind (x)[(Int.toNat x2)]? fun x3=>
 Option.bind (qgV k f0 f1 f2 f3 f4 x3) fun r3=>
 if((r3.2 != (0:Int))=true)then
 (some (Sum.inl ((0:Int),r3.2,f0,f1,f2,f3,f4,st0,st1,st2,st3)))
 else
 if((decide (r3.1>(0:Int)))=true)then
 if((0:Int)≤(IntKind.wrap .i64 (r3.1-(1:Int))))then
 Option.bind (st1)[(Int.toNat (IntKind.wrap .i64 (r3.1-(1:Int))))]? fun x4=>
 rec (IntKind.wrap .i64 (v+(IntKind.wrap .i64 (sign*x4)))) (-(1:Int)) x x1 (IntKind.wrap .i64 (x2+(1:Int))) f0 f1 f2 f3 f4 st0 st1 st2 st3
 else
 none
 else
 rec v (-(1:Int)) x x1 (IntKind.wrap .i64 (x2+(1:Int))) f0 f1 f2 f3 f4 st0 st1 st2 st3
 else
 none
 else
 (some (Sum.inr (v,f0,f1,f2,f3,f4,st0,st1,st2,st3)))
def qaN (k n:Nat):Int→Int→List ByteArray→Int→Int→List ByteArray→List DvT→Int→Int→Int→Int→List Int→List Int→List Int→Option ((Int×Int×List ByteArray×List DvT×Int×Int×Int×Int×List Int×List Int×List Int) ⊕ (Int×List ByteArray×List DvT×Int×Int×Int×Int×List Int×List Int×List Int)):=Nat.rec (fun _ _ _ _ _ _ _ _ _ _ _ _ _ _=>none) (fun _ r=>qcP k r) n
def qd9 (k:Nat) (f0:List ByteArray) (f1:List DvT) (f2:Int) (f3:Int) (f4:Int) (st0:Int) (st1:List Int) (st2:List Int) (st3:List Int) (text:ByteArray):Option (Int×Int):=
 Option.bind (qhm k f0 f1 f2 f3 f4 st0 st1 st2 st3) fun r1=>
 if((r1 != (0:Int))=true)then
 (some ((0:Int),r1))
 else
 Option.bind (qeV k text) fun r2=>
 if((!r2.2.2)=true)then
 (some ((0:Int),(3:Int)))
 else
 if((r2.1 == (105:Int))=true)then
 Option.bind (r2.2.1)[0]? fun x=>
 Option.bind (qij k f0 f1 f2 f3 f4 x) fun r3=>
 if((r3.2 != (0:Int))=true)then
 (some ((0:Int),r3.2))
 else
 if((0:Int)≤r3.1)then
 Option.bind (st2)[(Int.toNat r3.1)]? fun x1=>
 (some (x1,(0:Int)))
 else
 none
 else
 Option.bind (qaN k k (0:Int) (1:Int) r2.2.1 (((List.length r2.2.1):Nat):Int) (0:Int) f0 f1 f2 f3 f4 st0 st1 st2 st3) fun r3=>
 qc r3
 (fun r3=>
 (some (r3.1,r3.2.1)))
 (fun r3=>
 (some (r3.1,(0:Int))))
def qca:Nat→List ByteArray→List DvT→Int→Int→Int→Int→List Int→List Int→List Int→ByteArray→Option (Int×Int)
 | 0,_,_,_,_,_,_,_,_,_,_=>none
 | k+1,f0,f1,f2,f3,f4,st0,st1,st2,st3,text=>qd9 k f0 f1 f2 f3 f4 st0 st1 st2 st3 text
def qCk:Nat→Inst:=mkI 27 ⟨[.g [.lf (.sl .str),.lf (.sl qF),.lf (.int .i64),.lf (.int .i64),.lf (.int .i64)],.g [.lf (.int .i64),.lf (.sl (.int .i64)),.lf (.sl (.int .i64)),.lf (.sl (.int .i64))],vS],[]⟩ [⟨[vI,vI],[]⟩] fun k x=>qca k x.1 x.2.1 x.2.2.1 x.2.2.2.1 x.2.2.2.2.1 x.2.2.2.2.2.1 x.2.2.2.2.2.2.1 x.2.2.2.2.2.2.2.1 x.2.2.2.2.2.2.2.2.1 x.2.2.2.2.2.2.2.2.2
theorem quD (k:Nat):qat (call cf k) [quC k,qyk k,qyl k,qyr k]:=
 ac (qx9 k) (ac (qA7 k) (ac (qA8 k) (ac (qBa k) a0)))
def qys (k:Nat):LInst:=mkL 0 [⟨[(3,.a (.ptr 0 0 0)),(4,.a (.ptr 1 0 0)),(14,vI),(15,vI),(52,vR),(53,vI),(54,vI)],[(0,some (.raw [[.lf (.sl .str),.lf (.sl qF),.lf (.int .i64),.lf (.int .i64),.lf (.int .i64)]] 5 27 true false false)),(1,some (.raw [[.lf (.int .i64),.lf (.sl (.int .i64)),.lf (.sl (.int .i64)),.lf (.sl (.int .i64))]] 4 53 true false false))],2⟩] [⟨none,⟨[(6,vI),(7,vI)],[(0,some (.raw [[.lf (.sl .str),.lf (.sl qF),.lf (.int .i64),.lf (.int .i64),.lf (.int .i64)]] 5 27 true false false)),(1,some (.raw [[.lf (.int .i64),.lf (.sl (.int .i64)),.lf (.sl (.int .i64)),.lf (.sl (.int .i64))]] 4 53 true false false))],2⟩⟩,⟨some 0,⟨[(14,vI)],[(0,some (.raw [[.lf (.sl .str),.lf (.sl qF),.lf (.int .i64),.lf (.int .i64),.lf (.int .i64)]] 5 27 true false false)),(1,some (.raw [[.lf (.int .i64),.lf (.sl (.int .i64)),.lf (.sl (.int .i64)),.lf (.sl (.int .i64))]] 4 53 true false false))],2⟩⟩] (fun n x=>qaN k n x.1 x.2.1 x.2.2.1 x.2.2.2.1 x.2.2.2.2.1 x.2.2.2.2.2.1 x.2.2.2.2.2.2.1 x.2.2.2.2.2.2.2.1 x.2.2.2.2.2.2.2.2.1 x.2.2.2.2.2.2.2.2.2.1 x.2.2.2.2.2.2.2.2.2.2.1 x.2.2.2.2.2.2.2.2.2.2.2.1 x.2.2.2.2.2.2.2.2.2.2.2.2.1 x.2.2.2.2.2.2.2.2.2.2.2.2.2) k
theorem qyt (k:Nat):LIo 27 Tryz.f27 0 k (qys k):=
 lpk [] (quD k) l0 (fun _=>rfl) (by kernel_rfl) fun n x=>by kernel_rfl
theorem quE:∀k,qe (call cf k) (qCk k):=
 fnk 0 [0] Tryz.func27 (fun k=>(quD k)) (fun k=>(lc (qyt k) l0)) ⟨rfl,rfl,⟨rfl,Nat.le_of_ble_eq_true rfl⟩,rfl⟩ (fun _=>rfl) (by kernel_rfl) fun k x=>by kernel_rfl

def ql6 (k:Nat) (v:Int):Option (Bool):=
 if((decide (v>(2000000000000000000:Int)))=false)then
 (some (decide (v<(-(2000000000000000000:Int)))))
 else
 (some true)
def qfD:Nat→Int→Option (Bool)
 | 0,_=>none
 | k+1,v=>ql6 k v
def qqq:Nat→Inst:=mkI 95 ⟨[vI],[]⟩ [⟨[vB],[]⟩] fun k x=>qfD k x
theorem qqr:∀k,qe (call cf k) (qqq k):=
 fnk 0 [] Tryz.func95 (fun k=>a0) (fun k=>l0) ⟨rfl,rfl,⟨rfl,Nat.le_of_ble_eq_true rfl⟩,rfl⟩ (fun _=>rfl) (by kernel_rfl) fun k x=>by kernel_rfl

def qfb (k:Nat) (rec:List Int→Int→Int→Option ((Int) ⊕ (Unit))) (s:List Int) (x:Int) (x1:Int):Option ((Int) ⊕ (Unit)):=
 if((decide (x1<x))=true)then
 if((0:Int)≤x1)then
 Option.bind (s)[(Int.toNat x1)]? fun x2=>
 Option.bind (qfD k x2) fun r5=>
 if(r5=true)then
 (some (Sum.inl x1))
 else
 rec s x (IntKind.wrap .i64 (x1+(1:Int)))
 else
 none
 else
 (some (Sum.inr ()))
def qc3 (k n:Nat):List Int→Int→Int→Option ((Int) ⊕ (Unit)):=Nat.rec (fun _ _ _=>none) (fun _ r=>qfb k r) n
def qfK (k:Nat) (s:List Int):Option (Int):=
 Option.bind (qc3 k k s (((List.length s):Nat):Int) (0:Int)) fun r5=>
 qc r5
 (fun r5=>
 (some r5))
 (fun r5=>
 (some (-(1:Int))))
def qdn:Nat→List Int→Option (Int)
 | 0,_=>none
 | k+1,s=>qfK k s
def qBb:Nat→Inst:=mkI 197 ⟨[vJ,.a (.fn 95 [])],[]⟩ [⟨[vI],[]⟩] fun k x=>qdn k x
theorem qrW (k:Nat):qat (call cf k) [qqq k]:=
 ac (qqr k) a0
def qyu (k:Nat):LInst:=mkL 0 [⟨[(0,vJ),(1,.a (.fn 95 [])),(7,vI),(8,vI)],[],0⟩] [⟨none,⟨[(4,vI)],[],0⟩⟩,⟨some 0,⟨[],[],0⟩⟩] (fun n x=>qc3 k n x.1 x.2.1 x.2.2) k
theorem qyv (k:Nat):LIo 197 Tryz.f197 0 k (qyu k):=
 lpk [] (qrW k) l0 (fun _=>rfl) (by kernel_rfl) fun n x=>by kernel_rfl
theorem qyw:∀k,qe (call cf k) (qBb k):=
 fnk 0 [0] Tryz.func197 (fun k=>(qrW k)) (fun k=>(lc (qyv k) l0)) ⟨rfl,rfl,⟨rfl,Nat.le_of_ble_eq_true rfl⟩,rfl⟩ (fun _=>rfl) (by kernel_rfl) fun k x=>by kernel_rfl

def qfc (k:Nat) (s:List Int):Option (Bool):=
 Option.bind (qdn k s) fun r5=>
 (some (decide (r5≥(0:Int))))
def qcU:Nat→List Int→Option (Bool)
 | 0,_=>none
 | k+1,s=>qfc k s
def qCl:Nat→Inst:=mkI 139 ⟨[vJ,.a (.fn 95 [])],[]⟩ [⟨[vB],[]⟩] fun k x=>qcU k x
theorem qBc:∀k,qe (call cf k) (qCl k):=
 fnk 0 [] Tryz.func139 (fun k=>(ac (qyw k) a0)) (fun k=>l0) ⟨rfl,rfl,⟨rfl,Nat.le_of_ble_eq_true rfl⟩,rfl⟩ (fun _=>rfl) (by kernel_rfl) fun k x=>by kernel_rfl

def qoQ (k:Nat) (row:List Int):Option (Int):=
 Option.bind (qcU k row) fun r5=>
 if(r5=true)then
 (some (4:Int))
 else
 if(((((List.length row):Nat):Int) == (0:Int))=true)then
 (some (6:Int))
 else
 (some (0:Int))
def qho:Nat→List Int→Option (Int)
 | 0,_=>none
 | k+1,row=>qoQ k row
def qtu:Nat→Inst:=mkI 83 ⟨[vJ],[]⟩ [⟨[vI],[]⟩] fun k x=>qho k x
theorem qqs:∀k,qe (call cf k) (qtu k):=
 fnk 0 [] Tryz.func83 (fun k=>(ac (qBc k) a0)) (fun k=>l0) ⟨rfl,rfl,⟨rfl,Nat.le_of_ble_eq_true rfl⟩,rfl⟩ (fun _=>rfl) (by kernel_rfl) fun k x=>by kernel_rfl

def ql7 (k:Nat) (rec:List Int→Int→Int→Int→Option ((Int×Int) ⊕ (Unit))) (row:List Int) (level:Int) (nth:Int) (i:Int):Option ((Int×Int) ⊕ (Unit)):=
 if((decide (i<(((List.length row):Nat):Int)))=true)then
 if((0:Int)≤(IntKind.wrap .i64 (i-(1:Int))))then
 Option.bind (row)[(Int.toNat (IntKind.wrap .i64 (i-(1:Int))))]? fun x=>
 if((decide (x<level))=true)then
 if((0:Int)≤i)then
 Option.bind (row)[(Int.toNat i)]? fun x1=>
 if((decide (x1≥level))=true)then
 if(((IntKind.wrap .i64 (nth-(1:Int))) == (0:Int))=true)then
 (some (Sum.inl (i,(0:Int))))
 else
 rec row level (IntKind.wrap .i64 (nth-(1:Int))) (IntKind.wrap .i64 (i+(1:Int)))
 else
 rec row level nth (IntKind.wrap .i64 (i+(1:Int)))
 else
 none
 else
 rec row level nth (IntKind.wrap .i64 (i+(1:Int)))
 else
 none
 else
 (some (Sum.inr ()))
def qjr (k n:Nat):List Int→Int→Int→Int→Option ((Int×Int) ⊕ (Unit)):=Nat.rec (fun _ _ _ _=>none) (fun _ r=>ql7 k r) n
def qoR (k:Nat) (row:List Int) (level:Int) (nth:Int):Option (Int×Int):=
 if((decide (nth<(1:Int)))=true)then
 (some ((0:Int),(1:Int)))
 else
 Option.bind (qfD k level) fun r4=>
 if(r4=false)then
 Option.bind (qho k row) fun r5=>
 if((r5 == (4:Int))=true)then
 (some ((0:Int),(4:Int)))
 else
 Option.bind (qjr k k row level nth (1:Int)) fun r6=>
 qc r6
 (fun r6=>
 (some (r6.1,r6.2)))
 (fun r6=>
 (some ((0:Int),(6:Int))))
 else
 (some ((0:Int),(4:Int)))
def qkx:Nat→List Int→Int→Int→Option (Int×Int)
 | 0,_,_,_=>none
 | k+1,row,level,nth=>qoR k row level nth
def qCm:Nat→Inst:=mkI 34 ⟨[vJ,vI,vI],[]⟩ [⟨[vI,vI],[]⟩] fun k x=>qkx k x.1 x.2.1 x.2.2
theorem quF (k:Nat):qat (call cf k) [qqq k,qtu k]:=
 ac (qqr k) (ac (qqs k) a0)
def qyx (k:Nat):LInst:=mkL 0 [⟨[(0,vJ),(1,vI),(2,vI),(8,vI)],[],0⟩] [⟨none,⟨[(6,vI),(7,vI)],[],0⟩⟩,⟨some 0,⟨[],[],0⟩⟩] (fun n x=>qjr k n x.1 x.2.1 x.2.2.1 x.2.2.2) k
theorem qyy (k:Nat):LIo 34 Tryz.f34 0 k (qyx k):=
 lpk [] (quF k) l0 (fun _=>rfl) (by kernel_rfl) fun n x=>by kernel_rfl
theorem qBd:∀k,qe (call cf k) (qCm k):=
 fnk 0 [0] Tryz.func34 (fun k=>(quF k)) (fun k=>(lc (qyy k) l0)) ⟨rfl,rfl,⟨rfl,Nat.le_of_ble_eq_true rfl⟩,rfl⟩ (fun _=>rfl) (by kernel_rfl) fun k x=>by kernel_rfl

def qkU (k:Nat) (rec:List Int→Int→Int→Int→Option (List Int×Int)) (row:List Int) (level:Int) (band:Int) (at1:Int):Option (List Int×Int):=
 if((decide (at1>(0:Int)))=true)then
 if((0:Int)≤(IntKind.wrap .i64 (at1-(1:Int))))then
 Option.bind (row)[(Int.toNat (IntKind.wrap .i64 (at1-(1:Int))))]? fun x=>
 if((decide ((IntKind.wrap .i64 (x-level))≤band))=true)then
 if((0:Int)≤(IntKind.wrap .i64 (at1-(1:Int))))then
 Option.bind (row)[(Int.toNat (IntKind.wrap .i64 (at1-(1:Int))))]? fun x1=>
 if((decide ((IntKind.wrap .i64 (level-x1))≤band))=true)then
 rec row level band (IntKind.wrap .i64 (at1-(1:Int)))
 else
 (some (row,at1))
 else
 none
 else
 (some (row,at1))
 else
 none
 else
 (some (row,at1))
def qik (k n:Nat):List Int→Int→Int→Int→Option (List Int×Int):=Nat.rec (fun _ _ _ _=>none) (fun _ r=>qkU k r) n
def qmL (k:Nat) (row:List Int) (level:Int) (band:Int):Option (Int×Int):=
 if((decide (band<(0:Int)))=true)then
 (some ((0:Int),(1:Int)))
 else
 Option.bind (qfD k level) fun r5=>
 if(r5=false)then
 Option.bind (qho k row) fun r6=>
 if((r6 == (4:Int))=true)then
 (some ((0:Int),(4:Int)))
 else
 Option.bind (qik k k row level band (((List.length row):Nat):Int)) fun r7=>
 if((r7.2 == (((List.length r7.1):Nat):Int))=true)then
 (some ((0:Int),(6:Int)))
 else
 (some (r7.2,(0:Int)))
 else
 (some ((0:Int),(4:Int)))
def qjs:Nat→List Int→Int→Int→Option (Int×Int)
 | 0,_,_,_=>none
 | k+1,row,level,band=>qmL k row level band
def qCn:Nat→Inst:=mkI 36 ⟨[vJ,vI,vI],[]⟩ [⟨[vI,vI],[]⟩] fun k x=>qjs k x.1 x.2.1 x.2.2
theorem quG (k:Nat):qat (call cf k) [qqq k,qtu k]:=
 ac (qqr k) (ac (qqs k) a0)
def qyz (k:Nat):LInst:=mkL 0 [⟨[(0,vJ),(1,vI),(2,vI),(8,vI)],[],0⟩] [⟨some 0,⟨[(0,vJ),(8,vI)],[],0⟩⟩] (fun n x=>qik k n x.1 x.2.1 x.2.2.1 x.2.2.2) k
theorem qyA (k:Nat):LIo 36 Tryz.f36 0 k (qyz k):=
 lpk [] (quG k) l0 (fun _=>rfl) (by kernel_rfl) fun n x=>by kernel_rfl
theorem qBe:∀k,qe (call cf k) (qCn k):=
 fnk 0 [0] Tryz.func36 (fun k=>(quG k)) (fun k=>(lc (qyA k) l0)) ⟨rfl,rfl,⟨rfl,Nat.le_of_ble_eq_true rfl⟩,rfl⟩ (fun _=>rfl) (by kernel_rfl) fun k x=>by kernel_rfl

def qhw (k:Nat) (rec:List Int→Int→Int→Option (Int)) (x:List Int) (m:Int) (i:Int):Option (Int):=
 if((decide (i<(((List.length x):Nat):Int)))=true)then
 if((0:Int)≤i)then
 Option.bind (x)[(Int.toNat i)]? fun x2=>
 rec x (min m x2) (IntKind.wrap .i64 (i+(1:Int)))
 else
 none
 else
 (some m)
def qeP (k n:Nat):List Int→Int→Int→Option (Int):=Nat.rec (fun _ _ _=>none) (fun _ r=>qhw k r) n
def qh6 (k:Nat) (x:List Int):Option (Int):=
 if((decide ((((List.length x):Nat):Int)<(1:Int)))=true)then
 none
 else
 Option.bind (x)[0]? fun x1=>
 Option.bind (qeP k k x x1 (1:Int)) fun r7=>
 (some r7)
def qfp:Nat→List Int→Option (Int)
 | 0,_=>none
 | k+1,x=>qh6 k x
def qBf:Nat→Inst:=mkI 84 ⟨[vJ],[]⟩ [⟨[vI],[]⟩] fun k x=>qfp k x
def qyB (k:Nat):LInst:=mkL 0 [⟨[(0,vJ),(3,vI),(4,vI)],[],0⟩] [⟨some 0,⟨[(3,vI)],[],0⟩⟩] (fun n x=>qeP k n x.1 x.2.1 x.2.2) k
theorem qyC (k:Nat):LIo 84 Tryz.f84 0 k (qyB k):=
 lpk [] a0 l0 (fun _=>rfl) (by kernel_rfl) fun n x=>by kernel_rfl
theorem qyD:∀k,qe (call cf k) (qBf k):=
 fnk 0 [0] Tryz.func84 (fun k=>a0) (fun k=>(lc (qyC k) l0)) ⟨rfl,rfl,⟨rfl,Nat.le_of_ble_eq_true rfl⟩,rfl⟩ (fun _=>rfl) (by kernel_rfl) fun k x=>by kernel_rfl

def qhx (k:Nat) (rec:List Int→Int→Int→Option (Int)) (x:List Int) (m:Int) (i:Int):Option (Int):=
 if((decide (i<(((List.length x):Nat):Int)))=true)then
 if((0:Int)≤i)then
 Option.bind (x)[(Int.toNat i)]? fun x2=>
 rec x (max m x2) (IntKind.wrap .i64 (i+(1:Int)))
 else
 none
 else
 (some m)
def qeQ (k n:Nat):List Int→Int→Int→Option (Int):=Nat.rec (fun _ _ _=>none) (fun _ r=>qhx k r) n
def qh7 (k:Nat) (x:List Int):Option (Int):=
 if((decide ((((List.length x):Nat):Int)<(1:Int)))=true)then
 none
 else
 Option.bind (x)[0]? fun x1=>
 Option.bind (qeQ k k x x1 (1:Int)) fun r8=>
 (some r8)
def qfq:Nat→List Int→Option (Int)
 | 0,_=>none
 | k+1,x=>qh7 k x
def qBg:Nat→Inst:=mkI 85 ⟨[vJ],[]⟩ [⟨[vI],[]⟩] fun k x=>qfq k x
def qyE (k:Nat):LInst:=mkL 0 [⟨[(0,vJ),(3,vI),(4,vI)],[],0⟩] [⟨some 0,⟨[(3,vI)],[],0⟩⟩] (fun n x=>qeQ k n x.1 x.2.1 x.2.2) k
theorem qyF (k:Nat):LIo 85 Tryz.f85 0 k (qyE k):=
 lpk [] a0 l0 (fun _=>rfl) (by kernel_rfl) fun n x=>by kernel_rfl
theorem qyG:∀k,qe (call cf k) (qBg k):=
 fnk 0 [0] Tryz.func85 (fun k=>a0) (fun k=>(lc (qyF k) l0)) ⟨rfl,rfl,⟨rfl,Nat.le_of_ble_eq_true rfl⟩,rfl⟩ (fun _=>rfl) (by kernel_rfl) fun k x=>by kernel_rfl

def qoS (k:Nat) (row:List Int):Option (Int×Int×Int):=
 Option.bind (qho k row) fun r6=>
 if((r6 != (0:Int))=true)then
 (some ((0:Int),(0:Int),r6))
 else
 Option.bind (qfp k row) fun r7=>
 Option.bind (qfq k row) fun r8=>
 (some (r7,r8,(0:Int)))
def qky:Nat→List Int→Option (Int×Int×Int)
 | 0,_=>none
 | k+1,row=>qoS k row
def qCo:Nat→Inst:=mkI 30 ⟨[vJ],[]⟩ [⟨[vI,vI,vI],[]⟩] fun k x=>qky k x
theorem qBh:∀k,qe (call cf k) (qCo k):=
 fnk 0 [] Tryz.func30 (fun k=>(ac (qqs k) (ac (qyD k) (ac (qyG k) a0)))) (fun k=>l0) ⟨rfl,rfl,⟨rfl,Nat.le_of_ble_eq_true rfl⟩,rfl⟩ (fun _=>rfl) (by kernel_rfl) fun k x=>by kernel_rfl

def qko (k:Nat):Option (Bool):=
 Option.bind (qe1 k) fun r=>
 Option.bind (qca k r.1 r.2.1 r.2.2.1 r.2.2.2.1 r.2.2.2.2 (0:Int) (List.take 2 ((7:Int)::((3:Int):: []))) (List.take 1 ((4:Int):: [])) [] (ByteArray.mk (List.toArray (118::(40::(97::(44::(120::(49::(46::(98::(41:: [])))))))))))) fun r1=>
 Option.bind (qe1 k) fun r2=>
 Option.bind (qca k r2.1 r2.2.1 r2.2.2.1 r2.2.2.2.1 r2.2.2.2.2 (0:Int) (List.take 2 ((7:Int)::((3:Int):: []))) (List.take 1 ((4:Int):: [])) [] (ByteArray.mk (List.toArray (105::(40::(120::(49::(46::(114::(49::(41:: []))))))))))) fun r3=>
 Option.bind (qkx k (List.take 4 ((0:Int)::((5:Int)::((2:Int)::((5:Int):: []))))) (5:Int) (2:Int)) fun r4=>
 Option.bind (qjs k (List.take 4 ((0:Int)::((9:Int)::((10:Int)::((11:Int):: []))))) (10:Int) (1:Int)) fun r5=>
 Option.bind (qky k (List.take 3 ((3:Int)::((1:Int)::((2:Int):: []))))) fun r6=>
 if((r1.2 == (0:Int))=true)then
 if((r3.2 == (0:Int))=true)then
 if((r4.2 == (0:Int))=true)then
 if((r5.2 == (0:Int))=true)then
 if((r6.2.2 == (0:Int))=true)then
 if((r1.1 == (4:Int))=true)then
 if((r3.1 == (4:Int))=true)then
 if((r4.1 == (3:Int))=true)then
 if((r5.1 == (1:Int))=true)then
 if((r6.1 == (1:Int))=true)then
 (some (r6.2.1 == (3:Int)))
 else
 (some false)
 else
 (some false)
 else
 (some false)
 else
 (some false)
 else
 (some false)
 else
 (some false)
 else
 (some false)
 else
 (some false)
 else
 (some false)
 else
 (some false)
def qfL:Nat→Option (Bool)
 | 0=>none
 | k+1=>qko k
def qCp:Nat→Inst:=mkI 25 ⟨[],[]⟩ [⟨[vB],[]⟩] fun k x=>qfL k
theorem qBi:∀k,qe (call cf k) (qCp k):=
 fnk 0 [] Tryz.func25 (fun k=>(ac (qAA k) (ac (quE k) (ac (qBd k) (ac (qBe k) (ac (qBh k) a0)))))) (fun k=>l0) ⟨rfl,rfl,⟨rfl,Nat.le_of_ble_eq_true rfl⟩,rfl⟩ (fun _=>rfl) (by kernel_rfl) fun k x=>by kernel_rfl


end
end Go.Proofs.YtlnailgfialgnaaGreatDoor.Am
