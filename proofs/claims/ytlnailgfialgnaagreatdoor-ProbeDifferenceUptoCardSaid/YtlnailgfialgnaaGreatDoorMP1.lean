/- Printed functions: each says what the typed machine says of the program -/
import Derived.Test.YtlnailgfialgnaaGreatDoorMA3
import Derived.KernelRfl

set_option linter.unusedVariables false
set_option maxRecDepth 100000
namespace Go.Proofs.YtlnailgfialgnaaGreatDoor.Am
theorem qT:True:=True.intro
theorem qA {a b:Prop} (h:a) (k:b):a∧b:=And.intro h k
open Go
noncomputable section
abbrev DvT:Type:=Int×ByteArray×List Int×Int×(Int×Int)×(Int×List (Int×Int)×List Int)×ByteArray×Int×List (Int×Int)×List (Int×Int)
abbrev qN:Cd:= .pr (.int .u8) (.pr .str (.pr (.sl (.int .i64)) (.pr (.int .i64) (.pr (.pr (.int .i64) (.int .i64)) (.pr (.pr (.int .i64) (.pr (.sl (.pr (.int .i64) (.int .i64))) (.sl (.int .i64)))) (.pr .str (.pr (.int .u8) (.pr (.sl (.pr (.int .i64) (.int .i64))) (.sl (.pr (.int .i64) (.int .i64)))))))))))

def qeZ (k:Nat) (rec:List Int→Int→Option (List Int×Int)) (w:List Int) (n:Int):Option (List Int×Int):=
 if((decide (n>(0:Int)))=true)then
 if((0:Int)≤(IntKind.wrap .i64 (n-(1:Int))))then
 Option.bind (w)[(Int.toNat (IntKind.wrap .i64 (n-(1:Int))))]? fun x=>
 if((x == (0:Int))=true)then
 rec w (IntKind.wrap .i64 (n-(1:Int)))
 else
 (some (w,n))
 else
 none
 else
 (some (w,n))
def qfJ (k n:Nat):List Int→Int→Option (List Int×Int):=Nat.rec (fun _ _=>none) (fun _ r=>qeZ k r) n
def qjo (k:Nat) (w:List Int):Option (List Int):=
 Option.bind (qfJ k k w (((List.length w):Nat):Int)) fun r1=>
 if(((0:Int)≤(0:Int))∧(((0:Int)≤r1.2)∧(r1.2≤(((List.length r1.1):Nat):Int))))then
 (some (List.take (Int.toNat r1.2) r1.1))
 else
 none
def qdM:Nat→List Int→Option (List Int)
 | 0,_=>none
 | k+1,w=>qjo k w
def qwb:Nat→Inst:=mkI 141 ⟨[vT],[]⟩ [⟨[vT],[]⟩] fun k x=>qdM k x
def qj8:SS:=⟨[(0,vT),(3,vI)],[],0⟩
def qwc (k:Nat):LInst:=mkL 0 [qj8] [⟨some 0,qj8⟩] (fun n x=>qfJ k n x.1 x.2) k
theorem qwd (k:Nat):LIo 141 Tryz.f141 0 k (qwc k):=
 lpk [] a0 l0 (fun _=>rfl) (by kernel_rfl) fun n x=>by kernel_rfl
theorem qk6:∀k,qe (call cf k) (qwb k):=
 fnk 0 [0] Tryz.func141 (fun k=>a0) (fun k=>(lc (qwd k) l0)) ⟨rfl,rfl,⟨rfl,Nat.le_of_ble_eq_true rfl⟩,rfl⟩ (fun _=>rfl) (by kernel_rfl) fun k x=>by kernel_rfl

def qfX (k:Nat) (neg:Bool) (w:List Int) (z:Bool):Option (Bool×List Int):=
 Option.bind (qdM k w) fun r1=>
 if(neg=true)then
 (some ((decide ((((List.length r1):Nat):Int)>(0:Int))),r1))
 else
 (some (false,r1))
def qbE:Nat→Bool→List Int→Bool→Option (Bool×List Int)
 | 0,_,_,_=>none
 | k+1,neg,w,z=>qfX k neg w z
def Iq8:Nat→Inst:=mkI 198 ⟨[.a (.ptr 0 0 0),vB,vT],[.raw [[.lf .bool,.snil 1 106]] 2 147 true false false]⟩ [⟨[.a (.ptr 0 0 0)],[.raw [[.lf .bool,.lf cW]] 2 147 true false false]⟩] fun k x=>qbE k x.1 x.2.1 x.2.2
theorem qp2:∀k,qe (call cf k) (Iq8 k):=
 fnk 1 [] Tryz.func198 (fun k=>(ac (qk6 k) a0)) (fun k=>l0) ⟨rfl,rfl,⟨rfl,Nat.le_of_ble_eq_true rfl⟩,rfl⟩ (fun _=>rfl) (by kernel_rfl) fun k x=>by kernel_rfl

def qah (k:Nat) (rec:Nat→Int→Int→Int→List Int→Int→Int→List Int→Int→Int→Bool→Bool→List Int→Bool→List Int→List Int→Option (Nat×Int×Int×List Int×Int×Int×Bool×Bool×List Int×Bool×List Int×List Int)) (out1:Nat) (i:Int) (a:Int) (carry:Int) (x:List Int) (x1:Int) (x2:Int) (x3:List Int) (x4:Int) (x5:Int) (z:Bool) (x0:Bool) (x11:List Int) (y0:Bool) (y1:List Int) (outs:List Int):Option (Nat×Int×Int×List Int×Int×Int×Bool×Bool×List Int×Bool×List Int×List Int):=
 if((decide (x5<x4))=true)then
 if((0:Int)≤x5)then
 Option.bind (x3)[(Int.toNat x5)]? fun x6=>
 if(((0:Int)≤(IntKind.wrap .i64 (i+x5)))∧((IntKind.wrap .i64 (i+x5))<((out1:Nat):Int)))then
 Option.bind (outs)[(0+(Int.toNat (IntKind.wrap .i64 (i+x5))))]? fun x7=>
 if(((0:Int)≤(IntKind.wrap .i64 (i+x5)))∧((IntKind.wrap .i64 (i+x5))<((out1:Nat):Int)))then
 Option.bind (outs)[(0+(Int.toNat (IntKind.wrap .i64 (i+x5))))]? fun x8=>
 rec out1 i a (Int.fdiv (IntKind.wrap .u64 ((IntKind.wrap .u64 ((IntKind.wrap .u64 ((IntKind.wrap .u64 a)*(IntKind.wrap .u64 x6)))+(IntKind.wrap .u64 x7)))+carry)) (4294967296:Int)) x x1 x2 x3 x4 (IntKind.wrap .i64 (x5+(1:Int))) z x0 x11 y0 y1 (List.set outs (0+(Int.toNat (IntKind.wrap .i64 (i+x5)))) (IntKind.wrap .u32 (IntKind.wrap .u64 ((IntKind.wrap .u64 ((IntKind.wrap .u64 ((IntKind.wrap .u64 a)*(IntKind.wrap .u64 x6)))+(IntKind.wrap .u64 x7)))+carry))))
 else
 none
 else
 none
 else
 none
 else
 (some (out1,i,carry,x,x1,x2,z,x0,x11,y0,y1,outs))
def qac (k n:Nat):Nat→Int→Int→Int→List Int→Int→Int→List Int→Int→Int→Bool→Bool→List Int→Bool→List Int→List Int→Option (Nat×Int×Int×List Int×Int×Int×Bool×Bool×List Int×Bool×List Int×List Int):=Nat.rec (fun _ _ _ _ _ _ _ _ _ _ _ _ _ _ _ _=>none) (fun _ r=>qah k r) n
def qai (k:Nat) (rec:Nat→List Int→Int→Int→Bool→Bool→List Int→Bool→List Int→List Int→Option (Nat×Bool×Bool×List Int×Bool×List Int×List Int)) (out1:Nat) (x:List Int) (x1:Int) (x2:Int) (z:Bool) (x0:Bool) (x11:List Int) (y0:Bool) (y1:List Int) (outs:List Int):Option (Nat×Bool×Bool×List Int×Bool×List Int×List Int):=
 if((decide (x2<x1))=true)then
 if((0:Int)≤x2)then
 Option.bind (x)[(Int.toNat x2)]? fun x3=>
 Option.bind (qac k k out1 x2 x3 (0:Int) x x1 x2 y1 (((List.length y1):Nat):Int) (0:Int) z x0 x11 y0 y1 outs) fun r=>
 if(((0:Int)≤(IntKind.wrap .i64 (r.2.1+(((List.length r.2.2.2.2.2.2.2.2.2.2.1):Nat):Int))))∧((IntKind.wrap .i64 (r.2.1+(((List.length r.2.2.2.2.2.2.2.2.2.2.1):Nat):Int)))<((r.1:Nat):Int)))then
 Option.bind (r.2.2.2.2.2.2.2.2.2.2.2)[(0+(Int.toNat (IntKind.wrap .i64 (r.2.1+(((List.length r.2.2.2.2.2.2.2.2.2.2.1):Nat):Int)))))]? fun x4=>
 rec r.1 r.2.2.2.1 r.2.2.2.2.1 (IntKind.wrap .i64 (r.2.2.2.2.2.1+(1:Int))) r.2.2.2.2.2.2.1 r.2.2.2.2.2.2.2.1 r.2.2.2.2.2.2.2.2.1 r.2.2.2.2.2.2.2.2.2.1 r.2.2.2.2.2.2.2.2.2.2.1 (List.set r.2.2.2.2.2.2.2.2.2.2.2 (0+(Int.toNat (IntKind.wrap .i64 (r.2.1+(((List.length r.2.2.2.2.2.2.2.2.2.2.1):Nat):Int))))) (IntKind.wrap .u32 r.2.2.1))
 else
 none
 else
 none
 else
 (some (out1,z,x0,x11,y0,y1,outs))
def qQ (k n:Nat):Nat→List Int→Int→Int→Bool→Bool→List Int→Bool→List Int→List Int→Option (Nat×Bool×Bool×List Int×Bool×List Int×List Int):=Nat.rec (fun _ _ _ _ _ _ _ _ _ _=>none) (fun _ r=>qai k r) n
def qdt (k:Nat) (z:Bool) (x0:Bool) (x1:List Int) (y0:Bool) (y1:List Int):Option (Bool×List Int×Bool×List Int×Bool×List Int):=
 if(((0:Int)≤(IntKind.wrap .i64 ((((List.length x1):Nat):Int)+(((List.length y1):Nat):Int))))∧(((IntKind.wrap .i64 ((((List.length x1):Nat):Int)+(((List.length y1):Nat):Int)))≤(IntKind.wrap .i64 ((((List.length x1):Nat):Int)+(((List.length y1):Nat):Int))))∧(((IntKind.wrap .i64 ((((List.length x1):Nat):Int)+(((List.length y1):Nat):Int)))*(4:Int))≤(140737488355328:Int))))then
 Option.bind (qQ k k (Int.toNat (IntKind.wrap .i64 ((((List.length x1):Nat):Int)+(((List.length y1):Nat):Int)))) x1 (((List.length x1):Nat):Int) (0:Int) z x0 x1 y0 y1 (List.replicate (Int.toNat (IntKind.wrap .i64 ((((List.length x1):Nat):Int)+(((List.length y1):Nat):Int)))) (0:Int))) fun r=>
 if((0+r.1)≤(List.length r.2.2.2.2.2.2))then
 Option.bind (qbE k (!(r.2.2.1 == r.2.2.2.2.1)) (List.take r.1 r.2.2.2.2.2.2) r.2.1) fun r1=>
 (some (r1.1,r1.2,r.2.2.1,r.2.2.2.1,r.2.2.2.2.1,r.2.2.2.2.2.1))
 else
 none
 else
 none
def qeg:Nat→Bool→Bool→List Int→Bool→List Int→Option (Bool×List Int×Bool×List Int×Bool×List Int)
 | 0,_,_,_,_,_=>none
 | k+1,z,x0,x1,y0,y1=>qdt k z x0 x1 y0 y1
def Iq3:Nat→Inst:=mkI 155 ⟨[.a (.ptr 0 0 0),.a (.ptr 1 0 0),.a (.ptr 2 0 0)],[.raw [[.lf .bool,.snil 1 106]] 2 147 true false false,.raw [[.lf .bool,.lf cW]] 2 147 true false false,.raw [[.lf .bool,.lf cW]] 2 147 true false false]⟩ [⟨[.a (.ptr 0 0 0)],[.raw [[.lf .bool,.lf cW]] 2 147 true false false,.raw [[.lf .bool,.lf cW]] 2 147 true false false,.raw [[.lf .bool,.lf cW]] 2 147 true false false]⟩] fun k x=>qeg k x.1 x.2.1 x.2.2.1 x.2.2.2.1 x.2.2.2.2
theorem qs2 (k:Nat):qas (call cf k) [Iq8 k]:=
 ac (qp2 k) a0
def qwe (k:Nat):LInst:=mkL 2 [⟨[(0,.a (.ptr 0 0 0)),(1,.a (.ptr 1 0 0)),(2,.a (.ptr 2 0 0)),(7,.a (.smz 3)),(8,vI),(9,.a (.lf (.int .u32))),(10,vU),(29,vT),(30,vI),(31,vI),(39,vT),(40,vI),(41,vI)],[(0,some (.raw [[.lf .bool,.snil 1 106]] 2 147 true false false)),(1,some (.raw [[.lf .bool,.lf cW]] 2 147 true false false)),(2,some (.raw [[.lf .bool,.lf cW]] 2 147 true false false)),(3,some (.arr (.int .u32) 1 106 false))],4⟩] [⟨some 2,⟨[(0,.a (.ptr 0 0 0)),(1,.a (.ptr 1 0 0)),(2,.a (.ptr 2 0 0)),(7,.a (.smz 3)),(8,vI),(10,vU),(29,vT),(30,vI),(31,vI)],[(0,some (.raw [[.lf .bool,.snil 1 106]] 2 147 true false false)),(1,some (.raw [[.lf .bool,.lf cW]] 2 147 true false false)),(2,some (.raw [[.lf .bool,.lf cW]] 2 147 true false false)),(3,some (.arr (.int .u32) 1 106 false))],4⟩⟩] (fun n x=>qac k n x.1 x.2.1 x.2.2.1 x.2.2.2.1 x.2.2.2.2.1 x.2.2.2.2.2.1 x.2.2.2.2.2.2.1 x.2.2.2.2.2.2.2.1 x.2.2.2.2.2.2.2.2.1 x.2.2.2.2.2.2.2.2.2.1 x.2.2.2.2.2.2.2.2.2.2.1 x.2.2.2.2.2.2.2.2.2.2.2.1 x.2.2.2.2.2.2.2.2.2.2.2.2.1 x.2.2.2.2.2.2.2.2.2.2.2.2.2.1 x.2.2.2.2.2.2.2.2.2.2.2.2.2.2.1 x.2.2.2.2.2.2.2.2.2.2.2.2.2.2.2) k
theorem qrj (k:Nat):LIo 155 Tryz.f155 3 k (qwe k):=
 lpk [] (qs2 k) l0 (fun _=>rfl) (by kernel_rfl) fun n x=>by kernel_rfl
def qwf (k:Nat):LInst:=mkL 0 [⟨[(0,.a (.ptr 0 0 0)),(1,.a (.ptr 1 0 0)),(2,.a (.ptr 2 0 0)),(7,.a (.smz 3)),(29,vT),(30,vI),(31,vI)],[(0,some (.raw [[.lf .bool,.snil 1 106]] 2 147 true false false)),(1,some (.raw [[.lf .bool,.lf cW]] 2 147 true false false)),(2,some (.raw [[.lf .bool,.lf cW]] 2 147 true false false)),(3,some (.arr (.int .u32) 1 106 false))],4⟩] [⟨some 0,⟨[(0,.a (.ptr 0 0 0)),(1,.a (.ptr 1 0 0)),(2,.a (.ptr 2 0 0)),(7,.a (.smz 3))],[(0,some (.raw [[.lf .bool,.snil 1 106]] 2 147 true false false)),(1,some (.raw [[.lf .bool,.lf cW]] 2 147 true false false)),(2,some (.raw [[.lf .bool,.lf cW]] 2 147 true false false)),(3,some (.arr (.int .u32) 1 106 false))],4⟩⟩] (fun n x=>qQ k n x.1 x.2.1 x.2.2.1 x.2.2.2.1 x.2.2.2.2.1 x.2.2.2.2.2.1 x.2.2.2.2.2.2.1 x.2.2.2.2.2.2.2.1 x.2.2.2.2.2.2.2.2.1 x.2.2.2.2.2.2.2.2.2) k
theorem qwg (k:Nat):LIo 155 Tryz.f155 3 k (qwf k):=
 lpk [2] (qs2 k) (lc (qrj k) l0) (fun _=>rfl) (by kernel_rfl) fun n x=>by kernel_rfl
theorem qB2:∀k,qe (call cf k) (Iq3 k):=
 fnk 3 [0] Tryz.func155 (fun k=>(qs2 k)) (fun k=>(lc (qrj k) (lc (qwg k) l0))) ⟨rfl,rfl,⟨rfl,Nat.le_of_ble_eq_true rfl⟩,rfl⟩ (fun _=>rfl) (by kernel_rfl) fun k x=>by kernel_rfl

def qi9 (k:Nat):Option (List ByteArray×List DvT×Int×Int×Int):=
 (some ((List.take 3 ((ByteArray.mk (List.toArray (48:: [])))::((ByteArray.mk (List.toArray (97:: [])))::((ByteArray.mk (List.toArray (120::(49::(46::(98:: [])))))):: [])))),(List.take 1 (((114:Int),((ByteArray.mk (List.toArray (120::(49::(46::(114::(49:: []))))))),((List.take 2 ((1:Int)::((2:Int):: []))),((0:Int),(((1:Int),(0:Int)),(((0:Int),(([]:List (Int×Int)),([]:List Int))),((ByteArray.mk (List.toArray [])),((0:Int),(([]:List (Int×Int)),([]:List (Int×Int))))))))))):: [])),(1:Int),(0:Int),(1:Int)))
def qeJ:Nat→Option (List ByteArray×List DvT×Int×Int×Int)
 | 0=>none
 | k+1=>qi9 k
def qBf:Nat→Inst:=mkI 72 ⟨[],[]⟩ [⟨[.g [.lf (.sl .str),.lf (.sl qN),.lf (.int .i64),.lf (.int .i64),.lf (.int .i64)]],[]⟩] fun k x=>qeJ k
theorem qzT:∀k,qe (call cf k) (qBf k):=
 fnk 0 [] Tryz.func72 (fun k=>a0) (fun k=>l0) ⟨rfl,rfl,⟨rfl,Nat.le_of_ble_eq_true rfl⟩,rfl⟩ (fun _=>rfl) (by kernel_rfl) fun k x=>by kernel_rfl

def qiO (k:Nat) (n0:Int) (n1:Int):Option (Bool):=
 if((n0 == (0:Int))=true)then
 (some (n1 == (0:Int)))
 else
 if((decide (n0≥(-(999999999:Int))))=true)then
 if((decide (n0≤(999999999:Int)))=true)then
 if(((Int.tmod n0 (10:Int)) != (0:Int))=true)then
 if((decide (n1≥(-(18:Int))))=true)then
 (some (decide (n1≤(9:Int))))
 else
 (some false)
 else
 (some false)
 else
 (some false)
 else
 (some false)
def qZ:Nat→Int→Int→Option (Bool)
 | 0,_,_=>none
 | k+1,n0,n1=>qiO k n0 n1
def qnD:Nat→Inst:=mkI 118 ⟨[.g [.lf (.int .i64),.lf (.int .i64)]],[]⟩ [⟨[vB],[]⟩] fun k x=>qZ k x.1 x.2
theorem qk7:∀k,qe (call cf k) (qnD k):=
 fnk 0 [] Tryz.func118 (fun k=>a0) (fun k=>l0) ⟨rfl,rfl,⟨rfl,Nat.le_of_ble_eq_true rfl⟩,rfl⟩ (fun _=>rfl) (by kernel_rfl) fun k x=>by kernel_rfl

def qd7 (k:Nat) (rec:List ByteArray→List ByteArray→Int→Int→List (ByteArray×Int)→Option (List ByteArray×List (ByteArray×Int))) (l:List ByteArray) (x:List ByteArray) (x1:Int) (x2:Int) (seens:List (ByteArray×Int)):Option (List ByteArray×List (ByteArray×Int)):=
 if((decide (x2<x1))=true)then
 if((0:Int)≤x2)then
 Option.bind (x)[(Int.toNat x2)]? fun x3=>
 rec l x x1 (IntKind.wrap .i64 (x2+(1:Int))) (qao .str (.int .i64) seens x3 (IntKind.wrap .i64 ((qhd .str (.int .i64) seens x3 (0:Int))+(1:Int))))
 else
 none
 else
 (some (l,seens))
def qc9 (k n:Nat):List ByteArray→List ByteArray→Int→Int→List (ByteArray×Int)→Option (List ByteArray×List (ByteArray×Int)):=Nat.rec (fun _ _ _ _ _=>none) (fun _ r=>qd7 k r) n
def qh9 (k:Nat) (l:List ByteArray):Option (Bool):=
 Option.bind (qc9 k k l l (((List.length l):Nat):Int) (0:Int) []) fun r2=>
 (some ((((List.length r2.2):Nat):Int) != (((List.length r2.1):Nat):Int)))
def qb4:Nat→List ByteArray→Option (Bool)
 | 0,_=>none
 | k+1,l=>qh9 k l
def qwh:Nat→Inst:=mkI 183 ⟨[vR],[]⟩ [⟨[vB],[]⟩] fun k x=>qb4 k x
def qwi (k:Nat):LInst:=mkL 0 [⟨[(0,vR),(3,.a (.mp 0)),(7,vR),(8,vI),(9,vI)],[(0,some (.map .str (.int .i64) 261 false))],1⟩] [⟨some 0,⟨[(0,vR),(3,.a (.mp 0))],[(0,some (.map .str (.int .i64) 261 false))],1⟩⟩] (fun n x=>qc9 k n x.1 x.2.1 x.2.2.1 x.2.2.2.1 x.2.2.2.2) k
theorem qwj (k:Nat):LIo 183 Tryz.f183 0 k (qwi k):=
 lpk [] a0 l0 (fun _=>rfl) (by kernel_rfl) fun n x=>by kernel_rfl
theorem qzU:∀k,qe (call cf k) (qwh k):=
 fnk 0 [0] Tryz.func183 (fun k=>a0) (fun k=>(lc (qwj k) l0)) ⟨rfl,rfl,⟨rfl,Nat.le_of_ble_eq_true rfl⟩,rfl⟩ (fun _=>rfl) (by kernel_rfl) fun k x=>by kernel_rfl

def qgh (k:Nat) (s:ByteArray):Option (Empty):=
 none
def qdI:Nat→ByteArray→Option (Empty)
 | 0,_=>none
 | k+1,s=>qgh k s
def qzV:Nat→Inst:=mkI 237 ⟨[vS],[]⟩ [] fun k x=>qdI k x
theorem qwk:∀k,qe (call cf k) (qzV k):=
 fnk 0 [0] Tryz.func237 (fun k=>a0) (fun k=>l0) ⟨rfl,rfl,⟨rfl,Nat.le_of_ble_eq_true rfl⟩,rfl⟩ (fun _=>rfl) (by kernel_rfl) fun k x=>by kernel_rfl

def qkr (k:Nat) (s:ByteArray) (n:Int):Option (Empty):=
 Option.bind (qdI k s) fun r3=>
 nomatch r3
def qhC:Nat→ByteArray→Int→Option (Empty)
 | 0,_,_=>none
 | k+1,s,n=>qkr k s n
def qtP:Nat→Inst:=mkI 228 ⟨[vS,vI],[]⟩ [] fun k x=>qhC k x.1 x.2
theorem qwl:∀k,qe (call cf k) (qtP k):=
 fnk 0 [0] Tryz.func228 (fun k=>(ac (qwk k) a0)) (fun k=>l0) ⟨rfl,rfl,⟨rfl,Nat.le_of_ble_eq_true rfl⟩,rfl⟩ (fun _=>rfl) (by kernel_rfl) fun k x=>by kernel_rfl

def qgJ (k:Nat) (s:ByteArray) (substr:ByteArray):Option (Int):=
 if((List.length (Array.toList (ByteArray.data substr)))=1)then
 (some (qsW s substr))
 else
 none
def qdr:Nat→ByteArray→ByteArray→Option (Int)
 | 0,_,_=>none
 | k+1,s,substr=>qgJ k s substr
def qjp:FS:=⟨[vS,vS],[]⟩
def qk8:List FS:= [⟨[vI],[]⟩]
def qtQ (k:Nat):Inst:=⟨229,qjp,qk8,fun x=>qdr k x.1 x.2⟩
theorem qwm (k:Nat) (x:qjp.D):qdr (k+1) x.1 x.2=(qjX) (DS FS.D qk8) (qjp.enc x).1 (qjp.enc x).2 (qgI FS.dec qk8):=by kernel_rfl
theorem qwn:∀k,qe (call cf k) (qtQ k)
 | 0=>fun x y e=>absurd (show(none:Option _)=some y from e) (by simp)
 | k+1=>qkp (c:=cf) (k:=k) (f:=229) (g:=qht) (G:=qjX) (sh:=qjp) (os:=qk8) rfl (qp1) (fun x=>qdr (k+1) x.1 x.2) (qwm k)

def qgK (k:Nat) (s:ByteArray) (substr:ByteArray):Option (Int):=
 if((List.length (Array.toList (ByteArray.data substr)))=1)then
 (some (qsV s substr))
 else
 none
def qds:Nat→ByteArray→ByteArray→Option (Int)
 | 0,_,_=>none
 | k+1,s,substr=>qgK k s substr
def qjq:FS:=⟨[vS,vS],[]⟩
def qk9:List FS:= [⟨[vI],[]⟩]
def qtR (k:Nat):Inst:=⟨230,qjq,qk9,fun x=>qds k x.1 x.2⟩
theorem qwo (k:Nat) (x:qjq.D):qds (k+1) x.1 x.2=(qjW) (DS FS.D qk9) (qjq.enc x).1 (qjq.enc x).2 (qgI FS.dec qk9):=by kernel_rfl
theorem qwp:∀k,qe (call cf k) (qtR k)
 | 0=>fun x y e=>absurd (show(none:Option _)=some y from e) (by simp)
 | k+1=>qkp (c:=cf) (k:=k) (f:=230) (g:=qhs) (G:=qjW) (sh:=qjq) (os:=qk9) rfl (qp0) (fun x=>qds (k+1) x.1 x.2) (qwo k)

def qck (k:Nat) (rec:ByteArray→ByteArray→Int→Int→Nat→Int→List ByteArray→Option (ByteArray×Nat×Int×List ByteArray)) (s:ByteArray) (sep:ByteArray) (sepSave:Int) (n:Int) (a:Nat) (i:Int) (as1:List ByteArray):Option (ByteArray×Nat×Int×List ByteArray):=
 if((decide (i<n))=true)then
 Option.bind (qds k s sep) fun r4=>
 if((decide (r4<(0:Int)))=true)then
 (some (s,a,i,as1))
 else
 if(((0:Int)≤(0:Int))∧(((0:Int)≤(IntKind.wrap .i64 (r4+sepSave)))∧((IntKind.wrap .i64 (r4+sepSave))≤(((ByteArray.size s):Nat):Int))))then
 if(((0:Int)≤i)∧(i<((a:Nat):Int)))then
 Option.bind (as1)[(0+(Int.toNat i))]? fun x4=>
 if(((0:Int)≤(IntKind.wrap .i64 (r4+(((ByteArray.size sep):Nat):Int))))∧(((IntKind.wrap .i64 (r4+(((ByteArray.size sep):Nat):Int)))≤(((ByteArray.size s):Nat):Int))∧((((ByteArray.size s):Nat):Int)≤(((ByteArray.size s):Nat):Int))))then
 rec (ByteArray.extract s (Int.toNat (IntKind.wrap .i64 (r4+(((ByteArray.size sep):Nat):Int)))) (Int.toNat (((ByteArray.size s):Nat):Int))) sep sepSave n a (IntKind.wrap .i64 (i+(1:Int))) (List.set as1 (0+(Int.toNat i)) (ByteArray.extract s 0 (Int.toNat (IntKind.wrap .i64 (r4+sepSave)))))
 else
 none
 else
 none
 else
 none
 else
 (some (s,a,i,as1))
def qaA (k n:Nat):ByteArray→ByteArray→Int→Int→Nat→Int→List ByteArray→Option (ByteArray×Nat×Int×List ByteArray):=Nat.rec (fun _ _ _ _ _ _ _=>none) (fun _ r=>qck k r) n
def qfr (k:Nat) (s:ByteArray) (sep:ByteArray) (sepSave:Int) (n:Int):Option (List ByteArray):=
 if((n == (0:Int))=true)then
 (some [])
 else
 if(((Array.toList (ByteArray.data sep)) == (Array.toList (ByteArray.data (ByteArray.mk (List.toArray [])))))=true)then
 Option.bind (qhC k s n) fun r3=>
 nomatch r3
 else
 if((decide (n<(0:Int)))=true)then
 Option.bind (qdr k s sep) fun r3=>
 if(((0:Int)≤(min (IntKind.wrap .i64 (r3+(1:Int))) (IntKind.wrap .i64 ((((ByteArray.size s):Nat):Int)+(1:Int)))))∧(((min (IntKind.wrap .i64 (r3+(1:Int))) (IntKind.wrap .i64 ((((ByteArray.size s):Nat):Int)+(1:Int))))≤(min (IntKind.wrap .i64 (r3+(1:Int))) (IntKind.wrap .i64 ((((ByteArray.size s):Nat):Int)+(1:Int)))))∧(((min (IntKind.wrap .i64 (r3+(1:Int))) (IntKind.wrap .i64 ((((ByteArray.size s):Nat):Int)+(1:Int))))*(16:Int))≤(140737488355328:Int))))then
 Option.bind (qaA k k s sep sepSave (IntKind.wrap .i64 ((min (IntKind.wrap .i64 (r3+(1:Int))) (IntKind.wrap .i64 ((((ByteArray.size s):Nat):Int)+(1:Int))))-(1:Int))) (Int.toNat (min (IntKind.wrap .i64 (r3+(1:Int))) (IntKind.wrap .i64 ((((ByteArray.size s):Nat):Int)+(1:Int))))) (0:Int) (List.replicate (Int.toNat (min (IntKind.wrap .i64 (r3+(1:Int))) (IntKind.wrap .i64 ((((ByteArray.size s):Nat):Int)+(1:Int))))) (ByteArray.mk (List.toArray [])))) fun r4=>
 if(((0:Int)≤r4.2.2.1)∧(r4.2.2.1<((r4.2.1:Nat):Int)))then
 Option.bind (r4.2.2.2)[(0+(Int.toNat r4.2.2.1))]? fun x4=>
 if(((0:Int)≤(0:Int))∧(((0:Int)≤(IntKind.wrap .i64 (r4.2.2.1+(1:Int))))∧(((0+(Int.toNat (IntKind.wrap .i64 (r4.2.2.1+(1:Int)))))≤(List.length (List.set r4.2.2.2 (0+(Int.toNat r4.2.2.1)) r4.1)))∧(((0:Int)<(IntKind.wrap .i64 (r4.2.2.1+(1:Int))))∨(true=true)))))then
 if((0+(Int.toNat (IntKind.wrap .i64 (r4.2.2.1+(1:Int)))))≤(List.length (List.set r4.2.2.2 (0+(Int.toNat r4.2.2.1)) r4.1)))then
 (some (List.take (Int.toNat (IntKind.wrap .i64 (r4.2.2.1+(1:Int)))) (List.set r4.2.2.2 (0+(Int.toNat r4.2.2.1)) r4.1)))
 else
 none
 else
 none
 else
 none
 else
 none
 else
 if(((0:Int)≤(min n (IntKind.wrap .i64 ((((ByteArray.size s):Nat):Int)+(1:Int)))))∧(((min n (IntKind.wrap .i64 ((((ByteArray.size s):Nat):Int)+(1:Int))))≤(min n (IntKind.wrap .i64 ((((ByteArray.size s):Nat):Int)+(1:Int)))))∧(((min n (IntKind.wrap .i64 ((((ByteArray.size s):Nat):Int)+(1:Int))))*(16:Int))≤(140737488355328:Int))))then
 Option.bind (qaA k k s sep sepSave (IntKind.wrap .i64 ((min n (IntKind.wrap .i64 ((((ByteArray.size s):Nat):Int)+(1:Int))))-(1:Int))) (Int.toNat (min n (IntKind.wrap .i64 ((((ByteArray.size s):Nat):Int)+(1:Int))))) (0:Int) (List.replicate (Int.toNat (min n (IntKind.wrap .i64 ((((ByteArray.size s):Nat):Int)+(1:Int))))) (ByteArray.mk (List.toArray [])))) fun r3=>
 if(((0:Int)≤r3.2.2.1)∧(r3.2.2.1<((r3.2.1:Nat):Int)))then
 Option.bind (r3.2.2.2)[(0+(Int.toNat r3.2.2.1))]? fun x4=>
 if(((0:Int)≤(0:Int))∧(((0:Int)≤(IntKind.wrap .i64 (r3.2.2.1+(1:Int))))∧(((0+(Int.toNat (IntKind.wrap .i64 (r3.2.2.1+(1:Int)))))≤(List.length (List.set r3.2.2.2 (0+(Int.toNat r3.2.2.1)) r3.1)))∧(((0:Int)<(IntKind.wrap .i64 (r3.2.2.1+(1:Int))))∨(true=true)))))then
 if((0+(Int.toNat (IntKind.wrap .i64 (r3.2.2.1+(1:Int)))))≤(List.length (List.set r3.2.2.2 (0+(Int.toNat r3.2.2.1)) r3.1)))then
 (some (List.take (Int.toNat (IntKind.wrap .i64 (r3.2.2.1+(1:Int)))) (List.set r3.2.2.2 (0+(Int.toNat r3.2.2.1)) r3.1)))
 else
 none
 else
 none
 else
 none
 else
 none
def qfs:Nat→ByteArray→ByteArray→Int→Int→Option (List ByteArray)
 | 0,_,_,_,_=>none
 | k+1,s,sep,sepSave,n=>qfr k s sep sepSave n
def qzW:Nat→Inst:=mkI 193 ⟨[vS,vS,vI,vI],[]⟩ [⟨[vR],[]⟩] fun k x=>qfs k x.1 x.2.1 x.2.2.1 x.2.2.2
theorem qrk (k:Nat):qas (call cf k) [qtP k,qtQ k,qtR k]:=
 ac (qwl k) (ac (qwn k) (ac (qwp k) a0))
def qwq (k:Nat):LInst:=mkL 0 [⟨[(0,vS),(1,vS),(2,vI),(3,vI),(9,.a (.smz 0)),(10,vI)],[(0,some (.arr .str 1 9 false))],1⟩] [⟨some 0,⟨[(0,vS),(9,.a (.smz 0)),(10,vI)],[(0,some (.arr .str 1 9 false))],1⟩⟩] (fun n x=>qaA k n x.1 x.2.1 x.2.2.1 x.2.2.2.1 x.2.2.2.2.1 x.2.2.2.2.2.1 x.2.2.2.2.2.2) k
theorem qwr (k:Nat):LIo 193 Tryz.f193 0 k (qwq k):=
 lpk [] (qrk k) l0 (fun _=>rfl) (by kernel_rfl) fun n x=>by kernel_rfl
theorem qws:∀k,qe (call cf k) (qzW k):=
 fnk 0 [0] Tryz.func193 (fun k=>(qrk k)) (fun k=>(lc (qwr k) l0)) ⟨rfl,rfl,⟨rfl,Nat.le_of_ble_eq_true rfl⟩,rfl⟩ (fun _=>rfl) (by kernel_rfl) fun k x=>by kernel_rfl

def qgL (k:Nat) (s:ByteArray) (sep:ByteArray):Option (List ByteArray):=
 Option.bind (qfs k s sep (0:Int) (-(1:Int))) fun r3=>
 (some r3)
def qcd:Nat→ByteArray→ByteArray→Option (List ByteArray)
 | 0,_,_=>none
 | k+1,s,sep=>qgL k s sep
def qzX:Nat→Inst:=mkI 133 ⟨[vS,vS],[]⟩ [⟨[vR],[]⟩] fun k x=>qcd k x.1 x.2
theorem qnE:∀k,qe (call cf k) (qzX k):=
 fnk 0 [] Tryz.func133 (fun k=>(ac (qws k) a0)) (fun k=>l0) ⟨rfl,rfl,⟨rfl,Nat.le_of_ble_eq_true rfl⟩,rfl⟩ (fun _=>rfl) (by kernel_rfl) fun k x=>by kernel_rfl

def qcz (k:Nat) (rec:List Int→Int→Int→Option ((Bool) ⊕ (Unit))) (x:List Int) (x1:Int) (x2:Int):Option ((Bool) ⊕ (Unit)):=
 if((decide (x2<x1))=true)then
 if((0:Int)≤x2)then
 Option.bind (x)[(Int.toNat x2)]? fun x5=>
 if((decide (x5≥(97:Int)))=true)then
 if((decide (x5≤(122:Int)))=false)then
 if((decide (x5≥(48:Int)))=true)then
 if((decide (x5≤(57:Int)))=false)then
 if((!(x5 == (95:Int)))=true)then
 (some (Sum.inl false))
 else
 rec x x1 (IntKind.wrap .i64 (x2+(1:Int)))
 else
 rec x x1 (IntKind.wrap .i64 (x2+(1:Int)))
 else
 if((!(x5 == (95:Int)))=true)then
 (some (Sum.inl false))
 else
 rec x x1 (IntKind.wrap .i64 (x2+(1:Int)))
 else
 rec x x1 (IntKind.wrap .i64 (x2+(1:Int)))
 else
 if((decide (x5≥(48:Int)))=true)then
 if((decide (x5≤(57:Int)))=false)then
 if((!(x5 == (95:Int)))=true)then
 (some (Sum.inl false))
 else
 rec x x1 (IntKind.wrap .i64 (x2+(1:Int)))
 else
 rec x x1 (IntKind.wrap .i64 (x2+(1:Int)))
 else
 if((!(x5 == (95:Int)))=true)then
 (some (Sum.inl false))
 else
 rec x x1 (IntKind.wrap .i64 (x2+(1:Int)))
 else
 none
 else
 (some (Sum.inr ()))
def qbN (k n:Nat):List Int→Int→Int→Option ((Bool) ⊕ (Unit)):=Nat.rec (fun _ _ _=>none) (fun _ r=>qcz k r) n
def qia (k:Nat) (s:ByteArray):Option (Bool):=
 if((decide ((((ByteArray.size s):Nat):Int)<(1:Int)))=false)then
 if((decide ((((ByteArray.size s):Nat):Int)>(16:Int)))=true)then
 (some false)
 else
 Option.bind (qbN k k (List.map (fun b:UInt8=>((UInt8.toNat b:Nat):Int)) (Array.toList (ByteArray.data s))) (((List.length (List.map (fun b:UInt8=>((UInt8.toNat b:Nat):Int)) (Array.toList (ByteArray.data s)))):Nat):Int) (0:Int)) fun r4=>
 qc r4
 (fun r4=>
 (some r4))
 (fun r4=>
 (some true))
 else
 (some false)
def qfK:Nat→ByteArray→Option (Bool)
 | 0,_=>none
 | k+1,s=>qia k s
def qwt:Nat→Inst:=mkI 226 ⟨[vS],[]⟩ [⟨[vB],[]⟩] fun k x=>qfK k x
def qwu (k:Nat):LInst:=mkL 0 [⟨[(14,.a (.lf (.sl (.int .u8)))),(15,vI),(16,vI)],[],0⟩] [⟨none,⟨[(2,vB)],[],0⟩⟩,⟨some 0,⟨[],[],0⟩⟩] (fun n x=>qbN k n x.1 x.2.1 x.2.2) k
theorem qwv (k:Nat):LIo 226 Tryz.f226 0 k (qwu k):=
 lpk [] a0 l0 (fun _=>rfl) (by kernel_rfl) fun n x=>by kernel_rfl
theorem qtS:∀k,qe (call cf k) (qwt k):=
 fnk 0 [0] Tryz.func226 (fun k=>a0) (fun k=>(lc (qwv k) l0)) ⟨rfl,rfl,⟨rfl,Nat.le_of_ble_eq_true rfl⟩,rfl⟩ (fun _=>rfl) (by kernel_rfl) fun k x=>by kernel_rfl

def qiP (k:Nat) (s:ByteArray):Option (Bool):=
 Option.bind (qfK k s) fun r4=>
 (some r4)
def qgs:Nat→ByteArray→Option (Bool)
 | 0,_=>none
 | k+1,s=>qiP k s
def qBg:Nat→Inst:=mkI 196 ⟨[vS],[]⟩ [⟨[vB],[]⟩] fun k x=>qgs k x
theorem qtT:∀k,qe (call cf k) (qBg k):=
 fnk 0 [] Tryz.func196 (fun k=>(ac (qtS k) a0)) (fun k=>l0) ⟨rfl,rfl,⟨rfl,Nat.le_of_ble_eq_true rfl⟩,rfl⟩ (fun _=>rfl) (by kernel_rfl) fun k x=>by kernel_rfl

def qhD (k:Nat) (p:ByteArray):Option (Bool):=
 Option.bind (qgs k p) fun r4=>
 (some (!r4))
def qgt:Nat→ByteArray→Option (Bool)
 | 0,_=>none
 | k+1,p=>qhD k p
def qww:Nat→Inst:=mkI 221 ⟨[vS],[]⟩ [⟨[vB],[]⟩] fun k x=>qgt k x
theorem qzY:∀k,qe (call cf k) (qww k):=
 fnk 0 [] Tryz.func221 (fun k=>(ac (qtT k) a0)) (fun k=>l0) ⟨rfl,rfl,⟨rfl,Nat.le_of_ble_eq_true rfl⟩,rfl⟩ (fun _=>rfl) (by kernel_rfl) fun k x=>by kernel_rfl

def qes (k:Nat) (rec:List ByteArray→Int→Int→Option ((Int) ⊕ (Unit))) (s:List ByteArray) (x:Int) (x1:Int):Option ((Int) ⊕ (Unit)):=
 if((decide (x1<x))=true)then
 if((0:Int)≤x1)then
 Option.bind (s)[(Int.toNat x1)]? fun x4=>
 Option.bind (qgt k x4) fun r4=>
 if(r4=true)then
 (some (Sum.inl x1))
 else
 rec s x (IntKind.wrap .i64 (x1+(1:Int)))
 else
 none
 else
 (some (Sum.inr ()))
def qbl (k n:Nat):List ByteArray→Int→Int→Option ((Int) ⊕ (Unit)):=Nat.rec (fun _ _ _=>none) (fun _ r=>qes k r) n
def qbF (k:Nat) (s:List ByteArray):Option (Int):=
 Option.bind (qbl k k s (((List.length s):Nat):Int) (0:Int)) fun r4=>
 qc r4
 (fun r4=>
 (some r4))
 (fun r4=>
 (some (-(1:Int))))
def qat:Nat→List ByteArray→Option (Int)
 | 0,_=>none
 | k+1,s=>qbF k s
def qzZ:Nat→Inst:=mkI 194 ⟨[vR,.a (.fn 221 [])],[]⟩ [⟨[vI],[]⟩] fun k x=>qat k x
theorem qrl (k:Nat):qas (call cf k) [qww k]:=
 ac (qzY k) a0
def qwx (k:Nat):LInst:=mkL 0 [⟨[(0,vR),(1,.a (.fn 221 [])),(7,vI),(8,vI)],[],0⟩] [⟨none,⟨[(4,vI)],[],0⟩⟩,⟨some 0,⟨[],[],0⟩⟩] (fun n x=>qbl k n x.1 x.2.1 x.2.2) k
theorem qwy (k:Nat):LIo 194 Tryz.f194 0 k (qwx k):=
 lpk [] (qrl k) l0 (fun _=>rfl) (by kernel_rfl) fun n x=>by kernel_rfl
theorem qwz:∀k,qe (call cf k) (qzZ k):=
 fnk 0 [0] Tryz.func194 (fun k=>(qrl k)) (fun k=>(lc (qwy k) l0)) ⟨rfl,rfl,⟨rfl,Nat.le_of_ble_eq_true rfl⟩,rfl⟩ (fun _=>rfl) (by kernel_rfl) fun k x=>by kernel_rfl

def qbc (k:Nat) (s:List ByteArray):Option (Bool):=
 Option.bind (qat k s) fun r4=>
 (some (decide (r4≥(0:Int))))
def qbd:Nat→List ByteArray→Option (Bool)
 | 0,_=>none
 | k+1,s=>qbc k s
def qBh:Nat→Inst:=mkI 134 ⟨[vR,.a (.fn 221 [])],[]⟩ [⟨[vB],[]⟩] fun k x=>qbd k x
theorem qz0:∀k,qe (call cf k) (qBh k):=
 fnk 0 [] Tryz.func134 (fun k=>(ac (qwz k) a0)) (fun k=>l0) ⟨rfl,rfl,⟨rfl,Nat.le_of_ble_eq_true rfl⟩,rfl⟩ (fun _=>rfl) (by kernel_rfl) fun k x=>by kernel_rfl

def qiQ (k:Nat) (s:ByteArray):Option (Bool):=
 Option.bind (qcd k s (ByteArray.mk (List.toArray (46:: [])))) fun r3=>
 if((decide ((((List.length r3):Nat):Int)≤(9:Int)))=true)then
 Option.bind (qbd k r3) fun r4=>
 (some (!r4))
 else
 (some false)
def qfk:Nat→ByteArray→Option (Bool)
 | 0,_=>none
 | k+1,s=>qiQ k s
def qs3:Nat→Inst:=mkI 184 ⟨[vS],[]⟩ [⟨[vB],[]⟩] fun k x=>qfk k x
theorem qtU:∀k,qe (call cf k) (qs3 k):=
 fnk 0 [] Tryz.func184 (fun k=>(ac (qnE k) (ac (qz0 k) a0))) (fun k=>l0) ⟨rfl,rfl,⟨rfl,Nat.le_of_ble_eq_true rfl⟩,rfl⟩ (fun _=>rfl) (by kernel_rfl) fun k x=>by kernel_rfl

def qcA (k:Nat) (rec:List (Int×Int)→Int→Int→Int→List (Int×Int)→List Int→Option ((Bool×Int×List (Int×Int)×List Int×Int×Int) ⊕ (Int×List (Int×Int)×List Int))) (x:List (Int×Int)) (x1:Int) (x2:Int) (w0:Int) (w1:List (Int×Int)) (w2:List Int):Option ((Bool×Int×List (Int×Int)×List Int×Int×Int) ⊕ (Int×List (Int×Int)×List Int)):=
 if((decide (x2<x1))=true)then
 if((0:Int)≤x2)then
 Option.bind (x)[(Int.toNat x2)]? fun x4=>
 Option.bind (qZ k x4.1 x4.2) fun r6=>
 if((!r6)=true)then
 (some (Sum.inl (false,w0,w1,w2,x4.1,x4.2)))
 else
 rec x x1 (IntKind.wrap .i64 (x2+(1:Int))) w0 w1 w2
 else
 none
 else
 (some (Sum.inr (w0,w1,w2)))
def qbO (k n:Nat):List (Int×Int)→Int→Int→Int→List (Int×Int)→List Int→Option ((Bool×Int×List (Int×Int)×List Int×Int×Int) ⊕ (Int×List (Int×Int)×List Int)):=Nat.rec (fun _ _ _ _ _ _=>none) (fun _ r=>qcA k r) n
def qcB (k:Nat) (rec:List Int→Int→Int→Int→List (Int×Int)→List Int→Option ((Bool×Int×List (Int×Int)×List Int) ⊕ (Int×List (Int×Int)×List Int))) (x:List Int) (x1:Int) (x2:Int) (w0:Int) (w1:List (Int×Int)) (w2:List Int):Option ((Bool×Int×List (Int×Int)×List Int) ⊕ (Int×List (Int×Int)×List Int)):=
 if((decide (x2<x1))=true)then
 if((0:Int)≤x2)then
 Option.bind (x)[(Int.toNat x2)]? fun x4=>
 if((decide (x4<(0:Int)))=false)then
 if((decide (x4>(1000000000:Int)))=true)then
 (some (Sum.inl (false,w0,w1,w2)))
 else
 rec x x1 (IntKind.wrap .i64 (x2+(1:Int))) w0 w1 w2
 else
 (some (Sum.inl (false,w0,w1,w2)))
 else
 none
 else
 (some (Sum.inr (w0,w1,w2)))
def qbe (k n:Nat):List Int→Int→Int→Int→List (Int×Int)→List Int→Option ((Bool×Int×List (Int×Int)×List Int) ⊕ (Int×List (Int×Int)×List Int)):=Nat.rec (fun _ _ _ _ _ _=>none) (fun _ r=>qcB k r) n
def qbT (k:Nat) (rec:Int→Int→List (Int×Int)→List Int→Option ((Bool×Int×List (Int×Int)×List Int) ⊕ (Int×List (Int×Int)×List Int))) (i:Int) (w0:Int) (w1:List (Int×Int)) (w2:List Int):Option ((Bool×Int×List (Int×Int)×List Int) ⊕ (Int×List (Int×Int)×List Int)):=
 if((decide (i<(((List.length w2):Nat):Int)))=true)then
 if((0:Int)≤i)then
 Option.bind (w2)[(Int.toNat i)]? fun x4=>
 if((0:Int)≤(IntKind.wrap .i64 (i-(1:Int))))then
 Option.bind (w2)[(Int.toNat (IntKind.wrap .i64 (i-(1:Int))))]? fun x5=>
 if((decide (x4≤x5))=true)then
 (some (Sum.inl (false,w0,w1,w2)))
 else
 rec (IntKind.wrap .i64 (i+(1:Int))) w0 w1 w2
 else
 none
 else
 none
 else
 (some (Sum.inr (w0,w1,w2)))
def qaG (k n:Nat):Int→Int→List (Int×Int)→List Int→Option ((Bool×Int×List (Int×Int)×List Int) ⊕ (Int×List (Int×Int)×List Int)):=Nat.rec (fun _ _ _ _=>none) (fun _ r=>qbT k r) n
def qib (k:Nat) (w0:Int) (w1:List (Int×Int)) (w2:List Int):Option (Bool):=
 Option.bind (qbO k k w1 (((List.length w1):Nat):Int) (0:Int) w0 w1 w2) fun r6=>
 qc r6
 (fun r6=>
 (some r6.1))
 (fun r6=>
 Option.bind (qbe k k r6.2.2 (((List.length r6.2.2):Nat):Int) (0:Int) r6.1 r6.2.1 r6.2.2) fun r7=>
 qc r7
 (fun r7=>
 (some r7.1))
 (fun r7=>
 if((r7.1 == (1:Int))=true)then
 if(((((List.length r7.2.1):Nat):Int) == (1:Int))=true)then
 (some ((((List.length r7.2.2):Nat):Int) == (0:Int)))
 else
 (some false)
 else
 if((r7.1 == (2:Int))=true)then
 if(((((List.length r7.2.1):Nat):Int) == (2:Int))=true)then
 if(((((List.length r7.2.2):Nat):Int) == (5:Int))=true)then
 Option.bind (r7.2.2)[4]? fun x4=>
 if((decide (x4≥(1:Int)))=true)then
 Option.bind (r7.2.2)[1]? fun x5=>
 Option.bind (r7.2.2)[2]? fun x6=>
 Option.bind (r7.2.2)[3]? fun x7=>
 Option.bind (r7.2.2)[4]? fun x8=>
 (some (decide ((IntKind.wrap .i64 ((IntKind.wrap .i64 (x5+x6))+x7))≤x8)))
 else
 (some false)
 else
 (some false)
 else
 (some false)
 else
 if((r7.1 == (3:Int))=true)then
 Option.bind (qaG k k (1:Int) r7.1 r7.2.1 r7.2.2) fun r8=>
 qc r8
 (fun r8=>
 (some r8.1))
 (fun r8=>
 if(((((List.length r8.2.1):Nat):Int) == (((List.length r8.2.2):Nat):Int))=true)then
 if((decide ((((List.length r8.2.1):Nat):Int)≥(1:Int)))=true)then
 (some (decide ((((List.length r8.2.1):Nat):Int)≤(16:Int))))
 else
 (some false)
 else
 (some false))
 else
 if((r7.1 == (4:Int))=true)then
 if((decide ((((List.length r7.2.1):Nat):Int)≥(1:Int)))=true)then
 if((decide ((((List.length r7.2.1):Nat):Int)≤(16:Int)))=true)then
 (some ((((List.length r7.2.2):Nat):Int) == (0:Int)))
 else
 (some false)
 else
 (some false)
 else
 (some false)))
def qeB:Nat→Int→List (Int×Int)→List Int→Option (Bool)
 | 0,_,_,_=>none
 | k+1,w0,w1,w2=>qib k w0 w1 w2
def qtV:Nat→Inst:=mkI 222 ⟨[.g [.lf (.int .i64),.lf cE,.lf (.sl (.int .i64))]],[]⟩ [⟨[vB],[]⟩] fun k x=>qeB k x.1 x.2.1 x.2.2
theorem qla (k:Nat):qas (call cf k) [qnD k]:=
 ac (qk7 k) a0
def qwA (k:Nat):LInst:=mkL 0 [⟨[(1,.a (.ptr 0 0 0)),(9,.a (.lf cE)),(10,vI),(11,vI)],[(0,some (.raw [[.lf (.int .i64),.lf cE,.lf (.sl (.int .i64))]] 3 44 true false false))],1⟩] [⟨none,⟨[(2,vB)],[(0,some (.raw [[.lf (.int .i64),.lf cE,.lf (.sl (.int .i64))]] 3 44 true false false)),(1,some (.raw [[.lf (.int .i64),.lf (.int .i64)]] 2 25 true false false))],2⟩⟩,⟨some 0,⟨[(1,.a (.ptr 0 0 0))],[(0,some (.raw [[.lf (.int .i64),.lf cE,.lf (.sl (.int .i64))]] 3 44 true false false))],1⟩⟩] (fun n x=>qbO k n x.1 x.2.1 x.2.2.1 x.2.2.2.1 x.2.2.2.2.1 x.2.2.2.2.2) k
theorem qnF (k:Nat):LIo 222 Tryz.f222 0 k (qwA k):=
 lpk [] (qla k) l0 (fun _=>rfl) (by kernel_rfl) fun n x=>by kernel_rfl
def qwB (k:Nat):LInst:=mkL 2 [⟨[(1,.a (.ptr 0 0 0)),(20,vJ),(21,vI),(22,vI)],[(0,some (.raw [[.lf (.int .i64),.lf cE,.lf (.sl (.int .i64))]] 3 44 true false false))],1⟩] [⟨none,⟨[(2,vB)],[(0,some (.raw [[.lf (.int .i64),.lf cE,.lf (.sl (.int .i64))]] 3 44 true false false))],1⟩⟩,⟨some 2,⟨[(1,.a (.ptr 0 0 0))],[(0,some (.raw [[.lf (.int .i64),.lf cE,.lf (.sl (.int .i64))]] 3 44 true false false))],1⟩⟩] (fun n x=>qbe k n x.1 x.2.1 x.2.2.1 x.2.2.2.1 x.2.2.2.2.1 x.2.2.2.2.2) k
theorem qrm (k:Nat):LIo 222 Tryz.f222 0 k (qwB k):=
 lpk [] (qla k) (lc (qnF k) l0) (fun _=>rfl) (by kernel_rfl) fun n x=>by kernel_rfl
def qwC (k:Nat):LInst:=mkL 5 [⟨[(1,.a (.ptr 0 0 0)),(7,vI)],[(0,some (.raw [[.lf (.int .i64),.lf cE,.lf (.sl (.int .i64))]] 3 44 true false false))],1⟩] [⟨none,⟨[(2,vB)],[(0,some (.raw [[.lf (.int .i64),.lf cE,.lf (.sl (.int .i64))]] 3 44 true false false))],1⟩⟩,⟨some 5,⟨[(1,.a (.ptr 0 0 0))],[(0,some (.raw [[.lf (.int .i64),.lf cE,.lf (.sl (.int .i64))]] 3 44 true false false))],1⟩⟩] (fun n x=>qaG k n x.1 x.2.1 x.2.2.1 x.2.2.2) k
theorem qwD (k:Nat):LIo 222 Tryz.f222 0 k (qwC k):=
 lpk [] (qla k) (lc (qnF k) (lc (qrm k) l0)) (fun _=>rfl) (by kernel_rfl) fun n x=>by kernel_rfl
theorem qwE:∀k,qe (call cf k) (qtV k):=
 fnk 0 [0,2,5] Tryz.func222 (fun k=>(qla k)) (fun k=>(lc (qnF k) (lc (qrm k) (lc (qwD k) l0)))) ⟨rfl,rfl,⟨rfl,Nat.le_of_ble_eq_true rfl⟩,rfl⟩ (fun _=>rfl) (by kernel_rfl) fun k x=>by kernel_rfl

def qhe (k:Nat) (m0:ByteArray) (m1:Int) (m2:List (Int×Int)) (m3:List (Int×Int)):Option (Bool):=
 if(((Array.toList (ByteArray.data m0)) == (Array.toList (ByteArray.data (ByteArray.mk (List.toArray [])))))=true)then
 if((m1 == (0:Int))=true)then
 (some ((IntKind.wrap .i64 ((((List.length m2):Nat):Int)+(((List.length m3):Nat):Int))) == (0:Int)))
 else
 (some false)
 else
 (some false)
def qG:Nat→ByteArray→Int→List (Int×Int)→List (Int×Int)→Option (Bool)
 | 0,_,_,_,_=>none
 | k+1,m0,m1,m2,m3=>qhe k m0 m1 m2 m3
def qwF:Nat→Inst:=mkI 223 ⟨[.g [.lf .str,.lf (.int .u8),.lf cE,.lf cE]],[]⟩ [⟨[vB],[]⟩] fun k x=>qG k x.1 x.2.1 x.2.2.1 x.2.2.2
theorem qz1:∀k,qe (call cf k) (qwF k):=
 fnk 0 [] Tryz.func223 (fun k=>a0) (fun k=>l0) ⟨rfl,rfl,⟨rfl,Nat.le_of_ble_eq_true rfl⟩,rfl⟩ (fun _=>rfl) (by kernel_rfl) fun k x=>by kernel_rfl

def qhE (k:Nat) (w0:Int) (w1:List (Int×Int)) (w2:List Int):Option (Bool):=
 if((w0 == (0:Int))=true)then
 (some ((IntKind.wrap .i64 ((((List.length w1):Nat):Int)+(((List.length w2):Nat):Int))) == (0:Int)))
 else
 (some false)
def qK:Nat→Int→List (Int×Int)→List Int→Option (Bool)
 | 0,_,_,_=>none
 | k+1,w0,w1,w2=>qhE k w0 w1 w2
def qwG:Nat→Inst:=mkI 224 ⟨[.g [.lf (.int .i64),.lf cE,.lf (.sl (.int .i64))]],[]⟩ [⟨[vB],[]⟩] fun k x=>qK k x.1 x.2.1 x.2.2
theorem qz2:∀k,qe (call cf k) (qwG k):=
 fnk 0 [] Tryz.func224 (fun k=>a0) (fun k=>l0) ⟨rfl,rfl,⟨rfl,Nat.le_of_ble_eq_true rfl⟩,rfl⟩ (fun _=>rfl) (by kernel_rfl) fun k x=>by kernel_rfl

def qfL (k:Nat) (v:Int):Option (Bool×List Int):=
 if((decide (v<(0:Int)))=true)then
 Option.bind (qdM k (List.take 2 ((IntKind.wrap .u32 (IntKind.wrap .u64 ((0:Int)-(IntKind.wrap .u64 v))))::((IntKind.wrap .u32 (Int.fdiv (IntKind.wrap .u64 ((0:Int)-(IntKind.wrap .u64 v))) (4294967296:Int))):: [])))) fun r11=>
 (some ((decide (v<(0:Int))),r11))
 else
 Option.bind (qdM k (List.take 2 ((IntKind.wrap .u32 (IntKind.wrap .u64 v))::((IntKind.wrap .u32 (Int.fdiv (IntKind.wrap .u64 v) (4294967296:Int))):: [])))) fun r11=>
 (some ((decide (v<(0:Int))),r11))
def qci:Nat→Int→Option (Bool×List Int)
 | 0,_=>none
 | k+1,v=>qfL k v
def qwH:Nat→Inst:=mkI 87 ⟨[vI],[]⟩ [⟨[.a (.ptr 0 0 0)],[.raw [[.lf .bool,.lf cW]] 2 147 true false false]⟩] fun k x=>qci k x
theorem qp3:∀k,qe (call cf k) (qwH k):=
 fnk 0 [] Tryz.func87 (fun k=>(ac (qk6 k) a0)) (fun k=>l0) ⟨rfl,rfl,⟨rfl,Nat.le_of_ble_eq_true rfl⟩,rfl⟩ (fun _=>rfl) (by kernel_rfl) fun k x=>by kernel_rfl

def qfY (k:Nat) (neg:Bool) (w:List Int) (z0:Bool) (z1:List Int):Option (Bool×List Int):=
 Option.bind (qdM k w) fun r14=>
 if(neg=true)then
 (some ((decide ((((List.length r14):Nat):Int)>(0:Int))),r14))
 else
 (some (false,r14))
def qeh:Nat→Bool→List Int→Bool→List Int→Option (Bool×List Int)
 | 0,_,_,_,_=>none
 | k+1,neg,w,z0,z1=>qfY k neg w z0 z1
def Iq9:Nat→Inst:=mkI 198 ⟨[.a (.ptr 0 0 0),vB,vT],[.raw [[.lf .bool,.lf cW]] 2 147 true false false]⟩ [⟨[.a (.ptr 0 0 0)],[.raw [[.lf .bool,.lf cW]] 2 147 true false false]⟩] fun k x=>qeh k x.1 x.2.1 x.2.2.1 x.2.2.2
theorem qBi:∀k,qe (call cf k) (Iq9 k):=
 fnk 1 [] Tryz.func198 (fun k=>(ac (qk6 k) a0)) (fun k=>l0) ⟨rfl,rfl,⟨rfl,Nat.le_of_ble_eq_true rfl⟩,rfl⟩ (fun _=>rfl) (by kernel_rfl) fun k x=>by kernel_rfl

def qeK (k:Nat) (rec:Nat→Int→Int→Int→List Int→Int→Int→List Int→Int→Int→Bool→List Int→Bool→List Int→List Int→Option (Nat×Int×Int×List Int×Int×Int×Bool×List Int×Bool×List Int×List Int)) (out1:Nat) (i:Int) (a:Int) (carry:Int) (x:List Int) (x1:Int) (x2:Int) (x3:List Int) (x4:Int) (x5:Int) (x0:Bool) (x11:List Int) (y0:Bool) (y1:List Int) (outs:List Int):Option (Nat×Int×Int×List Int×Int×Int×Bool×List Int×Bool×List Int×List Int):=
 if((decide (x5<x4))=true)then
 if((0:Int)≤x5)then
 Option.bind (x3)[(Int.toNat x5)]? fun x7=>
 if(((0:Int)≤(IntKind.wrap .i64 (i+x5)))∧((IntKind.wrap .i64 (i+x5))<((out1:Nat):Int)))then
 Option.bind (outs)[(0+(Int.toNat (IntKind.wrap .i64 (i+x5))))]? fun x8=>
 if(((0:Int)≤(IntKind.wrap .i64 (i+x5)))∧((IntKind.wrap .i64 (i+x5))<((out1:Nat):Int)))then
 Option.bind (outs)[(0+(Int.toNat (IntKind.wrap .i64 (i+x5))))]? fun x9=>
 rec out1 i a (Int.fdiv (IntKind.wrap .u64 ((IntKind.wrap .u64 ((IntKind.wrap .u64 ((IntKind.wrap .u64 a)*(IntKind.wrap .u64 x7)))+(IntKind.wrap .u64 x8)))+carry)) (4294967296:Int)) x x1 x2 x3 x4 (IntKind.wrap .i64 (x5+(1:Int))) x0 x11 y0 y1 (List.set outs (0+(Int.toNat (IntKind.wrap .i64 (i+x5)))) (IntKind.wrap .u32 (IntKind.wrap .u64 ((IntKind.wrap .u64 ((IntKind.wrap .u64 ((IntKind.wrap .u64 a)*(IntKind.wrap .u64 x7)))+(IntKind.wrap .u64 x8)))+carry))))
 else
 none
 else
 none
 else
 none
 else
 (some (out1,i,carry,x,x1,x2,x0,x11,y0,y1,outs))
def qdN (k n:Nat):Nat→Int→Int→Int→List Int→Int→Int→List Int→Int→Int→Bool→List Int→Bool→List Int→List Int→Option (Nat×Int×Int×List Int×Int×Int×Bool×List Int×Bool×List Int×List Int):=Nat.rec (fun _ _ _ _ _ _ _ _ _ _ _ _ _ _ _=>none) (fun _ r=>qeK k r) n
def qeL (k:Nat) (rec:Nat→List Int→Int→Int→Bool→List Int→Bool→List Int→List Int→Option (Nat×Bool×List Int×Bool×List Int×List Int)) (out1:Nat) (x:List Int) (x1:Int) (x2:Int) (x0:Bool) (x11:List Int) (y0:Bool) (y1:List Int) (outs:List Int):Option (Nat×Bool×List Int×Bool×List Int×List Int):=
 if((decide (x2<x1))=true)then
 if((0:Int)≤x2)then
 Option.bind (x)[(Int.toNat x2)]? fun x6=>
 Option.bind (qdN k k out1 x2 x6 (0:Int) x x1 x2 y1 (((List.length y1):Nat):Int) (0:Int) x0 x11 y0 y1 outs) fun r13=>
 if(((0:Int)≤(IntKind.wrap .i64 (r13.2.1+(((List.length r13.2.2.2.2.2.2.2.2.2.1):Nat):Int))))∧((IntKind.wrap .i64 (r13.2.1+(((List.length r13.2.2.2.2.2.2.2.2.2.1):Nat):Int)))<((r13.1:Nat):Int)))then
 Option.bind (r13.2.2.2.2.2.2.2.2.2.2)[(0+(Int.toNat (IntKind.wrap .i64 (r13.2.1+(((List.length r13.2.2.2.2.2.2.2.2.2.1):Nat):Int)))))]? fun x7=>
 rec r13.1 r13.2.2.2.1 r13.2.2.2.2.1 (IntKind.wrap .i64 (r13.2.2.2.2.2.1+(1:Int))) r13.2.2.2.2.2.2.1 r13.2.2.2.2.2.2.2.1 r13.2.2.2.2.2.2.2.2.1 r13.2.2.2.2.2.2.2.2.2.1 (List.set r13.2.2.2.2.2.2.2.2.2.2 (0+(Int.toNat (IntKind.wrap .i64 (r13.2.1+(((List.length r13.2.2.2.2.2.2.2.2.2.1):Nat):Int))))) (IntKind.wrap .u32 r13.2.2.1))
 else
 none
 else
 none
 else
 (some (out1,x0,x11,y0,y1,outs))
def qcT (k n:Nat):Nat→List Int→Int→Int→Bool→List Int→Bool→List Int→List Int→Option (Nat×Bool×List Int×Bool×List Int×List Int):=Nat.rec (fun _ _ _ _ _ _ _ _ _=>none) (fun _ r=>qeL k r) n
def qfZ (k:Nat) (x0:Bool) (x1:List Int) (y0:Bool) (y1:List Int):Option (Bool×List Int×Bool×List Int):=
 if(((0:Int)≤(IntKind.wrap .i64 ((((List.length x1):Nat):Int)+(((List.length y1):Nat):Int))))∧(((IntKind.wrap .i64 ((((List.length x1):Nat):Int)+(((List.length y1):Nat):Int)))≤(IntKind.wrap .i64 ((((List.length x1):Nat):Int)+(((List.length y1):Nat):Int))))∧(((IntKind.wrap .i64 ((((List.length x1):Nat):Int)+(((List.length y1):Nat):Int)))*(4:Int))≤(140737488355328:Int))))then
 Option.bind (qcT k k (Int.toNat (IntKind.wrap .i64 ((((List.length x1):Nat):Int)+(((List.length y1):Nat):Int)))) x1 (((List.length x1):Nat):Int) (0:Int) x0 x1 y0 y1 (List.replicate (Int.toNat (IntKind.wrap .i64 ((((List.length x1):Nat):Int)+(((List.length y1):Nat):Int)))) (0:Int))) fun r13=>
 if((0+r13.1)≤(List.length r13.2.2.2.2.2))then
 Option.bind (qeh k (!(r13.2.1 == r13.2.2.2.1)) (List.take r13.1 r13.2.2.2.2.2) r13.2.1 r13.2.2.1) fun r14=>
 (some (r14.1,r14.2,r13.2.2.2.1,r13.2.2.2.2.1))
 else
 none
 else
 none
def qdu:Nat→Bool→List Int→Bool→List Int→Option (Bool×List Int×Bool×List Int)
 | 0,_,_,_,_=>none
 | k+1,x0,x1,y0,y1=>qfZ k x0 x1 y0 y1
def Iq4:Nat→Inst:=mkI 155 ⟨[.a (.ptr 0 0 0),.a (.ptr 0 0 0),.a (.ptr 1 0 0)],[.raw [[.lf .bool,.lf cW]] 2 147 true false false,.raw [[.lf .bool,.lf cW]] 2 147 true false false]⟩ [⟨[.a (.ptr 0 0 0)],[.raw [[.lf .bool,.lf cW]] 2 147 true false false,.raw [[.lf .bool,.lf cW]] 2 147 true false false]⟩] fun k x=>qdu k x.1 x.2.1 x.2.2.1 x.2.2.2
theorem qs4 (k:Nat):qas (call cf k) [Iq9 k]:=
 ac (qBi k) a0
def qwI (k:Nat):LInst:=mkL 2 [⟨[(0,.a (.ptr 0 0 0)),(1,.a (.ptr 0 0 0)),(2,.a (.ptr 1 0 0)),(7,.a (.smz 2)),(8,vI),(9,.a (.lf (.int .u32))),(10,vU),(29,vT),(30,vI),(31,vI),(39,vT),(40,vI),(41,vI)],[(0,some (.raw [[.lf .bool,.lf cW]] 2 147 true false false)),(1,some (.raw [[.lf .bool,.lf cW]] 2 147 true false false)),(2,some (.arr (.int .u32) 1 106 false))],3⟩] [⟨some 2,⟨[(0,.a (.ptr 0 0 0)),(1,.a (.ptr 0 0 0)),(2,.a (.ptr 1 0 0)),(7,.a (.smz 2)),(8,vI),(10,vU),(29,vT),(30,vI),(31,vI)],[(0,some (.raw [[.lf .bool,.lf cW]] 2 147 true false false)),(1,some (.raw [[.lf .bool,.lf cW]] 2 147 true false false)),(2,some (.arr (.int .u32) 1 106 false))],3⟩⟩] (fun n x=>qdN k n x.1 x.2.1 x.2.2.1 x.2.2.2.1 x.2.2.2.2.1 x.2.2.2.2.2.1 x.2.2.2.2.2.2.1 x.2.2.2.2.2.2.2.1 x.2.2.2.2.2.2.2.2.1 x.2.2.2.2.2.2.2.2.2.1 x.2.2.2.2.2.2.2.2.2.2.1 x.2.2.2.2.2.2.2.2.2.2.2.1 x.2.2.2.2.2.2.2.2.2.2.2.2.1 x.2.2.2.2.2.2.2.2.2.2.2.2.2.1 x.2.2.2.2.2.2.2.2.2.2.2.2.2.2) k
theorem qrn (k:Nat):LIo 155 Tryz.f155 2 k (qwI k):=
 lpk [] (qs4 k) l0 (fun _=>rfl) (by kernel_rfl) fun n x=>by kernel_rfl
def qwJ (k:Nat):LInst:=mkL 0 [⟨[(0,.a (.ptr 0 0 0)),(1,.a (.ptr 0 0 0)),(2,.a (.ptr 1 0 0)),(7,.a (.smz 2)),(29,vT),(30,vI),(31,vI)],[(0,some (.raw [[.lf .bool,.lf cW]] 2 147 true false false)),(1,some (.raw [[.lf .bool,.lf cW]] 2 147 true false false)),(2,some (.arr (.int .u32) 1 106 false))],3⟩] [⟨some 0,⟨[(0,.a (.ptr 0 0 0)),(1,.a (.ptr 0 0 0)),(2,.a (.ptr 1 0 0)),(7,.a (.smz 2))],[(0,some (.raw [[.lf .bool,.lf cW]] 2 147 true false false)),(1,some (.raw [[.lf .bool,.lf cW]] 2 147 true false false)),(2,some (.arr (.int .u32) 1 106 false))],3⟩⟩] (fun n x=>qcT k n x.1 x.2.1 x.2.2.1 x.2.2.2.1 x.2.2.2.2.1 x.2.2.2.2.2.1 x.2.2.2.2.2.2.1 x.2.2.2.2.2.2.2.1 x.2.2.2.2.2.2.2.2) k
theorem qwK (k:Nat):LIo 155 Tryz.f155 2 k (qwJ k):=
 lpk [2] (qs4 k) (lc (qrn k) l0) (fun _=>rfl) (by kernel_rfl) fun n x=>by kernel_rfl
theorem qwL:∀k,qe (call cf k) (Iq4 k):=
 fnk 2 [0] Tryz.func155 (fun k=>(qs4 k)) (fun k=>(lc (qrn k) (lc (qwK k) l0))) ⟨rfl,rfl,⟨rfl,Nat.le_of_ble_eq_true rfl⟩,rfl⟩ (fun _=>rfl) (by kernel_rfl) fun k x=>by kernel_rfl

def qfM (k:Nat) (rec:Int→Int→Bool→List Int→Bool→List Int→Option (Bool×List Int×Bool×List Int)) (x:Int) (x1:Int) (z0:Bool) (z1:List Int) (ten0:Bool) (ten1:List Int):Option (Bool×List Int×Bool×List Int):=
 if((decide (x1<x))=true)then
 Option.bind (qdu k z0 z1 ten0 ten1) fun r13=>
 rec x (IntKind.wrap .i64 (x1+(1:Int))) r13.1 r13.2.1 r13.2.2.1 r13.2.2.2
 else
 (some (z0,z1,ten0,ten1))
def qei (k n:Nat):Int→Int→Bool→List Int→Bool→List Int→Option (Bool×List Int×Bool×List Int):=Nat.rec (fun _ _ _ _ _ _=>none) (fun _ r=>qfM k r) n
def qs5 (k:Nat) (k1:Int):Option (Bool×List Int):=
 Option.bind (qci k (1:Int)) fun r11=>
 Option.bind (qci k (10:Int)) fun r12=>
 Option.bind (qei k k k1 (0:Int) r11.1 r11.2 r12.1 r12.2) fun r13=>
 (some (r13.1,r13.2.1))
def qiR:Nat→Int→Option (Bool×List Int)
 | 0,_=>none
 | k+1,k1=>qs5 k k1
def qBj:Nat→Inst:=mkI 234 ⟨[vI],[]⟩ [⟨[.a (.ptr 0 0 0)],[.raw [[.lf .bool,.lf cW]] 2 147 true false false]⟩] fun k x=>qiR k x
theorem qtW (k:Nat):qas (call cf k) [qwH k,Iq4 k]:=
 ac (qp3 k) (ac (qwL k) a0)
def qwM (k:Nat):LInst:=mkL 0 [⟨[(3,.a (.ptr 0 0 0)),(4,.a (.ptr 1 0 0)),(7,vI),(8,vI)],[(0,some (.raw [[.lf .bool,.lf cW]] 2 147 true false false)),(1,some (.raw [[.lf .bool,.lf cW]] 2 147 true false false))],2⟩] [⟨some 0,⟨[(3,.a (.ptr 0 0 0))],[(0,some (.raw [[.lf .bool,.lf cW]] 2 147 true false false)),(1,some (.raw [[.lf .bool,.lf cW]] 2 147 true false false))],2⟩⟩] (fun n x=>qei k n x.1 x.2.1 x.2.2.1 x.2.2.2.1 x.2.2.2.2.1 x.2.2.2.2.2) k
theorem qwN (k:Nat):LIo 234 Tryz.f234 0 k (qwM k):=
 lpk [] (qtW k) l0 (fun _=>rfl) (by kernel_rfl) fun n x=>by kernel_rfl
theorem qz3:∀k,qe (call cf k) (qBj k):=
 fnk 0 [0] Tryz.func234 (fun k=>(qtW k)) (fun k=>(lc (qwN k) l0)) ⟨rfl,rfl,⟨rfl,Nat.le_of_ble_eq_true rfl⟩,rfl⟩ (fun _=>rfl) (by kernel_rfl) fun k x=>by kernel_rfl

def qcP (k:Nat) (rec:List Int→List Int→Int→Option ((Int) ⊕ (Unit))) (a:List Int) (b:List Int) (i:Int):Option ((Int) ⊕ (Unit)):=
 if((decide (i≥(0:Int)))=true)then
 if((0:Int)≤i)then
 Option.bind (a)[(Int.toNat i)]? fun x6=>
 if((0:Int)≤i)then
 Option.bind (b)[(Int.toNat i)]? fun x7=>
 if((x6 != x7)=true)then
 if((0:Int)≤i)then
 Option.bind (a)[(Int.toNat i)]? fun x8=>
 if((0:Int)≤i)then
 Option.bind (b)[(Int.toNat i)]? fun x9=>
 if((decide (x8<x9))=true)then
 (some (Sum.inl (-(1:Int))))
 else
 (some (Sum.inl (1:Int)))
 else
 none
 else
 none
 else
 rec a b (IntKind.wrap .i64 (i-(1:Int)))
 else
 none
 else
 none
 else
 (some (Sum.inr ()))
def qej (k n:Nat):List Int→List Int→Int→Option ((Int) ⊕ (Unit)):=Nat.rec (fun _ _ _=>none) (fun _ r=>qcP k r) n
def qks (k:Nat) (a:List Int) (b:List Int):Option (Int):=
 if(((((List.length a):Nat):Int) != (((List.length b):Nat):Int))=true)then
 if((decide ((((List.length a):Nat):Int)<(((List.length b):Nat):Int)))=true)then
 (some (-(1:Int)))
 else
 (some (1:Int))
 else
 Option.bind (qej k k a b (IntKind.wrap .i64 ((((List.length a):Nat):Int)-(1:Int)))) fun r13=>
 qc r13
 (fun r13=>
 (some r13))
 (fun r13=>
 (some (0:Int)))
def qiS:Nat→List Int→List Int→Option (Int)
 | 0,_,_=>none
 | k+1,a,b=>qks k a b
def qBk:Nat→Inst:=mkI 200 ⟨[vT,vT],[]⟩ [⟨[vI],[]⟩] fun k x=>qiS k x.1 x.2
def qwO (k:Nat):LInst:=mkL 0 [⟨[(0,vT),(1,vT),(5,vI)],[],0⟩] [⟨none,⟨[(4,vI)],[],0⟩⟩,⟨some 0,⟨[],[],0⟩⟩] (fun n x=>qej k n x.1 x.2.1 x.2.2) k
theorem qwP (k:Nat):LIo 200 Tryz.f200 0 k (qwO k):=
 lpk [] a0 l0 (fun _=>rfl) (by kernel_rfl) fun n x=>by kernel_rfl
theorem qtX:∀k,qe (call cf k) (qBk k):=
 fnk 0 [0] Tryz.func200 (fun k=>a0) (fun k=>(lc (qwP k) l0)) ⟨rfl,rfl,⟨rfl,Nat.le_of_ble_eq_true rfl⟩,rfl⟩ (fun _=>rfl) (by kernel_rfl) fun k x=>by kernel_rfl

def qet (k:Nat) (rec:List Int→Int→Nat→Int→Int→List Int→Option (Nat×Int×List Int)) (a:List Int) (d:Int) (q:Nat) (r:Int) (i:Int) (qs:List Int):Option (Nat×Int×List Int):=
 if((decide (i≥(0:Int)))=true)then
 if((0:Int)≤i)then
 Option.bind (a)[(Int.toNat i)]? fun x7=>
 if((IntKind.wrap .u64 d)=(0:Int))then
 none
 else
 if(((0:Int)≤i)∧(i<((q:Nat):Int)))then
 Option.bind (qs)[(0+(Int.toNat i))]? fun x8=>
 if((IntKind.wrap .u64 d)=(0:Int))then
 none
 else
 rec a d q (Int.tmod (IntKind.wrap .u64 (((BitVec.toNat ((BitVec.ofInt 64 (IntKind.wrap .u64 (r*(4294967296:Int)))) ||| (BitVec.ofInt 64 (IntKind.wrap .u64 x7)))):Nat):Int)) (IntKind.wrap .u64 d)) (IntKind.wrap .i64 (i-(1:Int))) (List.set qs (0+(Int.toNat i)) (IntKind.wrap .u32 (IntKind.wrap .u64 (Int.tdiv (IntKind.wrap .u64 (((BitVec.toNat ((BitVec.ofInt 64 (IntKind.wrap .u64 (r*(4294967296:Int)))) ||| (BitVec.ofInt 64 (IntKind.wrap .u64 x7)))):Nat):Int)) (IntKind.wrap .u64 d)))))
 else
 none
 else
 none
 else
 (some (q,r,qs))
def qd8 (k n:Nat):List Int→Int→Nat→Int→Int→List Int→Option (Nat×Int×List Int):=Nat.rec (fun _ _ _ _ _ _=>none) (fun _ r=>qet k r) n
def qiT (k:Nat) (a:List Int) (d:Int):Option (List Int×Int):=
 if(((0:Int)≤(((List.length a):Nat):Int))∧(((((List.length a):Nat):Int)≤(((List.length a):Nat):Int))∧(((((List.length a):Nat):Int)*(4:Int))≤(140737488355328:Int))))then
 Option.bind (qd8 k k a d (Int.toNat (((List.length a):Nat):Int)) (0:Int) (IntKind.wrap .i64 ((((List.length a):Nat):Int)-(1:Int))) (List.replicate (Int.toNat (((List.length a):Nat):Int)) (0:Int))) fun r14=>
 if((0+r14.1)≤(List.length r14.2.2))then
 (some ((List.take r14.1 r14.2.2),(IntKind.wrap .u32 r14.2.1)))
 else
 none
 else
 none
def qiU:Nat→List Int→Int→Option (List Int×Int)
 | 0,_,_=>none
 | k+1,a,d=>qiT k a d
def qBl:Nat→Inst:=mkI 241 ⟨[vT,.a (.lf (.int .u32))],[]⟩ [⟨[vT,.a (.lf (.int .u32))],[]⟩] fun k x=>qiU k x.1 x.2
def qwQ (k:Nat):LInst:=mkL 0 [⟨[(0,vT),(1,.a (.lf (.int .u32))),(6,.a (.smz 0)),(7,vU),(8,vI)],[(0,some (.arr (.int .u32) 1 106 false))],1⟩] [⟨some 0,⟨[(6,.a (.smz 0)),(7,vU)],[(0,some (.arr (.int .u32) 1 106 false))],1⟩⟩] (fun n x=>qd8 k n x.1 x.2.1 x.2.2.1 x.2.2.2.1 x.2.2.2.2.1 x.2.2.2.2.2) k
theorem qwR (k:Nat):LIo 241 Tryz.f241 0 k (qwQ k):=
 lpk [] a0 l0 (fun _=>rfl) (by kernel_rfl) fun n x=>by kernel_rfl
theorem qz4:∀k,qe (call cf k) (qBl k):=
 fnk 0 [0] Tryz.func241 (fun k=>a0) (fun k=>(lc (qwR k) l0)) ⟨rfl,rfl,⟨rfl,Nat.le_of_ble_eq_true rfl⟩,rfl⟩ (fun _=>rfl) (by kernel_rfl) fun k x=>by kernel_rfl

def qeu (k:Nat) (rec:Int→Nat→List Int→Int→Int→List Int→Option (Nat×List Int)) (bits:Int) (out1:Nat) (x:List Int) (x1:Int) (x2:Int) (outs:List Int):Option (Nat×List Int):=
 if((decide (x2<x1))=true)then
 if((0:Int)≤x2)then
 Option.bind (x)[(Int.toNat x2)]? fun x6=>
 if(bits<(0:Int))then
 none
 else
 if(((0:Int)≤x2)∧(x2<((out1:Nat):Int)))then
 Option.bind (outs)[(0+(Int.toNat x2))]? fun x7=>
 if(((0:Int)≤x2)∧(x2<((out1:Nat):Int)))then
 Option.bind (outs)[(0+(Int.toNat x2))]? fun x8=>
 if(((0:Int)≤(IntKind.wrap .i64 (x2+(1:Int))))∧((IntKind.wrap .i64 (x2+(1:Int)))<((out1:Nat):Int)))then
 Option.bind ((List.set outs (0+(Int.toNat x2)) (IntKind.wrap .u32 (((BitVec.toNat ((BitVec.ofInt 32 x7) ||| (BitVec.ofInt 32 (IntKind.wrap .u32 (IntKind.wrap .u64 ((IntKind.wrap .u64 x6)*((2:Int)^(min (Int.toNat bits) 64)))))))):Nat):Int))))[(0+(Int.toNat (IntKind.wrap .i64 (x2+(1:Int)))))]? fun x9=>
 rec bits out1 x x1 (IntKind.wrap .i64 (x2+(1:Int))) (List.set (List.set outs (0+(Int.toNat x2)) (IntKind.wrap .u32 (((BitVec.toNat ((BitVec.ofInt 32 x7) ||| (BitVec.ofInt 32 (IntKind.wrap .u32 (IntKind.wrap .u64 ((IntKind.wrap .u64 x6)*((2:Int)^(min (Int.toNat bits) 64)))))))):Nat):Int))) (0+(Int.toNat (IntKind.wrap .i64 (x2+(1:Int))))) (IntKind.wrap .u32 (Int.fdiv (IntKind.wrap .u64 ((IntKind.wrap .u64 x6)*((2:Int)^(min (Int.toNat bits) 64)))) (4294967296:Int))))
 else
 none
 else
 none
 else
 none
 else
 none
 else
 (some (out1,outs))
def qd9 (k n:Nat):Int→Nat→List Int→Int→Int→List Int→Option (Nat×List Int):=Nat.rec (fun _ _ _ _ _ _=>none) (fun _ r=>qeu k r) n
def qiV (k:Nat) (a:List Int) (bits:Int):Option (Nat×List Int):=
 if(((0:Int)≤(IntKind.wrap .i64 ((((List.length a):Nat):Int)+(1:Int))))∧(((IntKind.wrap .i64 ((((List.length a):Nat):Int)+(1:Int)))≤(IntKind.wrap .i64 ((((List.length a):Nat):Int)+(1:Int))))∧(((IntKind.wrap .i64 ((((List.length a):Nat):Int)+(1:Int)))*(4:Int))≤(140737488355328:Int))))then
 Option.bind (qd9 k k bits (Int.toNat (IntKind.wrap .i64 ((((List.length a):Nat):Int)+(1:Int)))) a (((List.length a):Nat):Int) (0:Int) (List.replicate (Int.toNat (IntKind.wrap .i64 ((((List.length a):Nat):Int)+(1:Int)))) (0:Int))) fun r15=>
 (some (r15.1,r15.2))
 else
 none
def qgu:Nat→List Int→Int→Option (Nat×List Int)
 | 0,_,_=>none
 | k+1,a,bits=>qiV k a bits
def qwS:Nat→Inst:=mkI 247 ⟨[vT,vU],[]⟩ [⟨[.a (.smz 0)],[.arr (.int .u32) 1 106 false]⟩] fun k x=>qgu k x.1 x.2
def qwT (k:Nat):LInst:=mkL 0 [⟨[(1,vU),(5,.a (.smz 0)),(13,vT),(14,vI),(15,vI)],[(0,some (.arr (.int .u32) 1 106 false))],1⟩] [⟨some 0,⟨[(5,.a (.smz 0))],[(0,some (.arr (.int .u32) 1 106 false))],1⟩⟩] (fun n x=>qd9 k n x.1 x.2.1 x.2.2.1 x.2.2.2.1 x.2.2.2.2.1 x.2.2.2.2.2) k
theorem qwU (k:Nat):LIo 247 Tryz.f247 0 k (qwT k):=
 lpk [] a0 l0 (fun _=>rfl) (by kernel_rfl) fun n x=>by kernel_rfl
theorem qz5:∀k,qe (call cf k) (qwS k):=
 fnk 0 [0] Tryz.func247 (fun k=>a0) (fun k=>(lc (qwU k) l0)) ⟨rfl,rfl,⟨rfl,Nat.le_of_ble_eq_true rfl⟩,rfl⟩ (fun _=>rfl) (by kernel_rfl) fun k x=>by kernel_rfl

def qaf (k:Nat) (rec:Nat→Nat→Nat→Int→Int→Int→Int→Int→List Int→List Int→Option (Nat×Nat×Nat×Int×Int×List Int×List Int)) (u0:Nat) (u1:Nat) (v:Nat) (d:Int) (carry:Int) (borrow:Int) (x:Int) (x1:Int) (us:List Int) (vs:List Int):Option (Nat×Nat×Nat×Int×Int×List Int×List Int):=
 if((decide (x1<x))=true)then
 if((decide (x1<((v:Nat):Int)))=true)then
 if(((0:Int)≤x1)∧(x1<((v:Nat):Int)))then
 Option.bind (vs)[(0+(Int.toNat x1))]? fun x10=>
 if(((0:Int)≤x1)∧(x1<((u1:Nat):Int)))then
 Option.bind (us)[(u0+(Int.toNat x1))]? fun x11=>
 if((decide ((IntKind.wrap .u64 x11)<(IntKind.wrap .u64 ((IntKind.wrap .u64 (((BitVec.toNat ((BitVec.ofInt 64 (IntKind.wrap .u64 (carry+(IntKind.wrap .u64 (d*(IntKind.wrap .u64 x10)))))) &&& (BitVec.ofInt 64 (4294967295:Int)))):Nat):Int))+borrow))))=true)then
 if(((0:Int)≤x1)∧(x1<((u1:Nat):Int)))then
 Option.bind (us)[(u0+(Int.toNat x1))]? fun x12=>
 if(((0:Int)≤x1)∧(x1<((u1:Nat):Int)))then
 Option.bind (us)[(u0+(Int.toNat x1))]? fun x13=>
 rec u0 u1 v d (Int.fdiv (IntKind.wrap .u64 (carry+(IntKind.wrap .u64 (d*(IntKind.wrap .u64 x10))))) (4294967296:Int)) (1:Int) x (IntKind.wrap .i64 (x1+(1:Int))) (List.set us (u0+(Int.toNat x1)) (IntKind.wrap .u32 (IntKind.wrap .u64 ((IntKind.wrap .u64 x12)-(IntKind.wrap .u64 ((IntKind.wrap .u64 (((BitVec.toNat ((BitVec.ofInt 64 (IntKind.wrap .u64 (carry+(IntKind.wrap .u64 (d*(IntKind.wrap .u64 x10)))))) &&& (BitVec.ofInt 64 (4294967295:Int)))):Nat):Int))+borrow)))))) vs
 else
 none
 else
 none
 else
 if(((0:Int)≤x1)∧(x1<((u1:Nat):Int)))then
 Option.bind (us)[(u0+(Int.toNat x1))]? fun x12=>
 if(((0:Int)≤x1)∧(x1<((u1:Nat):Int)))then
 Option.bind (us)[(u0+(Int.toNat x1))]? fun x13=>
 rec u0 u1 v d (Int.fdiv (IntKind.wrap .u64 (carry+(IntKind.wrap .u64 (d*(IntKind.wrap .u64 x10))))) (4294967296:Int)) (0:Int) x (IntKind.wrap .i64 (x1+(1:Int))) (List.set us (u0+(Int.toNat x1)) (IntKind.wrap .u32 (IntKind.wrap .u64 ((IntKind.wrap .u64 x12)-(IntKind.wrap .u64 ((IntKind.wrap .u64 (((BitVec.toNat ((BitVec.ofInt 64 (IntKind.wrap .u64 (carry+(IntKind.wrap .u64 (d*(IntKind.wrap .u64 x10)))))) &&& (BitVec.ofInt 64 (4294967295:Int)))):Nat):Int))+borrow)))))) vs
 else
 none
 else
 none
 else
 none
 else
 none
 else
 if(((0:Int)≤x1)∧(x1<((u1:Nat):Int)))then
 Option.bind (us)[(u0+(Int.toNat x1))]? fun x10=>
 if((decide ((IntKind.wrap .u64 x10)<(IntKind.wrap .u64 ((IntKind.wrap .u64 (((BitVec.toNat ((BitVec.ofInt 64 carry) &&& (BitVec.ofInt 64 (4294967295:Int)))):Nat):Int))+borrow))))=true)then
 if(((0:Int)≤x1)∧(x1<((u1:Nat):Int)))then
 Option.bind (us)[(u0+(Int.toNat x1))]? fun x11=>
 if(((0:Int)≤x1)∧(x1<((u1:Nat):Int)))then
 Option.bind (us)[(u0+(Int.toNat x1))]? fun x12=>
 rec u0 u1 v d (Int.fdiv carry (4294967296:Int)) (1:Int) x (IntKind.wrap .i64 (x1+(1:Int))) (List.set us (u0+(Int.toNat x1)) (IntKind.wrap .u32 (IntKind.wrap .u64 ((IntKind.wrap .u64 x11)-(IntKind.wrap .u64 ((IntKind.wrap .u64 (((BitVec.toNat ((BitVec.ofInt 64 carry) &&& (BitVec.ofInt 64 (4294967295:Int)))):Nat):Int))+borrow)))))) vs
 else
 none
 else
 none
 else
 if(((0:Int)≤x1)∧(x1<((u1:Nat):Int)))then
 Option.bind (us)[(u0+(Int.toNat x1))]? fun x11=>
 if(((0:Int)≤x1)∧(x1<((u1:Nat):Int)))then
 Option.bind (us)[(u0+(Int.toNat x1))]? fun x12=>
 rec u0 u1 v d (Int.fdiv carry (4294967296:Int)) (0:Int) x (IntKind.wrap .i64 (x1+(1:Int))) (List.set us (u0+(Int.toNat x1)) (IntKind.wrap .u32 (IntKind.wrap .u64 ((IntKind.wrap .u64 x11)-(IntKind.wrap .u64 ((IntKind.wrap .u64 (((BitVec.toNat ((BitVec.ofInt 64 carry) &&& (BitVec.ofInt 64 (4294967295:Int)))):Nat):Int))+borrow)))))) vs
 else
 none
 else
 none
 else
 none
 else
 (some (u0,u1,v,d,borrow,us,vs))
def qaP (k n:Nat):Nat→Nat→Nat→Int→Int→Int→Int→Int→List Int→List Int→Option (Nat×Nat×Nat×Int×Int×List Int×List Int):=Nat.rec (fun _ _ _ _ _ _ _ _ _ _=>none) (fun _ r=>qaf k r) n
def qb7 (k:Nat) (rec:Nat→Nat→Nat→Int→Int→Int→Int→List Int→List Int→Option (Int×List Int×List Int)) (u0:Nat) (u1:Nat) (v:Nat) (d:Int) (carry:Int) (x:Int) (x1:Int) (us:List Int) (vs:List Int):Option (Int×List Int×List Int):=
 if((decide (x1<x))=true)then
 if(((0:Int)≤x1)∧(x1<((u1:Nat):Int)))then
 Option.bind (us)[(u0+(Int.toNat x1))]? fun x10=>
 if((decide (x1<((v:Nat):Int)))=true)then
 if(((0:Int)≤x1)∧(x1<((v:Nat):Int)))then
 Option.bind (vs)[(0+(Int.toNat x1))]? fun x11=>
 if(((0:Int)≤x1)∧(x1<((u1:Nat):Int)))then
 Option.bind (us)[(u0+(Int.toNat x1))]? fun x12=>
 rec u0 u1 v d (Int.fdiv (IntKind.wrap .u64 ((IntKind.wrap .u64 ((IntKind.wrap .u64 x10)+carry))+(IntKind.wrap .u64 x11))) (4294967296:Int)) x (IntKind.wrap .i64 (x1+(1:Int))) (List.set us (u0+(Int.toNat x1)) (IntKind.wrap .u32 (IntKind.wrap .u64 ((IntKind.wrap .u64 ((IntKind.wrap .u64 x10)+carry))+(IntKind.wrap .u64 x11))))) vs
 else
 none
 else
 none
 else
 if(((0:Int)≤x1)∧(x1<((u1:Nat):Int)))then
 Option.bind (us)[(u0+(Int.toNat x1))]? fun x11=>
 rec u0 u1 v d (Int.fdiv (IntKind.wrap .u64 ((IntKind.wrap .u64 x10)+carry)) (4294967296:Int)) x (IntKind.wrap .i64 (x1+(1:Int))) (List.set us (u0+(Int.toNat x1)) (IntKind.wrap .u32 (IntKind.wrap .u64 ((IntKind.wrap .u64 x10)+carry)))) vs
 else
 none
 else
 none
 else
 (some (d,us,vs))
def qb0 (k n:Nat):Nat→Nat→Nat→Int→Int→Int→Int→List Int→List Int→Option (Int×List Int×List Int):=Nat.rec (fun _ _ _ _ _ _ _ _ _=>none) (fun _ r=>qb7 k r) n
def qfR (k:Nat) (u0:Nat) (u1:Nat) (v:Nat) (d:Int) (us:List Int) (vs:List Int):Option (Int×List Int×List Int):=
 Option.bind (qaP k k u0 u1 v d (0:Int) (0:Int) ((u1:Nat):Int) (0:Int) us vs) fun r18=>
 if((r18.2.2.2.2.1 == (0:Int))=true)then
 (some ((IntKind.wrap .u32 r18.2.2.2.1),r18.2.2.2.2.2.1,r18.2.2.2.2.2.2))
 else
 Option.bind (qb0 k k r18.1 r18.2.1 r18.2.2.1 r18.2.2.2.1 (0:Int) ((r18.2.1:Nat):Int) (0:Int) r18.2.2.2.2.2.1 r18.2.2.2.2.2.2) fun r19=>
 (some ((IntKind.wrap .u32 (IntKind.wrap .u64 (r19.1-(1:Int)))),r19.2.1,r19.2.2))
def qfS:Nat→Nat→Nat→Nat→Int→List Int→List Int→Option (Int×List Int×List Int)
 | 0,_,_,_,_,_,_=>none
 | k+1,u0,u1,v,d,us,vs=>qfR k u0 u1 v d us vs
def qwV:Nat→Inst:=mkI 248 ⟨[.a (.sms 0),.a (.smz 1),vU],[.arr (.int .u32) 1 106 false,.arr (.int .u32) 1 106 false]⟩ [⟨[.a (.lf (.int .u32))],[.arr (.int .u32) 1 106 false,.arr (.int .u32) 1 106 false]⟩] fun k x=>qfS k x.1 x.2.1 x.2.2.1 x.2.2.2.1 x.2.2.2.2.1 x.2.2.2.2.2
def qwW (k:Nat):LInst:=mkL 0 [⟨[(0,.a (.sms 0)),(1,.a (.smz 1)),(2,vU),(7,vU),(8,vU),(14,vI),(15,vI)],[(0,some (.arr (.int .u32) 1 106 false)),(1,some (.arr (.int .u32) 1 106 false))],2⟩] [⟨some 0,⟨[(0,.a (.sms 0)),(1,.a (.smz 1)),(2,vU),(8,vU)],[(0,some (.arr (.int .u32) 1 106 false)),(1,some (.arr (.int .u32) 1 106 false))],2⟩⟩] (fun n x=>qaP k n x.1 x.2.1 x.2.2.1 x.2.2.2.1 x.2.2.2.2.1 x.2.2.2.2.2.1 x.2.2.2.2.2.2.1 x.2.2.2.2.2.2.2.1 x.2.2.2.2.2.2.2.2.1 x.2.2.2.2.2.2.2.2.2) k
theorem qro (k:Nat):LIo 248 Tryz.f248 2 k (qwW k):=
 lpk [] a0 l0 (fun _=>rfl) (by kernel_rfl) fun n x=>by kernel_rfl
def qwX (k:Nat):LInst:=mkL 2 [⟨[(0,.a (.sms 0)),(1,.a (.smz 1)),(2,vU),(7,vU),(61,vI),(62,vI)],[(0,some (.arr (.int .u32) 1 106 false)),(1,some (.arr (.int .u32) 1 106 false))],2⟩] [⟨some 2,⟨[(2,vU)],[(0,some (.arr (.int .u32) 1 106 false)),(1,some (.arr (.int .u32) 1 106 false))],2⟩⟩] (fun n x=>qb0 k n x.1 x.2.1 x.2.2.1 x.2.2.2.1 x.2.2.2.2.1 x.2.2.2.2.2.1 x.2.2.2.2.2.2.1 x.2.2.2.2.2.2.2.1 x.2.2.2.2.2.2.2.2) k
theorem qwY (k:Nat):LIo 248 Tryz.f248 2 k (qwX k):=
 lpk [] a0 (lc (qro k) l0) (fun _=>rfl) (by kernel_rfl) fun n x=>by kernel_rfl
theorem qz6:∀k,qe (call cf k) (qwV k):=
 fnk 2 [0,2] Tryz.func248 (fun k=>a0) (fun k=>(lc (qro k) (lc (qwY k) l0))) ⟨rfl,rfl,⟨rfl,Nat.le_of_ble_eq_true rfl⟩,rfl⟩ (fun _=>rfl) (by kernel_rfl) fun k x=>by kernel_rfl

def qe0 (k:Nat) (rec:List Int→List Int→Int→Option (List Int×List Int×Int)) (a:List Int) (b:List Int) (bits:Int):Option (List Int×List Int×Int):=
 if((0:Int)≤(IntKind.wrap .i64 ((((List.length b):Nat):Int)-(1:Int))))then
 Option.bind (b)[(Int.toNat (IntKind.wrap .i64 ((((List.length b):Nat):Int)-(1:Int))))]? fun x6=>
 if(bits<(0:Int))then
 none
 else
 if(((Int.fdiv (IntKind.wrap .u32 (x6*((2:Int)^(min (Int.toNat bits) 32)))) (2147483648:Int)) == (0:Int))=true)then
 rec a b (IntKind.wrap .u64 (bits+(1:Int)))
 else
 (some (a,b,bits))
 else
 none
def qeC (k n:Nat):List Int→List Int→Int→Option (List Int×List Int×Int):=Nat.rec (fun _ _ _=>none) (fun _ r=>qe0 k r) n
def qbG (k:Nat) (rec:Nat→Int→Int→Nat→Nat→Int→Int→Int→List Int→List Int→List Int→Option (Nat×Int×Int×Nat×Nat×Int×Int×List Int×List Int×List Int)) (q:Nat) (bits:Int) (n:Int) (u:Nat) (v:Nat) (j:Int) (d:Int) (rest:Int) (qs:List Int) (us:List Int) (vs:List Int):Option (Nat×Int×Int×Nat×Nat×Int×Int×List Int×List Int×List Int):=
 if((decide (d>(4294967295:Int)))=false)then
 if((decide (rest≤(4294967295:Int)))=true)then
 if(((0:Int)≤(IntKind.wrap .i64 (n-(2:Int))))∧((IntKind.wrap .i64 (n-(2:Int)))<((v:Nat):Int)))then
 Option.bind (vs)[(0+(Int.toNat (IntKind.wrap .i64 (n-(2:Int)))))]? fun x10=>
 if(((0:Int)≤(IntKind.wrap .i64 ((IntKind.wrap .i64 (j+n))-(2:Int))))∧((IntKind.wrap .i64 ((IntKind.wrap .i64 (j+n))-(2:Int)))<((u:Nat):Int)))then
 Option.bind (us)[(0+(Int.toNat (IntKind.wrap .i64 ((IntKind.wrap .i64 (j+n))-(2:Int)))))]? fun x11=>
 if((decide ((IntKind.wrap .u64 (d*(IntKind.wrap .u64 x10)))>(IntKind.wrap .u64 (((BitVec.toNat ((BitVec.ofInt 64 (IntKind.wrap .u64 (rest*(4294967296:Int)))) ||| (BitVec.ofInt 64 (IntKind.wrap .u64 x11)))):Nat):Int))))=true)then
 if(((0:Int)≤(IntKind.wrap .i64 (n-(1:Int))))∧((IntKind.wrap .i64 (n-(1:Int)))<((v:Nat):Int)))then
 Option.bind (vs)[(0+(Int.toNat (IntKind.wrap .i64 (n-(1:Int)))))]? fun x12=>
 if((decide ((IntKind.wrap .u64 (rest+(IntKind.wrap .u64 x12)))>(4294967295:Int)))=true)then
 (some (q,bits,n,u,v,j,(IntKind.wrap .u64 (d-(1:Int))),qs,us,vs))
 else
 rec q bits n u v j (IntKind.wrap .u64 (d-(1:Int))) (IntKind.wrap .u64 (rest+(IntKind.wrap .u64 x12))) qs us vs
 else
 none
 else
 (some (q,bits,n,u,v,j,d,qs,us,vs))
 else
 none
 else
 none
 else
 (some (q,bits,n,u,v,j,d,qs,us,vs))
 else
 if(((0:Int)≤(IntKind.wrap .i64 (n-(1:Int))))∧((IntKind.wrap .i64 (n-(1:Int)))<((v:Nat):Int)))then
 Option.bind (vs)[(0+(Int.toNat (IntKind.wrap .i64 (n-(1:Int)))))]? fun x10=>
 if((decide ((IntKind.wrap .u64 (rest+(IntKind.wrap .u64 x10)))>(4294967295:Int)))=true)then
 (some (q,bits,n,u,v,j,(IntKind.wrap .u64 (d-(1:Int))),qs,us,vs))
 else
 rec q bits n u v j (IntKind.wrap .u64 (d-(1:Int))) (IntKind.wrap .u64 (rest+(IntKind.wrap .u64 x10))) qs us vs
 else
 none
def qcQ (k n:Nat):Nat→Int→Int→Nat→Nat→Int→Int→Int→List Int→List Int→List Int→Option (Nat×Int×Int×Nat×Nat×Int×Int×List Int×List Int×List Int):=Nat.rec (fun _ _ _ _ _ _ _ _ _ _ _=>none) (fun _ r=>qbG k r) n
def qe1 (k:Nat) (rec:Nat→Int→Int→Nat→Nat→Int→List Int→List Int→List Int→Option (Nat×Int×Int×Nat×List Int×List Int×List Int)) (q:Nat) (bits:Int) (n:Int) (u:Nat) (v:Nat) (j:Int) (qs:List Int) (us:List Int) (vs:List Int):Option (Nat×Int×Int×Nat×List Int×List Int×List Int):=
 if((decide (j≥(0:Int)))=true)then
 if(((0:Int)≤(IntKind.wrap .i64 (j+n)))∧((IntKind.wrap .i64 (j+n))<((u:Nat):Int)))then
 Option.bind (us)[(0+(Int.toNat (IntKind.wrap .i64 (j+n))))]? fun x6=>
 if(((0:Int)≤(IntKind.wrap .i64 ((IntKind.wrap .i64 (j+n))-(1:Int))))∧((IntKind.wrap .i64 ((IntKind.wrap .i64 (j+n))-(1:Int)))<((u:Nat):Int)))then
 Option.bind (us)[(0+(Int.toNat (IntKind.wrap .i64 ((IntKind.wrap .i64 (j+n))-(1:Int)))))]? fun x7=>
 if(((0:Int)≤(IntKind.wrap .i64 (n-(1:Int))))∧((IntKind.wrap .i64 (n-(1:Int)))<((v:Nat):Int)))then
 Option.bind (vs)[(0+(Int.toNat (IntKind.wrap .i64 (n-(1:Int)))))]? fun x8=>
 if((IntKind.wrap .u64 x8)=(0:Int))then
 none
 else
 if(((0:Int)≤(IntKind.wrap .i64 (n-(1:Int))))∧((IntKind.wrap .i64 (n-(1:Int)))<((v:Nat):Int)))then
 Option.bind (vs)[(0+(Int.toNat (IntKind.wrap .i64 (n-(1:Int)))))]? fun x9=>
 if((IntKind.wrap .u64 x9)=(0:Int))then
 none
 else
 Option.bind (qcQ k k q bits n u v j (IntKind.wrap .u64 (Int.tdiv (IntKind.wrap .u64 (((BitVec.toNat ((BitVec.ofInt 64 (IntKind.wrap .u64 ((IntKind.wrap .u64 x6)*(4294967296:Int)))) ||| (BitVec.ofInt 64 (IntKind.wrap .u64 x7)))):Nat):Int)) (IntKind.wrap .u64 x8))) (Int.tmod (IntKind.wrap .u64 (((BitVec.toNat ((BitVec.ofInt 64 (IntKind.wrap .u64 ((IntKind.wrap .u64 x6)*(4294967296:Int)))) ||| (BitVec.ofInt 64 (IntKind.wrap .u64 x7)))):Nat):Int)) (IntKind.wrap .u64 x9)) qs us vs) fun r17=>
 if(((0:Int)≤r17.2.2.2.2.2.1)∧((r17.2.2.2.2.2.1≤(IntKind.wrap .i64 ((IntKind.wrap .i64 (r17.2.2.2.2.2.1+r17.2.2.1))+(1:Int))))∧(((0+(Int.toNat (IntKind.wrap .i64 ((IntKind.wrap .i64 (r17.2.2.2.2.2.1+r17.2.2.1))+(1:Int)))))≤(List.length r17.2.2.2.2.2.2.2.2.1))∧((r17.2.2.2.2.2.1<(IntKind.wrap .i64 ((IntKind.wrap .i64 (r17.2.2.2.2.2.1+r17.2.2.1))+(1:Int))))∨(false=true)))))then
 Option.bind (qfS k (0+(Int.toNat r17.2.2.2.2.2.1)) ((Int.toNat (IntKind.wrap .i64 ((IntKind.wrap .i64 (r17.2.2.2.2.2.1+r17.2.2.1))+(1:Int))))-(Int.toNat r17.2.2.2.2.2.1)) r17.2.2.2.2.1 r17.2.2.2.2.2.2.1 r17.2.2.2.2.2.2.2.2.1 r17.2.2.2.2.2.2.2.2.2) fun r18=>
 if(((0:Int)≤r17.2.2.2.2.2.1)∧(r17.2.2.2.2.2.1<((r17.1:Nat):Int)))then
 Option.bind (r17.2.2.2.2.2.2.2.1)[(0+(Int.toNat r17.2.2.2.2.2.1))]? fun x10=>
 rec r17.1 r17.2.1 r17.2.2.1 r17.2.2.2.1 r17.2.2.2.2.1 (IntKind.wrap .i64 (r17.2.2.2.2.2.1-(1:Int))) (List.set r17.2.2.2.2.2.2.2.1 (0+(Int.toNat r17.2.2.2.2.2.1)) r18.1) r18.2.1 r18.2.2
 else
 none
 else
 none
 else
 none
 else
 none
 else
 none
 else
 none
 else
 (some (q,bits,n,u,qs,us,vs))
def qfN (k n:Nat):Nat→Int→Int→Nat→Nat→Int→List Int→List Int→List Int→Option (Nat×Int×Int×Nat×List Int×List Int×List Int):=Nat.rec (fun _ _ _ _ _ _ _ _ _=>none) (fun _ r=>qe1 k r) n
def qe2 (k:Nat) (rec:Nat→Nat→Int→Nat→Int→Int→List Int→List Int→List Int→Option (Nat×Nat×List Int×List Int×List Int)) (q:Nat) (r:Nat) (bits:Int) (u:Nat) (x:Int) (x1:Int) (qs:List Int) (rs:List Int) (us:List Int):Option (Nat×Nat×List Int×List Int×List Int):=
 if((decide (x1<x))=true)then
 if(((0:Int)≤x1)∧(x1<((u:Nat):Int)))then
 Option.bind (us)[(0+(Int.toNat x1))]? fun x6=>
 if(bits<(0:Int))then
 none
 else
 if(((0:Int)≤(IntKind.wrap .i64 (x1+(1:Int))))∧((IntKind.wrap .i64 (x1+(1:Int)))<((u:Nat):Int)))then
 Option.bind (us)[(0+(Int.toNat (IntKind.wrap .i64 (x1+(1:Int)))))]? fun x7=>
 if((IntKind.wrap .u64 ((32:Int)-bits))<(0:Int))then
 none
 else
 if(((0:Int)≤x1)∧(x1<((r:Nat):Int)))then
 Option.bind (rs)[(0+(Int.toNat x1))]? fun x8=>
 rec q r bits u x (IntKind.wrap .i64 (x1+(1:Int))) qs (List.set rs (0+(Int.toNat x1)) (IntKind.wrap .u32 (((BitVec.toNat ((BitVec.ofInt 32 (Int.fdiv x6 ((2:Int)^(min (Int.toNat bits) 32)))) ||| (BitVec.ofInt 32 (IntKind.wrap .u32 (IntKind.wrap .u64 ((IntKind.wrap .u64 x7)*((2:Int)^(min (Int.toNat (IntKind.wrap .u64 ((32:Int)-bits))) 64)))))))):Nat):Int))) us
 else
 none
 else
 none
 else
 none
 else
 (some (q,r,qs,rs,us))
def qeD (k n:Nat):Nat→Nat→Int→Nat→Int→Int→List Int→List Int→List Int→Option (Nat×Nat×List Int×List Int×List Int):=Nat.rec (fun _ _ _ _ _ _ _ _ _=>none) (fun _ r=>qe2 k r) n
def qjr (k:Nat) (a:List Int) (b:List Int):Option (List Int×List Int):=
 Option.bind (qeC k k a b (0:Int)) fun r14=>
 Option.bind (qgu k r14.1 r14.2.2) fun r15=>
 Option.bind (qgu k r14.2.1 r14.2.2) fun r16=>
 if(((0:Int)≤(0:Int))∧(((0:Int)≤(((List.length r14.2.1):Nat):Int))∧(((0+(Int.toNat (((List.length r14.2.1):Nat):Int)))≤(List.length r16.2))∧(((0:Int)<(((List.length r14.2.1):Nat):Int))∨(true=true)))))then
 if(((0:Int)≤(IntKind.wrap .i64 (((r15.1:Nat):Int)-(((List.length r14.2.1):Nat):Int))))∧(((IntKind.wrap .i64 (((r15.1:Nat):Int)-(((List.length r14.2.1):Nat):Int)))≤(IntKind.wrap .i64 (((r15.1:Nat):Int)-(((List.length r14.2.1):Nat):Int))))∧(((IntKind.wrap .i64 (((r15.1:Nat):Int)-(((List.length r14.2.1):Nat):Int)))*(4:Int))≤(140737488355328:Int))))then
 Option.bind (qfN k k (Int.toNat (IntKind.wrap .i64 (((r15.1:Nat):Int)-(((List.length r14.2.1):Nat):Int)))) r14.2.2 (((List.length r14.2.1):Nat):Int) r15.1 (Int.toNat (((List.length r14.2.1):Nat):Int)) (IntKind.wrap .i64 ((IntKind.wrap .i64 (((r15.1:Nat):Int)-(((List.length r14.2.1):Nat):Int)))-(1:Int))) (List.replicate (Int.toNat (IntKind.wrap .i64 (((r15.1:Nat):Int)-(((List.length r14.2.1):Nat):Int)))) (0:Int)) r15.2 r16.2) fun r17=>
 if(((0:Int)≤r17.2.2.1)∧((r17.2.2.1≤r17.2.2.1)∧((r17.2.2.1*(4:Int))≤(140737488355328:Int))))then
 Option.bind (qeD k k r17.1 (Int.toNat r17.2.2.1) r17.2.1 r17.2.2.2.1 r17.2.2.1 (0:Int) r17.2.2.2.2.1 (List.replicate (Int.toNat r17.2.2.1) (0:Int)) r17.2.2.2.2.2.1) fun r18=>
 if((0+r18.1)≤(List.length r18.2.2.1))then
 if((0+r18.2.1)≤(List.length r18.2.2.2.1))then
 (some ((List.take r18.1 r18.2.2.1),(List.take r18.2.1 r18.2.2.2.1)))
 else
 none
 else
 none
 else
 none
 else
 none
 else
 none
def qhW:Nat→List Int→List Int→Option (List Int×List Int)
 | 0,_,_=>none
 | k+1,a,b=>qjr k a b
def qBm:Nat→Inst:=mkI 242 ⟨[vT,vT],[]⟩ [⟨[vT,vT],[]⟩] fun k x=>qhW k x.1 x.2
theorem qlb (k:Nat):qas (call cf k) [qwS k,qwV k]:=
 ac (qz5 k) (ac (qz6 k) a0)
def qj9:SS:=⟨[(0,vT),(1,vT),(6,vU)],[],0⟩
def qwZ (k:Nat):LInst:=mkL 0 [qj9] [⟨some 0,qj9⟩] (fun n x=>qeC k n x.1 x.2.1 x.2.2) k
theorem qlc (k:Nat):LIo 242 Tryz.f242 0 k (qwZ k):=
 lpk [] (qlb k) l0 (fun _=>rfl) (by kernel_rfl) fun n x=>by kernel_rfl
def qw0 (k:Nat):LInst:=mkL 4 [⟨[(4,.a (.smz 0)),(6,vU),(7,vI),(8,.a (.smz 1)),(9,.a (.smz 2)),(10,vI),(12,vU),(13,vU)],[(0,some (.arr (.int .u32) 1 106 false)),(1,some (.arr (.int .u32) 1 106 false)),(2,some (.arr (.int .u32) 1 106 false))],3⟩] [⟨some 4,⟨[(4,.a (.smz 0)),(6,vU),(7,vI),(8,.a (.smz 1)),(9,.a (.smz 2)),(10,vI),(12,vU)],[(0,some (.arr (.int .u32) 1 106 false)),(1,some (.arr (.int .u32) 1 106 false)),(2,some (.arr (.int .u32) 1 106 false))],3⟩⟩] (fun n x=>qcQ k n x.1 x.2.1 x.2.2.1 x.2.2.2.1 x.2.2.2.2.1 x.2.2.2.2.2.1 x.2.2.2.2.2.2.1 x.2.2.2.2.2.2.2.1 x.2.2.2.2.2.2.2.2.1 x.2.2.2.2.2.2.2.2.2.1 x.2.2.2.2.2.2.2.2.2.2) k
theorem qnG (k:Nat):LIo 242 Tryz.f242 0 k (qw0 k):=
 lpk [] (qlb k) (lc (qlc k) l0) (fun _=>rfl) (by kernel_rfl) fun n x=>by kernel_rfl
def qw1 (k:Nat):LInst:=mkL 2 [⟨[(4,.a (.smz 0)),(6,vU),(7,vI),(8,.a (.smz 1)),(9,.a (.smz 2)),(10,vI)],[(0,some (.arr (.int .u32) 1 106 false)),(1,some (.arr (.int .u32) 1 106 false)),(2,some (.arr (.int .u32) 1 106 false))],3⟩] [⟨some 2,⟨[(4,.a (.smz 0)),(6,vU),(7,vI),(8,.a (.smz 1))],[(0,some (.arr (.int .u32) 1 106 false)),(1,some (.arr (.int .u32) 1 106 false)),(2,some (.arr (.int .u32) 1 106 false))],3⟩⟩] (fun n x=>qfN k n x.1 x.2.1 x.2.2.1 x.2.2.2.1 x.2.2.2.2.1 x.2.2.2.2.2.1 x.2.2.2.2.2.2.1 x.2.2.2.2.2.2.2.1 x.2.2.2.2.2.2.2.2) k
theorem qrp (k:Nat):LIo 242 Tryz.f242 0 k (qw1 k):=
 lpk [4] (qlb k) (lc (qlc k) (lc (qnG k) l0)) (fun _=>rfl) (by kernel_rfl) fun n x=>by kernel_rfl
def qw2 (k:Nat):LInst:=mkL 6 [⟨[(4,.a (.smz 0)),(5,.a (.smz 1)),(6,vU),(8,.a (.smz 2)),(139,vI),(140,vI)],[(0,some (.arr (.int .u32) 1 106 false)),(1,some (.arr (.int .u32) 1 106 false)),(2,some (.arr (.int .u32) 1 106 false))],3⟩] [⟨some 6,⟨[(4,.a (.smz 0)),(5,.a (.smz 1))],[(0,some (.arr (.int .u32) 1 106 false)),(1,some (.arr (.int .u32) 1 106 false)),(2,some (.arr (.int .u32) 1 106 false))],3⟩⟩] (fun n x=>qeD k n x.1 x.2.1 x.2.2.1 x.2.2.2.1 x.2.2.2.2.1 x.2.2.2.2.2.1 x.2.2.2.2.2.2.1 x.2.2.2.2.2.2.2.1 x.2.2.2.2.2.2.2.2) k
theorem qw3 (k:Nat):LIo 242 Tryz.f242 0 k (qw2 k):=
 lpk [] (qlb k) (lc (qlc k) (lc (qnG k) (lc (qrp k) l0))) (fun _=>rfl) (by kernel_rfl) fun n x=>by kernel_rfl
theorem qz7:∀k,qe (call cf k) (qBm k):=
 fnk 0 [0,2,6] Tryz.func242 (fun k=>(qlb k)) (fun k=>(lc (qlc k) (lc (qnG k) (lc (qrp k) (lc (qw3 k) l0))))) ⟨rfl,rfl,⟨rfl,Nat.le_of_ble_eq_true rfl⟩,rfl⟩ (fun _=>rfl) (by kernel_rfl) fun k x=>by kernel_rfl

def qdV (k:Nat) (a:List Int) (b:List Int):Option (List Int×List Int):=
 Option.bind (qiS k a b) fun r13=>
 if((decide (r13<(0:Int)))=true)then
 (some ([],a))
 else
 if(((((List.length b):Nat):Int) == (1:Int))=true)then
 Option.bind (b)[0]? fun x6=>
 Option.bind (qiU k a x6) fun r14=>
 (some (r14.1,(List.take 1 (r14.2:: []))))
 else
 Option.bind (qhW k a b) fun r14=>
 (some (r14.1,r14.2))
def qdW:Nat→List Int→List Int→Option (List Int×List Int)
 | 0,_,_=>none
 | k+1,a,b=>qdV k a b
def qw4:Nat→Inst:=mkI 231 ⟨[vT,vT],[]⟩ [⟨[vT,vT],[]⟩] fun k x=>qdW k x.1 x.2
theorem qtY:∀k,qe (call cf k) (qw4 k):=
 fnk 0 [] Tryz.func231 (fun k=>(ac (qtX k) (ac (qz4 k) (ac (qz7 k) a0)))) (fun k=>l0) ⟨rfl,rfl,⟨rfl,Nat.le_of_ble_eq_true rfl⟩,rfl⟩ (fun _=>rfl) (by kernel_rfl) fun k x=>by kernel_rfl

def qdO (k:Nat) (rec:List Int→List Int→Bool→List Int→Bool→List Int→Option (List Int×Bool×List Int×Bool×List Int)) (a:List Int) (b:List Int) (m0:Bool) (m1:List Int) (m01:Bool) (m11:List Int):Option (List Int×Bool×List Int×Bool×List Int):=
 if((decide ((((List.length b):Nat):Int)>(0:Int)))=true)then
 Option.bind (qdW k a b) fun r13=>
 if(((0+(List.length r13.2))*4)≤140737488355328)then
 if((0+(0+(List.length r13.2)))≤(List.length ((List.take 0 [])++r13.2)))then
 Option.bind (qdM k (List.take (0+(List.length r13.2)) ((List.take 0 [])++r13.2))) fun r14=>
 rec b r14 m0 m1 m01 m11
 else
 none
 else
 none
 else
 (some (a,m0,m1,m01,m11))
def qea (k n:Nat):List Int→List Int→Bool→List Int→Bool→List Int→Option (List Int×Bool×List Int×Bool×List Int):=Nat.rec (fun _ _ _ _ _ _=>none) (fun _ r=>qdO k r) n
def qhF (k:Nat) (x0:Bool) (x1:List Int) (y0:Bool) (y1:List Int):Option (Bool×List Int×Bool×List Int×Bool×List Int):=
 Option.bind (qea k k x1 y1 x0 x1 y0 y1) fun r13=>
 Option.bind (qbE k false r13.1 false) fun r14=>
 (some (r13.2.1,r13.2.2.1,r13.2.2.2.1,r13.2.2.2.2,r14.1,r14.2))
def qgv:Nat→Bool→List Int→Bool→List Int→Option (Bool×List Int×Bool×List Int×Bool×List Int)
 | 0,_,_,_,_=>none
 | k+1,x0,x1,y0,y1=>qhF k x0 x1 y0 y1
def Iq1:Nat→Inst:=mkI 203 ⟨[.a (.ptr 0 0 0),.a (.ptr 1 0 0)],[.raw [[.lf .bool,.lf cW]] 2 147 true false false,.raw [[.lf .bool,.lf cW]] 2 147 true false false]⟩ [⟨[.a (.ptr 2 0 0)],[.raw [[.lf .bool,.lf cW]] 2 147 true false false,.raw [[.lf .bool,.lf cW]] 2 147 true false false,.raw [[.lf .bool,.lf cW]] 2 147 true false false]⟩] fun k x=>qgv k x.1 x.2.1 x.2.2.1 x.2.2.2
theorem qw5 (k:Nat):qas (call cf k) [qw4 k,qwb k,Iq8 k]:=
 ac (qtY k) (ac (qk6 k) (ac (qp2 k) a0))
def qw6 (k:Nat):LInst:=mkL 0 [⟨[(5,vT),(6,vT)],[(0,some (.raw [[.lf .bool,.lf cW]] 2 147 true false false)),(1,some (.raw [[.lf .bool,.lf cW]] 2 147 true false false))],2⟩] [⟨some 0,⟨[(5,vT)],[(0,some (.raw [[.lf .bool,.lf cW]] 2 147 true false false)),(1,some (.raw [[.lf .bool,.lf cW]] 2 147 true false false))],2⟩⟩] (fun n x=>qea k n x.1 x.2.1 x.2.2.1 x.2.2.2.1 x.2.2.2.2.1 x.2.2.2.2.2) k
theorem qw7 (k:Nat):LIo 203 Tryz.f203 2 k (qw6 k):=
 lpk [] (qw5 k) l0 (fun _=>rfl) (by kernel_rfl) fun n x=>by kernel_rfl
theorem qBn:∀k,qe (call cf k) (Iq1 k):=
 fnk 2 [0] Tryz.func203 (fun k=>(qw5 k)) (fun k=>(lc (qw7 k) l0)) ⟨rfl,rfl,⟨rfl,Nat.le_of_ble_eq_true rfl⟩,rfl⟩ (fun _=>rfl) (by kernel_rfl) fun k x=>by kernel_rfl

def qeM (k:Nat) (z:Bool) (x0:Bool) (x1:List Int) (y0:Bool) (y1:List Int) (r:Bool):Option (Bool×List Int×Bool×List Int×Bool×List Int×Bool×List Int):=
 Option.bind (qdW k x1 y1) fun r14=>
 Option.bind (qbE k x0 r14.2 r) fun r15=>
 Option.bind (qbE k (!(x0 == y0)) r14.1 z) fun r16=>
 (some (r16.1,r16.2,x0,x1,y0,y1,r15.1,r15.2))
def qdH:Nat→Bool→Bool→List Int→Bool→List Int→Bool→Option (Bool×List Int×Bool×List Int×Bool×List Int×Bool×List Int)
 | 0,_,_,_,_,_,_=>none
 | k+1,z,x0,x1,y0,y1,r=>qeM k z x0 x1 y0 y1 r
def Iq6:Nat→Inst:=mkI 232 ⟨[.a (.ptr 0 0 0),.a (.ptr 1 0 0),.a (.ptr 2 0 0),.a (.ptr 3 0 0)],[.raw [[.lf .bool,.snil 1 106]] 2 147 true false false,.raw [[.lf .bool,.lf cW]] 2 147 true false false,.raw [[.lf .bool,.lf cW]] 2 147 true false false,.raw [[.lf .bool,.snil 1 106]] 2 147 true false false]⟩ [⟨[.a (.ptr 0 0 0),.a (.ptr 3 0 0)],[.raw [[.lf .bool,.lf cW]] 2 147 true false false,.raw [[.lf .bool,.lf cW]] 2 147 true false false,.raw [[.lf .bool,.lf cW]] 2 147 true false false,.raw [[.lf .bool,.lf cW]] 2 147 true false false]⟩] fun k x=>qdH k x.1 x.2.1 x.2.2.1 x.2.2.2.1 x.2.2.2.2.1 x.2.2.2.2.2
theorem qBo:∀k,qe (call cf k) (Iq6 k):=
 fnk 4 [] Tryz.func232 (fun k=>(ac (qtY k) (ac (qp2 k) a0))) (fun k=>l0) ⟨rfl,rfl,⟨rfl,Nat.le_of_ble_eq_true rfl⟩,rfl⟩ (fun _=>rfl) (by kernel_rfl) fun k x=>by kernel_rfl

def qkt (k:Nat) (z:Bool) (x0:Bool) (x1:List Int) (y0:Bool) (y1:List Int):Option (Bool×List Int×Bool×List Int×Bool×List Int):=
 Option.bind (qdH k z x0 x1 y0 y1 false) fun r14=>
 (some (r14.1,r14.2.1,r14.2.2.1,r14.2.2.2.1,r14.2.2.2.2.1,r14.2.2.2.2.2.1))
def qb8:Nat→Bool→Bool→List Int→Bool→List Int→Option (Bool×List Int×Bool×List Int×Bool×List Int)
 | 0,_,_,_,_,_=>none
 | k+1,z,x0,x1,y0,y1=>qkt k z x0 x1 y0 y1
def Iq7:Nat→Inst:=mkI 204 ⟨[.a (.ptr 0 0 0),.a (.ptr 1 0 0),.a (.ptr 2 0 0)],[.raw [[.lf .bool,.snil 1 106]] 2 147 true false false,.raw [[.lf .bool,.lf cW]] 2 147 true false false,.raw [[.lf .bool,.lf cW]] 2 147 true false false]⟩ [⟨[.a (.ptr 0 0 0)],[.raw [[.lf .bool,.lf cW]] 2 147 true false false,.raw [[.lf .bool,.lf cW]] 2 147 true false false,.raw [[.lf .bool,.lf cW]] 2 147 true false false]⟩] fun k x=>qb8 k x.1 x.2.1 x.2.2.1 x.2.2.2.1 x.2.2.2.2
theorem qBp:∀k,qe (call cf k) (Iq7 k):=
 fnk 3 [] Tryz.func204 (fun k=>(ac (qBo k) a0)) (fun k=>l0) ⟨rfl,rfl,⟨rfl,Nat.le_of_ble_eq_true rfl⟩,rfl⟩ (fun _=>rfl) (by kernel_rfl) fun k x=>by kernel_rfl

def qdd (k:Nat) (z0:Bool) (z1:Bool) (n0:Bool) (n1:List Int) (d0:Bool) (d1:List Int):Option (Bool×List Int×Bool×List Int×Bool×List Int×Bool×List Int):=
 Option.bind (qgv k n0 n1 d0 d1) fun r13=>
 if(r13.2.2.1=true)then
 Option.bind (qb8 k false r13.1 r13.2.1 true r13.2.2.2.2.2) fun r14=>
 Option.bind (qb8 k false r13.2.2.1 r13.2.2.2.1 r14.2.2.2.2.1 r14.2.2.2.2.2) fun r15=>
 (some (r14.1,r14.2.1,r15.1,r15.2.1,r14.2.2.1,r14.2.2.2.1,r15.2.2.1,r15.2.2.2.1))
 else
 Option.bind (qb8 k false r13.1 r13.2.1 r13.2.2.2.2.1 r13.2.2.2.2.2) fun r14=>
 Option.bind (qb8 k false r13.2.2.1 r13.2.2.2.1 r14.2.2.2.2.1 r14.2.2.2.2.2) fun r15=>
 (some (r14.1,r14.2.1,r15.1,r15.2.1,r14.2.2.1,r14.2.2.2.1,r15.2.2.1,r15.2.2.2.1))
def qde:Nat→Bool→Bool→Bool→List Int→Bool→List Int→Option (Bool×List Int×Bool×List Int×Bool×List Int×Bool×List Int)
 | 0,_,_,_,_,_,_=>none
 | k+1,z0,z1,n0,n1,d0,d1=>qdd k z0 z1 n0 n1 d0 d1
def qBq:Nat→Inst:=mkI 144 ⟨[.a (.ptr 0 0 0),.a (.ptr 1 0 0),.a (.ptr 2 0 0)],[.raw [[.lf .bool,.snil 1 106,.lf .bool,.snil 1 106]] 4 180 true false false,.raw [[.lf .bool,.lf cW]] 2 147 true false false,.raw [[.lf .bool,.lf cW]] 2 147 true false false]⟩ [⟨[.a (.ptr 0 0 0)],[.raw [[.lf .bool,.lf cW,.lf .bool,.lf cW]] 4 180 true false false,.raw [[.lf .bool,.lf cW]] 2 147 true false false,.raw [[.lf .bool,.lf cW]] 2 147 true false false]⟩] fun k x=>qde k x.1 x.2.1 x.2.2.1 x.2.2.2.1 x.2.2.2.2.1 x.2.2.2.2.2
theorem qz8:∀k,qe (call cf k) (qBq k):=
 fnk 3 [] Tryz.func144 (fun k=>(ac (qBn k) (ac (qBp k) a0))) (fun k=>l0) ⟨rfl,rfl,⟨rfl,Nat.le_of_ble_eq_true rfl⟩,rfl⟩ (fun _=>rfl) (by kernel_rfl) fun k x=>by kernel_rfl

def qmo (k:Nat) (n0:Bool) (n1:List Int) (d0:Bool) (d1:List Int):Option (Bool×List Int×Bool×List Int×Bool×List Int×Bool×List Int):=
 Option.bind (qde k false false n0 n1 d0 d1) fun r13=>
 (some (r13.2.2.2.2.1,r13.2.2.2.2.2.1,r13.2.2.2.2.2.2.1,r13.2.2.2.2.2.2.2,r13.1,r13.2.1,r13.2.2.1,r13.2.2.2.1))
def qev:Nat→Bool→List Int→Bool→List Int→Option (Bool×List Int×Bool×List Int×Bool×List Int×Bool×List Int)
 | 0,_,_,_,_=>none
 | k+1,n0,n1,d0,d1=>qmo k n0 n1 d0 d1
def Iq0:Nat→Inst:=mkI 89 ⟨[.a (.ptr 0 0 0),.a (.ptr 1 0 0)],[.raw [[.lf .bool,.lf cW]] 2 147 true false false,.raw [[.lf .bool,.lf cW]] 2 147 true false false]⟩ [⟨[.a (.ptr 2 0 0)],[.raw [[.lf .bool,.lf cW]] 2 147 true false false,.raw [[.lf .bool,.lf cW]] 2 147 true false false,.raw [[.lf .bool,.lf cW,.lf .bool,.lf cW]] 4 180 true false false]⟩] fun k x=>qev k x.1 x.2.1 x.2.2.1 x.2.2.2
theorem qBr:∀k,qe (call cf k) (Iq0 k):=
 fnk 2 [] Tryz.func89 (fun k=>(ac (qz8 k) a0)) (fun k=>l0) ⟨rfl,rfl,⟨rfl,Nat.le_of_ble_eq_true rfl⟩,rfl⟩ (fun _=>rfl) (by kernel_rfl) fun k x=>by kernel_rfl

def qg7 (k:Nat) (n0:Int) (n1:Int):Option (Bool×List Int×Bool×List Int):=
 Option.bind (qiR k (max n1 (IntKind.wrap .i64 ((0:Int)-n1)))) fun r11=>
 if((decide (n1<(0:Int)))=true)then
 Option.bind (qci k n0) fun r12=>
 Option.bind (qev k r12.1 r12.2 r11.1 r11.2) fun r13=>
 (some (r13.2.2.2.2.1,r13.2.2.2.2.2.1,r13.2.2.2.2.2.2.1,r13.2.2.2.2.2.2.2))
 else
 Option.bind (qci k n0) fun r12=>
 Option.bind (qdu k r11.1 r11.2 r12.1 r12.2) fun r13=>
 Option.bind (qci k (1:Int)) fun r14=>
 Option.bind (qev k r13.1 r13.2.1 r14.1 r14.2) fun r15=>
 (some (r15.2.2.2.2.1,r15.2.2.2.2.2.1,r15.2.2.2.2.2.2.1,r15.2.2.2.2.2.2.2))
def qgg:Nat→Int→Int→Option (Bool×List Int×Bool×List Int)
 | 0,_,_=>none
 | k+1,n0,n1=>qg7 k n0 n1
def qBs:Nat→Inst:=mkI 214 ⟨[.g [.lf (.int .i64),.lf (.int .i64)]],[]⟩ [⟨[.a (.ptr 0 0 0)],[.raw [[.lf .bool,.lf cW,.lf .bool,.lf cW]] 4 180 true false false]⟩] fun k x=>qgg k x.1 x.2
theorem qz9:∀k,qe (call cf k) (qBs k):=
 fnk 0 [] Tryz.func214 (fun k=>(ac (qz3 k) (ac (qp3 k) (ac (qBr k) (ac (qwL k) a0))))) (fun k=>l0) ⟨rfl,rfl,⟨rfl,Nat.le_of_ble_eq_true rfl⟩,rfl⟩ (fun _=>rfl) (by kernel_rfl) fun k x=>by kernel_rfl

def qlH (k:Nat) (neg:Bool) (w:List Int):Option (Bool×List Int):=
 if(((0+(List.length w))*4)≤140737488355328)then
 if((0+(0+(List.length w)))≤(List.length ((List.take 0 [])++w)))then
 Option.bind (qdM k (List.take (0+(List.length w)) ((List.take 0 [])++w))) fun r13=>
 if(neg=true)then
 (some ((decide ((((List.length r13):Nat):Int)>(0:Int))),r13))
 else
 (some (false,r13))
 else
 none
 else
 none
def qip:Nat→Bool→List Int→Option (Bool×List Int)
 | 0,_,_=>none
 | k+1,neg,w=>qlH k neg w
def qBt:Nat→Inst:=mkI 202 ⟨[vB,vT],[]⟩ [⟨[.a (.ptr 0 0 0)],[.raw [[.lf .bool,.lf cW]] 2 147 true false false]⟩] fun k x=>qip k x.1 x.2
theorem qAa:∀k,qe (call cf k) (qBt k):=
 fnk 0 [] Tryz.func202 (fun k=>(ac (qk6 k) a0)) (fun k=>l0) ⟨rfl,rfl,⟨rfl,Nat.le_of_ble_eq_true rfl⟩,rfl⟩ (fun _=>rfl) (by kernel_rfl) fun k x=>by kernel_rfl

def qe3 (k:Nat) (z0:Bool) (z1:List Int) (z2:Bool) (z3:List Int):Option (Bool×List Int×Bool×List Int×Bool×List Int):=
 if(((((List.length z3):Nat):Int) == (0:Int))=true)then
 Option.bind (qci k (1:Int)) fun r13=>
 (some (z0,z1,z2,z3,r13.1,r13.2))
 else
 Option.bind (qip k false z3) fun r13=>
 (some (z0,z1,z2,z3,r13.1,r13.2))
def qcU:Nat→Bool→List Int→Bool→List Int→Option (Bool×List Int×Bool×List Int×Bool×List Int)
 | 0,_,_,_,_=>none
 | k+1,z0,z1,z2,z3=>qe3 k z0 z1 z2 z3
def qBu:Nat→Inst:=mkI 143 ⟨[.a (.ptr 0 0 0)],[.raw [[.lf .bool,.lf cW,.lf .bool,.lf cW]] 4 180 true false false]⟩ [⟨[.a (.ptr 1 0 0)],[.raw [[.lf .bool,.lf cW,.lf .bool,.lf cW]] 4 180 true false false,.raw [[.lf .bool,.lf cW]] 2 147 true false false]⟩] fun k x=>qcU k x.1 x.2.1 x.2.2.1 x.2.2.2
theorem qAb:∀k,qe (call cf k) (qBu k):=
 fnk 1 [] Tryz.func143 (fun k=>(ac (qp3 k) (ac (qAa k) a0))) (fun k=>l0) ⟨rfl,rfl,⟨rfl,Nat.le_of_ble_eq_true rfl⟩,rfl⟩ (fun _=>rfl) (by kernel_rfl) fun k x=>by kernel_rfl

def qeN (k:Nat) (rec:Nat→Int→Int→Int→List Int→Int→Int→List Int→Int→Int→Bool→Bool→List Int→Bool→List Int→Bool→List Int→List Int→Option (Nat×Int×Int×List Int×Int×Int×Bool×Bool×List Int×Bool×List Int×Bool×List Int×List Int)) (out1:Nat) (i:Int) (a:Int) (carry:Int) (x:List Int) (x1:Int) (x2:Int) (x3:List Int) (x4:Int) (x5:Int) (z:Bool) (x0:Bool) (x11:List Int) (x21:Bool) (x31:List Int) (y0:Bool) (y1:List Int) (outs:List Int):Option (Nat×Int×Int×List Int×Int×Int×Bool×Bool×List Int×Bool×List Int×Bool×List Int×List Int):=
 if((decide (x5<x4))=true)then
 if((0:Int)≤x5)then
 Option.bind (x3)[(Int.toNat x5)]? fun x7=>
 if(((0:Int)≤(IntKind.wrap .i64 (i+x5)))∧((IntKind.wrap .i64 (i+x5))<((out1:Nat):Int)))then
 Option.bind (outs)[(0+(Int.toNat (IntKind.wrap .i64 (i+x5))))]? fun x8=>
 if(((0:Int)≤(IntKind.wrap .i64 (i+x5)))∧((IntKind.wrap .i64 (i+x5))<((out1:Nat):Int)))then
 Option.bind (outs)[(0+(Int.toNat (IntKind.wrap .i64 (i+x5))))]? fun x9=>
 rec out1 i a (Int.fdiv (IntKind.wrap .u64 ((IntKind.wrap .u64 ((IntKind.wrap .u64 ((IntKind.wrap .u64 a)*(IntKind.wrap .u64 x7)))+(IntKind.wrap .u64 x8)))+carry)) (4294967296:Int)) x x1 x2 x3 x4 (IntKind.wrap .i64 (x5+(1:Int))) z x0 x11 x21 x31 y0 y1 (List.set outs (0+(Int.toNat (IntKind.wrap .i64 (i+x5)))) (IntKind.wrap .u32 (IntKind.wrap .u64 ((IntKind.wrap .u64 ((IntKind.wrap .u64 ((IntKind.wrap .u64 a)*(IntKind.wrap .u64 x7)))+(IntKind.wrap .u64 x8)))+carry))))
 else
 none
 else
 none
 else
 none
 else
 (some (out1,i,carry,x,x1,x2,z,x0,x11,x21,x31,y0,y1,outs))
def qdP (k n:Nat):Nat→Int→Int→Int→List Int→Int→Int→List Int→Int→Int→Bool→Bool→List Int→Bool→List Int→Bool→List Int→List Int→Option (Nat×Int×Int×List Int×Int×Int×Bool×Bool×List Int×Bool×List Int×Bool×List Int×List Int):=Nat.rec (fun _ _ _ _ _ _ _ _ _ _ _ _ _ _ _ _ _ _=>none) (fun _ r=>qeN k r) n
def qeO (k:Nat) (rec:Nat→List Int→Int→Int→Bool→Bool→List Int→Bool→List Int→Bool→List Int→List Int→Option (Nat×Bool×Bool×List Int×Bool×List Int×Bool×List Int×List Int)) (out1:Nat) (x:List Int) (x1:Int) (x2:Int) (z:Bool) (x0:Bool) (x11:List Int) (x21:Bool) (x3:List Int) (y0:Bool) (y1:List Int) (outs:List Int):Option (Nat×Bool×Bool×List Int×Bool×List Int×Bool×List Int×List Int):=
 if((decide (x2<x1))=true)then
 if((0:Int)≤x2)then
 Option.bind (x)[(Int.toNat x2)]? fun x6=>
 Option.bind (qdP k k out1 x2 x6 (0:Int) x x1 x2 y1 (((List.length y1):Nat):Int) (0:Int) z x0 x11 x21 x3 y0 y1 outs) fun r14=>
 if(((0:Int)≤(IntKind.wrap .i64 (r14.2.1+(((List.length r14.2.2.2.2.2.2.2.2.2.2.2.2.1):Nat):Int))))∧((IntKind.wrap .i64 (r14.2.1+(((List.length r14.2.2.2.2.2.2.2.2.2.2.2.2.1):Nat):Int)))<((r14.1:Nat):Int)))then
 Option.bind (r14.2.2.2.2.2.2.2.2.2.2.2.2.2)[(0+(Int.toNat (IntKind.wrap .i64 (r14.2.1+(((List.length r14.2.2.2.2.2.2.2.2.2.2.2.2.1):Nat):Int)))))]? fun x7=>
 rec r14.1 r14.2.2.2.1 r14.2.2.2.2.1 (IntKind.wrap .i64 (r14.2.2.2.2.2.1+(1:Int))) r14.2.2.2.2.2.2.1 r14.2.2.2.2.2.2.2.1 r14.2.2.2.2.2.2.2.2.1 r14.2.2.2.2.2.2.2.2.2.1 r14.2.2.2.2.2.2.2.2.2.2.1 r14.2.2.2.2.2.2.2.2.2.2.2.1 r14.2.2.2.2.2.2.2.2.2.2.2.2.1 (List.set r14.2.2.2.2.2.2.2.2.2.2.2.2.2 (0+(Int.toNat (IntKind.wrap .i64 (r14.2.1+(((List.length r14.2.2.2.2.2.2.2.2.2.2.2.2.1):Nat):Int))))) (IntKind.wrap .u32 r14.2.2.1))
 else
 none
 else
 none
 else
 (some (out1,z,x0,x11,x21,x3,y0,y1,outs))
def qdQ (k n:Nat):Nat→List Int→Int→Int→Bool→Bool→List Int→Bool→List Int→Bool→List Int→List Int→Option (Nat×Bool×Bool×List Int×Bool×List Int×Bool×List Int×List Int):=Nat.rec (fun _ _ _ _ _ _ _ _ _ _ _ _=>none) (fun _ r=>qeO k r) n
def qf0 (k:Nat) (z:Bool) (x0:Bool) (x1:List Int) (x2:Bool) (x3:List Int) (y0:Bool) (y1:List Int):Option (Bool×List Int×Bool×List Int×Bool×List Int×Bool×List Int):=
 if(((0:Int)≤(IntKind.wrap .i64 ((((List.length x1):Nat):Int)+(((List.length y1):Nat):Int))))∧(((IntKind.wrap .i64 ((((List.length x1):Nat):Int)+(((List.length y1):Nat):Int)))≤(IntKind.wrap .i64 ((((List.length x1):Nat):Int)+(((List.length y1):Nat):Int))))∧(((IntKind.wrap .i64 ((((List.length x1):Nat):Int)+(((List.length y1):Nat):Int)))*(4:Int))≤(140737488355328:Int))))then
 Option.bind (qdQ k k (Int.toNat (IntKind.wrap .i64 ((((List.length x1):Nat):Int)+(((List.length y1):Nat):Int)))) x1 (((List.length x1):Nat):Int) (0:Int) z x0 x1 x2 x3 y0 y1 (List.replicate (Int.toNat (IntKind.wrap .i64 ((((List.length x1):Nat):Int)+(((List.length y1):Nat):Int)))) (0:Int))) fun r14=>
 if((0+r14.1)≤(List.length r14.2.2.2.2.2.2.2.2))then
 Option.bind (qbE k (!(r14.2.2.1 == r14.2.2.2.2.2.2.1)) (List.take r14.1 r14.2.2.2.2.2.2.2.2) r14.2.1) fun r15=>
 (some (r15.1,r15.2,r14.2.2.1,r14.2.2.2.1,r14.2.2.2.2.1,r14.2.2.2.2.2.1,r14.2.2.2.2.2.2.1,r14.2.2.2.2.2.2.2.1))
 else
 none
 else
 none
def qdv:Nat→Bool→Bool→List Int→Bool→List Int→Bool→List Int→Option (Bool×List Int×Bool×List Int×Bool×List Int×Bool×List Int)
 | 0,_,_,_,_,_,_,_=>none
 | k+1,z,x0,x1,x2,x3,y0,y1=>qf0 k z x0 x1 x2 x3 y0 y1
def Iq5:Nat→Inst:=mkI 155 ⟨[.a (.ptr 0 0 0),.a (.ptr 1 0 0),.a (.ptr 2 0 0)],[.raw [[.lf .bool,.snil 1 106]] 2 147 true false false,.raw [[.lf .bool,.lf cW,.lf .bool,.lf cW]] 4 180 true false false,.raw [[.lf .bool,.lf cW]] 2 147 true false false]⟩ [⟨[.a (.ptr 0 0 0)],[.raw [[.lf .bool,.lf cW]] 2 147 true false false,.raw [[.lf .bool,.lf cW,.lf .bool,.lf cW]] 4 180 true false false,.raw [[.lf .bool,.lf cW]] 2 147 true false false]⟩] fun k x=>qdv k x.1 x.2.1 x.2.2.1 x.2.2.2.1 x.2.2.2.2.1 x.2.2.2.2.2.1 x.2.2.2.2.2.2
theorem qs6 (k:Nat):qas (call cf k) [Iq8 k]:=
 ac (qp2 k) a0
def qw8 (k:Nat):LInst:=mkL 2 [⟨[(0,.a (.ptr 0 0 0)),(1,.a (.ptr 1 0 0)),(2,.a (.ptr 2 0 0)),(7,.a (.smz 3)),(8,vI),(9,.a (.lf (.int .u32))),(10,vU),(29,vT),(30,vI),(31,vI),(39,vT),(40,vI),(41,vI)],[(0,some (.raw [[.lf .bool,.snil 1 106]] 2 147 true false false)),(1,some (.raw [[.lf .bool,.lf cW,.lf .bool,.lf cW]] 4 180 true false false)),(2,some (.raw [[.lf .bool,.lf cW]] 2 147 true false false)),(3,some (.arr (.int .u32) 1 106 false))],4⟩] [⟨some 2,⟨[(0,.a (.ptr 0 0 0)),(1,.a (.ptr 1 0 0)),(2,.a (.ptr 2 0 0)),(7,.a (.smz 3)),(8,vI),(10,vU),(29,vT),(30,vI),(31,vI)],[(0,some (.raw [[.lf .bool,.snil 1 106]] 2 147 true false false)),(1,some (.raw [[.lf .bool,.lf cW,.lf .bool,.lf cW]] 4 180 true false false)),(2,some (.raw [[.lf .bool,.lf cW]] 2 147 true false false)),(3,some (.arr (.int .u32) 1 106 false))],4⟩⟩] (fun n x=>qdP k n x.1 x.2.1 x.2.2.1 x.2.2.2.1 x.2.2.2.2.1 x.2.2.2.2.2.1 x.2.2.2.2.2.2.1 x.2.2.2.2.2.2.2.1 x.2.2.2.2.2.2.2.2.1 x.2.2.2.2.2.2.2.2.2.1 x.2.2.2.2.2.2.2.2.2.2.1 x.2.2.2.2.2.2.2.2.2.2.2.1 x.2.2.2.2.2.2.2.2.2.2.2.2.1 x.2.2.2.2.2.2.2.2.2.2.2.2.2.1 x.2.2.2.2.2.2.2.2.2.2.2.2.2.2.1 x.2.2.2.2.2.2.2.2.2.2.2.2.2.2.2.1 x.2.2.2.2.2.2.2.2.2.2.2.2.2.2.2.2.1 x.2.2.2.2.2.2.2.2.2.2.2.2.2.2.2.2.2) k
theorem qrq (k:Nat):LIo 155 Tryz.f155 3 k (qw8 k):=
 lpk [] (qs6 k) l0 (fun _=>rfl) (by kernel_rfl) fun n x=>by kernel_rfl
def qw9 (k:Nat):LInst:=mkL 0 [⟨[(0,.a (.ptr 0 0 0)),(1,.a (.ptr 1 0 0)),(2,.a (.ptr 2 0 0)),(7,.a (.smz 3)),(29,vT),(30,vI),(31,vI)],[(0,some (.raw [[.lf .bool,.snil 1 106]] 2 147 true false false)),(1,some (.raw [[.lf .bool,.lf cW,.lf .bool,.lf cW]] 4 180 true false false)),(2,some (.raw [[.lf .bool,.lf cW]] 2 147 true false false)),(3,some (.arr (.int .u32) 1 106 false))],4⟩] [⟨some 0,⟨[(0,.a (.ptr 0 0 0)),(1,.a (.ptr 1 0 0)),(2,.a (.ptr 2 0 0)),(7,.a (.smz 3))],[(0,some (.raw [[.lf .bool,.snil 1 106]] 2 147 true false false)),(1,some (.raw [[.lf .bool,.lf cW,.lf .bool,.lf cW]] 4 180 true false false)),(2,some (.raw [[.lf .bool,.lf cW]] 2 147 true false false)),(3,some (.arr (.int .u32) 1 106 false))],4⟩⟩] (fun n x=>qdQ k n x.1 x.2.1 x.2.2.1 x.2.2.2.1 x.2.2.2.2.1 x.2.2.2.2.2.1 x.2.2.2.2.2.2.1 x.2.2.2.2.2.2.2.1 x.2.2.2.2.2.2.2.2.1 x.2.2.2.2.2.2.2.2.2.1 x.2.2.2.2.2.2.2.2.2.2.1 x.2.2.2.2.2.2.2.2.2.2.2) k
theorem qxa (k:Nat):LIo 155 Tryz.f155 3 k (qw9 k):=
 lpk [2] (qs6 k) (lc (qrq k) l0) (fun _=>rfl) (by kernel_rfl) fun n x=>by kernel_rfl
theorem qBv:∀k,qe (call cf k) (Iq5 k):=
 fnk 3 [0] Tryz.func155 (fun k=>(qs6 k)) (fun k=>(lc (qrq k) (lc (qxa k) l0))) ⟨rfl,rfl,⟨rfl,Nat.le_of_ble_eq_true rfl⟩,rfl⟩ (fun _=>rfl) (by kernel_rfl) fun k x=>by kernel_rfl

def qf1 (k:Nat) (z0:Bool) (z1:List Int) (y0:Bool) (y1:List Int):Option (Int×Bool×List Int×Bool×List Int):=
 if((!(z0 == y0))=true)then
 if(z0=true)then
 (some ((-(1:Int)),z0,z1,y0,y1))
 else
 (some ((1:Int),z0,z1,y0,y1))
 else
 Option.bind (qiS k z1 y1) fun r17=>
 if(z0=true)then
 (some ((IntKind.wrap .i64 ((0:Int)-r17)),z0,z1,y0,y1))
 else
 (some (r17,z0,z1,y0,y1))
def qek:Nat→Bool→List Int→Bool→List Int→Option (Int×Bool×List Int×Bool×List Int)
 | 0,_,_,_,_=>none
 | k+1,z0,z1,y0,y1=>qf1 k z0 z1 y0 y1
def Iq2:Nat→Inst:=mkI 156 ⟨[.a (.ptr 0 0 0),.a (.ptr 1 0 0)],[.raw [[.lf .bool,.lf cW]] 2 147 true false false,.raw [[.lf .bool,.lf cW]] 2 147 true false false]⟩ [⟨[vI],[.raw [[.lf .bool,.lf cW]] 2 147 true false false,.raw [[.lf .bool,.lf cW]] 2 147 true false false]⟩] fun k x=>qek k x.1 x.2.1 x.2.2.1 x.2.2.2
theorem qBw:∀k,qe (call cf k) (Iq2 k):=
 fnk 2 [] Tryz.func156 (fun k=>(ac (qtX k) a0)) (fun k=>l0) ⟨rfl,rfl,⟨rfl,Nat.le_of_ble_eq_true rfl⟩,rfl⟩ (fun _=>rfl) (by kernel_rfl) fun k x=>by kernel_rfl

def qku (k:Nat) (z0:Bool) (z1:List Int) (z2:Bool) (z3:List Int) (y0:Bool) (y1:List Int) (y2:Bool) (y3:List Int):Option (Int×Bool×List Int×Bool×List Int×Bool×List Int×Bool×List Int):=
 Option.bind (qcU k y0 y1 y2 y3) fun r13=>
 Option.bind (qdv k false z0 z1 z2 z3 r13.2.2.2.2.1 r13.2.2.2.2.2) fun r14=>
 Option.bind (qcU k r14.2.2.1 r14.2.2.2.1 r14.2.2.2.2.1 r14.2.2.2.2.2.1) fun r15=>
 Option.bind (qdv k false r13.1 r13.2.1 r13.2.2.1 r13.2.2.2.1 r15.2.2.2.2.1 r15.2.2.2.2.2) fun r16=>
 Option.bind (qek k r14.1 r14.2.1 r16.1 r16.2.1) fun r17=>
 (some (r17.1,r15.1,r15.2.1,r15.2.2.1,r15.2.2.2.1,r16.2.2.1,r16.2.2.2.1,r16.2.2.2.2.1,r16.2.2.2.2.2.1))
def qel:Nat→Bool→List Int→Bool→List Int→Bool→List Int→Bool→List Int→Option (Int×Bool×List Int×Bool×List Int×Bool×List Int×Bool×List Int)
 | 0,_,_,_,_,_,_,_,_=>none
 | k+1,z0,z1,z2,z3,y0,y1,y2,y3=>qku k z0 z1 z2 z3 y0 y1 y2 y3
def qBx:Nat→Inst:=mkI 100 ⟨[.a (.ptr 0 0 0),.a (.ptr 1 0 0)],[.raw [[.lf .bool,.lf cW,.lf .bool,.lf cW]] 4 180 true false false,.raw [[.lf .bool,.lf cW,.lf .bool,.lf cW]] 4 180 true false false]⟩ [⟨[vI],[.raw [[.lf .bool,.lf cW,.lf .bool,.lf cW]] 4 180 true false false,.raw [[.lf .bool,.lf cW,.lf .bool,.lf cW]] 4 180 true false false]⟩] fun k x=>qel k x.1 x.2.1 x.2.2.1 x.2.2.2.1 x.2.2.2.2.1 x.2.2.2.2.2.1 x.2.2.2.2.2.2.1 x.2.2.2.2.2.2.2
theorem qAc:∀k,qe (call cf k) (qBx k):=
 fnk 2 [] Tryz.func100 (fun k=>(ac (qAb k) (ac (qBv k) (ac (qBw k) a0)))) (fun k=>l0) ⟨rfl,rfl,⟨rfl,Nat.le_of_ble_eq_true rfl⟩,rfl⟩ (fun _=>rfl) (by kernel_rfl) fun k x=>by kernel_rfl

def qkv (k:Nat) (a0:Int) (a1:Int) (b0:Int) (b1:Int):Option (Int×Int):=
 Option.bind (qZ k a0 a1) fun r9=>
 if((!r9)=false)then
 Option.bind (qZ k b0 b1) fun r10=>
 if((!r10)=true)then
 (some ((0:Int),(30:Int)))
 else
 Option.bind (qgg k a0 a1) fun r11=>
 Option.bind (qgg k b0 b1) fun r12=>
 Option.bind (qel k r11.1 r11.2.1 r11.2.2.1 r11.2.2.2 r12.1 r12.2.1 r12.2.2.1 r12.2.2.2) fun r13=>
 (some (r13.1,(0:Int)))
 else
 (some ((0:Int),(30:Int)))
def qhG:Nat→Int→Int→Int→Int→Option (Int×Int)
 | 0,_,_,_,_=>none
 | k+1,a0,a1,b0,b1=>qkv k a0 a1 b0 b1
def qxb:Nat→Inst:=mkI 227 ⟨[.g [.lf (.int .i64),.lf (.int .i64)],.g [.lf (.int .i64),.lf (.int .i64)]],[]⟩ [⟨[vI,vI],[]⟩] fun k x=>qhG k x.1 x.2.1 x.2.2.1 x.2.2.2
theorem qAd:∀k,qe (call cf k) (qxb k):=
 fnk 0 [] Tryz.func227 (fun k=>(ac (qk7 k) (ac (qz9 k) (ac (qAc k) a0)))) (fun k=>l0) ⟨rfl,rfl,⟨rfl,Nat.le_of_ble_eq_true rfl⟩,rfl⟩ (fun _=>rfl) (by kernel_rfl) fun k x=>by kernel_rfl

def qcl (k:Nat) (rec:List (Int×Int)→List (Int×Int)→Int→List (Int×Int)→Int→Int→ByteArray→Int→List (Int×Int)→List (Int×Int)→Option ((Bool×ByteArray×Int×List (Int×Int)×List (Int×Int)×Int×Int) ⊕ (List (Int×Int)×List (Int×Int)×Int×ByteArray×Int×List (Int×Int)×List (Int×Int)))) (x0:List (Int×Int)) (x1:List (Int×Int)) (x:Int) (x2:List (Int×Int)) (x3:Int) (x4:Int) (m0:ByteArray) (m1:Int) (m2:List (Int×Int)) (m3:List (Int×Int)):Option ((Bool×ByteArray×Int×List (Int×Int)×List (Int×Int)×Int×Int) ⊕ (List (Int×Int)×List (Int×Int)×Int×ByteArray×Int×List (Int×Int)×List (Int×Int))):=
 if((decide (x4<x3))=true)then
 if((0:Int)≤x4)then
 Option.bind (x2)[(Int.toNat x4)]? fun x5=>
 Option.bind (qZ k x5.1 x5.2) fun r8=>
 if((!r8)=true)then
 (some (Sum.inl (false,m0,m1,m2,m3,x5.1,x5.2)))
 else
 rec x0 x1 x x2 x3 (IntKind.wrap .i64 (x4+(1:Int))) m0 m1 m2 m3
 else
 none
 else
 (some (Sum.inr (x0,x1,x,m0,m1,m2,m3)))
def qaK (k n:Nat):List (Int×Int)→List (Int×Int)→Int→List (Int×Int)→Int→Int→ByteArray→Int→List (Int×Int)→List (Int×Int)→Option ((Bool×ByteArray×Int×List (Int×Int)×List (Int×Int)×Int×Int) ⊕ (List (Int×Int)×List (Int×Int)×Int×ByteArray×Int×List (Int×Int)×List (Int×Int))):=Nat.rec (fun _ _ _ _ _ _ _ _ _ _=>none) (fun _ r=>qcl k r) n
def qc5 (k:Nat) (rec:List (Int×Int)→List (Int×Int)→Int→ByteArray→Int→List (Int×Int)→List (Int×Int)→Option ((Bool×ByteArray×Int×List (Int×Int)×List (Int×Int)×Int×Int) ⊕ (ByteArray×Int×List (Int×Int)×List (Int×Int)))) (x0:List (Int×Int)) (x1:List (Int×Int)) (x:Int) (m0:ByteArray) (m1:Int) (m2:List (Int×Int)) (m3:List (Int×Int)):Option ((Bool×ByteArray×Int×List (Int×Int)×List (Int×Int)×Int×Int) ⊕ (ByteArray×Int×List (Int×Int)×List (Int×Int))):=
 if((decide (x<(2:Int)))=true)then
 if(x=(0:Int))then
 Option.bind (qaK k k x0 x1 x x0 (((List.length x0):Nat):Int) (0:Int) m0 m1 m2 m3) fun r8=>
 qc r8
 (fun r8=>
 (some (Sum.inl (r8.1,r8.2.1,r8.2.2.1,r8.2.2.2.1,r8.2.2.2.2.1,r8.2.2.2.2.2.1,r8.2.2.2.2.2.2))))
 (fun r8=>
 rec r8.1 r8.2.1 (IntKind.wrap .i64 (r8.2.2.1+(1:Int))) r8.2.2.2.1 r8.2.2.2.2.1 r8.2.2.2.2.2.1 r8.2.2.2.2.2.2)
 else
 if((x-(1:Int))=(0:Int))then
 Option.bind (qaK k k x0 x1 x x1 (((List.length x1):Nat):Int) (0:Int) m0 m1 m2 m3) fun r8=>
 qc r8
 (fun r8=>
 (some (Sum.inl (r8.1,r8.2.1,r8.2.2.1,r8.2.2.2.1,r8.2.2.2.2.1,r8.2.2.2.2.2.1,r8.2.2.2.2.2.2))))
 (fun r8=>
 rec r8.1 r8.2.1 (IntKind.wrap .i64 (r8.2.2.1+(1:Int))) r8.2.2.2.1 r8.2.2.2.2.1 r8.2.2.2.2.2.1 r8.2.2.2.2.2.2)
 else
 none
 else
 (some (Sum.inr (m0,m1,m2,m3)))
def qaq (k n:Nat):List (Int×Int)→List (Int×Int)→Int→ByteArray→Int→List (Int×Int)→List (Int×Int)→Option ((Bool×ByteArray×Int×List (Int×Int)×List (Int×Int)×Int×Int) ⊕ (ByteArray×Int×List (Int×Int)×List (Int×Int))):=Nat.rec (fun _ _ _ _ _ _ _=>none) (fun _ r=>qc5 k r) n
def qbA (k:Nat) (rec:Int→ByteArray→Int→List (Int×Int)→List (Int×Int)→Option ((Bool×ByteArray×Int×List (Int×Int)×List (Int×Int)) ⊕ (ByteArray×Int×List (Int×Int)×List (Int×Int)))) (i:Int) (m0:ByteArray) (m1:Int) (m2:List (Int×Int)) (m3:List (Int×Int)):Option ((Bool×ByteArray×Int×List (Int×Int)×List (Int×Int)) ⊕ (ByteArray×Int×List (Int×Int)×List (Int×Int))):=
 if((decide (i<(((List.length m3):Nat):Int)))=true)then
 if((0:Int)≤(IntKind.wrap .i64 (i-(1:Int))))then
 Option.bind (m3)[(Int.toNat (IntKind.wrap .i64 (i-(1:Int))))]? fun x4=>
 if((0:Int)≤i)then
 Option.bind (m3)[(Int.toNat i)]? fun x5=>
 Option.bind (qhG k x4.1 x4.2 x5.1 x5.2) fun r9=>
 if((decide (r9.1≥(0:Int)))=true)then
 (some (Sum.inl (false,m0,m1,m2,m3)))
 else
 rec (IntKind.wrap .i64 (i+(1:Int))) m0 m1 m2 m3
 else
 none
 else
 none
 else
 (some (Sum.inr (m0,m1,m2,m3)))
def qae (k n:Nat):Int→ByteArray→Int→List (Int×Int)→List (Int×Int)→Option ((Bool×ByteArray×Int×List (Int×Int)×List (Int×Int)) ⊕ (ByteArray×Int×List (Int×Int)×List (Int×Int))):=Nat.rec (fun _ _ _ _ _=>none) (fun _ r=>qbA k r) n
def qhH (k:Nat) (m0:ByteArray) (m1:Int) (m2:List (Int×Int)) (m3:List (Int×Int)):Option (Bool):=
 Option.bind (qfK k m0) fun r7=>
 if((!r7)=true)then
 (some false)
 else
 Option.bind (qaq k k m2 m3 (0:Int) m0 m1 m2 m3) fun r8=>
 qc r8
 (fun r8=>
 (some r8.1))
 (fun r8=>
 if((r8.2.1 == (115:Int))=true)then
 if(((((List.length r8.2.2.1):Nat):Int) == (2:Int))=true)then
 (some ((((List.length r8.2.2.2):Nat):Int) == (1:Int)))
 else
 (some false)
 else
 if((r8.2.1 == (100:Int))=true)then
 if((decide ((((List.length r8.2.2.1):Nat):Int)<(1:Int)))=false)then
 if((decide ((((List.length r8.2.2.1):Nat):Int)>(4:Int)))=false)then
 if(((((List.length r8.2.2.2):Nat):Int) != (IntKind.wrap .i64 ((((List.length r8.2.2.1):Nat):Int)-(1:Int))))=true)then
 (some false)
 else
 Option.bind (qae k k (1:Int) r8.1 r8.2.1 r8.2.2.1 r8.2.2.2) fun r9=>
 qc r9
 (fun r9=>
 (some r9.1))
 (fun r9=>
 (some true))
 else
 (some false)
 else
 (some false)
 else
 (some false))
def qdw:Nat→ByteArray→Int→List (Int×Int)→List (Int×Int)→Option (Bool)
 | 0,_,_,_,_=>none
 | k+1,m0,m1,m2,m3=>qhH k m0 m1 m2 m3
def qxc:Nat→Inst:=mkI 192 ⟨[.g [.lf .str,.lf (.int .u8),.lf cE,.lf cE]],[]⟩ [⟨[vB],[]⟩] fun k x=>qdw k x.1 x.2.1 x.2.2.1 x.2.2.2
theorem qmI (k:Nat):qas (call cf k) [qwt k,qnD k,qxb k]:=
 ac (qtS k) (ac (qk7 k) (ac (qAd k) a0))
def qxd (k:Nat):LInst:=mkL 2 [⟨[(1,.a (.ptr 0 0 0)),(18,.g [.lf cE,.lf cE]),(19,vI),(22,.a (.lf cE)),(23,vI),(24,vI)],[(0,some (.raw [[.lf .str,.lf (.int .u8),.lf cE,.lf cE]] 4 46 true false false))],1⟩] [⟨none,⟨[(2,vB)],[(0,some (.raw [[.lf .str,.lf (.int .u8),.lf cE,.lf cE]] 4 46 true false false)),(1,some (.raw [[.lf (.int .i64),.lf (.int .i64)]] 2 25 true false false))],2⟩⟩,⟨some 2,⟨[(1,.a (.ptr 0 0 0)),(18,.g [.lf cE,.lf cE]),(19,vI)],[(0,some (.raw [[.lf .str,.lf (.int .u8),.lf cE,.lf cE]] 4 46 true false false))],1⟩⟩] (fun n x=>qaK k n x.1 x.2.1 x.2.2.1 x.2.2.2.1 x.2.2.2.2.1 x.2.2.2.2.2.1 x.2.2.2.2.2.2.1 x.2.2.2.2.2.2.2.1 x.2.2.2.2.2.2.2.2.1 x.2.2.2.2.2.2.2.2.2) k
theorem qnH (k:Nat):LIo 192 Tryz.f192 0 k (qxd k):=
 lpk [] (qmI k) l0 (fun _=>rfl) (by kernel_rfl) fun n x=>by kernel_rfl
def qxe (k:Nat):LInst:=mkL 0 [⟨[(1,.a (.ptr 0 0 0)),(18,.g [.lf cE,.lf cE]),(19,vI)],[(0,some (.raw [[.lf .str,.lf (.int .u8),.lf cE,.lf cE]] 4 46 true false false))],1⟩] [⟨none,⟨[(2,vB)],[(0,some (.raw [[.lf .str,.lf (.int .u8),.lf cE,.lf cE]] 4 46 true false false)),(1,some (.raw [[.lf (.int .i64),.lf (.int .i64)]] 2 25 true false false))],2⟩⟩,⟨some 0,⟨[(1,.a (.ptr 0 0 0))],[(0,some (.raw [[.lf .str,.lf (.int .u8),.lf cE,.lf cE]] 4 46 true false false))],1⟩⟩] (fun n x=>qaq k n x.1 x.2.1 x.2.2.1 x.2.2.2.1 x.2.2.2.2.1 x.2.2.2.2.2.1 x.2.2.2.2.2.2) k
theorem qrr (k:Nat):LIo 192 Tryz.f192 0 k (qxe k):=
 lpk [2] (qmI k) (lc (qnH k) l0) (fun _=>rfl) (by kernel_rfl) fun n x=>by kernel_rfl
def qxf (k:Nat):LInst:=mkL 5 [⟨[(1,.a (.ptr 0 0 0)),(7,vI)],[(0,some (.raw [[.lf .str,.lf (.int .u8),.lf cE,.lf cE]] 4 46 true false false))],1⟩] [⟨none,⟨[(2,vB)],[(0,some (.raw [[.lf .str,.lf (.int .u8),.lf cE,.lf cE]] 4 46 true false false))],1⟩⟩,⟨some 5,⟨[],[(0,some (.raw [[.lf .str,.lf (.int .u8),.lf cE,.lf cE]] 4 46 true false false))],1⟩⟩] (fun n x=>qae k n x.1 x.2.1 x.2.2.1 x.2.2.2.1 x.2.2.2.2) k
theorem qxg (k:Nat):LIo 192 Tryz.f192 0 k (qxf k):=
 lpk [] (qmI k) (lc (qnH k) (lc (qrr k) l0)) (fun _=>rfl) (by kernel_rfl) fun n x=>by kernel_rfl
theorem qtZ:∀k,qe (call cf k) (qxc k):=
 fnk 0 [0,5] Tryz.func192 (fun k=>(qmI k)) (fun k=>(lc (qnH k) (lc (qrr k) (lc (qxg k) l0)))) ⟨rfl,rfl,⟨rfl,Nat.le_of_ble_eq_true rfl⟩,rfl⟩ (fun _=>rfl) (by kernel_rfl) fun k x=>by kernel_rfl

def qcC (k:Nat) (rec:List Int→Int→Int→List ByteArray→List DvT→Int→Int→Int→Int→ByteArray→List Int→Int→Int→Int→Int→List (Int×Int)→List Int→ByteArray→Int→List (Int×Int)→List (Int×Int)→Option ((Bool×List ByteArray×List DvT×Int×Int×Int×Int×ByteArray×List Int×Int×Int×Int×Int×List (Int×Int)×List Int×ByteArray×Int×List (Int×Int)×List (Int×Int)) ⊕ (List ByteArray×List DvT×Int×Int×Int×Int×ByteArray×List Int×Int×Int×Int×Int×List (Int×Int)×List Int×ByteArray×Int×List (Int×Int)×List (Int×Int)))) (x:List Int) (x1:Int) (x2:Int) (f0:List ByteArray) (f1:List DvT) (f2:Int) (f3:Int) (f4:Int) (d0:Int) (d1:ByteArray) (d2:List Int) (d3:Int) (d4:Int) (d5:Int) (d6:Int) (d7:List (Int×Int)) (d8:List Int) (d9:ByteArray) (d10:Int) (d11:List (Int×Int)) (d12:List (Int×Int)):Option ((Bool×List ByteArray×List DvT×Int×Int×Int×Int×ByteArray×List Int×Int×Int×Int×Int×List (Int×Int)×List Int×ByteArray×Int×List (Int×Int)×List (Int×Int)) ⊕ (List ByteArray×List DvT×Int×Int×Int×Int×ByteArray×List Int×Int×Int×Int×Int×List (Int×Int)×List Int×ByteArray×Int×List (Int×Int)×List (Int×Int))):=
 if((decide (x2<x1))=true)then
 if((0:Int)≤x2)then
 Option.bind (x)[(Int.toNat x2)]? fun x4=>
 if((decide (x4<(0:Int)))=false)then
 if((decide (x4≥(((List.length f0):Nat):Int)))=true)then
 (some (Sum.inl (false,f0,f1,f2,f3,f4,d0,d1,d2,d3,d4,d5,d6,d7,d8,d9,d10,d11,d12)))
 else
 rec x x1 (IntKind.wrap .i64 (x2+(1:Int))) f0 f1 f2 f3 f4 d0 d1 d2 d3 d4 d5 d6 d7 d8 d9 d10 d11 d12
 else
 (some (Sum.inl (false,f0,f1,f2,f3,f4,d0,d1,d2,d3,d4,d5,d6,d7,d8,d9,d10,d11,d12)))
 else
 none
 else
 (some (Sum.inr (f0,f1,f2,f3,f4,d0,d1,d2,d3,d4,d5,d6,d7,d8,d9,d10,d11,d12)))
def qbf (k n:Nat):List Int→Int→Int→List ByteArray→List DvT→Int→Int→Int→Int→ByteArray→List Int→Int→Int→Int→Int→List (Int×Int)→List Int→ByteArray→Int→List (Int×Int)→List (Int×Int)→Option ((Bool×List ByteArray×List DvT×Int×Int×Int×Int×ByteArray×List Int×Int×Int×Int×Int×List (Int×Int)×List Int×ByteArray×Int×List (Int×Int)×List (Int×Int)) ⊕ (List ByteArray×List DvT×Int×Int×Int×Int×ByteArray×List Int×Int×Int×Int×Int×List (Int×Int)×List Int×ByteArray×Int×List (Int×Int)×List (Int×Int))):=Nat.rec (fun _ _ _ _ _ _ _ _ _ _ _ _ _ _ _ _ _ _ _ _ _=>none) (fun _ r=>qcC k r) n
def qgV (k:Nat) (f0:List ByteArray) (f1:List DvT) (f2:Int) (f3:Int) (f4:Int) (d0:Int) (d1:ByteArray) (d2:List Int) (d3:Int) (d4:Int) (d5:Int) (d6:Int) (d7:List (Int×Int)) (d8:List Int) (d9:ByteArray) (d10:Int) (d11:List (Int×Int)) (d12:List (Int×Int)):Option (Bool):=
 if(((qhd (.int .u8) (.int .i64) (qao (.int .u8) (.int .i64) (qao (.int .u8) (.int .i64) (qao (.int .u8) (.int .i64) (qao (.int .u8) (.int .i64) (qao (.int .u8) (.int .i64) (qao (.int .u8) (.int .i64) (qao (.int .u8) (.int .i64) (qao (.int .u8) (.int .i64) (qao (.int .u8) (.int .i64) (qao (.int .u8) (.int .i64) (qao (.int .u8) (.int .i64) (qao (.int .u8) (.int .i64) [] (114:Int) (2:Int)) (99:Int) (2:Int)) (108:Int) (2:Int)) (118:Int) (2:Int)) (105:Int) (2:Int)) (101:Int) (4:Int)) (103:Int) (4:Int)) (102:Int) (2:Int)) (104:Int) (2:Int)) (116:Int) (4:Int)) (100:Int) (2:Int)) (115:Int) (4:Int)) d0 (0:Int)) == (0:Int))=false)then
 if(((((List.length d2):Nat):Int) != (qhd (.int .u8) (.int .i64) (qao (.int .u8) (.int .i64) (qao (.int .u8) (.int .i64) (qao (.int .u8) (.int .i64) (qao (.int .u8) (.int .i64) (qao (.int .u8) (.int .i64) (qao (.int .u8) (.int .i64) (qao (.int .u8) (.int .i64) (qao (.int .u8) (.int .i64) (qao (.int .u8) (.int .i64) (qao (.int .u8) (.int .i64) (qao (.int .u8) (.int .i64) (qao (.int .u8) (.int .i64) [] (114:Int) (2:Int)) (99:Int) (2:Int)) (108:Int) (2:Int)) (118:Int) (2:Int)) (105:Int) (2:Int)) (101:Int) (4:Int)) (103:Int) (4:Int)) (102:Int) (2:Int)) (104:Int) (2:Int)) (116:Int) (4:Int)) (100:Int) (2:Int)) (115:Int) (4:Int)) d0 (0:Int)))=false)then
 Option.bind (qfk k d1) fun r4=>
 if((!r4)=true)then
 (some false)
 else
 Option.bind (qbf k k d2 (((List.length d2):Nat):Int) (0:Int) f0 f1 f2 f3 f4 d0 d1 d2 d3 d4 d5 d6 d7 d8 d9 d10 d11 d12) fun r5=>
 qc r5
 (fun r5=>
 (some r5.1))
 (fun r5=>
 if((r5.2.2.2.2.2.1 == (118:Int))=true)then
 Option.bind (qeB k r5.2.2.2.2.2.2.2.2.2.2.2.1 r5.2.2.2.2.2.2.2.2.2.2.2.2.1 r5.2.2.2.2.2.2.2.2.2.2.2.2.2.1) fun r6=>
 if(r6=true)then
 if((r5.2.2.2.2.2.2.2.2.2.1 == (0:Int))=true)then
 if((r5.2.2.2.2.2.2.2.2.2.2.1 == (0:Int))=true)then
 Option.bind (qG k r5.2.2.2.2.2.2.2.2.2.2.2.2.2.2.1 r5.2.2.2.2.2.2.2.2.2.2.2.2.2.2.2.1 r5.2.2.2.2.2.2.2.2.2.2.2.2.2.2.2.2.1 r5.2.2.2.2.2.2.2.2.2.2.2.2.2.2.2.2.2) fun r7=>
 if(r7=true)then
 (some (r5.2.2.2.2.2.2.2.2.1 == (0:Int)))
 else
 (some false)
 else
 (some false)
 else
 (some false)
 else
 (some false)
 else
 if((r5.2.2.2.2.2.1 == (105:Int))=true)then
 Option.bind (qeB k r5.2.2.2.2.2.2.2.2.2.2.2.1 r5.2.2.2.2.2.2.2.2.2.2.2.2.1 r5.2.2.2.2.2.2.2.2.2.2.2.2.2.1) fun r6=>
 if(r6=true)then
 if((r5.2.2.2.2.2.2.2.2.2.1 == (0:Int))=true)then
 if((r5.2.2.2.2.2.2.2.2.2.2.1 == (0:Int))=true)then
 Option.bind (qG k r5.2.2.2.2.2.2.2.2.2.2.2.2.2.2.1 r5.2.2.2.2.2.2.2.2.2.2.2.2.2.2.2.1 r5.2.2.2.2.2.2.2.2.2.2.2.2.2.2.2.2.1 r5.2.2.2.2.2.2.2.2.2.2.2.2.2.2.2.2.2) fun r7=>
 if(r7=true)then
 (some (r5.2.2.2.2.2.2.2.2.1 == (0:Int)))
 else
 (some false)
 else
 (some false)
 else
 (some false)
 else
 (some false)
 else
 if((r5.2.2.2.2.2.1 == (100:Int))=true)then
 Option.bind (qK k r5.2.2.2.2.2.2.2.2.2.2.2.1 r5.2.2.2.2.2.2.2.2.2.2.2.2.1 r5.2.2.2.2.2.2.2.2.2.2.2.2.2.1) fun r6=>
 if(r6=true)then
 if((r5.2.2.2.2.2.2.2.2.2.1 == (0:Int))=true)then
 if((r5.2.2.2.2.2.2.2.2.2.2.1 == (0:Int))=true)then
 Option.bind (qdw k r5.2.2.2.2.2.2.2.2.2.2.2.2.2.2.1 r5.2.2.2.2.2.2.2.2.2.2.2.2.2.2.2.1 r5.2.2.2.2.2.2.2.2.2.2.2.2.2.2.2.2.1 r5.2.2.2.2.2.2.2.2.2.2.2.2.2.2.2.2.2) fun r7=>
 if(r7=true)then
 if((r5.2.2.2.2.2.2.2.2.2.2.2.2.2.2.2.1 == r5.2.2.2.2.2.1)=true)then
 (some (r5.2.2.2.2.2.2.2.2.1 == (0:Int)))
 else
 (some false)
 else
 (some false)
 else
 (some false)
 else
 (some false)
 else
 (some false)
 else
 if((r5.2.2.2.2.2.1 == (115:Int))=true)then
 Option.bind (qK k r5.2.2.2.2.2.2.2.2.2.2.2.1 r5.2.2.2.2.2.2.2.2.2.2.2.2.1 r5.2.2.2.2.2.2.2.2.2.2.2.2.2.1) fun r6=>
 if(r6=true)then
 if((r5.2.2.2.2.2.2.2.2.2.1 == (0:Int))=true)then
 if((r5.2.2.2.2.2.2.2.2.2.2.1 == (0:Int))=true)then
 Option.bind (qdw k r5.2.2.2.2.2.2.2.2.2.2.2.2.2.2.1 r5.2.2.2.2.2.2.2.2.2.2.2.2.2.2.2.1 r5.2.2.2.2.2.2.2.2.2.2.2.2.2.2.2.2.1 r5.2.2.2.2.2.2.2.2.2.2.2.2.2.2.2.2.2) fun r7=>
 if(r7=true)then
 if((r5.2.2.2.2.2.2.2.2.2.2.2.2.2.2.2.1 == r5.2.2.2.2.2.1)=true)then
 (some (r5.2.2.2.2.2.2.2.2.1 == (0:Int)))
 else
 (some false)
 else
 (some false)
 else
 (some false)
 else
 (some false)
 else
 (some false)
 else
 if((r5.2.2.2.2.2.1 == (102:Int))=true)then
 if((decide (r5.2.2.2.2.2.2.2.2.1<(0:Int)))=false)then
 if((decide (r5.2.2.2.2.2.2.2.2.1≥(((List.length r5.2.1):Nat):Int)))=false)then
 if((0:Int)≤r5.2.2.2.2.2.2.2.2.1)then
 Option.bind (r5.2.1)[(Int.toNat r5.2.2.2.2.2.2.2.2.1)]? fun x4=>
 if((x4.1 != (118:Int))=true)then
 (some false)
 else
 if((r5.2.2.2.2.2.1 == (114:Int))=false)then
 if((r5.2.2.2.2.2.1 == (99:Int))=false)then
 Option.bind (qZ k r5.2.2.2.2.2.2.2.2.2.1 r5.2.2.2.2.2.2.2.2.2.2.1) fun r6=>
 if(r6=true)then
 if((r5.2.2.2.2.2.2.2.2.2.1 != (0:Int))=false)then
 if((!(r5.2.2.2.2.2.1 == (108:Int)))=true)then
 Option.bind (qK k r5.2.2.2.2.2.2.2.2.2.2.2.1 r5.2.2.2.2.2.2.2.2.2.2.2.2.1 r5.2.2.2.2.2.2.2.2.2.2.2.2.2.1) fun r7=>
 if(r7=true)then
 Option.bind (qG k r5.2.2.2.2.2.2.2.2.2.2.2.2.2.2.1 r5.2.2.2.2.2.2.2.2.2.2.2.2.2.2.2.1 r5.2.2.2.2.2.2.2.2.2.2.2.2.2.2.2.2.1 r5.2.2.2.2.2.2.2.2.2.2.2.2.2.2.2.2.2) fun r8=>
 (some r8)
 else
 (some false)
 else
 (some false)
 else
 Option.bind (qK k r5.2.2.2.2.2.2.2.2.2.2.2.1 r5.2.2.2.2.2.2.2.2.2.2.2.2.1 r5.2.2.2.2.2.2.2.2.2.2.2.2.2.1) fun r7=>
 if(r7=true)then
 Option.bind (qG k r5.2.2.2.2.2.2.2.2.2.2.2.2.2.2.1 r5.2.2.2.2.2.2.2.2.2.2.2.2.2.2.2.1 r5.2.2.2.2.2.2.2.2.2.2.2.2.2.2.2.2.1 r5.2.2.2.2.2.2.2.2.2.2.2.2.2.2.2.2.2) fun r8=>
 (some r8)
 else
 (some false)
 else
 (some false)
 else
 Option.bind (qZ k r5.2.2.2.2.2.2.2.2.2.1 r5.2.2.2.2.2.2.2.2.2.2.1) fun r6=>
 if(r6=true)then
 if((r5.2.2.2.2.2.2.2.2.2.1 != (0:Int))=false)then
 (some false)
 else
 Option.bind (qK k r5.2.2.2.2.2.2.2.2.2.2.2.1 r5.2.2.2.2.2.2.2.2.2.2.2.2.1 r5.2.2.2.2.2.2.2.2.2.2.2.2.2.1) fun r7=>
 if(r7=true)then
 Option.bind (qG k r5.2.2.2.2.2.2.2.2.2.2.2.2.2.2.1 r5.2.2.2.2.2.2.2.2.2.2.2.2.2.2.2.1 r5.2.2.2.2.2.2.2.2.2.2.2.2.2.2.2.2.1 r5.2.2.2.2.2.2.2.2.2.2.2.2.2.2.2.2.2) fun r8=>
 (some r8)
 else
 (some false)
 else
 (some false)
 else
 Option.bind (qZ k r5.2.2.2.2.2.2.2.2.2.1 r5.2.2.2.2.2.2.2.2.2.2.1) fun r6=>
 if(r6=true)then
 if((r5.2.2.2.2.2.2.2.2.2.1 != (0:Int))=false)then
 (some false)
 else
 Option.bind (qK k r5.2.2.2.2.2.2.2.2.2.2.2.1 r5.2.2.2.2.2.2.2.2.2.2.2.2.1 r5.2.2.2.2.2.2.2.2.2.2.2.2.2.1) fun r7=>
 if(r7=true)then
 Option.bind (qG k r5.2.2.2.2.2.2.2.2.2.2.2.2.2.2.1 r5.2.2.2.2.2.2.2.2.2.2.2.2.2.2.2.1 r5.2.2.2.2.2.2.2.2.2.2.2.2.2.2.2.2.1 r5.2.2.2.2.2.2.2.2.2.2.2.2.2.2.2.2.2) fun r8=>
 (some r8)
 else
 (some false)
 else
 (some false)
 else
 none
 else
 (some false)
 else
 (some false)
 else
 if((r5.2.2.2.2.2.1 == (104:Int))=true)then
 if((decide (r5.2.2.2.2.2.2.2.2.1<(0:Int)))=false)then
 if((decide (r5.2.2.2.2.2.2.2.2.1≥(((List.length r5.2.1):Nat):Int)))=false)then
 if((0:Int)≤r5.2.2.2.2.2.2.2.2.1)then
 Option.bind (r5.2.1)[(Int.toNat r5.2.2.2.2.2.2.2.2.1)]? fun x4=>
 if((x4.1 != (118:Int))=true)then
 (some false)
 else
 if((r5.2.2.2.2.2.1 == (114:Int))=false)then
 if((r5.2.2.2.2.2.1 == (99:Int))=false)then
 Option.bind (qZ k r5.2.2.2.2.2.2.2.2.2.1 r5.2.2.2.2.2.2.2.2.2.2.1) fun r6=>
 if(r6=true)then
 if((r5.2.2.2.2.2.2.2.2.2.1 != (0:Int))=false)then
 if((!(r5.2.2.2.2.2.1 == (108:Int)))=true)then
 Option.bind (qK k r5.2.2.2.2.2.2.2.2.2.2.2.1 r5.2.2.2.2.2.2.2.2.2.2.2.2.1 r5.2.2.2.2.2.2.2.2.2.2.2.2.2.1) fun r7=>
 if(r7=true)then
 Option.bind (qG k r5.2.2.2.2.2.2.2.2.2.2.2.2.2.2.1 r5.2.2.2.2.2.2.2.2.2.2.2.2.2.2.2.1 r5.2.2.2.2.2.2.2.2.2.2.2.2.2.2.2.2.1 r5.2.2.2.2.2.2.2.2.2.2.2.2.2.2.2.2.2) fun r8=>
 (some r8)
 else
 (some false)
 else
 (some false)
 else
 Option.bind (qK k r5.2.2.2.2.2.2.2.2.2.2.2.1 r5.2.2.2.2.2.2.2.2.2.2.2.2.1 r5.2.2.2.2.2.2.2.2.2.2.2.2.2.1) fun r7=>
 if(r7=true)then
 Option.bind (qG k r5.2.2.2.2.2.2.2.2.2.2.2.2.2.2.1 r5.2.2.2.2.2.2.2.2.2.2.2.2.2.2.2.1 r5.2.2.2.2.2.2.2.2.2.2.2.2.2.2.2.2.1 r5.2.2.2.2.2.2.2.2.2.2.2.2.2.2.2.2.2) fun r8=>
 (some r8)
 else
 (some false)
 else
 (some false)
 else
 Option.bind (qZ k r5.2.2.2.2.2.2.2.2.2.1 r5.2.2.2.2.2.2.2.2.2.2.1) fun r6=>
 if(r6=true)then
 if((r5.2.2.2.2.2.2.2.2.2.1 != (0:Int))=false)then
 (some false)
 else
 Option.bind (qK k r5.2.2.2.2.2.2.2.2.2.2.2.1 r5.2.2.2.2.2.2.2.2.2.2.2.2.1 r5.2.2.2.2.2.2.2.2.2.2.2.2.2.1) fun r7=>
 if(r7=true)then
 Option.bind (qG k r5.2.2.2.2.2.2.2.2.2.2.2.2.2.2.1 r5.2.2.2.2.2.2.2.2.2.2.2.2.2.2.2.1 r5.2.2.2.2.2.2.2.2.2.2.2.2.2.2.2.2.1 r5.2.2.2.2.2.2.2.2.2.2.2.2.2.2.2.2.2) fun r8=>
 (some r8)
 else
 (some false)
 else
 (some false)
 else
 Option.bind (qZ k r5.2.2.2.2.2.2.2.2.2.1 r5.2.2.2.2.2.2.2.2.2.2.1) fun r6=>
 if(r6=true)then
 if((r5.2.2.2.2.2.2.2.2.2.1 != (0:Int))=false)then
 (some false)
 else
 Option.bind (qK k r5.2.2.2.2.2.2.2.2.2.2.2.1 r5.2.2.2.2.2.2.2.2.2.2.2.2.1 r5.2.2.2.2.2.2.2.2.2.2.2.2.2.1) fun r7=>
 if(r7=true)then
 Option.bind (qG k r5.2.2.2.2.2.2.2.2.2.2.2.2.2.2.1 r5.2.2.2.2.2.2.2.2.2.2.2.2.2.2.2.1 r5.2.2.2.2.2.2.2.2.2.2.2.2.2.2.2.2.1 r5.2.2.2.2.2.2.2.2.2.2.2.2.2.2.2.2.2) fun r8=>
 (some r8)
 else
 (some false)
 else
 (some false)
 else
 none
 else
 (some false)
 else
 (some false)
 else
 if((r5.2.2.2.2.2.2.2.2.1 != (0:Int))=true)then
 (some false)
 else
 if((r5.2.2.2.2.2.1 == (114:Int))=false)then
 if((r5.2.2.2.2.2.1 == (99:Int))=false)then
 Option.bind (qZ k r5.2.2.2.2.2.2.2.2.2.1 r5.2.2.2.2.2.2.2.2.2.2.1) fun r6=>
 if(r6=true)then
 if((r5.2.2.2.2.2.2.2.2.2.1 != (0:Int))=false)then
 if((!(r5.2.2.2.2.2.1 == (108:Int)))=true)then
 Option.bind (qK k r5.2.2.2.2.2.2.2.2.2.2.2.1 r5.2.2.2.2.2.2.2.2.2.2.2.2.1 r5.2.2.2.2.2.2.2.2.2.2.2.2.2.1) fun r7=>
 if(r7=true)then
 Option.bind (qG k r5.2.2.2.2.2.2.2.2.2.2.2.2.2.2.1 r5.2.2.2.2.2.2.2.2.2.2.2.2.2.2.2.1 r5.2.2.2.2.2.2.2.2.2.2.2.2.2.2.2.2.1 r5.2.2.2.2.2.2.2.2.2.2.2.2.2.2.2.2.2) fun r8=>
 (some r8)
 else
 (some false)
 else
 (some false)
 else
 Option.bind (qK k r5.2.2.2.2.2.2.2.2.2.2.2.1 r5.2.2.2.2.2.2.2.2.2.2.2.2.1 r5.2.2.2.2.2.2.2.2.2.2.2.2.2.1) fun r7=>
 if(r7=true)then
 Option.bind (qG k r5.2.2.2.2.2.2.2.2.2.2.2.2.2.2.1 r5.2.2.2.2.2.2.2.2.2.2.2.2.2.2.2.1 r5.2.2.2.2.2.2.2.2.2.2.2.2.2.2.2.2.1 r5.2.2.2.2.2.2.2.2.2.2.2.2.2.2.2.2.2) fun r8=>
 (some r8)
 else
 (some false)
 else
 (some false)
 else
 Option.bind (qZ k r5.2.2.2.2.2.2.2.2.2.1 r5.2.2.2.2.2.2.2.2.2.2.1) fun r6=>
 if(r6=true)then
 if((r5.2.2.2.2.2.2.2.2.2.1 != (0:Int))=false)then
 (some false)
 else
 Option.bind (qK k r5.2.2.2.2.2.2.2.2.2.2.2.1 r5.2.2.2.2.2.2.2.2.2.2.2.2.1 r5.2.2.2.2.2.2.2.2.2.2.2.2.2.1) fun r7=>
 if(r7=true)then
 Option.bind (qG k r5.2.2.2.2.2.2.2.2.2.2.2.2.2.2.1 r5.2.2.2.2.2.2.2.2.2.2.2.2.2.2.2.1 r5.2.2.2.2.2.2.2.2.2.2.2.2.2.2.2.2.1 r5.2.2.2.2.2.2.2.2.2.2.2.2.2.2.2.2.2) fun r8=>
 (some r8)
 else
 (some false)
 else
 (some false)
 else
 Option.bind (qZ k r5.2.2.2.2.2.2.2.2.2.1 r5.2.2.2.2.2.2.2.2.2.2.1) fun r6=>
 if(r6=true)then
 if((r5.2.2.2.2.2.2.2.2.2.1 != (0:Int))=false)then
 (some false)
 else
 Option.bind (qK k r5.2.2.2.2.2.2.2.2.2.2.2.1 r5.2.2.2.2.2.2.2.2.2.2.2.2.1 r5.2.2.2.2.2.2.2.2.2.2.2.2.2.1) fun r7=>
 if(r7=true)then
 Option.bind (qG k r5.2.2.2.2.2.2.2.2.2.2.2.2.2.2.1 r5.2.2.2.2.2.2.2.2.2.2.2.2.2.2.2.1 r5.2.2.2.2.2.2.2.2.2.2.2.2.2.2.2.2.1 r5.2.2.2.2.2.2.2.2.2.2.2.2.2.2.2.2.2) fun r8=>
 (some r8)
 else
 (some false)
 else
 (some false))
 else
 (some false)
 else
 (some false)
def qfO:Nat→List ByteArray→List DvT→Int→Int→Int→Int→ByteArray→List Int→Int→Int→Int→Int→List (Int×Int)→List Int→ByteArray→Int→List (Int×Int)→List (Int×Int)→Option (Bool)
 | 0,_,_,_,_,_,_,_,_,_,_,_,_,_,_,_,_,_,_=>none
 | k+1,f0,f1,f2,f3,f4,d0,d1,d2,d3,d4,d5,d6,d7,d8,d9,d10,d11,d12=>qgV k f0 f1 f2 f3 f4 d0 d1 d2 d3 d4 d5 d6 d7 d8 d9 d10 d11 d12
def qxh:Nat→Inst:=mkI 185 ⟨[.g [.lf (.sl .str),.lf (.sl qN),.lf (.int .i64),.lf (.int .i64),.lf (.int .i64)],.g [.lf (.int .u8),.lf .str,.lf (.sl (.int .i64)),.lf (.int .i64),.lf (.int .i64),.lf (.int .i64),.lf (.int .i64),.lf cE,.lf (.sl (.int .i64)),.lf .str,.lf (.int .u8),.lf cE,.lf cE]],[]⟩ [⟨[vB],[]⟩] fun k x=>qfO k x.1 x.2.1 x.2.2.1 x.2.2.2.1 x.2.2.2.2.1 x.2.2.2.2.2.1 x.2.2.2.2.2.2.1 x.2.2.2.2.2.2.2.1 x.2.2.2.2.2.2.2.2.1 x.2.2.2.2.2.2.2.2.2.1 x.2.2.2.2.2.2.2.2.2.2.1 x.2.2.2.2.2.2.2.2.2.2.2.1 x.2.2.2.2.2.2.2.2.2.2.2.2.1 x.2.2.2.2.2.2.2.2.2.2.2.2.2.1 x.2.2.2.2.2.2.2.2.2.2.2.2.2.2.1 x.2.2.2.2.2.2.2.2.2.2.2.2.2.2.2.1 x.2.2.2.2.2.2.2.2.2.2.2.2.2.2.2.2.1 x.2.2.2.2.2.2.2.2.2.2.2.2.2.2.2.2.2
theorem qt0 (k:Nat):qas (call cf k) [qs3 k,qtV k,qwF k,qwG k,qxc k,qnD k]:=
 ac (qtU k) (ac (qwE k) (ac (qz1 k) (ac (qz2 k) (ac (qtZ k) (ac (qk7 k) a0)))))
def qxi (k:Nat):LInst:=mkL 0 [⟨[(2,.a (.ptr 0 0 0)),(3,.a (.ptr 1 0 0)),(30,vJ),(31,vI),(32,vI)],[(0,some (.raw [[.lf (.sl .str),.lf (.sl qN),.lf (.int .i64),.lf (.int .i64),.lf (.int .i64)]] 5 27 true false false)),(1,some (.raw [[.lf (.int .u8),.lf .str,.lf (.sl (.int .i64)),.lf (.int .i64),.lf (.int .i64),.lf (.int .i64),.lf (.int .i64),.lf cE,.lf (.sl (.int .i64)),.lf .str,.lf (.int .u8),.lf cE,.lf cE]] 13 48 true false false))],2⟩] [⟨none,⟨[(4,vB)],[(0,some (.raw [[.lf (.sl .str),.lf (.sl qN),.lf (.int .i64),.lf (.int .i64),.lf (.int .i64)]] 5 27 true false false)),(1,some (.raw [[.lf (.int .u8),.lf .str,.lf (.sl (.int .i64)),.lf (.int .i64),.lf (.int .i64),.lf (.int .i64),.lf (.int .i64),.lf cE,.lf (.sl (.int .i64)),.lf .str,.lf (.int .u8),.lf cE,.lf cE]] 13 48 true false false))],2⟩⟩,⟨some 0,⟨[(2,.a (.ptr 0 0 0)),(3,.a (.ptr 1 0 0))],[(0,some (.raw [[.lf (.sl .str),.lf (.sl qN),.lf (.int .i64),.lf (.int .i64),.lf (.int .i64)]] 5 27 true false false)),(1,some (.raw [[.lf (.int .u8),.lf .str,.lf (.sl (.int .i64)),.lf (.int .i64),.lf (.int .i64),.lf (.int .i64),.lf (.int .i64),.lf cE,.lf (.sl (.int .i64)),.lf .str,.lf (.int .u8),.lf cE,.lf cE]] 13 48 true false false))],2⟩⟩] (fun n x=>qbf k n x.1 x.2.1 x.2.2.1 x.2.2.2.1 x.2.2.2.2.1 x.2.2.2.2.2.1 x.2.2.2.2.2.2.1 x.2.2.2.2.2.2.2.1 x.2.2.2.2.2.2.2.2.1 x.2.2.2.2.2.2.2.2.2.1 x.2.2.2.2.2.2.2.2.2.2.1 x.2.2.2.2.2.2.2.2.2.2.2.1 x.2.2.2.2.2.2.2.2.2.2.2.2.1 x.2.2.2.2.2.2.2.2.2.2.2.2.2.1 x.2.2.2.2.2.2.2.2.2.2.2.2.2.2.1 x.2.2.2.2.2.2.2.2.2.2.2.2.2.2.2.1 x.2.2.2.2.2.2.2.2.2.2.2.2.2.2.2.2.1 x.2.2.2.2.2.2.2.2.2.2.2.2.2.2.2.2.2.1 x.2.2.2.2.2.2.2.2.2.2.2.2.2.2.2.2.2.2.1 x.2.2.2.2.2.2.2.2.2.2.2.2.2.2.2.2.2.2.2.1 x.2.2.2.2.2.2.2.2.2.2.2.2.2.2.2.2.2.2.2.2) k
theorem qxj (k:Nat):LIo 185 Tryz.f185 0 k (qxi k):=
 lpk [] (qt0 k) l0 (fun _=>rfl) (by kernel_rfl) fun n x=>by kernel_rfl
theorem qAe:∀k,qe (call cf k) (qxh k):=
 fnk 0 [0] Tryz.func185 (fun k=>(qt0 k)) (fun k=>(lc (qxj k) l0)) ⟨rfl,rfl,⟨rfl,Nat.le_of_ble_eq_true rfl⟩,rfl⟩ (fun _=>rfl) (by kernel_rfl) fun k x=>by kernel_rfl

def qe4 (k:Nat) (s:ByteArray) (c:Int):Option (Int):=
 (some (qeI s c))
def qce:Nat→ByteArray→Int→Option (Int)
 | 0,_,_=>none
 | k+1,s,c=>qe4 k s c
def qjs:FS:=⟨[vS,.a (.lf (.int .u8))],[]⟩
def qld:List FS:= [⟨[vI],[]⟩]
def qt1 (k:Nat):Inst:=⟨59,qjs,qld,fun x=>qce k x.1 x.2⟩
theorem qxk (k:Nat) (x:qjs.D):qce (k+1) x.1 x.2=(qhn) (DS FS.D qld) (qjs.enc x).1 (qjs.enc x).2 (qgI FS.dec qld):=by kernel_rfl
theorem qxl:∀k,qe (call cf k) (qt1 k)
 | 0=>fun x y e=>absurd (show(none:Option _)=some y from e) (by simp)
 | k+1=>qkp (c:=cf) (k:=k) (f:=59) (g:=qfj) (G:=qhn) (sh:=qjs) (os:=qld) rfl (qmn) (fun x=>qce (k+1) x.1 x.2) (qxk k)

def qeb (k:Nat) (rec:Int→Nat→List DvT→Int→Int→List Int→Option (Int×Nat×List Int)) (n:Int) (branch:Nat) (x:List DvT) (x1:Int) (x2:Int) (branchs:List Int):Option (Int×Nat×List Int):=
 if((decide (x2<x1))=true)then
 if((0:Int)≤x2)then
 Option.bind (x)[(Int.toNat x2)]? fun x3=>
 Option.bind (qce k (ByteArray.mk (List.toArray (118::(101::(104::(99::(108::(116:: [])))))))) x3.1) fun r6=>
 if((decide (r6≥(0:Int)))=true)then
 if(branch≤(List.length branchs))then
 if(((branch+(List.length (List.take 1 (n:: []))))*8)≤140737488355328)then
 rec (IntKind.wrap .i64 (n+(1:Int))) (branch+(List.length (List.take 1 (n:: [])))) x x1 (IntKind.wrap .i64 (x2+(1:Int))) ((List.take branch branchs)++(List.take 1 (n:: [])))
 else
 none
 else
 none
 else
 if(branch≤(List.length branchs))then
 if(((branch+1)*8)≤140737488355328)then
 rec n (branch+1) x x1 (IntKind.wrap .i64 (x2+(1:Int))) ((List.take branch branchs)++(List.take 1 ((-(1:Int)):: [])))
 else
 none
 else
 none
 else
 none
 else
 (some (n,branch,branchs))
def qda (k n:Nat):Int→Nat→List DvT→Int→Int→List Int→Option (Int×Nat×List Int):=Nat.rec (fun _ _ _ _ _ _=>none) (fun _ r=>qeb k r) n
def qic (k:Nat) (f0:List ByteArray) (f1:List DvT) (f2:Int) (f3:Int) (f4:Int):Option (Int×List Int):=
 Option.bind (qda k k (IntKind.wrap .i64 ((((List.length f0):Nat):Int)-(1:Int))) 0 f1 (((List.length f1):Nat):Int) (0:Int) []) fun r6=>
 if((0+r6.2.1)≤(List.length r6.2.2))then
 (some (r6.1,(List.take r6.2.1 r6.2.2)))
 else
 none
def qcR:Nat→List ByteArray→List DvT→Int→Int→Int→Option (Int×List Int)
 | 0,_,_,_,_,_=>none
 | k+1,f0,f1,f2,f3,f4=>qic k f0 f1 f2 f3 f4
def qxm:Nat→Inst:=mkI 186 ⟨[.g [.lf (.sl .str),.lf (.sl qN),.lf (.int .i64),.lf (.int .i64),.lf (.int .i64)]],[]⟩ [⟨[vI,vJ],[]⟩] fun k x=>qcR k x.1 x.2.1 x.2.2.1 x.2.2.2.1 x.2.2.2.2
theorem qt2 (k:Nat):qas (call cf k) [qt1 k]:=
 ac (qxl k) a0
def qxn (k:Nat):LInst:=mkL 0 [⟨[(4,vI),(5,.a (.smz 0)),(14,.a (.lf (.sl qN))),(15,vI),(16,vI)],[(0,some (.arr (.int .i64) 1 3 false))],1⟩] [⟨some 0,⟨[(4,vI),(5,.a (.smz 0))],[(0,some (.arr (.int .i64) 1 3 false))],1⟩⟩] (fun n x=>qda k n x.1 x.2.1 x.2.2.1 x.2.2.2.1 x.2.2.2.2.1 x.2.2.2.2.2) k
theorem qxo (k:Nat):LIo 186 Tryz.f186 0 k (qxn k):=
 lpk [] (qt2 k) l0 (fun _=>rfl) (by kernel_rfl) fun n x=>by kernel_rfl
theorem qt3:∀k,qe (call cf k) (qxm k):=
 fnk 0 [0] Tryz.func186 (fun k=>(qt2 k)) (fun k=>(lc (qxo k) l0)) ⟨rfl,rfl,⟨rfl,Nat.le_of_ble_eq_true rfl⟩,rfl⟩ (fun _=>rfl) (by kernel_rfl) fun k x=>by kernel_rfl

def qcD (k:Nat) (rec:List ByteArray→Int→Int→List ByteArray→List DvT→Int→Int→Int→Option ((Int×List ByteArray×List DvT×Int×Int×Int) ⊕ (List ByteArray×List DvT×Int×Int×Int))) (x:List ByteArray) (x1:Int) (x2:Int) (f0:List ByteArray) (f1:List DvT) (f2:Int) (f3:Int) (f4:Int):Option ((Int×List ByteArray×List DvT×Int×Int×Int) ⊕ (List ByteArray×List DvT×Int×Int×Int)):=
 if((decide (x2<x1))=true)then
 if((0:Int)≤x2)then
 Option.bind (x)[(Int.toNat x2)]? fun x3=>
 Option.bind (qfk k x3) fun r3=>
 if((!r3)=true)then
 (some (Sum.inl ((90:Int),f0,f1,f2,f3,f4)))
 else
 rec x x1 (IntKind.wrap .i64 (x2+(1:Int))) f0 f1 f2 f3 f4
 else
 none
 else
 (some (Sum.inr (f0,f1,f2,f3,f4)))
def qaH (k n:Nat):List ByteArray→Int→Int→List ByteArray→List DvT→Int→Int→Int→Option ((Int×List ByteArray×List DvT×Int×Int×Int) ⊕ (List ByteArray×List DvT×Int×Int×Int)):=Nat.rec (fun _ _ _ _ _ _ _ _=>none) (fun _ r=>qcD k r) n
def qcE (k:Nat) (rec:Nat→List DvT→Int→Int→List ByteArray→List DvT→Int→Int→Int→List ByteArray→Option ((Int×List ByteArray×List DvT×Int×Int×Int×List ByteArray×Int×ByteArray×List Int×Int×Int×Int×Int×List (Int×Int)×List Int×ByteArray×Int×List (Int×Int)×List (Int×Int)) ⊕ (Nat×List ByteArray×List DvT×Int×Int×Int×List ByteArray))) (qbz:Nat) (x:List DvT) (x1:Int) (x2:Int) (f0:List ByteArray) (f1:List DvT) (f2:Int) (f3:Int) (f4:Int) (namess:List ByteArray):Option ((Int×List ByteArray×List DvT×Int×Int×Int×List ByteArray×Int×ByteArray×List Int×Int×Int×Int×Int×List (Int×Int)×List Int×ByteArray×Int×List (Int×Int)×List (Int×Int)) ⊕ (Nat×List ByteArray×List DvT×Int×Int×Int×List ByteArray)):=
 if((decide (x2<x1))=true)then
 if((0:Int)≤x2)then
 Option.bind (x)[(Int.toNat x2)]? fun x3=>
 Option.bind (qfO k f0 f1 f2 f3 f4 x3.1 x3.2.1 x3.2.2.1 x3.2.2.2.1 x3.2.2.2.2.1.1 x3.2.2.2.2.1.2 x3.2.2.2.2.2.1.1 x3.2.2.2.2.2.1.2.1 x3.2.2.2.2.2.1.2.2 x3.2.2.2.2.2.2.1 x3.2.2.2.2.2.2.2.1 x3.2.2.2.2.2.2.2.2.1 x3.2.2.2.2.2.2.2.2.2) fun r4=>
 if((!r4)=true)then
 (some (Sum.inl ((90:Int),f0,f1,f2,f3,f4,namess,x3.1,x3.2.1,x3.2.2.1,x3.2.2.2.1,x3.2.2.2.2.1.1,x3.2.2.2.2.1.2,x3.2.2.2.2.2.1.1,x3.2.2.2.2.2.1.2.1,x3.2.2.2.2.2.1.2.2,x3.2.2.2.2.2.2.1,x3.2.2.2.2.2.2.2.1,x3.2.2.2.2.2.2.2.2.1,x3.2.2.2.2.2.2.2.2.2)))
 else
 if(qbz≤(List.length namess))then
 if(((qbz+(List.length (List.take 1 (x3.2.1:: []))))*16)≤140737488355328)then
 rec (qbz+(List.length (List.take 1 (x3.2.1:: [])))) x x1 (IntKind.wrap .i64 (x2+(1:Int))) f0 f1 f2 f3 f4 ((List.take qbz namess)++(List.take 1 (x3.2.1:: [])))
 else
 none
 else
 none
 else
 none
 else
 (some (Sum.inr (qbz,f0,f1,f2,f3,f4,namess)))
def qar (k n:Nat):Nat→List DvT→Int→Int→List ByteArray→List DvT→Int→Int→Int→List ByteArray→Option ((Int×List ByteArray×List DvT×Int×Int×Int×List ByteArray×Int×ByteArray×List Int×Int×Int×Int×Int×List (Int×Int)×List Int×ByteArray×Int×List (Int×Int)×List (Int×Int)) ⊕ (Nat×List ByteArray×List DvT×Int×Int×Int×List ByteArray)):=Nat.rec (fun _ _ _ _ _ _ _ _ _ _=>none) (fun _ r=>qcE k r) n
def qgW (k:Nat) (f0:List ByteArray) (f1:List DvT) (f2:Int) (f3:Int) (f4:Int):Option (Int):=
 Option.bind (qZ k f2 f3) fun r1=>
 if((!r1)=false)then
 if((decide (f2≤(0:Int)))=false)then
 if((f4 != (1:Int))=true)then
 if((f4 != (2:Int))=true)then
 (some (90:Int))
 else
 if((decide ((((List.length f0):Nat):Int)<(1:Int)))=false)then
 if((decide ((((List.length f0):Nat):Int)>(32:Int)))=false)then
 Option.bind (f0)[0]? fun x=>
 if((!((Array.toList (ByteArray.data x)) == (Array.toList (ByteArray.data (ByteArray.mk (List.toArray (48:: [])))))))=false)then
 if((decide ((((List.length f1):Nat):Int)>(64:Int)))=false)then
 Option.bind (qb4 k f0) fun r2=>
 if(r2=true)then
 (some (90:Int))
 else
 Option.bind (qaH k k f0 (((List.length f0):Nat):Int) (0:Int) f0 f1 f2 f3 f4) fun r3=>
 qc r3
 (fun r3=>
 (some r3.1))
 (fun r3=>
 Option.bind (qar k k 0 r3.2.1 (((List.length r3.2.1):Nat):Int) (0:Int) r3.1 r3.2.1 r3.2.2.1 r3.2.2.2.1 r3.2.2.2.2 []) fun r4=>
 qc r4
 (fun r4=>
 (some r4.1))
 (fun r4=>
 if((0+r4.1)≤(List.length r4.2.2.2.2.2.2))then
 Option.bind (qb4 k (List.take r4.1 r4.2.2.2.2.2.2)) fun r5=>
 if(r5=true)then
 (some (90:Int))
 else
 Option.bind (qcR k r4.2.1 r4.2.2.1 r4.2.2.2.1 r4.2.2.2.2.1 r4.2.2.2.2.2.1) fun r6=>
 if((decide (r6.1>(48:Int)))=true)then
 (some (5:Int))
 else
 (some (0:Int))
 else
 none))
 else
 (some (90:Int))
 else
 (some (90:Int))
 else
 (some (90:Int))
 else
 (some (90:Int))
 else
 if((decide ((((List.length f0):Nat):Int)<(1:Int)))=false)then
 if((decide ((((List.length f0):Nat):Int)>(32:Int)))=false)then
 Option.bind (f0)[0]? fun x=>
 if((!((Array.toList (ByteArray.data x)) == (Array.toList (ByteArray.data (ByteArray.mk (List.toArray (48:: [])))))))=false)then
 if((decide ((((List.length f1):Nat):Int)>(64:Int)))=false)then
 Option.bind (qb4 k f0) fun r2=>
 if(r2=true)then
 (some (90:Int))
 else
 Option.bind (qaH k k f0 (((List.length f0):Nat):Int) (0:Int) f0 f1 f2 f3 f4) fun r3=>
 qc r3
 (fun r3=>
 (some r3.1))
 (fun r3=>
 Option.bind (qar k k 0 r3.2.1 (((List.length r3.2.1):Nat):Int) (0:Int) r3.1 r3.2.1 r3.2.2.1 r3.2.2.2.1 r3.2.2.2.2 []) fun r4=>
 qc r4
 (fun r4=>
 (some r4.1))
 (fun r4=>
 if((0+r4.1)≤(List.length r4.2.2.2.2.2.2))then
 Option.bind (qb4 k (List.take r4.1 r4.2.2.2.2.2.2)) fun r5=>
 if(r5=true)then
 (some (90:Int))
 else
 Option.bind (qcR k r4.2.1 r4.2.2.1 r4.2.2.2.1 r4.2.2.2.2.1 r4.2.2.2.2.2.1) fun r6=>
 if((decide (r6.1>(48:Int)))=true)then
 (some (5:Int))
 else
 (some (0:Int))
 else
 none))
 else
 (some (90:Int))
 else
 (some (90:Int))
 else
 (some (90:Int))
 else
 (some (90:Int))
 else
 (some (90:Int))
 else
 (some (90:Int))
def qdX:Nat→List ByteArray→List DvT→Int→Int→Int→Option (Int)
 | 0,_,_,_,_,_=>none
 | k+1,f0,f1,f2,f3,f4=>qgW k f0 f1 f2 f3 f4
def qxp:Nat→Inst:=mkI 120 ⟨[.g [.lf (.sl .str),.lf (.sl qN),.lf (.int .i64),.lf (.int .i64),.lf (.int .i64)]],[]⟩ [⟨[vI],[]⟩] fun k x=>qdX k x.1 x.2.1 x.2.2.1 x.2.2.2.1 x.2.2.2.2
theorem qp4 (k:Nat):qas (call cf k) [qnD k,qwh k,qs3 k,qxh k,qxm k]:=
 ac (qk7 k) (ac (qzU k) (ac (qtU k) (ac (qAe k) (ac (qt3 k) a0))))
def qxq (k:Nat):LInst:=mkL 0 [⟨[(1,.a (.ptr 0 0 0)),(59,vR),(60,vI),(61,vI)],[(0,some (.raw [[.lf (.sl .str),.lf (.sl qN),.lf (.int .i64),.lf (.int .i64),.lf (.int .i64)]] 5 27 true false false))],1⟩] [⟨none,⟨[(2,vI)],[(0,some (.raw [[.lf (.sl .str),.lf (.sl qN),.lf (.int .i64),.lf (.int .i64),.lf (.int .i64)]] 5 27 true false false))],1⟩⟩,⟨some 0,⟨[(1,.a (.ptr 0 0 0))],[(0,some (.raw [[.lf (.sl .str),.lf (.sl qN),.lf (.int .i64),.lf (.int .i64),.lf (.int .i64)]] 5 27 true false false))],1⟩⟩] (fun n x=>qaH k n x.1 x.2.1 x.2.2.1 x.2.2.2.1 x.2.2.2.2.1 x.2.2.2.2.2.1 x.2.2.2.2.2.2.1 x.2.2.2.2.2.2.2) k
theorem qrs (k:Nat):LIo 120 Tryz.f120 0 k (qxq k):=
 lpk [] (qp4 k) l0 (fun _=>rfl) (by kernel_rfl) fun n x=>by kernel_rfl
def qxr (k:Nat):LInst:=mkL 2 [⟨[(1,.a (.ptr 0 0 0)),(5,.a (.smz 1)),(70,.a (.lf (.sl qN))),(71,vI),(72,vI)],[(0,some (.raw [[.lf (.sl .str),.lf (.sl qN),.lf (.int .i64),.lf (.int .i64),.lf (.int .i64)]] 5 27 true false false)),(1,some (.arr .str 1 9 false))],2⟩] [⟨none,⟨[(2,vI)],[(0,some (.raw [[.lf (.sl .str),.lf (.sl qN),.lf (.int .i64),.lf (.int .i64),.lf (.int .i64)]] 5 27 true false false)),(1,some (.arr .str 1 9 false)),(2,some (.raw [[.lf (.int .u8),.lf .str,.lf (.sl (.int .i64)),.lf (.int .i64),.lf (.int .i64),.lf (.int .i64),.lf (.int .i64),.lf cE,.lf (.sl (.int .i64)),.lf .str,.lf (.int .u8),.lf cE,.lf cE]] 13 48 true false false))],3⟩⟩,⟨some 2,⟨[(1,.a (.ptr 0 0 0)),(5,.a (.smz 1))],[(0,some (.raw [[.lf (.sl .str),.lf (.sl qN),.lf (.int .i64),.lf (.int .i64),.lf (.int .i64)]] 5 27 true false false)),(1,some (.arr .str 1 9 false))],2⟩⟩] (fun n x=>qar k n x.1 x.2.1 x.2.2.1 x.2.2.2.1 x.2.2.2.2.1 x.2.2.2.2.2.1 x.2.2.2.2.2.2.1 x.2.2.2.2.2.2.2.1 x.2.2.2.2.2.2.2.2.1 x.2.2.2.2.2.2.2.2.2) k
theorem qxs (k:Nat):LIo 120 Tryz.f120 0 k (qxr k):=
 lpk [] (qp4 k) (lc (qrs k) l0) (fun _=>rfl) (by kernel_rfl) fun n x=>by kernel_rfl
theorem qt4:∀k,qe (call cf k) (qxp k):=
 fnk 0 [0,2] Tryz.func120 (fun k=>(qp4 k)) (fun k=>(lc (qrs k) (lc (qxs k) l0))) ⟨rfl,rfl,⟨rfl,Nat.le_of_ble_eq_true rfl⟩,rfl⟩ (fun _=>rfl) (by kernel_rfl) fun k x=>by kernel_rfl

def qgM (k:Nat) (f0:List ByteArray) (f1:List DvT) (f2:Int) (f3:Int) (f4:Int):Option (Int×List Int):=
 Option.bind (qdX k f0 f1 f2 f3 f4) fun r2=>
 if((r2 != (0:Int))=true)then
 (some ((0:Int),[]))
 else
 Option.bind (qcR k f0 f1 f2 f3 f4) fun r3=>
 (some (r3.1,r3.2))
def qfl:Nat→List ByteArray→List DvT→Int→Int→Int→Option (Int×List Int)
 | 0,_,_,_,_,_=>none
 | k+1,f0,f1,f2,f3,f4=>qgM k f0 f1 f2 f3 f4
def qxt:Nat→Inst:=mkI 129 ⟨[.g [.lf (.sl .str),.lf (.sl qN),.lf (.int .i64),.lf (.int .i64),.lf (.int .i64)]],[]⟩ [⟨[vI,vJ],[]⟩] fun k x=>qfl k x.1 x.2.1 x.2.2.1 x.2.2.2.1 x.2.2.2.2
theorem qAf:∀k,qe (call cf k) (qxt k):=
 fnk 0 [] Tryz.func129 (fun k=>(ac (qt4 k) (ac (qt3 k) a0))) (fun k=>l0) ⟨rfl,rfl,⟨rfl,Nat.le_of_ble_eq_true rfl⟩,rfl⟩ (fun _=>rfl) (by kernel_rfl) fun k x=>by kernel_rfl

def qdR (k:Nat) (rec:Nat→List DvT→Int→Int→List Int→Option (Nat×List Int)) (l:Nat) (x:List DvT) (x1:Int) (x2:Int) (ls:List Int):Option (Nat×List Int):=
 if((decide (x2<x1))=true)then
 if((0:Int)≤x2)then
 Option.bind (x)[(Int.toNat x2)]? fun x3=>
 if((x3.1 == (100:Int))=false)then
 if((x3.1 == (115:Int))=true)then
 if(l≤(List.length ls))then
 if(((l+(List.length (List.take 1 (x2:: []))))*8)≤140737488355328)then
 rec (l+(List.length (List.take 1 (x2:: [])))) x x1 (IntKind.wrap .i64 (x2+(1:Int))) ((List.take l ls)++(List.take 1 (x2:: [])))
 else
 none
 else
 none
 else
 rec l x x1 (IntKind.wrap .i64 (x2+(1:Int))) ls
 else
 if(l≤(List.length ls))then
 if(((l+(List.length (List.take 1 (x2:: []))))*8)≤140737488355328)then
 rec (l+(List.length (List.take 1 (x2:: [])))) x x1 (IntKind.wrap .i64 (x2+(1:Int))) ((List.take l ls)++(List.take 1 (x2:: [])))
 else
 none
 else
 none
 else
 none
 else
 (some (l,ls))
def qcF (k n:Nat):Nat→List DvT→Int→Int→List Int→Option (Nat×List Int):=Nat.rec (fun _ _ _ _ _=>none) (fun _ r=>qdR k r) n
def qhI (k:Nat) (f0:List ByteArray) (f1:List DvT) (f2:Int) (f3:Int) (f4:Int):Option (List Int):=
 Option.bind (qcF k k 0 f1 (((List.length f1):Nat):Int) (0:Int) []) fun r3=>
 if((0+r3.1)≤(List.length r3.2))then
 (some (List.take r3.1 r3.2))
 else
 none
def qgw:Nat→List ByteArray→List DvT→Int→Int→Int→Option (List Int)
 | 0,_,_,_,_,_=>none
 | k+1,f0,f1,f2,f3,f4=>qhI k f0 f1 f2 f3 f4
def qt5:Nat→Inst:=mkI 130 ⟨[.g [.lf (.sl .str),.lf (.sl qN),.lf (.int .i64),.lf (.int .i64),.lf (.int .i64)]],[]⟩ [⟨[vJ],[]⟩] fun k x=>qgw k x.1 x.2.1 x.2.2.1 x.2.2.2.1 x.2.2.2.2
def qxu (k:Nat):LInst:=mkL 0 [⟨[(3,.a (.smz 0)),(7,.a (.lf (.sl qN))),(8,vI),(9,vI)],[(0,some (.arr (.int .i64) 1 3 false))],1⟩] [⟨some 0,⟨[(3,.a (.smz 0))],[(0,some (.arr (.int .i64) 1 3 false))],1⟩⟩] (fun n x=>qcF k n x.1 x.2.1 x.2.2.1 x.2.2.2.1 x.2.2.2.2) k
theorem qxv (k:Nat):LIo 130 Tryz.f130 0 k (qxu k):=
 lpk [] a0 l0 (fun _=>rfl) (by kernel_rfl) fun n x=>by kernel_rfl
theorem qxw:∀k,qe (call cf k) (qt5 k):=
 fnk 0 [0] Tryz.func130 (fun k=>a0) (fun k=>(lc (qxv k) l0)) ⟨rfl,rfl,⟨rfl,Nat.le_of_ble_eq_true rfl⟩,rfl⟩ (fun _=>rfl) (by kernel_rfl) fun k x=>by kernel_rfl

def qgN (k:Nat) (v:Int):Option (Bool):=
 if((decide (v>(1000000000000000000:Int)))=false)then
 (some (decide (v<(-(1000000000000000000:Int)))))
 else
 (some true)
def qec:Nat→Int→Option (Bool)
 | 0,_=>none
 | k+1,v=>qgN k v
def qt6:Nat→Inst:=mkI 191 ⟨[vI],[]⟩ [⟨[vB],[]⟩] fun k x=>qec k x
theorem qxx:∀k,qe (call cf k) (qt6 k):=
 fnk 0 [] Tryz.func191 (fun k=>a0) (fun k=>l0) ⟨rfl,rfl,⟨rfl,Nat.le_of_ble_eq_true rfl⟩,rfl⟩ (fun _=>rfl) (by kernel_rfl) fun k x=>by kernel_rfl

def qeR (k:Nat) (rec:List Int→Int→Int→Option ((Int) ⊕ (Unit))) (s:List Int) (x:Int) (x1:Int):Option ((Int) ⊕ (Unit)):=
 if((decide (x1<x))=true)then
 if((0:Int)≤x1)then
 Option.bind (s)[(Int.toNat x1)]? fun x2=>
 Option.bind (qec k x2) fun r4=>
 if(r4=true)then
 (some (Sum.inl x1))
 else
 rec s x (IntKind.wrap .i64 (x1+(1:Int)))
 else
 none
 else
 (some (Sum.inr ()))
def qbH (k n:Nat):List Int→Int→Int→Option ((Int) ⊕ (Unit)):=Nat.rec (fun _ _ _=>none) (fun _ r=>qeR k r) n
def qbV (k:Nat) (s:List Int):Option (Int):=
 Option.bind (qbH k k s (((List.length s):Nat):Int) (0:Int)) fun r4=>
 qc r4
 (fun r4=>
 (some r4))
 (fun r4=>
 (some (-(1:Int))))
def qaD:Nat→List Int→Option (Int)
 | 0,_=>none
 | k+1,s=>qbV k s
def qAg:Nat→Inst:=mkI 197 ⟨[vJ,.a (.fn 191 [])],[]⟩ [⟨[vI],[]⟩] fun k x=>qaD k x
theorem qrt (k:Nat):qas (call cf k) [qt6 k]:=
 ac (qxx k) a0
def qxy (k:Nat):LInst:=mkL 0 [⟨[(0,vJ),(1,.a (.fn 191 [])),(7,vI),(8,vI)],[],0⟩] [⟨none,⟨[(4,vI)],[],0⟩⟩,⟨some 0,⟨[],[],0⟩⟩] (fun n x=>qbH k n x.1 x.2.1 x.2.2) k
theorem qxz (k:Nat):LIo 197 Tryz.f197 0 k (qxy k):=
 lpk [] (qrt k) l0 (fun _=>rfl) (by kernel_rfl) fun n x=>by kernel_rfl
theorem qxA:∀k,qe (call cf k) (qAg k):=
 fnk 0 [0] Tryz.func197 (fun k=>(qrt k)) (fun k=>(lc (qxz k) l0)) ⟨rfl,rfl,⟨rfl,Nat.le_of_ble_eq_true rfl⟩,rfl⟩ (fun _=>rfl) (by kernel_rfl) fun k x=>by kernel_rfl

def qbC (k:Nat) (s:List Int):Option (Bool):=
 Option.bind (qaD k s) fun r4=>
 (some (decide (r4≥(0:Int))))
def qan:Nat→List Int→Option (Bool)
 | 0,_=>none
 | k+1,s=>qbC k s
def qBy:Nat→Inst:=mkI 139 ⟨[vJ,.a (.fn 191 [])],[]⟩ [⟨[vB],[]⟩] fun k x=>qan k x
theorem qAh:∀k,qe (call cf k) (qBy k):=
 fnk 0 [] Tryz.func139 (fun k=>(ac (qxA k) a0)) (fun k=>l0) ⟨rfl,rfl,⟨rfl,Nat.le_of_ble_eq_true rfl⟩,rfl⟩ (fun _=>rfl) (by kernel_rfl) fun k x=>by kernel_rfl

def qhJ (k:Nat) (l:List Int):Option (Bool):=
 Option.bind (qan k l) fun r4=>
 (some (!r4))
def qe5:Nat→List Int→Option (Bool)
 | 0,_=>none
 | k+1,l=>qhJ k l
def qt7:Nat→Inst:=mkI 131 ⟨[vJ],[]⟩ [⟨[vB],[]⟩] fun k x=>qe5 k x
theorem qxB:∀k,qe (call cf k) (qt7 k):=
 fnk 0 [] Tryz.func131 (fun k=>(ac (qAh k) a0)) (fun k=>l0) ⟨rfl,rfl,⟨rfl,Nat.le_of_ble_eq_true rfl⟩,rfl⟩ (fun _=>rfl) (by kernel_rfl) fun k x=>by kernel_rfl

def qnI (k:Nat) (m0:ByteArray) (m1:Int) (m2:List (Int×Int)) (m3:List (Int×Int)):Option (Int):=
 Option.bind (qdw k m0 m1 m2 m3) fun r6=>
 if((!r6)=true)then
 (some (0:Int))
 else
 (some (((List.length m2):Nat):Int))
def qgx:Nat→ByteArray→Int→List (Int×Int)→List (Int×Int)→Option (Int)
 | 0,_,_,_,_=>none
 | k+1,m0,m1,m2,m3=>qnI k m0 m1 m2 m3
def qxC:Nat→Inst:=mkI 132 ⟨[.g [.lf .str,.lf (.int .u8),.lf cE,.lf cE]],[]⟩ [⟨[vI],[]⟩] fun k x=>qgx k x.1 x.2.1 x.2.2.1 x.2.2.2
theorem qAi:∀k,qe (call cf k) (qxC k):=
 fnk 0 [] Tryz.func132 (fun k=>(ac (qtZ k) a0)) (fun k=>l0) ⟨rfl,rfl,⟨rfl,Nat.le_of_ble_eq_true rfl⟩,rfl⟩ (fun _=>rfl) (by kernel_rfl) fun k x=>by kernel_rfl

def qcG (k:Nat) (rec:List Int→Int→Int→List ByteArray→List DvT→Int→Int→Int→Int→List Int→List Int→List Int→Option ((Int×List ByteArray×List DvT×Int×Int×Int×Int×List Int×List Int×List Int) ⊕ (List ByteArray×List DvT×Int×Int×Int×Int×List Int×List Int×List Int))) (x:List Int) (x1:Int) (x2:Int) (f0:List ByteArray) (f1:List DvT) (f2:Int) (f3:Int) (f4:Int) (st0:Int) (st1:List Int) (st2:List Int) (st3:List Int):Option ((Int×List ByteArray×List DvT×Int×Int×Int×Int×List Int×List Int×List Int) ⊕ (List ByteArray×List DvT×Int×Int×Int×Int×List Int×List Int×List Int)):=
 if((decide (x2<x1))=true)then
 if((0:Int)≤x2)then
 Option.bind (x)[(Int.toNat x2)]? fun x3=>
 if((0:Int)≤x2)then
 Option.bind (st3)[(Int.toNat x2)]? fun x4=>
 if((decide (x4<(0:Int)))=false)then
 if((0:Int)≤x2)then
 Option.bind (st3)[(Int.toNat x2)]? fun x5=>
 if((0:Int)≤x3)then
 Option.bind (f1)[(Int.toNat x3)]? fun x6=>
 Option.bind (qgx k x6.2.2.2.2.2.2.1 x6.2.2.2.2.2.2.2.1 x6.2.2.2.2.2.2.2.2.1 x6.2.2.2.2.2.2.2.2.2) fun r6=>
 if((decide (x5≥r6))=true)then
 (some (Sum.inl ((190:Int),f0,f1,f2,f3,f4,st0,st1,st2,st3)))
 else
 rec x x1 (IntKind.wrap .i64 (x2+(1:Int))) f0 f1 f2 f3 f4 st0 st1 st2 st3
 else
 none
 else
 none
 else
 (some (Sum.inl ((190:Int),f0,f1,f2,f3,f4,st0,st1,st2,st3)))
 else
 none
 else
 none
 else
 (some (Sum.inr (f0,f1,f2,f3,f4,st0,st1,st2,st3)))
def qbP (k n:Nat):List Int→Int→Int→List ByteArray→List DvT→Int→Int→Int→Int→List Int→List Int→List Int→Option ((Int×List ByteArray×List DvT×Int×Int×Int×Int×List Int×List Int×List Int) ⊕ (List ByteArray×List DvT×Int×Int×Int×Int×List Int×List Int×List Int)):=Nat.rec (fun _ _ _ _ _ _ _ _ _ _ _ _=>none) (fun _ r=>qcG k r) n
def qid (k:Nat) (f0:List ByteArray) (f1:List DvT) (f2:Int) (f3:Int) (f4:Int) (st0:Int) (st1:List Int) (st2:List Int) (st3:List Int):Option (Int):=
 Option.bind (qdX k f0 f1 f2 f3 f4) fun r1=>
 if((r1 != (0:Int))=true)then
 (some r1)
 else
 Option.bind (qfl k f0 f1 f2 f3 f4) fun r2=>
 Option.bind (qgw k f0 f1 f2 f3 f4) fun r3=>
 if((decide (st0<(0:Int)))=false)then
 if((decide (st0>(1000000000:Int)))=false)then
 if(((((List.length st1):Nat):Int) != r2.1)=false)then
 if(((((List.length st2):Nat):Int) != (((List.length f1):Nat):Int))=false)then
 if(((((List.length st3):Nat):Int) != (((List.length r3):Nat):Int))=false)then
 Option.bind (qe5 k st1) fun r4=>
 if((!r4)=false)then
 Option.bind (qe5 k st2) fun r5=>
 if((!r5)=true)then
 (some (190:Int))
 else
 Option.bind (qbP k k r3 (((List.length r3):Nat):Int) (0:Int) f0 f1 f2 f3 f4 st0 st1 st2 st3) fun r6=>
 qc r6
 (fun r6=>
 (some r6.1))
 (fun r6=>
 (some (0:Int)))
 else
 (some (190:Int))
 else
 (some (190:Int))
 else
 (some (190:Int))
 else
 (some (190:Int))
 else
 (some (190:Int))
 else
 (some (190:Int))
def qgX:Nat→List ByteArray→List DvT→Int→Int→Int→Int→List Int→List Int→List Int→Option (Int)
 | 0,_,_,_,_,_,_,_,_,_=>none
 | k+1,f0,f1,f2,f3,f4,st0,st1,st2,st3=>qid k f0 f1 f2 f3 f4 st0 st1 st2 st3
def qt8:Nat→Inst:=mkI 73 ⟨[.g [.lf (.sl .str),.lf (.sl qN),.lf (.int .i64),.lf (.int .i64),.lf (.int .i64)],.g [.lf (.int .i64),.lf (.sl (.int .i64)),.lf (.sl (.int .i64)),.lf (.sl (.int .i64))]],[]⟩ [⟨[vI],[]⟩] fun k x=>qgX k x.1 x.2.1 x.2.2.1 x.2.2.2.1 x.2.2.2.2.1 x.2.2.2.2.2.1 x.2.2.2.2.2.2.1 x.2.2.2.2.2.2.2.1 x.2.2.2.2.2.2.2.2
theorem qru (k:Nat):qas (call cf k) [qxp k,qxt k,qt5 k,qt7 k,qxC k]:=
 ac (qt4 k) (ac (qAf k) (ac (qxw k) (ac (qxB k) (ac (qAi k) a0))))
def qxD (k:Nat):LInst:=mkL 0 [⟨[(2,.a (.ptr 0 0 0)),(3,.a (.ptr 1 0 0)),(67,vJ),(68,vI),(69,vI)],[(0,some (.raw [[.lf (.sl .str),.lf (.sl qN),.lf (.int .i64),.lf (.int .i64),.lf (.int .i64)]] 5 27 true false false)),(1,some (.raw [[.lf (.int .i64),.lf (.sl (.int .i64)),.lf (.sl (.int .i64)),.lf (.sl (.int .i64))]] 4 53 true false false))],2⟩] [⟨none,⟨[(4,vI)],[(0,some (.raw [[.lf (.sl .str),.lf (.sl qN),.lf (.int .i64),.lf (.int .i64),.lf (.int .i64)]] 5 27 true false false)),(1,some (.raw [[.lf (.int .i64),.lf (.sl (.int .i64)),.lf (.sl (.int .i64)),.lf (.sl (.int .i64))]] 4 53 true false false))],2⟩⟩,⟨some 0,⟨[],[(0,some (.raw [[.lf (.sl .str),.lf (.sl qN),.lf (.int .i64),.lf (.int .i64),.lf (.int .i64)]] 5 27 true false false)),(1,some (.raw [[.lf (.int .i64),.lf (.sl (.int .i64)),.lf (.sl (.int .i64)),.lf (.sl (.int .i64))]] 4 53 true false false))],2⟩⟩] (fun n x=>qbP k n x.1 x.2.1 x.2.2.1 x.2.2.2.1 x.2.2.2.2.1 x.2.2.2.2.2.1 x.2.2.2.2.2.2.1 x.2.2.2.2.2.2.2.1 x.2.2.2.2.2.2.2.2.1 x.2.2.2.2.2.2.2.2.2.1 x.2.2.2.2.2.2.2.2.2.2.1 x.2.2.2.2.2.2.2.2.2.2.2) k
theorem qxE (k:Nat):LIo 73 Tryz.f73 0 k (qxD k):=
 lpk [] (qru k) l0 (fun _=>rfl) (by kernel_rfl) fun n x=>by kernel_rfl
theorem qxF:∀k,qe (call cf k) (qt8 k):=
 fnk 0 [0] Tryz.func73 (fun k=>(qru k)) (fun k=>(lc (qxE k) l0)) ⟨rfl,rfl,⟨rfl,Nat.le_of_ble_eq_true rfl⟩,rfl⟩ (fun _=>rfl) (by kernel_rfl) fun k x=>by kernel_rfl

def qhf (k:Nat) (p:ByteArray):Option (Bool):=
 Option.bind (qgs k p) fun r4=>
 (some (!r4))
def qfT:Nat→ByteArray→Option (Bool)
 | 0,_=>none
 | k+1,p=>qhf k p
def qxG:Nat→Inst:=mkI 195 ⟨[vS],[]⟩ [⟨[vB],[]⟩] fun k x=>qfT k x
theorem qAj:∀k,qe (call cf k) (qxG k):=
 fnk 0 [] Tryz.func195 (fun k=>(ac (qtT k) a0)) (fun k=>l0) ⟨rfl,rfl,⟨rfl,Nat.le_of_ble_eq_true rfl⟩,rfl⟩ (fun _=>rfl) (by kernel_rfl) fun k x=>by kernel_rfl

def qew (k:Nat) (rec:List ByteArray→Int→Int→Option ((Int) ⊕ (Unit))) (s:List ByteArray) (x:Int) (x1:Int):Option ((Int) ⊕ (Unit)):=
 if((decide (x1<x))=true)then
 if((0:Int)≤x1)then
 Option.bind (s)[(Int.toNat x1)]? fun x6=>
 Option.bind (qfT k x6) fun r4=>
 if(r4=true)then
 (some (Sum.inl x1))
 else
 rec s x (IntKind.wrap .i64 (x1+(1:Int)))
 else
 none
 else
 (some (Sum.inr ()))
def qbm (k n:Nat):List ByteArray→Int→Int→Option ((Int) ⊕ (Unit)):=Nat.rec (fun _ _ _=>none) (fun _ r=>qew k r) n
def qbI (k:Nat) (s:List ByteArray):Option (Int):=
 Option.bind (qbm k k s (((List.length s):Nat):Int) (0:Int)) fun r4=>
 qc r4
 (fun r4=>
 (some r4))
 (fun r4=>
 (some (-(1:Int))))
def qau:Nat→List ByteArray→Option (Int)
 | 0,_=>none
 | k+1,s=>qbI k s
def qAk:Nat→Inst:=mkI 194 ⟨[vR,.a (.fn 195 [])],[]⟩ [⟨[vI],[]⟩] fun k x=>qau k x
theorem qrv (k:Nat):qas (call cf k) [qxG k]:=
 ac (qAj k) a0
def qxH (k:Nat):LInst:=mkL 0 [⟨[(0,vR),(1,.a (.fn 195 [])),(7,vI),(8,vI)],[],0⟩] [⟨none,⟨[(4,vI)],[],0⟩⟩,⟨some 0,⟨[],[],0⟩⟩] (fun n x=>qbm k n x.1 x.2.1 x.2.2) k
theorem qxI (k:Nat):LIo 194 Tryz.f194 0 k (qxH k):=
 lpk [] (qrv k) l0 (fun _=>rfl) (by kernel_rfl) fun n x=>by kernel_rfl
theorem qxJ:∀k,qe (call cf k) (qAk k):=
 fnk 0 [0] Tryz.func194 (fun k=>(qrv k)) (fun k=>(lc (qxI k) l0)) ⟨rfl,rfl,⟨rfl,Nat.le_of_ble_eq_true rfl⟩,rfl⟩ (fun _=>rfl) (by kernel_rfl) fun k x=>by kernel_rfl

def qbg (k:Nat) (s:List ByteArray):Option (Bool):=
 Option.bind (qau k s) fun r4=>
 (some (decide (r4≥(0:Int))))
def qbh:Nat→List ByteArray→Option (Bool)
 | 0,_=>none
 | k+1,s=>qbg k s
def qBz:Nat→Inst:=mkI 134 ⟨[vR,.a (.fn 195 [])],[]⟩ [⟨[vB],[]⟩] fun k x=>qbh k x
theorem qAl:∀k,qe (call cf k) (qBz k):=
 fnk 0 [] Tryz.func134 (fun k=>(ac (qxJ k) a0)) (fun k=>l0) ⟨rfl,rfl,⟨rfl,Nat.le_of_ble_eq_true rfl⟩,rfl⟩ (fun _=>rfl) (by kernel_rfl) fun k x=>by kernel_rfl

def qie (k:Nat) (s:ByteArray):Option (Bool):=
 Option.bind (qcd k s (ByteArray.mk (List.toArray (46:: [])))) fun r3=>
 if((decide ((((List.length r3):Nat):Int)≤(9:Int)))=true)then
 Option.bind (qbh k r3) fun r4=>
 (some (!r4))
 else
 (some false)
def qgY:Nat→ByteArray→Option (Bool)
 | 0,_=>none
 | k+1,s=>qie k s
def qBA:Nat→Inst:=mkI 136 ⟨[vS],[]⟩ [⟨[vB],[]⟩] fun k x=>qgY k x
theorem qAm:∀k,qe (call cf k) (qBA k):=
 fnk 0 [] Tryz.func136 (fun k=>(ac (qnE k) (ac (qAl k) a0))) (fun k=>l0) ⟨rfl,rfl,⟨rfl,Nat.le_of_ble_eq_true rfl⟩,rfl⟩ (fun _=>rfl) (by kernel_rfl) fun k x=>by kernel_rfl

def qhg (k:Nat) (n:ByteArray):Option (Bool):=
 Option.bind (qgY k n) fun r3=>
 (some (!r3))
def qfU:Nat→ByteArray→Option (Bool)
 | 0,_=>none
 | k+1,n=>qhg k n
def qxK:Nat→Inst:=mkI 135 ⟨[vS],[]⟩ [⟨[vB],[]⟩] fun k x=>qfU k x
theorem qAn:∀k,qe (call cf k) (qxK k):=
 fnk 0 [] Tryz.func135 (fun k=>(ac (qAm k) a0)) (fun k=>l0) ⟨rfl,rfl,⟨rfl,Nat.le_of_ble_eq_true rfl⟩,rfl⟩ (fun _=>rfl) (by kernel_rfl) fun k x=>by kernel_rfl

def qex (k:Nat) (rec:List ByteArray→Int→Int→Option ((Int) ⊕ (Unit))) (s:List ByteArray) (x:Int) (x1:Int):Option ((Int) ⊕ (Unit)):=
 if((decide (x1<x))=true)then
 if((0:Int)≤x1)then
 Option.bind (s)[(Int.toNat x1)]? fun x5=>
 Option.bind (qfU k x5) fun r3=>
 if(r3=true)then
 (some (Sum.inl x1))
 else
 rec s x (IntKind.wrap .i64 (x1+(1:Int)))
 else
 none
 else
 (some (Sum.inr ()))
def qbn (k n:Nat):List ByteArray→Int→Int→Option ((Int) ⊕ (Unit)):=Nat.rec (fun _ _ _=>none) (fun _ r=>qex k r) n
def qbJ (k:Nat) (s:List ByteArray):Option (Int):=
 Option.bind (qbn k k s (((List.length s):Nat):Int) (0:Int)) fun r3=>
 qc r3
 (fun r3=>
 (some r3))
 (fun r3=>
 (some (-(1:Int))))
def qav:Nat→List ByteArray→Option (Int)
 | 0,_=>none
 | k+1,s=>qbJ k s
def qAo:Nat→Inst:=mkI 194 ⟨[vR,.a (.fn 135 [])],[]⟩ [⟨[vI],[]⟩] fun k x=>qav k x
theorem qrw (k:Nat):qas (call cf k) [qxK k]:=
 ac (qAn k) a0
def qxL (k:Nat):LInst:=mkL 0 [⟨[(0,vR),(1,.a (.fn 135 [])),(7,vI),(8,vI)],[],0⟩] [⟨none,⟨[(4,vI)],[],0⟩⟩,⟨some 0,⟨[],[],0⟩⟩] (fun n x=>qbn k n x.1 x.2.1 x.2.2) k
theorem qxM (k:Nat):LIo 194 Tryz.f194 0 k (qxL k):=
 lpk [] (qrw k) l0 (fun _=>rfl) (by kernel_rfl) fun n x=>by kernel_rfl
theorem qxN:∀k,qe (call cf k) (qAo k):=
 fnk 0 [0] Tryz.func194 (fun k=>(qrw k)) (fun k=>(lc (qxM k) l0)) ⟨rfl,rfl,⟨rfl,Nat.le_of_ble_eq_true rfl⟩,rfl⟩ (fun _=>rfl) (by kernel_rfl) fun k x=>by kernel_rfl

def qbi (k:Nat) (s:List ByteArray):Option (Bool):=
 Option.bind (qav k s) fun r3=>
 (some (decide (r3≥(0:Int))))
def qp:Nat→List ByteArray→Option (Bool)
 | 0,_=>none
 | k+1,s=>qbi k s
def qBB:Nat→Inst:=mkI 134 ⟨[vR,.a (.fn 135 [])],[]⟩ [⟨[vB],[]⟩] fun k x=>qp k x
theorem qAp:∀k,qe (call cf k) (qBB k):=
 fnk 0 [] Tryz.func134 (fun k=>(ac (qxN k) a0)) (fun k=>l0) ⟨rfl,rfl,⟨rfl,Nat.le_of_ble_eq_true rfl⟩,rfl⟩ (fun _=>rfl) (by kernel_rfl) fun k x=>by kernel_rfl

def qif (k:Nat) (text:ByteArray):Option (Int×List ByteArray×Bool):=
 if((decide ((((ByteArray.size text):Nat):Int)<(4:Int)))=false)then
 Option.bind ((ByteArray.data text))[0]? fun x=>
 if(((((UInt8.toNat x):Nat):Int) != (118:Int))=true)then
 Option.bind ((ByteArray.data text))[0]? fun x1=>
 if(((((UInt8.toNat x1):Nat):Int) != (105:Int))=false)then
 Option.bind ((ByteArray.data text))[1]? fun x2=>
 if(((((UInt8.toNat x2):Nat):Int) != (40:Int))=false)then
 if((0:Int)≤(IntKind.wrap .i64 ((((ByteArray.size text):Nat):Int)-(1:Int))))then
 Option.bind ((ByteArray.data text))[(Int.toNat (IntKind.wrap .i64 ((((ByteArray.size text):Nat):Int)-(1:Int))))]? fun x3=>
 if(((((UInt8.toNat x3):Nat):Int) != (41:Int))=true)then
 (some ((0:Int),[],false))
 else
 if(((0:Int)≤(2:Int))∧(((2:Int)≤(IntKind.wrap .i64 ((((ByteArray.size text):Nat):Int)-(1:Int))))∧((IntKind.wrap .i64 ((((ByteArray.size text):Nat):Int)-(1:Int)))≤(((ByteArray.size text):Nat):Int))))then
 Option.bind (qcd k (ByteArray.extract text 2 (Int.toNat (IntKind.wrap .i64 ((((ByteArray.size text):Nat):Int)-(1:Int))))) (ByteArray.mk (List.toArray (44:: [])))) fun r2=>
 if((decide ((((List.length r2):Nat):Int)>(2:Int)))=false)then
 Option.bind ((ByteArray.data text))[0]? fun x4=>
 if(((((UInt8.toNat x4):Nat):Int) == (105:Int))=true)then
 if(((((List.length r2):Nat):Int) != (1:Int))=false)then
 Option.bind (qp k r2) fun r3=>
 if(r3=true)then
 (some ((0:Int),[],false))
 else
 Option.bind ((ByteArray.data text))[0]? fun x5=>
 (some ((((UInt8.toNat x5):Nat):Int),r2,true))
 else
 (some ((0:Int),[],false))
 else
 Option.bind (qp k r2) fun r3=>
 if(r3=true)then
 (some ((0:Int),[],false))
 else
 Option.bind ((ByteArray.data text))[0]? fun x5=>
 (some ((((UInt8.toNat x5):Nat):Int),r2,true))
 else
 (some ((0:Int),[],false))
 else
 none
 else
 none
 else
 (some ((0:Int),[],false))
 else
 (some ((0:Int),[],false))
 else
 Option.bind ((ByteArray.data text))[1]? fun x1=>
 if(((((UInt8.toNat x1):Nat):Int) != (40:Int))=false)then
 if((0:Int)≤(IntKind.wrap .i64 ((((ByteArray.size text):Nat):Int)-(1:Int))))then
 Option.bind ((ByteArray.data text))[(Int.toNat (IntKind.wrap .i64 ((((ByteArray.size text):Nat):Int)-(1:Int))))]? fun x2=>
 if(((((UInt8.toNat x2):Nat):Int) != (41:Int))=true)then
 (some ((0:Int),[],false))
 else
 if(((0:Int)≤(2:Int))∧(((2:Int)≤(IntKind.wrap .i64 ((((ByteArray.size text):Nat):Int)-(1:Int))))∧((IntKind.wrap .i64 ((((ByteArray.size text):Nat):Int)-(1:Int)))≤(((ByteArray.size text):Nat):Int))))then
 Option.bind (qcd k (ByteArray.extract text 2 (Int.toNat (IntKind.wrap .i64 ((((ByteArray.size text):Nat):Int)-(1:Int))))) (ByteArray.mk (List.toArray (44:: [])))) fun r2=>
 if((decide ((((List.length r2):Nat):Int)>(2:Int)))=false)then
 Option.bind ((ByteArray.data text))[0]? fun x3=>
 if(((((UInt8.toNat x3):Nat):Int) == (105:Int))=true)then
 if(((((List.length r2):Nat):Int) != (1:Int))=false)then
 Option.bind (qp k r2) fun r3=>
 if(r3=true)then
 (some ((0:Int),[],false))
 else
 Option.bind ((ByteArray.data text))[0]? fun x4=>
 (some ((((UInt8.toNat x4):Nat):Int),r2,true))
 else
 (some ((0:Int),[],false))
 else
 Option.bind (qp k r2) fun r3=>
 if(r3=true)then
 (some ((0:Int),[],false))
 else
 Option.bind ((ByteArray.data text))[0]? fun x4=>
 (some ((((UInt8.toNat x4):Nat):Int),r2,true))
 else
 (some ((0:Int),[],false))
 else
 none
 else
 none
 else
 (some ((0:Int),[],false))
 else
 (some ((0:Int),[],false))
def qgZ:Nat→ByteArray→Option (Int×List ByteArray×Bool)
 | 0,_=>none
 | k+1,text=>qif k text
def qxO:Nat→Inst:=mkI 74 ⟨[vS],[]⟩ [⟨[.a (.lf (.int .u8)),vR,vB],[]⟩] fun k x=>qgZ k x
theorem qAq:∀k,qe (call cf k) (qxO k):=
 fnk 0 [] Tryz.func74 (fun k=>(ac (qnE k) (ac (qAp k) a0))) (fun k=>l0) ⟨rfl,rfl,⟨rfl,Nat.le_of_ble_eq_true rfl⟩,rfl⟩ (fun _=>rfl) (by kernel_rfl) fun k x=>by kernel_rfl

def qdx (k:Nat) (rec:ByteArray→List DvT→Int→Int→Option ((Int×Int×Int×ByteArray×List Int×Int×Int×Int×Int×List (Int×Int)×List Int×ByteArray×Int×List (Int×Int)×List (Int×Int)) ⊕ (Unit))) (name:ByteArray) (x:List DvT) (x1:Int) (x2:Int):Option ((Int×Int×Int×ByteArray×List Int×Int×Int×Int×Int×List (Int×Int)×List Int×ByteArray×Int×List (Int×Int)×List (Int×Int)) ⊕ (Unit)):=
 if((decide (x2<x1))=true)then
 if((0:Int)≤x2)then
 Option.bind (x)[(Int.toNat x2)]? fun x3=>
 if(((Array.toList (ByteArray.data x3.2.1)) == (Array.toList (ByteArray.data name)))=true)then
 (some (Sum.inl (x2,(0:Int),x3.1,x3.2.1,x3.2.2.1,x3.2.2.2.1,x3.2.2.2.2.1.1,x3.2.2.2.2.1.2,x3.2.2.2.2.2.1.1,x3.2.2.2.2.2.1.2.1,x3.2.2.2.2.2.1.2.2,x3.2.2.2.2.2.2.1,x3.2.2.2.2.2.2.2.1,x3.2.2.2.2.2.2.2.2.1,x3.2.2.2.2.2.2.2.2.2)))
 else
 rec name x x1 (IntKind.wrap .i64 (x2+(1:Int)))
 else
 none
 else
 (some (Sum.inr ()))
def qcS (k n:Nat):ByteArray→List DvT→Int→Int→Option ((Int×Int×Int×ByteArray×List Int×Int×Int×Int×Int×List (Int×Int)×List Int×ByteArray×Int×List (Int×Int)×List (Int×Int)) ⊕ (Unit)):=Nat.rec (fun _ _ _ _=>none) (fun _ r=>qdx k r) n
def qjt (k:Nat) (f0:List ByteArray) (f1:List DvT) (f2:Int) (f3:Int) (f4:Int) (name:ByteArray):Option (Int×Int):=
 Option.bind (qcS k k name f1 (((List.length f1):Nat):Int) (0:Int)) fun r3=>
 qc r3
 (fun r3=>
 (some (r3.1,r3.2.1)))
 (fun r3=>
 (some ((0:Int),(6:Int))))
def qhX:Nat→List ByteArray→List DvT→Int→Int→Int→ByteArray→Option (Int×Int)
 | 0,_,_,_,_,_,_=>none
 | k+1,f0,f1,f2,f3,f4,name=>qjt k f0 f1 f2 f3 f4 name
def qxP:Nat→Inst:=mkI 75 ⟨[.g [.lf (.sl .str),.lf (.sl qN),.lf (.int .i64),.lf (.int .i64),.lf (.int .i64)],vS],[]⟩ [⟨[vI,vI],[]⟩] fun k x=>qhX k x.1 x.2.1 x.2.2.1 x.2.2.2.1 x.2.2.2.2.1 x.2.2.2.2.2
def qxQ (k:Nat):LInst:=mkL 0 [⟨[(1,vS),(9,.a (.lf (.sl qN))),(10,vI),(11,vI)],[],0⟩] [⟨none,⟨[(4,vI),(5,vI)],[(0,some (.raw [[.lf (.int .u8),.lf .str,.lf (.sl (.int .i64)),.lf (.int .i64),.lf (.int .i64),.lf (.int .i64),.lf (.int .i64),.lf cE,.lf (.sl (.int .i64)),.lf .str,.lf (.int .u8),.lf cE,.lf cE]] 13 48 true false false))],1⟩⟩,⟨some 0,⟨[],[],0⟩⟩] (fun n x=>qcS k n x.1 x.2.1 x.2.2.1 x.2.2.2) k
theorem qxR (k:Nat):LIo 75 Tryz.f75 0 k (qxQ k):=
 lpk [] a0 l0 (fun _=>rfl) (by kernel_rfl) fun n x=>by kernel_rfl
theorem qAr:∀k,qe (call cf k) (qxP k):=
 fnk 0 [0] Tryz.func75 (fun k=>a0) (fun k=>(lc (qxR k) l0)) ⟨rfl,rfl,⟨rfl,Nat.le_of_ble_eq_true rfl⟩,rfl⟩ (fun _=>rfl) (by kernel_rfl) fun k x=>by kernel_rfl

def qF (k:Nat) (rec:List ByteArray→ByteArray→Int→Int→Option ((Int) ⊕ (Unit))) (s:List ByteArray) (v:ByteArray) (x:Int) (x1:Int):Option ((Int) ⊕ (Unit)):=
 if((decide (x1<x))=true)then
 if((0:Int)≤x1)then
 Option.bind (s)[(Int.toNat x1)]? fun x4=>
 if(((Array.toList (ByteArray.data v)) == (Array.toList (ByteArray.data x4)))=true)then
 (some (Sum.inl x1))
 else
 rec s v x (IntKind.wrap .i64 (x1+(1:Int)))
 else
 none
 else
 (some (Sum.inr ()))
def qv (k n:Nat):List ByteArray→ByteArray→Int→Int→Option ((Int) ⊕ (Unit)):=Nat.rec (fun _ _ _ _=>none) (fun _ r=>qF k r) n
def qcH (k:Nat) (s:List ByteArray) (v:ByteArray):Option (Int):=
 Option.bind (qv k k s v (((List.length s):Nat):Int) (0:Int)) fun r3=>
 qc r3
 (fun r3=>
 (some r3))
 (fun r3=>
 (some (-(1:Int))))
def qaL:Nat→List ByteArray→ByteArray→Option (Int)
 | 0,_,_=>none
 | k+1,s,v=>qcH k s v
def qAs:Nat→Inst:=mkI 137 ⟨[vR,vS],[]⟩ [⟨[vI],[]⟩] fun k x=>qaL k x.1 x.2
def qxS (k:Nat):LInst:=mkL 0 [⟨[(0,vR),(1,vS),(7,vI),(8,vI)],[],0⟩] [⟨none,⟨[(4,vI)],[],0⟩⟩,⟨some 0,⟨[],[],0⟩⟩] (fun n x=>qv k n x.1 x.2.1 x.2.2.1 x.2.2.2) k
theorem qxT (k:Nat):LIo 137 Tryz.f137 0 k (qxS k):=
 lpk [] a0 l0 (fun _=>rfl) (by kernel_rfl) fun n x=>by kernel_rfl
theorem qxU:∀k,qe (call cf k) (qAs k):=
 fnk 0 [0] Tryz.func137 (fun k=>a0) (fun k=>(lc (qxT k) l0)) ⟨rfl,rfl,⟨rfl,Nat.le_of_ble_eq_true rfl⟩,rfl⟩ (fun _=>rfl) (by kernel_rfl) fun k x=>by kernel_rfl

def qiW (k:Nat) (f0:List ByteArray) (f1:List DvT) (f2:Int) (f3:Int) (f4:Int) (name:ByteArray):Option (Int×Int):=
 Option.bind (qaL k f0 name) fun r3=>
 if((decide (r3<(0:Int)))=true)then
 (some ((0:Int),(6:Int)))
 else
 (some (r3,(0:Int)))
def qgy:Nat→List ByteArray→List DvT→Int→Int→Int→ByteArray→Option (Int×Int)
 | 0,_,_,_,_,_,_=>none
 | k+1,f0,f1,f2,f3,f4,name=>qiW k f0 f1 f2 f3 f4 name
def qxV:Nat→Inst:=mkI 76 ⟨[.g [.lf (.sl .str),.lf (.sl qN),.lf (.int .i64),.lf (.int .i64),.lf (.int .i64)],vS],[]⟩ [⟨[vI,vI],[]⟩] fun k x=>qgy k x.1 x.2.1 x.2.2.1 x.2.2.2.1 x.2.2.2.2.1 x.2.2.2.2.2
theorem qAt:∀k,qe (call cf k) (qxV k):=
 fnk 0 [] Tryz.func76 (fun k=>(ac (qxU k) a0)) (fun k=>l0) ⟨rfl,rfl,⟨rfl,Nat.le_of_ble_eq_true rfl⟩,rfl⟩ (fun _=>rfl) (by kernel_rfl) fun k x=>by kernel_rfl

def qcI (k:Nat) (rec:Int→Int→List ByteArray→Int→Int→List ByteArray→List DvT→Int→Int→Int→Int→List Int→List Int→List Int→Option ((Int×Int×List ByteArray×List DvT×Int×Int×Int×Int×List Int×List Int×List Int) ⊕ (Int×List ByteArray×List DvT×Int×Int×Int×Int×List Int×List Int×List Int))) (v:Int) (sign:Int) (x:List ByteArray) (x1:Int) (x2:Int) (f0:List ByteArray) (f1:List DvT) (f2:Int) (f3:Int) (f4:Int) (st0:Int) (st1:List Int) (st2:List Int) (st3:List Int):Option ((Int×Int×List ByteArray×List DvT×Int×Int×Int×Int×List Int×List Int×List Int) ⊕ (Int×List ByteArray×List DvT×Int×Int×Int×Int×List Int×List Int×List Int)):=
 if((decide (x2<x1))=true)then
 if((0:Int)≤x2)then
 Option.bind (x)[(Int.toNat x2)]? fun x3=>
 Option.bind (qgy k f0 f1 f2 f3 f4 x3) fun r3=>
 if((r3.2 != (0:Int))=true)then
 (some (Sum.inl ((0:Int),r3.2,f0,f1,f2,f3,f4,st0,st1,st2,st3)))
 else
 if((decide (r3.1>(0:Int)))=true)then
 if((0:Int)≤(IntKind.wrap .i64 (r3.1-(1:Int))))then
 Option.bind (st1)[(Int.toNat (IntKind.wrap .i64 (r3.1-(1:Int))))]? fun x4=>
 rec (IntKind.wrap .i64 (v+(IntKind.wrap .i64 (sign*x4)))) (-(1:Int)) x x1 (IntKind.wrap .i64 (x2+(1:Int))) f0 f1 f2 f3 f4 st0 st1 st2 st3
 else
 none
 else
 rec v (-(1:Int)) x x1 (IntKind.wrap .i64 (x2+(1:Int))) f0 f1 f2 f3 f4 st0 st1 st2 st3
 else
 none
 else
 (some (Sum.inr (v,f0,f1,f2,f3,f4,st0,st1,st2,st3)))
def qaI (k n:Nat):Int→Int→List ByteArray→Int→Int→List ByteArray→List DvT→Int→Int→Int→Int→List Int→List Int→List Int→Option ((Int×Int×List ByteArray×List DvT×Int×Int×Int×Int×List Int×List Int×List Int) ⊕ (Int×List ByteArray×List DvT×Int×Int×Int×Int×List Int×List Int×List Int)):=Nat.rec (fun _ _ _ _ _ _ _ _ _ _ _ _ _ _=>none) (fun _ r=>qcI k r) n
def qig (k:Nat) (f0:List ByteArray) (f1:List DvT) (f2:Int) (f3:Int) (f4:Int) (st0:Int) (st1:List Int) (st2:List Int) (st3:List Int) (text:ByteArray):Option (Int×Int):=
 Option.bind (qgX k f0 f1 f2 f3 f4 st0 st1 st2 st3) fun r1=>
 if((r1 != (0:Int))=true)then
 (some ((0:Int),r1))
 else
 Option.bind (qgZ k text) fun r2=>
 if((!r2.2.2)=true)then
 (some ((0:Int),(3:Int)))
 else
 if((r2.1 == (105:Int))=true)then
 Option.bind (r2.2.1)[0]? fun x=>
 Option.bind (qhX k f0 f1 f2 f3 f4 x) fun r3=>
 if((r3.2 != (0:Int))=true)then
 (some ((0:Int),r3.2))
 else
 if((0:Int)≤r3.1)then
 Option.bind (st2)[(Int.toNat r3.1)]? fun x1=>
 (some (x1,(0:Int)))
 else
 none
 else
 Option.bind (qaI k k (0:Int) (1:Int) r2.2.1 (((List.length r2.2.1):Nat):Int) (0:Int) f0 f1 f2 f3 f4 st0 st1 st2 st3) fun r3=>
 qc r3
 (fun r3=>
 (some (r3.1,r3.2.1)))
 (fun r3=>
 (some (r3.1,(0:Int))))
def qbQ:Nat→List ByteArray→List DvT→Int→Int→Int→Int→List Int→List Int→List Int→ByteArray→Option (Int×Int)
 | 0,_,_,_,_,_,_,_,_,_,_=>none
 | k+1,f0,f1,f2,f3,f4,st0,st1,st2,st3,text=>qig k f0 f1 f2 f3 f4 st0 st1 st2 st3 text
def qBC:Nat→Inst:=mkI 27 ⟨[.g [.lf (.sl .str),.lf (.sl qN),.lf (.int .i64),.lf (.int .i64),.lf (.int .i64)],.g [.lf (.int .i64),.lf (.sl (.int .i64)),.lf (.sl (.int .i64)),.lf (.sl (.int .i64))],vS],[]⟩ [⟨[vI,vI],[]⟩] fun k x=>qbQ k x.1 x.2.1 x.2.2.1 x.2.2.2.1 x.2.2.2.2.1 x.2.2.2.2.2.1 x.2.2.2.2.2.2.1 x.2.2.2.2.2.2.2.1 x.2.2.2.2.2.2.2.2.1 x.2.2.2.2.2.2.2.2.2
theorem qt9 (k:Nat):qas (call cf k) [qt8 k,qxO k,qxP k,qxV k]:=
 ac (qxF k) (ac (qAq k) (ac (qAr k) (ac (qAt k) a0)))
def qxW (k:Nat):LInst:=mkL 0 [⟨[(3,.a (.ptr 0 0 0)),(4,.a (.ptr 1 0 0)),(14,vI),(15,vI),(52,vR),(53,vI),(54,vI)],[(0,some (.raw [[.lf (.sl .str),.lf (.sl qN),.lf (.int .i64),.lf (.int .i64),.lf (.int .i64)]] 5 27 true false false)),(1,some (.raw [[.lf (.int .i64),.lf (.sl (.int .i64)),.lf (.sl (.int .i64)),.lf (.sl (.int .i64))]] 4 53 true false false))],2⟩] [⟨none,⟨[(6,vI),(7,vI)],[(0,some (.raw [[.lf (.sl .str),.lf (.sl qN),.lf (.int .i64),.lf (.int .i64),.lf (.int .i64)]] 5 27 true false false)),(1,some (.raw [[.lf (.int .i64),.lf (.sl (.int .i64)),.lf (.sl (.int .i64)),.lf (.sl (.int .i64))]] 4 53 true false false))],2⟩⟩,⟨some 0,⟨[(14,vI)],[(0,some (.raw [[.lf (.sl .str),.lf (.sl qN),.lf (.int .i64),.lf (.int .i64),.lf (.int .i64)]] 5 27 true false false)),(1,some (.raw [[.lf (.int .i64),.lf (.sl (.int .i64)),.lf (.sl (.int .i64)),.lf (.sl (.int .i64))]] 4 53 true false false))],2⟩⟩] (fun n x=>qaI k n x.1 x.2.1 x.2.2.1 x.2.2.2.1 x.2.2.2.2.1 x.2.2.2.2.2.1 x.2.2.2.2.2.2.1 x.2.2.2.2.2.2.2.1 x.2.2.2.2.2.2.2.2.1 x.2.2.2.2.2.2.2.2.2.1 x.2.2.2.2.2.2.2.2.2.2.1 x.2.2.2.2.2.2.2.2.2.2.2.1 x.2.2.2.2.2.2.2.2.2.2.2.2.1 x.2.2.2.2.2.2.2.2.2.2.2.2.2) k
theorem qxX (k:Nat):LIo 27 Tryz.f27 0 k (qxW k):=
 lpk [] (qt9 k) l0 (fun _=>rfl) (by kernel_rfl) fun n x=>by kernel_rfl
theorem qua:∀k,qe (call cf k) (qBC k):=
 fnk 0 [0] Tryz.func27 (fun k=>(qt9 k)) (fun k=>(lc (qxX k) l0)) ⟨rfl,rfl,⟨rfl,Nat.le_of_ble_eq_true rfl⟩,rfl⟩ (fun _=>rfl) (by kernel_rfl) fun k x=>by kernel_rfl

def qlI (k:Nat) (v:Int):Option (Bool):=
 if((decide (v>(2000000000000000000:Int)))=false)then
 (some (decide (v<(-(2000000000000000000:Int)))))
 else
 (some true)
def qfm:Nat→Int→Option (Bool)
 | 0,_=>none
 | k+1,v=>qlI k v
def qp5:Nat→Inst:=mkI 95 ⟨[vI],[]⟩ [⟨[vB],[]⟩] fun k x=>qfm k x
theorem qp6:∀k,qe (call cf k) (qp5 k):=
 fnk 0 [] Tryz.func95 (fun k=>a0) (fun k=>l0) ⟨rfl,rfl,⟨rfl,Nat.le_of_ble_eq_true rfl⟩,rfl⟩ (fun _=>rfl) (by kernel_rfl) fun k x=>by kernel_rfl

def qeS (k:Nat) (rec:List Int→Int→Int→Option ((Int) ⊕ (Unit))) (s:List Int) (x:Int) (x1:Int):Option ((Int) ⊕ (Unit)):=
 if((decide (x1<x))=true)then
 if((0:Int)≤x1)then
 Option.bind (s)[(Int.toNat x1)]? fun x2=>
 Option.bind (qfm k x2) fun r5=>
 if(r5=true)then
 (some (Sum.inl x1))
 else
 rec s x (IntKind.wrap .i64 (x1+(1:Int)))
 else
 none
 else
 (some (Sum.inr ()))
def qcV (k n:Nat):List Int→Int→Int→Option ((Int) ⊕ (Unit)):=Nat.rec (fun _ _ _=>none) (fun _ r=>qeS k r) n
def qft (k:Nat) (s:List Int):Option (Int):=
 Option.bind (qcV k k s (((List.length s):Nat):Int) (0:Int)) fun r5=>
 qc r5
 (fun r5=>
 (some r5))
 (fun r5=>
 (some (-(1:Int))))
def qdf:Nat→List Int→Option (Int)
 | 0,_=>none
 | k+1,s=>qft k s
def qBD:Nat→Inst:=mkI 197 ⟨[vJ,.a (.fn 95 [])],[]⟩ [⟨[vI],[]⟩] fun k x=>qdf k x
theorem qub (k:Nat):qas (call cf k) [qp5 k]:=
 ac (qp6 k) a0
def qxY (k:Nat):LInst:=mkL 0 [⟨[(0,vJ),(1,.a (.fn 95 [])),(7,vI),(8,vI)],[],0⟩] [⟨none,⟨[(4,vI)],[],0⟩⟩,⟨some 0,⟨[],[],0⟩⟩] (fun n x=>qcV k n x.1 x.2.1 x.2.2) k
theorem qxZ (k:Nat):LIo 197 Tryz.f197 0 k (qxY k):=
 lpk [] (qub k) l0 (fun _=>rfl) (by kernel_rfl) fun n x=>by kernel_rfl
theorem qAu:∀k,qe (call cf k) (qBD k):=
 fnk 0 [0] Tryz.func197 (fun k=>(qub k)) (fun k=>(lc (qxZ k) l0)) ⟨rfl,rfl,⟨rfl,Nat.le_of_ble_eq_true rfl⟩,rfl⟩ (fun _=>rfl) (by kernel_rfl) fun k x=>by kernel_rfl

def qeT (k:Nat) (s:List Int):Option (Bool):=
 Option.bind (qdf k s) fun r5=>
 (some (decide (r5≥(0:Int))))
def qcN:Nat→List Int→Option (Bool)
 | 0,_=>none
 | k+1,s=>qeT k s
def qBE:Nat→Inst:=mkI 139 ⟨[vJ,.a (.fn 95 [])],[]⟩ [⟨[vB],[]⟩] fun k x=>qcN k x
theorem qAv:∀k,qe (call cf k) (qBE k):=
 fnk 0 [] Tryz.func139 (fun k=>(ac (qAu k) a0)) (fun k=>l0) ⟨rfl,rfl,⟨rfl,Nat.le_of_ble_eq_true rfl⟩,rfl⟩ (fun _=>rfl) (by kernel_rfl) fun k x=>by kernel_rfl

def qou (k:Nat) (row:List Int):Option (Int):=
 Option.bind (qcN k row) fun r5=>
 if(r5=true)then
 (some (4:Int))
 else
 if(((((List.length row):Nat):Int) == (0:Int))=true)then
 (some (6:Int))
 else
 (some (0:Int))
def qg0:Nat→List Int→Option (Int)
 | 0,_=>none
 | k+1,row=>qou k row
def qs7:Nat→Inst:=mkI 83 ⟨[vJ],[]⟩ [⟨[vI],[]⟩] fun k x=>qg0 k x
theorem qp7:∀k,qe (call cf k) (qs7 k):=
 fnk 0 [] Tryz.func83 (fun k=>(ac (qAv k) a0)) (fun k=>l0) ⟨rfl,rfl,⟨rfl,Nat.le_of_ble_eq_true rfl⟩,rfl⟩ (fun _=>rfl) (by kernel_rfl) fun k x=>by kernel_rfl

def qlJ (k:Nat) (rec:List Int→Int→Int→Int→Option ((Int×Int) ⊕ (Unit))) (row:List Int) (level:Int) (nth:Int) (i:Int):Option ((Int×Int) ⊕ (Unit)):=
 if((decide (i<(((List.length row):Nat):Int)))=true)then
 if((0:Int)≤(IntKind.wrap .i64 (i-(1:Int))))then
 Option.bind (row)[(Int.toNat (IntKind.wrap .i64 (i-(1:Int))))]? fun x=>
 if((decide (x<level))=true)then
 if((0:Int)≤i)then
 Option.bind (row)[(Int.toNat i)]? fun x1=>
 if((decide (x1≥level))=true)then
 if(((IntKind.wrap .i64 (nth-(1:Int))) == (0:Int))=true)then
 (some (Sum.inl (i,(0:Int))))
 else
 rec row level (IntKind.wrap .i64 (nth-(1:Int))) (IntKind.wrap .i64 (i+(1:Int)))
 else
 rec row level nth (IntKind.wrap .i64 (i+(1:Int)))
 else
 none
 else
 rec row level nth (IntKind.wrap .i64 (i+(1:Int)))
 else
 none
 else
 (some (Sum.inr ()))
def qi6 (k n:Nat):List Int→Int→Int→Int→Option ((Int×Int) ⊕ (Unit)):=Nat.rec (fun _ _ _ _=>none) (fun _ r=>qlJ k r) n
def qov (k:Nat) (row:List Int) (level:Int) (nth:Int):Option (Int×Int):=
 if((decide (nth<(1:Int)))=true)then
 (some ((0:Int),(1:Int)))
 else
 Option.bind (qfm k level) fun r4=>
 if(r4=false)then
 Option.bind (qg0 k row) fun r5=>
 if((r5 == (4:Int))=true)then
 (some ((0:Int),(4:Int)))
 else
 Option.bind (qi6 k k row level nth (1:Int)) fun r6=>
 qc r6
 (fun r6=>
 (some (r6.1,r6.2)))
 (fun r6=>
 (some ((0:Int),(6:Int))))
 else
 (some ((0:Int),(4:Int)))
def qka:Nat→List Int→Int→Int→Option (Int×Int)
 | 0,_,_,_=>none
 | k+1,row,level,nth=>qov k row level nth
def qBF:Nat→Inst:=mkI 34 ⟨[vJ,vI,vI],[]⟩ [⟨[vI,vI],[]⟩] fun k x=>qka k x.1 x.2.1 x.2.2
theorem quc (k:Nat):qas (call cf k) [qp5 k,qs7 k]:=
 ac (qp6 k) (ac (qp7 k) a0)
def qx0 (k:Nat):LInst:=mkL 0 [⟨[(0,vJ),(1,vI),(2,vI),(8,vI)],[],0⟩] [⟨none,⟨[(6,vI),(7,vI)],[],0⟩⟩,⟨some 0,⟨[],[],0⟩⟩] (fun n x=>qi6 k n x.1 x.2.1 x.2.2.1 x.2.2.2) k
theorem qx1 (k:Nat):LIo 34 Tryz.f34 0 k (qx0 k):=
 lpk [] (quc k) l0 (fun _=>rfl) (by kernel_rfl) fun n x=>by kernel_rfl
theorem qAw:∀k,qe (call cf k) (qBF k):=
 fnk 0 [0] Tryz.func34 (fun k=>(quc k)) (fun k=>(lc (qx1 k) l0)) ⟨rfl,rfl,⟨rfl,Nat.le_of_ble_eq_true rfl⟩,rfl⟩ (fun _=>rfl) (by kernel_rfl) fun k x=>by kernel_rfl

def qkw (k:Nat) (rec:List Int→Int→Int→Int→Option (List Int×Int)) (row:List Int) (level:Int) (band:Int) (at1:Int):Option (List Int×Int):=
 if((decide (at1>(0:Int)))=true)then
 if((0:Int)≤(IntKind.wrap .i64 (at1-(1:Int))))then
 Option.bind (row)[(Int.toNat (IntKind.wrap .i64 (at1-(1:Int))))]? fun x=>
 if((decide ((IntKind.wrap .i64 (x-level))≤band))=true)then
 if((0:Int)≤(IntKind.wrap .i64 (at1-(1:Int))))then
 Option.bind (row)[(Int.toNat (IntKind.wrap .i64 (at1-(1:Int))))]? fun x1=>
 if((decide ((IntKind.wrap .i64 (level-x1))≤band))=true)then
 rec row level band (IntKind.wrap .i64 (at1-(1:Int)))
 else
 (some (row,at1))
 else
 none
 else
 (some (row,at1))
 else
 none
 else
 (some (row,at1))
def qhY (k n:Nat):List Int→Int→Int→Int→Option (List Int×Int):=Nat.rec (fun _ _ _ _=>none) (fun _ r=>qkw k r) n
def qmp (k:Nat) (row:List Int) (level:Int) (band:Int):Option (Int×Int):=
 if((decide (band<(0:Int)))=true)then
 (some ((0:Int),(1:Int)))
 else
 Option.bind (qfm k level) fun r5=>
 if(r5=false)then
 Option.bind (qg0 k row) fun r6=>
 if((r6 == (4:Int))=true)then
 (some ((0:Int),(4:Int)))
 else
 Option.bind (qhY k k row level band (((List.length row):Nat):Int)) fun r7=>
 if((r7.2 == (((List.length r7.1):Nat):Int))=true)then
 (some ((0:Int),(6:Int)))
 else
 (some (r7.2,(0:Int)))
 else
 (some ((0:Int),(4:Int)))
def qi7:Nat→List Int→Int→Int→Option (Int×Int)
 | 0,_,_,_=>none
 | k+1,row,level,band=>qmp k row level band
def qBG:Nat→Inst:=mkI 36 ⟨[vJ,vI,vI],[]⟩ [⟨[vI,vI],[]⟩] fun k x=>qi7 k x.1 x.2.1 x.2.2
theorem qud (k:Nat):qas (call cf k) [qp5 k,qs7 k]:=
 ac (qp6 k) (ac (qp7 k) a0)
def qx2 (k:Nat):LInst:=mkL 0 [⟨[(0,vJ),(1,vI),(2,vI),(8,vI)],[],0⟩] [⟨some 0,⟨[(0,vJ),(8,vI)],[],0⟩⟩] (fun n x=>qhY k n x.1 x.2.1 x.2.2.1 x.2.2.2) k
theorem qx3 (k:Nat):LIo 36 Tryz.f36 0 k (qx2 k):=
 lpk [] (qud k) l0 (fun _=>rfl) (by kernel_rfl) fun n x=>by kernel_rfl
theorem qAx:∀k,qe (call cf k) (qBG k):=
 fnk 0 [0] Tryz.func36 (fun k=>(qud k)) (fun k=>(lc (qx3 k) l0)) ⟨rfl,rfl,⟨rfl,Nat.le_of_ble_eq_true rfl⟩,rfl⟩ (fun _=>rfl) (by kernel_rfl) fun k x=>by kernel_rfl

def qg8 (k:Nat) (rec:List Int→Int→Int→Option (Int)) (x:List Int) (m:Int) (i:Int):Option (Int):=
 if((decide (i<(((List.length x):Nat):Int)))=true)then
 if((0:Int)≤i)then
 Option.bind (x)[(Int.toNat i)]? fun x2=>
 rec x (min m x2) (IntKind.wrap .i64 (i+(1:Int)))
 else
 none
 else
 (some m)
def qey (k n:Nat):List Int→Int→Int→Option (Int):=Nat.rec (fun _ _ _=>none) (fun _ r=>qg8 k r) n
def qhK (k:Nat) (x:List Int):Option (Int):=
 if((decide ((((List.length x):Nat):Int)<(1:Int)))=true)then
 none
 else
 Option.bind (x)[0]? fun x1=>
 Option.bind (qey k k x x1 (1:Int)) fun r7=>
 (some r7)
def qe6:Nat→List Int→Option (Int)
 | 0,_=>none
 | k+1,x=>qhK k x
def qAy:Nat→Inst:=mkI 84 ⟨[vJ],[]⟩ [⟨[vI],[]⟩] fun k x=>qe6 k x
def qx4 (k:Nat):LInst:=mkL 0 [⟨[(0,vJ),(3,vI),(4,vI)],[],0⟩] [⟨some 0,⟨[(3,vI)],[],0⟩⟩] (fun n x=>qey k n x.1 x.2.1 x.2.2) k
theorem qx5 (k:Nat):LIo 84 Tryz.f84 0 k (qx4 k):=
 lpk [] a0 l0 (fun _=>rfl) (by kernel_rfl) fun n x=>by kernel_rfl
theorem qx6:∀k,qe (call cf k) (qAy k):=
 fnk 0 [0] Tryz.func84 (fun k=>a0) (fun k=>(lc (qx5 k) l0)) ⟨rfl,rfl,⟨rfl,Nat.le_of_ble_eq_true rfl⟩,rfl⟩ (fun _=>rfl) (by kernel_rfl) fun k x=>by kernel_rfl

def qg9 (k:Nat) (rec:List Int→Int→Int→Option (Int)) (x:List Int) (m:Int) (i:Int):Option (Int):=
 if((decide (i<(((List.length x):Nat):Int)))=true)then
 if((0:Int)≤i)then
 Option.bind (x)[(Int.toNat i)]? fun x2=>
 rec x (max m x2) (IntKind.wrap .i64 (i+(1:Int)))
 else
 none
 else
 (some m)
def qez (k n:Nat):List Int→Int→Int→Option (Int):=Nat.rec (fun _ _ _=>none) (fun _ r=>qg9 k r) n
def qhL (k:Nat) (x:List Int):Option (Int):=
 if((decide ((((List.length x):Nat):Int)<(1:Int)))=true)then
 none
 else
 Option.bind (x)[0]? fun x1=>
 Option.bind (qez k k x x1 (1:Int)) fun r8=>
 (some r8)
def qe7:Nat→List Int→Option (Int)
 | 0,_=>none
 | k+1,x=>qhL k x
def qAz:Nat→Inst:=mkI 85 ⟨[vJ],[]⟩ [⟨[vI],[]⟩] fun k x=>qe7 k x
def qx7 (k:Nat):LInst:=mkL 0 [⟨[(0,vJ),(3,vI),(4,vI)],[],0⟩] [⟨some 0,⟨[(3,vI)],[],0⟩⟩] (fun n x=>qez k n x.1 x.2.1 x.2.2) k
theorem qx8 (k:Nat):LIo 85 Tryz.f85 0 k (qx7 k):=
 lpk [] a0 l0 (fun _=>rfl) (by kernel_rfl) fun n x=>by kernel_rfl
theorem qx9:∀k,qe (call cf k) (qAz k):=
 fnk 0 [0] Tryz.func85 (fun k=>a0) (fun k=>(lc (qx8 k) l0)) ⟨rfl,rfl,⟨rfl,Nat.le_of_ble_eq_true rfl⟩,rfl⟩ (fun _=>rfl) (by kernel_rfl) fun k x=>by kernel_rfl

def qow (k:Nat) (row:List Int):Option (Int×Int×Int):=
 Option.bind (qg0 k row) fun r6=>
 if((r6 != (0:Int))=true)then
 (some ((0:Int),(0:Int),r6))
 else
 Option.bind (qe6 k row) fun r7=>
 Option.bind (qe7 k row) fun r8=>
 (some (r7,r8,(0:Int)))
def qkb:Nat→List Int→Option (Int×Int×Int)
 | 0,_=>none
 | k+1,row=>qow k row
def qBH:Nat→Inst:=mkI 30 ⟨[vJ],[]⟩ [⟨[vI,vI,vI],[]⟩] fun k x=>qkb k x
theorem qAA:∀k,qe (call cf k) (qBH k):=
 fnk 0 [] Tryz.func30 (fun k=>(ac (qp7 k) (ac (qx6 k) (ac (qx9 k) a0)))) (fun k=>l0) ⟨rfl,rfl,⟨rfl,Nat.le_of_ble_eq_true rfl⟩,rfl⟩ (fun _=>rfl) (by kernel_rfl) fun k x=>by kernel_rfl

def qj1 (k:Nat):Option (Bool):=
 Option.bind (qeJ k) fun r=>
 Option.bind (qbQ k r.1 r.2.1 r.2.2.1 r.2.2.2.1 r.2.2.2.2 (0:Int) (List.take 2 ((7:Int)::((3:Int):: []))) (List.take 1 ((4:Int):: [])) [] (ByteArray.mk (List.toArray (118::(40::(97::(44::(120::(49::(46::(98::(41:: [])))))))))))) fun r1=>
 Option.bind (qeJ k) fun r2=>
 Option.bind (qbQ k r2.1 r2.2.1 r2.2.2.1 r2.2.2.2.1 r2.2.2.2.2 (0:Int) (List.take 2 ((7:Int)::((3:Int):: []))) (List.take 1 ((4:Int):: [])) [] (ByteArray.mk (List.toArray (105::(40::(120::(49::(46::(114::(49::(41:: []))))))))))) fun r3=>
 Option.bind (qka k (List.take 4 ((0:Int)::((5:Int)::((2:Int)::((5:Int):: []))))) (5:Int) (2:Int)) fun r4=>
 Option.bind (qi7 k (List.take 4 ((0:Int)::((9:Int)::((10:Int)::((11:Int):: []))))) (10:Int) (1:Int)) fun r5=>
 Option.bind (qkb k (List.take 3 ((3:Int)::((1:Int)::((2:Int):: []))))) fun r6=>
 if((r1.2 == (0:Int))=true)then
 if((r3.2 == (0:Int))=true)then
 if((r4.2 == (0:Int))=true)then
 if((r5.2 == (0:Int))=true)then
 if((r6.2.2 == (0:Int))=true)then
 if((r1.1 == (4:Int))=true)then
 if((r3.1 == (4:Int))=true)then
 if((r4.1 == (3:Int))=true)then
 if((r5.1 == (1:Int))=true)then
 if((r6.1 == (1:Int))=true)then
 (some (r6.2.1 == (3:Int)))
 else
 (some false)
 else
 (some false)
 else
 (some false)
 else
 (some false)
 else
 (some false)
 else
 (some false)
 else
 (some false)
 else
 (some false)
 else
 (some false)
 else
 (some false)
def qfu:Nat→Option (Bool)
 | 0=>none
 | k+1=>qj1 k
def qBI:Nat→Inst:=mkI 25 ⟨[],[]⟩ [⟨[vB],[]⟩] fun k x=>qfu k
theorem qAB:∀k,qe (call cf k) (qBI k):=
 fnk 0 [] Tryz.func25 (fun k=>(ac (qzT k) (ac (qua k) (ac (qAw k) (ac (qAx k) (ac (qAA k) a0)))))) (fun k=>l0) ⟨rfl,rfl,⟨rfl,Nat.le_of_ble_eq_true rfl⟩,rfl⟩ (fun _=>rfl) (by kernel_rfl) fun k x=>by kernel_rfl


end
end Go.Proofs.YtlnailgfialgnaaGreatDoor.Am
