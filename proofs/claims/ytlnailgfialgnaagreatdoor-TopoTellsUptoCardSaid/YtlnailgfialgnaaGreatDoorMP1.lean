/- Printed functions: each says what the typed machine says of the program -/
import Derived.Test.YtlnailgfialgnaaGreatDoorMA3
import Derived.KernelRfl

set_option linter.unusedVariables false
set_option maxRecDepth 100000
namespace Go.Proofs.YtlnailgfialgnaaGreatDoor.Am
theorem qT:True:=True.intro
theorem qA {a b:Prop} (h:a) (k:b):a∧b:=And.intro h k
open Go
noncomputable section
abbrev DvT:Type:=Int×ByteArray×List Int×Int×(Int×Int)×(Int×List (Int×Int)×List Int)×ByteArray×Int×List (Int×Int)×List (Int×Int)
abbrev qC:Cd:= .pr (.int .u8) (.pr .str (.pr (.sl (.int .i64)) (.pr (.int .i64) (.pr (.pr (.int .i64) (.int .i64)) (.pr (.pr (.int .i64) (.pr (.sl (.pr (.int .i64) (.int .i64))) (.sl (.int .i64)))) (.pr .str (.pr (.int .u8) (.pr (.sl (.pr (.int .i64) (.int .i64))) (.sl (.pr (.int .i64) (.int .i64)))))))))))

def qe0 (k:Nat) (rec:List Int→Int→Option (List Int×Int)) (w:List Int) (n:Int):Option (List Int×Int):=
 if((decide (n>(0:Int)))=true)then
 if((0:Int)≤(IntKind.wrap .i64 (n-(1:Int))))then
 Option.bind (w)[(Int.toNat (IntKind.wrap .i64 (n-(1:Int))))]? fun x=>
 if((x == (0:Int))=true)then
 rec w (IntKind.wrap .i64 (n-(1:Int)))
 else
 (some (w,n))
 else
 none
 else
 (some (w,n))
def qfJ (k n:Nat):List Int→Int→Option (List Int×Int):=Nat.rec (fun _ _=>none) (fun _ r=>qe0 k r) n
def qi2 (k:Nat) (w:List Int):Option (List Int):=
 Option.bind (qfJ k k w (((List.length w):Nat):Int)) fun r1=>
 if(((0:Int)≤(0:Int))∧(((0:Int)≤r1.2)∧(r1.2≤(((List.length r1.1):Nat):Int))))then
 (some (List.take (Int.toNat r1.2) r1.1))
 else
 none
def qdJ:Nat→List Int→Option (List Int)
 | 0,_=>none
 | k+1,w=>qi2 k w
def qvS:Nat→Inst:=mkI 141 ⟨[vT],[]⟩ [⟨[vT],[]⟩] fun k x=>qdJ k x
def qjI:SS:=⟨[(0,vT),(3,vI)],[],0⟩
def qvT (k:Nat):LInst:=mkL 0 [qjI] [⟨some 0,qjI⟩] (fun n x=>qfJ k n x.1 x.2) k
theorem qvU (k:Nat):LIo 141 Tryz.f141 0 k (qvT k):=
 lpk [] a0 l0 (fun _=>rfl) (by kernel_rfl) fun n x=>by kernel_rfl
theorem qkB:∀k,qg (call cf k) (qvS k):=
 fnk 0 [0] Tryz.func141 (fun k=>a0) (fun k=>(lc (qvU k) l0)) ⟨rfl,rfl,⟨rfl,Nat.le_of_ble_eq_true rfl⟩,rfl⟩ (fun _=>rfl) (by kernel_rfl) fun k x=>by kernel_rfl

def qfW (k:Nat) (neg:Bool) (w:List Int) (z:Bool):Option (Bool×List Int):=
 Option.bind (qdJ k w) fun r1=>
 if(neg=true)then
 (some ((decide ((((List.length r1):Nat):Int)>(0:Int))),r1))
 else
 (some (false,r1))
def qbw:Nat→Bool→List Int→Bool→Option (Bool×List Int)
 | 0,_,_,_=>none
 | k+1,neg,w,z=>qfW k neg w z
def Iq8:Nat→Inst:=mkI 198 ⟨[.a (.ptr 0 0 0),vB,vT],[.raw [[.lf .bool,.snil 1 106]] 2 147 true false false]⟩ [⟨[.a (.ptr 0 0 0)],[.raw [[.lf .bool,.lf cW]] 2 147 true false false]⟩] fun k x=>qbw k x.1 x.2.1 x.2.2
theorem qpA:∀k,qg (call cf k) (Iq8 k):=
 fnk 1 [] Tryz.func198 (fun k=>(ac (qkB k) a0)) (fun k=>l0) ⟨rfl,rfl,⟨rfl,Nat.le_of_ble_eq_true rfl⟩,rfl⟩ (fun _=>rfl) (by kernel_rfl) fun k x=>by kernel_rfl

def qaf (k:Nat) (rec:Nat→Int→Int→Int→List Int→Int→Int→List Int→Int→Int→Bool→Bool→List Int→Bool→List Int→List Int→Option (Nat×Int×Int×List Int×Int×Int×Bool×Bool×List Int×Bool×List Int×List Int)) (out1:Nat) (i:Int) (a:Int) (carry:Int) (x:List Int) (x1:Int) (x2:Int) (x3:List Int) (x4:Int) (x5:Int) (z:Bool) (x0:Bool) (x11:List Int) (y0:Bool) (y1:List Int) (outs:List Int):Option (Nat×Int×Int×List Int×Int×Int×Bool×Bool×List Int×Bool×List Int×List Int):=
 if((decide (x5<x4))=true)then
 if((0:Int)≤x5)then
 Option.bind (x3)[(Int.toNat x5)]? fun x6=>
 if(((0:Int)≤(IntKind.wrap .i64 (i+x5)))∧((IntKind.wrap .i64 (i+x5))<((out1:Nat):Int)))then
 Option.bind (outs)[(0+(Int.toNat (IntKind.wrap .i64 (i+x5))))]? fun x7=>
 if(((0:Int)≤(IntKind.wrap .i64 (i+x5)))∧((IntKind.wrap .i64 (i+x5))<((out1:Nat):Int)))then
 Option.bind (outs)[(0+(Int.toNat (IntKind.wrap .i64 (i+x5))))]? fun x8=>
 rec out1 i a (Int.fdiv (IntKind.wrap .u64 ((IntKind.wrap .u64 ((IntKind.wrap .u64 ((IntKind.wrap .u64 a)*(IntKind.wrap .u64 x6)))+(IntKind.wrap .u64 x7)))+carry)) (4294967296:Int)) x x1 x2 x3 x4 (IntKind.wrap .i64 (x5+(1:Int))) z x0 x11 y0 y1 (List.set outs (0+(Int.toNat (IntKind.wrap .i64 (i+x5)))) (IntKind.wrap .u32 (IntKind.wrap .u64 ((IntKind.wrap .u64 ((IntKind.wrap .u64 ((IntKind.wrap .u64 a)*(IntKind.wrap .u64 x6)))+(IntKind.wrap .u64 x7)))+carry))))
 else
 none
 else
 none
 else
 none
 else
 (some (out1,i,carry,x,x1,x2,z,x0,x11,y0,y1,outs))
def qab (k n:Nat):Nat→Int→Int→Int→List Int→Int→Int→List Int→Int→Int→Bool→Bool→List Int→Bool→List Int→List Int→Option (Nat×Int×Int×List Int×Int×Int×Bool×Bool×List Int×Bool×List Int×List Int):=Nat.rec (fun _ _ _ _ _ _ _ _ _ _ _ _ _ _ _ _=>none) (fun _ r=>qaf k r) n
def qag (k:Nat) (rec:Nat→List Int→Int→Int→Bool→Bool→List Int→Bool→List Int→List Int→Option (Nat×Bool×Bool×List Int×Bool×List Int×List Int)) (out1:Nat) (x:List Int) (x1:Int) (x2:Int) (z:Bool) (x0:Bool) (x11:List Int) (y0:Bool) (y1:List Int) (outs:List Int):Option (Nat×Bool×Bool×List Int×Bool×List Int×List Int):=
 if((decide (x2<x1))=true)then
 if((0:Int)≤x2)then
 Option.bind (x)[(Int.toNat x2)]? fun x3=>
 Option.bind (qab k k out1 x2 x3 (0:Int) x x1 x2 y1 (((List.length y1):Nat):Int) (0:Int) z x0 x11 y0 y1 outs) fun r=>
 if(((0:Int)≤(IntKind.wrap .i64 (r.2.1+(((List.length r.2.2.2.2.2.2.2.2.2.2.1):Nat):Int))))∧((IntKind.wrap .i64 (r.2.1+(((List.length r.2.2.2.2.2.2.2.2.2.2.1):Nat):Int)))<((r.1:Nat):Int)))then
 Option.bind (r.2.2.2.2.2.2.2.2.2.2.2)[(0+(Int.toNat (IntKind.wrap .i64 (r.2.1+(((List.length r.2.2.2.2.2.2.2.2.2.2.1):Nat):Int)))))]? fun x4=>
 rec r.1 r.2.2.2.1 r.2.2.2.2.1 (IntKind.wrap .i64 (r.2.2.2.2.2.1+(1:Int))) r.2.2.2.2.2.2.1 r.2.2.2.2.2.2.2.1 r.2.2.2.2.2.2.2.2.1 r.2.2.2.2.2.2.2.2.2.1 r.2.2.2.2.2.2.2.2.2.2.1 (List.set r.2.2.2.2.2.2.2.2.2.2.2 (0+(Int.toNat (IntKind.wrap .i64 (r.2.1+(((List.length r.2.2.2.2.2.2.2.2.2.2.1):Nat):Int))))) (IntKind.wrap .u32 r.2.2.1))
 else
 none
 else
 none
 else
 (some (out1,z,x0,x11,y0,y1,outs))
def qP (k n:Nat):Nat→List Int→Int→Int→Bool→Bool→List Int→Bool→List Int→List Int→Option (Nat×Bool×Bool×List Int×Bool×List Int×List Int):=Nat.rec (fun _ _ _ _ _ _ _ _ _ _=>none) (fun _ r=>qag k r) n
def qdq (k:Nat) (z:Bool) (x0:Bool) (x1:List Int) (y0:Bool) (y1:List Int):Option (Bool×List Int×Bool×List Int×Bool×List Int):=
 if(((0:Int)≤(IntKind.wrap .i64 ((((List.length x1):Nat):Int)+(((List.length y1):Nat):Int))))∧(((IntKind.wrap .i64 ((((List.length x1):Nat):Int)+(((List.length y1):Nat):Int)))≤(IntKind.wrap .i64 ((((List.length x1):Nat):Int)+(((List.length y1):Nat):Int))))∧(((IntKind.wrap .i64 ((((List.length x1):Nat):Int)+(((List.length y1):Nat):Int)))*(4:Int))≤(140737488355328:Int))))then
 Option.bind (qP k k (Int.toNat (IntKind.wrap .i64 ((((List.length x1):Nat):Int)+(((List.length y1):Nat):Int)))) x1 (((List.length x1):Nat):Int) (0:Int) z x0 x1 y0 y1 (List.replicate (Int.toNat (IntKind.wrap .i64 ((((List.length x1):Nat):Int)+(((List.length y1):Nat):Int)))) (0:Int))) fun r=>
 if((0+r.1)≤(List.length r.2.2.2.2.2.2))then
 Option.bind (qbw k (!(r.2.2.1 == r.2.2.2.2.1)) (List.take r.1 r.2.2.2.2.2.2) r.2.1) fun r1=>
 (some (r1.1,r1.2,r.2.2.1,r.2.2.2.1,r.2.2.2.2.1,r.2.2.2.2.2.1))
 else
 none
 else
 none
def qeh:Nat→Bool→Bool→List Int→Bool→List Int→Option (Bool×List Int×Bool×List Int×Bool×List Int)
 | 0,_,_,_,_,_=>none
 | k+1,z,x0,x1,y0,y1=>qdq k z x0 x1 y0 y1
def Iq3:Nat→Inst:=mkI 155 ⟨[.a (.ptr 0 0 0),.a (.ptr 1 0 0),.a (.ptr 2 0 0)],[.raw [[.lf .bool,.snil 1 106]] 2 147 true false false,.raw [[.lf .bool,.lf cW]] 2 147 true false false,.raw [[.lf .bool,.lf cW]] 2 147 true false false]⟩ [⟨[.a (.ptr 0 0 0)],[.raw [[.lf .bool,.lf cW]] 2 147 true false false,.raw [[.lf .bool,.lf cW]] 2 147 true false false,.raw [[.lf .bool,.lf cW]] 2 147 true false false]⟩] fun k x=>qeh k x.1 x.2.1 x.2.2.1 x.2.2.2.1 x.2.2.2.2
theorem qsJ (k:Nat):qaH (call cf k) [Iq8 k]:=
 ac (qpA k) a0
def qvV (k:Nat):LInst:=mkL 2 [⟨[(0,.a (.ptr 0 0 0)),(1,.a (.ptr 1 0 0)),(2,.a (.ptr 2 0 0)),(7,.a (.smz 3)),(8,vI),(9,.a (.lf (.int .u32))),(10,vU),(29,vT),(30,vI),(31,vI),(39,vT),(40,vI),(41,vI)],[(0,some (.raw [[.lf .bool,.snil 1 106]] 2 147 true false false)),(1,some (.raw [[.lf .bool,.lf cW]] 2 147 true false false)),(2,some (.raw [[.lf .bool,.lf cW]] 2 147 true false false)),(3,some (.arr (.int .u32) 1 106 false))],4⟩] [⟨some 2,⟨[(0,.a (.ptr 0 0 0)),(1,.a (.ptr 1 0 0)),(2,.a (.ptr 2 0 0)),(7,.a (.smz 3)),(8,vI),(10,vU),(29,vT),(30,vI),(31,vI)],[(0,some (.raw [[.lf .bool,.snil 1 106]] 2 147 true false false)),(1,some (.raw [[.lf .bool,.lf cW]] 2 147 true false false)),(2,some (.raw [[.lf .bool,.lf cW]] 2 147 true false false)),(3,some (.arr (.int .u32) 1 106 false))],4⟩⟩] (fun n x=>qab k n x.1 x.2.1 x.2.2.1 x.2.2.2.1 x.2.2.2.2.1 x.2.2.2.2.2.1 x.2.2.2.2.2.2.1 x.2.2.2.2.2.2.2.1 x.2.2.2.2.2.2.2.2.1 x.2.2.2.2.2.2.2.2.2.1 x.2.2.2.2.2.2.2.2.2.2.1 x.2.2.2.2.2.2.2.2.2.2.2.1 x.2.2.2.2.2.2.2.2.2.2.2.2.1 x.2.2.2.2.2.2.2.2.2.2.2.2.2.1 x.2.2.2.2.2.2.2.2.2.2.2.2.2.2.1 x.2.2.2.2.2.2.2.2.2.2.2.2.2.2.2) k
theorem qqX (k:Nat):LIo 155 Tryz.f155 3 k (qvV k):=
 lpk [] (qsJ k) l0 (fun _=>rfl) (by kernel_rfl) fun n x=>by kernel_rfl
def qvW (k:Nat):LInst:=mkL 0 [⟨[(0,.a (.ptr 0 0 0)),(1,.a (.ptr 1 0 0)),(2,.a (.ptr 2 0 0)),(7,.a (.smz 3)),(29,vT),(30,vI),(31,vI)],[(0,some (.raw [[.lf .bool,.snil 1 106]] 2 147 true false false)),(1,some (.raw [[.lf .bool,.lf cW]] 2 147 true false false)),(2,some (.raw [[.lf .bool,.lf cW]] 2 147 true false false)),(3,some (.arr (.int .u32) 1 106 false))],4⟩] [⟨some 0,⟨[(0,.a (.ptr 0 0 0)),(1,.a (.ptr 1 0 0)),(2,.a (.ptr 2 0 0)),(7,.a (.smz 3))],[(0,some (.raw [[.lf .bool,.snil 1 106]] 2 147 true false false)),(1,some (.raw [[.lf .bool,.lf cW]] 2 147 true false false)),(2,some (.raw [[.lf .bool,.lf cW]] 2 147 true false false)),(3,some (.arr (.int .u32) 1 106 false))],4⟩⟩] (fun n x=>qP k n x.1 x.2.1 x.2.2.1 x.2.2.2.1 x.2.2.2.2.1 x.2.2.2.2.2.1 x.2.2.2.2.2.2.1 x.2.2.2.2.2.2.2.1 x.2.2.2.2.2.2.2.2.1 x.2.2.2.2.2.2.2.2.2) k
theorem qvX (k:Nat):LIo 155 Tryz.f155 3 k (qvW k):=
 lpk [2] (qsJ k) (lc (qqX k) l0) (fun _=>rfl) (by kernel_rfl) fun n x=>by kernel_rfl
theorem qBl:∀k,qg (call cf k) (Iq3 k):=
 fnk 3 [0] Tryz.func155 (fun k=>(qsJ k)) (fun k=>(lc (qqX k) (lc (qvX k) l0))) ⟨rfl,rfl,⟨rfl,Nat.le_of_ble_eq_true rfl⟩,rfl⟩ (fun _=>rfl) (by kernel_rfl) fun k x=>by kernel_rfl

def qiB (k:Nat) (n0:Int) (n1:Int):Option (Bool):=
 if((n0 == (0:Int))=true)then
 (some (n1 == (0:Int)))
 else
 if((decide (n0≥(-(999999999:Int))))=true)then
 if((decide (n0≤(999999999:Int)))=true)then
 if(((Int.tmod n0 (10:Int)) != (0:Int))=true)then
 if((decide (n1≥(-(18:Int))))=true)then
 (some (decide (n1≤(9:Int))))
 else
 (some false)
 else
 (some false)
 else
 (some false)
 else
 (some false)
def qY:Nat→Int→Int→Option (Bool)
 | 0,_,_=>none
 | k+1,n0,n1=>qiB k n0 n1
def qna:Nat→Inst:=mkI 118 ⟨[.g [.lf (.int .i64),.lf (.int .i64)]],[]⟩ [⟨[vB],[]⟩] fun k x=>qY k x.1 x.2
theorem qkC:∀k,qg (call cf k) (qna k):=
 fnk 0 [] Tryz.func118 (fun k=>a0) (fun k=>l0) ⟨rfl,rfl,⟨rfl,Nat.le_of_ble_eq_true rfl⟩,rfl⟩ (fun _=>rfl) (by kernel_rfl) fun k x=>by kernel_rfl

def qd6 (k:Nat) (rec:List ByteArray→List ByteArray→Int→Int→List (ByteArray×Int)→Option (List ByteArray×List (ByteArray×Int))) (l:List ByteArray) (x:List ByteArray) (x1:Int) (x2:Int) (seens:List (ByteArray×Int)):Option (List ByteArray×List (ByteArray×Int)):=
 if((decide (x2<x1))=true)then
 if((0:Int)≤x2)then
 Option.bind (x)[(Int.toNat x2)]? fun x3=>
 rec l x x1 (IntKind.wrap .i64 (x2+(1:Int))) (qal .str (.int .i64) seens x3 (IntKind.wrap .i64 ((qhb .str (.int .i64) seens x3 (0:Int))+(1:Int))))
 else
 none
 else
 (some (l,seens))
def qc5 (k n:Nat):List ByteArray→List ByteArray→Int→Int→List (ByteArray×Int)→Option (List ByteArray×List (ByteArray×Int)):=Nat.rec (fun _ _ _ _ _=>none) (fun _ r=>qd6 k r) n
def qhZ (k:Nat) (l:List ByteArray):Option (Bool):=
 Option.bind (qc5 k k l l (((List.length l):Nat):Int) (0:Int) []) fun r2=>
 (some ((((List.length r2.2):Nat):Int) != (((List.length r2.1):Nat):Int)))
def qbY:Nat→List ByteArray→Option (Bool)
 | 0,_=>none
 | k+1,l=>qhZ k l
def qvY:Nat→Inst:=mkI 183 ⟨[vR],[]⟩ [⟨[vB],[]⟩] fun k x=>qbY k x
def qvZ (k:Nat):LInst:=mkL 0 [⟨[(0,vR),(3,.a (.mp 0)),(7,vR),(8,vI),(9,vI)],[(0,some (.map .str (.int .i64) 261 false))],1⟩] [⟨some 0,⟨[(0,vR),(3,.a (.mp 0))],[(0,some (.map .str (.int .i64) 261 false))],1⟩⟩] (fun n x=>qc5 k n x.1 x.2.1 x.2.2.1 x.2.2.2.1 x.2.2.2.2) k
theorem qv0 (k:Nat):LIo 183 Tryz.f183 0 k (qvZ k):=
 lpk [] a0 l0 (fun _=>rfl) (by kernel_rfl) fun n x=>by kernel_rfl
theorem qzw:∀k,qg (call cf k) (qvY k):=
 fnk 0 [0] Tryz.func183 (fun k=>a0) (fun k=>(lc (qv0 k) l0)) ⟨rfl,rfl,⟨rfl,Nat.le_of_ble_eq_true rfl⟩,rfl⟩ (fun _=>rfl) (by kernel_rfl) fun k x=>by kernel_rfl

def qgo (k:Nat) (s:ByteArray):Option (Empty):=
 none
def qdE:Nat→ByteArray→Option (Empty)
 | 0,_=>none
 | k+1,s=>qgo k s
def qAH:Nat→Inst:=mkI 237 ⟨[vS],[]⟩ [] fun k x=>qdE k x
theorem qzx:∀k,qg (call cf k) (qAH k):=
 fnk 0 [0] Tryz.func237 (fun k=>a0) (fun k=>l0) ⟨rfl,rfl,⟨rfl,Nat.le_of_ble_eq_true rfl⟩,rfl⟩ (fun _=>rfl) (by kernel_rfl) fun k x=>by kernel_rfl

def qj0 (k:Nat) (s:ByteArray) (n:Int):Option (Empty):=
 Option.bind (qdE k s) fun r3=>
 nomatch r3
def qhA:Nat→ByteArray→Int→Option (Empty)
 | 0,_,_=>none
 | k+1,s,n=>qj0 k s n
def qv1:Nat→Inst:=mkI 228 ⟨[vS,vI],[]⟩ [] fun k x=>qhA k x.1 x.2
theorem qzy:∀k,qg (call cf k) (qv1 k):=
 fnk 0 [0] Tryz.func228 (fun k=>(ac (qzx k) a0)) (fun k=>l0) ⟨rfl,rfl,⟨rfl,Nat.le_of_ble_eq_true rfl⟩,rfl⟩ (fun _=>rfl) (by kernel_rfl) fun k x=>by kernel_rfl

def qgO (k:Nat) (s:ByteArray) (substr:ByteArray):Option (Int):=
 if((List.length (Array.toList (ByteArray.data substr)))=1)then
 (some (qsD s substr))
 else
 none
def qdo:Nat→ByteArray→ByteArray→Option (Int)
 | 0,_,_=>none
 | k+1,s,substr=>qgO k s substr
def qkD:FS:=⟨[vS,vS],[]⟩
def qmc:List FS:= [⟨[vI],[]⟩]
def qv2 (k:Nat):Inst:=⟨229,qkD,qmc,fun x=>qdo k x.1 x.2⟩
theorem qzz (k:Nat) (x:qkD.D):qdo (k+1) x.1 x.2=(qju) (DS FS.D qmc) (qkD.enc x).1 (qkD.enc x).2 (qgN FS.dec qmc):=by kernel_rfl
theorem qzA:∀k,qg (call cf k) (qv2 k)
 | 0=>fun x y e=>absurd (show(none:Option _)=some y from e) (by simp)
 | k+1=>qjY (c:=cf) (k:=k) (f:=229) (g:=qhs) (G:=qju) (sh:=qkD) (os:=qmc) rfl (qpz) (fun x=>qdo (k+1) x.1 x.2) (qzz k)

def qgP (k:Nat) (s:ByteArray) (substr:ByteArray):Option (Int):=
 if((List.length (Array.toList (ByteArray.data substr)))=1)then
 (some (qsC s substr))
 else
 none
def qdp:Nat→ByteArray→ByteArray→Option (Int)
 | 0,_,_=>none
 | k+1,s,substr=>qgP k s substr
def qkE:FS:=⟨[vS,vS],[]⟩
def qmd:List FS:= [⟨[vI],[]⟩]
def qv3 (k:Nat):Inst:=⟨230,qkE,qmd,fun x=>qdp k x.1 x.2⟩
theorem qzB (k:Nat) (x:qkE.D):qdp (k+1) x.1 x.2=(qjt) (DS FS.D qmd) (qkE.enc x).1 (qkE.enc x).2 (qgN FS.dec qmd):=by kernel_rfl
theorem qzC:∀k,qg (call cf k) (qv3 k)
 | 0=>fun x y e=>absurd (show(none:Option _)=some y from e) (by simp)
 | k+1=>qjY (c:=cf) (k:=k) (f:=230) (g:=qhr) (G:=qjt) (sh:=qkE) (os:=qmd) rfl (qpy) (fun x=>qdp (k+1) x.1 x.2) (qzB k)

def qcj (k:Nat) (rec:ByteArray→ByteArray→Int→Int→Nat→Int→List ByteArray→Option (ByteArray×Nat×Int×List ByteArray)) (s:ByteArray) (sep:ByteArray) (sepSave:Int) (n:Int) (a:Nat) (i:Int) (as1:List ByteArray):Option (ByteArray×Nat×Int×List ByteArray):=
 if((decide (i<n))=true)then
 Option.bind (qdp k s sep) fun r4=>
 if((decide (r4<(0:Int)))=true)then
 (some (s,a,i,as1))
 else
 if(((0:Int)≤(0:Int))∧(((0:Int)≤(IntKind.wrap .i64 (r4+sepSave)))∧((IntKind.wrap .i64 (r4+sepSave))≤(((ByteArray.size s):Nat):Int))))then
 if(((0:Int)≤i)∧(i<((a:Nat):Int)))then
 Option.bind (as1)[(0+(Int.toNat i))]? fun x4=>
 if(((0:Int)≤(IntKind.wrap .i64 (r4+(((ByteArray.size sep):Nat):Int))))∧(((IntKind.wrap .i64 (r4+(((ByteArray.size sep):Nat):Int)))≤(((ByteArray.size s):Nat):Int))∧((((ByteArray.size s):Nat):Int)≤(((ByteArray.size s):Nat):Int))))then
 rec (ByteArray.extract s (Int.toNat (IntKind.wrap .i64 (r4+(((ByteArray.size sep):Nat):Int)))) (Int.toNat (((ByteArray.size s):Nat):Int))) sep sepSave n a (IntKind.wrap .i64 (i+(1:Int))) (List.set as1 (0+(Int.toNat i)) (ByteArray.extract s 0 (Int.toNat (IntKind.wrap .i64 (r4+sepSave)))))
 else
 none
 else
 none
 else
 none
 else
 (some (s,a,i,as1))
def qaz (k n:Nat):ByteArray→ByteArray→Int→Int→Nat→Int→List ByteArray→Option (ByteArray×Nat×Int×List ByteArray):=Nat.rec (fun _ _ _ _ _ _ _=>none) (fun _ r=>qcj k r) n
def qfp (k:Nat) (s:ByteArray) (sep:ByteArray) (sepSave:Int) (n:Int):Option (List ByteArray):=
 if((n == (0:Int))=true)then
 (some [])
 else
 if(((Array.toList (ByteArray.data sep)) == (Array.toList (ByteArray.data (ByteArray.mk (List.toArray [])))))=true)then
 Option.bind (qhA k s n) fun r3=>
 nomatch r3
 else
 if((decide (n<(0:Int)))=true)then
 Option.bind (qdo k s sep) fun r3=>
 if(((0:Int)≤(min (IntKind.wrap .i64 (r3+(1:Int))) (IntKind.wrap .i64 ((((ByteArray.size s):Nat):Int)+(1:Int)))))∧(((min (IntKind.wrap .i64 (r3+(1:Int))) (IntKind.wrap .i64 ((((ByteArray.size s):Nat):Int)+(1:Int))))≤(min (IntKind.wrap .i64 (r3+(1:Int))) (IntKind.wrap .i64 ((((ByteArray.size s):Nat):Int)+(1:Int)))))∧(((min (IntKind.wrap .i64 (r3+(1:Int))) (IntKind.wrap .i64 ((((ByteArray.size s):Nat):Int)+(1:Int))))*(16:Int))≤(140737488355328:Int))))then
 Option.bind (qaz k k s sep sepSave (IntKind.wrap .i64 ((min (IntKind.wrap .i64 (r3+(1:Int))) (IntKind.wrap .i64 ((((ByteArray.size s):Nat):Int)+(1:Int))))-(1:Int))) (Int.toNat (min (IntKind.wrap .i64 (r3+(1:Int))) (IntKind.wrap .i64 ((((ByteArray.size s):Nat):Int)+(1:Int))))) (0:Int) (List.replicate (Int.toNat (min (IntKind.wrap .i64 (r3+(1:Int))) (IntKind.wrap .i64 ((((ByteArray.size s):Nat):Int)+(1:Int))))) (ByteArray.mk (List.toArray [])))) fun r4=>
 if(((0:Int)≤r4.2.2.1)∧(r4.2.2.1<((r4.2.1:Nat):Int)))then
 Option.bind (r4.2.2.2)[(0+(Int.toNat r4.2.2.1))]? fun x4=>
 if(((0:Int)≤(0:Int))∧(((0:Int)≤(IntKind.wrap .i64 (r4.2.2.1+(1:Int))))∧(((0+(Int.toNat (IntKind.wrap .i64 (r4.2.2.1+(1:Int)))))≤(List.length (List.set r4.2.2.2 (0+(Int.toNat r4.2.2.1)) r4.1)))∧(((0:Int)<(IntKind.wrap .i64 (r4.2.2.1+(1:Int))))∨(true=true)))))then
 if((0+(Int.toNat (IntKind.wrap .i64 (r4.2.2.1+(1:Int)))))≤(List.length (List.set r4.2.2.2 (0+(Int.toNat r4.2.2.1)) r4.1)))then
 (some (List.take (Int.toNat (IntKind.wrap .i64 (r4.2.2.1+(1:Int)))) (List.set r4.2.2.2 (0+(Int.toNat r4.2.2.1)) r4.1)))
 else
 none
 else
 none
 else
 none
 else
 none
 else
 if(((0:Int)≤(min n (IntKind.wrap .i64 ((((ByteArray.size s):Nat):Int)+(1:Int)))))∧(((min n (IntKind.wrap .i64 ((((ByteArray.size s):Nat):Int)+(1:Int))))≤(min n (IntKind.wrap .i64 ((((ByteArray.size s):Nat):Int)+(1:Int)))))∧(((min n (IntKind.wrap .i64 ((((ByteArray.size s):Nat):Int)+(1:Int))))*(16:Int))≤(140737488355328:Int))))then
 Option.bind (qaz k k s sep sepSave (IntKind.wrap .i64 ((min n (IntKind.wrap .i64 ((((ByteArray.size s):Nat):Int)+(1:Int))))-(1:Int))) (Int.toNat (min n (IntKind.wrap .i64 ((((ByteArray.size s):Nat):Int)+(1:Int))))) (0:Int) (List.replicate (Int.toNat (min n (IntKind.wrap .i64 ((((ByteArray.size s):Nat):Int)+(1:Int))))) (ByteArray.mk (List.toArray [])))) fun r3=>
 if(((0:Int)≤r3.2.2.1)∧(r3.2.2.1<((r3.2.1:Nat):Int)))then
 Option.bind (r3.2.2.2)[(0+(Int.toNat r3.2.2.1))]? fun x4=>
 if(((0:Int)≤(0:Int))∧(((0:Int)≤(IntKind.wrap .i64 (r3.2.2.1+(1:Int))))∧(((0+(Int.toNat (IntKind.wrap .i64 (r3.2.2.1+(1:Int)))))≤(List.length (List.set r3.2.2.2 (0+(Int.toNat r3.2.2.1)) r3.1)))∧(((0:Int)<(IntKind.wrap .i64 (r3.2.2.1+(1:Int))))∨(true=true)))))then
 if((0+(Int.toNat (IntKind.wrap .i64 (r3.2.2.1+(1:Int)))))≤(List.length (List.set r3.2.2.2 (0+(Int.toNat r3.2.2.1)) r3.1)))then
 (some (List.take (Int.toNat (IntKind.wrap .i64 (r3.2.2.1+(1:Int)))) (List.set r3.2.2.2 (0+(Int.toNat r3.2.2.1)) r3.1)))
 else
 none
 else
 none
 else
 none
 else
 none
def qfq:Nat→ByteArray→ByteArray→Int→Int→Option (List ByteArray)
 | 0,_,_,_,_=>none
 | k+1,s,sep,sepSave,n=>qfp k s sep sepSave n
def qAI:Nat→Inst:=mkI 193 ⟨[vS,vS,vI,vI],[]⟩ [⟨[vR],[]⟩] fun k x=>qfq k x.1 x.2.1 x.2.2.1 x.2.2.2
theorem qtA (k:Nat):qaH (call cf k) [qv1 k,qv2 k,qv3 k]:=
 ac (qzy k) (ac (qzA k) (ac (qzC k) a0))
def qv4 (k:Nat):LInst:=mkL 0 [⟨[(0,vS),(1,vS),(2,vI),(3,vI),(9,.a (.smz 0)),(10,vI)],[(0,some (.arr .str 1 9 false))],1⟩] [⟨some 0,⟨[(0,vS),(9,.a (.smz 0)),(10,vI)],[(0,some (.arr .str 1 9 false))],1⟩⟩] (fun n x=>qaz k n x.1 x.2.1 x.2.2.1 x.2.2.2.1 x.2.2.2.2.1 x.2.2.2.2.2.1 x.2.2.2.2.2.2) k
theorem qv5 (k:Nat):LIo 193 Tryz.f193 0 k (qv4 k):=
 lpk [] (qtA k) l0 (fun _=>rfl) (by kernel_rfl) fun n x=>by kernel_rfl
theorem qzD:∀k,qg (call cf k) (qAI k):=
 fnk 0 [0] Tryz.func193 (fun k=>(qtA k)) (fun k=>(lc (qv5 k) l0)) ⟨rfl,rfl,⟨rfl,Nat.le_of_ble_eq_true rfl⟩,rfl⟩ (fun _=>rfl) (by kernel_rfl) fun k x=>by kernel_rfl

def qgQ (k:Nat) (s:ByteArray) (sep:ByteArray):Option (List ByteArray):=
 Option.bind (qfq k s sep (0:Int) (-(1:Int))) fun r3=>
 (some r3)
def qfj:Nat→ByteArray→ByteArray→Option (List ByteArray)
 | 0,_,_=>none
 | k+1,s,sep=>qgQ k s sep
def qAJ:Nat→Inst:=mkI 133 ⟨[vS,vS],[]⟩ [⟨[vR],[]⟩] fun k x=>qfj k x.1 x.2
theorem qzE:∀k,qg (call cf k) (qAJ k):=
 fnk 0 [] Tryz.func133 (fun k=>(ac (qzD k) a0)) (fun k=>l0) ⟨rfl,rfl,⟨rfl,Nat.le_of_ble_eq_true rfl⟩,rfl⟩ (fun _=>rfl) (by kernel_rfl) fun k x=>by kernel_rfl

def qcC (k:Nat) (rec:List Int→Int→Int→Option ((Bool) ⊕ (Unit))) (x:List Int) (x1:Int) (x2:Int):Option ((Bool) ⊕ (Unit)):=
 if((decide (x2<x1))=true)then
 if((0:Int)≤x2)then
 Option.bind (x)[(Int.toNat x2)]? fun x5=>
 if((decide (x5≥(97:Int)))=true)then
 if((decide (x5≤(122:Int)))=false)then
 if((decide (x5≥(48:Int)))=true)then
 if((decide (x5≤(57:Int)))=false)then
 if((!(x5 == (95:Int)))=true)then
 (some (Sum.inl false))
 else
 rec x x1 (IntKind.wrap .i64 (x2+(1:Int)))
 else
 rec x x1 (IntKind.wrap .i64 (x2+(1:Int)))
 else
 if((!(x5 == (95:Int)))=true)then
 (some (Sum.inl false))
 else
 rec x x1 (IntKind.wrap .i64 (x2+(1:Int)))
 else
 rec x x1 (IntKind.wrap .i64 (x2+(1:Int)))
 else
 if((decide (x5≥(48:Int)))=true)then
 if((decide (x5≤(57:Int)))=false)then
 if((!(x5 == (95:Int)))=true)then
 (some (Sum.inl false))
 else
 rec x x1 (IntKind.wrap .i64 (x2+(1:Int)))
 else
 rec x x1 (IntKind.wrap .i64 (x2+(1:Int)))
 else
 if((!(x5 == (95:Int)))=true)then
 (some (Sum.inl false))
 else
 rec x x1 (IntKind.wrap .i64 (x2+(1:Int)))
 else
 none
 else
 (some (Sum.inr ()))
def qbH (k n:Nat):List Int→Int→Int→Option ((Bool) ⊕ (Unit)):=Nat.rec (fun _ _ _=>none) (fun _ r=>qcC k r) n
def qh0 (k:Nat) (s:ByteArray):Option (Bool):=
 if((decide ((((ByteArray.size s):Nat):Int)<(1:Int)))=false)then
 if((decide ((((ByteArray.size s):Nat):Int)>(16:Int)))=true)then
 (some false)
 else
 Option.bind (qbH k k (List.map (fun b:UInt8=>((UInt8.toNat b:Nat):Int)) (Array.toList (ByteArray.data s))) (((List.length (List.map (fun b:UInt8=>((UInt8.toNat b:Nat):Int)) (Array.toList (ByteArray.data s)))):Nat):Int) (0:Int)) fun r4=>
 qc r4
 (fun r4=>
 (some r4))
 (fun r4=>
 (some true))
 else
 (some false)
def qfK:Nat→ByteArray→Option (Bool)
 | 0,_=>none
 | k+1,s=>qh0 k s
def qv6:Nat→Inst:=mkI 226 ⟨[vS],[]⟩ [⟨[vB],[]⟩] fun k x=>qfK k x
def qv7 (k:Nat):LInst:=mkL 0 [⟨[(14,.a (.lf (.sl (.int .u8)))),(15,vI),(16,vI)],[],0⟩] [⟨none,⟨[(2,vB)],[],0⟩⟩,⟨some 0,⟨[],[],0⟩⟩] (fun n x=>qbH k n x.1 x.2.1 x.2.2) k
theorem qv8 (k:Nat):LIo 226 Tryz.f226 0 k (qv7 k):=
 lpk [] a0 l0 (fun _=>rfl) (by kernel_rfl) fun n x=>by kernel_rfl
theorem qtB:∀k,qg (call cf k) (qv6 k):=
 fnk 0 [0] Tryz.func226 (fun k=>a0) (fun k=>(lc (qv8 k) l0)) ⟨rfl,rfl,⟨rfl,Nat.le_of_ble_eq_true rfl⟩,rfl⟩ (fun _=>rfl) (by kernel_rfl) fun k x=>by kernel_rfl

def qiC (k:Nat) (s:ByteArray):Option (Bool):=
 Option.bind (qfK k s) fun r4=>
 (some r4)
def qhm:Nat→ByteArray→Option (Bool)
 | 0,_=>none
 | k+1,s=>qiC k s
def qAK:Nat→Inst:=mkI 196 ⟨[vS],[]⟩ [⟨[vB],[]⟩] fun k x=>qhm k x
theorem qzF:∀k,qg (call cf k) (qAK k):=
 fnk 0 [] Tryz.func196 (fun k=>(ac (qtB k) a0)) (fun k=>l0) ⟨rfl,rfl,⟨rfl,Nat.le_of_ble_eq_true rfl⟩,rfl⟩ (fun _=>rfl) (by kernel_rfl) fun k x=>by kernel_rfl

def qhB (k:Nat) (p:ByteArray):Option (Bool):=
 Option.bind (qhm k p) fun r4=>
 (some (!r4))
def qgz:Nat→ByteArray→Option (Bool)
 | 0,_=>none
 | k+1,p=>qhB k p
def qv9:Nat→Inst:=mkI 221 ⟨[vS],[]⟩ [⟨[vB],[]⟩] fun k x=>qgz k x
theorem qzG:∀k,qg (call cf k) (qv9 k):=
 fnk 0 [] Tryz.func221 (fun k=>(ac (qzF k) a0)) (fun k=>l0) ⟨rfl,rfl,⟨rfl,Nat.le_of_ble_eq_true rfl⟩,rfl⟩ (fun _=>rfl) (by kernel_rfl) fun k x=>by kernel_rfl

def qey (k:Nat) (rec:List ByteArray→Int→Int→Option ((Int) ⊕ (Unit))) (s:List ByteArray) (x:Int) (x1:Int):Option ((Int) ⊕ (Unit)):=
 if((decide (x1<x))=true)then
 if((0:Int)≤x1)then
 Option.bind (s)[(Int.toNat x1)]? fun x4=>
 Option.bind (qgz k x4) fun r4=>
 if(r4=true)then
 (some (Sum.inl x1))
 else
 rec s x (IntKind.wrap .i64 (x1+(1:Int)))
 else
 none
 else
 (some (Sum.inr ()))
def qbf (k n:Nat):List ByteArray→Int→Int→Option ((Int) ⊕ (Unit)):=Nat.rec (fun _ _ _=>none) (fun _ r=>qey k r) n
def qbx (k:Nat) (s:List ByteArray):Option (Int):=
 Option.bind (qbf k k s (((List.length s):Nat):Int) (0:Int)) fun r4=>
 qc r4
 (fun r4=>
 (some r4))
 (fun r4=>
 (some (-(1:Int))))
def qar:Nat→List ByteArray→Option (Int)
 | 0,_=>none
 | k+1,s=>qbx k s
def qAL:Nat→Inst:=mkI 194 ⟨[vR,.a (.fn 221 [])],[]⟩ [⟨[vI],[]⟩] fun k x=>qar k x
theorem qtC (k:Nat):qaH (call cf k) [qv9 k]:=
 ac (qzG k) a0
def qwa (k:Nat):LInst:=mkL 0 [⟨[(0,vR),(1,.a (.fn 221 [])),(7,vI),(8,vI)],[],0⟩] [⟨none,⟨[(4,vI)],[],0⟩⟩,⟨some 0,⟨[],[],0⟩⟩] (fun n x=>qbf k n x.1 x.2.1 x.2.2) k
theorem qwb (k:Nat):LIo 194 Tryz.f194 0 k (qwa k):=
 lpk [] (qtC k) l0 (fun _=>rfl) (by kernel_rfl) fun n x=>by kernel_rfl
theorem qzH:∀k,qg (call cf k) (qAL k):=
 fnk 0 [0] Tryz.func194 (fun k=>(qtC k)) (fun k=>(lc (qwb k) l0)) ⟨rfl,rfl,⟨rfl,Nat.le_of_ble_eq_true rfl⟩,rfl⟩ (fun _=>rfl) (by kernel_rfl) fun k x=>by kernel_rfl

def qa7 (k:Nat) (s:List ByteArray):Option (Bool):=
 Option.bind (qar k s) fun r4=>
 (some (decide (r4≥(0:Int))))
def qa8:Nat→List ByteArray→Option (Bool)
 | 0,_=>none
 | k+1,s=>qa7 k s
def qAM:Nat→Inst:=mkI 134 ⟨[vR,.a (.fn 221 [])],[]⟩ [⟨[vB],[]⟩] fun k x=>qa8 k x
theorem qzI:∀k,qg (call cf k) (qAM k):=
 fnk 0 [] Tryz.func134 (fun k=>(ac (qzH k) a0)) (fun k=>l0) ⟨rfl,rfl,⟨rfl,Nat.le_of_ble_eq_true rfl⟩,rfl⟩ (fun _=>rfl) (by kernel_rfl) fun k x=>by kernel_rfl

def qiD (k:Nat) (s:ByteArray):Option (Bool):=
 Option.bind (qfj k s (ByteArray.mk (List.toArray (46:: [])))) fun r3=>
 if((decide ((((List.length r3):Nat):Int)≤(9:Int)))=true)then
 Option.bind (qa8 k r3) fun r4=>
 (some (!r4))
 else
 (some false)
def qfk:Nat→ByteArray→Option (Bool)
 | 0,_=>none
 | k+1,s=>qiD k s
def qsK:Nat→Inst:=mkI 184 ⟨[vS],[]⟩ [⟨[vB],[]⟩] fun k x=>qfk k x
theorem qtD:∀k,qg (call cf k) (qsK k):=
 fnk 0 [] Tryz.func184 (fun k=>(ac (qzE k) (ac (qzI k) a0))) (fun k=>l0) ⟨rfl,rfl,⟨rfl,Nat.le_of_ble_eq_true rfl⟩,rfl⟩ (fun _=>rfl) (by kernel_rfl) fun k x=>by kernel_rfl

def qcD (k:Nat) (rec:List (Int×Int)→Int→Int→Int→List (Int×Int)→List Int→Option ((Bool×Int×List (Int×Int)×List Int×Int×Int) ⊕ (Int×List (Int×Int)×List Int))) (x:List (Int×Int)) (x1:Int) (x2:Int) (w0:Int) (w1:List (Int×Int)) (w2:List Int):Option ((Bool×Int×List (Int×Int)×List Int×Int×Int) ⊕ (Int×List (Int×Int)×List Int)):=
 if((decide (x2<x1))=true)then
 if((0:Int)≤x2)then
 Option.bind (x)[(Int.toNat x2)]? fun x4=>
 Option.bind (qY k x4.1 x4.2) fun r6=>
 if((!r6)=true)then
 (some (Sum.inl (false,w0,w1,w2,x4.1,x4.2)))
 else
 rec x x1 (IntKind.wrap .i64 (x2+(1:Int))) w0 w1 w2
 else
 none
 else
 (some (Sum.inr (w0,w1,w2)))
def qbI (k n:Nat):List (Int×Int)→Int→Int→Int→List (Int×Int)→List Int→Option ((Bool×Int×List (Int×Int)×List Int×Int×Int) ⊕ (Int×List (Int×Int)×List Int)):=Nat.rec (fun _ _ _ _ _ _=>none) (fun _ r=>qcD k r) n
def qcE (k:Nat) (rec:List Int→Int→Int→Int→List (Int×Int)→List Int→Option ((Bool×Int×List (Int×Int)×List Int) ⊕ (Int×List (Int×Int)×List Int))) (x:List Int) (x1:Int) (x2:Int) (w0:Int) (w1:List (Int×Int)) (w2:List Int):Option ((Bool×Int×List (Int×Int)×List Int) ⊕ (Int×List (Int×Int)×List Int)):=
 if((decide (x2<x1))=true)then
 if((0:Int)≤x2)then
 Option.bind (x)[(Int.toNat x2)]? fun x4=>
 if((decide (x4<(0:Int)))=false)then
 if((decide (x4>(1000000000:Int)))=true)then
 (some (Sum.inl (false,w0,w1,w2)))
 else
 rec x x1 (IntKind.wrap .i64 (x2+(1:Int))) w0 w1 w2
 else
 (some (Sum.inl (false,w0,w1,w2)))
 else
 none
 else
 (some (Sum.inr (w0,w1,w2)))
def qa9 (k n:Nat):List Int→Int→Int→Int→List (Int×Int)→List Int→Option ((Bool×Int×List (Int×Int)×List Int) ⊕ (Int×List (Int×Int)×List Int)):=Nat.rec (fun _ _ _ _ _ _=>none) (fun _ r=>qcE k r) n
def qbL (k:Nat) (rec:Int→Int→List (Int×Int)→List Int→Option ((Bool×Int×List (Int×Int)×List Int) ⊕ (Int×List (Int×Int)×List Int))) (i:Int) (w0:Int) (w1:List (Int×Int)) (w2:List Int):Option ((Bool×Int×List (Int×Int)×List Int) ⊕ (Int×List (Int×Int)×List Int)):=
 if((decide (i<(((List.length w2):Nat):Int)))=true)then
 if((0:Int)≤i)then
 Option.bind (w2)[(Int.toNat i)]? fun x4=>
 if((0:Int)≤(IntKind.wrap .i64 (i-(1:Int))))then
 Option.bind (w2)[(Int.toNat (IntKind.wrap .i64 (i-(1:Int))))]? fun x5=>
 if((decide (x4≤x5))=true)then
 (some (Sum.inl (false,w0,w1,w2)))
 else
 rec (IntKind.wrap .i64 (i+(1:Int))) w0 w1 w2
 else
 none
 else
 none
 else
 (some (Sum.inr (w0,w1,w2)))
def qaE (k n:Nat):Int→Int→List (Int×Int)→List Int→Option ((Bool×Int×List (Int×Int)×List Int) ⊕ (Int×List (Int×Int)×List Int)):=Nat.rec (fun _ _ _ _=>none) (fun _ r=>qbL k r) n
def qh1 (k:Nat) (w0:Int) (w1:List (Int×Int)) (w2:List Int):Option (Bool):=
 Option.bind (qbI k k w1 (((List.length w1):Nat):Int) (0:Int) w0 w1 w2) fun r6=>
 qc r6
 (fun r6=>
 (some r6.1))
 (fun r6=>
 Option.bind (qa9 k k r6.2.2 (((List.length r6.2.2):Nat):Int) (0:Int) r6.1 r6.2.1 r6.2.2) fun r7=>
 qc r7
 (fun r7=>
 (some r7.1))
 (fun r7=>
 if((r7.1 == (1:Int))=true)then
 if(((((List.length r7.2.1):Nat):Int) == (1:Int))=true)then
 (some ((((List.length r7.2.2):Nat):Int) == (0:Int)))
 else
 (some false)
 else
 if((r7.1 == (2:Int))=true)then
 if(((((List.length r7.2.1):Nat):Int) == (2:Int))=true)then
 if(((((List.length r7.2.2):Nat):Int) == (5:Int))=true)then
 Option.bind (r7.2.2)[4]? fun x4=>
 if((decide (x4≥(1:Int)))=true)then
 Option.bind (r7.2.2)[1]? fun x5=>
 Option.bind (r7.2.2)[2]? fun x6=>
 Option.bind (r7.2.2)[3]? fun x7=>
 Option.bind (r7.2.2)[4]? fun x8=>
 (some (decide ((IntKind.wrap .i64 ((IntKind.wrap .i64 (x5+x6))+x7))≤x8)))
 else
 (some false)
 else
 (some false)
 else
 (some false)
 else
 if((r7.1 == (3:Int))=true)then
 Option.bind (qaE k k (1:Int) r7.1 r7.2.1 r7.2.2) fun r8=>
 qc r8
 (fun r8=>
 (some r8.1))
 (fun r8=>
 if(((((List.length r8.2.1):Nat):Int) == (((List.length r8.2.2):Nat):Int))=true)then
 if((decide ((((List.length r8.2.1):Nat):Int)≥(1:Int)))=true)then
 (some (decide ((((List.length r8.2.1):Nat):Int)≤(16:Int))))
 else
 (some false)
 else
 (some false))
 else
 if((r7.1 == (4:Int))=true)then
 if((decide ((((List.length r7.2.1):Nat):Int)≥(1:Int)))=true)then
 if((decide ((((List.length r7.2.1):Nat):Int)≤(16:Int)))=true)then
 (some ((((List.length r7.2.2):Nat):Int) == (0:Int)))
 else
 (some false)
 else
 (some false)
 else
 (some false)))
def qeE:Nat→Int→List (Int×Int)→List Int→Option (Bool)
 | 0,_,_,_=>none
 | k+1,w0,w1,w2=>qh1 k w0 w1 w2
def qtE:Nat→Inst:=mkI 222 ⟨[.g [.lf (.int .i64),.lf cE,.lf (.sl (.int .i64))]],[]⟩ [⟨[vB],[]⟩] fun k x=>qeE k x.1 x.2.1 x.2.2
theorem qkF (k:Nat):qaH (call cf k) [qna k]:=
 ac (qkC k) a0
def qwc (k:Nat):LInst:=mkL 0 [⟨[(1,.a (.ptr 0 0 0)),(9,.a (.lf cE)),(10,vI),(11,vI)],[(0,some (.raw [[.lf (.int .i64),.lf cE,.lf (.sl (.int .i64))]] 3 44 true false false))],1⟩] [⟨none,⟨[(2,vB)],[(0,some (.raw [[.lf (.int .i64),.lf cE,.lf (.sl (.int .i64))]] 3 44 true false false)),(1,some (.raw [[.lf (.int .i64),.lf (.int .i64)]] 2 25 true false false))],2⟩⟩,⟨some 0,⟨[(1,.a (.ptr 0 0 0))],[(0,some (.raw [[.lf (.int .i64),.lf cE,.lf (.sl (.int .i64))]] 3 44 true false false))],1⟩⟩] (fun n x=>qbI k n x.1 x.2.1 x.2.2.1 x.2.2.2.1 x.2.2.2.2.1 x.2.2.2.2.2) k
theorem qnb (k:Nat):LIo 222 Tryz.f222 0 k (qwc k):=
 lpk [] (qkF k) l0 (fun _=>rfl) (by kernel_rfl) fun n x=>by kernel_rfl
def qwd (k:Nat):LInst:=mkL 2 [⟨[(1,.a (.ptr 0 0 0)),(20,vJ),(21,vI),(22,vI)],[(0,some (.raw [[.lf (.int .i64),.lf cE,.lf (.sl (.int .i64))]] 3 44 true false false))],1⟩] [⟨none,⟨[(2,vB)],[(0,some (.raw [[.lf (.int .i64),.lf cE,.lf (.sl (.int .i64))]] 3 44 true false false))],1⟩⟩,⟨some 2,⟨[(1,.a (.ptr 0 0 0))],[(0,some (.raw [[.lf (.int .i64),.lf cE,.lf (.sl (.int .i64))]] 3 44 true false false))],1⟩⟩] (fun n x=>qa9 k n x.1 x.2.1 x.2.2.1 x.2.2.2.1 x.2.2.2.2.1 x.2.2.2.2.2) k
theorem qqY (k:Nat):LIo 222 Tryz.f222 0 k (qwd k):=
 lpk [] (qkF k) (lc (qnb k) l0) (fun _=>rfl) (by kernel_rfl) fun n x=>by kernel_rfl
def qwe (k:Nat):LInst:=mkL 5 [⟨[(1,.a (.ptr 0 0 0)),(7,vI)],[(0,some (.raw [[.lf (.int .i64),.lf cE,.lf (.sl (.int .i64))]] 3 44 true false false))],1⟩] [⟨none,⟨[(2,vB)],[(0,some (.raw [[.lf (.int .i64),.lf cE,.lf (.sl (.int .i64))]] 3 44 true false false))],1⟩⟩,⟨some 5,⟨[(1,.a (.ptr 0 0 0))],[(0,some (.raw [[.lf (.int .i64),.lf cE,.lf (.sl (.int .i64))]] 3 44 true false false))],1⟩⟩] (fun n x=>qaE k n x.1 x.2.1 x.2.2.1 x.2.2.2) k
theorem qwf (k:Nat):LIo 222 Tryz.f222 0 k (qwe k):=
 lpk [] (qkF k) (lc (qnb k) (lc (qqY k) l0)) (fun _=>rfl) (by kernel_rfl) fun n x=>by kernel_rfl
theorem qwg:∀k,qg (call cf k) (qtE k):=
 fnk 0 [0,2,5] Tryz.func222 (fun k=>(qkF k)) (fun k=>(lc (qnb k) (lc (qqY k) (lc (qwf k) l0)))) ⟨rfl,rfl,⟨rfl,Nat.le_of_ble_eq_true rfl⟩,rfl⟩ (fun _=>rfl) (by kernel_rfl) fun k x=>by kernel_rfl

def qhc (k:Nat) (m0:ByteArray) (m1:Int) (m2:List (Int×Int)) (m3:List (Int×Int)):Option (Bool):=
 if(((Array.toList (ByteArray.data m0)) == (Array.toList (ByteArray.data (ByteArray.mk (List.toArray [])))))=true)then
 if((m1 == (0:Int))=true)then
 (some ((IntKind.wrap .i64 ((((List.length m2):Nat):Int)+(((List.length m3):Nat):Int))) == (0:Int)))
 else
 (some false)
 else
 (some false)
def qG:Nat→ByteArray→Int→List (Int×Int)→List (Int×Int)→Option (Bool)
 | 0,_,_,_,_=>none
 | k+1,m0,m1,m2,m3=>qhc k m0 m1 m2 m3
def qwh:Nat→Inst:=mkI 223 ⟨[.g [.lf .str,.lf (.int .u8),.lf cE,.lf cE]],[]⟩ [⟨[vB],[]⟩] fun k x=>qG k x.1 x.2.1 x.2.2.1 x.2.2.2
theorem qzJ:∀k,qg (call cf k) (qwh k):=
 fnk 0 [] Tryz.func223 (fun k=>a0) (fun k=>l0) ⟨rfl,rfl,⟨rfl,Nat.le_of_ble_eq_true rfl⟩,rfl⟩ (fun _=>rfl) (by kernel_rfl) fun k x=>by kernel_rfl

def qhC (k:Nat) (w0:Int) (w1:List (Int×Int)) (w2:List Int):Option (Bool):=
 if((w0 == (0:Int))=true)then
 (some ((IntKind.wrap .i64 ((((List.length w1):Nat):Int)+(((List.length w2):Nat):Int))) == (0:Int)))
 else
 (some false)
def qJ:Nat→Int→List (Int×Int)→List Int→Option (Bool)
 | 0,_,_,_=>none
 | k+1,w0,w1,w2=>qhC k w0 w1 w2
def qwi:Nat→Inst:=mkI 224 ⟨[.g [.lf (.int .i64),.lf cE,.lf (.sl (.int .i64))]],[]⟩ [⟨[vB],[]⟩] fun k x=>qJ k x.1 x.2.1 x.2.2
theorem qzK:∀k,qg (call cf k) (qwi k):=
 fnk 0 [] Tryz.func224 (fun k=>a0) (fun k=>l0) ⟨rfl,rfl,⟨rfl,Nat.le_of_ble_eq_true rfl⟩,rfl⟩ (fun _=>rfl) (by kernel_rfl) fun k x=>by kernel_rfl

def qfL (k:Nat) (v:Int):Option (Bool×List Int):=
 if((decide (v<(0:Int)))=true)then
 Option.bind (qdJ k (List.take 2 ((IntKind.wrap .u32 (IntKind.wrap .u64 ((0:Int)-(IntKind.wrap .u64 v))))::((IntKind.wrap .u32 (Int.fdiv (IntKind.wrap .u64 ((0:Int)-(IntKind.wrap .u64 v))) (4294967296:Int))):: [])))) fun r11=>
 (some ((decide (v<(0:Int))),r11))
 else
 Option.bind (qdJ k (List.take 2 ((IntKind.wrap .u32 (IntKind.wrap .u64 v))::((IntKind.wrap .u32 (Int.fdiv (IntKind.wrap .u64 v) (4294967296:Int))):: [])))) fun r11=>
 (some ((decide (v<(0:Int))),r11))
def qcg:Nat→Int→Option (Bool×List Int)
 | 0,_=>none
 | k+1,v=>qfL k v
def qwj:Nat→Inst:=mkI 87 ⟨[vI],[]⟩ [⟨[.a (.ptr 0 0 0)],[.raw [[.lf .bool,.lf cW]] 2 147 true false false]⟩] fun k x=>qcg k x
theorem qpB:∀k,qg (call cf k) (qwj k):=
 fnk 0 [] Tryz.func87 (fun k=>(ac (qkB k) a0)) (fun k=>l0) ⟨rfl,rfl,⟨rfl,Nat.le_of_ble_eq_true rfl⟩,rfl⟩ (fun _=>rfl) (by kernel_rfl) fun k x=>by kernel_rfl

def qfX (k:Nat) (neg:Bool) (w:List Int) (z0:Bool) (z1:List Int):Option (Bool×List Int):=
 Option.bind (qdJ k w) fun r14=>
 if(neg=true)then
 (some ((decide ((((List.length r14):Nat):Int)>(0:Int))),r14))
 else
 (some (false,r14))
def qei:Nat→Bool→List Int→Bool→List Int→Option (Bool×List Int)
 | 0,_,_,_,_=>none
 | k+1,neg,w,z0,z1=>qfX k neg w z0 z1
def Iq9:Nat→Inst:=mkI 198 ⟨[.a (.ptr 0 0 0),vB,vT],[.raw [[.lf .bool,.lf cW]] 2 147 true false false]⟩ [⟨[.a (.ptr 0 0 0)],[.raw [[.lf .bool,.lf cW]] 2 147 true false false]⟩] fun k x=>qei k x.1 x.2.1 x.2.2.1 x.2.2.2
theorem qAN:∀k,qg (call cf k) (Iq9 k):=
 fnk 1 [] Tryz.func198 (fun k=>(ac (qkB k) a0)) (fun k=>l0) ⟨rfl,rfl,⟨rfl,Nat.le_of_ble_eq_true rfl⟩,rfl⟩ (fun _=>rfl) (by kernel_rfl) fun k x=>by kernel_rfl

def qeM (k:Nat) (rec:Nat→Int→Int→Int→List Int→Int→Int→List Int→Int→Int→Bool→List Int→Bool→List Int→List Int→Option (Nat×Int×Int×List Int×Int×Int×Bool×List Int×Bool×List Int×List Int)) (out1:Nat) (i:Int) (a:Int) (carry:Int) (x:List Int) (x1:Int) (x2:Int) (x3:List Int) (x4:Int) (x5:Int) (x0:Bool) (x11:List Int) (y0:Bool) (y1:List Int) (outs:List Int):Option (Nat×Int×Int×List Int×Int×Int×Bool×List Int×Bool×List Int×List Int):=
 if((decide (x5<x4))=true)then
 if((0:Int)≤x5)then
 Option.bind (x3)[(Int.toNat x5)]? fun x7=>
 if(((0:Int)≤(IntKind.wrap .i64 (i+x5)))∧((IntKind.wrap .i64 (i+x5))<((out1:Nat):Int)))then
 Option.bind (outs)[(0+(Int.toNat (IntKind.wrap .i64 (i+x5))))]? fun x8=>
 if(((0:Int)≤(IntKind.wrap .i64 (i+x5)))∧((IntKind.wrap .i64 (i+x5))<((out1:Nat):Int)))then
 Option.bind (outs)[(0+(Int.toNat (IntKind.wrap .i64 (i+x5))))]? fun x9=>
 rec out1 i a (Int.fdiv (IntKind.wrap .u64 ((IntKind.wrap .u64 ((IntKind.wrap .u64 ((IntKind.wrap .u64 a)*(IntKind.wrap .u64 x7)))+(IntKind.wrap .u64 x8)))+carry)) (4294967296:Int)) x x1 x2 x3 x4 (IntKind.wrap .i64 (x5+(1:Int))) x0 x11 y0 y1 (List.set outs (0+(Int.toNat (IntKind.wrap .i64 (i+x5)))) (IntKind.wrap .u32 (IntKind.wrap .u64 ((IntKind.wrap .u64 ((IntKind.wrap .u64 ((IntKind.wrap .u64 a)*(IntKind.wrap .u64 x7)))+(IntKind.wrap .u64 x8)))+carry))))
 else
 none
 else
 none
 else
 none
 else
 (some (out1,i,carry,x,x1,x2,x0,x11,y0,y1,outs))
def qdK (k n:Nat):Nat→Int→Int→Int→List Int→Int→Int→List Int→Int→Int→Bool→List Int→Bool→List Int→List Int→Option (Nat×Int×Int×List Int×Int×Int×Bool×List Int×Bool×List Int×List Int):=Nat.rec (fun _ _ _ _ _ _ _ _ _ _ _ _ _ _ _=>none) (fun _ r=>qeM k r) n
def qeN (k:Nat) (rec:Nat→List Int→Int→Int→Bool→List Int→Bool→List Int→List Int→Option (Nat×Bool×List Int×Bool×List Int×List Int)) (out1:Nat) (x:List Int) (x1:Int) (x2:Int) (x0:Bool) (x11:List Int) (y0:Bool) (y1:List Int) (outs:List Int):Option (Nat×Bool×List Int×Bool×List Int×List Int):=
 if((decide (x2<x1))=true)then
 if((0:Int)≤x2)then
 Option.bind (x)[(Int.toNat x2)]? fun x6=>
 Option.bind (qdK k k out1 x2 x6 (0:Int) x x1 x2 y1 (((List.length y1):Nat):Int) (0:Int) x0 x11 y0 y1 outs) fun r13=>
 if(((0:Int)≤(IntKind.wrap .i64 (r13.2.1+(((List.length r13.2.2.2.2.2.2.2.2.2.1):Nat):Int))))∧((IntKind.wrap .i64 (r13.2.1+(((List.length r13.2.2.2.2.2.2.2.2.2.1):Nat):Int)))<((r13.1:Nat):Int)))then
 Option.bind (r13.2.2.2.2.2.2.2.2.2.2)[(0+(Int.toNat (IntKind.wrap .i64 (r13.2.1+(((List.length r13.2.2.2.2.2.2.2.2.2.1):Nat):Int)))))]? fun x7=>
 rec r13.1 r13.2.2.2.1 r13.2.2.2.2.1 (IntKind.wrap .i64 (r13.2.2.2.2.2.1+(1:Int))) r13.2.2.2.2.2.2.1 r13.2.2.2.2.2.2.2.1 r13.2.2.2.2.2.2.2.2.1 r13.2.2.2.2.2.2.2.2.2.1 (List.set r13.2.2.2.2.2.2.2.2.2.2 (0+(Int.toNat (IntKind.wrap .i64 (r13.2.1+(((List.length r13.2.2.2.2.2.2.2.2.2.1):Nat):Int))))) (IntKind.wrap .u32 r13.2.2.1))
 else
 none
 else
 none
 else
 (some (out1,x0,x11,y0,y1,outs))
def qcP (k n:Nat):Nat→List Int→Int→Int→Bool→List Int→Bool→List Int→List Int→Option (Nat×Bool×List Int×Bool×List Int×List Int):=Nat.rec (fun _ _ _ _ _ _ _ _ _=>none) (fun _ r=>qeN k r) n
def qfY (k:Nat) (x0:Bool) (x1:List Int) (y0:Bool) (y1:List Int):Option (Bool×List Int×Bool×List Int):=
 if(((0:Int)≤(IntKind.wrap .i64 ((((List.length x1):Nat):Int)+(((List.length y1):Nat):Int))))∧(((IntKind.wrap .i64 ((((List.length x1):Nat):Int)+(((List.length y1):Nat):Int)))≤(IntKind.wrap .i64 ((((List.length x1):Nat):Int)+(((List.length y1):Nat):Int))))∧(((IntKind.wrap .i64 ((((List.length x1):Nat):Int)+(((List.length y1):Nat):Int)))*(4:Int))≤(140737488355328:Int))))then
 Option.bind (qcP k k (Int.toNat (IntKind.wrap .i64 ((((List.length x1):Nat):Int)+(((List.length y1):Nat):Int)))) x1 (((List.length x1):Nat):Int) (0:Int) x0 x1 y0 y1 (List.replicate (Int.toNat (IntKind.wrap .i64 ((((List.length x1):Nat):Int)+(((List.length y1):Nat):Int)))) (0:Int))) fun r13=>
 if((0+r13.1)≤(List.length r13.2.2.2.2.2))then
 Option.bind (qei k (!(r13.2.1 == r13.2.2.2.1)) (List.take r13.1 r13.2.2.2.2.2) r13.2.1 r13.2.2.1) fun r14=>
 (some (r14.1,r14.2,r13.2.2.2.1,r13.2.2.2.2.1))
 else
 none
 else
 none
def qdr:Nat→Bool→List Int→Bool→List Int→Option (Bool×List Int×Bool×List Int)
 | 0,_,_,_,_=>none
 | k+1,x0,x1,y0,y1=>qfY k x0 x1 y0 y1
def Iq4:Nat→Inst:=mkI 155 ⟨[.a (.ptr 0 0 0),.a (.ptr 0 0 0),.a (.ptr 1 0 0)],[.raw [[.lf .bool,.lf cW]] 2 147 true false false,.raw [[.lf .bool,.lf cW]] 2 147 true false false]⟩ [⟨[.a (.ptr 0 0 0)],[.raw [[.lf .bool,.lf cW]] 2 147 true false false,.raw [[.lf .bool,.lf cW]] 2 147 true false false]⟩] fun k x=>qdr k x.1 x.2.1 x.2.2.1 x.2.2.2
theorem qsL (k:Nat):qaH (call cf k) [Iq9 k]:=
 ac (qAN k) a0
def qwk (k:Nat):LInst:=mkL 2 [⟨[(0,.a (.ptr 0 0 0)),(1,.a (.ptr 0 0 0)),(2,.a (.ptr 1 0 0)),(7,.a (.smz 2)),(8,vI),(9,.a (.lf (.int .u32))),(10,vU),(29,vT),(30,vI),(31,vI),(39,vT),(40,vI),(41,vI)],[(0,some (.raw [[.lf .bool,.lf cW]] 2 147 true false false)),(1,some (.raw [[.lf .bool,.lf cW]] 2 147 true false false)),(2,some (.arr (.int .u32) 1 106 false))],3⟩] [⟨some 2,⟨[(0,.a (.ptr 0 0 0)),(1,.a (.ptr 0 0 0)),(2,.a (.ptr 1 0 0)),(7,.a (.smz 2)),(8,vI),(10,vU),(29,vT),(30,vI),(31,vI)],[(0,some (.raw [[.lf .bool,.lf cW]] 2 147 true false false)),(1,some (.raw [[.lf .bool,.lf cW]] 2 147 true false false)),(2,some (.arr (.int .u32) 1 106 false))],3⟩⟩] (fun n x=>qdK k n x.1 x.2.1 x.2.2.1 x.2.2.2.1 x.2.2.2.2.1 x.2.2.2.2.2.1 x.2.2.2.2.2.2.1 x.2.2.2.2.2.2.2.1 x.2.2.2.2.2.2.2.2.1 x.2.2.2.2.2.2.2.2.2.1 x.2.2.2.2.2.2.2.2.2.2.1 x.2.2.2.2.2.2.2.2.2.2.2.1 x.2.2.2.2.2.2.2.2.2.2.2.2.1 x.2.2.2.2.2.2.2.2.2.2.2.2.2.1 x.2.2.2.2.2.2.2.2.2.2.2.2.2.2) k
theorem qqZ (k:Nat):LIo 155 Tryz.f155 2 k (qwk k):=
 lpk [] (qsL k) l0 (fun _=>rfl) (by kernel_rfl) fun n x=>by kernel_rfl
def qwl (k:Nat):LInst:=mkL 0 [⟨[(0,.a (.ptr 0 0 0)),(1,.a (.ptr 0 0 0)),(2,.a (.ptr 1 0 0)),(7,.a (.smz 2)),(29,vT),(30,vI),(31,vI)],[(0,some (.raw [[.lf .bool,.lf cW]] 2 147 true false false)),(1,some (.raw [[.lf .bool,.lf cW]] 2 147 true false false)),(2,some (.arr (.int .u32) 1 106 false))],3⟩] [⟨some 0,⟨[(0,.a (.ptr 0 0 0)),(1,.a (.ptr 0 0 0)),(2,.a (.ptr 1 0 0)),(7,.a (.smz 2))],[(0,some (.raw [[.lf .bool,.lf cW]] 2 147 true false false)),(1,some (.raw [[.lf .bool,.lf cW]] 2 147 true false false)),(2,some (.arr (.int .u32) 1 106 false))],3⟩⟩] (fun n x=>qcP k n x.1 x.2.1 x.2.2.1 x.2.2.2.1 x.2.2.2.2.1 x.2.2.2.2.2.1 x.2.2.2.2.2.2.1 x.2.2.2.2.2.2.2.1 x.2.2.2.2.2.2.2.2) k
theorem qwm (k:Nat):LIo 155 Tryz.f155 2 k (qwl k):=
 lpk [2] (qsL k) (lc (qqZ k) l0) (fun _=>rfl) (by kernel_rfl) fun n x=>by kernel_rfl
theorem qwn:∀k,qg (call cf k) (Iq4 k):=
 fnk 2 [0] Tryz.func155 (fun k=>(qsL k)) (fun k=>(lc (qqZ k) (lc (qwm k) l0))) ⟨rfl,rfl,⟨rfl,Nat.le_of_ble_eq_true rfl⟩,rfl⟩ (fun _=>rfl) (by kernel_rfl) fun k x=>by kernel_rfl

def qfM (k:Nat) (rec:Int→Int→Bool→List Int→Bool→List Int→Option (Bool×List Int×Bool×List Int)) (x:Int) (x1:Int) (z0:Bool) (z1:List Int) (ten0:Bool) (ten1:List Int):Option (Bool×List Int×Bool×List Int):=
 if((decide (x1<x))=true)then
 Option.bind (qdr k z0 z1 ten0 ten1) fun r13=>
 rec x (IntKind.wrap .i64 (x1+(1:Int))) r13.1 r13.2.1 r13.2.2.1 r13.2.2.2
 else
 (some (z0,z1,ten0,ten1))
def qej (k n:Nat):Int→Int→Bool→List Int→Bool→List Int→Option (Bool×List Int×Bool×List Int):=Nat.rec (fun _ _ _ _ _ _=>none) (fun _ r=>qfM k r) n
def qsM (k:Nat) (k1:Int):Option (Bool×List Int):=
 Option.bind (qcg k (1:Int)) fun r11=>
 Option.bind (qcg k (10:Int)) fun r12=>
 Option.bind (qej k k k1 (0:Int) r11.1 r11.2 r12.1 r12.2) fun r13=>
 (some (r13.1,r13.2.1))
def qiE:Nat→Int→Option (Bool×List Int)
 | 0,_=>none
 | k+1,k1=>qsM k k1
def qAO:Nat→Inst:=mkI 234 ⟨[vI],[]⟩ [⟨[.a (.ptr 0 0 0)],[.raw [[.lf .bool,.lf cW]] 2 147 true false false]⟩] fun k x=>qiE k x
theorem qtF (k:Nat):qaH (call cf k) [qwj k,Iq4 k]:=
 ac (qpB k) (ac (qwn k) a0)
def qwo (k:Nat):LInst:=mkL 0 [⟨[(3,.a (.ptr 0 0 0)),(4,.a (.ptr 1 0 0)),(7,vI),(8,vI)],[(0,some (.raw [[.lf .bool,.lf cW]] 2 147 true false false)),(1,some (.raw [[.lf .bool,.lf cW]] 2 147 true false false))],2⟩] [⟨some 0,⟨[(3,.a (.ptr 0 0 0))],[(0,some (.raw [[.lf .bool,.lf cW]] 2 147 true false false)),(1,some (.raw [[.lf .bool,.lf cW]] 2 147 true false false))],2⟩⟩] (fun n x=>qej k n x.1 x.2.1 x.2.2.1 x.2.2.2.1 x.2.2.2.2.1 x.2.2.2.2.2) k
theorem qwp (k:Nat):LIo 234 Tryz.f234 0 k (qwo k):=
 lpk [] (qtF k) l0 (fun _=>rfl) (by kernel_rfl) fun n x=>by kernel_rfl
theorem qzL:∀k,qg (call cf k) (qAO k):=
 fnk 0 [0] Tryz.func234 (fun k=>(qtF k)) (fun k=>(lc (qwp k) l0)) ⟨rfl,rfl,⟨rfl,Nat.le_of_ble_eq_true rfl⟩,rfl⟩ (fun _=>rfl) (by kernel_rfl) fun k x=>by kernel_rfl

def qcN (k:Nat) (rec:List Int→List Int→Int→Option ((Int) ⊕ (Unit))) (a:List Int) (b:List Int) (i:Int):Option ((Int) ⊕ (Unit)):=
 if((decide (i≥(0:Int)))=true)then
 if((0:Int)≤i)then
 Option.bind (a)[(Int.toNat i)]? fun x6=>
 if((0:Int)≤i)then
 Option.bind (b)[(Int.toNat i)]? fun x7=>
 if((x6 != x7)=true)then
 if((0:Int)≤i)then
 Option.bind (a)[(Int.toNat i)]? fun x8=>
 if((0:Int)≤i)then
 Option.bind (b)[(Int.toNat i)]? fun x9=>
 if((decide (x8<x9))=true)then
 (some (Sum.inl (-(1:Int))))
 else
 (some (Sum.inl (1:Int)))
 else
 none
 else
 none
 else
 rec a b (IntKind.wrap .i64 (i-(1:Int)))
 else
 none
 else
 none
 else
 (some (Sum.inr ()))
def qek (k n:Nat):List Int→List Int→Int→Option ((Int) ⊕ (Unit)):=Nat.rec (fun _ _ _=>none) (fun _ r=>qcN k r) n
def qj1 (k:Nat) (a:List Int) (b:List Int):Option (Int):=
 if(((((List.length a):Nat):Int) != (((List.length b):Nat):Int))=true)then
 if((decide ((((List.length a):Nat):Int)<(((List.length b):Nat):Int)))=true)then
 (some (-(1:Int)))
 else
 (some (1:Int))
 else
 Option.bind (qek k k a b (IntKind.wrap .i64 ((((List.length a):Nat):Int)-(1:Int)))) fun r13=>
 qc r13
 (fun r13=>
 (some r13))
 (fun r13=>
 (some (0:Int)))
def qiF:Nat→List Int→List Int→Option (Int)
 | 0,_,_=>none
 | k+1,a,b=>qj1 k a b
def qAP:Nat→Inst:=mkI 200 ⟨[vT,vT],[]⟩ [⟨[vI],[]⟩] fun k x=>qiF k x.1 x.2
def qwq (k:Nat):LInst:=mkL 0 [⟨[(0,vT),(1,vT),(5,vI)],[],0⟩] [⟨none,⟨[(4,vI)],[],0⟩⟩,⟨some 0,⟨[],[],0⟩⟩] (fun n x=>qek k n x.1 x.2.1 x.2.2) k
theorem qwr (k:Nat):LIo 200 Tryz.f200 0 k (qwq k):=
 lpk [] a0 l0 (fun _=>rfl) (by kernel_rfl) fun n x=>by kernel_rfl
theorem qtG:∀k,qg (call cf k) (qAP k):=
 fnk 0 [0] Tryz.func200 (fun k=>a0) (fun k=>(lc (qwr k) l0)) ⟨rfl,rfl,⟨rfl,Nat.le_of_ble_eq_true rfl⟩,rfl⟩ (fun _=>rfl) (by kernel_rfl) fun k x=>by kernel_rfl

def qez (k:Nat) (rec:List Int→Int→Nat→Int→Int→List Int→Option (Nat×Int×List Int)) (a:List Int) (d:Int) (q:Nat) (r:Int) (i:Int) (qs:List Int):Option (Nat×Int×List Int):=
 if((decide (i≥(0:Int)))=true)then
 if((0:Int)≤i)then
 Option.bind (a)[(Int.toNat i)]? fun x7=>
 if((IntKind.wrap .u64 d)=(0:Int))then
 none
 else
 if(((0:Int)≤i)∧(i<((q:Nat):Int)))then
 Option.bind (qs)[(0+(Int.toNat i))]? fun x8=>
 if((IntKind.wrap .u64 d)=(0:Int))then
 none
 else
 rec a d q (Int.tmod (IntKind.wrap .u64 (((BitVec.toNat ((BitVec.ofInt 64 (IntKind.wrap .u64 (r*(4294967296:Int)))) ||| (BitVec.ofInt 64 (IntKind.wrap .u64 x7)))):Nat):Int)) (IntKind.wrap .u64 d)) (IntKind.wrap .i64 (i-(1:Int))) (List.set qs (0+(Int.toNat i)) (IntKind.wrap .u32 (IntKind.wrap .u64 (Int.tdiv (IntKind.wrap .u64 (((BitVec.toNat ((BitVec.ofInt 64 (IntKind.wrap .u64 (r*(4294967296:Int)))) ||| (BitVec.ofInt 64 (IntKind.wrap .u64 x7)))):Nat):Int)) (IntKind.wrap .u64 d)))))
 else
 none
 else
 none
 else
 (some (q,r,qs))
def qd7 (k n:Nat):List Int→Int→Nat→Int→Int→List Int→Option (Nat×Int×List Int):=Nat.rec (fun _ _ _ _ _ _=>none) (fun _ r=>qez k r) n
def qiG (k:Nat) (a:List Int) (d:Int):Option (List Int×Int):=
 if(((0:Int)≤(((List.length a):Nat):Int))∧(((((List.length a):Nat):Int)≤(((List.length a):Nat):Int))∧(((((List.length a):Nat):Int)*(4:Int))≤(140737488355328:Int))))then
 Option.bind (qd7 k k a d (Int.toNat (((List.length a):Nat):Int)) (0:Int) (IntKind.wrap .i64 ((((List.length a):Nat):Int)-(1:Int))) (List.replicate (Int.toNat (((List.length a):Nat):Int)) (0:Int))) fun r14=>
 if((0+r14.1)≤(List.length r14.2.2))then
 (some ((List.take r14.1 r14.2.2),(IntKind.wrap .u32 r14.2.1)))
 else
 none
 else
 none
def qiH:Nat→List Int→Int→Option (List Int×Int)
 | 0,_,_=>none
 | k+1,a,d=>qiG k a d
def qAQ:Nat→Inst:=mkI 241 ⟨[vT,.a (.lf (.int .u32))],[]⟩ [⟨[vT,.a (.lf (.int .u32))],[]⟩] fun k x=>qiH k x.1 x.2
def qws (k:Nat):LInst:=mkL 0 [⟨[(0,vT),(1,.a (.lf (.int .u32))),(6,.a (.smz 0)),(7,vU),(8,vI)],[(0,some (.arr (.int .u32) 1 106 false))],1⟩] [⟨some 0,⟨[(6,.a (.smz 0)),(7,vU)],[(0,some (.arr (.int .u32) 1 106 false))],1⟩⟩] (fun n x=>qd7 k n x.1 x.2.1 x.2.2.1 x.2.2.2.1 x.2.2.2.2.1 x.2.2.2.2.2) k
theorem qwt (k:Nat):LIo 241 Tryz.f241 0 k (qws k):=
 lpk [] a0 l0 (fun _=>rfl) (by kernel_rfl) fun n x=>by kernel_rfl
theorem qzM:∀k,qg (call cf k) (qAQ k):=
 fnk 0 [0] Tryz.func241 (fun k=>a0) (fun k=>(lc (qwt k) l0)) ⟨rfl,rfl,⟨rfl,Nat.le_of_ble_eq_true rfl⟩,rfl⟩ (fun _=>rfl) (by kernel_rfl) fun k x=>by kernel_rfl

def qeA (k:Nat) (rec:Int→Nat→List Int→Int→Int→List Int→Option (Nat×List Int)) (bits:Int) (out1:Nat) (x:List Int) (x1:Int) (x2:Int) (outs:List Int):Option (Nat×List Int):=
 if((decide (x2<x1))=true)then
 if((0:Int)≤x2)then
 Option.bind (x)[(Int.toNat x2)]? fun x6=>
 if(bits<(0:Int))then
 none
 else
 if(((0:Int)≤x2)∧(x2<((out1:Nat):Int)))then
 Option.bind (outs)[(0+(Int.toNat x2))]? fun x7=>
 if(((0:Int)≤x2)∧(x2<((out1:Nat):Int)))then
 Option.bind (outs)[(0+(Int.toNat x2))]? fun x8=>
 if(((0:Int)≤(IntKind.wrap .i64 (x2+(1:Int))))∧((IntKind.wrap .i64 (x2+(1:Int)))<((out1:Nat):Int)))then
 Option.bind ((List.set outs (0+(Int.toNat x2)) (IntKind.wrap .u32 (((BitVec.toNat ((BitVec.ofInt 32 x7) ||| (BitVec.ofInt 32 (IntKind.wrap .u32 (IntKind.wrap .u64 ((IntKind.wrap .u64 x6)*((2:Int)^(min (Int.toNat bits) 64)))))))):Nat):Int))))[(0+(Int.toNat (IntKind.wrap .i64 (x2+(1:Int)))))]? fun x9=>
 rec bits out1 x x1 (IntKind.wrap .i64 (x2+(1:Int))) (List.set (List.set outs (0+(Int.toNat x2)) (IntKind.wrap .u32 (((BitVec.toNat ((BitVec.ofInt 32 x7) ||| (BitVec.ofInt 32 (IntKind.wrap .u32 (IntKind.wrap .u64 ((IntKind.wrap .u64 x6)*((2:Int)^(min (Int.toNat bits) 64)))))))):Nat):Int))) (0+(Int.toNat (IntKind.wrap .i64 (x2+(1:Int))))) (IntKind.wrap .u32 (Int.fdiv (IntKind.wrap .u64 ((IntKind.wrap .u64 x6)*((2:Int)^(min (Int.toNat bits) 64)))) (4294967296:Int))))
 else
 none
 else
 none
 else
 none
 else
 none
 else
 (some (out1,outs))
def qd8 (k n:Nat):Int→Nat→List Int→Int→Int→List Int→Option (Nat×List Int):=Nat.rec (fun _ _ _ _ _ _=>none) (fun _ r=>qeA k r) n
def qiI (k:Nat) (a:List Int) (bits:Int):Option (Nat×List Int):=
 if(((0:Int)≤(IntKind.wrap .i64 ((((List.length a):Nat):Int)+(1:Int))))∧(((IntKind.wrap .i64 ((((List.length a):Nat):Int)+(1:Int)))≤(IntKind.wrap .i64 ((((List.length a):Nat):Int)+(1:Int))))∧(((IntKind.wrap .i64 ((((List.length a):Nat):Int)+(1:Int)))*(4:Int))≤(140737488355328:Int))))then
 Option.bind (qd8 k k bits (Int.toNat (IntKind.wrap .i64 ((((List.length a):Nat):Int)+(1:Int)))) a (((List.length a):Nat):Int) (0:Int) (List.replicate (Int.toNat (IntKind.wrap .i64 ((((List.length a):Nat):Int)+(1:Int)))) (0:Int))) fun r15=>
 (some (r15.1,r15.2))
 else
 none
def qgA:Nat→List Int→Int→Option (Nat×List Int)
 | 0,_,_=>none
 | k+1,a,bits=>qiI k a bits
def qwu:Nat→Inst:=mkI 247 ⟨[vT,vU],[]⟩ [⟨[.a (.smz 0)],[.arr (.int .u32) 1 106 false]⟩] fun k x=>qgA k x.1 x.2
def qwv (k:Nat):LInst:=mkL 0 [⟨[(1,vU),(5,.a (.smz 0)),(13,vT),(14,vI),(15,vI)],[(0,some (.arr (.int .u32) 1 106 false))],1⟩] [⟨some 0,⟨[(5,.a (.smz 0))],[(0,some (.arr (.int .u32) 1 106 false))],1⟩⟩] (fun n x=>qd8 k n x.1 x.2.1 x.2.2.1 x.2.2.2.1 x.2.2.2.2.1 x.2.2.2.2.2) k
theorem qww (k:Nat):LIo 247 Tryz.f247 0 k (qwv k):=
 lpk [] a0 l0 (fun _=>rfl) (by kernel_rfl) fun n x=>by kernel_rfl
theorem qzN:∀k,qg (call cf k) (qwu k):=
 fnk 0 [0] Tryz.func247 (fun k=>a0) (fun k=>(lc (qww k) l0)) ⟨rfl,rfl,⟨rfl,Nat.le_of_ble_eq_true rfl⟩,rfl⟩ (fun _=>rfl) (by kernel_rfl) fun k x=>by kernel_rfl

def qae (k:Nat) (rec:Nat→Nat→Nat→Int→Int→Int→Int→Int→List Int→List Int→Option (Nat×Nat×Nat×Int×Int×List Int×List Int)) (u0:Nat) (u1:Nat) (v:Nat) (d:Int) (carry:Int) (borrow:Int) (x:Int) (x1:Int) (us:List Int) (vs:List Int):Option (Nat×Nat×Nat×Int×Int×List Int×List Int):=
 if((decide (x1<x))=true)then
 if((decide (x1<((v:Nat):Int)))=true)then
 if(((0:Int)≤x1)∧(x1<((v:Nat):Int)))then
 Option.bind (vs)[(0+(Int.toNat x1))]? fun x10=>
 if(((0:Int)≤x1)∧(x1<((u1:Nat):Int)))then
 Option.bind (us)[(u0+(Int.toNat x1))]? fun x11=>
 if((decide ((IntKind.wrap .u64 x11)<(IntKind.wrap .u64 ((IntKind.wrap .u64 (((BitVec.toNat ((BitVec.ofInt 64 (IntKind.wrap .u64 (carry+(IntKind.wrap .u64 (d*(IntKind.wrap .u64 x10)))))) &&& (BitVec.ofInt 64 (4294967295:Int)))):Nat):Int))+borrow))))=true)then
 if(((0:Int)≤x1)∧(x1<((u1:Nat):Int)))then
 Option.bind (us)[(u0+(Int.toNat x1))]? fun x12=>
 if(((0:Int)≤x1)∧(x1<((u1:Nat):Int)))then
 Option.bind (us)[(u0+(Int.toNat x1))]? fun x13=>
 rec u0 u1 v d (Int.fdiv (IntKind.wrap .u64 (carry+(IntKind.wrap .u64 (d*(IntKind.wrap .u64 x10))))) (4294967296:Int)) (1:Int) x (IntKind.wrap .i64 (x1+(1:Int))) (List.set us (u0+(Int.toNat x1)) (IntKind.wrap .u32 (IntKind.wrap .u64 ((IntKind.wrap .u64 x12)-(IntKind.wrap .u64 ((IntKind.wrap .u64 (((BitVec.toNat ((BitVec.ofInt 64 (IntKind.wrap .u64 (carry+(IntKind.wrap .u64 (d*(IntKind.wrap .u64 x10)))))) &&& (BitVec.ofInt 64 (4294967295:Int)))):Nat):Int))+borrow)))))) vs
 else
 none
 else
 none
 else
 if(((0:Int)≤x1)∧(x1<((u1:Nat):Int)))then
 Option.bind (us)[(u0+(Int.toNat x1))]? fun x12=>
 if(((0:Int)≤x1)∧(x1<((u1:Nat):Int)))then
 Option.bind (us)[(u0+(Int.toNat x1))]? fun x13=>
 rec u0 u1 v d (Int.fdiv (IntKind.wrap .u64 (carry+(IntKind.wrap .u64 (d*(IntKind.wrap .u64 x10))))) (4294967296:Int)) (0:Int) x (IntKind.wrap .i64 (x1+(1:Int))) (List.set us (u0+(Int.toNat x1)) (IntKind.wrap .u32 (IntKind.wrap .u64 ((IntKind.wrap .u64 x12)-(IntKind.wrap .u64 ((IntKind.wrap .u64 (((BitVec.toNat ((BitVec.ofInt 64 (IntKind.wrap .u64 (carry+(IntKind.wrap .u64 (d*(IntKind.wrap .u64 x10)))))) &&& (BitVec.ofInt 64 (4294967295:Int)))):Nat):Int))+borrow)))))) vs
 else
 none
 else
 none
 else
 none
 else
 none
 else
 if(((0:Int)≤x1)∧(x1<((u1:Nat):Int)))then
 Option.bind (us)[(u0+(Int.toNat x1))]? fun x10=>
 if((decide ((IntKind.wrap .u64 x10)<(IntKind.wrap .u64 ((IntKind.wrap .u64 (((BitVec.toNat ((BitVec.ofInt 64 carry) &&& (BitVec.ofInt 64 (4294967295:Int)))):Nat):Int))+borrow))))=true)then
 if(((0:Int)≤x1)∧(x1<((u1:Nat):Int)))then
 Option.bind (us)[(u0+(Int.toNat x1))]? fun x11=>
 if(((0:Int)≤x1)∧(x1<((u1:Nat):Int)))then
 Option.bind (us)[(u0+(Int.toNat x1))]? fun x12=>
 rec u0 u1 v d (Int.fdiv carry (4294967296:Int)) (1:Int) x (IntKind.wrap .i64 (x1+(1:Int))) (List.set us (u0+(Int.toNat x1)) (IntKind.wrap .u32 (IntKind.wrap .u64 ((IntKind.wrap .u64 x11)-(IntKind.wrap .u64 ((IntKind.wrap .u64 (((BitVec.toNat ((BitVec.ofInt 64 carry) &&& (BitVec.ofInt 64 (4294967295:Int)))):Nat):Int))+borrow)))))) vs
 else
 none
 else
 none
 else
 if(((0:Int)≤x1)∧(x1<((u1:Nat):Int)))then
 Option.bind (us)[(u0+(Int.toNat x1))]? fun x11=>
 if(((0:Int)≤x1)∧(x1<((u1:Nat):Int)))then
 Option.bind (us)[(u0+(Int.toNat x1))]? fun x12=>
 rec u0 u1 v d (Int.fdiv carry (4294967296:Int)) (0:Int) x (IntKind.wrap .i64 (x1+(1:Int))) (List.set us (u0+(Int.toNat x1)) (IntKind.wrap .u32 (IntKind.wrap .u64 ((IntKind.wrap .u64 x11)-(IntKind.wrap .u64 ((IntKind.wrap .u64 (((BitVec.toNat ((BitVec.ofInt 64 carry) &&& (BitVec.ofInt 64 (4294967295:Int)))):Nat):Int))+borrow)))))) vs
 else
 none
 else
 none
 else
 none
 else
 (some (u0,u1,v,d,borrow,us,vs))
def qaL (k n:Nat):Nat→Nat→Nat→Int→Int→Int→Int→Int→List Int→List Int→Option (Nat×Nat×Nat×Int×Int×List Int×List Int):=Nat.rec (fun _ _ _ _ _ _ _ _ _ _=>none) (fun _ r=>qae k r) n
def qb2 (k:Nat) (rec:Nat→Nat→Nat→Int→Int→Int→Int→List Int→List Int→Option (Int×List Int×List Int)) (u0:Nat) (u1:Nat) (v:Nat) (d:Int) (carry:Int) (x:Int) (x1:Int) (us:List Int) (vs:List Int):Option (Int×List Int×List Int):=
 if((decide (x1<x))=true)then
 if(((0:Int)≤x1)∧(x1<((u1:Nat):Int)))then
 Option.bind (us)[(u0+(Int.toNat x1))]? fun x10=>
 if((decide (x1<((v:Nat):Int)))=true)then
 if(((0:Int)≤x1)∧(x1<((v:Nat):Int)))then
 Option.bind (vs)[(0+(Int.toNat x1))]? fun x11=>
 if(((0:Int)≤x1)∧(x1<((u1:Nat):Int)))then
 Option.bind (us)[(u0+(Int.toNat x1))]? fun x12=>
 rec u0 u1 v d (Int.fdiv (IntKind.wrap .u64 ((IntKind.wrap .u64 ((IntKind.wrap .u64 x10)+carry))+(IntKind.wrap .u64 x11))) (4294967296:Int)) x (IntKind.wrap .i64 (x1+(1:Int))) (List.set us (u0+(Int.toNat x1)) (IntKind.wrap .u32 (IntKind.wrap .u64 ((IntKind.wrap .u64 ((IntKind.wrap .u64 x10)+carry))+(IntKind.wrap .u64 x11))))) vs
 else
 none
 else
 none
 else
 if(((0:Int)≤x1)∧(x1<((u1:Nat):Int)))then
 Option.bind (us)[(u0+(Int.toNat x1))]? fun x11=>
 rec u0 u1 v d (Int.fdiv (IntKind.wrap .u64 ((IntKind.wrap .u64 x10)+carry)) (4294967296:Int)) x (IntKind.wrap .i64 (x1+(1:Int))) (List.set us (u0+(Int.toNat x1)) (IntKind.wrap .u32 (IntKind.wrap .u64 ((IntKind.wrap .u64 x10)+carry)))) vs
 else
 none
 else
 none
 else
 (some (d,us,vs))
def qbS (k n:Nat):Nat→Nat→Nat→Int→Int→Int→Int→List Int→List Int→Option (Int×List Int×List Int):=Nat.rec (fun _ _ _ _ _ _ _ _ _=>none) (fun _ r=>qb2 k r) n
def qfS (k:Nat) (u0:Nat) (u1:Nat) (v:Nat) (d:Int) (us:List Int) (vs:List Int):Option (Int×List Int×List Int):=
 Option.bind (qaL k k u0 u1 v d (0:Int) (0:Int) ((u1:Nat):Int) (0:Int) us vs) fun r18=>
 if((r18.2.2.2.2.1 == (0:Int))=true)then
 (some ((IntKind.wrap .u32 r18.2.2.2.1),r18.2.2.2.2.2.1,r18.2.2.2.2.2.2))
 else
 Option.bind (qbS k k r18.1 r18.2.1 r18.2.2.1 r18.2.2.2.1 (0:Int) ((r18.2.1:Nat):Int) (0:Int) r18.2.2.2.2.2.1 r18.2.2.2.2.2.2) fun r19=>
 (some ((IntKind.wrap .u32 (IntKind.wrap .u64 (r19.1-(1:Int)))),r19.2.1,r19.2.2))
def qfT:Nat→Nat→Nat→Nat→Int→List Int→List Int→Option (Int×List Int×List Int)
 | 0,_,_,_,_,_,_=>none
 | k+1,u0,u1,v,d,us,vs=>qfS k u0 u1 v d us vs
def qwx:Nat→Inst:=mkI 248 ⟨[.a (.sms 0),.a (.smz 1),vU],[.arr (.int .u32) 1 106 false,.arr (.int .u32) 1 106 false]⟩ [⟨[.a (.lf (.int .u32))],[.arr (.int .u32) 1 106 false,.arr (.int .u32) 1 106 false]⟩] fun k x=>qfT k x.1 x.2.1 x.2.2.1 x.2.2.2.1 x.2.2.2.2.1 x.2.2.2.2.2
def qwy (k:Nat):LInst:=mkL 0 [⟨[(0,.a (.sms 0)),(1,.a (.smz 1)),(2,vU),(7,vU),(8,vU),(14,vI),(15,vI)],[(0,some (.arr (.int .u32) 1 106 false)),(1,some (.arr (.int .u32) 1 106 false))],2⟩] [⟨some 0,⟨[(0,.a (.sms 0)),(1,.a (.smz 1)),(2,vU),(8,vU)],[(0,some (.arr (.int .u32) 1 106 false)),(1,some (.arr (.int .u32) 1 106 false))],2⟩⟩] (fun n x=>qaL k n x.1 x.2.1 x.2.2.1 x.2.2.2.1 x.2.2.2.2.1 x.2.2.2.2.2.1 x.2.2.2.2.2.2.1 x.2.2.2.2.2.2.2.1 x.2.2.2.2.2.2.2.2.1 x.2.2.2.2.2.2.2.2.2) k
theorem qq0 (k:Nat):LIo 248 Tryz.f248 2 k (qwy k):=
 lpk [] a0 l0 (fun _=>rfl) (by kernel_rfl) fun n x=>by kernel_rfl
def qwz (k:Nat):LInst:=mkL 2 [⟨[(0,.a (.sms 0)),(1,.a (.smz 1)),(2,vU),(7,vU),(61,vI),(62,vI)],[(0,some (.arr (.int .u32) 1 106 false)),(1,some (.arr (.int .u32) 1 106 false))],2⟩] [⟨some 2,⟨[(2,vU)],[(0,some (.arr (.int .u32) 1 106 false)),(1,some (.arr (.int .u32) 1 106 false))],2⟩⟩] (fun n x=>qbS k n x.1 x.2.1 x.2.2.1 x.2.2.2.1 x.2.2.2.2.1 x.2.2.2.2.2.1 x.2.2.2.2.2.2.1 x.2.2.2.2.2.2.2.1 x.2.2.2.2.2.2.2.2) k
theorem qwA (k:Nat):LIo 248 Tryz.f248 2 k (qwz k):=
 lpk [] a0 (lc (qq0 k) l0) (fun _=>rfl) (by kernel_rfl) fun n x=>by kernel_rfl
theorem qzO:∀k,qg (call cf k) (qwx k):=
 fnk 2 [0,2] Tryz.func248 (fun k=>a0) (fun k=>(lc (qq0 k) (lc (qwA k) l0))) ⟨rfl,rfl,⟨rfl,Nat.le_of_ble_eq_true rfl⟩,rfl⟩ (fun _=>rfl) (by kernel_rfl) fun k x=>by kernel_rfl

def qe1 (k:Nat) (rec:List Int→List Int→Int→Option (List Int×List Int×Int)) (a:List Int) (b:List Int) (bits:Int):Option (List Int×List Int×Int):=
 if((0:Int)≤(IntKind.wrap .i64 ((((List.length b):Nat):Int)-(1:Int))))then
 Option.bind (b)[(Int.toNat (IntKind.wrap .i64 ((((List.length b):Nat):Int)-(1:Int))))]? fun x6=>
 if(bits<(0:Int))then
 none
 else
 if(((Int.fdiv (IntKind.wrap .u32 (x6*((2:Int)^(min (Int.toNat bits) 32)))) (2147483648:Int)) == (0:Int))=true)then
 rec a b (IntKind.wrap .u64 (bits+(1:Int)))
 else
 (some (a,b,bits))
 else
 none
def qeF (k n:Nat):List Int→List Int→Int→Option (List Int×List Int×Int):=Nat.rec (fun _ _ _=>none) (fun _ r=>qe1 k r) n
def qby (k:Nat) (rec:Nat→Int→Int→Nat→Nat→Int→Int→Int→List Int→List Int→List Int→Option (Nat×Int×Int×Nat×Nat×Int×Int×List Int×List Int×List Int)) (q:Nat) (bits:Int) (n:Int) (u:Nat) (v:Nat) (j:Int) (d:Int) (rest:Int) (qs:List Int) (us:List Int) (vs:List Int):Option (Nat×Int×Int×Nat×Nat×Int×Int×List Int×List Int×List Int):=
 if((decide (d>(4294967295:Int)))=false)then
 if((decide (rest≤(4294967295:Int)))=true)then
 if(((0:Int)≤(IntKind.wrap .i64 (n-(2:Int))))∧((IntKind.wrap .i64 (n-(2:Int)))<((v:Nat):Int)))then
 Option.bind (vs)[(0+(Int.toNat (IntKind.wrap .i64 (n-(2:Int)))))]? fun x10=>
 if(((0:Int)≤(IntKind.wrap .i64 ((IntKind.wrap .i64 (j+n))-(2:Int))))∧((IntKind.wrap .i64 ((IntKind.wrap .i64 (j+n))-(2:Int)))<((u:Nat):Int)))then
 Option.bind (us)[(0+(Int.toNat (IntKind.wrap .i64 ((IntKind.wrap .i64 (j+n))-(2:Int)))))]? fun x11=>
 if((decide ((IntKind.wrap .u64 (d*(IntKind.wrap .u64 x10)))>(IntKind.wrap .u64 (((BitVec.toNat ((BitVec.ofInt 64 (IntKind.wrap .u64 (rest*(4294967296:Int)))) ||| (BitVec.ofInt 64 (IntKind.wrap .u64 x11)))):Nat):Int))))=true)then
 if(((0:Int)≤(IntKind.wrap .i64 (n-(1:Int))))∧((IntKind.wrap .i64 (n-(1:Int)))<((v:Nat):Int)))then
 Option.bind (vs)[(0+(Int.toNat (IntKind.wrap .i64 (n-(1:Int)))))]? fun x12=>
 if((decide ((IntKind.wrap .u64 (rest+(IntKind.wrap .u64 x12)))>(4294967295:Int)))=true)then
 (some (q,bits,n,u,v,j,(IntKind.wrap .u64 (d-(1:Int))),qs,us,vs))
 else
 rec q bits n u v j (IntKind.wrap .u64 (d-(1:Int))) (IntKind.wrap .u64 (rest+(IntKind.wrap .u64 x12))) qs us vs
 else
 none
 else
 (some (q,bits,n,u,v,j,d,qs,us,vs))
 else
 none
 else
 none
 else
 (some (q,bits,n,u,v,j,d,qs,us,vs))
 else
 if(((0:Int)≤(IntKind.wrap .i64 (n-(1:Int))))∧((IntKind.wrap .i64 (n-(1:Int)))<((v:Nat):Int)))then
 Option.bind (vs)[(0+(Int.toNat (IntKind.wrap .i64 (n-(1:Int)))))]? fun x10=>
 if((decide ((IntKind.wrap .u64 (rest+(IntKind.wrap .u64 x10)))>(4294967295:Int)))=true)then
 (some (q,bits,n,u,v,j,(IntKind.wrap .u64 (d-(1:Int))),qs,us,vs))
 else
 rec q bits n u v j (IntKind.wrap .u64 (d-(1:Int))) (IntKind.wrap .u64 (rest+(IntKind.wrap .u64 x10))) qs us vs
 else
 none
def qcO (k n:Nat):Nat→Int→Int→Nat→Nat→Int→Int→Int→List Int→List Int→List Int→Option (Nat×Int×Int×Nat×Nat×Int×Int×List Int×List Int×List Int):=Nat.rec (fun _ _ _ _ _ _ _ _ _ _ _=>none) (fun _ r=>qby k r) n
def qe2 (k:Nat) (rec:Nat→Int→Int→Nat→Nat→Int→List Int→List Int→List Int→Option (Nat×Int×Int×Nat×List Int×List Int×List Int)) (q:Nat) (bits:Int) (n:Int) (u:Nat) (v:Nat) (j:Int) (qs:List Int) (us:List Int) (vs:List Int):Option (Nat×Int×Int×Nat×List Int×List Int×List Int):=
 if((decide (j≥(0:Int)))=true)then
 if(((0:Int)≤(IntKind.wrap .i64 (j+n)))∧((IntKind.wrap .i64 (j+n))<((u:Nat):Int)))then
 Option.bind (us)[(0+(Int.toNat (IntKind.wrap .i64 (j+n))))]? fun x6=>
 if(((0:Int)≤(IntKind.wrap .i64 ((IntKind.wrap .i64 (j+n))-(1:Int))))∧((IntKind.wrap .i64 ((IntKind.wrap .i64 (j+n))-(1:Int)))<((u:Nat):Int)))then
 Option.bind (us)[(0+(Int.toNat (IntKind.wrap .i64 ((IntKind.wrap .i64 (j+n))-(1:Int)))))]? fun x7=>
 if(((0:Int)≤(IntKind.wrap .i64 (n-(1:Int))))∧((IntKind.wrap .i64 (n-(1:Int)))<((v:Nat):Int)))then
 Option.bind (vs)[(0+(Int.toNat (IntKind.wrap .i64 (n-(1:Int)))))]? fun x8=>
 if((IntKind.wrap .u64 x8)=(0:Int))then
 none
 else
 if(((0:Int)≤(IntKind.wrap .i64 (n-(1:Int))))∧((IntKind.wrap .i64 (n-(1:Int)))<((v:Nat):Int)))then
 Option.bind (vs)[(0+(Int.toNat (IntKind.wrap .i64 (n-(1:Int)))))]? fun x9=>
 if((IntKind.wrap .u64 x9)=(0:Int))then
 none
 else
 Option.bind (qcO k k q bits n u v j (IntKind.wrap .u64 (Int.tdiv (IntKind.wrap .u64 (((BitVec.toNat ((BitVec.ofInt 64 (IntKind.wrap .u64 ((IntKind.wrap .u64 x6)*(4294967296:Int)))) ||| (BitVec.ofInt 64 (IntKind.wrap .u64 x7)))):Nat):Int)) (IntKind.wrap .u64 x8))) (Int.tmod (IntKind.wrap .u64 (((BitVec.toNat ((BitVec.ofInt 64 (IntKind.wrap .u64 ((IntKind.wrap .u64 x6)*(4294967296:Int)))) ||| (BitVec.ofInt 64 (IntKind.wrap .u64 x7)))):Nat):Int)) (IntKind.wrap .u64 x9)) qs us vs) fun r17=>
 if(((0:Int)≤r17.2.2.2.2.2.1)∧((r17.2.2.2.2.2.1≤(IntKind.wrap .i64 ((IntKind.wrap .i64 (r17.2.2.2.2.2.1+r17.2.2.1))+(1:Int))))∧(((0+(Int.toNat (IntKind.wrap .i64 ((IntKind.wrap .i64 (r17.2.2.2.2.2.1+r17.2.2.1))+(1:Int)))))≤(List.length r17.2.2.2.2.2.2.2.2.1))∧((r17.2.2.2.2.2.1<(IntKind.wrap .i64 ((IntKind.wrap .i64 (r17.2.2.2.2.2.1+r17.2.2.1))+(1:Int))))∨(false=true)))))then
 Option.bind (qfT k (0+(Int.toNat r17.2.2.2.2.2.1)) ((Int.toNat (IntKind.wrap .i64 ((IntKind.wrap .i64 (r17.2.2.2.2.2.1+r17.2.2.1))+(1:Int))))-(Int.toNat r17.2.2.2.2.2.1)) r17.2.2.2.2.1 r17.2.2.2.2.2.2.1 r17.2.2.2.2.2.2.2.2.1 r17.2.2.2.2.2.2.2.2.2) fun r18=>
 if(((0:Int)≤r17.2.2.2.2.2.1)∧(r17.2.2.2.2.2.1<((r17.1:Nat):Int)))then
 Option.bind (r17.2.2.2.2.2.2.2.1)[(0+(Int.toNat r17.2.2.2.2.2.1))]? fun x10=>
 rec r17.1 r17.2.1 r17.2.2.1 r17.2.2.2.1 r17.2.2.2.2.1 (IntKind.wrap .i64 (r17.2.2.2.2.2.1-(1:Int))) (List.set r17.2.2.2.2.2.2.2.1 (0+(Int.toNat r17.2.2.2.2.2.1)) r18.1) r18.2.1 r18.2.2
 else
 none
 else
 none
 else
 none
 else
 none
 else
 none
 else
 none
 else
 (some (q,bits,n,u,qs,us,vs))
def qfN (k n:Nat):Nat→Int→Int→Nat→Nat→Int→List Int→List Int→List Int→Option (Nat×Int×Int×Nat×List Int×List Int×List Int):=Nat.rec (fun _ _ _ _ _ _ _ _ _=>none) (fun _ r=>qe2 k r) n
def qe3 (k:Nat) (rec:Nat→Nat→Int→Nat→Int→Int→List Int→List Int→List Int→Option (Nat×Nat×List Int×List Int×List Int)) (q:Nat) (r:Nat) (bits:Int) (u:Nat) (x:Int) (x1:Int) (qs:List Int) (rs:List Int) (us:List Int):Option (Nat×Nat×List Int×List Int×List Int):=
 if((decide (x1<x))=true)then
 if(((0:Int)≤x1)∧(x1<((u:Nat):Int)))then
 Option.bind (us)[(0+(Int.toNat x1))]? fun x6=>
 if(bits<(0:Int))then
 none
 else
 if(((0:Int)≤(IntKind.wrap .i64 (x1+(1:Int))))∧((IntKind.wrap .i64 (x1+(1:Int)))<((u:Nat):Int)))then
 Option.bind (us)[(0+(Int.toNat (IntKind.wrap .i64 (x1+(1:Int)))))]? fun x7=>
 if((IntKind.wrap .u64 ((32:Int)-bits))<(0:Int))then
 none
 else
 if(((0:Int)≤x1)∧(x1<((r:Nat):Int)))then
 Option.bind (rs)[(0+(Int.toNat x1))]? fun x8=>
 rec q r bits u x (IntKind.wrap .i64 (x1+(1:Int))) qs (List.set rs (0+(Int.toNat x1)) (IntKind.wrap .u32 (((BitVec.toNat ((BitVec.ofInt 32 (Int.fdiv x6 ((2:Int)^(min (Int.toNat bits) 32)))) ||| (BitVec.ofInt 32 (IntKind.wrap .u32 (IntKind.wrap .u64 ((IntKind.wrap .u64 x7)*((2:Int)^(min (Int.toNat (IntKind.wrap .u64 ((32:Int)-bits))) 64)))))))):Nat):Int))) us
 else
 none
 else
 none
 else
 none
 else
 (some (q,r,qs,rs,us))
def qeG (k n:Nat):Nat→Nat→Int→Nat→Int→Int→List Int→List Int→List Int→Option (Nat×Nat×List Int×List Int×List Int):=Nat.rec (fun _ _ _ _ _ _ _ _ _=>none) (fun _ r=>qe3 k r) n
def qi3 (k:Nat) (a:List Int) (b:List Int):Option (List Int×List Int):=
 Option.bind (qeF k k a b (0:Int)) fun r14=>
 Option.bind (qgA k r14.1 r14.2.2) fun r15=>
 Option.bind (qgA k r14.2.1 r14.2.2) fun r16=>
 if(((0:Int)≤(0:Int))∧(((0:Int)≤(((List.length r14.2.1):Nat):Int))∧(((0+(Int.toNat (((List.length r14.2.1):Nat):Int)))≤(List.length r16.2))∧(((0:Int)<(((List.length r14.2.1):Nat):Int))∨(true=true)))))then
 if(((0:Int)≤(IntKind.wrap .i64 (((r15.1:Nat):Int)-(((List.length r14.2.1):Nat):Int))))∧(((IntKind.wrap .i64 (((r15.1:Nat):Int)-(((List.length r14.2.1):Nat):Int)))≤(IntKind.wrap .i64 (((r15.1:Nat):Int)-(((List.length r14.2.1):Nat):Int))))∧(((IntKind.wrap .i64 (((r15.1:Nat):Int)-(((List.length r14.2.1):Nat):Int)))*(4:Int))≤(140737488355328:Int))))then
 Option.bind (qfN k k (Int.toNat (IntKind.wrap .i64 (((r15.1:Nat):Int)-(((List.length r14.2.1):Nat):Int)))) r14.2.2 (((List.length r14.2.1):Nat):Int) r15.1 (Int.toNat (((List.length r14.2.1):Nat):Int)) (IntKind.wrap .i64 ((IntKind.wrap .i64 (((r15.1:Nat):Int)-(((List.length r14.2.1):Nat):Int)))-(1:Int))) (List.replicate (Int.toNat (IntKind.wrap .i64 (((r15.1:Nat):Int)-(((List.length r14.2.1):Nat):Int)))) (0:Int)) r15.2 r16.2) fun r17=>
 if(((0:Int)≤r17.2.2.1)∧((r17.2.2.1≤r17.2.2.1)∧((r17.2.2.1*(4:Int))≤(140737488355328:Int))))then
 Option.bind (qeG k k r17.1 (Int.toNat r17.2.2.1) r17.2.1 r17.2.2.2.1 r17.2.2.1 (0:Int) r17.2.2.2.2.1 (List.replicate (Int.toNat r17.2.2.1) (0:Int)) r17.2.2.2.2.2.1) fun r18=>
 if((0+r18.1)≤(List.length r18.2.2.1))then
 if((0+r18.2.1)≤(List.length r18.2.2.2.1))then
 (some ((List.take r18.1 r18.2.2.1),(List.take r18.2.1 r18.2.2.2.1)))
 else
 none
 else
 none
 else
 none
 else
 none
 else
 none
def qhR:Nat→List Int→List Int→Option (List Int×List Int)
 | 0,_,_=>none
 | k+1,a,b=>qi3 k a b
def qAR:Nat→Inst:=mkI 242 ⟨[vT,vT],[]⟩ [⟨[vT,vT],[]⟩] fun k x=>qhR k x.1 x.2
theorem qkG (k:Nat):qaH (call cf k) [qwu k,qwx k]:=
 ac (qzN k) (ac (qzO k) a0)
def qjJ:SS:=⟨[(0,vT),(1,vT),(6,vU)],[],0⟩
def qwB (k:Nat):LInst:=mkL 0 [qjJ] [⟨some 0,qjJ⟩] (fun n x=>qeF k n x.1 x.2.1 x.2.2) k
theorem qkH (k:Nat):LIo 242 Tryz.f242 0 k (qwB k):=
 lpk [] (qkG k) l0 (fun _=>rfl) (by kernel_rfl) fun n x=>by kernel_rfl
def qwC (k:Nat):LInst:=mkL 4 [⟨[(4,.a (.smz 0)),(6,vU),(7,vI),(8,.a (.smz 1)),(9,.a (.smz 2)),(10,vI),(12,vU),(13,vU)],[(0,some (.arr (.int .u32) 1 106 false)),(1,some (.arr (.int .u32) 1 106 false)),(2,some (.arr (.int .u32) 1 106 false))],3⟩] [⟨some 4,⟨[(4,.a (.smz 0)),(6,vU),(7,vI),(8,.a (.smz 1)),(9,.a (.smz 2)),(10,vI),(12,vU)],[(0,some (.arr (.int .u32) 1 106 false)),(1,some (.arr (.int .u32) 1 106 false)),(2,some (.arr (.int .u32) 1 106 false))],3⟩⟩] (fun n x=>qcO k n x.1 x.2.1 x.2.2.1 x.2.2.2.1 x.2.2.2.2.1 x.2.2.2.2.2.1 x.2.2.2.2.2.2.1 x.2.2.2.2.2.2.2.1 x.2.2.2.2.2.2.2.2.1 x.2.2.2.2.2.2.2.2.2.1 x.2.2.2.2.2.2.2.2.2.2) k
theorem qnc (k:Nat):LIo 242 Tryz.f242 0 k (qwC k):=
 lpk [] (qkG k) (lc (qkH k) l0) (fun _=>rfl) (by kernel_rfl) fun n x=>by kernel_rfl
def qwD (k:Nat):LInst:=mkL 2 [⟨[(4,.a (.smz 0)),(6,vU),(7,vI),(8,.a (.smz 1)),(9,.a (.smz 2)),(10,vI)],[(0,some (.arr (.int .u32) 1 106 false)),(1,some (.arr (.int .u32) 1 106 false)),(2,some (.arr (.int .u32) 1 106 false))],3⟩] [⟨some 2,⟨[(4,.a (.smz 0)),(6,vU),(7,vI),(8,.a (.smz 1))],[(0,some (.arr (.int .u32) 1 106 false)),(1,some (.arr (.int .u32) 1 106 false)),(2,some (.arr (.int .u32) 1 106 false))],3⟩⟩] (fun n x=>qfN k n x.1 x.2.1 x.2.2.1 x.2.2.2.1 x.2.2.2.2.1 x.2.2.2.2.2.1 x.2.2.2.2.2.2.1 x.2.2.2.2.2.2.2.1 x.2.2.2.2.2.2.2.2) k
theorem qq1 (k:Nat):LIo 242 Tryz.f242 0 k (qwD k):=
 lpk [4] (qkG k) (lc (qkH k) (lc (qnc k) l0)) (fun _=>rfl) (by kernel_rfl) fun n x=>by kernel_rfl
def qwE (k:Nat):LInst:=mkL 6 [⟨[(4,.a (.smz 0)),(5,.a (.smz 1)),(6,vU),(8,.a (.smz 2)),(139,vI),(140,vI)],[(0,some (.arr (.int .u32) 1 106 false)),(1,some (.arr (.int .u32) 1 106 false)),(2,some (.arr (.int .u32) 1 106 false))],3⟩] [⟨some 6,⟨[(4,.a (.smz 0)),(5,.a (.smz 1))],[(0,some (.arr (.int .u32) 1 106 false)),(1,some (.arr (.int .u32) 1 106 false)),(2,some (.arr (.int .u32) 1 106 false))],3⟩⟩] (fun n x=>qeG k n x.1 x.2.1 x.2.2.1 x.2.2.2.1 x.2.2.2.2.1 x.2.2.2.2.2.1 x.2.2.2.2.2.2.1 x.2.2.2.2.2.2.2.1 x.2.2.2.2.2.2.2.2) k
theorem qwF (k:Nat):LIo 242 Tryz.f242 0 k (qwE k):=
 lpk [] (qkG k) (lc (qkH k) (lc (qnc k) (lc (qq1 k) l0))) (fun _=>rfl) (by kernel_rfl) fun n x=>by kernel_rfl
theorem qzP:∀k,qg (call cf k) (qAR k):=
 fnk 0 [0,2,6] Tryz.func242 (fun k=>(qkG k)) (fun k=>(lc (qkH k) (lc (qnc k) (lc (qq1 k) (lc (qwF k) l0))))) ⟨rfl,rfl,⟨rfl,Nat.le_of_ble_eq_true rfl⟩,rfl⟩ (fun _=>rfl) (by kernel_rfl) fun k x=>by kernel_rfl

def qdT (k:Nat) (a:List Int) (b:List Int):Option (List Int×List Int):=
 Option.bind (qiF k a b) fun r13=>
 if((decide (r13<(0:Int)))=true)then
 (some ([],a))
 else
 if(((((List.length b):Nat):Int) == (1:Int))=true)then
 Option.bind (b)[0]? fun x6=>
 Option.bind (qiH k a x6) fun r14=>
 (some (r14.1,(List.take 1 (r14.2:: []))))
 else
 Option.bind (qhR k a b) fun r14=>
 (some (r14.1,r14.2))
def qdU:Nat→List Int→List Int→Option (List Int×List Int)
 | 0,_,_=>none
 | k+1,a,b=>qdT k a b
def qwG:Nat→Inst:=mkI 231 ⟨[vT,vT],[]⟩ [⟨[vT,vT],[]⟩] fun k x=>qdU k x.1 x.2
theorem qtH:∀k,qg (call cf k) (qwG k):=
 fnk 0 [] Tryz.func231 (fun k=>(ac (qtG k) (ac (qzM k) (ac (qzP k) a0)))) (fun k=>l0) ⟨rfl,rfl,⟨rfl,Nat.le_of_ble_eq_true rfl⟩,rfl⟩ (fun _=>rfl) (by kernel_rfl) fun k x=>by kernel_rfl

def qdL (k:Nat) (rec:List Int→List Int→Bool→List Int→Bool→List Int→Option (List Int×Bool×List Int×Bool×List Int)) (a:List Int) (b:List Int) (m0:Bool) (m1:List Int) (m01:Bool) (m11:List Int):Option (List Int×Bool×List Int×Bool×List Int):=
 if((decide ((((List.length b):Nat):Int)>(0:Int)))=true)then
 Option.bind (qdU k a b) fun r13=>
 if(((0+(List.length r13.2))*4)≤140737488355328)then
 if((0+(0+(List.length r13.2)))≤(List.length ((List.take 0 [])++r13.2)))then
 Option.bind (qdJ k (List.take (0+(List.length r13.2)) ((List.take 0 [])++r13.2))) fun r14=>
 rec b r14 m0 m1 m01 m11
 else
 none
 else
 none
 else
 (some (a,m0,m1,m01,m11))
def qd9 (k n:Nat):List Int→List Int→Bool→List Int→Bool→List Int→Option (List Int×Bool×List Int×Bool×List Int):=Nat.rec (fun _ _ _ _ _ _=>none) (fun _ r=>qdL k r) n
def qhD (k:Nat) (x0:Bool) (x1:List Int) (y0:Bool) (y1:List Int):Option (Bool×List Int×Bool×List Int×Bool×List Int):=
 Option.bind (qd9 k k x1 y1 x0 x1 y0 y1) fun r13=>
 Option.bind (qbw k false r13.1 false) fun r14=>
 (some (r13.2.1,r13.2.2.1,r13.2.2.2.1,r13.2.2.2.2,r14.1,r14.2))
def qgB:Nat→Bool→List Int→Bool→List Int→Option (Bool×List Int×Bool×List Int×Bool×List Int)
 | 0,_,_,_,_=>none
 | k+1,x0,x1,y0,y1=>qhD k x0 x1 y0 y1
def Iq1:Nat→Inst:=mkI 203 ⟨[.a (.ptr 0 0 0),.a (.ptr 1 0 0)],[.raw [[.lf .bool,.lf cW]] 2 147 true false false,.raw [[.lf .bool,.lf cW]] 2 147 true false false]⟩ [⟨[.a (.ptr 2 0 0)],[.raw [[.lf .bool,.lf cW]] 2 147 true false false,.raw [[.lf .bool,.lf cW]] 2 147 true false false,.raw [[.lf .bool,.lf cW]] 2 147 true false false]⟩] fun k x=>qgB k x.1 x.2.1 x.2.2.1 x.2.2.2
theorem qwH (k:Nat):qaH (call cf k) [qwG k,qvS k,Iq8 k]:=
 ac (qtH k) (ac (qkB k) (ac (qpA k) a0))
def qwI (k:Nat):LInst:=mkL 0 [⟨[(5,vT),(6,vT)],[(0,some (.raw [[.lf .bool,.lf cW]] 2 147 true false false)),(1,some (.raw [[.lf .bool,.lf cW]] 2 147 true false false))],2⟩] [⟨some 0,⟨[(5,vT)],[(0,some (.raw [[.lf .bool,.lf cW]] 2 147 true false false)),(1,some (.raw [[.lf .bool,.lf cW]] 2 147 true false false))],2⟩⟩] (fun n x=>qd9 k n x.1 x.2.1 x.2.2.1 x.2.2.2.1 x.2.2.2.2.1 x.2.2.2.2.2) k
theorem qwJ (k:Nat):LIo 203 Tryz.f203 2 k (qwI k):=
 lpk [] (qwH k) l0 (fun _=>rfl) (by kernel_rfl) fun n x=>by kernel_rfl
theorem qAS:∀k,qg (call cf k) (Iq1 k):=
 fnk 2 [0] Tryz.func203 (fun k=>(qwH k)) (fun k=>(lc (qwJ k) l0)) ⟨rfl,rfl,⟨rfl,Nat.le_of_ble_eq_true rfl⟩,rfl⟩ (fun _=>rfl) (by kernel_rfl) fun k x=>by kernel_rfl

def qeO (k:Nat) (z:Bool) (x0:Bool) (x1:List Int) (y0:Bool) (y1:List Int) (r:Bool):Option (Bool×List Int×Bool×List Int×Bool×List Int×Bool×List Int):=
 Option.bind (qdU k x1 y1) fun r14=>
 Option.bind (qbw k x0 r14.2 r) fun r15=>
 Option.bind (qbw k (!(x0 == y0)) r14.1 z) fun r16=>
 (some (r16.1,r16.2,x0,x1,y0,y1,r15.1,r15.2))
def qdC:Nat→Bool→Bool→List Int→Bool→List Int→Bool→Option (Bool×List Int×Bool×List Int×Bool×List Int×Bool×List Int)
 | 0,_,_,_,_,_,_=>none
 | k+1,z,x0,x1,y0,y1,r=>qeO k z x0 x1 y0 y1 r
def Iq6:Nat→Inst:=mkI 232 ⟨[.a (.ptr 0 0 0),.a (.ptr 1 0 0),.a (.ptr 2 0 0),.a (.ptr 3 0 0)],[.raw [[.lf .bool,.snil 1 106]] 2 147 true false false,.raw [[.lf .bool,.lf cW]] 2 147 true false false,.raw [[.lf .bool,.lf cW]] 2 147 true false false,.raw [[.lf .bool,.snil 1 106]] 2 147 true false false]⟩ [⟨[.a (.ptr 0 0 0),.a (.ptr 3 0 0)],[.raw [[.lf .bool,.lf cW]] 2 147 true false false,.raw [[.lf .bool,.lf cW]] 2 147 true false false,.raw [[.lf .bool,.lf cW]] 2 147 true false false,.raw [[.lf .bool,.lf cW]] 2 147 true false false]⟩] fun k x=>qdC k x.1 x.2.1 x.2.2.1 x.2.2.2.1 x.2.2.2.2.1 x.2.2.2.2.2
theorem qAT:∀k,qg (call cf k) (Iq6 k):=
 fnk 4 [] Tryz.func232 (fun k=>(ac (qtH k) (ac (qpA k) a0))) (fun k=>l0) ⟨rfl,rfl,⟨rfl,Nat.le_of_ble_eq_true rfl⟩,rfl⟩ (fun _=>rfl) (by kernel_rfl) fun k x=>by kernel_rfl

def qj2 (k:Nat) (z:Bool) (x0:Bool) (x1:List Int) (y0:Bool) (y1:List Int):Option (Bool×List Int×Bool×List Int×Bool×List Int):=
 Option.bind (qdC k z x0 x1 y0 y1 false) fun r14=>
 (some (r14.1,r14.2.1,r14.2.2.1,r14.2.2.2.1,r14.2.2.2.2.1,r14.2.2.2.2.2.1))
def qb3:Nat→Bool→Bool→List Int→Bool→List Int→Option (Bool×List Int×Bool×List Int×Bool×List Int)
 | 0,_,_,_,_,_=>none
 | k+1,z,x0,x1,y0,y1=>qj2 k z x0 x1 y0 y1
def Iq7:Nat→Inst:=mkI 204 ⟨[.a (.ptr 0 0 0),.a (.ptr 1 0 0),.a (.ptr 2 0 0)],[.raw [[.lf .bool,.snil 1 106]] 2 147 true false false,.raw [[.lf .bool,.lf cW]] 2 147 true false false,.raw [[.lf .bool,.lf cW]] 2 147 true false false]⟩ [⟨[.a (.ptr 0 0 0)],[.raw [[.lf .bool,.lf cW]] 2 147 true false false,.raw [[.lf .bool,.lf cW]] 2 147 true false false,.raw [[.lf .bool,.lf cW]] 2 147 true false false]⟩] fun k x=>qb3 k x.1 x.2.1 x.2.2.1 x.2.2.2.1 x.2.2.2.2
theorem qAU:∀k,qg (call cf k) (Iq7 k):=
 fnk 3 [] Tryz.func204 (fun k=>(ac (qAT k) a0)) (fun k=>l0) ⟨rfl,rfl,⟨rfl,Nat.le_of_ble_eq_true rfl⟩,rfl⟩ (fun _=>rfl) (by kernel_rfl) fun k x=>by kernel_rfl

def qc7 (k:Nat) (z0:Bool) (z1:Bool) (n0:Bool) (n1:List Int) (d0:Bool) (d1:List Int):Option (Bool×List Int×Bool×List Int×Bool×List Int×Bool×List Int):=
 Option.bind (qgB k n0 n1 d0 d1) fun r13=>
 if(r13.2.2.1=true)then
 Option.bind (qb3 k false r13.1 r13.2.1 true r13.2.2.2.2.2) fun r14=>
 Option.bind (qb3 k false r13.2.2.1 r13.2.2.2.1 r14.2.2.2.2.1 r14.2.2.2.2.2) fun r15=>
 (some (r14.1,r14.2.1,r15.1,r15.2.1,r14.2.2.1,r14.2.2.2.1,r15.2.2.1,r15.2.2.2.1))
 else
 Option.bind (qb3 k false r13.1 r13.2.1 r13.2.2.2.2.1 r13.2.2.2.2.2) fun r14=>
 Option.bind (qb3 k false r13.2.2.1 r13.2.2.2.1 r14.2.2.2.2.1 r14.2.2.2.2.2) fun r15=>
 (some (r14.1,r14.2.1,r15.1,r15.2.1,r14.2.2.1,r14.2.2.2.1,r15.2.2.1,r15.2.2.2.1))
def qc8:Nat→Bool→Bool→Bool→List Int→Bool→List Int→Option (Bool×List Int×Bool×List Int×Bool×List Int×Bool×List Int)
 | 0,_,_,_,_,_,_=>none
 | k+1,z0,z1,n0,n1,d0,d1=>qc7 k z0 z1 n0 n1 d0 d1
def qAV:Nat→Inst:=mkI 144 ⟨[.a (.ptr 0 0 0),.a (.ptr 1 0 0),.a (.ptr 2 0 0)],[.raw [[.lf .bool,.snil 1 106,.lf .bool,.snil 1 106]] 4 180 true false false,.raw [[.lf .bool,.lf cW]] 2 147 true false false,.raw [[.lf .bool,.lf cW]] 2 147 true false false]⟩ [⟨[.a (.ptr 0 0 0)],[.raw [[.lf .bool,.lf cW,.lf .bool,.lf cW]] 4 180 true false false,.raw [[.lf .bool,.lf cW]] 2 147 true false false,.raw [[.lf .bool,.lf cW]] 2 147 true false false]⟩] fun k x=>qc8 k x.1 x.2.1 x.2.2.1 x.2.2.2.1 x.2.2.2.2.1 x.2.2.2.2.2
theorem qzQ:∀k,qg (call cf k) (qAV k):=
 fnk 3 [] Tryz.func144 (fun k=>(ac (qAS k) (ac (qAU k) a0))) (fun k=>l0) ⟨rfl,rfl,⟨rfl,Nat.le_of_ble_eq_true rfl⟩,rfl⟩ (fun _=>rfl) (by kernel_rfl) fun k x=>by kernel_rfl

def qlT (k:Nat) (n0:Bool) (n1:List Int) (d0:Bool) (d1:List Int):Option (Bool×List Int×Bool×List Int×Bool×List Int×Bool×List Int):=
 Option.bind (qc8 k false false n0 n1 d0 d1) fun r13=>
 (some (r13.2.2.2.2.1,r13.2.2.2.2.2.1,r13.2.2.2.2.2.2.1,r13.2.2.2.2.2.2.2,r13.1,r13.2.1,r13.2.2.1,r13.2.2.2.1))
def qeB:Nat→Bool→List Int→Bool→List Int→Option (Bool×List Int×Bool×List Int×Bool×List Int×Bool×List Int)
 | 0,_,_,_,_=>none
 | k+1,n0,n1,d0,d1=>qlT k n0 n1 d0 d1
def Iq0:Nat→Inst:=mkI 89 ⟨[.a (.ptr 0 0 0),.a (.ptr 1 0 0)],[.raw [[.lf .bool,.lf cW]] 2 147 true false false,.raw [[.lf .bool,.lf cW]] 2 147 true false false]⟩ [⟨[.a (.ptr 2 0 0)],[.raw [[.lf .bool,.lf cW]] 2 147 true false false,.raw [[.lf .bool,.lf cW]] 2 147 true false false,.raw [[.lf .bool,.lf cW,.lf .bool,.lf cW]] 4 180 true false false]⟩] fun k x=>qeB k x.1 x.2.1 x.2.2.1 x.2.2.2
theorem qAW:∀k,qg (call cf k) (Iq0 k):=
 fnk 2 [] Tryz.func89 (fun k=>(ac (qzQ k) a0)) (fun k=>l0) ⟨rfl,rfl,⟨rfl,Nat.le_of_ble_eq_true rfl⟩,rfl⟩ (fun _=>rfl) (by kernel_rfl) fun k x=>by kernel_rfl

def qg7 (k:Nat) (n0:Int) (n1:Int):Option (Bool×List Int×Bool×List Int):=
 Option.bind (qiE k (max n1 (IntKind.wrap .i64 ((0:Int)-n1)))) fun r11=>
 if((decide (n1<(0:Int)))=true)then
 Option.bind (qcg k n0) fun r12=>
 Option.bind (qeB k r12.1 r12.2 r11.1 r11.2) fun r13=>
 (some (r13.2.2.2.2.1,r13.2.2.2.2.2.1,r13.2.2.2.2.2.2.1,r13.2.2.2.2.2.2.2))
 else
 Option.bind (qcg k n0) fun r12=>
 Option.bind (qdr k r11.1 r11.2 r12.1 r12.2) fun r13=>
 Option.bind (qcg k (1:Int)) fun r14=>
 Option.bind (qeB k r13.1 r13.2.1 r14.1 r14.2) fun r15=>
 (some (r15.2.2.2.2.1,r15.2.2.2.2.2.1,r15.2.2.2.2.2.2.1,r15.2.2.2.2.2.2.2))
def qgk:Nat→Int→Int→Option (Bool×List Int×Bool×List Int)
 | 0,_,_=>none
 | k+1,n0,n1=>qg7 k n0 n1
def qAX:Nat→Inst:=mkI 214 ⟨[.g [.lf (.int .i64),.lf (.int .i64)]],[]⟩ [⟨[.a (.ptr 0 0 0)],[.raw [[.lf .bool,.lf cW,.lf .bool,.lf cW]] 4 180 true false false]⟩] fun k x=>qgk k x.1 x.2
theorem qzR:∀k,qg (call cf k) (qAX k):=
 fnk 0 [] Tryz.func214 (fun k=>(ac (qzL k) (ac (qpB k) (ac (qAW k) (ac (qwn k) a0))))) (fun k=>l0) ⟨rfl,rfl,⟨rfl,Nat.le_of_ble_eq_true rfl⟩,rfl⟩ (fun _=>rfl) (by kernel_rfl) fun k x=>by kernel_rfl

def qle (k:Nat) (neg:Bool) (w:List Int):Option (Bool×List Int):=
 if(((0+(List.length w))*4)≤140737488355328)then
 if((0+(0+(List.length w)))≤(List.length ((List.take 0 [])++w)))then
 Option.bind (qdJ k (List.take (0+(List.length w)) ((List.take 0 [])++w))) fun r13=>
 if(neg=true)then
 (some ((decide ((((List.length r13):Nat):Int)>(0:Int))),r13))
 else
 (some (false,r13))
 else
 none
 else
 none
def qib:Nat→Bool→List Int→Option (Bool×List Int)
 | 0,_,_=>none
 | k+1,neg,w=>qle k neg w
def qAY:Nat→Inst:=mkI 202 ⟨[vB,vT],[]⟩ [⟨[.a (.ptr 0 0 0)],[.raw [[.lf .bool,.lf cW]] 2 147 true false false]⟩] fun k x=>qib k x.1 x.2
theorem qzS:∀k,qg (call cf k) (qAY k):=
 fnk 0 [] Tryz.func202 (fun k=>(ac (qkB k) a0)) (fun k=>l0) ⟨rfl,rfl,⟨rfl,Nat.le_of_ble_eq_true rfl⟩,rfl⟩ (fun _=>rfl) (by kernel_rfl) fun k x=>by kernel_rfl

def qe4 (k:Nat) (z0:Bool) (z1:List Int) (z2:Bool) (z3:List Int):Option (Bool×List Int×Bool×List Int×Bool×List Int):=
 if(((((List.length z3):Nat):Int) == (0:Int))=true)then
 Option.bind (qcg k (1:Int)) fun r13=>
 (some (z0,z1,z2,z3,r13.1,r13.2))
 else
 Option.bind (qib k false z3) fun r13=>
 (some (z0,z1,z2,z3,r13.1,r13.2))
def qcQ:Nat→Bool→List Int→Bool→List Int→Option (Bool×List Int×Bool×List Int×Bool×List Int)
 | 0,_,_,_,_=>none
 | k+1,z0,z1,z2,z3=>qe4 k z0 z1 z2 z3
def qAZ:Nat→Inst:=mkI 143 ⟨[.a (.ptr 0 0 0)],[.raw [[.lf .bool,.lf cW,.lf .bool,.lf cW]] 4 180 true false false]⟩ [⟨[.a (.ptr 1 0 0)],[.raw [[.lf .bool,.lf cW,.lf .bool,.lf cW]] 4 180 true false false,.raw [[.lf .bool,.lf cW]] 2 147 true false false]⟩] fun k x=>qcQ k x.1 x.2.1 x.2.2.1 x.2.2.2
theorem qzT:∀k,qg (call cf k) (qAZ k):=
 fnk 1 [] Tryz.func143 (fun k=>(ac (qpB k) (ac (qzS k) a0))) (fun k=>l0) ⟨rfl,rfl,⟨rfl,Nat.le_of_ble_eq_true rfl⟩,rfl⟩ (fun _=>rfl) (by kernel_rfl) fun k x=>by kernel_rfl

def qeP (k:Nat) (rec:Nat→Int→Int→Int→List Int→Int→Int→List Int→Int→Int→Bool→Bool→List Int→Bool→List Int→Bool→List Int→List Int→Option (Nat×Int×Int×List Int×Int×Int×Bool×Bool×List Int×Bool×List Int×Bool×List Int×List Int)) (out1:Nat) (i:Int) (a:Int) (carry:Int) (x:List Int) (x1:Int) (x2:Int) (x3:List Int) (x4:Int) (x5:Int) (z:Bool) (x0:Bool) (x11:List Int) (x21:Bool) (x31:List Int) (y0:Bool) (y1:List Int) (outs:List Int):Option (Nat×Int×Int×List Int×Int×Int×Bool×Bool×List Int×Bool×List Int×Bool×List Int×List Int):=
 if((decide (x5<x4))=true)then
 if((0:Int)≤x5)then
 Option.bind (x3)[(Int.toNat x5)]? fun x7=>
 if(((0:Int)≤(IntKind.wrap .i64 (i+x5)))∧((IntKind.wrap .i64 (i+x5))<((out1:Nat):Int)))then
 Option.bind (outs)[(0+(Int.toNat (IntKind.wrap .i64 (i+x5))))]? fun x8=>
 if(((0:Int)≤(IntKind.wrap .i64 (i+x5)))∧((IntKind.wrap .i64 (i+x5))<((out1:Nat):Int)))then
 Option.bind (outs)[(0+(Int.toNat (IntKind.wrap .i64 (i+x5))))]? fun x9=>
 rec out1 i a (Int.fdiv (IntKind.wrap .u64 ((IntKind.wrap .u64 ((IntKind.wrap .u64 ((IntKind.wrap .u64 a)*(IntKind.wrap .u64 x7)))+(IntKind.wrap .u64 x8)))+carry)) (4294967296:Int)) x x1 x2 x3 x4 (IntKind.wrap .i64 (x5+(1:Int))) z x0 x11 x21 x31 y0 y1 (List.set outs (0+(Int.toNat (IntKind.wrap .i64 (i+x5)))) (IntKind.wrap .u32 (IntKind.wrap .u64 ((IntKind.wrap .u64 ((IntKind.wrap .u64 ((IntKind.wrap .u64 a)*(IntKind.wrap .u64 x7)))+(IntKind.wrap .u64 x8)))+carry))))
 else
 none
 else
 none
 else
 none
 else
 (some (out1,i,carry,x,x1,x2,z,x0,x11,x21,x31,y0,y1,outs))
def qdM (k n:Nat):Nat→Int→Int→Int→List Int→Int→Int→List Int→Int→Int→Bool→Bool→List Int→Bool→List Int→Bool→List Int→List Int→Option (Nat×Int×Int×List Int×Int×Int×Bool×Bool×List Int×Bool×List Int×Bool×List Int×List Int):=Nat.rec (fun _ _ _ _ _ _ _ _ _ _ _ _ _ _ _ _ _ _=>none) (fun _ r=>qeP k r) n
def qeQ (k:Nat) (rec:Nat→List Int→Int→Int→Bool→Bool→List Int→Bool→List Int→Bool→List Int→List Int→Option (Nat×Bool×Bool×List Int×Bool×List Int×Bool×List Int×List Int)) (out1:Nat) (x:List Int) (x1:Int) (x2:Int) (z:Bool) (x0:Bool) (x11:List Int) (x21:Bool) (x3:List Int) (y0:Bool) (y1:List Int) (outs:List Int):Option (Nat×Bool×Bool×List Int×Bool×List Int×Bool×List Int×List Int):=
 if((decide (x2<x1))=true)then
 if((0:Int)≤x2)then
 Option.bind (x)[(Int.toNat x2)]? fun x6=>
 Option.bind (qdM k k out1 x2 x6 (0:Int) x x1 x2 y1 (((List.length y1):Nat):Int) (0:Int) z x0 x11 x21 x3 y0 y1 outs) fun r14=>
 if(((0:Int)≤(IntKind.wrap .i64 (r14.2.1+(((List.length r14.2.2.2.2.2.2.2.2.2.2.2.2.1):Nat):Int))))∧((IntKind.wrap .i64 (r14.2.1+(((List.length r14.2.2.2.2.2.2.2.2.2.2.2.2.1):Nat):Int)))<((r14.1:Nat):Int)))then
 Option.bind (r14.2.2.2.2.2.2.2.2.2.2.2.2.2)[(0+(Int.toNat (IntKind.wrap .i64 (r14.2.1+(((List.length r14.2.2.2.2.2.2.2.2.2.2.2.2.1):Nat):Int)))))]? fun x7=>
 rec r14.1 r14.2.2.2.1 r14.2.2.2.2.1 (IntKind.wrap .i64 (r14.2.2.2.2.2.1+(1:Int))) r14.2.2.2.2.2.2.1 r14.2.2.2.2.2.2.2.1 r14.2.2.2.2.2.2.2.2.1 r14.2.2.2.2.2.2.2.2.2.1 r14.2.2.2.2.2.2.2.2.2.2.1 r14.2.2.2.2.2.2.2.2.2.2.2.1 r14.2.2.2.2.2.2.2.2.2.2.2.2.1 (List.set r14.2.2.2.2.2.2.2.2.2.2.2.2.2 (0+(Int.toNat (IntKind.wrap .i64 (r14.2.1+(((List.length r14.2.2.2.2.2.2.2.2.2.2.2.2.1):Nat):Int))))) (IntKind.wrap .u32 r14.2.2.1))
 else
 none
 else
 none
 else
 (some (out1,z,x0,x11,x21,x3,y0,y1,outs))
def qdN (k n:Nat):Nat→List Int→Int→Int→Bool→Bool→List Int→Bool→List Int→Bool→List Int→List Int→Option (Nat×Bool×Bool×List Int×Bool×List Int×Bool×List Int×List Int):=Nat.rec (fun _ _ _ _ _ _ _ _ _ _ _ _=>none) (fun _ r=>qeQ k r) n
def qfZ (k:Nat) (z:Bool) (x0:Bool) (x1:List Int) (x2:Bool) (x3:List Int) (y0:Bool) (y1:List Int):Option (Bool×List Int×Bool×List Int×Bool×List Int×Bool×List Int):=
 if(((0:Int)≤(IntKind.wrap .i64 ((((List.length x1):Nat):Int)+(((List.length y1):Nat):Int))))∧(((IntKind.wrap .i64 ((((List.length x1):Nat):Int)+(((List.length y1):Nat):Int)))≤(IntKind.wrap .i64 ((((List.length x1):Nat):Int)+(((List.length y1):Nat):Int))))∧(((IntKind.wrap .i64 ((((List.length x1):Nat):Int)+(((List.length y1):Nat):Int)))*(4:Int))≤(140737488355328:Int))))then
 Option.bind (qdN k k (Int.toNat (IntKind.wrap .i64 ((((List.length x1):Nat):Int)+(((List.length y1):Nat):Int)))) x1 (((List.length x1):Nat):Int) (0:Int) z x0 x1 x2 x3 y0 y1 (List.replicate (Int.toNat (IntKind.wrap .i64 ((((List.length x1):Nat):Int)+(((List.length y1):Nat):Int)))) (0:Int))) fun r14=>
 if((0+r14.1)≤(List.length r14.2.2.2.2.2.2.2.2))then
 Option.bind (qbw k (!(r14.2.2.1 == r14.2.2.2.2.2.2.1)) (List.take r14.1 r14.2.2.2.2.2.2.2.2) r14.2.1) fun r15=>
 (some (r15.1,r15.2,r14.2.2.1,r14.2.2.2.1,r14.2.2.2.2.1,r14.2.2.2.2.2.1,r14.2.2.2.2.2.2.1,r14.2.2.2.2.2.2.2.1))
 else
 none
 else
 none
def qds:Nat→Bool→Bool→List Int→Bool→List Int→Bool→List Int→Option (Bool×List Int×Bool×List Int×Bool×List Int×Bool×List Int)
 | 0,_,_,_,_,_,_,_=>none
 | k+1,z,x0,x1,x2,x3,y0,y1=>qfZ k z x0 x1 x2 x3 y0 y1
def Iq5:Nat→Inst:=mkI 155 ⟨[.a (.ptr 0 0 0),.a (.ptr 1 0 0),.a (.ptr 2 0 0)],[.raw [[.lf .bool,.snil 1 106]] 2 147 true false false,.raw [[.lf .bool,.lf cW,.lf .bool,.lf cW]] 4 180 true false false,.raw [[.lf .bool,.lf cW]] 2 147 true false false]⟩ [⟨[.a (.ptr 0 0 0)],[.raw [[.lf .bool,.lf cW]] 2 147 true false false,.raw [[.lf .bool,.lf cW,.lf .bool,.lf cW]] 4 180 true false false,.raw [[.lf .bool,.lf cW]] 2 147 true false false]⟩] fun k x=>qds k x.1 x.2.1 x.2.2.1 x.2.2.2.1 x.2.2.2.2.1 x.2.2.2.2.2.1 x.2.2.2.2.2.2
theorem qsN (k:Nat):qaH (call cf k) [Iq8 k]:=
 ac (qpA k) a0
def qwK (k:Nat):LInst:=mkL 2 [⟨[(0,.a (.ptr 0 0 0)),(1,.a (.ptr 1 0 0)),(2,.a (.ptr 2 0 0)),(7,.a (.smz 3)),(8,vI),(9,.a (.lf (.int .u32))),(10,vU),(29,vT),(30,vI),(31,vI),(39,vT),(40,vI),(41,vI)],[(0,some (.raw [[.lf .bool,.snil 1 106]] 2 147 true false false)),(1,some (.raw [[.lf .bool,.lf cW,.lf .bool,.lf cW]] 4 180 true false false)),(2,some (.raw [[.lf .bool,.lf cW]] 2 147 true false false)),(3,some (.arr (.int .u32) 1 106 false))],4⟩] [⟨some 2,⟨[(0,.a (.ptr 0 0 0)),(1,.a (.ptr 1 0 0)),(2,.a (.ptr 2 0 0)),(7,.a (.smz 3)),(8,vI),(10,vU),(29,vT),(30,vI),(31,vI)],[(0,some (.raw [[.lf .bool,.snil 1 106]] 2 147 true false false)),(1,some (.raw [[.lf .bool,.lf cW,.lf .bool,.lf cW]] 4 180 true false false)),(2,some (.raw [[.lf .bool,.lf cW]] 2 147 true false false)),(3,some (.arr (.int .u32) 1 106 false))],4⟩⟩] (fun n x=>qdM k n x.1 x.2.1 x.2.2.1 x.2.2.2.1 x.2.2.2.2.1 x.2.2.2.2.2.1 x.2.2.2.2.2.2.1 x.2.2.2.2.2.2.2.1 x.2.2.2.2.2.2.2.2.1 x.2.2.2.2.2.2.2.2.2.1 x.2.2.2.2.2.2.2.2.2.2.1 x.2.2.2.2.2.2.2.2.2.2.2.1 x.2.2.2.2.2.2.2.2.2.2.2.2.1 x.2.2.2.2.2.2.2.2.2.2.2.2.2.1 x.2.2.2.2.2.2.2.2.2.2.2.2.2.2.1 x.2.2.2.2.2.2.2.2.2.2.2.2.2.2.2.1 x.2.2.2.2.2.2.2.2.2.2.2.2.2.2.2.2.1 x.2.2.2.2.2.2.2.2.2.2.2.2.2.2.2.2.2) k
theorem qq2 (k:Nat):LIo 155 Tryz.f155 3 k (qwK k):=
 lpk [] (qsN k) l0 (fun _=>rfl) (by kernel_rfl) fun n x=>by kernel_rfl
def qwL (k:Nat):LInst:=mkL 0 [⟨[(0,.a (.ptr 0 0 0)),(1,.a (.ptr 1 0 0)),(2,.a (.ptr 2 0 0)),(7,.a (.smz 3)),(29,vT),(30,vI),(31,vI)],[(0,some (.raw [[.lf .bool,.snil 1 106]] 2 147 true false false)),(1,some (.raw [[.lf .bool,.lf cW,.lf .bool,.lf cW]] 4 180 true false false)),(2,some (.raw [[.lf .bool,.lf cW]] 2 147 true false false)),(3,some (.arr (.int .u32) 1 106 false))],4⟩] [⟨some 0,⟨[(0,.a (.ptr 0 0 0)),(1,.a (.ptr 1 0 0)),(2,.a (.ptr 2 0 0)),(7,.a (.smz 3))],[(0,some (.raw [[.lf .bool,.snil 1 106]] 2 147 true false false)),(1,some (.raw [[.lf .bool,.lf cW,.lf .bool,.lf cW]] 4 180 true false false)),(2,some (.raw [[.lf .bool,.lf cW]] 2 147 true false false)),(3,some (.arr (.int .u32) 1 106 false))],4⟩⟩] (fun n x=>qdN k n x.1 x.2.1 x.2.2.1 x.2.2.2.1 x.2.2.2.2.1 x.2.2.2.2.2.1 x.2.2.2.2.2.2.1 x.2.2.2.2.2.2.2.1 x.2.2.2.2.2.2.2.2.1 x.2.2.2.2.2.2.2.2.2.1 x.2.2.2.2.2.2.2.2.2.2.1 x.2.2.2.2.2.2.2.2.2.2.2) k
theorem qwM (k:Nat):LIo 155 Tryz.f155 3 k (qwL k):=
 lpk [2] (qsN k) (lc (qq2 k) l0) (fun _=>rfl) (by kernel_rfl) fun n x=>by kernel_rfl
theorem qA0:∀k,qg (call cf k) (Iq5 k):=
 fnk 3 [0] Tryz.func155 (fun k=>(qsN k)) (fun k=>(lc (qq2 k) (lc (qwM k) l0))) ⟨rfl,rfl,⟨rfl,Nat.le_of_ble_eq_true rfl⟩,rfl⟩ (fun _=>rfl) (by kernel_rfl) fun k x=>by kernel_rfl

def qf0 (k:Nat) (z0:Bool) (z1:List Int) (y0:Bool) (y1:List Int):Option (Int×Bool×List Int×Bool×List Int):=
 if((!(z0 == y0))=true)then
 if(z0=true)then
 (some ((-(1:Int)),z0,z1,y0,y1))
 else
 (some ((1:Int),z0,z1,y0,y1))
 else
 Option.bind (qiF k z1 y1) fun r17=>
 if(z0=true)then
 (some ((IntKind.wrap .i64 ((0:Int)-r17)),z0,z1,y0,y1))
 else
 (some (r17,z0,z1,y0,y1))
def qel:Nat→Bool→List Int→Bool→List Int→Option (Int×Bool×List Int×Bool×List Int)
 | 0,_,_,_,_=>none
 | k+1,z0,z1,y0,y1=>qf0 k z0 z1 y0 y1
def Iq2:Nat→Inst:=mkI 156 ⟨[.a (.ptr 0 0 0),.a (.ptr 1 0 0)],[.raw [[.lf .bool,.lf cW]] 2 147 true false false,.raw [[.lf .bool,.lf cW]] 2 147 true false false]⟩ [⟨[vI],[.raw [[.lf .bool,.lf cW]] 2 147 true false false,.raw [[.lf .bool,.lf cW]] 2 147 true false false]⟩] fun k x=>qel k x.1 x.2.1 x.2.2.1 x.2.2.2
theorem qA1:∀k,qg (call cf k) (Iq2 k):=
 fnk 2 [] Tryz.func156 (fun k=>(ac (qtG k) a0)) (fun k=>l0) ⟨rfl,rfl,⟨rfl,Nat.le_of_ble_eq_true rfl⟩,rfl⟩ (fun _=>rfl) (by kernel_rfl) fun k x=>by kernel_rfl

def qj3 (k:Nat) (z0:Bool) (z1:List Int) (z2:Bool) (z3:List Int) (y0:Bool) (y1:List Int) (y2:Bool) (y3:List Int):Option (Int×Bool×List Int×Bool×List Int×Bool×List Int×Bool×List Int):=
 Option.bind (qcQ k y0 y1 y2 y3) fun r13=>
 Option.bind (qds k false z0 z1 z2 z3 r13.2.2.2.2.1 r13.2.2.2.2.2) fun r14=>
 Option.bind (qcQ k r14.2.2.1 r14.2.2.2.1 r14.2.2.2.2.1 r14.2.2.2.2.2.1) fun r15=>
 Option.bind (qds k false r13.1 r13.2.1 r13.2.2.1 r13.2.2.2.1 r15.2.2.2.2.1 r15.2.2.2.2.2) fun r16=>
 Option.bind (qel k r14.1 r14.2.1 r16.1 r16.2.1) fun r17=>
 (some (r17.1,r15.1,r15.2.1,r15.2.2.1,r15.2.2.2.1,r16.2.2.1,r16.2.2.2.1,r16.2.2.2.2.1,r16.2.2.2.2.2.1))
def qem:Nat→Bool→List Int→Bool→List Int→Bool→List Int→Bool→List Int→Option (Int×Bool×List Int×Bool×List Int×Bool×List Int×Bool×List Int)
 | 0,_,_,_,_,_,_,_,_=>none
 | k+1,z0,z1,z2,z3,y0,y1,y2,y3=>qj3 k z0 z1 z2 z3 y0 y1 y2 y3
def qA2:Nat→Inst:=mkI 100 ⟨[.a (.ptr 0 0 0),.a (.ptr 1 0 0)],[.raw [[.lf .bool,.lf cW,.lf .bool,.lf cW]] 4 180 true false false,.raw [[.lf .bool,.lf cW,.lf .bool,.lf cW]] 4 180 true false false]⟩ [⟨[vI],[.raw [[.lf .bool,.lf cW,.lf .bool,.lf cW]] 4 180 true false false,.raw [[.lf .bool,.lf cW,.lf .bool,.lf cW]] 4 180 true false false]⟩] fun k x=>qem k x.1 x.2.1 x.2.2.1 x.2.2.2.1 x.2.2.2.2.1 x.2.2.2.2.2.1 x.2.2.2.2.2.2.1 x.2.2.2.2.2.2.2
theorem qzU:∀k,qg (call cf k) (qA2 k):=
 fnk 2 [] Tryz.func100 (fun k=>(ac (qzT k) (ac (qA0 k) (ac (qA1 k) a0)))) (fun k=>l0) ⟨rfl,rfl,⟨rfl,Nat.le_of_ble_eq_true rfl⟩,rfl⟩ (fun _=>rfl) (by kernel_rfl) fun k x=>by kernel_rfl

def qj4 (k:Nat) (a0:Int) (a1:Int) (b0:Int) (b1:Int):Option (Int×Int):=
 Option.bind (qY k a0 a1) fun r9=>
 if((!r9)=false)then
 Option.bind (qY k b0 b1) fun r10=>
 if((!r10)=true)then
 (some ((0:Int),(30:Int)))
 else
 Option.bind (qgk k a0 a1) fun r11=>
 Option.bind (qgk k b0 b1) fun r12=>
 Option.bind (qem k r11.1 r11.2.1 r11.2.2.1 r11.2.2.2 r12.1 r12.2.1 r12.2.2.1 r12.2.2.2) fun r13=>
 (some (r13.1,(0:Int)))
 else
 (some ((0:Int),(30:Int)))
def qhE:Nat→Int→Int→Int→Int→Option (Int×Int)
 | 0,_,_,_,_=>none
 | k+1,a0,a1,b0,b1=>qj4 k a0 a1 b0 b1
def qwN:Nat→Inst:=mkI 227 ⟨[.g [.lf (.int .i64),.lf (.int .i64)],.g [.lf (.int .i64),.lf (.int .i64)]],[]⟩ [⟨[vI,vI],[]⟩] fun k x=>qhE k x.1 x.2.1 x.2.2.1 x.2.2.2
theorem qzV:∀k,qg (call cf k) (qwN k):=
 fnk 0 [] Tryz.func227 (fun k=>(ac (qkC k) (ac (qzR k) (ac (qzU k) a0)))) (fun k=>l0) ⟨rfl,rfl,⟨rfl,Nat.le_of_ble_eq_true rfl⟩,rfl⟩ (fun _=>rfl) (by kernel_rfl) fun k x=>by kernel_rfl

def qck (k:Nat) (rec:List (Int×Int)→List (Int×Int)→Int→List (Int×Int)→Int→Int→ByteArray→Int→List (Int×Int)→List (Int×Int)→Option ((Bool×ByteArray×Int×List (Int×Int)×List (Int×Int)×Int×Int) ⊕ (List (Int×Int)×List (Int×Int)×Int×ByteArray×Int×List (Int×Int)×List (Int×Int)))) (x0:List (Int×Int)) (x1:List (Int×Int)) (x:Int) (x2:List (Int×Int)) (x3:Int) (x4:Int) (m0:ByteArray) (m1:Int) (m2:List (Int×Int)) (m3:List (Int×Int)):Option ((Bool×ByteArray×Int×List (Int×Int)×List (Int×Int)×Int×Int) ⊕ (List (Int×Int)×List (Int×Int)×Int×ByteArray×Int×List (Int×Int)×List (Int×Int))):=
 if((decide (x4<x3))=true)then
 if((0:Int)≤x4)then
 Option.bind (x2)[(Int.toNat x4)]? fun x5=>
 Option.bind (qY k x5.1 x5.2) fun r8=>
 if((!r8)=true)then
 (some (Sum.inl (false,m0,m1,m2,m3,x5.1,x5.2)))
 else
 rec x0 x1 x x2 x3 (IntKind.wrap .i64 (x4+(1:Int))) m0 m1 m2 m3
 else
 none
 else
 (some (Sum.inr (x0,x1,x,m0,m1,m2,m3)))
def qaI (k n:Nat):List (Int×Int)→List (Int×Int)→Int→List (Int×Int)→Int→Int→ByteArray→Int→List (Int×Int)→List (Int×Int)→Option ((Bool×ByteArray×Int×List (Int×Int)×List (Int×Int)×Int×Int) ⊕ (List (Int×Int)×List (Int×Int)×Int×ByteArray×Int×List (Int×Int)×List (Int×Int))):=Nat.rec (fun _ _ _ _ _ _ _ _ _ _=>none) (fun _ r=>qck k r) n
def qc0 (k:Nat) (rec:List (Int×Int)→List (Int×Int)→Int→ByteArray→Int→List (Int×Int)→List (Int×Int)→Option ((Bool×ByteArray×Int×List (Int×Int)×List (Int×Int)×Int×Int) ⊕ (ByteArray×Int×List (Int×Int)×List (Int×Int)))) (x0:List (Int×Int)) (x1:List (Int×Int)) (x:Int) (m0:ByteArray) (m1:Int) (m2:List (Int×Int)) (m3:List (Int×Int)):Option ((Bool×ByteArray×Int×List (Int×Int)×List (Int×Int)×Int×Int) ⊕ (ByteArray×Int×List (Int×Int)×List (Int×Int))):=
 if((decide (x<(2:Int)))=true)then
 if(x=(0:Int))then
 Option.bind (qaI k k x0 x1 x x0 (((List.length x0):Nat):Int) (0:Int) m0 m1 m2 m3) fun r8=>
 qc r8
 (fun r8=>
 (some (Sum.inl (r8.1,r8.2.1,r8.2.2.1,r8.2.2.2.1,r8.2.2.2.2.1,r8.2.2.2.2.2.1,r8.2.2.2.2.2.2))))
 (fun r8=>
 rec r8.1 r8.2.1 (IntKind.wrap .i64 (r8.2.2.1+(1:Int))) r8.2.2.2.1 r8.2.2.2.2.1 r8.2.2.2.2.2.1 r8.2.2.2.2.2.2)
 else
 if((x-(1:Int))=(0:Int))then
 Option.bind (qaI k k x0 x1 x x1 (((List.length x1):Nat):Int) (0:Int) m0 m1 m2 m3) fun r8=>
 qc r8
 (fun r8=>
 (some (Sum.inl (r8.1,r8.2.1,r8.2.2.1,r8.2.2.2.1,r8.2.2.2.2.1,r8.2.2.2.2.2.1,r8.2.2.2.2.2.2))))
 (fun r8=>
 rec r8.1 r8.2.1 (IntKind.wrap .i64 (r8.2.2.1+(1:Int))) r8.2.2.2.1 r8.2.2.2.2.1 r8.2.2.2.2.2.1 r8.2.2.2.2.2.2)
 else
 none
 else
 (some (Sum.inr (m0,m1,m2,m3)))
def qap (k n:Nat):List (Int×Int)→List (Int×Int)→Int→ByteArray→Int→List (Int×Int)→List (Int×Int)→Option ((Bool×ByteArray×Int×List (Int×Int)×List (Int×Int)×Int×Int) ⊕ (ByteArray×Int×List (Int×Int)×List (Int×Int))):=Nat.rec (fun _ _ _ _ _ _ _=>none) (fun _ r=>qc0 k r) n
def qbs (k:Nat) (rec:Int→ByteArray→Int→List (Int×Int)→List (Int×Int)→Option ((Bool×ByteArray×Int×List (Int×Int)×List (Int×Int)) ⊕ (ByteArray×Int×List (Int×Int)×List (Int×Int)))) (i:Int) (m0:ByteArray) (m1:Int) (m2:List (Int×Int)) (m3:List (Int×Int)):Option ((Bool×ByteArray×Int×List (Int×Int)×List (Int×Int)) ⊕ (ByteArray×Int×List (Int×Int)×List (Int×Int))):=
 if((decide (i<(((List.length m3):Nat):Int)))=true)then
 if((0:Int)≤(IntKind.wrap .i64 (i-(1:Int))))then
 Option.bind (m3)[(Int.toNat (IntKind.wrap .i64 (i-(1:Int))))]? fun x4=>
 if((0:Int)≤i)then
 Option.bind (m3)[(Int.toNat i)]? fun x5=>
 Option.bind (qhE k x4.1 x4.2 x5.1 x5.2) fun r9=>
 if((decide (r9.1≥(0:Int)))=true)then
 (some (Sum.inl (false,m0,m1,m2,m3)))
 else
 rec (IntKind.wrap .i64 (i+(1:Int))) m0 m1 m2 m3
 else
 none
 else
 none
 else
 (some (Sum.inr (m0,m1,m2,m3)))
def qad (k n:Nat):Int→ByteArray→Int→List (Int×Int)→List (Int×Int)→Option ((Bool×ByteArray×Int×List (Int×Int)×List (Int×Int)) ⊕ (ByteArray×Int×List (Int×Int)×List (Int×Int))):=Nat.rec (fun _ _ _ _ _=>none) (fun _ r=>qbs k r) n
def qhF (k:Nat) (m0:ByteArray) (m1:Int) (m2:List (Int×Int)) (m3:List (Int×Int)):Option (Bool):=
 Option.bind (qfK k m0) fun r7=>
 if((!r7)=true)then
 (some false)
 else
 Option.bind (qap k k m2 m3 (0:Int) m0 m1 m2 m3) fun r8=>
 qc r8
 (fun r8=>
 (some r8.1))
 (fun r8=>
 if((r8.2.1 == (115:Int))=true)then
 if(((((List.length r8.2.2.1):Nat):Int) == (2:Int))=true)then
 (some ((((List.length r8.2.2.2):Nat):Int) == (1:Int)))
 else
 (some false)
 else
 if((r8.2.1 == (100:Int))=true)then
 if((decide ((((List.length r8.2.2.1):Nat):Int)<(1:Int)))=false)then
 if((decide ((((List.length r8.2.2.1):Nat):Int)>(4:Int)))=false)then
 if(((((List.length r8.2.2.2):Nat):Int) != (IntKind.wrap .i64 ((((List.length r8.2.2.1):Nat):Int)-(1:Int))))=true)then
 (some false)
 else
 Option.bind (qad k k (1:Int) r8.1 r8.2.1 r8.2.2.1 r8.2.2.2) fun r9=>
 qc r9
 (fun r9=>
 (some r9.1))
 (fun r9=>
 (some true))
 else
 (some false)
 else
 (some false)
 else
 (some false))
def qea:Nat→ByteArray→Int→List (Int×Int)→List (Int×Int)→Option (Bool)
 | 0,_,_,_,_=>none
 | k+1,m0,m1,m2,m3=>qhF k m0 m1 m2 m3
def qwO:Nat→Inst:=mkI 192 ⟨[.g [.lf .str,.lf (.int .u8),.lf cE,.lf cE]],[]⟩ [⟨[vB],[]⟩] fun k x=>qea k x.1 x.2.1 x.2.2.1 x.2.2.2
theorem qme (k:Nat):qaH (call cf k) [qv6 k,qna k,qwN k]:=
 ac (qtB k) (ac (qkC k) (ac (qzV k) a0))
def qwP (k:Nat):LInst:=mkL 2 [⟨[(1,.a (.ptr 0 0 0)),(18,.g [.lf cE,.lf cE]),(19,vI),(22,.a (.lf cE)),(23,vI),(24,vI)],[(0,some (.raw [[.lf .str,.lf (.int .u8),.lf cE,.lf cE]] 4 46 true false false))],1⟩] [⟨none,⟨[(2,vB)],[(0,some (.raw [[.lf .str,.lf (.int .u8),.lf cE,.lf cE]] 4 46 true false false)),(1,some (.raw [[.lf (.int .i64),.lf (.int .i64)]] 2 25 true false false))],2⟩⟩,⟨some 2,⟨[(1,.a (.ptr 0 0 0)),(18,.g [.lf cE,.lf cE]),(19,vI)],[(0,some (.raw [[.lf .str,.lf (.int .u8),.lf cE,.lf cE]] 4 46 true false false))],1⟩⟩] (fun n x=>qaI k n x.1 x.2.1 x.2.2.1 x.2.2.2.1 x.2.2.2.2.1 x.2.2.2.2.2.1 x.2.2.2.2.2.2.1 x.2.2.2.2.2.2.2.1 x.2.2.2.2.2.2.2.2.1 x.2.2.2.2.2.2.2.2.2) k
theorem qnd (k:Nat):LIo 192 Tryz.f192 0 k (qwP k):=
 lpk [] (qme k) l0 (fun _=>rfl) (by kernel_rfl) fun n x=>by kernel_rfl
def qwQ (k:Nat):LInst:=mkL 0 [⟨[(1,.a (.ptr 0 0 0)),(18,.g [.lf cE,.lf cE]),(19,vI)],[(0,some (.raw [[.lf .str,.lf (.int .u8),.lf cE,.lf cE]] 4 46 true false false))],1⟩] [⟨none,⟨[(2,vB)],[(0,some (.raw [[.lf .str,.lf (.int .u8),.lf cE,.lf cE]] 4 46 true false false)),(1,some (.raw [[.lf (.int .i64),.lf (.int .i64)]] 2 25 true false false))],2⟩⟩,⟨some 0,⟨[(1,.a (.ptr 0 0 0))],[(0,some (.raw [[.lf .str,.lf (.int .u8),.lf cE,.lf cE]] 4 46 true false false))],1⟩⟩] (fun n x=>qap k n x.1 x.2.1 x.2.2.1 x.2.2.2.1 x.2.2.2.2.1 x.2.2.2.2.2.1 x.2.2.2.2.2.2) k
theorem qq3 (k:Nat):LIo 192 Tryz.f192 0 k (qwQ k):=
 lpk [2] (qme k) (lc (qnd k) l0) (fun _=>rfl) (by kernel_rfl) fun n x=>by kernel_rfl
def qwR (k:Nat):LInst:=mkL 5 [⟨[(1,.a (.ptr 0 0 0)),(7,vI)],[(0,some (.raw [[.lf .str,.lf (.int .u8),.lf cE,.lf cE]] 4 46 true false false))],1⟩] [⟨none,⟨[(2,vB)],[(0,some (.raw [[.lf .str,.lf (.int .u8),.lf cE,.lf cE]] 4 46 true false false))],1⟩⟩,⟨some 5,⟨[],[(0,some (.raw [[.lf .str,.lf (.int .u8),.lf cE,.lf cE]] 4 46 true false false))],1⟩⟩] (fun n x=>qad k n x.1 x.2.1 x.2.2.1 x.2.2.2.1 x.2.2.2.2) k
theorem qwS (k:Nat):LIo 192 Tryz.f192 0 k (qwR k):=
 lpk [] (qme k) (lc (qnd k) (lc (qq3 k) l0)) (fun _=>rfl) (by kernel_rfl) fun n x=>by kernel_rfl
theorem qzW:∀k,qg (call cf k) (qwO k):=
 fnk 0 [0,5] Tryz.func192 (fun k=>(qme k)) (fun k=>(lc (qnd k) (lc (qq3 k) (lc (qwS k) l0)))) ⟨rfl,rfl,⟨rfl,Nat.le_of_ble_eq_true rfl⟩,rfl⟩ (fun _=>rfl) (by kernel_rfl) fun k x=>by kernel_rfl

def qcF (k:Nat) (rec:List Int→Int→Int→List ByteArray→List DvT→Int→Int→Int→Int→ByteArray→List Int→Int→Int→Int→Int→List (Int×Int)→List Int→ByteArray→Int→List (Int×Int)→List (Int×Int)→Option ((Bool×List ByteArray×List DvT×Int×Int×Int×Int×ByteArray×List Int×Int×Int×Int×Int×List (Int×Int)×List Int×ByteArray×Int×List (Int×Int)×List (Int×Int)) ⊕ (List ByteArray×List DvT×Int×Int×Int×Int×ByteArray×List Int×Int×Int×Int×Int×List (Int×Int)×List Int×ByteArray×Int×List (Int×Int)×List (Int×Int)))) (x:List Int) (x1:Int) (x2:Int) (f0:List ByteArray) (f1:List DvT) (f2:Int) (f3:Int) (f4:Int) (d0:Int) (d1:ByteArray) (d2:List Int) (d3:Int) (d4:Int) (d5:Int) (d6:Int) (d7:List (Int×Int)) (d8:List Int) (d9:ByteArray) (d10:Int) (d11:List (Int×Int)) (d12:List (Int×Int)):Option ((Bool×List ByteArray×List DvT×Int×Int×Int×Int×ByteArray×List Int×Int×Int×Int×Int×List (Int×Int)×List Int×ByteArray×Int×List (Int×Int)×List (Int×Int)) ⊕ (List ByteArray×List DvT×Int×Int×Int×Int×ByteArray×List Int×Int×Int×Int×Int×List (Int×Int)×List Int×ByteArray×Int×List (Int×Int)×List (Int×Int))):=
 if((decide (x2<x1))=true)then
 if((0:Int)≤x2)then
 Option.bind (x)[(Int.toNat x2)]? fun x4=>
 if((decide (x4<(0:Int)))=false)then
 if((decide (x4≥(((List.length f0):Nat):Int)))=true)then
 (some (Sum.inl (false,f0,f1,f2,f3,f4,d0,d1,d2,d3,d4,d5,d6,d7,d8,d9,d10,d11,d12)))
 else
 rec x x1 (IntKind.wrap .i64 (x2+(1:Int))) f0 f1 f2 f3 f4 d0 d1 d2 d3 d4 d5 d6 d7 d8 d9 d10 d11 d12
 else
 (some (Sum.inl (false,f0,f1,f2,f3,f4,d0,d1,d2,d3,d4,d5,d6,d7,d8,d9,d10,d11,d12)))
 else
 none
 else
 (some (Sum.inr (f0,f1,f2,f3,f4,d0,d1,d2,d3,d4,d5,d6,d7,d8,d9,d10,d11,d12)))
def qba (k n:Nat):List Int→Int→Int→List ByteArray→List DvT→Int→Int→Int→Int→ByteArray→List Int→Int→Int→Int→Int→List (Int×Int)→List Int→ByteArray→Int→List (Int×Int)→List (Int×Int)→Option ((Bool×List ByteArray×List DvT×Int×Int×Int×Int×ByteArray×List Int×Int×Int×Int×Int×List (Int×Int)×List Int×ByteArray×Int×List (Int×Int)×List (Int×Int)) ⊕ (List ByteArray×List DvT×Int×Int×Int×Int×ByteArray×List Int×Int×Int×Int×Int×List (Int×Int)×List Int×ByteArray×Int×List (Int×Int)×List (Int×Int))):=Nat.rec (fun _ _ _ _ _ _ _ _ _ _ _ _ _ _ _ _ _ _ _ _ _=>none) (fun _ r=>qcF k r) n
def qgX (k:Nat) (f0:List ByteArray) (f1:List DvT) (f2:Int) (f3:Int) (f4:Int) (d0:Int) (d1:ByteArray) (d2:List Int) (d3:Int) (d4:Int) (d5:Int) (d6:Int) (d7:List (Int×Int)) (d8:List Int) (d9:ByteArray) (d10:Int) (d11:List (Int×Int)) (d12:List (Int×Int)):Option (Bool):=
 if(((qhb (.int .u8) (.int .i64) (qal (.int .u8) (.int .i64) (qal (.int .u8) (.int .i64) (qal (.int .u8) (.int .i64) (qal (.int .u8) (.int .i64) (qal (.int .u8) (.int .i64) (qal (.int .u8) (.int .i64) (qal (.int .u8) (.int .i64) (qal (.int .u8) (.int .i64) (qal (.int .u8) (.int .i64) (qal (.int .u8) (.int .i64) (qal (.int .u8) (.int .i64) (qal (.int .u8) (.int .i64) [] (114:Int) (2:Int)) (99:Int) (2:Int)) (108:Int) (2:Int)) (118:Int) (2:Int)) (105:Int) (2:Int)) (101:Int) (4:Int)) (103:Int) (4:Int)) (102:Int) (2:Int)) (104:Int) (2:Int)) (116:Int) (4:Int)) (100:Int) (2:Int)) (115:Int) (4:Int)) d0 (0:Int)) == (0:Int))=false)then
 if(((((List.length d2):Nat):Int) != (qhb (.int .u8) (.int .i64) (qal (.int .u8) (.int .i64) (qal (.int .u8) (.int .i64) (qal (.int .u8) (.int .i64) (qal (.int .u8) (.int .i64) (qal (.int .u8) (.int .i64) (qal (.int .u8) (.int .i64) (qal (.int .u8) (.int .i64) (qal (.int .u8) (.int .i64) (qal (.int .u8) (.int .i64) (qal (.int .u8) (.int .i64) (qal (.int .u8) (.int .i64) (qal (.int .u8) (.int .i64) [] (114:Int) (2:Int)) (99:Int) (2:Int)) (108:Int) (2:Int)) (118:Int) (2:Int)) (105:Int) (2:Int)) (101:Int) (4:Int)) (103:Int) (4:Int)) (102:Int) (2:Int)) (104:Int) (2:Int)) (116:Int) (4:Int)) (100:Int) (2:Int)) (115:Int) (4:Int)) d0 (0:Int)))=false)then
 Option.bind (qfk k d1) fun r4=>
 if((!r4)=true)then
 (some false)
 else
 Option.bind (qba k k d2 (((List.length d2):Nat):Int) (0:Int) f0 f1 f2 f3 f4 d0 d1 d2 d3 d4 d5 d6 d7 d8 d9 d10 d11 d12) fun r5=>
 qc r5
 (fun r5=>
 (some r5.1))
 (fun r5=>
 if((r5.2.2.2.2.2.1 == (118:Int))=true)then
 Option.bind (qeE k r5.2.2.2.2.2.2.2.2.2.2.2.1 r5.2.2.2.2.2.2.2.2.2.2.2.2.1 r5.2.2.2.2.2.2.2.2.2.2.2.2.2.1) fun r6=>
 if(r6=true)then
 if((r5.2.2.2.2.2.2.2.2.2.1 == (0:Int))=true)then
 if((r5.2.2.2.2.2.2.2.2.2.2.1 == (0:Int))=true)then
 Option.bind (qG k r5.2.2.2.2.2.2.2.2.2.2.2.2.2.2.1 r5.2.2.2.2.2.2.2.2.2.2.2.2.2.2.2.1 r5.2.2.2.2.2.2.2.2.2.2.2.2.2.2.2.2.1 r5.2.2.2.2.2.2.2.2.2.2.2.2.2.2.2.2.2) fun r7=>
 if(r7=true)then
 (some (r5.2.2.2.2.2.2.2.2.1 == (0:Int)))
 else
 (some false)
 else
 (some false)
 else
 (some false)
 else
 (some false)
 else
 if((r5.2.2.2.2.2.1 == (105:Int))=true)then
 Option.bind (qeE k r5.2.2.2.2.2.2.2.2.2.2.2.1 r5.2.2.2.2.2.2.2.2.2.2.2.2.1 r5.2.2.2.2.2.2.2.2.2.2.2.2.2.1) fun r6=>
 if(r6=true)then
 if((r5.2.2.2.2.2.2.2.2.2.1 == (0:Int))=true)then
 if((r5.2.2.2.2.2.2.2.2.2.2.1 == (0:Int))=true)then
 Option.bind (qG k r5.2.2.2.2.2.2.2.2.2.2.2.2.2.2.1 r5.2.2.2.2.2.2.2.2.2.2.2.2.2.2.2.1 r5.2.2.2.2.2.2.2.2.2.2.2.2.2.2.2.2.1 r5.2.2.2.2.2.2.2.2.2.2.2.2.2.2.2.2.2) fun r7=>
 if(r7=true)then
 (some (r5.2.2.2.2.2.2.2.2.1 == (0:Int)))
 else
 (some false)
 else
 (some false)
 else
 (some false)
 else
 (some false)
 else
 if((r5.2.2.2.2.2.1 == (100:Int))=true)then
 Option.bind (qJ k r5.2.2.2.2.2.2.2.2.2.2.2.1 r5.2.2.2.2.2.2.2.2.2.2.2.2.1 r5.2.2.2.2.2.2.2.2.2.2.2.2.2.1) fun r6=>
 if(r6=true)then
 if((r5.2.2.2.2.2.2.2.2.2.1 == (0:Int))=true)then
 if((r5.2.2.2.2.2.2.2.2.2.2.1 == (0:Int))=true)then
 Option.bind (qea k r5.2.2.2.2.2.2.2.2.2.2.2.2.2.2.1 r5.2.2.2.2.2.2.2.2.2.2.2.2.2.2.2.1 r5.2.2.2.2.2.2.2.2.2.2.2.2.2.2.2.2.1 r5.2.2.2.2.2.2.2.2.2.2.2.2.2.2.2.2.2) fun r7=>
 if(r7=true)then
 if((r5.2.2.2.2.2.2.2.2.2.2.2.2.2.2.2.1 == r5.2.2.2.2.2.1)=true)then
 (some (r5.2.2.2.2.2.2.2.2.1 == (0:Int)))
 else
 (some false)
 else
 (some false)
 else
 (some false)
 else
 (some false)
 else
 (some false)
 else
 if((r5.2.2.2.2.2.1 == (115:Int))=true)then
 Option.bind (qJ k r5.2.2.2.2.2.2.2.2.2.2.2.1 r5.2.2.2.2.2.2.2.2.2.2.2.2.1 r5.2.2.2.2.2.2.2.2.2.2.2.2.2.1) fun r6=>
 if(r6=true)then
 if((r5.2.2.2.2.2.2.2.2.2.1 == (0:Int))=true)then
 if((r5.2.2.2.2.2.2.2.2.2.2.1 == (0:Int))=true)then
 Option.bind (qea k r5.2.2.2.2.2.2.2.2.2.2.2.2.2.2.1 r5.2.2.2.2.2.2.2.2.2.2.2.2.2.2.2.1 r5.2.2.2.2.2.2.2.2.2.2.2.2.2.2.2.2.1 r5.2.2.2.2.2.2.2.2.2.2.2.2.2.2.2.2.2) fun r7=>
 if(r7=true)then
 if((r5.2.2.2.2.2.2.2.2.2.2.2.2.2.2.2.1 == r5.2.2.2.2.2.1)=true)then
 (some (r5.2.2.2.2.2.2.2.2.1 == (0:Int)))
 else
 (some false)
 else
 (some false)
 else
 (some false)
 else
 (some false)
 else
 (some false)
 else
 if((r5.2.2.2.2.2.1 == (102:Int))=true)then
 if((decide (r5.2.2.2.2.2.2.2.2.1<(0:Int)))=false)then
 if((decide (r5.2.2.2.2.2.2.2.2.1≥(((List.length r5.2.1):Nat):Int)))=false)then
 if((0:Int)≤r5.2.2.2.2.2.2.2.2.1)then
 Option.bind (r5.2.1)[(Int.toNat r5.2.2.2.2.2.2.2.2.1)]? fun x4=>
 if((x4.1 != (118:Int))=true)then
 (some false)
 else
 if((r5.2.2.2.2.2.1 == (114:Int))=false)then
 if((r5.2.2.2.2.2.1 == (99:Int))=false)then
 Option.bind (qY k r5.2.2.2.2.2.2.2.2.2.1 r5.2.2.2.2.2.2.2.2.2.2.1) fun r6=>
 if(r6=true)then
 if((r5.2.2.2.2.2.2.2.2.2.1 != (0:Int))=false)then
 if((!(r5.2.2.2.2.2.1 == (108:Int)))=true)then
 Option.bind (qJ k r5.2.2.2.2.2.2.2.2.2.2.2.1 r5.2.2.2.2.2.2.2.2.2.2.2.2.1 r5.2.2.2.2.2.2.2.2.2.2.2.2.2.1) fun r7=>
 if(r7=true)then
 Option.bind (qG k r5.2.2.2.2.2.2.2.2.2.2.2.2.2.2.1 r5.2.2.2.2.2.2.2.2.2.2.2.2.2.2.2.1 r5.2.2.2.2.2.2.2.2.2.2.2.2.2.2.2.2.1 r5.2.2.2.2.2.2.2.2.2.2.2.2.2.2.2.2.2) fun r8=>
 (some r8)
 else
 (some false)
 else
 (some false)
 else
 Option.bind (qJ k r5.2.2.2.2.2.2.2.2.2.2.2.1 r5.2.2.2.2.2.2.2.2.2.2.2.2.1 r5.2.2.2.2.2.2.2.2.2.2.2.2.2.1) fun r7=>
 if(r7=true)then
 Option.bind (qG k r5.2.2.2.2.2.2.2.2.2.2.2.2.2.2.1 r5.2.2.2.2.2.2.2.2.2.2.2.2.2.2.2.1 r5.2.2.2.2.2.2.2.2.2.2.2.2.2.2.2.2.1 r5.2.2.2.2.2.2.2.2.2.2.2.2.2.2.2.2.2) fun r8=>
 (some r8)
 else
 (some false)
 else
 (some false)
 else
 Option.bind (qY k r5.2.2.2.2.2.2.2.2.2.1 r5.2.2.2.2.2.2.2.2.2.2.1) fun r6=>
 if(r6=true)then
 if((r5.2.2.2.2.2.2.2.2.2.1 != (0:Int))=false)then
 (some false)
 else
 Option.bind (qJ k r5.2.2.2.2.2.2.2.2.2.2.2.1 r5.2.2.2.2.2.2.2.2.2.2.2.2.1 r5.2.2.2.2.2.2.2.2.2.2.2.2.2.1) fun r7=>
 if(r7=true)then
 Option.bind (qG k r5.2.2.2.2.2.2.2.2.2.2.2.2.2.2.1 r5.2.2.2.2.2.2.2.2.2.2.2.2.2.2.2.1 r5.2.2.2.2.2.2.2.2.2.2.2.2.2.2.2.2.1 r5.2.2.2.2.2.2.2.2.2.2.2.2.2.2.2.2.2) fun r8=>
 (some r8)
 else
 (some false)
 else
 (some false)
 else
 Option.bind (qY k r5.2.2.2.2.2.2.2.2.2.1 r5.2.2.2.2.2.2.2.2.2.2.1) fun r6=>
 if(r6=true)then
 if((r5.2.2.2.2.2.2.2.2.2.1 != (0:Int))=false)then
 (some false)
 else
 Option.bind (qJ k r5.2.2.2.2.2.2.2.2.2.2.2.1 r5.2.2.2.2.2.2.2.2.2.2.2.2.1 r5.2.2.2.2.2.2.2.2.2.2.2.2.2.1) fun r7=>
 if(r7=true)then
 Option.bind (qG k r5.2.2.2.2.2.2.2.2.2.2.2.2.2.2.1 r5.2.2.2.2.2.2.2.2.2.2.2.2.2.2.2.1 r5.2.2.2.2.2.2.2.2.2.2.2.2.2.2.2.2.1 r5.2.2.2.2.2.2.2.2.2.2.2.2.2.2.2.2.2) fun r8=>
 (some r8)
 else
 (some false)
 else
 (some false)
 else
 none
 else
 (some false)
 else
 (some false)
 else
 if((r5.2.2.2.2.2.1 == (104:Int))=true)then
 if((decide (r5.2.2.2.2.2.2.2.2.1<(0:Int)))=false)then
 if((decide (r5.2.2.2.2.2.2.2.2.1≥(((List.length r5.2.1):Nat):Int)))=false)then
 if((0:Int)≤r5.2.2.2.2.2.2.2.2.1)then
 Option.bind (r5.2.1)[(Int.toNat r5.2.2.2.2.2.2.2.2.1)]? fun x4=>
 if((x4.1 != (118:Int))=true)then
 (some false)
 else
 if((r5.2.2.2.2.2.1 == (114:Int))=false)then
 if((r5.2.2.2.2.2.1 == (99:Int))=false)then
 Option.bind (qY k r5.2.2.2.2.2.2.2.2.2.1 r5.2.2.2.2.2.2.2.2.2.2.1) fun r6=>
 if(r6=true)then
 if((r5.2.2.2.2.2.2.2.2.2.1 != (0:Int))=false)then
 if((!(r5.2.2.2.2.2.1 == (108:Int)))=true)then
 Option.bind (qJ k r5.2.2.2.2.2.2.2.2.2.2.2.1 r5.2.2.2.2.2.2.2.2.2.2.2.2.1 r5.2.2.2.2.2.2.2.2.2.2.2.2.2.1) fun r7=>
 if(r7=true)then
 Option.bind (qG k r5.2.2.2.2.2.2.2.2.2.2.2.2.2.2.1 r5.2.2.2.2.2.2.2.2.2.2.2.2.2.2.2.1 r5.2.2.2.2.2.2.2.2.2.2.2.2.2.2.2.2.1 r5.2.2.2.2.2.2.2.2.2.2.2.2.2.2.2.2.2) fun r8=>
 (some r8)
 else
 (some false)
 else
 (some false)
 else
 Option.bind (qJ k r5.2.2.2.2.2.2.2.2.2.2.2.1 r5.2.2.2.2.2.2.2.2.2.2.2.2.1 r5.2.2.2.2.2.2.2.2.2.2.2.2.2.1) fun r7=>
 if(r7=true)then
 Option.bind (qG k r5.2.2.2.2.2.2.2.2.2.2.2.2.2.2.1 r5.2.2.2.2.2.2.2.2.2.2.2.2.2.2.2.1 r5.2.2.2.2.2.2.2.2.2.2.2.2.2.2.2.2.1 r5.2.2.2.2.2.2.2.2.2.2.2.2.2.2.2.2.2) fun r8=>
 (some r8)
 else
 (some false)
 else
 (some false)
 else
 Option.bind (qY k r5.2.2.2.2.2.2.2.2.2.1 r5.2.2.2.2.2.2.2.2.2.2.1) fun r6=>
 if(r6=true)then
 if((r5.2.2.2.2.2.2.2.2.2.1 != (0:Int))=false)then
 (some false)
 else
 Option.bind (qJ k r5.2.2.2.2.2.2.2.2.2.2.2.1 r5.2.2.2.2.2.2.2.2.2.2.2.2.1 r5.2.2.2.2.2.2.2.2.2.2.2.2.2.1) fun r7=>
 if(r7=true)then
 Option.bind (qG k r5.2.2.2.2.2.2.2.2.2.2.2.2.2.2.1 r5.2.2.2.2.2.2.2.2.2.2.2.2.2.2.2.1 r5.2.2.2.2.2.2.2.2.2.2.2.2.2.2.2.2.1 r5.2.2.2.2.2.2.2.2.2.2.2.2.2.2.2.2.2) fun r8=>
 (some r8)
 else
 (some false)
 else
 (some false)
 else
 Option.bind (qY k r5.2.2.2.2.2.2.2.2.2.1 r5.2.2.2.2.2.2.2.2.2.2.1) fun r6=>
 if(r6=true)then
 if((r5.2.2.2.2.2.2.2.2.2.1 != (0:Int))=false)then
 (some false)
 else
 Option.bind (qJ k r5.2.2.2.2.2.2.2.2.2.2.2.1 r5.2.2.2.2.2.2.2.2.2.2.2.2.1 r5.2.2.2.2.2.2.2.2.2.2.2.2.2.1) fun r7=>
 if(r7=true)then
 Option.bind (qG k r5.2.2.2.2.2.2.2.2.2.2.2.2.2.2.1 r5.2.2.2.2.2.2.2.2.2.2.2.2.2.2.2.1 r5.2.2.2.2.2.2.2.2.2.2.2.2.2.2.2.2.1 r5.2.2.2.2.2.2.2.2.2.2.2.2.2.2.2.2.2) fun r8=>
 (some r8)
 else
 (some false)
 else
 (some false)
 else
 none
 else
 (some false)
 else
 (some false)
 else
 if((r5.2.2.2.2.2.2.2.2.1 != (0:Int))=true)then
 (some false)
 else
 if((r5.2.2.2.2.2.1 == (114:Int))=false)then
 if((r5.2.2.2.2.2.1 == (99:Int))=false)then
 Option.bind (qY k r5.2.2.2.2.2.2.2.2.2.1 r5.2.2.2.2.2.2.2.2.2.2.1) fun r6=>
 if(r6=true)then
 if((r5.2.2.2.2.2.2.2.2.2.1 != (0:Int))=false)then
 if((!(r5.2.2.2.2.2.1 == (108:Int)))=true)then
 Option.bind (qJ k r5.2.2.2.2.2.2.2.2.2.2.2.1 r5.2.2.2.2.2.2.2.2.2.2.2.2.1 r5.2.2.2.2.2.2.2.2.2.2.2.2.2.1) fun r7=>
 if(r7=true)then
 Option.bind (qG k r5.2.2.2.2.2.2.2.2.2.2.2.2.2.2.1 r5.2.2.2.2.2.2.2.2.2.2.2.2.2.2.2.1 r5.2.2.2.2.2.2.2.2.2.2.2.2.2.2.2.2.1 r5.2.2.2.2.2.2.2.2.2.2.2.2.2.2.2.2.2) fun r8=>
 (some r8)
 else
 (some false)
 else
 (some false)
 else
 Option.bind (qJ k r5.2.2.2.2.2.2.2.2.2.2.2.1 r5.2.2.2.2.2.2.2.2.2.2.2.2.1 r5.2.2.2.2.2.2.2.2.2.2.2.2.2.1) fun r7=>
 if(r7=true)then
 Option.bind (qG k r5.2.2.2.2.2.2.2.2.2.2.2.2.2.2.1 r5.2.2.2.2.2.2.2.2.2.2.2.2.2.2.2.1 r5.2.2.2.2.2.2.2.2.2.2.2.2.2.2.2.2.1 r5.2.2.2.2.2.2.2.2.2.2.2.2.2.2.2.2.2) fun r8=>
 (some r8)
 else
 (some false)
 else
 (some false)
 else
 Option.bind (qY k r5.2.2.2.2.2.2.2.2.2.1 r5.2.2.2.2.2.2.2.2.2.2.1) fun r6=>
 if(r6=true)then
 if((r5.2.2.2.2.2.2.2.2.2.1 != (0:Int))=false)then
 (some false)
 else
 Option.bind (qJ k r5.2.2.2.2.2.2.2.2.2.2.2.1 r5.2.2.2.2.2.2.2.2.2.2.2.2.1 r5.2.2.2.2.2.2.2.2.2.2.2.2.2.1) fun r7=>
 if(r7=true)then
 Option.bind (qG k r5.2.2.2.2.2.2.2.2.2.2.2.2.2.2.1 r5.2.2.2.2.2.2.2.2.2.2.2.2.2.2.2.1 r5.2.2.2.2.2.2.2.2.2.2.2.2.2.2.2.2.1 r5.2.2.2.2.2.2.2.2.2.2.2.2.2.2.2.2.2) fun r8=>
 (some r8)
 else
 (some false)
 else
 (some false)
 else
 Option.bind (qY k r5.2.2.2.2.2.2.2.2.2.1 r5.2.2.2.2.2.2.2.2.2.2.1) fun r6=>
 if(r6=true)then
 if((r5.2.2.2.2.2.2.2.2.2.1 != (0:Int))=false)then
 (some false)
 else
 Option.bind (qJ k r5.2.2.2.2.2.2.2.2.2.2.2.1 r5.2.2.2.2.2.2.2.2.2.2.2.2.1 r5.2.2.2.2.2.2.2.2.2.2.2.2.2.1) fun r7=>
 if(r7=true)then
 Option.bind (qG k r5.2.2.2.2.2.2.2.2.2.2.2.2.2.2.1 r5.2.2.2.2.2.2.2.2.2.2.2.2.2.2.2.1 r5.2.2.2.2.2.2.2.2.2.2.2.2.2.2.2.2.1 r5.2.2.2.2.2.2.2.2.2.2.2.2.2.2.2.2.2) fun r8=>
 (some r8)
 else
 (some false)
 else
 (some false))
 else
 (some false)
 else
 (some false)
def qfO:Nat→List ByteArray→List DvT→Int→Int→Int→Int→ByteArray→List Int→Int→Int→Int→Int→List (Int×Int)→List Int→ByteArray→Int→List (Int×Int)→List (Int×Int)→Option (Bool)
 | 0,_,_,_,_,_,_,_,_,_,_,_,_,_,_,_,_,_,_=>none
 | k+1,f0,f1,f2,f3,f4,d0,d1,d2,d3,d4,d5,d6,d7,d8,d9,d10,d11,d12=>qgX k f0 f1 f2 f3 f4 d0 d1 d2 d3 d4 d5 d6 d7 d8 d9 d10 d11 d12
def qwT:Nat→Inst:=mkI 185 ⟨[.g [.lf (.sl .str),.lf (.sl qC),.lf (.int .i64),.lf (.int .i64),.lf (.int .i64)],.g [.lf (.int .u8),.lf .str,.lf (.sl (.int .i64)),.lf (.int .i64),.lf (.int .i64),.lf (.int .i64),.lf (.int .i64),.lf cE,.lf (.sl (.int .i64)),.lf .str,.lf (.int .u8),.lf cE,.lf cE]],[]⟩ [⟨[vB],[]⟩] fun k x=>qfO k x.1 x.2.1 x.2.2.1 x.2.2.2.1 x.2.2.2.2.1 x.2.2.2.2.2.1 x.2.2.2.2.2.2.1 x.2.2.2.2.2.2.2.1 x.2.2.2.2.2.2.2.2.1 x.2.2.2.2.2.2.2.2.2.1 x.2.2.2.2.2.2.2.2.2.2.1 x.2.2.2.2.2.2.2.2.2.2.2.1 x.2.2.2.2.2.2.2.2.2.2.2.2.1 x.2.2.2.2.2.2.2.2.2.2.2.2.2.1 x.2.2.2.2.2.2.2.2.2.2.2.2.2.2.1 x.2.2.2.2.2.2.2.2.2.2.2.2.2.2.2.1 x.2.2.2.2.2.2.2.2.2.2.2.2.2.2.2.2.1 x.2.2.2.2.2.2.2.2.2.2.2.2.2.2.2.2.2
theorem qtI (k:Nat):qaH (call cf k) [qsK k,qtE k,qwh k,qwi k,qwO k,qna k]:=
 ac (qtD k) (ac (qwg k) (ac (qzJ k) (ac (qzK k) (ac (qzW k) (ac (qkC k) a0)))))
def qwU (k:Nat):LInst:=mkL 0 [⟨[(2,.a (.ptr 0 0 0)),(3,.a (.ptr 1 0 0)),(30,vJ),(31,vI),(32,vI)],[(0,some (.raw [[.lf (.sl .str),.lf (.sl qC),.lf (.int .i64),.lf (.int .i64),.lf (.int .i64)]] 5 27 true false false)),(1,some (.raw [[.lf (.int .u8),.lf .str,.lf (.sl (.int .i64)),.lf (.int .i64),.lf (.int .i64),.lf (.int .i64),.lf (.int .i64),.lf cE,.lf (.sl (.int .i64)),.lf .str,.lf (.int .u8),.lf cE,.lf cE]] 13 48 true false false))],2⟩] [⟨none,⟨[(4,vB)],[(0,some (.raw [[.lf (.sl .str),.lf (.sl qC),.lf (.int .i64),.lf (.int .i64),.lf (.int .i64)]] 5 27 true false false)),(1,some (.raw [[.lf (.int .u8),.lf .str,.lf (.sl (.int .i64)),.lf (.int .i64),.lf (.int .i64),.lf (.int .i64),.lf (.int .i64),.lf cE,.lf (.sl (.int .i64)),.lf .str,.lf (.int .u8),.lf cE,.lf cE]] 13 48 true false false))],2⟩⟩,⟨some 0,⟨[(2,.a (.ptr 0 0 0)),(3,.a (.ptr 1 0 0))],[(0,some (.raw [[.lf (.sl .str),.lf (.sl qC),.lf (.int .i64),.lf (.int .i64),.lf (.int .i64)]] 5 27 true false false)),(1,some (.raw [[.lf (.int .u8),.lf .str,.lf (.sl (.int .i64)),.lf (.int .i64),.lf (.int .i64),.lf (.int .i64),.lf (.int .i64),.lf cE,.lf (.sl (.int .i64)),.lf .str,.lf (.int .u8),.lf cE,.lf cE]] 13 48 true false false))],2⟩⟩] (fun n x=>qba k n x.1 x.2.1 x.2.2.1 x.2.2.2.1 x.2.2.2.2.1 x.2.2.2.2.2.1 x.2.2.2.2.2.2.1 x.2.2.2.2.2.2.2.1 x.2.2.2.2.2.2.2.2.1 x.2.2.2.2.2.2.2.2.2.1 x.2.2.2.2.2.2.2.2.2.2.1 x.2.2.2.2.2.2.2.2.2.2.2.1 x.2.2.2.2.2.2.2.2.2.2.2.2.1 x.2.2.2.2.2.2.2.2.2.2.2.2.2.1 x.2.2.2.2.2.2.2.2.2.2.2.2.2.2.1 x.2.2.2.2.2.2.2.2.2.2.2.2.2.2.2.1 x.2.2.2.2.2.2.2.2.2.2.2.2.2.2.2.2.1 x.2.2.2.2.2.2.2.2.2.2.2.2.2.2.2.2.2.1 x.2.2.2.2.2.2.2.2.2.2.2.2.2.2.2.2.2.2.1 x.2.2.2.2.2.2.2.2.2.2.2.2.2.2.2.2.2.2.2.1 x.2.2.2.2.2.2.2.2.2.2.2.2.2.2.2.2.2.2.2.2) k
theorem qwV (k:Nat):LIo 185 Tryz.f185 0 k (qwU k):=
 lpk [] (qtI k) l0 (fun _=>rfl) (by kernel_rfl) fun n x=>by kernel_rfl
theorem qzX:∀k,qg (call cf k) (qwT k):=
 fnk 0 [0] Tryz.func185 (fun k=>(qtI k)) (fun k=>(lc (qwV k) l0)) ⟨rfl,rfl,⟨rfl,Nat.le_of_ble_eq_true rfl⟩,rfl⟩ (fun _=>rfl) (by kernel_rfl) fun k x=>by kernel_rfl

def qe5 (k:Nat) (s:ByteArray) (c:Int):Option (Int):=
 (some (qci s c))
def qas:Nat→ByteArray→Int→Option (Int)
 | 0,_,_=>none
 | k+1,s,c=>qe5 k s c
def qkI:FS:=⟨[vS,.a (.lf (.int .u8))],[]⟩
def qmf:List FS:= [⟨[vI],[]⟩]
def qsO (k:Nat):Inst:=⟨59,qkI,qmf,fun x=>qas k x.1 x.2⟩
theorem qzY (k:Nat) (x:qkI.D):qas (k+1) x.1 x.2=(qhl) (DS FS.D qmf) (qkI.enc x).1 (qkI.enc x).2 (qgN FS.dec qmf):=by kernel_rfl
theorem qtJ:∀k,qg (call cf k) (qsO k)
 | 0=>fun x y e=>absurd (show(none:Option _)=some y from e) (by simp)
 | k+1=>qjY (c:=cf) (k:=k) (f:=59) (g:=qfi) (G:=qhl) (sh:=qkI) (os:=qmf) rfl (qlS) (fun x=>qas (k+1) x.1 x.2) (qzY k)

def qeb (k:Nat) (rec:Int→Nat→List DvT→Int→Int→List Int→Option (Int×Nat×List Int)) (n:Int) (branch:Nat) (x:List DvT) (x1:Int) (x2:Int) (branchs:List Int):Option (Int×Nat×List Int):=
 if((decide (x2<x1))=true)then
 if((0:Int)≤x2)then
 Option.bind (x)[(Int.toNat x2)]? fun x3=>
 Option.bind (qas k (ByteArray.mk (List.toArray (118::(101::(104::(99::(108::(116:: [])))))))) x3.1) fun r6=>
 if((decide (r6≥(0:Int)))=true)then
 if(branch≤(List.length branchs))then
 if(((branch+(List.length (List.take 1 (n:: []))))*8)≤140737488355328)then
 rec (IntKind.wrap .i64 (n+(1:Int))) (branch+(List.length (List.take 1 (n:: [])))) x x1 (IntKind.wrap .i64 (x2+(1:Int))) ((List.take branch branchs)++(List.take 1 (n:: [])))
 else
 none
 else
 none
 else
 if(branch≤(List.length branchs))then
 if(((branch+1)*8)≤140737488355328)then
 rec n (branch+1) x x1 (IntKind.wrap .i64 (x2+(1:Int))) ((List.take branch branchs)++(List.take 1 ((-(1:Int)):: [])))
 else
 none
 else
 none
 else
 none
 else
 (some (n,branch,branchs))
def qc6 (k n:Nat):Int→Nat→List DvT→Int→Int→List Int→Option (Int×Nat×List Int):=Nat.rec (fun _ _ _ _ _ _=>none) (fun _ r=>qeb k r) n
def qh2 (k:Nat) (f0:List ByteArray) (f1:List DvT) (f2:Int) (f3:Int) (f4:Int):Option (Int×List Int):=
 Option.bind (qc6 k k (IntKind.wrap .i64 ((((List.length f0):Nat):Int)-(1:Int))) 0 f1 (((List.length f1):Nat):Int) (0:Int) []) fun r6=>
 if((0+r6.2.1)≤(List.length r6.2.2))then
 (some (r6.1,(List.take r6.2.1 r6.2.2)))
 else
 none
def qdj:Nat→List ByteArray→List DvT→Int→Int→Int→Option (Int×List Int)
 | 0,_,_,_,_,_=>none
 | k+1,f0,f1,f2,f3,f4=>qh2 k f0 f1 f2 f3 f4
def qwW:Nat→Inst:=mkI 186 ⟨[.g [.lf (.sl .str),.lf (.sl qC),.lf (.int .i64),.lf (.int .i64),.lf (.int .i64)]],[]⟩ [⟨[vI,vJ],[]⟩] fun k x=>qdj k x.1 x.2.1 x.2.2.1 x.2.2.2.1 x.2.2.2.2
theorem qtK (k:Nat):qaH (call cf k) [qsO k]:=
 ac (qtJ k) a0
def qwX (k:Nat):LInst:=mkL 0 [⟨[(4,vI),(5,.a (.smz 0)),(14,.a (.lf (.sl qC))),(15,vI),(16,vI)],[(0,some (.arr (.int .i64) 1 3 false))],1⟩] [⟨some 0,⟨[(4,vI),(5,.a (.smz 0))],[(0,some (.arr (.int .i64) 1 3 false))],1⟩⟩] (fun n x=>qc6 k n x.1 x.2.1 x.2.2.1 x.2.2.2.1 x.2.2.2.2.1 x.2.2.2.2.2) k
theorem qwY (k:Nat):LIo 186 Tryz.f186 0 k (qwX k):=
 lpk [] (qtK k) l0 (fun _=>rfl) (by kernel_rfl) fun n x=>by kernel_rfl
theorem qzZ:∀k,qg (call cf k) (qwW k):=
 fnk 0 [0] Tryz.func186 (fun k=>(qtK k)) (fun k=>(lc (qwY k) l0)) ⟨rfl,rfl,⟨rfl,Nat.le_of_ble_eq_true rfl⟩,rfl⟩ (fun _=>rfl) (by kernel_rfl) fun k x=>by kernel_rfl

def qcG (k:Nat) (rec:List ByteArray→Int→Int→List ByteArray→List DvT→Int→Int→Int→Option ((Int×List ByteArray×List DvT×Int×Int×Int) ⊕ (List ByteArray×List DvT×Int×Int×Int))) (x:List ByteArray) (x1:Int) (x2:Int) (f0:List ByteArray) (f1:List DvT) (f2:Int) (f3:Int) (f4:Int):Option ((Int×List ByteArray×List DvT×Int×Int×Int) ⊕ (List ByteArray×List DvT×Int×Int×Int)):=
 if((decide (x2<x1))=true)then
 if((0:Int)≤x2)then
 Option.bind (x)[(Int.toNat x2)]? fun x3=>
 Option.bind (qfk k x3) fun r3=>
 if((!r3)=true)then
 (some (Sum.inl ((90:Int),f0,f1,f2,f3,f4)))
 else
 rec x x1 (IntKind.wrap .i64 (x2+(1:Int))) f0 f1 f2 f3 f4
 else
 none
 else
 (some (Sum.inr (f0,f1,f2,f3,f4)))
def qaF (k n:Nat):List ByteArray→Int→Int→List ByteArray→List DvT→Int→Int→Int→Option ((Int×List ByteArray×List DvT×Int×Int×Int) ⊕ (List ByteArray×List DvT×Int×Int×Int)):=Nat.rec (fun _ _ _ _ _ _ _ _=>none) (fun _ r=>qcG k r) n
def qcH (k:Nat) (rec:Nat→List DvT→Int→Int→List ByteArray→List DvT→Int→Int→Int→List ByteArray→Option ((Int×List ByteArray×List DvT×Int×Int×Int×List ByteArray×Int×ByteArray×List Int×Int×Int×Int×Int×List (Int×Int)×List Int×ByteArray×Int×List (Int×Int)×List (Int×Int)) ⊕ (Nat×List ByteArray×List DvT×Int×Int×Int×List ByteArray))) (qbv:Nat) (x:List DvT) (x1:Int) (x2:Int) (f0:List ByteArray) (f1:List DvT) (f2:Int) (f3:Int) (f4:Int) (namess:List ByteArray):Option ((Int×List ByteArray×List DvT×Int×Int×Int×List ByteArray×Int×ByteArray×List Int×Int×Int×Int×Int×List (Int×Int)×List Int×ByteArray×Int×List (Int×Int)×List (Int×Int)) ⊕ (Nat×List ByteArray×List DvT×Int×Int×Int×List ByteArray)):=
 if((decide (x2<x1))=true)then
 if((0:Int)≤x2)then
 Option.bind (x)[(Int.toNat x2)]? fun x3=>
 Option.bind (qfO k f0 f1 f2 f3 f4 x3.1 x3.2.1 x3.2.2.1 x3.2.2.2.1 x3.2.2.2.2.1.1 x3.2.2.2.2.1.2 x3.2.2.2.2.2.1.1 x3.2.2.2.2.2.1.2.1 x3.2.2.2.2.2.1.2.2 x3.2.2.2.2.2.2.1 x3.2.2.2.2.2.2.2.1 x3.2.2.2.2.2.2.2.2.1 x3.2.2.2.2.2.2.2.2.2) fun r4=>
 if((!r4)=true)then
 (some (Sum.inl ((90:Int),f0,f1,f2,f3,f4,namess,x3.1,x3.2.1,x3.2.2.1,x3.2.2.2.1,x3.2.2.2.2.1.1,x3.2.2.2.2.1.2,x3.2.2.2.2.2.1.1,x3.2.2.2.2.2.1.2.1,x3.2.2.2.2.2.1.2.2,x3.2.2.2.2.2.2.1,x3.2.2.2.2.2.2.2.1,x3.2.2.2.2.2.2.2.2.1,x3.2.2.2.2.2.2.2.2.2)))
 else
 if(qbv≤(List.length namess))then
 if(((qbv+(List.length (List.take 1 (x3.2.1:: []))))*16)≤140737488355328)then
 rec (qbv+(List.length (List.take 1 (x3.2.1:: [])))) x x1 (IntKind.wrap .i64 (x2+(1:Int))) f0 f1 f2 f3 f4 ((List.take qbv namess)++(List.take 1 (x3.2.1:: [])))
 else
 none
 else
 none
 else
 none
 else
 (some (Sum.inr (qbv,f0,f1,f2,f3,f4,namess)))
def qaq (k n:Nat):Nat→List DvT→Int→Int→List ByteArray→List DvT→Int→Int→Int→List ByteArray→Option ((Int×List ByteArray×List DvT×Int×Int×Int×List ByteArray×Int×ByteArray×List Int×Int×Int×Int×Int×List (Int×Int)×List Int×ByteArray×Int×List (Int×Int)×List (Int×Int)) ⊕ (Nat×List ByteArray×List DvT×Int×Int×Int×List ByteArray)):=Nat.rec (fun _ _ _ _ _ _ _ _ _ _=>none) (fun _ r=>qcH k r) n
def qgY (k:Nat) (f0:List ByteArray) (f1:List DvT) (f2:Int) (f3:Int) (f4:Int):Option (Int):=
 Option.bind (qY k f2 f3) fun r1=>
 if((!r1)=false)then
 if((decide (f2≤(0:Int)))=false)then
 if((f4 != (1:Int))=true)then
 if((f4 != (2:Int))=true)then
 (some (90:Int))
 else
 if((decide ((((List.length f0):Nat):Int)<(1:Int)))=false)then
 if((decide ((((List.length f0):Nat):Int)>(32:Int)))=false)then
 Option.bind (f0)[0]? fun x=>
 if((!((Array.toList (ByteArray.data x)) == (Array.toList (ByteArray.data (ByteArray.mk (List.toArray (48:: [])))))))=false)then
 if((decide ((((List.length f1):Nat):Int)>(64:Int)))=false)then
 Option.bind (qbY k f0) fun r2=>
 if(r2=true)then
 (some (90:Int))
 else
 Option.bind (qaF k k f0 (((List.length f0):Nat):Int) (0:Int) f0 f1 f2 f3 f4) fun r3=>
 qc r3
 (fun r3=>
 (some r3.1))
 (fun r3=>
 Option.bind (qaq k k 0 r3.2.1 (((List.length r3.2.1):Nat):Int) (0:Int) r3.1 r3.2.1 r3.2.2.1 r3.2.2.2.1 r3.2.2.2.2 []) fun r4=>
 qc r4
 (fun r4=>
 (some r4.1))
 (fun r4=>
 if((0+r4.1)≤(List.length r4.2.2.2.2.2.2))then
 Option.bind (qbY k (List.take r4.1 r4.2.2.2.2.2.2)) fun r5=>
 if(r5=true)then
 (some (90:Int))
 else
 Option.bind (qdj k r4.2.1 r4.2.2.1 r4.2.2.2.1 r4.2.2.2.2.1 r4.2.2.2.2.2.1) fun r6=>
 if((decide (r6.1>(48:Int)))=true)then
 (some (5:Int))
 else
 (some (0:Int))
 else
 none))
 else
 (some (90:Int))
 else
 (some (90:Int))
 else
 (some (90:Int))
 else
 (some (90:Int))
 else
 if((decide ((((List.length f0):Nat):Int)<(1:Int)))=false)then
 if((decide ((((List.length f0):Nat):Int)>(32:Int)))=false)then
 Option.bind (f0)[0]? fun x=>
 if((!((Array.toList (ByteArray.data x)) == (Array.toList (ByteArray.data (ByteArray.mk (List.toArray (48:: [])))))))=false)then
 if((decide ((((List.length f1):Nat):Int)>(64:Int)))=false)then
 Option.bind (qbY k f0) fun r2=>
 if(r2=true)then
 (some (90:Int))
 else
 Option.bind (qaF k k f0 (((List.length f0):Nat):Int) (0:Int) f0 f1 f2 f3 f4) fun r3=>
 qc r3
 (fun r3=>
 (some r3.1))
 (fun r3=>
 Option.bind (qaq k k 0 r3.2.1 (((List.length r3.2.1):Nat):Int) (0:Int) r3.1 r3.2.1 r3.2.2.1 r3.2.2.2.1 r3.2.2.2.2 []) fun r4=>
 qc r4
 (fun r4=>
 (some r4.1))
 (fun r4=>
 if((0+r4.1)≤(List.length r4.2.2.2.2.2.2))then
 Option.bind (qbY k (List.take r4.1 r4.2.2.2.2.2.2)) fun r5=>
 if(r5=true)then
 (some (90:Int))
 else
 Option.bind (qdj k r4.2.1 r4.2.2.1 r4.2.2.2.1 r4.2.2.2.2.1 r4.2.2.2.2.2.1) fun r6=>
 if((decide (r6.1>(48:Int)))=true)then
 (some (5:Int))
 else
 (some (0:Int))
 else
 none))
 else
 (some (90:Int))
 else
 (some (90:Int))
 else
 (some (90:Int))
 else
 (some (90:Int))
 else
 (some (90:Int))
 else
 (some (90:Int))
def qeH:Nat→List ByteArray→List DvT→Int→Int→Int→Option (Int)
 | 0,_,_,_,_,_=>none
 | k+1,f0,f1,f2,f3,f4=>qgY k f0 f1 f2 f3 f4
def qA3:Nat→Inst:=mkI 120 ⟨[.g [.lf (.sl .str),.lf (.sl qC),.lf (.int .i64),.lf (.int .i64),.lf (.int .i64)]],[]⟩ [⟨[vI],[]⟩] fun k x=>qeH k x.1 x.2.1 x.2.2.1 x.2.2.2.1 x.2.2.2.2
theorem qpC (k:Nat):qaH (call cf k) [qna k,qvY k,qsK k,qwT k,qwW k]:=
 ac (qkC k) (ac (qzw k) (ac (qtD k) (ac (qzX k) (ac (qzZ k) a0))))
def qwZ (k:Nat):LInst:=mkL 0 [⟨[(1,.a (.ptr 0 0 0)),(59,vR),(60,vI),(61,vI)],[(0,some (.raw [[.lf (.sl .str),.lf (.sl qC),.lf (.int .i64),.lf (.int .i64),.lf (.int .i64)]] 5 27 true false false))],1⟩] [⟨none,⟨[(2,vI)],[(0,some (.raw [[.lf (.sl .str),.lf (.sl qC),.lf (.int .i64),.lf (.int .i64),.lf (.int .i64)]] 5 27 true false false))],1⟩⟩,⟨some 0,⟨[(1,.a (.ptr 0 0 0))],[(0,some (.raw [[.lf (.sl .str),.lf (.sl qC),.lf (.int .i64),.lf (.int .i64),.lf (.int .i64)]] 5 27 true false false))],1⟩⟩] (fun n x=>qaF k n x.1 x.2.1 x.2.2.1 x.2.2.2.1 x.2.2.2.2.1 x.2.2.2.2.2.1 x.2.2.2.2.2.2.1 x.2.2.2.2.2.2.2) k
theorem qq4 (k:Nat):LIo 120 Tryz.f120 0 k (qwZ k):=
 lpk [] (qpC k) l0 (fun _=>rfl) (by kernel_rfl) fun n x=>by kernel_rfl
def qw0 (k:Nat):LInst:=mkL 2 [⟨[(1,.a (.ptr 0 0 0)),(5,.a (.smz 1)),(70,.a (.lf (.sl qC))),(71,vI),(72,vI)],[(0,some (.raw [[.lf (.sl .str),.lf (.sl qC),.lf (.int .i64),.lf (.int .i64),.lf (.int .i64)]] 5 27 true false false)),(1,some (.arr .str 1 9 false))],2⟩] [⟨none,⟨[(2,vI)],[(0,some (.raw [[.lf (.sl .str),.lf (.sl qC),.lf (.int .i64),.lf (.int .i64),.lf (.int .i64)]] 5 27 true false false)),(1,some (.arr .str 1 9 false)),(2,some (.raw [[.lf (.int .u8),.lf .str,.lf (.sl (.int .i64)),.lf (.int .i64),.lf (.int .i64),.lf (.int .i64),.lf (.int .i64),.lf cE,.lf (.sl (.int .i64)),.lf .str,.lf (.int .u8),.lf cE,.lf cE]] 13 48 true false false))],3⟩⟩,⟨some 2,⟨[(1,.a (.ptr 0 0 0)),(5,.a (.smz 1))],[(0,some (.raw [[.lf (.sl .str),.lf (.sl qC),.lf (.int .i64),.lf (.int .i64),.lf (.int .i64)]] 5 27 true false false)),(1,some (.arr .str 1 9 false))],2⟩⟩] (fun n x=>qaq k n x.1 x.2.1 x.2.2.1 x.2.2.2.1 x.2.2.2.2.1 x.2.2.2.2.2.1 x.2.2.2.2.2.2.1 x.2.2.2.2.2.2.2.1 x.2.2.2.2.2.2.2.2.1 x.2.2.2.2.2.2.2.2.2) k
theorem qw1 (k:Nat):LIo 120 Tryz.f120 0 k (qw0 k):=
 lpk [] (qpC k) (lc (qq4 k) l0) (fun _=>rfl) (by kernel_rfl) fun n x=>by kernel_rfl
theorem qz0:∀k,qg (call cf k) (qA3 k):=
 fnk 0 [0,2] Tryz.func120 (fun k=>(qpC k)) (fun k=>(lc (qq4 k) (lc (qw1 k) l0))) ⟨rfl,rfl,⟨rfl,Nat.le_of_ble_eq_true rfl⟩,rfl⟩ (fun _=>rfl) (by kernel_rfl) fun k x=>by kernel_rfl


end
end Go.Proofs.YtlnailgfialgnaaGreatDoor.Am
namespace Go.Proofs.YtlnailgfialgnaaGreatDoor.Am
open Go
noncomputable section

def qbg (k:Nat) (rec:Int→Bool→Nat→Bool→Nat→List Int→List Int→Option (Bool×Nat×Bool×Nat×List Int×List Int)) (u:Int) (x0:Bool) (x1:Nat) (a0:Bool) (a1:Nat) (m:List Int) (m1:List Int):Option (Bool×Nat×Bool×Nat×List Int×List Int):=
 if((decide (u>(0:Int)))=true)then
 if(a1≤(List.length m1))then
 if(((a1+(List.length (List.take 1 ((IntKind.wrap .i64 (Int.tmod u (65536:Int))):: []))))*8)≤140737488355328)then
 rec (IntKind.wrap .u64 (Int.tdiv u (65536:Int))) x0 x1 a0 (a1+(List.length (List.take 1 ((IntKind.wrap .i64 (Int.tmod u (65536:Int))):: [])))) m ((List.take a1 m1)++(List.take 1 ((IntKind.wrap .i64 (Int.tmod u (65536:Int))):: [])))
 else
 none
 else
 none
 else
 (some (x0,x1,a0,a1,m,m1))
def qaM (k n:Nat):Int→Bool→Nat→Bool→Nat→List Int→List Int→Option (Bool×Nat×Bool×Nat×List Int×List Int):=Nat.rec (fun _ _ _ _ _ _ _=>none) (fun _ r=>qbg k r) n
def qdt (k:Nat) (v:Int):Option (Bool×List Int):=
 if((decide (v<(0:Int)))=true)then
 Option.bind (qaM k k (IntKind.wrap .u64 ((0:Int)-(IntKind.wrap .u64 v))) false 0 true 0 [] []) fun r5=>
 if((0+r5.2.2.2.1)≤(List.length r5.2.2.2.2.2))then
 (some (r5.2.2.1,(List.take r5.2.2.2.1 r5.2.2.2.2.2)))
 else
 none
 else
 Option.bind (qaM k k (IntKind.wrap .u64 v) false 0 false 0 [] []) fun r5=>
 if((0+r5.2.2.2.1)≤(List.length r5.2.2.2.2.2))then
 (some (r5.2.2.1,(List.take r5.2.2.2.1 r5.2.2.2.2.2)))
 else
 none
def qdu:Nat→Int→Option (Bool×List Int)
 | 0,_=>none
 | k+1,v=>qdt k v
def qA4:Nat→Inst:=mkI 91 ⟨[vI],[]⟩ [⟨[.g [.lf .bool,.lf (.sl (.int .i64))]],[]⟩] fun k x=>qdu k x
def qw2 (k:Nat):LInst:=mkL 0 [⟨[(2,.a (.ptr 0 0 0)),(3,.a (.ptr 1 0 0)),(4,vU)],[(0,some (.raw [[.lf .bool,.smz 2]] 2 154 false false false)),(1,some (.raw [[.lf .bool,.smz 3]] 2 154 false false false)),(2,some (.arr (.int .i64) 1 3 false)),(3,some (.arr (.int .i64) 1 3 false))],4⟩] [⟨some 0,⟨[(2,.a (.ptr 0 0 0)),(3,.a (.ptr 1 0 0))],[(0,some (.raw [[.lf .bool,.smz 2]] 2 154 false false false)),(1,some (.raw [[.lf .bool,.smz 3]] 2 154 false false false)),(2,some (.arr (.int .i64) 1 3 false)),(3,some (.arr (.int .i64) 1 3 false))],4⟩⟩] (fun n x=>qaM k n x.1 x.2.1 x.2.2.1 x.2.2.2.1 x.2.2.2.2.1 x.2.2.2.2.2.1 x.2.2.2.2.2.2) k
theorem qw3 (k:Nat):LIo 91 Tryz.f91 0 k (qw2 k):=
 lpk [] a0 l0 (fun _=>rfl) (by kernel_rfl) fun n x=>by kernel_rfl
theorem qz1:∀k,qg (call cf k) (qA4 k):=
 fnk 0 [0] Tryz.func91 (fun k=>a0) (fun k=>(lc (qw3 k) l0)) ⟨rfl,rfl,⟨rfl,Nat.le_of_ble_eq_true rfl⟩,rfl⟩ (fun _=>rfl) (by kernel_rfl) fun k x=>by kernel_rfl

def qbN (k:Nat) (rec:Nat→Int→List Int→Option (Nat×Int×List Int)) (d:Nat) (n:Int) (ds:List Int):Option (Nat×Int×List Int):=
 if((decide (n>(0:Int)))=true)then
 if(((0:Int)≤(IntKind.wrap .i64 (n-(1:Int))))∧((IntKind.wrap .i64 (n-(1:Int)))<((d:Nat):Int)))then
 Option.bind (ds)[(0+(Int.toNat (IntKind.wrap .i64 (n-(1:Int)))))]? fun x4=>
 if((x4 == (0:Int))=true)then
 rec d (IntKind.wrap .i64 (n-(1:Int))) ds
 else
 (some (d,n,ds))
 else
 none
 else
 (some (d,n,ds))
def qbZ (k n:Nat):Nat→Int→List Int→Option (Nat×Int×List Int):=Nat.rec (fun _ _ _=>none) (fun _ r=>qbN k r) n
def qaQ (k:Nat) (d:Nat) (ds:List Int):Option (Nat×List Int):=
 Option.bind (qbZ k k d ((d:Nat):Int) ds) fun r7=>
 if(((0:Int)≤(0:Int))∧(((0:Int)≤r7.2.1)∧(((0+(Int.toNat r7.2.1))≤(List.length r7.2.2))∧(((0:Int)<r7.2.1)∨(true=true)))))then
 (some ((Int.toNat r7.2.1),r7.2.2))
 else
 none
def qF:Nat→Nat→List Int→Option (Nat×List Int)
 | 0,_,_=>none
 | k+1,d,ds=>qaQ k d ds
def qne:Nat→Inst:=mkI 205 ⟨[.a (.smz 0)],[.arr (.int .i64) 1 3 false]⟩ [⟨[.a (.smz 0)],[.arr (.int .i64) 1 3 false]⟩] fun k x=>qF k x.1 x.2
def qq5:SS:=⟨[(0,.a (.smz 0)),(3,vI)],[(0,some (.arr (.int .i64) 1 3 false))],1⟩
def qw4 (k:Nat):LInst:=mkL 0 [qq5] [⟨some 0,qq5⟩] (fun n x=>qbZ k n x.1 x.2.1 x.2.2) k
theorem qw5 (k:Nat):LIo 205 Tryz.f205 1 k (qw4 k):=
 lpk [] a0 l0 (fun _=>rfl) (by kernel_rfl) fun n x=>by kernel_rfl
theorem qmg:∀k,qg (call cf k) (qne k):=
 fnk 1 [0] Tryz.func205 (fun k=>a0) (fun k=>(lc (qw5 k) l0)) ⟨rfl,rfl,⟨rfl,Nat.le_of_ble_eq_true rfl⟩,rfl⟩ (fun _=>rfl) (by kernel_rfl) fun k x=>by kernel_rfl

def qbh (k:Nat) (rec:List Int→List Int→Nat→Int→Int→List Int→Option (Nat×List Int)) (a:List Int) (b:List Int) (d:Nat) (carry:Int) (i:Int) (ds:List Int):Option (Nat×List Int):=
 if((decide (i<(((List.length a):Nat):Int)))=false)then
 if((decide (i<(((List.length b):Nat):Int)))=false)then
 if((decide (carry>(0:Int)))=true)then
 if((decide (i<(((List.length a):Nat):Int)))=true)then
 if((0:Int)≤i)then
 Option.bind (a)[(Int.toNat i)]? fun x4=>
 if((decide (i<(((List.length b):Nat):Int)))=true)then
 if((0:Int)≤i)then
 Option.bind (b)[(Int.toNat i)]? fun x5=>
 if(d≤(List.length ds))then
 if(((d+(List.length (List.take 1 ((Int.tmod (IntKind.wrap .i64 ((IntKind.wrap .i64 (carry+x4))+x5)) (65536:Int)):: []))))*8)≤140737488355328)then
 rec a b (d+(List.length (List.take 1 ((Int.tmod (IntKind.wrap .i64 ((IntKind.wrap .i64 (carry+x4))+x5)) (65536:Int)):: [])))) (IntKind.wrap .i64 (Int.tdiv (IntKind.wrap .i64 ((IntKind.wrap .i64 (carry+x4))+x5)) (65536:Int))) (IntKind.wrap .i64 (i+(1:Int))) ((List.take d ds)++(List.take 1 ((Int.tmod (IntKind.wrap .i64 ((IntKind.wrap .i64 (carry+x4))+x5)) (65536:Int)):: [])))
 else
 none
 else
 none
 else
 none
 else
 if(d≤(List.length ds))then
 if(((d+(List.length (List.take 1 ((Int.tmod (IntKind.wrap .i64 (carry+x4)) (65536:Int)):: []))))*8)≤140737488355328)then
 rec a b (d+(List.length (List.take 1 ((Int.tmod (IntKind.wrap .i64 (carry+x4)) (65536:Int)):: [])))) (IntKind.wrap .i64 (Int.tdiv (IntKind.wrap .i64 (carry+x4)) (65536:Int))) (IntKind.wrap .i64 (i+(1:Int))) ((List.take d ds)++(List.take 1 ((Int.tmod (IntKind.wrap .i64 (carry+x4)) (65536:Int)):: [])))
 else
 none
 else
 none
 else
 none
 else
 if((decide (i<(((List.length b):Nat):Int)))=true)then
 if((0:Int)≤i)then
 Option.bind (b)[(Int.toNat i)]? fun x4=>
 if(d≤(List.length ds))then
 if(((d+(List.length (List.take 1 ((Int.tmod (IntKind.wrap .i64 (carry+x4)) (65536:Int)):: []))))*8)≤140737488355328)then
 rec a b (d+(List.length (List.take 1 ((Int.tmod (IntKind.wrap .i64 (carry+x4)) (65536:Int)):: [])))) (IntKind.wrap .i64 (Int.tdiv (IntKind.wrap .i64 (carry+x4)) (65536:Int))) (IntKind.wrap .i64 (i+(1:Int))) ((List.take d ds)++(List.take 1 ((Int.tmod (IntKind.wrap .i64 (carry+x4)) (65536:Int)):: [])))
 else
 none
 else
 none
 else
 none
 else
 if(d≤(List.length ds))then
 if(((d+(List.length (List.take 1 ((Int.tmod carry (65536:Int)):: []))))*8)≤140737488355328)then
 rec a b (d+(List.length (List.take 1 ((Int.tmod carry (65536:Int)):: [])))) (IntKind.wrap .i64 (Int.tdiv carry (65536:Int))) (IntKind.wrap .i64 (i+(1:Int))) ((List.take d ds)++(List.take 1 ((Int.tmod carry (65536:Int)):: [])))
 else
 none
 else
 none
 else
 (some (d,ds))
 else
 if((decide (i<(((List.length a):Nat):Int)))=true)then
 if((0:Int)≤i)then
 Option.bind (a)[(Int.toNat i)]? fun x4=>
 if((decide (i<(((List.length b):Nat):Int)))=true)then
 if((0:Int)≤i)then
 Option.bind (b)[(Int.toNat i)]? fun x5=>
 if(d≤(List.length ds))then
 if(((d+(List.length (List.take 1 ((Int.tmod (IntKind.wrap .i64 ((IntKind.wrap .i64 (carry+x4))+x5)) (65536:Int)):: []))))*8)≤140737488355328)then
 rec a b (d+(List.length (List.take 1 ((Int.tmod (IntKind.wrap .i64 ((IntKind.wrap .i64 (carry+x4))+x5)) (65536:Int)):: [])))) (IntKind.wrap .i64 (Int.tdiv (IntKind.wrap .i64 ((IntKind.wrap .i64 (carry+x4))+x5)) (65536:Int))) (IntKind.wrap .i64 (i+(1:Int))) ((List.take d ds)++(List.take 1 ((Int.tmod (IntKind.wrap .i64 ((IntKind.wrap .i64 (carry+x4))+x5)) (65536:Int)):: [])))
 else
 none
 else
 none
 else
 none
 else
 if(d≤(List.length ds))then
 if(((d+(List.length (List.take 1 ((Int.tmod (IntKind.wrap .i64 (carry+x4)) (65536:Int)):: []))))*8)≤140737488355328)then
 rec a b (d+(List.length (List.take 1 ((Int.tmod (IntKind.wrap .i64 (carry+x4)) (65536:Int)):: [])))) (IntKind.wrap .i64 (Int.tdiv (IntKind.wrap .i64 (carry+x4)) (65536:Int))) (IntKind.wrap .i64 (i+(1:Int))) ((List.take d ds)++(List.take 1 ((Int.tmod (IntKind.wrap .i64 (carry+x4)) (65536:Int)):: [])))
 else
 none
 else
 none
 else
 none
 else
 if((decide (i<(((List.length b):Nat):Int)))=true)then
 if((0:Int)≤i)then
 Option.bind (b)[(Int.toNat i)]? fun x4=>
 if(d≤(List.length ds))then
 if(((d+(List.length (List.take 1 ((Int.tmod (IntKind.wrap .i64 (carry+x4)) (65536:Int)):: []))))*8)≤140737488355328)then
 rec a b (d+(List.length (List.take 1 ((Int.tmod (IntKind.wrap .i64 (carry+x4)) (65536:Int)):: [])))) (IntKind.wrap .i64 (Int.tdiv (IntKind.wrap .i64 (carry+x4)) (65536:Int))) (IntKind.wrap .i64 (i+(1:Int))) ((List.take d ds)++(List.take 1 ((Int.tmod (IntKind.wrap .i64 (carry+x4)) (65536:Int)):: [])))
 else
 none
 else
 none
 else
 none
 else
 if(d≤(List.length ds))then
 if(((d+(List.length (List.take 1 ((Int.tmod carry (65536:Int)):: []))))*8)≤140737488355328)then
 rec a b (d+(List.length (List.take 1 ((Int.tmod carry (65536:Int)):: [])))) (IntKind.wrap .i64 (Int.tdiv carry (65536:Int))) (IntKind.wrap .i64 (i+(1:Int))) ((List.take d ds)++(List.take 1 ((Int.tmod carry (65536:Int)):: [])))
 else
 none
 else
 none
 else
 if((decide (i<(((List.length a):Nat):Int)))=true)then
 if((0:Int)≤i)then
 Option.bind (a)[(Int.toNat i)]? fun x4=>
 if((decide (i<(((List.length b):Nat):Int)))=true)then
 if((0:Int)≤i)then
 Option.bind (b)[(Int.toNat i)]? fun x5=>
 if(d≤(List.length ds))then
 if(((d+(List.length (List.take 1 ((Int.tmod (IntKind.wrap .i64 ((IntKind.wrap .i64 (carry+x4))+x5)) (65536:Int)):: []))))*8)≤140737488355328)then
 rec a b (d+(List.length (List.take 1 ((Int.tmod (IntKind.wrap .i64 ((IntKind.wrap .i64 (carry+x4))+x5)) (65536:Int)):: [])))) (IntKind.wrap .i64 (Int.tdiv (IntKind.wrap .i64 ((IntKind.wrap .i64 (carry+x4))+x5)) (65536:Int))) (IntKind.wrap .i64 (i+(1:Int))) ((List.take d ds)++(List.take 1 ((Int.tmod (IntKind.wrap .i64 ((IntKind.wrap .i64 (carry+x4))+x5)) (65536:Int)):: [])))
 else
 none
 else
 none
 else
 none
 else
 if(d≤(List.length ds))then
 if(((d+(List.length (List.take 1 ((Int.tmod (IntKind.wrap .i64 (carry+x4)) (65536:Int)):: []))))*8)≤140737488355328)then
 rec a b (d+(List.length (List.take 1 ((Int.tmod (IntKind.wrap .i64 (carry+x4)) (65536:Int)):: [])))) (IntKind.wrap .i64 (Int.tdiv (IntKind.wrap .i64 (carry+x4)) (65536:Int))) (IntKind.wrap .i64 (i+(1:Int))) ((List.take d ds)++(List.take 1 ((Int.tmod (IntKind.wrap .i64 (carry+x4)) (65536:Int)):: [])))
 else
 none
 else
 none
 else
 none
 else
 if((decide (i<(((List.length b):Nat):Int)))=true)then
 if((0:Int)≤i)then
 Option.bind (b)[(Int.toNat i)]? fun x4=>
 if(d≤(List.length ds))then
 if(((d+(List.length (List.take 1 ((Int.tmod (IntKind.wrap .i64 (carry+x4)) (65536:Int)):: []))))*8)≤140737488355328)then
 rec a b (d+(List.length (List.take 1 ((Int.tmod (IntKind.wrap .i64 (carry+x4)) (65536:Int)):: [])))) (IntKind.wrap .i64 (Int.tdiv (IntKind.wrap .i64 (carry+x4)) (65536:Int))) (IntKind.wrap .i64 (i+(1:Int))) ((List.take d ds)++(List.take 1 ((Int.tmod (IntKind.wrap .i64 (carry+x4)) (65536:Int)):: [])))
 else
 none
 else
 none
 else
 none
 else
 if(d≤(List.length ds))then
 if(((d+(List.length (List.take 1 ((Int.tmod carry (65536:Int)):: []))))*8)≤140737488355328)then
 rec a b (d+(List.length (List.take 1 ((Int.tmod carry (65536:Int)):: [])))) (IntKind.wrap .i64 (Int.tdiv carry (65536:Int))) (IntKind.wrap .i64 (i+(1:Int))) ((List.take d ds)++(List.take 1 ((Int.tmod carry (65536:Int)):: [])))
 else
 none
 else
 none
def qaN (k n:Nat):List Int→List Int→Nat→Int→Int→List Int→Option (Nat×List Int):=Nat.rec (fun _ _ _ _ _ _=>none) (fun _ r=>qbh k r) n
def qf1 (k:Nat) (a:List Int) (b:List Int):Option (List Int):=
 Option.bind (qaN k k a b 0 (0:Int) (0:Int) []) fun r6=>
 Option.bind (qF k r6.1 r6.2) fun r7=>
 if((0+r7.1)≤(List.length r7.2))then
 (some (List.take r7.1 r7.2))
 else
 none
def qdv:Nat→List Int→List Int→Option (List Int)
 | 0,_,_=>none
 | k+1,a,b=>qf1 k a b
def qA5:Nat→Inst:=mkI 145 ⟨[vJ,vJ],[]⟩ [⟨[vJ],[]⟩] fun k x=>qdv k x.1 x.2
theorem qtL (k:Nat):qaH (call cf k) [qne k]:=
 ac (qmg k) a0
def qw6 (k:Nat):LInst:=mkL 0 [⟨[(0,vJ),(1,vJ),(5,.a (.smz 0)),(6,vI),(7,vI)],[(0,some (.arr (.int .i64) 1 3 false))],1⟩] [⟨some 0,⟨[(5,.a (.smz 0))],[(0,some (.arr (.int .i64) 1 3 false))],1⟩⟩] (fun n x=>qaN k n x.1 x.2.1 x.2.2.1 x.2.2.2.1 x.2.2.2.2.1 x.2.2.2.2.2) k
theorem qw7 (k:Nat):LIo 145 Tryz.f145 0 k (qw6 k):=
 lpk [] (qtL k) l0 (fun _=>rfl) (by kernel_rfl) fun n x=>by kernel_rfl
theorem qz2:∀k,qg (call cf k) (qA5 k):=
 fnk 0 [0] Tryz.func145 (fun k=>(qtL k)) (fun k=>(lc (qw7 k) l0)) ⟨rfl,rfl,⟨rfl,Nat.le_of_ble_eq_true rfl⟩,rfl⟩ (fun _=>rfl) (by kernel_rfl) fun k x=>by kernel_rfl

def qah (k:Nat) (rec:List Int→List Int→Int→Option ((Int) ⊕ (Unit))) (a:List Int) (b:List Int) (i:Int):Option ((Int) ⊕ (Unit)):=
 if((decide (i≥(0:Int)))=true)then
 if((0:Int)≤i)then
 Option.bind (a)[(Int.toNat i)]? fun x4=>
 if((0:Int)≤i)then
 Option.bind (b)[(Int.toNat i)]? fun x5=>
 if((decide (x4<x5))=true)then
 (some (Sum.inl (-(1:Int))))
 else
 if((0:Int)≤i)then
 Option.bind (a)[(Int.toNat i)]? fun x6=>
 if((0:Int)≤i)then
 Option.bind (b)[(Int.toNat i)]? fun x7=>
 if((decide (x6>x7))=true)then
 (some (Sum.inl (1:Int)))
 else
 rec a b (IntKind.wrap .i64 (i-(1:Int)))
 else
 none
 else
 none
 else
 none
 else
 none
 else
 (some (Sum.inr ()))
def qbz (k n:Nat):List Int→List Int→Int→Option ((Int) ⊕ (Unit)):=Nat.rec (fun _ _ _=>none) (fun _ r=>qah k r) n
def qf2 (k:Nat) (a:List Int) (b:List Int):Option (Int):=
 if(((((List.length a):Nat):Int) != (((List.length b):Nat):Int))=true)then
 if((decide ((((List.length a):Nat):Int)<(((List.length b):Nat):Int)))=true)then
 (some (-(1:Int)))
 else
 (some (1:Int))
 else
 Option.bind (qbz k k a b (IntKind.wrap .i64 ((((List.length a):Nat):Int)-(1:Int)))) fun r6=>
 qc r6
 (fun r6=>
 (some r6))
 (fun r6=>
 (some (0:Int)))
def qdw:Nat→List Int→List Int→Option (Int)
 | 0,_,_=>none
 | k+1,a,b=>qf2 k a b
def qw8:Nat→Inst:=mkI 146 ⟨[vJ,vJ],[]⟩ [⟨[vI],[]⟩] fun k x=>qdw k x.1 x.2
def qw9 (k:Nat):LInst:=mkL 0 [⟨[(0,vJ),(1,vJ),(5,vI)],[],0⟩] [⟨none,⟨[(4,vI)],[],0⟩⟩,⟨some 0,⟨[],[],0⟩⟩] (fun n x=>qbz k n x.1 x.2.1 x.2.2) k
theorem qxa (k:Nat):LIo 146 Tryz.f146 0 k (qw9 k):=
 lpk [] a0 l0 (fun _=>rfl) (by kernel_rfl) fun n x=>by kernel_rfl
theorem qtM:∀k,qg (call cf k) (qw8 k):=
 fnk 0 [0] Tryz.func146 (fun k=>a0) (fun k=>(lc (qxa k) l0)) ⟨rfl,rfl,⟨rfl,Nat.le_of_ble_eq_true rfl⟩,rfl⟩ (fun _=>rfl) (by kernel_rfl) fun k x=>by kernel_rfl

def qaR (k:Nat) (rec:List Int→List Int→Nat→Int→Int→List Int→Option (Nat×List Int)) (a:List Int) (b:List Int) (d:Nat) (borrow:Int) (i:Int) (ds:List Int):Option (Nat×List Int):=
 if((decide (i<(((List.length a):Nat):Int)))=true)then
 if((0:Int)≤i)then
 Option.bind (a)[(Int.toNat i)]? fun x4=>
 if((decide (i<(((List.length b):Nat):Int)))=true)then
 if((0:Int)≤i)then
 Option.bind (b)[(Int.toNat i)]? fun x5=>
 if((decide ((IntKind.wrap .i64 ((IntKind.wrap .i64 (x4-borrow))-x5))<(0:Int)))=true)then
 if(d≤(List.length ds))then
 if(((d+(List.length (List.take 1 ((IntKind.wrap .i64 ((IntKind.wrap .i64 ((IntKind.wrap .i64 (x4-borrow))-x5))+(65536:Int))):: []))))*8)≤140737488355328)then
 rec a b (d+(List.length (List.take 1 ((IntKind.wrap .i64 ((IntKind.wrap .i64 ((IntKind.wrap .i64 (x4-borrow))-x5))+(65536:Int))):: [])))) (1:Int) (IntKind.wrap .i64 (i+(1:Int))) ((List.take d ds)++(List.take 1 ((IntKind.wrap .i64 ((IntKind.wrap .i64 ((IntKind.wrap .i64 (x4-borrow))-x5))+(65536:Int))):: [])))
 else
 none
 else
 none
 else
 if(d≤(List.length ds))then
 if(((d+(List.length (List.take 1 ((IntKind.wrap .i64 ((IntKind.wrap .i64 (x4-borrow))-x5)):: []))))*8)≤140737488355328)then
 rec a b (d+(List.length (List.take 1 ((IntKind.wrap .i64 ((IntKind.wrap .i64 (x4-borrow))-x5)):: [])))) (0:Int) (IntKind.wrap .i64 (i+(1:Int))) ((List.take d ds)++(List.take 1 ((IntKind.wrap .i64 ((IntKind.wrap .i64 (x4-borrow))-x5)):: [])))
 else
 none
 else
 none
 else
 none
 else
 if((decide ((IntKind.wrap .i64 (x4-borrow))<(0:Int)))=true)then
 if(d≤(List.length ds))then
 if(((d+(List.length (List.take 1 ((IntKind.wrap .i64 ((IntKind.wrap .i64 (x4-borrow))+(65536:Int))):: []))))*8)≤140737488355328)then
 rec a b (d+(List.length (List.take 1 ((IntKind.wrap .i64 ((IntKind.wrap .i64 (x4-borrow))+(65536:Int))):: [])))) (1:Int) (IntKind.wrap .i64 (i+(1:Int))) ((List.take d ds)++(List.take 1 ((IntKind.wrap .i64 ((IntKind.wrap .i64 (x4-borrow))+(65536:Int))):: [])))
 else
 none
 else
 none
 else
 if(d≤(List.length ds))then
 if(((d+(List.length (List.take 1 ((IntKind.wrap .i64 (x4-borrow)):: []))))*8)≤140737488355328)then
 rec a b (d+(List.length (List.take 1 ((IntKind.wrap .i64 (x4-borrow)):: [])))) (0:Int) (IntKind.wrap .i64 (i+(1:Int))) ((List.take d ds)++(List.take 1 ((IntKind.wrap .i64 (x4-borrow)):: [])))
 else
 none
 else
 none
 else
 none
 else
 (some (d,ds))
def qaA (k n:Nat):List Int→List Int→Nat→Int→Int→List Int→Option (Nat×List Int):=Nat.rec (fun _ _ _ _ _ _=>none) (fun _ r=>qaR k r) n
def qfr (k:Nat) (a:List Int) (b:List Int):Option (List Int):=
 Option.bind (qaA k k a b 0 (0:Int) (0:Int) []) fun r7=>
 Option.bind (qF k r7.1 r7.2) fun r8=>
 if((0+r8.1)≤(List.length r8.2))then
 (some (List.take r8.1 r8.2))
 else
 none
def qaC:Nat→List Int→List Int→Option (List Int)
 | 0,_,_=>none
 | k+1,a,b=>qfr k a b
def qxb:Nat→Inst:=mkI 147 ⟨[vJ,vJ],[]⟩ [⟨[vJ],[]⟩] fun k x=>qaC k x.1 x.2
theorem qtN (k:Nat):qaH (call cf k) [qne k]:=
 ac (qmg k) a0
def qxc (k:Nat):LInst:=mkL 0 [⟨[(0,vJ),(1,vJ),(5,.a (.smz 0)),(6,vI),(7,vI)],[(0,some (.arr (.int .i64) 1 3 false))],1⟩] [⟨some 0,⟨[(5,.a (.smz 0))],[(0,some (.arr (.int .i64) 1 3 false))],1⟩⟩] (fun n x=>qaA k n x.1 x.2.1 x.2.2.1 x.2.2.2.1 x.2.2.2.2.1 x.2.2.2.2.2) k
theorem qxd (k:Nat):LIo 147 Tryz.f147 0 k (qxc k):=
 lpk [] (qtN k) l0 (fun _=>rfl) (by kernel_rfl) fun n x=>by kernel_rfl
theorem qtO:∀k,qg (call cf k) (qxb k):=
 fnk 0 [0] Tryz.func147 (fun k=>(qtN k)) (fun k=>(lc (qxd k) l0)) ⟨rfl,rfl,⟨rfl,Nat.le_of_ble_eq_true rfl⟩,rfl⟩ (fun _=>rfl) (by kernel_rfl) fun k x=>by kernel_rfl

def qb4 (k:Nat) (a0:Bool) (a1:List Int) (b0:Bool) (b1:List Int):Option (Bool×List Int):=
 if((a0 == b0)=true)then
 Option.bind (qdv k a1 b1) fun r6=>
 if(a0=true)then
 (some ((decide ((((List.length r6):Nat):Int)>(0:Int))),r6))
 else
 (some (false,r6))
 else
 Option.bind (qdw k a1 b1) fun r6=>
 if((decide (r6≥(0:Int)))=true)then
 Option.bind (qaC k a1 b1) fun r7=>
 if(a0=true)then
 (some ((decide ((((List.length r7):Nat):Int)>(0:Int))),r7))
 else
 (some (false,r7))
 else
 Option.bind (qaC k b1 a1) fun r7=>
 (some (b0,r7))
def qcI:Nat→Bool→List Int→Bool→List Int→Option (Bool×List Int)
 | 0,_,_,_,_=>none
 | k+1,a0,a1,b0,b1=>qb4 k a0 a1 b0 b1
def qA6:Nat→Inst:=mkI 90 ⟨[.g [.lf .bool,.lf (.sl (.int .i64))],.g [.lf .bool,.lf (.sl (.int .i64))]],[]⟩ [⟨[.g [.lf .bool,.lf (.sl (.int .i64))]],[]⟩] fun k x=>qcI k x.1 x.2.1 x.2.2.1 x.2.2.2
theorem qz3:∀k,qg (call cf k) (qA6 k):=
 fnk 0 [] Tryz.func90 (fun k=>(ac (qz2 k) (ac (qtM k) (ac (qtO k) a0)))) (fun k=>l0) ⟨rfl,rfl,⟨rfl,Nat.le_of_ble_eq_true rfl⟩,rfl⟩ (fun _=>rfl) (by kernel_rfl) fun k x=>by kernel_rfl

def qaS (k:Nat) (rec:Int→Bool→Nat→Bool→Nat→List Int→List Int→Option (Bool×Nat×Bool×Nat×List Int×List Int)) (v:Int) (x0:Bool) (x1:Nat) (a0:Bool) (a1:Nat) (m:List Int) (m1:List Int):Option (Bool×Nat×Bool×Nat×List Int×List Int):=
 if((decide (v>(0:Int)))=true)then
 if(a1≤(List.length m1))then
 if(((a1+(List.length (List.take 1 ((Int.tmod v (65536:Int)):: []))))*8)≤140737488355328)then
 rec (IntKind.wrap .i64 (Int.tdiv v (65536:Int))) x0 x1 a0 (a1+(List.length (List.take 1 ((Int.tmod v (65536:Int)):: [])))) m ((List.take a1 m1)++(List.take 1 ((Int.tmod v (65536:Int)):: [])))
 else
 none
 else
 none
 else
 (some (x0,x1,a0,a1,m,m1))
def qaB (k n:Nat):Int→Bool→Nat→Bool→Nat→List Int→List Int→Option (Bool×Nat×Bool×Nat×List Int×List Int):=Nat.rec (fun _ _ _ _ _ _ _=>none) (fun _ r=>qaS k r) n
def qc9 (k:Nat) (v:Int):Option (Bool×List Int):=
 if((decide (v<(0:Int)))=true)then
 Option.bind (qaB k k (IntKind.wrap .i64 ((0:Int)-v)) false 0 true 0 [] []) fun r6=>
 if((0+r6.2.2.2.1)≤(List.length r6.2.2.2.2.2))then
 (some (r6.2.2.1,(List.take r6.2.2.2.1 r6.2.2.2.2.2)))
 else
 none
 else
 Option.bind (qaB k k v false 0 false 0 [] []) fun r6=>
 if((0+r6.2.2.2.1)≤(List.length r6.2.2.2.2.2))then
 (some (r6.2.2.1,(List.take r6.2.2.2.1 r6.2.2.2.2.2)))
 else
 none
def qV:Nat→Int→Option (Bool×List Int)
 | 0,_=>none
 | k+1,v=>qc9 k v
def qpD:Nat→Inst:=mkI 94 ⟨[vI],[]⟩ [⟨[.g [.lf .bool,.lf (.sl (.int .i64))]],[]⟩] fun k x=>qV k x
def qxe (k:Nat):LInst:=mkL 0 [⟨[(0,vI),(2,.a (.ptr 0 0 0)),(3,.a (.ptr 1 0 0))],[(0,some (.raw [[.lf .bool,.smz 2]] 2 154 false false false)),(1,some (.raw [[.lf .bool,.smz 3]] 2 154 false false false)),(2,some (.arr (.int .i64) 1 3 false)),(3,some (.arr (.int .i64) 1 3 false))],4⟩] [⟨some 0,⟨[(2,.a (.ptr 0 0 0)),(3,.a (.ptr 1 0 0))],[(0,some (.raw [[.lf .bool,.smz 2]] 2 154 false false false)),(1,some (.raw [[.lf .bool,.smz 3]] 2 154 false false false)),(2,some (.arr (.int .i64) 1 3 false)),(3,some (.arr (.int .i64) 1 3 false))],4⟩⟩] (fun n x=>qaB k n x.1 x.2.1 x.2.2.1 x.2.2.2.1 x.2.2.2.2.1 x.2.2.2.2.2.1 x.2.2.2.2.2.2) k
theorem qxf (k:Nat):LIo 94 Tryz.f94 0 k (qxe k):=
 lpk [] a0 l0 (fun _=>rfl) (by kernel_rfl) fun n x=>by kernel_rfl
theorem qmh:∀k,qg (call cf k) (qpD k):=
 fnk 0 [0] Tryz.func94 (fun k=>a0) (fun k=>(lc (qxf k) l0)) ⟨rfl,rfl,⟨rfl,Nat.le_of_ble_eq_true rfl⟩,rfl⟩ (fun _=>rfl) (by kernel_rfl) fun k x=>by kernel_rfl

def qf3 (k:Nat) (a0:Bool) (a1:List Int):Option (Int):=
 if(((((List.length a1):Nat):Int) == (0:Int))=true)then
 (some (0:Int))
 else
 if(a0=true)then
 (some (-(1:Int)))
 else
 (some (1:Int))
def qdx:Nat→Bool→List Int→Option (Int)
 | 0,_,_=>none
 | k+1,a0,a1=>qf3 k a0 a1
def qA7:Nat→Inst:=mkI 149 ⟨[.g [.lf .bool,.lf (.sl (.int .i64))]],[]⟩ [⟨[vI],[]⟩] fun k x=>qdx k x.1 x.2
theorem qtP:∀k,qg (call cf k) (qA7 k):=
 fnk 0 [] Tryz.func149 (fun k=>a0) (fun k=>l0) ⟨rfl,rfl,⟨rfl,Nat.le_of_ble_eq_true rfl⟩,rfl⟩ (fun _=>rfl) (by kernel_rfl) fun k x=>by kernel_rfl

def qda (k:Nat) (a0:Bool) (a1:List Int):Option (Bool×List Int):=
 if(((((List.length a1):Nat):Int) == (0:Int))=true)then
 (some (false,[]))
 else
 (some ((!a0),a1))
def qbO:Nat→Bool→List Int→Option (Bool×List Int)
 | 0,_,_=>none
 | k+1,a0,a1=>qda k a0 a1
def qA8:Nat→Inst:=mkI 150 ⟨[.g [.lf .bool,.lf (.sl (.int .i64))]],[]⟩ [⟨[.g [.lf .bool,.lf (.sl (.int .i64))]],[]⟩] fun k x=>qbO k x.1 x.2
theorem qtQ:∀k,qg (call cf k) (qA8 k):=
 fnk 0 [] Tryz.func150 (fun k=>a0) (fun k=>l0) ⟨rfl,rfl,⟨rfl,Nat.le_of_ble_eq_true rfl⟩,rfl⟩ (fun _=>rfl) (by kernel_rfl) fun k x=>by kernel_rfl

def qkJ (k:Nat) (a0:Bool) (a1:List Int):Option (Bool×List Int):=
 (some (false,a1))
def qbT:Nat→Bool→List Int→Option (Bool×List Int)
 | 0,_,_=>none
 | k+1,a0,a1=>qkJ k a0 a1
def qxg:Nat→Inst:=mkI 206 ⟨[.g [.lf .bool,.lf (.sl (.int .i64))]],[]⟩ [⟨[.g [.lf .bool,.lf (.sl (.int .i64))]],[]⟩] fun k x=>qbT k x.1 x.2
theorem qz4:∀k,qg (call cf k) (qxg k):=
 fnk 0 [] Tryz.func206 (fun k=>a0) (fun k=>l0) ⟨rfl,rfl,⟨rfl,Nat.le_of_ble_eq_true rfl⟩,rfl⟩ (fun _=>rfl) (by kernel_rfl) fun k x=>by kernel_rfl

def qcl (k:Nat) (rec:Nat→Int→Int→Int→Bool→List Int→Bool→List Int→Bool→Nat→List Int→List Int→Option (Nat×Int×Int×Bool×List Int×Bool×List Int×Bool×Nat×List Int×List Int)) (d:Nat) (i:Int) (carry:Int) (j:Int) (a0:Bool) (a1:List Int) (b0:Bool) (b1:List Int) (x0:Bool) (x1:Nat) (ds:List Int) (m:List Int):Option (Nat×Int×Int×Bool×List Int×Bool×List Int×Bool×Nat×List Int×List Int):=
 if((decide (j<(((List.length b1):Nat):Int)))=true)then
 if(((0:Int)≤(IntKind.wrap .i64 (i+j)))∧((IntKind.wrap .i64 (i+j))<((d:Nat):Int)))then
 Option.bind (ds)[(0+(Int.toNat (IntKind.wrap .i64 (i+j))))]? fun x2=>
 if((0:Int)≤i)then
 Option.bind (a1)[(Int.toNat i)]? fun x3=>
 if((0:Int)≤j)then
 Option.bind (b1)[(Int.toNat j)]? fun x4=>
 if(((0:Int)≤(IntKind.wrap .i64 (i+j)))∧((IntKind.wrap .i64 (i+j))<((d:Nat):Int)))then
 Option.bind (ds)[(0+(Int.toNat (IntKind.wrap .i64 (i+j))))]? fun x5=>
 rec d i (IntKind.wrap .i64 (Int.tdiv (IntKind.wrap .i64 ((IntKind.wrap .i64 (x2+(IntKind.wrap .i64 (x3*x4))))+carry)) (65536:Int))) (IntKind.wrap .i64 (j+(1:Int))) a0 a1 b0 b1 x0 x1 (List.set ds (0+(Int.toNat (IntKind.wrap .i64 (i+j)))) (Int.tmod (IntKind.wrap .i64 ((IntKind.wrap .i64 (x2+(IntKind.wrap .i64 (x3*x4))))+carry)) (65536:Int))) m
 else
 none
 else
 none
 else
 none
 else
 none
 else
 (some (d,i,carry,a0,a1,b0,b1,x0,x1,ds,m))
def qbV (k n:Nat):Nat→Int→Int→Int→Bool→List Int→Bool→List Int→Bool→Nat→List Int→List Int→Option (Nat×Int×Int×Bool×List Int×Bool×List Int×Bool×Nat×List Int×List Int):=Nat.rec (fun _ _ _ _ _ _ _ _ _ _ _ _=>none) (fun _ r=>qcl k r) n
def qcm (k:Nat) (rec:Nat→Int→Bool→List Int→Bool→List Int→Bool→Nat→List Int→List Int→Option (Nat×Bool×List Int×Bool×List Int×Bool×Nat×List Int×List Int)) (d:Nat) (i:Int) (a0:Bool) (a1:List Int) (b0:Bool) (b1:List Int) (x0:Bool) (x1:Nat) (ds:List Int) (m:List Int):Option (Nat×Bool×List Int×Bool×List Int×Bool×Nat×List Int×List Int):=
 if((decide (i<(((List.length a1):Nat):Int)))=true)then
 Option.bind (qbV k k d i (0:Int) (0:Int) a0 a1 b0 b1 x0 x1 ds m) fun r15=>
 if(((0:Int)≤(IntKind.wrap .i64 (r15.2.1+(((List.length r15.2.2.2.2.2.2.1):Nat):Int))))∧((IntKind.wrap .i64 (r15.2.1+(((List.length r15.2.2.2.2.2.2.1):Nat):Int)))<((r15.1:Nat):Int)))then
 Option.bind (r15.2.2.2.2.2.2.2.2.2.1)[(0+(Int.toNat (IntKind.wrap .i64 (r15.2.1+(((List.length r15.2.2.2.2.2.2.1):Nat):Int)))))]? fun x2=>
 if(((0:Int)≤(IntKind.wrap .i64 (r15.2.1+(((List.length r15.2.2.2.2.2.2.1):Nat):Int))))∧((IntKind.wrap .i64 (r15.2.1+(((List.length r15.2.2.2.2.2.2.1):Nat):Int)))<((r15.1:Nat):Int)))then
 Option.bind (r15.2.2.2.2.2.2.2.2.2.1)[(0+(Int.toNat (IntKind.wrap .i64 (r15.2.1+(((List.length r15.2.2.2.2.2.2.1):Nat):Int)))))]? fun x3=>
 rec r15.1 (IntKind.wrap .i64 (r15.2.1+(1:Int))) r15.2.2.2.1 r15.2.2.2.2.1 r15.2.2.2.2.2.1 r15.2.2.2.2.2.2.1 r15.2.2.2.2.2.2.2.1 r15.2.2.2.2.2.2.2.2.1 (List.set r15.2.2.2.2.2.2.2.2.2.1 (0+(Int.toNat (IntKind.wrap .i64 (r15.2.1+(((List.length r15.2.2.2.2.2.2.1):Nat):Int))))) (IntKind.wrap .i64 (x2+r15.2.2.1))) r15.2.2.2.2.2.2.2.2.2.2
 else
 none
 else
 none
 else
 (some (d,a0,a1,b0,b1,x0,x1,ds,m))
def qbW (k n:Nat):Nat→Int→Bool→List Int→Bool→List Int→Bool→Nat→List Int→List Int→Option (Nat×Bool×List Int×Bool×List Int×Bool×Nat×List Int×List Int):=Nat.rec (fun _ _ _ _ _ _ _ _ _ _=>none) (fun _ r=>qcm k r) n
def qfs (k:Nat) (a0:Bool) (a1:List Int) (b0:Bool) (b1:List Int):Option (Bool×List Int):=
 if(((0:Int)≤(IntKind.wrap .i64 ((((List.length a1):Nat):Int)+(((List.length b1):Nat):Int))))∧(((IntKind.wrap .i64 ((((List.length a1):Nat):Int)+(((List.length b1):Nat):Int)))≤(IntKind.wrap .i64 ((((List.length a1):Nat):Int)+(((List.length b1):Nat):Int))))∧(((IntKind.wrap .i64 ((((List.length a1):Nat):Int)+(((List.length b1):Nat):Int)))*(8:Int))≤(140737488355328:Int))))then
 Option.bind (qbW k k (Int.toNat (IntKind.wrap .i64 ((((List.length a1):Nat):Int)+(((List.length b1):Nat):Int)))) (0:Int) a0 a1 b0 b1 false 0 (List.replicate (Int.toNat (IntKind.wrap .i64 ((((List.length a1):Nat):Int)+(((List.length b1):Nat):Int)))) (0:Int)) []) fun r15=>
 Option.bind (qF k r15.1 r15.2.2.2.2.2.2.2.1) fun r16=>
 if((!(r15.2.1 == r15.2.2.2.1))=true)then
 if((0+r16.1)≤(List.length r16.2))then
 (some ((decide (((r16.1:Nat):Int)>(0:Int))),(List.take r16.1 r16.2)))
 else
 none
 else
 if((0+r16.1)≤(List.length r16.2))then
 (some (false,(List.take r16.1 r16.2)))
 else
 none
 else
 none
def qW:Nat→Bool→List Int→Bool→List Int→Option (Bool×List Int)
 | 0,_,_,_,_=>none
 | k+1,a0,a1,b0,b1=>qfs k a0 a1 b0 b1
def qpE:Nat→Inst:=mkI 208 ⟨[.g [.lf .bool,.lf (.sl (.int .i64))],.g [.lf .bool,.lf (.sl (.int .i64))]],[]⟩ [⟨[.g [.lf .bool,.lf (.sl (.int .i64))]],[]⟩] fun k x=>qW k x.1 x.2.1 x.2.2.1 x.2.2.2
theorem qpF (k:Nat):qaH (call cf k) [qne k]:=
 ac (qmg k) a0
def qxh (k:Nat):LInst:=mkL 2 [⟨[(2,.a (.ptr 0 0 0)),(3,.a (.ptr 1 0 0)),(4,.a (.ptr 2 0 0)),(5,.a (.smz 3)),(6,vI),(7,vI),(8,vI)],[(0,some (.raw [[.lf .bool,.lf (.sl (.int .i64))]] 2 154 true false false)),(1,some (.raw [[.lf .bool,.lf (.sl (.int .i64))]] 2 154 true false false)),(2,some (.raw [[.lf .bool,.smz 4]] 2 154 false false false)),(3,some (.arr (.int .i64) 1 3 false)),(4,some (.arr (.int .i64) 1 3 false))],5⟩] [⟨some 2,⟨[(2,.a (.ptr 0 0 0)),(3,.a (.ptr 1 0 0)),(4,.a (.ptr 2 0 0)),(5,.a (.smz 3)),(6,vI),(7,vI)],[(0,some (.raw [[.lf .bool,.lf (.sl (.int .i64))]] 2 154 true false false)),(1,some (.raw [[.lf .bool,.lf (.sl (.int .i64))]] 2 154 true false false)),(2,some (.raw [[.lf .bool,.smz 4]] 2 154 false false false)),(3,some (.arr (.int .i64) 1 3 false)),(4,some (.arr (.int .i64) 1 3 false))],5⟩⟩] (fun n x=>qbV k n x.1 x.2.1 x.2.2.1 x.2.2.2.1 x.2.2.2.2.1 x.2.2.2.2.2.1 x.2.2.2.2.2.2.1 x.2.2.2.2.2.2.2.1 x.2.2.2.2.2.2.2.2.1 x.2.2.2.2.2.2.2.2.2.1 x.2.2.2.2.2.2.2.2.2.2.1 x.2.2.2.2.2.2.2.2.2.2.2) k
theorem qq6 (k:Nat):LIo 208 Tryz.f208 0 k (qxh k):=
 lpk [] (qpF k) l0 (fun _=>rfl) (by kernel_rfl) fun n x=>by kernel_rfl
def qxi (k:Nat):LInst:=mkL 0 [⟨[(2,.a (.ptr 0 0 0)),(3,.a (.ptr 1 0 0)),(4,.a (.ptr 2 0 0)),(5,.a (.smz 3)),(6,vI)],[(0,some (.raw [[.lf .bool,.lf (.sl (.int .i64))]] 2 154 true false false)),(1,some (.raw [[.lf .bool,.lf (.sl (.int .i64))]] 2 154 true false false)),(2,some (.raw [[.lf .bool,.smz 4]] 2 154 false false false)),(3,some (.arr (.int .i64) 1 3 false)),(4,some (.arr (.int .i64) 1 3 false))],5⟩] [⟨some 0,⟨[(2,.a (.ptr 0 0 0)),(3,.a (.ptr 1 0 0)),(4,.a (.ptr 2 0 0)),(5,.a (.smz 3))],[(0,some (.raw [[.lf .bool,.lf (.sl (.int .i64))]] 2 154 true false false)),(1,some (.raw [[.lf .bool,.lf (.sl (.int .i64))]] 2 154 true false false)),(2,some (.raw [[.lf .bool,.smz 4]] 2 154 false false false)),(3,some (.arr (.int .i64) 1 3 false)),(4,some (.arr (.int .i64) 1 3 false))],5⟩⟩] (fun n x=>qbW k n x.1 x.2.1 x.2.2.1 x.2.2.2.1 x.2.2.2.2.1 x.2.2.2.2.2.1 x.2.2.2.2.2.2.1 x.2.2.2.2.2.2.2.1 x.2.2.2.2.2.2.2.2.1 x.2.2.2.2.2.2.2.2.2) k
theorem qxj (k:Nat):LIo 208 Tryz.f208 0 k (qxi k):=
 lpk [2] (qpF k) (lc (qq6 k) l0) (fun _=>rfl) (by kernel_rfl) fun n x=>by kernel_rfl
theorem qkK:∀k,qg (call cf k) (qpE k):=
 fnk 0 [0] Tryz.func208 (fun k=>(qpF k)) (fun k=>(lc (qq6 k) (lc (qxj k) l0))) ⟨rfl,rfl,⟨rfl,Nat.le_of_ble_eq_true rfl⟩,rfl⟩ (fun _=>rfl) (by kernel_rfl) fun k x=>by kernel_rfl

def qZ (k:Nat) (rec:List Int→List Int→Int→Int→Option (Int)) (r:List Int) (b:List Int) (low:Int) (high:Int):Option (Int):=
 if((decide (low<high))=true)then
 Option.bind (qV k (IntKind.wrap .i64 (Int.tdiv (IntKind.wrap .i64 ((IntKind.wrap .i64 (low+high))+(1:Int))) (2:Int)))) fun r14=>
 Option.bind (qW k false b r14.1 r14.2) fun r15=>
 Option.bind (qdw k r15.2 r) fun r16=>
 if((decide (r16≤(0:Int)))=true)then
 rec r b (IntKind.wrap .i64 (Int.tdiv (IntKind.wrap .i64 ((IntKind.wrap .i64 (low+high))+(1:Int))) (2:Int))) high
 else
 rec r b low (IntKind.wrap .i64 ((IntKind.wrap .i64 (Int.tdiv (IntKind.wrap .i64 ((IntKind.wrap .i64 (low+high))+(1:Int))) (2:Int)))-(1:Int)))
 else
 (some low)
def qbi (k n:Nat):List Int→List Int→Int→Int→Option (Int):=Nat.rec (fun _ _ _ _=>none) (fun _ r=>qZ k r) n
def qft (k:Nat) (r:List Int) (b:List Int):Option (Int):=
 Option.bind (qdw k r b) fun r13=>
 if((decide (r13<(0:Int)))=true)then
 (some (0:Int))
 else
 Option.bind (qbi k k r b (0:Int) (65535:Int)) fun r14=>
 (some r14)
def qcu:Nat→List Int→List Int→Option (Int)
 | 0,_,_=>none
 | k+1,r,b=>qft k r b
def qxk:Nat→Inst:=mkI 207 ⟨[vJ,vJ],[]⟩ [⟨[vI],[]⟩] fun k x=>qcu k x.1 x.2
theorem qtR (k:Nat):qaH (call cf k) [qw8 k,qpD k,qpE k]:=
 ac (qtM k) (ac (qmh k) (ac (qkK k) a0))
def qxl (k:Nat):LInst:=mkL 0 [⟨[(0,vJ),(1,vJ),(5,vI),(6,vI)],[],0⟩] [⟨some 0,⟨[(5,vI)],[],0⟩⟩] (fun n x=>qbi k n x.1 x.2.1 x.2.2.1 x.2.2.2) k
theorem qxm (k:Nat):LIo 207 Tryz.f207 0 k (qxl k):=
 lpk [] (qtR k) l0 (fun _=>rfl) (by kernel_rfl) fun n x=>by kernel_rfl
theorem qz5:∀k,qg (call cf k) (qxk k):=
 fnk 0 [0] Tryz.func207 (fun k=>(qtR k)) (fun k=>(lc (qxm k) l0)) ⟨rfl,rfl,⟨rfl,Nat.le_of_ble_eq_true rfl⟩,rfl⟩ (fun _=>rfl) (by kernel_rfl) fun k x=>by kernel_rfl

def qw (k:Nat) (rec:((Nat×Nat×Int×Bool×List Int×Bool×List Int×Bool×Nat×Bool×Nat×List Int×List Int×List Int×List Int) ⊕ (Nat×List Int×Int×Bool×List Int×Bool×List Int×Bool×Nat×Bool×Nat×List Int×List Int×List Int))→Option ((Nat×Nat×Bool×List Int×Bool×List Int×Bool×Nat×Bool×Nat×List Int×List Int×List Int×List Int) ⊕ (Nat×List Int×Bool×List Int×Bool×List Int×Bool×Nat×Bool×Nat×List Int×List Int×List Int))) (x:(Nat×Nat×Int×Bool×List Int×Bool×List Int×Bool×Nat×Bool×Nat×List Int×List Int×List Int×List Int) ⊕ (Nat×List Int×Int×Bool×List Int×Bool×List Int×Bool×Nat×Bool×Nat×List Int×List Int×List Int)):Option ((Nat×Nat×Bool×List Int×Bool×List Int×Bool×Nat×Bool×Nat×List Int×List Int×List Int×List Int) ⊕ (Nat×List Int×Bool×List Int×Bool×List Int×Bool×Nat×Bool×Nat×List Int×List Int×List Int)):=
 qc x
 (fun x=>
 if((decide (x.2.2.1≥(0:Int)))=true)then
 if((0:Int)≤x.2.2.1)then
 Option.bind (x.2.2.2.2.1)[(Int.toNat x.2.2.1)]? fun x2=>
 if((0+x.2.1)≤(List.length x.2.2.2.2.2.2.2.2.2.2.2.2.1))then
 if(((1+(List.length (List.take x.2.1 x.2.2.2.2.2.2.2.2.2.2.2.2.1)))*8)≤140737488355328)then
 Option.bind (qF k (1+(List.length (List.take x.2.1 x.2.2.2.2.2.2.2.2.2.2.2.2.1))) ((List.take 1 (x2:: []))++(List.take x.2.1 x.2.2.2.2.2.2.2.2.2.2.2.2.1))) fun r12=>
 if((0+r12.1)≤(List.length r12.2))then
 Option.bind (qcu k (List.take r12.1 r12.2) x.2.2.2.2.2.2.1) fun r13=>
 if((decide (r13>(0:Int)))=true)then
 Option.bind (qV k r13) fun r14=>
 Option.bind (qW k false x.2.2.2.2.2.2.1 r14.1 r14.2) fun r15=>
 if((0+r12.1)≤(List.length r12.2))then
 Option.bind (qaC k (List.take r12.1 r12.2) r15.2) fun r16=>
 if(((0:Int)≤x.2.2.1)∧(x.2.2.1<((x.1:Nat):Int)))then
 Option.bind (x.2.2.2.2.2.2.2.2.2.2.2.1)[(0+(Int.toNat x.2.2.1))]? fun x3=>
 rec (Sum.inr (x.1,r16,(IntKind.wrap .i64 (x.2.2.1-(1:Int))),x.2.2.2.1,x.2.2.2.2.1,x.2.2.2.2.2.1,x.2.2.2.2.2.2.1,x.2.2.2.2.2.2.2.1,x.2.2.2.2.2.2.2.2.1,x.2.2.2.2.2.2.2.2.2.1,x.2.2.2.2.2.2.2.2.2.2.1,(List.set x.2.2.2.2.2.2.2.2.2.2.2.1 (0+(Int.toNat x.2.2.1)) r13),x.2.2.2.2.2.2.2.2.2.2.2.2.2.1,x.2.2.2.2.2.2.2.2.2.2.2.2.2.2))
 else
 none
 else
 none
 else
 if(((0:Int)≤x.2.2.1)∧(x.2.2.1<((x.1:Nat):Int)))then
 Option.bind (x.2.2.2.2.2.2.2.2.2.2.2.1)[(0+(Int.toNat x.2.2.1))]? fun x3=>
 rec (Sum.inl (x.1,r12.1,(IntKind.wrap .i64 (x.2.2.1-(1:Int))),x.2.2.2.1,x.2.2.2.2.1,x.2.2.2.2.2.1,x.2.2.2.2.2.2.1,x.2.2.2.2.2.2.2.1,x.2.2.2.2.2.2.2.2.1,x.2.2.2.2.2.2.2.2.2.1,x.2.2.2.2.2.2.2.2.2.2.1,(List.set x.2.2.2.2.2.2.2.2.2.2.2.1 (0+(Int.toNat x.2.2.1)) r13),r12.2,x.2.2.2.2.2.2.2.2.2.2.2.2.2.1,x.2.2.2.2.2.2.2.2.2.2.2.2.2.2))
 else
 none
 else
 none
 else
 none
 else
 none
 else
 none
 else
 (some (Sum.inl (x.1,x.2.1,x.2.2.2.1,x.2.2.2.2.1,x.2.2.2.2.2.1,x.2.2.2.2.2.2.1,x.2.2.2.2.2.2.2.1,x.2.2.2.2.2.2.2.2.1,x.2.2.2.2.2.2.2.2.2.1,x.2.2.2.2.2.2.2.2.2.2.1,x.2.2.2.2.2.2.2.2.2.2.2.1,x.2.2.2.2.2.2.2.2.2.2.2.2.1,x.2.2.2.2.2.2.2.2.2.2.2.2.2.1,x.2.2.2.2.2.2.2.2.2.2.2.2.2.2))))
 (fun x=>
 if((decide (x.2.2.1≥(0:Int)))=true)then
 if((0:Int)≤x.2.2.1)then
 Option.bind (x.2.2.2.2.1)[(Int.toNat x.2.2.1)]? fun x2=>
 if(((1+(List.length x.2.1))*8)≤140737488355328)then
 Option.bind (qF k (1+(List.length x.2.1)) ((List.take 1 (x2:: []))++x.2.1)) fun r12=>
 if((0+r12.1)≤(List.length r12.2))then
 Option.bind (qcu k (List.take r12.1 r12.2) x.2.2.2.2.2.2.1) fun r13=>
 if((decide (r13>(0:Int)))=true)then
 Option.bind (qV k r13) fun r14=>
 Option.bind (qW k false x.2.2.2.2.2.2.1 r14.1 r14.2) fun r15=>
 if((0+r12.1)≤(List.length r12.2))then
 Option.bind (qaC k (List.take r12.1 r12.2) r15.2) fun r16=>
 if(((0:Int)≤x.2.2.1)∧(x.2.2.1<((x.1:Nat):Int)))then
 Option.bind (x.2.2.2.2.2.2.2.2.2.2.2.1)[(0+(Int.toNat x.2.2.1))]? fun x3=>
 rec (Sum.inr (x.1,r16,(IntKind.wrap .i64 (x.2.2.1-(1:Int))),x.2.2.2.1,x.2.2.2.2.1,x.2.2.2.2.2.1,x.2.2.2.2.2.2.1,x.2.2.2.2.2.2.2.1,x.2.2.2.2.2.2.2.2.1,x.2.2.2.2.2.2.2.2.2.1,x.2.2.2.2.2.2.2.2.2.2.1,(List.set x.2.2.2.2.2.2.2.2.2.2.2.1 (0+(Int.toNat x.2.2.1)) r13),x.2.2.2.2.2.2.2.2.2.2.2.2.1,x.2.2.2.2.2.2.2.2.2.2.2.2.2))
 else
 none
 else
 none
 else
 if(((0:Int)≤x.2.2.1)∧(x.2.2.1<((x.1:Nat):Int)))then
 Option.bind (x.2.2.2.2.2.2.2.2.2.2.2.1)[(0+(Int.toNat x.2.2.1))]? fun x3=>
 rec (Sum.inl (x.1,r12.1,(IntKind.wrap .i64 (x.2.2.1-(1:Int))),x.2.2.2.1,x.2.2.2.2.1,x.2.2.2.2.2.1,x.2.2.2.2.2.2.1,x.2.2.2.2.2.2.2.1,x.2.2.2.2.2.2.2.2.1,x.2.2.2.2.2.2.2.2.2.1,x.2.2.2.2.2.2.2.2.2.2.1,(List.set x.2.2.2.2.2.2.2.2.2.2.2.1 (0+(Int.toNat x.2.2.1)) r13),r12.2,x.2.2.2.2.2.2.2.2.2.2.2.2.1,x.2.2.2.2.2.2.2.2.2.2.2.2.2))
 else
 none
 else
 none
 else
 none
 else
 none
 else
 (some (Sum.inr (x.1,x.2.1,x.2.2.2.1,x.2.2.2.2.1,x.2.2.2.2.2.1,x.2.2.2.2.2.2.1,x.2.2.2.2.2.2.2.1,x.2.2.2.2.2.2.2.2.1,x.2.2.2.2.2.2.2.2.2.1,x.2.2.2.2.2.2.2.2.2.2.1,x.2.2.2.2.2.2.2.2.2.2.2.1,x.2.2.2.2.2.2.2.2.2.2.2.2.1,x.2.2.2.2.2.2.2.2.2.2.2.2.2))))
def qM (k n:Nat):((Nat×Nat×Int×Bool×List Int×Bool×List Int×Bool×Nat×Bool×Nat×List Int×List Int×List Int×List Int) ⊕ (Nat×List Int×Int×Bool×List Int×Bool×List Int×Bool×Nat×Bool×Nat×List Int×List Int×List Int))→Option ((Nat×Nat×Bool×List Int×Bool×List Int×Bool×Nat×Bool×Nat×List Int×List Int×List Int×List Int) ⊕ (Nat×List Int×Bool×List Int×Bool×List Int×Bool×Nat×Bool×Nat×List Int×List Int×List Int)):=Nat.rec (fun _=>none) (fun _ r=>qw k r) n
def qe6 (k:Nat) (a0:Bool) (a1:List Int) (b0:Bool) (b1:List Int):Option (Bool×List Int×Bool×List Int):=
 if(((0:Int)≤(((List.length a1):Nat):Int))∧(((((List.length a1):Nat):Int)≤(((List.length a1):Nat):Int))∧(((((List.length a1):Nat):Int)*(8:Int))≤(140737488355328:Int))))then
 Option.bind (qM k k (Sum.inl ((Int.toNat (((List.length a1):Nat):Int)),0,(IntKind.wrap .i64 ((((List.length a1):Nat):Int)-(1:Int))),a0,a1,b0,b1,false,0,false,0,(List.replicate (Int.toNat (((List.length a1):Nat):Int)) (0:Int)),[],[],[]))) fun r12=>
 qc r12
 (fun r12=>
 Option.bind (qF k r12.1 r12.2.2.2.2.2.2.2.2.2.2.1) fun r13=>
 if((!(r12.2.2.1 == r12.2.2.2.2.1))=true)then
 if(r12.2.2.1=true)then
 if((0+r13.1)≤(List.length r13.2))then
 if((0+r12.2.1)≤(List.length r12.2.2.2.2.2.2.2.2.2.2.2.1))then
 (some ((decide (((r13.1:Nat):Int)>(0:Int))),(List.take r13.1 r13.2),(decide (((r12.2.1:Nat):Int)>(0:Int))),(List.take r12.2.1 r12.2.2.2.2.2.2.2.2.2.2.2.1)))
 else
 none
 else
 none
 else
 if((0+r13.1)≤(List.length r13.2))then
 if((0+r12.2.1)≤(List.length r12.2.2.2.2.2.2.2.2.2.2.2.1))then
 (some ((decide (((r13.1:Nat):Int)>(0:Int))),(List.take r13.1 r13.2),false,(List.take r12.2.1 r12.2.2.2.2.2.2.2.2.2.2.2.1)))
 else
 none
 else
 none
 else
 if(r12.2.2.1=true)then
 if((0+r13.1)≤(List.length r13.2))then
 if((0+r12.2.1)≤(List.length r12.2.2.2.2.2.2.2.2.2.2.2.1))then
 (some (false,(List.take r13.1 r13.2),(decide (((r12.2.1:Nat):Int)>(0:Int))),(List.take r12.2.1 r12.2.2.2.2.2.2.2.2.2.2.2.1)))
 else
 none
 else
 none
 else
 if((0+r13.1)≤(List.length r13.2))then
 if((0+r12.2.1)≤(List.length r12.2.2.2.2.2.2.2.2.2.2.2.1))then
 (some (false,(List.take r13.1 r13.2),false,(List.take r12.2.1 r12.2.2.2.2.2.2.2.2.2.2.2.1)))
 else
 none
 else
 none)
 (fun r12=>
 Option.bind (qF k r12.1 r12.2.2.2.2.2.2.2.2.2.2.1) fun r13=>
 if((!(r12.2.2.1 == r12.2.2.2.2.1))=true)then
 if(r12.2.2.1=true)then
 if((0+r13.1)≤(List.length r13.2))then
 (some ((decide (((r13.1:Nat):Int)>(0:Int))),(List.take r13.1 r13.2),(decide ((((List.length r12.2.1):Nat):Int)>(0:Int))),r12.2.1))
 else
 none
 else
 if((0+r13.1)≤(List.length r13.2))then
 (some ((decide (((r13.1:Nat):Int)>(0:Int))),(List.take r13.1 r13.2),false,r12.2.1))
 else
 none
 else
 if(r12.2.2.1=true)then
 if((0+r13.1)≤(List.length r13.2))then
 (some (false,(List.take r13.1 r13.2),(decide ((((List.length r12.2.1):Nat):Int)>(0:Int))),r12.2.1))
 else
 none
 else
 if((0+r13.1)≤(List.length r13.2))then
 (some (false,(List.take r13.1 r13.2),false,r12.2.1))
 else
 none)
 else
 none
def qaO:Nat→Bool→List Int→Bool→List Int→Option (Bool×List Int×Bool×List Int)
 | 0,_,_,_,_=>none
 | k+1,a0,a1,b0,b1=>qe6 k a0 a1 b0 b1
def qxn:Nat→Inst:=mkI 152 ⟨[.g [.lf .bool,.lf (.sl (.int .i64))],.g [.lf .bool,.lf (.sl (.int .i64))]],[]⟩ [⟨[.g [.lf .bool,.lf (.sl (.int .i64))],.g [.lf .bool,.lf (.sl (.int .i64))]],[]⟩] fun k x=>qaO k x.1 x.2.1 x.2.2.1 x.2.2.2
theorem qtS (k:Nat):qaH (call cf k) [qne k,qxk k,qpD k,qpE k,qxb k]:=
 ac (qmg k) (ac (qz5 k) (ac (qmh k) (ac (qkK k) (ac (qtO k) a0))))
def qxo (k:Nat):LInst:=mkL 0 [⟨[(2,.a (.ptr 0 0 0)),(3,.a (.ptr 1 0 0)),(4,.a (.ptr 2 0 0)),(5,.a (.ptr 3 0 0)),(6,.a (.smz 4)),(7,.a (.smz 5)),(8,vI)],[(0,some (.raw [[.lf .bool,.lf (.sl (.int .i64))]] 2 154 true false false)),(1,some (.raw [[.lf .bool,.lf (.sl (.int .i64))]] 2 154 true false false)),(2,some (.raw [[.lf .bool,.smz 6]] 2 154 false false false)),(3,some (.raw [[.lf .bool,.smz 7]] 2 154 false false false)),(4,some (.arr (.int .i64) 1 3 false)),(5,some (.arr (.int .i64) 1 3 false)),(6,some (.arr (.int .i64) 1 3 false)),(7,some (.arr (.int .i64) 1 3 false))],8⟩,⟨[(2,.a (.ptr 0 0 0)),(3,.a (.ptr 1 0 0)),(4,.a (.ptr 2 0 0)),(5,.a (.ptr 3 0 0)),(6,.a (.smz 4)),(7,vJ),(8,vI)],[(0,some (.raw [[.lf .bool,.lf (.sl (.int .i64))]] 2 154 true false false)),(1,some (.raw [[.lf .bool,.lf (.sl (.int .i64))]] 2 154 true false false)),(2,some (.raw [[.lf .bool,.smz 5]] 2 154 false false false)),(3,some (.raw [[.lf .bool,.smz 6]] 2 154 false false false)),(4,some (.arr (.int .i64) 1 3 false)),(5,some (.arr (.int .i64) 1 3 false)),(6,some (.arr (.int .i64) 1 3 false))],7⟩] [⟨some 0,⟨[(2,.a (.ptr 0 0 0)),(3,.a (.ptr 1 0 0)),(4,.a (.ptr 2 0 0)),(5,.a (.ptr 3 0 0)),(6,.a (.smz 4)),(7,.a (.smz 5))],[(0,some (.raw [[.lf .bool,.lf (.sl (.int .i64))]] 2 154 true false false)),(1,some (.raw [[.lf .bool,.lf (.sl (.int .i64))]] 2 154 true false false)),(2,some (.raw [[.lf .bool,.smz 6]] 2 154 false false false)),(3,some (.raw [[.lf .bool,.smz 7]] 2 154 false false false)),(4,some (.arr (.int .i64) 1 3 false)),(5,some (.arr (.int .i64) 1 3 false)),(6,some (.arr (.int .i64) 1 3 false)),(7,some (.arr (.int .i64) 1 3 false))],8⟩⟩,⟨some 0,⟨[(2,.a (.ptr 0 0 0)),(3,.a (.ptr 1 0 0)),(4,.a (.ptr 2 0 0)),(5,.a (.ptr 3 0 0)),(6,.a (.smz 4)),(7,vJ)],[(0,some (.raw [[.lf .bool,.lf (.sl (.int .i64))]] 2 154 true false false)),(1,some (.raw [[.lf .bool,.lf (.sl (.int .i64))]] 2 154 true false false)),(2,some (.raw [[.lf .bool,.smz 5]] 2 154 false false false)),(3,some (.raw [[.lf .bool,.smz 6]] 2 154 false false false)),(4,some (.arr (.int .i64) 1 3 false)),(5,some (.arr (.int .i64) 1 3 false)),(6,some (.arr (.int .i64) 1 3 false))],7⟩⟩] (fun n x=>qM k n x) k
theorem qxp (k:Nat):LIo 152 Tryz.f152 0 k (qxo k):=
 lpk [] (qtS k) l0 (fun _=>rfl) (by kernel_rfl) fun n x=>by kernel_rfl
theorem qtT:∀k,qg (call cf k) (qxn k):=
 fnk 0 [0] Tryz.func152 (fun k=>(qtS k)) (fun k=>(lc (qxp k) l0)) ⟨rfl,rfl,⟨rfl,Nat.le_of_ble_eq_true rfl⟩,rfl⟩ (fun _=>rfl) (by kernel_rfl) fun k x=>by kernel_rfl

def qca (k:Nat) (rec:Bool→List Int→Bool→List Int→Bool→Nat→List Int→Option (Bool×List Int×Bool×List Int×Bool×Nat×List Int)) (a0:Bool) (a1:List Int) (b0:Bool) (b1:List Int) (x0:Bool) (x1:Nat) (m:List Int):Option (Bool×List Int×Bool×List Int×Bool×Nat×List Int):=
 if((decide ((((List.length b1):Nat):Int)>(0:Int)))=true)then
 Option.bind (qaO k a0 a1 b0 b1) fun r12=>
 rec b0 b1 r12.2.2.1 r12.2.2.2 x0 x1 m
 else
 (some (a0,a1,b0,b1,x0,x1,m))
def qcn (k n:Nat):Bool→List Int→Bool→List Int→Bool→Nat→List Int→Option (Bool×List Int×Bool×List Int×Bool×Nat×List Int):=Nat.rec (fun _ _ _ _ _ _ _=>none) (fun _ r=>qca k r) n
def qi4 (k:Nat) (a0:Bool) (a1:List Int) (b0:Bool) (b1:List Int):Option (Bool×List Int):=
 Option.bind (qbT k a0 a1) fun r10=>
 Option.bind (qbT k b0 b1) fun r11=>
 Option.bind (qcn k k r10.1 r10.2 r11.1 r11.2 false 0 []) fun r12=>
 (some (r12.1,r12.2.1))
def qcR:Nat→Bool→List Int→Bool→List Int→Option (Bool×List Int)
 | 0,_,_,_,_=>none
 | k+1,a0,a1,b0,b1=>qi4 k a0 a1 b0 b1
def qA9:Nat→Inst:=mkI 151 ⟨[.g [.lf .bool,.lf (.sl (.int .i64))],.g [.lf .bool,.lf (.sl (.int .i64))]],[]⟩ [⟨[.g [.lf .bool,.lf (.sl (.int .i64))]],[]⟩] fun k x=>qcR k x.1 x.2.1 x.2.2.1 x.2.2.2
theorem qtU (k:Nat):qaH (call cf k) [qxg k,qxn k]:=
 ac (qz4 k) (ac (qtT k) a0)
def qxq (k:Nat):LInst:=mkL 0 [⟨[(2,.a (.ptr 0 0 0)),(3,.a (.ptr 1 0 0)),(4,.a (.ptr 2 0 0))],[(0,some (.raw [[.lf .bool,.lf (.sl (.int .i64))]] 2 154 true false false)),(1,some (.raw [[.lf .bool,.lf (.sl (.int .i64))]] 2 154 true false false)),(2,some (.raw [[.lf .bool,.smz 3]] 2 154 false false false)),(3,some (.arr (.int .i64) 1 3 false))],4⟩] [⟨some 0,⟨[(2,.a (.ptr 0 0 0)),(4,.a (.ptr 2 0 0))],[(0,some (.raw [[.lf .bool,.lf (.sl (.int .i64))]] 2 154 true false false)),(1,some (.raw [[.lf .bool,.lf (.sl (.int .i64))]] 2 154 true false false)),(2,some (.raw [[.lf .bool,.smz 3]] 2 154 false false false)),(3,some (.arr (.int .i64) 1 3 false))],4⟩⟩] (fun n x=>qcn k n x.1 x.2.1 x.2.2.1 x.2.2.2.1 x.2.2.2.2.1 x.2.2.2.2.2.1 x.2.2.2.2.2.2) k
theorem qxr (k:Nat):LIo 151 Tryz.f151 0 k (qxq k):=
 lpk [] (qtU k) l0 (fun _=>rfl) (by kernel_rfl) fun n x=>by kernel_rfl
theorem qz6:∀k,qg (call cf k) (qA9 k):=
 fnk 0 [0] Tryz.func151 (fun k=>(qtU k)) (fun k=>(lc (qxr k) l0)) ⟨rfl,rfl,⟨rfl,Nat.le_of_ble_eq_true rfl⟩,rfl⟩ (fun _=>rfl) (by kernel_rfl) fun k x=>by kernel_rfl

def qcS (k:Nat) (num0:Bool) (num1:List Int) (den0:Bool) (den1:List Int):Option (Bool×List Int×Bool×List Int):=
 Option.bind (qdx k den0 den1) fun r7=>
 if((decide (r7<(0:Int)))=true)then
 Option.bind (qbO k num0 num1) fun r8=>
 Option.bind (qbO k den0 den1) fun r9=>
 Option.bind (qcR k r8.1 r8.2 r9.1 r9.2) fun r10=>
 Option.bind (qaO k r8.1 r8.2 r10.1 r10.2) fun r11=>
 Option.bind (qaO k r9.1 r9.2 r10.1 r10.2) fun r12=>
 (some (r11.1,r11.2.1,r12.1,r12.2.1))
 else
 Option.bind (qcR k num0 num1 den0 den1) fun r8=>
 Option.bind (qaO k num0 num1 r8.1 r8.2) fun r9=>
 Option.bind (qaO k den0 den1 r8.1 r8.2) fun r10=>
 (some (r9.1,r9.2.1,r10.1,r10.2.1))
def qcT:Nat→Bool→List Int→Bool→List Int→Option (Bool×List Int×Bool×List Int)
 | 0,_,_,_,_=>none
 | k+1,num0,num1,den0,den1=>qcS k num0 num1 den0 den1
def qBa:Nat→Inst:=mkI 93 ⟨[.g [.lf .bool,.lf (.sl (.int .i64))],.g [.lf .bool,.lf (.sl (.int .i64))]],[]⟩ [⟨[.g [.lf .bool,.lf (.sl (.int .i64)),.lf .bool,.lf (.sl (.int .i64))]],[]⟩] fun k x=>qcT k x.1 x.2.1 x.2.2.1 x.2.2.2
theorem qz7:∀k,qg (call cf k) (qBa k):=
 fnk 0 [] Tryz.func93 (fun k=>(ac (qtP k) (ac (qtQ k) (ac (qz6 k) (ac (qtT k) a0))))) (fun k=>l0) ⟨rfl,rfl,⟨rfl,Nat.le_of_ble_eq_true rfl⟩,rfl⟩ (fun _=>rfl) (by kernel_rfl) fun k x=>by kernel_rfl

def qfu (k:Nat) (n0:Int) (n1:Int):Option (Bool):=
 if((n0 == (0:Int))=false)then
 if(((Int.tmod n0 (10:Int)) == (0:Int))=true)then
 if((n0 == (0:Int))=true)then
 (some (n1 == (0:Int)))
 else
 (some false)
 else
 if((decide (n0≤(999999999:Int)))=true)then
 if((decide (n0≥(-(999999999:Int))))=true)then
 if((decide (n1≤(9:Int)))=true)then
 (some (decide (n1≥(-(18:Int)))))
 else
 (some false)
 else
 (some false)
 else
 (some false)
 else
 if((n0 == (0:Int))=true)then
 (some (n1 == (0:Int)))
 else
 (some false)
def qaD:Nat→Int→Int→Option (Bool)
 | 0,_,_=>none
 | k+1,n0,n1=>qfu k n0 n1
def qnf:Nat→Inst:=mkI 67 ⟨[.g [.lf (.int .i64),.lf (.int .i64)]],[]⟩ [⟨[vB],[]⟩] fun k x=>qaD k x.1 x.2
theorem qmi:∀k,qg (call cf k) (qnf k):=
 fnk 0 [] Tryz.func67 (fun k=>a0) (fun k=>l0) ⟨rfl,rfl,⟨rfl,Nat.le_of_ble_eq_true rfl⟩,rfl⟩ (fun _=>rfl) (by kernel_rfl) fun k x=>by kernel_rfl

def qbj (k:Nat) (rec:ByteArray→Int→Option ((Bool) ⊕ (ByteArray))) (s:ByteArray) (i:Int):Option ((Bool) ⊕ (ByteArray)):=
 if((decide (i<(((ByteArray.size s):Nat):Int)))=true)then
 if((0:Int)≤i)then
 Option.bind ((ByteArray.data s))[(Int.toNat i)]? fun x3=>
 if((decide ((((UInt8.toNat x3):Nat):Int)<(97:Int)))=false)then
 if((decide ((((UInt8.toNat x3):Nat):Int)>(122:Int)))=true)then
 if((decide ((((UInt8.toNat x3):Nat):Int)<(48:Int)))=false)then
 if((decide ((((UInt8.toNat x3):Nat):Int)>(57:Int)))=true)then
 if(((((UInt8.toNat x3):Nat):Int) != (95:Int))=true)then
 (some (Sum.inl false))
 else
 rec s (IntKind.wrap .i64 (i+(1:Int)))
 else
 rec s (IntKind.wrap .i64 (i+(1:Int)))
 else
 if(((((UInt8.toNat x3):Nat):Int) != (95:Int))=true)then
 (some (Sum.inl false))
 else
 rec s (IntKind.wrap .i64 (i+(1:Int)))
 else
 rec s (IntKind.wrap .i64 (i+(1:Int)))
 else
 if((decide ((((UInt8.toNat x3):Nat):Int)<(48:Int)))=false)then
 if((decide ((((UInt8.toNat x3):Nat):Int)>(57:Int)))=true)then
 if(((((UInt8.toNat x3):Nat):Int) != (95:Int))=true)then
 (some (Sum.inl false))
 else
 rec s (IntKind.wrap .i64 (i+(1:Int)))
 else
 rec s (IntKind.wrap .i64 (i+(1:Int)))
 else
 if(((((UInt8.toNat x3):Nat):Int) != (95:Int))=true)then
 (some (Sum.inl false))
 else
 rec s (IntKind.wrap .i64 (i+(1:Int)))
 else
 none
 else
 (some (Sum.inr s))
def qac (k n:Nat):ByteArray→Int→Option ((Bool) ⊕ (ByteArray)):=Nat.rec (fun _ _=>none) (fun _ r=>qbj k r) n
def qf4 (k:Nat) (s:ByteArray):Option (Bool):=
 Option.bind (qac k k s (0:Int)) fun r4=>
 qc r4
 (fun r4=>
 (some r4))
 (fun r4=>
 if((decide ((((ByteArray.size r4):Nat):Int)≥(1:Int)))=true)then
 (some (decide ((((ByteArray.size r4):Nat):Int)≤(16:Int))))
 else
 (some false))
def qcJ:Nat→ByteArray→Option (Bool)
 | 0,_=>none
 | k+1,s=>qf4 k s
def qsP:Nat→Inst:=mkI 126 ⟨[vS],[]⟩ [⟨[vB],[]⟩] fun k x=>qcJ k x
def qxs (k:Nat):LInst:=mkL 0 [⟨[(0,vS),(3,vI)],[],0⟩] [⟨none,⟨[(2,vB)],[],0⟩⟩,⟨some 0,⟨[(0,vS)],[],0⟩⟩] (fun n x=>qac k n x.1 x.2) k
theorem qxt (k:Nat):LIo 126 Tryz.f126 0 k (qxs k):=
 lpk [] a0 l0 (fun _=>rfl) (by kernel_rfl) fun n x=>by kernel_rfl
theorem qtV:∀k,qg (call cf k) (qsP k):=
 fnk 0 [0] Tryz.func126 (fun k=>a0) (fun k=>(lc (qxt k) l0)) ⟨rfl,rfl,⟨rfl,Nat.le_of_ble_eq_true rfl⟩,rfl⟩ (fun _=>rfl) (by kernel_rfl) fun k x=>by kernel_rfl

def qbk (k:Nat) (rec:ByteArray→Int→Int→Int→Option ((Bool) ⊕ (Int))) (s:ByteArray) (parts:Int) (from1:Int) (i:Int):Option ((Bool) ⊕ (Int)):=
 if((decide (i≤(((ByteArray.size s):Nat):Int)))=true)then
 if((i == (((ByteArray.size s):Nat):Int))=false)then
 if((0:Int)≤i)then
 Option.bind ((ByteArray.data s))[(Int.toNat i)]? fun x2=>
 if(((((UInt8.toNat x2):Nat):Int) == (46:Int))=true)then
 if(((0:Int)≤from1)∧((from1≤i)∧(i≤(((ByteArray.size s):Nat):Int))))then
 Option.bind (qcJ k (ByteArray.extract s (Int.toNat from1) (Int.toNat i))) fun r4=>
 if((!r4)=true)then
 (some (Sum.inl false))
 else
 rec s (IntKind.wrap .i64 (parts+(1:Int))) (IntKind.wrap .i64 (i+(1:Int))) (IntKind.wrap .i64 (i+(1:Int)))
 else
 none
 else
 rec s parts from1 (IntKind.wrap .i64 (i+(1:Int)))
 else
 none
 else
 if(((0:Int)≤from1)∧((from1≤i)∧(i≤(((ByteArray.size s):Nat):Int))))then
 Option.bind (qcJ k (ByteArray.extract s (Int.toNat from1) (Int.toNat i))) fun r4=>
 if((!r4)=true)then
 (some (Sum.inl false))
 else
 rec s (IntKind.wrap .i64 (parts+(1:Int))) (IntKind.wrap .i64 (i+(1:Int))) (IntKind.wrap .i64 (i+(1:Int)))
 else
 none
 else
 (some (Sum.inr parts))
def qat (k n:Nat):ByteArray→Int→Int→Int→Option ((Bool) ⊕ (Int)):=Nat.rec (fun _ _ _ _=>none) (fun _ r=>qbk k r) n
def qf5 (k:Nat) (s:ByteArray):Option (Bool):=
 Option.bind (qat k k s (0:Int) (0:Int) (0:Int)) fun r4=>
 qc r4
 (fun r4=>
 (some r4))
 (fun r4=>
 (some (decide (r4≤(9:Int)))))
def qD:Nat→ByteArray→Option (Bool)
 | 0,_=>none
 | k+1,s=>qf5 k s
def qsQ:Nat→Inst:=mkI 69 ⟨[vS],[]⟩ [⟨[vB],[]⟩] fun k x=>qD k x
theorem qtW (k:Nat):qaH (call cf k) [qsP k]:=
 ac (qtV k) a0
def qxu (k:Nat):LInst:=mkL 0 [⟨[(0,vS),(3,vI),(4,vI),(5,vI)],[],0⟩] [⟨none,⟨[(2,vB)],[],0⟩⟩,⟨some 0,⟨[(3,vI)],[],0⟩⟩] (fun n x=>qat k n x.1 x.2.1 x.2.2.1 x.2.2.2) k
theorem qxv (k:Nat):LIo 69 Tryz.f69 0 k (qxu k):=
 lpk [] (qtW k) l0 (fun _=>rfl) (by kernel_rfl) fun n x=>by kernel_rfl
theorem qtX:∀k,qg (call cf k) (qsQ k):=
 fnk 0 [0] Tryz.func69 (fun k=>(qtW k)) (fun k=>(lc (qxv k) l0)) ⟨rfl,rfl,⟨rfl,Nat.le_of_ble_eq_true rfl⟩,rfl⟩ (fun _=>rfl) (by kernel_rfl) fun k x=>by kernel_rfl

def qaJ (k:Nat) (rec:List Int→Int→Option ((Bool) ⊕ (Unit))) (l:List Int) (i:Int):Option ((Bool) ⊕ (Unit)):=
 if((decide (i<(((List.length l):Nat):Int)))=true)then
 if((0:Int)≤(IntKind.wrap .i64 (i-(1:Int))))then
 Option.bind (l)[(Int.toNat (IntKind.wrap .i64 (i-(1:Int))))]? fun x3=>
 if((0:Int)≤i)then
 Option.bind (l)[(Int.toNat i)]? fun x4=>
 if((decide (x3≥x4))=true)then
 (some (Sum.inl false))
 else
 rec l (IntKind.wrap .i64 (i+(1:Int)))
 else
 none
 else
 none
 else
 (some (Sum.inr ()))
def qN (k n:Nat):List Int→Int→Option ((Bool) ⊕ (Unit)):=Nat.rec (fun _ _=>none) (fun _ r=>qaJ k r) n
def qi5 (k:Nat) (l:List Int):Option (Bool):=
 Option.bind (qN k k l (1:Int)) fun r9=>
 qc r9
 (fun r9=>
 (some r9))
 (fun r9=>
 (some true))
def qcU:Nat→List Int→Option (Bool)
 | 0,_=>none
 | k+1,l=>qi5 k l
def qxw:Nat→Inst:=mkI 189 ⟨[vJ],[]⟩ [⟨[vB],[]⟩] fun k x=>qcU k x
def qxx (k:Nat):LInst:=mkL 0 [⟨[(0,vJ),(3,vI)],[],0⟩] [⟨none,⟨[(2,vB)],[],0⟩⟩,⟨some 0,⟨[],[],0⟩⟩] (fun n x=>qN k n x.1 x.2) k
theorem qxy (k:Nat):LIo 189 Tryz.f189 0 k (qxx k):=
 lpk [] a0 l0 (fun _=>rfl) (by kernel_rfl) fun n x=>by kernel_rfl
theorem qz8:∀k,qg (call cf k) (qxw k):=
 fnk 0 [0] Tryz.func189 (fun k=>a0) (fun k=>(lc (qxy k) l0)) ⟨rfl,rfl,⟨rfl,Nat.le_of_ble_eq_true rfl⟩,rfl⟩ (fun _=>rfl) (by kernel_rfl) fun k x=>by kernel_rfl

def qaT (k:Nat) (rec:Int→Int→List (Int×Int)→List Int→Option ((Bool×Int×List (Int×Int)×List Int) ⊕ (Int×List (Int×Int)×List Int))) (i:Int) (w0:Int) (w1:List (Int×Int)) (w2:List Int):Option ((Bool×Int×List (Int×Int)×List Int) ⊕ (Int×List (Int×Int)×List Int)):=
 if((decide (i<(((List.length w1):Nat):Int)))=true)then
 if((0:Int)≤i)then
 Option.bind (w1)[(Int.toNat i)]? fun x3=>
 Option.bind (qaD k x3.1 x3.2) fun r7=>
 if((!r7)=true)then
 (some (Sum.inl (false,w0,w1,w2)))
 else
 rec (IntKind.wrap .i64 (i+(1:Int))) w0 w1 w2
 else
 none
 else
 (some (Sum.inr (w0,w1,w2)))
def qR (k n:Nat):Int→Int→List (Int×Int)→List Int→Option ((Bool×Int×List (Int×Int)×List Int) ⊕ (Int×List (Int×Int)×List Int)):=Nat.rec (fun _ _ _ _=>none) (fun _ r=>qaT k r) n
def qaU (k:Nat) (rec:Int→Int→List (Int×Int)→List Int→Option ((Bool×Int×List (Int×Int)×List Int) ⊕ (Int×List (Int×Int)×List Int))) (i:Int) (w0:Int) (w1:List (Int×Int)) (w2:List Int):Option ((Bool×Int×List (Int×Int)×List Int) ⊕ (Int×List (Int×Int)×List Int)):=
 if((decide (i<(((List.length w2):Nat):Int)))=true)then
 if((0:Int)≤i)then
 Option.bind (w2)[(Int.toNat i)]? fun x3=>
 if((decide (x3<(0:Int)))=false)then
 if((0:Int)≤i)then
 Option.bind (w2)[(Int.toNat i)]? fun x4=>
 if((decide (x4>(1000000000:Int)))=true)then
 (some (Sum.inl (false,w0,w1,w2)))
 else
 rec (IntKind.wrap .i64 (i+(1:Int))) w0 w1 w2
 else
 none
 else
 (some (Sum.inl (false,w0,w1,w2)))
 else
 none
 else
 (some (Sum.inr (w0,w1,w2)))
def qK (k n:Nat):Int→Int→List (Int×Int)→List Int→Option ((Bool×Int×List (Int×Int)×List Int) ⊕ (Int×List (Int×Int)×List Int)):=Nat.rec (fun _ _ _ _=>none) (fun _ r=>qaU k r) n
def qfv (k:Nat) (w0:Int) (w1:List (Int×Int)) (w2:List Int):Option (Bool):=
 Option.bind (qR k k (0:Int) w0 w1 w2) fun r7=>
 qc r7
 (fun r7=>
 (some r7.1))
 (fun r7=>
 Option.bind (qK k k (0:Int) r7.1 r7.2.1 r7.2.2) fun r8=>
 qc r8
 (fun r8=>
 (some r8.1))
 (fun r8=>
 if((r8.1 == (1:Int))=true)then
 if(((((List.length r8.2.1):Nat):Int) == (1:Int))=true)then
 (some ((((List.length r8.2.2):Nat):Int) == (0:Int)))
 else
 (some false)
 else
 if((r8.1 == (2:Int))=true)then
 if(((((List.length r8.2.1):Nat):Int) == (2:Int))=true)then
 if(((((List.length r8.2.2):Nat):Int) == (5:Int))=true)then
 Option.bind (r8.2.2)[4]? fun x3=>
 if((decide (x3>(0:Int)))=true)then
 Option.bind (r8.2.2)[1]? fun x4=>
 Option.bind (r8.2.2)[2]? fun x5=>
 Option.bind (r8.2.2)[3]? fun x6=>
 Option.bind (r8.2.2)[4]? fun x7=>
 (some (decide ((IntKind.wrap .i64 ((IntKind.wrap .i64 (x4+x5))+x6))≤x7)))
 else
 (some false)
 else
 (some false)
 else
 (some false)
 else
 if((r8.1 == (3:Int))=true)then
 if(((((List.length r8.2.1):Nat):Int) == (((List.length r8.2.2):Nat):Int))=true)then
 if((decide ((((List.length r8.2.1):Nat):Int)≥(1:Int)))=true)then
 if((decide ((((List.length r8.2.1):Nat):Int)≤(16:Int)))=true)then
 Option.bind (qcU k r8.2.2) fun r9=>
 (some r9)
 else
 (some false)
 else
 (some false)
 else
 (some false)
 else
 if((r8.1 == (4:Int))=true)then
 if((decide ((((List.length r8.2.1):Nat):Int)≥(1:Int)))=true)then
 if((decide ((((List.length r8.2.1):Nat):Int)≤(16:Int)))=true)then
 (some ((((List.length r8.2.2):Nat):Int) == (0:Int)))
 else
 (some false)
 else
 (some false)
 else
 (some false)))
def qX:Nat→Int→List (Int×Int)→List Int→Option (Bool)
 | 0,_,_,_=>none
 | k+1,w0,w1,w2=>qfv k w0 w1 w2
def qxz:Nat→Inst:=mkI 124 ⟨[.g [.lf (.int .i64),.lf cE,.lf (.sl (.int .i64))]],[]⟩ [⟨[vB],[]⟩] fun k x=>qX k x.1 x.2.1 x.2.2
theorem qpG (k:Nat):qaH (call cf k) [qnf k,qxw k]:=
 ac (qmi k) (ac (qz8 k) a0)
def qxA (k:Nat):LInst:=mkL 0 [⟨[(1,.a (.ptr 0 0 0)),(3,vI)],[(0,some (.raw [[.lf (.int .i64),.lf cE,.lf (.sl (.int .i64))]] 3 44 true false false))],1⟩] [⟨none,⟨[(2,vB)],[(0,some (.raw [[.lf (.int .i64),.lf cE,.lf (.sl (.int .i64))]] 3 44 true false false))],1⟩⟩,⟨some 0,⟨[(1,.a (.ptr 0 0 0))],[(0,some (.raw [[.lf (.int .i64),.lf cE,.lf (.sl (.int .i64))]] 3 44 true false false))],1⟩⟩] (fun n x=>qR k n x.1 x.2.1 x.2.2.1 x.2.2.2) k
theorem qq7 (k:Nat):LIo 124 Tryz.f124 0 k (qxA k):=
 lpk [] (qpG k) l0 (fun _=>rfl) (by kernel_rfl) fun n x=>by kernel_rfl
def qxB (k:Nat):LInst:=mkL 2 [⟨[(1,.a (.ptr 0 0 0)),(4,vI)],[(0,some (.raw [[.lf (.int .i64),.lf cE,.lf (.sl (.int .i64))]] 3 44 true false false))],1⟩] [⟨none,⟨[(2,vB)],[(0,some (.raw [[.lf (.int .i64),.lf cE,.lf (.sl (.int .i64))]] 3 44 true false false))],1⟩⟩,⟨some 2,⟨[(1,.a (.ptr 0 0 0))],[(0,some (.raw [[.lf (.int .i64),.lf cE,.lf (.sl (.int .i64))]] 3 44 true false false))],1⟩⟩] (fun n x=>qK k n x.1 x.2.1 x.2.2.1 x.2.2.2) k
theorem qxC (k:Nat):LIo 124 Tryz.f124 0 k (qxB k):=
 lpk [] (qpG k) (lc (qq7 k) l0) (fun _=>rfl) (by kernel_rfl) fun n x=>by kernel_rfl
theorem qz9:∀k,qg (call cf k) (qxz k):=
 fnk 0 [0,2] Tryz.func124 (fun k=>(qpG k)) (fun k=>(lc (qq7 k) (lc (qxC k) l0))) ⟨rfl,rfl,⟨rfl,Nat.le_of_ble_eq_true rfl⟩,rfl⟩ (fun _=>rfl) (by kernel_rfl) fun k x=>by kernel_rfl

def qbl (k:Nat) (rec:List (Int×Int)→List (Int×Int)→Int→Option ((Bool) ⊕ (Unit))) (a:List (Int×Int)) (b:List (Int×Int)) (i:Int):Option ((Bool) ⊕ (Unit)):=
 if((decide (i<(((List.length a):Nat):Int)))=true)then
 if((0:Int)≤i)then
 Option.bind (a)[(Int.toNat i)]? fun x3=>
 if((0:Int)≤i)then
 Option.bind (b)[(Int.toNat i)]? fun x4=>
 if((x3.1 == x4.1)=true)then
 if((x3.2 == x4.2)=true)then
 rec a b (IntKind.wrap .i64 (i+(1:Int)))
 else
 (some (Sum.inl false))
 else
 (some (Sum.inl false))
 else
 none
 else
 none
 else
 (some (Sum.inr ()))
def qau (k n:Nat):List (Int×Int)→List (Int×Int)→Int→Option ((Bool) ⊕ (Unit)):=Nat.rec (fun _ _ _=>none) (fun _ r=>qbl k r) n
def qf6 (k:Nat) (a:List (Int×Int)) (b:List (Int×Int)):Option (Bool):=
 if(((((List.length a):Nat):Int) != (((List.length b):Nat):Int))=true)then
 (some false)
 else
 Option.bind (qau k k a b (0:Int)) fun r9=>
 qc r9
 (fun r9=>
 (some r9))
 (fun r9=>
 (some true))
def qcK:Nat→List (Int×Int)→List (Int×Int)→Option (Bool)
 | 0,_,_=>none
 | k+1,a,b=>qf6 k a b
def qxD:Nat→Inst:=mkI 188 ⟨[.a (.lf cE),.a (.lf cE)],[]⟩ [⟨[vB],[]⟩] fun k x=>qcK k x.1 x.2
def qxE (k:Nat):LInst:=mkL 0 [⟨[(0,.a (.lf cE)),(1,.a (.lf cE)),(5,vI)],[],0⟩] [⟨none,⟨[(4,vB)],[],0⟩⟩,⟨some 0,⟨[],[],0⟩⟩] (fun n x=>qau k n x.1 x.2.1 x.2.2) k
theorem qxF (k:Nat):LIo 188 Tryz.f188 0 k (qxE k):=
 lpk [] a0 l0 (fun _=>rfl) (by kernel_rfl) fun n x=>by kernel_rfl
theorem qtY:∀k,qg (call cf k) (qxD k):=
 fnk 0 [0] Tryz.func188 (fun k=>a0) (fun k=>(lc (qxF k) l0)) ⟨rfl,rfl,⟨rfl,Nat.le_of_ble_eq_true rfl⟩,rfl⟩ (fun _=>rfl) (by kernel_rfl) fun k x=>by kernel_rfl

def qbm (k:Nat) (rec:Int→Int→List (Int×Int)→List Int→Int→List (Int×Int)→List Int→Option ((Bool×Int×List (Int×Int)×List Int×Int×List (Int×Int)×List Int) ⊕ (Int×List (Int×Int)×List Int×Int×List (Int×Int)×List Int))) (i:Int) (a0:Int) (a1:List (Int×Int)) (a2:List Int) (b0:Int) (b1:List (Int×Int)) (b2:List Int):Option ((Bool×Int×List (Int×Int)×List Int×Int×List (Int×Int)×List Int) ⊕ (Int×List (Int×Int)×List Int×Int×List (Int×Int)×List Int)):=
 if((decide (i<(((List.length a2):Nat):Int)))=true)then
 if((0:Int)≤i)then
 Option.bind (a2)[(Int.toNat i)]? fun x3=>
 if((0:Int)≤i)then
 Option.bind (b2)[(Int.toNat i)]? fun x4=>
 if((x3 != x4)=true)then
 (some (Sum.inl (false,a0,a1,a2,b0,b1,b2)))
 else
 rec (IntKind.wrap .i64 (i+(1:Int))) a0 a1 a2 b0 b1 b2
 else
 none
 else
 none
 else
 (some (Sum.inr (a0,a1,a2,b0,b1,b2)))
def qav (k n:Nat):Int→Int→List (Int×Int)→List Int→Int→List (Int×Int)→List Int→Option ((Bool×Int×List (Int×Int)×List Int×Int×List (Int×Int)×List Int) ⊕ (Int×List (Int×Int)×List Int×Int×List (Int×Int)×List Int)):=Nat.rec (fun _ _ _ _ _ _ _=>none) (fun _ r=>qbm k r) n
def qf7 (k:Nat) (a0:Int) (a1:List (Int×Int)) (a2:List Int) (b0:Int) (b1:List (Int×Int)) (b2:List Int):Option (Bool):=
 if((a0 != b0)=false)then
 if(((((List.length a2):Nat):Int) != (((List.length b2):Nat):Int))=true)then
 (some false)
 else
 Option.bind (qav k k (0:Int) a0 a1 a2 b0 b1 b2) fun r8=>
 qc r8
 (fun r8=>
 (some r8.1))
 (fun r8=>
 Option.bind (qcK k r8.2.1 r8.2.2.2.2.1) fun r9=>
 (some r9))
 else
 (some false)
def qv:Nat→Int→List (Int×Int)→List Int→Int→List (Int×Int)→List Int→Option (Bool)
 | 0,_,_,_,_,_,_=>none
 | k+1,a0,a1,a2,b0,b1,b2=>qf7 k a0 a1 a2 b0 b1 b2
def qxG:Nat→Inst:=mkI 122 ⟨[.g [.lf (.int .i64),.lf cE,.lf (.sl (.int .i64))],.g [.lf (.int .i64),.lf cE,.lf (.sl (.int .i64))]],[]⟩ [⟨[vB],[]⟩] fun k x=>qv k x.1 x.2.1 x.2.2.1 x.2.2.2.1 x.2.2.2.2.1 x.2.2.2.2.2
theorem qtZ (k:Nat):qaH (call cf k) [qxD k]:=
 ac (qtY k) a0
def qxH (k:Nat):LInst:=mkL 0 [⟨[(2,.a (.ptr 0 0 0)),(3,.a (.ptr 1 0 0)),(5,vI)],[(0,some (.raw [[.lf (.int .i64),.lf cE,.lf (.sl (.int .i64))]] 3 44 true false false)),(1,some (.raw [[.lf (.int .i64),.lf cE,.lf (.sl (.int .i64))]] 3 44 true false false))],2⟩] [⟨none,⟨[(4,vB)],[(0,some (.raw [[.lf (.int .i64),.lf cE,.lf (.sl (.int .i64))]] 3 44 true false false)),(1,some (.raw [[.lf (.int .i64),.lf cE,.lf (.sl (.int .i64))]] 3 44 true false false))],2⟩⟩,⟨some 0,⟨[(2,.a (.ptr 0 0 0)),(3,.a (.ptr 1 0 0))],[(0,some (.raw [[.lf (.int .i64),.lf cE,.lf (.sl (.int .i64))]] 3 44 true false false)),(1,some (.raw [[.lf (.int .i64),.lf cE,.lf (.sl (.int .i64))]] 3 44 true false false))],2⟩⟩] (fun n x=>qav k n x.1 x.2.1 x.2.2.1 x.2.2.2.1 x.2.2.2.2.1 x.2.2.2.2.2.1 x.2.2.2.2.2.2) k
theorem qxI (k:Nat):LIo 122 Tryz.f122 0 k (qxH k):=
 lpk [] (qtZ k) l0 (fun _=>rfl) (by kernel_rfl) fun n x=>by kernel_rfl
theorem qt0:∀k,qg (call cf k) (qxG k):=
 fnk 0 [0] Tryz.func122 (fun k=>(qtZ k)) (fun k=>(lc (qxI k) l0)) ⟨rfl,rfl,⟨rfl,Nat.le_of_ble_eq_true rfl⟩,rfl⟩ (fun _=>rfl) (by kernel_rfl) fun k x=>by kernel_rfl

def qco (k:Nat) (rec:Int→Int→Bool→Nat→Bool→List Int→List Int→Option (Bool×Nat×Bool×List Int×List Int)) (k1:Int) (i:Int) (x0:Bool) (x1:Nat) (p0:Bool) (p1:List Int) (m:List Int):Option (Bool×Nat×Bool×List Int×List Int):=
 if((decide (i<k1))=true)then
 Option.bind (qV k (10:Int)) fun r14=>
 Option.bind (qW k p0 p1 r14.1 r14.2) fun r15=>
 rec k1 (IntKind.wrap .i64 (i+(1:Int))) x0 x1 r15.1 r15.2 m
 else
 (some (x0,x1,p0,p1,m))
def qbn (k n:Nat):Int→Int→Bool→Nat→Bool→List Int→List Int→Option (Bool×Nat×Bool×List Int×List Int):=Nat.rec (fun _ _ _ _ _ _ _=>none) (fun _ r=>qco k r) n
def qjC (k:Nat) (k1:Int):Option (Bool×List Int):=
 Option.bind (qV k (1:Int)) fun r13=>
 Option.bind (qbn k k k1 (0:Int) false 0 r13.1 r13.2 []) fun r14=>
 (some (r14.2.2.1,r14.2.2.2.1))
def qdb:Nat→Int→Option (Bool×List Int)
 | 0,_=>none
 | k+1,k1=>qjC k k1
def qBb:Nat→Inst:=mkI 217 ⟨[vI],[]⟩ [⟨[.g [.lf .bool,.lf (.sl (.int .i64))]],[]⟩] fun k x=>qdb k x
theorem qt1 (k:Nat):qaH (call cf k) [qpD k,qpE k]:=
 ac (qmh k) (ac (qkK k) a0)
def qxJ (k:Nat):LInst:=mkL 0 [⟨[(0,vI),(2,.a (.ptr 0 0 0)),(3,.a (.ptr 1 0 0)),(4,vI)],[(0,some (.raw [[.lf .bool,.smz 2]] 2 154 false false false)),(1,some (.raw [[.lf .bool,.lf (.sl (.int .i64))]] 2 154 true false false)),(2,some (.arr (.int .i64) 1 3 false))],3⟩] [⟨some 0,⟨[(2,.a (.ptr 0 0 0)),(3,.a (.ptr 1 0 0))],[(0,some (.raw [[.lf .bool,.smz 2]] 2 154 false false false)),(1,some (.raw [[.lf .bool,.lf (.sl (.int .i64))]] 2 154 true false false)),(2,some (.arr (.int .i64) 1 3 false))],3⟩⟩] (fun n x=>qbn k n x.1 x.2.1 x.2.2.1 x.2.2.2.1 x.2.2.2.2.1 x.2.2.2.2.2.1 x.2.2.2.2.2.2) k
theorem qxK (k:Nat):LIo 217 Tryz.f217 0 k (qxJ k):=
 lpk [] (qt1 k) l0 (fun _=>rfl) (by kernel_rfl) fun n x=>by kernel_rfl
theorem qAa:∀k,qg (call cf k) (qBb k):=
 fnk 0 [0] Tryz.func217 (fun k=>(qt1 k)) (fun k=>(lc (qxK k) l0)) ⟨rfl,rfl,⟨rfl,Nat.le_of_ble_eq_true rfl⟩,rfl⟩ (fun _=>rfl) (by kernel_rfl) fun k x=>by kernel_rfl

def qic (k:Nat) (n0:Int) (n1:Int):Option (Bool×List Int×Bool×List Int):=
 Option.bind (qdu k n0) fun r12=>
 if((decide (n1<(0:Int)))=true)then
 Option.bind (qdb k (IntKind.wrap .i64 ((0:Int)-n1))) fun r13=>
 Option.bind (qcT k r12.1 r12.2 r13.1 r13.2) fun r14=>
 (some (r14.1,r14.2.1,r14.2.2.1,r14.2.2.2))
 else
 Option.bind (qdb k n1) fun r13=>
 Option.bind (qW k r12.1 r12.2 r13.1 r13.2) fun r14=>
 Option.bind (qV k (1:Int)) fun r15=>
 (some (r14.1,r14.2,r15.1,r15.2))
def qcb:Nat→Int→Int→Option (Bool×List Int×Bool×List Int)
 | 0,_,_=>none
 | k+1,n0,n1=>qic k n0 n1
def qxL:Nat→Inst:=mkI 180 ⟨[.g [.lf (.int .i64),.lf (.int .i64)]],[]⟩ [⟨[.g [.lf .bool,.lf (.sl (.int .i64)),.lf .bool,.lf (.sl (.int .i64))]],[]⟩] fun k x=>qcb k x.1 x.2
theorem qAb:∀k,qg (call cf k) (qxL k):=
 fnk 0 [] Tryz.func180 (fun k=>(ac (qz1 k) (ac (qAa k) (ac (qz7 k) (ac (qkK k) (ac (qmh k) a0)))))) (fun k=>l0) ⟨rfl,rfl,⟨rfl,Nat.le_of_ble_eq_true rfl⟩,rfl⟩ (fun _=>rfl) (by kernel_rfl) fun k x=>by kernel_rfl

def qj5 (k:Nat) (a0:Bool) (a1:List Int) (b0:Bool) (b1:List Int):Option (Bool×List Int):=
 Option.bind (qbO k b0 b1) fun r16=>
 Option.bind (qcI k a0 a1 r16.1 r16.2) fun r17=>
 (some (r17.1,r17.2))
def qen:Nat→Bool→List Int→Bool→List Int→Option (Bool×List Int)
 | 0,_,_,_,_=>none
 | k+1,a0,a1,b0,b1=>qj5 k a0 a1 b0 b1
def qBc:Nat→Inst:=mkI 236 ⟨[.g [.lf .bool,.lf (.sl (.int .i64))],.g [.lf .bool,.lf (.sl (.int .i64))]],[]⟩ [⟨[.g [.lf .bool,.lf (.sl (.int .i64))]],[]⟩] fun k x=>qen k x.1 x.2.1 x.2.2.1 x.2.2.2
theorem qAc:∀k,qg (call cf k) (qBc k):=
 fnk 0 [] Tryz.func236 (fun k=>(ac (qtQ k) (ac (qz3 k) a0))) (fun k=>l0) ⟨rfl,rfl,⟨rfl,Nat.le_of_ble_eq_true rfl⟩,rfl⟩ (fun _=>rfl) (by kernel_rfl) fun k x=>by kernel_rfl

def qj6 (k:Nat) (a0:Bool) (a1:List Int) (b0:Bool) (b1:List Int):Option (Int):=
 Option.bind (qen k a0 a1 b0 b1) fun r16=>
 Option.bind (qdx k r16.1 r16.2) fun r17=>
 (some r17)
def qeo:Nat→Bool→List Int→Bool→List Int→Option (Int)
 | 0,_,_,_,_=>none
 | k+1,a0,a1,b0,b1=>qj6 k a0 a1 b0 b1
def qBd:Nat→Inst:=mkI 225 ⟨[.g [.lf .bool,.lf (.sl (.int .i64))],.g [.lf .bool,.lf (.sl (.int .i64))]],[]⟩ [⟨[vI],[]⟩] fun k x=>qeo k x.1 x.2.1 x.2.2.1 x.2.2.2
theorem qAd:∀k,qg (call cf k) (qBd k):=
 fnk 0 [] Tryz.func225 (fun k=>(ac (qAc k) (ac (qtP k) a0))) (fun k=>l0) ⟨rfl,rfl,⟨rfl,Nat.le_of_ble_eq_true rfl⟩,rfl⟩ (fun _=>rfl) (by kernel_rfl) fun k x=>by kernel_rfl

def qj7 (k:Nat) (a0:Bool) (a1:List Int) (a2:Bool) (a3:List Int) (b0:Bool) (b1:List Int) (b2:Bool) (b3:List Int):Option (Int):=
 Option.bind (qW k a0 a1 b2 b3) fun r14=>
 Option.bind (qW k b0 b1 a2 a3) fun r15=>
 Option.bind (qeo k r14.1 r14.2 r15.1 r15.2) fun r16=>
 (some r16)
def qdy:Nat→Bool→List Int→Bool→List Int→Bool→List Int→Bool→List Int→Option (Int)
 | 0,_,_,_,_,_,_,_,_=>none
 | k+1,a0,a1,a2,a3,b0,b1,b2,b3=>qj7 k a0 a1 a2 a3 b0 b1 b2 b3
def qxM:Nat→Inst:=mkI 190 ⟨[.g [.lf .bool,.lf (.sl (.int .i64)),.lf .bool,.lf (.sl (.int .i64))],.g [.lf .bool,.lf (.sl (.int .i64)),.lf .bool,.lf (.sl (.int .i64))]],[]⟩ [⟨[vI],[]⟩] fun k x=>qdy k x.1 x.2.1 x.2.2.1 x.2.2.2.1 x.2.2.2.2.1 x.2.2.2.2.2.1 x.2.2.2.2.2.2.1 x.2.2.2.2.2.2.2
theorem qAe:∀k,qg (call cf k) (qxM k):=
 fnk 0 [] Tryz.func190 (fun k=>(ac (qkK k) (ac (qAd k) a0))) (fun k=>l0) ⟨rfl,rfl,⟨rfl,Nat.le_of_ble_eq_true rfl⟩,rfl⟩ (fun _=>rfl) (by kernel_rfl) fun k x=>by kernel_rfl

def qaV (k:Nat) (rec:Int→ByteArray→Int→List (Int×Int)→List (Int×Int)→Option ((Bool×ByteArray×Int×List (Int×Int)×List (Int×Int)) ⊕ (ByteArray×Int×List (Int×Int)×List (Int×Int)))) (i:Int) (m0:ByteArray) (m1:Int) (m2:List (Int×Int)) (m3:List (Int×Int)):Option ((Bool×ByteArray×Int×List (Int×Int)×List (Int×Int)) ⊕ (ByteArray×Int×List (Int×Int)×List (Int×Int))):=
 if((decide (i<(((List.length m2):Nat):Int)))=true)then
 if((0:Int)≤i)then
 Option.bind (m2)[(Int.toNat i)]? fun x3=>
 Option.bind (qaD k x3.1 x3.2) fun r10=>
 if((!r10)=true)then
 (some (Sum.inl (false,m0,m1,m2,m3)))
 else
 rec (IntKind.wrap .i64 (i+(1:Int))) m0 m1 m2 m3
 else
 none
 else
 (some (Sum.inr (m0,m1,m2,m3)))
def qS (k n:Nat):Int→ByteArray→Int→List (Int×Int)→List (Int×Int)→Option ((Bool×ByteArray×Int×List (Int×Int)×List (Int×Int)) ⊕ (ByteArray×Int×List (Int×Int)×List (Int×Int))):=Nat.rec (fun _ _ _ _ _=>none) (fun _ r=>qaV k r) n
def qaW (k:Nat) (rec:Int→ByteArray→Int→List (Int×Int)→List (Int×Int)→Option ((Bool×ByteArray×Int×List (Int×Int)×List (Int×Int)) ⊕ (ByteArray×Int×List (Int×Int)×List (Int×Int)))) (i:Int) (m0:ByteArray) (m1:Int) (m2:List (Int×Int)) (m3:List (Int×Int)):Option ((Bool×ByteArray×Int×List (Int×Int)×List (Int×Int)) ⊕ (ByteArray×Int×List (Int×Int)×List (Int×Int))):=
 if((decide (i<(((List.length m3):Nat):Int)))=true)then
 if((0:Int)≤i)then
 Option.bind (m3)[(Int.toNat i)]? fun x3=>
 Option.bind (qaD k x3.1 x3.2) fun r11=>
 if((!r11)=true)then
 (some (Sum.inl (false,m0,m1,m2,m3)))
 else
 if((m1 == (100:Int))=true)then
 if((decide (i>(0:Int)))=true)then
 if((0:Int)≤(IntKind.wrap .i64 (i-(1:Int))))then
 Option.bind (m3)[(Int.toNat (IntKind.wrap .i64 (i-(1:Int))))]? fun x4=>
 Option.bind (qcb k x4.1 x4.2) fun r12=>
 if((0:Int)≤i)then
 Option.bind (m3)[(Int.toNat i)]? fun x5=>
 Option.bind (qcb k x5.1 x5.2) fun r13=>
 Option.bind (qdy k r12.1 r12.2.1 r12.2.2.1 r12.2.2.2 r13.1 r13.2.1 r13.2.2.1 r13.2.2.2) fun r14=>
 if((decide (r14≥(0:Int)))=true)then
 (some (Sum.inl (false,m0,m1,m2,m3)))
 else
 rec (IntKind.wrap .i64 (i+(1:Int))) m0 m1 m2 m3
 else
 none
 else
 none
 else
 rec (IntKind.wrap .i64 (i+(1:Int))) m0 m1 m2 m3
 else
 rec (IntKind.wrap .i64 (i+(1:Int))) m0 m1 m2 m3
 else
 none
 else
 (some (Sum.inr (m0,m1,m2,m3)))
def qU (k n:Nat):Int→ByteArray→Int→List (Int×Int)→List (Int×Int)→Option ((Bool×ByteArray×Int×List (Int×Int)×List (Int×Int)) ⊕ (ByteArray×Int×List (Int×Int)×List (Int×Int))):=Nat.rec (fun _ _ _ _ _=>none) (fun _ r=>qaW k r) n
def qfw (k:Nat) (m0:ByteArray) (m1:Int) (m2:List (Int×Int)) (m3:List (Int×Int)):Option (Bool):=
 Option.bind (qcJ k m0) fun r9=>
 if((!r9)=true)then
 (some false)
 else
 Option.bind (qS k k (0:Int) m0 m1 m2 m3) fun r10=>
 qc r10
 (fun r10=>
 (some r10.1))
 (fun r10=>
 Option.bind (qU k k (0:Int) r10.1 r10.2.1 r10.2.2.1 r10.2.2.2) fun r11=>
 qc r11
 (fun r11=>
 (some r11.1))
 (fun r11=>
 if((r11.2.1 == (115:Int))=true)then
 if(((((List.length r11.2.2.1):Nat):Int) == (2:Int))=true)then
 (some ((((List.length r11.2.2.2):Nat):Int) == (1:Int)))
 else
 (some false)
 else
 if((r11.2.1 == (100:Int))=true)then
 if((decide ((((List.length r11.2.2.1):Nat):Int)≥(1:Int)))=true)then
 if((decide ((((List.length r11.2.2.1):Nat):Int)≤(4:Int)))=true)then
 (some ((IntKind.wrap .i64 ((((List.length r11.2.2.2):Nat):Int)+(1:Int))) == (((List.length r11.2.2.1):Nat):Int)))
 else
 (some false)
 else
 (some false)
 else
 (some false)))
def qh:Nat→ByteArray→Int→List (Int×Int)→List (Int×Int)→Option (Bool)
 | 0,_,_,_,_=>none
 | k+1,m0,m1,m2,m3=>qfw k m0 m1 m2 m3
def qxN:Nat→Inst:=mkI 125 ⟨[.g [.lf .str,.lf (.int .u8),.lf cE,.lf cE]],[]⟩ [⟨[vB],[]⟩] fun k x=>qh k x.1 x.2.1 x.2.2.1 x.2.2.2
theorem qpH (k:Nat):qaH (call cf k) [qsP k,qnf k,qxL k,qxM k]:=
 ac (qtV k) (ac (qmi k) (ac (qAb k) (ac (qAe k) a0)))
def qxO (k:Nat):LInst:=mkL 0 [⟨[(1,.a (.ptr 0 0 0)),(3,vI)],[(0,some (.raw [[.lf .str,.lf (.int .u8),.lf cE,.lf cE]] 4 46 true false false))],1⟩] [⟨none,⟨[(2,vB)],[(0,some (.raw [[.lf .str,.lf (.int .u8),.lf cE,.lf cE]] 4 46 true false false))],1⟩⟩,⟨some 0,⟨[(1,.a (.ptr 0 0 0))],[(0,some (.raw [[.lf .str,.lf (.int .u8),.lf cE,.lf cE]] 4 46 true false false))],1⟩⟩] (fun n x=>qS k n x.1 x.2.1 x.2.2.1 x.2.2.2.1 x.2.2.2.2) k
theorem qq8 (k:Nat):LIo 125 Tryz.f125 0 k (qxO k):=
 lpk [] (qpH k) l0 (fun _=>rfl) (by kernel_rfl) fun n x=>by kernel_rfl
def qxP (k:Nat):LInst:=mkL 2 [⟨[(1,.a (.ptr 0 0 0)),(4,vI)],[(0,some (.raw [[.lf .str,.lf (.int .u8),.lf cE,.lf cE]] 4 46 true false false))],1⟩] [⟨none,⟨[(2,vB)],[(0,some (.raw [[.lf .str,.lf (.int .u8),.lf cE,.lf cE]] 4 46 true false false))],1⟩⟩,⟨some 2,⟨[(1,.a (.ptr 0 0 0))],[(0,some (.raw [[.lf .str,.lf (.int .u8),.lf cE,.lf cE]] 4 46 true false false))],1⟩⟩] (fun n x=>qU k n x.1 x.2.1 x.2.2.1 x.2.2.2.1 x.2.2.2.2) k
theorem qxQ (k:Nat):LIo 125 Tryz.f125 0 k (qxP k):=
 lpk [] (qpH k) (lc (qq8 k) l0) (fun _=>rfl) (by kernel_rfl) fun n x=>by kernel_rfl
theorem qAf:∀k,qg (call cf k) (qxN k):=
 fnk 0 [0,2] Tryz.func125 (fun k=>(qpH k)) (fun k=>(lc (qq8 k) (lc (qxQ k) l0))) ⟨rfl,rfl,⟨rfl,Nat.le_of_ble_eq_true rfl⟩,rfl⟩ (fun _=>rfl) (by kernel_rfl) fun k x=>by kernel_rfl

def qf8 (k:Nat) (a0:ByteArray) (a1:Int) (a2:List (Int×Int)) (a3:List (Int×Int)) (b0:ByteArray) (b1:Int) (b2:List (Int×Int)) (b3:List (Int×Int)):Option (Bool):=
 if(((Array.toList (ByteArray.data a0)) == (Array.toList (ByteArray.data b0)))=true)then
 if((a1 == b1)=true)then
 Option.bind (qcK k a2 b2) fun r9=>
 if(r9=true)then
 Option.bind (qcK k a3 b3) fun r10=>
 (some r10)
 else
 (some false)
 else
 (some false)
 else
 (some false)
def qj:Nat→ByteArray→Int→List (Int×Int)→List (Int×Int)→ByteArray→Int→List (Int×Int)→List (Int×Int)→Option (Bool)
 | 0,_,_,_,_,_,_,_,_=>none
 | k+1,a0,a1,a2,a3,b0,b1,b2,b3=>qf8 k a0 a1 a2 a3 b0 b1 b2 b3
def qxR:Nat→Inst:=mkI 123 ⟨[.g [.lf .str,.lf (.int .u8),.lf cE,.lf cE],.g [.lf .str,.lf (.int .u8),.lf cE,.lf cE]],[]⟩ [⟨[vB],[]⟩] fun k x=>qj k x.1 x.2.1 x.2.2.1 x.2.2.2.1 x.2.2.2.2.1 x.2.2.2.2.2.1 x.2.2.2.2.2.2.1 x.2.2.2.2.2.2.2
theorem qt2:∀k,qg (call cf k) (qxR k):=
 fnk 0 [] Tryz.func123 (fun k=>(ac (qtY k) a0)) (fun k=>l0) ⟨rfl,rfl,⟨rfl,Nat.le_of_ble_eq_true rfl⟩,rfl⟩ (fun _=>rfl) (by kernel_rfl) fun k x=>by kernel_rfl


end
end Go.Proofs.YtlnailgfialgnaaGreatDoor.Am
