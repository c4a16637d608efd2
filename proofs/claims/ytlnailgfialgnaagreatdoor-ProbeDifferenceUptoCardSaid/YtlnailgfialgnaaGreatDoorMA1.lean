/- An abstract machine over the program's own code: a deterministic functional interpreter whose slices carry their contents and whose memory is a list of named blocks. Definitions only. -/
import Derived.Orders
import Derived.Defers
import Derived.ProofKit
import Derived.Below
import Derived.Laws.AppendOwn
import Derived.Maps.AppendAt
import Derived.Laws.Rows
import Derived.Laws.Cells
import Derived.Laws.Tables
import Derived.Laws.CopyRow
import Derived.Deep.MidRow
import Derived.Laws.MakeOwn
import Derived.Laws.OwnMore
import Derived.Lib.ConvBytes
import Derived.MapKept
import Derived.Laws.BytesArg
import Derived.Carry

namespace Go.Proofs.YtlnailgfialgnaaGreatDoor.Am
open Go

inductive At where
 | int (k:IntKind) (n:Int)
 | bool (b:Bool)
 | str (s:ByteArray)
 | snil (es ty:Nat)
 | sl (es n:Nat) (els:List (List At))
 | nilp
 | pp (e:List At) (o:Nat)
 | ptr (m i o:Nat)
 | sm (m lo n:Nat)
 | fn (f:FuncId) (cs:List At)
 | mp (m:Nat)
 deriving Inhabited

inductive Vl where
 | a (x:At)
 | g (cs:List At)
 deriving Inhabited
def Vl.cells:Vl→List At
 | .a x=> [x]
 | .g cs=>cs

inductive Sv where
 | v (x:Vl)
 | t (vs:List Vl)
 | u
 deriving Inhabited

structure Blk where
 els:List (List At)
 es:Nat
 ty:TypeId
 pr:Bool
 fz:Bool
 ar:Bool
 mp:List (At×At):= []
 deriving Inhabited

abbrev Mem:=List (Nat×Option Blk)
structure St where
 fr:List (Nat×Sv)
 mem:Mem
 nx:Nat
 deriving Inhabited

def lk {β:Type}:List (Nat×β)→Nat→Option β
 | [],_=>none
 | (k,v)::r,t=>if k=t then some v else lk r t
def qk (m:Mem) (n:Nat):Option Blk:=
 match lk m n with
 | some (some b)=>some b
 | _=>none

def qb6:Mem→Nat×Option Blk→Mem
 | [],p=> [p]
 | q::r,p=>if q.1=p.1 then p::r else q::qb6 r p
def qB (m:Mem):Mem→Mem
 | []=>m
 | p::r=>qB (qb6 m p) r

def qo {α β:Type} (f:α→Option β):List α→Option (List β)
 | []=>some []
 | x::r=>(f x).bind fun y=>(qo f r).bind fun ys=>some (y::ys)

inductive TD where
 | int (k:IntKind) | bool | str | ptr | sl (e:Nat) | st (fs:List (Nat×Nat)) (ts:List TypeId) | arr (n e:Nat) | mp (k e:Nat) | oth
structure TI where
 d:TD
 size:Nat
 bytes:Nat
 agg:Bool
 zero:List At
 eqs:Bool

def qJ (T:TypeId→Option TI) (t:TypeId):Option TD:=(T t).bind fun i=>some i.d

inductive Kp where
 | s (t:Nat)
 | b (t:Nat)

structure Cfg where
 T:TypeId→Option TI
 F:FuncId→Option Func
 X:FuncId→Option (List Vl→List Blk→Option (List Vl×List Blk))
 mutA:FuncId→Bool
 ownR:FuncId→Bool
 keep:FuncId→Nat→List Kp
 lend:FuncId→Bool:=fun _=>false

def At.pr:At→Bool
 | .ptr .. =>false
 | .sm .. =>false
 | .mp .. =>false
 | _=>true
def At.nm:At→List Nat
 | .ptr m _ _=> [m]
 | .sm m _ _=> [m]
 | .mp m=> [m]
 | _=> []
def At.noSl:At→Bool
 | .sl .. =>false
 | .pp .. =>false
 | .fn .. =>false
 | _=>true
def At.smn:At→List Nat
 | .sm m _ _=> [m]
 | _=> []

def qeU (mem:Mem):At→Option At
 | .sm m lo n=>(qk mem m).bind fun b=>if b.pr∧lo+n≤b.els.length then some (.sl b.es n ((b.els.drop lo).take n))else none
 | .snil es _=>some (.sl es 0 [])
 | x=>some x
def qeE (mem:Mem):Vl→Option Vl
 | .a x=>(qeU mem x).bind fun y=>some (.a y)
 | .g cs=>(qo (qeU mem) cs).bind fun ys=>some (.g ys)

def idx:List Nat→Nat→Option Nat
 | [],_=>none
 | k::r,m=>if k=m then some 0 else(idx r m).bind fun i=>some (i+1)
def qdS (ρ:Nat→Option Nat):At→Option At
 | .ptr m i o=>(ρ m).bind fun m'=>some (.ptr m' i o)
 | .mp m=>(ρ m).bind fun m'=>some (.mp m')
 | .sm m lo n=>(ρ m).bind fun m'=>some (.sm m' lo n)
 | x=>some x
def qeF (ρ:Nat→Option Nat):Vl→Option Vl
 | .a x=>(qdS ρ x).bind fun y=>some (.a y)
 | .g cs=>(qo (qdS ρ) cs).bind fun ys=>some (.g ys)
def qdJ (ρ:Nat→Option Nat) (b:Blk):Option Blk:=
 if b.pr then some b else(qo (qo (qdS ρ)) b.els).bind fun els=>some { b with els:=els }
def qgi (mem:Mem) (b:Blk):Option Blk:=
 if b.pr then some b else(qo (qo (qeU mem)) b.els).bind fun els=>some { b with els:=els }

def qd (vs:List Vl):List Nat:=vs.flatMap fun v=>v.cells.flatMap At.nm
def qqK (b:Blk):List Nat:=if b.pr then [] else b.els.flatMap fun e=>e.flatMap At.nm
def qdK (mem:Mem) (m:Nat):List Nat:=
 match qk mem m with
 | some b=>qqK b
 | none=> []
def At.ptrs:At→List Nat
 | .ptr m _ _=> [m]
 | .mp m=> [m]
 | _=> []
def qgj (mem:Mem) (m:Nat):List Nat:=
 match qk mem m with
 | some b=>if b.pr then [] else b.els.flatMap fun e=>e.flatMap At.ptrs
 | none=> []
def qfo (vs:List Vl):List Nat:=vs.flatMap fun v=>v.cells.flatMap At.smn
def qd3 (mem:Mem) (m:Nat):List Nat:=
 match qk mem m with
 | some b=>if b.pr then [] else b.els.flatMap fun e=>e.flatMap At.smn
 | none=> []
def clo (ns:Nat→List Nat):Nat→List Nat→List Nat→List Nat
 | 0,_,acc=>acc
 | _+1,[],acc=>acc
 | k+1,m::ms,acc=>if acc.contains m then clo ns k ms acc else clo ns k (ms++ns m) (acc++ [m])

def cnt {α:Type}:Nat→List α→List Nat
 | _,[]=> []
 | n,_::r=>n::cnt (n+1) r

structure Eff where
 v:Sv
 upd:Mem
 nn:Nat
 rd:List Nat

def qkN:Value→Option At
 | .int k n=>some (.int k n)
 | .bool b=>some (.bool b)
 | .string s=>some (.str s)
 | .slice none 0 0=>some (.snil 0 0)
 | .pointer none=>some .nilp
 | _=>none
def ev (fr:List (Nat×Sv)):Operand→Option Sv
 | .tmp t=>lk fr t
 | .const v=>(qkN v).bind fun x=>some (.v (.a x))
 | .func f=>some (.v (.a (.fn f [])))
 | .global _=>none
def svA:Sv→Option At
 | .v (.a x)=>some x
 | _=>none
def svV:Sv→Option Vl
 | .v x=>some x
 | _=>none
def evA (fr:List (Nat×Sv)) (o:Operand):Option At:=(ev fr o).bind svA
def asB:At→Option Bool
 | .bool b=>some b
 | _=>none
def asI:At→Option Int
 | .int _ i=>some i
 | _=>none
def evB (fr:List (Nat×Sv)) (o:Operand):Option Bool:=(evA fr o).bind asB
def evI (fr:List (Nat×Sv)) (o:Operand):Option Int:=(evA fr o).bind asI
def evV (fr:List (Nat×Sv)) (o:Operand):Option Vl:=(ev fr o).bind svV

def qmP (op:BinOp) (k:IntKind) (x y:Int):Option At:=
 match op with
 | .add=>some (.int k (k.wrap (x+y)))
 | .sub=>some (.int k (k.wrap (x-y)))
 | .mul=>some (.int k (k.wrap (x*y)))
 | .quo=>if y=0 then none else some (.int k (k.wrap (x.tdiv y)))
 | .rem=>if y=0 then none else some (.int k (x.tmod y))
 | .eql=>some (.bool (x == y))
 | .neq=>some (.bool (x != y))
 | .lss=>some (.bool (decide (x<y)))
 | .leq=>some (.bool (decide (x≤y)))
 | .gtr=>some (.bool (decide (x>y)))
 | .geq=>some (.bool (decide (x≥y)))
 | .and=>some (.int k (k.wrap ((BitVec.ofInt k.bits x &&& BitVec.ofInt k.bits y).toNat:Int)))
 | .or=>some (.int k (k.wrap ((BitVec.ofInt k.bits x ||| BitVec.ofInt k.bits y).toNat:Int)))
 | .xor=>some (.int k (k.wrap ((BitVec.ofInt k.bits x ^^^ BitVec.ofInt k.bits y).toNat:Int)))
 | _=>none
def qhb (T:TypeId→Option TI) (op:BinOp) (ty:TypeId):At→At→Option At
 | .int k x,.int k' y=>
  match op with
  | .shl=>if y<0 then none else some (.int k (k.wrap (x*2^(min y.toNat k.bits))))
  | .shr=>if y<0 then none else some (.int k (x.fdiv (2^(min y.toNat k.bits))))
  | _=>if k=k' then qmP op k x y else none
 | .str x,.str y=>
  match op with
  | .add=>if((x.size+y.size:Nat):Int)>IntKind.i64.max then none else some (.str (x++y))
  | .eql=>some (.bool (x.data.toList == y.data.toList))
  | .neq=>some (.bool (!(x.data.toList == y.data.toList)))
  | _=>none
 | .bool x,.bool y=>
  match qJ T ty,op with
  | some .bool,.eql=>some (.bool (x == y))
  | some .bool,.neq=>some (.bool (!(x == y)))
  | _,_=>none
 | x,y=>
  match qJ T ty with
  | some .ptr=>
   let r:Option Bool:=match x,y with
    | .nilp,.nilp=>some true
    | .nilp,.ptr .. =>some false
    | .nilp,.pp .. =>some false
    | .ptr ..,.nilp=>some false
    | .pp ..,.nilp=>some false
    | _,_=>none
   match op with
   | .eql=>r.bind fun b=>some (.bool b)
   | .neq=>r.bind fun b=>some (.bool (!b))
   | _=>none
  | _=>none
def unA (op:UnOp):At→Option At
 | .int k n=>match op with
  | .neg=>some (.int k (k.wrap (0-n)))
  | _=>none
 | .bool b=>match op with
  | .not=>some (.bool (!b))
  | _=>none
 | _=>none
def qjE (T:TypeId→Option TI) (src dst:TypeId):At→Option At
 | .int _ n=>match qJ T src,qJ T dst with
  | some (.int _),some (.int k)=>some (.int k (k.wrap n))
  | _,_=>none
 | .str s=>match qJ T src,qJ T dst with
  | some .str,some .str=>some (.str s)
  | some .str,some (.sl e)=>match qJ T e with
   | some (.int .u8)=>some (.sl 1 s.size (s.data.toList.map fun b=> [.int .u8 b.toNat]))
   | _=>none
  | _,_=>none
 | _=>none

def qeP (cs:List At) (o:Nat) (xs:List At):List At:=cs.take o++xs++cs.drop (o+xs.length)

def qhi (ti:TI) (e:List At) (o:Nat):Option Vl:=
 if ti.agg then(if o+ti.size≤e.length then some (.g ((e.drop o).take ti.size))else none)
 else(e[o]?).bind fun x=>some (.a x)

def qhQ (ds:List (Nat×Nat)):List At→List (Nat×Vl)→Option (List At)
 | cs,[]=>some cs
 | cs,(i,v)::r=>
  (ds[i]?).bind fun p=>if v.cells.length=p.2∧p.1+p.2≤cs.length then qhQ ds (qeP cs p.1 v.cells) r else none
def qit (es:Nat):List (List At)→List (Nat×Vl)→Option (List (List At))
 | cs,[]=>some cs
 | cs,(i,v)::r=>if v.cells.length=es∧i<cs.length then qit es (cs.set i v.cells) r else none

def elsOf (mem:Mem) (es:Nat):At→Option (Nat×List (List At)×Bool×List Nat)
 | .sl es' n els=>if es'=es then some (n,els,true,[])else none
 | .snil .. =>some (0,[],true,[])
 | .sm m lo n=>(qk mem m).bind fun b=>if b.es=es∧lo+n≤b.els.length then some (n,(b.els.drop lo).take n,b.pr,[m])else none
 | _=>none

def one (v:Vl):Eff→Eff:=fun e=>{ e with v:= .v v }

def qcu (fr:List (Nat×Sv)) (d:Nat):Option Operand→Option Int
 | none=>some d
 | some o=>evI fr o

section
variable (c : Cfg) (callF : FuncId → List Vl → List Blk → Option (List Vl × List Blk))

def qaO (mem:Mem):List Nat→Mem
 | []=> []
 | m::r=>(match qk mem m with | some b=>(m,some { els:=b.els,es:=b.es,ty:=b.ty,pr:=b.pr,fz:=true,ar:=b.ar,mp:=b.mp })::qaO mem r | none=>qaO mem r)
def qdT:List Nat→List Blk→Mem
 | n::r,b::s=>(n,some b)::qdT r s
 | _,_=> []

def qls:At→At
 | .snil es _=> .sl es 0 []
 | x=>x
def zf (ti:TI):List At:=ti.zero.map qls
def qgD (z:List At):Vl→Vl
 | .a (.snil a b)=>match z with
  | [.snil es ty]=> .a (.snil es ty)
  | _=> .a (.snil a b)
 | v=>v
def qpo (mem:Mem) (els:List (List At)):Option (List (List At)):=qo (qo (qeU mem)) els
def qkf (els:List (List At)):List Nat:=els.flatMap fun e=>e.flatMap At.smn
def arF (mem:Mem) (m:Nat) (v:Vl):Option (Vl×List Nat):=(qk mem m).bind fun b=>
 if b.ar then(qeE mem v).bind fun v'=>some (v',qfo [v])else some (v,[])

def qhv (mem:Mem):At→Option (At×List Nat)
 | .ptr m i o=>(qk mem m).bind fun b=>if b.pr then(b.els[i]?).bind fun e=>some (.pp e o,[m])else none
 | .sm .. =>none
 | .mp .. =>none
 | x=>some (x,[])
def qjF:At→At→Bool
 | .int k a,.int k' b=>k == k' && a == b
 | .str a,.str b=>a.data.toList == b.data.toList
 | .bool a,.bool b=>a == b
 | _,_=>false
def qdY:TD→At→Bool
 | .int k,.int k' _=>k' == k
 | .str,.str _=>true
 | .bool,.bool _=>true
 | _,_=>false
def qgk:List (At×At)→At→Option (Nat×At)
 | [],_=>none
 | p::r,x=>if qjF x p.1 then some (0,p.2)else(qgk r x).bind fun q=>some (q.1+1,q.2)
def qhw (l:List (At×At)) (x v:At):List (At×At):=match qgk l x with
 | some q=>l.set q.1 (x,v)
 | none=>l++ [(x,v)]
def mapM (T:TypeId→Option TI) (t:TypeId) (mem:Mem) (a k:At):Option (TypeId×Nat×Blk):=
 match qJ T t with
 | some (.mp kt et)=>(qJ T kt).bind fun d=>match a with
  | .mp m=>(qk mem m).bind fun b=>if qdY d k∧b.mp.all (fun p=>qdY d p.1)then some (et,m,b)else none
  | _=>none
 | _=>none
def qlt:List Vl→Sv
 | [x]=> .v x
 | xs=> .t xs

def qjG (b:Blk):Bool:= !b.fz && (b.mp.isEmpty && b.els.all fun e=>e.all At.noSl)
def qms (l:Bool) (N:List Nat) (rs:List Vl) (bs:List Blk) (u:Mem):Option Mem:=
 if l then(if N.isEmpty && (rs.all (fun v=>v.cells.all At.noSl) && bs.all qjG)then some [] else none)
 else some (if bs.isEmpty && rs.all (fun v=>v.cells.all At.noSl)then [] else u)
def qgd (f:FuncId) (args:List Vl) (mem:Mem) (nx:Nat):Option Eff:=
 (if c.mutA f then some args else qo (qeE mem) args).bind fun vals=>
 let N:=clo (fun m=>if c.mutA f then qdK mem m else qgj mem m) 64 (qd vals) []
 let F:=if c.mutA f then [] else qfo args++N.flatMap (qd3 mem)
 let mem1:=qB mem (qaO mem F)
 (qo (fun m=>(qk mem1 m).bind fun b=>(if c.mutA f then some b else qgi mem b).bind (qdJ (idx N))) N).bind fun blks=>
 (qo (qeF (idx N)) vals).bind fun vals'=>
 (callF f vals' blks).bind fun r=>
 let NL:=N++cnt nx (r.2.drop N.length)
 (qo (qeF (fun i=>NL[i]?)) r.1).bind fun rs=>
 (qo (qdJ (fun i=>NL[i]?)) r.2).bind fun bs=>
 (qms (c.lend f) N r.1 r.2 (qaO mem F)).bind fun lu=>
 some { v:=qlt rs,upd:=lu++qdT NL bs,nn:=nx+(r.2.length-N.length),rd:=N++F }

def qdL (t:TypeId) (s x:At) (mem:Mem) (nx:Nat):Option Eff:=
 match qJ c.T t with
 | some (.sl e)=>(c.T e).bind fun te=>
  (elsOf mem te.size x).bind fun src=>
  (match s with
   | .snil .. =>some (([]:List (List At)),0,true,([]:List Nat))
   | .sm m lo n=>(qk mem m).bind fun b=>if lo=0∧b.es=te.size∧b.ty=e∧n≤b.els.length∧ !b.fz then some (b.els.take n,n,b.pr,[m])else none
   | _=>none).bind fun base=>
  if(base.2.1+src.1)*te.bytes≤140737488355328∧0<te.size∧0<te.bytes∧te.zero.length=te.size then
   some { v:= .v (.a (.sm nx 0 (base.2.1+src.1))),upd:=base.2.2.2.map (fun m=>(m,none))++ [(nx,some (Blk.mk (base.1++src.2.1) te.size e (base.2.2.1 && src.2.2.1) false true []))],nn:=nx+1,rd:=base.2.2.2++src.2.2.2 }
  else none
 | _=>none

def qeV (t:TypeId) (a:At) (mem:Mem) (nx:Nat):Option Eff:=
 match qJ c.T t with
 | some (.sl e)=>(c.T e).bind fun te=>
  match a with
  | .snil .. =>some { v:= .t [],upd:= [],nn:=nx,rd:= [] }
  | .sm m lo n=>(qk mem m).bind fun b=>
   if lo+n≤b.els.length∧b.es=te.size∧ !b.fz∧te.zero.length=te.size∧0<te.size then
    some { v:= .t [],upd:= [(m,some { b with els:=b.els.take lo++List.replicate n (zf te)++b.els.drop (lo+n) })],nn:=nx,rd:= [m] }
   else none
  | _=>none
 | _=>none

def qge:List (List At)→Option (List UInt8)
 | []=>some []
 | [.int .u8 n]::r=>(qge r).bind fun xs=>some (n.toNat.toUInt8::xs)
 | _=>none
def val (v:Vl) (nx:Nat):Option Eff:=some { v:= .v v,upd:= [],nn:=nx,rd:= [] }
def valA (x:Option At) (nx:Nat):Option Eff:=x.bind fun x=>val (.a x) nx

def qsg (a b:At) (nx:Nat):Option Eff:=
 match a,b with
 | .int k x,.int _ y=>val (.a (.int k (max x y))) nx
 | _,_=>none
def qsh (a b:At) (nx:Nat):Option Eff:=
 match a,b with
 | .int k x,.int _ y=>val (.a (.int k (min x y))) nx
 | _,_=>none

def eqA:List At→List At→Option Bool
 | [],[]=>some true
 | .int k x::r,.int k2 y::s=>if k=k2 then(eqA r s).bind fun b=>some (x == y && b)else none
 | _,_=>none
def gOf (fr:List (Nat×Sv)) (o:Operand):Option (List At):=
 match ev fr o with
 | some (.v (.g cs))=>some cs
 | _=>none
def eqG (op:BinOp) (ti:TI) (cs:List At) (v:Vl) (nx:Nat):Option Eff:=
 match ti.d,v with
 | .st fs _,.g ds=>if ti.eqs=true∧fs.length=cs.length then(eqA cs ds).bind fun b=>match op with
  | .eql=>val (.a (.bool b)) nx
  | .neq=>val (.a (.bool (!b))) nx
  | _=>none
  else none
 | _,_=>none
def stp (o:Oper) (fr:List (Nat×Sv)) (mem:Mem) (nx:Nat):Option Eff:=
 match o.op with
 | .move x | .assign x=>
  (ev fr x).bind fun v=>
  match v with
  | .v (.a (.snil ..))=>match qJ c.T o.type with
   | some (.sl e)=>(c.T e).bind fun te=>val (.a (.snil te.size e)) nx
   | _=>none
  | .u=>none
  | v=>some { v:=v,upd:= [],nn:=nx,rd:= [] }
 | .pick k a b=>
  (evB fr k).bind fun t=>if t then(evA fr a).bind (fun x=>val (.a x) nx)else(evA fr b).bind fun x=>val (.a x) nx
 | .alloc t=>(c.T t).bind fun ti=>
  if ti.zero.length≠ti.size∨ti.size=0 then none else some { v:= .v (.a (.ptr nx 0 0)),upd:= [(nx,some { els:= [ti.zero],es:=ti.size,ty:=t,pr:=true,fz:=false,ar:=false })],nn:=nx+1,rd:= [] }
 | .box t x=>(c.T t).bind fun ti=>(evV fr x).bind fun v=>
  if v.cells.length=ti.size∧ti.size≠0 then
  some { v:= .v (.a (.ptr nx 0 0)),upd:= [(nx,some { els:= [v.cells],es:=ti.size,ty:=t,pr:=v.cells.all At.pr,fz:=false,ar:=false })],nn:=nx+1,rd:= [] } else none
 | .makeMap t r=>if r.isNone then some { v:= .v (.a (.mp nx)),upd:= [(nx,some { els:= [],es:=0,ty:=t,pr:=true,fz:=false,ar:=true,mp:= [] })],nn:=nx+1,rd:= [] } else none
 | .lookup t x k ok=>(evA fr x).bind fun a=>(evA fr k).bind fun key=>(mapM c.T t mem a key).bind fun q=>(c.T q.1).bind fun te=>
  if ok=false∧te.agg=false∧te.size=1∧te.zero.length=te.size then
   (match qgk q.2.2.mp key with | some r=>some r.2 | none=>te.zero[0]?).bind fun v=>some { v:= .v (.a v),upd:= [],nn:=nx,rd:= [q.2.1] }
  else none
 | .mapUpdate t x k y=>(evA fr x).bind fun a=>(evA fr k).bind fun key=>(evA fr y).bind fun v=>(mapM c.T t mem a key).bind fun q=>
  if v.pr∧ !q.2.2.fz then some { v:= .u,upd:= [(q.2.1,some { q.2.2 with mp:=qhw q.2.2.mp key v })],nn:=nx,rd:= [q.2.1] } else none
 | .insert t x k y=>(evA fr x).bind fun a=>(evA fr k).bind fun key=>(evA fr y).bind fun v=>(mapM c.T t mem a key).bind fun q=>
  if v.pr∧ !q.2.2.fz then some { v:= .u,upd:= [(q.2.1,some { q.2.2 with mp:=qhw q.2.2.mp key v })],nn:=nx,rd:= [q.2.1] } else none
 | .build t parts=>(c.T t).bind fun ti=>
  match ti.d with
  | .st fs _=>if ti.zero.length≠ti.size then none else(qo (fun p:Nat×Operand=>(evV fr p.2).bind fun v=>some (p.1,v)) parts.toList).bind fun ps=>
   (qhQ fs ti.zero ps).bind fun cs=>val (.g cs) nx
  | .arr n e=>(c.T e).bind fun te=>if ti.zero.length≠ti.size then none else(qo (fun p:Nat×Operand=>(evV fr p.2).bind fun v=>some (p.1,v)) parts.toList).bind fun ps=>
   (qhQ ((List.range n).map fun j=>(j*te.size,te.size)) ti.zero ps).bind fun cs=>val (.g cs) nx
  | _=>none
 | .buildSlice t len parts=>
  match qJ c.T t with
  | some (.sl e)=>(c.T e).bind fun te=>
   (qo (fun p:Nat×Operand=>(evV fr p.2).bind fun v=>some (p.1,qgD te.zero v)) parts.toList).bind fun ps=>
   (qit te.size (List.replicate len te.zero) ps).bind fun els0=>
   (qpo mem els0).bind fun els=>
   if len*te.size≤16777216∧0<te.size∧len<9223372036854775807∧te.zero.length=te.size then
   some { v:= .v (.a (.sm nx 0 len)),upd:=qaO mem (qkf els0)++ [(nx,some { els:=els,es:=te.size,ty:=e,pr:=els.all fun e=>e.all At.pr,fz:=false,ar:=true })],nn:=nx+1,rd:=qkf els0 }
   else none
  | _=>none
 | .load t x=>(c.T t).bind fun ti=>(evA fr x).bind fun a=>
  match a with
  | .ptr m i o=>(qk mem m).bind fun b=>(b.els[i]?).bind fun e=>(qhi ti e o).bind fun v=>some { v:= .v v,upd:= [],nn:=nx,rd:= [m] }
  | .pp e o=>(qhi ti e o).bind fun v=>val v nx
  | _=>none
 | .store t x y=>(c.T t).bind fun ti=>(evV fr y).bind fun v=>(evA fr x).bind fun a=>
  match a with
  | .ptr m i o=>(arF mem m v).bind fun q=>(qk (qB mem (qaO mem q.2)) m).bind fun b=>(b.els[i]?).bind fun e=>
   if q.1.cells.length=ti.size∧o+ti.size≤e.length∧ !b.fz then
    some { v:= .u,upd:=qaO mem q.2++ [(m,some { b with els:=b.els.set i (qeP e o q.1.cells),pr:=b.pr && q.1.cells.all At.pr })],nn:=nx,rd:=m::q.2 }
   else none
  | _=>none
 | .nilCheck x=>(evA fr x).bind fun a=>
  match a with
  | .ptr m i o=>val (.a (.ptr m i o)) nx
  | .pp e o=>val (.a (.pp e o)) nx
  | _=>none
 | .binOp op ty x y _=>match gOf fr x with
  | some cs=>(c.T ty).bind fun ti=>(evV fr y).bind fun v=>eqG op ti cs v nx
  | none=>(evA fr x).bind fun a=>(evA fr y).bind fun b=>valA (qhb c.T op ty a b) nx
 | .unOp op _ x=>(evA fr x).bind fun a=>valA (unA op a) nx
 | .convert src dst x=>(evA fr x).bind fun a=>
  match qJ c.T src,qJ c.T dst with
  | some (.sl e),some .str=>match qJ c.T e with
   | some (.int .u8)=>(elsOf mem 1 a).bind fun q=>(qge q.2.1).bind fun bs=>
    some { v:= .v (.a (.str ⟨bs.toArray⟩)),upd:= [],nn:=nx,rd:=q.2.2.2 }
   | _=>none
  | _,_=>valA (qjE c.T src dst a) nx
 | .makeSlice t l k=>
  match qJ c.T t with
  | some (.sl e)=>(c.T e).bind fun te=>
   (evI fr l).bind fun l=>(evI fr k).bind fun k=>
    if 0≤l∧l≤k∧k*te.bytes≤140737488355328∧0<te.size∧0<te.bytes∧te.zero.length=te.size then
     some { v:= .v (.a (.sm nx 0 l.toNat)),upd:= [(nx,some { els:=List.replicate k.toNat (zf te),es:=te.size,ty:=e,pr:=true,fz:=false,ar:=true })],nn:=nx+1,rd:= [] }
    else none
  | _=>none
 | .slice t x lo hi mx=>
  if mx.isSome then none else
  (qJ c.T t).bind fun td=>(evA fr x).bind fun a=>
  match td,a with
  | .str,.str s=>
   (qcu fr 0 lo).bind fun l=>(qcu fr s.size hi).bind fun h=>
   if 0≤l∧l≤h∧h≤s.size then val (.a (.str (s.extract l.toNat h.toNat))) nx else none
  | .sl e,.sl es n els=>(c.T e).bind fun te=>
   (qcu fr 0 lo).bind fun l=>(qcu fr n hi).bind fun h=>
   if 0≤l∧l≤h∧h≤n∧es=te.size then val (.a (.sl es (h.toNat-l.toNat) ((els.drop l.toNat).take (h.toNat-l.toNat)))) nx else none
  | .sl e,.sm m b n=>(c.T e).bind fun te=>
   (qk mem m).bind fun B=>
   (qcu fr 0 lo).bind fun l=>(qcu fr n hi).bind fun h=>
   if 0≤l∧l≤h∧b+h.toNat≤B.els.length∧(l<h∨lo.isNone)∧B.es=te.size∧0<te.size then some { v:= .v (.a (.sm m (b+l.toNat) (h.toNat-l.toNat))),upd:= [],nn:=nx,rd:= [m] } else none
  | _,_=>none
 | .fieldAddr s x f=>
  match qJ c.T s with
  | some (.st fs _)=>(fs[f]?).bind fun p=>
   if p.2=0 then none else(evA fr x).bind fun a=>
   match a with
   | .ptr m i o=>val (.a (.ptr m i (o+p.1))) nx
   | .pp e o=>val (.a (.pp e (o+p.1))) nx
   | _=>none
  | _=>none
 | .field s x f=>
  match qJ c.T s with
  | some (.st fs ts)=>(fs[f]?).bind fun p=>(ts[f]?).bind fun ft=>(evV fr x).bind fun v=>
   match v with
   | .g cs=>(c.T ft).bind fun ti=>(qhi ti cs p.1).bind fun v=>val v nx
   | _=>none
  | _=>none
 | .indexAddr t x i=>
  match qJ c.T t with
  | some (.sl e)=>(c.T e).bind fun te=>(evI fr i).bind fun i=>(evA fr x).bind fun a=>
   match a with
   | .sl es n els=>if 0≤i∧i<n∧es=te.size then(els[i.toNat]?).bind fun el=>val (.a (.pp el 0)) nx else none
   | .sm m b n=>(qk mem m).bind fun B=>if 0≤i∧i<n∧B.es=te.size then some { v:= .v (.a (.ptr m (b+i.toNat) 0)),upd:= [],nn:=nx,rd:= [m] } else none
   | _=>none
  | _=>none
 | .index t x i=>match gOf fr x with
  | some cs=>(c.T t).bind fun ti=>(evI fr i).bind fun i=>match ti.d with
   | .arr n e=>(c.T e).bind fun te=>if te.size=1∧te.agg=false∧0≤i∧i<n then(cs[i.toNat]?).bind fun x=>val (.a x) nx else none
   | _=>none
  | none=>(qJ c.T t).bind fun td=>(evA fr x).bind fun a=>(evI fr i).bind fun i=>
  match td,a with
  | .str,.str s=>
   if 0≤i then(s.data[i.toNat]?).bind fun b=>val (.a (.int .u8 b.toNat)) nx else none
  | _,_=>none
 | .extract x i=>(ev fr x).bind fun v=>
  match v with
  | .t vs=>(vs[i]?).bind fun v=>val v nx
  | _=>none
 | .call k=>
  match k.callee with
  | .builtin .len=>
   ((k.argTypes[0]?).bind fun t=>qJ c.T t).bind fun td=>((k.args[0]?).bind fun o=>evA fr o).bind fun a=>
   match td,a with
   | .str,.str s=>val (.a (.int .i64 s.size)) nx
   | .sl _,.sl _ n _=>val (.a (.int .i64 n)) nx
   | .sl _,.sm _ _ n=>val (.a (.int .i64 n)) nx
   | .sl _,.snil .. =>val (.a (.int .i64 0)) nx
   | .mp ..,.mp m=>(qk mem m).bind fun b=>some { v:= .v (.a (.int .i64 b.mp.length)),upd:= [],nn:=nx,rd:= [m] }
   | _,_=>none
  | .builtin .min=>
   ((k.args[0]?).bind fun o=>evA fr o).bind fun a=>((k.args[1]?).bind fun o=>evA fr o).bind fun b=>
   if k.args.size=2 then qsh a b nx else none
  | .builtin .max=>
   ((k.args[0]?).bind fun o=>evA fr o).bind fun a=>((k.args[1]?).bind fun o=>evA fr o).bind fun b=>
   if k.args.size=2 then qsg a b nx else none
  | .builtin .append=>
   (k.argTypes[0]?).bind fun t=>(k.argTypes[1]?).bind fun t'=>((k.args[0]?).bind fun o=>evA fr o).bind fun s=>((k.args[1]?).bind fun o=>evA fr o).bind fun x=>
   if t'=t then qdL c t s x mem nx else none
  | .builtin .clear=>
   (k.argTypes[0]?).bind fun t=>((k.args[0]?).bind fun o=>evA fr o).bind fun a=>qeV c t a mem nx
  | .builtin _=>none
  | .value f=>
   (evA fr f).bind fun a=>match a with
   | .fn g cs=>(qo (evV fr) k.args.toList).bind fun args=>qgd c callF g (args++cs.map Vl.a) mem nx
   | _=>none
  | .invoke .. =>none
 | .makeFunc fn first cs=>if first.isEmpty then match fn with
  | .func f=>(qo (evA fr) cs.toList).bind fun xs=>(qo (qhv mem) xs).bind fun ps=>
   some { v:= .v (.a (.fn f (ps.map (·.1)))),upd:=qaO mem (ps.flatMap (·.2)),nn:=nx,rd:=ps.flatMap (·.2) }
  | _=>none
  else none
 | _=>none

def qfp (nt:Nat) (fr:List (Nat×Sv)):Option Nat→Sv→Option (List (Nat×Sv))
 | some d,v=>if d<nt then some ((d,v)::fr)else none
 | none,_=>some fr

def qdG (ops:List Oper) (o:Oper) (fr:List (Nat×Sv)):Option Bool:=
 match o.guard with
 | none=>some true
 | some (j,want)=>
  ((ops[j]?).bind (·.dst)).bind fun d=>
  (lk fr d).bind fun v=>
  match v with
  | .v (.a (.bool b))=>some (b == want)
  | _=>some false

structure Info where
 rd:List Nat
 wr:List Nat

def qh4 (F:St→List Info→Option (St×List Info)) (mem:Mem) (nx:Nat) (i:Info) (is:List Info):Option (List (Nat×Sv))→Option (St×List Info)
 | none=>none
 | some fr=>F { fr:=fr,mem:=mem,nx:=nx } (i::is)
def qkg (F:St→List Info→Option (St×List Info)) (nt:Nat) (o:Oper) (σ:St) (is:List Info):Option Eff→Option (St×List Info)
 | none=>none
 | some e=>qh4 F (qB σ.mem e.upd) e.nn { rd:=e.rd,wr:=e.upd.map (·.1) } is (qfp nt σ.fr o.dst e.v)
def qfP (F:St→List Info→Option (St×List Info)) (nt:Nat) (o:Oper) (σ:St) (is:List Info):Option Bool→Option (St×List Info)
 | none=>none
 | some true=>qkg F nt o σ is (stp c callF o σ.fr σ.mem σ.nx)
 | some false=>qh4 F σ.mem σ.nx { rd:= [],wr:= [] } is (qfp nt σ.fr o.dst .u)
def qcv (nt:Nat) (ops:List Oper):List Oper→St→List Info→Option (St×List Info)
 | [],σ,is=>some (σ,is)
 | o::r,σ,is=>qfP c callF (qcv nt ops r) nt o σ is (qdG ops o σ.fr)
end

def qvK (ops:List Oper):List Nat:=
 ops.foldl (fun acc o=>acc++ [(o.after.toList.filter (Region.binds .any)).foldl (fun m e=>m ||| 2^e.on ||| acc.getD e.on 0) 0]) []
def qhq (ops:List Oper) (o:Oper):List Nat:=
 (o.op.operands.toList.filterMap fun | .tmp t=>some t | _=>none)++
 (match o.guard with | some (j,_)=>((ops[j]?).bind (·.dst)).toList | none=> [])
def qkO (xs ys:List Nat):Bool:=xs.any ys.contains
def clash (ops:List Oper) (o p:Oper) (i j:Info):Bool:=
 (match o.dst with | some d=>(qhq ops p).contains d || p.dst == some d | none=>false) ||
 (match p.dst with | some d=>(qhq ops o).contains d | none=>false) ||
 qkO i.wr j.rd || qkO i.wr j.wr || qkO i.rd j.wr
def qoJ (ops:List Oper) (an:List Nat) (is:List Info):Bool:=
 (List.range ops.length).all fun j=>(List.range j).all fun i=>
  match ops[i]?,ops[j]?,is[i]?,is[j]? with
  | some o,some p,some a,some b=> !(clash ops o p a b) || (an.getD j 0).testBit i
  | _,_,_,_=>false
def qkP (ops:List Oper) (is:List Info):Bool:=
 is.length == ops.length && qoJ ops (qvK ops) is &&
 ops.zipIdx.all (fun p=>p.1.after.all fun e=> !(Region.binds .any e) || decide (e.on<p.2))

inductive Out where
 | norm (σ:St)
 | exit (id:Nat) (σ:St)
 | ret (σ:St)

def qdl (nx:Nat):At→At×Mem×Nat
 | .snil es ty=>(.sm nx 0 0,[(nx,some { els:= [],es:=es,ty:=ty,pr:=true,fz:=false,ar:=true })],nx+1)
 | x=>(x,[],nx)
def qeG:Nat→List At→List At×Mem×Nat
 | nx,[]=>([],[],nx)
 | nx,x::r=>let p:=qdl nx x;let q:=qeG p.2.2 r;(p.1::q.1,p.2.1++q.2.1,q.2.2)
def qgl (σ:St):List Kp→Option (List (Nat×Sv)×Mem×Nat)
 | []=>some ([],[],σ.nx)
 | .s t::r=>(qgl σ r).bind fun q=>
  match lk σ.fr t with
  | some (.v (.a x))=>let p:=qdl q.2.2 x;some ((t,.v (.a p.1))::q.1,q.2.1++p.2.1,p.2.2)
  | some (.v (.g cs))=>let p:=qeG q.2.2 cs;some ((t,.v (.g p.1))::q.1,q.2.1++p.2.1,p.2.2)
  | _=>none
 | .b t::r=>(qgl σ r).bind fun q=>
  match lk σ.fr t with
  | some (.v (.a (.ptr m 0 o)))=>(qk (qB σ.mem q.2.1) m).bind fun b=>
   match b.els with
   | [e]=>let p:=qeG q.2.2 e
    some ((t,.v (.a (.ptr m 0 o)))::q.1,q.2.1++(p.2.1++ [(m,some { b with els:= [p.1],pr:=p.1.all At.pr })]),p.2.2)
   | _=>none
  | _=>none
def qkh (ρ:Nat→Option Nat):List (Nat×Sv)→Option (List (Nat×Sv))
 | []=>some []
 | (t,.v x)::r=>(qeF ρ x).bind fun y=>(qkh ρ r).bind fun s=>some ((t,.v y)::s)
 | _=>none
def qgR (p:Nat) (ks:List Kp) (σ:St):Option St:=
 (qgl σ ks).bind fun q=>
 let mem:=qB σ.mem q.2.1
 let N:=clo (qdK mem) 64 (List.range p++qd (q.1.filterMap fun s=>match s.2 with | .v x=>some x | _=>none)) []
 (qkh (idx N) q.1).bind fun fr=>
 (qo (fun m=>(qk mem m).bind (qdJ (idx N))) N).bind fun bs=>
 if N.take p=List.range p then some { fr:=fr,mem:=qdT (List.range N.length) bs,nx:=N.length } else none

def qhx (F:St→Option Out):Option Out→Option Out
 | none=>none
 | some (.norm σ)=>F σ
 | some (.exit i σ)=>some (.exit i σ)
 | some (.ret σ)=>some (.ret σ)
def qlu (id:Nat):Option Out→Option Out
 | none=>none
 | some (.norm σ)=>some (.norm σ)
 | some (.exit i σ)=>if i=id then some (.norm σ)else some (.exit i σ)
 | some (.ret σ)=>some (.ret σ)
def qmQ (F G:St→Option Out) (σ:St):Option Bool→Option Out
 | none=>none
 | some true=>F σ
 | some false=>G σ
def qsi (draw:Bool) (ops:List Oper):Option (St×List Info)→Option Out
 | none=>none
 | some r=>if draw && !(qkP ops r.2.reverse)then none else some (.norm r.1)
def hdK (body:St→Option Out):Option St→Option Out
 | none=>none
 | some σ=>body σ
def qhR (hd:St→Option St) (body:St→Option Out):Nat→St→Option Out
 | 0,_=>none
 | n+1,σ=>qhx (qhR hd body n) (hdK body (hd σ))

def qba (c:Cfg) (callF:FuncId→List Vl→List Blk→Option (List Vl×List Blk)) (kp:Nat→List Kp) (nt k p:Nat):Nat→Code→St→Option Out
 | _,.skip,σ=>some (.norm σ)
 | _,.region _ ops draw,σ=>qsi draw ops.toList (qcv c callF nt ops.toList ops.toList σ [])
 | b,.seq x y,σ=>qhx (qba c callF kp nt k p b y) (qba c callF kp nt k p b x σ)
 | b,.cond o x y,σ=>qmQ (qba c callF kp nt k p b x) (qba c callF kp nt k p b y) σ (evB σ.fr o)
 | _,.block id x,σ=>qlu id (qba c callF kp nt k p id x σ)
 | b,.loop x,σ=>qhR (qgR p (kp b)) (qba c callF kp nt k p b x) k σ
 | _,.exit id,σ=>some (.exit id σ)
 | _,.ret,σ=>some (.ret σ)
 | _,.rangeFunc ..,_=>none
 | _,.scope _,_=>none
 | _,.label _,_=>none
 | _,.goto _,_=>none
 | _,.refuse _,_=>none

def qd4 {β:Type}:Nat→List β→List (Nat×β)
 | _,[]=> []
 | n,x::r=>(n,x)::qd4 (n+1) r

def qhS (c:Cfg) (σ:St):ResultVar→Option Vl
 | .tmp t=>evV σ.fr (.tmp t)
 | .cell a t=>(c.T t).bind fun ti=>
  (evA σ.fr (.tmp a)).bind fun x=>match x with
  | .ptr m i o=>(qk σ.mem m).bind fun b=>(b.els[i]?).bind fun e=>qhi ti e o
  | _=>none
def qbY:Nat→List Vl→List Vl×Mem×Nat
 | nx,[]=>([],[],nx)
 | nx,.a x::r=>let p:=qdl nx x;let q:=qbY p.2.2 r;(.a p.1::q.1,p.2.1++q.2.1,q.2.2)
 | nx,.g cs::r=>let p:=qeG nx cs;let q:=qbY p.2.2 r;(.g p.1::q.1,p.2.1++q.2.1,q.2.2)

def qik (c:Cfg) (f:FuncId) (fn:Func) (p:Nat) (σ:St):Option (List Vl×List Blk):=
 (qo (qhS c σ) fn.results.toList).bind fun rs0=>
 let q:=if c.ownR f then qbY σ.nx rs0 else(rs0,[],σ.nx)
 let mem:=qB σ.mem q.2.1
 (if c.ownR f then some q.1 else qo (qeE mem) rs0).bind fun rs=>
 let N:=clo (fun m=>if c.mutA f then qdK mem m else qgj mem m) 64 (List.range p++qd rs) []
 let F:=(if c.ownR f then [] else qfo rs0)++(if c.mutA f then [] else N.flatMap (qd3 mem))
 let mem1:=qB mem (qaO mem F)
 (qo (qeF (idx N)) rs).bind fun rs'=>
 (qo (fun m=>(qk mem1 m).bind fun b=>(if c.mutA f then some b else qgi mem b).bind (qdJ (idx N))) N).bind fun bs=>
 if N.take p=List.range p then some (rs',bs)else none

def qsj (c:Cfg) (f:FuncId) (fn:Func) (p:Nat):Option Out→Option (List Vl×List Blk)
 | none=>none
 | some (.norm σ)=>qik c f fn p σ
 | some (.ret σ)=>qik c f fn p σ
 | some (.exit ..)=>none
def qpp (c:Cfg) (callF:FuncId→List Vl→List Blk→Option (List Vl×List Blk)) (k:Nat) (f:FuncId) (args:List Vl) (blks:List Blk) (fn:Func):Option Code→Option (List Vl×List Blk)
 | none=>none
 | some body=>
  if args.length=fn.params.size+fn.nfree∧args.length≤fn.ntmps then
   qsj c f fn blks.length (qba c callF (c.keep f) fn.ntmps k blks.length 0 body { fr:=qd4 0 (args.map Sv.v),mem:=qd4 0 (blks.map some),nx:=blks.length })
  else none
def call (c:Cfg):Nat→FuncId→List Vl→List Blk→Option (List Vl×List Blk)
 | 0,_,_,_=>none
 | k+1,f,args,blks=>
  match c.X f with
  | some g=>g args blks
  | none=>(c.F f).bind fun fn=>qpp c (call c k) k f args blks fn fn.body

end Go.Proofs.YtlnailgfialgnaaGreatDoor.Am
set_option linter.unusedVariables false
set_option linter.unusedSimpArgs false
namespace Go.Proofs.YtlnailgfialgnaaGreatDoor.Am
open Go

structure Loc where
 b:Nat
 sz:Nat
 es:Nat
abbrev Io:=Nat→Option Loc
abbrev Hp:=Nat→Option Obj

inductive RP (h:Hp):At→Value→Prop
 | int (k n):RP h (.int k n) (.int k n)
 | bool (b):RP h (.bool b) (.bool b)
 | str (s):RP h (.str s) (.string s)
 | snil (es ty):RP h (.snil es ty) (.slice none 0 0)
 | nilp:RP h .nilp (.pointer none)
 | fn (f : FuncId) (cs : List At) (U : Array Value) (us : Nat → Value) (hn : cs.length = U.size)
   (hu:∀(j:Nat) (x:At),cs[j]? =some x→U[j]? =some (us j))
   (hr:∀(j:Nat) (x:At),cs[j]? =some x→RP h x (us j)):RP h (.fn f cs) (.func (.func f) #[] U)
 | sl0 (es A c):RP h (.sl es 0 []) (.slice A 0 c)
 | sl (n : Nat) (els : List (List At)) (b off c es : Nat) (C : Array Value) (t : TypeId) (z : Nat × Nat) (us : Nat → Nat → Value)
   (hb:h b=some (.cells C t z)) (hn:els.length=n) (hc:n≤c)
   (hl:∀(i:Nat) (e:List At),els[i]? =some e→e.length=es)
   (hu:∀(i:Nat) (e:List At) (j:Nat) (x:At),els[i]? =some e→e[j]? =some x→C[off+(i*es+j)]? =some (us i j))
   (hr:∀(i:Nat) (e:List At) (j:Nat) (x:At),els[i]? =some e→e[j]? =some x→RP h x (us i j)):RP h (.sl es n els) (.slice (some ⟨b,off,none⟩) n c)
 | pp (e : List At) (o b off : Nat) (C : Array Value) (t : TypeId) (z : Nat × Nat) (us : Nat → Value)
   (hb:h b=some (.cells C t z))
   (hu:∀(j:Nat) (x:At),e[j]? =some x→C[off+j]? =some (us j))
   (hr:∀(j:Nat) (x:At),e[j]? =some x→RP h x (us j)):RP h (.pp e o) (.pointer (some ⟨b,off+o,none⟩))

def Sub (h h':Hp):Prop:=∀b o,h b=some o→h' b=some o
theorem Sub.refl (h:Hp):Sub h h:=fun _ _ e=>e
theorem Sub.trans {a b c:Hp} (x:Sub a b) (y:Sub b c):Sub a c:=fun i o e=>y i o (x i o e)

theorem RP.mono {h h':Hp} (hs:Sub h h') {x:At} {v:Value} (hr:RP h x v):RP h' x v:=by
 induction hr with
 | int k n=>exact .int k n
 | bool b=>exact .bool b
 | str s=>exact .str s
 | snil a b=>exact .snil a b
 | nilp=>exact .nilp
 | fn f cs U us hn hu hr ih=>exact .fn f cs U us hn hu ih
 | sl0 a b c=>exact .sl0 a b c
 | sl n els b off c es C t z us hb hn hc hl hu hr ih=>exact .sl n els b off c es C t z us (hs _ _ hb) hn hc hl hu ih
 | pp e o b off C t z us hb hu hr ih=>exact .pp e o b off C t z us (hs _ _ hb) hu ih

def RA (ι:Io) (h:Hp):At→Value→Prop
 | .ptr m i o,v=>∃L,ι m=some L∧v= .pointer (some ⟨L.b,i*L.es+o,none⟩)
 | .sm m lo n, v => (∃ L c, ι m = some L ∧ v = .slice (some ⟨L.b, lo * L.es, none⟩) n c ∧ (lo + c) * L.es = L.sz ∧ n ≤ c ∧ c ≤ maxLen) ∨
   (ι m=none∧lo=0∧n=0∧v= .slice none 0 0)
 | .mp m,v=>∃L,ι m=some L∧v= .map (some L.b)∧L.es=0
 | x,v=>RP h x v

theorem RA.ofRP {ι:Io} {h:Hp} {x:At} {v:Value} (hr:RP h x v):RA ι h x v:=by
 cases hr<;>first | exact .int _ _ | exact .bool _ | exact .str _ | exact .snil _ _ | exact .nilp | exact .sl0 _ _ _ | skip
 ·exact .fn _ _ _ _ ‹_› ‹_› ‹_›
 ·exact .sl _ _ _ _ _ _ _ _ _ _ ‹_› ‹_› ‹_› ‹_› ‹_› ‹_›
 ·exact .pp _ _ _ _ _ _ _ _ ‹_› ‹_› ‹_›
theorem RA.toRP {ι:Io} {h:Hp} {x:At} {v:Value} (hp:x.pr=true) (hr:RA ι h x v):RP h x v:=by
 cases x<;>first | exact hr | simp [At.pr] at hp

theorem RA.mono {ι ι':Io} {h h':Hp} (hs:Sub h h') {x:At} {v:Value} (hi:∀m∈x.nm,ι' m=ι m) (hr:RA ι h x v):RA ι' h' x v:=by
 cases x with
 | ptr m i o=>obtain⟨L,e,rfl⟩:=hr;exact⟨L,by rw [hi m (by simp [At.nm]),e],rfl⟩
 | sm m lo n=>
  rcases hr with ⟨L,c,e,r⟩ | ⟨e,r⟩
  ·exact .inl ⟨L,c,by rw [hi m (by simp [At.nm]),e],r⟩
  ·exact .inr ⟨by rw [hi m (by simp [At.nm]),e],r⟩
 | mp m=>obtain⟨L,e,r⟩:=hr;exact⟨L,by rw [hi m (by simp [At.nm]),e],r⟩
 | _=>exact RP.mono hs hr

theorem RP.oneCell {h:Hp} {x:At} {v:Value} (hr:RP h x v):v.oneCell'=true:=by cases hr<;>rfl
theorem RA.oneCell {ι:Io} {h:Hp} {x:At} {v:Value} (hr:RA ι h x v):v.oneCell'=true:=by
 cases x with
 | ptr m i o=>obtain⟨L,e,rfl⟩:=hr;rfl
 | sm m lo n=>rcases hr with ⟨L,c,e,rfl,_⟩ | ⟨e,_,_,rfl⟩<;>rfl
 | mp m=>obtain⟨L,e,rfl,_⟩:=hr;rfl
 | _=>exact RP.oneCell hr
theorem qhy {v:Value} (h:v.oneCell'=true):v.cells= #[v]:=by
 cases v<;>first | rfl | (simp [Value.oneCell'] at h)

def RL (ι:Io) (h:Hp) (cs:List At) (us:List Value):Prop:=cs.length=us.length∧∀(j:Nat) (x:At),cs[j]? =some x→∃u,us[j]? =some u∧RA ι h x u
theorem RL.nil {ι:Io} {h:Hp}:RL ι h [] []:=⟨rfl,by simp⟩
theorem RL.cons {ι:Io} {h:Hp} {x:At} {u:Value} {cs:List At} {us:List Value} (h1:RA ι h x u) (h2:RL ι h cs us):RL ι h (x::cs) (u::us):=by
 refine⟨by simp [h2.1],fun j y e=> ?_⟩
 cases j with
 | zero=>simp at e;subst e;exact⟨u,rfl,h1⟩
 | succ j=>simp at e;simpa using h2.2 j y e
theorem RL.append {ι:Io} {h:Hp} {cs ds:List At} {us vs:List Value} (h1:RL ι h cs us) (h2:RL ι h ds vs):RL ι h (cs++ds) (us++vs):=by
 refine⟨by simp [h1.1,h2.1],fun j y e=> ?_⟩
 rw [List.getElem?_append] at e ⊢
 by_cases hj:j<cs.length
 ·rw [if_pos hj] at e;rw [if_pos (by rw [←h1.1];exact hj)];exact h1.2 j y e
 ·rw [if_neg hj] at e;rw [if_neg (by rw [←h1.1];exact hj),←h1.1];exact h2.2 _ y e
theorem RL.take {ι:Io} {h:Hp} {cs:List At} {us:List Value} (h1:RL ι h cs us) (n:Nat):RL ι h (cs.take n) (us.take n):=by
 refine⟨by simp [h1.1],fun j y e=> ?_⟩
 rw [List.getElem?_take] at e ⊢
 split at e
 ·rw [if_pos ‹_›];exact h1.2 j y e
 ·simp at e
theorem RL.drop {ι:Io} {h:Hp} {cs:List At} {us:List Value} (h1:RL ι h cs us) (n:Nat):RL ι h (cs.drop n) (us.drop n):=by
 refine⟨by simp [h1.1],fun j y e=> ?_⟩
 rw [List.getElem?_drop] at e ⊢
 exact h1.2 _ y e
theorem RL.mono {ι ι':Io} {h h':Hp} (hs:Sub h h') {cs:List At} {us:List Value} (hi:∀x∈cs,∀m∈x.nm,ι' m=ι m) (hr:RL ι h cs us):RL ι' h' cs us:=
 ⟨hr.1,fun j x e=>let ⟨u,e1,e2⟩:=hr.2 j x e;⟨u,e1,e2.mono hs (hi x (List.mem_of_getElem? e))⟩⟩
theorem RL.put {ι:Io} {h:Hp} {cs xs:List At} {us vs:List Value} (h1:RL ι h cs us) (h2:RL ι h xs vs) (o:Nat):RL ι h (qeP cs o xs) (us.take o++vs++us.drop (o+vs.length)):=by
 unfold qeP
 rw [h2.1]
 exact((h1.take o).append h2).append (h1.drop _)

def RV (ι:Io) (h:Hp):Vl→Value→Prop
 | .a x,v=>RA ι h x v
 | .g cs,v=>∃U:Array Value,v= .agg U∧RL ι h cs U.toList
theorem RV.cells {ι:Io} {h:Hp} {x:Vl} {v:Value} (hr:RV ι h x v):RL ι h x.cells v.cells.toList:=by
 cases x with
 | a x=>rw [qhy (RA.oneCell hr)];exact RL.cons hr RL.nil
 | g cs=>obtain⟨U,rfl,hl⟩:=hr;exact hl
theorem RV.mono {ι ι':Io} {h h':Hp} (hs:Sub h h') {x:Vl} {v:Value} (hi:∀y∈x.cells,∀m∈y.nm,ι' m=ι m) (hr:RV ι h x v):RV ι' h' x v:=by
 cases x with
 | a x=>exact RA.mono hs (hi x (by simp [Vl.cells])) hr
 | g cs=>obtain⟨U,rfl,hl⟩:=hr;exact⟨U,rfl,hl.mono hs hi⟩

def RVs (ι:Io) (h:Hp) (xs:List Vl) (vs:List Value):Prop:=xs.length=vs.length∧∀(j:Nat) (x:Vl),xs[j]? =some x→∃u,vs[j]? =some u∧RV ι h x u
def Vl.nms (x:Vl):List Nat:=x.cells.flatMap At.nm
theorem RVs.mono {ι ι':Io} {h h':Hp} (hs:Sub h h') {xs:List Vl} {vs:List Value} (hi:∀m∈qd xs,ι' m=ι m) (hr:RVs ι h xs vs):RVs ι' h' xs vs:=
 ⟨hr.1,fun j x e=>let ⟨u,e1,e2⟩:=hr.2 j x e;⟨u,e1,e2.mono hs fun y hy m hm=>hi m (by
  simp only [qd,List.mem_flatMap]
  exact⟨x,List.mem_of_getElem? e,y,hy,hm⟩)⟩⟩

def RS (ι:Io) (h:Hp):Sv→Value→Prop
 | .v x,v=>RV ι h x v
 | .t xs,v=>∃U:Array Value,v= .tuple U∧RVs ι h xs U.toList
 | .u,v=>v=undef
def Sv.nms:Sv→List Nat
 | .v x=>qd [x]
 | .t xs=>qd xs
 | .u=> []
theorem RS.mono {ι ι':Io} {h h':Hp} (hs:Sub h h') {x:Sv} {v:Value} (hi:∀m∈x.nms,ι' m=ι m) (hr:RS ι h x v):RS ι' h' x v:=by
 cases x with
 | v x=>exact RV.mono hs (fun y hy m hm=>hi m (by simp only [Sv.nms,qd,List.mem_flatMap];exact⟨x,by simp,y,hy,hm⟩)) hr
 | t xs=>obtain⟨U,rfl,hl⟩:=hr;exact⟨U,rfl,hl.mono hs hi⟩
 | u=>exact hr

def RBs (ι:Io) (h:Hp) (C:Array Value) (es:Nat) (els:List (List At)):Prop:=
 ∀(i:Nat) (e:List At),els[i]? =some e→e.length=es∧∀(j:Nat) (x:At),e[j]? =some x→∃u,C[i*es+j]? =some u∧RA ι h x u
def Blk.nms (B:Blk):List Nat:=B.els.flatMap fun e=>e.flatMap At.nm
theorem RBs.mono {ι ι':Io} {h h':Hp} (hs:Sub h h') {C:Array Value} {es:Nat} {els:List (List At)} (hi:∀m∈els.flatMap (fun e=>e.flatMap At.nm),ι' m=ι m) (hr:RBs ι h C es els):RBs ι' h' C es els:=
 fun i e he=>⟨(hr i e he).1,fun j x hx=>let ⟨u,e1,e2⟩:=(hr i e he).2 j x hx;⟨u,e1,e2.mono hs fun m hm=>hi m (by
  simp only [List.mem_flatMap]
  exact⟨e,List.mem_of_getElem? he,x,List.mem_of_getElem? hx,hm⟩)⟩⟩

def RC (ι:Io) (h:Hp) (w:World) (L:Loc) (B:Blk):Prop:=∃C,w.heap[L.b]? =some (.cells C B.ty (0,0))∧C.size=L.sz∧L.es=B.es∧RBs ι h C B.es B.els
def RMs (h:Hp) (es:List MapEntry) (mp:List (At×At)):Prop:=
 es.length=mp.length∧∀(i:Nat) (p:At×At),mp[i]? =some p→∃e,es[i]? =some e∧e.born=i∧RP h p.1 e.key∧RP h p.2 e.val
def RM (h:Hp) (w:World) (L:Loc) (B:Blk):Prop:=(B.els= []∧B.es=0∧L.es=0)∧∃es:Array MapEntry,w.heap[L.b]? =some (.map es es.size)∧RMs h es.toList B.mp
def RB (ι:Io) (h:Hp) (w:World) (m:Nat) (B:Blk):Prop:=
 match ι m with
 | none=>B.els= []
 | some L=>(RC ι h w L B∧B.es≠0)∨RM h w L B
theorem RMs.mono {h h':Hp} (hs:Sub h h') {es:List MapEntry} {mp:List (At×At)} (hr:RMs h es mp):RMs h' es mp:=
 ⟨hr.1,fun i p e=>let ⟨x,e1,e2,e3,e4⟩:=hr.2 i p e;⟨x,e1,e2,e3.mono hs,e4.mono hs⟩⟩
theorem RB.cells {ι:Io} {h:Hp} {w:World} {m:Nat} {B:Blk} {L:Loc} (hb:RB ι h w m B) (hL:ι m=some L) (h0:B.els= []→B.es=0→L.es=0→False):RC ι h w L B:=by
 unfold RB at hb
 rw [hL] at hb
 rcases hb with hb | ⟨⟨h1,h2,h3⟩,_⟩
 ·exact hb.1
 ·exact(h0 h1 h2 h3).elim
theorem RB.map {ι:Io} {h:Hp} {w:World} {m:Nat} {B:Blk} {L:Loc} (hb:RB ι h w m B) (hL:ι m=some L) (h0:L.es=0):RM h w L B:=by
 unfold RB at hb
 rw [hL] at hb
 rcases hb with ⟨⟨C,_,_,h1,_⟩,h2⟩ | hb
 ·exact absurd (h1▸h0) h2
 ·exact hb
theorem RB.esq {ι:Io} {h:Hp} {w:World} {m:Nat} {B:Blk} {L:Loc} (hb:RB ι h w m B) (hL:ι m=some L):L.es=B.es:=by
 unfold RB at hb
 rw [hL] at hb
 rcases hb with ⟨⟨C,_,_,h,_⟩,_⟩ | ⟨⟨h1,h2,h3⟩,_⟩
 ·exact h
 ·rw [h2,h3]
theorem RB.els0 {ι:Io} {h:Hp} {w:World} {m:Nat} {B:Blk} (hb:RB ι h w m B) (hL:ι m=none):B.els= []:=by
 unfold RB at hb
 rwa [hL] at hb
theorem RB.ofC {ι:Io} {h:Hp} {w:World} {m:Nat} {B:Blk} {L:Loc} (hL:ι m=some L) (hc:RC ι h w L B) (h0:B.es≠0):RB ι h w m B:=by
 unfold RB
 rw [hL]
 exact .inl ⟨hc,h0⟩
theorem RB.to {ι ι':Io} {h h':Hp} {w w':World} {m m':Nat} {B:Blk} (hb:RB ι h w m B) (hι:ι' m'=ι m) (hh:∀L,ι m=some L→w'.heap[L.b]? =w.heap[L.b]?) (hs:Sub h h') (hn:∀x∈B.nms,ι' x=ι x):RB ι' h' w' m' B:=by
 unfold RB at hb ⊢
 rw [hι]
 cases hL:ι m with
 | none=>rw [hL] at hb;exact hb
 | some L=>
  rw [hL] at hb
  rcases hb with ⟨⟨C,e1,e2,e3,e4⟩,e5⟩ | ⟨e0,es,e1,e2⟩
  ·exact .inl ⟨⟨C,by rw [hh L hL];exact e1,e2,e3,e4.mono hs hn⟩,e5⟩
  ·exact .inr ⟨e0,es,by rw [hh L hL];exact e1,e2.mono hs⟩
theorem RB.re {ι ι':Io} {h h':Hp} {w w':World} {m m':Nat} {B B':Blk} (hb:RB ι h w m B) (hι:ι' m'=ι m) (hh:∀L,ι m=some L→w'.heap[L.b]? =w.heap[L.b]?) (hs:Sub h h')
  (hes:B'.es=B.es) (hty:B'.ty=B.ty) (hmp:B'.mp=B.mp) (hnil:B.els= []→B'.els= []) (hr:∀C,RBs ι h C B.es B.els→RBs ι' h' C B.es B'.els):RB ι' h' w' m' B':=by
 unfold RB at hb ⊢
 rw [hι]
 cases hL:ι m with
 | none=>rw [hL] at hb;exact hnil hb
 | some L=>
  rw [hL] at hb
  rcases hb with ⟨⟨C,e1,e2,e3,e4⟩,e5⟩ | ⟨⟨e0,e0',e0''⟩,es,e1,e2⟩
  ·exact .inl ⟨⟨C,by rw [hh L hL,hty];exact e1,e2,by rw [hes];exact e3,by rw [hes];exact hr C e4⟩,by rw [hes];exact e5⟩
  ·exact .inr ⟨⟨hnil e0,by rw [hes];exact e0',e0''⟩,es,by rw [hh L hL];exact e1,by rw [hmp];exact e2.mono hs⟩

structure Sim (n:Nat) (w0:World) (M0:Bool→Nat→Prop) (U:Nat→Prop) (ι:Io) (h:Hp) (fr:List (Nat×Sv)) (mem:Mem) (a:Act) (w:World):Prop where
 hsize:a.tmps.size=n
 hdefers:a.defers= []
 hfr:∀t v,lk fr t=some v→∃u,a.tmps[t]? =some u∧RS ι h v u
 hmem:∀m B,qk mem m=some B→RB ι h w m B
 hinj:∀m m' B B' L L',qk mem m=some B→qk mem m'=some B'→ι m=some L→ι m'=some L'→L.b=L'.b→m=m'
 hsub:∀b o,h b=some o→w.heap[b]? =some o
 hmut:∀m B L,qk mem m=some B→B.fz=false→ι m=some L→h L.b=none
 hfrz:∀m B L,qk mem m=some B→B.fz=true→ι m=some L→h L.b=w.heap[L.b]?
 hown:∀m B L,qk mem m=some B→B.fz=false→ι m=some L→w0.heap.size≤L.b∨M0 false L.b
 hown2:∀m B L,qk mem m=some B→ι m=some L→w0.heap.size≤L.b∨M0 true L.b
 hframe:∀b,b<w0.heap.size→¬M0 false b→w.heap[b]? =w0.heap[b]?
 hgrow:w0.heap.size≤w.heap.size
 hos:w.os=w0.os
 htape:w.tape=w0.tape
 houtput:w.output=w0.output
 hnm:∀t v,lk fr t=some v→∀m∈v.nms,U m
 hnb:∀m B,qk mem m=some B→U m∧∀m'∈B.nms,U m'
 hdom:∀m L,ι m=some L→U m∧L.b<w.heap.size
 hpr:∀m B,qk mem m=some B→B.pr=true→∀e∈B.els,∀x∈e,x.pr=true

theorem qd5 {β:Type} (k:Nat) (v:β) (r:List (Nat×β)) (t:Nat):lk ((k,v)::r) t=if k=t then some v else lk r t:=rfl
theorem qoK (m:Mem) (p:Nat×Option Blk) (t:Nat):lk (qb6 m p) t=if p.1=t then some p.2 else lk m t:=by
 induction m with
 | nil=>rfl
 | cons q r ih=>
  obtain⟨k,b⟩:=q
  obtain⟨n,c⟩:=p
  simp only [qb6]
  by_cases hk:k=n
  ·subst hk
   simp only [if_true,qd5]
   by_cases h:k=t<;>simp [h]
  ·simp only [if_neg hk,qd5,ih]
   by_cases h:n=t
   ·subst h
    simp [hk]
   ·simp [h]
theorem qoL (u:Mem):∀(m:Mem) (t:Nat),lk (qB m u) t=(lk u.reverse t).or (lk m t):=by
 induction u with
 | nil=>intro m t;rfl
 | cons p r ih=>
  intro m t
  simp only [qB,ih,qoK,List.reverse_cons]
  have:∀(l:Mem),lk (l++ [p]) t=(lk l t).or (if p.1=t then some p.2 else none):=by
   intro l
   induction l with
   | nil=>rfl
   | cons q l ih2=>
    obtain⟨k,b⟩:=q
    simp only [List.cons_append,qd5,ih2]
    by_cases h:k=t<;>simp [h]
  rw [this]
  cases lk r.reverse t with
  | some x=>simp
  | none=>by_cases h:p.1=t<;>simp [h]

theorem qbj {α β:Type} {f:α→Option β}:∀ {l:List α} {r:List β},qo f l=some r→r.length=l.length∧∀(j:Nat) (x:α),l[j]? =some x→∃y,r[j]? =some y∧f x=some y:=by
 intro l
 induction l with
 | nil=>intro r h;simp [qo] at h;subst h;simp
 | cons a l ih=>
  intro r h
  simp only [qo,Option.bind_eq_some_iff] at h
  obtain⟨y,hy,ys,hys,h⟩:=h
  simp at h
  subst h
  obtain⟨h1,h2⟩:=ih hys
  refine⟨by simp [h1],fun j x e=> ?_⟩
  cases j with
  | zero=>simp at e;subst e;exact⟨y,rfl,hy⟩
  | succ j=>simp at e;simpa using h2 j x e
theorem qt {α β:Type} {f:α→Option β} {l:List α} {r:List β} (h:qo f l=some r):∀(j:Nat) (y:β),r[j]? =some y→∃x,l[j]? =some x∧f x=some y:=by
 obtain⟨h1,h2⟩:=qbj h
 intro j y e
 have hj:j<l.length:=by
  rcases Nat.lt_or_ge j l.length with h' | h'
  ·exact h'
  ·rw [List.getElem?_eq_none (by omega)] at e;simp at e
 obtain⟨y',e',hf⟩:=h2 j l[j] (List.getElem?_eq_getElem hj)
 rw [e] at e'
 simp at e'
 subst e'
 exact⟨_,List.getElem?_eq_getElem hj,hf⟩

theorem qbk (m:Mem) (k:Nat) (b:Option Blk) (t:Nat):qk (qb6 m (k,b)) t=if k=t then b else qk m t:=by
 unfold qk
 rw [qoK]
 by_cases h:k=t
 ·simp only [h,if_true];cases b<;>rfl
 ·simp [h]

theorem qog (w:World) (g b:Nat) (C cur:Array Value) (t:TypeId) (hg:w.heap[g]? =some (.cells cur t (0,0))):
  (w.setRow g C).heap[b]? =if b=g then some (.cells C t (0,0))else w.heap[b]? :=by
 by_cases hb:b=g
 ·subst hb
  simp [World.setRow,Array.getElem?_modify,hg]
 ·simp only [World.setRow,Array.getElem?_modify,if_neg hb]
  rw [if_neg (Ne.symm hb)]

section
variable {n : Nat} {w0 : World} {M0 : Bool → Nat → Prop} {U : Nat → Prop} {ι : Io} {h : Hp} {fr : List (Nat × Sv)} {mem : Mem} {a : Act} {w : World}

theorem Sim.weak (hs:Sim n w0 M0 U ι h fr mem a w) {U':Nat→Prop} (hu:∀m,U m→U' m):Sim n w0 M0 U' ι h fr mem a w:=
 { hs with hnm:=fun t v e m hm=>hu m (hs.hnm t v e m hm),hnb:=fun m B e=>⟨hu m (hs.hnb m B e).1,fun m' hm=>hu m' ((hs.hnb m B e).2 m' hm)⟩,hdom:=fun m L e=>⟨hu m (hs.hdom m L e).1,(hs.hdom m L e).2⟩ }

def Io.set (ι:Io) (m:Nat) (L:Loc):Io:=fun x=>if x=m then some L else ι x

theorem Sim.hlt (hs:Sim n w0 M0 U ι h fr mem a w) {b:Nat} {o:Obj} (e:h b=some o):b<w.heap.size:=by
 have:=hs.hsub b o e
 exact(Array.getElem?_eq_some_iff.1 this).1

theorem Sim.allocO (hs:Sim n w0 M0 U ι h fr mem a w) (m:Nat) (hm:¬U m) (B:Blk) (ob:Obj) (sz:Nat) (hrb:RB (ι.set m ⟨w.heap.size,sz,B.es⟩) h (w.alloc ob) m B) (hfz:B.fz=false)
  (hn:∀m'∈B.nms,U m') (hp:B.pr=true→∀e∈B.els,∀x∈e,x.pr=true):
  Sim n w0 M0 (fun x=>U x∨x=m) (ι.set m ⟨w.heap.size,sz,B.es⟩) h fr (qb6 mem (m,some B)) a (w.alloc ob):=by
 have hι:∀x,U x→(ι.set m ⟨w.heap.size,sz,B.es⟩) x=ι x:=fun x hx=>by
  unfold Io.set;rw [if_neg];rintro rfl;exact hm hx
 have hold:∀b,b<w.heap.size→(w.alloc ob).heap[b]? =w.heap[b]? :=fun b hb=>Go.RowKit.Below.heap_alloc _ _ _ hb
 have hh:∀x B',qk (qb6 mem (m,some B)) x=some B'→(x=m∧B'=B)∨(x≠m∧qk mem x=some B'):=by
  intro x B' e
  rw [qbk] at e
  by_cases hx:m=x
  ·rw [if_pos hx] at e;exact .inl ⟨hx.symm,by simpa using e.symm⟩
  ·rw [if_neg hx] at e;exact .inr ⟨Ne.symm hx,e⟩
 have hset:(ι.set m ⟨w.heap.size,sz,B.es⟩) m=some ⟨w.heap.size,sz,B.es⟩:=by simp [Io.set]
 refine
  { hsize:=hs.hsize,hdefers:=hs.hdefers,hfr:= ?_,hmem:= ?_,hinj:= ?_,hsub:= ?_,hmut:= ?_,hfrz:= ?_,hown:= ?_,hown2:= ?_,hframe:= ?_,hgrow:= ?_,hos:=hs.hos,htape:=hs.htape,houtput:=hs.houtput,hnm:= ?_,hnb:= ?_,hdom:= ?_,hpr:= ?_ }
 ·intro t v e
  obtain⟨u,e1,e2⟩:=hs.hfr t v e
  exact⟨u,e1,e2.mono (Sub.refl h) fun x hx=>hι x (hs.hnm t v e x hx)⟩
 ·intro x B' e
  rcases hh x B' e with ⟨rfl,rfl⟩ | ⟨hx,e'⟩
  ·exact hrb
  ·have hb:=hs.hmem x B' e'
   have hu:=hs.hnb x B' e'
   exact hb.to (hι x hu.1) (fun L hL=>hold _ (hs.hdom x L hL).2) (Sub.refl h) fun y hy=>hι y (hu.2 y hy)
 ·intro x y B1 B2 L1 L2 e1 e2 l1 l2 hb
  rcases hh x B1 e1 with ⟨rfl,rfl⟩ | ⟨hx,e1'⟩
  ·rcases hh y B2 e2 with ⟨rfl,rfl⟩ | ⟨hy,e2'⟩
   ·rfl
   ·rw [hset] at l1
    rw [hι y (hs.hnb y B2 e2').1] at l2
    have:=(hs.hdom y L2 l2).2
    cases l1
    simp at hb
    omega
  ·rw [hι x (hs.hnb x B1 e1').1] at l1
   rcases hh y B2 e2 with ⟨rfl,rfl⟩ | ⟨hy,e2'⟩
   ·rw [hset] at l2
    have:=(hs.hdom x L1 l1).2
    cases l2
    simp at hb
    omega
   ·rw [hι y (hs.hnb y B2 e2').1] at l2
    exact hs.hinj x y B1 B2 L1 L2 e1' e2' l1 l2 hb
 ·intro b o e
  rw [hold b (hs.hlt e)]
  exact hs.hsub b o e
 ·intro x B' L e hz l
  rcases hh x B' e with ⟨rfl,rfl⟩ | ⟨hx,e'⟩
  ·rw [hset] at l
   cases l
   cases hq:h w.heap.size with
   | none=>rfl
   | some o=>exact absurd (hs.hlt hq) (by omega)
  ·rw [hι x (hs.hnb x B' e').1] at l
   exact hs.hmut x B' L e' hz l
 ·intro x B' L e hz l
  rcases hh x B' e with ⟨rfl,rfl⟩ | ⟨hx,e'⟩
  ·rw [hfz] at hz;cases hz
  ·rw [hι x (hs.hnb x B' e').1] at l
   rw [hold _ (hs.hdom x L l).2]
   exact hs.hfrz x B' L e' hz l
 ·intro x B' L e hz l
  rcases hh x B' e with ⟨rfl,rfl⟩ | ⟨hx,e'⟩
  ·rw [hset] at l
   cases l
   exact .inl hs.hgrow
  ·rw [hι x (hs.hnb x B' e').1] at l
   exact hs.hown x B' L e' hz l
 ·intro x B' L e l
  rcases hh x B' e with ⟨rfl,rfl⟩ | ⟨hx,e'⟩
  ·rw [hset] at l
   cases l
   exact .inl hs.hgrow
  ·rw [hι x (hs.hnb x B' e').1] at l
   exact hs.hown2 x B' L e' l
 ·intro b hb hM
  rw [hold b (Nat.lt_of_lt_of_le hb hs.hgrow)]
  exact hs.hframe b hb hM
 ·show w0.heap.size≤(w.heap.push _).size
  have:=hs.hgrow
  simp
  omega
 ·intro t v e x hx
  exact .inl (hs.hnm t v e x hx)
 ·intro x B' e
  rcases hh x B' e with ⟨rfl,rfl⟩ | ⟨hx,e'⟩
  ·exact⟨.inr rfl,fun y hy=> .inl (hn y hy)⟩
  ·exact⟨.inl (hs.hnb x B' e').1,fun y hy=> .inl ((hs.hnb x B' e').2 y hy)⟩
 ·intro x L l
  unfold Io.set at l
  have hsz:(w.alloc ob).heap.size=w.heap.size+1:=by show(w.heap.push _).size=_;simp
  rw [hsz]
  by_cases hx:x=m
  ·rw [if_pos hx] at l;cases l;exact⟨.inr hx,by simp⟩
  ·rw [if_neg hx] at l;have:=hs.hdom x L l;exact⟨.inl this.1,by omega⟩
 ·intro x B' e hp'
  rcases hh x B' e with ⟨rfl,rfl⟩ | ⟨hx,e'⟩
  ·exact hp hp'
  ·exact hs.hpr x B' e' hp'

theorem Sim.alloc (hs:Sim n w0 M0 U ι h fr mem a w) (m:Nat) (hm:¬U m) (B:Blk) (C:Array Value) (hr:RBs ι h C B.es B.els) (he0:B.es≠0) (hfz:B.fz=false)
  (hn:∀m'∈B.nms,U m') (hp:B.pr=true→∀e∈B.els,∀x∈e,x.pr=true):
  Sim n w0 M0 (fun x=>U x∨x=m) (ι.set m ⟨w.heap.size,C.size,B.es⟩) h fr (qb6 mem (m,some B)) a (w.alloc (.cells C B.ty)):=by
 have hι:∀x,U x→(ι.set m ⟨w.heap.size,C.size,B.es⟩) x=ι x:=fun x hx=>by
  unfold Io.set;rw [if_neg];rintro rfl;exact hm hx
 refine hs.allocO m hm B _ C.size (RB.ofC (by simp [Io.set];rfl) ⟨C,?_,rfl,rfl,hr.mono (Sub.refl h) fun x hx=>hι x (hn x hx)⟩ he0) hfz hn hp
 show(w.heap.push _)[w.heap.size]? =_
 simp

theorem Sim.writeO (hs:Sim n w0 M0 U ι h fr mem a w) {m:Nat} {B B':Blk} {L:Loc} (he:qk mem m=some B) (hz:B.fz=false) (hL:ι m=some L) {ob:Obj} {w':World}
  (hheap:∀b,w'.heap[b]? =if b=L.b then some ob else w.heap[b]?) (hsize:w'.heap.size=w.heap.size) (ho:w'.os=w.os) (ht:w'.tape=w.tape) (hout:w'.output=w.output) (hfz:B'.fz=false) (hrb:RB ι h w' m B')
  (hn:∀m'∈B'.nms,U m') (hp:B'.pr=true→∀e∈B'.els,∀x∈e,x.pr=true):
  Sim n w0 M0 U ι h fr (qb6 mem (m,some B')) a w':=by
 have hh:∀x B1,qk (qb6 mem (m,some B')) x=some B1→(x=m∧B1=B')∨(x≠m∧qk mem x=some B1):=by
  intro x B1 e
  rw [qbk] at e
  by_cases hx:m=x
  ·rw [if_pos hx] at e;exact .inl ⟨hx.symm,by simpa using e.symm⟩
  ·rw [if_neg hx] at e;exact .inr ⟨Ne.symm hx,e⟩
 have hhn:=hs.hmut m B L he hz hL
 refine
  { hsize:=hs.hsize,hdefers:=hs.hdefers,hfr:=hs.hfr,hmem:= ?_,hinj:= ?_,hsub:= ?_,hmut:= ?_,hfrz:= ?_,hown:= ?_,hown2:= ?_,hframe:= ?_,hgrow:= ?_,hos:=ho.trans hs.hos,htape:=ht.trans hs.htape,houtput:=hout.trans hs.houtput,hnm:=hs.hnm,hnb:= ?_,hdom:= ?_,hpr:= ?_ }
 ·intro x B1 e
  rcases hh x B1 e with ⟨rfl,rfl⟩ | ⟨hx,e'⟩
  ·exact hrb
  ·exact(hs.hmem x B1 e').to rfl (fun L1 hL1=>by rw [hheap,if_neg fun hq=>hx (hs.hinj x m B1 B L1 L e' he hL1 hL hq)]) (Sub.refl h) fun _ _=>rfl
 ·intro x y B1 B2 L1 L2 e1 e2 l1 l2 hb
  have f1:∃B3,qk mem x=some B3:=by
   rcases hh x B1 e1 with ⟨rfl,rfl⟩ | ⟨hx,e'⟩
   ·exact⟨B,he⟩
   ·exact⟨_,e'⟩
  have f2:∃B3,qk mem y=some B3:=by
   rcases hh y B2 e2 with ⟨rfl,rfl⟩ | ⟨hx,e'⟩
   ·exact⟨B,he⟩
   ·exact⟨_,e'⟩
  obtain⟨B3,f1⟩:=f1
  obtain⟨B4,f2⟩:=f2
  exact hs.hinj x y B3 B4 L1 L2 f1 f2 l1 l2 hb
 ·intro b o e
  rw [hheap,if_neg]
  ·exact hs.hsub b o e
  ·rintro rfl
   rw [hhn] at e
   cases e
 ·intro x B1 L1 e hz1 l
  rcases hh x B1 e with ⟨rfl,rfl⟩ | ⟨hx,e'⟩
  ·exact hs.hmut x B L1 he hz l
  ·exact hs.hmut x B1 L1 e' hz1 l
 ·intro x B1 L1 e hz1 l
  rcases hh x B1 e with ⟨rfl,rfl⟩ | ⟨hx,e'⟩
  ·rw [hfz] at hz1;cases hz1
  ·have hne:L1.b≠L.b:=fun hq=>hx (hs.hinj x m B1 B L1 L e' he l hL hq)
   rw [hheap,if_neg hne]
   exact hs.hfrz x B1 L1 e' hz1 l
 ·intro x B1 L1 e hz1 l
  rcases hh x B1 e with ⟨rfl,rfl⟩ | ⟨hx,e'⟩
  ·exact hs.hown x B L1 he hz l
  ·exact hs.hown x B1 L1 e' hz1 l
 ·intro x B1 L1 e l
  rcases hh x B1 e with ⟨rfl,rfl⟩ | ⟨hx,e'⟩
  ·exact hs.hown2 x B L1 he l
  ·exact hs.hown2 x B1 L1 e' l
 ·intro b hb hM
  rw [hheap,if_neg]
  ·exact hs.hframe b hb hM
  ·rintro rfl
   rcases hs.hown m B L he hz hL with h1 | h1
   ·omega
   ·exact hM h1
 ·rw [hsize];exact hs.hgrow
 ·intro x B1 e
  rcases hh x B1 e with ⟨rfl,rfl⟩ | ⟨hx,e'⟩
  ·exact⟨(hs.hnb x B he).1,hn⟩
  ·exact hs.hnb x B1 e'
 ·intro x L1 l
  rw [hsize]
  exact hs.hdom x L1 l
 ·intro x B1 e hp1
  rcases hh x B1 e with ⟨rfl,rfl⟩ | ⟨hx,e'⟩
  ·exact hp hp1
  ·exact hs.hpr x B1 e' hp1

theorem Sim.drop (hs:Sim n w0 M0 U ι h fr mem a w) (m:Nat):Sim n w0 M0 U ι h fr (qb6 mem (m,none)) a w:=by
 have hh:∀x B1,qk (qb6 mem (m,none)) x=some B1→qk mem x=some B1:=by
  intro x B1 e
  rw [qbk] at e
  by_cases hx:m=x
  ·rw [if_pos hx] at e;cases e
  ·rw [if_neg hx] at e;exact e
 exact { hs with
  hmem:=fun x B e=>hs.hmem x B (hh x B e)
  hinj:=fun x y B1 B2 L1 L2 e1 e2=>hs.hinj x y B1 B2 L1 L2 (hh _ _ e1) (hh _ _ e2)
  hmut:=fun x B L e=>hs.hmut x B L (hh _ _ e)
  hfrz:=fun x B L e=>hs.hfrz x B L (hh _ _ e)
  hown:=fun x B L e=>hs.hown x B L (hh _ _ e)
  hown2:=fun x B L e=>hs.hown2 x B L (hh _ _ e)
  hnb:=fun x B e=>hs.hnb x B (hh _ _ e)
  hpr:=fun x B e=>hs.hpr x B (hh _ _ e) }

theorem Sim.write (hs:Sim n w0 M0 U ι h fr mem a w) {m:Nat} {B B':Blk} {L:Loc} (he:qk mem m=some B) (hz:B.fz=false) (hL:ι m=some L) {C cur:Array Value}
  (hcur:w.heap[L.b]? =some (.cells cur B.ty (0,0))) (hsz:C.size=L.sz) (hes:B'.es=B.es) (hty:B'.ty=B.ty) (hfz:B'.fz=false) (hr:RBs ι h C B'.es B'.els)
  (hLe:L.es=B.es) (hn:∀m'∈B'.nms,U m') (hp:B'.pr=true→∀e∈B'.els,∀x∈e,x.pr=true):
  Sim n w0 M0 U ι h fr (qb6 mem (m,some B')) a (w.setRow L.b C):=by
 have hheap:=fun b=>qog w L.b b C cur B.ty hcur
 have hb:=hs.hmem m B he
 have h0:B.es≠0:=by
  unfold RB at hb
  rw [hL] at hb
  rcases hb with hb | ⟨_,es,e1,_⟩
  ·exact hb.2
  ·rw [hcur] at e1;cases e1
 exact hs.writeO he hz hL (w':=w.setRow L.b C) (ob:= .cells C B.ty (0,0)) hheap (by simp [World.setRow]) rfl rfl rfl hfz (RB.ofC hL ⟨C,by rw [hheap,if_pos rfl,hty],hsz,by rw [hLe,hes],hr⟩ (by rw [hes];exact h0)) hn hp

theorem Sim.drew (hs:Sim n w0 M0 U ι h fr mem a w):Sim n w0 M0 U ι h fr mem a { w with drawn:=w.drawn+1 }:=
 { hs with
  hmem:=fun m B e=>(hs.hmem m B e).to rfl (fun _ _=>rfl) (Sub.refl h) fun _ _=>rfl }

theorem Sim.freeze (hs:Sim n w0 M0 U ι h fr mem a w) {m:Nat} {B:Blk} (he:qk mem m=some B):
  ∃h',Sub h h'∧(∀L,ι m=some L→h' L.b=w.heap[L.b]?)∧(∀b,(∀L,ι m=some L→b≠L.b)→h' b=h b)∧Sim n w0 M0 U ι h' fr (qb6 mem (m,some { B with fz:=true })) a w:=by
 have hh:∀x B1,qk (qb6 mem (m,some { B with fz:=true })) x=some B1→(x=m∧B1={ B with fz:=true })∨(x≠m∧qk mem x=some B1):=by
  intro x B1 e
  rw [qbk] at e
  by_cases hx:m=x
  ·rw [if_pos hx] at e;exact .inl ⟨hx.symm,by simpa using e.symm⟩
  ·rw [if_neg hx] at e;exact .inr ⟨Ne.symm hx,e⟩
 let h':Hp:=fun b=>match ι m with | some L=>if b=L.b then w.heap[b]? else h b | none=>h b
 have hsub:Sub h h':=by
  intro b o e
  show(match ι m with | some L=>if b=L.b then w.heap[b]? else h b | none=>h b)=_
  cases hL:ι m with
  | none=>exact e
  | some L=>
   by_cases hb:b=L.b
   ·simp only [hb,if_true];rw [←hb];exact hs.hsub b o e
   ·simp only [if_neg hb];exact e
 have hat:∀L,ι m=some L→h' L.b=w.heap[L.b]? :=by
  intro L hL
  show(match ι m with | some L'=>if L.b=L'.b then w.heap[L.b]? else h L.b | none=>h L.b)=_
  rw [hL]
  simp
 have hoff:∀b,(∀L,ι m=some L→b≠L.b)→h' b=h b:=by
  intro b hb
  show(match ι m with | some L'=>if b=L'.b then w.heap[b]? else h b | none=>h b)=_
  cases hL:ι m with
  | none=>rfl
  | some L=>simp [hb L hL]
 refine⟨h',hsub,hat,hoff,?_⟩
 refine
  { hsize:=hs.hsize,hdefers:=hs.hdefers,hfr:= ?_,hmem:= ?_,hinj:= ?_,hsub:= ?_,hmut:= ?_,hfrz:= ?_,hown:= ?_,hown2:= ?_,hframe:=hs.hframe,hgrow:=hs.hgrow,hos:=hs.hos,htape:=hs.htape,houtput:=hs.houtput,hnm:=hs.hnm,hnb:= ?_,hdom:=hs.hdom,hpr:= ?_ }
 ·intro t v e
  obtain⟨u,e1,e2⟩:=hs.hfr t v e
  exact⟨u,e1,e2.mono hsub fun _ _=>rfl⟩
 ·intro x B1 e
  have key:∀x B1,qk mem x=some B1→RB ι h' w x B1:=by
   intro x B1 e
   exact(hs.hmem x B1 e).to rfl (fun _ _=>rfl) hsub fun _ _=>rfl
  rcases hh x B1 e with ⟨rfl,rfl⟩ | ⟨hx,e'⟩
  ·exact key x B he
  ·exact key x B1 e'
 ·intro x y B1 B2 L1 L2 e1 e2 l1 l2 hb
  have f1:∃B3,qk mem x=some B3:=by
   rcases hh x B1 e1 with ⟨rfl,rfl⟩ | ⟨hx,e'⟩
   ·exact⟨B,he⟩
   ·exact⟨_,e'⟩
  have f2:∃B3,qk mem y=some B3:=by
   rcases hh y B2 e2 with ⟨rfl,rfl⟩ | ⟨hx,e'⟩
   ·exact⟨B,he⟩
   ·exact⟨_,e'⟩
  obtain⟨B3,f1⟩:=f1
  obtain⟨B4,f2⟩:=f2
  exact hs.hinj x y B3 B4 L1 L2 f1 f2 l1 l2 hb
 ·intro b o e
  by_cases hb:∃L,ι m=some L∧b=L.b
  ·obtain⟨L,hL,rfl⟩:=hb
   rw [hat L hL] at e
   exact e
  ·rw [hoff b fun L hL hq=>hb ⟨L,hL,hq⟩] at e
   exact hs.hsub b o e
 ·intro x B1 L e hz l
  rcases hh x B1 e with ⟨rfl,rfl⟩ | ⟨hx,e'⟩
  ·cases hz
  ·rw [hoff]
   ·exact hs.hmut x B1 L e' hz l
   ·intro L' hL' hq
    exact hx (hs.hinj x m B1 B L L' e' he l hL' hq)
 ·intro x B1 L e hz l
  rcases hh x B1 e with ⟨rfl,rfl⟩ | ⟨hx,e'⟩
  ·exact hat L l
  ·by_cases hb:∃L',ι m=some L'∧L.b=L'.b
   ·obtain⟨L',hL',hq⟩:=hb
    exact absurd (hs.hinj x m B1 B L L' e' he l hL' hq) hx
   ·rw [hoff _ fun L' hL' hq=>hb ⟨L',hL',hq⟩]
    exact hs.hfrz x B1 L e' hz l
 ·intro x B1 L e hz l
  rcases hh x B1 e with ⟨rfl,rfl⟩ | ⟨hx,e'⟩
  ·cases hz
  ·exact hs.hown x B1 L e' hz l
 ·intro x B1 L e l
  rcases hh x B1 e with ⟨rfl,rfl⟩ | ⟨hx,e'⟩
  ·exact hs.hown2 x B L he l
  ·exact hs.hown2 x B1 L e' l
 ·intro x B1 e
  rcases hh x B1 e with ⟨rfl,rfl⟩ | ⟨hx,e'⟩
  ·exact hs.hnb x B he
  ·exact hs.hnb x B1 e'
 ·intro x B1 e hp
  rcases hh x B1 e with ⟨rfl,rfl⟩ | ⟨hx,e'⟩
  ·exact hs.hpr x B he hp
  ·exact hs.hpr x B1 e' hp
end


def qkQ:TypeDesc→Bool
 | .struct _=>true
 | .array _ _=>true
 | _=>false
def qlv (P:Program):TD→TypeDesc→Prop
 | .int k,d=>d= .int k
 | .bool,d=>d= .bool
 | .str,d=>d= .string
 | .ptr,d=>∃e,d= .pointer e
 | .sl e,d=>d= .slice e
 | .st fs ts,d=>∃F:Array Field,d= .struct F∧fs.length=F.size∧(∀(j:Nat) (p:Nat×Nat),fs[j]? =some p→∃f,F[j]? =some f∧f.offset=p.1∧∃ti,P.info? f.type=some ti∧ti.size=p.2)∧(F.toList.map fun f=>f.type)=ts
 | .arr n e,d=>d= .array n e
 | .mp k e,d=>d= .map k e
 | .oth,_=>True
def qja (P:Program) (t:TypeId):Bool:=match P.underlying t with | some (.int _)=>true | _=>false
def qjH (P:Program):Nat→List Field→Bool
 | _,[]=>true
 | j,f::r=>f.name != "_" && f.offset == j && qja P f.type && qjH P (j+1) r
structure TOk (P:Program) (t:TypeId) (i:TI):Prop where
 info:∃ti,P.info? t=some ti∧ti.size=i.size∧ti.bytes=i.bytes
 desc:∃d,P.underlying t=some d∧qlv P i.d d∧qkQ d=i.agg
 zero:i.zero.length=i.size→∃ti z,P.info? t=some ti∧ti.zero=some z∧z.cells.size=i.size∧(∀(h:Hp) (j:Nat) (x:At),i.zero[j]? =some x→∃u,z.cells[j]? =some u∧RP h x u)∧∀x∈i.zero,x.pr=true
 zone:i.agg=false→i.size=1→i.zero.length=i.size→∀ti z,P.info? t=some ti→ti.zero=some z→z.oneCell'=true
 eq:i.eqs=true→P.eqGuardType P.depth t=false∧P.stoodInHeld t=false∧∃fs,P.underlying t=some (.struct fs)∧qjH P 0 fs.toList=true
def qbB (P:Program) (T:TypeId→Option TI):Prop:=∀t i,T t=some i→TOk P t i

section
variable {P : Program} {n : Nat} {w0 : World} {M0 : Bool → Nat → Prop} {U : Nat → Prop} {ι : Io} {h : Hp} {fr : List (Nat × Sv)} {mem : Mem} {a : Act} {w : World} {T : TypeId → Option TI}

theorem qn {t:TypeId} {d:TypeDesc} (hd:P.underlying t=some d) (w:World):(underlying t).run P w= .ok d w:=by simp [underlying,hd]
theorem qjb {t:TypeId} {i:TypeInfo} (hi:P.info? t=some i) (w:World):(typeInfo t).run P w= .ok i w:=by simp [typeInfo,hi]
theorem qbS {t:TypeId} {i:TypeInfo} (hi:P.info? t=some i) (w:World):(sizeOf t).run P w= .ok i.size w:=by simp [sizeOf,qjb hi]
theorem qgf {t:TypeId} {d:TypeDesc} (hd:P.underlying t=some d) (w:World):(isAgg t).run P w= .ok (qkQ d) w:=by
 simp only [isAgg,Sem.run_bind,qn hd,Result.andThen_ok]
 cases d<;>rfl
theorem qfd {t:TypeId} {i:TypeInfo} {z:Value} (hi:P.info? t=some i) (hz:i.zero=some z) (w:World):(zeroValue t).run P w= .ok z w:=by simp [zeroValue,qjb hi,hz]

theorem RP.bool_inv {h:Hp} {b:Bool} {v:Value} (hr:RP h (.bool b) v):v= .bool b:=by cases hr;rfl
theorem RP.int_inv {h:Hp} {k:IntKind} {i:Int} {v:Value} (hr:RP h (.int k i) v):∃k',v= .int k' i:=by cases hr;exact⟨_,rfl⟩
theorem RP.int_inv' {h:Hp} {k:IntKind} {i:Int} {v:Value} (hr:RP h (.int k i) v):v= .int k i:=by cases hr;rfl
theorem RP.str_inv {h:Hp} {s:ByteArray} {v:Value} (hr:RP h (.str s) v):v= .string s:=by cases hr;rfl
theorem RP.nm {h:Hp} {x:At} {v:Value} (hr:RP h x v):x.nm= []:=by cases hr<;>rfl
theorem qoh {v:Value} {x:At} (e:qkN v=some x):RP h x v:=by
 unfold qkN at e
 split at e<;>first | (cases e;constructor) | cases e
theorem Sim.ev (hs:Sim n w0 M0 U ι h fr mem a w) {o:Operand} {v:Sv} (e:Am.ev fr o=some v):RS ι h v (a.eval o)∧∀m∈v.nms,U m:=by
 cases o with
 | tmp t=>
  obtain⟨u,e1,e2⟩:=hs.hfr t v e
  refine⟨?_,hs.hnm t v e⟩
  simp only [Act.eval,Array.getD_eq_getD_getElem?,e1,Option.getD_some]
  exact e2
 | const c=>
  simp only [Am.ev,Option.bind_eq_some_iff] at e
  obtain⟨x,e1,e2⟩:=e
  cases e2
  have hr:=qoh (h:=h) e1
  refine⟨RA.ofRP hr,fun m hm=> ?_⟩
  cases hr<;>simp [Sv.nms,qd,Vl.cells,At.nm] at hm
 | func f=>
  simp only [Am.ev,Option.some.injEq] at e
  subst e
  exact⟨RP.fn f [] #[] (fun _=>undef) rfl (by simp) (by simp),by simp [Sv.nms,qd,Vl.cells,At.nm]⟩
 | global g=>cases e
theorem Sim.evV (hs:Sim n w0 M0 U ι h fr mem a w) {o:Operand} {v:Vl} (e:Am.evV fr o=some v):RV ι h v (a.eval o)∧∀m∈qd [v],U m:=by
 simp only [Am.evV,Option.bind_eq_some_iff] at e
 obtain⟨s,e1,e2⟩:=e
 cases s<;>simp [svV] at e2
 subst e2
 exact hs.ev e1
theorem Sim.evA (hs:Sim n w0 M0 U ι h fr mem a w) {o:Operand} {x:At} (e:Am.evA fr o=some x):RA ι h x (a.eval o)∧∀m∈x.nm,U m:=by
 simp only [Am.evA,Option.bind_eq_some_iff] at e
 obtain⟨s,e1,e2⟩:=e
 unfold svA at e2
 split at e2
 ·cases e2
  obtain⟨h1,h2⟩:=hs.ev e1
  exact⟨h1,fun m hm=>h2 m (by simpa [Sv.nms,qd,Vl.cells] using hm)⟩
 ·cases e2
theorem Sim.evB (hs:Sim n w0 M0 U ι h fr mem a w) {o:Operand} {b:Bool} (e:Am.evB fr o=some b):a.eval o= .bool b:=by
 simp only [Am.evB,Option.bind_eq_some_iff] at e
 obtain⟨x,e1,e2⟩:=e
 cases x<;>simp [asB] at e2
 subst e2
 exact RP.bool_inv (hs.evA e1).1
theorem Sim.evI (hs:Sim n w0 M0 U ι h fr mem a w) {o:Operand} {i:Int} (e:Am.evI fr o=some i):∃k,a.eval o= .int k i:=by
 simp only [Am.evI,Option.bind_eq_some_iff] at e
 obtain⟨x,e1,e2⟩:=e
 cases x<;>simp [asI] at e2
 subst e2
 exact RP.int_inv (hs.evA e1).1

def Nxt (n:Nat) (w0:World) (M0:Bool→Nat→Prop) (U:Nat→Prop) (ι:Io) (h:Hp) (fr:List (Nat×Sv)) (mem:Mem) (nx:Nat) (e:Eff) (a:Act) (u:Value) (w':World):Prop:=
 ∃ ι' h',Sub h h'∧(∀m,¬(nx≤m∧m<e.nn)→ι' m=ι m)∧Sim n w0 M0 (fun m=>U m∨(nx≤m∧m<e.nn)) ι' h' fr (qB mem e.upd) a w'∧RS ι' h' e.v u∧
  (∀m∈e.v.nms,U m∨(nx≤m∧m<e.nn))∧nx≤e.nn∧∀b,b<w0.heap.size→¬M0 false b→h' b=h b

theorem Nxt.val (hs:Sim n w0 M0 U ι h fr mem a w) {nx:Nat} {v:Sv} {u:Value} {rd:List Nat} (hr:RS ι h v u) (hn:∀m∈v.nms,U m):
  Nxt n w0 M0 U ι h fr mem nx { v:=v,upd:= [],nn:=nx,rd:=rd } a u w:=
 ⟨ι,h,Sub.refl h,fun _ _=>rfl,hs.weak fun m hm=> .inl hm,hr,fun m hm=> .inl (hn m hm),Nat.le_refl _,fun _ _ _=>rfl⟩
theorem Nxt.valV (hs:Sim n w0 M0 U ι h fr mem a w) {nx:Nat} {v:Vl} {u:Value} {e:Eff} (he:Am.val v nx=some e) (hr:RV ι h v u) (hn:∀m∈qd [v],U m):
  Nxt n w0 M0 U ι h fr mem nx e a u w:=by
 simp only [Am.val,Option.some.injEq] at he
 subst he
 exact Nxt.val hs hr hn
theorem Nxt.valP (hs:Sim n w0 M0 U ι h fr mem a w) {nx:Nat} {x:At} {u:Value} {e:Eff} (he:Am.val (.a x) nx=some e) (hr:RP h x u):
  Nxt n w0 M0 U ι h fr mem nx e a u w:=
 Nxt.valV hs he (RA.ofRP hr) (by
  intro m hm
  simp only [qd,Vl.cells,List.flatMap_cons,List.flatMap_nil,List.append_nil,RP.nm hr] at hm
  cases hm)

theorem qvL {o:Oper} {u:Value} {w':World} {next:Act→World→Prop} {Q:Exit→Act→World→Prop} (hr:(execOp a.eval o).run P w= .ok (.value u) w') (hn:next (a.put o.dst u) w'):o.wp P a w next Q:=by
 unfold Oper.wp
 rw [hr]
 exact hn
theorem qsk {o:Oper} {w':World} {next:Act→World→Prop} {Q:Exit→Act→World→Prop} (hr:(execOp a.eval o).run P w= .ok .skip w') (hn:next (a.put o.dst undef) w'):o.wp P a w next Q:=by
 unfold Oper.wp
 rw [hr]
 exact hn

theorem RBs.range {C:Array Value} {es:Nat} {els:List (List At)} (hr:RBs ι h C es els) {i:Nat} {e:List At} (he:els[i]? =some e) {o k:Nat} (hk:o+k≤e.length):
  ∃us:List Value,us.length=k∧(∀j,j<k→C[i*es+o+j]? =us[j]?)∧RL ι h ((e.drop o).take k) us:=by
 obtain⟨_,hc⟩:=hr i e he
 have hin:∀j,j<k→∃u,C[i*es+o+j]? =some u∧∃x,e[o+j]? =some x∧RA ι h x u:=by
  intro j hj
  have hx:e[o+j]? =some e[o+j]:=List.getElem?_eq_getElem (by omega)
  obtain⟨u,e1,e2⟩:=hc (o+j) _ hx
  exact⟨u,by rw [←e1];congr 1;omega,_,hx,e2⟩
 have hlen:((C.toList.drop (i*es+o)).take k).length=k:=by
  rcases Nat.eq_zero_or_pos k with h0 | h0
  ·subst h0;simp
  ·obtain⟨u,e1,_⟩:=hin (k-1) (by omega)
   have:=(Array.getElem?_eq_some_iff.1 e1).1
   simp
   omega
 refine⟨(C.toList.drop (i*es+o)).take k,hlen,fun j hj=> ?_,⟨?_,fun j x e1=> ?_⟩⟩
 ·rw [List.getElem?_take,if_pos hj,List.getElem?_drop,Array.getElem?_toList]
 ·rw [hlen];simp;omega
 ·rw [List.getElem?_take] at e1
  split at e1
  ·rename_i hj
   rw [List.getElem?_drop] at e1
   obtain⟨u,e2,x',e3,e4⟩:=hin j hj
   rw [e1] at e3
   cases e3
   exact⟨u,by rw [List.getElem?_take,if_pos hj,List.getElem?_drop,Array.getElem?_toList];exact e2,e4⟩
  ·cases e1

theorem qjI {b:Nat} {C:Array Value} {t:TypeId} {z:Nat×Nat} (hb:w.heap[b]? =some (.cells C t z)) (o:Nat):w.cell? ⟨b,o,none⟩=C[o]? :=by
 simp [World.cell?,hb]

theorem qhh {ti:TI} {t:TypeId} (hT:TOk P t ti) {b o:Nat} {C:Array Value} {t':TypeId} {z:Nat×Nat} (hb:w.heap[b]? =some (.cells C t' z))
  {us:List Value} (hu:∀j,j<us.length→C[o+j]? =us[j]?) {cs:List At} (hl:RL ι h cs us):
  (ti.agg=true→us.length=ti.size→(loadVar t ⟨b,o,none⟩).run P w= .ok (.agg us.toArray) w)∧
  (ti.agg=false→∀u,us[0]? =some u→(loadVar t ⟨b,o,none⟩).run P w= .ok u w):=by
 obtain⟨d,hd,_,hag⟩:=hT.desc
 obtain⟨i,hi,hsz,_⟩:=hT.info
 constructor
 ·intro hag' hlen
  have hc:(loadCells ⟨b,o,none⟩ us.length).run P w= .ok us.toArray w:=by
   refine run_loadCells_list w _ us fun j v e=> ?_
   rw [Addr.add_mid,qjI hb,hu j,e]
   rcases Nat.lt_or_ge j us.length with h' | h'
   ·exact h'
   ·rw [List.getElem?_eq_none (by omega)] at e;cases e
  rw [hlen] at hc
  simp [loadVar,qgf hd,hag,hag',qbS hi,hsz,hc]
 ·intro hag' u hu0
  have h0:=hu 0 (by
   rcases Nat.lt_or_ge 0 us.length with h' | h'
   ·exact h'
   ·rw [List.getElem?_eq_none (by omega)] at hu0;cases hu0)
  rw [hu0] at h0
  have hcell:w.cell? ⟨b,o,none⟩=some u:=by rw [qjI hb];exact h0
  simp [loadVar,qgf hd,hag,hag',hcell]

theorem qiu {ti:TI} {t:TypeId} (hT:TOk P t ti) {e:List At} {o:Nat} {v:Vl} (hv:qhi ti e o=some v) {b off:Nat} {C:Array Value} {t':TypeId} {z:Nat×Nat}
  (hb:w.heap[b]? =some (.cells C t' z)) (hc:∀(j:Nat) (x:At),e[j]? =some x→∃u,C[off+j]? =some u∧RA ι h x u):
  ∃u,(loadVar t ⟨b,off+o,none⟩).run P w= .ok u w∧RV ι h v u∧∀m∈qd [v],∃x∈e,m∈x.nm:=by
 unfold qhi at hv
 split at hv
 ·rename_i hag
  split at hv
  ·rename_i hle
   cases hv
   have hr:RBs ι h (C.extract off C.size) e.length [e]:=by
    intro i e' he'
    cases i with
    | zero=>
     simp at he'
     subst he'
     refine⟨rfl,fun j x hx=> ?_⟩
     obtain⟨u,e1,e2⟩:=hc j x hx
     refine⟨u,?_,e2⟩
     rw [Array.getElem?_extract]
     have:=(Array.getElem?_eq_some_iff.1 e1).1
     rw [if_pos (by simp;omega)]
     simpa using e1
    | succ i=>simp at he'
   obtain⟨us,hl,hu,hR⟩:=hr.range (i:=0) (e:=e) rfl hle
   have hu':∀j,j<us.length→C[off+o+j]? =us[j]? :=by
    intro j hj
    have:=hu j (by omega)
    rw [←this,Array.getElem?_extract]
    simp only [Nat.zero_mul,Nat.zero_add]
    have hj2:us[j]? =some us[j]:=List.getElem?_eq_getElem hj
    rw [hj2] at this
    have:=(Array.getElem?_eq_some_iff.1 this).1
    simp at this
    rw [if_pos (by simp;omega)]
    congr 1
    omega
   refine⟨_,(qhh hT hb hu' hR).1 hag hl,⟨_,rfl,by simpa using hR⟩,fun m hm=> ?_⟩
   simp only [qd,Vl.cells,List.flatMap_cons,List.flatMap_nil,List.append_nil,List.mem_flatMap] at hm
   obtain⟨x,hx,hm⟩:=hm
   exact⟨x,List.mem_of_mem_drop (List.mem_of_mem_take hx),hm⟩
  ·cases hv
 ·rename_i hag
  simp only [Option.bind_eq_some_iff] at hv
  obtain⟨x,hx,hv⟩:=hv
  cases hv
  obtain⟨u,e1,e2⟩:=hc o x hx
  have hR:RL ι h [x] [u]:=RL.cons e2 RL.nil
  refine⟨u,(qhh hT hb (us:= [u]) (fun j hj=> ?_) hR).2 (by simpa using hag) u rfl,e2,fun m hm=> ?_⟩
  ·simp at hj;subst hj;simpa using e1
  ·simp [qd,Vl.cells] at hm
   exact⟨x,List.mem_of_getElem? hx,hm⟩

end

def qi (P:Program) (n:Nat) (w0:World) (M0:Bool→Nat→Prop) (U:Nat→Prop) (ι:Io) (h:Hp) (fr:List (Nat×Sv)) (mem:Mem) (a:Act) (w:World) (nx:Nat) (o:Oper) (e:Eff):Prop:=
 (∃u w',(execOp a.eval o).run P w= .ok (.value u) w'∧Nxt n w0 M0 U ι h fr mem nx e a u w')∨
 (∃w',(execOp a.eval o).run P w= .ok .skip w'∧Nxt n w0 M0 U ι h fr mem nx e a undef w')

section
variable {P : Program} {n : Nat} {w0 : World} {M0 : Bool → Nat → Prop} {U : Nat → Prop} {ι : Io} {h : Hp} {fr : List (Nat × Sv)} {mem : Mem} {a : Act} {w : World}
 {c:Cfg} {callF:FuncId→List Vl→List Blk→Option (List Vl×List Blk)} {o:Oper} {nx:Nat} {e:Eff}

theorem qap (hT:qbB P c.T) {t:TypeId} {d:TD} (e:qJ c.T t=some d):∃D,P.underlying t=some D∧qlv P d D∧∃i,c.T t=some i∧i.d=d:=by
 simp only [qJ,Option.bind_eq_some_iff] at e
 obtain⟨i,e1,e2⟩:=e
 cases e2
 obtain⟨D,h1,h2,_⟩:=(hT t i e1).desc
 exact⟨D,h1,h2,i,e1,rfl⟩

theorem qmR (hs:Sim n w0 M0 U ι h fr mem a w) {x:Operand}
  (he:((ev fr x).bind fun v=>
   match v with
   | .v (.a (.snil ..))=>match qJ c.T o.type with
    | some (.sl e)=>(c.T e).bind fun te=>val (.a (.snil te.size e)) nx
    | _=>none
   | .u=>none
   | v=>some { v:=v,upd:= [],nn:=nx,rd:= [] })=some e):
  Nxt n w0 M0 U ι h fr mem nx e a (a.eval x) w:=by
 simp only [Option.bind_eq_some_iff] at he
 obtain⟨v,e1,he⟩:=he
 obtain⟨hr,hn⟩:=hs.ev e1
 split at he
 ·split at he
  ·simp only [Option.bind_eq_some_iff] at he
   obtain⟨te,_,he⟩:=he
   refine Nxt.valP hs he ?_
   have hq:a.eval x= .slice none 0 0:=by
    have hr':RP h _ _:=hr
    generalize a.eval x=q at hr'
    cases hr'
    rfl
   rw [hq]
   exact .snil _ _
  ·cases he
 ·cases he
 ·cases he
  exact Nxt.val hs hr hn

theorem quJ (hs:Sim n w0 M0 U ι h fr mem a w) {x:Operand} (hop:o.op= .move x) (he:stp c callF o fr mem nx=some e):qi P n w0 M0 U ι h fr mem a w nx o e:=by
 simp only [stp,hop] at he
 exact .inl ⟨_,w,by simp [execOp,hop],qmR hs he⟩
theorem qqL (hs:Sim n w0 M0 U ι h fr mem a w) {x:Operand} (hop:o.op= .assign x) (he:stp c callF o fr mem nx=some e):qi P n w0 M0 U ι h fr mem a w nx o e:=by
 simp only [stp,hop] at he
 exact .inl ⟨_,w,by simp [execOp,hop],qmR hs he⟩

theorem qkR (hs:Sim n w0 M0 U ι h fr mem a w) {x:At} {u:Value} (hr:RA ι h x u) (hn:∀m∈x.nm,U m) {e:Eff} (he:val (.a x) nx=some e):Nxt n w0 M0 U ι h fr mem nx e a u w:=
 Nxt.valV hs he hr (by simpa [qd,Vl.cells] using hn)

theorem quK (hs:Sim n w0 M0 U ι h fr mem a w) {k x y:Operand} (hop:o.op= .pick k x y) (he:stp c callF o fr mem nx=some e):qi P n w0 M0 U ι h fr mem a w nx o e:=by
 simp only [stp,hop,Option.bind_eq_some_iff] at he
 obtain⟨t,e1,he⟩:=he
 have hk:=hs.evB e1
 split at he
 ·rename_i ht
  simp only [Option.bind_eq_some_iff] at he
  obtain⟨z,e2,he⟩:=he
  exact .inl ⟨a.eval x,w,by simp [execOp,hop,hk,asBool,ht],qkR hs (hs.evA e2).1 (hs.evA e2).2 he⟩
 ·rename_i ht
  simp only [Option.bind_eq_some_iff] at he
  obtain⟨z,e2,he⟩:=he
  exact .inl ⟨a.eval y,w,by simp [execOp,hop,hk,asBool,ht],qkR hs (hs.evA e2).1 (hs.evA e2).2 he⟩

theorem Nxt.made (hs:Sim n w0 M0 U ι h fr mem a w) (hf:∀m,nx≤m→m<nx+1→¬U m) {B:Blk} {C:Array Value} (hr:RBs ι h C B.es B.els) (he0:B.es≠0) (hfz:B.fz=false)
  (hn:∀m'∈B.nms,U m') (hp:B.pr=true→∀e∈B.els,∀x∈e,x.pr=true) {v:Sv} {u:Value} {rd:List Nat}
  (hv:RS (ι.set nx ⟨w.heap.size,C.size,B.es⟩) h v u) (hvn:∀m∈v.nms,m=nx):
  Nxt n w0 M0 U ι h fr mem nx { v:=v,upd:= [(nx,some B)],nn:=nx+1,rd:=rd } a u (w.alloc (.cells C B.ty)):=
 ⟨ι.set nx ⟨w.heap.size,C.size,B.es⟩,h,Sub.refl h,fun m hm=>by unfold Io.set;rw [if_neg];rintro rfl;exact hm ⟨Nat.le_refl _,Nat.lt_succ_self _⟩,
  (hs.alloc nx (hf nx (Nat.le_refl _) (by omega)) B C hr he0 hfz hn hp).weak fun m hm=>by
   rcases hm with hm | rfl
   ·exact .inl hm
   ·exact .inr ⟨Nat.le_refl _,Nat.lt_succ_self _⟩,
  hv,fun m hm=> .inr (by rw [hvn m hm];exact⟨Nat.le_refl _,Nat.lt_succ_self _⟩),Nat.le_succ _,fun _ _ _=>rfl⟩

theorem RBs.one {cs:List At} {us:List Value} (hr:RL ι h cs us):RBs ι h us.toArray cs.length [cs]:=by
 intro i e' he'
 cases i with
 | zero=>
  simp at he'
  subst he'
  refine⟨rfl,fun j x hx=> ?_⟩
  obtain⟨u,e1,e2⟩:=hr.2 j x hx
  exact⟨u,by simpa using e1,e2⟩
 | succ i=>simp at he'

theorem qsl (hT:qbB P c.T) (hs:Sim n w0 M0 U ι h fr mem a w) (hf:∀m,nx≤m→m<e.nn→¬U m) {t:TypeId} (hop:o.op= .alloc t) (he:stp c callF o fr mem nx=some e):
  qi P n w0 M0 U ι h fr mem a w nx o e:=by
 simp only [stp,hop,Option.bind_eq_some_iff] at he
 obtain⟨ti,e1,he⟩:=he
 split at he
 ·cases he
 ·rename_i hz
  have hz0:ti.size≠0:=fun h0=>hz (.inr h0)
  have hz:ti.zero.length=ti.size:=Decidable.not_not.1 fun h0=>hz (.inl h0)
  cases he
  obtain⟨i,z,hi,hzv,hzs,hzr,hzp⟩:=(hT t ti e1).zero hz
  have hR:RL ι h ti.zero z.cells.toList:=⟨by simp [hzs,hz],fun j x hx=>by
   obtain⟨u,e2,e3⟩:=hzr h j x hx
   exact⟨u,by simpa using e2,RA.ofRP e3⟩⟩
  have hB:=RBs.one hR
  rw [hz] at hB
  refine .inl ⟨.pointer (some ⟨w.heap.size,0,none⟩),w.alloc (.cells z.cells t),?_,?_⟩
  ·simp [execOp,hop,Instr.alloc,qfd hi hzv,newVar,newRow]
  ·refine Nxt.made (B:={ els:= [ti.zero],es:=ti.size,ty:=t,pr:=true,fz:=false,ar:=false }) hs hf (by simpa using hB) hz0 rfl ?_ ?_ ?_ ?_
   ·intro m hm
    simp only [Blk.nms,List.flatMap_cons,List.flatMap_nil,List.append_nil,List.mem_flatMap] at hm
    obtain⟨x,hx,hm⟩:=hm
    have:=hzp x hx
    cases x<;>simp [At.pr,At.nm] at this hm
   ·intro _ e' he' x hx
    simp at he'
    subst he'
    exact hzp x hx
   ·exact⟨_,by simp [Io.set];rfl,by simp⟩
   ·intro m hm;simpa [Sv.nms,qd,Vl.cells,At.nm] using hm

theorem qvM (hT:qbB P c.T) (hs:Sim n w0 M0 U ι h fr mem a w) (hf:∀m,nx≤m→m<e.nn→¬U m) {t:TypeId} {x:Operand} (hop:o.op= .box t x) (he:stp c callF o fr mem nx=some e):
  qi P n w0 M0 U ι h fr mem a w nx o e:=by
 simp only [stp,hop,Option.bind_eq_some_iff] at he
 obtain⟨ti,e1,v,e2,he⟩:=he
 split at he
 ·rename_i hz
  obtain⟨hz,hz0⟩:=hz
  cases he
  obtain⟨hr,hn⟩:=hs.evV e2
  have hR:=RV.cells hr
  have hB:=RBs.one hR
  rw [hz] at hB
  refine .inl ⟨.pointer (some ⟨w.heap.size,0,none⟩),w.alloc (.cells (a.eval x).cells t),?_,?_⟩
  ·simp [execOp,hop,Instr.box,newVar,newRow]
  ·refine Nxt.made (B:={ els:= [v.cells],es:=ti.size,ty:=t,pr:=v.cells.all At.pr,fz:=false,ar:=false }) hs hf (by simpa using hB) hz0 rfl ?_ ?_ ?_ ?_
   ·intro m hm
    exact hn m (by simpa [Blk.nms,qd] using hm)
   ·intro hp e' he' y hy
    simp at he'
    subst he'
    have hp:v.cells.all At.pr=true:=hp
    exact List.all_eq_true.1 hp y hy
   ·exact⟨_,by simp [Io.set];rfl,by simp⟩
   ·intro m hm;simpa [Sv.nms,qd,Vl.cells,At.nm] using hm
 ·cases he

theorem quL (hT:qbB P c.T) (hs:Sim n w0 M0 U ι h fr mem a w) {t:TypeId} {x:Operand} (hop:o.op= .load t x) (he:stp c callF o fr mem nx=some e):
  qi P n w0 M0 U ι h fr mem a w nx o e:=by
 simp only [stp,hop,Option.bind_eq_some_iff] at he
 obtain⟨ti,e1,y,e2,he⟩:=he
 obtain⟨hr,hn⟩:=hs.evA e2
 split at he
 ·rename_i m i o'
  simp only [Option.bind_eq_some_iff] at he
  obtain⟨B,e3,el,e4,v,e5,he⟩:=he
  cases he
  obtain⟨L,hL,hx⟩:=hr
  obtain⟨C,h1,h2,h3,h4⟩:=(hs.hmem m B e3).cells hL fun h0 _ _=>by rw [h0] at e4;simp at e4
  obtain⟨u,r1,r2,r3⟩:=qiu (hT t ti e1) e5 (off:=i*B.es) h1 (h4 i el e4).2
  refine .inl ⟨u,w,?_,Nxt.val hs r2 ?_⟩
  ·simp [execOp,hop,Instr.loadAt,Instr.sureAddr,hx,h3,r1]
  ·intro m' hm'
   obtain⟨z,hz,hm'⟩:=r3 m' hm'
   refine(hs.hnb m B e3).2 m' ?_
   simp only [Blk.nms,List.mem_flatMap]
   exact⟨el,List.mem_of_getElem? e4,z,hz,hm'⟩
 ·rename_i el o'
  simp only [Option.bind_eq_some_iff] at he
  obtain⟨v,e5,he⟩:=he
  have hr:RP h _ _:=hr
  generalize hq:a.eval x=q at hr
  cases hr with
  | pp _ _ b off C t' z us hb hu hr=>
   obtain⟨u,r1,r2,r3⟩:=qiu (ι:=ι) (hT t ti e1) e5 (off:=off) (hs.hsub _ _ hb) (fun j y hy=>⟨us j,hu j y hy,RA.ofRP (hr j y hy)⟩)
   refine .inl ⟨u,w,?_,Nxt.valV hs he r2 ?_⟩
   ·simp [execOp,hop,Instr.loadAt,Instr.sureAddr,hq,r1]
   ·intro m' hm'
    obtain⟨y,hy,hm'⟩:=r3 m' hm'
    obtain⟨j,hj⟩:=List.getElem?_of_mem hy
    rw [RP.nm (hr j y hj)] at hm'
    cases hm'
 ·cases he

theorem qoi (hs:Sim n w0 M0 U ι h fr mem a w) {x:Operand} (hop:o.op= .nilCheck x) (he:stp c callF o fr mem nx=some e):qi P n w0 M0 U ι h fr mem a w nx o e:=by
 simp only [stp,hop,Option.bind_eq_some_iff] at he
 obtain⟨y,e2,he⟩:=he
 obtain⟨hr,hn⟩:=hs.evA e2
 split at he
 ·have hr':=hr
  obtain⟨L,hL,hx⟩:=hr'
  refine .inl ⟨_,w,?_,qkR hs hr hn he⟩
  simp [execOp,hop,hx]
 ·have hr':RP h _ _:=hr
  have hx:∃A,a.eval x= .pointer (some A):=by
   generalize a.eval x=q at hr'
   cases hr'
   exact⟨_,rfl⟩
  obtain⟨A,hx⟩:=hx
  refine .inl ⟨_,w,?_,qkR hs hr hn he⟩
  simp [execOp,hop,hx]
 ·cases he

end

section
variable {P : Program} {n : Nat} {w0 : World} {M0 : Bool → Nat → Prop} {U : Nat → Prop} {ι : Io} {h h1 : Hp} {fr : List (Nat × Sv)} {mem mem1 : Mem} {a : Act} {w w' : World}
 {c:Cfg} {callF:FuncId→List Vl→List Blk→Option (List Vl×List Blk)} {o:Oper} {nx:Nat} {e:Eff}

theorem qcO (m u v:Mem):qB m (u++v)=qB (qB m u) v:=by
 induction u generalizing m with
 | nil=>rfl
 | cons p u ih=>simp only [List.cons_append,qB,ih]

def Vw (ι:Io) (mem:Mem) (w:World) (h1:Hp) (F:List Nat):Prop:=∀m∈F,∀B L,qk mem m=some B→ι m=some L→h1 L.b=w.heap[L.b]?

def Fzn (mem mem1:Mem):Prop:=∀m,qk mem1 m=qk mem m∨∃b,qk mem m=some b∧qk mem1 m=some { b with fz:=true }

theorem Sim.freezeL (F:List Nat):∀ {mem1:Mem} {h:Hp},Sim n w0 M0 U ι h fr mem1 a w→Fzn mem mem1→
  ∃h1,Sub h h1∧Vw ι mem w h1 F∧(∀b,(∀m∈F,∀B L,qk mem m=some B→ι m=some L→L.b≠b)→h1 b=h b)∧Sim n w0 M0 U ι h1 fr (qB mem1 (qaO mem F)) a w∧Fzn mem (qB mem1 (qaO mem F)):=by
 induction F with
 | nil=>intro mem1 h hs hz;exact⟨h,Sub.refl h,fun m hm=>(by cases hm),fun _ _=>rfl,hs,hz⟩
 | cons m F ih=>
  intro mem1 h hs hz
  cases hB:qk mem m with
  | none=>
   simp only [qaO,hB]
   obtain⟨h1,r1,r2,r3,r4,r5⟩:=ih hs hz
   refine⟨h1,r1,?_,?_,r4,r5⟩
   ·intro m' hm' B L e l
    rcases List.mem_cons.1 hm' with rfl | hm'
    ·rw [hB] at e;cases e
    ·exact r2 m' hm' B L e l
   ·intro b hb
    exact r3 b fun m' hm'=>hb m' (List.mem_cons_of_mem _ hm')
  | some B=>
   simp only [qaO,hB,qB]
   have hB1:∃B1,qk mem1 m=some B1∧({ B1 with fz:=true }:Blk)={ B with fz:=true }:=by
    rcases hz m with e | ⟨b,e1,e2⟩
    ·exact⟨B,by rw [e,hB],rfl⟩
    ·rw [hB] at e1;cases e1;exact⟨_,e2,rfl⟩
   obtain⟨B1,e1,e2⟩:=hB1
   obtain⟨h2,s1,s2,s4,s3⟩:=hs.freeze e1
   rw [e2] at s3
   have hz2:Fzn mem (qb6 mem1 (m,some { B with fz:=true })):=by
    intro x
    rw [qbk]
    by_cases hx:m=x
    ·rw [if_pos hx];exact .inr ⟨B,by rw [←hx,hB],rfl⟩
    ·rw [if_neg hx];exact hz x
   obtain⟨h1,r1,r2,r3,r4,r5⟩:=ih s3 hz2
   refine⟨h1,s1.trans r1,?_,?_,r4,r5⟩
   ·intro m' hm' B' L e l
    rcases List.mem_cons.1 hm' with rfl | hm'
    ·have hq:=s2 L l
     have hlt:=(hs.hdom m' L l).2
     rw [Array.getElem?_eq_getElem hlt] at hq ⊢
     exact r1 _ _ hq
    ·exact r2 m' hm' B' L e l
   ·intro b hb
    rw [r3 b fun m' hm'=>hb m' (List.mem_cons_of_mem _ hm')]
    exact s4 b fun L hL hq=>hb m (List.mem_cons_self ..) B L hB hL hq.symm

theorem Fzn.mp (hz:Fzn mem mem1) {m:Nat} {B B0:Blk} (e:qk mem1 m=some B) (e0:qk mem m=some B0):B.mp=B0.mp:=by
 rcases hz m with q | ⟨b,q1,q2⟩
 ·rw [q,e0] at e;cases e;rfl
 ·rw [q2] at e;rw [q1] at e0;cases e;cases e0;rfl
theorem Fzn.refl (mem:Mem):Fzn mem mem:=fun _=> .inl rfl
theorem Fzn.of (hz:Fzn mem mem1) {m:Nat} {B:Blk} (e:qk mem1 m=some B):∃B0,qk mem m=some B0∧B.els=B0.els∧B.es=B0.es∧B.ty=B0.ty∧B.pr=B0.pr∧(B.fz=false→B0.fz=false):=by
 rcases hz m with q | ⟨b,q1,q2⟩
 ·exact⟨B,by rw [←q,e],rfl,rfl,rfl,rfl,id⟩
 ·rw [e] at q2;cases q2;exact⟨b,q1,rfl,rfl,rfl,rfl,fun hq=>by cases hq⟩

theorem qiv (hs:Sim n w0 M0 U ι h fr mem a w) (hsub:Sub h h1) {x y:At} {v:Value} (hv:Vw ι mem w h1 x.smn) (hr:RA ι h x v) (e:qeU mem x=some y):
  RA ι h1 y v∧(∀m∈y.nm,m∈x.ptrs):=by
 cases x with
 | sm m lo k=>
  simp only [qeU,Option.bind_eq_some_iff] at e
  obtain⟨B,e1,e⟩:=e
  split at e
  ·rename_i hc
   cases e
   refine⟨?_,by intro m hm;cases hm⟩
   have hb:=hs.hmem m B e1
   rcases hr with ⟨L,cap,hL,rfl,hcap,hkc,hmax⟩ | ⟨hL,rfl,rfl,rfl⟩
   ·rcases Nat.eq_zero_or_pos k with rfl | hk0
    ·rw [List.take_zero]
     exact .sl0 _ _ _
    obtain⟨C,b1,b2,b3,b4⟩:=hb.cells hL fun h0 _ _=>by have:=hc.2;rw [h0] at this;simp at this;omega
    have hh:=hv m (by simp [At.smn]) B L e1 hL
    rw [b1] at hh
    have hpr:=hs.hpr m B e1 hc.1
    refine .sl (h:=h1) k _ L.b (lo*L.es) cap B.es C B.ty (0,0) (fun i j=>(C[lo*L.es+(i*B.es+j)]?).getD default) hh (by simp;omega) hkc ?_ ?_ ?_
    ·intro i el hi
     rw [List.getElem?_take] at hi
     split at hi
     ·rw [List.getElem?_drop] at hi;exact(b4 _ el hi).1
     ·cases hi
    ·intro i el j x hi hj
     rw [List.getElem?_take] at hi
     split at hi
     ·rw [List.getElem?_drop] at hi
      obtain⟨u,q1,q2⟩:=(b4 _ el hi).2 j x hj
      have:C[lo*L.es+(i*B.es+j)]? =some u:=by rw [←q1,b3,Nat.add_mul];congr 1;omega
      rw [this];rfl
     ·cases hi
    ·intro i el j x hi hj
     rw [List.getElem?_take] at hi
     split at hi
     ·rw [List.getElem?_drop] at hi
      obtain⟨u,q1,q2⟩:=(b4 _ el hi).2 j x hj
      have:C[lo*L.es+(i*B.es+j)]? =some u:=by rw [←q1,b3,Nat.add_mul];congr 1;omega
      simp only [this,Option.getD_some]
      exact RP.mono hsub (RA.toRP (hpr el (List.mem_of_getElem? hi) x (List.mem_of_getElem? hj)) q2)
     ·cases hi
   ·rw [hb.els0 hL]
    simp
    exact .sl0 _ _ _
  ·cases e
 | snil es ty=>
  cases e
  have hr:RP h _ _:=hr
  cases hr
  exact⟨.sl0 _ _ _,by intro m hm;cases hm⟩
 | ptr m i o=>
  cases e
  obtain⟨L,hL,hv⟩:=hr
  exact⟨⟨L,hL,hv⟩,by intro m hm;simpa [At.nm,At.ptrs] using hm⟩
 | mp m=>
  cases e
  exact⟨hr,by intro m hm;simpa [At.nm,At.ptrs] using hm⟩
 | _=>
  cases e
  exact⟨RP.mono hsub hr,by intro m hm;cases hm⟩

theorem qpq (hs:Sim n w0 M0 U ι h fr mem a w) (hsub:Sub h h1) {cs ds:List At} {us:List Value} (hv:Vw ι mem w h1 (cs.flatMap At.smn)) (hr:RL ι h cs us) (e:qo (qeU mem) cs=some ds):
  RL ι h1 ds us∧(∀m∈ds.flatMap At.nm,m∈cs.flatMap At.ptrs):=by
 obtain⟨e1,_⟩:=qbj e
 constructor
 ·refine⟨by rw [e1];exact hr.1,fun j y hy=> ?_⟩
  obtain⟨x,hx,hxy⟩:=qt e j y hy
  obtain⟨u,hu,hr'⟩:=hr.2 j x hx
  exact⟨u,hu,(qiv hs hsub (fun m hm=>hv m (List.mem_flatMap.2 ⟨x,List.mem_of_getElem? hx,hm⟩)) hr' hxy).1⟩
 ·intro m hm
  obtain⟨y,hy,hm⟩:=List.mem_flatMap.1 hm
  obtain⟨j,hj⟩:=List.getElem?_of_mem hy
  obtain⟨x,hx,hxy⟩:=qt e j y hj
  refine List.mem_flatMap.2 ⟨x,List.mem_of_getElem? hx,?_⟩
  cases x<;>simp only [qeU,Option.bind_eq_some_iff] at hxy
  case sm=>obtain⟨B,_,hxy⟩:=hxy;split at hxy<;>cases hxy;cases hm
  all_goals (cases hxy;first | (simp only [At.ptrs];exact hm) | cases hm)

theorem qiw (hs:Sim n w0 M0 U ι h fr mem a w) (hsub:Sub h h1) {x y:Vl} {v:Value} (hv:Vw ι mem w h1 (x.cells.flatMap At.smn)) (hr:RV ι h x v) (e:qeE mem x=some y):
  RV ι h1 y v∧(∀m∈qd [y],m∈x.cells.flatMap At.ptrs):=by
 cases x with
 | a x=>
  simp only [qeE,Option.bind_eq_some_iff] at e
  obtain⟨z,e1,e2⟩:=e
  cases e2
  obtain⟨q1,q2⟩:=qiv hs hsub (by simpa [Vl.cells] using hv) hr e1
  exact⟨q1,by intro m hm;simpa [Vl.cells] using q2 m (by simpa [qd,Vl.cells] using hm)⟩
 | g cs=>
  simp only [qeE,Option.bind_eq_some_iff] at e
  obtain⟨ds,e1,e2⟩:=e
  cases e2
  obtain⟨A,hA,hl⟩:=hr
  obtain⟨q1,q2⟩:=qpq hs hsub hv hl e1
  exact⟨⟨A,hA,q1⟩,by intro m hm;exact q2 m (by simpa [qd,Vl.cells] using hm)⟩

theorem qj4 (hs:Sim n w0 M0 U ι h fr mem a w) (hsub:Sub h h1) {C:Array Value} {es:Nat} {els fls:List (List At)} (hv:Vw ι mem w h1 (els.flatMap fun e=>e.flatMap At.smn)) (hr:RBs ι h C es els)
  (e:qo (qo (qeU mem)) els=some fls):RBs ι h1 C es fls:=by
 intro i el hi
 obtain⟨el',hi',he'⟩:=qt e i el hi
 obtain⟨q1,q2⟩:=hr i el' hi'
 refine⟨by rw [(qbj he').1];exact q1,fun j y hy=> ?_⟩
 obtain⟨x,hx,hxy⟩:=qt he' j y hy
 obtain⟨u,hu,hr'⟩:=q2 j x hx
 exact⟨u,hu,(qiv hs hsub (fun m hm=>hv m (List.mem_flatMap.2 ⟨el',List.mem_of_getElem? hi',List.mem_flatMap.2 ⟨x,List.mem_of_getElem? hx,hm⟩⟩)) hr' hxy).1⟩
theorem qlQ {x y:At} (e:qeU mem x=some y):∀m∈y.nm,m∈x.ptrs:=by
 intro m hm
 cases x<;>simp only [qeU,Option.bind_eq_some_iff] at e
 case sm=>obtain⟨B,_,e⟩:=e;split at e<;>cases e;cases hm
 all_goals (cases e;first | (simp only [At.ptrs];exact hm) | cases hm)
theorem qlw {x:At} {m:Nat} (hm:m∈x.ptrs):m∈x.nm:=by cases x<;>simp [At.ptrs] at hm<;>simp [At.nm,hm]


theorem Sim.frzStep (hs:Sim n w0 M0 U ι h fr mem a w) (F:List Nat):
  ∃h1,Sub h h1∧Vw ι mem w h1 F∧Sim n w0 M0 U ι h1 fr (qB mem (qaO mem F)) a w∧Fzn mem (qB mem (qaO mem F))∧∀b,b<w0.heap.size→¬M0 false b→h1 b=h b:=by
 obtain⟨h1,s1,s2,s3,s4,s5⟩:=Sim.freezeL F hs (Fzn.refl mem)
 refine⟨h1,s1,s2,s4,s5,fun b hb hM=> ?_⟩
 by_cases hx:∃m∈F,∃B L,qk mem m=some B∧ι m=some L∧L.b=b
 ·obtain⟨m,hm,B,L,k1,k2,rfl⟩:=hx
  rw [s2 m hm B L k1 k2]
  cases hz:B.fz with
  | false=>
   rcases hs.hown m B L k1 hz k2 with h' | h'
   ·omega
   ·exact absurd h' hM
  | true=>exact(hs.hfrz m B L k1 hz k2).symm
 ·exact s3 b fun m hm B L k1 k2 hq=>hx ⟨m,hm,B,L,k1,k2,hq⟩
theorem Nxt.frz {F:List Nat} {u:Value} {v:Sv} {up:Mem} {nn:Nat} {rd rd':List Nat} (hsub:Sub h h1) (hfr:∀b,b<w0.heap.size→¬M0 false b→h1 b=h b)
  (hx:Nxt n w0 M0 U ι h1 fr (qB mem (qaO mem F)) nx { v:=v,upd:=up,nn:=nn,rd:=rd } a u w'):
  Nxt n w0 M0 U ι h fr mem nx { v:=v,upd:=qaO mem F++up,nn:=nn,rd:=rd' } a u w':=by
 obtain⟨ι',h',q1,q2,q3,q4,q5,q6,q7⟩:=hx
 refine⟨ι',h',hsub.trans q1,q2,?_,q4,q5,q6,fun b hb hM=>by rw [q7 b hb hM,hfr b hb hM]⟩
 rw [qcO]
 exact q3
end

section
variable {P : Program} {n : Nat} {w0 : World} {M0 : Bool → Nat → Prop} {U : Nat → Prop} {ι : Io} {h : Hp} {fr : List (Nat × Sv)} {mem : Mem} {a : Act} {w : World}
 {c:Cfg} {callF:FuncId→List Vl→List Blk→Option (List Vl×List Blk)} {o:Oper} {nx:Nat} {e:Eff}

theorem RBs.set {C:Array Value} {es:Nat} {els:List (List At)} (hr:RBs ι h C es els) {i:Nat} {el:List At} (he:els[i]? =some el) {off:Nat} {cs:List At} {us:List Value}
  (hR:RL ι h cs us) (hle:off+cs.length≤el.length) (hin:i*es+off+us.length≤C.size):
  RBs ι h (C.toList.take (i*es+off)++us++C.toList.drop (i*es+off+us.length)).toArray es (els.set i (qeP el off cs)):=by
 obtain⟨hlen,hc⟩:=hr i el he
 have hul:us.length=cs.length:=hR.1.symm
 have hcell:∀k,(k<i*es+off∨i*es+off+us.length≤k)→(C.toList.take (i*es+off)++us++C.toList.drop (i*es+off+us.length)).toArray[k]? =C[k]? :=by
  intro k hk
  rw [List.getElem?_toArray,List.append_assoc,List.getElem?_append,List.length_take,Array.length_toList]
  rcases hk with hk | hk
  ·rw [if_pos (by omega),List.getElem?_take,if_pos hk,Array.getElem?_toList]
  ·rw [if_neg (by omega),List.getElem?_append,if_neg (by omega),List.getElem?_drop,Array.getElem?_toList]
   congr 1
   omega
 have hmid:∀k,k<us.length→(C.toList.take (i*es+off)++us++C.toList.drop (i*es+off+us.length)).toArray[i*es+off+k]? =us[k]? :=by
  intro k hk
  rw [List.getElem?_toArray,List.append_assoc,List.getElem?_append,List.length_take,Array.length_toList,if_neg (by omega),List.getElem?_append,if_pos (by omega)]
  congr 1
  omega
 intro i' e' he'
 rw [List.getElem?_set] at he'
 by_cases hi:i=i'
 ·subst hi
  rw [if_pos rfl] at he'
  split at he'
  ·cases he'
   refine⟨by simp [qeP];omega,fun j x hx=> ?_⟩
   have hx':=hx
   unfold qeP at hx'
   rw [List.append_assoc,List.getElem?_append,List.length_take] at hx'
   split at hx'
   ·rename_i hj
    rw [List.getElem?_take] at hx'
    split at hx'
    ·obtain⟨u,e1,e2⟩:=hc j x hx'
     exact⟨u,by rw [hcell _ (.inl (by omega))];exact e1,e2⟩
    ·cases hx'
   ·rename_i hj
    rw [List.getElem?_append] at hx'
    split at hx'
    ·obtain⟨u,e1,e2⟩:=hR.2 _ x hx'
     refine⟨u,?_,e2⟩
     have hk:j-min off el.length<us.length:=by omega
     have:=hmid _ hk
     rw [e1] at this
     rw [←this]
     congr 1
     omega
    ·rw [List.getElem?_drop] at hx'
     have hq:off+cs.length+(j-min off el.length-cs.length)=j:=by omega
     rw [hq] at hx'
     obtain⟨u,e1,e2⟩:=hc j x hx'
     exact⟨u,by rw [hcell _ (.inr (by omega))];exact e1,e2⟩
  ·cases he'
 ·rw [if_neg hi] at he'
  obtain⟨hl',hc'⟩:=hr i' e' he'
  refine⟨hl',fun j x hx=> ?_⟩
  obtain⟨u,e1,e2⟩:=hc' j x hx
  refine⟨u,?_,e2⟩
  have hj:j<es:=by
   rw [←hl']
   rcases Nat.lt_or_ge j e'.length with h' | h'
   ·exact h'
   ·rw [List.getElem?_eq_none (by omega)] at hx;cases hx
  rw [hcell _ ?_]
  ·exact e1
  ·rcases Nat.lt_or_gt_of_ne hi with hlt | hgt
   ·right
    have:(i+1)*es≤i'*es:=Nat.mul_le_mul_right es hlt
    rw [Nat.add_mul,Nat.one_mul] at this
    omega
   ·left
    have:(i'+1)*es≤i*es:=Nat.mul_le_mul_right es hgt
    rw [Nat.add_mul,Nat.one_mul] at this
    omega

theorem qjc {cs xs:List At} {o':Nat} {x:At} (hx:x∈qeP cs o' xs):x∈cs∨x∈xs:=by
 unfold qeP at hx
 rcases List.mem_append.1 hx with h' | h'
 ·rcases List.mem_append.1 h' with h' | h'
  ·exact .inl (List.mem_of_mem_take h')
  ·exact .inr h'
 ·exact .inl (List.mem_of_mem_drop h')

theorem qqM (hs:Sim n w0 M0 U ι h fr mem a w) {m:Nat} {v v1:Vl} {F:List Nat} {u:Value} (hv:RV ι h v u) (hvn:∀m∈qd [v],U m) (e:arF mem m v=some (v1,F)):
  ∃h1,Sub h h1∧Sim n w0 M0 U ι h1 fr (qB mem (qaO mem F)) a w∧(∀b,b<w0.heap.size→¬M0 false b→h1 b=h b)∧RV ι h1 v1 u∧∀m∈qd [v1],U m:=by
 simp only [arF,Option.bind_eq_some_iff] at e
 obtain⟨b,_,e⟩:=e
 split at e
 ·simp only [Option.bind_eq_some_iff] at e
  obtain⟨v2,e2,e⟩:=e
  cases e
  obtain⟨h1,s1,s2,s3,s4,s5⟩:=hs.frzStep (qfo [v])
  obtain⟨q1,q2⟩:=qiw hs s1 (by simpa [qfo] using s2) hv e2
  refine⟨h1,s1,s3,s5,q1,fun m hm=> ?_⟩
  obtain⟨x,hx,hm'⟩:=List.mem_flatMap.1 (q2 m hm)
  exact hvn m (by simp only [qd,List.flatMap_cons,List.flatMap_nil,List.append_nil,List.mem_flatMap];exact⟨x,hx,qlw hm'⟩)
 ·cases e
  exact⟨h,Sub.refl h,hs,fun _ _ _=>rfl,hv,hvn⟩
theorem qi.frz {h1:Hp} {F:List Nat} {v:Sv} {up:Mem} {nn:Nat} {rd rd':List Nat} (hsub:Sub h h1) (hfr:∀b,b<w0.heap.size→¬M0 false b→h1 b=h b)
  (hx:qi P n w0 M0 U ι h1 fr (qB mem (qaO mem F)) a w nx o { v:=v,upd:=up,nn:=nn,rd:=rd }):
  qi P n w0 M0 U ι h fr mem a w nx o { v:=v,upd:=qaO mem F++up,nn:=nn,rd:=rd' }:=by
 rcases hx with ⟨u,w',q1,q2⟩ | ⟨w',q1,q2⟩
 ·exact .inl ⟨u,w',q1,Nxt.frz hsub hfr q2⟩
 ·exact .inr ⟨w',q1,Nxt.frz hsub hfr q2⟩
theorem qsm (hT:qbB P c.T) (hs:Sim n w0 M0 U ι h fr mem a w) {t:TypeId} {x y:Operand} (hop:o.op= .store t x y) (he:stp c callF o fr mem nx=some e):
  qi P n w0 M0 U ι h fr mem a w nx o e:=by
 simp only [stp,hop,Option.bind_eq_some_iff] at he
 obtain⟨ti,e1,v,e2,z,e3,he⟩:=he
 obtain⟨hv,hvn⟩:=hs.evV e2
 obtain⟨hr,hn⟩:=hs.evA e3
 split at he
 ·rename_i m i o'
  simp only [Option.bind_eq_some_iff] at he
  obtain⟨⟨v1,F⟩,e0,B,e4,el,e5,he⟩:=he
  obtain⟨h',hsub,hs',hfrm,hv1,hvn1⟩:=qqM hs hv hvn e0
  clear hv hvn
  dsimp only at e4 he
  split at he
  ·rename_i hc
   obtain⟨hc1,hc2,hc3⟩:=hc
   have hfz:B.fz=false:=by simpa using hc3
   cases he
   obtain⟨L,hL,hx⟩:=hr
   refine qi.frz (rd:= [m]) hsub hfrm ?_
   generalize qB mem (qaO mem F)=mem1 at hs' e4 ⊢
   clear hs
   have hs:=hs'
   have hv:=hv1
   have hvn:=hvn1
   obtain⟨C,h1,h2,h3,h4⟩:=(hs.hmem m B e4).cells hL fun h0 _ _=>by rw [h0] at e5;simp at e5
   have hR:=RV.cells hv
   obtain⟨hel,hcel⟩:=h4 i el e5
   obtain⟨ri,hi,hsz,_⟩:=(hT t ti e1).info
   have hlen:(a.eval y).cells.toList.length=ti.size:=by rw [←hR.1,hc1]
   have hin:i*B.es+o'+(a.eval y).cells.toList.length≤C.size:=by
    rw [hlen]
    rcases Nat.eq_zero_or_pos ti.size with h0 | h0
    ·rw [h0]
     rcases Nat.eq_zero_or_pos o' with ho | ho
     ·subst ho
      rcases Nat.eq_zero_or_pos el.length with hl0 | hl0
      ·have:B.es=0:=by omega
       rw [this];omega
      ·obtain⟨u,q1,_⟩:=hcel 0 el[0] (List.getElem?_eq_getElem hl0)
       have:=(Array.getElem?_eq_some_iff.1 q1).1
       omega
     ·obtain⟨u,q1,_⟩:=hcel (o'-1) el[o'-1] (List.getElem?_eq_getElem (by omega))
      have:=(Array.getElem?_eq_some_iff.1 q1).1
      omega
    ·obtain⟨u,q1,_⟩:=hcel (o'+ti.size-1) el[o'+ti.size-1] (List.getElem?_eq_getElem (by omega))
     have:=(Array.getElem?_eq_some_iff.1 q1).1
     omega
   have hone:∀u∈(a.eval y).cells.toList,u.oneCell'=true:=by
    intro u hu
    obtain⟨j,hj⟩:=List.getElem?_of_mem hu
    have hjl:j<v1.cells.length:=by
     rw [hR.1]
     rcases Nat.lt_or_ge j (a.eval y).cells.toList.length with h' | h'
     ·exact h'
     ·rw [List.getElem?_eq_none (by omega)] at hj;cases hj
    obtain⟨u',q1,q2⟩:=hR.2 j _ (List.getElem?_eq_getElem hjl)
    rw [hj] at q1
    cases q1
    exact q2.oneCell
   have hst:=run_storeCells_at (P:=P) L.b (i*B.es+o') B.ty (a.eval y).cells.toList 0 C w h1 (by simpa using hin) hone
   refine .inr ⟨_,?_,ι,h',Sub.refl h',fun _ _=>rfl,(?_:Sim n w0 M0 _ ι h' fr (qb6 mem1 _) a (w.setRow L.b (C.toList.take (i*B.es+o')++(a.eval y).cells.toList++C.toList.drop (i*B.es+o'+(a.eval y).cells.toList.length)).toArray)),rfl,?_,Nat.le_refl _,fun _ _ _=>rfl⟩
   ·have hsz':(a.eval y).cells.size=ti.size:=by simpa using hlen
    have hst':(storeCells { block:=L.b,off:=i*B.es+o',spot:=none } (a.eval y).cells.toList).run P w=_:=hst
    simp only [Nat.add_zero] at hst'
    simp [execOp,hop,Instr.storeAt,Instr.sureAddr,hx,storeVar,qbS hi,hsz,hsz',h3]
    simp at hst'
    rw [hst']
    simp [hsz']
   ·refine Sim.weak (Sim.write (B':={ B with els:=B.els.set i (qeP el o' v1.cells),pr:=B.pr && v1.cells.all At.pr }) hs e4 hfz hL h1 ?_ rfl rfl hfz ?_ h3 ?_ ?_) (fun m hm=> .inl hm)
    ·rw [←h2];have hin':=hin;rw [Array.length_toList] at hin';simp;omega
    ·exact h4.set e5 hR (by rw [hc1];exact hc2) hin
    ·intro m' hm'
     simp only [Blk.nms,List.mem_flatMap] at hm'
     obtain⟨e',he',q,hq,hm'⟩:=hm'
     rcases List.mem_or_eq_of_mem_set he' with h' | h'
     ·exact(hs.hnb m B e4).2 m' (by simp only [Blk.nms,List.mem_flatMap];exact⟨e',h',q,hq,hm'⟩)
     ·subst h'
      rcases qjc hq with h' | h'
      ·exact(hs.hnb m B e4).2 m' (by simp only [Blk.nms,List.mem_flatMap];exact⟨el,List.mem_of_getElem? e5,q,h',hm'⟩)
      ·exact hvn m' (by simp only [qd,List.mem_flatMap];exact⟨v1,by simp,q,h',hm'⟩)
    ·intro hp e' he' q hq
     have hp:(B.pr && v1.cells.all At.pr)=true:=hp
     rw [Bool.and_eq_true] at hp
     rcases List.mem_or_eq_of_mem_set he' with h' | h'
     ·exact hs.hpr m B e4 hp.1 e' h' q hq
     ·subst h'
      rcases qjc hq with h' | h'
      ·exact hs.hpr m B e4 hp.1 el (List.mem_of_getElem? e5) q h'
      ·exact List.all_eq_true.1 hp.2 q h'
   ·intro m hm;cases hm
  ·cases he
 ·cases he

theorem quM (hs:Sim n w0 M0 U ι h fr mem a w) {op:UnOp} {t:TypeId} {x:Operand} (hop:o.op= .unOp op t x) (he:stp c callF o fr mem nx=some e):qi P n w0 M0 U ι h fr mem a w nx o e:=by
 simp only [stp,hop,Option.bind_eq_some_iff,valA] at he
 obtain⟨y,e2,z,e3,he⟩:=he
 obtain⟨hr,hn⟩:=hs.evA e2
 unfold unA at e3
 split at e3
 ·split at e3
  ·cases e3
   have hx:=RP.int_inv' hr
   exact .inl ⟨_,w,by simp [execOp,hop,hx,Op.unary,Op.intArith]<;>rfl,Nxt.valP hs he (.int _ _)⟩
  ·cases e3
 ·split at e3
  ·cases e3
   have hx:=RP.bool_inv hr
   exact .inl ⟨_,w,by simp [execOp,hop,hx,Op.unary]<;>rfl,Nxt.valP hs he (.bool _)⟩
  ·cases e3
 ·cases e3

theorem qpr {op:BinOp} {k:IntKind} {x y:Int} {z:At} (e1:qmP op k x y=some z) (h1:op≠ .shl) (h2:op≠ .shr) (ty:TypeId) (w:World):
  ∃v,(binOp op ty (.int k x) (.int k y)).run P w= .ok v w∧∀h,RP h z v:=by
 cases op<;>simp only [qmP] at e1<;>first
  | (cases e1;done)
  | (cases e1;exact⟨_,by simp [binOp,Op.intArith,Op.intBits,Op.intCmp]<;>rfl,fun h=>by first | exact .int _ _ | exact .bool _⟩)
  | (split at e1<;>first | (cases e1;done) | (cases e1;rename_i hy;exact⟨_,by simp [binOp,Op.intDiv,hy]<;>rfl,fun h=> .int _ _⟩))

theorem qkS {t:TypeId} (hD:P.underlying t=some .bool) (x y:Bool) (w:World):(Op.equal t (.bool x) (.bool y)).run P w= .ok (x == y) w:=by
 rw [show Op.equal t (.bool x) (.bool y)=Op.equalIn (9999+1) t (.bool x) (.bool y)from rfl]
 generalize 9999=d
 simp [Op.equalIn,qn hD]
theorem qg1 {t el:TypeId} (hD:P.underlying t=some (.pointer el)) (x y:Option Addr) (hxy:x=none∨y=none) (w:World):
  (Op.equal t (.pointer x) (.pointer y)).run P w= .ok (x.isNone && y.isNone) w:=by
 rw [show Op.equal t (.pointer x) (.pointer y)=Op.equalIn (9999+1) t (.pointer x) (.pointer y)from rfl]
 generalize 9999=d
 cases x<;>cases y<;>simp at hxy<;>simp [Op.equalIn,qn hD]

theorem qqN {t:TypeId} (hD:qja P t=true) (d:Nat) (k:IntKind) (x y:Int) (w:World):(Op.equalIn (d+1) t (.int k x) (.int k y)).run P w= .ok (x == y) w:=by
 unfold qja at hD
 split at hD
 ·rename_i kd hd
  simp [Op.equalIn,qn hd]
 ·cases hD
theorem qmS {t:TypeId} (hD:qja P t=true) {A:Array Value} {o:Nat} {u:Value} (h:A[o]? =some u) (w:World):(part t A o).run P w= .ok u w:=by
 unfold qja at hD
 split at hD
 ·rename_i kd hd
  simp [part,qgf hd,qkQ,h]
 ·cases hD
theorem qoM {h:Hp} (d:Nat) (A B:Array Value) (w:World):∀(l:List Field) (j:Nat) (cs ds:List At) (b:Bool),qjH P j l=true→l.length=cs.length→eqA cs ds=some b→
  (∀i x,cs[i]? =some x→∃u,A[j+i]? =some u∧RA ι h x u)→(∀i x,ds[i]? =some x→∃u,B[j+i]? =some u∧RA ι h x u)→
  Sem.run P (forIn l ((none:Option Bool),()) fun f _=>
   if f.name= "_" then pure (ForInStep.yield (none,()))
   else do
    let a ←part f.type A f.offset
    let c ←part f.type B f.offset
    let q ←Op.equalIn (d+1) f.type a c
    if q=false then pure (ForInStep.done (some false,()))else pure (ForInStep.yield (none,()))) w= .ok (if b=true then(none,())else(some false,())) w
 | [],j,cs,ds,b,hf,hl,he,hA,hB=>by
  cases cs with
  | cons c cs=>simp at hl
  | nil=>
   cases ds with
   | cons c ds=>simp [eqA] at he
   | nil=>
    simp only [eqA,Option.some.injEq] at he
    subst he
    rfl
 | f::l,j,cs,ds,b,hf,hl,he,hA,hB=>by
  cases cs with
  | nil=>simp at hl
  | cons c cs=>
  cases ds with
  | nil=>cases c<;>simp [eqA] at he
  | cons e ds=>
  unfold eqA at he
  split at he
  ·rename_i h1 h2;cases h1
  ·rename_i k x r k2 y s h1 h2
   cases h1;cases h2
   split at he
   ·rename_i hk
    subst hk
    simp only [Option.bind_eq_some_iff,Option.some.injEq] at he
    obtain⟨b2,he,hb⟩:=he
    simp only [qjH,Bool.and_eq_true,bne_iff_ne,ne_eq,beq_iff_eq] at hf
    obtain⟨⟨⟨f1,f2⟩,f3⟩,f4⟩:=hf
    obtain⟨u,a1,a2⟩:=hA 0 _ rfl
    obtain⟨v,b1,b2'⟩:=hB 0 _ rfl
    have hu:=RP.int_inv' (show RP h (.int k x) u from a2)
    have hv:=RP.int_inv' (show RP h (.int k y) v from b2')
    subst hu hv
    rw [Nat.add_zero,←f2] at a1 b1
    have ih:=qoM d A B w l (j+1) cs ds b2 f4 (by simpa using hl) he (fun i x hx=>by
     have:=hA (i+1) x (by simpa using hx)
     rwa [show j+(i+1)=j+1+i by omega] at this) (fun i x hx=>by
     have:=hB (i+1) x (by simpa using hx)
     rwa [show j+(i+1)=j+1+i by omega] at this)
    rw [List.forIn_cons]
    simp only [if_neg f1,Sem.run_bind,qmS f3 a1,qmS f3 b1,Result.andThen_ok,qqN f3]
    by_cases hxy:x=y
    ·subst hxy
     simp only [beq_self_eq_true,Bool.true_and] at hb
     subst hb
     simp only [beq_self_eq_true,Bool.true_eq_false,if_false]
     simpa using ih
    ·have hq:(x == y)=false:=by simpa using hxy
     rw [hq] at hb ⊢
     simp only [Bool.false_and] at hb
     subst hb
     simp
   ·cases he
  ·cases he
theorem qsn {h:Hp} {t:TypeId} {fs:Array Field} (hD:P.underlying t=some (.struct fs)) (hst:P.stoodInHeld t=false) (hf:qjH P 0 fs.toList=true) {A B:Array Value} {cs ds:List At} {b:Bool}
  (hl:fs.toList.length=cs.length) (he:eqA cs ds=some b) (hA:RL ι h cs A.toList) (hB:RL ι h ds B.toList) (w:World):
  (Op.equal t (.agg A) (.agg B)).run P w= .ok b w:=by
 rw [show Op.equal t (.agg A) (.agg B)=Op.equalIn (9998+1+1) t (.agg A) (.agg B)from rfl]
 generalize 9998=d
 rw [Op.equalIn]
 have key:=qoM (P:=P) (ι:=ι) (h:=h) d A B w fs.toList 0 cs ds b hf hl he (fun i x hx=>by
  obtain⟨u,h1,h2⟩:=hA.2 i x hx
  exact⟨u,by simpa using h1,h2⟩) (fun i x hx=>by
  obtain⟨u,h1,h2⟩:=hB.2 i x hx
  exact⟨u,by simpa using h1,h2⟩)
 simp [qn hD,hst]
 rw [←Array.forIn_toList,key]
 cases b<;>simp
theorem qqO {fr:List (Nat×Sv)} {o:Operand} {cs:List At} (h:gOf fr o=some cs):evV fr o=some (.g cs):=by
 unfold gOf at h
 split at h
 ·rename_i hh;cases h;simp [evV,hh,svV]
 ·cases h
theorem qvN (hT:qbB P c.T) (hs:Sim n w0 M0 U ι h fr mem a w) {op:BinOp} {t t2:TypeId} {x y:Operand} (hop:o.op= .binOp op t x y t2) {cs:List At} (hg:gOf fr x=some cs) {ti:TI} (e1:c.T t=some ti) {v:Vl} (e2:evV fr y=some v) (he:eqG op ti cs v nx=some e):
  qi P n w0 M0 U ι h fr mem a w nx o e:=by
 obtain⟨hr,hn⟩:=hs.evV (qqO hg)
 obtain⟨hr',hn'⟩:=hs.evV e2
 obtain⟨A,hx,hA⟩:=hr
 unfold eqG at he
 split at he
 ·rename_i fs ts ds hd
  obtain⟨B,hy,hB⟩:=hr'
  split at he
  ·rename_i hc
   simp only [Option.bind_eq_some_iff] at he
   obtain⟨b,e3,he⟩:=he
   obtain⟨q1,q2,F,q3,q4⟩:=(hT t ti e1).eq hc.1
   obtain⟨D,hD,hD',_⟩:=(hT t ti e1).desc
   rw [hd] at hD'
   obtain⟨F',rfl,hF1,_⟩:=hD'
   have hFF:F'=F:=by
    have:=hD.symm.trans q3
    simpa using this
   subst hFF
   have heq:=qsn (ι:=ι) (h:=h) q3 q2 q4 (by rw [Array.length_toList,←hF1];exact hc.2) e3 hA hB w
   have hgd:(eqGuard op t x y (.agg A) (.agg B)).run P w= .ok () w:=by
    cases op<;>simp [eqGuard,q1]
   split at he
   ·exact .inl ⟨.bool b,w,by simp [execOp,hop,hx,hy,hgd,binOp,heq],Nxt.valP hs he (.bool _)⟩
   ·exact .inl ⟨.bool (!b),w,by simp [execOp,hop,hx,hy,hgd,binOp,heq],Nxt.valP hs he (.bool _)⟩
   ·cases he
  ·cases he
 ·cases he
theorem qso (hT:qbB P c.T) (hs:Sim n w0 M0 U ι h fr mem a w) {op:BinOp} {t t2:TypeId} {x y:Operand} (hop:o.op= .binOp op t x y t2) (he:stp c callF o fr mem nx=some e):
  qi P n w0 M0 U ι h fr mem a w nx o e:=by
 simp only [stp,hop,Option.bind_eq_some_iff,valA] at he
 split at he
 ·rename_i cs hg
  simp only [Option.bind_eq_some_iff] at he
  obtain⟨ti,e1,v,e2,he⟩:=he
  exact qvN hT hs hop hg e1 e2 he
 simp only [Option.bind_eq_some_iff] at he
 obtain⟨p,e2,q,e3,z,e4,he⟩:=he
 obtain⟨hr,hn⟩:=hs.evA e2
 obtain⟨hr',hn'⟩:=hs.evA e3
 -- no aggregates: the guard of '==' has nothing to say
 have hg:∀(u v:Value),u.oneCell'=true→u≠ .nilIface→(eqGuard op t x y u v).run P w= .ok () w:=by
  intro u v hu hne
  cases op<;>simp [eqGuard]<;>(cases u<;>simp_all [Value.oneCell'])
 suffices hk:∃v,(binOp op t (a.eval x) (a.eval y)).run P w= .ok v w∧RP h z v∧a.eval x≠ .nilIface by
  obtain⟨v,h1,h2,h3⟩:=hk
  refine .inl ⟨v,w,?_,Nxt.valP hs he h2⟩
  simp [execOp,hop,hg _ _ (RA.oneCell hr) h3,h1]
 unfold qhb at e4
 split at e4
 ·have hx:=RP.int_inv' hr
  have hy:=RP.int_inv' hr'
  rw [hx,hy]
  split at e4
  ·split at e4
   ·cases e4
   ·cases e4
    rename_i hlt
    exact⟨_,by simp [binOp,Op.shift,hlt]<;>rfl,.int _ _,by simp⟩
  ·split at e4
   ·cases e4
   ·cases e4
    rename_i hlt
    exact⟨_,by simp [binOp,Op.shift,hlt]<;>rfl,.int _ _,by simp⟩
  ·split at e4
   ·rename_i hk
    subst hk
    obtain⟨v,h1,h2⟩:=qpr (P:=P) e4 (by assumption) (by assumption) t w
    exact⟨v,h1,h2 h,by simp⟩
   ·cases e4
 ·have hx:=RP.str_inv hr
  have hy:=RP.str_inv hr'
  rw [hx,hy]
  split at e4
  ·split at e4
   ·cases e4
   ·cases e4
    rename_i hlt
    exact⟨_,by simp only [binOp,Op.stringOp];rw [if_neg hlt]<;>rfl,.str _,by simp⟩
  ·cases e4
   exact⟨_,by simp only [binOp,Op.stringOp,ByteArray.toList_eq]<;>rfl,.bool _,by simp⟩
  ·cases e4
   exact⟨_,by simp only [binOp,Op.stringOp,ByteArray.toList_eq]<;>rfl,.bool _,by simp⟩
  ·cases e4
 ·have hx:=RP.bool_inv hr
  have hy:=RP.bool_inv hr'
  rw [hx,hy]
  split at e4
  ·rename_i ht
   obtain⟨D,hD,hD',_⟩:=qap hT ht
   cases hD'
   cases e4
   exact⟨_,by simp only [binOp,bind_pure_comp,Sem.run_bind,Sem.run_map,qkS hD,Result.andThen_ok]<;>rfl,.bool _,by simp⟩
  ·rename_i ht
   obtain⟨D,hD,hD',_⟩:=qap hT ht
   cases hD'
   cases e4
   exact⟨_,by simp only [binOp,bind_pure_comp,Sem.run_bind,Sem.run_map,qkS hD,Result.andThen_ok]<;>rfl,.bool _,by simp⟩
  ·cases e4
 ·split at e4
  ·rename_i ht
   obtain⟨D,hD,hD',_⟩:=qap hT ht
   obtain⟨el,rfl⟩:=hD'
   -- both are pointers; one of them is nil
   have hp:∀ {z:At} {v:Value},RA ι h z v→(z= .nilp→v= .pointer none)∧((∃m i o,z= .ptr m i o)∨(∃e o,z= .pp e o)→∃A,v= .pointer (some A)):=by
    intro z v hz
    constructor
    ·rintro rfl
     have hz:RP h _ _:=hz
     cases hz;rfl
    ·rintro(⟨m,i,o,rfl⟩ | ⟨e,o,rfl⟩)
     ·obtain⟨L,_,rfl⟩:=hz;exact⟨_,rfl⟩
     ·have hz:RP h _ _:=hz
      cases hz;exact⟨_,rfl⟩
   have hp1:=hp hr
   have hp2:=hp hr'
   dsimp only at e4
   have key:∀b,(match p,q with
     | At.nilp,.nilp=>some true
     | .nilp,.ptr .. =>some false
     | .nilp,.pp .. =>some false
     | .ptr ..,.nilp=>some false
     | .pp ..,.nilp=>some false
     | _,_=>(none:Option Bool))=some b→(Op.equal t (a.eval x) (a.eval y)).run P w= .ok b w∧∃A,a.eval x= .pointer A∧∃A',a.eval y= .pointer A':=by
    intro b hb
    split at hb<;>first | (cases hb;done) | skip
    ·cases hb
     rw [hp1.1 rfl,hp2.1 rfl]
     exact⟨by rw [qg1 hD _ _ (by simp)];rfl,_,rfl,_,rfl⟩
    ·cases hb
     obtain⟨A,hA⟩:=hp2.2 (.inl ⟨_,_,_,rfl⟩)
     rw [hp1.1 rfl,hA]
     exact⟨by rw [qg1 hD _ _ (by simp)];rfl,_,rfl,_,rfl⟩
    ·cases hb
     obtain⟨A,hA⟩:=hp2.2 (.inr ⟨_,_,rfl⟩)
     rw [hp1.1 rfl,hA]
     exact⟨by rw [qg1 hD _ _ (by simp)];rfl,_,rfl,_,rfl⟩
    ·cases hb
     obtain⟨A,hA⟩:=hp1.2 (.inl ⟨_,_,_,rfl⟩)
     rw [hp2.1 rfl,hA]
     exact⟨by rw [qg1 hD _ _ (by simp)];rfl,_,rfl,_,rfl⟩
    ·cases hb
     obtain⟨A,hA⟩:=hp1.2 (.inr ⟨_,_,rfl⟩)
     rw [hp2.1 rfl,hA]
     exact⟨by rw [qg1 hD _ _ (by simp)];rfl,_,rfl,_,rfl⟩
   split at e4
   ·simp only [Option.bind_eq_some_iff] at e4
    obtain⟨b,hb,e4⟩:=e4
    cases e4
    obtain⟨h1,A,h2,A',h3⟩:=key b hb
    refine⟨.bool b,?_,.bool _,by rw [h2];simp⟩
    rw [h2,h3] at h1 ⊢
    simp [binOp,h1]
   ·simp only [Option.bind_eq_some_iff] at e4
    obtain⟨b,hb,e4⟩:=e4
    cases e4
    obtain⟨h1,A,h2,A',h3⟩:=key b hb
    refine⟨.bool (!b),?_,.bool _,by rw [h2];simp⟩
    rw [h2,h3] at h1 ⊢
    simp [binOp,h1]
   ·cases e4
  ·cases e4

end

section
variable {P : Program} {n : Nat} {w0 : World} {M0 : Bool → Nat → Prop} {U : Nat → Prop} {ι : Io} {h : Hp} {fr : List (Nat × Sv)} {mem : Mem} {a : Act} {w : World}
 {c:Cfg} {callF:FuncId→List Vl→List Blk→Option (List Vl×List Blk)} {o:Oper} {nx:Nat} {e:Eff}

theorem qoN (cells vs:List Value) (o':Nat) (hle:o'+vs.length≤cells.length) (j:Nat):
  (cells.take o'++vs++cells.drop (o'+vs.length))[j]? =if j<o' then cells[j]? else if j<o'+vs.length then vs[j-o']? else cells[j]? :=by
 rw [List.append_assoc,List.getElem?_append,List.length_take]
 have e1:min o' cells.length=o':=by omega
 rw [e1]
 by_cases h1:j<o'
 ·rw [if_pos h1,if_pos h1,List.getElem?_take,if_pos h1]
 ·rw [if_neg h1,if_neg h1,List.getElem?_append]
  by_cases h2:j<o'+vs.length
  ·rw [if_pos (by omega),if_pos h2]
  ·rw [if_neg (by omega),if_neg h2,List.getElem?_drop]
   congr 1
   omega

theorem qsp (off:Nat):∀(vs:List Value) (k:Nat) (cells:Array Value),off+k+vs.length≤cells.size→
  ((vs.zipIdx k).foldl (fun(cs:Array Value) (p:Value×Nat)=>cs.setIfInBounds (off+p.2) p.1) cells).toList=cells.toList.take (off+k)++vs++cells.toList.drop (off+k+vs.length):=by
 intro vs
 induction vs with
 | nil=>intro k cells _;simp
 | cons v vs ih=>
  intro k cells hle
  simp only [List.length_cons] at hle
  simp only [List.zipIdx_cons,List.foldl_cons]
  rw [ih (k+1) _ (by simp;omega)]
  apply List.ext_getElem?
  intro j
  have l1:off+(k+1)+vs.length≤(cells.setIfInBounds (off+k) v).toList.length:=by simp;omega
  have l2:off+k+(v::vs).length≤cells.toList.length:=by simp;omega
  rw [qoN _ _ _ l1,qoN _ _ _ l2]
  simp only [Array.getElem?_toList,Array.getElem?_setIfInBounds,List.length_cons]
  rcases Nat.lt_trichotomy j (off+k)with hj | hj | hj
  ·rw [if_pos (by omega),if_neg (by omega),if_pos hj]
  ·subst hj
   rw [if_pos (by omega),if_pos rfl,if_pos (by omega),if_neg (by omega),if_pos (by omega),Nat.sub_self]
   rfl
  ·rw [if_neg (by omega),if_neg (by omega:¬j<off+k)]
   by_cases h2:j<off+(k+1)+vs.length
   ·rw [if_pos h2,if_pos (by omega)]
    obtain⟨q,rfl⟩:∃q,j=off+k+1+q:=⟨j-(off+k+1),by omega⟩
    rw [show off+k+1+q-(off+(k+1))=q by omega,show off+k+1+q-(off+k)=q+1 by omega]
    rfl
   ·rw [if_neg h2,if_neg (by omega),if_neg (by omega)]

theorem qmT (place:Nat→Option (Nat×Nat)) (cells:Array Value) (i off size:Nat) (v:Value) (rest:List (Nat×Value)) (hp:place i=some (off,size)) (hv:v.cells.size=size) (hle:off+size≤cells.size):
  Instr.fill place cells ((i,v)::rest)=Instr.fill place (cells.toList.take off++v.cells.toList++cells.toList.drop (off+v.cells.toList.length)).toArray rest:=by
 have hf:(v.cells.zipIdx.foldl (fun cs (x:Value×Nat)=>cs.setIfInBounds (off+x.2) x.1) cells)=(cells.toList.take off++v.cells.toList++cells.toList.drop (off+v.cells.toList.length)).toArray:=by
  have hq:=qsp off v.cells.toList 0 cells (by simp;omega)
  simp only [Nat.add_zero] at hq
  rw [←hq]
  rw [←Array.foldl_toList,Array.toList_zipIdx]
 simp only [Instr.fill,hp]
 rw [if_neg (by simp;omega)]
 exact congrArg (fun z=>Instr.fill place z rest) hf

abbrev qjd (fr:List (Nat×Sv)) (ps:List (Nat×Operand)):Option (List (Nat×Vl)):=qo (fun p:Nat×Operand=>(evV fr p.2).bind fun v=>some (p.1,v)) ps

theorem qj5 (hs:Sim n w0 M0 U ι h fr mem a w) {ds:List (Nat×Nat)} {place:Nat→Option (Nat×Nat)} (hpl:∀i p,ds[i]? =some p→place i=some p):
  ∀ {parts:List (Nat×Operand)} {ps:List (Nat×Vl)} {cs cs':List At} {cells:Array Value},qjd fr parts=some ps→RL ι h cs cells.toList→(∀x∈cs,∀m∈x.nm,U m)→qhQ ds cs ps=some cs'→
  ∃cells',Instr.fill place cells (parts.map fun(i,x)=>(i,a.eval x))=some cells'∧RL ι h cs' cells'.toList∧(∀x∈cs',∀m∈x.nm,U m):=by
 intro parts
 induction parts with
 | nil=>
  intro ps cs cs' cells hp hR hU hf
  simp [qjd,qo] at hp
  subst hp
  simp [qhQ] at hf
  subst hf
  exact⟨cells,rfl,hR,hU⟩
 | cons p parts ih=>
  intro ps cs cs' cells hp hR hU hf
  obtain⟨i,x⟩:=p
  simp only [qjd,qo,Option.bind_eq_some_iff] at hp
  obtain⟨iv,⟨v,e1,e2⟩,ps',e3,e4⟩:=hp
  cases e2
  cases e4
  simp only [qhQ,Option.bind_eq_some_iff] at hf
  obtain⟨⟨off,size⟩,e5,hf⟩:=hf
  split at hf
  ·rename_i hc
   obtain⟨hr,hn⟩:=hs.evV e1
   have hV:=RV.cells hr
   have hsz:(a.eval x).cells.size=size:=by have:=hV.1;simp at this;omega
   have hle:off+size≤cells.size:=by have:=hR.1;simp at this;have:=hc.2;simp at this;omega
   have hR':=hR.put hV off
   obtain⟨cells',h1,h2,h3⟩:=ih (cells:=(cells.toList.take off++(a.eval x).cells.toList++cells.toList.drop (off+(a.eval x).cells.toList.length)).toArray) e3 (by simpa using hR') (fun y hy m hm=>by
    rcases qjc hy with h' | h'
    ·exact hU y h' m hm
    ·exact hn m (by simp only [qd,List.mem_flatMap];exact⟨v,by simp,y,h',hm⟩)) hf
   refine⟨cells',?_,h2,h3⟩
   rw [List.map_cons,qmT place cells i off size (a.eval x) _ (hpl i _ e5) hsz hle]
   exact h1
  ·cases hf

theorem qoj {cs xs:List At} (hl:xs.length=cs.length):qeP cs 0 xs=xs:=by
 unfold qeP
 simp [hl]

def qmU (z:List At) (fr:List (Nat×Sv)) (l:List (Nat×Operand)):Option (List (Nat×Vl)):=qo (fun p:Nat×Operand=>(evV fr p.2).bind fun v=>some (p.1,qgD z v)) l
theorem qps {z:List At} {v:Vl} {u:Value} (hr:RV ι h v u):RV ι h (qgD z v) u∧∀m∈qd [qgD z v],m∈qd [v]:=by
 unfold qgD
 split
 ·split
  ·have hr:RP h _ _:=hr
   cases hr
   exact⟨RP.snil _ _,by intro m hm;simp [qd,Vl.cells,At.nm] at hm⟩
  ·exact⟨hr,fun m hm=>hm⟩
 ·exact⟨hr,fun m hm=>hm⟩
theorem qok (hs:Sim n w0 M0 U ι h fr mem a w) {es:Nat} {z:List At}:
  ∀ {parts:List (Nat×Operand)} {ps:List (Nat×Vl)} {els els':List (List At)} {cells:Array Value},qmU z fr parts=some ps→RBs ι h cells es els→els.length*es=cells.size→
   (∀e∈els,∀x∈e,∀m∈x.nm,U m)→qit es els ps=some els'→
  ∃cells',Instr.fill (fun i=>some (i*es,es)) cells (parts.map fun(i,x)=>(i,a.eval x))=some cells'∧RBs ι h cells' es els'∧els'.length*es=cells'.size∧els'.length=els.length∧(∀e∈els',∀x∈e,∀m∈x.nm,U m):=by
 intro parts
 induction parts with
 | nil=>
  intro ps els els' cells hp hR hl hU hf
  simp [qmU,qo] at hp
  subst hp
  simp [qit] at hf
  subst hf
  exact⟨cells,rfl,hR,hl,rfl,hU⟩
 | cons p parts ih=>
  intro ps els els' cells hp hR hl hU hf
  obtain⟨i,x⟩:=p
  simp only [qmU,qo,Option.bind_eq_some_iff] at hp
  obtain⟨iv,⟨v,e1,e2⟩,ps',e3,e4⟩:=hp
  cases e2
  cases e4
  simp only [qit] at hf
  split at hf
  ·rename_i hc
   obtain⟨hr0,hn0⟩:=hs.evV e1
   obtain⟨hr,hnf⟩:=qps (z:=z) hr0
   have hn:∀m∈qd [qgD z v],U m:=fun m hm=>hn0 m (hnf m hm)
   have hV:=RV.cells hr
   have hsz:(a.eval x).cells.size=es:=by rw [←hc.1,hV.1,Array.length_toList]
   have hel:els[i]? =some els[i]:=List.getElem?_eq_getElem hc.2
   obtain⟨hlen,_⟩:=hR i _ hel
   have hle:i*es+es≤cells.size:=by
    rw [←hl]
    have:(i+1)*es≤els.length*es:=Nat.mul_le_mul_right es hc.2
    rw [Nat.add_mul,Nat.one_mul] at this
    exact this
   have hR':=hR.set hel hV (off:=0) (by have:=hc.1;omega) (by simp;omega)
   rw [qoj (by rw [hlen];exact hc.1)] at hR'
   simp only [Nat.add_zero] at hR'
   obtain⟨cells',h1,h2,h3,h4,h5⟩:=ih e3 hR' (by simp;rw [hl];omega) (fun e' he' y hy m hm=>by
    rcases List.mem_or_eq_of_mem_set he' with h' | h'
    ·exact hU e' h' y hy m hm
    ·subst h'
     exact hn m (by simp only [qd,List.mem_flatMap];exact⟨qgD z v,by simp,y,hy,hm⟩)) hf
   refine⟨cells',?_,h2,h3,by simpa using h4,h5⟩
   rw [List.map_cons,qmT (fun i=>some (i*es,es)) cells i (i*es) es (a.eval x) _ rfl hsz hle]
   exact h1
  ·cases hf

theorem qsq (hT:qbB P c.T) (hs:Sim n w0 M0 U ι h fr mem a w) {t:TypeId} {parts:Array (Nat×Operand)} (hop:o.op= .build t parts) (he:stp c callF o fr mem nx=some e):
  qi P n w0 M0 U ι h fr mem a w nx o e:=by
 simp only [stp,hop,Option.bind_eq_some_iff] at he
 obtain⟨ti,e1,he⟩:=he
 split at he
 ·rename_i fs _ hd
  split at he
  ·cases he
  ·rename_i hz
   have hz:ti.zero.length=ti.size:=by simpa using hz
   simp only [Option.bind_eq_some_iff] at he
   obtain⟨ps,e2,cs,e3,he⟩:=he
   obtain⟨i,z,hi,hzv,hzs,hzr,hzp⟩:=(hT t ti e1).zero hz
   obtain⟨D,hD,hD',_⟩:=(hT t ti e1).desc
   rw [hd] at hD'
   obtain⟨F,rfl,hF1,hF2,_⟩:=hD'
   have hR:RL ι h ti.zero z.cells.toList:=⟨by simp [hzs,hz],fun j x hx=>by
    obtain⟨u,e2,e3⟩:=hzr h j x hx
    exact⟨u,by simpa using e2,RA.ofRP e3⟩⟩
   have hpl:F.toList.mapM (fun f=>(P.info? f.type).map fun i=>(f.offset,i.size))=some fs:=by
    have:∀(G:List Field) (gs:List (Nat×Nat)),gs.length=G.length→(∀(j:Nat) (p:Nat×Nat),gs[j]? =some p→∃f,G[j]? =some f∧f.offset=p.1∧∃ti,P.info? f.type=some ti∧ti.size=p.2)→
      G.mapM (fun f=>(P.info? f.type).map fun i=>(f.offset,i.size))=some gs:=by
     intro G
     induction G with
     | nil=>intro gs hl _;cases gs<;>simp at hl ⊢
     | cons f G ih=>
      intro gs hl hg
      cases gs with
      | nil=>simp at hl
      | cons g gs=>
       obtain⟨f',q1,q2,ti',q3,q4⟩:=hg 0 g rfl
       simp at q1
       subst q1
       have:=ih gs (by simpa using hl) (fun j p hp=>by simpa using hg (j+1) p (by simpa using hp))
       simp [List.mapM_cons,q3,this,q2,q4]
    exact this F.toList fs (by simpa using hF1) (fun j p hp=>by simpa using hF2 j p hp)
   obtain⟨cells',f1,f2,f3⟩:=qj5 hs (ds:=fs) (place:=fun x=>(fs.toArray)[x]?) (fun i p hp=>by simpa using hp) e2 hR (fun x hx m hm=>by
    have:=hzp x hx
    cases x<;>simp [At.pr,At.nm] at this hm) e3
   refine .inl ⟨.agg cells',w,?_,Nxt.valV hs he ⟨_,rfl,f2⟩ ?_⟩
   ·have hb:P.built t (parts.map fun(i,x)=>(i,a.eval x)).toList=some cells':=by
     unfold Program.built
     simp only [hi,hD,hzv,hpl]
     rw [←f1]
     simp
    have:=run_build (P:=P) w t (parts.map fun(i,x)=>(i,a.eval x)) cells' hb
    simp [execOp,hop,this]
   ·intro m hm
    simp only [qd,Vl.cells,List.flatMap_cons,List.flatMap_nil,List.append_nil,List.mem_flatMap] at hm
    obtain⟨x,hx,hm⟩:=hm
    exact f3 x hx m hm
 ·rename_i na el hd
  simp only [Option.bind_eq_some_iff] at he
  obtain⟨te,e4,he⟩:=he
  split at he
  ·cases he
  ·rename_i hz
   have hz:ti.zero.length=ti.size:=by simpa using hz
   simp only [Option.bind_eq_some_iff] at he
   obtain⟨ps,e2,cs,e3,he⟩:=he
   obtain⟨i,z,hi,hzv,hzs,hzr,hzp⟩:=(hT t ti e1).zero hz
   obtain⟨D,hD,hD',_⟩:=(hT t ti e1).desc
   rw [hd] at hD'
   cases hD'
   obtain⟨ri,hri,hrs,_⟩:=(hT el te e4).info
   have hR:RL ι h ti.zero z.cells.toList:=⟨by simp [hzs,hz],fun j x hx=>by
    obtain⟨u,e2,e3⟩:=hzr h j x hx
    exact⟨u,by simpa using e2,RA.ofRP e3⟩⟩
   obtain⟨cells',f1,f2,f3⟩:=qj5 hs (ds:=(List.range na).map fun j=>(j*te.size,te.size)) (place:=fun i=>some (i*ri.size,ri.size)) (fun i p hp=>by
    rw [List.getElem?_map] at hp
    cases hr:(List.range na)[i]? with
    | none=>rw [hr] at hp;cases hp
    | some q=>
     rw [hr] at hp
     have hq:q=i:=by
      rw [List.getElem?_eq_some_iff] at hr
      obtain⟨_,hr⟩:=hr
      simpa using hr.symm
     subst hq
     simpa [hrs] using hp) e2 hR (fun x hx m hm=>by
    have:=hzp x hx
    cases x<;>simp [At.pr,At.nm] at this hm) e3
   refine .inl ⟨.agg cells',w,?_,Nxt.valV hs he ⟨_,rfl,f2⟩ ?_⟩
   ·have hb:P.built t (parts.map fun(i,x)=>(i,a.eval x)).toList=some cells':=by
     unfold Program.built
     simp only [hi,hD,hzv,hri]
     rw [←f1]
     simp
    have:=run_build (P:=P) w t (parts.map fun(i,x)=>(i,a.eval x)) cells' hb
    simp [execOp,hop,this]
   ·intro m hm
    simp only [qd,Vl.cells,List.flatMap_cons,List.flatMap_nil,List.append_nil,List.mem_flatMap] at hm
    obtain⟨x,hx,hm⟩:=hm
    exact f3 x hx m hm
 ·cases he

theorem qix {zs:List At} {z:Value} {k es:Nat} (hz:zs.length=es) (hzs:z.cells.size=es) (hes:0<es) (hzr:∀(h:Hp) (j:Nat) (x:At),zs[j]? =some x→∃u,z.cells[j]? =some u∧RP h x u):
  RBs ι h (madeCells z.cells (k*es)) es (List.replicate k zs):=by
 intro i e' he'
 rw [List.getElem?_replicate] at he'
 split at he'
 ·rename_i hi
  cases he'
  refine⟨hz,fun j x hx=> ?_⟩
  obtain⟨u,e1,e2⟩:=hzr h j x hx
  have hj:j<es:=by
   rw [←hz]
   rcases Nat.lt_or_ge j zs.length with h' | h'
   ·exact h'
   ·rw [List.getElem?_eq_none (by omega)] at hx;cases hx
  refine⟨u,?_,RA.ofRP e2⟩
  have hlt:i*es+j<k*es:=by
   have:(i+1)*es≤k*es:=Nat.mul_le_mul_right es hi
   rw [Nat.add_mul,Nat.one_mul] at this
   omega
  have hmod:(i*es+j) % es=j:=by rw [Nat.mul_comm,Nat.mul_add_mod];exact Nat.mod_eq_of_lt hj
  unfold madeCells
  rw [Array.getElem?_map,Array.getElem?_range,if_pos hlt]
  simp only [Option.map_some,hzs,hmod]
  rw [←e1,Array.getElem?_eq_getElem (by omega)]
  simp [hzs,hj]
 ·cases he'

theorem TOk.zeroF {P:Program} {t:TypeId} {i:TI} (ht:TOk P t i) (hz:i.zero.length=i.size):∃ti z,P.info? t=some ti∧ti.zero=some z∧z.cells.size=i.size∧(∀(h:Hp) (j:Nat) (x:At),(zf i)[j]? =some x→∃u,z.cells[j]? =some u∧RP h x u)∧(∀x∈zf i,x.pr=true)∧(zf i).length=i.size:=by
 obtain⟨ti,z,h1,h2,h3,h4,h5⟩:=ht.zero hz
 refine⟨ti,z,h1,h2,h3,fun h j x hx=> ?_,fun x hx=> ?_,by simp [zf,hz]⟩
 ·simp only [zf,List.getElem?_map,Option.map_eq_some_iff] at hx
  obtain⟨y,hy,rfl⟩:=hx
  obtain⟨u,q1,q2⟩:=h4 h j y hy
  refine⟨u,q1,?_⟩
  cases q2<;>first | exact .sl0 _ _ _ | skip
  ·exact .int _ _
  ·exact .bool _
  ·exact .str _
  ·exact .nilp
  ·exact .fn _ _ _ _ ‹_› ‹_› ‹_›
  ·exact .sl _ _ _ _ _ _ _ _ _ _ ‹_› ‹_› ‹_› ‹_› ‹_› ‹_›
  ·exact .pp _ _ _ _ _ _ _ _ ‹_› ‹_› ‹_›
 ·simp only [zf,List.mem_map] at hx
  obtain⟨y,hy,rfl⟩:=hx
  have:=h5 y hy
  cases y<;>simp [qls,At.pr] at this ⊢
theorem qmV (hT:qbB P c.T) (hs:Sim n w0 M0 U ι h fr mem a w) (hf:∀m,nx≤m→m<e.nn→¬U m) {t:TypeId} {l k:Operand} (hop:o.op= .makeSlice t l k) (he:stp c callF o fr mem nx=some e):
  qi P n w0 M0 U ι h fr mem a w nx o e:=by
 simp only [stp,hop] at he
 split at he
 ·rename_i et ht
  simp only [Option.bind_eq_some_iff] at he
  obtain⟨te,e1,lv,e2,kv,e3,he⟩:=he
  split at he
  ·rename_i hc
   obtain⟨c1,c2,c3,c4,c5,c6⟩:=hc
   cases he
   obtain⟨D,hD,rfl,_⟩:=qap hT ht
   obtain⟨kl,hl⟩:=hs.evI e2
   obtain⟨kk,hk⟩:=hs.evI e3
   obtain⟨i,z,hi,hzv,hzs,hzr,hzp,c7⟩:=(hT et te e1).zeroF c6
   obtain⟨i',hi',hsz,hby⟩:=(hT et te e1).info
   rw [hi] at hi'
   cases hi'
   have hk1:kv≤140737488355328:=by
    have:kv*1≤kv*te.bytes:=Int.mul_le_mul_of_nonneg_left (by omega) (by omega)
    omega
   have hrun:=run_make (P:=P) w t et i z hD hi hzv kl kk lv kv c1 c2 (by rw [hby,Int.mul_comm];omega) (by omega)
   rw [hsz] at hrun
   have hsize:(madeCells z.cells (kv.toNat*te.size)).size=kv.toNat*te.size:=size_madeCells _ _
   refine .inl ⟨.slice (some ⟨w.heap.size,0,none⟩) lv.toNat kv.toNat,w.alloc (.cells (madeCells z.cells (kv.toNat*te.size)) et),by simp [execOp,hop,hl,hk,hrun],?_⟩
   refine Nxt.made (B:={ els:=List.replicate kv.toNat (zf te),es:=te.size,ty:=et,pr:=true,fz:=false,ar:=true }) hs hf (qix c7 hzs c4 hzr) (by show te.size≠0;omega) rfl ?_ ?_ ?_ ?_
   ·intro m hm
    simp only [Blk.nms,List.mem_flatMap] at hm
    obtain⟨e',he',x,hx,hm⟩:=hm
    have:=List.eq_of_mem_replicate he'
    subst this
    have:=hzp x hx
    cases x<;>simp [At.pr,At.nm] at this hm
   ·intro _ e' he' x hx
    have:=List.eq_of_mem_replicate he'
    subst this
    exact hzp x hx
   ·refine .inl ⟨_,kv.toNat,by simp [Io.set];rfl,by simp,?_,by omega,by simp [maxLen];omega⟩
    simp [hsize]
   ·intro m hm;simpa [Sv.nms,qd,Vl.cells,At.nm] using hm
  ·cases he
 ·cases he

theorem qmi (hT:qbB P c.T) (hs:Sim n w0 M0 U ι h fr mem a w) (hf:∀m,nx≤m→m<e.nn→¬U m) {t:TypeId} {len:Nat} {parts:Array (Nat×Operand)} (hop:o.op= .buildSlice t len parts)
  (he:stp c callF o fr mem nx=some e):qi P n w0 M0 U ι h fr mem a w nx o e:=by
 simp only [stp,hop] at he
 split at he
 ·rename_i et ht
  simp only [Option.bind_eq_some_iff] at he
  obtain⟨te,e1,ps,e2,els0,e3,els,e4,he⟩:=he
  split at he
  ·rename_i hc
   obtain⟨c1,c2,c3,c6⟩:=hc
   cases he
   obtain⟨D,hD,rfl,_⟩:=qap hT ht
   obtain⟨i,z,hi,hzv,hzs,hzr,hzp⟩:=(hT et te e1).zero c6
   obtain⟨i',hi',hsz,hby⟩:=(hT et te e1).info
   rw [hi] at hi'
   cases hi'
   obtain⟨cells',f1,f2,f3,f4,f5⟩:=qok hs (es:=te.size) (cells:=madeCells z.cells (len*te.size)) e2 (qix c6 hzs c2 hzr) (by rw [size_madeCells];simp) (fun e' he' x hx m hm=>by
    have:=List.eq_of_mem_replicate he'
    subst this
    have:=hzp x hx
    cases x<;>simp [At.pr,At.nm] at this hm) e3
   have hl4:els.length=els0.length:=(qbj e4).1
   have f4':els.length=len:=by rw [hl4];simpa using f4
   obtain⟨h1,s1,s2,s3,s4,s5⟩:=hs.frzStep (qkf els0)
   have f2':=qj4 hs s1 s2 f2 e4
   have f5':∀e'∈els,∀x∈e',∀m∈x.nm,U m:=by
    intro e' he' x hx m hm
    obtain⟨j,hj⟩:=List.getElem?_of_mem he'
    obtain⟨e0,hj0,hfe⟩:=qt e4 j e' hj
    obtain⟨q,hq⟩:=List.getElem?_of_mem hx
    obtain⟨x0,hq0,hfx⟩:=qt hfe q x hq
    exact f5 e0 (List.mem_of_getElem? hj0) x0 (List.mem_of_getElem? hq0) m (qlw (qlQ hfx m hm))
   refine qi.frz (rd:= []) s1 s5 ?_
   refine .inl ⟨.slice (some ⟨w.heap.size,0,none⟩) len len,w.alloc (.cells cells' et),?_,?_⟩
   ·have f1':Instr.fill (fun i=>some (i*te.size,te.size)) (madeCells z.cells (len*te.size)) (parts.toList.map fun x=>(x.1,a.eval x.2))=some cells':=f1
    have hn:¬(16777216<len*te.size):=by omega
    by_cases h0:len*te.size=0
    ·have hz0:madeCells z.cells (len*te.size)= #[]:=by rw [h0];simp [madeCells]
     rw [hz0] at f1'
     simp [execOp,hop,Instr.buildSlice,qn hD,qbS hi,hsz,h0,Array.range_zero',f1',newRow]
    ·simp only [madeCells] at f1'
     simp [execOp,hop,Instr.buildSlice,qn hD,qbS hi,hsz,h0,hn,qfd hi hzv,f1',newRow]
   ·refine Nxt.made (B:={ els:=els,es:=te.size,ty:=et,pr:=els.all fun e=>e.all At.pr,fz:=false,ar:=true }) s3 hf f2' (by show te.size≠0;omega) rfl ?_ ?_ ?_ ?_
    ·intro m hm
     simp only [Blk.nms,List.mem_flatMap] at hm
     obtain⟨e',he',x,hx,hm⟩:=hm
     exact f5' e' he' x hx m hm
    ·intro hp e' he' x hx
     have hp:(els.all fun e=>e.all At.pr)=true:=hp
     exact List.all_eq_true.1 (List.all_eq_true.1 hp e' he') x hx
    ·refine .inl ⟨_,len,by simp [Io.set];rfl,by simp,?_,Nat.le_refl _,by simp [maxLen];omega⟩
     simp [←f3,←hl4,f4']
    ·intro m hm;simpa [Sv.nms,qd,Vl.cells,At.nm] using hm
  ·cases he
 ·cases he

end

section
variable {P : Program} {n : Nat} {w0 : World} {M0 : Bool → Nat → Prop} {U : Nat → Prop} {ι : Io} {h : Hp} {fr : List (Nat × Sv)} {mem : Mem} {a : Act} {w : World}
 {c:Cfg} {callF:FuncId→List Vl→List Blk→Option (List Vl×List Blk)} {o:Oper} {nx:Nat} {e:Eff}

theorem RP.pp_add {h:Hp} {el:List At} {o' k:Nat} {v:Value} (hr:RP h (.pp el o') v):∃b off,v= .pointer (some ⟨b,off,none⟩)∧RP h (.pp el (o'+k)) (.pointer (some ⟨b,off+k,none⟩)):=by
 cases hr with
 | pp _ _ b off C t z us hb hu hr=>exact⟨b,off+o',rfl,by rw [Nat.add_assoc];exact .pp el (o'+k) b off C t z us hb hu hr⟩

theorem qmW (hT:qbB P c.T) (hs:Sim n w0 M0 U ι h fr mem a w) {s:TypeId} {x:Operand} {f:Nat} (hop:o.op= .fieldAddr s x f) (he:stp c callF o fr mem nx=some e):
  qi P n w0 M0 U ι h fr mem a w nx o e:=by
 simp only [stp,hop] at he
 split at he
 ·rename_i fs _ hd
  simp only [Option.bind_eq_some_iff] at he
  obtain⟨p,e1,he⟩:=he
  split at he
  ·cases he
  ·rename_i hp
   simp only [Option.bind_eq_some_iff] at he
   obtain⟨y,e2,he⟩:=he
   obtain⟨hr,hn⟩:=hs.evA e2
   obtain⟨D,hD,⟨F,rfl,hF1,hF2, -⟩, -⟩:=qap hT hd
   obtain⟨g,g1,g2,ti,g3,g4⟩:=hF2 f p e1
   have hrun:∀b off,a.eval x= .pointer (some ⟨b,off,none⟩)→(execOp a.eval o).run P w= .ok (.value (.pointer (some ⟨b,off+p.1,none⟩))) w:=by
    intro b off hx
    have hne:¬ti.size=0:=by rw [g4];exact hp
    simp [execOp,hop,Instr.fieldAt,qn hD,g1,hx,Instr.sureAddr,fieldPlace,qbS g3,hne,g2,Addr.add_mid]
   split at he
   ·rename_i m i o'
    obtain⟨L,hL,hx⟩:=hr
    refine .inl ⟨_,w,hrun _ _ hx,qkR hs (show RA ι h (.ptr m i (o'+p.1)) _ from⟨L,hL,by rw [Nat.add_assoc]⟩) hn he⟩
   ·rename_i el o'
    obtain⟨b,off,hx,hr'⟩:=RP.pp_add (k:=p.1) hr
    exact .inl ⟨_,w,hrun _ _ hx,Nxt.valP hs he hr'⟩
   ·cases he
 ·cases he

theorem qsr (hT:qbB P c.T) (hs:Sim n w0 M0 U ι h fr mem a w) {s:TypeId} {x:Operand} {f:Nat} (hop:o.op= .field s x f) (he:stp c callF o fr mem nx=some e):
  qi P n w0 M0 U ι h fr mem a w nx o e:=by
 simp only [stp,hop] at he
 split at he
 ·rename_i fs ts hd
  simp only [Option.bind_eq_some_iff] at he
  obtain⟨p,e1,ft,e5,y,e2,he⟩:=he
  split at he
  ·rename_i cs
   simp only [Option.bind_eq_some_iff] at he
   obtain⟨ti,e3,v,e4,he⟩:=he
   obtain⟨hr,hn⟩:=hs.evV e2
   obtain⟨A,hx,hl⟩:=hr
   obtain⟨D,hD,⟨F,rfl,hF1,hF2,hF3⟩, -⟩:=qap hT hd
   obtain⟨g,g1,g2,ti',g3,g4⟩:=hF2 f p e1
   have hft:g.type=ft:=by
    rw [←hF3] at e5
    simpa [g1] using e5
   obtain⟨d,hd',_,hag⟩:=(hT ft ti e3).desc
   obtain⟨ri,hri,hrs,_⟩:=(hT ft ti e3).info
   unfold qhi at e4
   have key:∃u,(part ft A p.1).run P w= .ok u w∧RV ι h v u∧∀m∈qd [v],m∈qd [Vl.g cs]:=by
    split at e4
    ·rename_i hag'
     split at e4
     ·rename_i hle
      cases e4
      refine⟨.agg (A.extract p.1 (p.1+ti.size)),by simp [part,qgf hd',hag,hag',qbS hri,hrs],⟨_,rfl,?_⟩,?_⟩
      ·have:=(hl.drop p.1).take ti.size
       have hq:(A.extract p.1 (p.1+ti.size)).toList=(A.toList.drop p.1).take ti.size:=by
        simp [List.take_drop,Nat.add_comm]
       rw [hq]
       exact this
      ·intro m hm
       simp only [qd,Vl.cells,List.flatMap_cons,List.flatMap_nil,List.append_nil,List.mem_flatMap] at hm ⊢
       obtain⟨x',hx',hm⟩:=hm
       exact⟨x',List.mem_of_mem_drop (List.mem_of_mem_take hx'),hm⟩
     ·cases e4
    ·rename_i hag'
     simp only [Option.bind_eq_some_iff] at e4
     obtain⟨x',hx',e4⟩:=e4
     cases e4
     obtain⟨u,q1,q2⟩:=hl.2 _ x' hx'
     have q1':A[p.1]? =some u:=by simpa using q1
     refine⟨u,by simp [part,qgf hd',hag,hag',q1'],q2,?_⟩
     intro m hm
     simp only [qd,Vl.cells,List.flatMap_cons,List.flatMap_nil,List.append_nil,List.mem_flatMap] at hm ⊢
     exact⟨x',List.mem_of_getElem? hx',hm⟩
   obtain⟨u,k1,k2,k3⟩:=key
   refine .inl ⟨u,w,?_,Nxt.valV hs he k2 fun m hm=>hn m (k3 m hm)⟩
   rw [←hft,←g2] at k1
   simp [execOp,hop,Instr.field,qn hD,g1,hx,asAgg,k1]
  ·cases he
 ·cases he

theorem qmX (hT:qbB P c.T) (hs:Sim n w0 M0 U ι h fr mem a w) {t:TypeId} {x i:Operand} (hop:o.op= .indexAddr t x i) (he:stp c callF o fr mem nx=some e):
  qi P n w0 M0 U ι h fr mem a w nx o e:=by
 simp only [stp,hop] at he
 split at he
 ·rename_i et ht
  simp only [Option.bind_eq_some_iff] at he
  obtain⟨te,e1,iv,e2,y,e3,he⟩:=he
  obtain⟨hr,hn⟩:=hs.evA e3
  obtain⟨ki,hi⟩:=hs.evI e2
  obtain⟨D,hD,rfl, -⟩:=qap hT ht
  obtain⟨ti,ht1,ht2,_⟩:=(hT et te e1).info
  have hrun:∀b off k c',a.eval x= .slice (some ⟨b,off,none⟩) k c'→0≤iv→iv<k→(execOp a.eval o).run P w= .ok (.value (.pointer (some ⟨b,off+iv.toNat*te.size,none⟩))) w:=by
   intro b off k c' hx h1 h2
   simp [execOp,hop,Instr.indexAt,qn hD,hx,hi,asIntOf,qbS ht1,ht2,h1,h2,Addr.add_mid]
  split at he
  ·rename_i es k els
   split at he
   ·rename_i hc
    simp only [Option.bind_eq_some_iff] at he
    obtain⟨el,e4,he⟩:=he
    have hr:RP h _ _:=hr
    generalize hx:a.eval x=q at hr
    cases hr with
    | sl0=>simp at e4
    | sl _ _ b off c' es' C t' z us hb hnl hcp hl hu hr=>
     refine .inl ⟨_,w,hrun _ _ _ _ hx hc.1 hc.2.1,Nxt.valP hs he ?_⟩
     have:=RP.pp (h:=h) el 0 b (off+iv.toNat*te.size) C t' z (us iv.toNat) hb
      (fun j y hy=>by have:=hu iv.toNat el j y e4 hy;rw [hc.2.2,←Nat.add_assoc] at this;exact this) (fun j y hy=>hr iv.toNat el j y e4 hy)
     simpa using this
   ·cases he
  ·rename_i m b k
   simp only [Option.bind_eq_some_iff] at he
   obtain⟨B,e4,he⟩:=he
   split at he
   ·rename_i hc
    cases he
    rcases hr with ⟨L,c',hL,hx,hcap,hkc,hmax⟩ | ⟨hL,hb,hk,hx⟩
    ·have h3:=(hs.hmem m B e4).esq hL
     refine .inl ⟨_,w,hrun _ _ _ _ hx hc.1 hc.2.1,Nxt.val hs ⟨L,hL,?_⟩ ?_⟩
     ·rw [h3,hc.2.2,Nat.add_mul];simp
     ·intro m' hm'
      simp [Sv.nms,qd,Vl.cells,At.nm] at hm'
      subst hm'
      exact(hs.hnb _ B e4).1
    ·subst hk;have:=hc.1;have:=hc.2.1;omega
   ·cases he
  ·cases he
 ·cases he

theorem qss (hT:qbB P c.T) (hs:Sim n w0 M0 U ι h fr mem a w) {t:TypeId} {x i:Operand} (hop:o.op= .index t x i) (he:stp c callF o fr mem nx=some e):
  qi P n w0 M0 U ι h fr mem a w nx o e:=by
 simp only [stp,hop] at he
 split at he
 ·rename_i cs hg
  simp only [Option.bind_eq_some_iff] at he
  obtain⟨ti,e1,iv,e3,he⟩:=he
  split at he
  ·rename_i k el hd
   simp only [Option.bind_eq_some_iff] at he
   obtain⟨te,e4,he⟩:=he
   split at he
   ·rename_i hc
    simp only [Option.bind_eq_some_iff] at he
    obtain⟨y,e5,he⟩:=he
    obtain⟨hr,hn⟩:=hs.evV (qqO hg)
    obtain⟨A,hx,hl⟩:=hr
    obtain⟨ki,hi⟩:=hs.evI e3
    obtain⟨D,hD,hD',_⟩:=(hT t ti e1).desc
    rw [hd] at hD'
    cases hD'
    obtain⟨d2,hd2,_,hag⟩:=(hT el te e4).desc
    obtain⟨ri,hri,hrs,_⟩:=(hT el te e4).info
    obtain⟨u,q1,q2⟩:=hl.2 _ y e5
    have q1':A[iv.toNat]? =some u:=by simpa using q1
    refine .inl ⟨u,w,?_,Nxt.valV hs he q2 ?_⟩
    ·simp [execOp,hop,Instr.index,qn hD,hx,hi,asIntOf,hc.2.2.1,hc.2.2.2,qbS hri,hrs,hc.1,part,qgf hd2,hag,hc.2.1,q1']
    ·intro m hm
     refine hn m ?_
     simp only [qd,Vl.cells,List.flatMap_cons,List.flatMap_nil,List.append_nil,List.mem_flatMap] at hm ⊢
     exact⟨y,List.mem_of_getElem? e5,hm⟩
   ·cases he
  ·cases he
 simp only [Option.bind_eq_some_iff] at he
 obtain⟨td,e1,y,e2,iv,e3,he⟩:=he
 split at he
 ·rename_i s
  obtain⟨D,hD,rfl, -⟩:=qap hT e1
  obtain⟨hr,hn⟩:=hs.evA e2
  have hx:=RP.str_inv hr
  obtain⟨ki,hi⟩:=hs.evI e3
  split at he
  ·rename_i h0
   simp only [Option.bind_eq_some_iff] at he
   obtain⟨b,e4,he⟩:=he
   refine .inl ⟨.int .u8 b.toNat,w,?_,Nxt.valP hs he (.int _ _)⟩
   have hs':s[iv.toNat]? =some b:=by
    rw [←e4]
    rfl
   simp [execOp,hop,Instr.index,qn hD,hx,hi,asIntOf,h0,hs']
  ·cases he
 ·cases he

theorem qpt (hs:Sim n w0 M0 U ι h fr mem a w) {x:Operand} {i:Nat} (hop:o.op= .extract x i) (he:stp c callF o fr mem nx=some e):qi P n w0 M0 U ι h fr mem a w nx o e:=by
 simp only [stp,hop,Option.bind_eq_some_iff] at he
 obtain⟨s,e1,he⟩:=he
 obtain⟨hr,hn⟩:=hs.ev e1
 split at he
 ·rename_i vs
  simp only [Option.bind_eq_some_iff] at he
  obtain⟨v,e2,he⟩:=he
  obtain⟨T,hx,hl⟩:=hr
  obtain⟨u,e3,e4⟩:=hl.2 i v e2
  refine .inl ⟨u,w,?_,Nxt.valV hs he e4 ?_⟩
  ·have e3':T[i]? =some u:=by simpa using e3
   simp [execOp,hop,hx,Instr.extract,e3']
  ·intro m hm
   refine hn m ?_
   simp only [Sv.nms,qd,List.mem_flatMap] at hm ⊢
   obtain⟨v',hv',r⟩:=hm
   simp at hv'
   subst hv'
   exact⟨v',List.mem_of_getElem? e2,r⟩
 ·cases he

theorem qvO (hT:qbB P c.T) (hs:Sim n w0 M0 U ι h fr mem a w) {args:Array Operand} {ats:Array TypeId} (hop:o.op= .call { callee:= .builtin .len,args:=args,argTypes:=ats }) (he:stp c callF o fr mem nx=some e):
  qi P n w0 M0 U ι h fr mem a w nx o e:=by
 simp only [stp,hop,Option.bind_eq_some_iff] at he
 obtain⟨td,⟨t,e1,e2⟩,y,⟨x,e3,e4⟩,he⟩:=he
 obtain⟨hr,hn⟩:=hs.evA e4
 obtain⟨D,hD,hD', -⟩:=qap hT e2
 have harg:(args.map a.eval)[0]? =some (a.eval x):=by simp [e3]
 have hrun:∀(k:Int),(Builtin.len_ ats o.type (args.map a.eval)).run P w= .ok (.int .i64 k) w→(execOp a.eval o).run P w= .ok (.value (.int .i64 k)) w:=by
  intro k hk
  simp [execOp,hop,resolve,invoke,builtin,hk]
 split at he
 ·have hx:=RP.str_inv hr
  cases hD'
  refine .inl ⟨_,w,hrun _ ?_,Nxt.valP hs he (.int _ _)⟩
  simp [Builtin.len_,e1,e3,qn hD,hx,goInt]
 ·rename_i es k els
  cases hD'
  have hr:RP h _ _:=hr
  have hx:∃A c',a.eval x= .slice A k c':=by
   generalize a.eval x=q at hr
   cases hr<;>exact⟨_,_,rfl⟩
  obtain⟨A,c',hx⟩:=hx
  refine .inl ⟨_,w,hrun _ ?_,Nxt.valP hs he (.int _ _)⟩
  simp [Builtin.len_,e1,e3,qn hD,hx,goInt]
 ·rename_i m lo k
  cases hD'
  have hx:∃A c',a.eval x= .slice A k c':=by
   rcases hr with ⟨L,c',_,hx,_⟩ | ⟨_,_,hk,hx⟩
   ·exact⟨_,_,hx⟩
   ·subst hk;exact⟨_,_,hx⟩
  obtain⟨A,c',hx⟩:=hx
  refine .inl ⟨_,w,hrun _ ?_,Nxt.valP hs he (.int _ _)⟩
  simp [Builtin.len_,e1,e3,qn hD,hx,goInt]
 ·cases hD'
  have hr:RP h _ _:=hr
  have hx:∃A c',a.eval x= .slice A 0 c':=by
   generalize a.eval x=q at hr
   cases hr
   exact⟨_,_,rfl⟩
  obtain⟨A,c',hx⟩:=hx
  refine .inl ⟨_,w,hrun _ ?_,Nxt.valP hs he (.int _ _)⟩
  simp [Builtin.len_,e1,e3,qn hD,hx,goInt]
 ·rename_i k' e' m
  simp only [Option.bind_eq_some_iff] at he
  obtain⟨B,e5,he⟩:=he
  cases he
  cases hD'
  obtain⟨L,hL,hv,hL0⟩:=hr
  obtain⟨_,es,r4,r5⟩:=(hs.hmem m B e5).map hL hL0
  have hlen:es.size=B.mp.length:=by simpa using r5.1
  refine .inl ⟨_,w,hrun _ ?_,Nxt.val hs (.int _ _) (fun m hm=>by simp [Sv.nms,qd,Vl.cells,At.nm] at hm)⟩
  simp [Builtin.len_,e1,e3,qn hD,hv,goInt,Go.MapKept.run_getObj_map r4,hlen,Result.andThen]
 ·cases he

theorem qvP (hs:Sim n w0 M0 U ι h fr mem a w) {args:Array Operand} {ats:Array TypeId} (hop:o.op= .call { callee:= .builtin .min,args:=args,argTypes:=ats }) (he:stp c callF o fr mem nx=some e):
  qi P n w0 M0 U ι h fr mem a w nx o e:=by
 simp only [stp,hop,Option.bind_eq_some_iff] at he
 obtain⟨y,⟨x,e3,e4⟩,y',⟨x',e3',e4'⟩,he⟩:=he
 split at he
 ·rename_i hsz
  obtain⟨hr,hn⟩:=hs.evA e4
  obtain⟨hr',hn'⟩:=hs.evA e4'
  have harg:args.toList= [x,x']:=by
   have h2:args.toList.length=2:=by simpa using hsz
   have g1:args.toList[0]? =some x:=by simpa using e3
   have g2:args.toList[1]? =some x':=by simpa using e3'
   generalize args.toList=l at h2 g1 g2
   match l with
   | [p,q]=>simp at g1 g2;rw [g1,g2]
  cases y with
  | int k p=>
   cases y' with
   | int k' q=>
    have hr:RP h (.int k p) _:=hr
    have hr':RP h (.int k' q) _:=hr'
    have hx:a.eval x= .int k p:=by
     generalize a.eval x=z at hr
     cases hr;rfl
    have hx':a.eval x'= .int k' q:=by
     generalize a.eval x'=z at hr'
     cases hr';rfl
    refine .inl ⟨.int k (min p q),w,?_,Nxt.valP hs he (.int _ _)⟩
    have hm:(Builtin.min_ ats o.type (args.map a.eval)).run P w= .ok (.int k (min p q)) w:=by
     rw [show min p q=if q<p then q else p by omega]
     simp [Builtin.min_,harg,hx,hx',Builtin.min2]
    simp [execOp,hop,resolve,invoke,builtin,hm]
   | _=>cases he
  | _=>cases he
 ·cases he

theorem qvQ (hs:Sim n w0 M0 U ι h fr mem a w) {args:Array Operand} {ats:Array TypeId} (hop:o.op= .call { callee:= .builtin .max,args:=args,argTypes:=ats }) (he:stp c callF o fr mem nx=some e):
  qi P n w0 M0 U ι h fr mem a w nx o e:=by
 simp only [stp,hop,Option.bind_eq_some_iff] at he
 obtain⟨y,⟨x,e3,e4⟩,y',⟨x',e3',e4'⟩,he⟩:=he
 split at he
 ·rename_i hsz
  obtain⟨hr,hn⟩:=hs.evA e4
  obtain⟨hr',hn'⟩:=hs.evA e4'
  have harg:args.toList= [x,x']:=by
   have h2:args.toList.length=2:=by simpa using hsz
   have g1:args.toList[0]? =some x:=by simpa using e3
   have g2:args.toList[1]? =some x':=by simpa using e3'
   generalize args.toList=l at h2 g1 g2
   match l with
   | [p,q]=>simp at g1 g2;rw [g1,g2]
  cases y with
  | int k p=>
   cases y' with
   | int k' q=>
    have hr:RP h (.int k p) _:=hr
    have hr':RP h (.int k' q) _:=hr'
    have hx:a.eval x= .int k p:=by
     generalize a.eval x=z at hr
     cases hr;rfl
    have hx':a.eval x'= .int k' q:=by
     generalize a.eval x'=z at hr'
     cases hr';rfl
    refine .inl ⟨.int k (max p q),w,?_,Nxt.valP hs he (.int _ _)⟩
    have hm:(Builtin.max_ ats o.type (args.map a.eval)).run P w= .ok (.int k (max p q)) w:=by
     rw [show max p q=if q>p then q else p by omega]
     simp [Builtin.max_,harg,hx,hx',Builtin.max2]
    simp [execOp,hop,resolve,invoke,builtin,hm]
   | _=>cases he
  | _=>cases he
 ·cases he

theorem qpu (sl:Bool) (len cap:Nat) (lo hi:Option Value) (l k:Int) (hh:match hi with | some v=>∃q,v= .int q k∧0≤k∧k≤cap | none=>k=len)
  (hl:match lo with | some v=>∃q,v= .int q l∧0≤l∧l≤k | none=>l=0):
  (Instr.sliceBounds sl len cap lo hi none).run P w= .ok (l.toNat,k.toNat,cap) w:=by
 have hb:∀(v:Value) (y:Nat) (cd:BoundsCode) (q:IntKind) (i:Int),v= .int q i→0≤i→i≤y→(Instr.sliceBound v y cd).run P w= .ok i.toNat w:=by
  intro v y cd q i hv h0 h1
  subst hv
  simp [Instr.sliceBound,asIntOf,h0,h1]
 cases hi with
 | none=>
  simp only at hh
  subst hh
  cases lo with
  | none=>
   simp only at hl
   subst hl
   simp [Instr.sliceBounds]
  | some v=>
   obtain⟨q,hv,h0,h1⟩:=hl
   have:=hb v len (if(none:Option Value).isSome then .slice3C else .sliceB) q l hv h0 h1
   simp at this
   simp [Instr.sliceBounds,this]
 | some u=>
  obtain⟨p,hu,g0,g1⟩:=hh
  have h2:=hb u cap (if sl then .sliceAcap else .sliceAlen) p k hu g0 g1
  cases lo with
  | none=>
   simp only at hl
   subst hl
   simp [Instr.sliceBounds,h2]
  | some v=>
   obtain⟨q,hv,h0,h1⟩:=hl
   have:=hb v k.toNat (if(none:Option Value).isSome then .slice3C else .sliceB) q l hv h0 (by omega)
   simp at this
   simp [Instr.sliceBounds,h2,this]

theorem Sim.bound (hs:Sim n w0 M0 U ι h fr mem a w) {d:Nat} {o':Option Operand} {i:Int} (e1:qcu fr d o'=some i):
  match o'.map a.eval with | some v=>∃q,v= .int q i | none=>i=d:=by
 cases o' with
 | none=>simp [qcu] at e1;simp [e1]
 | some x=>
  obtain⟨k,hk⟩:=hs.evI (show Am.evI fr x=some i from e1)
  exact⟨k,hk⟩

theorem qst (hT:qbB P c.T) (hs:Sim n w0 M0 U ι h fr mem a w) {t:TypeId} {x:Operand} {lo hi mx:Option Operand} (hop:o.op= .slice t x lo hi mx) (he:stp c callF o fr mem nx=some e):
  qi P n w0 M0 U ι h fr mem a w nx o e:=by
 simp only [stp,hop] at he
 split at he
 ·cases he
 ·rename_i hm
  have hm:mx=none:=by cases mx<;>simp at hm ⊢
  subst hm
  simp only [Option.bind_eq_some_iff] at he
  obtain⟨td,e1,y,e2,he⟩:=he
  obtain⟨hr,hn⟩:=hs.evA e2
  obtain⟨D,hD,hD', -⟩:=qap hT e1
  have mkb:∀(len cap:Nat) (l k:Int),qcu fr 0 lo=some l→qcu fr len hi=some k→0≤l→l≤k→k≤cap→∀sl,(Instr.sliceBounds sl len cap (lo.map a.eval) (hi.map a.eval) none).run P w= .ok (l.toNat,k.toNat,cap) w:=by
   intro len cap l k b1 b2 h0 h1 h2 sl
   have q1:=hs.bound b1
   have q2:=hs.bound b2
   refine qpu sl len cap _ _ l k ?_ ?_
   ·cases hx:hi.map a.eval with
    | none=>rw [hx] at q2;exact q2
    | some v=>rw [hx] at q2;obtain⟨q,hq⟩:=q2;exact⟨q,hq,by omega,h2⟩
   ·cases hx:lo.map a.eval with
    | none=>rw [hx] at q1;simpa using q1
    | some v=>rw [hx] at q1;obtain⟨q,hq⟩:=q1;exact⟨q,hq,h0,h1⟩
  split at he
  ·rename_i s
   cases hD'
   simp only [Option.bind_eq_some_iff] at he
   obtain⟨l,b1,k,b2,he⟩:=he
   split at he
   ·rename_i hc
    have hx:=RP.str_inv hr
    have hb:=mkb s.size s.size l k b1 b2 hc.1 hc.2.1 hc.2.2 false
    refine .inl ⟨_,w,?_,Nxt.valP hs he (.str _)⟩
    simp [execOp,hop,Instr.sliceAt,Instr.slice,qn hD,hx,hb]
   ·cases he
  ·rename_i et es k els
   cases hD'
   simp only [Option.bind_eq_some_iff] at he
   obtain⟨te,e3,l,b1,r,b2,he⟩:=he
   split at he
   ·rename_i hc
    obtain⟨c1,c2,c3,c4⟩:=hc
    obtain⟨ti,ht1,ht2,_⟩:=(hT et te e3).info
    have hr:RP h _ _:=hr
    generalize hx:a.eval x=q at hr
    have hcut:∀(A:Option Addr) (cap:Nat),k≤cap→a.eval x= .slice A k cap→
      (execOp a.eval o).run P w= .ok (.value (.slice (if cap=l.toNat then A else A.map (·.add (l.toNat*te.size))) (r.toNat-l.toNat) (cap-l.toNat))) w:=by
     intro A cap hk hx
     have hb:=mkb k cap l r b1 b2 c1 c2 (by omega) true
     simp [execOp,hop,Instr.sliceAt,Instr.slice,qn hD,hx,hb,qbS ht1,ht2]
    cases hr with
    | sl0 _ A cap=>
     have hr0:r.toNat-l.toNat=0:=by omega
     refine .inl ⟨_,w,hcut A cap (Nat.zero_le _) hx,Nxt.valP hs he ?_⟩
     rw [hr0]
     simp
     exact .sl0 _ _ _
    | sl _ _ b off cap es' C t' z us hb hnl hcp hl hu hrr=>
     refine .inl ⟨_,w,hcut (some ⟨b,off,none⟩) cap hcp hx,Nxt.valP hs he ?_⟩
     by_cases h0:r.toNat-l.toNat=0
     ·rw [h0];simp;exact .sl0 _ _ _
     ·rw [if_neg (by omega)]
      simp only [Option.map_some,Addr.add_mid]
      refine .sl (h:=h) (r.toNat-l.toNat) ((els.drop l.toNat).take (r.toNat-l.toNat)) b (off+l.toNat*te.size) (cap-l.toNat) es C t' z (fun i j=>us (l.toNat+i) j) hb (by simp;omega) (by omega) ?_ ?_ ?_
      ·intro i el hi
       rw [List.getElem?_take] at hi
       split at hi
       ·rw [List.getElem?_drop] at hi;exact hl _ el hi
       ·cases hi
      ·intro i el j y hi hj
       rw [List.getElem?_take] at hi
       split at hi
       ·rw [List.getElem?_drop] at hi
        have:=hu _ el j y hi hj
        rw [←this,c4,Nat.add_mul]
        congr 1
        omega
       ·cases hi
      ·intro i el j y hi hj
       rw [List.getElem?_take] at hi
       split at hi
       ·rw [List.getElem?_drop] at hi;exact hrr _ el j y hi hj
       ·cases hi
   ·cases he
  ·rename_i et m b k
   cases hD'
   simp only [Option.bind_eq_some_iff] at he
   obtain⟨te,e3,B,e4,l,b1,r,b2,he⟩:=he
   split at he
   ·rename_i hc
    obtain⟨c1,c2,c3,c4,c5,c6⟩:=hc
    cases he
    obtain⟨ti,ht1,ht2,_⟩:=(hT et te e3).info
    have hbk:=hs.hmem m B e4
    have hun:U m:=(hs.hnb m B e4).1
    rcases hr with ⟨L,cap,hL,hx,hcap,hkc,hmax⟩ | ⟨hL,hb0,hk0,hx⟩
    ·obtain⟨C,h1,h2,h3,h4⟩:=hbk.cells hL fun _ h0 _=>by omega
     have hlen:B.els.length≤b+cap:=by
      rcases Nat.eq_zero_or_pos B.els.length with h0 | h0
      ·omega
      ·have hi:B.els[B.els.length-1]? =some B.els[B.els.length-1]:=List.getElem?_eq_getElem (by omega)
       obtain⟨q1,q2⟩:=h4 _ _ hi
       have hj:(B.els[B.els.length-1])[B.es-1]? =some ((B.els[B.els.length-1])[B.es-1]'(by rw [q1];omega)):=List.getElem?_eq_getElem _
       obtain⟨u,q3,_⟩:=q2 _ _ hj
       have q4:=(Array.getElem?_eq_some_iff.1 q3).1
       rw [h2,←hcap,h3] at q4
       have q5:B.els.length*B.es≤(b+cap)*B.es:=by
        have:B.els.length*B.es=(B.els.length-1)*B.es+B.es:=by
         rw [←Nat.succ_mul];congr 1;omega
        omega
       exact Nat.le_of_mul_le_mul_right q5 (by omega)
     have hb:=mkb k cap l r b1 b2 c1 c2 (by omega) true
     have hrun:(execOp a.eval o).run P w= .ok (.value (.slice (some ⟨L.b,(b+l.toNat)*L.es,none⟩) (r.toNat-l.toNat) (cap-l.toNat))) w:=by
      have hadd:(if cap=l.toNat then some (⟨L.b,b*L.es,none⟩:Addr)else some ⟨L.b,b*L.es+l.toNat*te.size,none⟩)=some ⟨L.b,(b+l.toNat)*L.es,none⟩:=by
       rw [Nat.add_mul,h3,c5]
       by_cases hq:cap=l.toNat
       ·rw [if_pos hq]
        rcases c4 with c4 | c4
        ·omega
        ·have:lo=none:=by cases lo<;>simp at c4 ⊢
         subst this
         simp [qcu] at b1
         subst b1
         simp
       ·rw [if_neg hq]
      simp only [execOp,hop,Instr.sliceAt,Instr.slice,qn hD,hx,hb,qbS ht1,ht2,Sem.run_bind,Sem.run_pure,Result.andThen_ok,Option.map_none,Option.map_some,Addr.add_mid,hadd,bind_pure_comp,Sem.run_map]
     refine .inl ⟨_,w,hrun,Nxt.val hs (.inl ⟨L,cap-l.toNat,hL,rfl,?_,by omega,by omega⟩) ?_⟩
     ·rw [←hcap];congr 1;omega
     ·intro m' hm'
      simp [Sv.nms,qd,Vl.cells,At.nm] at hm'
      subst hm'
      exact hun
    ·have hbk:=hbk.els0 hL
     subst hb0
     have hk0':k=0:=hk0
     have:r=0:=by rw [hbk] at c3;simp at c3;omega
     have:l=0:=by omega
     subst this
     subst r
     have hb:=mkb k 0 0 0 b1 b2 (by omega) (by omega) (by omega) true
     rw [hk0'] at hb
     refine .inl ⟨.slice none 0 0,w,?_,Nxt.val hs (.inr ⟨hL,rfl,rfl,rfl⟩) ?_⟩
     ·simp at hb
      simp [execOp,hop,Instr.sliceAt,Instr.slice,qn hD,hx,hb,qbS ht1,ht2]
     ·intro m' hm'
      simp [Sv.nms,qd,Vl.cells,At.nm] at hm'
      subst hm'
      exact hun
   ·cases he
  ·cases he

end

section
variable {P : Program} {n : Nat} {w0 : World} {M0 : Bool → Nat → Prop} {U : Nat → Prop} {ι : Io} {h : Hp} {fr : List (Nat × Sv)} {mem : Mem} {a : Act} {w w' : World}
 {c:Cfg} {callF:FuncId→List Vl→List Blk→Option (List Vl×List Blk)} {o:Oper} {nx:Nat} {e:Eff}

theorem RP.isPr {h:Hp} {x:At} {v:Value} (hr:RP h x v):x.pr=true:=by cases hr<;>rfl

theorem Sim.grown (hs:Sim n w0 M0 U ι h fr mem a w) {row:Option Nat} (hg:w.grownBy w' row)
  (hrow:∀g,row=some g→(∀m B L,qk mem m=some B→ι m=some L→L.b≠g)∧h g=none∧(w0.heap.size≤g∨M0 false g)):Sim n w0 M0 U ι h fr mem a w':=by
 have hold:∀b,b<w.heap.size→some b≠row→w'.heap[b]? =w.heap[b]? :=hg.block
 have hne:∀ {b:Nat} {o:Obj},h b=some o→some b≠row:=by
  intro b o e hq
  have:=(hrow b hq.symm).2.1
  rw [e] at this
  cases this
 have hne2:∀ {m B L},qk mem m=some B→ι m=some L→some L.b≠row:=by
  intro m B L e l hq
  exact(hrow L.b hq.symm).1 m B L e l rfl
 refine { hs with hmem:= ?_,hsub:= ?_,hfrz:= ?_,hframe:= ?_,hgrow:=Nat.le_trans hs.hgrow hg.size,hos:=hg.os.trans hs.hos,htape:=hg.tape.trans hs.htape,houtput:=hg.output.trans hs.houtput,hdom:= ?_ }
 ·intro m B e
  exact(hs.hmem m B e).to rfl (fun L hL=>hold _ (hs.hdom m L hL).2 (hne2 e hL)) (Sub.refl h) fun _ _=>rfl
 ·intro b o e
  rw [hold b (hs.hlt e) (hne e)]
  exact hs.hsub b o e
 ·intro m B L e hz l
  rw [hold _ (hs.hdom m L l).2 (hne2 e l)]
  exact hs.hfrz m B L e hz l
 ·intro b hb hM
  by_cases hq:some b=row
  ·rcases(hrow b hq.symm).2.2 with h1 | h1
   ·omega
   ·exact absurd h1 hM
  ·rw [hold b (Nat.lt_of_lt_of_le hb hs.hgrow) hq]
   exact hs.hframe b hb hM
 ·intro m L l
  exact⟨(hs.hdom m L l).1,Nat.lt_of_lt_of_le (hs.hdom m L l).2 hg.size⟩

theorem Sim.name (hs:Sim n w0 M0 U ι h fr mem a w) (m:Nat) (hm:¬U m) (B:Blk) (L:Loc) {C:Array Value} (hb:w.heap[L.b]? =some (.cells C B.ty (0,0))) (hsz:C.size=L.sz) (hes:L.es=B.es)
  (he0:B.es≠0) (hr:RBs ι h C B.es B.els) (hfz:B.fz=false) (hno:∀m' B' L',qk mem m'=some B'→ι m'=some L'→L'.b≠L.b) (hh:h L.b=none) (hown:w0.heap.size≤L.b∨M0 false L.b) (hown2:w0.heap.size≤L.b∨M0 true L.b)
  (hn:∀m'∈B.nms,U m') (hp:B.pr=true→∀e∈B.els,∀x∈e,x.pr=true):
  Sim n w0 M0 (fun x=>U x∨x=m) (ι.set m L) h fr (qb6 mem (m,some B)) a w:=by
 have hι:∀x,U x→(ι.set m L) x=ι x:=fun x hx=>by
  unfold Io.set;rw [if_neg];rintro rfl;exact hm hx
 have hset:(ι.set m L) m=some L:=by simp [Io.set]
 have hk:∀x B',qk (qb6 mem (m,some B)) x=some B'→(x=m∧B'=B)∨(x≠m∧qk mem x=some B'):=by
  intro x B' e
  rw [qbk] at e
  by_cases hx:m=x
  ·rw [if_pos hx] at e;exact .inl ⟨hx.symm,by simpa using e.symm⟩
  ·rw [if_neg hx] at e;exact .inr ⟨Ne.symm hx,e⟩
 refine { hs with hfr:= ?_,hmem:= ?_,hinj:= ?_,hmut:= ?_,hfrz:= ?_,hown:= ?_,hown2:= ?_,hnm:= ?_,hnb:= ?_,hdom:= ?_,hpr:= ?_ }
 ·intro t v e
  obtain⟨u,e1,e2⟩:=hs.hfr t v e
  exact⟨u,e1,e2.mono (Sub.refl h) fun x hx=>hι x (hs.hnm t v e x hx)⟩
 ·intro x B' e
  rcases hk x B' e with ⟨rfl,rfl⟩ | ⟨hx,e'⟩
  ·exact RB.ofC hset ⟨C,hb,hsz,hes,hr.mono (Sub.refl h) fun x hx=>hι x (hn x hx)⟩ he0
  ·have hu:=hs.hnb x B' e'
   exact(hs.hmem x B' e').to (hι x hu.1) (fun _ _=>rfl) (Sub.refl h) fun y hy=>hι y (hu.2 y hy)
 ·intro x y B1 B2 L1 L2 e1 e2 l1 l2 hq
  rcases hk x B1 e1 with ⟨rfl,rfl⟩ | ⟨hx,e1'⟩
  ·rcases hk y B2 e2 with ⟨rfl,rfl⟩ | ⟨hy,e2'⟩
   ·rfl
   ·rw [hset] at l1
    cases l1
    rw [hι y (hs.hnb y B2 e2').1] at l2
    exact absurd hq.symm (hno y B2 L2 e2' l2)
  ·rw [hι x (hs.hnb x B1 e1').1] at l1
   rcases hk y B2 e2 with ⟨rfl,rfl⟩ | ⟨hy,e2'⟩
   ·rw [hset] at l2
    cases l2
    exact absurd hq (hno x B1 L1 e1' l1)
   ·rw [hι y (hs.hnb y B2 e2').1] at l2
    exact hs.hinj x y B1 B2 L1 L2 e1' e2' l1 l2 hq
 ·intro x B' L1 e hz l
  rcases hk x B' e with ⟨rfl,rfl⟩ | ⟨hx,e'⟩
  ·rw [hset] at l;cases l;exact hh
  ·rw [hι x (hs.hnb x B' e').1] at l
   exact hs.hmut x B' L1 e' hz l
 ·intro x B' L1 e hz l
  rcases hk x B' e with ⟨rfl,rfl⟩ | ⟨hx,e'⟩
  ·rw [hfz] at hz;cases hz
  ·rw [hι x (hs.hnb x B' e').1] at l
   exact hs.hfrz x B' L1 e' hz l
 ·intro x B' L1 e hz l
  rcases hk x B' e with ⟨rfl,rfl⟩ | ⟨hx,e'⟩
  ·rw [hset] at l;cases l;exact hown
  ·rw [hι x (hs.hnb x B' e').1] at l
   exact hs.hown x B' L1 e' hz l
 ·intro x B' L1 e l
  rcases hk x B' e with ⟨rfl,rfl⟩ | ⟨hx,e'⟩
  ·rw [hset] at l;cases l;exact hown2
  ·rw [hι x (hs.hnb x B' e').1] at l
   exact hs.hown2 x B' L1 e' l
 ·intro t v e x hx
  exact .inl (hs.hnm t v e x hx)
 ·intro x B' e
  rcases hk x B' e with ⟨rfl,rfl⟩ | ⟨hx,e'⟩
  ·exact⟨.inr rfl,fun y hy=> .inl (hn y hy)⟩
  ·exact⟨.inl (hs.hnb x B' e').1,fun y hy=> .inl ((hs.hnb x B' e').2 y hy)⟩
 ·intro x L1 l
  unfold Io.set at l
  by_cases hx:x=m
  ·rw [if_pos hx] at l;cases l
   exact⟨.inr hx,(Array.getElem?_eq_some_iff.1 hb).1⟩
  ·rw [if_neg hx] at l;have:=hs.hdom x L1 l;exact⟨.inl this.1,this.2⟩
 ·intro x B' e hp'
  rcases hk x B' e with ⟨rfl,rfl⟩ | ⟨hx,e'⟩
  ·exact hp hp'
  ·exact hs.hpr x B' e' hp'

theorem Sim.nameNil (hs:Sim n w0 M0 U ι h fr mem a w) (m:Nat) (hm:¬U m) (B:Blk) (hb:B.els= []):
  Sim n w0 M0 (fun x=>U x∨x=m) ι h fr (qb6 mem (m,some B)) a w:=by
 have hιm:ι m=none:=by
  cases hL:ι m with
  | none=>rfl
  | some L=>exact absurd (hs.hdom m L hL).1 hm
 have hk:∀x B',qk (qb6 mem (m,some B)) x=some B'→(x=m∧B'=B)∨(x≠m∧qk mem x=some B'):=by
  intro x B' e
  rw [qbk] at e
  by_cases hx:m=x
  ·rw [if_pos hx] at e;exact .inl ⟨hx.symm,by simpa using e.symm⟩
  ·rw [if_neg hx] at e;exact .inr ⟨Ne.symm hx,e⟩
 have hs':=hs.weak (U':=fun x=>U x∨x=m) fun _ hx=> .inl hx
 refine { hs' with hmem:= ?_,hinj:= ?_,hmut:= ?_,hfrz:= ?_,hown:= ?_,hown2:= ?_,hnb:= ?_,hpr:= ?_ }
 ·intro x B' e
  rcases hk x B' e with ⟨rfl,rfl⟩ | ⟨hx,e'⟩
  ·unfold RB;rw [hιm];exact hb
  ·exact hs.hmem x B' e'
 ·intro x y B1 B2 L1 L2 e1 e2 l1 l2 hq
  rcases hk x B1 e1 with ⟨rfl,rfl⟩ | ⟨hx,e1'⟩
  ·rw [hιm] at l1;cases l1
  ·rcases hk y B2 e2 with ⟨rfl,rfl⟩ | ⟨hy,e2'⟩
   ·rw [hιm] at l2;cases l2
   ·exact hs.hinj x y B1 B2 L1 L2 e1' e2' l1 l2 hq
 ·intro x B' L1 e hz l
  rcases hk x B' e with ⟨rfl,rfl⟩ | ⟨hx,e'⟩
  ·rw [hιm] at l;cases l
  ·exact hs.hmut x B' L1 e' hz l
 ·intro x B' L1 e hz l
  rcases hk x B' e with ⟨rfl,rfl⟩ | ⟨hx,e'⟩
  ·rw [hιm] at l;cases l
  ·exact hs.hfrz x B' L1 e' hz l
 ·intro x B' L1 e hz l
  rcases hk x B' e with ⟨rfl,rfl⟩ | ⟨hx,e'⟩
  ·rw [hιm] at l;cases l
  ·exact hs.hown x B' L1 e' hz l
 ·intro x B' L1 e l
  rcases hk x B' e with ⟨rfl,rfl⟩ | ⟨hx,e'⟩
  ·rw [hιm] at l;cases l
  ·exact hs.hown2 x B' L1 e' l
 ·intro x B' e
  rcases hk x B' e with ⟨rfl,rfl⟩ | ⟨hx,e'⟩
  ·refine⟨.inr rfl,fun y hy=> ?_⟩
   unfold Blk.nms at hy
   rw [hb] at hy
   cases hy
  ·exact⟨.inl (hs.hnb x B' e').1,fun y hy=> .inl ((hs.hnb x B' e').2 y hy)⟩
 ·intro x B' e hp'
  rcases hk x B' e with ⟨rfl,rfl⟩ | ⟨hx,e'⟩
  ·intro e' he'
   rw [hb] at he'
   cases he'
  ·exact hs.hpr x B' e' hp'

def RF (ι:Io) (h:Hp) (cells:List Value) (es:Nat) (els:List (List At)):Prop:=
 cells.length=els.length*es∧∀(i:Nat) (e:List At),els[i]? =some e→e.length=es∧∀(j:Nat) (x:At),e[j]? =some x→∃u,cells[i*es+j]? =some u∧RA ι h x u
theorem RF.append {cs ds:List Value} {es:Nat} {els fls:List (List At)} (h1:RF ι h cs es els) (h2:RF ι h ds es fls):RF ι h (cs++ds) es (els++fls):=by
 refine⟨by simp [h1.1,h2.1,Nat.add_mul],fun i e he=> ?_⟩
 rw [List.getElem?_append] at he
 split at he
 ·rename_i hi
  obtain⟨q1,q2⟩:=h1.2 i e he
  refine⟨q1,fun j x hx=> ?_⟩
  obtain⟨u,q3,q4⟩:=q2 j x hx
  refine⟨u,?_,q4⟩
  rw [List.getElem?_append,if_pos]
  ·exact q3
  ·rcases Nat.lt_or_ge (i*es+j) cs.length with h' | h'
   ·exact h'
   ·rw [List.getElem?_eq_none (by omega)] at q3;cases q3
 ·rename_i hi
  obtain⟨q1,q2⟩:=h2.2 _ e he
  refine⟨q1,fun j x hx=> ?_⟩
  obtain⟨u,q3,q4⟩:=q2 j x hx
  refine⟨u,?_,q4⟩
  have hle:els.length*es≤i*es:=Nat.mul_le_mul_right es (by omega)
  rw [List.getElem?_append,if_neg (by rw [h1.1];omega),h1.1,←q3]
  congr 1
  rw [Nat.sub_mul]
  omega
theorem RF.ofCells {C:Array Value} {es off:Nat} {els:List (List At)} (hes:0<es) (hr:∀(i:Nat) (e:List At),els[i]? =some e→e.length=es∧∀(j:Nat) (x:At),e[j]? =some x→∃u,C[off+(i*es+j)]? =some u∧RA ι h x u):
  RF ι h ((C.toList.drop off).take (els.length*es)) es els:=by
 have hlen:((C.toList.drop off).take (els.length*es)).length=els.length*es:=by
  rcases Nat.eq_zero_or_pos els.length with h0 | h0
  ·rw [h0];simp
  ·have hi:els[els.length-1]? =some els[els.length-1]:=List.getElem?_eq_getElem (by omega)
   obtain⟨q1,q2⟩:=hr _ _ hi
   have hj:(els[els.length-1])[es-1]? =some ((els[els.length-1])[es-1]'(by rw [q1];omega)):=List.getElem?_eq_getElem _
   obtain⟨u,q3,_⟩:=q2 _ _ hj
   have q4:=(Array.getElem?_eq_some_iff.1 q3).1
   have q5:els.length*es=(els.length-1)*es+es:=by rw [←Nat.succ_mul];congr 1;omega
   simp
   omega
 refine⟨hlen,fun i e he=> ?_⟩
 obtain⟨q1,q2⟩:=hr i e he
 refine⟨q1,fun j x hx=> ?_⟩
 obtain⟨u,q3,q4⟩:=q2 j x hx
 refine⟨u,?_,q4⟩
 have hi:i<els.length:=by
  rcases Nat.lt_or_ge i els.length with h' | h'
  ·exact h'
  ·rw [List.getElem?_eq_none (by omega)] at he;cases he
 have hj:j<es:=by
  rw [←q1]
  rcases Nat.lt_or_ge j e.length with h' | h'
  ·exact h'
  ·rw [List.getElem?_eq_none (by omega)] at hx;cases hx
 have hlt:i*es+j<els.length*es:=by
  have:(i+1)*es≤els.length*es:=Nat.mul_le_mul_right es hi
  rw [Nat.add_mul,Nat.one_mul] at this
  omega
 rw [List.getElem?_take,if_pos hlt,List.getElem?_drop,Array.getElem?_toList]
 exact q3

theorem Sim.elsOf (hs:Sim n w0 M0 U ι h fr mem a w) {x:At} {u:Value} {es k:Nat} {els:List (List At)} {pr:Bool} {rd:List Nat} (hes:0<es) (hr:RA ι h x u) (he:Am.elsOf mem es x=some (k,els,pr,rd)):
  els.length=k∧(∀m∈els.flatMap (fun e=>e.flatMap At.nm),U m)∧(pr=true→∀e∈els,∀y∈e,y.pr=true)∧
  ((∃A c',u= .slice (some A) k c'∧∃cells,RF ι h cells es els∧∀j v,cells[j]? =some v→w.cell? (A.add j)=some v)∨(k=0∧els= []∧∃c',u= .slice none 0 c')):=by
 unfold Am.elsOf at he
 split at he
 ·rename_i es' k' els'
  split at he
  ·rename_i hq
   subst hq
   cases he
   have hr:RP h _ _:=hr
   cases hr with
   | sl0 _ A c'=>
    refine⟨rfl,by simp,by simp,?_⟩
    cases A with
    | none=>exact .inr ⟨rfl,rfl,c',rfl⟩
    | some A=>exact .inl ⟨A,c',rfl,[],⟨by simp,by simp⟩,by simp⟩
   | sl _ _ b off c' _ C t z us hb hnl hcp hl hu hrr=>
    have hf:=RF.ofCells (ι:=ι) (h:=h) (C:=C) (off:=off) hes (fun i e he=>⟨hl i e he,fun j y hy=>⟨us i j,hu i e j y he hy,RA.ofRP (hrr i e j y he hy)⟩⟩)
    refine⟨hnl,?_,?_,.inl ⟨⟨b,off,none⟩,c',rfl,_,hf,?_⟩⟩
    ·intro m hm
     simp only [List.mem_flatMap] at hm
     obtain⟨e,he,y,hy,hm⟩:=hm
     obtain⟨i,hi⟩:=List.getElem?_of_mem he
     obtain⟨j,hj⟩:=List.getElem?_of_mem hy
     rw [RP.nm (hrr i e j y hi hj)] at hm
     cases hm
    ·intro _ e he y hy
     obtain⟨i,hi⟩:=List.getElem?_of_mem he
     obtain⟨j,hj⟩:=List.getElem?_of_mem hy
     exact RP.isPr (hrr i e j y hi hj)
    ·intro j v hj
     rw [List.getElem?_take] at hj
     split at hj
     ·rw [List.getElem?_drop,Array.getElem?_toList] at hj
      rw [Addr.add_mid,qjI (hs.hsub _ _ hb)]
      exact hj
     ·cases hj
  ·cases he
 ·cases he
  have hr:RP h _ _:=hr
  cases hr
  exact⟨rfl,by simp,by simp,.inr ⟨rfl,rfl,0,rfl⟩⟩
 ·rename_i m lo k'
  simp only [Option.bind_eq_some_iff] at he
  obtain⟨B,e1,he⟩:=he
  split at he
  ·rename_i hq
   obtain⟨hq,hle⟩:=hq
   cases he
   have hlen:((B.els.drop lo).take k).length=k:=by simp;omega
   have hmem:∀e∈(B.els.drop lo).take k,e∈B.els:=fun e he=>List.mem_of_mem_drop (List.mem_of_mem_take he)
   refine⟨hlen,?_,?_,?_⟩
   ·intro m' hm
    simp only [List.mem_flatMap] at hm
    obtain⟨e,he,y,hy,hm⟩:=hm
    exact(hs.hnb m B e1).2 m' (by simp only [Blk.nms,List.mem_flatMap];exact⟨e,hmem e he,y,hy,hm⟩)
   ·intro hp e he y hy
    exact hs.hpr m B e1 hp e (hmem e he) y hy
   ·have hb:=hs.hmem m B e1
    rcases hr with ⟨L,cap,hL,hx,hcap,hkc,hmax⟩ | ⟨hL,hb0,hk0,hx⟩
    ·obtain⟨C,h1,h2,h3,h4⟩:=hb.cells hL fun _ h0 _=>by omega
     rw [hq] at h3 h4
     have hf:=RF.ofCells (ι:=ι) (h:=h) (C:=C) (off:=lo*es) (els:=(B.els.drop lo).take k) hes (fun i e he=>by
      rw [List.getElem?_take] at he
      split at he
      ·rw [List.getElem?_drop] at he
       obtain⟨q1,q2⟩:=h4 _ e he
       refine⟨q1,fun j y hy=> ?_⟩
       obtain⟨v,q3,q4⟩:=q2 j y hy
       refine⟨v,?_,q4⟩
       rw [←q3,Nat.add_mul]
       congr 1
       omega
      ·cases he)
     rw [h3] at hx
     refine .inl ⟨⟨L.b,lo*es,none⟩,cap,hx,_,hf,?_⟩
     intro j v hj
     rw [List.getElem?_take] at hj
     split at hj
     ·rw [List.getElem?_drop,Array.getElem?_toList] at hj
      rw [Addr.add_mid,qjI h1]
      exact hj
     ·cases hj
    ·refine .inr ⟨hk0,?_,0,hx⟩
     simp [hb.els0 hL]
  ·cases he
 ·cases he

theorem qil {t ty e:TypeId} {i:TypeInfo} (ht:P.underlying t=some (.slice e)) (hi:P.info? e=some i) (base:Option Addr) (sLen sCap:Nat) (hle:sLen≤sCap) (A:Option Addr) (c':Nat):
  (Builtin.append_ #[t,t] ty #[.slice base sLen sCap,.slice A 0 c']).run P w= .ok (.slice base sLen sCap) w:=by
 have hz:∀q,(Builtin.firstCells i.size 0 (.slice A q c')).run P w= .ok #[] w:=by
  intro q
  cases A<;>simp [Builtin.firstCells,loadCells,loadCellsFrom]
 cases base with
 | none=>simp [Builtin.append_,qn ht,qbS hi,Builtin.lenOf,hle,hz]
 | some b=>simp [Builtin.append_,qn ht,qbS hi,Builtin.lenOf,hle,hz,storeCells]

theorem qmY (hT:qbB P c.T) (hs:Sim n w0 M0 U ι h fr mem a w) {t:TypeId} {s x:At} {vs vx:Value} (hf:∀m,nx≤m→m<e.nn→¬U m) (hrs:RA ι h s vs) (hrx:RA ι h x vx) (hns:∀m∈s.nm,U m)
  (he:qdL c t s x mem nx=some e) (ty:TypeId):
  ∃u w',(Builtin.append_ #[t,t] ty #[vs,vx]).run P w= .ok u w'∧Nxt n w0 M0 U ι h fr mem nx e a u w':=by
 unfold qdL at he
 split at he
 ·rename_i et ht
  simp only [Option.bind_eq_some_iff] at he
  obtain⟨te,e1,⟨k,els,pr,rd⟩,e2,⟨bels,bn,bpr,brd⟩,e3,he⟩:=he
  split at he
  ·rename_i hc
   obtain⟨c1,c2,c3,c4⟩:=hc
   cases he
   obtain⟨D,hD,rfl, -⟩:=qap hT ht
   obtain⟨ti,ht1,ht2,ht3⟩:=(hT et te e1).info
   obtain⟨hkl,hnm,hpr,hsrc⟩:=hs.elsOf c2 hrx e2
   simp only at c1
   have h63:bn+k≤maxLen:=by
    have:(bn+k)*1≤(bn+k)*te.bytes:=Nat.mul_le_mul_left _ c3
    simp [maxLen]
    omega
   -- what the old slice is
   have hbase:(vs= .slice none 0 0∧bn=0∧bels= []∧bpr=true∧brd= [])∨
     (∃m B L cap C,s= .sm m 0 bn∧qk mem m=some B∧ι m=some L∧vs= .slice (some ⟨L.b,0,none⟩) bn cap∧cap*te.size=L.sz∧bn≤cap∧cap≤maxLen∧w.heap[L.b]? =some (.cells C et (0,0))∧C.size=L.sz∧
      L.es=te.size∧RBs ι h C te.size B.els∧bn≤B.els.length∧B.fz=false∧bels=B.els.take bn∧bpr=B.pr∧brd= [m])∨
     (∃m B,s= .sm m 0 0∧qk mem m=some B∧ι m=none∧vs= .slice none 0 0∧bn=0∧bels= []∧bpr=B.pr∧brd= [m]):=by
    split at e3
    ·cases e3
     have hrs:RP h _ _:=hrs
     cases hrs
     exact .inl ⟨rfl,rfl,rfl,rfl,rfl⟩
    ·rename_i m lo k'
     simp only [Option.bind_eq_some_iff] at e3
     obtain⟨B,e4,e3⟩:=e3
     split at e3
     ·rename_i hq
      obtain⟨q1,q2,q3,q4,q5⟩:=hq
      cases e3
      subst q1
      have hb:=hs.hmem m B e4
      rcases hrs with ⟨L,cap,hL,hx,hcap,hkc,hmax⟩ | ⟨hL,hb0,hk0,hx⟩
      ·obtain⟨C,h1,h2,h3,h4⟩:=hb.cells hL fun _ h0 _=>by omega
       rw [q2] at h3 h4
       rw [q3] at h1
       refine .inr (.inl ⟨m,B,L,cap,C,rfl,e4,hL,by rw [hx];simp,by rw [←h3,←hcap];simp,hkc,hmax,h1,h2,h3,h4,q4,by simpa using q5,rfl,rfl,rfl⟩)
      ·have hb:=hb.els0 hL
       subst hk0
       exact .inr (.inr ⟨m,B,rfl,e4,hL,hx,rfl,by simp,rfl,rfl⟩)
     ·cases e3
    ·cases e3
   -- the memory without the old name
   have hmem1:∃mem1,(∀b,qB mem (brd.map (fun m=>(m,none))++ [(nx,some b)])=qb6 mem1 (nx,some b))∧Sim n w0 M0 U ι h fr mem1 a w∧(∀m B,qk mem1 m=some B→qk mem m=some B∧m∉brd):=by
    rcases hbase with ⟨_,_,_,_,rfl⟩ | ⟨m,B,L,cap,C,_,_,_,_,_,_,_,_,_,_,_,_,_,_,_,rfl⟩ | ⟨m,B,_,_,_,_,_,_,_,rfl⟩
    ·exact⟨mem,fun b=>rfl,hs,fun m B e=>⟨e,by simp⟩⟩
    all_goals
     refine⟨qb6 mem (m,none),fun b=>rfl,hs.drop m,fun m' B' e=> ?_⟩
     rw [qbk] at e
     by_cases hq:m=m'
     ·rw [if_pos hq] at e;cases e
     ·rw [if_neg hq] at e;exact⟨e,by simp;exact Ne.symm hq⟩
   obtain⟨mem1,hm1,hs1,hm2⟩:=hmem1
   have hbpr:bpr=true→∀e∈bels,∀y∈e,y.pr=true:=by
    rcases hbase with ⟨_,_,rfl,_,_⟩ | ⟨m,B,L,cap,C,_,hB,_,_,_,_,_,_,_,_,_,_,_,rfl,rfl,_⟩ | ⟨m,B,_,_,_,_,_,rfl,_,_⟩
    ·simp
    ·intro hp e he y hy
     exact hs.hpr m B hB hp e (List.mem_of_mem_take he) y hy
    ·simp
   have hbnm:∀m'∈bels.flatMap (fun e=>e.flatMap At.nm),U m':=by
    rcases hbase with ⟨_,_,rfl,_,_⟩ | ⟨m,B,L,cap,C,_,hB,_,_,_,_,_,_,_,_,_,_,_,rfl,rfl,_⟩ | ⟨m,B,_,_,_,_,_,rfl,_,_⟩
    ·simp
    ·intro m' hm'
     simp only [List.mem_flatMap] at hm'
     obtain⟨e,he,y,hy,hm'⟩:=hm'
     exact(hs.hnb m B hB).2 m' (by simp only [Blk.nms,List.mem_flatMap];exact⟨e,List.mem_of_mem_take he,y,hy,hm'⟩)
    ·simp
   have hprB:(bpr && pr)=true→∀e∈bels++els,∀y∈e,y.pr=true:=by
    intro hp e he
    rw [Bool.and_eq_true] at hp
    rcases List.mem_append.1 he with h' | h'
    ·exact hbpr hp.1 e h'
    ·exact hpr hp.2 e h'
   have hnmB:∀m'∈(bels++els).flatMap (fun e=>e.flatMap At.nm),U m':=by
    intro m' hm'
    rw [List.flatMap_append,List.mem_append] at hm'
    rcases hm' with h' | h'
    ·exact hbnm m' h'
    ·exact hnm m' h'
   have hfU:¬U nx:=hf nx (Nat.le_refl _) (Nat.lt_succ_self _)
   -- the end, where the answer is nil
   have hnil:∀w',Sim n w0 M0 U ι h fr mem1 a w'→bn+k=0→∀u,u= .slice none 0 0→Nxt n w0 M0 U ι h fr mem nx
     { v:= .v (.a (.sm nx 0 (bn+k))),upd:=brd.map (fun m=>(m,none))++ [(nx,some (Blk.mk (bels++els) te.size et (bpr && pr) false true []))],nn:=nx+1,rd:=brd++rd } a u w':=by
    intro w' hs1 h0 u hu
    have hb0:bels++els= []:=by
     have h1:els= []:=List.eq_nil_of_length_eq_zero (by omega)
     have h2:bels= []:=by
      rcases hbase with ⟨_,_,rfl,_,_⟩ | ⟨m,B,L,cap,C,_,hB,_,_,_,_,_,_,_,_,_,_,_,rfl,rfl,_⟩ | ⟨m,B,_,_,_,_,_,rfl,_,_⟩
      ·rfl
      ·have:bn=0:=by omega
       subst this
       simp
      ·rfl
     rw [h1,h2];rfl
    have hιn:ι nx=none:=by
     cases hL:ι nx with
     | none=>rfl
     | some L=>exact absurd (hs.hdom nx L hL).1 hfU
    refine⟨ι,h,Sub.refl h,fun _ _=>rfl,?_,?_,?_,Nat.le_succ _,fun _ _ _=>rfl⟩
    ·simp only
     rw [hm1]
     exact(hs1.nameNil nx hfU (Blk.mk (bels++els) te.size et (bpr && pr) false true []) hb0).weak fun m hm=>by
      rcases hm with hm | rfl
      ·exact .inl hm
      ·exact .inr ⟨Nat.le_refl _,Nat.lt_succ_self _⟩
    ·rw [h0];exact .inr ⟨hιn,rfl,rfl,hu⟩
    ·intro m hm
     simp [Sv.nms,qd,Vl.cells,At.nm] at hm
     exact .inr ⟨by omega,by show m<nx+1;omega⟩
   -- the cells of the old slice
   have hown:∃xs,w.ownsRow 0 et te.size vs bn xs∧RF ι h xs te.size bels∧(∀g,vs.ownBlock=some g→h g=none∧(w0.heap.size≤g∨M0 false g)∧(w0.heap.size≤g∨M0 true g)∧(∀m B L,qk mem1 m=some B→ι m=some L→L.b≠g)):=by
    have hnilc:vs= .slice none 0 0→bn=0→bels= []→∃xs,w.ownsRow 0 et te.size vs bn xs∧RF ι h xs te.size bels∧(∀g,vs.ownBlock=some g→h g=none∧(w0.heap.size≤g∨M0 false g)∧(w0.heap.size≤g∨M0 true g)∧(∀m B L,qk mem1 m=some B→ι m=some L→L.b≠g)):=by
     rintro rfl rfl rfl
     exact⟨[],⟨by simp,.inl ⟨rfl,rfl⟩⟩,⟨by simp,by simp⟩,by intro g hg;cases hg⟩
    rcases hbase with ⟨q1,q2,q3,_,_⟩ | ⟨m,B,L,cap,C,q0,hB,hL,q1,q2,q3,q4,q5,q6,q7,q8,q9,q10,rfl,_,rfl⟩ | ⟨m,B,_,_,_,q1,q2,q3,_,_⟩
    ·exact hnilc q1 q2 q3
    ·subst q1
     have hf:=RF.ofCells (ι:=ι) (h:=h) (C:=C) (off:=0) (els:=B.els.take bn) c2 (fun i e he=>by
      rw [List.getElem?_take] at he
      split at he
      ·obtain⟨r1,r2⟩:=q8 i e he
       exact⟨r1,fun j y hy=>by
        obtain⟨v,r3,r4⟩:=r2 j y hy
        exact⟨v,by rw [←r3];congr 1;omega,r4⟩⟩
      ·cases he)
     have hbl:(B.els.take bn).length=bn:=by simp;omega
     rw [hbl,List.drop_zero] at hf
     refine⟨C.toList.take (bn*te.size),⟨by rw [hf.1,hbl],.inr ⟨L.b,cap,C,rfl,Nat.zero_le _,q5,q3,q4,by rw [q6,q2],rfl⟩⟩,hf,?_⟩
     intro g hg
     simp [Value.ownBlock] at hg
     subst hg
     refine⟨hs.hmut m B L hB q10 hL,hs.hown m B L hB q10 hL,hs.hown2 m B L hB hL,?_⟩
     intro m' B' L' e' l' hq
     obtain⟨r1,r2⟩:=hm2 m' B' e'
     exact r2 (by simp;exact hs.hinj m' m B' B L' L r1 hB l' hL hq)
    ·exact hnilc q1 q2 q3
   have hnew:∀(w':World) (hs1:Sim n w0 M0 U ι h fr mem1 a w') (g cap:Nat) (cur:Array Value) (cells:List Value),w'.heap[g]? =some (.cells cur et (0,0))→cur.size=cap*te.size→bn+k≤cap→cap≤maxLen→
     cur.toList.take ((bn+k)*te.size)=cells→RF ι h cells te.size (bels++els)→(∀m' B' L',qk mem1 m'=some B'→ι m'=some L'→L'.b≠g)→h g=none→(w0.heap.size≤g∨M0 false g)→(w0.heap.size≤g∨M0 true g)→
     Nxt n w0 M0 U ι h fr mem nx { v:= .v (.a (.sm nx 0 (bn+k))),upd:=brd.map (fun m=>(m,none))++ [(nx,some (Blk.mk (bels++els) te.size et (bpr && pr) false true []))],nn:=nx+1,rd:=brd++rd } a
      (.slice (some ⟨g,0,none⟩) (bn+k) cap) w':=by
    intro w' hs1 g cap cur cells hg hsz hle hmax htake hrf hno hh hown hown2
    have hr:RBs ι h cur te.size (bels++els):=by
     intro i el hel
     obtain⟨q1,q2⟩:=hrf.2 i el hel
     refine⟨q1,fun j y hy=> ?_⟩
     obtain⟨u,q3,q4⟩:=q2 j y hy
     refine⟨u,?_,q4⟩
     rw [←htake,List.getElem?_take] at q3
     split at q3
     ·rwa [Array.getElem?_toList] at q3
     ·cases q3
    refine⟨ι.set nx ⟨g,cur.size,te.size⟩,h,Sub.refl h,fun m hm=>by unfold Io.set;rw [if_neg];rintro rfl;exact hm ⟨Nat.le_refl _,Nat.lt_succ_self _⟩,?_,?_,?_,Nat.le_succ _,fun _ _ _=>rfl⟩
    ·simp only
     rw [hm1]
     exact(hs1.name nx hfU (Blk.mk (bels++els) te.size et (bpr && pr) false true []) ⟨g,cur.size,te.size⟩ hg rfl rfl (by show te.size≠0;omega) hr rfl hno hh hown hown2 hnmB hprB).weak fun m hm=>by
      rcases hm with hm | rfl
      ·exact .inl hm
      ·exact .inr ⟨Nat.le_refl _,Nat.lt_succ_self _⟩
    ·exact .inl ⟨⟨g,cur.size,te.size⟩,cap,by simp [Io.set],by simp,by simp [hsz],hle,hmax⟩
    ·intro m hm
     simp [Sv.nms,qd,Vl.cells,At.nm] at hm
     exact .inr ⟨by omega,by show m<nx+1;omega⟩
   obtain⟨i,z,hi,hzv,hzs,_,_⟩:=(hT et te e1).zero c4
   rw [ht1] at hi
   cases hi
   obtain⟨xs,ho1,ho2,ho3⟩:=hown
   rcases hsrc with ⟨A,c',rfl,cells,hcf,hcell⟩ | ⟨hk0,hels,c',rfl⟩
   ·have hone:∀u∈cells,u.oneCell'=true:=by
     intro u hu
     obtain⟨q,hq⟩:=List.getElem?_of_mem hu
     have hql:q<els.length*te.size:=by
      rw [←hcf.1]
      rcases Nat.lt_or_ge q cells.length with h' | h'
      ·exact h'
      ·rw [List.getElem?_eq_none (by omega)] at hq;cases hq
     have hqi:q / te.size<els.length:=Nat.div_lt_of_lt_mul (by rw [Nat.mul_comm];exact hql)
     obtain⟨r1,r2⟩:=hcf.2 (q / te.size) _ (List.getElem?_eq_getElem hqi)
     have hqj:q % te.size<els[q / te.size].length:=by rw [r1];exact Nat.mod_lt _ c2
     obtain⟨u',r3,r4⟩:=r2 (q % te.size) _ (List.getElem?_eq_getElem hqj)
     rw [Nat.mul_comm,Nat.div_add_mod,hq] at r3
     cases r3
     exact r4.oneCell
    obtain⟨v',w',r1,r2,r3,r4,r5⟩:=run_append_own_at (P:=P) (w:=w) 0 t ty et ti z te.size te.bytes hD ht1 hzv ht2 ht3 hzs c2 vs bn xs ho1 A k c' cells (by rw [hcf.1,hkl]) hcell hone h63 (by simpa using c1) (Nat.zero_le _)
    refine⟨v',w',r1,?_⟩
    have hs1':Sim n w0 M0 U ι h fr mem1 a w':=hs1.grown r3 fun g hg=>⟨(ho3 g hg).2.2.2,(ho3 g hg).1,(ho3 g hg).2.1⟩
    rcases r2.2 with ⟨q1,q2⟩ | ⟨g,cap,cur,rfl,_,q1,q2,q3,q4,q5⟩
    ·exact hnil w' hs1' q2 v' q1
    ·refine hnew w' hs1' g cap cur _ q1 q4 q2 q3 q5 (ho2.append hcf) ?_ ?_ ?_ ?_
     ·intro m' B' L' e' l' hq
      rcases r5 with r5 | r5
      ·exact(ho3 g (by rw [←r5];rfl)).2.2.2 m' B' L' e' l' hq
      ·simp [Value.ownBlock] at r5
       have:=(hs1.hdom m' L' l').2
       omega
     ·rcases r5 with r5 | r5
      ·exact(ho3 g (by rw [←r5];rfl)).1
      ·simp [Value.ownBlock] at r5
       subst r5
       cases hq:h w.heap.size with
       | none=>rfl
       | some o=>exact absurd (hs.hlt hq) (by omega)
     ·rcases r5 with r5 | r5
      ·exact(ho3 g (by rw [←r5];rfl)).2.1
      ·simp [Value.ownBlock] at r5
       subst r5
       exact .inl hs.hgrow
     ·rcases r5 with r5 | r5
      ·exact(ho3 g (by rw [←r5];rfl)).2.2.1
      ·simp [Value.ownBlock] at r5
       subst r5
       exact .inl hs.hgrow
   ·subst hk0
    subst hels
    rcases ho1.2 with ⟨q1,q2⟩ | ⟨g,cap,cur,rfl,_,q1,q2,q3,q4,q5⟩
    ·subst q1
     subst q2
     exact⟨_,w,qil hD ht1 none 0 0 (Nat.le_refl _) none c',hnil w hs1 rfl _ rfl⟩
    ·refine⟨_,w,qil hD ht1 _ bn cap q2 none c',?_⟩
     have:=hnew w hs1 g cap cur xs q1 q4 (by omega) q3 (by simpa using q5) (by simpa using ho2) (ho3 g rfl).2.2.2 (ho3 g rfl).1 (ho3 g rfl).2.1 (ho3 g rfl).2.2.1
     simpa using this
  ·cases he
 ·cases he

end

section
variable {P : Program} {n : Nat} {w0 : World} {M0 : Bool → Nat → Prop} {U : Nat → Prop} {ι : Io} {h : Hp} {fr : List (Nat × Sv)} {mem : Mem} {a : Act} {w w' : World}
 {c:Cfg} {callF:FuncId→List Vl→List Blk→Option (List Vl×List Blk)} {o:Oper} {nx:Nat} {e:Eff}

theorem qqP (hT:qbB P c.T) (hs:Sim n w0 M0 U ι h fr mem a w) (hf:∀m,nx≤m→m<e.nn→¬U m) {args:Array Operand} {ats:Array TypeId} (hop:o.op= .call { callee:= .builtin .append,args:=args,argTypes:=ats })
  (he:stp c callF o fr mem nx=some e):qi P n w0 M0 U ι h fr mem a w nx o e:=by
 simp only [stp,hop,Option.bind_eq_some_iff] at he
 obtain⟨t,e1,t',e2,s,⟨so,e3,e4⟩,x,⟨xo,e5,e6⟩,he⟩:=he
 split at he
 ·rename_i ht
  subst ht
  obtain⟨hr,hn⟩:=hs.evA e4
  obtain⟨hr',hn'⟩:=hs.evA e6
  obtain⟨u,w',h1,h2⟩:=qmY hT hs hf hr hr' hn he o.type
  refine .inl ⟨u,w',?_,h2⟩
  have hA:(Builtin.append_ ats o.type (args.map a.eval)).run P w= .ok u w':=by
   rw [←h1]
   unfold Builtin.append_
   simp [e1,e2,e3,e5]
  simp [execOp,hop,resolve,invoke,builtin,hA]
 ·cases he

theorem qol (hs:Sim n w0 M0 U ι h fr mem a w) {fn:Fn} {first cs:Array Operand} (hop:o.op= .makeFunc fn first cs) (he:stp c callF o fr mem nx=some e):qi P n w0 M0 U ι h fr mem a w nx o e:=by
 simp only [stp,hop] at he
 split at he
 ·rename_i hf
  split at he
  ·rename_i f
   simp only [Option.bind_eq_some_iff] at he
   obtain⟨xs,e1,ps,e2,he⟩:=he
   cases he
   obtain⟨h1,s1,s2,s4,s5,s6⟩:=hs.frzStep (ps.flatMap (·.2))
   have hlen:=(qbj e1).1
   have hlen2:=(qbj e2).1
   have hat:∀(j:Nat) (y:At),(ps.map (·.1))[j]? =some y→∃u,(cs.map a.eval)[j]? =some u∧RP h1 y u:=by
    intro j y hy
    simp only [List.getElem?_map,Option.map_eq_some_iff] at hy
    obtain⟨p,hp,rfl⟩:=hy
    obtain⟨x,hx,hxp⟩:=qt e2 j p hp
    obtain⟨o',q1,q2⟩:=qt e1 j x hx
    have q1':cs[j]? =some o':=by simpa using q1
    refine⟨a.eval o',by simp [q1'],?_⟩
    have hr:=(hs.evA q2).1
    cases x with
    | ptr m i o=>
     simp only [qhv,Option.bind_eq_some_iff] at hxp
     obtain⟨B,b1,hxp⟩:=hxp
     split at hxp
     ·rename_i hpr
      simp only [Option.bind_eq_some_iff] at hxp
      obtain⟨el,b2,hxp⟩:=hxp
      cases hxp
      obtain⟨L,hL,hv⟩:=hr
      rw [hv]
      obtain⟨C,c1,c2,c3,c4⟩:=(hs.hmem m B b1).cells hL fun h0 _ _=>by rw [h0] at b2;simp at b2
      have hh:=s2 m (List.mem_flatMap.2 ⟨_,List.mem_of_getElem? hp,List.mem_singleton.2 rfl⟩) B L b1 hL
      rw [c1] at hh
      refine .pp el o L.b (i*L.es) C B.ty (0,0) (fun j=>(C[i*L.es+j]?).getD default) hh ?_ ?_
      ·intro j x hx
       obtain⟨u,d1,d2⟩:=(c4 i el b2).2 j x hx
       rw [c3,d1];rfl
      ·intro j x hx
       obtain⟨u,d1,d2⟩:=(c4 i el b2).2 j x hx
       simp only [c3,d1,Option.getD_some]
       exact RP.mono s1 (RA.toRP (hs.hpr m B b1 hpr el (List.mem_of_getElem? b2) x (List.mem_of_getElem? hx)) d2)
     ·cases hxp
    | sm m lo n=>cases hxp
    | mp m=>cases hxp
    | _=>cases hxp;exact RP.mono s1 hr
   have hn:=Nxt.frz (rd':=ps.flatMap (·.2)) s1 s6 (Nxt.valP s4 (nx:=nx) (x:= .fn f (ps.map (·.1))) (u:= .func (.func f) #[] (cs.map a.eval)) rfl
    (.fn f _ _ (fun j=>((cs.map a.eval)[j]?).getD undef) (by simp [hlen,hlen2]) (fun j x hx=>by
     obtain⟨u,q1,_⟩:=hat j x hx
     rw [q1];rfl) (fun j x hx=>by
     obtain⟨u,q1,q2⟩:=hat j x hx
     rw [q1];exact q2)))
   rw [List.append_nil] at hn
   refine .inl ⟨.func (.func f) #[] (cs.map a.eval),w,?_,hn⟩
   have hf':first= #[]:=by simpa using hf
   simp [execOp,hop,Instr.makeFunc,hf']
  ·cases he
 ·cases he

theorem Sim.memEq (hs:Sim n w0 M0 U ι h fr mem a w) {mem':Mem} (hm:∀m,qk mem' m=qk mem m):Sim n w0 M0 U ι h fr mem' a w:=
 { hs with
  hmem:=fun x B e=>hs.hmem x B (by rw [←hm];exact e)
  hinj:=fun x y B1 B2 L1 L2 e1 e2=>hs.hinj x y B1 B2 L1 L2 (by rw [←hm];exact e1) (by rw [←hm];exact e2)
  hmut:=fun x B L e=>hs.hmut x B L (by rw [←hm];exact e)
  hfrz:=fun x B L e=>hs.hfrz x B L (by rw [←hm];exact e)
  hown:=fun x B L e=>hs.hown x B L (by rw [←hm];exact e)
  hown2:=fun x B L e=>hs.hown2 x B L (by rw [←hm];exact e)
  hnb:=fun x B e=>hs.hnb x B (by rw [←hm];exact e)
  hpr:=fun x B e=>hs.hpr x B (by rw [←hm];exact e) }
theorem RBs.size {C:Array Value} {es k:Nat} {els:List (List At)} (hr:RBs ι h C es els) (hes:0<es) (hk:k≤els.length):k*es≤C.size:=by
 rcases Nat.eq_zero_or_pos k with rfl | h0
 ·simp
 ·obtain⟨q1,q2⟩:=hr (k-1) els[k-1] (List.getElem?_eq_getElem (by omega))
  obtain⟨u,q3,_⟩:=q2 (es-1) ((els[k-1])[es-1]'(by rw [q1];omega)) (List.getElem?_eq_getElem _)
  have q4:=(Array.getElem?_eq_some_iff.1 q3).1
  have:k*es=(k-1)*es+es:=by rw [←Nat.succ_mul];congr 1;omega
  omega
theorem qgm {α:Type} {l:List α} {j:Nat} {x:α} (e:l[j]? =some x):j<l.length:=(List.getElem?_eq_some_iff.1 e).1
theorem RBs.splice {C V:Array Value} {es lo:Nat} {els fls:List (List At)} (hr:RBs ι h C es els) (hv:RBs ι h V es fls) (hes:0<es) (hl:lo+fls.length≤els.length) (hV:V.size=fls.length*es):
  RBs ι h (C.toList.take (lo*es)++V.toList++C.toList.drop (lo*es+V.toList.length)).toArray es (els.take lo++fls++els.drop (lo+fls.length)):=by
 have hC:=hr.size hes hl
 have hC0:=hr.size hes (show lo≤els.length by omega)
 rw [Nat.add_mul] at hC
 have hl1:(C.toList.take (lo*es)).length=lo*es:=by simp;omega
 have hV':V.toList.length=fls.length*es:=by simpa using hV
 have hl0:(els.take lo).length=lo:=by simp;omega
 intro i e he
 rw [List.append_assoc,List.getElem?_append,hl0] at he
 simp only [List.getElem?_toArray]
 split at he
 ·rename_i hi
  rw [List.getElem?_take,if_pos hi] at he
  obtain⟨q1,q2⟩:=hr i e he
  refine⟨q1,fun j x hx=> ?_⟩
  obtain⟨u,q3,q4⟩:=q2 j x hx
  have hj:j<es:=by rw [←q1];exact qgm hx
  have hm:(i+1)*es≤lo*es:=Nat.mul_le_mul_right es hi
  rw [Nat.add_mul,Nat.one_mul] at hm
  refine⟨u,?_,q4⟩
  rw [List.append_assoc,List.getElem?_append,hl1,if_pos (by omega),List.getElem?_take,if_pos (by omega),Array.getElem?_toList]
  exact q3
 ·rename_i hi
  rw [List.getElem?_append] at he
  split at he
  ·rename_i hi2
   obtain⟨q1,q2⟩:=hv _ e he
   refine⟨q1,fun j x hx=> ?_⟩
   obtain⟨u,q3,q4⟩:=q2 j x hx
   have hj:j<es:=by rw [←q1];exact qgm hx
   have hm:(i-lo+1)*es≤fls.length*es:=Nat.mul_le_mul_right es hi2
   have hm2:lo*es≤i*es:=Nat.mul_le_mul_right es (by omega)
   rw [Nat.add_mul,Nat.one_mul,Nat.sub_mul] at hm
   rw [Nat.sub_mul] at q3
   refine⟨u,?_,q4⟩
   rw [List.append_assoc,List.getElem?_append,hl1,if_neg (by omega),List.getElem?_append,hV',if_pos (by omega),Array.getElem?_toList,←q3]
   congr 1
   omega
  ·rename_i hi2
   rw [List.getElem?_drop] at he
   have hi3:lo+fls.length+(i-lo-fls.length)=i:=by omega
   rw [hi3] at he
   obtain⟨q1,q2⟩:=hr i e he
   refine⟨q1,fun j x hx=> ?_⟩
   obtain⟨u,q3,q4⟩:=q2 j x hx
   have hm:(lo+fls.length)*es≤i*es:=Nat.mul_le_mul_right es (by omega)
   rw [Nat.add_mul] at hm
   refine⟨u,?_,q4⟩
   rw [List.append_assoc,List.getElem?_append,hl1,if_neg (by omega),List.getElem?_append,hV',if_neg (by omega),List.getElem?_drop,Array.getElem?_toList,←q3]
   congr 1
   omega
theorem qsu (hT:qbB P c.T) (hs:Sim n w0 M0 U ι h fr mem a w) {args:Array Operand} {ats:Array TypeId} (hop:o.op= .call { callee:= .builtin .clear,args:=args,argTypes:=ats })
  (he:stp c callF o fr mem nx=some e):qi P n w0 M0 U ι h fr mem a w nx o e:=by
 simp only [stp,hop,Option.bind_eq_some_iff] at he
 obtain⟨t,e1,y,⟨x,e3,e4⟩,he⟩:=he
 obtain⟨hr,hn⟩:=hs.evA e4
 unfold qeV at he
 split at he
 ·rename_i et ht
  simp only [Option.bind_eq_some_iff] at he
  obtain⟨te,e5,he⟩:=he
  obtain⟨D,hD,rfl,_⟩:=qap hT ht
  have hrun:∀w',(Builtin.clear_ ats o.type (args.map a.eval)).run P w= .ok (.tuple #[]) w'→(execOp a.eval o).run P w= .ok (.value (.tuple #[])) w':=by
   intro w' hk
   simp [execOp,hop,resolve,invoke,builtin,hk]
  have hnil:RS ι h (.t []) (.tuple #[]):=⟨#[],rfl,rfl,by simp⟩
  have h00:∀A c',a.eval x= .slice A 0 c'→(Builtin.clear_ ats o.type (args.map a.eval)).run P w= .ok (.tuple #[]) w:=by
   intro A c' hx
   cases A<;>simp [Builtin.clear_,e1,e3,qn hD,hx]
  split at he
  ·cases he
   have hr:RP h _ _:=hr
   have hx:a.eval x= .slice none 0 0:=by
    generalize a.eval x=q at hr
    cases hr
    rfl
   exact .inl ⟨_,w,hrun _ (h00 _ _ hx),Nxt.val hs hnil (by intro m hm;simp [Sv.nms,qd] at hm)⟩
  ·rename_i m lo k
   simp only [Option.bind_eq_some_iff] at he
   obtain⟨B,e6,he⟩:=he
   split at he
   ·rename_i hc
    obtain⟨c1,c2,c3,c4,c5⟩:=hc
    have hfz:B.fz=false:=by simpa using c3
    cases he
    have stay:∀u,(execOp a.eval o).run P w= .ok (.value u) w→u= .tuple #[]→B.els.take lo++List.replicate k (zf te)++B.els.drop (lo+k)=B.els→
      qi P n w0 M0 U ι h fr mem a w nx o { v:= .t [],upd:= [(m,some { B with els:=B.els.take lo++List.replicate k (zf te)++B.els.drop (lo+k) })],nn:=nx,rd:= [m] }:=by
     intro u q1 q2 q3
     subst q2
     refine .inl ⟨_,w,q1,ι,h,Sub.refl h,fun _ _=>rfl,?_,hnil,(by intro m hm;simp [Sv.nms,qd] at hm),Nat.le_refl _,fun _ _ _=>rfl⟩
     refine Sim.weak (U:=U) (hs.memEq fun x=> ?_) (fun m hm=> .inl hm)
     simp only [qB]
     rw [qbk]
     split
     ·rename_i hx;subst hx;rw [e6,q3]
     ·rfl
    rcases Nat.eq_zero_or_pos k with rfl | hk0
    ·have hx:∃A c',a.eval x= .slice A 0 c':=by
      rcases hr with ⟨L,c',_,hx,_⟩ | ⟨_,_,hk,hx⟩
      ·exact⟨_,_,hx⟩
      ·exact⟨_,_,hx⟩
     obtain⟨A,c',hx⟩:=hx
     exact stay _ (hrun _ (h00 _ _ hx)) rfl (by simp)
    ·rcases hr with ⟨L,cap,hL,hx,hcap,hkc,hmax⟩ | ⟨_,_,hk,hx⟩
     ·have hes:0<B.es:=by omega
      obtain⟨C,b1,b2,b3,b4⟩:=(hs.hmem m B e6).cells hL fun _ h0 _=>by omega
      obtain⟨i,z,hi,hzv,hzs,hzr,hzp,c7⟩:=(hT et te e5).zeroF c4
      have hV:=qix (ι:=ι) (h:=h) (k:=k) c7 hzs c5 hzr
      rw [c2] at b4 b3
      have hVs:(madeCells z.cells (k*te.size)).size=(List.replicate k (zf te)).length*te.size:=by rw [size_madeCells];simp
      have hin:lo*te.size+(madeCells z.cells (k*te.size)).toList.length≤C.size:=by
       have:=b4.size c5 c1
       rw [Nat.add_mul] at this
       simp only [Array.length_toList,hVs,List.length_replicate]
       exact this
      have hone:∀u∈(madeCells z.cells (k*te.size)).toList,u.oneCell'=true:=by
       intro u hu
       obtain⟨j,hj⟩:=List.getElem?_of_mem hu
       have hjl:j<k*te.size:=by
        have:=qgm hj
        simpa [hVs] using this
       have h1:j / te.size<k:=Nat.div_lt_of_lt_mul (by rw [Nat.mul_comm];exact hjl)
       have h2:j % te.size<te.size:=Nat.mod_lt _ c5
       obtain⟨q1,q2⟩:=hV (j / te.size) (zf te) (by rw [List.getElem?_replicate,if_pos h1])
       obtain⟨u',q3,q4⟩:=q2 (j % te.size) ((zf te)[j % te.size]'(by omega)) (List.getElem?_eq_getElem _)
       rw [Nat.mul_comm (j / te.size),Nat.div_add_mod] at q3
       have:u=u':=by
        have hj':(madeCells z.cells (k*te.size))[j]? =some u:=by simpa using hj
        rw [hj'] at q3
        cases q3;rfl
       subst this
       exact q4.oneCell
      have hst:=run_storeCells_at (P:=P) L.b (lo*te.size) B.ty (madeCells z.cells (k*te.size)).toList 0 C w b1 (by simpa using hin) hone
      refine .inl ⟨_,_,hrun _ ?_,ι,h,Sub.refl h,fun _ _=>rfl,(?_:Sim n w0 M0 _ ι h fr (qb6 mem _) a (w.setRow L.b (C.toList.take (lo*te.size)++(madeCells z.cells (k*te.size)).toList++C.toList.drop (lo*te.size+(madeCells z.cells (k*te.size)).toList.length)).toArray)),hnil,(by intro m hm;simp [Sv.nms,qd] at hm),Nat.le_refl _,fun _ _ _=>rfl⟩
      ·have hst':(storeCells { block:=L.b,off:=lo*te.size,spot:=none } (madeCells z.cells (k*te.size)).toList).run P w=_:=hst
       have hz:Builtin.zeroCells z.cells k=madeCells z.cells (k*te.size):=by unfold Builtin.zeroCells madeCells;rw [hzs]
       have hk1:∀q,k=q+1→True:=fun _ _=>trivial
       obtain⟨k',rfl⟩:∃k',k=k'+1:=⟨k-1,by omega⟩
       simp only [Builtin.clear_,Sem.run_bind]
       simp [e1,e3,qn hD,hx,qfd hi hzv,hz,b3]
       simp at hst'
       rw [hst']
       simp
      ·refine Sim.weak (Sim.write (B':={ B with els:=B.els.take lo++List.replicate k (zf te)++B.els.drop (lo+k) }) hs e6 hfz hL b1 ?_ rfl rfl hfz ?_ (by rw [b3,c2]) ?_ ?_) (fun m hm=> .inl hm)
       ·rw [←b2];simp only [Array.length_toList] at hin;simp;omega
       ·have:=b4.splice (lo:=lo) hV c5 (by simpa using c1) hVs
        rw [List.length_replicate] at this
        rw [←c2] at this ⊢
        exact this
       ·intro m' hm'
        simp only [Blk.nms,List.mem_flatMap] at hm'
        obtain⟨e',he',q,hq,hm'⟩:=hm'
        have old:e'∈B.els→U m':=fun h'=>(hs.hnb m B e6).2 m' (by simp only [Blk.nms,List.mem_flatMap];exact⟨e',h',q,hq,hm'⟩)
        rcases List.mem_append.1 he' with h' | h'
        ·rcases List.mem_append.1 h' with h' | h'
         ·exact old (List.mem_of_mem_take h')
         ·have:=(List.mem_replicate.1 h').2
          subst this
          have:=hzp q hq
          cases q<;>simp [At.pr,At.nm] at this hm'
        ·exact old (List.mem_of_mem_drop h')
       ·intro hp e' he' q hq
        have old:e'∈B.els→q.pr=true:=fun h'=>hs.hpr m B e6 hp e' h' q hq
        rcases List.mem_append.1 he' with h' | h'
        ·rcases List.mem_append.1 h' with h' | h'
         ·exact old (List.mem_of_mem_take h')
         ·have:=(List.mem_replicate.1 h').2
          subst this
          exact hzp q hq
        ·exact old (List.mem_of_mem_drop h')
     ·omega
   ·cases he
  ·cases he
 ·cases he

theorem Sim.persist (hs:Sim n w0 M0 U ι h fr mem a w) {h':Hp} (hg:w.grownBy w' none) (hsub:Sub h h') (hin:∀b o,h' b=some o→w'.heap[b]? =some o) (hold:∀b,b<w.heap.size→h' b=h b):
  Sim n w0 M0 U ι h' fr mem a w':=by
 have hs':=hs.grown hg (fun g hg=>by cases hg)
 refine { hs' with hfr:= ?_,hmem:= ?_,hsub:=hin,hmut:= ?_,hfrz:= ?_ }
 ·intro t v e
  obtain⟨u,e1,e2⟩:=hs.hfr t v e
  exact⟨u,e1,e2.mono hsub fun _ _=>rfl⟩
 ·intro m B e
  exact(hs'.hmem m B e).to rfl (fun _ _=>rfl) hsub fun _ _=>rfl
 ·intro m B L e hz l
  rw [hold _ (hs.hdom m L l).2]
  exact hs.hmut m B L e hz l
 ·intro m B L e hz l
  rw [hold _ (hs.hdom m L l).2]
  exact hs'.hfrz m B L e hz l

theorem qmZ:∀ {els:List (List At)} {bs:List UInt8},qge els=some bs→bs.length=els.length∧∀(i:Nat) (el:List At),els[i]? =some el→∃k:Int,el= [At.int .u8 k]∧bs[i]? =some (UInt8.ofNat k.toNat):=by
 intro els
 induction els with
 | nil=>intro bs h;simp [qge] at h;subst h;simp
 | cons el els ih=>
  intro bs h
  unfold qge at h
  split at h
  ·rename_i hq;cases hq
  ·rename_i k r heq
   cases heq
   simp only [Option.bind_eq_some_iff] at h
   obtain⟨xs,h1,h2⟩:=h
   cases h2
   obtain⟨q1,q2⟩:=ih h1
   refine⟨by simp [q1],fun i el hi=> ?_⟩
   cases i with
   | zero=>simp at hi;subst hi;exact⟨k,rfl,rfl⟩
   | succ i=>simp at hi;simpa using q2 i el hi
  ·cases h

theorem qpv (hT:qbB P c.T) (hs:Sim n w0 M0 U ι h fr mem a w) (hf:∀m,nx≤m→m<e.nn→¬U m) {src dst:TypeId} {x:Operand} (hop:o.op= .convert src dst x) (he:stp c callF o fr mem nx=some e):
  qi P n w0 M0 U ι h fr mem a w nx o e:=by
 simp only [stp,hop,Option.bind_eq_some_iff] at he
 obtain⟨y,e1,he⟩:=he
 obtain⟨hr,hn⟩:=hs.evA e1
 have hrun:∀u w',(convert src dst (a.eval x)).run P w= .ok u w'→(execOp a.eval o).run P w= .ok (.value u) w':=by
  intro u w' hu
  simp [execOp,hop,hu]
 split at he
 ·rename_i et hs1 hd1
  split at he
  ·rename_i het
   simp only [Option.bind_eq_some_iff] at he
   obtain⟨⟨k,els,pr,rd⟩,e2,bs,e3,he⟩:=he
   cases he
   obtain⟨D1,hD1,rfl, -⟩:=qap hT hs1
   obtain⟨D2,hD2,rfl, -⟩:=qap hT hd1
   obtain⟨D3,hD3,rfl, -⟩:=qap hT het
   obtain⟨hkl,hnm,hpr,hsrc⟩:=hs.elsOf (by omega) hr e2
   obtain⟨b1,b2⟩:=qmZ e3
   simp only at b1 b2
   rcases hsrc with ⟨A,c',hx,cells,hcf,hcell⟩ | ⟨hk0,hels,c',hx⟩
   ·have hval:∀i,i<k→∃q:Int,els[i]? =some [At.int .u8 q]∧bs[i]? =some (UInt8.ofNat q.toNat)∧w.cell? (A.add i)=some (.int .u8 q):=by
     intro i hi
     have hel:els[i]? =some els[i]:=List.getElem?_eq_getElem (by omega)
     obtain⟨q,q1,q2⟩:=b2 i _ hel
     obtain⟨_,r2⟩:=hcf.2 i _ hel
     obtain⟨u,r3,r4⟩:=r2 0 (.int .u8 q) (by rw [q1];rfl)
     simp at r3
     have hu:=RP.int_inv' r4
     subst hu
     exact⟨q,by rw [hel,q1],q2,hcell i _ r3⟩
    refine .inl ⟨.string ⟨bs.toArray⟩,w,hrun _ _ ?_,Nxt.val hs (.str _) (by simp [Sv.nms,qd,Vl.cells,At.nm])⟩
    rw [hx]
    rcases Nat.eq_zero_or_pos k with h0 | h0
    ·subst h0
     have hbs:bs= []:=List.eq_nil_of_length_eq_zero (by rw [b1,hkl])
     subst hbs
     simp [convert,qn hD1,qn hD2,qn hD3,Conv.bytesToString,loadCells,loadCellsFrom,ByteArray.empty,ByteArray.emptyWithCapacity]<;>rfl
    ·obtain⟨q0,_,_,hc0⟩:=hval 0 h0
     have hA:∃b off,A=⟨b,off,none⟩:=by
      obtain⟨b,off,spot⟩:=A
      cases spot with
      | none=>exact⟨b,off,rfl⟩
      | some s=>
       simp [Addr.add,World.cell?] at hc0
       split at hc0<;>simp at hc0
     obtain⟨b,off,rfl⟩:=hA
     let xs:List Int:=els.map fun el=>match el with | [At.int _ q]=>q | _=>0
     have hxs:∀i,i<k→∀q,els[i]? =some [At.int .u8 q]→xs.getD i 0=q:=by
      intro i hi q hq
      simp [xs,List.getD_eq_getElem?_getD,hq]
     have:=run_convert_bytes_arg (P:=P) w src et hD1 hD3 b off k c' xs (by simp [xs,hkl]) (fun i hi=>by
      obtain⟨q,r1,r2,r3⟩:=hval i hi
      rw [hxs i hi q r1]
      rw [Addr.add_mid] at r3
      exact r3) dst hD2
     rw [this]
     congr 2
     unfold strOfNums
     congr 1
     apply Array.toList_inj.1
     simp only [List.toList_toArray]
     apply List.ext_getElem?
     intro i
     rcases Nat.lt_or_ge i k with hi | hi
     ·obtain⟨q,r1,r2,_⟩:=hval i hi
      simp [xs,r1,r2]
     ·rw [List.getElem?_eq_none (by simp [xs];omega),List.getElem?_eq_none (by omega)]
   ·subst hk0
    have hbs:bs= []:=List.eq_nil_of_length_eq_zero (by rw [b1,hkl])
    subst hbs
    refine .inl ⟨_,w,hrun _ _ (by rw [hx];exact run_convert_bytes_nil w src et hD1 hD3 0 c' dst hD2),Nxt.val hs (.str _) (by simp [Sv.nms,qd,Vl.cells,At.nm])⟩
  ·cases he
 ·simp only [valA,Option.bind_eq_some_iff] at he
  obtain⟨z,e2,he⟩:=he
  unfold qjE at e2
  split at e2
  ·split at e2
   ·rename_i hs1 hd1
    cases e2
    obtain⟨D1,hD1,rfl, -⟩:=qap hT hs1
    obtain⟨D2,hD2,rfl, -⟩:=qap hT hd1
    have hx:=RP.int_inv' hr
    refine .inl ⟨_,w,hrun _ _ ?_,Nxt.valP hs he (.int _ _)⟩
    rw [hx]
    simp [convert,qn hD1,qn hD2,Conv.intToInt]
   ·cases e2
  ·rename_i s
   have hx:=RP.str_inv hr
   split at e2
   ·rename_i hs1 hd1
    cases e2
    obtain⟨D1,hD1,rfl, -⟩:=qap hT hs1
    obtain⟨D2,hD2,rfl, -⟩:=qap hT hd1
    refine .inl ⟨_,w,hrun _ _ ?_,Nxt.valP hs he (.str _)⟩
    rw [hx]
    simp [convert,qn hD1,qn hD2]
   ·rename_i et hs1 hd1
    split at e2
    ·rename_i het
     cases e2
     obtain⟨D1,hD1,rfl, -⟩:=qap hT hs1
     obtain⟨D2,hD2,rfl, -⟩:=qap hT hd1
     obtain⟨D3,hD3,rfl, -⟩:=qap hT het
     have hrun':=Lib.run_convert_string_bytes (P:=P) w src dst et s hD1 hD2 hD3
     let h':Hp:=fun b=>if b=w.heap.size then(Lib.bytesWorld w et s).heap[b]? else h b
     have hold:∀b,b<w.heap.size→h' b=h b:=fun b hb=>by
      show(if b=w.heap.size then _ else _)=_
      rw [if_neg (by omega)]
     have hsub:Sub h h':=fun b o' e'=>by rw [hold b (hs.hlt e')];exact e'
     have hg:w.grownBy (Lib.bytesWorld w et s) none:=⟨rfl,rfl,rfl,by rw [Lib.bytesWorld_size];omega,fun b hb _=>Lib.bytesWorld_at_old w et s b hb⟩
     have hs':=hs.persist (h':=h') hg hsub (fun b o' e'=>by
      have e'':(if b=w.heap.size then(Lib.bytesWorld w et s).heap[b]? else h b)=some o':=e'
      split at e''
      ·exact e''
      ·rw [Lib.bytesWorld_at_old w et s b (hs.hlt e'')];exact hs.hsub b o' e'') hold
     simp only [val,Option.some.injEq] at he
     subst he
     refine .inl ⟨_,_,hrun _ _ (by rw [hx];exact hrun'),ι,h',hsub,fun _ _=>rfl,hs'.weak fun _ hm=> .inl hm,?_,by simp [Sv.nms,qd,Vl.cells,At.nm],Nat.le_refl _,fun b hb _=>hold b (Nat.lt_of_lt_of_le hb hs.hgrow)⟩
     have hnew:h' w.heap.size=some (.cells (Lib.bytesCells w et s) et ((Lib.bytesCells w et s).size,(Lib.bytesCells w et s).size+1)):=by
      show(if w.heap.size=w.heap.size then _ else _)=_
      rw [if_pos rfl,Lib.bytesWorld_at_new]
     refine .sl (h:=h') s.size _ w.heap.size 0 (grownCap w s.size 0 et) 1 _ et _ (fun i _=> .int .u8 ((s.data.toList.getD i 0).toNat:Int)) hnew (by simp) ?_ ?_ ?_ ?_
     ·simp [grownCap,Question.cut]
     ·intro i el hi
      rw [List.getElem?_map] at hi
      cases hq:s.data.toList[i]? with
      | none=>rw [hq] at hi;cases hi
      | some b=>rw [hq] at hi;simp at hi;subst hi;rfl
     ·intro i el j y hi hj
      rw [List.getElem?_map] at hi
      cases hq:s.data.toList[i]? with
      | none=>rw [hq] at hi;cases hi
      | some b=>
       rw [hq] at hi;simp at hi;subst hi
       have hj0:j=0:=by cases j<;>simp at hj ⊢
       subst hj0
       have hlt:i<s.data.size:=by
        rcases Nat.lt_or_ge i s.data.size with h'' | h''
        ·exact h''
        ·rw [List.getElem?_eq_none (by simpa using h'')] at hq;cases hq
       have hlt':i<s.size:=hlt
       have hq':s.data[i]? =some b:=by simpa using hq
       simp [Lib.bytesCells,Array.getElem?_append,hlt',hq']
     ·intro i el j y hi hj
      rw [List.getElem?_map] at hi
      cases hq:s.data.toList[i]? with
      | none=>rw [hq] at hi;cases hi
      | some b=>
       rw [hq] at hi;simp at hi;subst hi
       cases j with
       | succ j=>simp at hj
       | zero=>
        simp at hj
        subst hj
        rw [List.getD_eq_getElem?_getD,hq]
        exact .int _ _
    ·cases e2
   ·cases e2
  ·cases e2

end
end Go.Proofs.YtlnailgfialgnaaGreatDoor.Am
namespace Go.Proofs.YtlnailgfialgnaaGreatDoor.Am
open Go Go.MapKept Go.RowKit

section
variable {P : Program} {n : Nat} {w0 : World} {M0 : Bool → Nat → Prop} {U : Nat → Prop} {ι : Io} {h h1 : Hp} {fr : List (Nat × Sv)} {mem mem1 : Mem} {a : Act} {w w' : World}
 {c:Cfg} {callF:FuncId→List Vl→List Blk→Option (List Vl×List Blk)} {o:Oper} {nx:Nat} {e:Eff}

theorem qpw (hs:Sim n w0 M0 U ι h fr mem a w) (hf:∀m,nx≤m→m<e.nn→¬U m) {t:TypeId} {r:Option Operand} (hop:o.op= .makeMap t r) (he:stp c callF o fr mem nx=some e):qi P n w0 M0 U ι h fr mem a w nx o e:=by
 simp only [stp,hop] at he
 split at he
 ·rename_i hr
  cases he
  cases r with
  | some r=>simp at hr
  | none=>
   refine .inl ⟨.map (some w.heap.size),w.alloc (.map #[] 0),?_,ι.set nx ⟨w.heap.size,0,0⟩,h,Sub.refl h,fun m hm=>by unfold Io.set;rw [if_neg];rintro rfl;exact hm ⟨Nat.le_refl _,Nat.lt_succ_self _⟩,?_,?_,?_,Nat.le_succ _,fun _ _ _=>rfl⟩
   ·simp [execOp,hop,run_makeMap]
   ·have hset:(ι.set nx ⟨w.heap.size,0,0⟩) nx=some ⟨w.heap.size,0,0⟩:=by simp [Io.set]
    refine(hs.allocO nx (hf nx (Nat.le_refl _) (Nat.lt_succ_self _)) { els:= [],es:=0,ty:=t,pr:=true,fz:=false,ar:=true,mp:= [] } (.map #[] 0) 0 ?_ rfl (fun m hm=>by cases hm) (fun _ e he=>by cases he)).weak fun m hm=>by
     rcases hm with hm | rfl
     ·exact .inl hm
     ·exact .inr ⟨Nat.le_refl _,Nat.lt_succ_self _⟩
    unfold RB
    rw [hset]
    exact .inr ⟨⟨rfl,rfl,rfl⟩,#[],(heap_alloc w _).1,rfl,fun i p hp=>by simp at hp⟩
   ·exact⟨⟨w.heap.size,0,0⟩,by simp [Io.set],rfl,rfl⟩
   ·intro m hm
    simp [Sv.nms,qd,Vl.cells,At.nm] at hm
    subst hm
    exact .inr ⟨Nat.le_refl _,Nat.lt_succ_self _⟩
 ·cases he

theorem qm0 {d:TD} {D:TypeDesc} (hD:qlv P d D) {x:At} {v:Value} (hk:qdY d x=true) (hr:RA ι h x v):IsKey D v∧RP h x v:=by
 unfold qdY at hk
 split at hk
 ·have hr:RP h _ _:=hr
  cases hr
  have hD:D=_:=hD
  subst hD
  exact⟨by simpa [IsKey] using hk,.int _ _⟩
 ·have hr:RP h _ _:=hr
  cases hr
  have hD:D=_:=hD
  subst hD
  exact⟨trivial,.str _⟩
 ·have hr:RP h _ _:=hr
  cases hr
  have hD:D=_:=hD
  subst hD
  exact⟨trivial,.bool _⟩
 ·cases hk
theorem qqQ {d:TD} {x y:At} {u v:Value} (hx:qdY d x=true) (hy:qdY d y=true) (h1:RP h x u) (h2:RP h y v):qjF x y=true↔u=v:=by
 cases d<;>cases x<;>simp [qdY] at hx<;>cases y<;>simp [qdY] at hy<;>cases h1<;>cases h2<;>simp [qjF,ByteArray.ext_iff]
theorem qoO {d:TD} {D:TypeDesc} (hD:qlv P d D) {key:At} {k:Value} (hk:qdY d key=true) (hkr:RP h key k):∀(mp:List (At×At)) (es:List MapEntry) (i:Nat),mp.all (fun p=>qdY d p.1)=true→
  es.length=mp.length→(∀(j:Nat) (p:At×At),mp[j]? =some p→∃x,es[j]? =some x∧RP h p.1 x.key∧RP h p.2 x.val)→
  (qgk mp key=none∧Instr.findNow D k es i=some none)∨∃j v x,qgk mp key=some (j,v)∧es[j]? =some x∧j<mp.length∧Instr.findNow D k es i=some (some (i+j,x.val))∧RP h v x.val∧x.key=k:=by
 intro mp
 induction mp with
 | nil=>
  intro es i _ hl _
  cases es with
  | nil=>exact .inl ⟨rfl,rfl⟩
  | cons x es=>simp at hl
 | cons p mp ih=>
  intro es i ha hl hr
  cases es with
  | nil=>simp at hl
  | cons x es=>
   simp only [List.all_cons,Bool.and_eq_true] at ha
   obtain⟨x',hx',r1,r2⟩:=hr 0 p rfl
   simp at hx'
   subst hx'
   have ik:=(qm0 (ι:=fun _=>none) hD hk (RA.ofRP hkr)).1
   have ip:=(qm0 (ι:=fun _=>none) hD ha.1 (RA.ofRP r1)).1
   obtain⟨b,hb,hbi⟩:=sameNow_of_keys ik ip
   have he:=qqQ hk ha.1 hkr r1
   cases b with
   | true=>
    have hq:=hbi.1 rfl
    refine .inr ⟨0,p.2,x,?_,rfl,by simp,?_,r2,hq.symm⟩
    ·simp only [qgk];rw [if_pos (he.2 hq)]
    ·simp [Instr.findNow,hb]
   | false=>
    have hq:¬k=x.key:=fun e=>by have:=hbi.2 e;cases this
    have hne:¬qjF key p.1=true:=fun e=>hq (he.1 e)
    rcases ih es (i+1) ha.2 (by simpa using hl) (fun j q hj=>hr (j+1) q (by simpa using hj))with ⟨f1,f2⟩ | ⟨j,v,y,f1,f2,f3,f4,f5,f6⟩
    ·refine .inl ⟨?_,?_⟩
     ·simp only [qgk];rw [if_neg hne,f1];rfl
     ·simp [Instr.findNow,hb,f2]
    ·refine .inr ⟨j+1,v,y,?_,by simpa using f2,by simp;omega,?_,f5,f6⟩
     ·simp only [qgk];rw [if_neg hne,f1];rfl
     ·simp [Instr.findNow,hb,f4];omega
theorem qoP (hT:qbB P c.T) (hs:Sim n w0 M0 U ι h fr mem a w) {t:TypeId} {x key:At} {v k:Value} {q:TypeId×Nat×Blk} (e:mapM c.T t mem x key=some q) (hx:RA ι h x v) (hk:RA ι h key k):
  ∃kt d D L es,P.underlying t=some (.map kt q.1)∧P.underlying kt=some D∧qlv P d D∧qk mem q.2.1=some q.2.2∧ι q.2.1=some L∧L.es=0∧v= .map (some L.b)∧w.heap[L.b]? =some (.map es es.size)∧RMs h es.toList q.2.2.mp∧
   qdY d key=true∧q.2.2.mp.all (fun p=>qdY d p.1)=true∧IsKey D k∧RP h key k∧q.2.2.els= []∧q.2.2.es=0:=by
 unfold mapM at e
 split at e
 ·rename_i kt et ht
  simp only [Option.bind_eq_some_iff] at e
  obtain⟨d,e1,e⟩:=e
  split at e
  ·rename_i m
   simp only [Option.bind_eq_some_iff] at e
   obtain⟨B,e2,e⟩:=e
   split at e
   ·rename_i hc
    cases e
    obtain⟨D0,hD0,hD0',_⟩:=qap hT ht
    obtain⟨D,hD,hD',_⟩:=qap hT e1
    obtain⟨L,hL,hv,hL0⟩:=hx
    obtain⟨⟨r1,r2,r3⟩,es,r4,r5⟩:=(hs.hmem m B e2).map hL hL0
    obtain⟨i1,i2⟩:=qm0 hD' hc.1 hk
    have hD0':D0=_:=hD0'
    subst hD0'
    exact⟨kt,d,D,L,es,hD0,hD,hD',e2,hL,hL0,hv,r4,r5,hc.1,hc.2,i1,i2,r1,r2⟩
   ·cases e
  ·cases e
 ·cases e
theorem qqR (hT:qbB P c.T) (hs:Sim n w0 M0 U ι h fr mem a w) {t:TypeId} {x k:Operand} {ok:Bool} (hop:o.op= .lookup t x k ok) (he:stp c callF o fr mem nx=some e):qi P n w0 M0 U ι h fr mem a w nx o e:=by
 simp only [stp,hop,Option.bind_eq_some_iff] at he
 obtain⟨xa,e1,key,e2,q,e3,te,e4,he⟩:=he
 split at he
 ·rename_i hc
  obtain⟨rfl,hagg,hsz,hz⟩:=hc
  simp only [Option.bind_eq_some_iff] at he
  obtain⟨v,e5,he⟩:=he
  cases he
  obtain⟨kt,d,D,L,es,f1,f2,f3,f4,f5,f6,f7,f8,f9,f10,f11,f12,f13,f14,f15⟩:=qoP hT hs e3 (hs.evA e1).1 (hs.evA e2).1
  obtain⟨i0,z,hi,hzv,hzs,hzr,hzp⟩:=(hT q.1 te e4).zero hz
  have hzero:(zeroValue q.1).run P w= .ok z w:=qfd hi hzv w
  rcases qoO f3 f10 f13 q.2.2.mp es.toList 0 f11 f9.1 (fun j p hp=>let ⟨x,y1,_,y3,y4⟩:=f9.2 j p hp;⟨x,y1,y3,y4⟩)with ⟨g1,g2⟩ | ⟨j,v',y,g1,g2,g3,g4,g5,g6⟩
  ·rw [g1] at e5
   obtain⟨u,u1,u2⟩:=hzr h 0 v e5
   have hzu:z=u:=by
    have h1:z.cells.size=1:=by rw [hzs,hsz]
    have hone:=(hT q.1 te e4).zone hagg hsz hz i0 z hi hzv
    have:=qhy hone
    rw [this] at u1
    simpa using u1
   subst hzu
   refine .inl ⟨z,w,?_,Nxt.val hs (RA.ofRP u2) (fun m hm=> ?_)⟩
   ·simp [execOp,hop,f7,Instr.lookup,qn f1,Go.MapKept.run_getObj_map f8,Go.MapKept.run_checkKey f2 f12,Go.MapKept.run_findKey f2 g2,hzero,Result.andThen]
   ·simp only [Sv.nms,qd,Vl.cells,List.flatMap_cons,List.flatMap_nil,List.append_nil,RP.nm u2] at hm;cases hm
  ·rw [g1] at e5
   cases e5
   refine .inl ⟨y.val,w,?_,Nxt.val hs (RA.ofRP g5) (fun m hm=> ?_)⟩
   ·simp [execOp,hop,f7,Instr.lookup,qn f1,Go.MapKept.run_getObj_map f8,Go.MapKept.run_checkKey f2 f12,Go.MapKept.run_findKey f2 g4,hzero,Result.andThen]
   ·simp only [Sv.nms,qd,Vl.cells,List.flatMap_cons,List.flatMap_nil,List.append_nil,RP.nm g5] at hm;cases hm
 ·cases he
theorem qsv {w:World} {b:Nat} {ob o':Obj} (hb:w.heap[b]? =some o'):∀k,({ w with heap:=w.heap.setIfInBounds b ob }:World).heap[k]? =if k=b then some ob else w.heap[k]? :=by
 intro k
 have hlt:b<w.heap.size:=(Array.getElem?_eq_some_iff.1 hb).1
 show(w.heap.setIfInBounds b ob)[k]? =_
 rw [Array.getElem?_setIfInBounds]
 by_cases h:b=k
 ·subst h;simp [hlt]
 ·rw [if_neg h,if_neg (Ne.symm h)]
theorem qqS (hT:qbB P c.T) (hs:Sim n w0 M0 U ι h fr mem a w) {t:TypeId} {x k y:Operand} {xa key v:At} {q:TypeId×Nat×Blk}
  (hrun:∀r w',(Instr.mapUpdate t (a.eval x) (a.eval k) (a.eval y)).run P w= .ok r w'→(execOp a.eval o).run P w= .ok .skip w')
  (e1:evA fr x=some xa) (e2:evA fr k=some key) (e3:evA fr y=some v) (e4:mapM c.T t mem xa key=some q) (hp:v.pr=true) (hz:q.2.2.fz=false):
  qi P n w0 M0 U ι h fr mem a w nx o { v:= .u,upd:= [(q.2.1,some { q.2.2 with mp:=qhw q.2.2.mp key v })],nn:=nx,rd:= [q.2.1] }:=by
 obtain⟨kt,d,D,L,es,f1,f2,f3,f4,f5,f6,f7,f8,f9,f10,f11,f12,f13,f14,f15⟩:=qoP hT hs e4 (hs.evA e1).1 (hs.evA e2).1
 have hv:=RA.toRP hp (hs.evA e3).1
 have fin:∀es':Array MapEntry,es'.size=es'.size→RMs h es'.toList (qhw q.2.2.mp key v)→(Instr.mapUpdate t (a.eval x) (a.eval k) (a.eval y)).run P w= .ok () { w with heap:=w.heap.setIfInBounds L.b (.map es' es'.size) }→
   qi P n w0 M0 U ι h fr mem a w nx o { v:= .u,upd:= [(q.2.1,some { q.2.2 with mp:=qhw q.2.2.mp key v })],nn:=nx,rd:= [q.2.1] }:=by
  intro es' _ hr hru
  have hheap:=qsv (ob:= .map es' es'.size) f8
  refine .inr ⟨_,hrun _ _ hru,ι,h,Sub.refl h,fun _ _=>rfl,(?_:Sim n w0 M0 _ ι h fr (qb6 mem _) a _),rfl,(fun m hm=>by cases hm),Nat.le_refl _,fun _ _ _=>rfl⟩
  refine Sim.weak (U:=U) (hs.writeO (B':={ q.2.2 with mp:=qhw q.2.2.mp key v }) f4 hz f5 hheap (by simp) rfl rfl rfl hz ?_ (fun m' hm'=>(hs.hnb _ _ f4).2 m' hm') (show q.2.2.pr=true→∀e∈q.2.2.els,∀x∈e,x.pr=true from hs.hpr _ _ f4)) (fun m hm=> .inl hm)
  unfold RB
  rw [f5]
  exact .inr ⟨⟨f14,f15,f6⟩,es',by rw [hheap,if_pos rfl],hr⟩
 have hlen:es.size=q.2.2.mp.length:=by simpa using f9.1
 rcases qoO f3 f10 f13 q.2.2.mp es.toList 0 f11 f9.1 (fun j p hp=>let ⟨x,y1,_,y3,y4⟩:=f9.2 j p hp;⟨x,y1,y3,y4⟩)with ⟨g1,g2⟩ | ⟨j,v',y',g1,g2,g3,g4,g5,g6⟩
 ·refine fin (es.push { key:=a.eval k,val:=a.eval y,born:=es.size }) rfl ?_ ?_
  ·unfold qhw
   rw [g1]
   refine⟨by simp [hlen],fun i p hi=> ?_⟩
   rw [List.getElem?_append] at hi
   split at hi
   ·rename_i hlt
    obtain⟨z,z1,z2⟩:=f9.2 i p hi
    refine⟨z,?_,z2⟩
    have hi':i<es.size:=by omega
    rw [Array.toList_push,List.getElem?_append_left (by simpa using hi')]
    exact z1
   ·rename_i hge
    have hi0:i-q.2.2.mp.length=0:=by
     have:=(List.getElem?_eq_some_iff.1 hi).1
     simp at this;omega
    rw [hi0] at hi
    cases hi
    refine⟨{ key:=a.eval k,val:=a.eval y,born:=es.size },?_,?_,f13,hv⟩
    ·rw [Array.toList_push,List.getElem?_append_right (by simp;omega)]
     rw [show i-es.toList.length=0 by simp;omega];rfl
    ·show es.size=i;omega
  ·simp [f7,Instr.mapUpdate,qn f1,Go.MapKept.run_getObj_map f8,Go.MapKept.run_checkKey f2 f12,Go.MapKept.run_findKey f2 g2,Go.MapKept.run_setObj_map _ f8,Result.andThen]
 ·refine fin (es.modify j fun e=>{ e with key:=a.eval k,val:=a.eval y }) rfl ?_ ?_
  ·unfold qhw
   rw [g1]
   refine⟨by simp [hlen],fun i p hi=> ?_⟩
   rw [List.getElem?_set] at hi
   by_cases hij:j=i
   ·subst hij
    rw [if_pos rfl,if_pos g3] at hi
    cases hi
    have hmp:∃p0,q.2.2.mp[j]? =some p0:=⟨_,List.getElem?_eq_getElem g3⟩
    obtain⟨p0,hp0⟩:=hmp
    obtain⟨z,z1,z2,_⟩:=f9.2 j p0 hp0
    refine⟨{ z with key:=a.eval k,val:=a.eval y },?_,z2,f13,hv⟩
    have z1':es[j]? =some z:=by simpa using z1
    simp [Array.getElem?_modify,z1']
   ·rw [if_neg hij] at hi
    obtain⟨z,z1,z2⟩:=f9.2 i p hi
    refine⟨z,?_,z2⟩
    have z1':es[i]? =some z:=by simpa using z1
    simp [Array.getElem?_modify,z1',hij]
  ·have g2':es[j]? =some y':=by simpa using g2
   have hsz:(es.modify j fun e=>{ e with key:=a.eval k,val:=a.eval y }).size=es.size:=by simp
   rw [hsz]
   have g4':Instr.findNow D (a.eval k) es.toList 0=some (some (j,y'.val)):=by simpa using g4
   simp [f7,Instr.mapUpdate,qn f1,Go.MapKept.run_getObj_map f8,Go.MapKept.run_checkKey f2 f12,Go.MapKept.run_findKey f2 g4',g2',g6,Go.MapKept.run_keyThatStays f12,Go.MapKept.run_setObj_map _ f8,Result.andThen]
theorem qm1 (hT:qbB P c.T) (hs:Sim n w0 M0 U ι h fr mem a w) {t:TypeId} {x k y:Operand} (hop:o.op= .mapUpdate t x k y) (he:stp c callF o fr mem nx=some e):qi P n w0 M0 U ι h fr mem a w nx o e:=by
 simp only [stp,hop,Option.bind_eq_some_iff] at he
 obtain⟨xa,e1,key,e2,v,e3,q,e4,he⟩:=he
 split at he
 ·rename_i hc
  cases he
  exact qqS hT hs (fun r w' hr=>by simp [execOp,hop,hr]) e1 e2 e3 e4 hc.1 (by simpa using hc.2)
 ·cases he
theorem qqT (hT:qbB P c.T) (hs:Sim n w0 M0 U ι h fr mem a w) {t:TypeId} {x k y:Operand} (hop:o.op= .insert t x k y) (he:stp c callF o fr mem nx=some e):qi P n w0 M0 U ι h fr mem a w nx o e:=by
 simp only [stp,hop,Option.bind_eq_some_iff] at he
 obtain⟨xa,e1,key,e2,v,e3,q,e4,he⟩:=he
 split at he
 ·rename_i hc
  cases he
  exact qqS hT hs (fun r w' hr=>by simp [execOp,hop,hr]) e1 e2 e3 e4 hc.1 (by simpa using hc.2)
 ·cases he
end
end Go.Proofs.YtlnailgfialgnaaGreatDoor.Am
namespace Go.Proofs.YtlnailgfialgnaaGreatDoor.Am
open Go

theorem qfW:∀ {N:List Nat} {m j:Nat},idx N m=some j→N[j]? =some m:=by
 intro N
 induction N with
 | nil=>intro m j e;cases e
 | cons k N ih=>
  intro m j e
  simp only [idx] at e
  split at e
  ·rename_i hk;cases e;subst hk;rfl
  ·simp only [Option.bind_eq_some_iff] at e
   obtain⟨i,e1,e2⟩:=e
   cases e2
   simpa using ih e1

theorem qje (ns:Nat→List Nat):∀(k:Nat) (ms acc:List Nat),acc.Nodup→(clo ns k ms acc).Nodup:=by
 intro k
 induction k with
 | zero=>intro ms acc h;exact h
 | succ k ih=>
  intro ms acc h
  cases ms with
  | nil=>exact h
  | cons m ms=>
   simp only [clo]
   split
   ·exact ih _ _ h
   ·rename_i hc
    refine ih _ _ ?_
    rw [List.nodup_append]
    refine⟨h,by simp,?_⟩
    intro x hx y hy hxy
    simp at hy
    subst hy
    subst hxy
    exact hc (by simpa using hx)

section
variable {ι ι' : Io} {h : Hp} {ρ : Nat → Option Nat}

theorem RA.ren {x y:At} {v:Value} (hr:RA ι h x v) (e:qdS ρ x=some y) (hρ:∀m m',ρ m=some m'→ι' m'=ι m):RA ι' h y v:=by
 cases x with
 | ptr m i o=>
  simp only [qdS,Option.bind_eq_some_iff] at e
  obtain⟨m',e1,e2⟩:=e
  cases e2
  obtain⟨L,hL,hv⟩:=hr
  exact⟨L,by rw [hρ m m' e1];exact hL,hv⟩
 | sm m lo n=>
  simp only [qdS,Option.bind_eq_some_iff] at e
  obtain⟨m',e1,e2⟩:=e
  cases e2
  rcases hr with ⟨L,c,hL,r⟩ | ⟨hL,r⟩
  ·exact .inl ⟨L,c,by rw [hρ m m' e1];exact hL,r⟩
  ·exact .inr ⟨by rw [hρ m m' e1];exact hL,r⟩
 | mp m=>
  simp only [qdS,Option.bind_eq_some_iff] at e
  obtain⟨m',e1,e2⟩:=e
  cases e2
  obtain⟨L,hL,hv⟩:=hr
  exact⟨L,by rw [hρ m m' e1];exact hL,hv⟩
 | _=>cases e;exact hr
theorem qlx {x y:At} (e:qdS ρ x=some y):∀m'∈y.nm,∃m∈x.nm,ρ m=some m':=by
 cases x with
 | ptr m i o=>
  simp only [qdS,Option.bind_eq_some_iff] at e
  obtain⟨m',e1,e2⟩:=e
  cases e2
  intro q hq
  simp [At.nm] at hq
  subst hq
  exact⟨m,by simp [At.nm],e1⟩
 | sm m lo n=>
  simp only [qdS,Option.bind_eq_some_iff] at e
  obtain⟨m',e1,e2⟩:=e
  cases e2
  intro q hq
  simp [At.nm] at hq
  subst hq
  exact⟨m,by simp [At.nm],e1⟩
 | mp m=>
  simp only [qdS,Option.bind_eq_some_iff] at e
  obtain⟨m',e1,e2⟩:=e
  cases e2
  intro q hq
  simp [At.nm] at hq
  subst hq
  exact⟨m,by simp [At.nm],e1⟩
 | _=>cases e;intro q hq;simp [At.nm] at hq
theorem RL.ren {cs ds:List At} {us:List Value} (hr:RL ι h cs us) (e:qo (qdS ρ) cs=some ds) (hρ:∀m m',ρ m=some m'→ι' m'=ι m):RL ι' h ds us:=by
 obtain⟨e1,_⟩:=qbj e
 refine⟨by rw [e1];exact hr.1,fun j y hy=> ?_⟩
 obtain⟨x,hx,hxy⟩:=qt e j y hy
 obtain⟨u,hu,hr'⟩:=hr.2 j x hx
 exact⟨u,hu,hr'.ren hxy hρ⟩
theorem RV.ren {x y:Vl} {v:Value} (hr:RV ι h x v) (e:qeF ρ x=some y) (hρ:∀m m',ρ m=some m'→ι' m'=ι m):RV ι' h y v:=by
 cases x with
 | a x=>
  simp only [qeF,Option.bind_eq_some_iff] at e
  obtain⟨y',e1,e2⟩:=e
  cases e2
  exact RA.ren hr e1 hρ
 | g cs=>
  simp only [qeF,Option.bind_eq_some_iff] at e
  obtain⟨ds,e1,e2⟩:=e
  cases e2
  obtain⟨A,hv,hl⟩:=hr
  exact⟨A,hv,hl.ren e1 hρ⟩
theorem qoQ {x y:Vl} (e:qeF ρ x=some y):∀m'∈qd [y],∃m∈qd [x],ρ m=some m':=by
 cases x with
 | a x=>
  simp only [qeF,Option.bind_eq_some_iff] at e
  obtain⟨y',e1,e2⟩:=e
  cases e2
  intro q hq
  simpa [qd,Vl.cells] using qlx e1 q (by simpa [qd,Vl.cells] using hq)
 | g cs=>
  simp only [qeF,Option.bind_eq_some_iff] at e
  obtain⟨ds,e1,e2⟩:=e
  cases e2
  intro q hq
  simp only [qd,Vl.cells,List.flatMap_cons,List.flatMap_nil,List.append_nil,List.mem_flatMap] at hq ⊢
  obtain⟨y,hy,hq⟩:=hq
  obtain⟨j,hj⟩:=List.getElem?_of_mem hy
  obtain⟨x,hx,hxy⟩:=qt e1 j y hj
  obtain⟨m,hm,hρ⟩:=qlx hxy q hq
  exact⟨m,⟨x,List.mem_of_getElem? hx,hm⟩,hρ⟩
theorem RVs.ren {xs ys:List Vl} {vs:List Value} (hr:RVs ι h xs vs) (e:qo (qeF ρ) xs=some ys) (hρ:∀m m',ρ m=some m'→ι' m'=ι m):RVs ι' h ys vs:=by
 obtain⟨e1,_⟩:=qbj e
 refine⟨by rw [e1];exact hr.1,fun j y hy=> ?_⟩
 obtain⟨x,hx,hxy⟩:=qt e j y hy
 obtain⟨u,hu,hr'⟩:=hr.2 j x hx
 exact⟨u,hu,hr'.ren hxy hρ⟩
theorem qaW {xs:List Vl} {m:Nat}:m∈qd xs↔∃x∈xs,m∈qd [x]:=by
 simp [qd]
theorem qeW {xs ys:List Vl} (e:qo (qeF ρ) xs=some ys):∀m'∈qd ys,∃m∈qd xs,ρ m=some m':=by
 intro q hq
 rw [qaW] at hq
 obtain⟨y,hy,hq⟩:=hq
 obtain⟨j,hj⟩:=List.getElem?_of_mem hy
 obtain⟨x,hx,hxy⟩:=qt e j y hj
 obtain⟨m,hm,hρ⟩:=qoQ hxy q hq
 exact⟨m,qaW.2 ⟨x,List.mem_of_getElem? hx,hm⟩,hρ⟩
theorem RBs.ren {C:Array Value} {es:Nat} {els fls:List (List At)} (hr:RBs ι h C es els) (e:qo (qo (qdS ρ)) els=some fls) (hρ:∀m m',ρ m=some m'→ι' m'=ι m):RBs ι' h C es fls:=by
 intro i el hi
 obtain⟨el',hi',he'⟩:=qt e i el hi
 obtain⟨q1,q2⟩:=hr i el' hi'
 refine⟨by rw [(qbj he').1];exact q1,fun j y hy=> ?_⟩
 obtain⟨x,hx,hxy⟩:=qt he' j y hy
 obtain⟨u,hu,hr'⟩:=q2 j x hx
 exact⟨u,hu,hr'.ren hxy hρ⟩
theorem qca {b b':Blk} (e:qdJ ρ b=some b') (hp:b.pr=true→∀e∈b.els,∀x∈e,x.pr=true):
  b'.es=b.es∧b'.ty=b.ty∧b'.pr=b.pr∧b'.fz=b.fz∧(b'.els= []↔b.els= [])∧(∀m'∈b'.nms,∃m∈b.nms,ρ m=some m')∧(b'.pr=true→∀e∈b'.els,∀x∈e,x.pr=true)∧
  (∀ {ι ι':Io} {h:Hp} {C:Array Value},RBs ι h C b.es b.els→(∀m m',ρ m=some m'→ι' m'=ι m)→RBs ι' h C b'.es b'.els):=by
 unfold qdJ at e
 split at e
 ·rename_i hq
  cases e
  refine⟨rfl,rfl,rfl,rfl,Iff.rfl,?_,hp,?_⟩
  ·intro m hm
   simp only [Blk.nms,List.mem_flatMap] at hm
   obtain⟨e,he,x,hx,hm⟩:=hm
   have:=hp hq e he x hx
   cases x<;>simp [At.pr,At.nm] at this hm
  ·intro ι ι' h C hr hρ i el hi
   obtain⟨q1,q2⟩:=hr i el hi
   refine⟨q1,fun j x hx=> ?_⟩
   obtain⟨u,q3,q4⟩:=q2 j x hx
   exact⟨u,q3,RA.ofRP (RA.toRP (hp hq el (List.mem_of_getElem? hi) x (List.mem_of_getElem? hx)) q4)⟩
 ·rename_i hq
  simp only [Option.bind_eq_some_iff] at e
  obtain⟨els,e1,e2⟩:=e
  cases e2
  refine⟨rfl,rfl,rfl,rfl,?_,?_,?_,fun hr hρ=>hr.ren e1 hρ⟩
  ·have:=(qbj e1).1
   constructor
   ·intro h0
    have h0:els= []:=h0
    rw [h0] at this
    exact List.eq_nil_of_length_eq_zero this.symm
   ·intro h0
    rw [h0] at this
    exact List.eq_nil_of_length_eq_zero this
  ·intro m' hm'
   simp only [Blk.nms,List.mem_flatMap] at hm'
   obtain⟨e,he,y,hy,hm'⟩:=hm'
   obtain⟨i,hi⟩:=List.getElem?_of_mem he
   obtain⟨e',hi',he'⟩:=qt e1 i e hi
   obtain⟨j,hj⟩:=List.getElem?_of_mem hy
   obtain⟨x,hx,hxy⟩:=qt he' j y hj
   obtain⟨m,hm,hρ⟩:=qlx hxy m' hm'
   exact⟨m,by simp only [Blk.nms,List.mem_flatMap];exact⟨e',List.mem_of_getElem? hi',x,List.mem_of_getElem? hx,hm⟩,hρ⟩
  ·intro hp'
   exact absurd hp' hq
end

theorem qly {ρ:Nat→Option Nat} {b b':Blk} (e:qdJ ρ b=some b'):b'.mp=b.mp:=by
 unfold qdJ at e
 split at e
 ·cases e;rfl
 ·simp only [Option.bind_eq_some_iff] at e
  obtain⟨els,_,e⟩:=e
  cases e;rfl
structure Mm (ι:Io) (h:Hp) (w:World) (bs:List Blk):Prop where
 rb:∀(i:Nat) (B:Blk),bs[i]? =some B→RB ι h w i B
 nm:∀(i:Nat) (B:Blk),bs[i]? =some B→∀m∈B.nms,m<bs.length
 inj:∀(i j:Nat) (B B':Blk) (L L':Loc),bs[i]? =some B→bs[j]? =some B'→ι i=some L→ι j=some L'→L.b=L'.b→i=j
 sub:∀b o,h b=some o→w.heap[b]? =some o
 mut':∀(i:Nat) (B:Blk) (L:Loc),bs[i]? =some B→B.fz=false→ι i=some L→h L.b=none
 frz:∀(i:Nat) (B:Blk) (L:Loc),bs[i]? =some B→B.fz=true→ι i=some L→h L.b=w.heap[L.b]?
 dom:∀(i:Nat) (B:Blk) (L:Loc),bs[i]? =some B→ι i=some L→L.b<w.heap.size
 pr:∀(i:Nat) (B:Blk),bs[i]? =some B→B.pr=true→∀e∈B.els,∀x∈e,x.pr=true

def qh5 (ι:Io) (bs:List Blk) (b:Nat):Prop:=∃(i:Nat) (B:Blk) (L:Loc),bs[i]? =some B∧B.fz=false∧ι i=some L∧L.b=b

structure Post (ι:Io) (h:Hp) (w:World) (blks:List Blk) (rs:List Vl) (bs:List Blk) (us:List Value) (w':World) (ι':Io) (h':Hp):Prop where
 rv:RVs ι' h' rs us
 rn:∀m∈qd rs,m<bs.length
 sub:Sub h h'
 len:blks.length≤bs.length
 same:∀i,i<blks.length→ι' i=ι i
 mm:Mm ι' h' w' bs
 own:∀(i:Nat) (B:Blk) (L:Loc),bs[i]? =some B→B.fz=false→ι' i=some L→w.heap.size≤L.b∨qh5 ι blks L.b
 own2:∀(i:Nat) (B:Blk) (L:Loc),bs[i]? =some B→ι' i=some L→w.heap.size≤L.b∨∃(j:Nat) (B0:Blk) (L0:Loc),blks[j]? =some B0∧ι j=some L0∧L0.b=L.b
 frame:∀b,b<w.heap.size→¬qh5 ι blks b→w'.heap[b]? =w.heap[b]?
 view:∀b,b<w.heap.size→¬qh5 ι blks b→h' b=h b
 grow:w.heap.size≤w'.heap.size
 os:w'.os=w.os
 tape:w'.tape=w.tape
 output:w'.output=w.output

def qfQ (us:Array Value):Value:=if h:us.size=1 then us[0] else .tuple us

def qg2 (P:Program) (f:FuncId):Prop:=∃fn,P.funcs[f]? =some fn∧(fn.name == "runtime.NumGoroutine")=false∧fn.body.isNone=false

def qg3 (P:Program) (callF:FuncId→List Vl→List Blk→Option (List Vl×List Blk)):Prop:=
 ∀f args blks rs bs,callF f args blks=some (rs,bs)→qg2 P f∧∀(w:World) (ι:Io) (h:Hp) (vals:Array Value),
  RVs ι h args vals.toList→(∀m∈qd args,m<blks.length)→Mm ι h w blks→
  Calls P f vals w fun e w'=>∃(us:Array Value) (ι':Io) (h':Hp),e= .returned (qfQ us)∧Post ι h w blks rs bs us.toList w' ι' h'


section
variable {P : Program} {n : Nat} {w0 : World} {M0 : Bool → Nat → Prop} {U : Nat → Prop} {ι : Io} {h h1 : Hp} {fr : List (Nat × Sv)} {mem mem1 : Mem} {a : Act} {w w' : World}
 {c:Cfg} {callF:FuncId→List Vl→List Blk→Option (List Vl×List Blk)} {o:Oper} {nx:Nat} {e:Eff}

theorem qj6 (hs:Sim n w0 M0 U ι h fr mem a w) (hsub:Sub h h1) {xs ys:List Vl} {vs:List Value} (hv:Vw ι mem w h1 (qfo xs)) (hr:RVs ι h xs vs) (e:qo (qeE mem) xs=some ys):
  RVs ι h1 ys vs∧(∀m∈qd ys,m∈qd xs):=by
 obtain⟨e1,_⟩:=qbj e
 constructor
 ·refine⟨by rw [e1];exact hr.1,fun j y hy=> ?_⟩
  obtain⟨x,hx,hxy⟩:=qt e j y hy
  obtain⟨u,hu,hr'⟩:=hr.2 j x hx
  exact⟨u,hu,(qiw hs hsub (fun m hm=>hv m (List.mem_flatMap.2 ⟨x,List.mem_of_getElem? hx,hm⟩)) hr' hxy).1⟩
 ·intro m hm
  obtain⟨y,hy,hm⟩:=qaW.1 hm
  obtain⟨j,hj⟩:=List.getElem?_of_mem hy
  obtain⟨x,hx,hxy⟩:=qt e j y hj
  obtain⟨u,hu,hr'⟩:=hr.2 j x hx
  have:=(qiw hs hsub (fun m hm=>hv m (List.mem_flatMap.2 ⟨x,List.mem_of_getElem? hx,hm⟩)) hr' hxy).2 m hm
  refine qaW.2 ⟨x,List.mem_of_getElem? hx,?_⟩
  obtain⟨z,hz,hm'⟩:=List.mem_flatMap.1 this
  simp only [qd,List.flatMap_cons,List.flatMap_nil,List.append_nil,List.mem_flatMap]
  refine⟨z,hz,?_⟩
  cases z<;>simp [At.ptrs] at hm' ⊢ <;>simp [At.nm,hm']

theorem qfe (hs:Sim n w0 M0 U ι h fr mem a w) (hs1:Sim n w0 M0 U ι h1 fr mem1 a w) (hz:Fzn mem mem1) (hsub:Sub h h1) {cv:Bool} {m:Nat} (hv:cv=false→Vw ι mem w h1 (qd3 mem m)) {b b2:Blk}
  (e1:qk mem1 m=some b) (e2:(if cv then some b else qgi mem b)=some b2):
  b2.es=b.es∧b2.ty=b.ty∧b2.fz=b.fz∧(b2.els= []↔b.els= [])∧(∀m'∈b2.nms,m'∈b.nms)∧(b2.pr=true→∀e∈b2.els,∀x∈e,x.pr=true)∧RB ι h1 w m b2:=by
 obtain⟨B0,f1,f2,f3,f4,f5,f6⟩:=hz.of e1
 have hb0:=hs.hmem m B0 f1
 have hb1:=hs1.hmem m b e1
 have same:b2=b→b2.es=b.es∧b2.ty=b.ty∧b2.fz=b.fz∧(b2.els= []↔b.els= [])∧(∀m'∈b2.nms,m'∈b.nms)∧(b2.pr=true→∀e∈b2.els,∀x∈e,x.pr=true)∧RB ι h1 w m b2:=by
  rintro rfl
  exact⟨rfl,rfl,rfl,Iff.rfl,fun _ hm=>hm,hs1.hpr m b2 e1,hb1⟩
 split at e2
 ·cases e2;exact same rfl
 ·rename_i hcv
  have hcv:cv=false:=by simpa using hcv
  unfold qgi at e2
  split at e2
  ·cases e2;exact same rfl
  ·rename_i hp
   simp only [Option.bind_eq_some_iff] at e2
   obtain⟨els,g1,g2⟩:=e2
   cases g2
   have hl:=(qbj g1).1
   have hnil:els= []↔b.els= []:=by
    constructor
    ·intro h0
     rw [h0] at hl
     exact List.eq_nil_of_length_eq_zero hl.symm
    ·intro h0
     rw [h0] at hl
     exact List.eq_nil_of_length_eq_zero hl
   refine⟨rfl,rfl,rfl,hnil,?_,fun hq=>absurd hq hp,?_⟩
   ·intro m' hm'
    simp only [Blk.nms,List.mem_flatMap] at hm' ⊢
    obtain⟨e,he,y,hy,hm'⟩:=hm'
    obtain⟨i,hi⟩:=List.getElem?_of_mem he
    obtain⟨e',hi',he'⟩:=qt g1 i e hi
    obtain⟨j,hj⟩:=List.getElem?_of_mem hy
    obtain⟨x,hx,hxy⟩:=qt he' j y hj
    exact⟨e',List.mem_of_getElem? hi',x,List.mem_of_getElem? hx,qlw (qlQ hxy m' hm')⟩
   ·refine hb0.re rfl (fun _ _=>rfl) hsub f3 f4 (show b.mp=B0.mp from hz.mp e1 f1) (fun h0=>hnil.2 (by rw [f2];exact h0)) fun C q4=> ?_
    rw [f2] at g1
    refine qj4 hs hsub ?_ q4 g1
    have:=hv hcv
    unfold qd3 at this
    rw [f1] at this
    simp only [←f5] at this
    rw [if_neg hp] at this
    exact this

theorem qiy (hs:Sim n w0 M0 U ι h fr mem a w) (hs1:Sim n w0 M0 U ι h1 fr mem1 a w) (hz:Fzn mem mem1) (hsub:Sub h h1) {cv:Bool} {N:List Nat} (hN:N.Nodup) (hv:cv=false→Vw ι mem w h1 (N.flatMap (qd3 mem)))
  {bs:List Blk} (e:qo (fun m=>(qk mem1 m).bind fun b=>(if cv then some b else qgi mem b).bind (qdJ (idx N))) N=some bs):
  Mm (fun j=>(N[j]?).bind ι) h1 w bs∧bs.length=N.length∧
  (∀(i:Nat) (B:Blk),bs[i]? =some B→∃m B1,N[i]? =some m∧qk mem1 m=some B1∧B.fz=B1.fz):=by
 have hlen:=(qbj e).1
 have key:∀(i:Nat) (B:Blk),bs[i]? =some B→∃m B1 b2,N[i]? =some m∧qk mem1 m=some B1∧(if cv then some B1 else qgi mem B1)=some b2∧qdJ (idx N) b2=some B:=by
  intro i B hi
  obtain⟨m,hm,e1⟩:=qt e i B hi
  simp only [Option.bind_eq_some_iff] at e1
  obtain⟨B1,e1,b2,e2,e3⟩:=e1
  exact⟨m,B1,b2,hm,e1,e2,e3⟩
 have hρ:∀m m',idx N m=some m'→(fun j=>(N[j]?).bind ι) m'=ι m:=by
  intro m m' hq
  simp [qfW hq]
 have hvm:∀m∈N,cv=false→Vw ι mem w h1 (qd3 mem m):=fun m hm hc m' hm'=>hv hc m' (List.mem_flatMap.2 ⟨m,hm,hm'⟩)
 refine⟨⟨?_,?_,?_,hs1.hsub,?_,?_,?_,?_⟩,hlen,?_⟩
 ·intro i B hi
  obtain⟨m,B1,b2,k1,k2,k3,k4⟩:=key i B hi
  obtain⟨c1,c2,c3,c4,c5,c6,c7⟩:=qfe hs hs1 hz hsub (hvm m (List.mem_of_getElem? k1)) k2 k3
  obtain⟨d1,d2,d3,d4,d5,d6,d7,d8⟩:=qca k4 c6
  exact c7.re (by simp only [k1,Option.bind_some]) (fun _ _=>rfl) (Sub.refl h1) d1 d2 (qly k4) d5.2 fun C q4=>by rw [←d1];exact d8 q4 hρ
 ·intro i B hi m' hm'
  obtain⟨m,B1,b2,k1,k2,k3,k4⟩:=key i B hi
  obtain⟨c1,c2,c3,c4,c5,c6,c7⟩:=qfe hs hs1 hz hsub (hvm m (List.mem_of_getElem? k1)) k2 k3
  obtain⟨d1,d2,d3,d4,d5,d6,d7,d8⟩:=qca k4 c6
  obtain⟨q,_,hq⟩:=d6 m' hm'
  have:=qfW hq
  rw [hlen]
  rcases Nat.lt_or_ge m' N.length with h' | h'
  ·exact h'
  ·rw [List.getElem?_eq_none (by omega)] at this;cases this
 ·intro i j B B' L L' hi hj l l' hq
  obtain⟨m,B1,b2,k1,k2,k3,k4⟩:=key i B hi
  obtain⟨m',B1',b2',k1',k2',k3',k4'⟩:=key j B' hj
  simp only [k1,k1',Option.bind_some] at l l'
  have:=hs1.hinj m m' B1 B1' L L' k2 k2' l l' hq
  subst this
  exact(List.getElem?_inj (by
   rcases Nat.lt_or_ge i N.length with h' | h'
   ·exact h'
   ·rw [List.getElem?_eq_none (by omega)] at k1;cases k1) hN).1 (by rw [k1,k1'])
 ·intro i B L hi hf l
  obtain⟨m,B1,b2,k1,k2,k3,k4⟩:=key i B hi
  obtain⟨c1,c2,c3,c4,c5,c6,c7⟩:=qfe hs hs1 hz hsub (hvm m (List.mem_of_getElem? k1)) k2 k3
  obtain⟨d1,d2,d3,d4,d5,d6,d7,d8⟩:=qca k4 c6
  simp only [k1,Option.bind_some] at l
  exact hs1.hmut m B1 L k2 (by rw [←c3,←d4];exact hf) l
 ·intro i B L hi hf l
  obtain⟨m,B1,b2,k1,k2,k3,k4⟩:=key i B hi
  obtain⟨c1,c2,c3,c4,c5,c6,c7⟩:=qfe hs hs1 hz hsub (hvm m (List.mem_of_getElem? k1)) k2 k3
  obtain⟨d1,d2,d3,d4,d5,d6,d7,d8⟩:=qca k4 c6
  simp only [k1,Option.bind_some] at l
  exact hs1.hfrz m B1 L k2 (by rw [←c3,←d4];exact hf) l
 ·intro i B L hi l
  obtain⟨m,B1,b2,k1,k2,k3,k4⟩:=key i B hi
  simp only [k1,Option.bind_some] at l
  exact(hs1.hdom m L l).2
 ·intro i B hi hp
  obtain⟨m,B1,b2,k1,k2,k3,k4⟩:=key i B hi
  obtain⟨c1,c2,c3,c4,c5,c6,c7⟩:=qfe hs hs1 hz hsub (hvm m (List.mem_of_getElem? k1)) k2 k3
  exact(qca k4 c6).2.2.2.2.2.2.1 hp
 ·intro i B hi
  obtain⟨m,B1,b2,k1,k2,k3,k4⟩:=key i B hi
  obtain⟨c1,c2,c3,c4,c5,c6,c7⟩:=qfe hs hs1 hz hsub (hvm m (List.mem_of_getElem? k1)) k2 k3
  obtain⟨d1,d2,d3,d4,d5,d6,d7,d8⟩:=qca k4 c6
  exact⟨m,B1,k1,k2,by rw [d4,c3]⟩

end

theorem qjJ {α:Type}:∀(l:List α) (n j:Nat),(cnt n l)[j]? =if j<l.length then some (n+j)else none:=by
 intro l
 induction l with
 | nil=>intro n j;simp [cnt]
 | cons x l ih=>
  intro n j
  cases j with
  | zero=>simp [cnt]
  | succ j=>
   simp only [cnt,List.getElem?_cons_succ,ih,List.length_cons]
   by_cases h:j<l.length
   ·rw [if_pos h,if_pos (by omega)];congr 1;omega
   ·rw [if_neg h,if_neg (by omega)]
theorem qkT {α:Type}:∀(l:List α) (n:Nat),(cnt n l).length=l.length:=by
 intro l
 induction l with
 | nil=>intro n;rfl
 | cons x l ih=>intro n;simp [cnt,ih]

theorem quN {α:Type} {l:List α} {n m:Nat} (h:m∈cnt n l):n≤m:=by
 obtain⟨j,hj⟩:=List.getElem?_of_mem h
 rw [qjJ] at hj
 split at hj
 ·cases hj;omega
 ·cases hj
theorem qjf {α:Type}:∀(l:List α) (n:Nat),(cnt n l).Nodup:=by
 intro l
 induction l with
 | nil=>intro n;exact List.nodup_nil
 | cons x l ih=>
  intro n
  refine List.nodup_cons.2 ⟨fun h=> ?_,ih _⟩
  have:=quN h
  omega

theorem qjg:∀(NL:List Nat) (bs:List Blk) (m:Mem),NL.Nodup→NL.length=bs.length→
  (∀(i k:Nat) (b:Blk),NL[i]? =some k→bs[i]? =some b→qk (qB m (qdT NL bs)) k=some b)∧(∀k,k∉NL→qk (qB m (qdT NL bs)) k=qk m k):=by
 intro NL
 induction NL with
 | nil=>intro bs m _ hl;cases bs<;>simp at hl;exact⟨by simp,fun _ _=>rfl⟩
 | cons k0 NL ih=>
  intro bs m hn hl
  cases bs with
  | nil=>simp at hl
  | cons b0 bs=>
   obtain⟨hk,hn⟩:=List.nodup_cons.1 hn
   obtain⟨i1,i2⟩:=ih bs (qb6 m (k0,some b0)) hn (by simpa using hl)
   simp only [qdT,qB]
   constructor
   ·intro i k b hi hb
    cases i with
    | zero=>
     simp at hi hb
     subst hi
     subst hb
     rw [i2 k0 hk,qbk,if_pos rfl]
    | succ i=>
     simp at hi hb
     exact i1 i k b hi hb
   ·intro k hkn
    rw [List.mem_cons,not_or] at hkn
    rw [i2 k hkn.2,qbk,if_neg (Ne.symm hkn.1)]

section
variable {P : Program} {n : Nat} {w0 : World} {M0 : Bool → Nat → Prop} {U : Nat → Prop} {ι ι' : Io} {h h1 h2 : Hp} {fr : List (Nat × Sv)} {mem mem1 : Mem} {a : Act} {w w' : World}
 {c:Cfg} {callF:FuncId→List Vl→List Blk→Option (List Vl×List Blk)} {o:Oper} {nx:Nat} {e:Eff}

theorem Sim.after (hs:Sim n w0 M0 U ι h1 fr mem1 a w) {N:List Nat} (hN:N.Nodup) {blks:List Blk} (hbl:blks.length=N.length)
  (hfz:∀(i:Nat) (B:Blk),blks[i]? =some B→∃m B1,N[i]? =some m∧qk mem1 m=some B1∧B.fz=B1.fz) {rs:List Vl} {bs bsR:List Blk} {us:List Value}
  (hp:Post (fun j=>(N[j]?).bind ι) h1 w blks rs bs us w' ι' h2) (hf:∀m,nx≤m→m<nx+(bs.length-N.length)→¬U m)
  (e:qo (qdJ (fun i=>(N++cnt nx (bs.drop N.length))[i]?)) bs=some bsR):
  ∃ ι2:Io,(∀m,¬(nx≤m∧m<nx+(bs.length-N.length))→ι2 m=ι m)∧(∀(i m:Nat),(N++cnt nx (bs.drop N.length))[i]? =some m→ι2 m=ι' i)∧
   Sim n w0 M0 (fun m=>U m∨(nx≤m∧m<nx+(bs.length-N.length))) ι2 h2 fr (qB mem1 (qdT (N++cnt nx (bs.drop N.length)) bsR)) a w'∧
   (∀(i m:Nat),(N++cnt nx (bs.drop N.length))[i]? =some m→U m∨(nx≤m∧m<nx+(bs.length-N.length))):=by
 have hNU:∀(i m:Nat),N[i]? =some m→U m:=by
  intro i m hi
  have hlt:i<blks.length:=by
   rw [hbl]
   rcases Nat.lt_or_ge i N.length with h' | h'
   ·exact h'
   ·rw [List.getElem?_eq_none (by omega)] at hi;cases hi
  obtain⟨m',B1,g1,g2,_⟩:=hfz i _ (List.getElem?_eq_getElem hlt)
  rw [hi] at g1;cases g1
  exact(hs.hnb m B1 g2).1
 have hle:N.length≤bs.length:=by rw [←hbl];exact hp.len
 have hNL:∀i,(N++cnt nx (bs.drop N.length))[i]? =if i<N.length then N[i]? else if i<bs.length then some (nx+(i-N.length))else none:=by
  intro i
  rw [List.getElem?_append]
  by_cases hi:i<N.length
  ·rw [if_pos hi,if_pos hi]
  ·rw [if_neg hi,if_neg hi,qjJ,List.length_drop]
   by_cases h2:i<bs.length
   ·rw [if_pos (by omega),if_pos h2]
   ·rw [if_neg (by omega),if_neg h2]
 have hlenNL:(N++cnt nx (bs.drop N.length)).length=bs.length:=by rw [List.length_append,qkT,List.length_drop];omega
 have hR:=qbj e
 have hcase:∀(i m:Nat),(N++cnt nx (bs.drop N.length))[i]? =some m→(i<N.length∧N[i]? =some m)∨(N.length≤i∧i<bs.length∧m=nx+(i-N.length)):=by
  intro i m hi
  rw [hNL] at hi
  split at hi
  ·exact .inl ⟨‹_›,hi⟩
  ·split at hi
   ·cases hi;exact .inr ⟨by omega,‹_›,rfl⟩
   ·cases hi
 have hnodup:(N++cnt nx (bs.drop N.length)).Nodup:=by
  rw [List.nodup_append]
  refine⟨hN,?_,?_⟩
  ·exact qjf _ _
  ·intro x hx y hy hxy
   subst hxy
   obtain⟨i,hi⟩:=List.getElem?_of_mem hx
   obtain⟨j,hj⟩:=List.getElem?_of_mem hy
   rw [qjJ] at hj
   split at hj
   ·rename_i hlt
    rw [List.length_drop] at hlt
    cases hj
    exact hf (nx+j) (by omega) (by omega) (hNU i _ hi)
   ·cases hj
 obtain⟨z1,z2⟩:=qjg _ bsR mem1 hnodup (by rw [hlenNL,hR.1])
 let ι2:Io:=fun m=>if nx≤m∧m<nx+(bs.length-N.length)then ι' (N.length+(m-nx))else ι m
 have hι2:∀m,¬(nx≤m∧m<nx+(bs.length-N.length))→ι2 m=ι m:=fun m hm=>if_neg hm
 have hιU:∀m,U m→ι2 m=ι m:=fun m hm=>hι2 m fun hq=>hf m hq.1 hq.2 hm
 have hιN:∀(i m:Nat),(N++cnt nx (bs.drop N.length))[i]? =some m→ι2 m=ι' i:=by
  intro i m hi
  rcases hcase i m hi with ⟨h',h''⟩ | ⟨h',h'',rfl⟩
  ·rw [hιU m (hNU i m h''),hp.same i (by omega)]
   simp [h'']
  ·show(if _ then _ else _)=_
   rw [if_pos (by omega)]
   congr 1
   omega
 have hUn:∀(i m:Nat),(N++cnt nx (bs.drop N.length))[i]? =some m→U m∨(nx≤m∧m<nx+(bs.length-N.length)):=by
  intro i m hi
  rcases hcase i m hi with ⟨h',h''⟩ | ⟨h',h'',rfl⟩
  ·exact .inl (hNU i m h'')
  ·exact .inr (by omega)
 -- what a name's block is, behind the call
 have hk:∀x B,qk (qB mem1 (qdT (N++cnt nx (bs.drop N.length)) bsR)) x=some B→
   (∃(i:Nat) (B':Blk),(N++cnt nx (bs.drop N.length))[i]? =some x∧bs[i]? =some B'∧qdJ (fun i=>(N++cnt nx (bs.drop N.length))[i]?) B'=some B)∨(x∉(N++cnt nx (bs.drop N.length))∧qk mem1 x=some B):=by
  intro x B hx
  by_cases hm:x∈(N++cnt nx (bs.drop N.length))
  ·obtain⟨i,hi⟩:=List.getElem?_of_mem hm
   have hlt:i<bs.length:=by
    rcases hcase i x hi with ⟨h',_⟩ | ⟨_,h',_⟩<;>omega
   obtain⟨B'',q1,q2⟩:=hR.2 i _ (List.getElem?_eq_getElem hlt)
   have:=z1 i x B'' hi q1
   rw [hx] at this
   cases this
   exact .inl ⟨i,_,hi,List.getElem?_eq_getElem hlt,q2⟩
  ·rw [z2 x hm] at hx
   exact .inr ⟨hm,hx⟩
 have hmm:=hp.mm
 -- a block that was not handed over stays
 have hlent:∀b,qh5 (fun j=>(N[j]?).bind ι) blks b→∃m B L,qk mem1 m=some B∧B.fz=false∧ι m=some L∧L.b=b∧m∈N:=by
  rintro b ⟨i,B,L,g1,g2,g3,rfl⟩
  obtain⟨m,B1,q1,q2,q3⟩:=hfz i B g1
  simp only [q1,Option.bind_some] at g3
  exact⟨m,B1,L,q2,by rw [←q3];exact g2,g3,rfl,List.mem_of_getElem? q1⟩
 have hstay:∀x B L,x∉(N++cnt nx (bs.drop N.length))→qk mem1 x=some B→ι x=some L→¬qh5 (fun j=>(N[j]?).bind ι) blks L.b:=by
  intro x B L hx hB hL hq
  obtain⟨m,B1,L1,q1,q2,q3,q4,q5⟩:=hlent _ hq
  have:=hs.hinj m x B1 B L1 L q1 hB q3 hL q4
  subst this
  exact hx (List.mem_append_left _ q5)
 have hnewb:∀(i:Nat) (B:Blk) (L:Loc),bs[i]? =some B→N.length≤i→ι' i=some L→w.heap.size≤L.b:=by
  intro i B L hi hle' l
  rcases hp.own2 i B L hi l with h' | ⟨j,B0,L0,q1,q2,q3⟩
  ·exact h'
  ·exfalso
   have hj:j<blks.length:=by
    rcases Nat.lt_or_ge j blks.length with h' | h'
    ·exact h'
    ·rw [List.getElem?_eq_none (by omega)] at q1;cases q1
   have hj2:j<bs.length:=by omega
   have:=hmm.inj j i _ B L0 L (List.getElem?_eq_getElem hj2) hi (by rw [hp.same j hj];exact q2) l q3
   omega
 have hstayB:∀b,b<w0.heap.size→¬M0 false b→¬qh5 (fun j=>(N[j]?).bind ι) blks b:=by
  intro b hb hM hq
  obtain⟨m,B1,L1,q1,q2,q3,q4,q5⟩:=hlent _ hq
  rcases hs.hown m B1 L1 q1 q2 q3 with h' | h'
  ·omega
  ·rw [q4] at h';exact hM h'
 refine⟨ι2,hι2,hιN,?_,hUn⟩
 refine { hsize:=hs.hsize,hdefers:=hs.hdefers,hfr:= ?_,hmem:= ?_,hinj:= ?_,hsub:=hmm.sub,hmut:= ?_,hfrz:= ?_,hown:= ?_,hown2:= ?_,hframe:= ?_,hgrow:=Nat.le_trans hs.hgrow hp.grow,hos:=hp.os.trans hs.hos,htape:=hp.tape.trans hs.htape,houtput:=hp.output.trans hs.houtput,hnm:= ?_,hnb:= ?_,hdom:= ?_,hpr:= ?_ }
 ·intro t v e'
  obtain⟨u,q1,q2⟩:=hs.hfr t v e'
  exact⟨u,q1,q2.mono hp.sub fun m hm=>hιU m (hs.hnm t v e' m hm)⟩
 ·intro x B hx
  rcases hk x B hx with ⟨i,B',g1,g2,g3⟩ | ⟨g1,g2⟩
  ·obtain⟨d1,d2,d3,d4,d5,d6,d7,d8⟩:=qca g3 (hmm.pr i B' g2)
   exact(hmm.rb i B' g2).re (hιN i x g1) (fun _ _=>rfl) (Sub.refl _) d1 d2 (qly g3) d5.2 fun C q4=>by rw [←d1];exact d8 q4 fun m m' hq=>hιN m m' hq
  ·have hu:=hs.hnb x B g2
   exact(hs.hmem x B g2).to (hιU x hu.1) (fun L hL=>hp.frame L.b (hs.hdom x L hL).2 (hstay x B L g1 g2 hL)) hp.sub fun m hm=>hιU m (hu.2 m hm)
 ·intro x y B1 B2 L1 L2 e1 e2 l1 l2 hq
  rcases hk x B1 e1 with ⟨i,B',g1,g2,g3⟩ | ⟨g1,g2⟩
  ·rcases hk y B2 e2 with ⟨j,B'',k1,k2,k3⟩ | ⟨k1,k2⟩
   ·rw [hιN i x g1] at l1
    rw [hιN j y k1] at l2
    have:=hmm.inj i j B' B'' L1 L2 g2 k2 l1 l2 hq
    subst this
    rw [g1] at k1
    cases k1
    rfl
   ·exfalso
    rw [hιN i x g1] at l1
    rw [hιU y (hs.hnb y B2 k2).1] at l2
    rcases hcase i x g1 with ⟨h',h''⟩ | ⟨h',h'',rfl⟩
    ·rw [hp.same i (by omega)] at l1
     simp only [h'',Option.bind_some] at l1
     obtain⟨m',B3,q1,q2,_⟩:=hfz i _ (List.getElem?_eq_getElem (by omega:i<blks.length))
     rw [h''] at q1;cases q1
     have:=hs.hinj x y B3 B2 L1 L2 q2 k2 l1 l2 hq
     subst this
     exact k1 (List.mem_of_getElem? g1)
    ·have hlt:=(hs.hdom y L2 l2).2
     have:=hnewb _ B' L1 g2 h' l1
     omega
  ·rcases hk y B2 e2 with ⟨j,B'',k1,k2,k3⟩ | ⟨k1,k2⟩
   ·exfalso
    rw [hιN j y k1] at l2
    rw [hιU x (hs.hnb x B1 g2).1] at l1
    rcases hcase j y k1 with ⟨h',h''⟩ | ⟨h',h'',rfl⟩
    ·rw [hp.same j (by omega)] at l2
     simp only [h'',Option.bind_some] at l2
     obtain⟨m',B3,q1,q2,_⟩:=hfz j _ (List.getElem?_eq_getElem (by omega:j<blks.length))
     rw [h''] at q1;cases q1
     have:=hs.hinj x y B1 B3 L1 L2 g2 q2 l1 l2 hq
     subst this
     exact g1 (List.mem_of_getElem? k1)
    ·have hlt:=(hs.hdom x L1 l1).2
     have:=hnewb _ B'' L2 k2 h' l2
     omega
   ·rw [hιU x (hs.hnb x B1 g2).1] at l1
    rw [hιU y (hs.hnb y B2 k2).1] at l2
    exact hs.hinj x y B1 B2 L1 L2 g2 k2 l1 l2 hq
 ·intro x B L e1 hz l
  rcases hk x B e1 with ⟨i,B',g1,g2,g3⟩ | ⟨g1,g2⟩
  ·obtain⟨d1,d2,d3,d4,d5,d6,d7,d8⟩:=qca g3 (hmm.pr i B' g2)
   rw [hιN i x g1] at l
   exact hmm.mut' i B' L g2 (by rw [←d4];exact hz) l
  ·rw [hιU x (hs.hnb x B g2).1] at l
   rw [hp.view L.b (hs.hdom x L l).2 (hstay x B L g1 g2 l)]
   exact hs.hmut x B L g2 hz l
 ·intro x B L e1 hz l
  rcases hk x B e1 with ⟨i,B',g1,g2,g3⟩ | ⟨g1,g2⟩
  ·obtain⟨d1,d2,d3,d4,d5,d6,d7,d8⟩:=qca g3 (hmm.pr i B' g2)
   rw [hιN i x g1] at l
   exact hmm.frz i B' L g2 (by rw [←d4];exact hz) l
  ·rw [hιU x (hs.hnb x B g2).1] at l
   rw [hp.view L.b (hs.hdom x L l).2 (hstay x B L g1 g2 l),hp.frame L.b (hs.hdom x L l).2 (hstay x B L g1 g2 l)]
   exact hs.hfrz x B L g2 hz l
 ·intro x B L e1 hz l
  rcases hk x B e1 with ⟨i,B',g1,g2,g3⟩ | ⟨g1,g2⟩
  ·obtain⟨d1,d2,d3,d4,d5,d6,d7,d8⟩:=qca g3 (hmm.pr i B' g2)
   rw [hιN i x g1] at l
   rcases hp.own i B' L g2 (by rw [←d4];exact hz) l with h' | h'
   ·exact .inl (Nat.le_trans hs.hgrow h')
   ·obtain⟨m,B1,L1,q1,q2,q3,q4,q5⟩:=hlent _ h'
    rw [←q4]
    exact hs.hown m B1 L1 q1 q2 q3
  ·rw [hιU x (hs.hnb x B g2).1] at l
   exact hs.hown x B L g2 hz l
 ·intro x B L e1 l
  rcases hk x B e1 with ⟨i,B',g1,g2,g3⟩ | ⟨g1,g2⟩
  ·rw [hιN i x g1] at l
   rcases hp.own2 i B' L g2 l with h' | ⟨j,B0,L0,q1,q2,q3⟩
   ·exact .inl (Nat.le_trans hs.hgrow h')
   ·obtain⟨m,B1,r1,r2,_⟩:=hfz j B0 q1
    simp only [r1,Option.bind_some] at q2
    rw [←q3]
    exact hs.hown2 m B1 L0 r2 q2
  ·rw [hιU x (hs.hnb x B g2).1] at l
   exact hs.hown2 x B L g2 l
 ·intro b hb hM
  rw [hp.frame b (Nat.lt_of_lt_of_le hb hs.hgrow) (hstayB b hb hM)]
  exact hs.hframe b hb hM
 ·intro t v e' m hm
  exact .inl (hs.hnm t v e' m hm)
 ·intro x B e1
  rcases hk x B e1 with ⟨i,B',g1,g2,g3⟩ | ⟨g1,g2⟩
  ·obtain⟨d1,d2,d3,d4,d5,d6,d7,d8⟩:=qca g3 (hmm.pr i B' g2)
   refine⟨hUn i x g1,fun m' hm'=> ?_⟩
   obtain⟨m,hm,hq⟩:=d6 m' hm'
   exact hUn m m' hq
  ·exact⟨.inl (hs.hnb x B g2).1,fun m hm=> .inl ((hs.hnb x B g2).2 m hm)⟩
 ·intro m L l
  by_cases hm:nx≤m∧m<nx+(bs.length-N.length)
  ·refine⟨.inr hm,?_⟩
   have l':ι' (N.length+(m-nx))=some L:=by
    have:ι2 m=some L:=l
    rw [show ι2 m=ι' (N.length+(m-nx))from if_pos hm] at this
    exact this
   have hlt:N.length+(m-nx)<bs.length:=by omega
   exact hmm.dom _ _ L (List.getElem?_eq_getElem hlt) l'
  ·rw [hι2 m hm] at l
   have:=hs.hdom m L l
   exact⟨.inl this.1,Nat.lt_of_lt_of_le this.2 hp.grow⟩
 ·intro x B e1 hpB
  rcases hk x B e1 with ⟨i,B',g1,g2,g3⟩ | ⟨g1,g2⟩
  ·obtain⟨d1,d2,d3,d4,d5,d6,d7,d8⟩:=qca g3 (hmm.pr i B' g2)
   exact d7 hpB
  ·exact hs.hpr x B g2 hpB

end
end Go.Proofs.YtlnailgfialgnaaGreatDoor.Am
