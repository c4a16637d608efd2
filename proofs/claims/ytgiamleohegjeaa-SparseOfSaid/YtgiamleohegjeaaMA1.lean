/- An abstract machine over the program's own code: a deterministic functional interpreter whose slices carry their contents and whose memory is a list of named blocks. Definitions only. -/
import Derived.Orders
import Derived.Defers
import Derived.ProofKit
import Derived.Below
import Derived.Laws.AppendOwn
import Derived.Maps.AppendAt
import Derived.Laws.Rows
import Derived.Laws.Cells
import Derived.Laws.Tables
import Derived.Laws.CopyRow
import Derived.Deep.MidRow
import Derived.Laws.MakeOwn
import Derived.Laws.OwnMore
import Derived.Lib.ConvBytes
import Derived.MapKept
import Derived.Laws.BytesArg

namespace Go.Proofs.Ytgiamleohegjeaa.Am
open Go

inductive At where
 | int (k : IntKind) (n : Int)
 | bool (b : Bool)
 | str (s : ByteArray)
 | snil (es ty : Nat)
 | sl (es n : Nat) (els : List (List At))
 | nilp
 | pp (e : List At) (o : Nat)
 | ptr (m i o : Nat)
 | sm (m lo n : Nat)
 | fn (f : FuncId) (cs : List At)
 | mp (m : Nat)
 | ptq (m i es : Nat)
 deriving Inhabited

inductive Vl where
 | a (x : At)
 | g (cs : List At)
 deriving Inhabited
def Vl.cells : Vl → List At
 | .a x => [x]
 | .g cs => cs

inductive Sv where
 | v (x : Vl)
 | t (vs : List Vl)
 | u
 deriving Inhabited

structure Blk where
 els : List (List At)
 es : Nat
 ty : TypeId
 pr : Bool
 fz : Bool
 ar : Bool
 mp : List (At × At) := []
 ow : Option (TypeId × Nat) := none
 deriving Inhabited

abbrev Mem := List (Nat × Option Blk)
structure St where
 fr : List (Nat × Sv)
 mem : Mem
 nx : Nat
 deriving Inhabited

def lk {β : Type} : List (Nat × β) → Nat → Option β
 | [], _ => none
 | (k, v) :: r, t => if k = t then some v else lk r t
def mget (m : Mem) (n : Nat) : Option Blk :=
 match lk m n with
 | some (some b) => some b
 | _ => none

def set1 : Mem → Nat × Option Blk → Mem
 | [], p => [p]
 | q :: r, p => if q.1 = p.1 then p :: r else q :: set1 r p
def updM (m : Mem) : Mem → Mem
 | [] => m
 | p :: r => updM (set1 m p) r

def mapO {α β : Type} (f : α → Option β) : List α → Option (List β)
 | [] => some []
 | x :: r => (f x).bind fun y => (mapO f r).bind fun ys => some (y :: ys)

inductive TD where
 | int (k : IntKind) | bool | str | ptr | sl (e : Nat) | st (fs : List (Nat × Nat)) (ts : List TypeId) | arr (n e : Nat) | mp (k e : Nat) | oth
structure TI where
 d : TD
 size : Nat
 bytes : Nat
 agg : Bool
 zero : List At
 eqs : Bool

def tdOf (T : TypeId → Option TI) (t : TypeId) : Option TD := (T t).bind fun i => some i.d

inductive Kp where
 | s (t : Nat)
 | b (t : Nat)

structure Cfg where
 T : TypeId → Option TI
 F : FuncId → Option Func
 X : FuncId → Option (List Vl → List Blk → Option (List Vl × List Blk))
 mutA : FuncId → Bool
 ownR : FuncId → Bool
 keep : FuncId → Nat → List Kp
 lend : FuncId → Bool := fun _ => false
 nest : TypeId → Bool := fun _ => false

def At.pr : At → Bool
 | .ptr .. => false
 | .sm .. => false
 | .mp .. => false
 | .ptq .. => false
 | _ => true
def At.nm : At → List Nat
 | .ptr m _ _ => [m]
 | .sm m _ _ => [m]
 | .mp m => [m]
 | .ptq m _ _ => [m]
 | _ => []
def At.noSl : At → Bool
 | .sl .. => false
 | .pp .. => false
 | .fn .. => false
 | _ => true
def At.smn : At → List Nat
 | .sm m _ _ => [m]
 | _ => []

/-- An own slice becomes one that only reads. -/
def frzA (mem : Mem) : At → Option At
 | .sm m lo n => (mget mem m).bind fun b => if b.pr ∧ lo + n ≤ b.els.length then some (.sl b.es n ((b.els.drop lo).take n)) else none
 | .snil es _ => some (.sl es 0 [])
 | x => some x
def frzV (mem : Mem) : Vl → Option Vl
 | .a x => (frzA mem x).bind fun y => some (.a y)
 | .g cs => (mapO (frzA mem) cs).bind fun ys => some (.g ys)

def idx : List Nat → Nat → Option Nat
 | [], _ => none
 | k :: r, m => if k = m then some 0 else (idx r m).bind fun i => some (i + 1)
def renA (ρ : Nat → Option Nat) : At → Option At
 | .ptr m i o => (ρ m).bind fun m' => some (.ptr m' i o)
 | .mp m => (ρ m).bind fun m' => some (.mp m')
 | .ptq m i es => (ρ m).bind fun m' => some (.ptq m' i es)
 | .sm m lo n => (ρ m).bind fun m' => some (.sm m' lo n)
 | x => some x
def renV (ρ : Nat → Option Nat) : Vl → Option Vl
 | .a x => (renA ρ x).bind fun y => some (.a y)
 | .g cs => (mapO (renA ρ) cs).bind fun ys => some (.g ys)
def renB (ρ : Nat → Option Nat) (b : Blk) : Option Blk :=
 if b.pr then some b else if b.ow.isSome then none else (mapO (mapO (renA ρ)) b.els).bind fun els => some { b with els := els }
def frzB (mem : Mem) (b : Blk) : Option Blk :=
 if b.pr then some b else if b.ow.isSome then none else (mapO (mapO (frzA mem)) b.els).bind fun els => some { b with els := els }

def namesV (vs : List Vl) : List Nat := vs.flatMap fun v => v.cells.flatMap At.nm
def namesB (b : Blk) : List Nat := if b.pr then [] else b.els.flatMap fun e => e.flatMap At.nm
def namesM (mem : Mem) (m : Nat) : List Nat :=
 match mget mem m with
 | some b => namesB b
 | none => []
def At.ptrs : At → List Nat
 | .ptr m _ _ => [m]
 | .mp m => [m]
 | .ptq m _ _ => [m]
 | _ => []
def ptrsM (mem : Mem) (m : Nat) : List Nat :=
 match mget mem m with
 | some b => if b.pr then [] else b.els.flatMap fun e => e.flatMap At.ptrs
 | none => []
def smnV (vs : List Vl) : List Nat := vs.flatMap fun v => v.cells.flatMap At.smn
def smnM (mem : Mem) (m : Nat) : List Nat :=
 match mget mem m with
 | some b => if b.pr then [] else b.els.flatMap fun e => e.flatMap At.smn
 | none => []
def clo (ns : Nat → List Nat) : Nat → List Nat → List Nat → List Nat
 | 0, _, acc => acc
 | _ + 1, [], acc => acc
 | k + 1, m :: ms, acc => if acc.contains m then clo ns k ms acc else clo ns k (ms ++ ns m) (acc ++ [m])

def cnt {α : Type} : Nat → List α → List Nat
 | _, [] => []
 | n, _ :: r => n :: cnt (n + 1) r

structure Eff where
 v : Sv
 upd : Mem
 nn : Nat
 rd : List Nat

def constA : Value → Option At
 | .int k n => some (.int k n)
 | .bool b => some (.bool b)
 | .string s => some (.str s)
 | .slice none 0 0 => some (.snil 0 0)
 | .pointer none => some .nilp
 | _ => none
def ev (fr : List (Nat × Sv)) : Operand → Option Sv
 | .tmp t => lk fr t
 | .const v => (constA v).bind fun x => some (.v (.a x))
 | .func f => some (.v (.a (.fn f [])))
 | .global _ => none
def svA : Sv → Option At
 | .v (.a x) => some x
 | _ => none
def svV : Sv → Option Vl
 | .v x => some x
 | _ => none
def evA (fr : List (Nat × Sv)) (o : Operand) : Option At := (ev fr o).bind svA
def asB : At → Option Bool
 | .bool b => some b
 | _ => none
def asI : At → Option Int
 | .int _ i => some i
 | _ => none
def evB (fr : List (Nat × Sv)) (o : Operand) : Option Bool := (evA fr o).bind asB
def evI (fr : List (Nat × Sv)) (o : Operand) : Option Int := (evA fr o).bind asI
def evV (fr : List (Nat × Sv)) (o : Operand) : Option Vl := (ev fr o).bind svV

def binI (op : BinOp) (k : IntKind) (x y : Int) : Option At :=
 match op with
 | .add => some (.int k (k.wrap (x + y)))
 | .sub => some (.int k (k.wrap (x - y)))
 | .mul => some (.int k (k.wrap (x * y)))
 | .quo => if y = 0 then none else some (.int k (k.wrap (x.tdiv y)))
 | .rem => if y = 0 then none else some (.int k (x.tmod y))
 | .eql => some (.bool (x == y))
 | .neq => some (.bool (x != y))
 | .lss => some (.bool (decide (x < y)))
 | .leq => some (.bool (decide (x ≤ y)))
 | .gtr => some (.bool (decide (x > y)))
 | .geq => some (.bool (decide (x ≥ y)))
 | .and => some (.int k (k.wrap ((BitVec.ofInt k.bits x &&& BitVec.ofInt k.bits y).toNat : Int)))
 | .or => some (.int k (k.wrap ((BitVec.ofInt k.bits x ||| BitVec.ofInt k.bits y).toNat : Int)))
 | .xor => some (.int k (k.wrap ((BitVec.ofInt k.bits x ^^^ BitVec.ofInt k.bits y).toNat : Int)))
 | _ => none
def binA (T : TypeId → Option TI) (op : BinOp) (ty : TypeId) : At → At → Option At
 | .int k x, .int k' y =>
  match op with
  | .shl => if y < 0 then none else some (.int k (k.wrap (x * 2 ^ (min y.toNat k.bits))))
  | .shr => if y < 0 then none else some (.int k (x.fdiv (2 ^ (min y.toNat k.bits))))
  | _ => if k = k' then binI op k x y else none
 | .str x, .str y =>
  match op with
  | .add => if ((x.size + y.size : Nat) : Int) > IntKind.i64.max then none else some (.str (x ++ y))
  | .eql => some (.bool (x.data.toList == y.data.toList))
  | .neq => some (.bool (!(x.data.toList == y.data.toList)))
  | _ => none
 | .bool x, .bool y =>
  match tdOf T ty, op with
  | some .bool, .eql => some (.bool (x == y))
  | some .bool, .neq => some (.bool (!(x == y)))
  | _, _ => none
 | x, y =>
  match tdOf T ty with
  | some .ptr =>
   let r : Option Bool := match x, y with
    | .nilp, .nilp => some true
    | .nilp, .ptr .. => some false
    | .nilp, .pp .. => some false
    | .ptr .., .nilp => some false
    | .pp .., .nilp => some false
    | _, _ => none
   match op with
   | .eql => r.bind fun b => some (.bool b)
   | .neq => r.bind fun b => some (.bool (!b))
   | _ => none
  | _ => none
def unA (op : UnOp) : At → Option At
 | .int k n => match op with
  | .neg => some (.int k (k.wrap (0 - n)))
  | _ => none
 | .bool b => match op with
  | .not => some (.bool (!b))
  | _ => none
 | _ => none
def convA (T : TypeId → Option TI) (src dst : TypeId) : At → Option At
 | .int _ n => match tdOf T src, tdOf T dst with
  | some (.int _), some (.int k) => some (.int k (k.wrap n))
  | _, _ => none
 | .str s => match tdOf T src, tdOf T dst with
  | some .str, some .str => some (.str s)
  | some .str, some (.sl e) => match tdOf T e with
   | some (.int .u8) => some (.sl 1 s.size (s.data.toList.map fun b => [.int .u8 b.toNat]))
   | _ => none
  | _, _ => none
 | _ => none

/-- `cs` with the cells `xs` from place o on. -/
def putAt (cs : List At) (o : Nat) (xs : List At) : List At := cs.take o ++ xs ++ cs.drop (o + xs.length)

def partV (ti : TI) (e : List At) (o : Nat) : Option Vl :=
 if ti.agg then (if o + ti.size ≤ e.length then some (.g ((e.drop o).take ti.size)) else none)
 else (e[o]?).bind fun x => some (.a x)

def fillV (ds : List (Nat × Nat)) : List At → List (Nat × Vl) → Option (List At)
 | cs, [] => some cs
 | cs, (i, v) :: r =>
  (ds[i]?).bind fun p => if v.cells.length = p.2 ∧ p.1 + p.2 ≤ cs.length then fillV ds (putAt cs p.1 v.cells) r else none
def fillE (es : Nat) : List (List At) → List (Nat × Vl) → Option (List (List At))
 | cs, [] => some cs
 | cs, (i, v) :: r => if v.cells.length = es ∧ i < cs.length then fillE es (cs.set i v.cells) r else none

/-- A slice's elements (of the size es), whether they name no block, and which blocks were looked at. -/
def elsOf (mem : Mem) (es : Nat) : At → Option (Nat × List (List At) × Bool × List Nat)
 | .sl es' n els => if es' = es then some (n, els, true, []) else none
 | .snil .. => some (0, [], true, [])
 | .sm m lo n => (mget mem m).bind fun b => if b.es = es ∧ lo + n ≤ b.els.length ∧ b.ow = none then some (n, (b.els.drop lo).take n, b.pr, [m]) else none
 | _ => none

def one (v : Vl) : Eff → Eff := fun e => { e with v := .v v }

def boundO (fr : List (Nat × Sv)) (d : Nat) : Option Operand → Option Int
 | none => some d
 | some o => evI fr o

section
variable (c : Cfg) (callF : FuncId → List Vl → List Blk → Option (List Vl × List Blk))

def fzUpd (mem : Mem) : List Nat → Mem
 | [] => []
 | m :: r => (match mget mem m with | some b => (m, some { els := b.els, es := b.es, ty := b.ty, pr := b.pr, fz := true, ar := b.ar, mp := b.mp, ow := b.ow }) :: fzUpd mem r | none => fzUpd mem r)
def zipU : List Nat → List Blk → Mem
 | n :: r, b :: s => (n, some b) :: zipU r s
 | _, _ => []

/-- Noughts as an array holds them: a nil slice only reads. -/
def frz0 : At → At
 | .snil es _ => .sl es 0 []
 | x => x
def zf (ti : TI) : List At := ti.zero.map frz0
/-- No slice at all, by the kind that the place has. -/
def fixN (z : List At) : Vl → Vl
 | .a (.snil a b) => match z with
  | [.snil es ty] => .a (.snil es ty)
  | _ => .a (.snil a b)
 | v => v
/-- Elements whose own slices become ones that only read. -/
def frzE (mem : Mem) (els : List (List At)) : Option (List (List At)) := mapO (mapO (frzA mem)) els
def smnE (els : List (List At)) : List Nat := els.flatMap fun e => e.flatMap At.smn
/-- What is stored: in an array's element no own slice; which slices become ones that only read. -/
def arF (mem : Mem) (m : Nat) (v : Vl) : Option (Vl × List Nat) := (mget mem m).bind fun b =>
 if b.ar then (frzV mem v).bind fun v' => some (v', smnV [v]) else some (v, [])

/-- What a closure holds: a variable of its own is only read from then on. -/
def capA (mem : Mem) : At → Option (At × List Nat)
 | .ptr m i o => (mget mem m).bind fun b => if b.pr ∧ b.ow = none then (b.els[i]?).bind fun e => some (.pp e o, [m]) else none
 | .sm .. => none
 | .mp .. => none
 | .ptq .. => none
 | x => some (x, [])
/-- Keys that are alike. -/
def keyEq : At → At → Bool
 | .int k a, .int k' b => k == k' && a == b
 | .str a, .str b => a.data.toList == b.data.toList
 | .bool a, .bool b => a == b
 | _, _ => false
def keyOk : TD → At → Bool
 | .int k, .int k' _ => k' == k
 | .str, .str _ => true
 | .bool, .bool _ => true
 | _, _ => false
def findM : List (At × At) → At → Option (Nat × At)
 | [], _ => none
 | p :: r, x => if keyEq x p.1 then some (0, p.2) else (findM r x).bind fun q => some (q.1 + 1, q.2)
def setM (l : List (At × At)) (x v : At) : List (At × At) := match findM l x with
 | some q => l.set q.1 (x, v)
 | none => l ++ [(x, v)]
/-- The map behind a word, where the key's kind fits. -/
def mapM (T : TypeId → Option TI) (t : TypeId) (mem : Mem) (a k : At) : Option (TypeId × Nat × Blk) :=
 match tdOf T t with
 | some (.mp kt et) => (tdOf T kt).bind fun d => match a with
  | .mp m => (mget mem m).bind fun b => if keyOk d k ∧ b.mp.all (fun p => keyOk d p.1) then some (et, m, b) else none
  | _ => none
 | _ => none
def resV : List Vl → Sv
 | [x] => .v x
 | xs => .t xs

/-- A block whose words hold no cells that only read. -/
def flatB (b : Blk) : Bool := !b.fz && (b.ow.isNone && (b.mp.isEmpty && b.els.all fun e => e.all At.noSl))
/-- What a call leaves as it only reads of what it was lent. -/
def lentU (l : Bool) (N : List Nat) (rs : List Vl) (bs : List Blk) (u : Mem) : Option Mem :=
 if l then (if N.isEmpty && (rs.all (fun v => v.cells.all At.noSl) && bs.all flatB) then some [] else none)
 else some (if bs.isEmpty && rs.all (fun v => v.cells.all At.noSl) then [] else u)
/-- A block that owns inner slices. -/
def nests (mem : Mem) (m : Nat) : Bool := match mget mem m with
 | some b => b.ow.isSome
 | none => false
def stpCall (f : FuncId) (args : List Vl) (mem : Mem) (nx : Nat) : Option Eff :=
 (if c.mutA f then some args else mapO (frzV mem) args).bind fun vals =>
 let N := clo (fun m => if c.mutA f then namesM mem m else ptrsM mem m) 64 (namesV vals) []
 let F := if c.mutA f then [] else smnV args ++ N.flatMap (smnM mem)
 let mem1 := updM mem (fzUpd mem F)
 if N.any (nests mem1) then none else
 (mapO (fun m => (mget mem1 m).bind fun b => (if c.mutA f then some b else frzB mem b).bind (renB (idx N))) N).bind fun blks =>
 (mapO (renV (idx N)) vals).bind fun vals' =>
 (callF f vals' blks).bind fun r =>
 let NL := N ++ cnt nx (r.2.drop N.length)
 (mapO (renV (fun i => NL[i]?)) r.1).bind fun rs =>
 (mapO (renB (fun i => NL[i]?)) r.2).bind fun bs =>
 (lentU (c.lend f) N r.1 r.2 (fzUpd mem F)).bind fun lu =>
 some { v := resV rs, upd := lu ++ zipU NL bs, nn := nx + (r.2.length - N.length), rd := N ++ F }

def stpAppend (t : TypeId) (s x : At) (mem : Mem) (nx : Nat) : Option Eff :=
 match tdOf c.T t with
 | some (.sl e) => (c.T e).bind fun te =>
  (elsOf mem te.size x).bind fun src =>
  (match s with
   | .snil .. => some (([] : List (List At)), 0, true, ([] : List Nat))
   | .sm m lo n => (mget mem m).bind fun b => if lo = 0 ∧ b.es = te.size ∧ b.ty = e ∧ n ≤ b.els.length ∧ !b.fz ∧ b.ow = none then some (b.els.take n, n, b.pr, [m]) else none
   | _ => none).bind fun base =>
  if (base.2.1 + src.1) * te.bytes ≤ 140737488355328 ∧ 0 < te.size ∧ 0 < te.bytes ∧ te.zero.length = te.size then
   some { v := .v (.a (.sm nx 0 (base.2.1 + src.1))), upd := base.2.2.2.map (fun m => (m, none)) ++ [(nx, some (Blk.mk (base.1 ++ src.2.1) te.size e (base.2.2.1 && src.2.2.1) false true [] none))], nn := nx + 1, rd := base.2.2.2 ++ src.2.2.2 }
  else none
 | _ => none

def stpClear (t : TypeId) (a : At) (mem : Mem) (nx : Nat) : Option Eff :=
 match tdOf c.T t with
 | some (.sl e) => (c.T e).bind fun te =>
  match a with
  | .snil .. => some { v := .t [], upd := [], nn := nx, rd := [] }
  | .sm m lo n => (mget mem m).bind fun b =>
   if lo + n ≤ b.els.length ∧ b.es = te.size ∧ !b.fz ∧ te.zero.length = te.size ∧ 0 < te.size ∧ b.ow = none then
    some { v := .t [], upd := [(m, some { b with els := b.els.take lo ++ List.replicate n (zf te) ++ b.els.drop (lo + n) })], nn := nx, rd := [m] }
   else none
  | _ => none
 | _ => none

/-- Which types' slices own their inner slices: the inner elements' type and size. -/
def nestOf (e : TypeId) : Option (TypeId × Nat) := if c.nest e then (c.T e).bind fun te => (match te.d, te.zero with
 | .sl e2, [.snil s _] => (c.T e2).bind fun t2 => if 0 < t2.size ∧ s = t2.size ∧ te.size = 1 then some (e2, t2.size) else none
 | _, _ => none) else none
/-- An inner slice as the block holds it. -/
def inl : List At → Bool
 | [.sl ..] => true
 | _ => false
/-- The inner slice that has a name comes home. -/
def home (mem : Mem) (q : TypeId × Nat) : List At → Option (List At × Nat)
 | [.sm x 0 n] => (mget mem x).bind fun b => if b.pr ∧ !b.fz ∧ b.ow = none ∧ b.es = q.2 ∧ b.ty = q.1 ∧ n ≤ b.els.length then some ([.sl q.2 n (b.els.take n)], x) else none
 | _ => none
def stl (mem : Mem) (b : Blk) (q : TypeId × Nat) : Option (List (List At) × List Nat) :=
 match b.els.findIdx? (fun e => !inl e) with
 | none => some (b.els, [])
 | some i => (b.els[i]?).bind fun e => (home mem q e).bind fun p => if (b.els.set i p.1).all inl then some (b.els.set i p.1, [p.2]) else none
/-- An inner slice gets a name of its own. -/
def stpOut (t : TypeId) (m i es : Nat) (mem : Mem) (nx : Nat) : Option Eff := (mget mem m).bind fun b =>
 match b.ow, tdOf c.T t with
 | some q, some (.sl e2) => if b.es = es ∧ es = 1 ∧ e2 = q.1 ∧ !b.fz then (stl mem b q).bind fun r =>
  match r.1[i]? with
  | some [.sl _ n rows] => some { v := .v (.a (.sm nx 0 n)), upd := r.2.map (fun x => (x, none)) ++ [(m, some { b with els := r.1.set i [.sm nx 0 n], pr := false }), (nx, some { els := rows, es := q.2, ty := q.1, pr := true, fz := false, ar := true })], nn := nx + 1, rd := m :: r.2 }
  | _ => none
  else none
 | _, _ => none
/-- An own slice is laid into a block that owns its inner ones. -/
def stpInto (t : TypeId) (m i es : Nat) (v : Vl) (mem : Mem) (nx : Nat) : Option Eff := (mget mem m).bind fun b =>
 match b.ow, v, tdOf c.T t with
 | some q, .a (.sm y 0 n), some (.sl e2) => if b.es = es ∧ es = 1 ∧ e2 = q.1 ∧ !b.fz ∧ i < b.els.length ∧ y ≠ m ∧ ((b.els.set i [.sl 0 0 []]).all inl) then
   some { v := .u, upd := [(m, some { b with els := b.els.set i [.sm y 0 n], pr := false })], nn := nx, rd := [m] }
  else none
 | _, _, _ => none

def byteEls : List (List At) → Option (List UInt8)
 | [] => some []
 | [.int .u8 n] :: r => (byteEls r).bind fun xs => some (n.toNat.toUInt8 :: xs)
 | _ => none
def val (v : Vl) (nx : Nat) : Option Eff := some { v := .v v, upd := [], nn := nx, rd := [] }
def valA (x : Option At) (nx : Nat) : Option Eff := x.bind fun x => val (.a x) nx

def maxA (a b : At) (nx : Nat) : Option Eff :=
 match a, b with
 | .int k x, .int _ y => val (.a (.int k (max x y))) nx
 | _, _ => none
def minA (a b : At) (nx : Nat) : Option Eff :=
 match a, b with
 | .int k x, .int _ y => val (.a (.int k (min x y))) nx
 | _, _ => none

/-- Cells of whole numbers, held against one another. -/
def eqA : List At → List At → Option Bool
 | [], [] => some true
 | .int k x :: r, .int k2 y :: s => if k = k2 then (eqA r s).bind fun b => some (x == y && b) else none
 | _, _ => none
def gOf (fr : List (Nat × Sv)) (o : Operand) : Option (List At) :=
 match ev fr o with
 | some (.v (.g cs)) => some cs
 | _ => none
def eqG (op : BinOp) (ti : TI) (cs : List At) (v : Vl) (nx : Nat) : Option Eff :=
 match ti.d, v with
 | .st fs _, .g ds => if ti.eqs = true ∧ fs.length = cs.length then (eqA cs ds).bind fun b => match op with
  | .eql => val (.a (.bool b)) nx
  | .neq => val (.a (.bool (!b))) nx
  | _ => none
  else none
 | _, _ => none
def stp (o : Oper) (fr : List (Nat × Sv)) (mem : Mem) (nx : Nat) : Option Eff :=
 match o.op with
 | .move x | .assign x =>
  (ev fr x).bind fun v =>
  match v with
  | .v (.a (.snil ..)) => match tdOf c.T o.type with
   | some (.sl e) => (c.T e).bind fun te => val (.a (.snil te.size e)) nx
   | _ => none
  | .u => none
  | v => some { v := v, upd := [], nn := nx, rd := [] }
 | .pick k a b =>
  (evB fr k).bind fun t => if t then (evA fr a).bind (fun x => val (.a x) nx) else (evA fr b).bind fun x => val (.a x) nx
 | .alloc t => (c.T t).bind fun ti =>
  if ti.zero.length ≠ ti.size ∨ ti.size = 0 then none else some { v := .v (.a (.ptr nx 0 0)), upd := [(nx, some { els := [ti.zero], es := ti.size, ty := t, pr := true, fz := false, ar := false })], nn := nx + 1, rd := [] }
 | .box t x => (c.T t).bind fun ti => (evV fr x).bind fun v =>
  if v.cells.length = ti.size ∧ ti.size ≠ 0 then
  some { v := .v (.a (.ptr nx 0 0)), upd := [(nx, some { els := [v.cells], es := ti.size, ty := t, pr := v.cells.all At.pr, fz := false, ar := false })], nn := nx + 1, rd := [] } else none
 | .makeMap t r => if r.isNone then some { v := .v (.a (.mp nx)), upd := [(nx, some { els := [], es := 0, ty := t, pr := true, fz := false, ar := true, mp := [] })], nn := nx + 1, rd := [] } else none
 | .lookup t x k ok => (evA fr x).bind fun a => (evA fr k).bind fun key => (mapM c.T t mem a key).bind fun q => (c.T q.1).bind fun te =>
  if ok = false ∧ te.agg = false ∧ te.size = 1 ∧ te.zero.length = te.size then
   (match findM q.2.2.mp key with | some r => some r.2 | none => te.zero[0]?).bind fun v => some { v := .v (.a v), upd := [], nn := nx, rd := [q.2.1] }
  else none
 | .mapUpdate t x k y => (evA fr x).bind fun a => (evA fr k).bind fun key => (evA fr y).bind fun v => (mapM c.T t mem a key).bind fun q =>
  if v.pr ∧ !q.2.2.fz then some { v := .u, upd := [(q.2.1, some { q.2.2 with mp := setM q.2.2.mp key v })], nn := nx, rd := [q.2.1] } else none
 | .insert t x k y => (evA fr x).bind fun a => (evA fr k).bind fun key => (evA fr y).bind fun v => (mapM c.T t mem a key).bind fun q =>
  if v.pr ∧ !q.2.2.fz then some { v := .u, upd := [(q.2.1, some { q.2.2 with mp := setM q.2.2.mp key v })], nn := nx, rd := [q.2.1] } else none
 | .build t parts => (c.T t).bind fun ti =>
  match ti.d with
  | .st fs _ => if ti.zero.length ≠ ti.size then none else (mapO (fun p : Nat × Operand => (evV fr p.2).bind fun v => some (p.1, v)) parts.toList).bind fun ps =>
   (fillV fs ti.zero ps).bind fun cs => val (.g cs) nx
  | .arr n e => (c.T e).bind fun te => if ti.zero.length ≠ ti.size then none else (mapO (fun p : Nat × Operand => (evV fr p.2).bind fun v => some (p.1, v)) parts.toList).bind fun ps =>
   (fillV ((List.range n).map fun j => (j * te.size, te.size)) ti.zero ps).bind fun cs => val (.g cs) nx
  | _ => none
 | .buildSlice t len parts =>
  match tdOf c.T t with
  | some (.sl e) => (c.T e).bind fun te =>
   (mapO (fun p : Nat × Operand => (evV fr p.2).bind fun v => some (p.1, fixN te.zero v)) parts.toList).bind fun ps =>
   (fillE te.size (List.replicate len te.zero) ps).bind fun els0 =>
   (frzE mem els0).bind fun els =>
   if len * te.size ≤ 16777216 ∧ 0 < te.size ∧ len < 9223372036854775807 ∧ te.zero.length = te.size then
   some { v := .v (.a (.sm nx 0 len)), upd := fzUpd mem (smnE els0) ++ [(nx, some { els := els, es := te.size, ty := e, pr := els.all fun e => e.all At.pr, fz := false, ar := true })], nn := nx + 1, rd := smnE els0 }
   else none
  | _ => none
 | .load t x => (c.T t).bind fun ti => (evA fr x).bind fun a =>
  match a with
  | .ptr m i o => (mget mem m).bind fun b => if b.ow.isSome then none else (b.els[i]?).bind fun e => (partV ti e o).bind fun v => some { v := .v v, upd := [], nn := nx, rd := [m] }
  | .ptq m i es => stpOut c t m i es mem nx
  | .pp e o => (partV ti e o).bind fun v => val v nx
  | _ => none
 | .store t x y => (c.T t).bind fun ti => (evV fr y).bind fun v => (evA fr x).bind fun a =>
  match a with
  | .ptr m i o => (arF mem m v).bind fun q => (mget (updM mem (fzUpd mem q.2)) m).bind fun b => (b.els[i]?).bind fun e =>
   if q.1.cells.length = ti.size ∧ o + ti.size ≤ e.length ∧ !b.fz ∧ b.ow = none then
    some { v := .u, upd := fzUpd mem q.2 ++ [(m, some { b with els := b.els.set i (putAt e o q.1.cells), pr := b.pr && q.1.cells.all At.pr })], nn := nx, rd := m :: q.2 }
   else none
  | .ptq m i es => if ti.size = 1 then stpInto c t m i es v mem nx else none
  | _ => none
 | .nilCheck x => (evA fr x).bind fun a =>
  match a with
  | .ptq m i es => val (.a (.ptq m i es)) nx
  | .ptr m i o => val (.a (.ptr m i o)) nx
  | .pp e o => val (.a (.pp e o)) nx
  | _ => none
 | .binOp op ty x y _ => match gOf fr x with
  | some cs => (c.T ty).bind fun ti => (evV fr y).bind fun v => eqG op ti cs v nx
  | none => (evA fr x).bind fun a => (evA fr y).bind fun b => valA (binA c.T op ty a b) nx
 | .unOp op _ x => (evA fr x).bind fun a => valA (unA op a) nx
 | .convert src dst x => (evA fr x).bind fun a =>
  match tdOf c.T src, tdOf c.T dst with
  | some (.sl e), some .str => match tdOf c.T e with
   | some (.int .u8) => (elsOf mem 1 a).bind fun q => (byteEls q.2.1).bind fun bs =>
    some { v := .v (.a (.str ⟨bs.toArray⟩)), upd := [], nn := nx, rd := q.2.2.2 }
   | _ => none
  | _, _ => valA (convA c.T src dst a) nx
 | .makeSlice t l k =>
  match tdOf c.T t with
  | some (.sl e) => (c.T e).bind fun te =>
   (evI fr l).bind fun l => (evI fr k).bind fun k =>
    if 0 ≤ l ∧ l ≤ k ∧ k * te.bytes ≤ 140737488355328 ∧ 0 < te.size ∧ 0 < te.bytes ∧ te.zero.length = te.size then
     some { v := .v (.a (.sm nx 0 l.toNat)), upd := [(nx, some { els := List.replicate k.toNat (zf te), es := te.size, ty := e, pr := true, fz := false, ar := true, ow := nestOf c e })], nn := nx + 1, rd := [] }
    else none
  | _ => none
 | .slice t x lo hi mx =>
  if mx.isSome then none else
  (tdOf c.T t).bind fun td => (evA fr x).bind fun a =>
  match td, a with
  | .str, .str s =>
   (boundO fr 0 lo).bind fun l => (boundO fr s.size hi).bind fun h =>
   if 0 ≤ l ∧ l ≤ h ∧ h ≤ s.size then val (.a (.str (s.extract l.toNat h.toNat))) nx else none
  | .sl e, .sl es n els => (c.T e).bind fun te =>
   (boundO fr 0 lo).bind fun l => (boundO fr n hi).bind fun h =>
   if 0 ≤ l ∧ l ≤ h ∧ h ≤ n ∧ es = te.size then val (.a (.sl es (h.toNat - l.toNat) ((els.drop l.toNat).take (h.toNat - l.toNat)))) nx else none
  | .sl e, .sm m b n => (c.T e).bind fun te =>
   (mget mem m).bind fun B =>
   (boundO fr 0 lo).bind fun l => (boundO fr n hi).bind fun h =>
   if 0 ≤ l ∧ l ≤ h ∧ b + h.toNat ≤ B.els.length ∧ (l < h ∨ lo.isNone) ∧ B.es = te.size ∧ 0 < te.size ∧ B.ow = none then some { v := .v (.a (.sm m (b + l.toNat) (h.toNat - l.toNat))), upd := [], nn := nx, rd := [m] } else none
  | _, _ => none
 | .fieldAddr s x f =>
  match tdOf c.T s with
  | some (.st fs _) => (fs[f]?).bind fun p =>
   if p.2 = 0 then none else (evA fr x).bind fun a =>
   match a with
   | .ptr m i o => val (.a (.ptr m i (o + p.1))) nx
   | .pp e o => val (.a (.pp e (o + p.1))) nx
   | _ => none
  | _ => none
 | .field s x f =>
  match tdOf c.T s with
  | some (.st fs ts) => (fs[f]?).bind fun p => (ts[f]?).bind fun ft => (evV fr x).bind fun v =>
   match v with
   | .g cs => (c.T ft).bind fun ti => (partV ti cs p.1).bind fun v => val v nx
   | _ => none
  | _ => none
 | .indexAddr t x i =>
  match tdOf c.T t with
  | some (.sl e) => (c.T e).bind fun te => (evI fr i).bind fun i => (evA fr x).bind fun a =>
   match a with
   | .sl es n els => if 0 ≤ i ∧ i < n ∧ es = te.size then (els[i.toNat]?).bind fun el => val (.a (.pp el 0)) nx else none
   | .sm m b n => if c.nest e then (if 0 ≤ i ∧ i < n ∧ b = 0 then val (.a (.ptq m i.toNat te.size)) nx else none) else
    (mget mem m).bind fun B => if 0 ≤ i ∧ i < n ∧ B.es = te.size then some { v := .v (.a (.ptr m (b + i.toNat) 0)), upd := [], nn := nx, rd := [m] } else none
   | _ => none
  | _ => none
 | .index t x i => match gOf fr x with
  | some cs => (c.T t).bind fun ti => (evI fr i).bind fun i => match ti.d with
   | .arr n e => (c.T e).bind fun te => if te.size = 1 ∧ te.agg = false ∧ 0 ≤ i ∧ i < n then (cs[i.toNat]?).bind fun x => val (.a x) nx else none
   | _ => none
  | none => (tdOf c.T t).bind fun td => (evA fr x).bind fun a => (evI fr i).bind fun i =>
  match td, a with
  | .str, .str s =>
   if 0 ≤ i then (s.data[i.toNat]?).bind fun b => val (.a (.int .u8 b.toNat)) nx else none
  | _, _ => none
 | .extract x i => (ev fr x).bind fun v =>
  match v with
  | .t vs => (vs[i]?).bind fun v => val v nx
  | _ => none
 | .call k =>
  match k.callee with
  | .builtin .len =>
   ((k.argTypes[0]?).bind fun t => tdOf c.T t).bind fun td => ((k.args[0]?).bind fun o => evA fr o).bind fun a =>
   match td, a with
   | .str, .str s => val (.a (.int .i64 s.size)) nx
   | .sl _, .sl _ n _ => val (.a (.int .i64 n)) nx
   | .sl _, .sm _ _ n => val (.a (.int .i64 n)) nx
   | .sl _, .snil .. => val (.a (.int .i64 0)) nx
   | .mp .., .mp m => (mget mem m).bind fun b => some { v := .v (.a (.int .i64 b.mp.length)), upd := [], nn := nx, rd := [m] }
   | _, _ => none
  | .builtin .min =>
   ((k.args[0]?).bind fun o => evA fr o).bind fun a => ((k.args[1]?).bind fun o => evA fr o).bind fun b =>
   if k.args.size = 2 then minA a b nx else none
  | .builtin .max =>
   ((k.args[0]?).bind fun o => evA fr o).bind fun a => ((k.args[1]?).bind fun o => evA fr o).bind fun b =>
   if k.args.size = 2 then maxA a b nx else none
  | .builtin .append =>
   (k.argTypes[0]?).bind fun t => (k.argTypes[1]?).bind fun t' => ((k.args[0]?).bind fun o => evA fr o).bind fun s => ((k.args[1]?).bind fun o => evA fr o).bind fun x =>
   if t' = t then stpAppend c t s x mem nx else none
  | .builtin .clear =>
   (k.argTypes[0]?).bind fun t => ((k.args[0]?).bind fun o => evA fr o).bind fun a => stpClear c t a mem nx
  | .builtin _ => none
  | .value f =>
   (evA fr f).bind fun a => match a with
   | .fn g cs => (mapO (evV fr) k.args.toList).bind fun args => stpCall c callF g (args ++ cs.map Vl.a) mem nx
   | _ => none
  | .invoke .. => none
 | .makeFunc fn first cs => if first.isEmpty then match fn with
  | .func f => (mapO (evA fr) cs.toList).bind fun xs => (mapO (capA mem) xs).bind fun ps =>
   some { v := .v (.a (.fn f (ps.map (·.1)))), upd := fzUpd mem (ps.flatMap (·.2)), nn := nx, rd := ps.flatMap (·.2) }
  | _ => none
  else none
 | _ => none

def putD (nt : Nat) (fr : List (Nat × Sv)) : Option Nat → Sv → Option (List (Nat × Sv))
 | some d, v => if d < nt then some ((d, v) :: fr) else none
 | none, _ => some fr

/-- Is the operation wanted? -/
def wantO (ops : List Oper) (o : Oper) (fr : List (Nat × Sv)) : Option Bool :=
 match o.guard with
 | none => some true
 | some (j, want) =>
  ((ops[j]?).bind (·.dst)).bind fun d =>
  (lk fr d).bind fun v =>
  match v with
  | .v (.a (.bool b)) => some (b == want)
  | _ => some false

structure Info where
 rd : List Nat
 wr : List Nat

/-- One operation behind the other; what is to be done next is no open function, so that nothing is looked at before its time. -/
def putK (F : St → List Info → Option (St × List Info)) (mem : Mem) (nx : Nat) (i : Info) (is : List Info) : Option (List (Nat × Sv)) → Option (St × List Info)
 | none => none
 | some fr => F { fr := fr, mem := mem, nx := nx } (i :: is)
def didK (F : St → List Info → Option (St × List Info)) (nt : Nat) (o : Oper) (σ : St) (is : List Info) : Option Eff → Option (St × List Info)
 | none => none
 | some e => putK F (updM σ.mem e.upd) e.nn { rd := e.rd, wr := e.upd.map (·.1) } is (putD nt σ.fr o.dst e.v)
def wantK (F : St → List Info → Option (St × List Info)) (nt : Nat) (o : Oper) (σ : St) (is : List Info) : Option Bool → Option (St × List Info)
 | none => none
 | some true => didK F nt o σ is (stp c callF o σ.fr σ.mem σ.nx)
 | some false => putK F σ.mem σ.nx { rd := [], wr := [] } is (putD nt σ.fr o.dst .u)
def runOps (nt : Nat) (ops : List Oper) : List Oper → St → List Info → Option (St × List Info)
 | [], σ, is => some (σ, is)
 | o :: r, σ, is => wantK c callF (runOps nt ops r) nt o σ is (wantO ops o σ.fr)
end

/-- Each operation's ancestors, as bits. -/
def ancs (ops : List Oper) : List Nat :=
 ops.foldl (fun acc o => acc ++ [(o.after.toList.filter (Region.binds .any)).foldl (fun m e => m ||| 2 ^ e.on ||| acc.getD e.on 0) 0]) []
def slotsOf (ops : List Oper) (o : Oper) : List Nat :=
 (o.op.operands.toList.filterMap fun | .tmp t => some t | _ => none) ++
 (match o.guard with | some (j, _) => ((ops[j]?).bind (·.dst)).toList | none => [])
def meets (xs ys : List Nat) : Bool := xs.any ys.contains
def clash (ops : List Oper) (o p : Oper) (i j : Info) : Bool :=
 (match o.dst with | some d => (slotsOf ops p).contains d || p.dst == some d | none => false) ||
 (match p.dst with | some d => (slotsOf ops o).contains d | none => false) ||
 meets i.wr j.rd || meets i.wr j.wr || meets i.rd j.wr
def okPairs (ops : List Oper) (an : List Nat) (is : List Info) : Bool :=
 (List.range ops.length).all fun j => (List.range j).all fun i =>
  match ops[i]?, ops[j]?, is[i]?, is[j]? with
  | some o, some p, some a, some b => !(clash ops o p a b) || (an.getD j 0).testBit i
  | _, _, _, _ => false
def okDraw (ops : List Oper) (is : List Info) : Bool :=
 is.length == ops.length && okPairs ops (ancs ops) is &&
 ops.zipIdx.all (fun p => p.1.after.all fun e => !(Region.binds .any e) || decide (e.on < p.2))

inductive Out where
 | norm (σ : St)
 | exit (id : Nat) (σ : St)
 | ret (σ : St)

/-- What a loop's head keeps; own slices for nil ones; names anew: first those that came in. -/
def ownA (nx : Nat) : At → At × Mem × Nat
 | .snil es ty => (.sm nx 0 0, [(nx, some { els := [], es := es, ty := ty, pr := true, fz := false, ar := true })], nx + 1)
 | x => (x, [], nx)
def ownL : Nat → List At → List At × Mem × Nat
 | nx, [] => ([], [], nx)
 | nx, x :: r => let p := ownA nx x; let q := ownL p.2.2 r; (p.1 :: q.1, p.2.1 ++ q.2.1, q.2.2)
def keepL (σ : St) : List Kp → Option (List (Nat × Sv) × Mem × Nat)
 | [] => some ([], [], σ.nx)
 | .s t :: r => (keepL σ r).bind fun q =>
  match lk σ.fr t with
  | some (.v (.a x)) => let p := ownA q.2.2 x; some ((t, .v (.a p.1)) :: q.1, q.2.1 ++ p.2.1, p.2.2)
  | some (.v (.g cs)) => let p := ownL q.2.2 cs; some ((t, .v (.g p.1)) :: q.1, q.2.1 ++ p.2.1, p.2.2)
  | _ => none
 | .b t :: r => (keepL σ r).bind fun q =>
  match lk σ.fr t with
  | some (.v (.a (.ptr m 0 o))) => (mget (updM σ.mem q.2.1) m).bind fun b =>
   if b.ow.isSome then none else match b.els with
   | [e] => let p := ownL q.2.2 e
    some ((t, .v (.a (.ptr m 0 o))) :: q.1, q.2.1 ++ (p.2.1 ++ [(m, some { b with els := [p.1], pr := p.1.all At.pr })]), p.2.2)
   | _ => none
  | _ => none
def renS (ρ : Nat → Option Nat) : List (Nat × Sv) → Option (List (Nat × Sv))
 | [] => some []
 | (t, .v x) :: r => (renV ρ x).bind fun y => (renS ρ r).bind fun s => some ((t, .v y) :: s)
 | _ => none
/-- All inner slices come home. -/
def home1 (mem : Mem) (m : Nat) : Mem := match mget mem m with
 | some b => match b.ow with
  | some q => if b.pr ∨ b.fz then mem else (match stl mem b q with
   | some s => updM mem (s.2.map (fun x => (x, none)) ++ [(m, some { b with els := s.1, pr := true })])
   | none => mem)
  | none => mem
 | none => mem
def homeM : List Nat → Mem → Mem
 | [], mem => mem
 | m :: r, mem => homeM r (home1 mem m)
def headN (p : Nat) (ks : List Kp) (σ0 : St) : Option St :=
 let σ : St := { σ0 with mem := homeM (List.range σ0.nx) σ0.mem }
 (keepL σ ks).bind fun q =>
 let mem := updM σ.mem q.2.1
 let N := clo (namesM mem) 64 (List.range p ++ namesV (q.1.filterMap fun s => match s.2 with | .v x => some x | _ => none)) []
 (renS (idx N) q.1).bind fun fr =>
 (mapO (fun m => (mget mem m).bind (renB (idx N))) N).bind fun bs =>
 if N.take p = List.range p then some { fr := fr, mem := zipU (List.range N.length) bs, nx := N.length } else none

def seqK (F : St → Option Out) : Option Out → Option Out
 | none => none
 | some (.norm σ) => F σ
 | some (.exit i σ) => some (.exit i σ)
 | some (.ret σ) => some (.ret σ)
def blkK (id : Nat) : Option Out → Option Out
 | none => none
 | some (.norm σ) => some (.norm σ)
 | some (.exit i σ) => if i = id then some (.norm σ) else some (.exit i σ)
 | some (.ret σ) => some (.ret σ)
def cndK (F G : St → Option Out) (σ : St) : Option Bool → Option Out
 | none => none
 | some true => F σ
 | some false => G σ
def regK (draw : Bool) (ops : List Oper) : Option (St × List Info) → Option Out
 | none => none
 | some r => if draw && !(okDraw ops r.2.reverse) then none else some (.norm r.1)
def hdK (body : St → Option Out) : Option St → Option Out
 | none => none
 | some σ => body σ
def loopN (hd : St → Option St) (body : St → Option Out) : Nat → St → Option Out
 | 0, _ => none
 | n + 1, σ => seqK (loopN hd body n) (hdK body (hd σ))

def runC (c : Cfg) (callF : FuncId → List Vl → List Blk → Option (List Vl × List Blk)) (kp : Nat → List Kp) (nt k p : Nat) : Nat → Code → St → Option Out
 | _, .skip, σ => some (.norm σ)
 | _, .region _ ops draw, σ => regK draw ops.toList (runOps c callF nt ops.toList ops.toList σ [])
 | b, .seq x y, σ => seqK (runC c callF kp nt k p b y) (runC c callF kp nt k p b x σ)
 | b, .cond o x y, σ => cndK (runC c callF kp nt k p b x) (runC c callF kp nt k p b y) σ (evB σ.fr o)
 | _, .block id x, σ => blkK id (runC c callF kp nt k p id x σ)
 | b, .loop x, σ => loopN (headN p (kp b)) (runC c callF kp nt k p b x) k σ
 | _, .exit id, σ => some (.exit id σ)
 | _, .ret, σ => some (.ret σ)
 | _, .rangeFunc .., _ => none
 | _, .scope _, _ => none
 | _, .label _, _ => none
 | _, .goto _, _ => none
 | _, .refuse _, _ => none

def enum {β : Type} : Nat → List β → List (Nat × β)
 | _, [] => []
 | n, x :: r => (n, x) :: enum (n + 1) r

def resOf (c : Cfg) (σ : St) : ResultVar → Option Vl
 | .tmp t => evV σ.fr (.tmp t)
 | .cell a t => (c.T t).bind fun ti =>
  (evA σ.fr (.tmp a)).bind fun x => match x with
  | .ptr m i o => (mget σ.mem m).bind fun b => if b.ow.isSome then none else (b.els[i]?).bind fun e => partV ti e o
  | _ => none
def ownVs : Nat → List Vl → List Vl × Mem × Nat
 | nx, [] => ([], [], nx)
 | nx, .a x :: r => let p := ownA nx x; let q := ownVs p.2.2 r; (.a p.1 :: q.1, p.2.1 ++ q.2.1, q.2.2)
 | nx, .g cs :: r => let p := ownL nx cs; let q := ownVs p.2.2 r; (.g p.1 :: q.1, p.2.1 ++ q.2.1, q.2.2)

def finish (c : Cfg) (f : FuncId) (fn : Func) (p : Nat) (σ : St) : Option (List Vl × List Blk) :=
 (mapO (resOf c σ) fn.results.toList).bind fun rs0 =>
 let q := if c.ownR f then ownVs σ.nx rs0 else (rs0, [], σ.nx)
 let mem := updM σ.mem q.2.1
 (if c.ownR f then some q.1 else mapO (frzV mem) rs0).bind fun rs =>
 let N := clo (fun m => if c.mutA f then namesM mem m else ptrsM mem m) 64 (List.range p ++ namesV rs) []
 let F := (if c.ownR f then [] else smnV rs0) ++ (if c.mutA f then [] else N.flatMap (smnM mem))
 let mem1 := updM mem (fzUpd mem F)
 (mapO (renV (idx N)) rs).bind fun rs' =>
 (mapO (fun m => (mget mem1 m).bind fun b => (if c.mutA f then some b else frzB mem b).bind (renB (idx N))) N).bind fun bs =>
 if N.take p = List.range p then some (rs', bs) else none

def finK (c : Cfg) (f : FuncId) (fn : Func) (p : Nat) : Option Out → Option (List Vl × List Blk)
 | none => none
 | some (.norm σ) => finish c f fn p σ
 | some (.ret σ) => finish c f fn p σ
 | some (.exit ..) => none
def bodyK (c : Cfg) (callF : FuncId → List Vl → List Blk → Option (List Vl × List Blk)) (k : Nat) (f : FuncId) (args : List Vl) (blks : List Blk) (fn : Func) : Option Code → Option (List Vl × List Blk)
 | none => none
 | some body =>
  if args.length = fn.params.size + fn.nfree ∧ args.length ≤ fn.ntmps then
   finK c f fn blks.length (runC c callF (c.keep f) fn.ntmps k blks.length 0 body { fr := enum 0 (args.map Sv.v), mem := enum 0 (blks.map some), nx := blks.length })
  else none
def call (c : Cfg) : Nat → FuncId → List Vl → List Blk → Option (List Vl × List Blk)
 | 0, _, _, _ => none
 | k + 1, f, args, blks =>
  match c.X f with
  | some g => g args blks
  | none => (c.F f).bind fun fn => bodyK c (call c k) k f args blks fn fn.body

end Go.Proofs.Ytgiamleohegjeaa.Am
set_option linter.unusedVariables false
set_option linter.unusedSimpArgs false
namespace Go.Proofs.Ytgiamleohegjeaa.Am
open Go

structure Loc where
 b : Nat
 sz : Nat
 es : Nat
abbrev Io := Nat → Option Loc
abbrev Hp := Nat → Option Obj

inductive RP (h : Hp) : At → Value → Prop
 | int (k n) : RP h (.int k n) (.int k n)
 | bool (b) : RP h (.bool b) (.bool b)
 | str (s) : RP h (.str s) (.string s)
 | snil (es ty) : RP h (.snil es ty) (.slice none 0 0)
 | nilp : RP h .nilp (.pointer none)
 | fn (f : FuncId) (cs : List At) (U : Array Value) (us : Nat → Value) (hn : cs.length = U.size)
   (hu : ∀ (j : Nat) (x : At), cs[j]? = some x → U[j]? = some (us j))
   (hr : ∀ (j : Nat) (x : At), cs[j]? = some x → RP h x (us j)) : RP h (.fn f cs) (.func (.func f) #[] U)
 | sl0 (es A c) : RP h (.sl es 0 []) (.slice A 0 c)
 | sl (n : Nat) (els : List (List At)) (b off c es : Nat) (C : Array Value) (t : TypeId) (z : Nat × Nat) (us : Nat → Nat → Value)
   (hb : h b = some (.cells C t z)) (hn : els.length = n) (hc : n ≤ c)
   (hl : ∀ (i : Nat) (e : List At), els[i]? = some e → e.length = es)
   (hu : ∀ (i : Nat) (e : List At) (j : Nat) (x : At), els[i]? = some e → e[j]? = some x → C[off + (i * es + j)]? = some (us i j))
   (hr : ∀ (i : Nat) (e : List At) (j : Nat) (x : At), els[i]? = some e → e[j]? = some x → RP h x (us i j)) : RP h (.sl es n els) (.slice (some ⟨b, off, none⟩) n c)
 | pp (e : List At) (o b off : Nat) (C : Array Value) (t : TypeId) (z : Nat × Nat) (us : Nat → Value)
   (hb : h b = some (.cells C t z))
   (hu : ∀ (j : Nat) (x : At), e[j]? = some x → C[off + j]? = some (us j))
   (hr : ∀ (j : Nat) (x : At), e[j]? = some x → RP h x (us j)) : RP h (.pp e o) (.pointer (some ⟨b, off + o, none⟩))

def Sub (h h' : Hp) : Prop := ∀ b o, h b = some o → h' b = some o
theorem Sub.refl (h : Hp) : Sub h h := fun _ _ e => e
theorem Sub.trans {a b c : Hp} (x : Sub a b) (y : Sub b c) : Sub a c := fun i o e => y i o (x i o e)

theorem RP.mono {h h' : Hp} (hs : Sub h h') {x : At} {v : Value} (hr : RP h x v) : RP h' x v := by
 induction hr with
 | int k n => exact .int k n
 | bool b => exact .bool b
 | str s => exact .str s
 | snil a b => exact .snil a b
 | nilp => exact .nilp
 | fn f cs U us hn hu hr ih => exact .fn f cs U us hn hu ih
 | sl0 a b c => exact .sl0 a b c
 | sl n els b off c es C t z us hb hn hc hl hu hr ih => exact .sl n els b off c es C t z us (hs _ _ hb) hn hc hl hu ih
 | pp e o b off C t z us hb hu hr ih => exact .pp e o b off C t z us (hs _ _ hb) hu ih

def RA (ι : Io) (h : Hp) : At → Value → Prop
 | .ptr m i o, v => ∃ L, ι m = some L ∧ v = .pointer (some ⟨L.b, i * L.es + o, none⟩)
 | .sm m lo n, v => (∃ L c, ι m = some L ∧ v = .slice (some ⟨L.b, lo * L.es, none⟩) n c ∧ (lo + c) * L.es = L.sz ∧ n ≤ c ∧ c ≤ maxLen) ∨
   (ι m = none ∧ lo = 0 ∧ n = 0 ∧ v = .slice none 0 0)
 | .mp m, v => ∃ L, ι m = some L ∧ v = .map (some L.b) ∧ L.es = 0
 | .ptq m i es, v => ∃ L, ι m = some L ∧ v = .pointer (some ⟨L.b, i * es, none⟩)
 | x, v => RP h x v

theorem RA.ofRP {ι : Io} {h : Hp} {x : At} {v : Value} (hr : RP h x v) : RA ι h x v := by
 cases hr <;> first | exact .int _ _ | exact .bool _ | exact .str _ | exact .snil _ _ | exact .nilp | exact .sl0 _ _ _ | skip
 ·exact .fn _ _ _ _ ‹_› ‹_› ‹_›
 ·exact .sl _ _ _ _ _ _ _ _ _ _ ‹_› ‹_› ‹_› ‹_› ‹_› ‹_›
 ·exact .pp _ _ _ _ _ _ _ _ ‹_› ‹_› ‹_›
theorem RA.toRP {ι : Io} {h : Hp} {x : At} {v : Value} (hp : x.pr = true) (hr : RA ι h x v) : RP h x v := by
 cases x <;> first | exact hr | simp [At.pr] at hp

theorem RA.mono {ι ι' : Io} {h h' : Hp} (hs : Sub h h') {x : At} {v : Value} (hi : ∀ m ∈ x.nm, ι' m = ι m) (hr : RA ι h x v) : RA ι' h' x v := by
 cases x with
 | ptr m i o => obtain ⟨L, e, rfl⟩ := hr; exact ⟨L, by rw [hi m (by simp [At.nm]), e], rfl⟩
 | sm m lo n =>
  rcases hr with ⟨L, c, e, r⟩ | ⟨e, r⟩
  ·exact .inl ⟨L, c, by rw [hi m (by simp [At.nm]), e], r⟩
  ·exact .inr ⟨by rw [hi m (by simp [At.nm]), e], r⟩
 | mp m => obtain ⟨L, e, r⟩ := hr; exact ⟨L, by rw [hi m (by simp [At.nm]), e], r⟩
 | ptq m i es => obtain ⟨L, e, r⟩ := hr; exact ⟨L, by rw [hi m (by simp [At.nm]), e], r⟩
 | _ => exact RP.mono hs hr

theorem RP.oneCell {h : Hp} {x : At} {v : Value} (hr : RP h x v) : v.oneCell' = true := by cases hr <;> rfl
theorem RA.oneCell {ι : Io} {h : Hp} {x : At} {v : Value} (hr : RA ι h x v) : v.oneCell' = true := by
 cases x with
 | ptr m i o => obtain ⟨L, e, rfl⟩ := hr; rfl
 | sm m lo n => rcases hr with ⟨L, c, e, rfl, _⟩ | ⟨e, _, _, rfl⟩ <;> rfl
 | mp m => obtain ⟨L, e, rfl, _⟩ := hr; rfl
 | ptq m i es => obtain ⟨L, e, rfl⟩ := hr; rfl
 | _ => exact RP.oneCell hr
theorem cells_of_oneCell {v : Value} (h : v.oneCell' = true) : v.cells = #[v] := by
 cases v <;> first | rfl | (simp [Value.oneCell'] at h)

def RL (ι : Io) (h : Hp) (cs : List At) (us : List Value) : Prop := cs.length = us.length ∧ ∀ (j : Nat) (x : At), cs[j]? = some x → ∃ u, us[j]? = some u ∧ RA ι h x u
theorem RL.nil {ι : Io} {h : Hp} : RL ι h [] [] := ⟨rfl, by simp⟩
theorem RL.cons {ι : Io} {h : Hp} {x : At} {u : Value} {cs : List At} {us : List Value} (h1 : RA ι h x u) (h2 : RL ι h cs us) : RL ι h (x :: cs) (u :: us) := by
 refine ⟨by simp [h2.1], fun j y e => ?_⟩
 cases j with
 | zero => simp at e; subst e; exact ⟨u, rfl, h1⟩
 | succ j => simp at e; simpa using h2.2 j y e
theorem RL.append {ι : Io} {h : Hp} {cs ds : List At} {us vs : List Value} (h1 : RL ι h cs us) (h2 : RL ι h ds vs) : RL ι h (cs ++ ds) (us ++ vs) := by
 refine ⟨by simp [h1.1, h2.1], fun j y e => ?_⟩
 rw [List.getElem?_append] at e ⊢
 by_cases hj : j < cs.length
 ·rw [if_pos hj] at e; rw [if_pos (by rw [← h1.1]; exact hj)]; exact h1.2 j y e
 ·rw [if_neg hj] at e; rw [if_neg (by rw [← h1.1]; exact hj), ← h1.1]; exact h2.2 _ y e
theorem RL.take {ι : Io} {h : Hp} {cs : List At} {us : List Value} (h1 : RL ι h cs us) (n : Nat) : RL ι h (cs.take n) (us.take n) := by
 refine ⟨by simp [h1.1], fun j y e => ?_⟩
 rw [List.getElem?_take] at e ⊢
 split at e
 ·rw [if_pos ‹_›]; exact h1.2 j y e
 ·simp at e
theorem RL.drop {ι : Io} {h : Hp} {cs : List At} {us : List Value} (h1 : RL ι h cs us) (n : Nat) : RL ι h (cs.drop n) (us.drop n) := by
 refine ⟨by simp [h1.1], fun j y e => ?_⟩
 rw [List.getElem?_drop] at e ⊢
 exact h1.2 _ y e
theorem RL.mono {ι ι' : Io} {h h' : Hp} (hs : Sub h h') {cs : List At} {us : List Value} (hi : ∀ x ∈ cs, ∀ m ∈ x.nm, ι' m = ι m) (hr : RL ι h cs us) : RL ι' h' cs us :=
 ⟨hr.1, fun j x e => let ⟨u, e1, e2⟩ := hr.2 j x e; ⟨u, e1, e2.mono hs (hi x (List.mem_of_getElem? e))⟩⟩
theorem RL.put {ι : Io} {h : Hp} {cs xs : List At} {us vs : List Value} (h1 : RL ι h cs us) (h2 : RL ι h xs vs) (o : Nat) : RL ι h (putAt cs o xs) (us.take o ++ vs ++ us.drop (o + vs.length)) := by
 unfold putAt
 rw [h2.1]
 exact ((h1.take o).append h2).append (h1.drop _)

def RV (ι : Io) (h : Hp) : Vl → Value → Prop
 | .a x, v => RA ι h x v
 | .g cs, v => ∃ U : Array Value, v = .agg U ∧ RL ι h cs U.toList
theorem RV.cells {ι : Io} {h : Hp} {x : Vl} {v : Value} (hr : RV ι h x v) : RL ι h x.cells v.cells.toList := by
 cases x with
 | a x => rw [cells_of_oneCell (RA.oneCell hr)]; exact RL.cons hr RL.nil
 | g cs => obtain ⟨U, rfl, hl⟩ := hr; exact hl
theorem RV.mono {ι ι' : Io} {h h' : Hp} (hs : Sub h h') {x : Vl} {v : Value} (hi : ∀ y ∈ x.cells, ∀ m ∈ y.nm, ι' m = ι m) (hr : RV ι h x v) : RV ι' h' x v := by
 cases x with
 | a x => exact RA.mono hs (hi x (by simp [Vl.cells])) hr
 | g cs => obtain ⟨U, rfl, hl⟩ := hr; exact ⟨U, rfl, hl.mono hs hi⟩

def RVs (ι : Io) (h : Hp) (xs : List Vl) (vs : List Value) : Prop := xs.length = vs.length ∧ ∀ (j : Nat) (x : Vl), xs[j]? = some x → ∃ u, vs[j]? = some u ∧ RV ι h x u
def Vl.nms (x : Vl) : List Nat := x.cells.flatMap At.nm
theorem RVs.mono {ι ι' : Io} {h h' : Hp} (hs : Sub h h') {xs : List Vl} {vs : List Value} (hi : ∀ m ∈ namesV xs, ι' m = ι m) (hr : RVs ι h xs vs) : RVs ι' h' xs vs :=
 ⟨hr.1, fun j x e => let ⟨u, e1, e2⟩ := hr.2 j x e; ⟨u, e1, e2.mono hs fun y hy m hm => hi m (by
  simp only [namesV, List.mem_flatMap]
  exact ⟨x, List.mem_of_getElem? e, y, hy, hm⟩)⟩⟩

def RS (ι : Io) (h : Hp) : Sv → Value → Prop
 | .v x, v => RV ι h x v
 | .t xs, v => ∃ U : Array Value, v = .tuple U ∧ RVs ι h xs U.toList
 | .u, v => v = undef
def Sv.nms : Sv → List Nat
 | .v x => namesV [x]
 | .t xs => namesV xs
 | .u => []
theorem RS.mono {ι ι' : Io} {h h' : Hp} (hs : Sub h h') {x : Sv} {v : Value} (hi : ∀ m ∈ x.nms, ι' m = ι m) (hr : RS ι h x v) : RS ι' h' x v := by
 cases x with
 | v x => exact RV.mono hs (fun y hy m hm => hi m (by simp only [Sv.nms, namesV, List.mem_flatMap]; exact ⟨x, by simp, y, hy, hm⟩)) hr
 | t xs => obtain ⟨U, rfl, hl⟩ := hr; exact ⟨U, rfl, hl.mono hs hi⟩
 | u => exact hr

def RBs (ι : Io) (h : Hp) (C : Array Value) (es : Nat) (els : List (List At)) : Prop :=
 ∀ (i : Nat) (e : List At), els[i]? = some e → e.length = es ∧ ∀ (j : Nat) (x : At), e[j]? = some x → ∃ u, C[i * es + j]? = some u ∧ RA ι h x u
def Blk.nms (B : Blk) : List Nat := B.els.flatMap fun e => e.flatMap At.nm
theorem RBs.mono {ι ι' : Io} {h h' : Hp} (hs : Sub h h') {C : Array Value} {es : Nat} {els : List (List At)} (hi : ∀ m ∈ els.flatMap (fun e => e.flatMap At.nm), ι' m = ι m) (hr : RBs ι h C es els) : RBs ι' h' C es els :=
 fun i e he => ⟨(hr i e he).1, fun j x hx => let ⟨u, e1, e2⟩ := (hr i e he).2 j x hx; ⟨u, e1, e2.mono hs fun m hm => hi m (by
  simp only [List.mem_flatMap]
  exact ⟨e, List.mem_of_getElem? he, x, List.mem_of_getElem? hx, hm⟩)⟩⟩

/-- A block of cells. -/
def RC (ι : Io) (h : Hp) (w : World) (L : Loc) (B : Blk) : Prop := ∃ C, w.heap[L.b]? = some (.cells C B.ty (0, 0)) ∧ C.size = L.sz ∧ L.es = B.es ∧ RBs ι h C B.es B.els
/-- A map's entries: each was born at its place. -/
def RMs (h : Hp) (es : List MapEntry) (mp : List (At × At)) : Prop :=
 es.length = mp.length ∧ ∀ (i : Nat) (p : At × At), mp[i]? = some p → ∃ e, es[i]? = some e ∧ e.born = i ∧ RP h p.1 e.key ∧ RP h p.2 e.val
/-- A map. -/
def RM (h : Hp) (w : World) (L : Loc) (B : Blk) : Prop := (B.els = [] ∧ B.es = 0 ∧ L.es = 0) ∧ ∃ es : Array MapEntry, w.heap[L.b]? = some (.map es es.size) ∧ RMs h es.toList B.mp
/-- An inner slice that a block owns. -/
def Ro (h : Hp) (w : World) (q : TypeId × Nat) (n : Nat) (rows : List (List At)) (u : Value) : Prop :=
 (n = 0 ∧ rows = [] ∧ u = .slice none 0 0) ∨
 ∃ b c C, u = .slice (some ⟨b, 0, none⟩) n c ∧ w.heap[b]? = some (.cells C q.1 (0, 0)) ∧ C.size = c * q.2 ∧ n ≤ c ∧ c ≤ maxLen ∧ rows.length = n ∧
  ∀ (k : Nat) (row : List At), rows[k]? = some row → row.length = q.2 ∧ ∀ (j : Nat) (x : At), row[j]? = some x → ∃ v, C[k * q.2 + j]? = some v ∧ x.pr = true ∧ RP h x v
/-- A cell of a block that owns its inner slices. -/
def Rc (ι : Io) (h : Hp) (w : World) (q : TypeId × Nat) (x : At) (u : Value) : Prop :=
 (∃ n rows, x = .sl q.2 n rows ∧ Ro h w q n rows u) ∨ ((∀ es n rows, x ≠ .sl es n rows) ∧ RA ι h x u)
/-- The block that the cell i owns. -/
def Inn (els : List (List At)) (C : Array Value) (i b : Nat) : Prop := ∃ es n rows o n' c, els[i]? = some [.sl es n rows] ∧ C[i]? = some (.slice (some ⟨b, o, none⟩) n' c)
/-- A block that owns its inner slices. -/
def RN (ι : Io) (h : Hp) (w : World) (L : Loc) (B : Blk) (q : TypeId × Nat) : Prop :=
 ∃ C, w.heap[L.b]? = some (.cells C B.ty (0, 0)) ∧ C.size = L.sz ∧ L.es = B.es ∧ B.es = 1 ∧ 0 < q.2 ∧
  (∀ (i : Nat) (e : List At), B.els[i]? = some e → ∃ x u, e = [x] ∧ C[i]? = some u ∧ Rc ι h w q x u) ∧
  (∀ i j b, Inn B.els C i b → Inn B.els C j b → i = j) ∧ (∀ i b, Inn B.els C i b → b ≠ L.b)
/-- Which cells of the heap a block is. -/
def Ft (w : World) (L : Loc) (B : Blk) (b : Nat) : Prop := b = L.b ∨ (B.ow.isSome = true ∧ ∃ C t z i, w.heap[L.b]? = some (.cells C t z) ∧ Inn B.els C i b)
theorem Ft.self {w : World} {L : Loc} {B : Blk} : Ft w L B L.b := .inl rfl
theorem Ft.plain {w : World} {L : Loc} {B : Blk} {b : Nat} (ho : B.ow = none) (h : Ft w L B b) : b = L.b := by
 rcases h with h | ⟨h, _⟩
 ·exact h
 ·rw [ho] at h; cases h
theorem Ft.to {w w' : World} {L : Loc} {B B' : Blk} {b : Nat} (h : Ft w L B b) (hh : w'.heap[L.b]? = w.heap[L.b]?) (ho : B'.ow = B.ow) (he : B'.els = B.els) : Ft w' L B' b := by
 rcases h with h | ⟨h, C, t, z, i, h1, h2⟩
 ·exact .inl h
 ·exact .inr ⟨by rw [ho]; exact h, C, t, z, i, by rw [hh]; exact h1, by rw [he]; exact h2⟩
def RB (ι : Io) (h : Hp) (w : World) (m : Nat) (B : Blk) : Prop :=
 match ι m with
 | none => B.els = []
 | some L => match B.ow with
  | none => (RC ι h w L B ∧ B.es ≠ 0) ∨ RM h w L B
  | some q => RN ι h w L B q
theorem RMs.mono {h h' : Hp} (hs : Sub h h') {es : List MapEntry} {mp : List (At × At)} (hr : RMs h es mp) : RMs h' es mp :=
 ⟨hr.1, fun i p e => let ⟨x, e1, e2, e3, e4⟩ := hr.2 i p e; ⟨x, e1, e2, e3.mono hs, e4.mono hs⟩⟩
theorem RB.plain {ι : Io} {h : Hp} {w : World} {m : Nat} {B : Blk} {L : Loc} (hb : RB ι h w m B) (hL : ι m = some L) (ho : B.ow = none) : (RC ι h w L B ∧ B.es ≠ 0) ∨ RM h w L B := by
 unfold RB at hb
 rw [hL, ho] at hb
 exact hb
theorem RB.nest {ι : Io} {h : Hp} {w : World} {m : Nat} {B : Blk} {L : Loc} {q : TypeId × Nat} (hb : RB ι h w m B) (hL : ι m = some L) (ho : B.ow = some q) : RN ι h w L B q := by
 unfold RB at hb
 rw [hL, ho] at hb
 exact hb
theorem RB.ofN {ι : Io} {h : Hp} {w : World} {m : Nat} {B : Blk} {L : Loc} {q : TypeId × Nat} (hL : ι m = some L) (ho : B.ow = some q) (hb : RN ι h w L B q) : RB ι h w m B := by
 unfold RB
 rw [hL, ho]
 exact hb
theorem RB.cells {ι : Io} {h : Hp} {w : World} {m : Nat} {B : Blk} {L : Loc} (hb : RB ι h w m B) (hL : ι m = some L) (ho : B.ow = none) (h0 : B.els = [] → B.es = 0 → L.es = 0 → False) : RC ι h w L B := by
 rcases hb.plain hL ho with hb | ⟨⟨h1, h2, h3⟩, _⟩
 ·exact hb.1
 ·exact (h0 h1 h2 h3).elim
theorem RB.map {ι : Io} {h : Hp} {w : World} {m : Nat} {B : Blk} {L : Loc} (hb : RB ι h w m B) (hL : ι m = some L) (h0 : L.es = 0) : B.ow = none ∧ RM h w L B := by
 cases ho : B.ow with
 | none =>
  rcases hb.plain hL ho with ⟨⟨C, _, _, h1, _⟩, h2⟩ | hb
  ·exact absurd (h1 ▸ h0) h2
  ·exact ⟨rfl, hb⟩
 | some q =>
  obtain ⟨C, _, _, h1, h2, _⟩ := hb.nest hL ho
  rw [h0, h2] at h1; cases h1
theorem RB.esq {ι : Io} {h : Hp} {w : World} {m : Nat} {B : Blk} {L : Loc} (hb : RB ι h w m B) (hL : ι m = some L) : L.es = B.es := by
 cases ho : B.ow with
 | none =>
  rcases hb.plain hL ho with ⟨⟨C, _, _, h, _⟩, _⟩ | ⟨⟨h1, h2, h3⟩, _⟩
  ·exact h
  ·rw [h2, h3]
 | some q => obtain ⟨C, _, _, h1, _⟩ := hb.nest hL ho; exact h1
theorem RB.els0 {ι : Io} {h : Hp} {w : World} {m : Nat} {B : Blk} (hb : RB ι h w m B) (hL : ι m = none) : B.els = [] := by
 unfold RB at hb
 rwa [hL] at hb
theorem RB.ofC {ι : Io} {h : Hp} {w : World} {m : Nat} {B : Blk} {L : Loc} (hL : ι m = some L) (ho : B.ow = none) (hc : RC ι h w L B) (h0 : B.es ≠ 0) : RB ι h w m B := by
 unfold RB
 rw [hL, ho]
 exact .inl ⟨hc, h0⟩
theorem Ro.to {h h' : Hp} {w w' : World} {q : TypeId × Nat} {n : Nat} {rows : List (List At)} {u : Value} (hr : Ro h w q n rows u) (hs : Sub h h') (hh : ∀ b o n' c, u = .slice (some ⟨b, o, none⟩) n' c → w'.heap[b]? = w.heap[b]?) : Ro h' w' q n rows u := by
 rcases hr with hr | ⟨b, c, C, e1, e2, e3, e4, e5, e6, e7⟩
 ·exact .inl hr
 ·exact .inr ⟨b, c, C, e1, by rw [hh _ _ _ _ e1]; exact e2, e3, e4, e5, e6, fun k row hk => ⟨(e7 k row hk).1, fun j x hj => let ⟨v, q1, q2, q3⟩ := (e7 k row hk).2 j x hj; ⟨v, q1, q2, q3.mono hs⟩⟩⟩
theorem RN.to {ι ι' : Io} {h h' : Hp} {w w' : World} {L : Loc} {B : Blk} {q : TypeId × Nat} (hb : RN ι h w L B q) (hh : ∀ b, b = L.b ∨ (∃ C i, w.heap[L.b]? = some (.cells C B.ty (0, 0)) ∧ Inn B.els C i b) → w'.heap[b]? = w.heap[b]?) (hs : Sub h h') (hn : ∀ x ∈ B.nms, ι' x = ι x) : RN ι' h' w' L B q := by
 obtain ⟨C, e1, e2, e3, e4, e5, e6, e7, e8⟩ := hb
 refine ⟨C, by rw [hh _ (.inl rfl)]; exact e1, e2, e3, e4, e5, fun i e hi => ?_, e7, e8⟩
 obtain ⟨x, u, rfl, hu, hr⟩ := e6 i e hi
 refine ⟨x, u, rfl, hu, ?_⟩
 rcases hr with ⟨n, rows, rfl, hr⟩ | ⟨hx, hr⟩
 ·exact .inl ⟨n, rows, rfl, hr.to hs fun b o n' c hq => hh b (.inr ⟨C, i, e1, q.2, n, rows, o, n', c, hi, by rw [hu, hq]⟩)⟩
 ·exact .inr ⟨hx, hr.mono hs fun m hm => hn m (List.mem_flatMap.2 ⟨_, List.mem_of_getElem? hi, by simpa using hm⟩)⟩
/-- What a block holds, in another world. -/
theorem RB.to {ι ι' : Io} {h h' : Hp} {w w' : World} {m m' : Nat} {B : Blk} (hb : RB ι h w m B) (hι : ι' m' = ι m) (hh : ∀ L b, ι m = some L → Ft w L B b → w'.heap[b]? = w.heap[b]?) (hs : Sub h h') (hn : ∀ x ∈ B.nms, ι' x = ι x) : RB ι' h' w' m' B := by
 cases hL : ι m with
 | none => unfold RB at hb ⊢; rw [hι, hL]; rw [hL] at hb; exact hb
 | some L =>
  cases ho : B.ow with
  | none =>
   have hb' := hb.plain hL ho
   unfold RB
   rw [hι, hL, ho]
   rcases hb' with ⟨⟨C, e1, e2, e3, e4⟩, e5⟩ | ⟨e0, es, e1, e2⟩
   ·exact .inl ⟨⟨C, by rw [hh L _ hL Ft.self]; exact e1, e2, e3, e4.mono hs hn⟩, e5⟩
   ·exact .inr ⟨e0, es, by rw [hh L _ hL Ft.self]; exact e1, e2.mono hs⟩
  | some q =>
   refine RB.ofN (hι.trans hL) ho ((hb.nest hL ho).to (fun b hb => hh L b hL ?_) hs hn)
   rcases hb with hb | ⟨C, i, h1, h2⟩
   ·exact .inl hb
   ·exact .inr ⟨by rw [ho]; rfl, C, _, _, i, h1, h2⟩
/-- The block's words turn, its elements' places don't. -/
theorem RB.re {ι ι' : Io} {h h' : Hp} {w w' : World} {m m' : Nat} {B B' : Blk} (hb : RB ι h w m B) (ho : B.ow = none) (ho' : B'.ow = none) (hι : ι' m' = ι m) (hh : ∀ L, ι m = some L → w'.heap[L.b]? = w.heap[L.b]?) (hs : Sub h h')
  (hes : B'.es = B.es) (hty : B'.ty = B.ty) (hmp : B'.mp = B.mp) (hnil : B.els = [] → B'.els = []) (hr : ∀ C, RBs ι h C B.es B.els → RBs ι' h' C B.es B'.els) : RB ι' h' w' m' B' := by
 cases hL : ι m with
 | none => unfold RB at hb ⊢; rw [hι, hL]; rw [hL] at hb; exact hnil hb
 | some L =>
  have hb' := hb.plain hL ho
  unfold RB
  rw [hι, hL, ho']
  rcases hb' with ⟨⟨C, e1, e2, e3, e4⟩, e5⟩ | ⟨⟨e0, e0', e0''⟩, es, e1, e2⟩
  ·exact .inl ⟨⟨C, by rw [hh L hL, hty]; exact e1, e2, by rw [hes]; exact e3, by rw [hes]; exact hr C e4⟩, by rw [hes]; exact e5⟩
  ·exact .inr ⟨⟨hnil e0, by rw [hes]; exact e0', e0''⟩, es, by rw [hh L hL]; exact e1, by rw [hmp]; exact e2.mono hs⟩

/-- Every name in a value, or in a block, is one of the memory's. -/
structure Sim (n : Nat) (w0 : World) (M0 : Bool → Nat → Prop) (U : Nat → Prop) (ι : Io) (h : Hp) (fr : List (Nat × Sv)) (mem : Mem) (a : Act) (w : World) : Prop where
 hsize : a.tmps.size = n
 hdefers : a.defers = []
 hfr : ∀ t v, lk fr t = some v → ∃ u, a.tmps[t]? = some u ∧ RS ι h v u
 hmem : ∀ m B, mget mem m = some B → RB ι h w m B
 hinjF : ∀ m m' B B' L L' b, mget mem m = some B → mget mem m' = some B' → ι m = some L → ι m' = some L' → Ft w L B b → Ft w L' B' b → m = m'
 hsub : ∀ b o, h b = some o → w.heap[b]? = some o
 hmutF : ∀ m B L b, mget mem m = some B → B.fz = false → ι m = some L → Ft w L B b → h b = none
 hfrzF : ∀ m B L b, mget mem m = some B → B.fz = true → ι m = some L → Ft w L B b → h b = w.heap[b]?
 hownF : ∀ m B L b, mget mem m = some B → B.fz = false → ι m = some L → Ft w L B b → w0.heap.size ≤ b ∨ M0 false b
 hown2F : ∀ m B L b, mget mem m = some B → ι m = some L → Ft w L B b → w0.heap.size ≤ b ∨ M0 true b
 hframe : ∀ b, b < w0.heap.size → ¬ M0 false b → w.heap[b]? = w0.heap[b]?
 hgrow : w0.heap.size ≤ w.heap.size
 hos : w.os = w0.os
 htape : w.tape = w0.tape
 houtput : w.output = w0.output
 hnm : ∀ t v, lk fr t = some v → ∀ m ∈ v.nms, U m
 hnb : ∀ m B, mget mem m = some B → U m ∧ ∀ m' ∈ B.nms, U m'
 hdom : ∀ m L, ι m = some L → U m ∧ L.b < w.heap.size
 hpr : ∀ m B, mget mem m = some B → B.pr = true → ∀ e ∈ B.els, ∀ x ∈ e, x.pr = true

section
variable {n : Nat} {w0 : World} {M0 : Bool → Nat → Prop} {U : Nat → Prop} {ι : Io} {h : Hp} {fr : List (Nat × Sv)} {mem : Mem} {a : Act} {w : World}
theorem Sim.hinj (hs : Sim n w0 M0 U ι h fr mem a w) : ∀ m m' B B' L L', mget mem m = some B → mget mem m' = some B' → ι m = some L → ι m' = some L' → L.b = L'.b → m = m' :=
 fun m m' B B' L L' e e' l l' hq => hs.hinjF m m' B B' L L' L.b e e' l l' Ft.self (hq ▸ Ft.self)
theorem Sim.hmut (hs : Sim n w0 M0 U ι h fr mem a w) : ∀ m B L, mget mem m = some B → B.fz = false → ι m = some L → h L.b = none := fun m B L e z l => hs.hmutF m B L L.b e z l Ft.self
theorem Sim.hown (hs : Sim n w0 M0 U ι h fr mem a w) : ∀ m B L, mget mem m = some B → B.fz = false → ι m = some L → w0.heap.size ≤ L.b ∨ M0 false L.b := fun m B L e z l => hs.hownF m B L L.b e z l Ft.self
theorem Sim.hown2 (hs : Sim n w0 M0 U ι h fr mem a w) : ∀ m B L, mget mem m = some B → ι m = some L → w0.heap.size ≤ L.b ∨ M0 true L.b := fun m B L e l => hs.hown2F m B L L.b e l Ft.self
theorem Sim.ftlt (hs : Sim n w0 M0 U ι h fr mem a w) {m : Nat} {B : Blk} {L : Loc} {b : Nat} (e : mget mem m = some B) (l : ι m = some L) (hf : Ft w L B b) : b < w.heap.size := by
 rcases hf with rfl | ⟨ho, C, t, z, i, h1, es, k, rows, o, n', c, h2, h3⟩
 ·exact (hs.hdom m L l).2
 ·cases hq : B.ow with
  | none => rw [hq] at ho; cases ho
  | some q =>
   obtain ⟨C', e1, _, _, _, _, e6, _⟩ := (hs.hmem m B e).nest l hq
   rw [h1] at e1
   cases e1
   obtain ⟨x, u, k1, k2, k3⟩ := e6 i _ h2
   cases k1
   rw [h3] at k2
   cases k2
   rcases k3 with ⟨n2, rows2, k3, ⟨_, _, k4⟩ | ⟨b', c', C', k4, k5, _⟩⟩ | ⟨k3, _⟩
   ·cases k4
   ·cases k4
    exact (Array.getElem?_eq_some_iff.1 k5).1
   ·exact absurd rfl (k3 es k rows)
end

/-! lists and memories -/
theorem lk_cons {β : Type} (k : Nat) (v : β) (r : List (Nat × β)) (t : Nat) : lk ((k, v) :: r) t = if k = t then some v else lk r t := rfl
theorem lk_set1 (m : Mem) (p : Nat × Option Blk) (t : Nat) : lk (set1 m p) t = if p.1 = t then some p.2 else lk m t := by
 induction m with
 | nil => rfl
 | cons q r ih =>
  obtain ⟨k, b⟩ := q
  obtain ⟨n, c⟩ := p
  simp only [set1]
  by_cases hk : k = n
  ·subst hk
   simp only [if_true, lk_cons]
   by_cases h : k = t <;> simp [h]
  ·simp only [if_neg hk, lk_cons, ih]
   by_cases h : n = t
   ·subst h
    simp [hk]
   ·simp [h]
theorem lk_updM (u : Mem) : ∀ (m : Mem) (t : Nat), lk (updM m u) t = (lk u.reverse t).or (lk m t) := by
 induction u with
 | nil => intro m t; rfl
 | cons p r ih =>
  intro m t
  simp only [updM, ih, lk_set1, List.reverse_cons]
  have : ∀ (l : Mem), lk (l ++ [p]) t = (lk l t).or (if p.1 = t then some p.2 else none) := by
   intro l
   induction l with
   | nil => rfl
   | cons q l ih2 =>
    obtain ⟨k, b⟩ := q
    simp only [List.cons_append, lk_cons, ih2]
    by_cases h : k = t <;> simp [h]
  rw [this]
  cases lk r.reverse t with
  | some x => simp
  | none => by_cases h : p.1 = t <;> simp [h]

theorem mapO_some {α β : Type} {f : α → Option β} : ∀ {l : List α} {r : List β}, mapO f l = some r → r.length = l.length ∧ ∀ (j : Nat) (x : α), l[j]? = some x → ∃ y, r[j]? = some y ∧ f x = some y := by
 intro l
 induction l with
 | nil => intro r h; simp [mapO] at h; subst h; simp
 | cons a l ih =>
  intro r h
  simp only [mapO, Option.bind_eq_some_iff] at h
  obtain ⟨y, hy, ys, hys, h⟩ := h
  simp at h
  subst h
  obtain ⟨h1, h2⟩ := ih hys
  refine ⟨by simp [h1], fun j x e => ?_⟩
  cases j with
  | zero => simp at e; subst e; exact ⟨y, rfl, hy⟩
  | succ j => simp at e; simpa using h2 j x e
theorem mapO_some_inv {α β : Type} {f : α → Option β} {l : List α} {r : List β} (h : mapO f l = some r) : ∀ (j : Nat) (y : β), r[j]? = some y → ∃ x, l[j]? = some x ∧ f x = some y := by
 obtain ⟨h1, h2⟩ := mapO_some h
 intro j y e
 have hj : j < l.length := by
  rcases Nat.lt_or_ge j l.length with h' | h'
  ·exact h'
  ·rw [List.getElem?_eq_none (by omega)] at e; simp at e
 obtain ⟨y', e', hf⟩ := h2 j l[j] (List.getElem?_eq_getElem hj)
 rw [e] at e'
 simp at e'
 subst e'
 exact ⟨_, List.getElem?_eq_getElem hj, hf⟩

theorem mget_set1 (m : Mem) (k : Nat) (b : Option Blk) (t : Nat) : mget (set1 m (k, b)) t = if k = t then b else mget m t := by
 unfold mget
 rw [lk_set1]
 by_cases h : k = t
 ·simp only [h, if_true]; cases b <;> rfl
 ·simp [h]

/-- What the world's cells are to be behind a store: one block's cells anew. -/
theorem heap_setRow (w : World) (g b : Nat) (C cur : Array Value) (t : TypeId) (hg : w.heap[g]? = some (.cells cur t (0, 0))) :
  (w.setRow g C).heap[b]? = if b = g then some (.cells C t (0, 0)) else w.heap[b]? := by
 by_cases hb : b = g
 ·subst hb
  simp [World.setRow, Array.getElem?_modify, hg]
 ·simp only [World.setRow, Array.getElem?_modify, if_neg hb]
  rw [if_neg (Ne.symm hb)]

section
variable {n : Nat} {w0 : World} {M0 : Bool → Nat → Prop} {U : Nat → Prop} {ι : Io} {h : Hp} {fr : List (Nat × Sv)} {mem : Mem} {a : Act} {w : World}

theorem Sim.weak (hs : Sim n w0 M0 U ι h fr mem a w) {U' : Nat → Prop} (hu : ∀ m, U m → U' m) : Sim n w0 M0 U' ι h fr mem a w :=
 { hs with hnm := fun t v e m hm => hu m (hs.hnm t v e m hm), hnb := fun m B e => ⟨hu m (hs.hnb m B e).1, fun m' hm => hu m' ((hs.hnb m B e).2 m' hm)⟩, hdom := fun m L e => ⟨hu m (hs.hdom m L e).1, (hs.hdom m L e).2⟩ }

def Io.set (ι : Io) (m : Nat) (L : Loc) : Io := fun x => if x = m then some L else ι x

theorem Sim.hlt (hs : Sim n w0 M0 U ι h fr mem a w) {b : Nat} {o : Obj} (e : h b = some o) : b < w.heap.size := by
 have := hs.hsub b o e
 exact (Array.getElem?_eq_some_iff.1 this).1

/-- A block made anew. -/
theorem Sim.allocO (hs : Sim n w0 M0 U ι h fr mem a w) (m : Nat) (hm : ¬ U m) (B : Blk) (ob : Obj) (sz : Nat) (hrb : RB (ι.set m ⟨w.heap.size, sz, B.es⟩) h (w.alloc ob) m B) (hfz : B.fz = false)
  (hn : ∀ m' ∈ B.nms, U m') (hp : B.pr = true → ∀ e ∈ B.els, ∀ x ∈ e, x.pr = true) (hft : ∀ b, Ft (w.alloc ob) ⟨w.heap.size, sz, B.es⟩ B b → b = w.heap.size) :
  Sim n w0 M0 (fun x => U x ∨ x = m) (ι.set m ⟨w.heap.size, sz, B.es⟩) h fr (set1 mem (m, some B)) a (w.alloc ob) := by
 have hι : ∀ x, U x → (ι.set m ⟨w.heap.size, sz, B.es⟩) x = ι x := fun x hx => by
  unfold Io.set; rw [if_neg]; rintro rfl; exact hm hx
 have hold : ∀ b, b < w.heap.size → (w.alloc ob).heap[b]? = w.heap[b]? := fun b hb => Go.RowKit.Below.heap_alloc _ _ _ hb
 have hh : ∀ x B', mget (set1 mem (m, some B)) x = some B' → (x = m ∧ B' = B) ∨ (x ≠ m ∧ mget mem x = some B') := by
  intro x B' e
  rw [mget_set1] at e
  by_cases hx : m = x
  ·rw [if_pos hx] at e; exact .inl ⟨hx.symm, by simpa using e.symm⟩
  ·rw [if_neg hx] at e; exact .inr ⟨Ne.symm hx, e⟩
 have hset : (ι.set m ⟨w.heap.size, sz, B.es⟩) m = some ⟨w.heap.size, sz, B.es⟩ := by simp [Io.set]
 refine
  { hsize := hs.hsize, hdefers := hs.hdefers, hfr := ?_, hmem := ?_, hinjF := ?_, hsub := ?_, hmutF := ?_, hfrzF := ?_, hownF := ?_, hown2F := ?_, hframe := ?_, hgrow := ?_, hos := hs.hos, htape := hs.htape, houtput := hs.houtput, hnm := ?_, hnb := ?_, hdom := ?_, hpr := ?_ }
 ·intro t v e
  obtain ⟨u, e1, e2⟩ := hs.hfr t v e
  exact ⟨u, e1, e2.mono (Sub.refl h) fun x hx => hι x (hs.hnm t v e x hx)⟩
 ·intro x B' e
  rcases hh x B' e with ⟨rfl, rfl⟩ | ⟨hx, e'⟩
  ·exact hrb
  ·have hb := hs.hmem x B' e'
   have hu := hs.hnb x B' e'
   exact hb.to (hι x hu.1) (fun L b hL hf => hold _ (hs.ftlt e' hL hf)) (Sub.refl h) fun y hy => hι y (hu.2 y hy)
 ·intro x y B1 B2 L1 L2 b e1 e2 l1 l2 f1 f2
  have old : ∀ x B1 L1, mget mem x = some B1 → ι x = some L1 → Ft (w.alloc ob) L1 B1 b → Ft w L1 B1 b ∧ b < w.heap.size := fun x B1 L1 e l f => by
   have := f.to (w' := w) (B' := B1) (hold _ (hs.hdom x L1 l).2).symm rfl rfl
   exact ⟨this, hs.ftlt e l this⟩
  rcases hh x B1 e1 with ⟨rfl, rfl⟩ | ⟨hx, e1'⟩
  ·rcases hh y B2 e2 with ⟨rfl, rfl⟩ | ⟨hy, e2'⟩
   ·rfl
   ·rw [hset] at l1
    rw [hι y (hs.hnb y B2 e2').1] at l2
    have := (old y B2 L2 e2' l2 f2).2
    cases l1
    have := hft b f1
    omega
  ·rw [hι x (hs.hnb x B1 e1').1] at l1
   have o1 := old x B1 L1 e1' l1 f1
   rcases hh y B2 e2 with ⟨rfl, rfl⟩ | ⟨hy, e2'⟩
   ·rw [hset] at l2
    cases l2
    have := hft b f2
    omega
   ·rw [hι y (hs.hnb y B2 e2').1] at l2
    exact hs.hinjF x y B1 B2 L1 L2 b e1' e2' l1 l2 o1.1 (old y B2 L2 e2' l2 f2).1
 ·intro b o e
  rw [hold b (hs.hlt e)]
  exact hs.hsub b o e
 ·intro x B' L b e hz l f
  rcases hh x B' e with ⟨rfl, rfl⟩ | ⟨hx, e'⟩
  ·rw [hset] at l
   cases l
   rw [hft b f]
   cases hq : h w.heap.size with
   | none => rfl
   | some o => exact absurd (hs.hlt hq) (by omega)
  ·rw [hι x (hs.hnb x B' e').1] at l
   exact hs.hmutF x B' L b e' hz l (f.to (w' := w) (hold _ (hs.hdom x L l).2).symm rfl rfl)
 ·intro x B' L b e hz l f
  rcases hh x B' e with ⟨rfl, rfl⟩ | ⟨hx, e'⟩
  ·rw [hfz] at hz; cases hz
  ·rw [hι x (hs.hnb x B' e').1] at l
   have f' := f.to (w' := w) (B' := B') (hold _ (hs.hdom x L l).2).symm rfl rfl
   rw [hold _ (hs.ftlt e' l f')]
   exact hs.hfrzF x B' L b e' hz l f'
 ·intro x B' L b e hz l f
  rcases hh x B' e with ⟨rfl, rfl⟩ | ⟨hx, e'⟩
  ·rw [hset] at l
   cases l
   rw [hft b f]
   exact .inl hs.hgrow
  ·rw [hι x (hs.hnb x B' e').1] at l
   exact hs.hownF x B' L b e' hz l (f.to (w' := w) (hold _ (hs.hdom x L l).2).symm rfl rfl)
 ·intro x B' L b e l f
  rcases hh x B' e with ⟨rfl, rfl⟩ | ⟨hx, e'⟩
  ·rw [hset] at l
   cases l
   rw [hft b f]
   exact .inl hs.hgrow
  ·rw [hι x (hs.hnb x B' e').1] at l
   exact hs.hown2F x B' L b e' l (f.to (w' := w) (hold _ (hs.hdom x L l).2).symm rfl rfl)
 ·intro b hb hM
  rw [hold b (Nat.lt_of_lt_of_le hb hs.hgrow)]
  exact hs.hframe b hb hM
 ·show w0.heap.size ≤ (w.heap.push _).size
  have := hs.hgrow
  simp
  omega
 ·intro t v e x hx
  exact .inl (hs.hnm t v e x hx)
 ·intro x B' e
  rcases hh x B' e with ⟨rfl, rfl⟩ | ⟨hx, e'⟩
  ·exact ⟨.inr rfl, fun y hy => .inl (hn y hy)⟩
  ·exact ⟨.inl (hs.hnb x B' e').1, fun y hy => .inl ((hs.hnb x B' e').2 y hy)⟩
 ·intro x L l
  unfold Io.set at l
  have hsz : (w.alloc ob).heap.size = w.heap.size + 1 := by show (w.heap.push _).size = _; simp
  rw [hsz]
  by_cases hx : x = m
  ·rw [if_pos hx] at l; cases l; exact ⟨.inr hx, by simp⟩
  ·rw [if_neg hx] at l; have := hs.hdom x L l; exact ⟨.inl this.1, by omega⟩
 ·intro x B' e hp'
  rcases hh x B' e with ⟨rfl, rfl⟩ | ⟨hx, e'⟩
  ·exact hp hp'
  ·exact hs.hpr x B' e' hp'

theorem Sim.alloc (hs : Sim n w0 M0 U ι h fr mem a w) (m : Nat) (hm : ¬ U m) (B : Blk) (C : Array Value) (hr : RBs ι h C B.es B.els) (he0 : B.es ≠ 0) (hfz : B.fz = false) (ho : B.ow = none)
  (hn : ∀ m' ∈ B.nms, U m') (hp : B.pr = true → ∀ e ∈ B.els, ∀ x ∈ e, x.pr = true) :
  Sim n w0 M0 (fun x => U x ∨ x = m) (ι.set m ⟨w.heap.size, C.size, B.es⟩) h fr (set1 mem (m, some B)) a (w.alloc (.cells C B.ty)) := by
 have hι : ∀ x, U x → (ι.set m ⟨w.heap.size, C.size, B.es⟩) x = ι x := fun x hx => by
  unfold Io.set; rw [if_neg]; rintro rfl; exact hm hx
 refine hs.allocO m hm B _ C.size (RB.ofC (by simp [Io.set]; rfl) ho ⟨C, ?_, rfl, rfl, hr.mono (Sub.refl h) fun x hx => hι x (hn x hx)⟩ he0) hfz hn hp fun b hb => hb.plain ho
 show (w.heap.push _)[w.heap.size]? = _
 simp

/-- A block of one's own written. -/
theorem Sim.writeO (hs : Sim n w0 M0 U ι h fr mem a w) {m : Nat} {B B' : Blk} {L : Loc} (he : mget mem m = some B) (hz : B.fz = false) (hL : ι m = some L) {ob : Obj} {w' : World}
  (hheap : ∀ b, w'.heap[b]? = if b = L.b then some ob else w.heap[b]?) (hsize : w'.heap.size = w.heap.size) (ho : w'.os = w.os) (ht : w'.tape = w.tape) (hout : w'.output = w.output) (hfz : B'.fz = false) (hrb : RB ι h w' m B')
  (hn : ∀ m' ∈ B'.nms, U m') (hp : B'.pr = true → ∀ e ∈ B'.els, ∀ x ∈ e, x.pr = true) (hft : ∀ b, Ft w' L B' b → Ft w L B b) :
  Sim n w0 M0 U ι h fr (set1 mem (m, some B')) a w' := by
 have hh : ∀ x B1, mget (set1 mem (m, some B')) x = some B1 → (x = m ∧ B1 = B') ∨ (x ≠ m ∧ mget mem x = some B1) := by
  intro x B1 e
  rw [mget_set1] at e
  by_cases hx : m = x
  ·rw [if_pos hx] at e; exact .inl ⟨hx.symm, by simpa using e.symm⟩
  ·rw [if_neg hx] at e; exact .inr ⟨Ne.symm hx, e⟩
 have hhn := hs.hmut m B L he hz hL
 -- what a block's cells of the heap were
 have old : ∀ x B1 L1 b, mget (set1 mem (m, some B')) x = some B1 → ι x = some L1 → Ft w' L1 B1 b → ∃ B0, mget mem x = some B0 ∧ Ft w L1 B0 b ∧ (x ≠ m → B0 = B1 ∧ b ≠ L.b) := by
  intro x B1 L1 b e l f
  rcases hh x B1 e with ⟨rfl, rfl⟩ | ⟨hx, e'⟩
  ·rw [hL] at l
   cases l
   exact ⟨B, he, hft b f, fun h => absurd rfl h⟩
  ·have hne : L1.b ≠ L.b := fun hq => hx (hs.hinj x m B1 B L1 L e' he l hL hq)
   have f' := f.to (w' := w) (B' := B1) (by rw [hheap, if_neg hne]) rfl rfl
   exact ⟨B1, e', f', fun _ => ⟨rfl, fun hq => hx (hs.hinjF x m B1 B L1 L b e' he l hL f' (hq ▸ Ft.self))⟩⟩
 refine
  { hsize := hs.hsize, hdefers := hs.hdefers, hfr := hs.hfr, hmem := ?_, hinjF := ?_, hsub := ?_, hmutF := ?_, hfrzF := ?_, hownF := ?_, hown2F := ?_, hframe := ?_, hgrow := ?_, hos := ho.trans hs.hos, htape := ht.trans hs.htape, houtput := hout.trans hs.houtput, hnm := hs.hnm, hnb := ?_, hdom := ?_, hpr := ?_ }
 ·intro x B1 e
  rcases hh x B1 e with ⟨rfl, rfl⟩ | ⟨hx, e'⟩
  ·exact hrb
  ·exact (hs.hmem x B1 e').to rfl (fun L1 b hL1 f => by
    have hne : b ≠ L.b := fun hq => hx (hs.hinjF x m B1 B L1 L b e' he hL1 hL f (hq ▸ Ft.self))
    rw [hheap, if_neg hne]) (Sub.refl h) fun _ _ => rfl
 ·intro x y B1 B2 L1 L2 b e1 e2 l1 l2 f1 f2
  obtain ⟨B3, g1, g2, _⟩ := old x B1 L1 b e1 l1 f1
  obtain ⟨B4, g3, g4, _⟩ := old y B2 L2 b e2 l2 f2
  exact hs.hinjF x y B3 B4 L1 L2 b g1 g3 l1 l2 g2 g4
 ·intro b o e
  rw [hheap, if_neg]
  ·exact hs.hsub b o e
  ·rintro rfl
   rw [hhn] at e
   cases e
 ·intro x B1 L1 b e hz1 l f
  obtain ⟨B0, g1, g2, g3⟩ := old x B1 L1 b e l f
  by_cases hx : x = m
  ·subst hx
   rw [he] at g1
   cases g1
   exact hs.hmutF x B L1 b he hz l g2
  ·obtain ⟨rfl, _⟩ := g3 hx
   exact hs.hmutF x B0 L1 b g1 hz1 l g2
 ·intro x B1 L1 b e hz1 l f
  obtain ⟨B0, g1, g2, g3⟩ := old x B1 L1 b e l f
  by_cases hx : x = m
  ·subst hx
   rcases hh x B1 e with ⟨_, rfl⟩ | ⟨hx, _⟩
   ·rw [hfz] at hz1; cases hz1
   ·exact absurd rfl hx
  ·obtain ⟨rfl, hne⟩ := g3 hx
   rw [hheap, if_neg hne]
   exact hs.hfrzF x B0 L1 b g1 hz1 l g2
 ·intro x B1 L1 b e hz1 l f
  obtain ⟨B0, g1, g2, g3⟩ := old x B1 L1 b e l f
  by_cases hx : x = m
  ·subst hx
   rw [he] at g1
   cases g1
   exact hs.hownF x B L1 b he hz l g2
  ·obtain ⟨rfl, _⟩ := g3 hx
   exact hs.hownF x B0 L1 b g1 hz1 l g2
 ·intro x B1 L1 b e l f
  obtain ⟨B0, g1, g2, g3⟩ := old x B1 L1 b e l f
  exact hs.hown2F x B0 L1 b g1 l g2
 ·intro b hb hM
  rw [hheap, if_neg]
  ·exact hs.hframe b hb hM
  ·rintro rfl
   rcases hs.hown m B L he hz hL with h1 | h1
   ·omega
   ·exact hM h1
 ·rw [hsize]; exact hs.hgrow
 ·intro x B1 e
  rcases hh x B1 e with ⟨rfl, rfl⟩ | ⟨hx, e'⟩
  ·exact ⟨(hs.hnb x B he).1, hn⟩
  ·exact hs.hnb x B1 e'
 ·intro x L1 l
  rw [hsize]
  exact hs.hdom x L1 l
 ·intro x B1 e hp1
  rcases hh x B1 e with ⟨rfl, rfl⟩ | ⟨hx, e'⟩
  ·exact hp hp1
  ·exact hs.hpr x B1 e' hp1

/-- A block is given up. -/
theorem Sim.drop (hs : Sim n w0 M0 U ι h fr mem a w) (m : Nat) : Sim n w0 M0 U ι h fr (set1 mem (m, none)) a w := by
 have hh : ∀ x B1, mget (set1 mem (m, none)) x = some B1 → mget mem x = some B1 := by
  intro x B1 e
  rw [mget_set1] at e
  by_cases hx : m = x
  ·rw [if_pos hx] at e; cases e
  ·rw [if_neg hx] at e; exact e
 exact { hs with
  hmem := fun x B e => hs.hmem x B (hh x B e)
  hinjF := fun x y B1 B2 L1 L2 b e1 e2 => hs.hinjF x y B1 B2 L1 L2 b (hh _ _ e1) (hh _ _ e2)
  hmutF := fun x B L b e => hs.hmutF x B L b (hh _ _ e)
  hfrzF := fun x B L b e => hs.hfrzF x B L b (hh _ _ e)
  hownF := fun x B L b e => hs.hownF x B L b (hh _ _ e)
  hown2F := fun x B L b e => hs.hown2F x B L b (hh _ _ e)
  hnb := fun x B e => hs.hnb x B (hh _ _ e)
  hpr := fun x B e => hs.hpr x B (hh _ _ e) }

theorem Sim.write (hs : Sim n w0 M0 U ι h fr mem a w) {m : Nat} {B B' : Blk} {L : Loc} (he : mget mem m = some B) (hz : B.fz = false) (hL : ι m = some L) {C cur : Array Value}
  (hcur : w.heap[L.b]? = some (.cells cur B.ty (0, 0))) (hsz : C.size = L.sz) (hes : B'.es = B.es) (hty : B'.ty = B.ty) (hfz : B'.fz = false) (ho : B.ow = none) (ho' : B'.ow = none) (hr : RBs ι h C B'.es B'.els)
  (hLe : L.es = B.es) (hn : ∀ m' ∈ B'.nms, U m') (hp : B'.pr = true → ∀ e ∈ B'.els, ∀ x ∈ e, x.pr = true) :
  Sim n w0 M0 U ι h fr (set1 mem (m, some B')) a (w.setRow L.b C) := by
 have hheap := fun b => heap_setRow w L.b b C cur B.ty hcur
 have hb := hs.hmem m B he
 have h0 : B.es ≠ 0 := by
  rcases hb.plain hL ho with hb | ⟨_, es, e1, _⟩
  ·exact hb.2
  ·rw [hcur] at e1; cases e1
 exact hs.writeO he hz hL (w' := w.setRow L.b C) (ob := .cells C B.ty (0, 0)) hheap (by simp [World.setRow]) rfl rfl rfl hfz (RB.ofC hL ho' ⟨C, by rw [hheap, if_pos rfl, hty], hsz, by rw [hLe, hes], hr⟩ (by rw [hes]; exact h0)) hn hp fun b hb => hb.plain ho' ▸ Ft.self

/-- A draw turns nothing. -/
theorem Sim.drew (hs : Sim n w0 M0 U ι h fr mem a w) : Sim n w0 M0 U ι h fr mem a { w with drawn := w.drawn + 1 } :=
 { hs with
  hmem := fun m B e => (hs.hmem m B e).to rfl (fun _ _ _ _ => rfl) (Sub.refl h) fun _ _ => rfl }

open Classical in
/-- A block becomes one that only reads. -/
theorem Sim.freeze (hs : Sim n w0 M0 U ι h fr mem a w) {m : Nat} {B : Blk} (he : mget mem m = some B) :
  ∃ h', Sub h h' ∧ (∀ L b, ι m = some L → Ft w L B b → h' b = w.heap[b]?) ∧ (∀ b, (∀ L, ι m = some L → ¬ Ft w L B b) → h' b = h b) ∧ Sim n w0 M0 U ι h' fr (set1 mem (m, some { B with fz := true })) a w := by
 have hh : ∀ x B1, mget (set1 mem (m, some { B with fz := true })) x = some B1 → (x = m ∧ B1 = { B with fz := true }) ∨ (x ≠ m ∧ mget mem x = some B1) := by
  intro x B1 e
  rw [mget_set1] at e
  by_cases hx : m = x
  ·rw [if_pos hx] at e; exact .inl ⟨hx.symm, by simpa using e.symm⟩
  ·rw [if_neg hx] at e; exact .inr ⟨Ne.symm hx, e⟩
 let h' : Hp := fun b => if ∃ L, ι m = some L ∧ Ft w L B b then w.heap[b]? else h b
 have hin : ∀ L b, ι m = some L → Ft w L B b → h' b = w.heap[b]? := fun L b l f => if_pos ⟨L, l, f⟩
 have hoff : ∀ b, (∀ L, ι m = some L → ¬ Ft w L B b) → h' b = h b := fun b hb => if_neg fun ⟨L, l, f⟩ => hb L l f
 have hsub : Sub h h' := by
  intro b o e
  by_cases hb : ∃ L, ι m = some L ∧ Ft w L B b
  ·obtain ⟨L, l, f⟩ := hb
   rw [hin L b l f]
   exact hs.hsub b o e
  ·rw [hoff b fun L l f => hb ⟨L, l, f⟩]
   exact e
 have old : ∀ x B1, mget (set1 mem (m, some { B with fz := true })) x = some B1 → ∃ B0, mget mem x = some B0 ∧ (∀ L b, Ft w L B1 b → Ft w L B0 b) ∧ (x ≠ m → B0 = B1) := by
  intro x B1 e
  rcases hh x B1 e with ⟨rfl, rfl⟩ | ⟨hx, e'⟩
  ·exact ⟨B, he, fun L b f => f.to rfl rfl rfl, fun h => absurd rfl h⟩
  ·exact ⟨_, e', fun _ _ f => f, fun _ => rfl⟩
 refine ⟨h', hsub, hin, hoff, ?_⟩
 refine
  { hsize := hs.hsize, hdefers := hs.hdefers, hfr := ?_, hmem := ?_, hinjF := ?_, hsub := ?_, hmutF := ?_, hfrzF := ?_, hownF := ?_, hown2F := ?_, hframe := hs.hframe, hgrow := hs.hgrow, hos := hs.hos, htape := hs.htape, houtput := hs.houtput, hnm := hs.hnm, hnb := ?_, hdom := hs.hdom, hpr := ?_ }
 ·intro t v e
  obtain ⟨u, e1, e2⟩ := hs.hfr t v e
  exact ⟨u, e1, e2.mono hsub fun _ _ => rfl⟩
 ·intro x B1 e
  rcases hh x B1 e with ⟨rfl, rfl⟩ | ⟨hx, e'⟩
  ·have := (hs.hmem x B he).to (ι' := ι) (m' := x) rfl (fun _ _ _ _ => rfl) hsub fun _ _ => rfl
   exact this
  ·exact (hs.hmem x B1 e').to rfl (fun _ _ _ _ => rfl) hsub fun _ _ => rfl
 ·intro x y B1 B2 L1 L2 b e1 e2 l1 l2 f1 f2
  obtain ⟨B3, g1, g2, _⟩ := old x B1 e1
  obtain ⟨B4, g3, g4, _⟩ := old y B2 e2
  exact hs.hinjF x y B3 B4 L1 L2 b g1 g3 l1 l2 (g2 _ _ f1) (g4 _ _ f2)
 ·intro b o e
  by_cases hb : ∃ L, ι m = some L ∧ Ft w L B b
  ·obtain ⟨L, l, f⟩ := hb
   rw [hin L b l f] at e
   exact e
  ·rw [hoff b fun L l f => hb ⟨L, l, f⟩] at e
   exact hs.hsub b o e
 ·intro x B1 L b e hz l f
  rcases hh x B1 e with ⟨rfl, rfl⟩ | ⟨hx, e'⟩
  ·cases hz
  ·rw [hoff]
   ·exact hs.hmutF x B1 L b e' hz l f
   ·intro L' hL' hq
    exact hx (hs.hinjF x m B1 B L L' b e' he l hL' f hq)
 ·intro x B1 L b e hz l f
  rcases hh x B1 e with ⟨rfl, rfl⟩ | ⟨hx, e'⟩
  ·exact hin L b l (f.to rfl rfl rfl)
  ·by_cases hb : ∃ L', ι m = some L' ∧ Ft w L' B b
   ·obtain ⟨L', hL', hq⟩ := hb
    exact absurd (hs.hinjF x m B1 B L L' b e' he l hL' f hq) hx
   ·rw [hoff _ fun L' hL' hq => hb ⟨L', hL', hq⟩]
    exact hs.hfrzF x B1 L b e' hz l f
 ·intro x B1 L b e hz l f
  rcases hh x B1 e with ⟨rfl, rfl⟩ | ⟨hx, e'⟩
  ·cases hz
  ·exact hs.hownF x B1 L b e' hz l f
 ·intro x B1 L b e l f
  obtain ⟨B0, g1, g2, _⟩ := old x B1 e
  exact hs.hown2F x B0 L b g1 l (g2 _ _ f)
 ·intro x B1 e
  rcases hh x B1 e with ⟨rfl, rfl⟩ | ⟨hx, e'⟩
  ·exact hs.hnb x B he
  ·exact hs.hnb x B1 e'
 ·intro x B1 e hp
  rcases hh x B1 e with ⟨rfl, rfl⟩ | ⟨hx, e'⟩
  ·exact hs.hpr x B he hp
  ·exact hs.hpr x B1 e' hp
end


def isAggD : TypeDesc → Bool
 | .struct _ => true
 | .array _ _ => true
 | _ => false
def TDOk (P : Program) : TD → TypeDesc → Prop
 | .int k, d => d = .int k
 | .bool, d => d = .bool
 | .str, d => d = .string
 | .ptr, d => ∃ e, d = .pointer e
 | .sl e, d => d = .slice e
 | .st fs ts, d => ∃ F : Array Field, d = .struct F ∧ fs.length = F.size ∧ (∀ (j : Nat) (p : Nat × Nat), fs[j]? = some p → ∃ f, F[j]? = some f ∧ f.offset = p.1 ∧ ∃ ti, P.info? f.type = some ti ∧ ti.size = p.2) ∧ (F.toList.map fun f => f.type) = ts
 | .arr n e, d => d = .array n e
 | .mp k e, d => d = .map k e
 | .oth, _ => True
def isIntT (P : Program) (t : TypeId) : Bool := match P.underlying t with | some (.int _) => true | _ => false
/-- Fields that are whole numbers, each in its own cell. -/
def eqsFs (P : Program) : Nat → List Field → Bool
 | _, [] => true
 | j, f :: r => f.name != "_" && f.offset == j && isIntT P f.type && eqsFs P (j + 1) r
structure TOk (P : Program) (t : TypeId) (i : TI) : Prop where
 info : ∃ ti, P.info? t = some ti ∧ ti.size = i.size ∧ ti.bytes = i.bytes
 desc : ∃ d, P.underlying t = some d ∧ TDOk P i.d d ∧ isAggD d = i.agg
 zero : i.zero.length = i.size → ∃ ti z, P.info? t = some ti ∧ ti.zero = some z ∧ z.cells.size = i.size ∧ (∀ (h : Hp) (j : Nat) (x : At), i.zero[j]? = some x → ∃ u, z.cells[j]? = some u ∧ RP h x u) ∧ ∀ x ∈ i.zero, x.pr = true
 zone : i.agg = false → i.size = 1 → i.zero.length = i.size → ∀ ti z, P.info? t = some ti → ti.zero = some z → z.oneCell' = true
 eq : i.eqs = true → P.eqGuardType P.depth t = false ∧ P.stoodInHeld t = false ∧ ∃ fs, P.underlying t = some (.struct fs) ∧ eqsFs P 0 fs.toList = true
def TyOk (P : Program) (T : TypeId → Option TI) : Prop := ∀ t i, T t = some i → TOk P t i

section
variable {P : Program} {n : Nat} {w0 : World} {M0 : Bool → Nat → Prop} {U : Nat → Prop} {ι : Io} {h : Hp} {fr : List (Nat × Sv)} {mem : Mem} {a : Act} {w : World} {T : TypeId → Option TI}

theorem run_underlying {t : TypeId} {d : TypeDesc} (hd : P.underlying t = some d) (w : World) : (underlying t).run P w = .ok d w := by simp [underlying, hd]
theorem run_typeInfo {t : TypeId} {i : TypeInfo} (hi : P.info? t = some i) (w : World) : (typeInfo t).run P w = .ok i w := by simp [typeInfo, hi]
theorem run_sizeOf {t : TypeId} {i : TypeInfo} (hi : P.info? t = some i) (w : World) : (sizeOf t).run P w = .ok i.size w := by simp [sizeOf, run_typeInfo hi]
theorem run_isAgg {t : TypeId} {d : TypeDesc} (hd : P.underlying t = some d) (w : World) : (isAgg t).run P w = .ok (isAggD d) w := by
 simp only [isAgg, Sem.run_bind, run_underlying hd, Result.andThen_ok]
 cases d <;> rfl
theorem run_zeroValue' {t : TypeId} {i : TypeInfo} {z : Value} (hi : P.info? t = some i) (hz : i.zero = some z) (w : World) : (zeroValue t).run P w = .ok z w := by simp [zeroValue, run_typeInfo hi, hz]

theorem RP.bool_inv {h : Hp} {b : Bool} {v : Value} (hr : RP h (.bool b) v) : v = .bool b := by cases hr; rfl
theorem RP.int_inv {h : Hp} {k : IntKind} {i : Int} {v : Value} (hr : RP h (.int k i) v) : ∃ k', v = .int k' i := by cases hr; exact ⟨_, rfl⟩
theorem RP.int_inv' {h : Hp} {k : IntKind} {i : Int} {v : Value} (hr : RP h (.int k i) v) : v = .int k i := by cases hr; rfl
theorem RP.str_inv {h : Hp} {s : ByteArray} {v : Value} (hr : RP h (.str s) v) : v = .string s := by cases hr; rfl
theorem RP.nm {h : Hp} {x : At} {v : Value} (hr : RP h x v) : x.nm = [] := by cases hr <;> rfl
theorem const_sound {v : Value} {x : At} (e : constA v = some x) : RP h x v := by
 unfold constA at e
 split at e <;> first | (cases e; constructor) | cases e
theorem Sim.ev (hs : Sim n w0 M0 U ι h fr mem a w) {o : Operand} {v : Sv} (e : Am.ev fr o = some v) : RS ι h v (a.eval o) ∧ ∀ m ∈ v.nms, U m := by
 cases o with
 | tmp t =>
  obtain ⟨u, e1, e2⟩ := hs.hfr t v e
  refine ⟨?_, hs.hnm t v e⟩
  simp only [Act.eval, Array.getD_eq_getD_getElem?, e1, Option.getD_some]
  exact e2
 | const c =>
  simp only [Am.ev, Option.bind_eq_some_iff] at e
  obtain ⟨x, e1, e2⟩ := e
  cases e2
  have hr := const_sound (h := h) e1
  refine ⟨RA.ofRP hr, fun m hm => ?_⟩
  cases hr <;> simp [Sv.nms, namesV, Vl.cells, At.nm] at hm
 | func f =>
  simp only [Am.ev, Option.some.injEq] at e
  subst e
  exact ⟨RP.fn f [] #[] (fun _ => undef) rfl (by simp) (by simp), by simp [Sv.nms, namesV, Vl.cells, At.nm]⟩
 | global g => cases e
theorem Sim.evV (hs : Sim n w0 M0 U ι h fr mem a w) {o : Operand} {v : Vl} (e : Am.evV fr o = some v) : RV ι h v (a.eval o) ∧ ∀ m ∈ namesV [v], U m := by
 simp only [Am.evV, Option.bind_eq_some_iff] at e
 obtain ⟨s, e1, e2⟩ := e
 cases s <;> simp [svV] at e2
 subst e2
 exact hs.ev e1
theorem Sim.evA (hs : Sim n w0 M0 U ι h fr mem a w) {o : Operand} {x : At} (e : Am.evA fr o = some x) : RA ι h x (a.eval o) ∧ ∀ m ∈ x.nm, U m := by
 simp only [Am.evA, Option.bind_eq_some_iff] at e
 obtain ⟨s, e1, e2⟩ := e
 unfold svA at e2
 split at e2
 ·cases e2
  obtain ⟨h1, h2⟩ := hs.ev e1
  exact ⟨h1, fun m hm => h2 m (by simpa [Sv.nms, namesV, Vl.cells] using hm)⟩
 ·cases e2
theorem Sim.evB (hs : Sim n w0 M0 U ι h fr mem a w) {o : Operand} {b : Bool} (e : Am.evB fr o = some b) : a.eval o = .bool b := by
 simp only [Am.evB, Option.bind_eq_some_iff] at e
 obtain ⟨x, e1, e2⟩ := e
 cases x <;> simp [asB] at e2
 subst e2
 exact RP.bool_inv (hs.evA e1).1
theorem Sim.evI (hs : Sim n w0 M0 U ι h fr mem a w) {o : Operand} {i : Int} (e : Am.evI fr o = some i) : ∃ k, a.eval o = .int k i := by
 simp only [Am.evI, Option.bind_eq_some_iff] at e
 obtain ⟨x, e1, e2⟩ := e
 cases x <;> simp [asI] at e2
 subst e2
 exact RP.int_inv (hs.evA e1).1

/-- What one operation leaves. -/
def Nxt (n : Nat) (w0 : World) (M0 : Bool → Nat → Prop) (U : Nat → Prop) (ι : Io) (h : Hp) (fr : List (Nat × Sv)) (mem : Mem) (nx : Nat) (e : Eff) (a : Act) (u : Value) (w' : World) : Prop :=
 ∃ ι' h', Sub h h' ∧ (∀ m, ¬ (nx ≤ m ∧ m < e.nn) → ι' m = ι m) ∧ Sim n w0 M0 (fun m => U m ∨ (nx ≤ m ∧ m < e.nn)) ι' h' fr (updM mem e.upd) a w' ∧ RS ι' h' e.v u ∧
  (∀ m ∈ e.v.nms, U m ∨ (nx ≤ m ∧ m < e.nn)) ∧ nx ≤ e.nn ∧ ∀ b, b < w0.heap.size → ¬ M0 false b → h' b = h b

/-- The world stays. -/
theorem Nxt.val (hs : Sim n w0 M0 U ι h fr mem a w) {nx : Nat} {v : Sv} {u : Value} {rd : List Nat} (hr : RS ι h v u) (hn : ∀ m ∈ v.nms, U m) :
  Nxt n w0 M0 U ι h fr mem nx { v := v, upd := [], nn := nx, rd := rd } a u w :=
 ⟨ι, h, Sub.refl h, fun _ _ => rfl, hs.weak fun m hm => .inl hm, hr, fun m hm => .inl (hn m hm), Nat.le_refl _, fun _ _ _ => rfl⟩
theorem Nxt.valV (hs : Sim n w0 M0 U ι h fr mem a w) {nx : Nat} {v : Vl} {u : Value} {e : Eff} (he : Am.val v nx = some e) (hr : RV ι h v u) (hn : ∀ m ∈ namesV [v], U m) :
  Nxt n w0 M0 U ι h fr mem nx e a u w := by
 simp only [Am.val, Option.some.injEq] at he
 subst he
 exact Nxt.val hs hr hn
theorem Nxt.valP (hs : Sim n w0 M0 U ι h fr mem a w) {nx : Nat} {x : At} {u : Value} {e : Eff} (he : Am.val (.a x) nx = some e) (hr : RP h x u) :
  Nxt n w0 M0 U ι h fr mem nx e a u w :=
 Nxt.valV hs he (RA.ofRP hr) (by
  intro m hm
  simp only [namesV, Vl.cells, List.flatMap_cons, List.flatMap_nil, List.append_nil, RP.nm hr] at hm
  cases hm)

theorem wp_val {o : Oper} {u : Value} {w' : World} {next : Act → World → Prop} {Q : Exit → Act → World → Prop} (hr : (execOp a.eval o).run P w = .ok (.value u) w') (hn : next (a.put o.dst u) w') : o.wp P a w next Q := by
 unfold Oper.wp
 rw [hr]
 exact hn
theorem wp_skip' {o : Oper} {w' : World} {next : Act → World → Prop} {Q : Exit → Act → World → Prop} (hr : (execOp a.eval o).run P w = .ok .skip w') (hn : next (a.put o.dst undef) w') : o.wp P a w next Q := by
 unfold Oper.wp
 rw [hr]
 exact hn

/-! ### reading cells -/
theorem RBs.range {C : Array Value} {es : Nat} {els : List (List At)} (hr : RBs ι h C es els) {i : Nat} {e : List At} (he : els[i]? = some e) {o k : Nat} (hk : o + k ≤ e.length) :
  ∃ us : List Value, us.length = k ∧ (∀ j, j < k → C[i * es + o + j]? = us[j]?) ∧ RL ι h ((e.drop o).take k) us := by
 obtain ⟨_, hc⟩ := hr i e he
 have hin : ∀ j, j < k → ∃ u, C[i * es + o + j]? = some u ∧ ∃ x, e[o + j]? = some x ∧ RA ι h x u := by
  intro j hj
  have hx : e[o + j]? = some e[o + j] := List.getElem?_eq_getElem (by omega)
  obtain ⟨u, e1, e2⟩ := hc (o + j) _ hx
  exact ⟨u, by rw [← e1]; congr 1; omega, _, hx, e2⟩
 have hlen : ((C.toList.drop (i * es + o)).take k).length = k := by
  rcases Nat.eq_zero_or_pos k with h0 | h0
  ·subst h0; simp
  ·obtain ⟨u, e1, _⟩ := hin (k - 1) (by omega)
   have := (Array.getElem?_eq_some_iff.1 e1).1
   simp
   omega
 refine ⟨(C.toList.drop (i * es + o)).take k, hlen, fun j hj => ?_, ⟨?_, fun j x e1 => ?_⟩⟩
 ·rw [List.getElem?_take, if_pos hj, List.getElem?_drop, Array.getElem?_toList]
 ·rw [hlen]; simp; omega
 ·rw [List.getElem?_take] at e1
  split at e1
  ·rename_i hj
   rw [List.getElem?_drop] at e1
   obtain ⟨u, e2, x', e3, e4⟩ := hin j hj
   rw [e1] at e3
   cases e3
   exact ⟨u, by rw [List.getElem?_take, if_pos hj, List.getElem?_drop, Array.getElem?_toList]; exact e2, e4⟩
  ·cases e1

theorem cell_of {b : Nat} {C : Array Value} {t : TypeId} {z : Nat × Nat} (hb : w.heap[b]? = some (.cells C t z)) (o : Nat) : w.cell? ⟨b, o, none⟩ = C[o]? := by
 simp [World.cell?, hb]

/-- A variable read: its cells are known. -/
theorem run_loadVar_known {ti : TI} {t : TypeId} (hT : TOk P t ti) {b o : Nat} {C : Array Value} {t' : TypeId} {z : Nat × Nat} (hb : w.heap[b]? = some (.cells C t' z))
  {us : List Value} (hu : ∀ j, j < us.length → C[o + j]? = us[j]?) {cs : List At} (hl : RL ι h cs us) :
  (ti.agg = true → us.length = ti.size → (loadVar t ⟨b, o, none⟩).run P w = .ok (.agg us.toArray) w) ∧
  (ti.agg = false → ∀ u, us[0]? = some u → (loadVar t ⟨b, o, none⟩).run P w = .ok u w) := by
 obtain ⟨d, hd, _, hag⟩ := hT.desc
 obtain ⟨i, hi, hsz, _⟩ := hT.info
 constructor
 ·intro hag' hlen
  have hc : (loadCells ⟨b, o, none⟩ us.length).run P w = .ok us.toArray w := by
   refine run_loadCells_list w _ us fun j v e => ?_
   rw [Addr.add_mid, cell_of hb, hu j, e]
   rcases Nat.lt_or_ge j us.length with h' | h'
   ·exact h'
   ·rw [List.getElem?_eq_none (by omega)] at e; cases e
  rw [hlen] at hc
  simp [loadVar, run_isAgg hd, hag, hag', run_sizeOf hi, hsz, hc]
 ·intro hag' u hu0
  have h0 := hu 0 (by
   rcases Nat.lt_or_ge 0 us.length with h' | h'
   ·exact h'
   ·rw [List.getElem?_eq_none (by omega)] at hu0; cases hu0)
  rw [hu0] at h0
  have hcell : w.cell? ⟨b, o, none⟩ = some u := by rw [cell_of hb]; exact h0
  simp [loadVar, run_isAgg hd, hag, hag', hcell]

theorem part_sound {ti : TI} {t : TypeId} (hT : TOk P t ti) {e : List At} {o : Nat} {v : Vl} (hv : partV ti e o = some v) {b off : Nat} {C : Array Value} {t' : TypeId} {z : Nat × Nat}
  (hb : w.heap[b]? = some (.cells C t' z)) (hc : ∀ (j : Nat) (x : At), e[j]? = some x → ∃ u, C[off + j]? = some u ∧ RA ι h x u) :
  ∃ u, (loadVar t ⟨b, off + o, none⟩).run P w = .ok u w ∧ RV ι h v u ∧ ∀ m ∈ namesV [v], ∃ x ∈ e, m ∈ x.nm := by
 unfold partV at hv
 split at hv
 ·rename_i hag
  split at hv
  ·rename_i hle
   cases hv
   have hr : RBs ι h (C.extract off C.size) e.length [e] := by
    intro i e' he'
    cases i with
    | zero =>
     simp at he'
     subst he'
     refine ⟨rfl, fun j x hx => ?_⟩
     obtain ⟨u, e1, e2⟩ := hc j x hx
     refine ⟨u, ?_, e2⟩
     rw [Array.getElem?_extract]
     have := (Array.getElem?_eq_some_iff.1 e1).1
     rw [if_pos (by simp; omega)]
     simpa using e1
    | succ i => simp at he'
   obtain ⟨us, hl, hu, hR⟩ := hr.range (i := 0) (e := e) rfl hle
   have hu' : ∀ j, j < us.length → C[off + o + j]? = us[j]? := by
    intro j hj
    have := hu j (by omega)
    rw [← this, Array.getElem?_extract]
    simp only [Nat.zero_mul, Nat.zero_add]
    have hj2 : us[j]? = some us[j] := List.getElem?_eq_getElem hj
    rw [hj2] at this
    have := (Array.getElem?_eq_some_iff.1 this).1
    simp at this
    rw [if_pos (by simp; omega)]
    congr 1
    omega
   refine ⟨_, (run_loadVar_known hT hb hu' hR).1 hag hl, ⟨_, rfl, by simpa using hR⟩, fun m hm => ?_⟩
   simp only [namesV, Vl.cells, List.flatMap_cons, List.flatMap_nil, List.append_nil, List.mem_flatMap] at hm
   obtain ⟨x, hx, hm⟩ := hm
   exact ⟨x, List.mem_of_mem_drop (List.mem_of_mem_take hx), hm⟩
  ·cases hv
 ·rename_i hag
  simp only [Option.bind_eq_some_iff] at hv
  obtain ⟨x, hx, hv⟩ := hv
  cases hv
  obtain ⟨u, e1, e2⟩ := hc o x hx
  have hR : RL ι h [x] [u] := RL.cons e2 RL.nil
  refine ⟨u, (run_loadVar_known hT hb (us := [u]) (fun j hj => ?_) hR).2 (by simpa using hag) u rfl, e2, fun m hm => ?_⟩
  ·simp at hj; subst hj; simpa using e1
  ·simp [namesV, Vl.cells] at hm
   exact ⟨x, List.mem_of_getElem? hx, hm⟩

end

def Plain (P : Program) (n : Nat) (w0 : World) (M0 : Bool → Nat → Prop) (U : Nat → Prop) (ι : Io) (h : Hp) (fr : List (Nat × Sv)) (mem : Mem) (a : Act) (w : World) (nx : Nat) (o : Oper) (e : Eff) : Prop :=
  (∃ u w', (execOp a.eval o).run P w = .ok (.value u) w' ∧ Nxt n w0 M0 U ι h fr mem nx e a u w') ∨
  (∃ w', (execOp a.eval o).run P w = .ok .skip w' ∧ Nxt n w0 M0 U ι h fr mem nx e a undef w')

section
variable {P : Program} {n : Nat} {w0 : World} {M0 : Bool → Nat → Prop} {U : Nat → Prop} {ι : Io} {h : Hp} {fr fr' : List (Nat × Sv)} {mem mem' : Mem} {a : Act} {w : World}
  {c : Cfg} {callF : FuncId → List Vl → List Blk → Option (List Vl × List Blk)} {o : Oper} {nx : Nat} {e : Eff}

theorem tdOf_ok (hT : TyOk P c.T) {t : TypeId} {d : TD} (e : tdOf c.T t = some d) : ∃ D, P.underlying t = some D ∧ TDOk P d D ∧ ∃ i, c.T t = some i ∧ i.d = d := by
  simp only [tdOf, Option.bind_eq_some_iff] at e
  obtain ⟨i, e1, e2⟩ := e
  cases e2
  obtain ⟨D, h1, h2, _⟩ := (hT t i e1).desc
  exact ⟨D, h1, h2, i, e1, rfl⟩

theorem mget_of_lk {m1 m2 : Mem} {m : Nat} (h : lk m1 m = lk m2 m) : mget m1 m = mget m2 m := by unfold mget; rw [h]
theorem Sim.congr (hs : Sim n w0 M0 U ι h fr mem a w) (hf : ∀ t, lk fr' t = lk fr t) (hm : ∀ m, lk mem' m = lk mem m) : Sim n w0 M0 U ι h fr' mem' a w := by
  have hg : ∀ m, mget mem' m = mget mem m := fun m => mget_of_lk (hm m)
  exact { hs with
    hfr := fun t v e => hs.hfr t v (by rw [← hf]; exact e)
    hmem := fun m B e => hs.hmem m B (by rw [← hg]; exact e)
    hinjF := fun m m' B B' L L' b e e' => hs.hinjF m m' B B' L L' b (by rw [← hg]; exact e) (by rw [← hg]; exact e')
    hmutF := fun m B L b e => hs.hmutF m B L b (by rw [← hg]; exact e)
    hfrzF := fun m B L b e => hs.hfrzF m B L b (by rw [← hg]; exact e)
    hownF := fun m B L b e => hs.hownF m B L b (by rw [← hg]; exact e)
    hown2F := fun m B L b e => hs.hown2F m B L b (by rw [← hg]; exact e)
    hnm := fun t v e => hs.hnm t v (by rw [← hf]; exact e)
    hnb := fun m B e => hs.hnb m B (by rw [← hg]; exact e)
    hpr := fun m B e => hs.hpr m B (by rw [← hg]; exact e) }

/-- A name that is new stands for a block of the heap. -/
theorem Sim.fresh (hs : Sim n w0 M0 U ι h fr mem a w) (x : Nat) (hx : ¬ U x) (L : Loc) (hL : L.b < w.heap.size) : Sim n w0 M0 (fun y => U y ∨ y = x) (ι.set x L) h fr mem a w := by
  have hι : ∀ y, U y → (ι.set x L) y = ι y := fun y hy => by
    unfold Io.set; rw [if_neg]; rintro rfl; exact hx hy
  have hm : ∀ y B, mget mem y = some B → (ι.set x L) y = ι y := fun y B e => hι y (hs.hnb y B e).1
  exact { hs with
    hfr := fun t v e => let ⟨u, e1, e2⟩ := hs.hfr t v e; ⟨u, e1, e2.mono (Sub.refl h) fun y hy => hι y (hs.hnm t v e y hy)⟩
    hmem := fun y B e => (hs.hmem y B e).to (hm y B e) (fun _ _ _ _ => rfl) (Sub.refl h) fun z hz => hι z ((hs.hnb y B e).2 z hz)
    hinjF := fun y z B B' L1 L2 b e e' l l' => hs.hinjF y z B B' L1 L2 b e e' (by rw [← hm y B e]; exact l) (by rw [← hm z B' e']; exact l')
    hmutF := fun y B L1 b e z l => hs.hmutF y B L1 b e z (by rw [← hm y B e]; exact l)
    hfrzF := fun y B L1 b e z l => hs.hfrzF y B L1 b e z (by rw [← hm y B e]; exact l)
    hownF := fun y B L1 b e z l => hs.hownF y B L1 b e z (by rw [← hm y B e]; exact l)
    hown2F := fun y B L1 b e l => hs.hown2F y B L1 b e (by rw [← hm y B e]; exact l)
    hnm := fun t v e m hm => .inl (hs.hnm t v e m hm)
    hnb := fun y B e => ⟨.inl (hs.hnb y B e).1, fun z hz => .inl ((hs.hnb y B e).2 z hz)⟩
    hdom := fun y L1 l => by
      unfold Io.set at l
      by_cases hy : y = x
      · rw [if_pos hy] at l; cases l; exact ⟨.inr hy, hL⟩
      · rw [if_neg hy] at l; exact ⟨.inl (hs.hdom y L1 l).1, (hs.hdom y L1 l).2⟩ }

/-- A block is taken in. -/
theorem Sim.adopt (hs : Sim n w0 M0 U ι h fr mem a w) (m : Nat) (hm : U m) (B : Blk) (hrb : RB ι h w m B) (hfz : B.fz = false)
    (hft : ∀ L b, ι m = some L → Ft w L B b → (∀ y B' L', y ≠ m → mget mem y = some B' → ι y = some L' → ¬ Ft w L' B' b) ∧ h b = none ∧ (w0.heap.size ≤ b ∨ M0 false b) ∧ (w0.heap.size ≤ b ∨ M0 true b))
    (hn : ∀ m' ∈ B.nms, U m') (hp : B.pr = true → ∀ e ∈ B.els, ∀ x ∈ e, x.pr = true) : Sim n w0 M0 U ι h fr (set1 mem (m, some B)) a w := by
  have hk : ∀ x B', mget (set1 mem (m, some B)) x = some B' → (x = m ∧ B' = B) ∨ (x ≠ m ∧ mget mem x = some B') := by
    intro x B' e
    rw [mget_set1] at e
    by_cases hx : m = x
    · rw [if_pos hx] at e; exact .inl ⟨hx.symm, by simpa using e.symm⟩
    · rw [if_neg hx] at e; exact .inr ⟨Ne.symm hx, e⟩
  refine { hs with hmem := ?_, hinjF := ?_, hmutF := ?_, hfrzF := ?_, hownF := ?_, hown2F := ?_, hnb := ?_, hpr := ?_ }
  · intro x B' e
    rcases hk x B' e with ⟨rfl, rfl⟩ | ⟨hx, e'⟩
    · exact hrb
    · exact hs.hmem x B' e'
  · intro x y B1 B2 L1 L2 b e1 e2 l1 l2 f1 f2
    rcases hk x B1 e1 with ⟨rfl, rfl⟩ | ⟨hx, e1'⟩
    · rcases hk y B2 e2 with ⟨rfl, rfl⟩ | ⟨hy, e2'⟩
      · rfl
      · exact absurd f2 ((hft L1 b l1 f1).1 y B2 L2 hy e2' l2)
    · rcases hk y B2 e2 with ⟨rfl, rfl⟩ | ⟨hy, e2'⟩
      · exact absurd f1 ((hft L2 b l2 f2).1 x B1 L1 hx e1' l1)
      · exact hs.hinjF x y B1 B2 L1 L2 b e1' e2' l1 l2 f1 f2
  · intro x B' L1 b e hz l f
    rcases hk x B' e with ⟨rfl, rfl⟩ | ⟨hx, e'⟩
    · exact (hft L1 b l f).2.1
    · exact hs.hmutF x B' L1 b e' hz l f
  · intro x B' L1 b e hz l f
    rcases hk x B' e with ⟨rfl, rfl⟩ | ⟨hx, e'⟩
    · rw [hfz] at hz; cases hz
    · exact hs.hfrzF x B' L1 b e' hz l f
  · intro x B' L1 b e hz l f
    rcases hk x B' e with ⟨rfl, rfl⟩ | ⟨hx, e'⟩
    · exact (hft L1 b l f).2.2.1
    · exact hs.hownF x B' L1 b e' hz l f
  · intro x B' L1 b e l f
    rcases hk x B' e with ⟨rfl, rfl⟩ | ⟨hx, e'⟩
    · exact (hft L1 b l f).2.2.2
    · exact hs.hown2F x B' L1 b e' l f
  · intro x B' e
    rcases hk x B' e with ⟨rfl, rfl⟩ | ⟨hx, e'⟩
    · exact ⟨hm, hn⟩
    · exact hs.hnb x B' e'
  · intro x B' e hp'
    rcases hk x B' e with ⟨rfl, rfl⟩ | ⟨hx, e'⟩
    · exact hp hp'
    · exact hs.hpr x B' e' hp'

/-- A name for a block that none has. -/
theorem Sim.name (hs : Sim n w0 M0 U ι h fr mem a w) (m : Nat) (hm : ¬ U m) (B : Blk) (L : Loc) {C : Array Value} (hb : w.heap[L.b]? = some (.cells C B.ty (0, 0))) (hsz : C.size = L.sz) (hes : L.es = B.es)
    (he0 : B.es ≠ 0) (hr : RBs ι h C B.es B.els) (hfz : B.fz = false) (ho : B.ow = none) (hno : ∀ m' B' L', mget mem m' = some B' → ι m' = some L' → ¬ Ft w L' B' L.b) (hh : h L.b = none) (hown : w0.heap.size ≤ L.b ∨ M0 false L.b) (hown2 : w0.heap.size ≤ L.b ∨ M0 true L.b)
    (hn : ∀ m' ∈ B.nms, U m') (hp : B.pr = true → ∀ e ∈ B.els, ∀ x ∈ e, x.pr = true) :
    Sim n w0 M0 (fun x => U x ∨ x = m) (ι.set m L) h fr (set1 mem (m, some B)) a w := by
  have hι : ∀ x, U x → (ι.set m L) x = ι x := fun x hx => by
    unfold Io.set; rw [if_neg]; rintro rfl; exact hm hx
  have hset : (ι.set m L) m = some L := by simp [Io.set]
  refine (hs.fresh m hm L (Array.getElem?_eq_some_iff.1 hb).1).adopt m (.inr rfl) B (RB.ofC hset ho ⟨C, hb, hsz, hes, hr.mono (Sub.refl h) fun x hx => hι x (hn x hx)⟩ he0) hfz ?_ (fun m' hm' => .inl (hn m' hm')) hp
  intro L1 b l f
  rw [hset] at l
  cases l
  obtain rfl := f.plain ho
  exact ⟨fun y B' L' _ e l => hno y B' L' e (by rw [← hι y (hs.hnb y B' e).1]; exact l), hh, hown, hown2⟩
/-- A name for no block: a slice that is nil. -/
theorem Sim.nameNil (hs : Sim n w0 M0 U ι h fr mem a w) (m : Nat) (hm : ¬ U m) (B : Blk) (hb : B.els = []) (hfz : B.fz = false) :
    Sim n w0 M0 (fun x => U x ∨ x = m) ι h fr (set1 mem (m, some B)) a w := by
  have hιm : ι m = none := by
    cases hL : ι m with
    | none => rfl
    | some L => exact absurd (hs.hdom m L hL).1 hm
  refine (hs.weak (U' := fun x => U x ∨ x = m) fun _ hx => .inl hx).adopt m (.inr rfl) B (by unfold RB; rw [hιm]; exact hb) hfz (fun L b l => by rw [hιm] at l; cases l) ?_ ?_
  · intro m' hm'
    unfold Blk.nms at hm'
    rw [hb] at hm'
    cases hm'
  · intro _ e he
    rw [hb] at he
    cases he

theorem inl_iff {e : List At} : inl e = true ↔ ∃ es n rows, e = [.sl es n rows] := by
  constructor
  · intro h
    unfold inl at h
    split at h
    · exact ⟨_, _, _, rfl⟩
    · cases h
  · rintro ⟨es, n, rows, rfl⟩; rfl
/-- What coming home says. -/
theorem stl_spec {b : Blk} {q : TypeId × Nat} {r : List (List At) × List Nat} (e : stl mem b q = some r) :
    (r.1 = b.els ∧ r.2 = [] ∧ b.els.all inl = true) ∨
    ∃ i x n bx, b.els[i]? = some [.sm x 0 n] ∧ mget mem x = some bx ∧ bx.pr = true ∧ bx.fz = false ∧ bx.ow = none ∧ bx.es = q.2 ∧ bx.ty = q.1 ∧ n ≤ bx.els.length ∧
      r.1 = b.els.set i [.sl q.2 n (bx.els.take n)] ∧ r.2 = [x] ∧ (b.els.set i [.sl q.2 n (bx.els.take n)]).all inl = true := by
  unfold stl at e
  split at e
  · rename_i hq
    cases e
    refine .inl ⟨rfl, rfl, ?_⟩
    rw [List.findIdx?_eq_none_iff] at hq
    rw [List.all_eq_true]
    intro x hx
    simpa using hq x hx
  · rename_i i hq
    simp only [Option.bind_eq_some_iff] at e
    obtain ⟨el, e1, p, e2, e⟩ := e
    split at e
    · rename_i hall
      cases e
      unfold home at e2
      split at e2
      · rename_i x n
        simp only [Option.bind_eq_some_iff] at e2
        obtain ⟨bx, e3, e2⟩ := e2
        split at e2
        · rename_i hc
          cases e2
          exact .inr ⟨i, x, n, bx, e1, e3, hc.1, by simpa using hc.2.1, hc.2.2.1, hc.2.2.2.1, hc.2.2.2.2.1, hc.2.2.2.2.2, rfl, rfl, hall⟩
        · cases e2
      · cases e2
    · cases e
theorem inl_pr {els : List (List At)} (h : els.all inl = true) : ∀ e ∈ els, ∀ x ∈ e, x.pr = true := by
  intro e he x hx
  obtain ⟨es, k, rows, rfl⟩ := inl_iff.1 (List.all_eq_true.1 h e he)
  simp at hx
  subst hx
  rfl
theorem Inn.set {els : List (List At)} {C : Array Value} {i j b : Nat} {el : List At} (h : Inn (els.set i el) C j b) : (j ≠ i ∧ Inn els C j b) ∨ (j = i ∧ ∃ es k rows o n' c, el = [.sl es k rows] ∧ C[j]? = some (.slice (some ⟨b, o, none⟩) n' c)) := by
  obtain ⟨es, k, rows, o, n', c, h1, h2⟩ := h
  by_cases hj : i = j
  · subst hj
    rw [List.getElem?_set_self'] at h1
    cases hg : els[i]? with
    | none => rw [hg] at h1; cases h1
    | some y => rw [hg] at h1; cases h1; exact .inr ⟨rfl, es, k, rows, o, n', c, rfl, h2⟩
  · rw [List.getElem?_set_ne hj] at h1
    exact .inl ⟨Ne.symm hj, es, k, rows, o, n', c, h1, h2⟩
theorem nms_set {els : List (List At)} {i : Nat} {el : List At} {m : Nat} (h : m ∈ (els.set i el).flatMap fun e => e.flatMap At.nm) : m ∈ (els.flatMap fun e => e.flatMap At.nm) ∨ m ∈ el.flatMap At.nm := by
  obtain ⟨e, he, hm⟩ := List.mem_flatMap.1 h
  rcases List.mem_or_eq_of_mem_set he with he | rfl
  · exact .inl (List.mem_flatMap.2 ⟨e, he, hm⟩)
  · exact .inr hm
/-- What a block that owns inner slices is to others. -/
theorem Sim.mine (hs : Sim n w0 M0 U ι h fr mem a w) {m : Nat} {b : Blk} {L : Loc} (e : mget mem m = some b) (hz : b.fz = false) (hL : ι m = some L) {g : Nat} (hf : Ft w L b g) :
    (∀ y B' L', y ≠ m → mget mem y = some B' → ι y = some L' → ¬ Ft w L' B' g) ∧ h g = none ∧ (w0.heap.size ≤ g ∨ M0 false g) ∧ (w0.heap.size ≤ g ∨ M0 true g) :=
  ⟨fun y B' L' hy e' l f => hy (hs.hinjF y m B' b L' L g e' e l hL f hf), hs.hmutF m b L g e hz hL hf, hs.hownF m b L g e hz hL hf, hs.hown2F m b L g e hL hf⟩

/-- The inner slices come home: nothing turns in the heap. -/
theorem Sim.homed (hs : Sim n w0 M0 U ι h fr mem a w) {m : Nat} {b : Blk} {q : TypeId × Nat} {r : List (List At) × List Nat} (e : mget mem m = some b) (ho : b.ow = some q) (hz : b.fz = false) (hr : stl mem b q = some r) (pr' : Bool) :
    Sim n w0 M0 U ι h fr (updM mem (r.2.map (fun x => (x, none)) ++ [(m, some { b with els := r.1, pr := pr' })])) a w := by
  have hum := (hs.hnb m b e).1
  have hnb := (hs.hnb m b e).2
  rcases stl_spec hr with ⟨r1, r2, r3⟩ | ⟨i, x, k, bx, g1, g2, g3, g4, g5, g6, g7, g8, r1, r2, r3⟩
  · rw [r1, r2]
    refine hs.adopt m hum _ (hs.hmem m b e) hz (fun L g hL f => hs.mine e hz hL (f.to rfl rfl rfl)) hnb fun _ => inl_pr r3
  · rw [r1, r2]
    have hxm : x ≠ m := by rintro rfl; rw [e] at g2; cases g2; rw [ho] at g5; cases g5
    refine (hs.drop x).adopt m hum _ ?_ hz ?_ ?_ fun _ => inl_pr r3
    · cases hL : ι m with
      | none => have := (hs.hmem m b e).els0 hL; rw [this] at g1; simp at g1
      | some L =>
        obtain ⟨C, c1, c2, c3, c4, c5, c6, c7, c8⟩ := (hs.hmem m b e).nest hL ho
        obtain ⟨y, u, k1, k2, k3⟩ := c6 i _ g1
        cases k1
        have hra : RA ι h (.sm x 0 k) u := by
          rcases k3 with ⟨_, _, k3, _⟩ | ⟨_, k3⟩
          · cases k3
          · exact k3
        -- what lies at the place i
        have hin : ∀ g, (∃ o n' c', C[i]? = some (.slice (some ⟨g, o, none⟩) n' c')) → ∃ Lx, ι x = some Lx ∧ g = Lx.b := by
          rintro g ⟨o, n', c', hg⟩
          rw [k2] at hg
          cases hg
          rcases hra with ⟨Lx, cap, hLx, hq, _⟩ | ⟨_, _, _, hq⟩
          · cases hq; exact ⟨Lx, hLx, rfl⟩
          · cases hq
        refine RB.ofN hL ho ⟨C, c1, c2, c3, c4, c5, ?_, ?_, ?_⟩
        · intro j el hj
          by_cases hji : i = j
          · subst hji
            rw [List.getElem?_set_self (List.getElem?_eq_some_iff.1 g1).1] at hj
            cases hj
            refine ⟨_, u, rfl, k2, .inl ⟨k, _, rfl, ?_⟩⟩
            rcases hra with ⟨Lx, cap, hLx, hq, h1, h2, h3⟩ | ⟨hLx, _, h1, hq⟩
            · obtain ⟨D, d1, d2, d3, d4⟩ := (hs.hmem x bx g2).cells hLx g5 fun _ h0 _ => by rw [g6] at h0; omega
              rw [g7] at d1
              rw [Nat.zero_add, d3, g6] at h1
              rw [Nat.zero_mul] at hq
              refine .inr ⟨Lx.b, cap, D, hq, d1, by rw [d2]; exact h1.symm, h2, h3, by rw [List.length_take]; omega, fun kk row hrow => ?_⟩
              rw [List.getElem?_take] at hrow
              split at hrow
              · obtain ⟨q1, q2⟩ := d4 kk row hrow
                rw [g6] at q1 q2
                refine ⟨q1, fun j y hy => ?_⟩
                obtain ⟨v, v1, v2⟩ := q2 j y hy
                have hyp := hs.hpr x bx g2 g3 row (List.mem_of_getElem? hrow) y (List.mem_of_getElem? hy)
                exact ⟨v, v1, hyp, RA.toRP hyp v2⟩
              · cases hrow
            · subst h1
              exact .inl ⟨rfl, rfl, hq⟩
          · rw [List.getElem?_set_ne hji] at hj
            exact c6 j el hj
        · intro j1 j2 g f1 f2
          have key : ∀ j, Inn (b.els.set i [.sl q.2 k (bx.els.take k)]) C j g → (j ≠ i ∧ Inn b.els C j g) ∨ (j = i ∧ ∃ Lx, ι x = some Lx ∧ g = Lx.b) := fun j f => by
            rcases f.set with f | ⟨rfl, _, _, _, o, n', c', _, hg⟩
            · exact .inl f
            · exact .inr ⟨rfl, hin g ⟨o, n', c', hg⟩⟩
          have no : ∀ j, Inn b.els C j g → (∃ Lx, ι x = some Lx ∧ g = Lx.b) → False := fun j f ⟨Lx, hLx, hg⟩ => by
            refine hxm (hs.hinjF x m bx b Lx L g g2 e hLx hL (hg ▸ Ft.self) (.inr ⟨by rw [ho]; rfl, C, _, _, j, c1, f⟩))
          rcases key j1 f1 with ⟨_, k1⟩ | ⟨e1, k1⟩
          · rcases key j2 f2 with ⟨_, k2⟩ | ⟨e2, k2⟩
            · exact c7 j1 j2 g k1 k2
            · exact (no j1 k1 k2).elim
          · rcases key j2 f2 with ⟨_, k2⟩ | ⟨e2, k2⟩
            · exact (no j2 k2 k1).elim
            · rw [e1, e2]
        · intro j g f
          rcases f.set with ⟨_, f⟩ | ⟨rfl, _, _, _, o, n', c', _, hg⟩
          · exact c8 j g f
          · obtain ⟨Lx, hLx, rfl⟩ := hin g ⟨o, n', c', hg⟩
            exact fun hq => hxm (hs.hinj x m bx b Lx L g2 e hLx hL hq)
    · intro L g hL f
      have hcase : Ft w L b g ∨ ∃ Lx, ι x = some Lx ∧ g = Lx.b := by
        rcases f with f | ⟨_, C, t, z, j, f1, f2⟩
        · exact .inl (.inl f)
        · rcases f2.set with ⟨_, f2⟩ | ⟨rfl, _, _, _, o, n', c', _, hg⟩
          · exact .inl (.inr ⟨by rw [ho]; rfl, C, t, z, j, f1, f2⟩)
          · obtain ⟨C', c1, _, _, _, _, c6, _⟩ := (hs.hmem m b e).nest hL ho
            rw [f1] at c1
            cases c1
            obtain ⟨y, u, k1, k2, k3⟩ := c6 j _ g1
            cases k1
            rw [hg] at k2
            cases k2
            rcases k3 with ⟨_, _, k3, _⟩ | ⟨_, k3⟩
            · cases k3
            · rcases k3 with ⟨Lx, cap, hLx, hq, _⟩ | ⟨_, _, _, hq⟩
              · cases hq; exact .inr ⟨Lx, hLx, rfl⟩
              · cases hq
      have hget : ∀ y B', mget (set1 mem (x, none)) y = some B' → y ≠ x ∧ mget mem y = some B' := fun y B' hy => by
        rw [mget_set1] at hy
        by_cases hx : x = y
        · rw [if_pos hx] at hy; cases hy
        · rw [if_neg hx] at hy; exact ⟨Ne.symm hx, hy⟩
      rcases hcase with hf | ⟨Lx, hLx, rfl⟩
      · obtain ⟨m1, m2⟩ := hs.mine e hz hL hf
        exact ⟨fun y B' L' hy e' l => m1 y B' L' hy (hget y B' e').2 l, m2⟩
      · obtain ⟨m1, m2⟩ := hs.mine g2 g4 hLx (Ft.self (w := w) (B := bx))
        exact ⟨fun y B' L' hy e' l => m1 y B' L' (hget y B' e').1 (hget y B' e').2 l, m2⟩
    · intro m' hm'
      rcases nms_set hm' with hm' | hm'
      · exact hnb m' hm'
      · simp [At.nm] at hm'
/-- An inner slice gets a name of its own: nothing turns in the heap. -/
theorem Sim.outed (hs : Sim n w0 M0 U ι h fr mem a w) {m : Nat} {b : Blk} {q : TypeId × Nat} (e : mget mem m = some b) (ho : b.ow = some q) (hz : b.fz = false) {i es k : Nat} {rows : List (List At)} (hi : b.els[i]? = some [.sl es k rows]) (x : Nat) (hx : ¬ U x) :
    ∃ ι', (∀ y, y ≠ x → ι' y = ι y) ∧ Sim n w0 M0 (fun y => U y ∨ y = x) ι' h fr (updM mem [(m, some { b with els := b.els.set i [.sm x 0 k], pr := false }), (x, some { els := rows, es := q.2, ty := q.1, pr := true, fz := false, ar := true })]) a w := by
  have hum := (hs.hnb m b e).1
  have hnb := (hs.hnb m b e).2
  have hxm : x ≠ m := by rintro rfl; exact hx hum
  have hιx : ι x = none := by
    cases hL : ι x with
    | none => rfl
    | some L => exact absurd (hs.hdom x L hL).1 hx
  cases hL : ι m with
  | none => have := (hs.hmem m b e).els0 hL; rw [this] at hi; simp at hi
  | some L =>
    obtain ⟨C, c1, c2, c3, c4, c5, c6, c7, c8⟩ := (hs.hmem m b e).nest hL ho
    obtain ⟨y, u, k1, k2, k3⟩ := c6 i _ hi
    cases k1
    have hro : es = q.2 ∧ Ro h w q k rows u := by
      rcases k3 with ⟨_, _, k3, hro⟩ | ⟨k3, _⟩
      · cases k3; exact ⟨rfl, hro⟩
      · exact absurd rfl (k3 _ _ _)
    obtain ⟨rfl, hro⟩ := hro
    have hlk : ∀ (B1 B2 : Blk) (z : Nat), lk (updM mem [(m, some B1), (x, some B2)]) z = lk (set1 (set1 (set1 mem (m, none)) (x, some B2)) (m, some B1)) z := fun B1 B2 z => by
      simp only [updM, lk_set1]
      by_cases h1 : m = z
      · subst h1; simp [hxm]
      · by_cases h2 : x = z <;> simp [h1, h2]
    have hget : ∀ z B', mget (set1 mem (m, none)) z = some B' → z ≠ m ∧ mget mem z = some B' := fun z B' hz' => by
      rw [mget_set1] at hz'
      by_cases hq : m = z
      · rw [if_pos hq] at hz'; cases hz'
      · rw [if_neg hq] at hz'; exact ⟨Ne.symm hq, hz'⟩
    have hnms : ∀ m' ∈ ({ b with els := b.els.set i [.sm x 0 k], pr := false } : Blk).nms, U m' ∨ m' = x := fun m' hm' => by
      rcases nms_set hm' with hm' | hm'
      · exact .inl (hnb m' hm')
      · simp [At.nm] at hm'; exact .inr hm'
    -- the block's part of the heap without the inner slice
    have hsm : ∀ j g, Inn (b.els.set i [.sm x 0 k]) C j g → j ≠ i ∧ Inn b.els C j g := fun j g f => by
      rcases f.set with f | ⟨_, _, _, _, _, _, _, hq, _⟩
      · exact f
      · cases hq
    have hftm : ∀ g, Ft w L ({ b with els := b.els.set i [.sm x 0 k], pr := false } : Blk) g → Ft w L b g ∧ ∀ o n' c', C[i]? ≠ some (.slice (some ⟨g, o, none⟩) n' c') := fun g f => by
      have self : ∀ o n' c', C[i]? = some (.slice (some ⟨g, o, none⟩) n' c') → Inn b.els C i g := fun o n' c' hc => ⟨_, _, _, o, n', c', hi, hc⟩
      rcases f with rfl | ⟨_, C', t, z, j, f1, f2⟩
      · exact ⟨Ft.self, fun o n' c' hc => c8 i _ (self o n' c' hc) rfl⟩
      · rw [c1] at f1
        cases f1
        obtain ⟨hj, f2⟩ := hsm j g f2
        exact ⟨.inr ⟨by rw [ho]; rfl, C, _, _, j, c1, f2⟩, fun o n' c' hc => hj (c7 j i g f2 (self o n' c' hc))⟩
    have hrn : ∀ ι' : Io, (∀ y, y ≠ x → ι' y = ι y) → RA ι' h (.sm x 0 k) u → RN ι' h w L { b with els := b.els.set i [.sm x 0 k], pr := false } q := fun ι' hι hra => by
      refine ⟨C, c1, c2, c3, c4, c5, fun j el hj => ?_, fun j1 j2 g f1 f2 => c7 j1 j2 g (hsm j1 g f1).2 (hsm j2 g f2).2, fun j g f => c8 j g (hsm j g f).2⟩
      by_cases hji : i = j
      · subst hji
        rw [List.getElem?_set_self (List.getElem?_eq_some_iff.1 hi).1] at hj
        cases hj
        exact ⟨_, u, rfl, k2, .inr ⟨(fun _ _ _ hq => by cases hq), hra⟩⟩
      · rw [List.getElem?_set_ne hji] at hj
        obtain ⟨y, v, q1, q2, q3⟩ := c6 j el hj
        subst q1
        refine ⟨y, v, rfl, q2, ?_⟩
        rcases q3 with q3 | ⟨q3, q4⟩
        · exact .inl q3
        · exact .inr ⟨q3, q4.mono (Sub.refl h) fun z hz' => hι z fun hq => hx (hq ▸ hnb z (List.mem_flatMap.2 ⟨[y], List.mem_of_getElem? hj, by simpa using hz'⟩))⟩
    rcases hro with ⟨rfl, rfl, rfl⟩ | ⟨g, cap, D, rfl, d2, d3, d4, d5, d6, d7⟩
    · refine ⟨ι, fun _ _ => rfl, Sim.congr (((hs.drop m).nameNil x hx { els := [], es := q.2, ty := q.1, pr := true, fz := false, ar := true } rfl rfl).adopt m (.inl hum) { b with els := b.els.set i [.sm x 0 0], pr := false } (RB.ofN (B := { b with els := b.els.set i [.sm x 0 0], pr := false }) hL ho (hrn ι (fun _ _ => rfl) (.inr ⟨hιx, rfl, rfl, rfl⟩))) hz ?_ hnms (fun hp => by cases hp)) (fun _ => rfl) (hlk _ _)⟩
      intro L' g l f
      rw [hL] at l
      cases l
      obtain ⟨m1, m2⟩ := hs.mine e hz hL (hftm g f).1
      refine ⟨fun y B' L' hy e' l => ?_, m2⟩
      rw [mget_set1] at e'
      by_cases hq : x = y
      · subst hq; rw [hιx] at l; cases l
      · rw [if_neg hq] at e'
        exact m1 y B' L' hy (hget y B' e').2 l
    · have hinn : Inn b.els C i g := ⟨_, _, _, 0, k, cap, hi, k2⟩
      have hfg : Ft w L b g := .inr ⟨by rw [ho]; rfl, C, _, _, i, c1, hinn⟩
      obtain ⟨m1, m2, m3, m4⟩ := hs.mine e hz hL hfg
      have hι' : ∀ y, y ≠ x → (ι.set x ⟨g, D.size, q.2⟩) y = ι y := fun y hy => by unfold Io.set; rw [if_neg hy]
      have hsx : (ι.set x ⟨g, D.size, q.2⟩) x = some ⟨g, D.size, q.2⟩ := by simp [Io.set]
      have s2 := (hs.drop m).name x hx { els := rows, es := q.2, ty := q.1, pr := true, fz := false, ar := true } ⟨g, D.size, q.2⟩ d2 rfl rfl (by show q.2 ≠ 0; omega)
        (fun kk row hrow => ⟨(d7 kk row hrow).1, fun j y hy => let ⟨v, v1, v2, v3⟩ := (d7 kk row hrow).2 j y hy; ⟨v, v1, RA.ofRP v3⟩⟩) rfl rfl
        (fun y B' L' e' l => m1 y B' L' (hget y B' e').1 (hget y B' e').2 l) m2 m3 m4
        (fun m' hm' => by
          obtain ⟨row, hrow, hm'⟩ := List.mem_flatMap.1 hm'
          obtain ⟨y, hy, hm'⟩ := List.mem_flatMap.1 hm'
          obtain ⟨kk, hkk⟩ := List.getElem?_of_mem hrow
          obtain ⟨j, hj⟩ := List.getElem?_of_mem hy
          obtain ⟨v, v1, v2, v3⟩ := (d7 kk row hkk).2 j y hj
          rw [RP.nm v3] at hm'; cases hm')
        (fun _ row hrow y hy => by
          obtain ⟨kk, hkk⟩ := List.getElem?_of_mem hrow
          obtain ⟨j, hj⟩ := List.getElem?_of_mem hy
          obtain ⟨v, v1, v2, v3⟩ := (d7 kk row hkk).2 j y hj
          exact v2)
      have hLm : (ι.set x ⟨g, D.size, q.2⟩) m = some L := (hι' m (Ne.symm hxm)).trans hL
      refine ⟨_, hι', Sim.congr (s2.adopt m (.inl hum) { b with els := b.els.set i [.sm x 0 k], pr := false } (RB.ofN (B := { b with els := b.els.set i [.sm x 0 k], pr := false }) hLm ho (hrn _ hι' (.inl ⟨_, cap, hsx, by simp, by simpa using d3.symm, d4, d5⟩))) hz ?_ hnms (fun hp => by cases hp)) (fun _ => rfl) (hlk _ _)⟩
      intro L' g' l f
      rw [hLm] at l
      cases l
      obtain ⟨f1, f2⟩ := hftm g' f
      obtain ⟨n1, n2⟩ := hs.mine e hz hL f1
      refine ⟨fun y B' L' hy e' l => ?_, n2⟩
      rw [mget_set1] at e'
      by_cases hq : x = y
      · subst hq
        rw [if_pos rfl] at e'
        rw [hsx] at l
        cases e'
        cases l
        intro ff
        have := ff.plain rfl
        subst this
        exact f2 _ _ _ k2
      · rw [if_neg hq] at e'
        rw [hι' y (Ne.symm hq)] at l
        exact n1 y B' L' hy (hget y B' e').2 l
theorem pl_out (hT : TyOk P c.T) (hs : Sim n w0 M0 U ι h fr mem a w) (hf : ∀ m, nx ≤ m → m < e.nn → ¬ U m) {t : TypeId} {x : Operand} {m i es : Nat} (hop : o.op = .load t x) (hr : RA ι h (.ptq m i es) (a.eval x)) {ti : TI} (e1 : c.T t = some ti)
    (he : stpOut c t m i es mem nx = some e) : Plain P n w0 M0 U ι h fr mem a w nx o e := by
  simp only [stpOut, Option.bind_eq_some_iff] at he
  obtain ⟨b, e2, he⟩ := he
  split at he
  · rename_i q e3 ho ht
    split at he
    · rename_i hc
      obtain ⟨c1, c2, c3, c4⟩ := hc
      have hz : b.fz = false := by simpa using c4
      simp only [Option.bind_eq_some_iff] at he
      obtain ⟨r, hst, he⟩ := he
      split at he
      · rename_i k2 k rows hri
        cases he
        have hfx := hf nx (Nat.le_refl _) (Nat.lt_succ_self _)
        have hmx : m ≠ nx := by rintro rfl; exact hfx (hs.hnb m b e2).1
        have s1 := hs.homed e2 ho hz hst true
        have hg : mget (updM mem (r.2.map (fun x => (x, none)) ++ [(m, some { b with els := r.1, pr := true })])) m = some { b with els := r.1, pr := true } := by
          unfold mget
          rw [lk_updM]
          simp [List.reverse_append, lk]
        obtain ⟨ι', hι, s2⟩ := s1.outed hg ho hz hri nx hfx
        obtain ⟨L, hL, hx⟩ := hr
        have s3 : Sim n w0 M0 (fun y => U y ∨ (nx ≤ y ∧ y < nx + 1)) ι' h fr (updM mem (r.2.map (fun x => (x, none)) ++ [(m, some { b with els := r.1.set i [.sm nx 0 k], pr := false }), (nx, some { els := rows, es := q.2, ty := q.1, pr := true, fz := false, ar := true })])) a w := by
          refine (s2.congr (fun _ => rfl) fun z => ?_).weak fun y hy => ?_
          · simp only [lk_updM, List.reverse_append, List.reverse_cons, List.reverse_nil, List.nil_append, List.cons_append, lk_cons]
            by_cases h1 : nx = z
            · simp [h1]
            · by_cases h2 : m = z <;> simp [h1, h2, lk]
          · rcases hy with hy | rfl
            · exact .inl hy
            · exact .inr ⟨Nat.le_refl _, Nat.lt_succ_self _⟩
        have hgm : mget (updM mem (r.2.map (fun x => (x, none)) ++ [(m, some { b with els := r.1.set i [.sm nx 0 k], pr := false }), (nx, some { els := rows, es := q.2, ty := q.1, pr := true, fz := false, ar := true })])) m = some { b with els := r.1.set i [.sm nx 0 k], pr := false } := by
          unfold mget
          rw [lk_updM]
          simp [List.reverse_append, lk, Ne.symm hmx]
        have hLm : ι' m = some L := (hι m hmx).trans hL
        obtain ⟨C, d1, d2, d3, d4, d5, d6, d7, d8⟩ := (s3.hmem m _ hgm).nest hLm ho
        have hil : i < r.1.length := (List.getElem?_eq_some_iff.1 hri).1
        obtain ⟨y, u, k1, k3, k4⟩ := d6 i [.sm nx 0 k] (List.getElem?_set_self hil)
        cases k1
        have hra : RA ι' h (.sm nx 0 k) u := by
          rcases k4 with ⟨_, _, k4, _⟩ | ⟨_, k4⟩
          · cases k4
          · exact k4
        have hag : ti.agg = false := by
          obtain ⟨d, g1, g2, g3⟩ := (hT t ti e1).desc
          simp only [tdOf, e1, Option.bind_some, Option.some.injEq] at ht
          rw [ht] at g2
          have g2 : d = .slice e3 := g2
          rw [← g3, g2]
          rfl
        have hpv : partV ti [.sm nx 0 k] 0 = some (.a (.sm nx 0 k)) := by unfold partV; simp [hag]
        obtain ⟨u', r1, r2, _⟩ := part_sound (ι := ι') (h := h) (hT t ti e1) hpv (off := i) d1 (fun j y hy => by
          cases j with
          | zero => simp at hy; subst hy; exact ⟨u, k3, hra⟩
          | succ j => simp at hy)
        refine .inl ⟨u', w, ?_, ι', h, Sub.refl h, fun y hy => hι y (by rintro rfl; exact hy ⟨Nat.le_refl _, Nat.lt_succ_self _⟩), s3, r2, ?_, Nat.le_succ _, fun _ _ _ => rfl⟩
        · rw [c2, Nat.mul_one] at hx
          rw [Nat.add_zero] at r1
          simp [execOp, hop, Instr.loadAt, Instr.sureAddr, hx, r1]
        · intro y hy
          simp [Sv.nms, namesV, Vl.cells, At.nm] at hy
          exact .inr ⟨by omega, by show y < nx + 1; omega⟩
      · cases he
    · cases he
  · cases he
theorem set_get {C : Array Value} {i : Nat} {u : Value} (hi : i < C.size) (j : Nat) : (C.toList.take i ++ [u] ++ C.toList.drop (i + 1)).toArray[j]? = if j = i then some u else C[j]? := by
  have : C.toList.take i ++ [u] ++ C.toList.drop (i + 1) = C.toList.set i u := by
    rw [List.set_eq_take_append_cons_drop, if_pos (by simpa using hi)]
    simp
  rw [this]
  simp only [List.getElem?_toArray, List.getElem?_set, Array.length_toList, Array.getElem?_toList]
  by_cases h : i = j
  · subst h; simp [hi]
  · rw [if_neg h, if_neg (Ne.symm h)]
theorem pl_into (hT : TyOk P c.T) (hs : Sim n w0 M0 U ι h fr mem a w) {t : TypeId} {x y : Operand} {m i es : Nat} {v : Vl} (hop : o.op = .store t x y) (hr : RA ι h (.ptq m i es) (a.eval x)) (hv : RV ι h v (a.eval y)) (hvn : ∀ m ∈ namesV [v], U m) {ti : TI} (e1 : c.T t = some ti) (h1 : ti.size = 1)
    (he : stpInto c t m i es v mem nx = some e) : Plain P n w0 M0 U ι h fr mem a w nx o e := by
  simp only [stpInto, Option.bind_eq_some_iff] at he
  obtain ⟨b, e2, he⟩ := he
  split at he
  · rename_i q z k e3 ho ht
    split at he
    · rename_i hc
      obtain ⟨c1, c2, c3, c4, c5, c6, c7⟩ := hc
      have hz : b.fz = false := by simpa using c4
      cases he
      obtain ⟨L, hL, hx⟩ := hr
      rw [c2, Nat.mul_one] at hx
      obtain ⟨C, d1, d2, d3, d4, d5, d6, d7, d8⟩ := (hs.hmem m b e2).nest hL ho
      have hra : RA ι h (.sm z 0 k) (a.eval y) := hv
      have hone := hra.oneCell
      have hcs := cells_of_oneCell hone
      obtain ⟨_, u0, _, hu0, _⟩ := d6 i _ (List.getElem?_eq_getElem c5)
      have hiC : i < C.size := (Array.getElem?_eq_some_iff.1 hu0).1
      obtain ⟨ri, hi, hsz, _⟩ := (hT t ti e1).info
      have hst := run_storeCells_at (P := P) L.b i b.ty (a.eval y).cells.toList 0 C w d1 (by rw [hcs]; simp; omega) (by rw [hcs]; simpa using hone)
      rw [hcs] at hst
      have hset := fun j => set_get (u := a.eval y) hiC j
      have hheap := fun g => heap_setRow w L.b g (C.toList.take i ++ [a.eval y] ++ C.toList.drop (i + 1)).toArray C b.ty d1
      refine .inr ⟨w.setRow L.b (C.toList.take i ++ [a.eval y] ++ C.toList.drop (i + 1)).toArray, ?_, ι, h, Sub.refl h, fun _ _ => rfl, (?_ : Sim n w0 M0 _ ι h fr (set1 mem _) a _), rfl, (fun m hm => by cases hm), Nat.le_refl _, fun _ _ _ => rfl⟩
      · have hst' : (storeCells { block := L.b, off := i, spot := none } #[a.eval y].toList).run P w = _ := hst
        simp only [Nat.add_zero] at hst'
        have hsz' : (a.eval y).cells.size = 1 := by rw [hcs]; rfl
        rw [h1] at hsz
        simp [execOp, hop, Instr.storeAt, Instr.sureAddr, hx, storeVar, run_sizeOf hi, hsz, hsz', hcs]
        simp at hst'
        rw [hst']
        simp
      · have hin : ∀ j g, Inn (b.els.set i [.sm z 0 k]) (C.toList.take i ++ [a.eval y] ++ C.toList.drop (i + 1)).toArray j g → Inn b.els C j g := fun j g f => by
          rcases f.set with ⟨hj, es', n', rows, o', n2, c', f1, f2⟩ | ⟨_, _, _, _, _, _, _, hq, _⟩
          · rw [hset, if_neg hj] at f2
            exact ⟨es', n', rows, o', n2, c', f1, f2⟩
          · cases hq
        refine Sim.weak (hs.writeO (B' := { b with els := b.els.set i [.sm z 0 k], pr := false }) e2 hz hL (ob := .cells _ b.ty (0, 0)) hheap (by simp [World.setRow]) rfl rfl rfl hz (RB.ofN (B := { b with els := b.els.set i [.sm z 0 k], pr := false }) hL ho ⟨_, by rw [hheap, if_pos rfl], ?_, d3, d4, d5, ?_, fun j1 j2 g f1 f2 => d7 j1 j2 g (hin j1 g f1) (hin j2 g f2), fun j g f => d8 j g (hin j g f)⟩) ?_ (fun hp => by cases hp) ?_) (fun m hm => .inl hm)
        · rw [← d2]; simp; omega
        · intro j el hj
          by_cases hji : i = j
          · subst hji
            rw [List.getElem?_set_self c5] at hj
            cases hj
            exact ⟨_, a.eval y, rfl, by rw [hset, if_pos rfl], .inr ⟨(fun _ _ _ hq => by cases hq), hra⟩⟩
          · rw [List.getElem?_set_ne hji] at hj
            obtain ⟨x', u, q1, q2, q3⟩ := d6 j el hj
            subst q1
            refine ⟨x', u, rfl, by rw [hset, if_neg (Ne.symm hji)]; exact q2, ?_⟩
            rcases q3 with ⟨n', rows, rfl, q3⟩ | q3
            · exact .inl ⟨n', rows, rfl, q3.to (Sub.refl h) fun g o' n2 c' hq => by
                rw [hheap, if_neg]
                rw [hq] at q2
                exact d8 j g ⟨_, _, _, o', n2, c', hj, q2⟩⟩
            · exact .inr q3
        · intro m' hm'
          rcases nms_set hm' with hm' | hm'
          · exact (hs.hnb m b e2).2 m' hm'
          · exact hvn m' (by simpa [namesV, Vl.cells] using hm')
        · intro g f
          rcases f with f | ⟨_, C', t', z', j, f1, f2⟩
          · exact .inl f
          · rw [hheap, if_pos rfl] at f1
            cases f1
            exact .inr ⟨by rw [ho]; rfl, C, _, _, j, d1, hin j g f2⟩
    · cases he
  · cases he
end

section
variable {P : Program} {n : Nat} {w0 : World} {M0 : Bool → Nat → Prop} {U : Nat → Prop} {ι : Io} {h : Hp} {fr : List (Nat × Sv)} {mem : Mem} {a : Act} {w : World}
 {c : Cfg} {callF : FuncId → List Vl → List Blk → Option (List Vl × List Blk)} {o : Oper} {nx : Nat} {e : Eff}

theorem mv_sound (hs : Sim n w0 M0 U ι h fr mem a w) {x : Operand}
  (he : ((ev fr x).bind fun v =>
   match v with
   | .v (.a (.snil ..)) => match tdOf c.T o.type with
    | some (.sl e) => (c.T e).bind fun te => val (.a (.snil te.size e)) nx
    | _ => none
   | .u => none
   | v => some { v := v, upd := [], nn := nx, rd := [] }) = some e) :
  Nxt n w0 M0 U ι h fr mem nx e a (a.eval x) w := by
 simp only [Option.bind_eq_some_iff] at he
 obtain ⟨v, e1, he⟩ := he
 obtain ⟨hr, hn⟩ := hs.ev e1
 split at he
 ·split at he
  ·simp only [Option.bind_eq_some_iff] at he
   obtain ⟨te, _, he⟩ := he
   refine Nxt.valP hs he ?_
   have hq : a.eval x = .slice none 0 0 := by
    have hr' : RP h _ _ := hr
    generalize a.eval x = q at hr'
    cases hr'
    rfl
   rw [hq]
   exact .snil _ _
  ·cases he
 ·cases he
 ·cases he
  exact Nxt.val hs hr hn

theorem pl_move (hs : Sim n w0 M0 U ι h fr mem a w) {x : Operand} (hop : o.op = .move x) (he : stp c callF o fr mem nx = some e) : Plain P n w0 M0 U ι h fr mem a w nx o e := by
 simp only [stp, hop] at he
 exact .inl ⟨_, w, by simp [execOp, hop], mv_sound hs he⟩
theorem pl_assign (hs : Sim n w0 M0 U ι h fr mem a w) {x : Operand} (hop : o.op = .assign x) (he : stp c callF o fr mem nx = some e) : Plain P n w0 M0 U ι h fr mem a w nx o e := by
 simp only [stp, hop] at he
 exact .inl ⟨_, w, by simp [execOp, hop], mv_sound hs he⟩

theorem nx_at (hs : Sim n w0 M0 U ι h fr mem a w) {x : At} {u : Value} (hr : RA ι h x u) (hn : ∀ m ∈ x.nm, U m) {e : Eff} (he : val (.a x) nx = some e) : Nxt n w0 M0 U ι h fr mem nx e a u w :=
 Nxt.valV hs he hr (by simpa [namesV, Vl.cells] using hn)

theorem pl_pick (hs : Sim n w0 M0 U ι h fr mem a w) {k x y : Operand} (hop : o.op = .pick k x y) (he : stp c callF o fr mem nx = some e) : Plain P n w0 M0 U ι h fr mem a w nx o e := by
 simp only [stp, hop, Option.bind_eq_some_iff] at he
 obtain ⟨t, e1, he⟩ := he
 have hk := hs.evB e1
 split at he
 ·rename_i ht
  simp only [Option.bind_eq_some_iff] at he
  obtain ⟨z, e2, he⟩ := he
  exact .inl ⟨a.eval x, w, by simp [execOp, hop, hk, asBool, ht], nx_at hs (hs.evA e2).1 (hs.evA e2).2 he⟩
 ·rename_i ht
  simp only [Option.bind_eq_some_iff] at he
  obtain ⟨z, e2, he⟩ := he
  exact .inl ⟨a.eval y, w, by simp [execOp, hop, hk, asBool, ht], nx_at hs (hs.evA e2).1 (hs.evA e2).2 he⟩

theorem Nxt.made (hs : Sim n w0 M0 U ι h fr mem a w) (hf : ∀ m, nx ≤ m → m < nx + 1 → ¬ U m) {B : Blk} {C : Array Value} (hr : RBs ι h C B.es B.els) (he0 : B.es ≠ 0) (hfz : B.fz = false) (ho : B.ow = none)
  (hn : ∀ m' ∈ B.nms, U m') (hp : B.pr = true → ∀ e ∈ B.els, ∀ x ∈ e, x.pr = true) {v : Sv} {u : Value} {rd : List Nat}
  (hv : RS (ι.set nx ⟨w.heap.size, C.size, B.es⟩) h v u) (hvn : ∀ m ∈ v.nms, m = nx) :
  Nxt n w0 M0 U ι h fr mem nx { v := v, upd := [(nx, some B)], nn := nx + 1, rd := rd } a u (w.alloc (.cells C B.ty)) :=
 ⟨ι.set nx ⟨w.heap.size, C.size, B.es⟩, h, Sub.refl h, fun m hm => by unfold Io.set; rw [if_neg]; rintro rfl; exact hm ⟨Nat.le_refl _, Nat.lt_succ_self _⟩,
  (hs.alloc nx (hf nx (Nat.le_refl _) (by omega)) B C hr he0 hfz ho hn hp).weak fun m hm => by
   rcases hm with hm | rfl
   ·exact .inl hm
   ·exact .inr ⟨Nat.le_refl _, Nat.lt_succ_self _⟩,
  hv, fun m hm => .inr (by rw [hvn m hm]; exact ⟨Nat.le_refl _, Nat.lt_succ_self _⟩), Nat.le_succ _, fun _ _ _ => rfl⟩

theorem RBs.one {cs : List At} {us : List Value} (hr : RL ι h cs us) : RBs ι h us.toArray cs.length [cs] := by
 intro i e' he'
 cases i with
 | zero =>
  simp at he'
  subst he'
  refine ⟨rfl, fun j x hx => ?_⟩
  obtain ⟨u, e1, e2⟩ := hr.2 j x hx
  exact ⟨u, by simpa using e1, e2⟩
 | succ i => simp at he'

theorem pl_alloc (hT : TyOk P c.T) (hs : Sim n w0 M0 U ι h fr mem a w) (hf : ∀ m, nx ≤ m → m < e.nn → ¬ U m) {t : TypeId} (hop : o.op = .alloc t) (he : stp c callF o fr mem nx = some e) :
  Plain P n w0 M0 U ι h fr mem a w nx o e := by
 simp only [stp, hop, Option.bind_eq_some_iff] at he
 obtain ⟨ti, e1, he⟩ := he
 split at he
 ·cases he
 ·rename_i hz
  have hz0 : ti.size ≠ 0 := fun h0 => hz (.inr h0)
  have hz : ti.zero.length = ti.size := Decidable.not_not.1 fun h0 => hz (.inl h0)
  cases he
  obtain ⟨i, z, hi, hzv, hzs, hzr, hzp⟩ := (hT t ti e1).zero hz
  have hR : RL ι h ti.zero z.cells.toList := ⟨by simp [hzs, hz], fun j x hx => by
   obtain ⟨u, e2, e3⟩ := hzr h j x hx
   exact ⟨u, by simpa using e2, RA.ofRP e3⟩⟩
  have hB := RBs.one hR
  rw [hz] at hB
  refine .inl ⟨.pointer (some ⟨w.heap.size, 0, none⟩), w.alloc (.cells z.cells t), ?_, ?_⟩
  ·simp [execOp, hop, Instr.alloc, run_zeroValue' hi hzv, newVar, newRow]
  ·refine Nxt.made (B := { els := [ti.zero], es := ti.size, ty := t, pr := true, fz := false, ar := false }) hs hf (by simpa using hB) hz0 rfl rfl ?_ ?_ ?_ ?_
   ·intro m hm
    simp only [Blk.nms, List.flatMap_cons, List.flatMap_nil, List.append_nil, List.mem_flatMap] at hm
    obtain ⟨x, hx, hm⟩ := hm
    have := hzp x hx
    cases x <;> simp [At.pr, At.nm] at this hm
   ·intro _ e' he' x hx
    simp at he'
    subst he'
    exact hzp x hx
   ·exact ⟨_, by simp [Io.set]; rfl, by simp⟩
   ·intro m hm; simpa [Sv.nms, namesV, Vl.cells, At.nm] using hm

theorem pl_box (hT : TyOk P c.T) (hs : Sim n w0 M0 U ι h fr mem a w) (hf : ∀ m, nx ≤ m → m < e.nn → ¬ U m) {t : TypeId} {x : Operand} (hop : o.op = .box t x) (he : stp c callF o fr mem nx = some e) :
  Plain P n w0 M0 U ι h fr mem a w nx o e := by
 simp only [stp, hop, Option.bind_eq_some_iff] at he
 obtain ⟨ti, e1, v, e2, he⟩ := he
 split at he
 ·rename_i hz
  obtain ⟨hz, hz0⟩ := hz
  cases he
  obtain ⟨hr, hn⟩ := hs.evV e2
  have hR := RV.cells hr
  have hB := RBs.one hR
  rw [hz] at hB
  refine .inl ⟨.pointer (some ⟨w.heap.size, 0, none⟩), w.alloc (.cells (a.eval x).cells t), ?_, ?_⟩
  ·simp [execOp, hop, Instr.box, newVar, newRow]
  ·refine Nxt.made (B := { els := [v.cells], es := ti.size, ty := t, pr := v.cells.all At.pr, fz := false, ar := false }) hs hf (by simpa using hB) hz0 rfl rfl ?_ ?_ ?_ ?_
   ·intro m hm
    exact hn m (by simpa [Blk.nms, namesV] using hm)
   ·intro hp e' he' y hy
    simp at he'
    subst he'
    have hp : v.cells.all At.pr = true := hp
    exact List.all_eq_true.1 hp y hy
   ·exact ⟨_, by simp [Io.set]; rfl, by simp⟩
   ·intro m hm; simpa [Sv.nms, namesV, Vl.cells, At.nm] using hm
 ·cases he

theorem pl_load (hT : TyOk P c.T) (hs : Sim n w0 M0 U ι h fr mem a w) (hf : ∀ m, nx ≤ m → m < e.nn → ¬ U m) {t : TypeId} {x : Operand} (hop : o.op = .load t x) (he : stp c callF o fr mem nx = some e) :
  Plain P n w0 M0 U ι h fr mem a w nx o e := by
 simp only [stp, hop, Option.bind_eq_some_iff] at he
 obtain ⟨ti, e1, y, e2, he⟩ := he
 obtain ⟨hr, hn⟩ := hs.evA e2
 split at he
 ·rename_i m i o'
  simp only [Option.bind_eq_some_iff] at he
  obtain ⟨B, e3, he⟩ := he
  split at he
  ·cases he
  rename_i how
  have how : B.ow = none := by simpa using how
  simp only [Option.bind_eq_some_iff] at he
  obtain ⟨el, e4, v, e5, he⟩ := he
  cases he
  obtain ⟨L, hL, hx⟩ := hr
  obtain ⟨C, h1, h2, h3, h4⟩ := (hs.hmem m B e3).cells hL how fun h0 _ _ => by rw [h0] at e4; simp at e4
  obtain ⟨u, r1, r2, r3⟩ := part_sound (hT t ti e1) e5 (off := i * B.es) h1 (h4 i el e4).2
  refine .inl ⟨u, w, ?_, Nxt.val hs r2 ?_⟩
  ·simp [execOp, hop, Instr.loadAt, Instr.sureAddr, hx, h3, r1]
  ·intro m' hm'
   obtain ⟨z, hz, hm'⟩ := r3 m' hm'
   refine (hs.hnb m B e3).2 m' ?_
   simp only [Blk.nms, List.mem_flatMap]
   exact ⟨el, List.mem_of_getElem? e4, z, hz, hm'⟩
 ·exact pl_out hT hs hf hop hr e1 he
 ·rename_i el o'
  simp only [Option.bind_eq_some_iff] at he
  obtain ⟨v, e5, he⟩ := he
  have hr : RP h _ _ := hr
  generalize hq : a.eval x = q at hr
  cases hr with
  | pp _ _ b off C t' z us hb hu hr =>
   obtain ⟨u, r1, r2, r3⟩ := part_sound (ι := ι) (hT t ti e1) e5 (off := off) (hs.hsub _ _ hb) (fun j y hy => ⟨us j, hu j y hy, RA.ofRP (hr j y hy)⟩)
   refine .inl ⟨u, w, ?_, Nxt.valV hs he r2 ?_⟩
   ·simp [execOp, hop, Instr.loadAt, Instr.sureAddr, hq, r1]
   ·intro m' hm'
    obtain ⟨y, hy, hm'⟩ := r3 m' hm'
    obtain ⟨j, hj⟩ := List.getElem?_of_mem hy
    rw [RP.nm (hr j y hj)] at hm'
    cases hm'
 ·cases he

theorem pl_nilCheck (hs : Sim n w0 M0 U ι h fr mem a w) {x : Operand} (hop : o.op = .nilCheck x) (he : stp c callF o fr mem nx = some e) : Plain P n w0 M0 U ι h fr mem a w nx o e := by
 simp only [stp, hop, Option.bind_eq_some_iff] at he
 obtain ⟨y, e2, he⟩ := he
 obtain ⟨hr, hn⟩ := hs.evA e2
 split at he
 ·have hr' := hr
  obtain ⟨L, hL, hx⟩ := hr'
  refine .inl ⟨_, w, ?_, nx_at hs hr hn he⟩
  simp [execOp, hop, hx]
 ·have hr' := hr
  obtain ⟨L, hL, hx⟩ := hr'
  refine .inl ⟨_, w, ?_, nx_at hs hr hn he⟩
  simp [execOp, hop, hx]
 ·have hr' : RP h _ _ := hr
  have hx : ∃ A, a.eval x = .pointer (some A) := by
   generalize a.eval x = q at hr'
   cases hr'
   exact ⟨_, rfl⟩
  obtain ⟨A, hx⟩ := hx
  refine .inl ⟨_, w, ?_, nx_at hs hr hn he⟩
  simp [execOp, hop, hx]
 ·cases he

end

section
variable {P : Program} {n : Nat} {w0 : World} {M0 : Bool → Nat → Prop} {U : Nat → Prop} {ι : Io} {h h1 : Hp} {fr : List (Nat × Sv)} {mem mem1 : Mem} {a : Act} {w w' : World}
 {c : Cfg} {callF : FuncId → List Vl → List Blk → Option (List Vl × List Blk)} {o : Oper} {nx : Nat} {e : Eff}

theorem updM_append (m u v : Mem) : updM m (u ++ v) = updM (updM m u) v := by
 induction u generalizing m with
 | nil => rfl
 | cons p u ih => simp only [List.cons_append, updM, ih]

/-- What blocks F lead to can be read for good. -/
def Vw (ι : Io) (mem : Mem) (w : World) (h1 : Hp) (F : List Nat) : Prop := ∀ m ∈ F, ∀ B L b, mget mem m = some B → ι m = some L → Ft w L B b → h1 b = w.heap[b]?

/-- One memory is the other one, but for blocks that only read by now. -/
def Fzn (mem mem1 : Mem) : Prop := ∀ m, mget mem1 m = mget mem m ∨ ∃ b, mget mem m = some b ∧ mget mem1 m = some { b with fz := true }

theorem Sim.freezeL (F : List Nat) : ∀ {mem1 : Mem} {h : Hp}, Sim n w0 M0 U ι h fr mem1 a w → Fzn mem mem1 →
  ∃ h1, Sub h h1 ∧ Vw ι mem w h1 F ∧ (∀ b, (∀ m ∈ F, ∀ B L, mget mem m = some B → ι m = some L → ¬ Ft w L B b) → h1 b = h b) ∧ Sim n w0 M0 U ι h1 fr (updM mem1 (fzUpd mem F)) a w ∧ Fzn mem (updM mem1 (fzUpd mem F)) := by
 induction F with
 | nil => intro mem1 h hs hz; exact ⟨h, Sub.refl h, fun m hm => (by cases hm), fun _ _ => rfl, hs, hz⟩
 | cons m F ih =>
  intro mem1 h hs hz
  cases hB : mget mem m with
  | none =>
   simp only [fzUpd, hB]
   obtain ⟨h1, r1, r2, r3, r4, r5⟩ := ih hs hz
   refine ⟨h1, r1, ?_, ?_, r4, r5⟩
   ·intro m' hm' B L g e l
    rcases List.mem_cons.1 hm' with rfl | hm'
    ·rw [hB] at e; cases e
    ·exact r2 m' hm' B L g e l
   ·intro b hb
    exact r3 b fun m' hm' => hb m' (List.mem_cons_of_mem _ hm')
  | some B =>
   simp only [fzUpd, hB, updM]
   have hB1 : ∃ B1, mget mem1 m = some B1 ∧ ({ B1 with fz := true } : Blk) = { B with fz := true } := by
    rcases hz m with e | ⟨b, e1, e2⟩
    ·exact ⟨B, by rw [e, hB], rfl⟩
    ·rw [hB] at e1; cases e1; exact ⟨_, e2, rfl⟩
   obtain ⟨B1, e1, e2⟩ := hB1
   have eo : B1.ow = B.ow := by have q := congrArg (fun b : Blk => b.ow) e2; exact q
   have ee : B1.els = B.els := by have q := congrArg (fun b : Blk => b.els) e2; exact q
   obtain ⟨h2, s1, s2, s4, s3⟩ := hs.freeze e1
   rw [e2] at s3
   have hz2 : Fzn mem (set1 mem1 (m, some { B with fz := true })) := by
    intro x
    rw [mget_set1]
    by_cases hx : m = x
    ·rw [if_pos hx]; exact .inr ⟨B, by rw [← hx, hB], rfl⟩
    ·rw [if_neg hx]; exact hz x
   obtain ⟨h1, r1, r2, r3, r4, r5⟩ := ih s3 hz2
   refine ⟨h1, s1.trans r1, ?_, ?_, r4, r5⟩
   ·intro m' hm' B' L g e l f
    rcases List.mem_cons.1 hm' with rfl | hm'
    ·rw [hB] at e
     cases e
     have f' : Ft w L B1 g := f.to rfl eo ee
     have hq := s2 L g l f'
     have hlt := hs.ftlt e1 l f'
     rw [Array.getElem?_eq_getElem hlt] at hq ⊢
     exact r1 _ _ hq
    ·exact r2 m' hm' B' L g e l f
   ·intro b hb
    rw [r3 b fun m' hm' => hb m' (List.mem_cons_of_mem _ hm')]
    exact s4 b fun L hL hq => hb m (List.mem_cons_self ..) B L hB hL (hq.to rfl eo.symm ee.symm)

theorem Fzn.mp (hz : Fzn mem mem1) {m : Nat} {B B0 : Blk} (e : mget mem1 m = some B) (e0 : mget mem m = some B0) : B.mp = B0.mp := by
 rcases hz m with q | ⟨b, q1, q2⟩
 ·rw [q, e0] at e; cases e; rfl
 ·rw [q2] at e; rw [q1] at e0; cases e; cases e0; rfl
theorem Fzn.refl (mem : Mem) : Fzn mem mem := fun _ => .inl rfl
theorem Fzn.of (hz : Fzn mem mem1) {m : Nat} {B : Blk} (e : mget mem1 m = some B) : ∃ B0, mget mem m = some B0 ∧ B.els = B0.els ∧ B.es = B0.es ∧ B.ty = B0.ty ∧ B.pr = B0.pr ∧ (B.fz = false → B0.fz = false) ∧ B.ow = B0.ow := by
 rcases hz m with q | ⟨b, q1, q2⟩
 ·exact ⟨B, by rw [← q, e], rfl, rfl, rfl, rfl, id, rfl⟩
 ·rw [e] at q2; cases q2; exact ⟨b, q1, rfl, rfl, rfl, rfl, (fun hq => by cases hq), rfl⟩

/-- A block that is all read by now is a plain one. -/
theorem Sim.flat (hs : Sim n w0 M0 U ι h fr mem a w) (hsub : Sub h h1) {m : Nat} {B : Blk} {L : Loc} (e : mget mem m = some B) (hp : B.pr = true) (hL : ι m = some L) (hv : ∀ b, Ft w L B b → h1 b = w.heap[b]?) (h0 : B.els = [] → B.es = 0 → L.es = 0 → False) :
  ∃ C, w.heap[L.b]? = some (.cells C B.ty (0, 0)) ∧ C.size = L.sz ∧ L.es = B.es ∧
   ∀ (i : Nat) (el : List At), B.els[i]? = some el → el.length = B.es ∧ ∀ (j : Nat) (x : At), el[j]? = some x → ∃ u, C[i * B.es + j]? = some u ∧ RP h1 x u := by
 have hpr := hs.hpr m B e hp
 cases ho : B.ow with
 | none =>
  obtain ⟨C, b1, b2, b3, b4⟩ := (hs.hmem m B e).cells hL ho h0
  refine ⟨C, b1, b2, b3, fun i el hi => ⟨(b4 i el hi).1, fun j x hj => ?_⟩⟩
  obtain ⟨u, q1, q2⟩ := (b4 i el hi).2 j x hj
  exact ⟨u, q1, RP.mono hsub (RA.toRP (hpr el (List.mem_of_getElem? hi) x (List.mem_of_getElem? hj)) q2)⟩
 | some q =>
  obtain ⟨C, c1, c2, c3, c4, c5, c6, c7, c8⟩ := (hs.hmem m B e).nest hL ho
  refine ⟨C, c1, c2, c3, fun i el hi => ?_⟩
  obtain ⟨x, u, rfl, k2, k3⟩ := c6 i el hi
  refine ⟨by rw [c4]; rfl, fun j y hy => ?_⟩
  cases j with
  | succ j => simp at hy
  | zero =>
   simp at hy
   subst hy
   refine ⟨u, by rw [c4, Nat.mul_one]; exact k2, ?_⟩
   rcases k3 with ⟨k, rows, rfl, hro⟩ | ⟨_, k3⟩
   ·rcases hro with ⟨rfl, rfl, rfl⟩ | ⟨g, cap, D, rfl, d2, d3, d4, d5, d6, d7⟩
    ·exact .sl0 _ _ _
    ·have hg := hv g (.inr ⟨by rw [ho]; rfl, C, _, _, i, c1, _, _, _, 0, k, cap, hi, k2⟩)
     rw [d2] at hg
     refine .sl (h := h1) k rows g 0 cap q.2 D q.1 (0, 0) (fun i j => (D[i * q.2 + j]?).getD default) hg d6 d4 (fun i row hrow => (d7 i row hrow).1) ?_ ?_
     ·intro i' row j x hrow hx
      obtain ⟨v, v1, v2, v3⟩ := (d7 i' row hrow).2 j x hx
      rw [Nat.zero_add, v1]; rfl
     ·intro i' row j x hrow hx
      obtain ⟨v, v1, v2, v3⟩ := (d7 i' row hrow).2 j x hx
      simp only [v1, Option.getD_some]
      exact v3.mono hsub
   ·exact RP.mono hsub (RA.toRP (hpr _ (List.mem_of_getElem? hi) _ (List.mem_singleton.2 rfl)) k3)
theorem frzA_sound (hs : Sim n w0 M0 U ι h fr mem a w) (hsub : Sub h h1) {x y : At} {v : Value} (hv : Vw ι mem w h1 x.smn) (hr : RA ι h x v) (e : frzA mem x = some y) :
  RA ι h1 y v ∧ (∀ m ∈ y.nm, m ∈ x.ptrs) := by
 cases x with
 | sm m lo k =>
  simp only [frzA, Option.bind_eq_some_iff] at e
  obtain ⟨B, e1, e⟩ := e
  split at e
  ·rename_i hc
   cases e
   refine ⟨?_, by intro m hm; cases hm⟩
   have hb := hs.hmem m B e1
   rcases hr with ⟨L, cap, hL, rfl, hcap, hkc, hmax⟩ | ⟨hL, rfl, rfl, rfl⟩
   ·rcases Nat.eq_zero_or_pos k with rfl | hk0
    ·rw [List.take_zero]
     exact .sl0 _ _ _
    obtain ⟨C, b1, b2, b3, b4⟩ := hs.flat hsub e1 hc.1 hL (fun g => hv m (by simp [At.smn]) B L g e1 hL) fun h0 _ _ => by have := hc.2; rw [h0] at this; simp at this; omega
    have hh := hv m (by simp [At.smn]) B L L.b e1 hL Ft.self
    rw [b1] at hh
    refine .sl (h := h1) k _ L.b (lo * L.es) cap B.es C B.ty (0, 0) (fun i j => (C[lo * L.es + (i * B.es + j)]?).getD default) hh (by simp; omega) hkc ?_ ?_ ?_
    ·intro i el hi
     rw [List.getElem?_take] at hi
     split at hi
     ·rw [List.getElem?_drop] at hi; exact (b4 _ el hi).1
     ·cases hi
    ·intro i el j x hi hj
     rw [List.getElem?_take] at hi
     split at hi
     ·rw [List.getElem?_drop] at hi
      obtain ⟨u, q1, q2⟩ := (b4 _ el hi).2 j x hj
      have : C[lo * L.es + (i * B.es + j)]? = some u := by rw [← q1, b3, Nat.add_mul]; congr 1; omega
      rw [this]; rfl
     ·cases hi
    ·intro i el j x hi hj
     rw [List.getElem?_take] at hi
     split at hi
     ·rw [List.getElem?_drop] at hi
      obtain ⟨u, q1, q2⟩ := (b4 _ el hi).2 j x hj
      have : C[lo * L.es + (i * B.es + j)]? = some u := by rw [← q1, b3, Nat.add_mul]; congr 1; omega
      simp only [this, Option.getD_some]
      exact q2
     ·cases hi
   ·rw [hb.els0 hL]
    simp
    exact .sl0 _ _ _
  ·cases e
 | snil es ty =>
  cases e
  have hr : RP h _ _ := hr
  cases hr
  exact ⟨.sl0 _ _ _, by intro m hm; cases hm⟩
 | ptr m i o =>
  cases e
  obtain ⟨L, hL, hv⟩ := hr
  exact ⟨⟨L, hL, hv⟩, by intro m hm; simpa [At.nm, At.ptrs] using hm⟩
 | mp m =>
  cases e
  exact ⟨hr, by intro m hm; simpa [At.nm, At.ptrs] using hm⟩
 | ptq m i es =>
  cases e
  exact ⟨hr, by intro m hm; simpa [At.nm, At.ptrs] using hm⟩
 | _ =>
  cases e
  exact ⟨RP.mono hsub hr, by intro m hm; cases hm⟩

theorem frzL_sound (hs : Sim n w0 M0 U ι h fr mem a w) (hsub : Sub h h1) {cs ds : List At} {us : List Value} (hv : Vw ι mem w h1 (cs.flatMap At.smn)) (hr : RL ι h cs us) (e : mapO (frzA mem) cs = some ds) :
  RL ι h1 ds us ∧ (∀ m ∈ ds.flatMap At.nm, m ∈ cs.flatMap At.ptrs) := by
 obtain ⟨e1, _⟩ := mapO_some e
 constructor
 ·refine ⟨by rw [e1]; exact hr.1, fun j y hy => ?_⟩
  obtain ⟨x, hx, hxy⟩ := mapO_some_inv e j y hy
  obtain ⟨u, hu, hr'⟩ := hr.2 j x hx
  exact ⟨u, hu, (frzA_sound hs hsub (fun m hm => hv m (List.mem_flatMap.2 ⟨x, List.mem_of_getElem? hx, hm⟩)) hr' hxy).1⟩
 ·intro m hm
  obtain ⟨y, hy, hm⟩ := List.mem_flatMap.1 hm
  obtain ⟨j, hj⟩ := List.getElem?_of_mem hy
  obtain ⟨x, hx, hxy⟩ := mapO_some_inv e j y hj
  refine List.mem_flatMap.2 ⟨x, List.mem_of_getElem? hx, ?_⟩
  cases x <;> simp only [frzA, Option.bind_eq_some_iff] at hxy
  case sm => obtain ⟨B, _, hxy⟩ := hxy; split at hxy <;> cases hxy; cases hm
  all_goals (cases hxy; first | (simp only [At.ptrs]; exact hm) | cases hm)

theorem frzV_sound (hs : Sim n w0 M0 U ι h fr mem a w) (hsub : Sub h h1) {x y : Vl} {v : Value} (hv : Vw ι mem w h1 (x.cells.flatMap At.smn)) (hr : RV ι h x v) (e : frzV mem x = some y) :
  RV ι h1 y v ∧ (∀ m ∈ namesV [y], m ∈ x.cells.flatMap At.ptrs) := by
 cases x with
 | a x =>
  simp only [frzV, Option.bind_eq_some_iff] at e
  obtain ⟨z, e1, e2⟩ := e
  cases e2
  obtain ⟨q1, q2⟩ := frzA_sound hs hsub (by simpa [Vl.cells] using hv) hr e1
  exact ⟨q1, by intro m hm; simpa [Vl.cells] using q2 m (by simpa [namesV, Vl.cells] using hm)⟩
 | g cs =>
  simp only [frzV, Option.bind_eq_some_iff] at e
  obtain ⟨ds, e1, e2⟩ := e
  cases e2
  obtain ⟨A, hA, hl⟩ := hr
  obtain ⟨q1, q2⟩ := frzL_sound hs hsub hv hl e1
  exact ⟨⟨A, hA, q1⟩, by intro m hm; exact q2 m (by simpa [namesV, Vl.cells] using hm)⟩

theorem frzBs_sound (hs : Sim n w0 M0 U ι h fr mem a w) (hsub : Sub h h1) {C : Array Value} {es : Nat} {els fls : List (List At)} (hv : Vw ι mem w h1 (els.flatMap fun e => e.flatMap At.smn)) (hr : RBs ι h C es els)
  (e : mapO (mapO (frzA mem)) els = some fls) : RBs ι h1 C es fls := by
 intro i el hi
 obtain ⟨el', hi', he'⟩ := mapO_some_inv e i el hi
 obtain ⟨q1, q2⟩ := hr i el' hi'
 refine ⟨by rw [(mapO_some he').1]; exact q1, fun j y hy => ?_⟩
 obtain ⟨x, hx, hxy⟩ := mapO_some_inv he' j y hy
 obtain ⟨u, hu, hr'⟩ := q2 j x hx
 exact ⟨u, hu, (frzA_sound hs hsub (fun m hm => hv m (List.mem_flatMap.2 ⟨el', List.mem_of_getElem? hi', List.mem_flatMap.2 ⟨x, List.mem_of_getElem? hx, hm⟩⟩)) hr' hxy).1⟩
theorem frzA_ptrs {x y : At} (e : frzA mem x = some y) : ∀ m ∈ y.nm, m ∈ x.ptrs := by
 intro m hm
 cases x <;> simp only [frzA, Option.bind_eq_some_iff] at e
 case sm => obtain ⟨B, _, e⟩ := e; split at e <;> cases e; cases hm
 all_goals (cases e; first | (simp only [At.ptrs]; exact hm) | cases hm)
theorem ptrs_nm {x : At} {m : Nat} (hm : m ∈ x.ptrs) : m ∈ x.nm := by cases x <;> simp [At.ptrs] at hm <;> simp [At.nm, hm]


/-- A row of slices becomes one that only reads, and nothing else turns. -/
theorem Sim.frzStep (hs : Sim n w0 M0 U ι h fr mem a w) (F : List Nat) :
  ∃ h1, Sub h h1 ∧ Vw ι mem w h1 F ∧ Sim n w0 M0 U ι h1 fr (updM mem (fzUpd mem F)) a w ∧ Fzn mem (updM mem (fzUpd mem F)) ∧ ∀ b, b < w0.heap.size → ¬ M0 false b → h1 b = h b := by
 obtain ⟨h1, s1, s2, s3, s4, s5⟩ := Sim.freezeL F hs (Fzn.refl mem)
 refine ⟨h1, s1, s2, s4, s5, fun b hb hM => ?_⟩
 by_cases hx : ∃ m ∈ F, ∃ B L, mget mem m = some B ∧ ι m = some L ∧ Ft w L B b
 ·obtain ⟨m, hm, B, L, k1, k2, k3⟩ := hx
  rw [s2 m hm B L b k1 k2 k3]
  cases hz : B.fz with
  | false =>
   rcases hs.hownF m B L b k1 hz k2 k3 with h' | h'
   ·omega
   ·exact absurd h' hM
  | true => exact (hs.hfrzF m B L b k1 hz k2 k3).symm
 ·exact s3 b fun m hm B L k1 k2 hq => hx ⟨m, hm, B, L, k1, k2, hq⟩
/-- Frozen first, then done. -/
theorem Nxt.frz {F : List Nat} {u : Value} {v : Sv} {up : Mem} {nn : Nat} {rd rd' : List Nat} (hsub : Sub h h1) (hfr : ∀ b, b < w0.heap.size → ¬ M0 false b → h1 b = h b)
  (hx : Nxt n w0 M0 U ι h1 fr (updM mem (fzUpd mem F)) nx { v := v, upd := up, nn := nn, rd := rd } a u w') :
  Nxt n w0 M0 U ι h fr mem nx { v := v, upd := fzUpd mem F ++ up, nn := nn, rd := rd' } a u w' := by
 obtain ⟨ι', h', q1, q2, q3, q4, q5, q6, q7⟩ := hx
 refine ⟨ι', h', hsub.trans q1, q2, ?_, q4, q5, q6, fun b hb hM => by rw [q7 b hb hM, hfr b hb hM]⟩
 rw [updM_append]
 exact q3
end

section
variable {P : Program} {n : Nat} {w0 : World} {M0 : Bool → Nat → Prop} {U : Nat → Prop} {ι : Io} {h : Hp} {fr : List (Nat × Sv)} {mem : Mem} {a : Act} {w : World}
 {c : Cfg} {callF : FuncId → List Vl → List Blk → Option (List Vl × List Blk)} {o : Oper} {nx : Nat} {e : Eff}

/-- The cells of a block behind a store into one element. -/
theorem RBs.set {C : Array Value} {es : Nat} {els : List (List At)} (hr : RBs ι h C es els) {i : Nat} {el : List At} (he : els[i]? = some el) {off : Nat} {cs : List At} {us : List Value}
  (hR : RL ι h cs us) (hle : off + cs.length ≤ el.length) (hin : i * es + off + us.length ≤ C.size) :
  RBs ι h (C.toList.take (i * es + off) ++ us ++ C.toList.drop (i * es + off + us.length)).toArray es (els.set i (putAt el off cs)) := by
 obtain ⟨hlen, hc⟩ := hr i el he
 have hul : us.length = cs.length := hR.1.symm
 have hcell : ∀ k, (k < i * es + off ∨ i * es + off + us.length ≤ k) → (C.toList.take (i * es + off) ++ us ++ C.toList.drop (i * es + off + us.length)).toArray[k]? = C[k]? := by
  intro k hk
  rw [List.getElem?_toArray, List.append_assoc, List.getElem?_append, List.length_take, Array.length_toList]
  rcases hk with hk | hk
  ·rw [if_pos (by omega), List.getElem?_take, if_pos hk, Array.getElem?_toList]
  ·rw [if_neg (by omega), List.getElem?_append, if_neg (by omega), List.getElem?_drop, Array.getElem?_toList]
   congr 1
   omega
 have hmid : ∀ k, k < us.length → (C.toList.take (i * es + off) ++ us ++ C.toList.drop (i * es + off + us.length)).toArray[i * es + off + k]? = us[k]? := by
  intro k hk
  rw [List.getElem?_toArray, List.append_assoc, List.getElem?_append, List.length_take, Array.length_toList, if_neg (by omega), List.getElem?_append, if_pos (by omega)]
  congr 1
  omega
 intro i' e' he'
 rw [List.getElem?_set] at he'
 by_cases hi : i = i'
 ·subst hi
  rw [if_pos rfl] at he'
  split at he'
  ·cases he'
   refine ⟨by simp [putAt]; omega, fun j x hx => ?_⟩
   have hx' := hx
   unfold putAt at hx'
   rw [List.append_assoc, List.getElem?_append, List.length_take] at hx'
   split at hx'
   ·rename_i hj
    rw [List.getElem?_take] at hx'
    split at hx'
    ·obtain ⟨u, e1, e2⟩ := hc j x hx'
     exact ⟨u, by rw [hcell _ (.inl (by omega))]; exact e1, e2⟩
    ·cases hx'
   ·rename_i hj
    rw [List.getElem?_append] at hx'
    split at hx'
    ·obtain ⟨u, e1, e2⟩ := hR.2 _ x hx'
     refine ⟨u, ?_, e2⟩
     have hk : j - min off el.length < us.length := by omega
     have := hmid _ hk
     rw [e1] at this
     rw [← this]
     congr 1
     omega
    ·rw [List.getElem?_drop] at hx'
     have hq : off + cs.length + (j - min off el.length - cs.length) = j := by omega
     rw [hq] at hx'
     obtain ⟨u, e1, e2⟩ := hc j x hx'
     exact ⟨u, by rw [hcell _ (.inr (by omega))]; exact e1, e2⟩
  ·cases he'
 ·rw [if_neg hi] at he'
  obtain ⟨hl', hc'⟩ := hr i' e' he'
  refine ⟨hl', fun j x hx => ?_⟩
  obtain ⟨u, e1, e2⟩ := hc' j x hx
  refine ⟨u, ?_, e2⟩
  have hj : j < es := by
   rw [← hl']
   rcases Nat.lt_or_ge j e'.length with h' | h'
   ·exact h'
   ·rw [List.getElem?_eq_none (by omega)] at hx; cases hx
  rw [hcell _ ?_]
  ·exact e1
  ·rcases Nat.lt_or_gt_of_ne hi with hlt | hgt
   ·right
    have : (i + 1) * es ≤ i' * es := Nat.mul_le_mul_right es hlt
    rw [Nat.add_mul, Nat.one_mul] at this
    omega
   ·left
    have : (i' + 1) * es ≤ i * es := Nat.mul_le_mul_right es hgt
    rw [Nat.add_mul, Nat.one_mul] at this
    omega

theorem mem_putAt {cs xs : List At} {o' : Nat} {x : At} (hx : x ∈ putAt cs o' xs) : x ∈ cs ∨ x ∈ xs := by
 unfold putAt at hx
 rcases List.mem_append.1 hx with h' | h'
 ·rcases List.mem_append.1 h' with h' | h'
  ·exact .inl (List.mem_of_mem_take h')
  ·exact .inr h'
 ·exact .inl (List.mem_of_mem_drop h')

theorem arF_sound (hs : Sim n w0 M0 U ι h fr mem a w) {m : Nat} {v v1 : Vl} {F : List Nat} {u : Value} (hv : RV ι h v u) (hvn : ∀ m ∈ namesV [v], U m) (e : arF mem m v = some (v1, F)) :
  ∃ h1, Sub h h1 ∧ Sim n w0 M0 U ι h1 fr (updM mem (fzUpd mem F)) a w ∧ (∀ b, b < w0.heap.size → ¬ M0 false b → h1 b = h b) ∧ RV ι h1 v1 u ∧ ∀ m ∈ namesV [v1], U m := by
 simp only [arF, Option.bind_eq_some_iff] at e
 obtain ⟨b, _, e⟩ := e
 split at e
 ·simp only [Option.bind_eq_some_iff] at e
  obtain ⟨v2, e2, e⟩ := e
  cases e
  obtain ⟨h1, s1, s2, s3, s4, s5⟩ := hs.frzStep (smnV [v])
  obtain ⟨q1, q2⟩ := frzV_sound hs s1 (by simpa [smnV] using s2) hv e2
  refine ⟨h1, s1, s3, s5, q1, fun m hm => ?_⟩
  obtain ⟨x, hx, hm'⟩ := List.mem_flatMap.1 (q2 m hm)
  exact hvn m (by simp only [namesV, List.flatMap_cons, List.flatMap_nil, List.append_nil, List.mem_flatMap]; exact ⟨x, hx, ptrs_nm hm'⟩)
 ·cases e
  exact ⟨h, Sub.refl h, hs, fun _ _ _ => rfl, hv, hvn⟩
theorem Plain.frz {h1 : Hp} {F : List Nat} {v : Sv} {up : Mem} {nn : Nat} {rd rd' : List Nat} (hsub : Sub h h1) (hfr : ∀ b, b < w0.heap.size → ¬ M0 false b → h1 b = h b)
  (hx : Plain P n w0 M0 U ι h1 fr (updM mem (fzUpd mem F)) a w nx o { v := v, upd := up, nn := nn, rd := rd }) :
  Plain P n w0 M0 U ι h fr mem a w nx o { v := v, upd := fzUpd mem F ++ up, nn := nn, rd := rd' } := by
 rcases hx with ⟨u, w', q1, q2⟩ | ⟨w', q1, q2⟩
 ·exact .inl ⟨u, w', q1, Nxt.frz hsub hfr q2⟩
 ·exact .inr ⟨w', q1, Nxt.frz hsub hfr q2⟩
theorem pl_store (hT : TyOk P c.T) (hs : Sim n w0 M0 U ι h fr mem a w) {t : TypeId} {x y : Operand} (hop : o.op = .store t x y) (he : stp c callF o fr mem nx = some e) :
  Plain P n w0 M0 U ι h fr mem a w nx o e := by
 simp only [stp, hop, Option.bind_eq_some_iff] at he
 obtain ⟨ti, e1, v, e2, z, e3, he⟩ := he
 obtain ⟨hv, hvn⟩ := hs.evV e2
 obtain ⟨hr, hn⟩ := hs.evA e3
 split at he
 ·rename_i m i o'
  simp only [Option.bind_eq_some_iff] at he
  obtain ⟨⟨v1, F⟩, e0, B, e4, el, e5, he⟩ := he
  obtain ⟨h', hsub, hs', hfrm, hv1, hvn1⟩ := arF_sound hs hv hvn e0
  clear hv hvn
  dsimp only at e4 he
  split at he
  ·rename_i hc
   obtain ⟨hc1, hc2, hc3, how⟩ := hc
   have hfz : B.fz = false := by simpa using hc3
   cases he
   obtain ⟨L, hL, hx⟩ := hr
   refine Plain.frz (rd := [m]) hsub hfrm ?_
   generalize updM mem (fzUpd mem F) = mem1 at hs' e4 ⊢
   clear hs
   have hs := hs'
   have hv := hv1
   have hvn := hvn1
   obtain ⟨C, h1, h2, h3, h4⟩ := (hs.hmem m B e4).cells hL how fun h0 _ _ => by rw [h0] at e5; simp at e5
   have hR := RV.cells hv
   obtain ⟨hel, hcel⟩ := h4 i el e5
   obtain ⟨ri, hi, hsz, _⟩ := (hT t ti e1).info
   have hlen : (a.eval y).cells.toList.length = ti.size := by rw [← hR.1, hc1]
   have hin : i * B.es + o' + (a.eval y).cells.toList.length ≤ C.size := by
    rw [hlen]
    rcases Nat.eq_zero_or_pos ti.size with h0 | h0
    ·rw [h0]
     rcases Nat.eq_zero_or_pos o' with ho | ho
     ·subst ho
      rcases Nat.eq_zero_or_pos el.length with hl0 | hl0
      ·have : B.es = 0 := by omega
       rw [this]; omega
      ·obtain ⟨u, q1, _⟩ := hcel 0 el[0] (List.getElem?_eq_getElem hl0)
       have := (Array.getElem?_eq_some_iff.1 q1).1
       omega
     ·obtain ⟨u, q1, _⟩ := hcel (o' - 1) el[o' - 1] (List.getElem?_eq_getElem (by omega))
      have := (Array.getElem?_eq_some_iff.1 q1).1
      omega
    ·obtain ⟨u, q1, _⟩ := hcel (o' + ti.size - 1) el[o' + ti.size - 1] (List.getElem?_eq_getElem (by omega))
     have := (Array.getElem?_eq_some_iff.1 q1).1
     omega
   have hone : ∀ u ∈ (a.eval y).cells.toList, u.oneCell' = true := by
    intro u hu
    obtain ⟨j, hj⟩ := List.getElem?_of_mem hu
    have hjl : j < v1.cells.length := by
     rw [hR.1]
     rcases Nat.lt_or_ge j (a.eval y).cells.toList.length with h' | h'
     ·exact h'
     ·rw [List.getElem?_eq_none (by omega)] at hj; cases hj
    obtain ⟨u', q1, q2⟩ := hR.2 j _ (List.getElem?_eq_getElem hjl)
    rw [hj] at q1
    cases q1
    exact q2.oneCell
   have hst := run_storeCells_at (P := P) L.b (i * B.es + o') B.ty (a.eval y).cells.toList 0 C w h1 (by simpa using hin) hone
   refine .inr ⟨_, ?_, ι, h', Sub.refl h', fun _ _ => rfl, (?_ : Sim n w0 M0 _ ι h' fr (set1 mem1 _) a (w.setRow L.b (C.toList.take (i * B.es + o') ++ (a.eval y).cells.toList ++ C.toList.drop (i * B.es + o' + (a.eval y).cells.toList.length)).toArray)), rfl, ?_, Nat.le_refl _, fun _ _ _ => rfl⟩
   ·have hsz' : (a.eval y).cells.size = ti.size := by simpa using hlen
    have hst' : (storeCells { block := L.b, off := i * B.es + o', spot := none } (a.eval y).cells.toList).run P w = _ := hst
    simp only [Nat.add_zero] at hst'
    simp [execOp, hop, Instr.storeAt, Instr.sureAddr, hx, storeVar, run_sizeOf hi, hsz, hsz', h3]
    simp at hst'
    rw [hst']
    simp [hsz']
   ·refine Sim.weak (Sim.write (B' := { B with els := B.els.set i (putAt el o' v1.cells), pr := B.pr && v1.cells.all At.pr }) hs e4 hfz hL h1 ?_ rfl rfl hfz how how ?_ h3 ?_ ?_) (fun m hm => .inl hm)
    ·rw [← h2]; have hin' := hin; rw [Array.length_toList] at hin'; simp; omega
    ·exact h4.set e5 hR (by rw [hc1]; exact hc2) hin
    ·intro m' hm'
     simp only [Blk.nms, List.mem_flatMap] at hm'
     obtain ⟨e', he', q, hq, hm'⟩ := hm'
     rcases List.mem_or_eq_of_mem_set he' with h' | h'
     ·exact (hs.hnb m B e4).2 m' (by simp only [Blk.nms, List.mem_flatMap]; exact ⟨e', h', q, hq, hm'⟩)
     ·subst h'
      rcases mem_putAt hq with h' | h'
      ·exact (hs.hnb m B e4).2 m' (by simp only [Blk.nms, List.mem_flatMap]; exact ⟨el, List.mem_of_getElem? e5, q, h', hm'⟩)
      ·exact hvn m' (by simp only [namesV, List.mem_flatMap]; exact ⟨v1, by simp, q, h', hm'⟩)
    ·intro hp e' he' q hq
     have hp : (B.pr && v1.cells.all At.pr) = true := hp
     rw [Bool.and_eq_true] at hp
     rcases List.mem_or_eq_of_mem_set he' with h' | h'
     ·exact hs.hpr m B e4 hp.1 e' h' q hq
     ·subst h'
      rcases mem_putAt hq with h' | h'
      ·exact hs.hpr m B e4 hp.1 el (List.mem_of_getElem? e5) q h'
      ·exact List.all_eq_true.1 hp.2 q h'
   ·intro m hm; cases hm
  ·cases he
 ·split at he
  ·rename_i h1
   exact pl_into hT hs hop hr hv hvn e1 h1 he
  ·cases he
 ·cases he

theorem pl_unOp (hs : Sim n w0 M0 U ι h fr mem a w) {op : UnOp} {t : TypeId} {x : Operand} (hop : o.op = .unOp op t x) (he : stp c callF o fr mem nx = some e) : Plain P n w0 M0 U ι h fr mem a w nx o e := by
 simp only [stp, hop, Option.bind_eq_some_iff, valA] at he
 obtain ⟨y, e2, z, e3, he⟩ := he
 obtain ⟨hr, hn⟩ := hs.evA e2
 unfold unA at e3
 split at e3
 ·split at e3
  ·cases e3
   have hx := RP.int_inv' hr
   exact .inl ⟨_, w, by simp [execOp, hop, hx, Op.unary, Op.intArith] <;> rfl, Nxt.valP hs he (.int _ _)⟩
  ·cases e3
 ·split at e3
  ·cases e3
   have hx := RP.bool_inv hr
   exact .inl ⟨_, w, by simp [execOp, hop, hx, Op.unary] <;> rfl, Nxt.valP hs he (.bool _)⟩
  ·cases e3
 ·cases e3

theorem binI_sound {op : BinOp} {k : IntKind} {x y : Int} {z : At} (e1 : binI op k x y = some z) (h1 : op ≠ .shl) (h2 : op ≠ .shr) (ty : TypeId) (w : World) :
  ∃ v, (binOp op ty (.int k x) (.int k y)).run P w = .ok v w ∧ ∀ h, RP h z v := by
 cases op <;> simp only [binI] at e1 <;> first
  | (cases e1; done)
  | (cases e1; exact ⟨_, by simp [binOp, Op.intArith, Op.intBits, Op.intCmp] <;> rfl, fun h => by first | exact .int _ _ | exact .bool _⟩)
  | (split at e1 <;> first | (cases e1; done) | (cases e1; rename_i hy; exact ⟨_, by simp [binOp, Op.intDiv, hy] <;> rfl, fun h => .int _ _⟩))

theorem equal_bool {t : TypeId} (hD : P.underlying t = some .bool) (x y : Bool) (w : World) : (Op.equal t (.bool x) (.bool y)).run P w = .ok (x == y) w := by
 rw [show Op.equal t (.bool x) (.bool y) = Op.equalIn (9999 + 1) t (.bool x) (.bool y) from rfl]
 generalize 9999 = d
 simp [Op.equalIn, run_underlying hD]
theorem equal_ptr {t el : TypeId} (hD : P.underlying t = some (.pointer el)) (x y : Option Addr) (hxy : x = none ∨ y = none) (w : World) :
  (Op.equal t (.pointer x) (.pointer y)).run P w = .ok (x.isNone && y.isNone) w := by
 rw [show Op.equal t (.pointer x) (.pointer y) = Op.equalIn (9999 + 1) t (.pointer x) (.pointer y) from rfl]
 generalize 9999 = d
 cases x <;> cases y <;> simp at hxy <;> simp [Op.equalIn, run_underlying hD]

theorem equal_int {t : TypeId} (hD : isIntT P t = true) (d : Nat) (k : IntKind) (x y : Int) (w : World) : (Op.equalIn (d + 1) t (.int k x) (.int k y)).run P w = .ok (x == y) w := by
 unfold isIntT at hD
 split at hD
 ·rename_i kd hd
  simp [Op.equalIn, run_underlying hd]
 ·cases hD
theorem part_int {t : TypeId} (hD : isIntT P t = true) {A : Array Value} {o : Nat} {u : Value} (h : A[o]? = some u) (w : World) : (part t A o).run P w = .ok u w := by
 unfold isIntT at hD
 split at hD
 ·rename_i kd hd
  simp [part, run_isAgg hd, isAggD, h]
 ·cases hD
theorem eq_loop {h : Hp} (d : Nat) (A B : Array Value) (w : World) : ∀ (l : List Field) (j : Nat) (cs ds : List At) (b : Bool), eqsFs P j l = true → l.length = cs.length → eqA cs ds = some b →
  (∀ i x, cs[i]? = some x → ∃ u, A[j + i]? = some u ∧ RA ι h x u) → (∀ i x, ds[i]? = some x → ∃ u, B[j + i]? = some u ∧ RA ι h x u) →
  Sem.run P (forIn l ((none : Option Bool), ()) fun f _ =>
   if f.name = "_" then pure (ForInStep.yield (none, ()))
   else do
    let a ← part f.type A f.offset
    let c ← part f.type B f.offset
    let q ← Op.equalIn (d + 1) f.type a c
    if q = false then pure (ForInStep.done (some false, ())) else pure (ForInStep.yield (none, ()))) w = .ok (if b = true then (none, ()) else (some false, ())) w
 | [], j, cs, ds, b, hf, hl, he, hA, hB => by
  cases cs with
  | cons c cs => simp at hl
  | nil =>
   cases ds with
   | cons c ds => simp [eqA] at he
   | nil =>
    simp only [eqA, Option.some.injEq] at he
    subst he
    rfl
 | f :: l, j, cs, ds, b, hf, hl, he, hA, hB => by
  cases cs with
  | nil => simp at hl
  | cons c cs =>
  cases ds with
  | nil => cases c <;> simp [eqA] at he
  | cons e ds =>
  unfold eqA at he
  split at he
  ·rename_i h1 h2; cases h1
  ·rename_i k x r k2 y s h1 h2
   cases h1; cases h2
   split at he
   ·rename_i hk
    subst hk
    simp only [Option.bind_eq_some_iff, Option.some.injEq] at he
    obtain ⟨b2, he, hb⟩ := he
    simp only [eqsFs, Bool.and_eq_true, bne_iff_ne, ne_eq, beq_iff_eq] at hf
    obtain ⟨⟨⟨f1, f2⟩, f3⟩, f4⟩ := hf
    obtain ⟨u, a1, a2⟩ := hA 0 _ rfl
    obtain ⟨v, b1, b2'⟩ := hB 0 _ rfl
    have hu := RP.int_inv' (show RP h (.int k x) u from a2)
    have hv := RP.int_inv' (show RP h (.int k y) v from b2')
    subst hu hv
    rw [Nat.add_zero, ← f2] at a1 b1
    have ih := eq_loop d A B w l (j + 1) cs ds b2 f4 (by simpa using hl) he (fun i x hx => by
     have := hA (i + 1) x (by simpa using hx)
     rwa [show j + (i + 1) = j + 1 + i by omega] at this) (fun i x hx => by
     have := hB (i + 1) x (by simpa using hx)
     rwa [show j + (i + 1) = j + 1 + i by omega] at this)
    rw [List.forIn_cons]
    simp only [if_neg f1, Sem.run_bind, part_int f3 a1, part_int f3 b1, Result.andThen_ok, equal_int f3]
    by_cases hxy : x = y
    ·subst hxy
     simp only [beq_self_eq_true, Bool.true_and] at hb
     subst hb
     simp only [beq_self_eq_true, Bool.true_eq_false, if_false]
     simpa using ih
    ·have hq : (x == y) = false := by simpa using hxy
     rw [hq] at hb ⊢
     simp only [Bool.false_and] at hb
     subst hb
     simp
   ·cases he
  ·cases he
theorem equal_st {h : Hp} {t : TypeId} {fs : Array Field} (hD : P.underlying t = some (.struct fs)) (hst : P.stoodInHeld t = false) (hf : eqsFs P 0 fs.toList = true) {A B : Array Value} {cs ds : List At} {b : Bool}
  (hl : fs.toList.length = cs.length) (he : eqA cs ds = some b) (hA : RL ι h cs A.toList) (hB : RL ι h ds B.toList) (w : World) :
  (Op.equal t (.agg A) (.agg B)).run P w = .ok b w := by
 rw [show Op.equal t (.agg A) (.agg B) = Op.equalIn (9998 + 1 + 1) t (.agg A) (.agg B) from rfl]
 generalize 9998 = d
 rw [Op.equalIn]
 have key := eq_loop (P := P) (ι := ι) (h := h) d A B w fs.toList 0 cs ds b hf hl he (fun i x hx => by
  obtain ⟨u, h1, h2⟩ := hA.2 i x hx
  exact ⟨u, by simpa using h1, h2⟩) (fun i x hx => by
  obtain ⟨u, h1, h2⟩ := hB.2 i x hx
  exact ⟨u, by simpa using h1, h2⟩)
 simp [run_underlying hD, hst]
 rw [← Array.forIn_toList, key]
 cases b <;> simp
theorem gOf_ev {fr : List (Nat × Sv)} {o : Operand} {cs : List At} (h : gOf fr o = some cs) : evV fr o = some (.g cs) := by
 unfold gOf at h
 split at h
 ·rename_i hh; cases h; simp [evV, hh, svV]
 ·cases h
theorem pl_eqG (hT : TyOk P c.T) (hs : Sim n w0 M0 U ι h fr mem a w) {op : BinOp} {t t2 : TypeId} {x y : Operand} (hop : o.op = .binOp op t x y t2) {cs : List At} (hg : gOf fr x = some cs) {ti : TI} (e1 : c.T t = some ti) {v : Vl} (e2 : evV fr y = some v) (he : eqG op ti cs v nx = some e) :
  Plain P n w0 M0 U ι h fr mem a w nx o e := by
 obtain ⟨hr, hn⟩ := hs.evV (gOf_ev hg)
 obtain ⟨hr', hn'⟩ := hs.evV e2
 obtain ⟨A, hx, hA⟩ := hr
 unfold eqG at he
 split at he
 ·rename_i fs ts ds hd
  obtain ⟨B, hy, hB⟩ := hr'
  split at he
  ·rename_i hc
   simp only [Option.bind_eq_some_iff] at he
   obtain ⟨b, e3, he⟩ := he
   obtain ⟨q1, q2, F, q3, q4⟩ := (hT t ti e1).eq hc.1
   obtain ⟨D, hD, hD', _⟩ := (hT t ti e1).desc
   rw [hd] at hD'
   obtain ⟨F', rfl, hF1, _⟩ := hD'
   have hFF : F' = F := by
    have := hD.symm.trans q3
    simpa using this
   subst hFF
   have heq := equal_st (ι := ι) (h := h) q3 q2 q4 (by rw [Array.length_toList, ← hF1]; exact hc.2) e3 hA hB w
   have hgd : (eqGuard op t x y (.agg A) (.agg B)).run P w = .ok () w := by
    cases op <;> simp [eqGuard, q1]
   split at he
   ·exact .inl ⟨.bool b, w, by simp [execOp, hop, hx, hy, hgd, binOp, heq], Nxt.valP hs he (.bool _)⟩
   ·exact .inl ⟨.bool (!b), w, by simp [execOp, hop, hx, hy, hgd, binOp, heq], Nxt.valP hs he (.bool _)⟩
   ·cases he
  ·cases he
 ·cases he
theorem pl_binOp (hT : TyOk P c.T) (hs : Sim n w0 M0 U ι h fr mem a w) {op : BinOp} {t t2 : TypeId} {x y : Operand} (hop : o.op = .binOp op t x y t2) (he : stp c callF o fr mem nx = some e) :
  Plain P n w0 M0 U ι h fr mem a w nx o e := by
 simp only [stp, hop, Option.bind_eq_some_iff, valA] at he
 split at he
 ·rename_i cs hg
  simp only [Option.bind_eq_some_iff] at he
  obtain ⟨ti, e1, v, e2, he⟩ := he
  exact pl_eqG hT hs hop hg e1 e2 he
 simp only [Option.bind_eq_some_iff] at he
 obtain ⟨p, e2, q, e3, z, e4, he⟩ := he
 obtain ⟨hr, hn⟩ := hs.evA e2
 obtain ⟨hr', hn'⟩ := hs.evA e3
 -- no aggregates: the guard of '==' has nothing to say
 have hg : ∀ (u v : Value), u.oneCell' = true → u ≠ .nilIface → (eqGuard op t x y u v).run P w = .ok () w := by
  intro u v hu hne
  cases op <;> simp [eqGuard] <;> (cases u <;> simp_all [Value.oneCell'])
 suffices hk : ∃ v, (binOp op t (a.eval x) (a.eval y)).run P w = .ok v w ∧ RP h z v ∧ a.eval x ≠ .nilIface by
  obtain ⟨v, h1, h2, h3⟩ := hk
  refine .inl ⟨v, w, ?_, Nxt.valP hs he h2⟩
  simp [execOp, hop, hg _ _ (RA.oneCell hr) h3, h1]
 unfold binA at e4
 split at e4
 ·have hx := RP.int_inv' hr
  have hy := RP.int_inv' hr'
  rw [hx, hy]
  split at e4
  ·split at e4
   ·cases e4
   ·cases e4
    rename_i hlt
    exact ⟨_, by simp [binOp, Op.shift, hlt] <;> rfl, .int _ _, by simp⟩
  ·split at e4
   ·cases e4
   ·cases e4
    rename_i hlt
    exact ⟨_, by simp [binOp, Op.shift, hlt] <;> rfl, .int _ _, by simp⟩
  ·split at e4
   ·rename_i hk
    subst hk
    obtain ⟨v, h1, h2⟩ := binI_sound (P := P) e4 (by assumption) (by assumption) t w
    exact ⟨v, h1, h2 h, by simp⟩
   ·cases e4
 ·have hx := RP.str_inv hr
  have hy := RP.str_inv hr'
  rw [hx, hy]
  split at e4
  ·split at e4
   ·cases e4
   ·cases e4
    rename_i hlt
    exact ⟨_, by simp only [binOp, Op.stringOp]; rw [if_neg hlt] <;> rfl, .str _, by simp⟩
  ·cases e4
   exact ⟨_, by simp only [binOp, Op.stringOp, ByteArray.toList_eq] <;> rfl, .bool _, by simp⟩
  ·cases e4
   exact ⟨_, by simp only [binOp, Op.stringOp, ByteArray.toList_eq] <;> rfl, .bool _, by simp⟩
  ·cases e4
 ·have hx := RP.bool_inv hr
  have hy := RP.bool_inv hr'
  rw [hx, hy]
  split at e4
  ·rename_i ht
   obtain ⟨D, hD, hD', _⟩ := tdOf_ok hT ht
   cases hD'
   cases e4
   exact ⟨_, by simp only [binOp, bind_pure_comp, Sem.run_bind, Sem.run_map, equal_bool hD, Result.andThen_ok] <;> rfl, .bool _, by simp⟩
  ·rename_i ht
   obtain ⟨D, hD, hD', _⟩ := tdOf_ok hT ht
   cases hD'
   cases e4
   exact ⟨_, by simp only [binOp, bind_pure_comp, Sem.run_bind, Sem.run_map, equal_bool hD, Result.andThen_ok] <;> rfl, .bool _, by simp⟩
  ·cases e4
 ·split at e4
  ·rename_i ht
   obtain ⟨D, hD, hD', _⟩ := tdOf_ok hT ht
   obtain ⟨el, rfl⟩ := hD'
   -- both are pointers; one of them is nil
   have hp : ∀ {z : At} {v : Value}, RA ι h z v → (z = .nilp → v = .pointer none) ∧ ((∃ m i o, z = .ptr m i o) ∨ (∃ e o, z = .pp e o) → ∃ A, v = .pointer (some A)) := by
    intro z v hz
    constructor
    ·rintro rfl
     have hz : RP h _ _ := hz
     cases hz; rfl
    ·rintro (⟨m, i, o, rfl⟩ | ⟨e, o, rfl⟩)
     ·obtain ⟨L, _, rfl⟩ := hz; exact ⟨_, rfl⟩
     ·have hz : RP h _ _ := hz
      cases hz; exact ⟨_, rfl⟩
   have hp1 := hp hr
   have hp2 := hp hr'
   dsimp only at e4
   have key : ∀ b, (match p, q with
     | At.nilp, .nilp => some true
     | .nilp, .ptr .. => some false
     | .nilp, .pp .. => some false
     | .ptr .., .nilp => some false
     | .pp .., .nilp => some false
     | _, _ => (none : Option Bool)) = some b → (Op.equal t (a.eval x) (a.eval y)).run P w = .ok b w ∧ ∃ A, a.eval x = .pointer A ∧ ∃ A', a.eval y = .pointer A' := by
    intro b hb
    split at hb <;> first | (cases hb; done) | skip
    ·cases hb
     rw [hp1.1 rfl, hp2.1 rfl]
     exact ⟨by rw [equal_ptr hD _ _ (by simp)]; rfl, _, rfl, _, rfl⟩
    ·cases hb
     obtain ⟨A, hA⟩ := hp2.2 (.inl ⟨_, _, _, rfl⟩)
     rw [hp1.1 rfl, hA]
     exact ⟨by rw [equal_ptr hD _ _ (by simp)]; rfl, _, rfl, _, rfl⟩
    ·cases hb
     obtain ⟨A, hA⟩ := hp2.2 (.inr ⟨_, _, rfl⟩)
     rw [hp1.1 rfl, hA]
     exact ⟨by rw [equal_ptr hD _ _ (by simp)]; rfl, _, rfl, _, rfl⟩
    ·cases hb
     obtain ⟨A, hA⟩ := hp1.2 (.inl ⟨_, _, _, rfl⟩)
     rw [hp2.1 rfl, hA]
     exact ⟨by rw [equal_ptr hD _ _ (by simp)]; rfl, _, rfl, _, rfl⟩
    ·cases hb
     obtain ⟨A, hA⟩ := hp1.2 (.inr ⟨_, _, rfl⟩)
     rw [hp2.1 rfl, hA]
     exact ⟨by rw [equal_ptr hD _ _ (by simp)]; rfl, _, rfl, _, rfl⟩
   split at e4
   ·simp only [Option.bind_eq_some_iff] at e4
    obtain ⟨b, hb, e4⟩ := e4
    cases e4
    obtain ⟨h1, A, h2, A', h3⟩ := key b hb
    refine ⟨.bool b, ?_, .bool _, by rw [h2]; simp⟩
    rw [h2, h3] at h1 ⊢
    simp [binOp, h1]
   ·simp only [Option.bind_eq_some_iff] at e4
    obtain ⟨b, hb, e4⟩ := e4
    cases e4
    obtain ⟨h1, A, h2, A', h3⟩ := key b hb
    refine ⟨.bool (!b), ?_, .bool _, by rw [h2]; simp⟩
    rw [h2, h3] at h1 ⊢
    simp [binOp, h1]
   ·cases e4
  ·cases e4

end

section
variable {P : Program} {n : Nat} {w0 : World} {M0 : Bool → Nat → Prop} {U : Nat → Prop} {ι : Io} {h : Hp} {fr : List (Nat × Sv)} {mem : Mem} {a : Act} {w : World}
 {c : Cfg} {callF : FuncId → List Vl → List Blk → Option (List Vl × List Blk)} {o : Oper} {nx : Nat} {e : Eff}

theorem put_get (cells vs : List Value) (o' : Nat) (hle : o' + vs.length ≤ cells.length) (j : Nat) :
  (cells.take o' ++ vs ++ cells.drop (o' + vs.length))[j]? = if j < o' then cells[j]? else if j < o' + vs.length then vs[j - o']? else cells[j]? := by
 rw [List.append_assoc, List.getElem?_append, List.length_take]
 have e1 : min o' cells.length = o' := by omega
 rw [e1]
 by_cases h1 : j < o'
 ·rw [if_pos h1, if_pos h1, List.getElem?_take, if_pos h1]
 ·rw [if_neg h1, if_neg h1, List.getElem?_append]
  by_cases h2 : j < o' + vs.length
  ·rw [if_pos (by omega), if_pos h2]
  ·rw [if_neg (by omega), if_neg h2, List.getElem?_drop]
   congr 1
   omega

theorem fold_set (off : Nat) : ∀ (vs : List Value) (k : Nat) (cells : Array Value), off + k + vs.length ≤ cells.size →
  ((vs.zipIdx k).foldl (fun (cs : Array Value) (p : Value × Nat) => cs.setIfInBounds (off + p.2) p.1) cells).toList = cells.toList.take (off + k) ++ vs ++ cells.toList.drop (off + k + vs.length) := by
 intro vs
 induction vs with
 | nil => intro k cells _; simp
 | cons v vs ih =>
  intro k cells hle
  simp only [List.length_cons] at hle
  simp only [List.zipIdx_cons, List.foldl_cons]
  rw [ih (k + 1) _ (by simp; omega)]
  apply List.ext_getElem?
  intro j
  have l1 : off + (k + 1) + vs.length ≤ (cells.setIfInBounds (off + k) v).toList.length := by simp; omega
  have l2 : off + k + (v :: vs).length ≤ cells.toList.length := by simp; omega
  rw [put_get _ _ _ l1, put_get _ _ _ l2]
  simp only [Array.getElem?_toList, Array.getElem?_setIfInBounds, List.length_cons]
  rcases Nat.lt_trichotomy j (off + k) with hj | hj | hj
  ·rw [if_pos (by omega), if_neg (by omega), if_pos hj]
  ·subst hj
   rw [if_pos (by omega), if_pos rfl, if_pos (by omega), if_neg (by omega), if_pos (by omega), Nat.sub_self]
   rfl
  ·rw [if_neg (by omega), if_neg (by omega : ¬ j < off + k)]
   by_cases h2 : j < off + (k + 1) + vs.length
   ·rw [if_pos h2, if_pos (by omega)]
    obtain ⟨q, rfl⟩ : ∃ q, j = off + k + 1 + q := ⟨j - (off + k + 1), by omega⟩
    rw [show off + k + 1 + q - (off + (k + 1)) = q by omega, show off + k + 1 + q - (off + k) = q + 1 by omega]
    rfl
   ·rw [if_neg h2, if_neg (by omega), if_neg (by omega)]

theorem fill_one (place : Nat → Option (Nat × Nat)) (cells : Array Value) (i off size : Nat) (v : Value) (rest : List (Nat × Value)) (hp : place i = some (off, size)) (hv : v.cells.size = size) (hle : off + size ≤ cells.size) :
  Instr.fill place cells ((i, v) :: rest) = Instr.fill place (cells.toList.take off ++ v.cells.toList ++ cells.toList.drop (off + v.cells.toList.length)).toArray rest := by
 have hf : (v.cells.zipIdx.foldl (fun cs (x : Value × Nat) => cs.setIfInBounds (off + x.2) x.1) cells) = (cells.toList.take off ++ v.cells.toList ++ cells.toList.drop (off + v.cells.toList.length)).toArray := by
  have hq := fold_set off v.cells.toList 0 cells (by simp; omega)
  simp only [Nat.add_zero] at hq
  rw [← hq]
  rw [← Array.foldl_toList, Array.toList_zipIdx]
 simp only [Instr.fill, hp]
 rw [if_neg (by simp; omega)]
 exact congrArg (fun z => Instr.fill place z rest) hf

/-- What a part of a struct or an array literal is. -/
abbrev partsV (fr : List (Nat × Sv)) (ps : List (Nat × Operand)) : Option (List (Nat × Vl)) := mapO (fun p : Nat × Operand => (evV fr p.2).bind fun v => some (p.1, v)) ps

theorem fillV_sound (hs : Sim n w0 M0 U ι h fr mem a w) {ds : List (Nat × Nat)} {place : Nat → Option (Nat × Nat)} (hpl : ∀ i p, ds[i]? = some p → place i = some p) :
  ∀ {parts : List (Nat × Operand)} {ps : List (Nat × Vl)} {cs cs' : List At} {cells : Array Value}, partsV fr parts = some ps → RL ι h cs cells.toList → (∀ x ∈ cs, ∀ m ∈ x.nm, U m) → fillV ds cs ps = some cs' →
  ∃ cells', Instr.fill place cells (parts.map fun (i, x) => (i, a.eval x)) = some cells' ∧ RL ι h cs' cells'.toList ∧ (∀ x ∈ cs', ∀ m ∈ x.nm, U m) := by
 intro parts
 induction parts with
 | nil =>
  intro ps cs cs' cells hp hR hU hf
  simp [partsV, mapO] at hp
  subst hp
  simp [fillV] at hf
  subst hf
  exact ⟨cells, rfl, hR, hU⟩
 | cons p parts ih =>
  intro ps cs cs' cells hp hR hU hf
  obtain ⟨i, x⟩ := p
  simp only [partsV, mapO, Option.bind_eq_some_iff] at hp
  obtain ⟨iv, ⟨v, e1, e2⟩, ps', e3, e4⟩ := hp
  cases e2
  cases e4
  simp only [fillV, Option.bind_eq_some_iff] at hf
  obtain ⟨⟨off, size⟩, e5, hf⟩ := hf
  split at hf
  ·rename_i hc
   obtain ⟨hr, hn⟩ := hs.evV e1
   have hV := RV.cells hr
   have hsz : (a.eval x).cells.size = size := by have := hV.1; simp at this; omega
   have hle : off + size ≤ cells.size := by have := hR.1; simp at this; have := hc.2; simp at this; omega
   have hR' := hR.put hV off
   obtain ⟨cells', h1, h2, h3⟩ := ih (cells := (cells.toList.take off ++ (a.eval x).cells.toList ++ cells.toList.drop (off + (a.eval x).cells.toList.length)).toArray) e3 (by simpa using hR') (fun y hy m hm => by
    rcases mem_putAt hy with h' | h'
    ·exact hU y h' m hm
    ·exact hn m (by simp only [namesV, List.mem_flatMap]; exact ⟨v, by simp, y, h', hm⟩)) hf
   refine ⟨cells', ?_, h2, h3⟩
   rw [List.map_cons, fill_one place cells i off size (a.eval x) _ (hpl i _ e5) hsz hle]
   exact h1
  ·cases hf

theorem putAt_whole {cs xs : List At} (hl : xs.length = cs.length) : putAt cs 0 xs = xs := by
 unfold putAt
 simp [hl]

def partsZ (z : List At) (fr : List (Nat × Sv)) (l : List (Nat × Operand)) : Option (List (Nat × Vl)) := mapO (fun p : Nat × Operand => (evV fr p.2).bind fun v => some (p.1, fixN z v)) l
theorem fixN_sound {z : List At} {v : Vl} {u : Value} (hr : RV ι h v u) : RV ι h (fixN z v) u ∧ ∀ m ∈ namesV [fixN z v], m ∈ namesV [v] := by
 unfold fixN
 split
 ·split
  ·have hr : RP h _ _ := hr
   cases hr
   exact ⟨RP.snil _ _, by intro m hm; simp [namesV, Vl.cells, At.nm] at hm⟩
  ·exact ⟨hr, fun m hm => hm⟩
 ·exact ⟨hr, fun m hm => hm⟩
theorem fillE_sound (hs : Sim n w0 M0 U ι h fr mem a w) {es : Nat} {z : List At} :
  ∀ {parts : List (Nat × Operand)} {ps : List (Nat × Vl)} {els els' : List (List At)} {cells : Array Value}, partsZ z fr parts = some ps → RBs ι h cells es els → els.length * es = cells.size →
   (∀ e ∈ els, ∀ x ∈ e, ∀ m ∈ x.nm, U m) → fillE es els ps = some els' →
  ∃ cells', Instr.fill (fun i => some (i * es, es)) cells (parts.map fun (i, x) => (i, a.eval x)) = some cells' ∧ RBs ι h cells' es els' ∧ els'.length * es = cells'.size ∧ els'.length = els.length ∧ (∀ e ∈ els', ∀ x ∈ e, ∀ m ∈ x.nm, U m) := by
 intro parts
 induction parts with
 | nil =>
  intro ps els els' cells hp hR hl hU hf
  simp [partsZ, mapO] at hp
  subst hp
  simp [fillE] at hf
  subst hf
  exact ⟨cells, rfl, hR, hl, rfl, hU⟩
 | cons p parts ih =>
  intro ps els els' cells hp hR hl hU hf
  obtain ⟨i, x⟩ := p
  simp only [partsZ, mapO, Option.bind_eq_some_iff] at hp
  obtain ⟨iv, ⟨v, e1, e2⟩, ps', e3, e4⟩ := hp
  cases e2
  cases e4
  simp only [fillE] at hf
  split at hf
  ·rename_i hc
   obtain ⟨hr0, hn0⟩ := hs.evV e1
   obtain ⟨hr, hnf⟩ := fixN_sound (z := z) hr0
   have hn : ∀ m ∈ namesV [fixN z v], U m := fun m hm => hn0 m (hnf m hm)
   have hV := RV.cells hr
   have hsz : (a.eval x).cells.size = es := by rw [← hc.1, hV.1, Array.length_toList]
   have hel : els[i]? = some els[i] := List.getElem?_eq_getElem hc.2
   obtain ⟨hlen, _⟩ := hR i _ hel
   have hle : i * es + es ≤ cells.size := by
    rw [← hl]
    have : (i + 1) * es ≤ els.length * es := Nat.mul_le_mul_right es hc.2
    rw [Nat.add_mul, Nat.one_mul] at this
    exact this
   have hR' := hR.set hel hV (off := 0) (by have := hc.1; omega) (by simp; omega)
   rw [putAt_whole (by rw [hlen]; exact hc.1)] at hR'
   simp only [Nat.add_zero] at hR'
   obtain ⟨cells', h1, h2, h3, h4, h5⟩ := ih e3 hR' (by simp; rw [hl]; omega) (fun e' he' y hy m hm => by
    rcases List.mem_or_eq_of_mem_set he' with h' | h'
    ·exact hU e' h' y hy m hm
    ·subst h'
     exact hn m (by simp only [namesV, List.mem_flatMap]; exact ⟨fixN z v, by simp, y, hy, hm⟩)) hf
   refine ⟨cells', ?_, h2, h3, by simpa using h4, h5⟩
   rw [List.map_cons, fill_one (fun i => some (i * es, es)) cells i (i * es) es (a.eval x) _ rfl hsz hle]
   exact h1
  ·cases hf

theorem pl_build (hT : TyOk P c.T) (hs : Sim n w0 M0 U ι h fr mem a w) {t : TypeId} {parts : Array (Nat × Operand)} (hop : o.op = .build t parts) (he : stp c callF o fr mem nx = some e) :
  Plain P n w0 M0 U ι h fr mem a w nx o e := by
 simp only [stp, hop, Option.bind_eq_some_iff] at he
 obtain ⟨ti, e1, he⟩ := he
 split at he
 ·rename_i fs _ hd
  split at he
  ·cases he
  ·rename_i hz
   have hz : ti.zero.length = ti.size := by simpa using hz
   simp only [Option.bind_eq_some_iff] at he
   obtain ⟨ps, e2, cs, e3, he⟩ := he
   obtain ⟨i, z, hi, hzv, hzs, hzr, hzp⟩ := (hT t ti e1).zero hz
   obtain ⟨D, hD, hD', _⟩ := (hT t ti e1).desc
   rw [hd] at hD'
   obtain ⟨F, rfl, hF1, hF2, _⟩ := hD'
   have hR : RL ι h ti.zero z.cells.toList := ⟨by simp [hzs, hz], fun j x hx => by
    obtain ⟨u, e2, e3⟩ := hzr h j x hx
    exact ⟨u, by simpa using e2, RA.ofRP e3⟩⟩
   have hpl : F.toList.mapM (fun f => (P.info? f.type).map fun i => (f.offset, i.size)) = some fs := by
    have : ∀ (G : List Field) (gs : List (Nat × Nat)), gs.length = G.length → (∀ (j : Nat) (p : Nat × Nat), gs[j]? = some p → ∃ f, G[j]? = some f ∧ f.offset = p.1 ∧ ∃ ti, P.info? f.type = some ti ∧ ti.size = p.2) →
      G.mapM (fun f => (P.info? f.type).map fun i => (f.offset, i.size)) = some gs := by
     intro G
     induction G with
     | nil => intro gs hl _; cases gs <;> simp at hl ⊢
     | cons f G ih =>
      intro gs hl hg
      cases gs with
      | nil => simp at hl
      | cons g gs =>
       obtain ⟨f', q1, q2, ti', q3, q4⟩ := hg 0 g rfl
       simp at q1
       subst q1
       have := ih gs (by simpa using hl) (fun j p hp => by simpa using hg (j + 1) p (by simpa using hp))
       simp [List.mapM_cons, q3, this, q2, q4]
    exact this F.toList fs (by simpa using hF1) (fun j p hp => by simpa using hF2 j p hp)
   obtain ⟨cells', f1, f2, f3⟩ := fillV_sound hs (ds := fs) (place := fun x => (fs.toArray)[x]?) (fun i p hp => by simpa using hp) e2 hR (fun x hx m hm => by
    have := hzp x hx
    cases x <;> simp [At.pr, At.nm] at this hm) e3
   refine .inl ⟨.agg cells', w, ?_, Nxt.valV hs he ⟨_, rfl, f2⟩ ?_⟩
   ·have hb : P.built t (parts.map fun (i, x) => (i, a.eval x)).toList = some cells' := by
     unfold Program.built
     simp only [hi, hD, hzv, hpl]
     rw [← f1]
     simp
    have := run_build (P := P) w t (parts.map fun (i, x) => (i, a.eval x)) cells' hb
    simp [execOp, hop, this]
   ·intro m hm
    simp only [namesV, Vl.cells, List.flatMap_cons, List.flatMap_nil, List.append_nil, List.mem_flatMap] at hm
    obtain ⟨x, hx, hm⟩ := hm
    exact f3 x hx m hm
 ·rename_i na el hd
  simp only [Option.bind_eq_some_iff] at he
  obtain ⟨te, e4, he⟩ := he
  split at he
  ·cases he
  ·rename_i hz
   have hz : ti.zero.length = ti.size := by simpa using hz
   simp only [Option.bind_eq_some_iff] at he
   obtain ⟨ps, e2, cs, e3, he⟩ := he
   obtain ⟨i, z, hi, hzv, hzs, hzr, hzp⟩ := (hT t ti e1).zero hz
   obtain ⟨D, hD, hD', _⟩ := (hT t ti e1).desc
   rw [hd] at hD'
   cases hD'
   obtain ⟨ri, hri, hrs, _⟩ := (hT el te e4).info
   have hR : RL ι h ti.zero z.cells.toList := ⟨by simp [hzs, hz], fun j x hx => by
    obtain ⟨u, e2, e3⟩ := hzr h j x hx
    exact ⟨u, by simpa using e2, RA.ofRP e3⟩⟩
   obtain ⟨cells', f1, f2, f3⟩ := fillV_sound hs (ds := (List.range na).map fun j => (j * te.size, te.size)) (place := fun i => some (i * ri.size, ri.size)) (fun i p hp => by
    rw [List.getElem?_map] at hp
    cases hr : (List.range na)[i]? with
    | none => rw [hr] at hp; cases hp
    | some q =>
     rw [hr] at hp
     have hq : q = i := by
      rw [List.getElem?_eq_some_iff] at hr
      obtain ⟨_, hr⟩ := hr
      simpa using hr.symm
     subst hq
     simpa [hrs] using hp) e2 hR (fun x hx m hm => by
    have := hzp x hx
    cases x <;> simp [At.pr, At.nm] at this hm) e3
   refine .inl ⟨.agg cells', w, ?_, Nxt.valV hs he ⟨_, rfl, f2⟩ ?_⟩
   ·have hb : P.built t (parts.map fun (i, x) => (i, a.eval x)).toList = some cells' := by
     unfold Program.built
     simp only [hi, hD, hzv, hri]
     rw [← f1]
     simp
    have := run_build (P := P) w t (parts.map fun (i, x) => (i, a.eval x)) cells' hb
    simp [execOp, hop, this]
   ·intro m hm
    simp only [namesV, Vl.cells, List.flatMap_cons, List.flatMap_nil, List.append_nil, List.mem_flatMap] at hm
    obtain ⟨x, hx, hm⟩ := hm
    exact f3 x hx m hm
 ·cases he

theorem made_cells {zs : List At} {z : Value} {k es : Nat} (hz : zs.length = es) (hzs : z.cells.size = es) (hes : 0 < es) (hzr : ∀ (h : Hp) (j : Nat) (x : At), zs[j]? = some x → ∃ u, z.cells[j]? = some u ∧ RP h x u) :
  RBs ι h (madeCells z.cells (k * es)) es (List.replicate k zs) := by
 intro i e' he'
 rw [List.getElem?_replicate] at he'
 split at he'
 ·rename_i hi
  cases he'
  refine ⟨hz, fun j x hx => ?_⟩
  obtain ⟨u, e1, e2⟩ := hzr h j x hx
  have hj : j < es := by
   rw [← hz]
   rcases Nat.lt_or_ge j zs.length with h' | h'
   ·exact h'
   ·rw [List.getElem?_eq_none (by omega)] at hx; cases hx
  refine ⟨u, ?_, RA.ofRP e2⟩
  have hlt : i * es + j < k * es := by
   have : (i + 1) * es ≤ k * es := Nat.mul_le_mul_right es hi
   rw [Nat.add_mul, Nat.one_mul] at this
   omega
  have hmod : (i * es + j) % es = j := by rw [Nat.mul_comm, Nat.mul_add_mod]; exact Nat.mod_eq_of_lt hj
  unfold madeCells
  rw [Array.getElem?_map, Array.getElem?_range, if_pos hlt]
  simp only [Option.map_some, hzs, hmod]
  rw [← e1, Array.getElem?_eq_getElem (by omega)]
  simp [hzs, hj]
 ·cases he'

theorem TOk.zeroF {P : Program} {t : TypeId} {i : TI} (ht : TOk P t i) (hz : i.zero.length = i.size) : ∃ ti z, P.info? t = some ti ∧ ti.zero = some z ∧ z.cells.size = i.size ∧ (∀ (h : Hp) (j : Nat) (x : At), (zf i)[j]? = some x → ∃ u, z.cells[j]? = some u ∧ RP h x u) ∧ (∀ x ∈ zf i, x.pr = true) ∧ (zf i).length = i.size := by
 obtain ⟨ti, z, h1, h2, h3, h4, h5⟩ := ht.zero hz
 refine ⟨ti, z, h1, h2, h3, fun h j x hx => ?_, fun x hx => ?_, by simp [zf, hz]⟩
 ·simp only [zf, List.getElem?_map, Option.map_eq_some_iff] at hx
  obtain ⟨y, hy, rfl⟩ := hx
  obtain ⟨u, q1, q2⟩ := h4 h j y hy
  refine ⟨u, q1, ?_⟩
  cases q2 <;> first | exact .sl0 _ _ _ | skip
  ·exact .int _ _
  ·exact .bool _
  ·exact .str _
  ·exact .nilp
  ·exact .fn _ _ _ _ ‹_› ‹_› ‹_›
  ·exact .sl _ _ _ _ _ _ _ _ _ _ ‹_› ‹_› ‹_› ‹_› ‹_› ‹_›
  ·exact .pp _ _ _ _ _ _ _ _ ‹_› ‹_› ‹_›
 ·simp only [zf, List.mem_map] at hx
  obtain ⟨y, hy, rfl⟩ := hx
  have := h5 y hy
  cases y <;> simp [frz0, At.pr] at this ⊢
theorem nestOf_spec {et : TypeId} {te : TI} {q : TypeId × Nat} (e1 : c.T et = some te) (h : nestOf c et = some q) : te.size = 1 ∧ 0 < q.2 ∧ ∃ ty, te.zero = [.snil q.2 ty] := by
 unfold nestOf at h
 split at h
 ·rw [e1] at h
  simp only [Option.bind_some] at h
  split at h
  ·rename_i e2 s ty hd hz
   simp only [Option.bind_eq_some_iff] at h
   obtain ⟨t2, _, h⟩ := h
   split at h
   ·rename_i hc
    cases h
    exact ⟨hc.2.2, hc.1, ty, by rw [hz, hc.2.1]⟩
   ·cases h
  ·cases h
 ·cases h
theorem pl_makeSlice (hT : TyOk P c.T) (hs : Sim n w0 M0 U ι h fr mem a w) (hf : ∀ m, nx ≤ m → m < e.nn → ¬ U m) {t : TypeId} {l k : Operand} (hop : o.op = .makeSlice t l k) (he : stp c callF o fr mem nx = some e) :
  Plain P n w0 M0 U ι h fr mem a w nx o e := by
 simp only [stp, hop] at he
 split at he
 ·rename_i et ht
  simp only [Option.bind_eq_some_iff] at he
  obtain ⟨te, e1, lv, e2, kv, e3, he⟩ := he
  split at he
  ·rename_i hc
   obtain ⟨c1, c2, c3, c4, c5, c6⟩ := hc
   cases he
   obtain ⟨D, hD, rfl, _⟩ := tdOf_ok hT ht
   obtain ⟨kl, hl⟩ := hs.evI e2
   obtain ⟨kk, hk⟩ := hs.evI e3
   obtain ⟨i, z, hi, hzv, hzs, hzr, hzp, c7⟩ := (hT et te e1).zeroF c6
   obtain ⟨i', hi', hsz, hby⟩ := (hT et te e1).info
   rw [hi] at hi'
   cases hi'
   have hk1 : kv ≤ 140737488355328 := by
    have : kv * 1 ≤ kv * te.bytes := Int.mul_le_mul_of_nonneg_left (by omega) (by omega)
    omega
   have hrun := run_make (P := P) w t et i z hD hi hzv kl kk lv kv c1 c2 (by rw [hby, Int.mul_comm]; omega) (by omega)
   rw [hsz] at hrun
   have hsize : (madeCells z.cells (kv.toNat * te.size)).size = kv.toNat * te.size := size_madeCells _ _
   refine .inl ⟨.slice (some ⟨w.heap.size, 0, none⟩) lv.toNat kv.toNat, w.alloc (.cells (madeCells z.cells (kv.toNat * te.size)) et), by simp [execOp, hop, hl, hk, hrun], ?_⟩
   cases hno : nestOf c et with
   | none =>
    refine Nxt.made (B := { els := List.replicate kv.toNat (zf te), es := te.size, ty := et, pr := true, fz := false, ar := true }) hs hf (made_cells c7 hzs c4 hzr) (by show te.size ≠ 0; omega) rfl rfl ?_ ?_ ?_ ?_
    ·intro m hm
     simp only [Blk.nms, List.mem_flatMap] at hm
     obtain ⟨e', he', x, hx, hm⟩ := hm
     have := List.eq_of_mem_replicate he'
     subst this
     have := hzp x hx
     cases x <;> simp [At.pr, At.nm] at this hm
    ·intro _ e' he' x hx
     have := List.eq_of_mem_replicate he'
     subst this
     exact hzp x hx
    ·refine .inl ⟨_, kv.toNat, by simp [Io.set]; rfl, by simp, ?_, by omega, by simp [maxLen]; omega⟩
     simp [hsize]
    ·intro m hm; simpa [Sv.nms, namesV, Vl.cells, At.nm] using hm
   | some q =>
    obtain ⟨n1, n2, ty, n3⟩ := nestOf_spec e1 hno
    obtain ⟨i2, z2, hi2, hzv2, hzs2, hzr2, _⟩ := (hT et te e1).zero c6
    rw [hi] at hi2
    cases hi2
    rw [hzv] at hzv2
    cases hzv2
    have hz0 : ∀ j, j < 1 → z.cells[j]? = some (.slice none 0 0) := fun j hj => by
     obtain rfl : j = 0 := by omega
     obtain ⟨u, u1, u2⟩ := hzr2 h 0 (.snil q.2 ty) (by rw [n3]; rfl)
     cases u2
     exact u1
    have hzf : zf te = [.sl q.2 0 []] := by unfold zf; rw [n3]; rfl
    have hC : ∀ j u, (madeCells z.cells (kv.toNat * te.size))[j]? = some u → u = Value.slice none 0 0 := fun j u hu => by
     unfold madeCells at hu
     rw [Array.getElem?_map, Array.getElem?_range] at hu
     split at hu
     ·simp only [Option.map_some, Option.some.injEq] at hu
      rw [hzs, n1, Nat.mod_one] at hu
      have := hz0 0 (by omega)
      rw [← hu, getElem!_def, this]
     ·cases hu
    have hft : ∀ j g, ¬ Inn (List.replicate kv.toNat (zf te)) (madeCells z.cells (kv.toNat * te.size)) j g := fun j g ⟨_, _, _, o', n', c', _, hc⟩ => by have := hC j _ hc; cases this
    have hgs : (w.alloc (.cells (madeCells z.cells (kv.toNat * te.size)) et)).heap[w.heap.size]? = some (.cells (madeCells z.cells (kv.toNat * te.size)) et (0, 0)) := by show (w.heap.push _)[w.heap.size]? = _; simp
    have hrn : RN (ι.set nx ⟨w.heap.size, kv.toNat * te.size, te.size⟩) h (w.alloc (.cells (madeCells z.cells (kv.toNat * te.size)) et)) ⟨w.heap.size, kv.toNat * te.size, te.size⟩ { els := List.replicate kv.toNat (zf te), es := te.size, ty := et, pr := true, fz := false, ar := true, ow := some q } q :=
     ⟨_, hgs, hsize, rfl, n1, n2, (fun i el hi => by
      have hi : (List.replicate kv.toNat (zf te))[i]? = some el := hi
      rw [List.getElem?_replicate] at hi
      split at hi
      ·rename_i hlt
       cases hi
       have hb : i < (madeCells z.cells (kv.toNat * te.size)).size := by rw [hsize, n1]; omega
       have hu := Array.getElem?_eq_getElem hb
       exact ⟨_, _, hzf, hu, .inl ⟨0, [], rfl, .inl ⟨rfl, rfl, hC _ _ hu⟩⟩⟩
      ·cases hi), fun j1 j2 g f1 _ => (hft j1 g f1).elim, fun j g f => (hft j g f).elim⟩
    have hall := hs.allocO nx (hf nx (Nat.le_refl _) (Nat.lt_succ_self _)) { els := List.replicate kv.toNat (zf te), es := te.size, ty := et, pr := true, fz := false, ar := true, ow := some q } (.cells (madeCells z.cells (kv.toNat * te.size)) et) (kv.toNat * te.size)
     (RB.ofN (q := q) (by simp [Io.set]) rfl hrn) rfl (fun m hm => by
      simp only [Blk.nms, List.mem_flatMap] at hm
      obtain ⟨e', he', x, hx, hm⟩ := hm
      have := List.eq_of_mem_replicate he'
      subst this
      have := hzp x hx
      cases x <;> simp [At.pr, At.nm] at this hm) (fun _ e' he' x hx => by
      have := List.eq_of_mem_replicate he'
      subst this
      exact hzp x hx) (fun g f => by
      rcases f with f | ⟨_, C', t', z', j, f1, f2⟩
      ·exact f
      ·rw [hgs] at f1
       cases f1
       exact (hft j g f2).elim)
    refine ⟨_, h, Sub.refl h, fun m hm => ?_, hall.weak fun m hm => ?_, .inl ⟨_, kv.toNat, by simp [Io.set]; rfl, by simp, ?_, by omega, by simp [maxLen]; omega⟩, ?_, Nat.le_succ _, fun _ _ _ => rfl⟩
    ·unfold Io.set; rw [if_neg]; rintro rfl; exact hm ⟨Nat.le_refl _, Nat.lt_succ_self _⟩
    ·rcases hm with hm | rfl
     ·exact .inl hm
     ·exact .inr ⟨Nat.le_refl _, Nat.lt_succ_self _⟩
    ·simp
    ·intro m hm
     simp [Sv.nms, namesV, Vl.cells, At.nm] at hm
     exact .inr ⟨by omega, by show m < nx + 1; omega⟩
  ·cases he
 ·cases he

theorem pl_buildSlice (hT : TyOk P c.T) (hs : Sim n w0 M0 U ι h fr mem a w) (hf : ∀ m, nx ≤ m → m < e.nn → ¬ U m) {t : TypeId} {len : Nat} {parts : Array (Nat × Operand)} (hop : o.op = .buildSlice t len parts)
  (he : stp c callF o fr mem nx = some e) : Plain P n w0 M0 U ι h fr mem a w nx o e := by
 simp only [stp, hop] at he
 split at he
 ·rename_i et ht
  simp only [Option.bind_eq_some_iff] at he
  obtain ⟨te, e1, ps, e2, els0, e3, els, e4, he⟩ := he
  split at he
  ·rename_i hc
   obtain ⟨c1, c2, c3, c6⟩ := hc
   cases he
   obtain ⟨D, hD, rfl, _⟩ := tdOf_ok hT ht
   obtain ⟨i, z, hi, hzv, hzs, hzr, hzp⟩ := (hT et te e1).zero c6
   obtain ⟨i', hi', hsz, hby⟩ := (hT et te e1).info
   rw [hi] at hi'
   cases hi'
   obtain ⟨cells', f1, f2, f3, f4, f5⟩ := fillE_sound hs (es := te.size) (cells := madeCells z.cells (len * te.size)) e2 (made_cells c6 hzs c2 hzr) (by rw [size_madeCells]; simp) (fun e' he' x hx m hm => by
    have := List.eq_of_mem_replicate he'
    subst this
    have := hzp x hx
    cases x <;> simp [At.pr, At.nm] at this hm) e3
   have hl4 : els.length = els0.length := (mapO_some e4).1
   have f4' : els.length = len := by rw [hl4]; simpa using f4
   obtain ⟨h1, s1, s2, s3, s4, s5⟩ := hs.frzStep (smnE els0)
   have f2' := frzBs_sound hs s1 s2 f2 e4
   have f5' : ∀ e' ∈ els, ∀ x ∈ e', ∀ m ∈ x.nm, U m := by
    intro e' he' x hx m hm
    obtain ⟨j, hj⟩ := List.getElem?_of_mem he'
    obtain ⟨e0, hj0, hfe⟩ := mapO_some_inv e4 j e' hj
    obtain ⟨q, hq⟩ := List.getElem?_of_mem hx
    obtain ⟨x0, hq0, hfx⟩ := mapO_some_inv hfe q x hq
    exact f5 e0 (List.mem_of_getElem? hj0) x0 (List.mem_of_getElem? hq0) m (ptrs_nm (frzA_ptrs hfx m hm))
   refine Plain.frz (rd := []) s1 s5 ?_
   refine .inl ⟨.slice (some ⟨w.heap.size, 0, none⟩) len len, w.alloc (.cells cells' et), ?_, ?_⟩
   ·have f1' : Instr.fill (fun i => some (i * te.size, te.size)) (madeCells z.cells (len * te.size)) (parts.toList.map fun x => (x.1, a.eval x.2)) = some cells' := f1
    have hn : ¬ (16777216 < len * te.size) := by omega
    by_cases h0 : len * te.size = 0
    ·have hz0 : madeCells z.cells (len * te.size) = #[] := by rw [h0]; simp [madeCells]
     rw [hz0] at f1'
     simp [execOp, hop, Instr.buildSlice, run_underlying hD, run_sizeOf hi, hsz, h0, Array.range_zero', f1', newRow]
    ·simp only [madeCells] at f1'
     simp [execOp, hop, Instr.buildSlice, run_underlying hD, run_sizeOf hi, hsz, h0, hn, run_zeroValue' hi hzv, f1', newRow]
   ·refine Nxt.made (B := { els := els, es := te.size, ty := et, pr := els.all fun e => e.all At.pr, fz := false, ar := true }) s3 hf f2' (by show te.size ≠ 0; omega) rfl rfl ?_ ?_ ?_ ?_
    ·intro m hm
     simp only [Blk.nms, List.mem_flatMap] at hm
     obtain ⟨e', he', x, hx, hm⟩ := hm
     exact f5' e' he' x hx m hm
    ·intro hp e' he' x hx
     have hp : (els.all fun e => e.all At.pr) = true := hp
     exact List.all_eq_true.1 (List.all_eq_true.1 hp e' he') x hx
    ·refine .inl ⟨_, len, by simp [Io.set]; rfl, by simp, ?_, Nat.le_refl _, by simp [maxLen]; omega⟩
     simp [← f3, ← hl4, f4']
    ·intro m hm; simpa [Sv.nms, namesV, Vl.cells, At.nm] using hm
  ·cases he
 ·cases he

end

section
variable {P : Program} {n : Nat} {w0 : World} {M0 : Bool → Nat → Prop} {U : Nat → Prop} {ι : Io} {h : Hp} {fr : List (Nat × Sv)} {mem : Mem} {a : Act} {w : World}
 {c : Cfg} {callF : FuncId → List Vl → List Blk → Option (List Vl × List Blk)} {o : Oper} {nx : Nat} {e : Eff}

theorem RP.pp_add {h : Hp} {el : List At} {o' k : Nat} {v : Value} (hr : RP h (.pp el o') v) : ∃ b off, v = .pointer (some ⟨b, off, none⟩) ∧ RP h (.pp el (o' + k)) (.pointer (some ⟨b, off + k, none⟩)) := by
 cases hr with
 | pp _ _ b off C t z us hb hu hr => exact ⟨b, off + o', rfl, by rw [Nat.add_assoc]; exact .pp el (o' + k) b off C t z us hb hu hr⟩

theorem pl_fieldAddr (hT : TyOk P c.T) (hs : Sim n w0 M0 U ι h fr mem a w) {s : TypeId} {x : Operand} {f : Nat} (hop : o.op = .fieldAddr s x f) (he : stp c callF o fr mem nx = some e) :
  Plain P n w0 M0 U ι h fr mem a w nx o e := by
 simp only [stp, hop] at he
 split at he
 ·rename_i fs _ hd
  simp only [Option.bind_eq_some_iff] at he
  obtain ⟨p, e1, he⟩ := he
  split at he
  ·cases he
  ·rename_i hp
   simp only [Option.bind_eq_some_iff] at he
   obtain ⟨y, e2, he⟩ := he
   obtain ⟨hr, hn⟩ := hs.evA e2
   obtain ⟨D, hD, ⟨F, rfl, hF1, hF2, -⟩, -⟩ := tdOf_ok hT hd
   obtain ⟨g, g1, g2, ti, g3, g4⟩ := hF2 f p e1
   have hrun : ∀ b off, a.eval x = .pointer (some ⟨b, off, none⟩) → (execOp a.eval o).run P w = .ok (.value (.pointer (some ⟨b, off + p.1, none⟩))) w := by
    intro b off hx
    have hne : ¬ ti.size = 0 := by rw [g4]; exact hp
    simp [execOp, hop, Instr.fieldAt, run_underlying hD, g1, hx, Instr.sureAddr, fieldPlace, run_sizeOf g3, hne, g2, Addr.add_mid]
   split at he
   ·rename_i m i o'
    obtain ⟨L, hL, hx⟩ := hr
    refine .inl ⟨_, w, hrun _ _ hx, nx_at hs (show RA ι h (.ptr m i (o' + p.1)) _ from ⟨L, hL, by rw [Nat.add_assoc]⟩) hn he⟩
   ·rename_i el o'
    obtain ⟨b, off, hx, hr'⟩ := RP.pp_add (k := p.1) hr
    exact .inl ⟨_, w, hrun _ _ hx, Nxt.valP hs he hr'⟩
   ·cases he
 ·cases he

theorem pl_field (hT : TyOk P c.T) (hs : Sim n w0 M0 U ι h fr mem a w) {s : TypeId} {x : Operand} {f : Nat} (hop : o.op = .field s x f) (he : stp c callF o fr mem nx = some e) :
  Plain P n w0 M0 U ι h fr mem a w nx o e := by
 simp only [stp, hop] at he
 split at he
 ·rename_i fs ts hd
  simp only [Option.bind_eq_some_iff] at he
  obtain ⟨p, e1, ft, e5, y, e2, he⟩ := he
  split at he
  ·rename_i cs
   simp only [Option.bind_eq_some_iff] at he
   obtain ⟨ti, e3, v, e4, he⟩ := he
   obtain ⟨hr, hn⟩ := hs.evV e2
   obtain ⟨A, hx, hl⟩ := hr
   obtain ⟨D, hD, ⟨F, rfl, hF1, hF2, hF3⟩, -⟩ := tdOf_ok hT hd
   obtain ⟨g, g1, g2, ti', g3, g4⟩ := hF2 f p e1
   have hft : g.type = ft := by
    rw [← hF3] at e5
    simpa [g1] using e5
   obtain ⟨d, hd', _, hag⟩ := (hT ft ti e3).desc
   obtain ⟨ri, hri, hrs, _⟩ := (hT ft ti e3).info
   unfold partV at e4
   have key : ∃ u, (part ft A p.1).run P w = .ok u w ∧ RV ι h v u ∧ ∀ m ∈ namesV [v], m ∈ namesV [Vl.g cs] := by
    split at e4
    ·rename_i hag'
     split at e4
     ·rename_i hle
      cases e4
      refine ⟨.agg (A.extract p.1 (p.1 + ti.size)), by simp [part, run_isAgg hd', hag, hag', run_sizeOf hri, hrs], ⟨_, rfl, ?_⟩, ?_⟩
      ·have := (hl.drop p.1).take ti.size
       have hq : (A.extract p.1 (p.1 + ti.size)).toList = (A.toList.drop p.1).take ti.size := by
        simp [List.take_drop, Nat.add_comm]
       rw [hq]
       exact this
      ·intro m hm
       simp only [namesV, Vl.cells, List.flatMap_cons, List.flatMap_nil, List.append_nil, List.mem_flatMap] at hm ⊢
       obtain ⟨x', hx', hm⟩ := hm
       exact ⟨x', List.mem_of_mem_drop (List.mem_of_mem_take hx'), hm⟩
     ·cases e4
    ·rename_i hag'
     simp only [Option.bind_eq_some_iff] at e4
     obtain ⟨x', hx', e4⟩ := e4
     cases e4
     obtain ⟨u, q1, q2⟩ := hl.2 _ x' hx'
     have q1' : A[p.1]? = some u := by simpa using q1
     refine ⟨u, by simp [part, run_isAgg hd', hag, hag', q1'], q2, ?_⟩
     intro m hm
     simp only [namesV, Vl.cells, List.flatMap_cons, List.flatMap_nil, List.append_nil, List.mem_flatMap] at hm ⊢
     exact ⟨x', List.mem_of_getElem? hx', hm⟩
   obtain ⟨u, k1, k2, k3⟩ := key
   refine .inl ⟨u, w, ?_, Nxt.valV hs he k2 fun m hm => hn m (k3 m hm)⟩
   rw [← hft, ← g2] at k1
   simp [execOp, hop, Instr.field, run_underlying hD, g1, hx, asAgg, k1]
  ·cases he
 ·cases he

theorem pl_indexAddr (hT : TyOk P c.T) (hs : Sim n w0 M0 U ι h fr mem a w) {t : TypeId} {x i : Operand} (hop : o.op = .indexAddr t x i) (he : stp c callF o fr mem nx = some e) :
  Plain P n w0 M0 U ι h fr mem a w nx o e := by
 simp only [stp, hop] at he
 split at he
 ·rename_i et ht
  simp only [Option.bind_eq_some_iff] at he
  obtain ⟨te, e1, iv, e2, y, e3, he⟩ := he
  obtain ⟨hr, hn⟩ := hs.evA e3
  obtain ⟨ki, hi⟩ := hs.evI e2
  obtain ⟨D, hD, rfl, -⟩ := tdOf_ok hT ht
  obtain ⟨ti, ht1, ht2, _⟩ := (hT et te e1).info
  have hrun : ∀ b off k c', a.eval x = .slice (some ⟨b, off, none⟩) k c' → 0 ≤ iv → iv < k → (execOp a.eval o).run P w = .ok (.value (.pointer (some ⟨b, off + iv.toNat * te.size, none⟩))) w := by
   intro b off k c' hx h1 h2
   simp [execOp, hop, Instr.indexAt, run_underlying hD, hx, hi, asIntOf, run_sizeOf ht1, ht2, h1, h2, Addr.add_mid]
  split at he
  ·rename_i es k els
   split at he
   ·rename_i hc
    simp only [Option.bind_eq_some_iff] at he
    obtain ⟨el, e4, he⟩ := he
    have hr : RP h _ _ := hr
    generalize hx : a.eval x = q at hr
    cases hr with
    | sl0 => simp at e4
    | sl _ _ b off c' es' C t' z us hb hnl hcp hl hu hr =>
     refine .inl ⟨_, w, hrun _ _ _ _ hx hc.1 hc.2.1, Nxt.valP hs he ?_⟩
     have := RP.pp (h := h) el 0 b (off + iv.toNat * te.size) C t' z (us iv.toNat) hb
      (fun j y hy => by have := hu iv.toNat el j y e4 hy; rw [hc.2.2, ← Nat.add_assoc] at this; exact this) (fun j y hy => hr iv.toNat el j y e4 hy)
     simpa using this
   ·cases he
  ·rename_i m b k
   split at he
   ·split at he
    ·rename_i hc
     obtain ⟨hc1, hc2, rfl⟩ := hc
     rcases hr with ⟨L, c', hL, hx, hcap, hkc, hmax⟩ | ⟨hL, hb, hk, hx⟩
     ·refine .inl ⟨_, w, hrun _ _ _ _ hx hc1 hc2, Nxt.valV hs he ⟨L, hL, ?_⟩ ?_⟩
      ·simp
      ·intro m' hm'
       simp [namesV, Vl.cells, At.nm] at hm'
       subst hm'
       exact hn _ (by simp [At.nm])
     ·subst hk; omega
    ·cases he
   simp only [Option.bind_eq_some_iff] at he
   obtain ⟨B, e4, he⟩ := he
   split at he
   ·rename_i hc
    cases he
    rcases hr with ⟨L, c', hL, hx, hcap, hkc, hmax⟩ | ⟨hL, hb, hk, hx⟩
    ·have h3 := (hs.hmem m B e4).esq hL
     refine .inl ⟨_, w, hrun _ _ _ _ hx hc.1 hc.2.1, Nxt.val hs ⟨L, hL, ?_⟩ ?_⟩
     ·rw [h3, hc.2.2, Nat.add_mul]; simp
     ·intro m' hm'
      simp [Sv.nms, namesV, Vl.cells, At.nm] at hm'
      subst hm'
      exact (hs.hnb _ B e4).1
    ·subst hk; have := hc.1; have := hc.2.1; omega
   ·cases he
  ·cases he
 ·cases he

theorem pl_index (hT : TyOk P c.T) (hs : Sim n w0 M0 U ι h fr mem a w) {t : TypeId} {x i : Operand} (hop : o.op = .index t x i) (he : stp c callF o fr mem nx = some e) :
  Plain P n w0 M0 U ι h fr mem a w nx o e := by
 simp only [stp, hop] at he
 split at he
 ·rename_i cs hg
  simp only [Option.bind_eq_some_iff] at he
  obtain ⟨ti, e1, iv, e3, he⟩ := he
  split at he
  ·rename_i k el hd
   simp only [Option.bind_eq_some_iff] at he
   obtain ⟨te, e4, he⟩ := he
   split at he
   ·rename_i hc
    simp only [Option.bind_eq_some_iff] at he
    obtain ⟨y, e5, he⟩ := he
    obtain ⟨hr, hn⟩ := hs.evV (gOf_ev hg)
    obtain ⟨A, hx, hl⟩ := hr
    obtain ⟨ki, hi⟩ := hs.evI e3
    obtain ⟨D, hD, hD', _⟩ := (hT t ti e1).desc
    rw [hd] at hD'
    cases hD'
    obtain ⟨d2, hd2, _, hag⟩ := (hT el te e4).desc
    obtain ⟨ri, hri, hrs, _⟩ := (hT el te e4).info
    obtain ⟨u, q1, q2⟩ := hl.2 _ y e5
    have q1' : A[iv.toNat]? = some u := by simpa using q1
    refine .inl ⟨u, w, ?_, Nxt.valV hs he q2 ?_⟩
    ·simp [execOp, hop, Instr.index, run_underlying hD, hx, hi, asIntOf, hc.2.2.1, hc.2.2.2, run_sizeOf hri, hrs, hc.1, part, run_isAgg hd2, hag, hc.2.1, q1']
    ·intro m hm
     refine hn m ?_
     simp only [namesV, Vl.cells, List.flatMap_cons, List.flatMap_nil, List.append_nil, List.mem_flatMap] at hm ⊢
     exact ⟨y, List.mem_of_getElem? e5, hm⟩
   ·cases he
  ·cases he
 simp only [Option.bind_eq_some_iff] at he
 obtain ⟨td, e1, y, e2, iv, e3, he⟩ := he
 split at he
 ·rename_i s
  obtain ⟨D, hD, rfl, -⟩ := tdOf_ok hT e1
  obtain ⟨hr, hn⟩ := hs.evA e2
  have hx := RP.str_inv hr
  obtain ⟨ki, hi⟩ := hs.evI e3
  split at he
  ·rename_i h0
   simp only [Option.bind_eq_some_iff] at he
   obtain ⟨b, e4, he⟩ := he
   refine .inl ⟨.int .u8 b.toNat, w, ?_, Nxt.valP hs he (.int _ _)⟩
   have hs' : s[iv.toNat]? = some b := by
    rw [← e4]
    rfl
   simp [execOp, hop, Instr.index, run_underlying hD, hx, hi, asIntOf, h0, hs']
  ·cases he
 ·cases he

theorem pl_extract (hs : Sim n w0 M0 U ι h fr mem a w) {x : Operand} {i : Nat} (hop : o.op = .extract x i) (he : stp c callF o fr mem nx = some e) : Plain P n w0 M0 U ι h fr mem a w nx o e := by
 simp only [stp, hop, Option.bind_eq_some_iff] at he
 obtain ⟨s, e1, he⟩ := he
 obtain ⟨hr, hn⟩ := hs.ev e1
 split at he
 ·rename_i vs
  simp only [Option.bind_eq_some_iff] at he
  obtain ⟨v, e2, he⟩ := he
  obtain ⟨T, hx, hl⟩ := hr
  obtain ⟨u, e3, e4⟩ := hl.2 i v e2
  refine .inl ⟨u, w, ?_, Nxt.valV hs he e4 ?_⟩
  ·have e3' : T[i]? = some u := by simpa using e3
   simp [execOp, hop, hx, Instr.extract, e3']
  ·intro m hm
   refine hn m ?_
   simp only [Sv.nms, namesV, List.mem_flatMap] at hm ⊢
   obtain ⟨v', hv', r⟩ := hm
   simp at hv'
   subst hv'
   exact ⟨v', List.mem_of_getElem? e2, r⟩
 ·cases he

theorem pl_len (hT : TyOk P c.T) (hs : Sim n w0 M0 U ι h fr mem a w) {args : Array Operand} {ats : Array TypeId} (hop : o.op = .call { callee := .builtin .len, args := args, argTypes := ats }) (he : stp c callF o fr mem nx = some e) :
  Plain P n w0 M0 U ι h fr mem a w nx o e := by
 simp only [stp, hop, Option.bind_eq_some_iff] at he
 obtain ⟨td, ⟨t, e1, e2⟩, y, ⟨x, e3, e4⟩, he⟩ := he
 obtain ⟨hr, hn⟩ := hs.evA e4
 obtain ⟨D, hD, hD', -⟩ := tdOf_ok hT e2
 have harg : (args.map a.eval)[0]? = some (a.eval x) := by simp [e3]
 have hrun : ∀ (k : Int), (Builtin.len_ ats o.type (args.map a.eval)).run P w = .ok (.int .i64 k) w → (execOp a.eval o).run P w = .ok (.value (.int .i64 k)) w := by
  intro k hk
  simp [execOp, hop, resolve, invoke, builtin, hk]
 split at he
 ·have hx := RP.str_inv hr
  cases hD'
  refine .inl ⟨_, w, hrun _ ?_, Nxt.valP hs he (.int _ _)⟩
  simp [Builtin.len_, e1, e3, run_underlying hD, hx, goInt]
 ·rename_i es k els
  cases hD'
  have hr : RP h _ _ := hr
  have hx : ∃ A c', a.eval x = .slice A k c' := by
   generalize a.eval x = q at hr
   cases hr <;> exact ⟨_, _, rfl⟩
  obtain ⟨A, c', hx⟩ := hx
  refine .inl ⟨_, w, hrun _ ?_, Nxt.valP hs he (.int _ _)⟩
  simp [Builtin.len_, e1, e3, run_underlying hD, hx, goInt]
 ·rename_i m lo k
  cases hD'
  have hx : ∃ A c', a.eval x = .slice A k c' := by
   rcases hr with ⟨L, c', _, hx, _⟩ | ⟨_, _, hk, hx⟩
   ·exact ⟨_, _, hx⟩
   ·subst hk; exact ⟨_, _, hx⟩
  obtain ⟨A, c', hx⟩ := hx
  refine .inl ⟨_, w, hrun _ ?_, Nxt.valP hs he (.int _ _)⟩
  simp [Builtin.len_, e1, e3, run_underlying hD, hx, goInt]
 ·cases hD'
  have hr : RP h _ _ := hr
  have hx : ∃ A c', a.eval x = .slice A 0 c' := by
   generalize a.eval x = q at hr
   cases hr
   exact ⟨_, _, rfl⟩
  obtain ⟨A, c', hx⟩ := hx
  refine .inl ⟨_, w, hrun _ ?_, Nxt.valP hs he (.int _ _)⟩
  simp [Builtin.len_, e1, e3, run_underlying hD, hx, goInt]
 ·rename_i k' e' m
  simp only [Option.bind_eq_some_iff] at he
  obtain ⟨B, e5, he⟩ := he
  cases he
  cases hD'
  obtain ⟨L, hL, hv, hL0⟩ := hr
  obtain ⟨_, _, es, r4, r5⟩ := (hs.hmem m B e5).map hL hL0
  have hlen : es.size = B.mp.length := by simpa using r5.1
  refine .inl ⟨_, w, hrun _ ?_, Nxt.val hs (.int _ _) (fun m hm => by simp [Sv.nms, namesV, Vl.cells, At.nm] at hm)⟩
  simp [Builtin.len_, e1, e3, run_underlying hD, hv, goInt, Go.MapKept.run_getObj_map r4, hlen, Result.andThen]
 ·cases he

theorem pl_min (hs : Sim n w0 M0 U ι h fr mem a w) {args : Array Operand} {ats : Array TypeId} (hop : o.op = .call { callee := .builtin .min, args := args, argTypes := ats }) (he : stp c callF o fr mem nx = some e) :
  Plain P n w0 M0 U ι h fr mem a w nx o e := by
 simp only [stp, hop, Option.bind_eq_some_iff] at he
 obtain ⟨y, ⟨x, e3, e4⟩, y', ⟨x', e3', e4'⟩, he⟩ := he
 split at he
 ·rename_i hsz
  obtain ⟨hr, hn⟩ := hs.evA e4
  obtain ⟨hr', hn'⟩ := hs.evA e4'
  have harg : args.toList = [x, x'] := by
   have h2 : args.toList.length = 2 := by simpa using hsz
   have g1 : args.toList[0]? = some x := by simpa using e3
   have g2 : args.toList[1]? = some x' := by simpa using e3'
   generalize args.toList = l at h2 g1 g2
   match l with
   | [p, q] => simp at g1 g2; rw [g1, g2]
  cases y with
  | int k p =>
   cases y' with
   | int k' q =>
    have hr : RP h (.int k p) _ := hr
    have hr' : RP h (.int k' q) _ := hr'
    have hx : a.eval x = .int k p := by
     generalize a.eval x = z at hr
     cases hr; rfl
    have hx' : a.eval x' = .int k' q := by
     generalize a.eval x' = z at hr'
     cases hr'; rfl
    refine .inl ⟨.int k (min p q), w, ?_, Nxt.valP hs he (.int _ _)⟩
    have hm : (Builtin.min_ ats o.type (args.map a.eval)).run P w = .ok (.int k (min p q)) w := by
     rw [show min p q = if q < p then q else p by omega]
     simp [Builtin.min_, harg, hx, hx', Builtin.min2]
    simp [execOp, hop, resolve, invoke, builtin, hm]
   | _ => cases he
  | _ => cases he
 ·cases he

theorem pl_max (hs : Sim n w0 M0 U ι h fr mem a w) {args : Array Operand} {ats : Array TypeId} (hop : o.op = .call { callee := .builtin .max, args := args, argTypes := ats }) (he : stp c callF o fr mem nx = some e) :
  Plain P n w0 M0 U ι h fr mem a w nx o e := by
 simp only [stp, hop, Option.bind_eq_some_iff] at he
 obtain ⟨y, ⟨x, e3, e4⟩, y', ⟨x', e3', e4'⟩, he⟩ := he
 split at he
 ·rename_i hsz
  obtain ⟨hr, hn⟩ := hs.evA e4
  obtain ⟨hr', hn'⟩ := hs.evA e4'
  have harg : args.toList = [x, x'] := by
   have h2 : args.toList.length = 2 := by simpa using hsz
   have g1 : args.toList[0]? = some x := by simpa using e3
   have g2 : args.toList[1]? = some x' := by simpa using e3'
   generalize args.toList = l at h2 g1 g2
   match l with
   | [p, q] => simp at g1 g2; rw [g1, g2]
  cases y with
  | int k p =>
   cases y' with
   | int k' q =>
    have hr : RP h (.int k p) _ := hr
    have hr' : RP h (.int k' q) _ := hr'
    have hx : a.eval x = .int k p := by
     generalize a.eval x = z at hr
     cases hr; rfl
    have hx' : a.eval x' = .int k' q := by
     generalize a.eval x' = z at hr'
     cases hr'; rfl
    refine .inl ⟨.int k (max p q), w, ?_, Nxt.valP hs he (.int _ _)⟩
    have hm : (Builtin.max_ ats o.type (args.map a.eval)).run P w = .ok (.int k (max p q)) w := by
     rw [show max p q = if q > p then q else p by omega]
     simp [Builtin.max_, harg, hx, hx', Builtin.max2]
    simp [execOp, hop, resolve, invoke, builtin, hm]
   | _ => cases he
  | _ => cases he
 ·cases he

theorem run_bounds (sl : Bool) (len cap : Nat) (lo hi : Option Value) (l k : Int) (hh : match hi with | some v => ∃ q, v = .int q k ∧ 0 ≤ k ∧ k ≤ cap | none => k = len)
  (hl : match lo with | some v => ∃ q, v = .int q l ∧ 0 ≤ l ∧ l ≤ k | none => l = 0) :
  (Instr.sliceBounds sl len cap lo hi none).run P w = .ok (l.toNat, k.toNat, cap) w := by
 have hb : ∀ (v : Value) (y : Nat) (cd : BoundsCode) (q : IntKind) (i : Int), v = .int q i → 0 ≤ i → i ≤ y → (Instr.sliceBound v y cd).run P w = .ok i.toNat w := by
  intro v y cd q i hv h0 h1
  subst hv
  simp [Instr.sliceBound, asIntOf, h0, h1]
 cases hi with
 | none =>
  simp only at hh
  subst hh
  cases lo with
  | none =>
   simp only at hl
   subst hl
   simp [Instr.sliceBounds]
  | some v =>
   obtain ⟨q, hv, h0, h1⟩ := hl
   have := hb v len (if (none : Option Value).isSome then .slice3C else .sliceB) q l hv h0 h1
   simp at this
   simp [Instr.sliceBounds, this]
 | some u =>
  obtain ⟨p, hu, g0, g1⟩ := hh
  have h2 := hb u cap (if sl then .sliceAcap else .sliceAlen) p k hu g0 g1
  cases lo with
  | none =>
   simp only at hl
   subst hl
   simp [Instr.sliceBounds, h2]
  | some v =>
   obtain ⟨q, hv, h0, h1⟩ := hl
   have := hb v k.toNat (if (none : Option Value).isSome then .slice3C else .sliceB) q l hv h0 (by omega)
   simp at this
   simp [Instr.sliceBounds, h2, this]

theorem Sim.bound (hs : Sim n w0 M0 U ι h fr mem a w) {d : Nat} {o' : Option Operand} {i : Int} (e1 : boundO fr d o' = some i) :
  match o'.map a.eval with | some v => ∃ q, v = .int q i | none => i = d := by
 cases o' with
 | none => simp [boundO] at e1; simp [e1]
 | some x =>
  obtain ⟨k, hk⟩ := hs.evI (show Am.evI fr x = some i from e1)
  exact ⟨k, hk⟩

theorem pl_slice (hT : TyOk P c.T) (hs : Sim n w0 M0 U ι h fr mem a w) {t : TypeId} {x : Operand} {lo hi mx : Option Operand} (hop : o.op = .slice t x lo hi mx) (he : stp c callF o fr mem nx = some e) :
  Plain P n w0 M0 U ι h fr mem a w nx o e := by
 simp only [stp, hop] at he
 split at he
 ·cases he
 ·rename_i hm
  have hm : mx = none := by cases mx <;> simp at hm ⊢
  subst hm
  simp only [Option.bind_eq_some_iff] at he
  obtain ⟨td, e1, y, e2, he⟩ := he
  obtain ⟨hr, hn⟩ := hs.evA e2
  obtain ⟨D, hD, hD', -⟩ := tdOf_ok hT e1
  have mkb : ∀ (len cap : Nat) (l k : Int), boundO fr 0 lo = some l → boundO fr len hi = some k → 0 ≤ l → l ≤ k → k ≤ cap → ∀ sl, (Instr.sliceBounds sl len cap (lo.map a.eval) (hi.map a.eval) none).run P w = .ok (l.toNat, k.toNat, cap) w := by
   intro len cap l k b1 b2 h0 h1 h2 sl
   have q1 := hs.bound b1
   have q2 := hs.bound b2
   refine run_bounds sl len cap _ _ l k ?_ ?_
   ·cases hx : hi.map a.eval with
    | none => rw [hx] at q2; exact q2
    | some v => rw [hx] at q2; obtain ⟨q, hq⟩ := q2; exact ⟨q, hq, by omega, h2⟩
   ·cases hx : lo.map a.eval with
    | none => rw [hx] at q1; simpa using q1
    | some v => rw [hx] at q1; obtain ⟨q, hq⟩ := q1; exact ⟨q, hq, h0, h1⟩
  split at he
  ·rename_i s
   cases hD'
   simp only [Option.bind_eq_some_iff] at he
   obtain ⟨l, b1, k, b2, he⟩ := he
   split at he
   ·rename_i hc
    have hx := RP.str_inv hr
    have hb := mkb s.size s.size l k b1 b2 hc.1 hc.2.1 hc.2.2 false
    refine .inl ⟨_, w, ?_, Nxt.valP hs he (.str _)⟩
    simp [execOp, hop, Instr.sliceAt, Instr.slice, run_underlying hD, hx, hb]
   ·cases he
  ·rename_i et es k els
   cases hD'
   simp only [Option.bind_eq_some_iff] at he
   obtain ⟨te, e3, l, b1, r, b2, he⟩ := he
   split at he
   ·rename_i hc
    obtain ⟨c1, c2, c3, c4⟩ := hc
    obtain ⟨ti, ht1, ht2, _⟩ := (hT et te e3).info
    have hr : RP h _ _ := hr
    generalize hx : a.eval x = q at hr
    have hcut : ∀ (A : Option Addr) (cap : Nat), k ≤ cap → a.eval x = .slice A k cap →
      (execOp a.eval o).run P w = .ok (.value (.slice (if cap = l.toNat then A else A.map (·.add (l.toNat * te.size))) (r.toNat - l.toNat) (cap - l.toNat))) w := by
     intro A cap hk hx
     have hb := mkb k cap l r b1 b2 c1 c2 (by omega) true
     simp [execOp, hop, Instr.sliceAt, Instr.slice, run_underlying hD, hx, hb, run_sizeOf ht1, ht2]
    cases hr with
    | sl0 _ A cap =>
     have hr0 : r.toNat - l.toNat = 0 := by omega
     refine .inl ⟨_, w, hcut A cap (Nat.zero_le _) hx, Nxt.valP hs he ?_⟩
     rw [hr0]
     simp
     exact .sl0 _ _ _
    | sl _ _ b off cap es' C t' z us hb hnl hcp hl hu hrr =>
     refine .inl ⟨_, w, hcut (some ⟨b, off, none⟩) cap hcp hx, Nxt.valP hs he ?_⟩
     by_cases h0 : r.toNat - l.toNat = 0
     ·rw [h0]; simp; exact .sl0 _ _ _
     ·rw [if_neg (by omega)]
      simp only [Option.map_some, Addr.add_mid]
      refine .sl (h := h) (r.toNat - l.toNat) ((els.drop l.toNat).take (r.toNat - l.toNat)) b (off + l.toNat * te.size) (cap - l.toNat) es C t' z (fun i j => us (l.toNat + i) j) hb (by simp; omega) (by omega) ?_ ?_ ?_
      ·intro i el hi
       rw [List.getElem?_take] at hi
       split at hi
       ·rw [List.getElem?_drop] at hi; exact hl _ el hi
       ·cases hi
      ·intro i el j y hi hj
       rw [List.getElem?_take] at hi
       split at hi
       ·rw [List.getElem?_drop] at hi
        have := hu _ el j y hi hj
        rw [← this, c4, Nat.add_mul]
        congr 1
        omega
       ·cases hi
      ·intro i el j y hi hj
       rw [List.getElem?_take] at hi
       split at hi
       ·rw [List.getElem?_drop] at hi; exact hrr _ el j y hi hj
       ·cases hi
   ·cases he
  ·rename_i et m b k
   cases hD'
   simp only [Option.bind_eq_some_iff] at he
   obtain ⟨te, e3, B, e4, l, b1, r, b2, he⟩ := he
   split at he
   ·rename_i hc
    obtain ⟨c1, c2, c3, c4, c5, c6, how⟩ := hc
    cases he
    obtain ⟨ti, ht1, ht2, _⟩ := (hT et te e3).info
    have hbk := hs.hmem m B e4
    have hun : U m := (hs.hnb m B e4).1
    rcases hr with ⟨L, cap, hL, hx, hcap, hkc, hmax⟩ | ⟨hL, hb0, hk0, hx⟩
    ·obtain ⟨C, h1, h2, h3, h4⟩ := hbk.cells hL how fun _ h0 _ => by omega
     have hlen : B.els.length ≤ b + cap := by
      rcases Nat.eq_zero_or_pos B.els.length with h0 | h0
      ·omega
      ·have hi : B.els[B.els.length - 1]? = some B.els[B.els.length - 1] := List.getElem?_eq_getElem (by omega)
       obtain ⟨q1, q2⟩ := h4 _ _ hi
       have hj : (B.els[B.els.length - 1])[B.es - 1]? = some ((B.els[B.els.length - 1])[B.es - 1]'(by rw [q1]; omega)) := List.getElem?_eq_getElem _
       obtain ⟨u, q3, _⟩ := q2 _ _ hj
       have q4 := (Array.getElem?_eq_some_iff.1 q3).1
       rw [h2, ← hcap, h3] at q4
       have q5 : B.els.length * B.es ≤ (b + cap) * B.es := by
        have : B.els.length * B.es = (B.els.length - 1) * B.es + B.es := by
         rw [← Nat.succ_mul]; congr 1; omega
        omega
       exact Nat.le_of_mul_le_mul_right q5 (by omega)
     have hb := mkb k cap l r b1 b2 c1 c2 (by omega) true
     have hrun : (execOp a.eval o).run P w = .ok (.value (.slice (some ⟨L.b, (b + l.toNat) * L.es, none⟩) (r.toNat - l.toNat) (cap - l.toNat))) w := by
      have hadd : (if cap = l.toNat then some (⟨L.b, b * L.es, none⟩ : Addr) else some ⟨L.b, b * L.es + l.toNat * te.size, none⟩) = some ⟨L.b, (b + l.toNat) * L.es, none⟩ := by
       rw [Nat.add_mul, h3, c5]
       by_cases hq : cap = l.toNat
       ·rw [if_pos hq]
        rcases c4 with c4 | c4
        ·omega
        ·have : lo = none := by cases lo <;> simp at c4 ⊢
         subst this
         simp [boundO] at b1
         subst b1
         simp
       ·rw [if_neg hq]
      simp only [execOp, hop, Instr.sliceAt, Instr.slice, run_underlying hD, hx, hb, run_sizeOf ht1, ht2, Sem.run_bind, Sem.run_pure, Result.andThen_ok, Option.map_none, Option.map_some, Addr.add_mid, hadd, bind_pure_comp, Sem.run_map]
     refine .inl ⟨_, w, hrun, Nxt.val hs (.inl ⟨L, cap - l.toNat, hL, rfl, ?_, by omega, by omega⟩) ?_⟩
     ·rw [← hcap]; congr 1; omega
     ·intro m' hm'
      simp [Sv.nms, namesV, Vl.cells, At.nm] at hm'
      subst hm'
      exact hun
    ·have hbk := hbk.els0 hL
     subst hb0
     have hk0' : k = 0 := hk0
     have : r = 0 := by rw [hbk] at c3; simp at c3; omega
     have : l = 0 := by omega
     subst this
     subst r
     have hb := mkb k 0 0 0 b1 b2 (by omega) (by omega) (by omega) true
     rw [hk0'] at hb
     refine .inl ⟨.slice none 0 0, w, ?_, Nxt.val hs (.inr ⟨hL, rfl, rfl, rfl⟩) ?_⟩
     ·simp at hb
      simp [execOp, hop, Instr.sliceAt, Instr.slice, run_underlying hD, hx, hb, run_sizeOf ht1, ht2]
     ·intro m' hm'
      simp [Sv.nms, namesV, Vl.cells, At.nm] at hm'
      subst hm'
      exact hun
   ·cases he
  ·cases he

end
end Go.Proofs.Ytgiamleohegjeaa.Am
