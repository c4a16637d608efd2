/- An abstract machine over the program's own code: a deterministic functional interpreter whose slices carry their contents and whose memory is a list of named blocks. Definitions only. -/
import Derived.Orders
import Derived.Defers
namespace Go.Proofs.Ytghdpmejgonjmaa.Am
open Go

inductive At where
  | int (k : IntKind) (n : Int)
  | bool (b : Bool)
  | str (s : ByteArray)
  | snil (es ty : Nat)
  | sl (es n : Nat) (els : List (List At))
  | nilp
  | pp (e : List At) (o : Nat)
  | ptr (m i o : Nat)
  | sm (m lo n : Nat)
  | fn (f : FuncId)
  deriving Inhabited

inductive Vl where
  | a (x : At)
  | g (cs : List At)
  deriving Inhabited
def Vl.cells : Vl → List At
  | .a x => [x]
  | .g cs => cs

inductive Sv where
  | v (x : Vl)
  | t (vs : List Vl)
  | u
  deriving Inhabited

structure Blk where
  els : List (List At)
  es : Nat
  ty : TypeId
  pr : Bool
  fz : Bool
  deriving Inhabited

abbrev Mem := List (Nat × Option Blk)
structure St where
  fr : List (Nat × Sv)
  mem : Mem
  nx : Nat
  deriving Inhabited

def lk {β : Type} : List (Nat × β) → Nat → Option β
  | [], _ => none
  | (k, v) :: r, t => if k = t then some v else lk r t
def mget (m : Mem) (n : Nat) : Option Blk :=
  match lk m n with
  | some (some b) => some b
  | _ => none

def set1 : Mem → Nat × Option Blk → Mem
  | [], p => [p]
  | q :: r, p => if q.1 = p.1 then p :: r else q :: set1 r p
def updM (m : Mem) : Mem → Mem
  | [] => m
  | p :: r => updM (set1 m p) r

def mapO {α β : Type} (f : α → Option β) : List α → Option (List β)
  | [] => some []
  | x :: r => (f x).bind fun y => (mapO f r).bind fun ys => some (y :: ys)

inductive TD where
  | int (k : IntKind) | bool | str | ptr | sl (e : Nat) | st (fs : List (Nat × Nat)) (ts : List TypeId) | arr (n e : Nat) | oth
structure TI where
  d : TD
  size : Nat
  bytes : Nat
  agg : Bool
  zero : List At

def tdOf (T : TypeId → Option TI) (t : TypeId) : Option TD := (T t).bind fun i => some i.d

inductive Kp where
  | s (t : Nat)
  | b (t : Nat)

structure Cfg where
  T : TypeId → Option TI
  F : FuncId → Option Func
  X : FuncId → Option (List Vl → Option (List Vl))
  mutA : FuncId → Bool
  ownR : FuncId → Bool
  keep : FuncId → Nat → List Kp

def At.pr : At → Bool
  | .ptr .. => false
  | .sm .. => false
  | _ => true
def At.nm : At → List Nat
  | .ptr m _ _ => [m]
  | .sm m _ _ => [m]
  | _ => []
def At.noSl : At → Bool
  | .sl .. => false
  | .pp .. => false
  | .fn .. => false
  | _ => true
def At.smn : At → List Nat
  | .sm m _ _ => [m]
  | _ => []

/-- An own slice becomes one that only reads. -/
def frzA (mem : Mem) : At → Option At
  | .sm m lo n => (mget mem m).bind fun b => if b.pr ∧ lo + n ≤ b.els.length then some (.sl b.es n ((b.els.drop lo).take n)) else none
  | .snil es _ => some (.sl es 0 [])
  | x => some x
def frzV (mem : Mem) : Vl → Option Vl
  | .a x => (frzA mem x).bind fun y => some (.a y)
  | .g cs => (mapO (frzA mem) cs).bind fun ys => some (.g ys)

def idx : List Nat → Nat → Option Nat
  | [], _ => none
  | k :: r, m => if k = m then some 0 else (idx r m).bind fun i => some (i + 1)
def renA (ρ : Nat → Option Nat) : At → Option At
  | .ptr m i o => (ρ m).bind fun m' => some (.ptr m' i o)
  | .sm m lo n => (ρ m).bind fun m' => some (.sm m' lo n)
  | x => some x
def renV (ρ : Nat → Option Nat) : Vl → Option Vl
  | .a x => (renA ρ x).bind fun y => some (.a y)
  | .g cs => (mapO (renA ρ) cs).bind fun ys => some (.g ys)
def renB (ρ : Nat → Option Nat) (b : Blk) : Option Blk :=
  if b.pr then some b else (mapO (mapO (renA ρ)) b.els).bind fun els => some { b with els := els }
def frzB (mem : Mem) (b : Blk) : Option Blk :=
  if b.pr then some b else (mapO (mapO (frzA mem)) b.els).bind fun els => some { b with els := els }

def namesV (vs : List Vl) : List Nat := vs.flatMap fun v => v.cells.flatMap At.nm
def namesB (b : Blk) : List Nat := if b.pr then [] else b.els.flatMap fun e => e.flatMap At.nm
def namesM (mem : Mem) (m : Nat) : List Nat :=
  match mget mem m with
  | some b => namesB b
  | none => []
def At.ptrs : At → List Nat
  | .ptr m _ _ => [m]
  | _ => []
def ptrsM (mem : Mem) (m : Nat) : List Nat :=
  match mget mem m with
  | some b => if b.pr then [] else b.els.flatMap fun e => e.flatMap At.ptrs
  | none => []
def smnV (vs : List Vl) : List Nat := vs.flatMap fun v => v.cells.flatMap At.smn
def smnM (mem : Mem) (m : Nat) : List Nat :=
  match mget mem m with
  | some b => if b.pr then [] else b.els.flatMap fun e => e.flatMap At.smn
  | none => []
def clo (ns : Nat → List Nat) : Nat → List Nat → List Nat → List Nat
  | 0, _, acc => acc
  | _ + 1, [], acc => acc
  | k + 1, m :: ms, acc => if acc.contains m then clo ns k ms acc else clo ns k (ms ++ ns m) (acc ++ [m])

def cnt {α : Type} : Nat → List α → List Nat
  | _, [] => []
  | n, _ :: r => n :: cnt (n + 1) r

structure Eff where
  v : Sv
  upd : Mem
  nn : Nat
  rd : List Nat

def constA : Value → Option At
  | .int k n => some (.int k n)
  | .bool b => some (.bool b)
  | .string s => some (.str s)
  | .slice none 0 0 => some (.snil 0 0)
  | .pointer none => some .nilp
  | _ => none
def ev (fr : List (Nat × Sv)) : Operand → Option Sv
  | .tmp t => lk fr t
  | .const v => (constA v).bind fun x => some (.v (.a x))
  | .func f => some (.v (.a (.fn f)))
  | .global _ => none
def svA : Sv → Option At
  | .v (.a x) => some x
  | _ => none
def svV : Sv → Option Vl
  | .v x => some x
  | _ => none
def evA (fr : List (Nat × Sv)) (o : Operand) : Option At := (ev fr o).bind svA
def asB : At → Option Bool
  | .bool b => some b
  | _ => none
def asI : At → Option Int
  | .int _ i => some i
  | _ => none
def evB (fr : List (Nat × Sv)) (o : Operand) : Option Bool := (evA fr o).bind asB
def evI (fr : List (Nat × Sv)) (o : Operand) : Option Int := (evA fr o).bind asI
def evV (fr : List (Nat × Sv)) (o : Operand) : Option Vl := (ev fr o).bind svV

def binI (op : BinOp) (k : IntKind) (x y : Int) : Option At :=
  match op with
  | .add => some (.int k (k.wrap (x + y)))
  | .sub => some (.int k (k.wrap (x - y)))
  | .mul => some (.int k (k.wrap (x * y)))
  | .quo => if y = 0 then none else some (.int k (k.wrap (x.tdiv y)))
  | .rem => if y = 0 then none else some (.int k (x.tmod y))
  | .eql => some (.bool (x == y))
  | .neq => some (.bool (x != y))
  | .lss => some (.bool (decide (x < y)))
  | .leq => some (.bool (decide (x ≤ y)))
  | .gtr => some (.bool (decide (x > y)))
  | .geq => some (.bool (decide (x ≥ y)))
  | .and => some (.int k (k.wrap ((BitVec.ofInt k.bits x &&& BitVec.ofInt k.bits y).toNat : Int)))
  | .or => some (.int k (k.wrap ((BitVec.ofInt k.bits x ||| BitVec.ofInt k.bits y).toNat : Int)))
  | .xor => some (.int k (k.wrap ((BitVec.ofInt k.bits x ^^^ BitVec.ofInt k.bits y).toNat : Int)))
  | _ => none
def binA (T : TypeId → Option TI) (op : BinOp) (ty : TypeId) : At → At → Option At
  | .int k x, .int k' y =>
    match op with
    | .shl => if y < 0 then none else some (.int k (k.wrap (x * 2 ^ (min y.toNat k.bits))))
    | .shr => if y < 0 then none else some (.int k (x.fdiv (2 ^ (min y.toNat k.bits))))
    | _ => if k = k' then binI op k x y else none
  | .str x, .str y =>
    match op with
    | .add => if ((x.size + y.size : Nat) : Int) > IntKind.i64.max then none else some (.str (x ++ y))
    | .eql => some (.bool (x.data.toList == y.data.toList))
    | .neq => some (.bool (!(x.data.toList == y.data.toList)))
    | _ => none
  | .bool x, .bool y =>
    match tdOf T ty, op with
    | some .bool, .eql => some (.bool (x == y))
    | some .bool, .neq => some (.bool (!(x == y)))
    | _, _ => none
  | x, y =>
    match tdOf T ty with
    | some .ptr =>
      let r : Option Bool := match x, y with
        | .nilp, .nilp => some true
        | .nilp, .ptr .. => some false
        | .nilp, .pp .. => some false
        | .ptr .., .nilp => some false
        | .pp .., .nilp => some false
        | _, _ => none
      match op with
      | .eql => r.bind fun b => some (.bool b)
      | .neq => r.bind fun b => some (.bool (!b))
      | _ => none
    | _ => none
def unA (op : UnOp) : At → Option At
  | .int k n => match op with
    | .neg => some (.int k (k.wrap (0 - n)))
    | _ => none
  | .bool b => match op with
    | .not => some (.bool (!b))
    | _ => none
  | _ => none
def convA (T : TypeId → Option TI) (src dst : TypeId) : At → Option At
  | .int _ n => match tdOf T src, tdOf T dst with
    | some (.int _), some (.int k) => some (.int k (k.wrap n))
    | _, _ => none
  | .str s => match tdOf T src, tdOf T dst with
    | some .str, some .str => some (.str s)
    | some .str, some (.sl e) => match tdOf T e with
      | some (.int .u8) => some (.sl 1 s.size (s.data.toList.map fun b => [.int .u8 b.toNat]))
      | _ => none
    | _, _ => none
  | _ => none

/-- `cs` with the cells `xs` from place o on. -/
def putAt (cs : List At) (o : Nat) (xs : List At) : List At := cs.take o ++ xs ++ cs.drop (o + xs.length)

def partV (ti : TI) (e : List At) (o : Nat) : Option Vl :=
  if ti.agg then (if o + ti.size ≤ e.length then some (.g ((e.drop o).take ti.size)) else none)
  else (e[o]?).bind fun x => some (.a x)

def fillV (ds : List (Nat × Nat)) : List At → List (Nat × Vl) → Option (List At)
  | cs, [] => some cs
  | cs, (i, v) :: r =>
    (ds[i]?).bind fun p => if v.cells.length = p.2 ∧ p.1 + p.2 ≤ cs.length then fillV ds (putAt cs p.1 v.cells) r else none
def fillE (es : Nat) : List (List At) → List (Nat × Vl) → Option (List (List At))
  | cs, [] => some cs
  | cs, (i, v) :: r => if v.cells.length = es ∧ i < cs.length then fillE es (cs.set i v.cells) r else none

/-- A slice's elements (of the size es), whether they name no block, and which blocks were looked at. -/
def elsOf (mem : Mem) (es : Nat) : At → Option (Nat × List (List At) × Bool × List Nat)
  | .sl es' n els => if es' = es then some (n, els, true, []) else none
  | .snil .. => some (0, [], true, [])
  | .sm m lo n => (mget mem m).bind fun b => if b.es = es ∧ lo + n ≤ b.els.length then some (n, (b.els.drop lo).take n, b.pr, [m]) else none
  | _ => none

def one (v : Vl) : Eff → Eff := fun e => { e with v := .v v }

def boundO (fr : List (Nat × Sv)) (d : Nat) : Option Operand → Option Int
  | none => some d
  | some o => evI fr o

section
variable (c : Cfg) (callF : FuncId → List Vl → List Blk → Option (List Vl × List Blk))

def fzUpd (mem : Mem) : List Nat → Mem
  | [] => []
  | m :: r => (match mget mem m with | some b => (m, some { els := b.els, es := b.es, ty := b.ty, pr := b.pr, fz := true }) :: fzUpd mem r | none => fzUpd mem r)
def zipU : List Nat → List Blk → Mem
  | n :: r, b :: s => (n, some b) :: zipU r s
  | _, _ => []

def resV : List Vl → Sv
  | [x] => .v x
  | xs => .t xs

def stpCall (f : FuncId) (args : List Vl) (mem : Mem) (nx : Nat) : Option Eff :=
  (if c.mutA f then some args else mapO (frzV mem) args).bind fun vals =>
  let N := clo (fun m => if c.mutA f then namesM mem m else ptrsM mem m) 64 (namesV vals) []
  let F := if c.mutA f then [] else smnV args ++ N.flatMap (smnM mem)
  let mem1 := updM mem (fzUpd mem F)
  (mapO (fun m => (mget mem1 m).bind fun b => (if c.mutA f then some b else frzB mem b).bind (renB (idx N))) N).bind fun blks =>
  (mapO (renV (idx N)) vals).bind fun vals' =>
  (callF f vals' blks).bind fun r =>
  let NL := N ++ cnt nx (r.2.drop N.length)
  (mapO (renV (fun i => NL[i]?)) r.1).bind fun rs =>
  (mapO (renB (fun i => NL[i]?)) r.2).bind fun bs =>
  some { v := resV rs, upd := (if r.2.isEmpty && r.1.all (fun v => v.cells.all At.noSl) then [] else fzUpd mem F) ++ zipU NL bs, nn := nx + (r.2.length - N.length), rd := N ++ F }

def stpAppend (t : TypeId) (s x : At) (mem : Mem) (nx : Nat) : Option Eff :=
  match tdOf c.T t with
  | some (.sl e) => (c.T e).bind fun te =>
    (elsOf mem te.size x).bind fun src =>
    (match s with
      | .snil .. => some (([] : List (List At)), 0, true, ([] : List Nat))
      | .sm m lo n => (mget mem m).bind fun b => if lo = 0 ∧ b.es = te.size ∧ b.ty = e ∧ n ≤ b.els.length ∧ !b.fz then some (b.els.take n, n, b.pr, [m]) else none
      | _ => none).bind fun base =>
    if (base.2.1 + src.1) * te.bytes ≤ 140737488355328 ∧ 0 < te.size ∧ 0 < te.bytes ∧ te.zero.length = te.size then
      some { v := .v (.a (.sm nx 0 (base.2.1 + src.1))),
             upd := base.2.2.2.map (fun m => (m, none)) ++ [(nx, some (Blk.mk (base.1 ++ src.2.1) te.size e (base.2.2.1 && src.2.2.1) false))],
             nn := nx + 1, rd := base.2.2.2 ++ src.2.2.2 }
    else none
  | _ => none

def byteEls : List (List At) → Option (List UInt8)
  | [] => some []
  | [.int .u8 n] :: r => (byteEls r).bind fun xs => some (n.toNat.toUInt8 :: xs)
  | _ => none
def val (v : Vl) (nx : Nat) : Option Eff := some { v := .v v, upd := [], nn := nx, rd := [] }
def valA (x : Option At) (nx : Nat) : Option Eff := x.bind fun x => val (.a x) nx

def stp (o : Oper) (fr : List (Nat × Sv)) (mem : Mem) (nx : Nat) : Option Eff :=
  match o.op with
  | .move x | .assign x =>
    (ev fr x).bind fun v =>
    match v with
    | .v (.a (.snil ..)) => match tdOf c.T o.type with
      | some (.sl e) => (c.T e).bind fun te => val (.a (.snil te.size e)) nx
      | _ => none
    | .u => none
    | v => some { v := v, upd := [], nn := nx, rd := [] }
  | .pick k a b =>
    (evB fr k).bind fun t => if t then (evA fr a).bind (fun x => val (.a x) nx) else (evA fr b).bind fun x => val (.a x) nx
  | .alloc t => (c.T t).bind fun ti =>
    if ti.zero.length ≠ ti.size then none else some { v := .v (.a (.ptr nx 0 0)), upd := [(nx, some { els := [ti.zero], es := ti.size, ty := t, pr := true, fz := false })], nn := nx + 1, rd := [] }
  | .box t x => (c.T t).bind fun ti => (evV fr x).bind fun v =>
    if v.cells.length = ti.size then
    some { v := .v (.a (.ptr nx 0 0)), upd := [(nx, some { els := [v.cells], es := ti.size, ty := t, pr := v.cells.all At.pr, fz := false })], nn := nx + 1, rd := [] } else none
  | .build t parts => (c.T t).bind fun ti =>
    match ti.d with
    | .st fs _ => if ti.zero.length ≠ ti.size then none else (mapO (fun p : Nat × Operand => (evV fr p.2).bind fun v => some (p.1, v)) parts.toList).bind fun ps =>
      (fillV fs ti.zero ps).bind fun cs => val (.g cs) nx
    | _ => none
  | .buildSlice t len parts =>
    match tdOf c.T t with
    | some (.sl e) => (c.T e).bind fun te =>
      (mapO (fun p : Nat × Operand => (evV fr p.2).bind fun v => some (p.1, v)) parts.toList).bind fun ps =>
      (fillE te.size (List.replicate len te.zero) ps).bind fun els =>
      if len * te.size ≤ 16777216 ∧ 0 < te.size ∧ len < 9223372036854775807 ∧ te.zero.length = te.size then
      some { v := .v (.a (.sm nx 0 len)), upd := [(nx, some { els := els, es := te.size, ty := e, pr := els.all fun e => e.all At.pr, fz := false })], nn := nx + 1, rd := [] }
      else none
    | _ => none
  | .load t x => (c.T t).bind fun ti => (evA fr x).bind fun a =>
    match a with
    | .ptr m i o => (mget mem m).bind fun b => (b.els[i]?).bind fun e => (partV ti e o).bind fun v => some { v := .v v, upd := [], nn := nx, rd := [m] }
    | .pp e o => (partV ti e o).bind fun v => val v nx
    | _ => none
  | .store t x y => (c.T t).bind fun ti => (evV fr y).bind fun v => (evA fr x).bind fun a =>
    match a with
    | .ptr m i o => (mget mem m).bind fun b => (b.els[i]?).bind fun e =>
      if v.cells.length = ti.size ∧ o + ti.size ≤ e.length ∧ !b.fz then
        some { v := .u, upd := [(m, some { b with els := b.els.set i (putAt e o v.cells), pr := b.pr && v.cells.all At.pr })], nn := nx, rd := [m] }
      else none
    | _ => none
  | .nilCheck x => (evA fr x).bind fun a =>
    match a with
    | .ptr m i o => val (.a (.ptr m i o)) nx
    | .pp e o => val (.a (.pp e o)) nx
    | _ => none
  | .binOp op ty x y _ => (evA fr x).bind fun a => (evA fr y).bind fun b => valA (binA c.T op ty a b) nx
  | .unOp op _ x => (evA fr x).bind fun a => valA (unA op a) nx
  | .convert src dst x => (evA fr x).bind fun a =>
    match tdOf c.T src, tdOf c.T dst with
    | some (.sl e), some .str => match tdOf c.T e with
      | some (.int .u8) => (elsOf mem 1 a).bind fun q => (byteEls q.2.1).bind fun bs =>
        some { v := .v (.a (.str ⟨bs.toArray⟩)), upd := [], nn := nx, rd := q.2.2.2 }
      | _ => none
    | _, _ => valA (convA c.T src dst a) nx
  | .makeSlice t l k =>
    match tdOf c.T t with
    | some (.sl e) => (c.T e).bind fun te =>
      (evI fr l).bind fun l => (evI fr k).bind fun k =>
        if 0 ≤ l ∧ l ≤ k ∧ k * te.bytes ≤ 140737488355328 ∧ 0 < te.size ∧ 0 < te.bytes ∧ te.zero.length = te.size then
          some { v := .v (.a (.sm nx 0 l.toNat)), upd := [(nx, some { els := List.replicate k.toNat te.zero, es := te.size, ty := e, pr := true, fz := false })], nn := nx + 1, rd := [] }
        else none
    | _ => none
  | .slice t x lo hi mx =>
    if mx.isSome then none else
    (tdOf c.T t).bind fun td => (evA fr x).bind fun a =>
    match td, a with
    | .str, .str s =>
      (boundO fr 0 lo).bind fun l => (boundO fr s.size hi).bind fun h =>
      if 0 ≤ l ∧ l ≤ h ∧ h ≤ s.size then val (.a (.str (s.extract l.toNat h.toNat))) nx else none
    | .sl e, .sl es n els => (c.T e).bind fun te =>
      (boundO fr 0 lo).bind fun l => (boundO fr n hi).bind fun h =>
      if 0 ≤ l ∧ l ≤ h ∧ h ≤ n ∧ es = te.size then val (.a (.sl es (h.toNat - l.toNat) ((els.drop l.toNat).take (h.toNat - l.toNat)))) nx else none
    | .sl e, .sm m b n => (c.T e).bind fun te =>
      (mget mem m).bind fun B =>
      (boundO fr 0 lo).bind fun l => (boundO fr n hi).bind fun h =>
      if 0 ≤ l ∧ l ≤ h ∧ b + h.toNat ≤ B.els.length ∧ (l < h ∨ lo.isNone) ∧ B.es = te.size ∧ 0 < te.size then some { v := .v (.a (.sm m (b + l.toNat) (h.toNat - l.toNat))), upd := [], nn := nx, rd := [m] } else none
    | _, _ => none
  | .fieldAddr s x f =>
    match tdOf c.T s with
    | some (.st fs _) => (fs[f]?).bind fun p =>
      if p.2 = 0 then none else (evA fr x).bind fun a =>
      match a with
      | .ptr m i o => val (.a (.ptr m i (o + p.1))) nx
      | .pp e o => val (.a (.pp e (o + p.1))) nx
      | _ => none
    | _ => none
  | .field s x f =>
    match tdOf c.T s with
    | some (.st fs ts) => (fs[f]?).bind fun p => (ts[f]?).bind fun ft => (evV fr x).bind fun v =>
      match v with
      | .g cs => (c.T ft).bind fun ti => (partV ti cs p.1).bind fun v => val v nx
      | _ => none
    | _ => none
  | .indexAddr t x i =>
    match tdOf c.T t with
    | some (.sl e) => (c.T e).bind fun te => (evI fr i).bind fun i => (evA fr x).bind fun a =>
      match a with
      | .sl es n els => if 0 ≤ i ∧ i < n ∧ es = te.size then (els[i.toNat]?).bind fun el => val (.a (.pp el 0)) nx else none
      | .sm m b n => (mget mem m).bind fun B => if 0 ≤ i ∧ i < n ∧ B.es = te.size then some { v := .v (.a (.ptr m (b + i.toNat) 0)), upd := [], nn := nx, rd := [m] } else none
      | _ => none
    | _ => none
  | .index t x i =>
    (tdOf c.T t).bind fun td => (evA fr x).bind fun a => (evI fr i).bind fun i =>
    match td, a with
    | .str, .str s =>
      if 0 ≤ i then (s.data[i.toNat]?).bind fun b => val (.a (.int .u8 b.toNat)) nx else none
    | _, _ => none
  | .extract x i => (ev fr x).bind fun v =>
    match v with
    | .t vs => (vs[i]?).bind fun v => val v nx
    | _ => none
  | .call k =>
    match k.callee with
    | .builtin .len =>
      ((k.argTypes[0]?).bind fun t => tdOf c.T t).bind fun td => ((k.args[0]?).bind fun o => evA fr o).bind fun a =>
      match td, a with
      | .str, .str s => val (.a (.int .i64 s.size)) nx
      | .sl _, .sl _ n _ => val (.a (.int .i64 n)) nx
      | .sl _, .sm _ _ n => val (.a (.int .i64 n)) nx
      | .sl _, .snil .. => val (.a (.int .i64 0)) nx
      | _, _ => none
    | .builtin .append =>
      (k.argTypes[0]?).bind fun t => (k.argTypes[1]?).bind fun t' => ((k.args[0]?).bind fun o => evA fr o).bind fun s => ((k.args[1]?).bind fun o => evA fr o).bind fun x =>
      if t' = t then stpAppend c t s x mem nx else none
    | .builtin _ => none
    | .value f =>
      (evA fr f).bind fun a => match a with
      | .fn g => (mapO (evV fr) k.args.toList).bind fun args => stpCall c callF g args mem nx
      | _ => none
    | .invoke .. => none
  | _ => none

def putD (nt : Nat) (fr : List (Nat × Sv)) : Option Nat → Sv → Option (List (Nat × Sv))
  | some d, v => if d < nt then some ((d, v) :: fr) else none
  | none, _ => some fr

/-- Is the operation wanted? -/
def wantO (ops : List Oper) (o : Oper) (fr : List (Nat × Sv)) : Option Bool :=
  match o.guard with
  | none => some true
  | some (j, want) =>
    ((ops[j]?).bind (·.dst)).bind fun d =>
    (lk fr d).bind fun v =>
    match v with
    | .v (.a (.bool b)) => some (b == want)
    | _ => some false

structure Info where
  rd : List Nat
  wr : List Nat

/-- One operation behind the other; what is to be done next is no open function, so that nothing is looked at before its time. -/
def putK (F : St → List Info → Option (St × List Info)) (mem : Mem) (nx : Nat) (i : Info) (is : List Info) : Option (List (Nat × Sv)) → Option (St × List Info)
  | none => none
  | some fr => F { fr := fr, mem := mem, nx := nx } (i :: is)
def didK (F : St → List Info → Option (St × List Info)) (nt : Nat) (o : Oper) (σ : St) (is : List Info) : Option Eff → Option (St × List Info)
  | none => none
  | some e => putK F (updM σ.mem e.upd) e.nn { rd := e.rd, wr := e.upd.map (·.1) } is (putD nt σ.fr o.dst e.v)
def wantK (F : St → List Info → Option (St × List Info)) (nt : Nat) (o : Oper) (σ : St) (is : List Info) : Option Bool → Option (St × List Info)
  | none => none
  | some true => didK F nt o σ is (stp c callF o σ.fr σ.mem σ.nx)
  | some false => putK F σ.mem σ.nx { rd := [], wr := [] } is (putD nt σ.fr o.dst .u)
def runOps (nt : Nat) (ops : List Oper) : List Oper → St → List Info → Option (St × List Info)
  | [], σ, is => some (σ, is)
  | o :: r, σ, is => wantK c callF (runOps nt ops r) nt o σ is (wantO ops o σ.fr)
end

/-- Each operation's ancestors, as bits. -/
def ancs (ops : List Oper) : List Nat :=
  ops.foldl (fun acc o => acc ++ [(o.after.toList.filter (Region.binds .any)).foldl (fun m e => m ||| 2 ^ e.on ||| acc.getD e.on 0) 0]) []
def slotsOf (ops : List Oper) (o : Oper) : List Nat :=
  (o.op.operands.toList.filterMap fun | .tmp t => some t | _ => none) ++
  (match o.guard with | some (j, _) => ((ops[j]?).bind (·.dst)).toList | none => [])
def meets (xs ys : List Nat) : Bool := xs.any ys.contains
def clash (ops : List Oper) (o p : Oper) (i j : Info) : Bool :=
  (match o.dst with | some d => (slotsOf ops p).contains d || p.dst == some d | none => false) ||
  (match p.dst with | some d => (slotsOf ops o).contains d | none => false) ||
  meets i.wr j.rd || meets i.wr j.wr || meets i.rd j.wr
def okPairs (ops : List Oper) (an : List Nat) (is : List Info) : Bool :=
  (List.range ops.length).all fun j => (List.range j).all fun i =>
    match ops[i]?, ops[j]?, is[i]?, is[j]? with
    | some o, some p, some a, some b => !(clash ops o p a b) || (an.getD j 0).testBit i
    | _, _, _, _ => false
def okDraw (ops : List Oper) (is : List Info) : Bool :=
  is.length == ops.length && okPairs ops (ancs ops) is &&
  ops.zipIdx.all (fun p => p.1.after.all fun e => !(Region.binds .any e) || decide (e.on < p.2))

inductive Out where
  | norm (σ : St)
  | exit (id : Nat) (σ : St)
  | ret (σ : St)

/-- What a loop's head keeps; own slices for nil ones; names anew: first those that came in. -/
def ownA (nx : Nat) : At → At × Mem × Nat
  | .snil es ty => (.sm nx 0 0, [(nx, some { els := [], es := es, ty := ty, pr := true, fz := false })], nx + 1)
  | x => (x, [], nx)
def ownL : Nat → List At → List At × Mem × Nat
  | nx, [] => ([], [], nx)
  | nx, x :: r => let p := ownA nx x; let q := ownL p.2.2 r; (p.1 :: q.1, p.2.1 ++ q.2.1, q.2.2)
def keepL (σ : St) : List Kp → Option (List (Nat × Sv) × Mem × Nat)
  | [] => some ([], [], σ.nx)
  | .s t :: r => (keepL σ r).bind fun q =>
    match lk σ.fr t with
    | some (.v (.a x)) => let p := ownA q.2.2 x; some ((t, .v (.a p.1)) :: q.1, q.2.1 ++ p.2.1, p.2.2)
    | some (.v (.g cs)) => let p := ownL q.2.2 cs; some ((t, .v (.g p.1)) :: q.1, q.2.1 ++ p.2.1, p.2.2)
    | _ => none
  | .b t :: r => (keepL σ r).bind fun q =>
    match lk σ.fr t with
    | some (.v (.a (.ptr m 0 o))) => (mget (updM σ.mem q.2.1) m).bind fun b =>
      match b.els with
      | [e] => let p := ownL q.2.2 e
        some ((t, .v (.a (.ptr m 0 o))) :: q.1, q.2.1 ++ (p.2.1 ++ [(m, some { b with els := [p.1], pr := p.1.all At.pr })]), p.2.2)
      | _ => none
    | _ => none
def renS (ρ : Nat → Option Nat) : List (Nat × Sv) → Option (List (Nat × Sv))
  | [] => some []
  | (t, .v x) :: r => (renV ρ x).bind fun y => (renS ρ r).bind fun s => some ((t, .v y) :: s)
  | _ => none
def headN (p : Nat) (ks : List Kp) (σ : St) : Option St :=
  (keepL σ ks).bind fun q =>
  let mem := updM σ.mem q.2.1
  let N := clo (namesM mem) 64 (List.range p ++ namesV (q.1.filterMap fun s => match s.2 with | .v x => some x | _ => none)) []
  (renS (idx N) q.1).bind fun fr =>
  (mapO (fun m => (mget mem m).bind (renB (idx N))) N).bind fun bs =>
  if N.take p = List.range p then some { fr := fr, mem := zipU (List.range N.length) bs, nx := N.length } else none

def seqK (F : St → Option Out) : Option Out → Option Out
  | none => none
  | some (.norm σ) => F σ
  | some (.exit i σ) => some (.exit i σ)
  | some (.ret σ) => some (.ret σ)
def blkK (id : Nat) : Option Out → Option Out
  | none => none
  | some (.norm σ) => some (.norm σ)
  | some (.exit i σ) => if i = id then some (.norm σ) else some (.exit i σ)
  | some (.ret σ) => some (.ret σ)
def cndK (F G : St → Option Out) (σ : St) : Option Bool → Option Out
  | none => none
  | some true => F σ
  | some false => G σ
def regK (draw : Bool) (ops : List Oper) : Option (St × List Info) → Option Out
  | none => none
  | some r => if draw && !(okDraw ops r.2.reverse) then none else some (.norm r.1)
def hdK (body : St → Option Out) : Option St → Option Out
  | none => none
  | some σ => body σ
def loopN (hd : St → Option St) (body : St → Option Out) : Nat → St → Option Out
  | 0, _ => none
  | n + 1, σ => seqK (loopN hd body n) (hdK body (hd σ))

def runC (c : Cfg) (callF : FuncId → List Vl → List Blk → Option (List Vl × List Blk)) (kp : Nat → List Kp) (nt k p : Nat) : Nat → Code → St → Option Out
  | _, .skip, σ => some (.norm σ)
  | _, .region _ ops draw, σ => regK draw ops.toList (runOps c callF nt ops.toList ops.toList σ [])
  | b, .seq x y, σ => seqK (runC c callF kp nt k p b y) (runC c callF kp nt k p b x σ)
  | b, .cond o x y, σ => cndK (runC c callF kp nt k p b x) (runC c callF kp nt k p b y) σ (evB σ.fr o)
  | _, .block id x, σ => blkK id (runC c callF kp nt k p id x σ)
  | b, .loop x, σ => loopN (headN p (kp b)) (runC c callF kp nt k p b x) k σ
  | _, .exit id, σ => some (.exit id σ)
  | _, .ret, σ => some (.ret σ)
  | _, .rangeFunc .., _ => none
  | _, .scope _, _ => none
  | _, .label _, _ => none
  | _, .goto _, _ => none
  | _, .refuse _, _ => none

def enum {β : Type} : Nat → List β → List (Nat × β)
  | _, [] => []
  | n, x :: r => (n, x) :: enum (n + 1) r

def resOf (c : Cfg) (σ : St) : ResultVar → Option Vl
  | .tmp t => evV σ.fr (.tmp t)
  | .cell a t => (c.T t).bind fun ti =>
    (evA σ.fr (.tmp a)).bind fun x => match x with
    | .ptr m i o => (mget σ.mem m).bind fun b => (b.els[i]?).bind fun e => partV ti e o
    | _ => none
def ownVs : Nat → List Vl → List Vl × Mem × Nat
  | nx, [] => ([], [], nx)
  | nx, .a x :: r => let p := ownA nx x; let q := ownVs p.2.2 r; (.a p.1 :: q.1, p.2.1 ++ q.2.1, q.2.2)
  | nx, .g cs :: r => let p := ownL nx cs; let q := ownVs p.2.2 r; (.g p.1 :: q.1, p.2.1 ++ q.2.1, q.2.2)

def finish (c : Cfg) (f : FuncId) (fn : Func) (p : Nat) (σ : St) : Option (List Vl × List Blk) :=
  (mapO (resOf c σ) fn.results.toList).bind fun rs0 =>
  let q := if c.ownR f then ownVs σ.nx rs0 else (rs0, [], σ.nx)
  let mem := updM σ.mem q.2.1
  (if c.ownR f then some q.1 else mapO (frzV mem) rs0).bind fun rs =>
  let N := clo (fun m => if c.mutA f then namesM mem m else ptrsM mem m) 64 (List.range p ++ namesV rs) []
  let F := (if c.ownR f then [] else smnV rs0) ++ (if c.mutA f then [] else N.flatMap (smnM mem))
  let mem1 := updM mem (fzUpd mem F)
  (mapO (renV (idx N)) rs).bind fun rs' =>
  (mapO (fun m => (mget mem1 m).bind fun b => (if c.mutA f then some b else frzB mem b).bind (renB (idx N))) N).bind fun bs =>
  if N.take p = List.range p then some (rs', bs) else none

def finK (c : Cfg) (f : FuncId) (fn : Func) (p : Nat) : Option Out → Option (List Vl × List Blk)
  | none => none
  | some (.norm σ) => finish c f fn p σ
  | some (.ret σ) => finish c f fn p σ
  | some (.exit ..) => none
def bodyK (c : Cfg) (callF : FuncId → List Vl → List Blk → Option (List Vl × List Blk)) (k : Nat) (f : FuncId) (args : List Vl) (blks : List Blk) (fn : Func) : Option Code → Option (List Vl × List Blk)
  | none => none
  | some body =>
    if args.length = fn.params.size ∧ args.length ≤ fn.ntmps then
      finK c f fn blks.length (runC c callF (c.keep f) fn.ntmps k blks.length 0 body { fr := enum 0 (args.map Sv.v), mem := enum 0 (blks.map some), nx := blks.length })
    else none
def call (c : Cfg) : Nat → FuncId → List Vl → List Blk → Option (List Vl × List Blk)
  | 0, _, _, _ => none
  | k + 1, f, args, blks =>
    match c.X f with
    | some g => if blks.isEmpty then (g args).bind fun rs => some (rs, []) else none
    | none => (c.F f).bind fun fn => bodyK c (call c k) k f args blks fn fn.body

end Go.Proofs.Ytghdpmejgonjmaa.Am
