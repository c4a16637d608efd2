/- The typed machine: the abstract machine's rules over typed words, each step handing on to what is to be done next. Definitions. -/
import Derived.Test.YtghdpmejgonjmaaAmDefs
namespace Go.Proofs.Ytghdpmejgonjmaa.Am
open Go

/-- What a word's type is. -/
inductive Cd
  | int (k : IntKind) | bool | str | sl (c : Cd) | pr (a b : Cd)
  deriving DecidableEq
@[reducible] def Cd.D : Cd → Type
  | .int _ => Int
  | .bool => Bool
  | .str => ByteArray
  | .sl c => List c.D
  | .pr a b => a.D × b.D
def Cd.sz : Cd → Nat
  | .pr a b => a.sz + b.sz
  | _ => 1
def Cd.at : (c : Cd) → c.D → List At
  | .int k, x => [.int k x]
  | .bool, b => [.bool b]
  | .str, s => [.str s]
  | .sl c, l => [.sl c.sz l.length (l.map c.at)]
  | .pr a b, x => a.at x.1 ++ b.at x.2

inductive A2
  | int (k : IntKind) (n : Int)
  | bool (b : Bool)
  | str (s : ByteArray)
  | snil (es ty : Nat)
  | sl (c : Cd) (l : List c.D)
  | nilp
  | pe (c : Cd) (x : c.D) (o : Nat)
  | ptr (m i o : Nat)
  | sm (m lo n : Nat)
  | fn (f : FuncId)
def A2.at : A2 → At
  | .int k n => .int k n
  | .bool b => .bool b
  | .str s => .str s
  | .snil es ty => .snil es ty
  | .sl c l => .sl c.sz l.length (l.map c.at)
  | .nilp => .nilp
  | .pe c x o => .pp (c.at x) o
  | .ptr m i o => .ptr m i o
  | .sm m lo n => .sm m lo n
  | .fn f => .fn f
def Cd.cl : (c : Cd) → c.D → List A2
  | .int k, x => [.int k x]
  | .bool, b => [.bool b]
  | .str, s => [.str s]
  | .sl c, l => [.sl c l]
  | .pr a b, x => a.cl x.1 ++ b.cl x.2
def castL (a b : Cd) (l : List a.D) : Option (List b.D) := if h : a = b then some (h ▸ l) else none
/-- The first cells read as a word of the type; what is left. -/
def Cd.de : (c : Cd) → List A2 → Option (c.D × List A2)
  | .int k, .int k' n :: r => if k' = k then some (n, r) else none
  | .bool, .bool b :: r => some (b, r)
  | .str, .str s :: r => some (s, r)
  | .sl c, .sl c' l :: r => (castL c' c l).bind fun l => some (l, r)
  | .pr a b, cs => (a.de cs).bind fun p => (b.de p.2).bind fun q => some ((p.1, q.1), q.2)
  | _, _ => none
def Cd.dec (c : Cd) (cs : List A2) : Option c.D := (c.de cs).bind fun p => match p.2 with
  | [] => some p.1
  | _ => none
/-- The type of what lies in the cells. -/
def A2.cd : A2 → Option Cd
  | .int k _ => some (.int k)
  | .bool _ => some .bool
  | .str _ => some .str
  | .sl c _ => some (.sl c)
  | _ => none

inductive V2
  | a (x : A2)
  | g (cs : List A2)
def V2.at : V2 → Vl
  | .a x => .a x.at
  | .g cs => .g (cs.map A2.at)
def V2.cells : V2 → List A2
  | .a x => [x]
  | .g cs => cs
inductive Sv2
  | v (x : V2)
  | t (vs : List V2)
  | u
def Sv2.at : Sv2 → Sv
  | .v x => .v x.at
  | .t vs => .t (vs.map V2.at)
  | .u => .u
inductive Bd
  | arr (c : Cd) (l : List c.D)
  | raw (els : List (List A2))
def Bd.rows : Bd → List (List At)
  | .arr c l => l.map c.at
  | .raw els => els.map fun e => e.map A2.at
structure Blk2 where
  bd : Bd
  es : Nat
  ty : TypeId
  pr : Bool
  fz : Bool
def Blk2.at (b : Blk2) : Blk := { els := b.bd.rows, es := b.es, ty := b.ty, pr := b.pr, fz := b.fz }
abbrev Mem2 := List (Nat × Option Blk2)
def oAt (p : Nat × Option Blk2) : Nat × Option Blk := (p.1, p.2.map Blk2.at)
def Mem2.at (m : Mem2) : Mem := m.map oAt
structure St2 where
  fr : List (Nat × Sv2)
  mem : Mem2
  nx : Nat

def mget2 (m : Mem2) (n : Nat) : Option Blk2 :=
  match lk m n with
  | some (some b) => some b
  | _ => none
def set2 : Mem2 → Nat × Option Blk2 → Mem2
  | [], p => [p]
  | q :: r, p => if q.1 = p.1 then p :: r else q :: set2 r p
def upd2 (m : Mem2) : Mem2 → Mem2
  | [] => m
  | p :: r => upd2 (set2 m p) r

def A2.pr : A2 → Bool
  | .ptr .. => false
  | .sm .. => false
  | _ => true
def A2.nm : A2 → List Nat
  | .ptr m _ _ => [m]
  | .sm m _ _ => [m]
  | _ => []
def A2.noSl : A2 → Bool
  | .sl .. => false
  | .pe .. => false
  | .fn .. => false
  | _ => true
def A2.smn : A2 → List Nat
  | .sm m _ _ => [m]
  | _ => []
def A2.ptrs : A2 → List Nat
  | .ptr m _ _ => [m]
  | _ => []
def Bd.els2 : Bd → List (List A2)
  | .arr _ _ => []
  | .raw els => els
def names2 (f : A2 → List Nat) (mem : Mem2) (m : Nat) : List Nat :=
  match mget2 mem m with
  | some b => if b.pr then [] else b.bd.els2.flatMap fun e => e.flatMap f
  | none => []
def namesV2 (f : A2 → List Nat) (vs : List V2) : List Nat := vs.flatMap fun v => v.cells.flatMap f

def renA2 (ρ : Nat → Option Nat) : A2 → Option A2
  | .ptr m i o => (ρ m).bind fun m' => some (.ptr m' i o)
  | .sm m lo n => (ρ m).bind fun m' => some (.sm m' lo n)
  | x => some x
def renV2 (ρ : Nat → Option Nat) : V2 → Option V2
  | .a x => (renA2 ρ x).bind fun y => some (.a y)
  | .g cs => (mapO (renA2 ρ) cs).bind fun ys => some (.g ys)
def renB2 (ρ : Nat → Option Nat) (b : Blk2) : Option Blk2 :=
  if b.pr then some b else match b.bd with
  | .raw els => (mapO (mapO (renA2 ρ)) els).bind fun els => some { b with bd := .raw els }
  | .arr .. => none

/-- The word that a cell of the tables is. -/
def at2 : At → Option A2
  | .int k n => some (.int k n)
  | .bool b => some (.bool b)
  | .str s => some (.str s)
  | .snil es ty => some (.snil es ty)
  | .nilp => some .nilp
  | _ => none
def zero2 (ti : TI) : Option (List A2) := mapO at2 ti.zero
/-- A type's words. -/
def codL (f : TypeId → Option Cd) : List TypeId → Option Cd
  | [] => none
  | [t] => f t
  | t :: r => (f t).bind fun a => (codL f r).bind fun b => some (.pr a b)
def cod (T : TypeId → Option TI) : Nat → TypeId → Option Cd
  | 0, _ => none
  | k + 1, t => (T t).bind fun ti => match ti.d with
    | .int k => some (.int k)
    | .bool => some .bool
    | .str => some .str
    | .sl e => (cod T k e).bind fun c => some (.sl c)
    | .st _ ts => codL (cod T k) ts
    | _ => none

structure Eff2 where
  v : Sv2
  upd : Mem2
  nn : Nat
  rd : List Nat
def Eff2.at (e : Eff2) : Eff := { v := e.v.at, upd := e.upd.at, nn := e.nn, rd := e.rd }

def const2 : Value → Option A2
  | .int k n => some (.int k n)
  | .bool b => some (.bool b)
  | .string s => some (.str s)
  | .slice none 0 0 => some (.snil 0 0)
  | .pointer none => some .nilp
  | _ => none
def ev2 (fr : List (Nat × Sv2)) : Operand → Option Sv2
  | .tmp t => lk fr t
  | .const v => (const2 v).bind fun x => some (.v (.a x))
  | .func f => some (.v (.a (.fn f)))
  | .global _ => none
def svA2 : Sv2 → Option A2
  | .v (.a x) => some x
  | _ => none
def svV2 : Sv2 → Option V2
  | .v x => some x
  | _ => none
def asB2 : A2 → Option Bool
  | .bool b => some b
  | _ => none
def asI2 : A2 → Option Int
  | .int _ i => some i
  | _ => none
def evA2 (fr : List (Nat × Sv2)) (o : Operand) : Option A2 := (ev2 fr o).bind svA2
def evB2 (fr : List (Nat × Sv2)) (o : Operand) : Option Bool := (evA2 fr o).bind asB2
def evI2 (fr : List (Nat × Sv2)) (o : Operand) : Option Int := (evA2 fr o).bind asI2
def evV2 (fr : List (Nat × Sv2)) (o : Operand) : Option V2 := (ev2 fr o).bind svV2
def bound2 (fr : List (Nat × Sv2)) (d : Nat) : Option Operand → Option Int
  | none => some d
  | some o => evI2 fr o

def part2 (ti : TI) (e : List A2) (o : Nat) : Option V2 :=
  if ti.agg then (if o + ti.size ≤ e.length then some (.g ((e.drop o).take ti.size)) else none)
  else (e[o]?).bind fun x => some (.a x)
def put2 (cs : List A2) (o : Nat) (xs : List A2) : List A2 := cs.take o ++ xs ++ cs.drop (o + xs.length)
def fillV2 (ds : List (Nat × Nat)) : List A2 → List (Nat × V2) → Option (List A2)
  | cs, [] => some cs
  | cs, (i, v) :: r =>
    (ds[i]?).bind fun p => if v.cells.length = p.2 ∧ p.1 + p.2 ≤ cs.length then fillV2 ds (put2 cs p.1 v.cells) r else none
def fillE2 (es : Nat) : List (List A2) → List (Nat × V2) → Option (List (List A2))
  | cs, [] => some cs
  | cs, (i, v) :: r => if v.cells.length = es ∧ i < cs.length then fillE2 es (cs.set i v.cells) r else none
/-- Cells that all read as words of one type lie as words. -/
def packB (c : Option Cd) (els : List (List A2)) : Bd :=
  match c with
  | some c => match mapO c.dec els with
    | some l => .arr c l
    | none => .raw els
  | none => .raw els

/-- What is worked out at once, and handed on. -/
@[reducible] def frc {α β : Type} (x : α) (K : α → β) : β := K x
section
variable {R : Type}
def mapK {α β : Type} (f : α → (β → Option R) → Option R) : List α → (List β → Option R) → Option R
  | [], K => K []
  | x :: r, K => f x fun y => mapK f r fun ys => K (y :: ys)

def binI2 (op : BinOp) (k : IntKind) (x y : Int) (K : A2 → Option R) : Option R :=
  match op with
  | .add => K (.int k (k.wrap (x + y)))
  | .sub => K (.int k (k.wrap (x - y)))
  | .mul => K (.int k (k.wrap (x * y)))
  | .quo => if y = 0 then none else K (.int k (k.wrap (x.tdiv y)))
  | .rem => if y = 0 then none else K (.int k (x.tmod y))
  | .eql => K (.bool (x == y))
  | .neq => K (.bool (x != y))
  | .lss => K (.bool (decide (x < y)))
  | .leq => K (.bool (decide (x ≤ y)))
  | .gtr => K (.bool (decide (x > y)))
  | .geq => K (.bool (decide (x ≥ y)))
  | .and => K (.int k (k.wrap ((BitVec.ofInt k.bits x &&& BitVec.ofInt k.bits y).toNat : Int)))
  | .or => K (.int k (k.wrap ((BitVec.ofInt k.bits x ||| BitVec.ofInt k.bits y).toNat : Int)))
  | .xor => K (.int k (k.wrap ((BitVec.ofInt k.bits x ^^^ BitVec.ofInt k.bits y).toNat : Int)))
  | _ => none
def ptrEq : A2 → A2 → Option Bool
  | .nilp, .nilp => some true
  | .nilp, .ptr .. => some false
  | .nilp, .pe .. => some false
  | .ptr .., .nilp => some false
  | .pe .., .nilp => some false
  | _, _ => none
def isPtr : A2 → Bool
  | .nilp => true
  | .ptr .. => true
  | .pe .. => true
  | _ => false
def bin2 (T : TypeId → Option TI) (op : BinOp) (ty : TypeId) (a b : A2) (K : A2 → Option R) : Option R :=
  match a, b with
  | .int k x, .int k' y =>
    match op with
    | .shl => if y < 0 then none else K (.int k (k.wrap (x * 2 ^ (min y.toNat k.bits))))
    | .shr => if y < 0 then none else K (.int k (x.fdiv (2 ^ (min y.toNat k.bits))))
    | _ => if k = k' then binI2 op k x y K else none
  | .str x, .str y =>
    match op with
    | .add => if ((x.size + y.size : Nat) : Int) > IntKind.i64.max then none else K (.str (x ++ y))
    | .eql => K (.bool (x.data.toList == y.data.toList))
    | .neq => K (.bool (!(x.data.toList == y.data.toList)))
    | _ => none
  | .bool x, .bool y =>
    match tdOf T ty, op with
    | some .bool, .eql => K (.bool (x == y))
    | some .bool, .neq => K (.bool (!(x == y)))
    | _, _ => none
  | x, y =>
    if isPtr x then
    match tdOf T ty with
    | some .ptr =>
      match op with
      | .eql => (ptrEq x y).bind fun b => K (.bool b)
      | .neq => (ptrEq x y).bind fun b => K (.bool (!b))
      | _ => none
    | _ => none
    else none
def un2 (op : UnOp) (a : A2) (K : A2 → Option R) : Option R :=
  match a with
  | .int k n => match op with
    | .neg => K (.int k (k.wrap (0 - n)))
    | _ => none
  | .bool b => match op with
    | .not => K (.bool (!b))
    | _ => none
  | _ => none
def conv2 (T : TypeId → Option TI) (src dst : TypeId) (a : A2) (K : A2 → Option R) : Option R :=
  match a with
  | .int _ n => match tdOf T src, tdOf T dst with
    | some (.int _), some (.int k) => K (.int k (k.wrap n))
    | _, _ => none
  | .str s => match tdOf T src, tdOf T dst with
    | some .str, some .str => K (.str s)
    | some .str, some (.sl e) => match tdOf T e with
      | some (.int .u8) => K (.sl (.int .u8) (s.data.toList.map fun b => (b.toNat : Int)))
      | _ => none
    | _, _ => none
  | _ => none

/-- What is read of a slice. -/
inductive Src
  | nil
  | of (c : Cd) (l : List c.D)
def Src.len : Src → Nat
  | .nil => 0
  | .of _ l => l.length
def Src.rows : Src → List (List At)
  | .nil => []
  | .of c l => l.map c.at
def elsK (mem : Mem2) (es : Nat) (a : A2) (K : Src → List Nat → Option R) : Option R :=
  match a with
  | .sl c l => if c.sz = es then K (.of c l) [] else none
  | .snil .. => K .nil []
  | .sm m lo n => (mget2 mem m).bind fun b => match b.bd with
    | .arr c l => if b.es = es then if b.pr then if lo + n ≤ l.length then K (.of c ((l.drop lo).take n)) [m] else none else none else none
    | _ => none
  | _ => none

variable (c : Cfg) (CO : FuncId → List V2 → List Blk2 → (List V2 × List Blk2 → Option R) → Option R)

def frzAK (mem : Mem2) (a : A2) (K : A2 → Option R) : Option R :=
  match a with
  | .sm m lo n => (mget2 mem m).bind fun b => if b.pr then match b.bd with
    | .arr c l => if c.sz = b.es then if lo + n ≤ l.length then K (.sl c ((l.drop lo).take n)) else none else none
    | .raw _ => none
    else none
  | .snil es ty => (cod c.T 9 ty).bind fun d => if d.sz = es then K (.sl d []) else none
  | x => K x
def frzVK (mem : Mem2) (v : V2) (K : V2 → Option R) : Option R :=
  match v with
  | .a x => frzAK c mem x fun y => K (.a y)
  | .g cs => mapK (frzAK c mem) cs fun ys => K (.g ys)
def frzBK (mem : Mem2) (b : Blk2) (K : Blk2 → Option R) : Option R :=
  if b.pr then K b else match b.bd with
  | .raw els => mapK (mapK (frzAK c mem)) els fun els => K { b with bd := .raw els }
  | .arr .. => none

def fz2 (mem : Mem2) : List Nat → Mem2
  | [] => []
  | m :: r => (match mget2 mem m with | some b => (m, some { bd := b.bd, es := b.es, ty := b.ty, pr := b.pr, fz := true }) :: fz2 mem r | none => fz2 mem r)
def zip2 : List Nat → List Blk2 → Mem2
  | n :: r, b :: s => (n, some b) :: zip2 r s
  | _, _ => []
def res2 : List V2 → Sv2
  | [x] => .v x
  | xs => .t xs
def blk2K (mu : Bool) (mem mem1 : Mem2) (ρ : Nat → Option Nat) (m : Nat) (K : Blk2 → Option R) : Option R :=
  (mget2 mem1 m).bind fun b => (fun K => if mu then K b else frzBK c mem b K) fun b => (renB2 ρ b).bind K

def callK (f : FuncId) (args : List V2) (mem : Mem2) (nx : Nat) (K : Eff2 → Option R) : Option R :=
  (fun K => if c.mutA f then K args else mapK (frzVK c mem) args K) fun vals =>
  frc (clo (if c.mutA f then names2 A2.nm mem else names2 A2.ptrs mem) 64 (namesV2 A2.nm vals) []) fun N =>
  frc (if c.mutA f then [] else namesV2 A2.smn args ++ N.flatMap (names2 A2.smn mem)) fun F =>
  frc (upd2 mem (fz2 mem F)) fun mem1 =>
  mapK (blk2K c (c.mutA f) mem mem1 (idx N)) N fun blks =>
    (mapO (renV2 (idx N)) vals).bind fun vals' =>
    CO f vals' blks fun r =>
    frc (N ++ cnt nx (r.2.drop N.length)) fun NL =>
    (mapO (renV2 (fun i => NL[i]?)) r.1).bind fun rs =>
      (mapO (renB2 (fun i => NL[i]?)) r.2).bind fun bs =>
      K { v := res2 rs, upd := (if r.2.isEmpty && r.1.all (fun v => v.cells.all A2.noSl) then [] else fz2 mem F) ++ zip2 NL bs, nn := nx + (r.2.length - N.length), rd := N ++ F }

/-- What stands ahead of what is appended: typed words, how many, the block. -/
def appK (t : TypeId) (s x : A2) (mem : Mem2) (nx : Nat) (K : Eff2 → Option R) : Option R :=
  match tdOf c.T t with
  | some (.sl e) => (c.T e).bind fun te =>
    if 0 < te.size ∧ 0 < te.bytes ∧ te.zero.length = te.size then
    elsK mem te.size x fun src srd =>
    match s with
    | .snil .. => match src with
      | .nil => (cod c.T 9 e).bind fun d => K { v := .v (.a (.sm nx 0 0)), upd := [(nx, some ⟨.arr d [], te.size, e, true, false⟩)], nn := nx + 1, rd := srd }
      | .of d l => if l.length * te.bytes ≤ 140737488355328 then K { v := .v (.a (.sm nx 0 l.length)), upd := [(nx, some ⟨.arr d l, te.size, e, true, false⟩)], nn := nx + 1, rd := srd } else none
    | .sm m lo n => (mget2 mem m).bind fun b => match b.bd with
      | .arr d l => if b.es = te.size ∧ b.ty = e ∧ b.fz = false ∧ b.pr = true then if lo = 0 then if n ≤ l.length then
        match src with
        | .nil => if n * te.bytes ≤ 140737488355328 then K { v := .v (.a (.sm nx 0 n)), upd := [(m, none), (nx, some ⟨.arr d (l.take n), te.size, e, true, false⟩)], nn := nx + 1, rd := m :: srd } else none
        | .of d' l' => (castL d' d l').bind fun l' => if (n + l'.length) * te.bytes ≤ 140737488355328 then
          K { v := .v (.a (.sm nx 0 (n + l'.length))), upd := [(m, none), (nx, some ⟨.arr d (l.take n ++ l'), te.size, e, true, false⟩)], nn := nx + 1, rd := m :: srd } else none
        else none else none else none
      | _ => none
    | _ => none
    else none
  | _ => none

def val2 (v : V2) (nx : Nat) (K : Eff2 → Option R) : Option R := K { v := .v v, upd := [], nn := nx, rd := [] }
def valA2 (nx : Nat) (K : Eff2 → Option R) (x : A2) : Option R := K { v := .v (.a x), upd := [], nn := nx, rd := [] }
def evP2 (fr : List (Nat × Sv2)) (p : Nat × Operand) : Option (Nat × V2) := (evV2 fr p.2).bind fun v => some (p.1, v)

def stpK (o : Oper) (fr : List (Nat × Sv2)) (mem : Mem2) (nx : Nat) (K : Eff2 → Option R) : Option R :=
  match o.op with
  | .move x | .assign x =>
    (ev2 fr x).bind fun v =>
    match v with
    | .v (.a (.snil ..)) => match tdOf c.T o.type with
      | some (.sl e) => (c.T e).bind fun te => val2 (.a (.snil te.size e)) nx K
      | _ => none
    | .u => none
    | v => K { v := v, upd := [], nn := nx, rd := [] }
  | .pick k a b =>
    (evB2 fr k).bind fun t => if t = true then (evA2 fr a).bind (valA2 nx K) else (evA2 fr b).bind (valA2 nx K)
  | .alloc t => (c.T t).bind fun ti => (zero2 ti).bind fun z =>
    if z.length = ti.size then K { v := .v (.a (.ptr nx 0 0)), upd := [(nx, some ⟨.raw [z], ti.size, t, true, false⟩)], nn := nx + 1, rd := [] } else none
  | .box t x => (c.T t).bind fun ti => (evV2 fr x).bind fun v =>
    if v.cells.length = ti.size then
    K { v := .v (.a (.ptr nx 0 0)), upd := [(nx, some ⟨.raw [v.cells], ti.size, t, v.cells.all A2.pr, false⟩)], nn := nx + 1, rd := [] } else none
  | .build t parts => (c.T t).bind fun ti =>
    match ti.d with
    | .st fs _ => (zero2 ti).bind fun z => if z.length = ti.size then (mapO (evP2 fr) parts.toList).bind fun ps =>
      (fillV2 fs z ps).bind fun cs => val2 (.g cs) nx K else none
    | _ => none
  | .buildSlice t len parts =>
    match tdOf c.T t with
    | some (.sl e) => (c.T e).bind fun te => (zero2 te).bind fun z =>
      (mapO (evP2 fr) parts.toList).bind fun ps =>
      (fillE2 te.size (List.replicate len z) ps).bind fun els =>
      if len * te.size ≤ 16777216 ∧ 0 < te.size ∧ len < 9223372036854775807 ∧ z.length = te.size then
      K { v := .v (.a (.sm nx 0 len)), upd := [(nx, some ⟨packB (cod c.T 9 e) els, te.size, e, els.all fun e => e.all A2.pr, false⟩)], nn := nx + 1, rd := [] }
      else none
    | _ => none
  | .load t x => (c.T t).bind fun ti => (evA2 fr x).bind fun a =>
    match a with
    | .ptr m i o => (mget2 mem m).bind fun b => match b.bd with
      | .raw els => (els[i]?).bind fun e => (part2 ti e o).bind fun v => K { v := .v v, upd := [], nn := nx, rd := [m] }
      | .arr d l => (l[i]?).bind fun e => (part2 ti (d.cl e) o).bind fun v => K { v := .v v, upd := [], nn := nx, rd := [m] }
    | .pe d e o => (part2 ti (d.cl e) o).bind fun v => val2 v nx K
    | _ => none
  | .store t x y => (c.T t).bind fun ti => (evV2 fr y).bind fun v => (evA2 fr x).bind fun a =>
    match a with
    | .ptr m i o => (mget2 mem m).bind fun b => match b.bd with
      | .raw els => (els[i]?).bind fun e => if v.cells.length = ti.size ∧ o + ti.size ≤ e.length ∧ b.fz = false then
        K { v := .u, upd := [(m, some ⟨.raw (els.set i (put2 e o v.cells)), b.es, b.ty, b.pr && v.cells.all A2.pr, b.fz⟩)], nn := nx, rd := [m] } else none
      | .arr d l => (l[i]?).bind fun e => if v.cells.length = ti.size ∧ o + ti.size ≤ (d.cl e).length ∧ b.fz = false ∧ b.pr = true then
        (d.dec (put2 (d.cl e) o v.cells)).bind fun e' => K { v := .u, upd := [(m, some ⟨.arr d (l.set i e'), b.es, b.ty, b.pr && v.cells.all A2.pr, b.fz⟩)], nn := nx, rd := [m] } else none
    | _ => none
  | .nilCheck x => (evA2 fr x).bind fun a =>
    match a with
    | .ptr m i o => val2 (.a (.ptr m i o)) nx K
    | .pe d e o => val2 (.a (.pe d e o)) nx K
    | _ => none
  | .binOp op ty x y _ => (evA2 fr x).bind fun a => (evA2 fr y).bind fun b => bin2 c.T op ty a b (valA2 nx K)
  | .unOp op _ x => (evA2 fr x).bind fun a => un2 op a (valA2 nx K)
  | .convert src dst x => (evA2 fr x).bind fun a =>
    match tdOf c.T src, tdOf c.T dst with
    | some (.sl e), some .str => match tdOf c.T e with
      | some (.int .u8) => elsK mem 1 a fun q rd => match q with
        | .nil => K { v := .v (.a (.str ⟨#[]⟩)), upd := [], nn := nx, rd := rd }
        | .of (.int .u8) l => K { v := .v (.a (.str ⟨(l.map fun n : Int => n.toNat.toUInt8).toArray⟩)), upd := [], nn := nx, rd := rd }
        | _ => none
      | _ => none
    | _, _ => conv2 c.T src dst a (valA2 nx K)
  | .makeSlice t l k =>
    match tdOf c.T t with
    | some (.sl e) => (c.T e).bind fun te => (zero2 te).bind fun z => (cod c.T 9 e).bind fun d => (d.dec z).bind fun z0 =>
      (evI2 fr l).bind fun l => (evI2 fr k).bind fun k =>
        if 0 < te.size ∧ 0 < te.bytes ∧ z.length = te.size then
        if 0 ≤ l ∧ l ≤ k ∧ k * te.bytes ≤ 140737488355328 then
          K { v := .v (.a (.sm nx 0 l.toNat)), upd := [(nx, some ⟨.arr d (List.replicate k.toNat z0), te.size, e, true, false⟩)], nn := nx + 1, rd := [] }
        else none else none
    | _ => none
  | .slice t x lo hi mx =>
    if mx.isSome then none else
    (tdOf c.T t).bind fun td => (evA2 fr x).bind fun a =>
    match td, a with
    | .str, .str s =>
      (bound2 fr 0 lo).bind fun l => (bound2 fr s.size hi).bind fun h =>
      if 0 ≤ l ∧ l ≤ h ∧ h ≤ s.size then val2 (.a (.str (s.extract l.toNat h.toNat))) nx K else none
    | .sl e, .sl d els => (c.T e).bind fun te =>
      (bound2 fr 0 lo).bind fun l => (bound2 fr els.length hi).bind fun h =>
      if d.sz = te.size then if 0 ≤ l ∧ l ≤ h ∧ h ≤ els.length then val2 (.a (.sl d ((els.drop l.toNat).take (h.toNat - l.toNat)))) nx K else none else none
    | .sl e, .sm m b n => (c.T e).bind fun te =>
      (mget2 mem m).bind fun B => match B.bd with
      | .arr _ els =>
        (bound2 fr 0 lo).bind fun l => (bound2 fr n hi).bind fun h =>
        if B.es = te.size ∧ 0 < te.size then if 0 ≤ l ∧ l ≤ h ∧ b + h.toNat ≤ els.length ∧ (l < h ∨ lo.isNone = true) then K { v := .v (.a (.sm m (b + l.toNat) (h.toNat - l.toNat))), upd := [], nn := nx, rd := [m] } else none else none
      | .raw els =>
        (bound2 fr 0 lo).bind fun l => (bound2 fr n hi).bind fun h =>
        if B.es = te.size ∧ 0 < te.size then if 0 ≤ l ∧ l ≤ h ∧ b + h.toNat ≤ els.length ∧ (l < h ∨ lo.isNone = true) then K { v := .v (.a (.sm m (b + l.toNat) (h.toNat - l.toNat))), upd := [], nn := nx, rd := [m] } else none else none
    | _, _ => none
  | .fieldAddr s x f =>
    match tdOf c.T s with
    | some (.st fs _) => (fs[f]?).bind fun p =>
      if p.2 = 0 then none else (evA2 fr x).bind fun a =>
      match a with
      | .ptr m i o => val2 (.a (.ptr m i (o + p.1))) nx K
      | .pe d e o => val2 (.a (.pe d e (o + p.1))) nx K
      | _ => none
    | _ => none
  | .field s x f =>
    match tdOf c.T s with
    | some (.st fs ts) => (fs[f]?).bind fun p => (ts[f]?).bind fun ft => (evV2 fr x).bind fun v =>
      match v with
      | .g cs => (c.T ft).bind fun ti => (part2 ti cs p.1).bind fun v => val2 v nx K
      | _ => none
    | _ => none
  | .indexAddr t x i =>
    match tdOf c.T t with
    | some (.sl e) => (c.T e).bind fun te => (evI2 fr i).bind fun i => (evA2 fr x).bind fun a =>
      match a with
      | .sl d els => if d.sz = te.size then if 0 ≤ i then (els[i.toNat]?).bind fun el => val2 (.a (.pe d el 0)) nx K else none else none
      | .sm m b n => (mget2 mem m).bind fun B => if B.es = te.size then if 0 ≤ i ∧ i < n then K { v := .v (.a (.ptr m (b + i.toNat) 0)), upd := [], nn := nx, rd := [m] } else none else none
      | _ => none
    | _ => none
  | .index t x i =>
    (tdOf c.T t).bind fun td => (evA2 fr x).bind fun a => (evI2 fr i).bind fun i =>
    match td, a with
    | .str, .str s =>
      if 0 ≤ i then (s.data[i.toNat]?).bind fun b => val2 (.a (.int .u8 b.toNat)) nx K else none
    | _, _ => none
  | .extract x i => (ev2 fr x).bind fun v =>
    match v with
    | .t vs => (vs[i]?).bind fun v => val2 v nx K
    | _ => none
  | .call k =>
    match k.callee with
    | .builtin .len =>
      ((k.argTypes[0]?).bind fun t => tdOf c.T t).bind fun td => ((k.args[0]?).bind fun o => evA2 fr o).bind fun a =>
      match td, a with
      | .str, .str s => val2 (.a (.int .i64 s.size)) nx K
      | .sl _, .sl _ l => val2 (.a (.int .i64 l.length)) nx K
      | .sl _, .sm _ _ n => val2 (.a (.int .i64 n)) nx K
      | .sl _, .snil .. => val2 (.a (.int .i64 0)) nx K
      | _, _ => none
    | .builtin .append =>
      (k.argTypes[0]?).bind fun t => (k.argTypes[1]?).bind fun t' => ((k.args[0]?).bind fun o => evA2 fr o).bind fun s => ((k.args[1]?).bind fun o => evA2 fr o).bind fun x =>
      if t' = t then appK c t s x mem nx K else none
    | .builtin _ => none
    | .value f =>
      (evA2 fr f).bind fun a => match a with
      | .fn g => (mapO (evV2 fr) k.args.toList).bind fun args => callK c CO g args mem nx K
      | _ => none
    | .invoke .. => none
  | _ => none

inductive Out2 where
  | norm (σ : St2)
  | exit (id : Nat) (σ : St2)
  | ret (σ : St2)

def putK2 (nt : Nat) (d : Option Nat) (v : Sv2) (fr : List (Nat × Sv2)) (K : List (Nat × Sv2) → Option R) : Option R :=
  match d with
  | some d => if d < nt then K ((d, v) :: fr) else none
  | none => K fr
def didK2 (nt : Nat) (o : Oper) (σ : St2) (is : List Info) (K : St2 → List Info → Option R) : Option R :=
  stpK c CO o σ.fr σ.mem σ.nx fun e =>
  putK2 nt o.dst e.v σ.fr fun fr => K { fr := fr, mem := upd2 σ.mem e.upd, nx := e.nn } ({ rd := e.rd, wr := e.upd.map (·.1) } :: is)
def skipK2 (nt : Nat) (o : Oper) (σ : St2) (is : List Info) (K : St2 → List Info → Option R) : Option R :=
  putK2 nt o.dst .u σ.fr fun fr => K { fr := fr, mem := σ.mem, nx := σ.nx } ({ rd := [], wr := [] } :: is)
/-- A truth that is now known. -/
def know (d : Nat) (b : Bool) (σ : St2) : St2 := { σ with fr := (d, .v (.a (.bool b))) :: σ.fr }
def wantK2 (nt : Nat) (ops : List Oper) (o : Oper) (σ : St2) (is : List Info) (K : St2 → List Info → Option R) : Option R :=
  match o.guard with
  | none => didK2 c CO nt o σ is K
  | some (j, want) =>
    ((ops[j]?).bind (·.dst)).bind fun d =>
    (lk σ.fr d).bind fun v =>
    match v with
    | .v (.a (.bool b)) => if b = want then didK2 c CO nt o (know d want σ) is K else skipK2 nt o (know d (!want) σ) is K
    | _ => skipK2 nt o σ is K
def runOps2 (nt : Nat) (ops : List Oper) : List Oper → St2 → List Info → (St2 → List Info → Option R) → Option R
  | [], σ, is, K => K σ is
  | o :: r, σ, is, K => wantK2 c CO nt ops o σ is fun σ is => runOps2 nt ops r σ is K

variable (LO : Nat → Code → St2 → (Out2 → Option R) → Option R)
def run2 (nt : Nat) : Nat → Code → St2 → (Out2 → Option R) → Option R
  | _, .skip, σ, K => K (.norm σ)
  | _, .region _ ops draw, σ, K => runOps2 c CO nt ops.toList ops.toList σ [] fun σ' is => if (draw && !(okDraw ops.toList is.reverse)) = true then none else K (.norm σ')
  | b, .seq x y, σ, K => run2 nt b x σ fun
    | .norm σ' => run2 nt b y σ' K
    | o => K o
  | b, .cond (.tmp t) x y, σ, K => (lk σ.fr t).bind fun v =>
    match v with
    | .v (.a (.bool q)) => if q = true then run2 nt b x (know t true σ) K else run2 nt b y (know t false σ) K
    | _ => none
  | b, .cond o x y, σ, K => (evB2 σ.fr o).bind fun q => if q = true then run2 nt b x σ K else run2 nt b y σ K
  | _, .block id x, σ, K => run2 nt id x σ fun
    | .exit i σ' => if i = id then K (.norm σ') else K (.exit i σ')
    | o => K o
  | b, .loop x, σ, K => LO b x σ K
  | _, .exit id, σ, K => K (.exit id σ)
  | _, .ret, σ, K => K (.ret σ)
  | _, .rangeFunc .., _, _ => none
  | _, .scope _, _, _ => none
  | _, .label _, _, _ => none
  | _, .goto _, _, _ => none
  | _, .refuse _, _, _ => none
end

def ownA2 (T : TypeId → Option TI) (nx : Nat) : A2 → A2 × Mem2 × Nat
  | .snil es ty => (.sm nx 0 0, [(nx, some ⟨match cod T 9 ty with | some d => .arr d [] | none => .raw [], es, ty, true, false⟩)], nx + 1)
  | x => (x, [], nx)
def ownL2 (T : TypeId → Option TI) : Nat → List A2 → List A2 × Mem2 × Nat
  | nx, [] => ([], [], nx)
  | nx, x :: r => (fun p => (fun q => (p.1 :: q.1, p.2.1 ++ q.2.1, q.2.2)) (ownL2 T p.2.2 r)) (ownA2 T nx x)
def keepL2 (T : TypeId → Option TI) (σ : St2) : List Kp → Option (List (Nat × V2) × Mem2 × Nat)
  | [] => some ([], [], σ.nx)
  | .s t :: r => (keepL2 T σ r).bind fun q =>
    match lk σ.fr t with
    | some (.v (.a x)) => (fun p => some ((t, .a p.1) :: q.1, q.2.1 ++ p.2.1, p.2.2)) (ownA2 T q.2.2 x)
    | some (.v (.g cs)) => (fun p => some ((t, .g p.1) :: q.1, q.2.1 ++ p.2.1, p.2.2)) (ownL2 T q.2.2 cs)
    | _ => none
  | .b t :: r => (keepL2 T σ r).bind fun q =>
    match lk σ.fr t with
    | some (.v (.a (.ptr m 0 o))) => (mget2 (upd2 σ.mem q.2.1) m).bind fun b =>
      match b.bd with
      | .raw [e] => (fun p => some ((t, .a (.ptr m 0 o)) :: q.1, q.2.1 ++ (p.2.1 ++ [(m, some ⟨.raw [p.1], b.es, b.ty, p.1.all A2.pr, b.fz⟩)]), p.2.2)) (ownL2 T q.2.2 e)
      | _ => none
    | _ => none
def renS2 (ρ : Nat → Option Nat) : List (Nat × V2) → Option (List (Nat × Sv2))
  | [] => some []
  | (t, x) :: r => (renV2 ρ x).bind fun y => (renS2 ρ r).bind fun s => some ((t, .v y) :: s)
def head2 (T : TypeId → Option TI) (p : Nat) (ks : List Kp) (σ : St2) : Option St2 :=
  (keepL2 T σ ks).bind fun q =>
  frc (upd2 σ.mem q.2.1) fun mem =>
  frc (clo (names2 A2.nm mem) 64 (List.range p ++ namesV2 A2.nm (q.1.map (·.2))) []) fun N =>
  (renS2 (idx N) q.1).bind fun fr =>
    (mapO (fun m => (mget2 mem m).bind (renB2 (idx N))) N).bind fun bs =>
    if N.take p = List.range p then some { fr := fr, mem := zip2 (List.range N.length) bs, nx := N.length } else none

section
variable {R : Type} (c : Cfg)
def resOf2 (σ : St2) : ResultVar → Option V2
  | .tmp t => evV2 σ.fr (.tmp t)
  | .cell a t => (c.T t).bind fun ti =>
    (evA2 σ.fr (.tmp a)).bind fun x => match x with
    | .ptr m i o => (mget2 σ.mem m).bind fun b => match b.bd with
      | .raw els => (els[i]?).bind fun e => part2 ti e o
      | .arr .. => none
    | _ => none
def ownVs2 (T : TypeId → Option TI) : Nat → List V2 → List V2 × Mem2 × Nat
  | nx, [] => ([], [], nx)
  | nx, .a x :: r => (fun p => (fun q => (.a p.1 :: q.1, p.2.1 ++ q.2.1, q.2.2)) (ownVs2 T p.2.2 r)) (ownA2 T nx x)
  | nx, .g cs :: r => (fun p => (fun q => (.g p.1 :: q.1, p.2.1 ++ q.2.1, q.2.2)) (ownVs2 T p.2.2 r)) (ownL2 T nx cs)
def finishK (f : FuncId) (rvs : List ResultVar) (p : Nat) (σ : St2) (K : List V2 × List Blk2 → Option R) : Option R :=
  (mapO (resOf2 c σ) rvs).bind fun rs0 =>
  frc (if c.ownR f then ownVs2 c.T σ.nx rs0 else (rs0, [], σ.nx)) fun q =>
  frc (upd2 σ.mem q.2.1) fun mem =>
  (fun K => if c.ownR f then K q.1 else mapK (frzVK c mem) rs0 K) fun rs =>
  frc (clo (if c.mutA f then names2 A2.nm mem else names2 A2.ptrs mem) 64 (List.range p ++ namesV2 A2.nm rs) []) fun N =>
  frc ((if c.ownR f then [] else namesV2 A2.smn rs0) ++ (if c.mutA f then [] else N.flatMap (names2 A2.smn mem))) fun F =>
  frc (upd2 mem (fz2 mem F)) fun mem1 =>
  (mapO (renV2 (idx N)) rs).bind fun rs' =>
    mapK (blk2K c (c.mutA f) mem mem1 (idx N)) N fun bs =>
    if N.take p = List.range p then K (rs', bs) else none
def finK2 (f : FuncId) (rvs : List ResultVar) (p : Nat) (K : List V2 × List Blk2 → Option R) : Out2 → Option R
  | .norm σ => finishK c f rvs p σ K
  | .ret σ => finishK c f rvs p σ K
  | .exit .. => none
def enum2 (args : List V2) : List (Nat × Sv2) := enum 0 (args.map Sv2.v)
def body2 (CO : FuncId → List V2 → List Blk2 → (List V2 × List Blk2 → Option R) → Option R) (LO : Nat → Code → St2 → (Out2 → Option R) → Option R)
    (f : FuncId) (nt : Nat) (rvs : List ResultVar) (body : Code) (args : List V2) (blks : List Blk2) (K : List V2 × List Blk2 → Option R) : Option R :=
  run2 c CO LO nt 0 body { fr := enum2 args, mem := enum 0 (blks.map some), nx := blks.length } (finK2 c f rvs blks.length K)
end

end Go.Proofs.Ytghdpmejgonjmaa.Am
