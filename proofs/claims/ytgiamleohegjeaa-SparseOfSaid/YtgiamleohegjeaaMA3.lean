/- The typed machine: the abstract machine's rules over typed words, each step handing on to what is to be done next. Definitions. -/
import Derived.Test.YtgiamleohegjeaaMA2
import Derived.KernelRfl
import Derived.Lib.Bytealg
import Derived.Test.YtgiamleohegjeaaProg
import Derived.Sort.Grow
import Derived.Test.YtgiamleohegjeaaChecked
import Derived.Shelf.Sort.Plain
import Derived.Shelf.Slices.Clone
import Derived.Shelf.Slices.In.SortNone
import Derived.Ground.Names2Prog

namespace Go.Proofs.Ytgiamleohegjeaa.Am
open Go

/-- What a word's type is. -/
inductive Cd
 | int (k : IntKind) | bool | str | sl (c : Cd) | pr (a b : Cd) | ref (c : Cd)
 deriving DecidableEq
@[reducible] def Cd.D : Cd → Type
 | .int _ => Int
 | .bool => Bool
 | .str => ByteArray
 | .sl c => List c.D
 | .pr a b => a.D × b.D
 | .ref c => c.D
def Cd.sz : Cd → Nat
 | .pr a b => a.sz + b.sz
 | _ => 1
def Cd.at : (c : Cd) → c.D → List At
 | .int k, x => [.int k x]
 | .bool, b => [.bool b]
 | .str, s => [.str s]
 | .sl c, l => [.sl c.sz l.length (l.map c.at)]
 | .pr a b, x => a.at x.1 ++ b.at x.2
 | .ref c, x => [.pp (c.at x) 0]

inductive A2
 | int (k : IntKind) (n : Int)
 | bool (b : Bool)
 | str (s : ByteArray)
 | snil (es ty : Nat)
 | sl (c : Cd) (l : List c.D)
 | nilp
 | pe (c : Cd) (x : c.D) (o : Nat)
 | ptr (m i o : Nat)
 | sm (m lo n : Nat)
 | fn (f : FuncId) (cs : List (Sigma Cd.D))
 | mp (m : Nat)
 | ptq (m i es : Nat)
def A2.at : A2 → At
 | .int k n => .int k n
 | .bool b => .bool b
 | .str s => .str s
 | .snil es ty => .snil es ty
 | .sl c l => .sl c.sz l.length (l.map c.at)
 | .nilp => .nilp
 | .pe c x o => .pp (c.at x) o
 | .ptr m i o => .ptr m i o
 | .sm m lo n => .sm m lo n
 | .fn f cs => .fn f (cs.flatMap fun p => p.1.at p.2)
 | .mp m => .mp m
 | .ptq m i es => .ptq m i es
def Cd.cl : (c : Cd) → c.D → List A2
 | .int k, x => [.int k x]
 | .bool, b => [.bool b]
 | .str, s => [.str s]
 | .sl c, l => [.sl c l]
 | .pr a b, x => a.cl x.1 ++ b.cl x.2
 | .ref c, x => [.pe c x 0]
def castO (a b : Cd) (x : a.D) : Option b.D := if h : a = b then some (h ▸ x) else none
def castL (a b : Cd) (l : List a.D) : Option (List b.D) := if h : a = b then some (h ▸ l) else none
/-- The first cells read as a word of the type; what is left. -/
def Cd.de : (c : Cd) → List A2 → Option (c.D × List A2)
 | .int k, .int k' n :: r => if k' = k then some (n, r) else none
 | .bool, .bool b :: r => some (b, r)
 | .str, .str s :: r => some (s, r)
 | .sl c, .sl c' l :: r => (castL c' c l).bind fun l => some (l, r)
 | .ref c, .pe c' x 0 :: r => (castO c' c x).bind fun x => some (x, r)
 | .pr a b, cs => (a.de cs).bind fun p => (b.de p.2).bind fun q => some ((p.1, q.1), q.2)
 | _, _ => none
def Cd.dec (c : Cd) (cs : List A2) : Option c.D := (c.de cs).bind fun p => match p.2 with
 | [] => some p.1
 | _ => none
/-- The type of what lies in the cells. -/
def A2.cd : A2 → Option Cd
 | .int k _ => some (.int k)
 | .bool _ => some .bool
 | .str _ => some .str
 | .sl c _ => some (.sl c)
 | _ => none

inductive V2
 | a (x : A2)
 | g (cs : List A2)
def V2.at : V2 → Vl
 | .a x => .a x.at
 | .g cs => .g (cs.map A2.at)
def V2.cells : V2 → List A2
 | .a x => [x]
 | .g cs => cs
inductive Sv2
 | v (x : V2)
 | t (vs : List V2)
 | u
def Sv2.at : Sv2 → Sv
 | .v x => .v x.at
 | .t vs => .t (vs.map V2.at)
 | .u => .u
inductive Bd
 | arr (c : Cd) (l : List c.D)
 | raw (els : List (List A2))
 | map (kc vc : Cd) (l : List (kc.D × vc.D))
 | nst (c : Cd) (l : List (List c.D)) (q : TypeId × Nat)
 | lnd (c : Cd) (l : List (List c.D)) (i x n : Nat) (q : TypeId × Nat)
/-- The i-th, whether or not there is one. -/
def tset {α : Type} (l : List α) (i : Nat) (x : α) : List α := l.take i ++ x :: l.drop (i + 1)
def Bd.rows : Bd → List (List At)
 | .arr c l => l.map c.at
 | .raw els => els.map fun e => e.map A2.at
 | .map .. => []
 | .nst c l _ => l.map (Cd.at (.sl c))
 | .lnd c l i x n _ => tset (l.map (Cd.at (.sl c))) i [.sm x 0 n]
def Bd.ow : Bd → Option (TypeId × Nat)
 | .nst _ _ q => some q
 | .lnd _ _ _ _ _ q => some q
 | _ => none
def Bd.ents : Bd → List (At × At)
 | .map kc vc l => l.map fun p => ((kc.at p.1).headD .nilp, (vc.at p.2).headD .nilp)
 | _ => []
/-- Maps by their words. -/
def kEq : (c : Cd) → c.D → c.D → Bool
 | .int _, a, b => a == b
 | .str, a, b => a.data.toList == b.data.toList
 | .bool, a, b => a == b
 | _, _, _ => false
def findG (kc vc : Cd) : List (kc.D × vc.D) → kc.D → Option (Nat × vc.D)
 | [], _ => none
 | p :: r, x => if kEq kc x p.1 then some (0, p.2) else (findG kc vc r x).bind fun q => some (q.1 + 1, q.2)
def mapG (kc vc : Cd) (l : List (kc.D × vc.D)) (x : kc.D) (z : vc.D) : vc.D := match findG kc vc l x with | some q => q.2 | none => z
def mapS (kc vc : Cd) (l : List (kc.D × vc.D)) (x : kc.D) (v : vc.D) : List (kc.D × vc.D) := match findG kc vc l x with | some q => l.set q.1 (x, v) | none => l ++ [(x, v)]
def kcOk : TD → Cd → Bool
 | .int k, .int k' => decide (k' = k)
 | .str, .str => true
 | .bool, .bool => true
 | _, _ => false
structure Blk2 where
 bd : Bd
 es : Nat
 ty : TypeId
 pr : Bool
 fz : Bool
 ar : Bool
def Blk2.at (b : Blk2) : Blk := { els := b.bd.rows, es := b.es, ty := b.ty, pr := b.pr, fz := b.fz, ar := b.ar, mp := b.bd.ents, ow := b.bd.ow }
abbrev Mem2 := List (Nat × Option Blk2)
def oAt (p : Nat × Option Blk2) : Nat × Option Blk := (p.1, p.2.map Blk2.at)
def Mem2.at (m : Mem2) : Mem := m.map oAt
structure St2 where
 fr : List (Nat × Sv2)
 mem : Mem2
 nx : Nat

def mget2 (m : Mem2) (n : Nat) : Option Blk2 :=
 match lk m n with
 | some (some b) => some b
 | _ => none
def set2 : Mem2 → Nat × Option Blk2 → Mem2
 | [], p => [p]
 | q :: r, p => if q.1 = p.1 then p :: r else q :: set2 r p
def upd2 (m : Mem2) : Mem2 → Mem2
 | [] => m
 | p :: r => upd2 (set2 m p) r

def A2.pr : A2 → Bool
 | .ptr .. => false
 | .sm .. => false
 | .mp .. => false
 | .ptq .. => false
 | _ => true
def A2.nm : A2 → List Nat
 | .ptr m _ _ => [m]
 | .sm m _ _ => [m]
 | .mp m => [m]
 | .ptq m _ _ => [m]
 | _ => []
def A2.noSl : A2 → Bool
 | .sl .. => false
 | .pe .. => false
 | .fn .. => false
 | _ => true
def A2.smn : A2 → List Nat
 | .sm m _ _ => [m]
 | _ => []
def A2.ptrs : A2 → List Nat
 | .ptr m _ _ => [m]
 | .mp m => [m]
 | .ptq m _ _ => [m]
 | _ => []
def Bd.els2 : Bd → List (List A2)
 | .arr _ _ => []
 | .raw els => els
 | .map .. => []
 | .nst .. => []
 | .lnd _ _ _ x n _ => [[.sm x 0 n]]
def names2 (f : A2 → List Nat) (mem : Mem2) (m : Nat) : List Nat :=
 match mget2 mem m with
 | some b => if b.pr then [] else b.bd.els2.flatMap fun e => e.flatMap f
 | none => []
def namesV2 (f : A2 → List Nat) (vs : List V2) : List Nat := vs.flatMap fun v => v.cells.flatMap f

def renA2 (ρ : Nat → Option Nat) : A2 → Option A2
 | .ptr m i o => (ρ m).bind fun m' => some (.ptr m' i o)
 | .sm m lo n => (ρ m).bind fun m' => some (.sm m' lo n)
 | .mp m => (ρ m).bind fun m' => some (.mp m')
 | .ptq m i es => (ρ m).bind fun m' => some (.ptq m' i es)
 | x => some x
def renV2 (ρ : Nat → Option Nat) : V2 → Option V2
 | .a x => (renA2 ρ x).bind fun y => some (.a y)
 | .g cs => (mapO (renA2 ρ) cs).bind fun ys => some (.g ys)
def renB2 (ρ : Nat → Option Nat) (b : Blk2) : Option Blk2 :=
 if b.pr then some b else match b.bd with
 | .raw els => (mapO (mapO (renA2 ρ)) els).bind fun els => some { b with bd := .raw els }
 | _ => none

/-- The word that a cell of the tables is. -/
def at2 : At → Option A2
 | .int k n => some (.int k n)
 | .bool b => some (.bool b)
 | .str s => some (.str s)
 | .snil es ty => some (.snil es ty)
 | .nilp => some .nilp
 | _ => none
def zero2 (ti : TI) : Option (List A2) := mapO at2 ti.zero
/-- A type's words. -/
def codL (f : TypeId → Option Cd) : List TypeId → Option Cd
 | [] => none
 | [t] => f t
 | t :: r => (f t).bind fun a => (codL f r).bind fun b => some (.pr a b)
def cod (T : TypeId → Option TI) : Nat → TypeId → Option Cd
 | 0, _ => none
 | k + 1, t => (T t).bind fun ti => match ti.d with
  | .int k => some (.int k)
  | .bool => some .bool
  | .str => some .str
  | .sl e => (cod T k e).bind fun c => some (.sl c)
  | .st _ ts => codL (cod T k) ts
  | _ => none

structure Eff2 where
 v : Sv2
 upd : Mem2
 nn : Nat
 rd : List Nat
def Eff2.at (e : Eff2) : Eff := { v := e.v.at, upd := e.upd.at, nn := e.nn, rd := e.rd }

def const2 : Value → Option A2
 | .int k n => some (.int k n)
 | .bool b => some (.bool b)
 | .string s => some (.str s)
 | .slice none 0 0 => some (.snil 0 0)
 | .pointer none => some .nilp
 | _ => none
def ev2 (fr : List (Nat × Sv2)) : Operand → Option Sv2
 | .tmp t => lk fr t
 | .const v => (const2 v).bind fun x => some (.v (.a x))
 | .func f => some (.v (.a (.fn f [])))
 | .global _ => none
def svA2 : Sv2 → Option A2
 | .v (.a x) => some x
 | _ => none
def svV2 : Sv2 → Option V2
 | .v x => some x
 | _ => none
def asB2 : A2 → Option Bool
 | .bool b => some b
 | _ => none
def asI2 : A2 → Option Int
 | .int _ i => some i
 | _ => none
def evA2 (fr : List (Nat × Sv2)) (o : Operand) : Option A2 := (ev2 fr o).bind svA2
def evB2 (fr : List (Nat × Sv2)) (o : Operand) : Option Bool := (evA2 fr o).bind asB2
def evI2 (fr : List (Nat × Sv2)) (o : Operand) : Option Int := (evA2 fr o).bind asI2
def evV2 (fr : List (Nat × Sv2)) (o : Operand) : Option V2 := (ev2 fr o).bind svV2
def bound2 (fr : List (Nat × Sv2)) (d : Nat) : Option Operand → Option Int
 | none => some d
 | some o => evI2 fr o

def part2 (ti : TI) (e : List A2) (o : Nat) : Option V2 :=
 if ti.agg then (if o + ti.size ≤ e.length then some (.g ((e.drop o).take ti.size)) else none)
 else (e[o]?).bind fun x => some (.a x)
def put2 (cs : List A2) (o : Nat) (xs : List A2) : List A2 := cs.take o ++ xs ++ cs.drop (o + xs.length)
def fillV2 (ds : List (Nat × Nat)) : List A2 → List (Nat × V2) → Option (List A2)
 | cs, [] => some cs
 | cs, (i, v) :: r =>
  (ds[i]?).bind fun p => if v.cells.length = p.2 ∧ p.1 + p.2 ≤ cs.length then fillV2 ds (put2 cs p.1 v.cells) r else none
def fillE2 (es : Nat) : List (List A2) → List (Nat × V2) → Option (List (List A2))
 | cs, [] => some cs
 | cs, (i, v) :: r => if v.cells.length = es ∧ i < cs.length then fillE2 es (cs.set i v.cells) r else none
/-- Cells that all read as words of one type lie as words. -/
def packB (c : Option Cd) (els : List (List A2)) : Bd :=
 match c with
 | some c => match mapO c.dec els with
  | some l => .arr c l
  | none => .raw els
 | none => .raw els

/-- What is worked out at once, and handed on. -/
@[reducible] def frc {α β : Type} (x : α) (K : α → β) : β := K x
section
variable {R : Type}
def mapK {α β : Type} (f : α → (β → Option R) → Option R) : List α → (List β → Option R) → Option R
 | [], K => K []
 | x :: r, K => f x fun y => mapK f r fun ys => K (y :: ys)

def binI2 (op : BinOp) (k : IntKind) (x y : Int) (K : A2 → Option R) : Option R :=
 match op with
 | .add => K (.int k (k.wrap (x + y)))
 | .sub => K (.int k (k.wrap (x - y)))
 | .mul => K (.int k (k.wrap (x * y)))
 | .quo => if y = 0 then none else K (.int k (k.wrap (x.tdiv y)))
 | .rem => if y = 0 then none else K (.int k (x.tmod y))
 | .eql => K (.bool (x == y))
 | .neq => K (.bool (x != y))
 | .lss => K (.bool (decide (x < y)))
 | .leq => K (.bool (decide (x ≤ y)))
 | .gtr => K (.bool (decide (x > y)))
 | .geq => K (.bool (decide (x ≥ y)))
 | .and => K (.int k (k.wrap ((BitVec.ofInt k.bits x &&& BitVec.ofInt k.bits y).toNat : Int)))
 | .or => K (.int k (k.wrap ((BitVec.ofInt k.bits x ||| BitVec.ofInt k.bits y).toNat : Int)))
 | .xor => K (.int k (k.wrap ((BitVec.ofInt k.bits x ^^^ BitVec.ofInt k.bits y).toNat : Int)))
 | _ => none
def ptrEq : A2 → A2 → Option Bool
 | .nilp, .nilp => some true
 | .nilp, .ptr .. => some false
 | .nilp, .pe .. => some false
 | .ptr .., .nilp => some false
 | .pe .., .nilp => some false
 | _, _ => none
def isPtr : A2 → Bool
 | .nilp => true
 | .ptr .. => true
 | .pe .. => true
 | _ => false
def bin2 (T : TypeId → Option TI) (op : BinOp) (ty : TypeId) (a b : A2) (K : A2 → Option R) : Option R :=
 match a, b with
 | .int k x, .int k' y =>
  match op with
  | .shl => if y < 0 then none else K (.int k (k.wrap (x * 2 ^ (min y.toNat k.bits))))
  | .shr => if y < 0 then none else K (.int k (x.fdiv (2 ^ (min y.toNat k.bits))))
  | _ => if k = k' then binI2 op k x y K else none
 | .str x, .str y =>
  match op with
  | .add => if ((x.size + y.size : Nat) : Int) > IntKind.i64.max then none else K (.str (x ++ y))
  | .eql => K (.bool (x.data.toList == y.data.toList))
  | .neq => K (.bool (!(x.data.toList == y.data.toList)))
  | _ => none
 | .bool x, .bool y =>
  match tdOf T ty, op with
  | some .bool, .eql => K (.bool (x == y))
  | some .bool, .neq => K (.bool (!(x == y)))
  | _, _ => none
 | x, y =>
  if isPtr x then
  match tdOf T ty with
  | some .ptr =>
   match op with
   | .eql => (ptrEq x y).bind fun b => K (.bool b)
   | .neq => (ptrEq x y).bind fun b => K (.bool (!b))
   | _ => none
  | _ => none
  else none
def un2 (op : UnOp) (a : A2) (K : A2 → Option R) : Option R :=
 match a with
 | .int k n => match op with
  | .neg => K (.int k (k.wrap (0 - n)))
  | _ => none
 | .bool b => match op with
  | .not => K (.bool (!b))
  | _ => none
 | _ => none
def conv2 (T : TypeId → Option TI) (src dst : TypeId) (a : A2) (K : A2 → Option R) : Option R :=
 match a with
 | .int _ n => match tdOf T src, tdOf T dst with
  | some (.int _), some (.int k) => K (.int k (k.wrap n))
  | _, _ => none
 | .str s => match tdOf T src, tdOf T dst with
  | some .str, some .str => K (.str s)
  | some .str, some (.sl e) => match tdOf T e with
   | some (.int .u8) => K (.sl (.int .u8) (s.data.toList.map fun b => (b.toNat : Int)))
   | _ => none
  | _, _ => none
 | _ => none

/-- What is read of a slice. -/
inductive Src
 | nil
 | of (c : Cd) (l : List c.D)
def Src.len : Src → Nat
 | .nil => 0
 | .of _ l => l.length
def Src.rows : Src → List (List At)
 | .nil => []
 | .of c l => l.map c.at
def elsK (mem : Mem2) (es : Nat) (a : A2) (K : Src → List Nat → Option R) : Option R :=
 match a with
 | .sl c l => if c.sz = es then K (.of c l) [] else none
 | .snil .. => K .nil []
 | .sm m lo n => (mget2 mem m).bind fun b => match b.bd with
  | .arr c l => if b.es = es then if b.pr then if lo + n ≤ l.length then K (.of c ((l.drop lo).take n)) [m] else none else none else none
  | _ => none
 | _ => none

variable (c : Cfg) (CO : FuncId → List V2 → List Blk2 → (List V2 × List Blk2 → Option R) → Option R)

def frzAK (mem : Mem2) (a : A2) (K : A2 → Option R) : Option R :=
 match a with
 | .sm m lo n => (mget2 mem m).bind fun b => if b.pr then match b.bd with
  | .arr c l => if c.sz = b.es then if lo + n ≤ l.length then K (.sl c ((l.drop lo).take n)) else none else none
  | .nst c l _ => if b.es = 1 then if lo + n ≤ l.length then K (.sl (.sl c) ((l.drop lo).take n)) else none else none
  | _ => none
  else none
 | .snil es ty => (cod c.T 9 ty).bind fun d => if d.sz = es then K (.sl d []) else none
 | x => K x
def frzVK (mem : Mem2) (v : V2) (K : V2 → Option R) : Option R :=
 match v with
 | .a x => frzAK c mem x fun y => K (.a y)
 | .g cs => mapK (frzAK c mem) cs fun ys => K (.g ys)
def frzBK (mem : Mem2) (b : Blk2) (K : Blk2 → Option R) : Option R :=
 if b.pr then K b else match b.bd with
 | .raw els => mapK (mapK (frzAK c mem)) els fun els => K { b with bd := .raw els }
 | _ => none

def capOf : A2 → Option (Sigma Cd.D)
 | .int k n => some ⟨.int k, n⟩
 | .bool b => some ⟨.bool, b⟩
 | .str s => some ⟨.str, s⟩
 | .sl d l => some ⟨.sl d, l⟩
 | _ => none
def capK (mem : Mem2) : A2 → Option (Sigma Cd.D × List Nat)
 | .ptr m i o => (mget2 mem m).bind fun b => if b.pr = true then if o = 0 then match b.bd with
  | .raw els => (els[i]?).bind fun e => match e with
   | [x] => (capOf x).bind fun p => some (⟨.ref p.1, p.2⟩, [m])
   | _ => none
  | _ => none
  else none else none
 | x => (capOf x).bind fun p => some (p, [])
/-- Noughts as an array holds them. -/
def fz0K (T : TypeId → Option TI) : A2 → Option A2
 | .snil es ty => (cod T 9 ty).bind fun d => if d.sz = es then some (.sl d []) else none
 | x => some x
def fixN2 (z : List A2) : V2 → V2
 | .a (.snil a b) => match z with
  | [.snil es ty] => .a (.snil es ty)
  | _ => .a (.snil a b)
 | v => v
def smnE2 (els : List (List A2)) : List Nat := els.flatMap fun e => e.flatMap A2.smn
def arFK (mem : Mem2) (m : Nat) (v : V2) (K : V2 × List Nat → Option R) : Option R := (mget2 mem m).bind fun b =>
 if b.ar = true then frzVK c mem v fun v' => K (v', namesV2 A2.smn [v]) else K (v, [])
def fz2 (mem : Mem2) : List Nat → Mem2
 | [] => []
 | m :: r => (match mget2 mem m with | some b => (m, some { bd := b.bd, es := b.es, ty := b.ty, pr := b.pr, fz := true, ar := b.ar }) :: fz2 mem r | none => fz2 mem r)
def zip2 : List Nat → List Blk2 → Mem2
 | n :: r, b :: s => (n, some b) :: zip2 r s
 | _, _ => []
def res2 : List V2 → Sv2
 | [x] => .v x
 | xs => .t xs
def blk2K (mu : Bool) (mem mem1 : Mem2) (ρ : Nat → Option Nat) (m : Nat) (K : Blk2 → Option R) : Option R :=
 (mget2 mem1 m).bind fun b => (fun K => if mu then K b else frzBK c mem b K) fun b => (renB2 ρ b).bind K

def flatC : Cd → Bool
 | .sl _ => false
 | .ref _ => false
 | .pr a b => flatC a && flatC b
 | _ => true
def flatB2 (b : Blk2) : Bool := !b.fz && match b.bd with
 | .arr c _ => flatC c
 | .raw els => els.all fun e => e.all A2.noSl
 | _ => false
/-- A block that owns inner slices. -/
def nests2 (mem : Mem2) (m : Nat) : Bool := match mget2 mem m with
 | some b => b.bd.ow.isSome
 | none => false
def lent2 (l : Bool) (N : List Nat) (rs : List V2) (bs : List Blk2) (u : Mem2) : Option Mem2 :=
 if l then (if N.isEmpty && (rs.all (fun v => v.cells.all A2.noSl) && bs.all flatB2) then some [] else none)
 else some (if bs.isEmpty && rs.all (fun v => v.cells.all A2.noSl) then [] else u)
def callK (f : FuncId) (args : List V2) (mem : Mem2) (nx : Nat) (K : Eff2 → Option R) : Option R :=
 (fun K => if c.mutA f then K args else mapK (frzVK c mem) args K) fun vals =>
 frc (clo (if c.mutA f then names2 A2.nm mem else names2 A2.ptrs mem) 64 (namesV2 A2.nm vals) []) fun N =>
 frc (if c.mutA f then [] else namesV2 A2.smn args ++ N.flatMap (names2 A2.smn mem)) fun F =>
 frc (upd2 mem (fz2 mem F)) fun mem1 =>
 if N.any (nests2 mem1) = true then none else
 mapK (blk2K c (c.mutA f) mem mem1 (idx N)) N fun blks =>
  (mapO (renV2 (idx N)) vals).bind fun vals' =>
  CO f vals' blks fun r =>
  frc (N ++ cnt nx (r.2.drop N.length)) fun NL =>
  (mapO (renV2 (fun i => NL[i]?)) r.1).bind fun rs =>
   (mapO (renB2 (fun i => NL[i]?)) r.2).bind fun bs =>
   (lent2 (c.lend f) N r.1 r.2 (fz2 mem F)).bind fun lu =>
   K { v := res2 rs, upd := lu ++ zip2 NL bs, nn := nx + (r.2.length - N.length), rd := N ++ F }

/-- What stands ahead of what is appended: typed words, how many, the block. -/
def appK (t : TypeId) (s x : A2) (mem : Mem2) (nx : Nat) (K : Eff2 → Option R) : Option R :=
 match tdOf c.T t with
 | some (.sl e) => (c.T e).bind fun te =>
  if 0 < te.size ∧ 0 < te.bytes ∧ te.zero.length = te.size then
  elsK mem te.size x fun src srd =>
  match s with
  | .snil .. => match src with
   | .nil => (cod c.T 9 e).bind fun d => K { v := .v (.a (.sm nx 0 0)), upd := [(nx, some ⟨.arr d [], te.size, e, true, false, true⟩)], nn := nx + 1, rd := srd }
   | .of d l => if l.length * te.bytes ≤ 140737488355328 then K { v := .v (.a (.sm nx 0 l.length)), upd := [(nx, some ⟨.arr d l, te.size, e, true, false, true⟩)], nn := nx + 1, rd := srd } else none
  | .sm m lo n => (mget2 mem m).bind fun b => match b.bd with
   | .arr d l => if b.es = te.size ∧ b.ty = e ∧ b.fz = false ∧ b.pr = true then if lo = 0 then if n ≤ l.length then
    match src with
    | .nil => if n * te.bytes ≤ 140737488355328 then K { v := .v (.a (.sm nx 0 n)), upd := [(m, none), (nx, some ⟨.arr d (l.take n), te.size, e, true, false, true⟩)], nn := nx + 1, rd := m :: srd } else none
    | .of d' l' => (castL d' d l').bind fun l' => if (n + l'.length) * te.bytes ≤ 140737488355328 then
     K { v := .v (.a (.sm nx 0 (n + l'.length))), upd := [(m, none), (nx, some ⟨.arr d (l.take n ++ l'), te.size, e, true, false, true⟩)], nn := nx + 1, rd := m :: srd } else none
    else none else none else none
   | _ => none
  | _ => none
  else none
 | _ => none

def clearK (t : TypeId) (a : A2) (mem : Mem2) (nx : Nat) (K : Eff2 → Option R) : Option R :=
 match tdOf c.T t with
 | some (.sl e) => (c.T e).bind fun te => (zero2 te).bind fun z1 => (mapO (fz0K c.T) z1).bind fun z =>
  match a with
  | .snil .. => K { v := .t [], upd := [], nn := nx, rd := [] }
  | .sm m lo n => (mget2 mem m).bind fun b => match b.bd with
   | .arr d l => if b.es = te.size ∧ b.fz = false ∧ z.length = te.size ∧ 0 < te.size then (d.dec z).bind fun z0 =>
    if lo + n ≤ l.length then
    K { v := .t [], upd := [(m, some ⟨.arr d (l.take lo ++ List.replicate n z0 ++ l.drop (lo + n)), b.es, b.ty, b.pr, b.fz, b.ar⟩)], nn := nx, rd := [m] } else none else none
   | _ => none
  | _ => none
 | _ => none
def val2 (v : V2) (nx : Nat) (K : Eff2 → Option R) : Option R := K { v := .v v, upd := [], nn := nx, rd := [] }
def valA2 (nx : Nat) (K : Eff2 → Option R) (x : A2) : Option R := K { v := .v (.a x), upd := [], nn := nx, rd := [] }
def evP2 (fr : List (Nat × Sv2)) (p : Nat × Operand) : Option (Nat × V2) := (evV2 fr p.2).bind fun v => some (p.1, v)

/-- The inner slice that has a name comes home. -/
def home2K (mem : Mem2) (d : Cd) (q : TypeId × Nat) (x n : Nat) (K : List d.D → Option R) : Option R := (mget2 mem x).bind fun b => match b.bd with
 | .arr d' rx => if b.pr = true ∧ b.fz = false ∧ b.es = q.2 ∧ b.ty = q.1 ∧ d.sz = q.2 then if n ≤ rx.length then (castL d' d rx).bind fun rx => K (rx.take n) else none else none
 | _ => none
/-- An inner slice gets a name of its own. -/
def outK (t : TypeId) (m i es : Nat) (mem : Mem2) (nx : Nat) (K : Eff2 → Option R) : Option R := (mget2 mem m).bind fun B => match tdOf c.T t with
 | some (.sl e2) => if B.es = es ∧ es = 1 ∧ B.fz = false then match B.bd with
  | .nst d l q => if e2 = q.1 ∧ d.sz = q.2 then (l[i]?).bind fun rows =>
   K { v := .v (.a (.sm nx 0 rows.length)), upd := [(m, some ⟨.lnd d l i nx rows.length q, B.es, B.ty, false, B.fz, B.ar⟩), (nx, some ⟨.arr d rows, q.2, q.1, true, false, true⟩)], nn := nx + 1, rd := [m] } else none
  | .lnd d l j x n q => if e2 = q.1 ∧ d.sz = q.2 then home2K mem d q x n fun rx => frc (tset l j rx) fun l => (l[i]?).bind fun rows =>
   K { v := .v (.a (.sm nx 0 rows.length)), upd := [(x, none), (m, some ⟨.lnd d l i nx rows.length q, B.es, B.ty, false, B.fz, B.ar⟩), (nx, some ⟨.arr d rows, q.2, q.1, true, false, true⟩)], nn := nx + 1, rd := [m, x] } else none
  | _ => none
  else none
 | _ => none
/-- An own slice is laid into a block that owns its inner ones. -/
def intoK (t : TypeId) (m i es : Nat) (v : V2) (mem : Mem2) (nx : Nat) (K : Eff2 → Option R) : Option R := (mget2 mem m).bind fun B => match v, tdOf c.T t with
 | .a (.sm y 0 n), some (.sl e2) => if B.es = es ∧ es = 1 ∧ B.fz = false ∧ y ≠ m then match B.bd with
  | .nst d l q => if e2 = q.1 then if i < l.length then K { v := .u, upd := [(m, some ⟨.lnd d l i y n q, B.es, B.ty, false, B.fz, B.ar⟩)], nn := nx, rd := [m] } else none else none
  | .lnd d l j _ _ q => if e2 = q.1 then if j = i then if i < l.length then K { v := .u, upd := [(m, some ⟨.lnd d l i y n q, B.es, B.ty, false, B.fz, B.ar⟩)], nn := nx, rd := [m] } else none else none else none
  | _ => none
  else none
 | _, _ => none
/-- What is made: a row of words; rows that own their inner ones. -/
def mkB (q : Option (TypeId × Nat)) (k : Nat) : (d : Cd) → d.D → Option Bd := match q with
 | none => fun d z => some (.arr d (List.replicate k z))
 | some q => fun d => match d with
  | .sl d => fun z => some (.nst d (List.replicate k z) q)
  | _ => fun _ => none
def max2K (a b : A2) (nx : Nat) (K : Eff2 → Option R) : Option R :=
 match a, b with
 | .int k x, .int _ y => val2 (.a (.int k (max x y))) nx K
 | _, _ => none
def min2K (a b : A2) (nx : Nat) (K : Eff2 → Option R) : Option R :=
 match a, b with
 | .int k x, .int _ y => val2 (.a (.int k (min x y))) nx K
 | _, _ => none

def gOf2 (fr : List (Nat × Sv2)) (o : Operand) : Option (List A2) :=
 match ev2 fr o with
 | some (.v (.g cs)) => some cs
 | _ => none
/-- Cells of whole numbers: as many, and of the same kinds. -/
def eqOk : List A2 → List A2 → Bool
 | [], [] => true
 | .int k _ :: r, .int k2 _ :: s => match decide (k = k2) with
  | true => eqOk r s
  | false => false
 | _, _ => false
def eqK : List A2 → List A2 → (Bool → Option R) → Option R
 | .int _ x :: r, .int _ y :: s, K => if (x == y) = true then eqK r s K else K false
 | _, _, K => K true
def eqGK (op : BinOp) (ti : TI) (cs : List A2) (v : V2) (nx : Nat) (K : Eff2 → Option R) : Option R :=
 match ti.d, v with
 | .st fs _, .g ds => if ti.eqs = true ∧ fs.length = cs.length then match eqOk cs ds with
  | true => eqK cs ds fun b => match op with
   | .eql => val2 (.a (.bool b)) nx K
   | .neq => val2 (.a (.bool (!b))) nx K
   | _ => none
  | false => none
  else none
 | _, _ => none
/-- One of some cells, by a number that is not known. -/
def idxK (i : Int) : List A2 → (A2 → Option R) → Option R
 | [], _ => none
 | x :: r, K => if i = 0 then K x else idxK (i - 1) r K
def mputK (t : TypeId) (a key v : A2) (mem : Mem2) (nx : Nat) (K : Eff2 → Option R) : Option R :=
 match a with
 | .mp m => (mget2 mem m).bind fun b => match b.bd with
  | .map kc vc l => match tdOf c.T t with
   | some (.mp kt _) => (tdOf c.T kt).bind fun d => if kcOk d kc = true ∧ b.fz = false then (kc.dec [key]).bind fun kx => (vc.dec [v]).bind fun vx =>
    K { v := .u, upd := [(m, some ⟨.map kc vc (mapS kc vc l kx vx), b.es, b.ty, b.pr, b.fz, b.ar⟩)], nn := nx, rd := [m] } else none
   | _ => none
  | _ => none
 | _ => none
def mlookK (t : TypeId) (a key : A2) (ok : Bool) (mem : Mem2) (nx : Nat) (K : Eff2 → Option R) : Option R :=
 match a with
 | .mp m => (mget2 mem m).bind fun b => match b.bd with
  | .map kc vc l => match tdOf c.T t with
   | some (.mp kt et) => (tdOf c.T kt).bind fun d => if kcOk d kc = true then (kc.dec [key]).bind fun kx => (c.T et).bind fun te =>
    if ok = false ∧ te.agg = false ∧ te.size = 1 ∧ te.zero.length = te.size then (zero2 te).bind fun z => (vc.dec z).bind fun z0 =>
     K { v := .v (.a ((vc.cl (mapG kc vc l kx z0)).headD .nilp)), upd := [], nn := nx, rd := [m] } else none else none
   | _ => none
  | _ => none
 | _ => none
def stpK (o : Oper) (fr : List (Nat × Sv2)) (mem : Mem2) (nx : Nat) (K : Eff2 → Option R) : Option R :=
 match o.op with
 | .move x | .assign x =>
  (ev2 fr x).bind fun v =>
  match v with
  | .v (.a (.snil ..)) => match tdOf c.T o.type with
   | some (.sl e) => (c.T e).bind fun te => val2 (.a (.snil te.size e)) nx K
   | _ => none
  | .u => none
  | v => K { v := v, upd := [], nn := nx, rd := [] }
 | .pick k a b =>
  (evB2 fr k).bind fun t => if t = true then (evA2 fr a).bind (valA2 nx K) else (evA2 fr b).bind (valA2 nx K)
 | .alloc t => (c.T t).bind fun ti => (zero2 ti).bind fun z =>
  if z.length = ti.size ∧ ti.size ≠ 0 then K { v := .v (.a (.ptr nx 0 0)), upd := [(nx, some ⟨.raw [z], ti.size, t, true, false, false⟩)], nn := nx + 1, rd := [] } else none
 | .box t x => (c.T t).bind fun ti => (evV2 fr x).bind fun v =>
  if v.cells.length = ti.size ∧ ti.size ≠ 0 then
  K { v := .v (.a (.ptr nx 0 0)), upd := [(nx, some ⟨.raw [v.cells], ti.size, t, v.cells.all A2.pr, false, false⟩)], nn := nx + 1, rd := [] } else none
 | .makeMap t r => if r.isNone = true then match tdOf c.T t with
  | some (.mp kt et) => (cod c.T 9 kt).bind fun kc => (cod c.T 9 et).bind fun vc =>
   K { v := .v (.a (.mp nx)), upd := [(nx, some ⟨.map kc vc [], 0, t, true, false, true⟩)], nn := nx + 1, rd := [] }
  | _ => none
  else none
 | .lookup t x k ok => (evA2 fr x).bind fun a => (evA2 fr k).bind fun key => mlookK c t a key ok mem nx K
 | .mapUpdate t x k y => (evA2 fr x).bind fun a => (evA2 fr k).bind fun key => (evA2 fr y).bind fun v => mputK c t a key v mem nx K
 | .insert t x k y => (evA2 fr x).bind fun a => (evA2 fr k).bind fun key => (evA2 fr y).bind fun v => mputK c t a key v mem nx K
 | .build t parts => (c.T t).bind fun ti =>
  match ti.d with
  | .st fs _ => (zero2 ti).bind fun z => if z.length = ti.size then (mapO (evP2 fr) parts.toList).bind fun ps =>
   (fillV2 fs z ps).bind fun cs => val2 (.g cs) nx K else none
  | .arr n e => (c.T e).bind fun te => (zero2 ti).bind fun z => if z.length = ti.size then (mapO (evP2 fr) parts.toList).bind fun ps =>
   (fillV2 ((List.range n).map fun j => (j * te.size, te.size)) z ps).bind fun cs => val2 (.g cs) nx K else none
  | _ => none
 | .buildSlice t len parts =>
  match tdOf c.T t with
  | some (.sl e) => (c.T e).bind fun te => (zero2 te).bind fun z =>
   (mapO (evP2 fr) parts.toList).bind fun ps =>
   (fillE2 te.size (List.replicate len z) (ps.map fun p => (p.1, fixN2 z p.2))).bind fun els0 =>
   mapK (mapK (frzAK c mem)) els0 fun els =>
   if len * te.size ≤ 16777216 ∧ 0 < te.size ∧ len < 9223372036854775807 ∧ z.length = te.size then
   K { v := .v (.a (.sm nx 0 len)), upd := fz2 mem (smnE2 els0) ++ [(nx, some ⟨packB (cod c.T 9 e) els, te.size, e, els.all fun e => e.all A2.pr, false, true⟩)], nn := nx + 1, rd := smnE2 els0 }
   else none
  | _ => none
 | .load t x => (c.T t).bind fun ti => (evA2 fr x).bind fun a =>
  match a with
  | .ptr m i o => (mget2 mem m).bind fun b => match b.bd with
   | .raw els => (els[i]?).bind fun e => (part2 ti e o).bind fun v => K { v := .v v, upd := [], nn := nx, rd := [m] }
   | .arr d l => (l[i]?).bind fun e => (part2 ti (d.cl e) o).bind fun v => K { v := .v v, upd := [], nn := nx, rd := [m] }
   | _ => none
  | .ptq m i es => outK c t m i es mem nx K
  | .pe d e o => (part2 ti (d.cl e) o).bind fun v => val2 v nx K
  | _ => none
 | .store t x y => (c.T t).bind fun ti => (evV2 fr y).bind fun v => (evA2 fr x).bind fun a =>
  match a with
  | .ptr m i o => arFK c mem m v fun q => frc (upd2 mem (fz2 mem q.2)) fun mem1 => (mget2 mem1 m).bind fun b => match b.bd with
   | .raw els => (els[i]?).bind fun e => if q.1.cells.length = ti.size ∧ o + ti.size ≤ e.length ∧ b.fz = false then
    K { v := .u, upd := fz2 mem q.2 ++ [(m, some ⟨.raw (els.set i (put2 e o q.1.cells)), b.es, b.ty, b.pr && q.1.cells.all A2.pr, b.fz, b.ar⟩)], nn := nx, rd := m :: q.2 } else none
   | .arr d l => (l[i]?).bind fun e => if q.1.cells.length = ti.size ∧ o + ti.size ≤ (d.cl e).length ∧ b.fz = false ∧ b.pr = true then
    (d.dec (put2 (d.cl e) o q.1.cells)).bind fun e' => K { v := .u, upd := fz2 mem q.2 ++ [(m, some ⟨.arr d (l.set i e'), b.es, b.ty, b.pr && q.1.cells.all A2.pr, b.fz, b.ar⟩)], nn := nx, rd := m :: q.2 } else none
   | _ => none
  | .ptq m i es => if ti.size = 1 then intoK c t m i es v mem nx K else none
  | _ => none
 | .nilCheck x => (evA2 fr x).bind fun a =>
  match a with
  | .ptr m i o => val2 (.a (.ptr m i o)) nx K
  | .pe d e o => val2 (.a (.pe d e o)) nx K
  | .ptq m i es => val2 (.a (.ptq m i es)) nx K
  | _ => none
 | .binOp op ty x y _ => match gOf2 fr x with
  | some cs => (c.T ty).bind fun ti => (evV2 fr y).bind fun v => eqGK op ti cs v nx K
  | none => (evA2 fr x).bind fun a => (evA2 fr y).bind fun b => bin2 c.T op ty a b (valA2 nx K)
 | .unOp op _ x => (evA2 fr x).bind fun a => un2 op a (valA2 nx K)
 | .convert src dst x => (evA2 fr x).bind fun a =>
  match tdOf c.T src, tdOf c.T dst with
  | some (.sl e), some .str => match tdOf c.T e with
   | some (.int .u8) => elsK mem 1 a fun q rd => match q with
    | .nil => K { v := .v (.a (.str ⟨#[]⟩)), upd := [], nn := nx, rd := rd }
    | .of (.int .u8) l => K { v := .v (.a (.str ⟨(l.map fun n : Int => n.toNat.toUInt8).toArray⟩)), upd := [], nn := nx, rd := rd }
    | _ => none
   | _ => none
  | _, _ => conv2 c.T src dst a (valA2 nx K)
 | .makeSlice t l k =>
  match tdOf c.T t with
  | some (.sl e) => (c.T e).bind fun te => (zero2 te).bind fun z1 => (mapO (fz0K c.T) z1).bind fun z => (cod c.T 9 e).bind fun d => (d.dec z).bind fun z0 =>
   (evI2 fr l).bind fun l => (evI2 fr k).bind fun k =>
    if 0 < te.size ∧ 0 < te.bytes ∧ z.length = te.size then
    if 0 ≤ l ∧ l ≤ k ∧ k * te.bytes ≤ 140737488355328 then
     (mkB (nestOf c e) k.toNat d z0).bind fun bd => K { v := .v (.a (.sm nx 0 l.toNat)), upd := [(nx, some ⟨bd, te.size, e, true, false, true⟩)], nn := nx + 1, rd := [] }
    else none else none
  | _ => none
 | .slice t x lo hi mx =>
  if mx.isSome then none else
  (tdOf c.T t).bind fun td => (evA2 fr x).bind fun a =>
  match td, a with
  | .str, .str s =>
   (bound2 fr 0 lo).bind fun l => (bound2 fr s.size hi).bind fun h =>
   if 0 ≤ l ∧ l ≤ h ∧ h ≤ s.size then val2 (.a (.str (s.extract l.toNat h.toNat))) nx K else none
  | .sl e, .sl d els => (c.T e).bind fun te =>
   (bound2 fr 0 lo).bind fun l => (bound2 fr els.length hi).bind fun h =>
   if d.sz = te.size then if 0 ≤ l ∧ l ≤ h ∧ h ≤ els.length then val2 (.a (.sl d ((els.drop l.toNat).take (h.toNat - l.toNat)))) nx K else none else none
  | .sl e, .sm m b n => (c.T e).bind fun te =>
   (mget2 mem m).bind fun B => match B.bd with
   | .arr _ els =>
    (bound2 fr 0 lo).bind fun l => (bound2 fr n hi).bind fun h =>
    if B.es = te.size ∧ 0 < te.size then if 0 ≤ l ∧ l ≤ h ∧ b + h.toNat ≤ els.length ∧ (l < h ∨ lo.isNone = true) then K { v := .v (.a (.sm m (b + l.toNat) (h.toNat - l.toNat))), upd := [], nn := nx, rd := [m] } else none else none
   | .raw els =>
    (bound2 fr 0 lo).bind fun l => (bound2 fr n hi).bind fun h =>
    if B.es = te.size ∧ 0 < te.size then if 0 ≤ l ∧ l ≤ h ∧ b + h.toNat ≤ els.length ∧ (l < h ∨ lo.isNone = true) then K { v := .v (.a (.sm m (b + l.toNat) (h.toNat - l.toNat))), upd := [], nn := nx, rd := [m] } else none else none
   | _ => none
  | _, _ => none
 | .fieldAddr s x f =>
  match tdOf c.T s with
  | some (.st fs _) => (fs[f]?).bind fun p =>
   if p.2 = 0 then none else (evA2 fr x).bind fun a =>
   match a with
   | .ptr m i o => val2 (.a (.ptr m i (o + p.1))) nx K
   | .pe d e o => val2 (.a (.pe d e (o + p.1))) nx K
   | _ => none
  | _ => none
 | .field s x f =>
  match tdOf c.T s with
  | some (.st fs ts) => (fs[f]?).bind fun p => (ts[f]?).bind fun ft => (evV2 fr x).bind fun v =>
   match v with
   | .g cs => (c.T ft).bind fun ti => (part2 ti cs p.1).bind fun v => val2 v nx K
   | _ => none
  | _ => none
 | .indexAddr t x i =>
  match tdOf c.T t with
  | some (.sl e) => (c.T e).bind fun te => (evI2 fr i).bind fun i => (evA2 fr x).bind fun a =>
   match a with
   | .sl d els => if d.sz = te.size then if 0 ≤ i then (els[i.toNat]?).bind fun el => val2 (.a (.pe d el 0)) nx K else none else none
   | .sm m b n => if c.nest e = true then (if b = 0 then if 0 ≤ i ∧ i < n then val2 (.a (.ptq m i.toNat te.size)) nx K else none else none) else (mget2 mem m).bind fun B => if B.es = te.size then if 0 ≤ i ∧ i < n then K { v := .v (.a (.ptr m (b + i.toNat) 0)), upd := [], nn := nx, rd := [m] } else none else none
   | _ => none
  | _ => none
 | .index t x i => match gOf2 fr x with
  | some cs => (c.T t).bind fun ti => (evI2 fr i).bind fun i => match ti.d with
   | .arr n e => (c.T e).bind fun te => if te.size = 1 ∧ te.agg = false ∧ cs.length = n then idxK i cs (fun x => val2 (.a x) nx K) else none
   | _ => none
  | none => (tdOf c.T t).bind fun td => (evA2 fr x).bind fun a => (evI2 fr i).bind fun i =>
  match td, a with
  | .str, .str s =>
   if 0 ≤ i then (s.data[i.toNat]?).bind fun b => val2 (.a (.int .u8 b.toNat)) nx K else none
  | _, _ => none
 | .extract x i => (ev2 fr x).bind fun v =>
  match v with
  | .t vs => (vs[i]?).bind fun v => val2 v nx K
  | _ => none
 | .call k =>
  match k.callee with
  | .builtin .len =>
   ((k.argTypes[0]?).bind fun t => tdOf c.T t).bind fun td => ((k.args[0]?).bind fun o => evA2 fr o).bind fun a =>
   match td, a with
   | .str, .str s => val2 (.a (.int .i64 s.size)) nx K
   | .sl _, .sl _ l => val2 (.a (.int .i64 l.length)) nx K
   | .sl _, .sm _ _ n => val2 (.a (.int .i64 n)) nx K
   | .sl _, .snil .. => val2 (.a (.int .i64 0)) nx K
   | .mp .., .mp m => (mget2 mem m).bind fun b => match b.bd with
    | .map _ _ l => K { v := .v (.a (.int .i64 l.length)), upd := [], nn := nx, rd := [m] }
    | _ => none
   | _, _ => none
  | .builtin .min =>
   ((k.args[0]?).bind fun o => evA2 fr o).bind fun a => ((k.args[1]?).bind fun o => evA2 fr o).bind fun b =>
   if k.args.size = 2 then min2K a b nx K else none
  | .builtin .max =>
   ((k.args[0]?).bind fun o => evA2 fr o).bind fun a => ((k.args[1]?).bind fun o => evA2 fr o).bind fun b =>
   if k.args.size = 2 then max2K a b nx K else none
  | .builtin .append =>
   (k.argTypes[0]?).bind fun t => (k.argTypes[1]?).bind fun t' => ((k.args[0]?).bind fun o => evA2 fr o).bind fun s => ((k.args[1]?).bind fun o => evA2 fr o).bind fun x =>
   if t' = t then appK c t s x mem nx K else none
  | .builtin .clear =>
   (k.argTypes[0]?).bind fun t => ((k.args[0]?).bind fun o => evA2 fr o).bind fun a => clearK c t a mem nx K
  | .builtin _ => none
  | .value f =>
   (evA2 fr f).bind fun a => match a with
   | .fn g cs => (mapO (evV2 fr) k.args.toList).bind fun args => callK c CO g (args ++ cs.flatMap fun p => (p.1.cl p.2).map V2.a) mem nx K
   | _ => none
  | .invoke .. => none
 | .makeFunc fn first cs => if first.isEmpty = true then match fn with
  | .func f => (mapO (evA2 fr) cs.toList).bind fun xs => (mapO (capK mem) xs).bind fun ps =>
   K { v := .v (.a (.fn f (ps.map (·.1)))), upd := fz2 mem (ps.flatMap (·.2)), nn := nx, rd := ps.flatMap (·.2) }
  | _ => none
  else none
 | _ => none

inductive Out2 where
 | norm (σ : St2)
 | exit (id : Nat) (σ : St2)
 | ret (σ : St2)

def putK2 (nt : Nat) (d : Option Nat) (v : Sv2) (fr : List (Nat × Sv2)) (K : List (Nat × Sv2) → Option R) : Option R :=
 match d with
 | some d => if d < nt then K ((d, v) :: fr) else none
 | none => K fr
def didK2 (nt : Nat) (o : Oper) (σ : St2) (is : List Info) (K : St2 → List Info → Option R) : Option R :=
 stpK c CO o σ.fr σ.mem σ.nx fun e =>
 putK2 nt o.dst e.v σ.fr fun fr => K { fr := fr, mem := upd2 σ.mem e.upd, nx := e.nn } ({ rd := e.rd, wr := e.upd.map (·.1) } :: is)
def skipK2 (nt : Nat) (o : Oper) (σ : St2) (is : List Info) (K : St2 → List Info → Option R) : Option R :=
 putK2 nt o.dst .u σ.fr fun fr => K { fr := fr, mem := σ.mem, nx := σ.nx } ({ rd := [], wr := [] } :: is)
/-- A truth that is now known. -/
def know (d : Nat) (b : Bool) (σ : St2) : St2 := { σ with fr := (d, .v (.a (.bool b))) :: σ.fr }
def wantK2 (nt : Nat) (ops : List Oper) (o : Oper) (σ : St2) (is : List Info) (K : St2 → List Info → Option R) : Option R :=
 match o.guard with
 | none => didK2 c CO nt o σ is K
 | some (j, want) =>
  ((ops[j]?).bind (·.dst)).bind fun d =>
  (lk σ.fr d).bind fun v =>
  match v with
  | .v (.a (.bool b)) => if b = want then didK2 c CO nt o (know d want σ) is K else skipK2 nt o (know d (!want) σ) is K
  | _ => skipK2 nt o σ is K
def runOps2 (nt : Nat) (ops : List Oper) : List Oper → St2 → List Info → (St2 → List Info → Option R) → Option R
 | [], σ, is, K => K σ is
 | o :: r, σ, is, K => wantK2 c CO nt ops o σ is fun σ is => runOps2 nt ops r σ is K

/-- All inner slices come home. -/
def home2 (mem : Mem2) (m : Nat) (K : Mem2 → Option R) : Option R := match mget2 mem m with
 | some b => match b.bd with
  | .lnd d l i x n q => if b.pr = false ∧ b.fz = false then home2K mem d q x n fun rx => K (upd2 mem [(x, none), (m, some ⟨.nst d (tset l i rx) q, b.es, b.ty, true, b.fz, b.ar⟩)]) else none
  | .nst _ _ _ => if b.pr = true then K mem else none
  | _ => K mem
 | none => K mem
def homes2 : List Nat → Mem2 → (Mem2 → Option R) → Option R
 | [], mem, K => K mem
 | m :: r, mem, K => home2 mem m fun mem => homes2 r mem K
def noNst (p : Nat × Option Blk2) : Bool := match p.2 with
 | some b => !b.bd.ow.isSome
 | none => true
def homed2 (nx : Nat) (mem : Mem2) (K : Mem2 → Option R) : Option R := if mem.all noNst = true then K mem else homes2 (List.range nx) mem K
def homeO (K : Out2 → Option R) : Out2 → Option R
 | .norm σ => homed2 σ.nx σ.mem fun mem => K (.norm { fr := σ.fr, mem := mem, nx := σ.nx })
 | .exit i σ => K (.exit i σ)
 | .ret σ => K (.ret σ)
variable (LO : Nat → Code → St2 → (Out2 → Option R) → Option R)
def run2 (nt : Nat) : Nat → Code → St2 → (Out2 → Option R) → Option R
 | _, .skip, σ, K => K (.norm σ)
 | _, .region _ ops draw, σ, K => runOps2 c CO nt ops.toList ops.toList σ [] fun σ' is => if (draw && !(okDraw ops.toList is.reverse)) = true then none else K (.norm σ')
 | b, .seq x y, σ, K => run2 nt b x σ fun
  | .norm σ' => run2 nt b y σ' K
  | o => K o
 | b, .cond (.tmp t) x y, σ, K => (lk σ.fr t).bind fun v =>
  match v with
  | .v (.a (.bool q)) => if q = true then run2 nt b x (know t true σ) K else run2 nt b y (know t false σ) K
  | _ => none
 | b, .cond o x y, σ, K => (evB2 σ.fr o).bind fun q => if q = true then run2 nt b x σ K else run2 nt b y σ K
 | _, .block id x, σ, K => run2 nt id x σ fun
  | .exit i σ' => if i = id then K (.norm σ') else K (.exit i σ')
  | o => K o
 | b, .loop x, σ, K => homed2 σ.nx σ.mem fun mem => LO b x { fr := σ.fr, mem := mem, nx := σ.nx } K
 | _, .exit id, σ, K => K (.exit id σ)
 | _, .ret, σ, K => K (.ret σ)
 | _, .rangeFunc .., _, _ => none
 | _, .scope _, _, _ => none
 | _, .label _, _, _ => none
 | _, .goto _, _, _ => none
 | _, .refuse _, _, _ => none
end

def ownA2 (T : TypeId → Option TI) (nx : Nat) : A2 → A2 × Mem2 × Nat
 | .snil es ty => (.sm nx 0 0, [(nx, some ⟨match cod T 9 ty with | some d => .arr d [] | none => .raw [], es, ty, true, false, true⟩)], nx + 1)
 | x => (x, [], nx)
def ownL2 (T : TypeId → Option TI) : Nat → List A2 → List A2 × Mem2 × Nat
 | nx, [] => ([], [], nx)
 | nx, x :: r => (fun p => (fun q => (p.1 :: q.1, p.2.1 ++ q.2.1, q.2.2)) (ownL2 T p.2.2 r)) (ownA2 T nx x)
def keepL2 (T : TypeId → Option TI) (σ : St2) : List Kp → Option (List (Nat × V2) × Mem2 × Nat)
 | [] => some ([], [], σ.nx)
 | .s t :: r => (keepL2 T σ r).bind fun q =>
  match lk σ.fr t with
  | some (.v (.a x)) => (fun p => some ((t, .a p.1) :: q.1, q.2.1 ++ p.2.1, p.2.2)) (ownA2 T q.2.2 x)
  | some (.v (.g cs)) => (fun p => some ((t, .g p.1) :: q.1, q.2.1 ++ p.2.1, p.2.2)) (ownL2 T q.2.2 cs)
  | _ => none
 | .b t :: r => (keepL2 T σ r).bind fun q =>
  match lk σ.fr t with
  | some (.v (.a (.ptr m 0 o))) => (mget2 (upd2 σ.mem q.2.1) m).bind fun b =>
   match b.bd with
   | .raw [e] => (fun p => some ((t, .a (.ptr m 0 o)) :: q.1, q.2.1 ++ (p.2.1 ++ [(m, some ⟨.raw [p.1], b.es, b.ty, p.1.all A2.pr, b.fz, b.ar⟩)]), p.2.2)) (ownL2 T q.2.2 e)
   | _ => none
  | _ => none
def renS2 (ρ : Nat → Option Nat) : List (Nat × V2) → Option (List (Nat × Sv2))
 | [] => some []
 | (t, x) :: r => (renV2 ρ x).bind fun y => (renS2 ρ r).bind fun s => some ((t, .v y) :: s)
def head2 (T : TypeId → Option TI) (p : Nat) (ks : List Kp) (σ : St2) : Option St2 :=
 (keepL2 T σ ks).bind fun q =>
 frc (upd2 σ.mem q.2.1) fun mem =>
 frc (clo (names2 A2.nm mem) 64 (List.range p ++ namesV2 A2.nm (q.1.map (·.2))) []) fun N =>
 (renS2 (idx N) q.1).bind fun fr =>
  (mapO (fun m => (mget2 mem m).bind (renB2 (idx N))) N).bind fun bs =>
  if N.take p = List.range p then some { fr := fr, mem := zip2 (List.range N.length) bs, nx := N.length } else none

section
variable {R : Type} (c : Cfg)
def resOf2 (σ : St2) : ResultVar → Option V2
 | .tmp t => evV2 σ.fr (.tmp t)
 | .cell a t => (c.T t).bind fun ti =>
  (evA2 σ.fr (.tmp a)).bind fun x => match x with
  | .ptr m i o => (mget2 σ.mem m).bind fun b => match b.bd with
   | .raw els => (els[i]?).bind fun e => part2 ti e o
   | _ => none
  | _ => none
def ownVs2 (T : TypeId → Option TI) : Nat → List V2 → List V2 × Mem2 × Nat
 | nx, [] => ([], [], nx)
 | nx, .a x :: r => (fun p => (fun q => (.a p.1 :: q.1, p.2.1 ++ q.2.1, q.2.2)) (ownVs2 T p.2.2 r)) (ownA2 T nx x)
 | nx, .g cs :: r => (fun p => (fun q => (.g p.1 :: q.1, p.2.1 ++ q.2.1, q.2.2)) (ownVs2 T p.2.2 r)) (ownL2 T nx cs)
def finishK (f : FuncId) (rvs : List ResultVar) (p : Nat) (σ : St2) (K : List V2 × List Blk2 → Option R) : Option R :=
 (mapO (resOf2 c σ) rvs).bind fun rs0 =>
 frc (if c.ownR f then ownVs2 c.T σ.nx rs0 else (rs0, [], σ.nx)) fun q =>
 frc (upd2 σ.mem q.2.1) fun mem =>
 (fun K => if c.ownR f then K q.1 else mapK (frzVK c mem) rs0 K) fun rs =>
 frc (clo (if c.mutA f then names2 A2.nm mem else names2 A2.ptrs mem) 64 (List.range p ++ namesV2 A2.nm rs) []) fun N =>
 frc ((if c.ownR f then [] else namesV2 A2.smn rs0) ++ (if c.mutA f then [] else N.flatMap (names2 A2.smn mem))) fun F =>
 frc (upd2 mem (fz2 mem F)) fun mem1 =>
 (mapO (renV2 (idx N)) rs).bind fun rs' =>
  mapK (blk2K c (c.mutA f) mem mem1 (idx N)) N fun bs =>
  if N.take p = List.range p then K (rs', bs) else none
def finK2 (f : FuncId) (rvs : List ResultVar) (p : Nat) (K : List V2 × List Blk2 → Option R) : Out2 → Option R
 | .norm σ => finishK c f rvs p σ K
 | .ret σ => finishK c f rvs p σ K
 | .exit .. => none
def enum2 (args : List V2) : List (Nat × Sv2) := enum 0 (args.map Sv2.v)
def body2 (CO : FuncId → List V2 → List Blk2 → (List V2 × List Blk2 → Option R) → Option R) (LO : Nat → Code → St2 → (Out2 → Option R) → Option R)
  (f : FuncId) (nt : Nat) (rvs : List ResultVar) (body : Code) (args : List V2) (blks : List Blk2) (K : List V2 × List Blk2 → Option R) : Option R :=
 run2 c CO LO nt 0 body { fr := enum2 args, mem := enum 0 (blks.map some), nx := blks.length } (finK2 c f rvs blks.length K)
end

end Go.Proofs.Ytgiamleohegjeaa.Am
set_option linter.unusedVariables false
set_option linter.unusedSimpArgs false
namespace Go.Proofs.Ytgiamleohegjeaa.Am
open Go

theorem cl_at : ∀ (c : Cd) (x : c.D), (c.cl x).map A2.at = c.at x
 | .int k, x => rfl
 | .bool, b => rfl
 | .str, s => rfl
 | .sl c, l => rfl
 | .pr a b, x => by simp only [Cd.cl, Cd.at, List.map_append, cl_at a, cl_at b]
 | .ref c, x => rfl
theorem castL_eq {a b : Cd} {l : List a.D} {m : List b.D} (h : castL a b l = some m) : ∃ e : a = b, m = e ▸ l := by
 unfold castL at h
 split at h
 ·rename_i e; exact ⟨e, by cases h; rfl⟩
 ·cases h
theorem castO_eq {a b : Cd} {l : a.D} {m : b.D} (h : castO a b l = some m) : ∃ e : a = b, m = e ▸ l := by
 unfold castO at h
 split at h
 ·rename_i e; exact ⟨e, by cases h; rfl⟩
 ·cases h
theorem de_eq : ∀ {c : Cd} {cs : List A2} {x : c.D} {r : List A2}, c.de cs = some (x, r) → cs = c.cl x ++ r := by
 intro c
 induction c with
 | int k =>
  intro cs x r h
  match cs, h with
  | .int k' n :: r', h =>
   simp only [Cd.de] at h
   split at h
   ·rename_i h'; subst h'; cases h; rfl
   ·cases h
 | bool =>
  intro cs x r h
  match cs, h with
  | .bool b :: r', h => cases h; rfl
 | str =>
  intro cs x r h
  match cs, h with
  | .str b :: r', h => cases h; rfl
 | sl c ih =>
  intro cs x r h
  match cs, h with
  | .sl c' l :: r', h =>
   simp only [Cd.de, Option.bind_eq_some_iff] at h
   obtain ⟨m, h1, h⟩ := h
   cases h
   obtain ⟨e, rfl⟩ := castL_eq h1
   cases e
   rfl
 | ref c ih =>
  intro cs x r h
  match cs, h with
  | .pe c' l 0 :: r', h =>
   simp only [Cd.de, Option.bind_eq_some_iff] at h
   obtain ⟨m, h1, h⟩ := h
   cases h
   obtain ⟨e, rfl⟩ := castO_eq h1
   cases e
   rfl
 | pr a b iha ihb =>
  intro cs x r h
  simp only [Cd.de, Option.bind_eq_some_iff] at h
  obtain ⟨p, h1, q, h2, h⟩ := h
  cases h
  rw [iha (x := p.1) (r := p.2) h1, ihb (x := q.1) (r := q.2) h2]
  simp [Cd.cl]
theorem dec_eq {c : Cd} {cs : List A2} {x : c.D} (h : c.dec cs = some x) : cs = c.cl x := by
 simp only [Cd.dec, Option.bind_eq_some_iff] at h
 obtain ⟨p, h1, h⟩ := h
 split at h
 ·rename_i e
  cases h
  have := de_eq (x := p.1) (r := p.2) h1
  rw [e, List.append_nil] at this
  exact this
 ·cases h
theorem dec_at {c : Cd} {cs : List A2} {x : c.D} (h : c.dec cs = some x) : cs.map A2.at = c.at x := by rw [dec_eq h, cl_at]
theorem decs_at {c : Cd} : ∀ {els : List (List A2)} {l : List c.D}, mapO c.dec els = some l → els.map (fun e => e.map A2.at) = l.map c.at := by
 intro els
 induction els with
 | nil => intro l h; cases h; rfl
 | cons e els ih =>
  intro l h
  simp only [mapO, Option.bind_eq_some_iff] at h
  obtain ⟨y, h1, ys, h2, h⟩ := h
  cases h
  rw [List.map_cons, List.map_cons, dec_at h1, ih h2]
theorem packB_rows (c : Option Cd) (els : List (List A2)) : (packB c els).rows = els.map fun e => e.map A2.at := by
 unfold packB
 split
 ·split
  ·rename_i h; exact (decs_at h).symm
  ·rfl
 ·rfl

theorem packB_ents (c : Option Cd) (els : List (List A2)) : (packB c els).ents = [] := by
 unfold packB
 split
 ·split <;> rfl
 ·rfl
theorem packB_ow (c : Option Cd) (els : List (List A2)) : (packB c els).ow = none := by
 unfold packB
 split
 ·split <;> rfl
 ·rfl
theorem tset_map {α β : Type} (f : α → β) (l : List α) (i : Nat) (x : α) : (tset l i x).map f = tset (l.map f) i (f x) := by simp [tset, List.map_take, List.map_drop]
theorem inl_rows (d : Cd) (l : List (List d.D)) : ∀ e ∈ l.map (Cd.at (.sl d)), inl e = true := by
 intro e he
 obtain ⟨x, _, rfl⟩ := List.mem_map.1 he
 rfl
theorem nm_at (a : A2) : a.at.nm = a.nm := by cases a <;> rfl
theorem smn_at (a : A2) : a.at.smn = a.smn := by cases a <;> rfl
theorem ptrs_at (a : A2) : a.at.ptrs = a.ptrs := by cases a <;> rfl
theorem pr_at (a : A2) : a.at.pr = a.pr := by cases a <;> rfl
theorem noSl_at (a : A2) : a.at.noSl = a.noSl := by cases a <;> rfl
theorem cd_names : ∀ (c : Cd) (x : c.D), ∀ y ∈ c.at x, y.nm = [] ∧ y.smn = [] ∧ y.ptrs = [] ∧ y.pr = true
 | .int k, x => by simp [Cd.at, At.nm, At.smn, At.ptrs, At.pr]
 | .bool, b => by simp [Cd.at, At.nm, At.smn, At.ptrs, At.pr]
 | .str, s => by simp [Cd.at, At.nm, At.smn, At.ptrs, At.pr]
 | .sl c, l => by simp [Cd.at, At.nm, At.smn, At.ptrs, At.pr]
 | .ref c, l => by simp [Cd.at, At.nm, At.smn, At.ptrs, At.pr]
 | .pr a b, x => by
  intro y hy
  rcases List.mem_append.1 hy with hy | hy
  ·exact cd_names a _ y hy
  ·exact cd_names b _ y hy

theorem cells_at (v : V2) : v.at.cells = v.cells.map A2.at := by cases v <;> rfl
theorem lk_at (m : Mem2) (n : Nat) : lk m.at n = (lk m n).map fun o => o.map Blk2.at := by
 induction m with
 | nil => rfl
 | cons p m ih =>
  simp only [Mem2.at, List.map_cons, lk, oAt] at ih ⊢
  split
  ·rfl
  ·exact ih
theorem mget_at (m : Mem2) (n : Nat) : mget m.at n = (mget2 m n).map Blk2.at := by
 unfold mget mget2
 rw [lk_at]
 cases lk m n with
 | none => rfl
 | some o => cases o <;> rfl
theorem set_at (m : Mem2) (p : Nat × Option Blk2) : (set2 m p).at = set1 m.at (oAt p) := by
 induction m with
 | nil => rfl
 | cons q m ih =>
  simp only [set2, Mem2.at, List.map_cons, set1, oAt] at ih ⊢
  split
  ·rfl
  ·simp only [List.map_cons, oAt, ih]
theorem upd_at (m u : Mem2) : (upd2 m u).at = updM m.at u.at := by
 induction u generalizing m with
 | nil => rfl
 | cons p u ih =>
  simp only [upd2, ih, set_at]
  rfl
theorem app_at (a b : Mem2) : Mem2.at (a ++ b) = a.at ++ b.at := by simp [Mem2.at]
theorem cons_at (p : Nat × Option Blk2) (b : Mem2) : Mem2.at (p :: b) = oAt p :: b.at := rfl
theorem keys_at (u : Mem2) : u.at.map (·.1) = u.map (·.1) := by simp [Mem2.at, oAt, Function.comp_def]

theorem namesV_at (vs : List V2) : namesV (vs.map V2.at) = namesV2 A2.nm vs := by
 simp only [namesV, namesV2, List.flatMap_map]
 congr 1; funext v
 rw [cells_at, List.flatMap_map]
 congr 1; funext a; exact nm_at a
theorem smnV_at (vs : List V2) : smnV (vs.map V2.at) = namesV2 A2.smn vs := by
 simp only [smnV, namesV2, List.flatMap_map]
 congr 1; funext v
 rw [cells_at, List.flatMap_map]
 congr 1; funext a; exact smn_at a
theorem rows_names {f : At → List Nat} {g : A2 → List Nat} (h1 : ∀ a : A2, f a.at = g a) (h2 : ∀ (c : Cd) (x : c.D), ∀ y ∈ c.at x, f y = []) (b : Bd) :
  (b.rows.flatMap fun e => e.flatMap f) = b.els2.flatMap fun e => e.flatMap g := by
 cases b with
 | arr c l =>
  simp only [Bd.rows, Bd.ents, Bd.els2, List.flatMap_nil, List.flatMap_eq_nil_iff, List.mem_map]
  rintro e ⟨x, _, rfl⟩ y hy
  exact h2 c x y hy
 | raw els =>
  simp only [Bd.rows, Bd.ents, Bd.els2, List.flatMap_map]
  congr 1; funext e; congr 1; funext a; exact h1 a
 | map kc vc l => rfl
 | nst c l q =>
  simp only [Bd.rows, Bd.els2, List.flatMap_nil, List.flatMap_eq_nil_iff, List.mem_map]
  rintro e ⟨x, _, rfl⟩ y hy
  exact h2 (.sl c) x y hy
 | lnd c l i x n q =>
  have h3 : ∀ l : List (List c.D), ((l.map (Cd.at (.sl c))).flatMap fun e => e.flatMap f) = [] := by
   intro l
   simp only [List.flatMap_eq_nil_iff, List.mem_map]
   rintro e ⟨x, _, rfl⟩ y hy
   exact h2 (.sl c) x y hy
  simp only [Bd.rows, Bd.els2, tset, List.flatMap_append, List.flatMap_cons, ← List.map_take, ← List.map_drop, h3, List.nil_append, List.append_nil, List.flatMap_nil]
  rw [← h1 (.sm x 0 n)]
  rfl
theorem namesM_at (m : Mem2) : namesM m.at = names2 A2.nm m := by
 funext n
 unfold namesM names2
 rw [mget_at]
 cases mget2 m n with
 | none => rfl
 | some b =>
  simp only [Option.map_some, namesB, Blk2.at]
  split
  ·rfl
  ·exact rows_names nm_at (fun c x y hy => (cd_names c x y hy).1) b.bd
theorem ptrsM_at (m : Mem2) : ptrsM m.at = names2 A2.ptrs m := by
 funext n
 unfold ptrsM names2
 rw [mget_at]
 cases mget2 m n with
 | none => rfl
 | some b =>
  simp only [Option.map_some, Blk2.at]
  split
  ·rfl
  ·exact rows_names ptrs_at (fun c x y hy => (cd_names c x y hy).2.2.1) b.bd
theorem smnM_at (m : Mem2) : smnM m.at = names2 A2.smn m := by
 funext n
 unfold smnM names2
 rw [mget_at]
 cases mget2 m n with
 | none => rfl
 | some b =>
  simp only [Option.map_some, Blk2.at]
  split
  ·rfl
  ·exact rows_names smn_at (fun c x y hy => (cd_names c x y hy).2.1) b.bd

theorem mapO_at {α β α' β' : Type} {f : α → Option β} {g : α' → Option β'} {p : α → α'} {q : β → β'} (h : ∀ x y, f x = some y → g (p x) = some (q y)) :
  ∀ {l : List α} {ys : List β}, mapO f l = some ys → mapO g (l.map p) = some (ys.map q) := by
 intro l
 induction l with
 | nil => intro ys e; cases e; rfl
 | cons x l ih =>
  intro ys e
  simp only [mapO, Option.bind_eq_some_iff] at e
  obtain ⟨y, e1, zs, e2, e⟩ := e
  cases e
  simp only [List.map_cons, mapO, h _ _ e1, ih e2, Option.bind_some]
theorem renA_at {ρ : Nat → Option Nat} {a b : A2} (h : renA2 ρ a = some b) : renA ρ a.at = some b.at := by
 cases a <;> simp only [renA2, Option.bind_eq_some_iff] at h
 case ptr m i o => obtain ⟨m', h1, h⟩ := h; cases h; simp [A2.at, renA, h1]
 case sm m i o => obtain ⟨m', h1, h⟩ := h; cases h; simp [A2.at, renA, h1]
 case mp m => obtain ⟨m', h1, h⟩ := h; cases h; simp [A2.at, renA, h1]
 case ptq m i es => obtain ⟨m', h1, h⟩ := h; cases h; simp [A2.at, renA, h1]
 all_goals (cases h; rfl)
theorem renV_at {ρ : Nat → Option Nat} {a b : V2} (h : renV2 ρ a = some b) : renV ρ a.at = some b.at := by
 cases a with
 | a x =>
  simp only [renV2, Option.bind_eq_some_iff] at h
  obtain ⟨y, h1, h⟩ := h
  cases h
  simp [V2.at, renV, renA_at h1]
 | g cs =>
  simp only [renV2, Option.bind_eq_some_iff] at h
  obtain ⟨y, h1, h⟩ := h
  cases h
  simp [V2.at, renV, mapO_at (fun _ _ => renA_at) h1]
theorem renB_at {ρ : Nat → Option Nat} {a b : Blk2} (h : renB2 ρ a = some b) : renB ρ a.at = some b.at := by
 unfold renB2 at h
 unfold renB
 split at h
 ·rename_i hp
  cases h
  rw [if_pos (by exact hp)]
 ·rename_i hp
  rw [if_neg (by exact hp)]
  split at h
  ·rename_i els hb
   simp only [Option.bind_eq_some_iff] at h
   obtain ⟨els', h1, h⟩ := h
   cases h
   have := mapO_at (p := List.map A2.at) (q := List.map A2.at) (fun _ _ h => mapO_at (fun _ _ => renA_at) h) h1
   simp only [Blk2.at, hb, Bd.rows, Bd.ents, Bd.ow, this, Option.bind_some]
   rfl
  ·cases h

/-- What a step in passing style says: it hands on something of which P holds. -/
def Snd {R α : Type} (m : (α → Option R) → Option R) (Q : α → Prop) : Prop := ∀ K r, m K = some r → ∃ x, K x = some r ∧ Q x
theorem mapK_at {R α β α' β' : Type} {f : α → (β → Option R) → Option R} {g : α' → Option β'} {p : α → α'} {q : β → β'} (h : ∀ x, Snd (f x) fun y => g (p x) = some (q y)) :
  ∀ l : List α, Snd (mapK f l) fun ys => mapO g (l.map p) = some (ys.map q) := by
 intro l
 induction l with
 | nil => intro K r e; exact ⟨[], e, rfl⟩
 | cons x l ih =>
  intro K r e
  simp only [mapK] at e
  obtain ⟨y, e1, h1⟩ := h x _ _ e
  obtain ⟨ys, e2, h2⟩ := ih _ _ e1
  exact ⟨y :: ys, e2, by simp only [List.map_cons, mapO, h1, h2, Option.bind_some]⟩

section
variable {R : Type} {c : Cfg}
theorem frzA_at (mem : Mem2) (a : A2) : Snd (frzAK (R := R) c mem a) fun y => frzA mem.at a.at = some y.at := by
 intro K r e
 cases a <;> simp only [frzAK] at e
 case sm m lo n =>
  simp only [Option.bind_eq_some_iff] at e
  obtain ⟨b, e1, e⟩ := e
  split at e
  ·rename_i hp
   split at e
   ·rename_i d l hb
    split at e
    ·rename_i hz
     split at e
     ·rename_i hl
      refine ⟨_, e, ?_⟩
      have hrows : b.at.els = l.map d.at := by simp [Blk2.at, hb, Bd.rows, Bd.ents]
      simp only [A2.at, frzA, mget_at, e1, Option.map_some, Option.bind_some, hrows]
      rw [if_pos ⟨hp, by simpa using hl⟩]
      simp only [Blk2.at, hz, List.map_take, List.map_drop, List.length_take, List.length_drop]
      rw [show min n (l.length - lo) = n by omega]
     ·cases e
    ·cases e
   ·rename_i d l q hb
    split at e
    ·rename_i hz
     split at e
     ·rename_i hl
      refine ⟨_, e, ?_⟩
      have hrows : b.at.els = l.map (Cd.at (.sl d)) := by simp [Blk2.at, hb, Bd.rows, Bd.ents]
      simp only [A2.at, frzA, mget_at, e1, Option.map_some, Option.bind_some, hrows]
      rw [if_pos ⟨hp, by simpa using hl⟩]
      simp only [Blk2.at, hz, List.map_take, List.map_drop, List.length_take, List.length_drop, Cd.sz]
      rw [show min n (l.length - lo) = n by omega]
     ·cases e
    ·cases e
   ·cases e
  ·cases e
 case snil es ty =>
  simp only [Option.bind_eq_some_iff] at e
  obtain ⟨d, e1, e⟩ := e
  split at e
  ·rename_i hz
   exact ⟨_, e, by simp [A2.at, frzA, hz]⟩
  ·cases e
 all_goals exact ⟨_, e, rfl⟩
theorem frzV_at (mem : Mem2) (v : V2) : Snd (frzVK (R := R) c mem v) fun y => frzV mem.at v.at = some y.at := by
 intro K r e
 cases v with
 | a x =>
  obtain ⟨y, e1, h1⟩ := frzA_at mem x (fun y => K (.a y)) r e
  exact ⟨_, e1, by simp [V2.at, frzV, h1]⟩
 | g cs =>
  obtain ⟨y, e1, h1⟩ := mapK_at (fun a => frzA_at mem a) cs (fun ys => K (.g ys)) r e
  exact ⟨_, e1, by simp [V2.at, frzV, h1]⟩
theorem frzB_at (mem : Mem2) (b : Blk2) : Snd (frzBK (R := R) c mem b) fun y => frzB mem.at b.at = some y.at := by
 intro K r e
 unfold frzBK at e
 unfold frzB
 split at e
 ·rename_i hp
  exact ⟨_, e, by rw [if_pos (by exact hp)]⟩
 ·rename_i hp
  split at e
  ·rename_i els hb
   obtain ⟨y, e1, h1⟩ := mapK_at (p := List.map A2.at) (q := List.map A2.at) (fun l => mapK_at (fun a => frzA_at mem a) l) els _ _ e
   refine ⟨_, e1, ?_⟩
   rw [if_neg (by exact hp)]
   simp only [Blk2.at, hb, Bd.rows, Bd.ents, Bd.ow, h1, Option.bind_some]
   rfl
  ·cases e
theorem blk_at (mu : Bool) (mem mem1 : Mem2) (ρ : Nat → Option Nat) (m : Nat) :
  Snd (blk2K (R := R) c mu mem mem1 ρ m) fun y => ((mget mem1.at m).bind fun b => (if mu then some b else frzB mem.at b).bind (renB ρ)) = some y.at := by
 intro K r e
 simp only [blk2K, Option.bind_eq_some_iff] at e
 obtain ⟨b, e1, e⟩ := e
 split at e
 ·rename_i hm
  simp only [Option.bind_eq_some_iff] at e
  obtain ⟨b', e2, e⟩ := e
  exact ⟨b', e, by simp [mget_at, e1, hm, renB_at e2]⟩
 ·rename_i hm
  obtain ⟨b1, e2, h1⟩ := frzB_at mem b _ _ e
  simp only [Option.bind_eq_some_iff] at e2
  obtain ⟨b', e3, e2⟩ := e2
  exact ⟨b', e2, by simp [mget_at, e1, hm, h1, renB_at e3]⟩
theorem fz_at (mem : Mem2) (F : List Nat) : (fz2 mem F).at = fzUpd mem.at F := by
 induction F with
 | nil => rfl
 | cons m F ih =>
  simp only [fz2, fzUpd, mget_at]
  cases mget2 mem m with
  | none => exact ih
  | some b => rw [Option.map_some, ← ih]; rfl
theorem zip_at (N : List Nat) (bs : List Blk2) : (zip2 N bs).at = zipU N (bs.map Blk2.at) := by
 induction N generalizing bs with
 | nil => rfl
 | cons n N ih =>
  cases bs with
  | nil => rfl
  | cons b bs => simp only [zip2, List.map_cons, zipU, ← ih]; rfl
theorem cnt_len {α β : Type} : ∀ (n : Nat) (a : List α) (b : List β), a.length = b.length → cnt n a = cnt n b
 | _, [], [], _ => rfl
 | n, _ :: a, _ :: b, h => by rw [cnt, cnt, cnt_len (n + 1) a b (by simpa using h)]
 | _, [], _ :: _, h => by simp at h
 | _, _ :: _, [], h => by simp at h
theorem res_at (rs : List V2) : (res2 rs).at = resV (rs.map V2.at) := by
 match rs with
 | [] => rfl
 | [x] => rfl
 | x :: y :: r => rfl
end

/-- The one frame's words are the other's. -/
def FrR (fr2 : List (Nat × Sv2)) (fr : List (Nat × Sv)) : Prop := ∀ t v, lk fr2 t = some v → lk fr t = some v.at

section
variable {fr2 : List (Nat × Sv2)} {fr : List (Nat × Sv)}
theorem const_at {v : Value} {x : A2} (h : const2 v = some x) : constA v = some x.at := by
  unfold const2 at h
  split at h <;> first | (cases h; rfl) | cases h
theorem FrR.ev (hF : FrR fr2 fr) {o : Operand} {v : Sv2} (h : ev2 fr2 o = some v) : Go.Proofs.Ytgiamleohegjeaa.Am.ev fr o = some v.at := by
  cases o with
  | tmp t => exact hF t v h
  | const v =>
    simp only [ev2, Option.bind_eq_some_iff] at h
    obtain ⟨x, h1, h⟩ := h
    cases h
    simp [Am.ev, const_at h1, Sv2.at, V2.at]
  | func f => cases h; rfl
  | global g => cases h
theorem svA_at {v : Sv2} {x : A2} (h : svA2 v = some x) : svA v.at = some x.at := by
  unfold svA2 at h
  split at h
  · cases h; rfl
  · cases h
theorem svV_at {v : Sv2} {x : V2} (h : svV2 v = some x) : svV v.at = some x.at := by
  unfold svV2 at h
  split at h
  · cases h; rfl
  · cases h
theorem FrR.evA (hF : FrR fr2 fr) {o : Operand} {x : A2} (h : evA2 fr2 o = some x) : Am.evA fr o = some x.at := by
  simp only [evA2, Option.bind_eq_some_iff] at h
  obtain ⟨v, h1, h⟩ := h
  simp [Am.evA, hF.ev h1, svA_at h]
theorem FrR.evV (hF : FrR fr2 fr) {o : Operand} {x : V2} (h : evV2 fr2 o = some x) : Am.evV fr o = some x.at := by
  simp only [evV2, Option.bind_eq_some_iff] at h
  obtain ⟨v, h1, h⟩ := h
  simp [Am.evV, hF.ev h1, svV_at h]
theorem FrR.evB (hF : FrR fr2 fr) {o : Operand} {b : Bool} (h : evB2 fr2 o = some b) : Am.evB fr o = some b := by
  simp only [evB2, Option.bind_eq_some_iff] at h
  obtain ⟨x, h1, h⟩ := h
  cases x <;> simp only [asB2] at h
  all_goals first | (cases h; simp [Am.evB, hF.evA h1, A2.at, asB]) | cases h
theorem FrR.evI (hF : FrR fr2 fr) {o : Operand} {i : Int} (h : evI2 fr2 o = some i) : Am.evI fr o = some i := by
  simp only [evI2, Option.bind_eq_some_iff] at h
  obtain ⟨x, h1, h⟩ := h
  cases x <;> simp only [asI2] at h
  all_goals first | (cases h; simp [Am.evI, hF.evA h1, A2.at, asI]) | cases h
theorem FrR.bound (hF : FrR fr2 fr) {d : Nat} {o : Option Operand} {i : Int} (h : bound2 fr2 d o = some i) : boundO fr d o = some i := by
  cases o with
  | none => exact h
  | some o => exact hF.evI h
theorem FrR.cons (hF : FrR fr2 fr) (d : Nat) (v : Sv2) : FrR ((d, v) :: fr2) ((d, v.at) :: fr) := by
  intro t x h
  simp only [lk] at h ⊢
  split at h
  · rename_i e; rw [if_pos e]; cases h; rfl
  · rename_i e; rw [if_neg e]; exact hF t x h
theorem FrR.know (hF : FrR fr2 fr) {d : Nat} {b b' : Bool} (hl : lk fr2 d = some (.v (.a (.bool b)))) (hb : b = b') : FrR ((d, .v (.a (.bool b'))) :: fr2) fr := by
  subst hb
  intro t x h
  simp only [lk] at h
  split at h
  · rename_i e; subst e; cases h; exact hF _ _ hl
  · exact hF t x h

theorem at2_at {x : At} {y : A2} (h : at2 x = some y) : y.at = x := by
  unfold at2 at h
  split at h <;> first | (cases h; rfl) | cases h
theorem zero_at {ti : TI} {z : List A2} (h : zero2 ti = some z) : z.map A2.at = ti.zero ∧ z.length = ti.zero.length := by
  have key : ∀ (l : List At) (z : List A2), mapO at2 l = some z → z.map A2.at = l := by
    intro l
    induction l with
    | nil => intro z h; cases h; rfl
    | cons x l ih =>
      intro z h
      simp only [mapO, Option.bind_eq_some_iff] at h
      obtain ⟨y, h1, ys, h2, h⟩ := h
      cases h
      rw [List.map_cons, at2_at h1, ih _ h2]
  have := key _ _ h
  exact ⟨this, by rw [← this, List.length_map]⟩
theorem fz0_at {T : TypeId → Option TI} {ti : TI} {z1 z : List A2} (h : zero2 ti = some z1) (h2 : mapO (fz0K T) z1 = some z) : z.map A2.at = zf ti ∧ z.length = ti.zero.length := by
  obtain ⟨q1, q2⟩ := zero_at h
  have := mapO_at (f := fz0K T) (g := fun x => some (frz0 x)) (p := A2.at) (q := A2.at) (fun x y e => by
    cases x <;> simp only [fz0K, Option.bind_eq_some_iff] at e
    case snil es ty =>
      obtain ⟨d, _, e⟩ := e
      split at e
      · rename_i hd; cases e; simp [A2.at, frz0, hd]
      · cases e
    all_goals (cases e; rfl)) h2
  have key : ∀ l : List At, mapO (fun x => some (frz0 x)) l = some (l.map frz0) := by
    intro l
    induction l with
    | nil => rfl
    | cons x l ih => simp [mapO, ih]
  rw [key, q1] at this
  have hz : z.map A2.at = zf ti := by simpa [zf] using this.symm
  exact ⟨hz, by simpa [zf] using congrArg List.length hz⟩
theorem part_at {ti : TI} {e : List A2} {o : Nat} {v : V2} (h : part2 ti e o = some v) : partV ti (e.map A2.at) o = some v.at := by
  unfold part2 at h
  unfold partV
  split at h
  · rename_i ha
    split at h
    · rename_i hl
      cases h
      rw [if_pos ha, if_pos (by simpa using hl)]
      simp [V2.at, List.map_take, List.map_drop]
    · cases h
  · rename_i ha
    simp only [Option.bind_eq_some_iff] at h
    obtain ⟨x, h1, h⟩ := h
    cases h
    rw [if_neg ha]
    simp [h1, V2.at]
theorem put_at (cs : List A2) (o : Nat) (xs : List A2) : (put2 cs o xs).map A2.at = putAt (cs.map A2.at) o (xs.map A2.at) := by
  simp [put2, putAt, List.map_take, List.map_drop]
theorem fillV_at {ds : List (Nat × Nat)} : ∀ {ps : List (Nat × V2)} {cs r : List A2}, fillV2 ds cs ps = some r → fillV ds (cs.map A2.at) (ps.map fun p => (p.1, p.2.at)) = some (r.map A2.at) := by
  intro ps
  induction ps with
  | nil => intro cs r h; cases h; rfl
  | cons p ps ih =>
    intro cs r h
    simp only [fillV2, Option.bind_eq_some_iff] at h
    obtain ⟨q, h1, h⟩ := h
    split at h
    · rename_i hl
      simp only [List.map_cons, fillV, h1, Option.bind_some, cells_at, List.length_map]
      rw [if_pos hl, ← put_at]
      exact ih h
    · cases h
theorem fillE_at {es : Nat} : ∀ {ps : List (Nat × V2)} {cs r : List (List A2)}, fillE2 es cs ps = some r → fillE es (cs.map fun e => e.map A2.at) (ps.map fun p => (p.1, p.2.at)) = some (r.map fun e => e.map A2.at) := by
  intro ps
  induction ps with
  | nil => intro cs r h; cases h; rfl
  | cons p ps ih =>
    intro cs r h
    simp only [fillE2] at h
    split at h
    · rename_i hl
      simp only [List.map_cons, fillE, cells_at, List.length_map]
      rw [if_pos hl, ← List.map_set]
      exact ih h
    · cases h
theorem parts_at (hF : FrR fr2 fr) {l : List (Nat × Operand)} {ps : List (Nat × V2)} (h : mapO (evP2 fr2) l = some ps) :
    mapO (fun p : Nat × Operand => (Am.evV fr p.2).bind fun v => some (p.1, v)) l = some (ps.map fun p => (p.1, p.2.at)) := by
  have := mapO_at (p := id) (q := fun p : Nat × V2 => (p.1, p.2.at)) (f := evP2 fr2) (g := fun p : Nat × Operand => (Am.evV fr p.2).bind fun v => some (p.1, v)) (fun x y h => by
    simp only [evP2, Option.bind_eq_some_iff] at h
    obtain ⟨v, h1, h⟩ := h
    cases h
    simp [hF.evV h1]) h
  simpa using this
theorem fixN_at {ti : TI} {z : List A2} (hz : zero2 ti = some z) (v : V2) : fixN ti.zero v.at = (fixN2 z v).at := by
  obtain ⟨q1, _⟩ := zero_at hz
  rw [← q1]
  cases v with
  | g cs => rfl
  | a x =>
    cases x with
    | snil es ty =>
      simp only [V2.at, A2.at, fixN, fixN2]
      match z with
      | [] => rfl
      | [y] => cases y <;> rfl
      | y :: y2 :: r => cases y <;> rfl
    | _ => rfl
theorem partsN_at (hF : FrR fr2 fr) {ti : TI} {z : List A2} (hz : zero2 ti = some z) {l : List (Nat × Operand)} {ps : List (Nat × V2)} (h : mapO (evP2 fr2) l = some ps) :
    mapO (fun p : Nat × Operand => (Am.evV fr p.2).bind fun v => some (p.1, fixN ti.zero v)) l = some ((ps.map fun p => (p.1, fixN2 z p.2)).map fun p => (p.1, p.2.at)) := by
  have := mapO_at (p := id) (q := fun p : Nat × V2 => (p.1, (fixN2 z p.2).at)) (f := evP2 fr2) (g := fun p : Nat × Operand => (Am.evV fr p.2).bind fun v => some (p.1, fixN ti.zero v)) (fun x y h => by
    simp only [evP2, Option.bind_eq_some_iff] at h
    obtain ⟨v, h1, h⟩ := h
    cases h
    simp [hF.evV h1, fixN_at hz]) h
  rw [List.map_map]
  simpa [Function.comp_def] using this
theorem all_pr (xs : List A2) : (xs.map A2.at).all At.pr = xs.all A2.pr := by
  rw [List.all_map]; congr 1; funext a; exact pr_at a
theorem allall_pr (els : List (List A2)) : (els.map fun e => e.map A2.at).all (fun e => e.all At.pr) = els.all fun e => e.all A2.pr := by
  rw [List.all_map]; congr 1; funext a; exact all_pr a
end

section
variable {R : Type} {c : Cfg} {callF : FuncId → List Vl → List Blk → Option (List Vl × List Blk)} {CO : FuncId → List V2 → List Blk2 → (List V2 × List Blk2 → Option R) → Option R}
  {fr2 : List (Nat × Sv2)} {fr : List (Nat × Sv)} {mem : Mem2} {nx : Nat}

theorem bin_at (T : TypeId → Option TI) (op : BinOp) (ty : TypeId) (a b : A2) : Snd (R := R) (bin2 T op ty a b) fun y => binA T op ty a.at b.at = some y.at := by
  intro K r e
  have ptr : ∀ (x y : A2), (if isPtr x then
      match tdOf T ty with
      | some .ptr =>
        match op with
        | .eql => (ptrEq x y).bind fun b => K (.bool b)
        | .neq => (ptrEq x y).bind fun b => K (.bool (!b))
        | _ => none
      | _ => none
      else none) = some r → ∃ z, K z = some r ∧ binA T op ty x.at y.at = some z.at := by
    intro x y e
    split at e
    · rename_i hp
      cases x <;> simp only [isPtr] at hp <;> first | cases hp | skip
      all_goals
        cases htd : tdOf T ty with
        | none => simp only [htd] at e; cases e
        | some td =>
          cases td <;> simp only [htd] at e <;> first | cases e | skip
          cases op <;> simp only [] at e <;> first | cases e | skip
          all_goals
            cases y <;> simp only [ptrEq, Option.bind_none, Option.bind_some] at e <;> first | cases e | skip
            all_goals exact ⟨_, e, by simp [A2.at, binA, htd]⟩
    · cases e
  cases a with
  | int k x =>
    cases b with
    | int k' y =>
      cases op <;> simp only [bin2] at e
      case shl =>
        split at e
        · cases e
        · rename_i h; exact ⟨_, e, by simp [A2.at, binA, h]⟩
      case shr =>
        split at e
        · cases e
        · rename_i h; exact ⟨_, e, by simp [A2.at, binA, h]⟩
      all_goals
        split at e
        · rename_i hk
          subst hk
          simp only [binI2] at e
          first
            | exact ⟨_, e, by simp [A2.at, binA, binI]⟩
            | (split at e
               · cases e
               · rename_i h; exact ⟨_, e, by simp [A2.at, binA, binI, h]⟩)
            | cases e
        · cases e
    | _ => exact ptr _ _ e
  | str x =>
    cases b with
    | str y =>
      cases op <;> simp only [bin2] at e
      case add =>
        split at e
        · cases e
        · rename_i h; exact ⟨_, e, by simp only [A2.at, binA]; rw [if_neg h]⟩
      case eql => exact ⟨_, e, rfl⟩
      case neq => exact ⟨_, e, rfl⟩
      all_goals cases e
    | _ => exact ptr _ _ e
  | bool x =>
    cases b with
    | bool y =>
      simp only [bin2] at e
      split at e
      · rename_i h1; exact ⟨_, e, by simp [A2.at, binA, h1]⟩
      · rename_i h1; exact ⟨_, e, by simp [A2.at, binA, h1]⟩
      · cases e
    | _ => exact ptr _ _ e
  | _ => exact ptr _ _ e

theorem un_at (op : UnOp) (a : A2) : Snd (R := R) (un2 op a) fun y => unA op a.at = some y.at := by
  intro K r e
  cases a <;> cases op <;> simp only [un2] at e <;> first | exact ⟨_, e, rfl⟩ | cases e
theorem conv_at (T : TypeId → Option TI) (src dst : TypeId) (a : A2) : Snd (R := R) (conv2 T src dst a) fun y => convA T src dst a.at = some y.at := by
  intro K r e
  unfold conv2 at e
  split at e
  · split at e
    · rename_i h1 h2; exact ⟨_, e, by simp [A2.at, convA, h1, h2]⟩
    · cases e
  · rename_i s
    split at e
    · rename_i h1 h2; exact ⟨_, e, by simp [A2.at, convA, h1, h2]⟩
    · rename_i h1 h2
      split at e
      · rename_i h3
        refine ⟨_, e, ?_⟩
        simp only [A2.at, convA, h1, h2, h3]
        have e1 : (s.data.toList.map fun b => (b.toNat : Int)).length = s.size := by rw [List.length_map, Array.length_toList]; rfl
        have e2 : (s.data.toList.map fun b => (b.toNat : Int)).map (Cd.at (.int .u8)) = s.data.toList.map fun b => [At.int .u8 b.toNat] := by rw [List.map_map]; rfl
        rw [e1, e2]
        rfl
      · cases e
    · cases e
  · cases e

theorem els_at (mem : Mem2) (es : Nat) (a : A2) (K : Src → List Nat → Option R) (r : R) (e : elsK mem es a K = some r) :
    ∃ s rd, K s rd = some r ∧ elsOf mem.at es a.at = some (s.len, s.rows, true, rd) := by
  cases a <;> simp only [elsK] at e
  case sl c l =>
    split at e
    · rename_i h; exact ⟨_, _, e, by simp [A2.at, elsOf, h, Src.len, Src.rows]⟩
    · cases e
  case snil es' ty => exact ⟨_, _, e, rfl⟩
  case sm m lo n =>
    simp only [Option.bind_eq_some_iff] at e
    obtain ⟨b, e1, e⟩ := e
    split at e
    · rename_i c l hb
      split at e
      · rename_i h1
        split at e
        · rename_i h2
          split at e
          · rename_i h3
            refine ⟨_, _, e, ?_⟩
            have hrows : b.at.els = l.map c.at := by simp [Blk2.at, hb, Bd.rows, Bd.ents]
            simp only [A2.at, elsOf, mget_at, e1, Option.map_some, Option.bind_some, hrows, Src.len, Src.rows, List.length_map]
            rw [if_pos ⟨h1, h3, by simp [Blk2.at, hb, Bd.ow]⟩]
            simp only [List.length_take, List.length_drop, List.map_take, List.map_drop, Option.some.injEq, Prod.mk.injEq, and_true, true_and]
            refine ⟨by omega, ?_⟩
            exact h2
          · cases e
        · cases e
      · cases e
    · cases e
  all_goals cases e
end

/-- What is called says what the abstract machine's call says. -/
def COk {R : Type} (CO : FuncId → List V2 → List Blk2 → (List V2 × List Blk2 → Option R) → Option R) (callF : FuncId → List Vl → List Blk → Option (List Vl × List Blk)) : Prop :=
 ∀ f a b, Snd (CO f a b) fun r => callF f (a.map V2.at) (b.map Blk2.at) = some (r.1.map V2.at, r.2.map Blk2.at)

section
variable {R : Type} {c : Cfg} {callF : FuncId → List Vl → List Blk → Option (List Vl × List Blk)} {CO : FuncId → List V2 → List Blk2 → (List V2 × List Blk2 → Option R) → Option R}
 {fr2 : List (Nat × Sv2)} {fr : List (Nat × Sv)} {mem : Mem2} {nx : Nat}

theorem appK_at (t : TypeId) (s x : A2) (mem : Mem2) (nx : Nat) : Snd (R := R) (appK c t s x mem nx) fun e => stpAppend c t s.at x.at mem.at nx = some e.at := by
 intro K r e
 unfold appK at e
 unfold stpAppend
 split at e
 ·rename_i el htd
  simp only [Option.bind_eq_some_iff] at e
  obtain ⟨te, hte, e⟩ := e
  split at e
  ·rename_i hst
   obtain ⟨src, rd, e', hsrc⟩ := els_at _ _ _ _ _ e
   clear e
   have e := e'
   clear e'
   have hlen : src.rows.length = src.len := by cases src <;> simp [Src.rows, Src.len]
   simp only [htd, hte, Option.bind_some, hsrc]
   cases s <;> simp only [] at e
   case snil es' ty' =>
    split at e
    ·simp only [Option.bind_eq_some_iff] at e
     obtain ⟨d, hd, e⟩ := e
     refine ⟨_, e, ?_⟩
     simp only [A2.at, Option.bind_some, Src.len, Src.rows]
     refine (if_pos ⟨by simp, hst⟩).trans ?_
     simp [Eff2.at, Mem2.at, oAt, Blk2.at, Bd.rows, Bd.ents, Bd.ow, Sv2.at, V2.at, A2.at]
    ·rename_i d l
     split at e
     ·rename_i hb
      refine ⟨_, e, ?_⟩
      simp only [A2.at, Option.bind_some, Src.len, Src.rows]
      refine (if_pos ⟨by simpa using hb, hst⟩).trans ?_
      simp [Eff2.at, Mem2.at, oAt, Blk2.at, Bd.rows, Bd.ents, Bd.ow, Sv2.at, V2.at, A2.at]
     ·cases e
   case sm m lo n =>
    simp only [Option.bind_eq_some_iff] at e
    obtain ⟨b, hb, e⟩ := e
    split at e
    ·rename_i d l hbd
     split at e
     ·rename_i hc
      split at e
      ·rename_i hlo
       subst hlo
       split at e
       ·rename_i hn
        have hrows : b.at.els = l.map d.at := by simp [Blk2.at, hbd, Bd.rows, Bd.ents, Bd.ow]
        simp only [A2.at, mget_at, hb, Option.map_some, Option.bind_some, hrows, List.length_map]
        rw [if_pos (show (True ∧ b.at.es = te.size ∧ b.at.ty = el ∧ n ≤ l.length ∧ (!b.at.fz) = true ∧ b.at.ow = none) from ⟨trivial, hc.1, hc.2.1, hn, by have := hc.2.2.1; simp [Blk2.at, this], by simp [Blk2.at, hbd, Bd.ow]⟩) ]
        have hpr : b.at.pr = true := hc.2.2.2
        simp only [Option.bind_some, hpr]
        split at e
        ·split at e
         ·rename_i hbd2
          refine ⟨_, e, ?_⟩
          simp only [Src.len, Src.rows]
          refine (if_pos ⟨by simpa using hbd2, hst⟩).trans ?_
          simp [Eff2.at, Mem2.at, oAt, Blk2.at, Bd.rows, Bd.ents, Bd.ow, Sv2.at, V2.at, A2.at, List.map_take]
         ·cases e
        ·rename_i d' l'
         simp only [Option.bind_eq_some_iff] at e
         obtain ⟨l2, hl2, e⟩ := e
         obtain ⟨hdd, rfl⟩ := castL_eq hl2
         subst hdd
         split at e
         ·rename_i hbd2
          refine ⟨_, e, ?_⟩
          simp only [Src.len, Src.rows]
          refine (if_pos ⟨by simpa using hbd2, hst⟩).trans ?_
          simp [Eff2.at, Mem2.at, oAt, Blk2.at, Bd.rows, Bd.ents, Bd.ow, Sv2.at, V2.at, A2.at, List.map_take]
         ·cases e
       ·cases e
      ·cases e
     ·cases e
    ·cases e
   all_goals cases e
  ·cases e
 ·cases e

theorem vals_at (f : FuncId) (mem : Mem2) (args : List V2) : Snd (R := R) (fun K => if c.mutA f then K args else mapK (frzVK c mem) args K) fun vals => (if c.mutA f then some (args.map V2.at) else mapO (frzV mem.at) (args.map V2.at)) = some (vals.map V2.at) := by
 intro K r e
 simp only [] at e
 split at e
 ·rename_i h; exact ⟨_, e, by rw [if_pos h]⟩
 ·rename_i h
  obtain ⟨x, e1, h1⟩ := mapK_at (fun v => frzV_at mem v) args _ _ e
  exact ⟨x, e1, by rw [if_neg h]; exact h1⟩
theorem clo_at (f : FuncId) (mem : Mem2) (l acc : List Nat) : clo (fun m => if c.mutA f then namesM mem.at m else ptrsM mem.at m) 64 l acc = clo (if c.mutA f then names2 A2.nm mem else names2 A2.ptrs mem) 64 l acc := by
 congr 1
 funext m
 split
 ·rw [namesM_at]
 ·rw [ptrsM_at]
theorem noSl_all (rs : List V2) : (rs.map V2.at).all (fun v => v.cells.all At.noSl) = rs.all fun v => v.cells.all A2.noSl := by
 rw [List.all_map]; congr 1; funext v
 simp only [Function.comp_def, cells_at, List.all_map]
 congr 1; funext a; exact noSl_at a
theorem isEmpty_map' {α β : Type} (f : α → β) (l : List α) : (l.map f).isEmpty = l.isEmpty := by cases l <;> rfl

theorem flatC_at : ∀ (c : Cd), flatC c = true → ∀ x : c.D, (c.at x).all At.noSl = true
 | .int _, _, _ => rfl
 | .bool, _, _ => rfl
 | .str, _, _ => rfl
 | .pr a b, h, x => by
  simp only [flatC, Bool.and_eq_true] at h
  simp only [Cd.at, List.all_append, flatC_at a h.1, flatC_at b h.2, Bool.and_self]
 | .sl _, h, _ => by simp [flatC] at h
 | .ref _, h, _ => by simp [flatC] at h
theorem flatB_at {b : Blk2} (h : flatB2 b = true) : flatB b.at = true := by
 obtain ⟨bd, es, ty, pr, fz, ar⟩ := b
 simp only [flatB2, Bool.and_eq_true] at h
 obtain ⟨h1, h2⟩ := h
 cases bd with
 | arr c l =>
  simp only [flatB, Blk2.at, Bd.ents, Bd.rows, Bd.ow, Option.isNone_none, h1, List.isEmpty_nil, Bool.true_and, List.all_map, List.all_eq_true]
  intro x _
  exact flatC_at c h2 x
 | raw els =>
  simp only [flatB, Blk2.at, Bd.ents, Bd.rows, Bd.ow, Option.isNone_none, h1, List.isEmpty_nil, Bool.true_and, List.all_map, List.all_eq_true] at h2 ⊢
  intro e he
  simp only [Function.comp_def, List.all_map, List.all_eq_true]
  intro y hy
  rw [noSl_at]
  exact h2 e he y hy
 | _ => simp at h2
theorem lent_at {l : Bool} {N : List Nat} {rs : List V2} {bs : List Blk2} {u : Mem2} {r : Mem2} (h : lent2 l N rs bs u = some r) : lentU l N (rs.map V2.at) (bs.map Blk2.at) u.at = some r.at := by
 unfold lent2 at h
 unfold lentU
 cases l with
 | true =>
  simp only [if_true] at h ⊢
  split at h
  ·rename_i hq
   cases h
   simp only [Bool.and_eq_true] at hq
   rw [if_pos]
   ·rfl
   ·simp only [Bool.and_eq_true, noSl_all]
    refine ⟨hq.1, hq.2.1, ?_⟩
    rw [List.all_map, List.all_eq_true]
    exact fun b hb => flatB_at (List.all_eq_true.1 hq.2.2 b hb)
  ·cases h
 | false =>
  cases h
  simp only [Bool.false_eq_true, if_false, isEmpty_map', noSl_all]
  split <;> rfl

theorem nil_at : Mem2.at [] = [] := rfl
theorem nests_at (mem : Mem2) (m : Nat) : nests mem.at m = nests2 mem m := by
 unfold nests nests2
 rw [mget_at]
 cases mget2 mem m <;> rfl
theorem home_at (mem : Mem2) (d : Cd) (q : TypeId × Nat) (x n : Nat) : Snd (R := R) (home2K mem d q x n) fun rx => d.sz = q.2 ∧ home mem.at q [.sm x 0 n] = some (Cd.at (.sl d) rx, x) := by
 intro K r e
 simp only [home2K, Option.bind_eq_some_iff] at e
 obtain ⟨b, h1, e⟩ := e
 split at e
 ·rename_i d' rx hb
  split at e
  ·rename_i hc
   split at e
   ·rename_i hn
    simp only [Option.bind_eq_some_iff] at e
    obtain ⟨rx', h2, e⟩ := e
    obtain ⟨hd, rfl⟩ := castL_eq h2
    subst hd
    refine ⟨_, e, hc.2.2.2.2, ?_⟩
    have hrows : b.at.els = rx.map (Cd.at d') := by simp [Blk2.at, hb, Bd.rows]
    simp only [home, mget_at, h1, Option.map_some, Option.bind_some, hrows, List.length_map]
    rw [if_pos ⟨hc.1, by simp [Blk2.at, hc.2.1], by simp [Blk2.at, hb, Bd.ow], hc.2.2.1, hc.2.2.2.1, hn⟩]
    simp [Cd.at, hc.2.2.2.2, List.map_take, Nat.min_eq_left hn]
   ·cases e
  ·cases e
 ·cases e
theorem stl_in (mem : Mem) (b : Blk) (q : TypeId × Nat) (d : Cd) (l : List (List d.D)) (h : b.els = l.map (Cd.at (.sl d))) : stl mem b q = some (b.els, []) := by
 unfold stl
 rw [h, List.findIdx?_eq_none_iff.2]
 intro e he
 simp [inl_rows d l e he]
theorem tset_at {α : Type} (l : List α) (i : Nat) (x : α) : (tset l i x)[(l.take i).length]? = some x := by simp [tset]
theorem tset_set {α : Type} (l : List α) (i : Nat) (x y : α) : (tset l i x).set (l.take i).length y = tset l i y := by simp [tset]
theorem tset_eq {α : Type} {l : List α} {i : Nat} (h : i < l.length) (x : α) : tset l i x = l.set i x := by rw [tset, List.set_eq_take_append_cons_drop, if_pos h]
theorem stl_out (mem : Mem) (b : Blk) (q : TypeId × Nat) (d : Cd) (l : List (List d.D)) (j x n : Nat) (rx : List d.D) (h : b.els = tset (l.map (Cd.at (.sl d))) j [.sm x 0 n]) (hh : home mem q [.sm x 0 n] = some (Cd.at (.sl d) rx, x)) :
  stl mem b q = some ((tset l j rx).map (Cd.at (.sl d)), [x]) := by
 have hf : b.els.findIdx? (fun e => !inl e) = some ((l.map (Cd.at (.sl d))).take j).length := by
  rw [h, tset, List.findIdx?_append, List.findIdx?_eq_none_iff.2]
  ·simp [List.findIdx?_cons, inl]
  ·intro e he
   simp [inl_rows d l e (List.mem_of_mem_take he)]
 unfold stl
 rw [hf]
 simp only []
 rw [h, tset_at, Option.bind_some, hh, Option.bind_some, tset_set, ← tset_map, if_pos]
 rw [List.all_eq_true]
 exact inl_rows d _
theorem out_at (t : TypeId) (m i es : Nat) (mem : Mem2) (nx : Nat) : Snd (R := R) (outK c t m i es mem nx) fun e => stpOut c t m i es mem.at nx = some e.at := by
 intro K r e
 simp only [outK, Option.bind_eq_some_iff] at e
 obtain ⟨B, h1, e⟩ := e
 have h1' : mget mem.at m = some B.at := by rw [mget_at, h1]; rfl
 simp only [stpOut, h1', Option.bind_some]
 split at e
 ·rename_i e2 htd
  split at e
  ·rename_i hc
   split at e
   ·rename_i d l q hb
    split at e
    ·rename_i hq
     simp only [Option.bind_eq_some_iff] at e
     obtain ⟨rows, h2, e⟩ := e
     refine ⟨_, e, ?_⟩
     have hrows : B.at.els = l.map (Cd.at (.sl d)) := by simp [Blk2.at, hb, Bd.rows]
     have how : B.at.ow = some q := by simp [Blk2.at, hb, Bd.ow]
     have hi : (l.map (Cd.at (.sl d)))[i]? = some [.sl d.sz rows.length (rows.map d.at)] := by rw [List.getElem?_map, h2]; rfl
     have hlt : i < l.length := (List.getElem?_eq_some_iff.1 h2).1
     simp only [how, htd]
     rw [if_pos ⟨hc.1, hc.2.1, hq.1, by simp [Blk2.at, hc.2.2]⟩, stl_in _ _ _ d l hrows, Option.bind_some]
     simp only [hrows, hi]
     simp [Eff2.at, nil_at, cons_at, oAt, Blk2.at, Bd.rows, Bd.ents, Bd.ow, hb, Sv2.at, V2.at, A2.at, tset_eq, hlt]
    ·cases e
   ·rename_i d l j x n q hb
    split at e
    ·rename_i hq
     obtain ⟨rx, e, hz, hh⟩ := home_at mem d q x n _ _ e
     simp only [frc, Option.bind_eq_some_iff] at e
     obtain ⟨rows, h2, e⟩ := e
     refine ⟨_, e, ?_⟩
     have hrows : B.at.els = tset (l.map (Cd.at (.sl d))) j [.sm x 0 n] := by simp [Blk2.at, hb, Bd.rows]
     have how : B.at.ow = some q := by simp [Blk2.at, hb, Bd.ow]
     have hi : ((tset l j rx).map (Cd.at (.sl d)))[i]? = some [.sl d.sz rows.length (rows.map d.at)] := by rw [List.getElem?_map, h2]; rfl
     have hlt : i < (tset l j rx).length := (List.getElem?_eq_some_iff.1 h2).1
     simp only [how, htd]
     rw [if_pos ⟨hc.1, hc.2.1, hq.1, by simp [Blk2.at, hc.2.2]⟩, stl_out _ _ _ d l j x n rx hrows hh, Option.bind_some]
     simp only [hi]
     simp [Eff2.at, nil_at, cons_at, oAt, Blk2.at, Bd.rows, Bd.ents, Bd.ow, hb, Sv2.at, V2.at, A2.at, tset_eq, hlt]
    ·cases e
   ·cases e
  ·cases e
 ·cases e
theorem into_at (t : TypeId) (m i es : Nat) (v : V2) (mem : Mem2) (nx : Nat) : Snd (R := R) (intoK c t m i es v mem nx) fun e => stpInto c t m i es v.at mem.at nx = some e.at := by
 intro K r e
 simp only [intoK, Option.bind_eq_some_iff] at e
 obtain ⟨B, h1, e⟩ := e
 have h1' : mget mem.at m = some B.at := by rw [mget_at, h1]; rfl
 simp only [stpInto, h1', Option.bind_some]
 split at e
 ·rename_i y n e2 htd
  split at e
  ·rename_i hc
   split at e
   ·rename_i d l q hb
    split at e
    ·rename_i hq
     split at e
     ·rename_i hlt
      refine ⟨_, e, ?_⟩
      have hrows : B.at.els = l.map (Cd.at (.sl d)) := by simp [Blk2.at, hb, Bd.rows]
      have how : B.at.ow = some q := by simp [Blk2.at, hb, Bd.ow]
      have hall : (B.at.els.set i [.sl 0 0 []]).all inl = true := by
       rw [hrows, List.all_eq_true]
       intro z hz
       rcases List.mem_or_eq_of_mem_set hz with hz | rfl
       ·exact inl_rows d l z hz
       ·rfl
      simp only [how, V2.at, A2.at, htd]
      rw [if_pos ⟨hc.1, hc.2.1, hq, by simp [Blk2.at, hc.2.2.1], by rw [hrows, List.length_map]; exact hlt, hc.2.2.2, hall⟩]
      ·simp [Eff2.at, nil_at, cons_at, oAt, Blk2.at, Bd.rows, Bd.ents, Bd.ow, hb, Sv2.at, tset_eq, hlt]
     ·cases e
    ·cases e
   ·rename_i d l j x n' q hb
    split at e
    ·rename_i hq
     split at e
     ·rename_i hj
      subst hj
      split at e
      ·rename_i hlt
       refine ⟨_, e, ?_⟩
       have hrows : B.at.els = (l.map (Cd.at (.sl d))).set j [.sm x 0 n'] := by simp [Blk2.at, hb, Bd.rows, tset_eq, hlt]
       have how : B.at.ow = some q := by simp [Blk2.at, hb, Bd.ow]
       have hall : (B.at.els.set j [.sl 0 0 []]).all inl = true := by
        rw [hrows, List.set_set, List.all_eq_true]
        intro z hz
        rcases List.mem_or_eq_of_mem_set hz with hz | rfl
        ·exact inl_rows d l z hz
        ·rfl
       simp only [how, V2.at, A2.at, htd]
       rw [if_pos ⟨hc.1, hc.2.1, hq, by simp [Blk2.at, hc.2.2.1], by rw [hrows, List.length_set, List.length_map]; exact hlt, hc.2.2.2, hall⟩]
       ·rw [hrows]
        simp [Eff2.at, nil_at, cons_at, oAt, Blk2.at, Bd.rows, Bd.ents, Bd.ow, hb, Sv2.at, tset_eq, hlt]
      ·cases e
     ·cases e
    ·cases e
   ·cases e
  ·cases e
 ·cases e
theorem mkB_at {q : Option (TypeId × Nat)} {k : Nat} {d : Cd} {z : d.D} {bd : Bd} (h : mkB q k d z = some bd) : bd.rows = List.replicate k (d.at z) ∧ bd.ow = q ∧ bd.ents = [] := by
 cases q with
 | none => cases h; exact ⟨by simp [Bd.rows], rfl, rfl⟩
 | some q =>
  cases d <;> simp only [mkB] at h <;> first | cases h | skip
  exact ⟨by simp [Bd.rows], rfl, rfl⟩
theorem call_at (hC : COk CO callF) (f : FuncId) (args : List V2) (mem : Mem2) (nx : Nat) : Snd (callK c CO f args mem nx) fun e => stpCall c callF f (args.map V2.at) mem.at nx = some e.at := by
 intro K r e
 unfold callK at e
 obtain ⟨vals, e, h1⟩ := vals_at f mem args _ _ e
 generalize hN : clo (if c.mutA f then names2 A2.nm mem else names2 A2.ptrs mem) 64 (namesV2 A2.nm vals) [] = N at e
 simp only [frc] at e
 generalize hF : (if c.mutA f then [] else namesV2 A2.smn args ++ N.flatMap (names2 A2.smn mem)) = F at e
 split at e
 ·cases e
 rename_i hnest
 obtain ⟨blks, e, h2⟩ := mapK_at (q := Blk2.at) (p := id) (g := fun m => (mget (Mem2.at _) m).bind fun b => (if c.mutA f then some b else frzB mem.at b).bind (renB (idx _))) (fun m => blk_at _ _ _ _ m) _ _ _ e
 simp only [Option.bind_eq_some_iff] at e
 obtain ⟨vals', h3, e⟩ := e
 obtain ⟨r1, e, h4⟩ := hC _ _ _ _ _ e
 simp only [Option.bind_eq_some_iff] at e
 obtain ⟨rs, h5, bs, h6, lu, h7, e⟩ := e
 refine ⟨_, e, ?_⟩
 unfold stpCall
 rw [h1]
 simp only [Option.bind_some, namesV_at, smnV_at, smnM_at, clo_at, hN, hF]
 rw [List.map_id] at h2
 have hn' : ∀ (N : List Nat) (M : Mem2), N.any (nests M.at) = N.any (nests2 M) := fun N M => by congr 1; funext m; exact nests_at M m
 rw [← fz_at, ← upd_at, hn', if_neg hnest, h2]
 simp only [Option.bind_some]
 have h3' := mapO_at (fun _ _ => renV_at) h3
 rw [h3']
 simp only [Option.bind_some, h4]
 have hcn : ∀ N : List Nat, cnt nx ((r1.2.map Blk2.at).drop N.length) = cnt nx (r1.2.drop N.length) := fun N => cnt_len _ _ _ (by simp)
 simp only [hcn]
 have h5' := mapO_at (fun _ _ => renV_at) h5
 have h6' := mapO_at (fun _ _ => renB_at) h6
 rw [h5', Option.bind_some, h6', Option.bind_some]
 have h7' := lent_at h7
 rw [h7', Option.bind_some]
 simp only [Eff2.at, res_at, List.length_map, app_at, zip_at]

theorem smnE_at (els : List (List A2)) : smnE (els.map fun e => e.map A2.at) = smnE2 els := by
 simp only [smnE, smnE2, List.flatMap_map]
 congr 1; funext e
 congr 1; funext a; exact smn_at a
theorem kEq_at {d : TD} {kc : Cd} (h : kcOk d kc = true) (x y : kc.D) : keyEq ((kc.at x).headD .nilp) ((kc.at y).headD .nilp) = kEq kc x y := by
 cases d <;> cases kc <;> simp [kcOk] at h <;> simp [Cd.at, keyEq, kEq]
theorem kOk_at {d : TD} {kc : Cd} (h : kcOk d kc = true) (x : kc.D) : keyOk d ((kc.at x).headD .nilp) = true := by
 cases d <;> cases kc <;> simp [kcOk] at h <;> simp [Cd.at, keyOk, h]
theorem findG_at {d : TD} {kc vc : Cd} (h : kcOk d kc = true) (x : kc.D) : ∀ l : List (kc.D × vc.D), findM (Bd.map kc vc l).ents ((kc.at x).headD .nilp) = (findG kc vc l x).map fun q => (q.1, (vc.at q.2).headD .nilp)
 | [] => rfl
 | p :: l => by
  have ih := findG_at h x l
  simp only [Bd.ents] at ih
  simp only [Bd.ents, List.map_cons, findM, findG, kEq_at h, ih]
  split
  ·rfl
  ·cases findG kc vc l x <;> rfl
theorem mapS_at {d : TD} {kc vc : Cd} (h : kcOk d kc = true) (x : kc.D) (v : vc.D) (l : List (kc.D × vc.D)) : (Bd.map kc vc (mapS kc vc l x v)).ents = setM (Bd.map kc vc l).ents ((kc.at x).headD .nilp) ((vc.at v).headD .nilp) := by
 unfold setM mapS
 rw [findG_at h]
 cases findG kc vc l x with
 | none => simp [Bd.ents]
 | some q => simp [Bd.ents, List.map_set]
theorem dhead_at {c : Cd} {a : A2} {x : c.D} (h : c.dec [a] = some x) : (c.at x).headD .nilp = a.at := by
 rw [← dec_at h]; rfl
theorem mall_at {d : TD} {kc vc : Cd} (h : kcOk d kc = true) (l : List (kc.D × vc.D)) : (Bd.map kc vc l).ents.all (fun p => keyOk d p.1) = true := by
 rw [List.all_eq_true]
 intro p hp
 simp only [Bd.ents, List.mem_map] at hp
 obtain ⟨q, _, rfl⟩ := hp
 exact kOk_at h _
theorem mapM2 {T : TypeId → Option TI} {t : TypeId} {mem : Mem2} {m : Nat} {b : Blk2} {kc vc : Cd} {l : List (kc.D × vc.D)} {d : TD} {kt et : Nat} {ka : At} (htd : tdOf T t = some (.mp kt et)) (h2 : tdOf T kt = some d) (h1 : mget2 mem m = some b) (hbd : b.bd = .map kc vc l)
  (hc : kcOk d kc = true) (hk : keyOk d ka = true) : mapM T t mem.at (.mp m) ka = some (et, m, b.at) := by
 have hall := mall_at (vc := vc) hc l
 rw [← hbd] at hall
 unfold mapM
 simp only [htd, h2, Option.bind_some, mget_at, h1, Option.map_some]
 rw [if_pos ⟨hk, hall⟩]
theorem mput_at (t : TypeId) (a key v : A2) (mem : Mem2) (nx : Nat) : Snd (R := R) (mputK c t a key v mem nx) fun e => ((mapM c.T t mem.at a.at key.at).bind fun q =>
  if v.at.pr = true ∧ (!q.2.2.fz) = true then some { v := .u, upd := [(q.2.1, some { q.2.2 with mp := setM q.2.2.mp key.at v.at })], nn := nx, rd := [q.2.1] } else none) = some e.at := by
 intro K r e
 unfold mputK at e
 split at e
 ·rename_i m
  simp only [Option.bind_eq_some_iff] at e
  obtain ⟨b, h1, e⟩ := e
  split at e
  ·rename_i kc vc l hbd
   split at e
   ·rename_i kt et htd
    simp only [Option.bind_eq_some_iff] at e
    obtain ⟨d, h2, e⟩ := e
    split at e
    ·rename_i hc
     simp only [Option.bind_eq_some_iff] at e
     obtain ⟨kx, h3, vx, h4, e⟩ := e
     refine ⟨_, e, ?_⟩
     have hk := dhead_at h3
     have hv := dhead_at h4
     have hpr : v.at.pr = true := by
      have hd := dec_at h4
      exact (cd_names vc vx v.at (by rw [← hd]; simp)).2.2.2
     have hm : mapM c.T t mem.at (A2.mp m).at key.at = some (et, m, b.at) := mapM2 htd h2 h1 hbd hc.1 (by rw [← hk]; exact kOk_at hc.1 _)
     rw [hm, Option.bind_some, if_pos ⟨hpr, by simp [Blk2.at, hc.2]⟩]
     have hs := mapS_at hc.1 kx vx l
     rw [hk, hv] at hs
     simp [Eff2.at, nil_at, cons_at, oAt, Blk2.at, hbd, Bd.rows, Bd.ow, Sv2.at, hs]
    ·cases e
   ·cases e
  ·cases e
 ·cases e
theorem mlook_at (t : TypeId) (a key : A2) (ok : Bool) (mem : Mem2) (nx : Nat) : Snd (R := R) (mlookK c t a key ok mem nx) fun e => ((mapM c.T t mem.at a.at key.at).bind fun q => (c.T q.1).bind fun te =>
  if ok = false ∧ te.agg = false ∧ te.size = 1 ∧ te.zero.length = te.size then
   (match findM q.2.2.mp key.at with | some r => some r.2 | none => te.zero[0]?).bind fun v => some { v := .v (.a v), upd := [], nn := nx, rd := [q.2.1] }
  else none) = some e.at := by
 intro K r e
 unfold mlookK at e
 split at e
 ·rename_i m
  simp only [Option.bind_eq_some_iff] at e
  obtain ⟨b, h1, e⟩ := e
  split at e
  ·rename_i kc vc l hbd
   split at e
   ·rename_i kt et htd
    simp only [Option.bind_eq_some_iff] at e
    obtain ⟨d, h2, e⟩ := e
    split at e
    ·rename_i hc
     simp only [Option.bind_eq_some_iff] at e
     obtain ⟨kx, h3, te, h4, e⟩ := e
     split at e
     ·rename_i hz
      simp only [Option.bind_eq_some_iff] at e
      obtain ⟨z, h5, z0, h6, e⟩ := e
      refine ⟨_, e, ?_⟩
      have hk := dhead_at h3
      obtain ⟨q1, q2⟩ := zero_at h5
      have q3 := dec_at h6
      rw [q1] at q3
      have hm : mapM c.T t mem.at (A2.mp m).at key.at = some (et, m, b.at) := mapM2 htd h2 h1 hbd hc (by rw [← hk]; exact kOk_at hc _)
      have hcl : ∀ y : vc.D, ((vc.cl y).headD .nilp).at = (vc.at y).headD .nilp := by
       intro y
       rw [← cl_at]
       cases vc.cl y <;> rfl
      have hcl2 : ∀ y : vc.D, ((vc.cl y).head?.getD .nilp).at = (vc.at y).head?.getD .nilp := by
       intro y
       rw [← cl_at]
       cases vc.cl y <;> rfl
      have hf := findG_at (vc := vc) hc kx l
      rw [hk, ← hbd] at hf
      simp only [hm, h4, Option.bind_some]
      rw [if_pos hz]
      have hmp : b.at.mp = b.bd.ents := rfl
      simp only [hmp, hf]
      have hz0 : te.zero[0]? = some ((vc.at z0).headD .nilp) := by
       rw [q3]
       have hl : (vc.at z0).length = 1 := by rw [← q3, hz.2.2.2, hz.2.2.1]
       match vc.at z0, hl with
       | [y], _ => rfl
      unfold mapG
      cases findG kc vc l kx with
      | none => simp [hz0, Eff2.at, nil_at, Sv2.at, V2.at, hcl2]
      | some q => simp [Eff2.at, nil_at, Sv2.at, V2.at, hcl2]
     ·cases e
    ·cases e
   ·cases e
  ·cases e
 ·cases e
theorem cap1_at {x : A2} {p : Sigma Cd.D} (h : capOf x = some p) : [x.at] = p.1.at p.2 ∧ x.at.pr = true ∧ ∀ mem, capA mem x.at = some (x.at, []) := by
 cases x <;> simp only [capOf] at h <;> first | (cases h; exact ⟨rfl, rfl, fun _ => rfl⟩) | cases h
theorem capK_at {mem : Mem2} {x : A2} {p : Sigma Cd.D × List Nat} (h : capK mem x = some p) : ∃ y, capA mem.at x.at = some (y, p.2) ∧ [y] = p.1.1.at p.1.2 := by
 cases x with
 | ptr m i o =>
  simp only [capK, Option.bind_eq_some_iff] at h
  obtain ⟨b, h1, h⟩ := h
  split at h
  ·rename_i hp
   split at h
   ·rename_i ho
    split at h
    ·rename_i els hbd
     simp only [Option.bind_eq_some_iff] at h
     obtain ⟨e, h2, h⟩ := h
     split at h
     ·rename_i x
      simp only [Option.bind_eq_some_iff] at h
      obtain ⟨q, h3, h⟩ := h
      cases h
      obtain ⟨k1, k2, k3⟩ := cap1_at h3
      have h1' : mget mem.at m = some b.at := by rw [mget_at, h1]; rfl
      have he : b.at.els[i]? = some [x.at] := by
       simp [Blk2.at, hbd, Bd.rows, Bd.ents, Bd.ow, h2]
      refine ⟨.pp [x.at] o, ?_, ?_⟩
      ·simp only [A2.at, capA, h1', Option.bind_some]
       rw [if_pos (show b.at.pr = true ∧ b.at.ow = none from ⟨hp, by simp [Blk2.at, hbd, Bd.ow]⟩), he]
       rfl
      ·simp only [Cd.at, ho, k1]
     ·cases h
    ·cases h
   ·cases h
  ·cases h
 | _ =>
  simp only [capK, Option.bind_eq_some_iff] at h
  obtain ⟨q, h1, h⟩ := h
  cases h
  obtain ⟨k1, k2, k3⟩ := cap1_at h1
  exact ⟨_, k3 _, k1⟩
theorem capKs_at {mem : Mem2} : ∀ {xs : List A2} {ps : List (Sigma Cd.D × List Nat)}, mapO (capK mem) xs = some ps →
  ∃ ys, mapO (capA mem.at) (xs.map A2.at) = some ys ∧ ys.map (·.1) = (ps.map (·.1)).flatMap (fun p => p.1.at p.2) ∧ ys.flatMap (·.2) = ps.flatMap (·.2) := by
 intro xs
 induction xs with
 | nil => intro ps h; cases h; exact ⟨[], rfl, rfl, rfl⟩
 | cons x xs ih =>
  intro ps h
  simp only [mapO, Option.bind_eq_some_iff] at h
  obtain ⟨p, h1, ps', h2, h⟩ := h
  cases h
  obtain ⟨ys, i1, i2, i3⟩ := ih h2
  obtain ⟨y, k1, k2⟩ := capK_at h1
  refine ⟨(y, p.2) :: ys, ?_, ?_, ?_⟩
  ·simp only [List.map_cons, mapO, k1, i1, Option.bind_some]
  ·simp only [List.map_cons, List.flatMap_cons, ← k2, i2]; rfl
  ·simp only [List.flatMap_cons, i3]
theorem arF_at (mem : Mem2) (m : Nat) (v : V2) : Snd (R := R) (arFK c mem m v) fun q => arF mem.at m v.at = some (q.1.at, q.2) := by
 intro K r e
 simp only [arFK, Option.bind_eq_some_iff] at e
 obtain ⟨b, h1, e⟩ := e
 have h1' : mget mem.at m = some b.at := by rw [mget_at, h1]; rfl
 simp only [arF, h1', Option.bind_some]
 split at e
 ·rename_i hb
  obtain ⟨v', e, h2⟩ := frzV_at mem v _ _ e
  refine ⟨_, e, ?_⟩
  rw [if_pos (by exact hb), h2, Option.bind_some]
  have : smnV [v.at] = namesV2 A2.smn [v] := smnV_at [v]
  rw [this]
 ·rename_i hb
  exact ⟨_, e, by rw [if_neg (by exact hb)]⟩
theorem clear_at (t : TypeId) (a : A2) (mem : Mem2) (nx : Nat) : Snd (R := R) (clearK c t a mem nx) fun e => stpClear c t a.at mem.at nx = some e.at := by
 intro K r e
 unfold clearK at e
 unfold stpClear
 split at e
 ·rename_i el htd
  simp only [Option.bind_eq_some_iff] at e
  obtain ⟨te, h1, z1, h2, z, h2', e⟩ := e
  obtain ⟨q1, q2⟩ := fz0_at h2 h2'
  simp only [htd, h1, Option.bind_some]
  split at e
  ·exact ⟨_, e, by simp [A2.at, Eff2.at, Mem2.at, Sv2.at]⟩
  ·rename_i m lo n
   simp only [Option.bind_eq_some_iff] at e
   obtain ⟨b, h3, e⟩ := e
   split at e
   ·rename_i d l hb
    split at e
    ·rename_i hc
     simp only [Option.bind_eq_some_iff] at e
     obtain ⟨z0, h4, e⟩ := e
     split at e
     ·rename_i hl
      refine ⟨_, e, ?_⟩
      have h4' := dec_at h4
      rw [q1] at h4'
      simp only [A2.at, mget_at, h3, Option.map_some, Option.bind_some, Blk2.at, hb, Bd.rows, Bd.ents, Bd.ow, List.length_map]
      rw [if_pos ⟨hl, hc.1, by simp [hc.2.1], by omega, hc.2.2.2, trivial⟩]
      simp [Eff2.at, Mem2.at, oAt, Blk2.at, Bd.rows, Bd.ents, Bd.ow, Sv2.at, h4', List.map_take, List.map_drop]
     ·cases e
    ·cases e
   ·cases e
  ·cases e
 ·cases e
theorem FrR.gSome {fr2 : List (Nat × Sv2)} {fr : List (Nat × Sv)} (hF : FrR fr2 fr) {o : Operand} {cs : List A2} (h : gOf2 fr2 o = some cs) : gOf fr o = some (cs.map A2.at) := by
 unfold gOf2 at h
 split at h
 ·rename_i hh; cases h; unfold gOf; rw [hF.ev hh]; rfl
 ·cases h
theorem FrR.gNone {fr2 : List (Nat × Sv2)} {fr : List (Nat × Sv)} (hF : FrR fr2 fr) {o : Operand} {x : A2} (h : evA2 fr2 o = some x) : gOf fr o = none := by
 have := hF.evA h
 simp only [Am.evA, Option.bind_eq_some_iff] at this
 obtain ⟨v, h1, h2⟩ := this
 unfold gOf
 rw [h1]
 unfold Am.svA at h2
 split at h2
 ·rfl
 ·cases h2
theorem eqK_at {R : Type} : ∀ (cs ds : List A2) (K : Bool → Option R) (r : R), eqOk cs ds = true → eqK cs ds K = some r → ∃ b, eqA (cs.map A2.at) (ds.map A2.at) = some b ∧ K b = some r
 | [], ds, K, r, h, e => by
  cases ds with
  | nil => exact ⟨true, rfl, e⟩
  | cons d ds => simp [eqOk] at h
 | c :: cs, [], K, r, h, e => by cases c <;> simp [eqOk] at h
 | c :: cs, d :: ds, K, r, h, e => by
  unfold eqOk at h
  split at h
  ·rename_i h1 h2; cases h1
  ·rename_i k x r1 k2 y r2 h1 h2
   cases h1; cases h2
   split at h
   ·rename_i hk
    have hk := of_decide_eq_true hk
    subst hk
    have tot : ∃ b, eqA (cs.map A2.at) (ds.map A2.at) = some b := by
     clear e
     revert h
     generalize cs = l
     generalize ds = m
     intro h
     induction l generalizing m with
     | nil =>
      cases m with
      | nil => exact ⟨true, rfl⟩
      | cons b m => simp [eqOk] at h
     | cons a l ih =>
      cases m with
      | nil => cases a <;> simp [eqOk] at h
      | cons b m =>
       unfold eqOk at h
       split at h
       ·rename_i h1 h2; cases h1
       ·rename_i k' x' r1 k2' y' r2 h1 h2
        cases h1; cases h2
        split at h
        ·rename_i hk'
         have hk' := of_decide_eq_true hk'
         subst hk'
         obtain ⟨b, hb⟩ := ih _ h
         exact ⟨(x' == y' && b), by simp [A2.at, eqA, hb]⟩
        ·cases h
       ·cases h
    unfold eqK at e
    by_cases hxy : x = y
    ·subst hxy
     rw [if_pos (by simp)] at e
     obtain ⟨b, b1, b2⟩ := eqK_at cs ds K r h e
     exact ⟨b, by simp [A2.at, eqA, b1], b2⟩
    ·rw [if_neg (by simpa using hxy)] at e
     obtain ⟨b, hb⟩ := tot
     refine ⟨false, ?_, e⟩
     have : (x == y) = false := by simpa using hxy
     simp [A2.at, eqA, hb, this]
   ·cases h
  ·cases h
theorem eqG_at {R : Type} (op : BinOp) (ti : TI) (cs : List A2) (v : V2) (nx : Nat) (K : Eff2 → Option R) {r : R} (e : eqGK op ti cs v nx K = some r) : ∃ z : Eff2, K z = some r ∧ eqG op ti (cs.map A2.at) v.at nx = some z.at := by
 unfold eqGK at e
 split at e
 ·rename_i fs ts ds hd
  split at e
  ·rename_i hc
   split at e
   ·rename_i ho
    obtain ⟨b, b1, b2⟩ := eqK_at _ _ _ _ ho e
    unfold eqG
    simp only [hd, V2.at]
    rw [if_pos ⟨hc.1, by simpa using hc.2⟩, b1, Option.bind_some]
    split at b2
    ·exact ⟨_, b2, by simp [val, Eff2.at, nil_at, Sv2.at, V2.at, A2.at]⟩
    ·exact ⟨_, b2, by simp [val, Eff2.at, nil_at, Sv2.at, V2.at, A2.at]⟩
    ·cases b2
   ·cases e
  ·cases e
 ·cases e
theorem idx_at {R : Type} : ∀ (i : Int) (cs : List A2) (K : A2 → Option R) {r : R}, idxK i cs K = some r → ∃ x, 0 ≤ i ∧ i < cs.length ∧ (cs.map A2.at)[i.toNat]? = some x.at ∧ K x = some r
 | i, [], K, r, e => by cases e
 | i, c :: cs, K, r, e => by
  unfold idxK at e
  split at e
  ·rename_i h
   subst h
   exact ⟨c, by omega, by simp only [List.length_cons]; omega, by simp, e⟩
  ·rename_i h
   obtain ⟨x, h1, h2, h3, h4⟩ := idx_at (i - 1) cs K e
   refine ⟨x, by omega, by simp only [List.length_cons]; omega, ?_, h4⟩
   have : i.toNat = (i - 1).toNat + 1 := by omega
   rw [this]
   simpa using h3
theorem stp_at (hC : COk CO callF) (hF : FrR fr2 fr) (o : Oper) : Snd (stpK c CO o fr2 mem nx) fun e => stp c callF o fr mem.at nx = some e.at := by
 intro K r e
 obtain ⟨dst, op, type, pos, after, guard⟩ := o
 have mv : ∀ x : Operand, ((ev2 fr2 x).bind fun v =>
   match v with
   | .v (.a (.snil ..)) => match tdOf c.T type with
    | some (.sl e) => (c.T e).bind fun te => val2 (.a (.snil te.size e)) nx K
    | _ => none
   | .u => none
   | v => K { v := v, upd := [], nn := nx, rd := [] }) = some r → ∃ z : Eff2, K z = some r ∧ ((ev fr x).bind fun v =>
  match v with
  | .v (.a (.snil ..)) => match tdOf c.T type with
   | some (.sl e) => (c.T e).bind fun te => val (.a (.snil te.size e)) nx
   | _ => none
  | .u => none
  | v => some { v := v, upd := [], nn := nx, rd := [] }) = some z.at := by
  intro x e
  simp only [Option.bind_eq_some_iff] at e
  obtain ⟨v, h1, e⟩ := e
  rw [hF.ev h1, Option.bind_some]
  split at e
  ·split at e
   ·rename_i htd
    simp only [Option.bind_eq_some_iff] at e
    obtain ⟨te, h2, e⟩ := e
    exact ⟨_, e, by simp [Sv2.at, V2.at, A2.at, htd, h2, val, Eff2.at, nil_at]⟩
   ·cases e
  ·cases e
  ·rename_i h2 h3
   refine ⟨_, e, ?_⟩
   cases v with
   | u => exact absurd rfl h3
   | t vs => rfl
   | v y =>
    cases y with
    | g cs => rfl
    | a z =>
     cases z with
     | snil es ty => exact absurd rfl (h2 es ty)
     | _ => rfl
 cases op <;> simp only [stpK] at e <;> simp only [stp]
 case move x => exact mv x e
 case assign x => exact mv x e
 case pick k a b =>
  simp only [Option.bind_eq_some_iff] at e
  obtain ⟨t, h1, e⟩ := e
  rw [hF.evB h1, Option.bind_some]
  split at e
  ·rename_i ht
   subst ht
   simp only [Option.bind_eq_some_iff] at e
   obtain ⟨x, h2, e⟩ := e
   exact ⟨_, e, by simp [hF.evA h2, val, Eff2.at, Sv2.at, V2.at, nil_at]⟩
  ·rename_i ht
   simp only [Option.bind_eq_some_iff] at e
   obtain ⟨x, h2, e⟩ := e
   exact ⟨_, e, by simp [ht, hF.evA h2, val, Eff2.at, Sv2.at, V2.at, nil_at]⟩
 case alloc t =>
  simp only [Option.bind_eq_some_iff] at e
  obtain ⟨ti, h1, z, h2, e⟩ := e
  obtain ⟨q1, q2⟩ := zero_at h2
  split at e
  ·rename_i hl
   refine ⟨_, e, ?_⟩
   rw [h1, Option.bind_some, if_neg (by have := hl.2; have := hl.1; omega)]
   simp [Eff2.at, nil_at, cons_at, oAt, Blk2.at, Bd.rows, Bd.ents, Bd.ow, Sv2.at, V2.at, A2.at, q1]
  ·cases e
 case box t x =>
  simp only [Option.bind_eq_some_iff] at e
  obtain ⟨ti, h1, v, h2, e⟩ := e
  split at e
  ·rename_i hl
   refine ⟨_, e, ?_⟩
   rw [h1, Option.bind_some, hF.evV h2, Option.bind_some, cells_at, if_pos ⟨by simpa using hl.1, hl.2⟩]
   rw [all_pr]
   simp [Eff2.at, nil_at, cons_at, oAt, Blk2.at, Bd.rows, Bd.ents, Bd.ow, Sv2.at, V2.at, A2.at]
  ·cases e
 case build t parts =>
  simp only [Option.bind_eq_some_iff] at e
  obtain ⟨ti, h1, e⟩ := e
  rw [h1, Option.bind_some]
  split at e
  ·rename_i fs ts hd
   simp only [Option.bind_eq_some_iff] at e
   obtain ⟨z, h2, e⟩ := e
   obtain ⟨q1, q2⟩ := zero_at h2
   split at e
   ·rename_i hl
    simp only [Option.bind_eq_some_iff] at e
    obtain ⟨ps, h3, cs, h4, e⟩ := e
    refine ⟨_, e, ?_⟩
    have h4' := fillV_at h4
    rw [q1] at h4'
    simp only [hd]
    rw [if_neg (by omega), parts_at hF h3, Option.bind_some, h4', Option.bind_some]
    simp [val, Eff2.at, Sv2.at, V2.at, nil_at]
   ·cases e
  ·rename_i na el hd
   simp only [Option.bind_eq_some_iff] at e
   obtain ⟨te, h5, z, h2, e⟩ := e
   obtain ⟨q1, q2⟩ := zero_at h2
   split at e
   ·rename_i hl
    simp only [Option.bind_eq_some_iff] at e
    obtain ⟨ps, h3, cs, h4, e⟩ := e
    refine ⟨_, e, ?_⟩
    have h4' := fillV_at h4
    rw [q1] at h4'
    simp only [hd]
    rw [h5, Option.bind_some, if_neg (by omega), parts_at hF h3, Option.bind_some, h4', Option.bind_some]
    simp [val, Eff2.at, Sv2.at, V2.at, nil_at]
   ·cases e
  ·cases e
 case buildSlice t len parts =>
  split at e
  ·rename_i el htd
   simp only [Option.bind_eq_some_iff] at e
   obtain ⟨te, h1, z, h2, ps, h3, els0, h4, e⟩ := e
   obtain ⟨q1, q2⟩ := zero_at h2
   obtain ⟨els, e, hz⟩ := mapK_at (p := List.map A2.at) (q := List.map A2.at) (fun l => mapK_at (fun a => frzA_at mem a) l) els0 _ _ e
   split at e
   ·rename_i hl
    refine ⟨_, e, ?_⟩
    have h4' := fillE_at h4
    rw [List.map_replicate, q1] at h4'
    simp only [htd]
    have hz' : frzE mem.at (els0.map fun e => e.map A2.at) = some (els.map fun e => e.map A2.at) := hz
    rw [h1, Option.bind_some, partsN_at hF h2 h3, Option.bind_some, h4', Option.bind_some, hz', Option.bind_some, if_pos ⟨hl.1, hl.2.1, hl.2.2.1, by omega⟩]
    simp [Eff2.at, nil_at, cons_at, app_at, oAt, Blk2.at, packB_rows, packB_ents, packB_ow, Sv2.at, V2.at, A2.at, fz_at, smnE_at]
    have := allall_pr els
    rw [List.all_map] at this
    simpa [Function.comp_def] using this
   ·cases e
  ·cases e
 case load t x =>
  simp only [Option.bind_eq_some_iff] at e
  obtain ⟨ti, h1, a, h2, e⟩ := e
  rw [h1, Option.bind_some, hF.evA h2, Option.bind_some]
  split at e
  ·rename_i m i o
   simp only [Option.bind_eq_some_iff] at e
   obtain ⟨b, h3, e⟩ := e
   split at e
   ·rename_i els hb
    simp only [Option.bind_eq_some_iff] at e
    obtain ⟨el, h4, v, h5, e⟩ := e
    refine ⟨_, e, ?_⟩
    simp [A2.at, mget_at, h3, Blk2.at, hb, Bd.rows, Bd.ents, Bd.ow, h4, part_at h5, Eff2.at, nil_at, Sv2.at]
   ·rename_i d l hb
    simp only [Option.bind_eq_some_iff] at e
    obtain ⟨el, h4, v, h5, e⟩ := e
    refine ⟨_, e, ?_⟩
    have h5' := part_at h5
    rw [cl_at] at h5'
    simp [A2.at, mget_at, h3, Blk2.at, hb, Bd.rows, Bd.ents, Bd.ow, h4, h5', Eff2.at, nil_at, Sv2.at]
   ·cases e
  ·rename_i m i es
   simp only [A2.at]
   exact out_at _ _ _ _ _ _ _ _ e
  ·rename_i d el o
   simp only [Option.bind_eq_some_iff] at e
   obtain ⟨v, h5, e⟩ := e
   refine ⟨_, e, ?_⟩
   have h5' := part_at h5
   rw [cl_at] at h5'
   simp [A2.at, h5', val, Eff2.at, nil_at, Sv2.at]
  ·cases e
 case store t x y =>
  simp only [Option.bind_eq_some_iff] at e
  obtain ⟨ti, h1, v, h2, a, h3, e⟩ := e
  rw [h1, Option.bind_some, hF.evV h2, Option.bind_some, hF.evA h3, Option.bind_some]
  split at e
  ·rename_i m i o
   obtain ⟨q, e, hq⟩ := arF_at mem m v _ _ e
   simp only [frc, Option.bind_eq_some_iff] at e
   obtain ⟨b, h4, e⟩ := e
   have h4' : mget (updM mem.at (fzUpd mem.at q.2)) m = some b.at := by
    rw [← fz_at, ← upd_at, mget_at, h4]; rfl
   split at e
   ·rename_i els hb
    simp only [Option.bind_eq_some_iff] at e
    obtain ⟨el, h5, e⟩ := e
    split at e
    ·rename_i hl
     refine ⟨_, e, ?_⟩
     simp only [A2.at, hq, Option.bind_some, h4', Blk2.at, hb, Bd.rows, Bd.ents, Bd.ow, List.getElem?_map, h5, Option.map_some, cells_at, List.length_map]
     rw [if_pos ⟨hl.1, hl.2.1, by simp [hl.2.2]⟩]
     simp [Eff2.at, nil_at, cons_at, app_at, fz_at, oAt, Blk2.at, Bd.rows, Bd.ents, Bd.ow, Sv2.at, List.map_set, put_at, Function.comp_def, pr_at]
    ·cases e
   ·rename_i d l hb
    simp only [Option.bind_eq_some_iff] at e
    obtain ⟨el, h5, e⟩ := e
    split at e
    ·rename_i hl
     simp only [Option.bind_eq_some_iff] at e
     obtain ⟨el', h6, e⟩ := e
     refine ⟨_, e, ?_⟩
     have h6' := dec_at h6
     rw [put_at, cl_at] at h6'
     have hlen : o + ti.size ≤ (d.at el).length := by have := hl.2.1; rwa [← List.length_map (f := A2.at), cl_at] at this
     simp only [A2.at, hq, Option.bind_some, h4', Blk2.at, hb, Bd.rows, Bd.ents, Bd.ow, List.getElem?_map, h5, Option.map_some, cells_at, List.length_map]
     rw [if_pos ⟨hl.1, hlen, by simp [hl.2.2.1]⟩]
     simp [Eff2.at, nil_at, cons_at, app_at, fz_at, oAt, Blk2.at, Bd.rows, Bd.ents, Bd.ow, Sv2.at, List.map_set, h6', Function.comp_def, pr_at]
    ·cases e
   ·cases e
  ·rename_i m i es
   split at e
   ·rename_i hz
    simp only [A2.at]
    rw [if_pos hz]
    exact into_at _ _ _ _ _ _ _ _ _ e
   ·cases e
  ·cases e
 case nilCheck x =>
  simp only [Option.bind_eq_some_iff] at e
  obtain ⟨a, h1, e⟩ := e
  rw [hF.evA h1, Option.bind_some]
  split at e
  ·exact ⟨_, e, by simp [A2.at, val, Eff2.at, nil_at, Sv2.at, V2.at]⟩
  ·exact ⟨_, e, by simp [A2.at, val, Eff2.at, nil_at, Sv2.at, V2.at]⟩
  ·exact ⟨_, e, by simp [A2.at, val, Eff2.at, nil_at, Sv2.at, V2.at]⟩
  ·cases e
 case binOp op ty x y u =>
  split at e
  ·rename_i cs hg
   simp only [Option.bind_eq_some_iff] at e
   obtain ⟨ti, h1, v, h2, e⟩ := e
   rw [hF.gSome hg]
   simp only [h1, Option.bind_some, hF.evV h2]
   exact eqG_at op ti cs v nx K e
  simp only [Option.bind_eq_some_iff] at e
  obtain ⟨a, h1, b, h2, e⟩ := e
  obtain ⟨z, e, h3⟩ := bin_at c.T op ty a b _ _ e
  rw [hF.gNone h1]
  exact ⟨_, e, by simp [hF.evA h1, hF.evA h2, h3, valA, val, Eff2.at, nil_at, Sv2.at, V2.at]⟩
 case unOp op ty x =>
  simp only [Option.bind_eq_some_iff] at e
  obtain ⟨a, h1, e⟩ := e
  obtain ⟨z, e, h3⟩ := un_at op a _ _ e
  exact ⟨_, e, by simp [hF.evA h1, h3, valA, val, Eff2.at, nil_at, Sv2.at, V2.at]⟩
 case convert src ds x =>
  simp only [Option.bind_eq_some_iff] at e
  obtain ⟨a, h1, e⟩ := e
  rw [hF.evA h1, Option.bind_some]
  split at e
  ·rename_i el ht1 ht2
   simp only [ht1, ht2]
   split at e
   ·rename_i ht3
    obtain ⟨s, rd, e, h2⟩ := els_at _ _ _ _ _ e
    simp only [ht3, h2, Option.bind_some]
    split at e
    ·refine ⟨_, e, ?_⟩
     simp [Src.rows, byteEls, Eff2.at, nil_at, Sv2.at, V2.at, A2.at]
    ·rename_i l
     refine ⟨_, e, ?_⟩
     have key : ∀ l : List Int, byteEls (l.map (Cd.at (.int .u8))) = some (l.map fun n : Int => n.toNat.toUInt8) := by
      intro l
      induction l with
      | nil => rfl
      | cons x l ih =>
       simp only [List.map_cons]
       show (byteEls (l.map (Cd.at (.int .u8)))).bind _ = _
       rw [ih]
       rfl
     have key' := key l
     simp only [Src.rows, key', Option.bind_some, Eff2.at, nil_at, Sv2.at, V2.at, A2.at, List.map_nil]
    ·cases e
   ·cases e
  ·rename_i hno
   obtain ⟨z, e, h3⟩ := conv_at c.T src ds a _ _ e
   refine ⟨_, e, ?_⟩
   split
   ·rename_i el ht1 ht2; exact absurd ht2 (hno el ht1)
   ·simp [h3, valA, val, Eff2.at, nil_at, Sv2.at, V2.at]
 case makeSlice t l k =>
  split at e
  ·rename_i el htd
   simp only [Option.bind_eq_some_iff] at e
   obtain ⟨te, h1, z1, h2, z, h2', d, h3, z0, h4, l, h5, k, h6, e⟩ := e
   obtain ⟨q1, q2⟩ := fz0_at h2 h2'
   split at e
   ·rename_i hs
    split at e
    ·rename_i hb
     simp only [Option.bind_eq_some_iff] at e
     obtain ⟨bd, hbd, e⟩ := e
     obtain ⟨b1, b2, b3⟩ := mkB_at hbd
     refine ⟨_, e, ?_⟩
     have h4' := dec_at h4
     rw [q1] at h4'
     simp only [htd]
     rw [h1, Option.bind_some, hF.evI h5, Option.bind_some, hF.evI h6, Option.bind_some, if_pos ⟨hb.1, hb.2.1, hb.2.2, hs.1, hs.2.1, by omega⟩]
     simp [Eff2.at, nil_at, cons_at, oAt, Blk2.at, b1, b2, b3, Sv2.at, V2.at, A2.at, h4']
    ·cases e
   ·cases e
  ·cases e
 case slice t x lo hi mx =>
  split at e
  ·cases e
  ·rename_i hmx
   rw [if_neg hmx]
   simp only [Option.bind_eq_some_iff] at e
   obtain ⟨td, h1, a, h2, e⟩ := e
   rw [h1, Option.bind_some, hF.evA h2, Option.bind_some]
   split at e
   ·rename_i s
    simp only [Option.bind_eq_some_iff] at e
    obtain ⟨l, h3, h, h4, e⟩ := e
    split at e
    ·rename_i hb
     refine ⟨_, e, ?_⟩
     simp only [A2.at, hF.bound h3, hF.bound h4, Option.bind_some]
     rw [if_pos hb]
     simp [val, Eff2.at, nil_at, Sv2.at, V2.at, A2.at]
    ·cases e
   ·rename_i el d els
    simp only [Option.bind_eq_some_iff] at e
    obtain ⟨te, h3, l, h4, h, h5, e⟩ := e
    split at e
    ·rename_i hz
     split at e
     ·rename_i hb
      refine ⟨_, e, ?_⟩
      simp only [A2.at, h3, hF.bound h4, hF.bound h5, Option.bind_some]
      rw [if_pos ⟨hb.1, hb.2.1, hb.2.2, hz⟩]
      simp only [val, Eff2.at, nil_at, Sv2.at, V2.at, A2.at, List.map_nil, List.map_take, List.map_drop, List.length_take, List.length_drop]
      rw [show min (h.toNat - l.toNat) (els.length - l.toNat) = h.toNat - l.toNat by omega]
     ·cases e
    ·cases e
   ·rename_i el m b n
    simp only [Option.bind_eq_some_iff] at e
    obtain ⟨te, h3, B, h4, e⟩ := e
    split at e
    ·rename_i d els hbd
     simp only [Option.bind_eq_some_iff] at e
     obtain ⟨l, h5, h, h6, e⟩ := e
     split at e
     ·rename_i hz
      split at e
      ·rename_i hb
       refine ⟨_, e, ?_⟩
       simp only [A2.at, h3, mget_at, h4, Option.map_some, hF.bound h5, hF.bound h6, Option.bind_some]
       rw [if_pos ⟨hb.1, hb.2.1, by simpa [Blk2.at, hbd, Bd.rows, Bd.ents, Bd.ow] using hb.2.2.1, hb.2.2.2, hz.1, hz.2, by simp [Blk2.at, hbd, Bd.ow]⟩]
       simp [Eff2.at, nil_at, Sv2.at, V2.at, A2.at]
      ·cases e
     ·cases e
    ·rename_i els hbd
     simp only [Option.bind_eq_some_iff] at e
     obtain ⟨l, h5, h, h6, e⟩ := e
     split at e
     ·rename_i hz
      split at e
      ·rename_i hb
       refine ⟨_, e, ?_⟩
       simp only [A2.at, h3, mget_at, h4, Option.map_some, hF.bound h5, hF.bound h6, Option.bind_some]
       rw [if_pos ⟨hb.1, hb.2.1, by simpa [Blk2.at, hbd, Bd.rows, Bd.ents, Bd.ow] using hb.2.2.1, hb.2.2.2, hz.1, hz.2, by simp [Blk2.at, hbd, Bd.ow]⟩]
       simp [Eff2.at, nil_at, Sv2.at, V2.at, A2.at]
      ·cases e
     ·cases e
    ·cases e
   ·cases e
 case fieldAddr s x f =>
  split at e
  ·rename_i fs ts htd
   simp only [htd]
   simp only [Option.bind_eq_some_iff] at e
   obtain ⟨p, h1, e⟩ := e
   rw [h1, Option.bind_some]
   split at e
   ·cases e
   ·rename_i h0
    rw [if_neg h0]
    simp only [Option.bind_eq_some_iff] at e
    obtain ⟨a, h2, e⟩ := e
    rw [hF.evA h2, Option.bind_some]
    split at e
    ·exact ⟨_, e, by simp [A2.at, val, Eff2.at, nil_at, Sv2.at, V2.at]⟩
    ·exact ⟨_, e, by simp [A2.at, val, Eff2.at, nil_at, Sv2.at, V2.at]⟩
    ·cases e
  ·cases e
 case field s x f =>
  split at e
  ·rename_i fs ts htd
   simp only [htd]
   simp only [Option.bind_eq_some_iff] at e
   obtain ⟨p, h1, ft, h2, v, h3, e⟩ := e
   rw [h1, Option.bind_some, h2, Option.bind_some, hF.evV h3, Option.bind_some]
   split at e
   ·simp only [Option.bind_eq_some_iff] at e
    obtain ⟨ti, h4, v', h5, e⟩ := e
    refine ⟨_, e, ?_⟩
    simp [V2.at, h4, part_at h5, val, Eff2.at, nil_at, Sv2.at]
   ·cases e
  ·cases e
 case indexAddr t x i =>
  split at e
  ·rename_i el htd
   simp only [Option.bind_eq_some_iff] at e
   obtain ⟨te, h1, i, h2, a, h3, e⟩ := e
   simp only [htd]
   rw [h1, Option.bind_some, hF.evI h2, Option.bind_some, hF.evA h3, Option.bind_some]
   split at e
   ·rename_i d els
    split at e
    ·rename_i hz
     split at e
     ·rename_i h0
      simp only [Option.bind_eq_some_iff] at e
      obtain ⟨y, h4, e⟩ := e
      refine ⟨_, e, ?_⟩
      have hlt : i.toNat < els.length := (List.getElem?_eq_some_iff.1 h4).1
      simp only [A2.at]
      rw [if_pos ⟨h0, by omega, hz⟩]
      simp [h4, val, Eff2.at, nil_at, Sv2.at, V2.at, A2.at]
     ·cases e
    ·cases e
   ·rename_i m b n
    split at e
    ·rename_i hnn
     split at e
     ·rename_i hb0
      split at e
      ·rename_i hb
       refine ⟨_, e, ?_⟩
       simp only [A2.at]
       rw [if_pos hnn, if_pos ⟨hb.1, hb.2, hb0⟩]
       simp [val, Eff2.at, nil_at, Sv2.at, V2.at, A2.at]
      ·cases e
     ·cases e
    rename_i hnn
    simp only [Option.bind_eq_some_iff] at e
    obtain ⟨B, h4, e⟩ := e
    split at e
    ·rename_i hz
     split at e
     ·rename_i hb
      refine ⟨_, e, ?_⟩
      simp only [A2.at, mget_at, h4, Option.map_some, Option.bind_some]
      rw [if_neg hnn, if_pos ⟨hb.1, hb.2, hz⟩]
      simp [Eff2.at, nil_at, Sv2.at, V2.at, A2.at]
     ·cases e
    ·cases e
   ·cases e
  ·cases e
 case index t x i =>
  split at e
  ·rename_i cs hg
   simp only [Option.bind_eq_some_iff] at e
   obtain ⟨ti, h1, i, h2, e⟩ := e
   rw [hF.gSome hg]
   simp only [h1, Option.bind_some, hF.evI h2]
   split at e
   ·rename_i n el hd
    simp only [Option.bind_eq_some_iff] at e
    obtain ⟨te, h3, e⟩ := e
    split at e
    ·rename_i hc
     obtain ⟨x, q1, q2, q3, e⟩ := idx_at _ _ _ e
     refine ⟨_, e, ?_⟩
     simp only [hd, h3, Option.bind_some]
     rw [if_pos ⟨hc.1, hc.2.1, q1, by omega⟩]
     simp [q3, val, Eff2.at, nil_at, Sv2.at, V2.at]
    ·cases e
   ·cases e
  simp only [Option.bind_eq_some_iff] at e
  obtain ⟨td, h1, a, h2, i, h3, e⟩ := e
  rw [hF.gNone h2]
  simp only
  rw [h1, Option.bind_some, hF.evA h2, Option.bind_some, hF.evI h3, Option.bind_some]
  split at e
  ·rename_i s
   split at e
   ·rename_i h0
    simp only [Option.bind_eq_some_iff] at e
    obtain ⟨b, h4, e⟩ := e
    refine ⟨_, e, ?_⟩
    simp only [A2.at]
    rw [if_pos h0, h4]
    simp [val, Eff2.at, nil_at, Sv2.at, V2.at, A2.at]
   ·cases e
  ·cases e
 case extract x i =>
  simp only [Option.bind_eq_some_iff] at e
  obtain ⟨v, h1, e⟩ := e
  rw [hF.ev h1, Option.bind_some]
  split at e
  ·simp only [Option.bind_eq_some_iff] at e
   obtain ⟨y, h2, e⟩ := e
   refine ⟨_, e, ?_⟩
   simp [Sv2.at, h2, val, Eff2.at, nil_at]
  ·cases e
 case call k =>
  obtain ⟨callee, args, argTypes⟩ := k
  cases callee with
  | builtin bi =>
   cases bi <;> try simp only [] at e ⊢
   case len =>
    obtain ⟨td, h1, e⟩ := Option.bind_eq_some_iff.1 e
    obtain ⟨a, h2, e⟩ := Option.bind_eq_some_iff.1 e
    obtain ⟨o, h3, h4⟩ := Option.bind_eq_some_iff.1 h2
    try simp only [] at h1 h3
    rw [h1, Option.bind_some, h3, Option.bind_some, hF.evA h4, Option.bind_some]
    split at e
    all_goals first | exact ⟨_, e, by simp [A2.at, val, Eff2.at, nil_at, Sv2.at, V2.at]⟩ | skip
    ·obtain ⟨b, h5, e⟩ := Option.bind_eq_some_iff.1 e
     split at e
     ·rename_i hbd
      exact ⟨_, e, by simp [A2.at, mget_at, h5, Blk2.at, hbd, Bd.ents, Eff2.at, nil_at, Sv2.at, V2.at]⟩
     ·cases e
    ·cases e
   case min =>
    obtain ⟨x, h1, e⟩ := Option.bind_eq_some_iff.1 e
    obtain ⟨y, h2, e⟩ := Option.bind_eq_some_iff.1 e
    obtain ⟨o3, h3, h3'⟩ := Option.bind_eq_some_iff.1 h1
    obtain ⟨o4, h4, h4'⟩ := Option.bind_eq_some_iff.1 h2
    try simp only [] at h3 h4
    rw [h3, Option.bind_some, hF.evA h3', Option.bind_some, h4, Option.bind_some, hF.evA h4', Option.bind_some]
    split at e
    ·rename_i hq
     rw [if_pos hq]
     cases x <;> cases y <;> first | (cases e; done) | exact ⟨_, e, by simp [minA, A2.at, val, Eff2.at, nil_at, Sv2.at, V2.at]⟩
    ·cases e
   case max =>
    obtain ⟨x, h1, e⟩ := Option.bind_eq_some_iff.1 e
    obtain ⟨y, h2, e⟩ := Option.bind_eq_some_iff.1 e
    obtain ⟨o3, h3, h3'⟩ := Option.bind_eq_some_iff.1 h1
    obtain ⟨o4, h4, h4'⟩ := Option.bind_eq_some_iff.1 h2
    try simp only [] at h3 h4
    rw [h3, Option.bind_some, hF.evA h3', Option.bind_some, h4, Option.bind_some, hF.evA h4', Option.bind_some]
    split at e
    ·rename_i hq
     rw [if_pos hq]
     cases x <;> cases y <;> first | (cases e; done) | exact ⟨_, e, by simp [maxA, A2.at, val, Eff2.at, nil_at, Sv2.at, V2.at]⟩
    ·cases e
   case clear =>
    obtain ⟨t, h1, e⟩ := Option.bind_eq_some_iff.1 e
    obtain ⟨a, h2, e⟩ := Option.bind_eq_some_iff.1 e
    obtain ⟨o3, h3, h3'⟩ := Option.bind_eq_some_iff.1 h2
    try simp only [] at h1 h3
    rw [h1, Option.bind_some, h3, Option.bind_some, hF.evA h3', Option.bind_some]
    exact clear_at _ _ _ _ _ _ e
   case append =>
    obtain ⟨t, h1, e⟩ := Option.bind_eq_some_iff.1 e
    obtain ⟨t', h2, e⟩ := Option.bind_eq_some_iff.1 e
    obtain ⟨s, h3, e⟩ := Option.bind_eq_some_iff.1 e
    obtain ⟨x, h4, e⟩ := Option.bind_eq_some_iff.1 e
    obtain ⟨o3, h3, h3'⟩ := Option.bind_eq_some_iff.1 h3
    obtain ⟨o4, h4, h4'⟩ := Option.bind_eq_some_iff.1 h4
    rw [h1, Option.bind_some, h2, Option.bind_some, h3, Option.bind_some, hF.evA h3', Option.bind_some, h4, Option.bind_some, hF.evA h4', Option.bind_some]
    split at e
    ·rename_i ht
     rw [if_pos ht]
     exact appK_at _ _ _ _ _ _ _ e
    ·cases e
   all_goals cases e
  | value f =>
   simp only [] at e ⊢
   obtain ⟨a, h1, e⟩ := Option.bind_eq_some_iff.1 e
   rw [hF.evA h1, Option.bind_some]
   split at e
   ·rename_i g cs
    obtain ⟨zs, h2, e⟩ := Option.bind_eq_some_iff.1 e
    obtain ⟨z, e, h3⟩ := call_at hC _ _ _ _ _ _ e
    refine ⟨z, e, ?_⟩
    simp only [A2.at]
    have h2' := mapO_at (p := id) (q := V2.at) (f := evV2 fr2) (g := evV fr) (fun x y h => hF.evV h) h2
    rw [List.map_id] at h2'
    rw [h2', Option.bind_some]
    have hc : (cs.flatMap fun p => (p.1.cl p.2).map V2.a).map V2.at = (cs.flatMap fun p => p.1.at p.2).map Vl.a := by
     rw [List.map_flatMap, List.map_flatMap]
     congr 1; funext p
     rw [← cl_at, List.map_map, List.map_map]
     rfl
    rw [List.map_append, hc] at h3
    exact h3
   ·cases e
  | invoke => cases e
 case makeMap t r =>
  split at e
  ·rename_i hr
   rw [if_pos hr]
   split at e
   ·simp only [Option.bind_eq_some_iff] at e
    obtain ⟨kc, h1, vc, h2, e⟩ := e
    exact ⟨_, e, by simp [Eff2.at, nil_at, cons_at, oAt, Blk2.at, Bd.rows, Bd.ents, Bd.ow, Sv2.at, V2.at, A2.at]⟩
   ·cases e
  ·cases e
 case lookup t x k ok =>
  simp only [Option.bind_eq_some_iff] at e
  obtain ⟨a, h1, key, h2, e⟩ := e
  obtain ⟨z, e, hz⟩ := mlook_at t a key ok mem nx _ _ e
  exact ⟨z, e, by rw [hF.evA h1, Option.bind_some, hF.evA h2, Option.bind_some]; exact hz⟩
 case mapUpdate t x k y =>
  simp only [Option.bind_eq_some_iff] at e
  obtain ⟨a, h1, key, h2, v, h3, e⟩ := e
  obtain ⟨z, e, hz⟩ := mput_at t a key v mem nx _ _ e
  exact ⟨z, e, by rw [hF.evA h1, Option.bind_some, hF.evA h2, Option.bind_some, hF.evA h3, Option.bind_some]; exact hz⟩
 case insert t x k y =>
  simp only [Option.bind_eq_some_iff] at e
  obtain ⟨a, h1, key, h2, v, h3, e⟩ := e
  obtain ⟨z, e, hz⟩ := mput_at t a key v mem nx _ _ e
  exact ⟨z, e, by rw [hF.evA h1, Option.bind_some, hF.evA h2, Option.bind_some, hF.evA h3, Option.bind_some]; exact hz⟩
 case makeFunc fn first cs =>
  split at e
  ·rename_i hf
   rw [if_pos hf]
   split at e
   ·rename_i f
    simp only [Option.bind_eq_some_iff] at e
    obtain ⟨xs, h1, ps, h2, e⟩ := e
    refine ⟨_, e, ?_⟩
    have h1' := mapO_at (p := id) (q := A2.at) (f := evA2 fr2) (g := evA fr) (fun x y h => hF.evA h) h1
    rw [List.map_id] at h1'
    obtain ⟨ys, q0, q1, q2⟩ := capKs_at h2
    simp only [h1', q0, Option.bind_some]
    simp [Eff2.at, Sv2.at, V2.at, A2.at, q1, q2, fz_at]
   ·cases e
  ·cases e
 all_goals cases e
end

structure StR (σ2 : St2) (σ : St) : Prop where
 fr : FrR σ2.fr σ.fr
 mem : σ.mem = σ2.mem.at
 nx : σ.nx = σ2.nx
def OutR : Out2 → Out → Prop
 | .norm σ2, .norm σ => StR σ2 σ
 | .exit i σ2, .exit j σ => i = j ∧ StR σ2 σ
 | .ret σ2, .ret σ => StR σ2 σ
 | _, _ => False
/-- All loops of a code, but for those within others. -/
def LAll (Q : Nat → Code → Prop) : Nat → Code → Prop
 | b, .seq x y => LAll Q b x ∧ LAll Q b y
 | b, .cond _ x y => LAll Q b x ∧ LAll Q b y
 | _, .block id x => LAll Q id x
 | b, .loop x => Q b x
 | _, _ => True

section
variable {R : Type} {c : Cfg} {callF : FuncId → List Vl → List Blk → Option (List Vl × List Blk)} {CO : FuncId → List V2 → List Blk2 → (List V2 × List Blk2 → Option R) → Option R}
 {LO : Nat → Code → St2 → (Out2 → Option R) → Option R} {σ2 : St2} {σ : St} {nt : Nat} {ops : List Oper}

def homeS (σ : St) : St := { σ with mem := homeM (List.range σ.nx) σ.mem }
theorem home1_none {mem : Mem} {m : Nat} (h : ∀ b, mget mem m = some b → b.ow = none) : home1 mem m = mem := by
 unfold home1
 cases hm : mget mem m with
 | none => rfl
 | some b => simp only [h b hm]
theorem home2_at (mem : Mem2) (m : Nat) : Snd (R := R) (home2 mem m) fun mem' => home1 mem.at m = mem'.at := by
 intro K r h
 unfold home2 at h
 split at h
 ·rename_i b hb
  have hb' : mget mem.at m = some b.at := by rw [mget_at, hb]; rfl
  split at h
  ·rename_i d l i x n q hbd
   split at h
   ·rename_i hc
    obtain ⟨rx, h, hz, hh⟩ := home_at mem d q x n _ _ h
    refine ⟨_, h, ?_⟩
    have hrows : b.at.els = tset (l.map (Cd.at (.sl d))) i [.sm x 0 n] := by simp [Blk2.at, hbd, Bd.rows]
    have how : b.at.ow = some q := by simp [Blk2.at, hbd, Bd.ow]
    unfold home1
    rw [hb']
    simp only [how]
    rw [if_neg (by simp [Blk2.at, hc.1, hc.2]), stl_out _ _ _ d l i x n rx hrows hh]
    rw [upd_at]
    simp [cons_at, nil_at, oAt, Blk2.at, Bd.rows, Bd.ents, Bd.ow, hbd]
   ·cases h
  ·rename_i d l q hbd
   split at h
   ·rename_i hp
    refine ⟨_, h, ?_⟩
    have how : b.at.ow = some q := by simp [Blk2.at, hbd, Bd.ow]
    unfold home1
    rw [hb']
    simp only [how]
    rw [if_pos (.inl hp)]
   ·cases h
  ·rename_i h1 h2
   refine ⟨_, h, ?_⟩
   refine home1_none fun B hB => ?_
   rw [hb'] at hB
   cases hB
   cases hbd : b.bd <;> simp only [Blk2.at, hbd, Bd.ow]
   ·exact absurd hbd (h2 _ _ _)
   ·exact absurd hbd (h1 _ _ _ _ _ _)
 ·rename_i hb
  refine ⟨_, h, ?_⟩
  exact home1_none fun B hB => by rw [mget_at, hb] at hB; cases hB
theorem homes2_at : ∀ (l : List Nat) (mem : Mem2), Snd (R := R) (homes2 l mem) fun mem' => homeM l mem.at = mem'.at
 | [], mem => fun K r h => ⟨_, h, rfl⟩
 | m :: r, mem => fun K r1 h => by
  obtain ⟨mem1, h, h1⟩ := home2_at mem m _ _ h
  obtain ⟨mem2, h, h2⟩ := homes2_at r mem1 _ _ h
  exact ⟨_, h, by simp only [homeM, h1, h2]⟩
theorem noNst_get {b : Blk2} : ∀ {mem : Mem2} {m : Nat}, mem.all noNst = true → mget2 mem m = some b → b.bd.ow = none
 | [], m, _, h => by cases h
 | p :: r, m, ha, h => by
  simp only [List.all_cons, Bool.and_eq_true] at ha
  unfold mget2 at h
  simp only [lk] at h
  by_cases hp : p.1 = m
  ·rw [if_pos hp] at h
   obtain ⟨p1, p2⟩ := p
   cases p2 with
   | none => simp at h
   | some B => simp at h; subst h; simpa [noNst] using ha.1
  ·rw [if_neg hp] at h
   exact noNst_get ha.2 h
theorem homed_at (nx : Nat) (mem : Mem2) : Snd (R := R) (homed2 nx mem) fun mem' => homeM (List.range nx) mem.at = mem'.at := by
 intro K r h
 unfold homed2 at h
 split at h
 ·rename_i ha
  refine ⟨_, h, ?_⟩
  generalize List.range nx = l
  induction l with
  | nil => rfl
  | cons m l ih =>
   rw [homeM, home1_none, ih]
   intro B hB
   rw [mget_at] at hB
   cases hm : mget2 mem m with
   | none => rw [hm] at hB; cases hB
   | some b => rw [hm] at hB; cases hB; exact noNst_get ha hm
 ·exact homes2_at _ _ _ _ h
theorem homeS_at (hs : StR σ2 σ) {K : Mem2 → Option R} {r : R} (h : homed2 σ2.nx σ2.mem K = some r) : ∃ mem0, K mem0 = some r ∧ StR { fr := σ2.fr, mem := mem0, nx := σ2.nx } (homeS σ) := by
 obtain ⟨mem0, h, h1⟩ := homed_at _ _ _ _ h
 exact ⟨mem0, h, hs.fr, by rw [← h1, ← hs.mem, ← hs.nx]; rfl, hs.nx⟩
theorem putK_at {d : Option Nat} {v : Sv2} {fr2 : List (Nat × Sv2)} {fr : List (Nat × Sv)} (hF : FrR fr2 fr) {K : List (Nat × Sv2) → Option R} {r : R} (e : putK2 nt d v fr2 K = some r) :
  ∃ fr2', K fr2' = some r ∧ ∃ fr', putD nt fr d v.at = some fr' ∧ FrR fr2' fr' := by
 cases d with
 | none => exact ⟨_, e, fr, rfl, hF⟩
 | some d =>
  simp only [putK2] at e
  split at e
  ·rename_i h; exact ⟨_, e, _, by simp only [putD]; rw [if_pos h], hF.cons d v⟩
  ·cases e

theorem did_at (hC : COk CO callF) (hs : StR σ2 σ) (o : Oper) (is : List Info) (F : St → List Info → Option (St × List Info)) {K : St2 → List Info → Option R} {r : R} (e : didK2 c CO nt o σ2 is K = some r) :
  ∃ σ2' is', K σ2' is' = some r ∧ ∃ σ', didK F nt o σ is (stp c callF o σ.fr σ.mem σ.nx) = F σ' is' ∧ StR σ2' σ' := by
 unfold didK2 at e
 obtain ⟨ef, e, h1⟩ := stp_at hC hs.fr o _ _ e
 obtain ⟨fr2', e, fr', h2, h3⟩ := putK_at hs.fr e
 refine ⟨_, _, e, { fr := fr', mem := updM σ.mem ef.at.upd, nx := ef.at.nn }, ?_, ⟨h3, ?_, rfl⟩⟩
 ·rw [hs.mem, hs.nx, h1]
  simp only [didK]
  rw [show ef.at.v = ef.v.at from rfl, h2]
  simp only [putK, hs.mem]
  congr 2
  simp [Eff2.at, keys_at]
 ·simp [Eff2.at, hs.mem, upd_at]
theorem skip_at (hs : StR σ2 σ) (o : Oper) (is : List Info) (F : St → List Info → Option (St × List Info)) {K : St2 → List Info → Option R} {r : R} (e : skipK2 nt o σ2 is K = some r) :
  ∃ σ2' is', K σ2' is' = some r ∧ ∃ σ', putK F σ.mem σ.nx { rd := [], wr := [] } is (putD nt σ.fr o.dst .u) = F σ' is' ∧ StR σ2' σ' := by
 unfold skipK2 at e
 obtain ⟨fr2', e, fr', h2, h3⟩ := putK_at hs.fr e
 refine ⟨_, _, e, { fr := fr', mem := σ.mem, nx := σ.nx }, ?_, ⟨h3, hs.mem, hs.nx⟩⟩
 rw [show Sv2.at .u = Sv.u from rfl] at h2
 rw [h2]; rfl
theorem know_at (hs : StR σ2 σ) {d : Nat} {b b' : Bool} (hl : lk σ2.fr d = some (.v (.a (.bool b)))) (hb : b = b') : StR (know d b' σ2) σ :=
 ⟨hs.fr.know hl hb, hs.mem, hs.nx⟩

theorem ops_at (hC : COk CO callF) : ∀ (l : List Oper) (σ2 : St2) (σ : St) (is : List Info) (K : St2 → List Info → Option R) (r : R), StR σ2 σ → runOps2 c CO nt ops l σ2 is K = some r →
  ∃ σ2' is', K σ2' is' = some r ∧ ∃ σ', runOps c callF nt ops l σ is = some (σ', is') ∧ StR σ2' σ' := by
 intro l
 induction l with
 | nil => intro σ2 σ is K r hs e; exact ⟨_, _, e, σ, rfl, hs⟩
 | cons o l ih =>
  intro σ2 σ is K r hs e
  simp only [runOps2] at e
  unfold wantK2 at e
  have hrun : runOps c callF nt ops (o :: l) σ is = wantK c callF (runOps c callF nt ops l) nt o σ is (wantO ops o σ.fr) := rfl
  split at e
  ·rename_i hg
   obtain ⟨σ2', is', e, σ', h1, h2⟩ := did_at hC hs o is (runOps c callF nt ops l) e
   obtain ⟨σ2'', is'', e, σ'', h3, h4⟩ := ih _ _ _ _ _ h2 e
   refine ⟨_, _, e, σ'', ?_, h4⟩
   rw [hrun, wantO, hg]
   simp only [wantK, h1, h3]
  ·rename_i j want hg
   simp only [Option.bind_eq_some_iff] at e
   obtain ⟨d, hd, v, hv, e⟩ := e
   have hv' := hs.fr d v hv
   have hd' : (ops[j]?.bind fun x => x.dst) = some d := Option.bind_eq_some_iff.2 hd
   split at e
   ·rename_i b
    split at e
    ·rename_i hb
     obtain ⟨σ2', is', e, σ', h1, h2⟩ := did_at hC (know_at hs hv hb) o is (runOps c callF nt ops l) e
     obtain ⟨σ2'', is'', e, σ'', h3, h4⟩ := ih _ _ _ _ _ h2 e
     refine ⟨_, _, e, σ'', ?_, h4⟩
     rw [hrun, wantO, hg]
     simp only [hd', Option.bind_some, hv', Sv2.at, V2.at, A2.at, hb, beq_self_eq_true, wantK, h1, h3]
    ·rename_i hb
     obtain ⟨σ2', is', e, σ', h1, h2⟩ := skip_at (know_at hs hv (by cases b <;> cases want <;> simp_all)) o is (runOps c callF nt ops l) e
     obtain ⟨σ2'', is'', e, σ'', h3, h4⟩ := ih _ _ _ _ _ h2 e
     refine ⟨_, _, e, σ'', ?_, h4⟩
     have hb' : (b == want) = false := by simpa using hb
     rw [hrun, wantO, hg]
     simp only [hd', Option.bind_some, hv', Sv2.at, V2.at, A2.at, hb', wantK, h1, h3]
   ·rename_i hno
    obtain ⟨σ2', is', e, σ', h1, h2⟩ := skip_at hs o is (runOps c callF nt ops l) e
    obtain ⟨σ2'', is'', e, σ'', h3, h4⟩ := ih _ _ _ _ _ h2 e
    refine ⟨_, _, e, σ'', ?_, h4⟩
    have hw : wantO ops o σ.fr = some false := by
     rw [wantO, hg]
     simp only [hd', Option.bind_some, hv']
     cases v with
     | u => rfl
     | t vs => rfl
     | v y => cases y with
      | g cs => rfl
      | a z => cases z <;> first | rfl | exact absurd rfl (hno _)
    rw [hrun, hw]
    simp only [wantK, h1, h3]

variable {kp : Nat → List Kp} {k p : Nat}
/-- A loop's word is the abstract machine's. -/
def LOk (LO : Nat → Code → St2 → (Out2 → Option R) → Option R) (c : Cfg) (callF : FuncId → List Vl → List Blk → Option (List Vl × List Blk)) (kp : Nat → List Kp) (nt k p : Nat) (b : Nat) (x : Code) : Prop :=
 ∀ σ2 σ, StR σ2 (homeS σ) → Snd (LO b x σ2) fun o2 => ∃ o, loopN (headN p (kp b)) (runC c callF kp nt k p b x) k σ = some o ∧ OutR o2 o

theorem run_at (hC : COk CO callF) : ∀ (x : Code) (b : Nat) (σ2 : St2) (σ : St), LAll (LOk LO c callF kp nt k p) b x → StR σ2 σ →
  Snd (run2 c CO LO nt b x σ2) fun o2 => ∃ o, runC c callF kp nt k p b x σ = some o ∧ OutR o2 o := by
 intro x
 induction x with
 | skip => intro b σ2 σ hL hs K r e; exact ⟨_, e, _, rfl, hs⟩
 | region id ops draw =>
  intro b σ2 σ hL hs K r e
  simp only [run2] at e
  obtain ⟨σ2', is', e, σ', h1, h2⟩ := ops_at hC _ _ _ _ _ _ hs e
  split at e
  ·cases e
  ·rename_i hd
   refine ⟨_, e, .norm σ', ?_, h2⟩
   simp only [runC, h1, regK]
   rw [if_neg (by simpa using hd)]
 | seq x y ihx ihy =>
  intro b σ2 σ hL hs K r e
  simp only [run2] at e
  obtain ⟨o2, e, o, h1, h2⟩ := ihx b _ _ hL.1 hs _ _ e
  cases o2 with
  | norm σ2' =>
   cases o <;> simp only [OutR] at h2
   rename_i σ'
   obtain ⟨o2, e, o, h3, h4⟩ := ihy b _ _ hL.2 h2 _ _ e
   exact ⟨o2, e, o, by simp only [runC, h1, seqK, h3], h4⟩
  | exit i σ2' =>
   refine ⟨_, e, o, ?_, h2⟩
   cases o <;> simp only [OutR] at h2
   simp only [runC, h1, seqK]
  | ret σ2' =>
   refine ⟨_, e, o, ?_, h2⟩
   cases o <;> simp only [OutR] at h2
   simp only [runC, h1, seqK]
 | cond o x y ihx ihy =>
  intro b σ2 σ hL hs K r e
  have gen : ((evB2 σ2.fr o).bind fun q => if q = true then run2 c CO LO nt b x σ2 K else run2 c CO LO nt b y σ2 K) = some r →
    ∃ o2, K o2 = some r ∧ ∃ out, runC c callF kp nt k p b (.cond o x y) σ = some out ∧ OutR o2 out := by
   intro e
   simp only [Option.bind_eq_some_iff] at e
   obtain ⟨q, hq, e⟩ := e
   split at e
   ·rename_i hb
    subst hb
    obtain ⟨o2, e, o', h3, h4⟩ := ihx b _ _ hL.1 hs _ _ e
    exact ⟨o2, e, o', by simp only [runC, hs.fr.evB hq, cndK, h3], h4⟩
   ·rename_i hb
    obtain ⟨o2, e, o', h3, h4⟩ := ihy b _ _ hL.2 hs _ _ e
    exact ⟨o2, e, o', by simp only [runC, hs.fr.evB hq, (show q = false by simpa using hb), cndK, h3], h4⟩
  cases o with
  | tmp t =>
   simp only [run2, Option.bind_eq_some_iff] at e
   obtain ⟨v, hv, e⟩ := e
   have hv' := hs.fr t v hv
   split at e
   ·rename_i q
    have hq : evB σ.fr (.tmp t) = some q := by simp [evB, evA, ev, hv', Sv2.at, V2.at, A2.at, svA, asB]
    split at e
    ·rename_i hb
     obtain ⟨o2, e, o', h3, h4⟩ := ihx b _ _ hL.1 (know_at hs hv hb) _ _ e
     exact ⟨o2, e, o', by simp only [runC, hq, hb, cndK, h3], h4⟩
    ·rename_i hb
     have hb' : q = false := by simpa using hb
     obtain ⟨o2, e, o', h3, h4⟩ := ihy b _ _ hL.2 (know_at hs hv hb') _ _ e
     exact ⟨o2, e, o', by simp only [runC, hq, hb', cndK, h3], h4⟩
   ·cases e
  | const v => exact gen (by simpa only [run2] using e)
  | func f => exact gen (by simpa only [run2] using e)
  | global g => exact gen (by simpa only [run2] using e)
 | block id x ih =>
  intro b σ2 σ hL hs K r e
  simp only [run2] at e
  obtain ⟨o2, e, o, h1, h2⟩ := ih id _ _ hL hs _ _ e
  cases o2 with
  | norm σ2' =>
   refine ⟨_, e, o, ?_, h2⟩
   cases o <;> simp only [OutR] at h2
   simp only [runC, h1, blkK]
  | exit i σ2' =>
   cases o <;> simp only [OutR] at h2
   rename_i j σ'
   obtain ⟨rfl, h2⟩ := h2
   simp only [] at e
   split at e
   ·rename_i hi
    exact ⟨_, e, .norm σ', by simp only [runC, h1, blkK]; rw [if_pos hi], h2⟩
   ·rename_i hi
    exact ⟨_, e, .exit i σ', by simp only [runC, h1, blkK]; rw [if_neg hi], rfl, h2⟩
  | ret σ2' =>
   refine ⟨_, e, o, ?_, h2⟩
   cases o <;> simp only [OutR] at h2
   simp only [runC, h1, blkK]
 | loop x ih =>
  intro b σ2 σ hL hs K r e
  obtain ⟨mem0, e, h1⟩ := homeS_at hs e
  exact hL _ σ h1 K r e
 | exit id => intro b σ2 σ hL hs K r e; exact ⟨_, e, _, rfl, rfl, hs⟩
 | ret => intro b σ2 σ hL hs K r e; exact ⟨_, e, _, rfl, hs⟩
 | _ => intro b σ2 σ hL hs K r e; cases e

theorem own_at (T : TypeId → Option TI) (nx : Nat) (a : A2) : ownA nx a.at = ((ownA2 T nx a).1.at, (ownA2 T nx a).2.1.at, (ownA2 T nx a).2.2) := by
 cases a <;> try rfl
 case snil es ty =>
  simp only [A2.at, ownA, ownA2, Mem2.at, List.map_cons, List.map_nil, oAt, Option.map_some, Blk2.at]
  split <;> rfl
theorem ownL_at (T : TypeId → Option TI) : ∀ (cs : List A2) (nx : Nat), ownL nx (cs.map A2.at) = ((ownL2 T nx cs).1.map A2.at, (ownL2 T nx cs).2.1.at, (ownL2 T nx cs).2.2) := by
 intro cs
 induction cs with
 | nil => intro nx; rfl
 | cons a cs ih =>
  intro nx
  simp only [List.map_cons, ownL, own_at T, ih, ownL2, app_at]
theorem keep_at (hs : StR σ2 σ) : ∀ (ks : List Kp) (q : List (Nat × V2) × Mem2 × Nat), keepL2 c.T σ2 ks = some q → keepL σ ks = some (q.1.map (fun p => (p.1, Sv.v p.2.at)), q.2.1.at, q.2.2) := by
 intro ks
 induction ks with
 | nil => intro q e; cases e; simp [keepL, hs.nx, Mem2.at]
 | cons kk ks ih =>
  intro q e
  cases kk with
  | s t =>
   simp only [keepL2, Option.bind_eq_some_iff] at e
   obtain ⟨q0, h1, e⟩ := e
   simp only [keepL, ih _ h1, Option.bind_some]
   split at e
   ·rename_i x hx
    cases e
    simp only [hs.fr _ _ hx, Sv2.at, V2.at, own_at c.T, app_at, List.map_cons]
   ·rename_i cs hx
    cases e
    simp only [hs.fr _ _ hx, Sv2.at, V2.at, ownL_at c.T, app_at, List.map_cons]
   ·cases e
  | b t =>
   simp only [keepL2, Option.bind_eq_some_iff] at e
   obtain ⟨q0, h1, e⟩ := e
   simp only [keepL, ih _ h1, Option.bind_some]
   split at e
   ·rename_i m o hx
    simp only [Option.bind_eq_some_iff] at e
    obtain ⟨b, h2, e⟩ := e
    split at e
    ·rename_i el hb
     cases e
     simp only [hs.fr _ _ hx, Sv2.at, V2.at, A2.at, hs.mem, ← upd_at, mget_at, h2, Option.map_some, Option.bind_some, Blk2.at, hb, Bd.rows, Bd.ents, Bd.ow, Option.isSome_none, Bool.false_eq_true, if_false, List.map_cons, List.map_nil, ownL_at c.T, app_at, cons_at, oAt, all_pr, nil_at]
    ·cases e
   ·cases e
theorem renS_at {ρ : Nat → Option Nat} : ∀ {l : List (Nat × V2)} {s : List (Nat × Sv2)}, renS2 ρ l = some s → renS ρ (l.map fun p => (p.1, Sv.v p.2.at)) = some (s.map fun p => (p.1, p.2.at)) := by
 intro l
 induction l with
 | nil => intro s e; cases e; rfl
 | cons q l ih =>
  intro s e
  simp only [renS2, Option.bind_eq_some_iff] at e
  obtain ⟨y, h1, r, h2, e⟩ := e
  cases e
  simp only [List.map_cons, renS, renV_at h1, ih h2, Option.bind_some, Sv2.at]
theorem lk_map {β γ : Type} (g : β → γ) (l : List (Nat × β)) (t : Nat) : lk (l.map fun p => (p.1, g p.2)) t = (lk l t).map g := by
 induction l with
 | nil => rfl
 | cons p l ih =>
  simp only [List.map_cons, lk]
  split
  ·rfl
  ·exact ih
def vOf : Sv → Option Vl
 | .v x => some x
 | _ => none
def headB (p : Nat) (mem : Mem) (fr0 : List (Nat × Sv)) (N : List Nat) : Option St :=
 (renS (idx N) fr0).bind fun fr =>
 (mapO (fun m => (mget mem m).bind (renB (idx N))) N).bind fun bs =>
 if N.take p = List.range p then some { fr := fr, mem := zipU (List.range N.length) bs, nx := N.length } else none
theorem headN_eq (p : Nat) (ks : List Kp) (σ : St) : headN p ks σ = (keepL (homeS σ) ks).bind fun q => headB p (updM (homeS σ).mem q.2.1) q.1 (clo (namesM (updM (homeS σ).mem q.2.1)) 64 (List.range p ++ namesV (q.1.filterMap fun s => vOf s.2)) []) := rfl
theorem head_at (hs : StR σ2 (homeS σ)) {ks : List Kp} {S2 : St2} (e : head2 c.T p ks σ2 = some S2) : ∃ S, headN p ks σ = some S ∧ StR S2 S := by
 unfold head2 at e
 simp only [Option.bind_eq_some_iff] at e
 have hm : (homeS σ).mem = σ2.mem.at := hs.mem
 obtain ⟨q, h1, fr, h2, bs, h3, e⟩ := e
 generalize hN : clo (names2 A2.nm (upd2 σ2.mem q.2.1)) 64 (List.range p ++ namesV2 A2.nm (q.1.map (·.2))) [] = N at h2 h3 e
 split at e
 ·rename_i hp
  cases e
  have h3' := mapO_at (p := id) (q := Blk2.at) (g := fun m => (mget (upd2 σ2.mem q.2.1).at m).bind (renB (idx N))) (fun m b h => by
   simp only [Option.bind_eq_some_iff] at h
   obtain ⟨b0, h4, h5⟩ := h
   simp only [id_eq, mget_at, h4, Option.map_some, Option.bind_some]
   exact renB_at h5) h3
  rw [List.map_id] at h3'
  have hfm : ∀ l : List (Nat × V2), List.filterMap (fun s : Nat × Sv => vOf s.2) (l.map fun p => (p.1, Sv.v p.2.at)) = (l.map (·.2)).map V2.at := by
   intro l
   induction l with
   | nil => rfl
   | cons a l ih => rw [List.map_cons, List.filterMap_cons, List.map_cons, List.map_cons, ← ih]; rfl
  refine ⟨{ fr := fr.map fun p => (p.1, p.2.at), mem := zipU (List.range N.length) (bs.map Blk2.at), nx := N.length }, ?_, ⟨?_, ?_, rfl⟩⟩
  ·rw [headN_eq, keep_at hs _ _ h1]
   simp only [Option.bind_some, hm, ← upd_at, namesM_at, hfm, namesV_at, hN]
   simp only [headB, renS_at h2, h3', Option.bind_some]
   rw [if_pos hp]
  ·intro t v h
   rw [lk_map, h]; rfl
  ·exact (zip_at _ _).symm
 ·cases e
end

section
variable {R : Type} {c : Cfg} {callF : FuncId → List Vl → List Blk → Option (List Vl × List Blk)} {CO : FuncId → List V2 → List Blk2 → (List V2 × List Blk2 → Option R) → Option R}
 {LO : Nat → Code → St2 → (Out2 → Option R) → Option R} {σ2 : St2} {σ : St} {nt : Nat} {kp : Nat → List Kp} {k p : Nat}

theorem resOf_at (hs : StR σ2 σ) {v : ResultVar} {x : V2} (e : resOf2 c σ2 v = some x) : resOf c σ v = some x.at := by
 cases v with
 | tmp t => exact hs.fr.evV e
 | cell a t =>
  simp only [resOf2, Option.bind_eq_some_iff] at e
  obtain ⟨ti, h1, y, h2, e⟩ := e
  simp only [resOf, h1, Option.bind_some, hs.fr.evA h2]
  split at e
  ·simp only [Option.bind_eq_some_iff] at e
   obtain ⟨b, h3, e⟩ := e
   split at e
   ·rename_i els hb
    simp only [Option.bind_eq_some_iff] at e
    obtain ⟨el, h4, e⟩ := e
    simp [A2.at, hs.mem, mget_at, h3, Blk2.at, hb, Bd.rows, Bd.ents, Bd.ow, h4, part_at e]
   ·cases e
  ·cases e
theorem ownVs_at (T : TypeId → Option TI) : ∀ (vs : List V2) (nx : Nat), ownVs nx (vs.map V2.at) = ((ownVs2 T nx vs).1.map V2.at, (ownVs2 T nx vs).2.1.at, (ownVs2 T nx vs).2.2) := by
 intro vs
 induction vs with
 | nil => intro nx; rfl
 | cons a vs ih =>
  intro nx
  cases a with
  | a x => simp only [List.map_cons, V2.at, ownVs, own_at T, ih, ownVs2, app_at]
  | g cs => simp only [List.map_cons, V2.at, ownVs, ownL_at T, ih, ownVs2, app_at]
theorem clo_at' (f : FuncId) (mem : Mem2) (l acc : List Nat) : clo (fun m => if c.mutA f then namesM mem.at m else ptrsM mem.at m) 64 l acc = clo (if c.mutA f then names2 A2.nm mem else names2 A2.ptrs mem) 64 l acc := clo_at f mem l acc
theorem resf_at (f : FuncId) (mem : Mem2) (a rs0 : List V2) : Snd (R := R) (fun K => if c.ownR f then K a else mapK (frzVK c mem) rs0 K) fun rs => (if c.ownR f then some (a.map V2.at) else mapO (frzV mem.at) (rs0.map V2.at)) = some (rs.map V2.at) := by
 intro K r e
 simp only [] at e
 split at e
 ·rename_i h; exact ⟨_, e, by rw [if_pos h]⟩
 ·rename_i h
  obtain ⟨x, e1, h1⟩ := mapK_at (fun v => frzV_at mem v) rs0 _ _ e
  exact ⟨x, e1, by rw [if_neg h]; exact h1⟩
theorem fin_at (hs : StR σ2 σ) (f : FuncId) (fn : Func) : Snd (R := R) (finishK c f fn.results.toList p σ2) fun r => finish c f fn p σ = some (r.1.map V2.at, r.2.map Blk2.at) := by
 intro K r e
 unfold finishK at e
 simp only [Option.bind_eq_some_iff] at e
 obtain ⟨rs0, h1, e⟩ := e
 have h1' := mapO_at (p := id) (q := V2.at) (f := resOf2 c σ2) (g := resOf c σ) (fun _ _ => resOf_at hs) h1
 rw [List.map_id] at h1'
 generalize hq : (if c.ownR f then ownVs2 c.T σ2.nx rs0 else (rs0, [], σ2.nx)) = q at e
 have hq' : (if c.ownR f then ownVs σ.nx (rs0.map V2.at) else (rs0.map V2.at, [], σ.nx)) = (q.1.map V2.at, q.2.1.at, q.2.2) := by
  rw [← hq, hs.nx]
  split
  ·exact ownVs_at _ _ _
  ·rfl
 obtain ⟨rs, e, h2⟩ := resf_at f (upd2 σ2.mem q.2.1) q.1 rs0 _ _ e
 simp only [Option.bind_eq_some_iff] at e
 obtain ⟨rs', h3, e⟩ := e
 generalize hN : clo (if c.mutA f then names2 A2.nm (upd2 σ2.mem q.2.1) else names2 A2.ptrs (upd2 σ2.mem q.2.1)) 64 (List.range p ++ namesV2 A2.nm rs) [] = N at e h3
 obtain ⟨bs, e, h4⟩ := mapK_at (q := Blk2.at) (p := id) (g := fun m => (mget (Mem2.at _) m).bind fun b => (if c.mutA f then some b else frzB (upd2 σ2.mem q.2.1).at b).bind (renB (idx _))) (fun m => blk_at _ _ _ _ m) _ _ _ e
 split at e
 ·rename_i hp
  refine ⟨_, e, ?_⟩
  rw [List.map_id, upd_at, fz_at] at h4
  have h3' := mapO_at (fun _ _ => renV_at) h3
  unfold finish
  rw [h1']
  simp only [Option.bind_some, hq', hs.mem, ← upd_at, h2, namesV_at, smnV_at, smnM_at, clo_at', hN, h3']
  rw [upd_at σ2.mem] at h4 ⊢
  rw [h4]
  simp only [Option.bind_some]
  rw [if_pos hp]
 ·cases e
theorem finK_at {o2 : Out2} {o : Out} (ho : OutR o2 o) (f : FuncId) (fn : Func) {K : List V2 × List Blk2 → Option R} {r : R} (e : finK2 c f fn.results.toList p K o2 = some r) :
  ∃ x, K x = some r ∧ finK c f fn p (some o) = some (x.1.map V2.at, x.2.map Blk2.at) := by
 cases o2 with
 | norm σ2 =>
  cases o <;> simp only [OutR] at ho
  exact fin_at ho f fn _ _ e
 | ret σ2 =>
  cases o <;> simp only [OutR] at ho
  exact fin_at ho f fn _ _ e
 | exit i σ2 => cases e
theorem enum_at {β γ : Type} (g : β → γ) : ∀ (n : Nat) (l : List β), enum n (l.map g) = (enum n l).map fun p => (p.1, g p.2)
 | _, [] => rfl
 | n, x :: l => by simp only [List.map_cons, enum, enum_at g (n + 1) l]
theorem body_at (hC : COk CO callF) (f : FuncId) (fn : Func) (body : Code) (args : List V2) (blks : List Blk2) (hL : LAll (LOk LO c callF kp fn.ntmps k blks.length) 0 body) :
  Snd (body2 c CO LO f fn.ntmps fn.results.toList body args blks) fun r =>
   finK c f fn (blks.map Blk2.at).length (runC c callF kp fn.ntmps k (blks.map Blk2.at).length 0 body { fr := enum 0 ((args.map V2.at).map Sv.v), mem := enum 0 ((blks.map Blk2.at).map some), nx := (blks.map Blk2.at).length }) = some (r.1.map V2.at, r.2.map Blk2.at) := by
 intro K r e
 unfold body2 at e
 simp only [List.length_map]
 have hs : StR { fr := enum2 args, mem := enum 0 (blks.map some), nx := blks.length } { fr := enum 0 ((args.map V2.at).map Sv.v), mem := enum 0 ((blks.map Blk2.at).map some), nx := blks.length } := by
  refine ⟨?_, ?_, rfl⟩
  ·intro t v h
   have : (args.map V2.at).map Sv.v = (args.map Sv2.v).map Sv2.at := by simp [Function.comp_def, Sv2.at]
   simp only [] at h ⊢
   rw [this, enum_at, lk_map]
   unfold enum2 at h
   rw [h]; rfl
  ·have : (blks.map Blk2.at).map some = (blks.map some).map (fun o => o.map Blk2.at) := by simp [Function.comp_def]
   simp only []
   rw [this, enum_at]
   rfl
 obtain ⟨o2, e, o, h1, h2⟩ := run_at hC body 0 _ _ hL hs _ _ e
 obtain ⟨x, e, h3⟩ := finK_at h2 f fn e
 exact ⟨x, e, by rw [h1]; exact h3⟩
end

/-! Shapes: what is fixed of a word, and what is left open; the open parts stand in a row. -/
inductive Lt
 | w (c : Cd) | nat
 deriving DecidableEq
@[reducible] def Lt.D : Lt → Type
 | .w c => c.D
 | .nat => Nat
structure Leaf where
 t : Lt
 x : t.D
/-- A row of open parts. -/
@[reducible] def Tp : List Lt → Type
 | [] => Unit
 | [t] => t.D
 | t :: u :: r => t.D × Tp (u :: r)
def toL : (ts : List Lt) → Tp ts → List Leaf
 | [], _ => []
 | [t], x => [⟨t, x⟩]
 | t :: u :: r, x => ⟨t, x.1⟩ :: toL (u :: r) x.2
def castD (a b : Lt) (x : a.D) : Option b.D := if h : a = b then some (h ▸ x) else none
theorem castD_eq {a b : Lt} {x : a.D} {y : b.D} (h : castD a b x = some y) : (⟨b, y⟩ : Leaf) = ⟨a, x⟩ := by
 unfold castD at h
 split at h
 ·rename_i e; subst e; cases h; rfl
 ·cases h
theorem castD_self (a : Lt) (x : a.D) : castD a a x = some x := by simp [castD]
def ofL : (ts : List Lt) → List Leaf → Option (Tp ts)
 | [], [] => some ()
 | [t], [y] => castD y.t t y.x
 | t :: u :: r, y :: l => (castD y.t t y.x).bind fun a => (ofL (u :: r) l).bind fun b => some (a, b)
 | _, _ => none
theorem ofL_eq : ∀ {ts : List Lt} {l : List Leaf} {x : Tp ts}, ofL ts l = some x → toL ts x = l
 | [], l, x, h => by
  cases l with
  | nil => rfl
  | cons y l => cases h
 | [t], l, x, h => by
  match l, h with
  | [y], h => simp only [toL, castD_eq (b := t) h]
  | [], h => cases h
  | _ :: _ :: _, h => cases h
 | t :: u :: r, l, x, h => by
  match l, h with
  | [], h => cases h
  | y :: l, h =>
   simp only [ofL, Option.bind_eq_some_iff] at h
   obtain ⟨a, h1, b, h2, h⟩ := h
   cases h
   simp only [toL, castD_eq h1, ofL_eq h2]

inductive Sh
 | lf (c : Cd) | snil (es ty : Nat) | nilp | ptr (m i o : Nat) | smz (m : Nat) | sms (m : Nat) | fn (f : FuncId) (cs : List Cd) | mp (m : Nat)
def Sh.ts : Sh → List Lt
 | .lf c => [.w c]
 | .smz _ => [.nat]
 | .sms _ => [.nat, .nat]
 | .fn _ cs => cs.map Lt.w
 | _ => []
def capsE : List Cd → List Leaf → List (Sigma Cd.D) × List Leaf
 | [], l => ([], l)
 | c :: cs, y :: r => (fun p => ((match castD y.t (.w c) y.x with | some x => [⟨c, x⟩] | none => []) ++ p.1, p.2)) (capsE cs r)
 | _ :: _, [] => ([], [])
theorem capsE_rt : ∀ (ps : List (Sigma Cd.D)) (r : List Leaf), capsE (ps.map (·.1)) (ps.map (fun p => (⟨.w p.1, p.2⟩ : Leaf)) ++ r) = (ps, r)
 | [], r => rfl
 | p :: ps, r => by
  simp only [List.map_cons, List.cons_append, capsE, capsE_rt ps r]
  rw [castD_self (.w p.1) p.2]
  rfl
def Sh.enc : Sh → List Leaf → A2 × List Leaf
 | .lf c, y :: r => ((match castD y.t (.w c) y.x with | some x => (c.cl x).headD .nilp | none => .nilp), r)
 | .snil es ty, r => (.snil es ty, r)
 | .nilp, r => (.nilp, r)
 | .ptr m i o, r => (.ptr m i o, r)
 | .smz m, ⟨.nat, n⟩ :: r => (.sm m 0 n, r)
 | .sms m, ⟨.nat, lo⟩ :: ⟨.nat, n⟩ :: r => (.sm m lo n, r)
 | .fn f cs, r => (fun p => (.fn f p.1, p.2)) (capsE cs r)
 | .mp m, r => (.mp m, r)
 | _, r => (.nilp, r)
def Sh.dec : Sh → A2 → Option (List Leaf)
 | .lf c, a => (c.dec [a]).bind fun x => some [⟨.w c, x⟩]
 | .snil es ty, .snil es' ty' => if es' = es ∧ ty' = ty then some [] else none
 | .nilp, .nilp => some []
 | .ptr m i o, .ptr m' i' o' => if m' = m ∧ i' = i ∧ o' = o then some [] else none
 | .smz m, .sm m' lo n => if m' = m ∧ lo = 0 then some [⟨.nat, n⟩] else none
 | .sms m, .sm m' lo n => if m' = m then some [⟨.nat, lo⟩, ⟨.nat, n⟩] else none
 | .mp m, .mp m' => if m' = m then some [] else none
 | .fn f cs, .fn f' ps => if f' = f ∧ ps.map (·.1) = cs then some (ps.map fun p => ⟨.w p.1, p.2⟩) else none
 | _, _ => none
/-- What is read can be written anew. -/
def Rt {α β : Type} (enc : α → List Leaf → β × List Leaf) (dec : α → β → Option (List Leaf)) : Prop := ∀ s a l, dec s a = some l → ∀ r, enc s (l ++ r) = (a, r)
theorem Sh.rt : Rt Sh.enc Sh.dec := by
 intro s a l h r
 cases s with
 | lf c =>
  simp only [Sh.dec, Option.bind_eq_some_iff] at h
  obtain ⟨x, h1, h⟩ := h
  cases h
  have := dec_eq (c := c) h1
  simp only [List.cons_append, List.nil_append, Sh.enc]
  rw [castD_self (.w c) x]
  simp only [← this, List.headD_cons]
 | nilp =>
  cases a <;> simp only [Sh.dec] at h <;> first | cases h | skip
  rfl
 | fn f cs =>
  cases a <;> simp only [Sh.dec] at h <;> first | cases h | skip
  split at h
  ·rename_i ps e
   obtain ⟨rfl, rfl⟩ := e
   cases h
   simp only [Sh.enc, capsE_rt]
  ·cases h
 | _ =>
  cases a <;> simp only [Sh.dec] at h <;> first | cases h | skip
  split at h
  ·rename_i e; cases h; simp [Sh.enc, e]
  ·cases h
/-- Rows of shapes. -/
def encR {α β : Type} (enc : α → List Leaf → β × List Leaf) : List α → List Leaf → List β × List Leaf
 | [], l => ([], l)
 | s :: r, l => (fun p => (fun q => (p.1 :: q.1, q.2)) (encR enc r p.2)) (enc s l)
def decR {α β : Type} (dec : α → β → Option (List Leaf)) : List α → List β → Option (List Leaf)
 | [], [] => some []
 | s :: r, a :: b => (dec s a).bind fun x => (decR dec r b).bind fun y => some (x ++ y)
 | _, _ => none
theorem Rt.row {α β : Type} {enc : α → List Leaf → β × List Leaf} {dec : α → β → Option (List Leaf)} (H : Rt enc dec) : Rt (encR enc) (decR dec) := by
 intro l
 induction l with
 | nil => intro zs x h r; cases zs with
  | nil => cases h; rfl
  | cons a zs => cases h
 | cons s l ih =>
  intro zs x h r
  cases zs with
  | nil => cases h
  | cons a zs =>
   simp only [decR, Option.bind_eq_some_iff] at h
   obtain ⟨y, h1, z, h2, h⟩ := h
   cases h
   simp only [encR, List.append_assoc, H _ _ _ h1, ih _ _ h2]
inductive ShV
 | a (s : Sh) | g (ss : List Sh)
def ShV.ts : ShV → List Lt
 | .a s => s.ts
 | .g ss => ss.flatMap Sh.ts
def ShV.enc : ShV → List Leaf → V2 × List Leaf
 | .a s, l => (fun p => (.a p.1, p.2)) (s.enc l)
 | .g ss, l => (fun p => (.g p.1, p.2)) (encR Sh.enc ss l)
def ShV.dec : ShV → V2 → Option (List Leaf)
 | .a s, .a x => s.dec x
 | .g ss, .g cs => decR Sh.dec ss cs
 | _, _ => none
theorem ShV.rt : Rt ShV.enc ShV.dec := by
 intro s a l h r
 cases s with
 | a s => cases a with
  | a y => simp only [ShV.enc, Sh.rt _ _ _ h]
  | g cs => cases h
 | g ss => cases a with
  | a y => cases h
  | g cs => simp only [ShV.enc, Sh.rt.row _ _ _ h]
inductive ShB
 | arr (c : Cd) (es : Nat) (ty : TypeId) (fz : Bool)
 | raw (els : List (List Sh)) (es : Nat) (ty : TypeId) (pr fz ar : Bool)
 | map (kc vc : Cd) (ty : TypeId) (fz : Bool)
 | nst (c : Cd) (qt qs : Nat) (ty : TypeId) (fz : Bool)
def ShB.ts : ShB → List Lt
 | .arr c _ _ _ => [.w (.sl c)]
 | .raw els _ _ _ _ _ => els.flatMap fun e => e.flatMap Sh.ts
 | .map kc vc _ _ => [.w (.sl (.pr kc vc))]
 | .nst c _ _ _ _ => [.w (.sl (.sl c))]
def ShB.enc : ShB → List Leaf → Blk2 × List Leaf
 | .arr c es ty fz, l => match l with
  | y :: r => ((match castD y.t (.w (.sl c)) y.x with | some x => ⟨.arr c x, es, ty, true, fz, true⟩ | none => ⟨.raw [], es, ty, true, fz, true⟩), r)
  | [] => (⟨.raw [], es, ty, true, fz, true⟩, [])
 | .raw els es ty pr fz ar, l => (fun p => (⟨.raw p.1, es, ty, pr, fz, ar⟩, p.2)) (encR (encR Sh.enc) els l)
 | .map kc vc ty fz, l => match l with
  | y :: r => ((match castD y.t (.w (.sl (.pr kc vc))) y.x with | some x => ⟨.map kc vc x, 0, ty, true, fz, true⟩ | none => ⟨.raw [], 0, ty, true, fz, true⟩), r)
  | [] => (⟨.raw [], 0, ty, true, fz, true⟩, [])
 | .nst c qt qs ty fz, l => match l with
  | y :: r => ((match castD y.t (.w (.sl (.sl c))) y.x with | some x => ⟨.nst c x (qt, qs), 1, ty, true, fz, true⟩ | none => ⟨.raw [], 1, ty, true, fz, true⟩), r)
  | [] => (⟨.raw [], 1, ty, true, fz, true⟩, [])
def ShB.dec (s : ShB) (b : Blk2) : Option (List Leaf) :=
 match s with
 | .arr c es ty fz => match b with
  | ⟨.arr c' l, es', ty', true, fz', true⟩ => if es' = es ∧ ty' = ty ∧ fz' = fz then (castL c' c l).bind fun l => some [⟨.w (.sl c), l⟩] else none
  | _ => none
 | .raw els es ty pr fz ar => match b with
  | ⟨.raw els', es', ty', pr', fz', ar'⟩ => if es' = es ∧ ty' = ty ∧ pr' = pr ∧ fz' = fz ∧ ar' = ar then decR (decR Sh.dec) els els' else none
  | _ => none
 | .map kc vc ty fz => match b with
  | ⟨.map kc' vc' l, 0, ty', true, fz', true⟩ => if ty' = ty ∧ fz' = fz ∧ kc' = kc ∧ vc' = vc then (castL (.pr kc' vc') (.pr kc vc) l).bind fun l => some [⟨.w (.sl (.pr kc vc)), l⟩] else none
  | _ => none
 | .nst c qt qs ty fz => match b with
  | ⟨.nst c' l (qt', qs'), 1, ty', true, fz', true⟩ => if ty' = ty ∧ fz' = fz ∧ c' = c ∧ qt' = qt ∧ qs' = qs then (castL (.sl c') (.sl c) l).bind fun l => some [⟨.w (.sl (.sl c)), l⟩] else none
  | _ => none
theorem ShB.rt : Rt ShB.enc ShB.dec := by
 intro s b l h r
 cases s with
 | arr c es ty fz =>
  simp only [ShB.dec] at h
  split at h
  ·split at h
   ·rename_i e
    obtain ⟨rfl, rfl, rfl⟩ := e
    simp only [Option.bind_eq_some_iff] at h
    obtain ⟨x, hx, h⟩ := h
    cases h
    obtain ⟨hc, rfl⟩ := castL_eq hx
    subst hc
    simp only [List.cons_append, ShB.enc, List.nil_append]
    rw [castD_self (.w (.sl _)) _]
   ·cases h
  ·cases h
 | raw els es ty pr fz ar =>
  simp only [ShB.dec] at h
  split at h
  ·split at h
   ·rename_i e
    obtain ⟨rfl, rfl, rfl, rfl, rfl⟩ := e
    simp only [ShB.enc, Sh.rt.row.row _ _ _ h]
   ·cases h
  ·cases h
 | map kc vc ty fz =>
  simp only [ShB.dec] at h
  split at h
  ·split at h
   ·rename_i e
    obtain ⟨rfl, rfl, rfl, rfl⟩ := e
    simp only [Option.bind_eq_some_iff] at h
    obtain ⟨x, hx, h⟩ := h
    cases h
    obtain ⟨hc, rfl⟩ := castL_eq hx
    simp only [List.cons_append, ShB.enc, List.nil_append]
    rw [castD_self (.w (.sl (.pr _ _))) _]
   ·cases h
  ·cases h
 | nst c qt qs ty fz =>
  simp only [ShB.dec] at h
  split at h
  ·split at h
   ·rename_i e
    obtain ⟨rfl, rfl, rfl, rfl, rfl⟩ := e
    simp only [Option.bind_eq_some_iff] at h
    obtain ⟨x, hx, h⟩ := h
    cases h
    obtain ⟨hc, rfl⟩ := castL_eq hx
    simp only [List.cons_append, ShB.enc, List.nil_append]
    rw [castD_self (.w (.sl (.sl _))) _]
   ·cases h
  ·cases h

/-- A call's shape, or an answer's. -/
structure FS where
 vs : List ShV
 bs : List ShB
def FS.ts (s : FS) : List Lt := s.vs.flatMap ShV.ts ++ s.bs.flatMap ShB.ts
def FS.en (s : FS) (l : List Leaf) : (List V2 × List Blk2) × List Leaf := (fun p => (fun q => ((p.1, q.1), q.2)) (encR ShB.enc s.bs p.2)) (encR ShV.enc s.vs l)
def FS.de (s : FS) (a : List V2 × List Blk2) : Option (List Leaf) := (decR ShV.dec s.vs a.1).bind fun x => (decR ShB.dec s.bs a.2).bind fun y => some (x ++ y)
@[reducible] def FS.D (s : FS) : Type := Tp s.ts
def FS.enc (s : FS) (x : s.D) : List V2 × List Blk2 := (s.en (toL _ x)).1
def FS.dec (s : FS) (a : List V2 × List Blk2) : Option s.D := (s.de a).bind (ofL _)
theorem FS.rt : Rt FS.en FS.de := by
 intro s a l h r
 simp only [FS.de, Option.bind_eq_some_iff] at h
 obtain ⟨y, h1, z, h2, h⟩ := h
 cases h
 simp only [FS.en, List.append_assoc, ShV.rt.row _ _ _ h1, ShB.rt.row _ _ _ h2]
theorem FS.dec_eq {s : FS} {a : List V2 × List Blk2} {x : s.D} (h : s.dec a = some x) : s.enc x = a := by
 simp only [FS.dec, Option.bind_eq_some_iff] at h
 obtain ⟨l, h1, h2⟩ := h
 have := FS.rt s a l h1 []
 rw [List.append_nil] at this
 simp only [FS.enc, ofL_eq h2, this]
/-- One of several. -/
@[reducible] def DS {α : Type} (D : α → Type) : List α → Type
 | [] => Empty
 | [a] => D a
 | a :: b :: r => D a ⊕ DS D (b :: r)
def encS {α β : Type} {D : α → Type} (enc : (s : α) → D s → β) : (l : List α) → DS D l → β
 | [], x => nomatch x
 | [a], x => enc a x
 | a :: b :: r, x => match x with
  | .inl x => enc a x
  | .inr x => encS enc (b :: r) x
def putS {α β : Type} {D : α → Type} (dec : (s : α) → β → Option (D s)) : (l : List α) → β → Option (DS D l)
 | [], _ => none
 | [a], x => dec a x
 | a :: b :: r, x => match dec a x with
  | some y => some (.inl y)
  | none => match putS dec (b :: r) x with
   | some y => some (.inr y)
   | none => none
def eitherK {α β R : Type} (x : α ⊕ β) (f : α → Option R) (g : β → Option R) : Option R := match x with
 | .inl x => f x
 | .inr x => g x
def encSK {α β R : Type} {D : α → Type} (enc : (s : α) → D s → β) (K : β → Option R) : (l : List α) → DS D l → Option R
 | [], x => nomatch x
 | [a], x => K (enc a x)
 | a :: b :: r, x => eitherK x (fun x => K (enc a x)) (fun x => encSK enc K (b :: r) x)
theorem encSK_eq {α β R : Type} {D : α → Type} (enc : (s : α) → D s → β) (K : β → Option R) : ∀ (l : List α) (x : DS D l), encSK enc K l x = K (encS enc l x)
 | [], x => nomatch x
 | [a], x => rfl
 | a :: b :: r, .inl x => rfl
 | a :: b :: r, .inr x => encSK_eq enc K (b :: r) x
theorem putS_ok {α β : Type} {D : α → Type} {enc : (s : α) → D s → β} {dec : (s : α) → β → Option (D s)} {Q : β → β → Prop} (H : ∀ s a x, dec s a = some x → Q (enc s x) a) :
  ∀ {l : List α} {a : β} {y : DS D l}, putS dec l a = some y → Q (encS enc l y) a := by
 intro l
 match l with
 | [] => intro a y h; cases h
 | [s] => intro a y h; exact H _ _ _ h
 | s :: t :: r =>
  intro a y h
  simp only [putS] at h
  split at h
  ·rename_i z hz; cases h; exact H _ _ _ hz
  ·split at h
   ·rename_i z hz
    cases h
    exact putS_ok H (l := t :: r) hz
   ·cases h
/-- A state's shape. -/
structure SS where
 fr : List (Nat × ShV)
 mem : List (Nat × Option ShB)
 nx : Nat
def tsO (p : Nat × Option ShB) : List Lt := match p.2 with
 | none => []
 | some b => b.ts
def encO (p : Nat × Option ShB) (l : List Leaf) : (Nat × Option Blk2) × List Leaf := match p.2 with
 | none => ((p.1, none), l)
 | some b => (fun q => ((p.1, some q.1), q.2)) (b.enc l)
def decO (p : Nat × Option ShB) (q : Nat × Option Blk2) : Option (List Leaf) := match p.2, q.2 with
 | none, none => if q.1 = p.1 then some [] else none
 | some b, some B => if q.1 = p.1 then b.dec B else none
 | _, _ => none
theorem rtO : Rt encO decO := by
 intro p q l h r
 obtain ⟨m, o⟩ := p
 obtain ⟨m', o'⟩ := q
 cases o with
 | none => cases o' with
  | none =>
   simp only [decO] at h
   split at h
   ·rename_i e; cases h; simp [encO, e]
   ·cases h
  | some B => cases h
 | some b => cases o' with
  | none => cases h
  | some B =>
   simp only [decO] at h
   split at h
   ·rename_i e; simp [encO, e, ShB.rt _ _ _ h]
   ·cases h
def encF (p : Nat × ShV) (l : List Leaf) : (Nat × Sv2) × List Leaf := (fun q => ((p.1, .v q.1), q.2)) (p.2.enc l)
def SS.ts (s : SS) : List Lt := (s.fr.flatMap fun p => p.2.ts) ++ s.mem.flatMap tsO
@[reducible] def SS.D (s : SS) : Type := Tp s.ts
def SS.en (s : SS) (l : List Leaf) : St2 := (fun p => { fr := p.1, mem := (encR encO s.mem p.2).1, nx := s.nx }) (encR encF s.fr l)
def SS.enc (s : SS) (x : s.D) : St2 := s.en (toL _ x)
/-- The slots named are read, others left. -/
def decFr (fr : List (Nat × Sv2)) : List (Nat × ShV) → Option (List Leaf)
 | [] => some []
 | p :: r => match lk fr p.1 with
  | some (.v v) => (p.2.dec v).bind fun x => (decFr fr r).bind fun y => some (x ++ y)
  | _ => none
def SS.de (s : SS) (σ : St2) : Option (List Leaf) := (decFr σ.fr s.fr).bind fun x => (decR decO s.mem σ.mem).bind fun y => if σ.nx = s.nx then some (x ++ y) else none
def SS.dec (s : SS) (σ : St2) : Option s.D := (s.de σ).bind (ofL _)
theorem decFr_ok {fr : List (Nat × Sv2)} : ∀ {l : List (Nat × ShV)} {x : List Leaf}, decFr fr l = some x → ∀ r, ∃ fr', encR encF l (x ++ r) = (fr', r) ∧ ∀ t v, lk fr' t = some v → lk fr t = some v := by
 intro l
 induction l with
 | nil => intro x h r; cases h; exact ⟨[], rfl, fun t v h => by cases h⟩
 | cons p l ih =>
  intro x h r
  simp only [decFr] at h
  split at h
  ·rename_i v' hv'
   simp only [Option.bind_eq_some_iff] at h
   obtain ⟨y, h1, z, h2, h⟩ := h
   cases h
   obtain ⟨fr', h3, h4⟩ := ih h2 r
   refine ⟨(p.1, .v v') :: fr', ?_, ?_⟩
   ·simp only [encR, encF, List.append_assoc, ShV.rt _ _ _ h1, h3]
   ·intro t v hv
    simp only [lk] at hv
    split at hv
    ·rename_i e
     cases hv
     rw [← e]
     exact hv'
    ·exact h4 t v hv
  ·cases h
theorem SS.dec_ok {s : SS} {σ2 : St2} {x : s.D} (h : s.dec σ2 = some x) {σ : St} (hs : StR σ2 σ) : StR (s.enc x) σ := by
 simp only [SS.dec, Option.bind_eq_some_iff] at h
 obtain ⟨l, h, h0⟩ := h
 simp only [SS.de, Option.bind_eq_some_iff] at h
 obtain ⟨y, h1, z, h2, h⟩ := h
 split at h
 ·rename_i e
  cases h
  obtain ⟨fr', h3, h4⟩ := decFr_ok h1 z
  have h5 := rtO.row _ _ _ h2 []
  rw [List.append_nil] at h5
  simp only [SS.enc, ofL_eq h0, SS.en, h3, h5]
  exact ⟨fun t v hv => hs.fr t v (h4 t v hv), hs.mem, by rw [hs.nx, e]⟩
 ·cases h
/-- An end's shape: a block's left, or the function is. -/
structure OS where
 id : Option Nat
 s : SS
@[reducible] def OS.D (o : OS) : Type := o.s.D
def OS.enc (o : OS) (x : o.D) : Out2 := match o.id with
 | some i => .exit i (o.s.enc x)
 | none => .ret (o.s.enc x)
def OS.dec (o : OS) (u : Out2) : Option o.D := match o.id, u with
 | some i, .exit j σ => if j = i then o.s.dec σ else none
 | none, .ret σ => o.s.dec σ
 | _, _ => none
theorem OS.dec_ok (o : OS) (u : Out2) (x : o.D) (h : o.dec u = some x) : ∀ v, OutR u v → OutR (o.enc x) v := by
 obtain ⟨id, s⟩ := o
 intro v hv
 cases id with
 | none =>
  cases u <;> simp only [OS.dec] at h <;> first | cases h | skip
  cases v <;> simp only [OutR] at hv
  exact SS.dec_ok h hv
 | some i =>
  cases u <;> simp only [OS.dec] at h <;> first | cases h | skip
  split at h
  ·rename_i e
   cases v <;> simp only [OutR] at hv
   exact ⟨by rw [← e]; exact hv.1, SS.dec_ok h hv.2⟩
  ·cases h

/-- A printed function. -/
structure Inst where
 f : FuncId
 sh : FS
 os : List FS
 F : sh.D → Option (DS FS.D os)
/-- A printed loop. -/
structure LInst where
 b : Nat
 hs : List SS
 os : List OS
 F : DS SS.D hs → Option (DS OS.D os)
section
variable {R : Type}
def COt (f : FuncId) (a : List V2) (b : List Blk2) (K : List V2 × List Blk2 → Option R) : List Inst → Option R
 | [] => none
 | i :: r => if i.f = f then (match i.sh.dec (a, b) with
  | some x => (i.F x).bind fun y => encSK FS.enc K i.os y
  | none => COt f a b K r) else COt f a b K r
def LOt (T : TypeId → Option TI) (kp : Nat → List Kp) (p : Nat) (b : Nat) (σ : St2) (K : Out2 → Option R) : List LInst → Option R
 | [] => none
 | i :: r => if i.b = b then (match (head2 T p (kp b) σ).bind (putS SS.dec i.hs) with
  | some x => (i.F x).bind fun y => encSK OS.enc K i.os y
  | none => LOt T kp p b σ K r) else LOt T kp p b σ K r
/-- What a round hands on: to the next one, or out. -/
def nextK (T : TypeId → Option TI) (ks : List Kp) (p : Nat) (hs : List SS) (os : List OS) (F : DS SS.D hs → Option (DS OS.D os)) : Out2 → Option (DS OS.D os)
 | .norm σ => ((head2 T p ks σ).bind (putS SS.dec hs)).bind F
 | o => putS OS.dec os o
end
def InstOk (cl : FuncId → List Vl → List Blk → Option (List Vl × List Blk)) (i : Inst) : Prop :=
 ∀ x y, i.F x = some y → cl i.f ((i.sh.enc x).1.map V2.at) ((i.sh.enc x).2.map Blk2.at) = some ((encS FS.enc i.os y).1.map V2.at, (encS FS.enc i.os y).2.map Blk2.at)
/-- All of a list. -/
def AllI (cl : FuncId → List Vl → List Blk → Option (List Vl × List Blk)) : List Inst → Prop
 | [] => True
 | i :: r => InstOk cl i ∧ AllI cl r
theorem COt_ok {R : Type} {cl : FuncId → List Vl → List Blk → Option (List Vl × List Blk)} : ∀ {l : List Inst}, AllI cl l → COk (fun f a b (K : List V2 × List Blk2 → Option R) => COt f a b K l) cl := by
 intro l
 induction l with
 | nil => intro _ f a b K r e; cases e
 | cons i l ih =>
  intro h f a b K r e
  simp only [COt] at e
  split at e
  ·rename_i hf
   subst hf
   split at e
   ·rename_i x hx
    simp only [Option.bind_eq_some_iff] at e
    obtain ⟨y, h1, e⟩ := e
    rw [encSK_eq] at e
    refine ⟨_, e, ?_⟩
    have := h.1 x y h1
    rw [FS.dec_eq hx] at this
    exact this
   ·exact ih h.2 _ _ _ _ _ e
  ·exact ih h.2 _ _ _ _ _ e

theorem heads_ok {hs : List SS} {σ2 : St2} {x : DS SS.D hs} (h : putS SS.dec hs σ2 = some x) {σ : St} (hs' : StR σ2 σ) : StR (encS SS.enc hs x) σ :=
 putS_ok (enc := SS.enc) (dec := SS.dec) (Q := fun a b => ∀ σ, StR b σ → StR a σ) (fun s a x h σ hr => SS.dec_ok h hr) (l := hs) h σ hs'
section
variable {c : Cfg} {callF : FuncId → List Vl → List Blk → Option (List Vl × List Blk)} {kp : Nat → List Kp} {nt k p : Nat}
def LIOk (c : Cfg) (callF : FuncId → List Vl → List Blk → Option (List Vl × List Blk)) (kp : Nat → List Kp) (nt k p : Nat) (b : Nat) (x0 : Code) (i : LInst) : Prop :=
 ∀ x y τ, StR (encS SS.enc i.hs x) τ → i.F x = some y → ∃ o, loopF (headN p (kp b)) (runC c callF kp nt k p b x0) k (some τ) = some o ∧ OutR (encS OS.enc i.os y) o
/-- The loops of a list that stand in the block b. -/
def AllL (c : Cfg) (callF : FuncId → List Vl → List Blk → Option (List Vl × List Blk)) (kp : Nat → List Kp) (nt k p : Nat) (b : Nat) (x0 : Code) : List LInst → Prop
 | [] => True
 | i :: r => (i.b = b → LIOk c callF kp nt k p b x0 i) ∧ AllL c callF kp nt k p b x0 r
theorem LOt_ok {R : Type} {b : Nat} {x0 : Code} : ∀ {l : List LInst}, AllL c callF kp nt k p b x0 l → LOk (fun b _ σ (K : Out2 → Option R) => LOt c.T kp p b σ K l) c callF kp nt k p b x0 := by
 intro l
 induction l with
 | nil => intro _ σ2 σ hs K r e; cases e
 | cons i l ih =>
  intro h σ2 σ hs K r e
  simp only [LOt] at e
  split at e
  ·rename_i hb
   split at e
   ·rename_i x hx
    simp only [Option.bind_eq_some_iff] at hx
    obtain ⟨S2, h1, h2⟩ := hx
    obtain ⟨S, h3, h4⟩ := head_at hs h1
    simp only [Option.bind_eq_some_iff] at e
    obtain ⟨y, h5, e⟩ := e
    rw [encSK_eq] at e
    obtain ⟨o, h6, h7⟩ := h.1 hb x y S (heads_ok h2 h4) h5
    exact ⟨_, e, o, by rw [loopN_F, h3, h6], h7⟩
   ·exact ih h.2 _ _ hs _ _ e
  ·exact ih h.2 _ _ hs _ _ e
theorem loop_ok {b : Nat} {x0 : Code} {hs : List SS} {os : List OS} {CO : FuncId → List V2 → List Blk2 → (List V2 × List Blk2 → Option (DS OS.D os)) → Option (DS OS.D os)} {LO : Nat → Code → St2 → (Out2 → Option (DS OS.D os)) → Option (DS OS.D os)}
  (hC : COk CO callF) (hL : LAll (LOk LO c callF kp nt k p) b x0) (F : Nat → DS SS.D hs → Option (DS OS.D os)) (h0 : ∀ x, F 0 x = none)
  (hF : ∀ n x, F (n + 1) x = encSK SS.enc (fun σ => run2 c CO LO nt b x0 σ (homeO (nextK c.T (kp b) p hs os (F n)))) hs x) : LIOk c callF kp nt k p b x0 ⟨b, hs, os, F k⟩ := by
 have key : ∀ n x y τ, StR (encS SS.enc hs x) τ → F n x = some y → ∃ o, loopF (headN p (kp b)) (runC c callF kp nt k p b x0) n (some τ) = some o ∧ OutR (encS OS.enc os y) o := by
  intro n
  induction n with
  | zero => intro x y τ _ e; rw [h0] at e; cases e
  | succ n ih =>
   intro x y τ ht e
   rw [hF, encSK_eq] at e
   obtain ⟨o2, e, o, h1, h2⟩ := run_at hC x0 b _ _ hL ht _ _ e
   cases o2 with
   | norm σ2 =>
    cases o <;> simp only [OutR] at h2
    rename_i τ'
    obtain ⟨mem0, e, h2⟩ := homeS_at h2 e
    simp only [nextK, Option.bind_eq_some_iff] at e
    obtain ⟨x', ⟨S2, h3, h4⟩, e⟩ := e
    obtain ⟨S, h5, h6⟩ := head_at h2 h3
    obtain ⟨o, h7, h8⟩ := ih x' y S (heads_ok h4 h6) e
    refine ⟨o, ?_, h8⟩
    simp only [loopF_succ, h1, seqK, loopN_F, h5, h7]
   | exit i σ2 =>
    have := putS_ok (enc := OS.enc) (Q := fun a b => ∀ v, OutR b v → OutR a v) (fun s a x h => OS.dec_ok s a x h) (l := os) e o h2
    refine ⟨o, ?_, this⟩
    cases o <;> simp only [OutR] at h2
    simp only [loopF_succ, h1, seqK]
   | ret σ2 =>
    have := putS_ok (enc := OS.enc) (Q := fun a b => ∀ v, OutR b v → OutR a v) (fun s a x h => OS.dec_ok s a x h) (l := os) e o h2
    refine ⟨o, ?_, this⟩
    cases o <;> simp only [OutR] at h2
    simp only [loopF_succ, h1, seqK]
 exact fun x y τ ht e => key k x y τ ht e

def bd (f : Func) : Code := f.body.getD .skip
theorem encR_length {α β : Type} (enc : α → List Leaf → β × List Leaf) : ∀ (l : List α) (x : List Leaf), (encR enc l x).1.length = l.length
 | [], _ => rfl
 | s :: r, x => by simp only [encR, List.length_cons, encR_length enc r]
theorem inst_ok {f : FuncId} {fn : Func} {body : Code} {sh : FS} {os : List FS} (hX : c.X f = none) (hf : c.F f = some fn) (hb : fn.body = some body) (hl : sh.vs.length = fn.params.size + fn.nfree ∧ sh.vs.length ≤ fn.ntmps)
  {CO : FuncId → List V2 → List Blk2 → (List V2 × List Blk2 → Option (DS FS.D os)) → Option (DS FS.D os)} {LO : Nat → Code → St2 → (Out2 → Option (DS FS.D os)) → Option (DS FS.D os)}
  (hC : COk CO (call c k)) (hL : LAll (LOk LO c (call c k) (c.keep f) fn.ntmps k sh.bs.length) 0 body) (F : sh.D → Option (DS FS.D os))
  (hF : ∀ x, F x = body2 c CO LO f fn.ntmps fn.results.toList body (sh.enc x).1 (sh.enc x).2 (putS FS.dec os)) : InstOk (call c (k + 1)) ⟨f, sh, os, F⟩ := by
 intro x y e
 simp only [] at e
 rw [hF] at e
 have hlen : (sh.enc x).2.length = sh.bs.length := encR_length _ _ _
 rw [← hlen] at hL
 obtain ⟨r, e, h1⟩ := body_at hC f fn body _ _ hL _ _ e
 have h2 := putS_ok (enc := FS.enc) (Q := fun a b => a = b) (fun s a x h => FS.dec_eq h) (l := os) e
 have hlv : (sh.enc x).1.length = sh.vs.length := encR_length _ _ _
 simp only [call, hX, hf, Option.bind_some, hb, bodyK, List.length_map]
 simp only [List.length_map] at h1
 rw [if_pos (by rw [hlv]; exact hl), h1, h2]
end

def zB : At → Value → Bool
 | .int k n, .int k' n' => decide (k = k') && decide (n = n')
 | .bool b, .bool b' => b == b'
 | .str s, .string s' => s.data.toList.isEmpty && s'.data.toList.isEmpty
 | .snil _ _, .slice none 0 0 => true
 | .nilp, .pointer none => true
 | _, _ => false
theorem zB_sound {h : Hp} {x : At} {v : Value} (e : zB x v = true) : RP h x v ∧ x.pr = true := by
 unfold zB at e
 split at e
 ·simp only [Bool.and_eq_true, decide_eq_true_eq] at e
  obtain ⟨rfl, rfl⟩ := e
  exact ⟨.int _ _, rfl⟩
 ·simp only [beq_iff_eq] at e; subst e; exact ⟨.bool _, rfl⟩
 ·rename_i s s'
  simp only [Bool.and_eq_true, List.isEmpty_iff] at e
  obtain ⟨h1, h2⟩ := e
  obtain ⟨⟨l⟩⟩ := s
  obtain ⟨⟨l'⟩⟩ := s'
  simp only at h1 h2
  subst h1 h2
  exact ⟨.str _, rfl⟩
 ·exact ⟨.snil _ _, rfl⟩
 ·exact ⟨.nilp, rfl⟩
 ·cases e

def zBs : List At → List Value → Bool
 | [], [] => true
 | x :: xs, v :: vs => zB x v && zBs xs vs
 | _, _ => false
theorem zBs_sound {h : Hp} : ∀ {xs : List At} {vs : List Value}, zBs xs vs = true → xs.length = vs.length ∧ (∀ (j : Nat) (x : At), xs[j]? = some x → ∃ u, vs[j]? = some u ∧ RP h x u) ∧ ∀ x ∈ xs, x.pr = true := by
 intro xs
 induction xs with
 | nil => intro vs e; cases vs with
  | nil => exact ⟨rfl, by simp, by simp⟩
  | cons v vs => cases e
 | cons x xs ih =>
  intro vs e
  cases vs with
  | nil => cases e
  | cons v vs =>
   simp only [zBs, Bool.and_eq_true] at e
   obtain ⟨h1, h2⟩ := zB_sound (h := h) e.1
   obtain ⟨i1, i2, i3⟩ := ih e.2
   refine ⟨by simp [i1], fun j y hj => ?_, fun y hy => ?_⟩
   ·cases j with
    | zero => simp at hj; subst hj; exact ⟨v, rfl, h1⟩
    | succ j => simp at hj; simpa using i2 j y hj
   ·rcases List.mem_cons.1 hy with rfl | hy
    ·exact h2
    ·exact i3 y hy

def fieldsB (P : Program) : List (Nat × Nat) → List TypeId → List Field → Bool
 | [], [], [] => true
 | p :: ps, t :: ts, f :: fs => f.offset == p.1 && f.type == t && (match P.info? f.type with | some ti => ti.size == p.2 | none => false) && fieldsB P ps ts fs
 | _, _, _ => false
theorem fieldsB_sound {P : Program} : ∀ {ps : List (Nat × Nat)} {ts : List TypeId} {fs : List Field}, fieldsB P ps ts fs = true →
  ps.length = fs.length ∧ (∀ (j : Nat) (p : Nat × Nat), ps[j]? = some p → ∃ f, fs[j]? = some f ∧ f.offset = p.1 ∧ ∃ ti, P.info? f.type = some ti ∧ ti.size = p.2) ∧ (fs.map fun f => f.type) = ts := by
 intro ps
 induction ps with
 | nil => intro ts fs e; cases ts <;> cases fs <;> first | exact ⟨rfl, by simp, rfl⟩ | cases e
 | cons p ps ih =>
  intro ts fs e
  cases ts with
  | nil => cases e
  | cons t ts =>
   cases fs with
   | nil => cases e
   | cons f fs =>
    simp only [fieldsB, Bool.and_eq_true, beq_iff_eq] at e
    obtain ⟨⟨⟨e1, e2⟩, e3⟩, e4⟩ := e
    obtain ⟨i1, i2, i3⟩ := ih e4
    refine ⟨by simp [i1], fun j q hj => ?_, by simp [e2, i3]⟩
    cases j with
    | zero =>
     simp at hj
     subst hj
     refine ⟨f, rfl, e1, ?_⟩
     split at e3
     ·rename_i ti hti
      exact ⟨ti, hti, by simpa using e3⟩
     ·cases e3
    | succ j => simp at hj; simpa using i2 j q hj

def tdB (P : Program) : TD → TypeDesc → Bool
 | .int k, .int k' => decide (k = k')
 | .bool, .bool => true
 | .str, .string => true
 | .ptr, .pointer _ => true
 | .sl e, .slice e' => e == e'
 | .st ps ts, .struct F => fieldsB P ps ts F.toList
 | .arr n e, .array n' e' => n == n' && e == e'
 | .mp k e, .map k' e' => k == k' && e == e'
 | .oth, _ => true
 | _, _ => false
theorem tdB_sound {P : Program} {d : TD} {e : TypeDesc} (h : tdB P d e = true) : TDOk P d e := by
 unfold tdB at h
 split at h
 ·simp only [decide_eq_true_eq] at h; subst h; exact rfl
 ·exact rfl
 ·exact rfl
 ·exact ⟨_, rfl⟩
 ·simp only [beq_iff_eq] at h; subst h; exact rfl
 ·rename_i ps ts F
  obtain ⟨h1, h2, h3⟩ := fieldsB_sound h
  refine ⟨F, rfl, by simpa using h1, fun j p hj => ?_, h3⟩
  obtain ⟨f, q1, q2⟩ := h2 j p hj
  exact ⟨f, by simpa using q1, q2⟩
 ·simp only [Bool.and_eq_true, beq_iff_eq] at h; obtain ⟨rfl, rfl⟩ := h; exact rfl
 ·simp only [Bool.and_eq_true, beq_iff_eq] at h; obtain ⟨rfl, rfl⟩ := h; exact rfl
 ·trivial
 ·cases h

def zoneB (P : Program) (t : TypeId) (i : TI) : Bool := i.agg || !(i.size == 1) || !(i.zero.length == i.size) || (match P.info? t with
 | some ti => (match ti.zero with | some z => z.oneCell' | none => true)
 | none => true)
def tokB (P : Program) (t : TypeId) (i : TI) : Bool := zoneB P t i && ((match P.info? t with
  | some ti => ti.size == i.size && ti.bytes == i.bytes && (i.zero.length != i.size || (match ti.zero with | some z => z.cells.size == i.size && zBs i.zero z.cells.toList | none => false))
  | none => false) &&
 (match P.underlying t with
  | some d => tdB P i.d d && (isAggD d == i.agg) && (!i.eqs || (match d with | .struct fs => !P.eqGuardType P.depth t && !P.stoodInHeld t && eqsFs P 0 fs.toList | _ => false))
  | none => false))
theorem tok_of {P : Program} {t : TypeId} {i : TI} (h : tokB P t i = true) : TOk P t i := by
 unfold tokB at h
 rw [Bool.and_eq_true, Bool.and_eq_true] at h
 obtain ⟨h0, h1, h2⟩ := h
 split at h1
 ·rename_i ti hti
  simp only [Bool.and_eq_true, beq_iff_eq, Bool.or_eq_true, bne_iff_ne] at h1
  obtain ⟨⟨a1, a2⟩, a3⟩ := h1
  refine ⟨⟨ti, hti, a1, a2⟩, ?_, fun hz => ?_, fun hagg hsz1 hzl ti' z hi' hz' => ?_, fun he => ?_⟩
  rotate_left 2
  ·unfold zoneB at h0
   simp only [hagg, hsz1, hzl, Bool.false_or, hi', hz', beq_self_eq_true, Bool.not_true] at h0
   exact h0
  rotate_left 1
  ·split at h2
   ·rename_i d hd
    simp only [Bool.and_eq_true, beq_iff_eq] at h2
    exact ⟨d, hd, tdB_sound h2.1.1, h2.1.2⟩
   ·cases h2
  ·rcases a3 with a3 | a3
   ·exact absurd hz a3
   ·split at a3
    ·rename_i z hzz
     simp only [Bool.and_eq_true, beq_iff_eq] at a3
     obtain ⟨b1, b2⟩ := a3
     refine ⟨ti, z, hti, hzz, b1, fun h j x hj => ?_, (zBs_sound (h := fun _ => none) b2).2.2⟩
     obtain ⟨u, g1, g2⟩ := (zBs_sound (h := h) b2).2.1 j x hj
     exact ⟨u, by simpa using g1, g2⟩
    ·cases a3
  ·split at h2
   ·rename_i d hd
    simp only [Bool.and_eq_true, beq_iff_eq, he, Bool.not_true, Bool.false_or] at h2
    obtain ⟨_, h3⟩ := h2
    split at h3
    ·rename_i fs _
     simp only [Bool.and_eq_true, Bool.not_eq_true'] at h3
     exact ⟨h3.1.1, h3.1.2, fs, hd, h3.2⟩
    ·cases h3
   ·cases h2
 ·cases h1

theorem names_ok {P : Program} (h : (P.funcs.toList.all fun fn => !(fn.name == "runtime.NumGoroutine")) = true) {f : FuncId} {fn : Func} (e : P.funcs[f]? = some fn) : P.funcs[f]? = some fn ∧ (fn.name == "runtime.NumGoroutine") = false := by
 refine ⟨e, ?_⟩
 rw [List.all_eq_true] at h
 have := h fn (by simpa using Array.mem_of_getElem? e)
 simpa using this
abbrev XA := List Vl → List Blk → Option (List Vl × List Blk)
abbrev XK := ∀ R : Type, List V2 → List Blk2 → (List V2 × List Blk2 → Option R) → Option R
def intsA : List (List At) → Option (List Int)
 | [] => some []
 | [.int .i64 n] :: r => (intsA r).bind fun ns => some (n :: ns)
 | _ => none
theorem intsA_at : ∀ l : List Int, intsA (l.map (Cd.at (.int .i64))) = some l
 | [] => rfl
 | x :: l => by
  show (intsA (l.map (Cd.at (.int .i64)))).bind _ = _
  rw [intsA_at l]; rfl
def sortI (l : List Int) : List Int := l.mergeSort fun x y => decide (x ≤ y)
/-- slices.Sort of whole numbers. -/
def gSort : XA := fun args blks => match args, blks with
 | [.a (.sm 0 lo n)], [b] => if b.es = 1 ∧ b.fz = false ∧ b.pr = true ∧ lo + n ≤ b.els.length ∧ n < 4611686018427387904 then
   (intsA ((b.els.drop lo).take n)).bind fun l => some ([], [{ b with els := b.els.take lo ++ (sortI l).map (Cd.at (.int .i64)) ++ b.els.drop (lo + n) }]) else none
 | _, _ => none
def kSort : XK := fun R args blks K => match args, blks with
 | [.a (.sm 0 lo n)], [b] => match b.bd with
  | .arr (.int .i64) l => if b.es = 1 ∧ b.fz = false ∧ b.pr = true then if lo + n ≤ l.length ∧ n < 4611686018427387904 then
    K ([], [⟨.arr (.int .i64) (l.take lo ++ sortI ((l.drop lo).take n) ++ l.drop (lo + n)), b.es, b.ty, b.pr, b.fz, b.ar⟩]) else none else none
  | _ => none
 | _, _ => none
/-- slices.Clone of whole numbers. -/
def gClone (ty : Nat) : XA := fun args blks => match args, blks with
 | [.a (.sl 1 n els)], [] => if n * 8 ≤ 140737488355328 ∧ els.length = n then
   (intsA els).bind fun _ => some ([.a (.sm 0 0 n)], [{ els := els, es := 1, ty := ty, pr := true, fz := false, ar := true }]) else none
 | _, _ => none
def kClone (ty : Nat) : XK := fun R args blks K => match args, blks with
 | [.a (.sl (.int .i64) l)], [] => if l.length * 8 ≤ 140737488355328 then
   K ([.a (.sm 0 0 l.length)], [⟨.arr (.int .i64) l, 1, ty, true, false, true⟩]) else none
 | _, _ => none
def XOk (g : XA) (G : XK) : Prop := ∀ (R : Type) a b, Snd (R := R) (G R a b) fun r => g (a.map V2.at) (b.map Blk2.at) = some (r.1.map V2.at, r.2.map Blk2.at)
theorem kSort_at : XOk gSort kSort := by
 intro R a b K r e
 unfold kSort at e
 split at e
 ·rename_i lo n b
  split at e
  ·rename_i l hb
   split at e
   ·rename_i hc
    split at e
    ·rename_i hl
     refine ⟨_, e, ?_⟩
     have hrows : b.at.els = l.map (Cd.at (.int .i64)) := by simp [Blk2.at, hb, Bd.rows, Bd.ents, Bd.ow]
     simp only [List.map_cons, List.map_nil, V2.at, A2.at, gSort]
     rw [if_pos ⟨hc.1, hc.2.1, hc.2.2, by rw [hrows, List.length_map]; exact hl.1, hl.2⟩, hrows, ← List.map_drop, ← List.map_take, intsA_at]
     simp [Blk2.at, Bd.rows, Bd.ents, Bd.ow, hb, List.map_take, List.map_drop]
    ·cases e
   ·cases e
  ·cases e
 ·cases e
theorem kClone_at (ty : Nat) : XOk (gClone ty) (kClone ty) := by
 intro R a b K r e
 unfold kClone at e
 split at e
 ·rename_i l
  split at e
  ·rename_i hl
   refine ⟨_, e, ?_⟩
   simp only [List.map_cons, List.map_nil, V2.at, A2.at, gClone, Cd.sz]
   rw [if_pos ⟨hl, by simp⟩, intsA_at]
   simp [Blk2.at, Bd.rows, Bd.ents, Bd.ow]
  ·cases e
 ·cases e
section
variable {c : Cfg} {k : Nat}
theorem inst_okX {f : FuncId} {g : XA} {G : XK} {sh : FS} {os : List FS} (hX : c.X f = some g) (hG : XOk g G) (F : sh.D → Option (DS FS.D os))
  (hF : ∀ x, F x = G (DS FS.D os) (sh.enc x).1 (sh.enc x).2 (putS FS.dec os)) : InstOk (call c (k + 1)) ⟨f, sh, os, F⟩ := by
 intro x y e
 simp only [] at e
 rw [hF] at e
 obtain ⟨r, e, h1⟩ := hG _ _ _ _ _ e
 have h2 := putS_ok (enc := FS.enc) (Q := fun a b => a = b) (fun s a x h => FS.dec_eq h) (l := os) e
 simp only [call, hX, h1, h2]
end
def Ty : TypeId → Option TI
  | 0 => some ⟨.oth, 1, 0, false, [], false⟩
  | 3 => some ⟨.int .i64, 1, 8, false, [.int .i64 0], false⟩
  | 4 => some ⟨.bool, 1, 1, false, [.bool false], false⟩
  | 22 => some ⟨.sl 41, 1, 24, false, [.snil 1 41], false⟩
  | 24 => some ⟨.st [(0, 1), (1, 1)] [3, 3], 2, 16, true, [.int .i64 0, .int .i64 0], true⟩
  | 28 => some ⟨.int .i64, 1, 8, false, [.int .i64 0], false⟩
  | 29 => some ⟨.oth, 1, 0, false, [], false⟩
  | 31 => some ⟨.oth, 1, 0, false, [], false⟩
  | 33 => some ⟨.oth, 1, 0, false, [], false⟩
  | 35 => some ⟨.oth, 1, 0, false, [], false⟩
  | 37 => some ⟨.oth, 1, 0, false, [], false⟩
  | 39 => some ⟨.oth, 1, 0, false, [], false⟩
  | 41 => some ⟨.sl 3, 1, 24, false, [.snil 1 3], false⟩
  | 42 => some ⟨.oth, 1, 0, false, [], false⟩
  | 44 => some ⟨.oth, 1, 0, false, [], false⟩
  | 54 => some ⟨.sl 55, 1, 24, false, [.snil 1 55], false⟩
  | 55 => some ⟨.sl 4, 1, 24, false, [.snil 1 4], false⟩
  | 57 => some ⟨.sl 65, 1, 24, false, [.snil 7 65], false⟩
  | 59 => some ⟨.st [(0, 1)] [57], 1, 24, true, [.snil 7 65], false⟩
  | 60 => some ⟨.sl 101, 1, 24, false, [.snil 1 101], false⟩
  | 62 => some ⟨.st [(0, 1), (1, 1)] [4, 60], 2, 32, true, [.bool false, .snil 1 101], false⟩
  | 63 => some ⟨.sl 82, 1, 24, false, [.snil 3 82], false⟩
  | 65 => some ⟨.st [(0, 2), (2, 1), (3, 1), (4, 1), (5, 2)] [62, 63, 63, 63, 62], 7, 136, true, [.bool false, .snil 1 101, .snil 3 82, .snil 3 82, .snil 3 82, .bool false, .snil 1 101], false⟩
  | 74 => some ⟨.oth, 1, 0, false, [], false⟩
  | 77 => some ⟨.oth, 1, 0, false, [], false⟩
  | 82 => some ⟨.st [(0, 1), (1, 2)] [3, 62], 3, 40, true, [.int .i64 0, .bool false, .snil 1 101], false⟩
  | 88 => some ⟨.oth, 1, 8, false, [], false⟩
  | 94 => some ⟨.st [(0, 1), (1, 1)] [4, 41], 2, 32, true, [.bool false, .snil 1 3], false⟩
  | 99 => some ⟨.int .u64, 1, 8, false, [.int .u64 0], false⟩
  | 101 => some ⟨.int .u32, 1, 4, false, [.int .u32 0], false⟩
  | _ => none
def kps : FuncId → Nat → List Kp
  | 3, 0 => [.s 0, .s 3, .s 5, .s 18, .s 20, .s 164, .s 165]
  | 3, 2 => [.s 0, .s 3, .s 5, .s 18, .s 20, .s 28, .s 164, .s 165, .s 172, .s 173]
  | 5, 0 => [.s 0, .s 3, .s 4, .s 8, .s 59, .s 60]
  | 5, 2 => [.s 0, .s 3, .s 4, .s 8, .s 9, .s 59, .s 60, .s 63, .s 64]
  | 5, 4 => [.s 0, .s 8, .s 104, .s 105, .s 106]
  | 6, 0 => [.s 0, .s 1, .s 2, .s 7, .s 41, .s 42, .s 43]
  | 6, 2 => [.s 0, .s 1, .s 2, .s 7, .s 8, .s 41, .s 42, .s 43, .s 48, .s 49, .s 50]
  | 7, 0 => [.s 0, .s 3, .s 4, .s 5, .s 29, .s 30]
  | 7, 2 => [.s 0, .s 3, .s 4, .s 5, .s 7]
  | 7, 4 => [.s 4, .s 5, .s 82, .s 83]
  | 7, 6 => [.s 4, .s 5, .s 9, .s 82, .s 83, .s 90, .s 91]
  | 8, 0 => [.s 0, .s 3, .s 4, .s 5, .s 7, .s 8, .s 9, .s 43, .s 44, .s 45]
  | 8, 2 => [.s 0, .s 3, .s 4, .s 5, .s 7, .s 8, .s 9, .s 10, .s 43, .s 44, .s 45, .s 50, .s 51, .s 52]
  | 9, 0 => [.b 1, .s 12, .s 13]
  | 11, 0 => [.s 0, .s 5, .s 6]
  | 12, 0 => [.s 0, .s 3, .s 4]
  | 19, 0 => [.s 0, .s 6, .s 7]
  | 20, 0 => [.s 5, .s 6, .s 7, .s 8, .s 9, .s 10]
  | 21, 0 => [.s 0, .s 1, .s 5]
  | 21, 2 => [.s 0, .s 1, .s 5, .s 6]
  | 22, 0 => [.s 0, .s 1, .s 5]
  | 23, 0 => [.s 0, .s 10, .s 11, .s 12]
  | 23, 2 => [.s 0, .s 4, .s 10, .s 11, .s 12, .s 16, .s 17, .s 18]
  | 24, 0 => [.s 0, .s 3]
  | 24, 2 => [.s 0, .s 3, .s 4, .s 5]
  | 25, 0 => [.s 0, .s 2, .s 9, .s 23, .s 24, .s 25]
  | 26, 0 => [.s 1, .s 2, .s 8, .s 9, .s 10]
  | 27, 0 => [.s 3, .s 11, .s 12, .s 13]
  | 27, 2 => [.s 3, .s 4, .s 11, .s 12, .s 13, .s 18, .s 19, .s 20]
  | 28, 0 => [.s 5, .s 20, .s 21, .s 22]
  | 28, 2 => [.s 5, .s 6, .s 20, .s 21, .s 22, .s 28, .s 29, .s 30]
  | 29, 0 => [.b 1, .s 5, .s 6]
  | 29, 2 => [.b 1, .s 5, .s 6, .s 7, .s 8]
  | 31, 0 => [.s 3, .s 11, .s 12, .s 13]
  | 31, 2 => [.s 3, .s 11, .s 12, .s 13, .s 17, .s 18, .s 19]
  | 32, 0 => [.s 0, .s 3, .s 4]
  | 32, 2 => [.s 0, .s 3, .s 4, .s 5, .s 6]
  | 34, 0 => [.s 0, .s 1, .s 2, .s 7, .s 8, .s 9]
  | 35, 0 => [.s 5, .s 6, .s 7, .s 8, .s 16, .s 17, .s 18]
  | 35, 2 => [.s 5, .s 6, .s 7, .s 8, .s 9, .s 10, .s 16, .s 17, .s 18, .s 23, .s 24, .s 25]
  | 36, 0 => [.s 0, .s 5, .s 6, .s 7, .s 8]
  | 36, 2 => [.s 0, .s 5, .s 6, .s 7, .s 8, .s 9]
  | 37, 0 => [.s 0, .s 1, .s 5, .s 8, .s 9, .s 16, .s 17, .s 18]
  | 38, 0 => [.s 0, .s 1, .s 2, .s 8, .s 9, .s 10]
  | 38, 2 => [.s 0, .s 1, .s 2, .s 8, .s 9, .s 10, .s 11, .s 12]
  | 39, 0 => [.s 0, .s 3, .s 4]
  | 39, 2 => [.s 0, .s 3, .s 4, .s 5, .s 6]
  | 40, 0 => [.s 3, .s 12, .s 13, .s 14]
  | 41, 0 => [.b 1, .s 3, .s 4]
  | 45, 0 => [.s 0, .s 3]
  | 45, 2 => [.s 0, .s 3, .s 4, .s 5]
  | 46, 0 => [.s 0, .s 1, .s 5, .s 6]
  | 49, 0 => [.s 0, .s 1, .s 7, .s 8, .s 9]
  | 52, 0 => [.b 1, .b 2, .s 3, .s 4]
  | 53, 0 => [.s 0, .s 1, .s 5, .s 6]
  | 54, 0 => [.s 0, .s 1, .s 7, .s 8]
  | 57, 0 => [.s 0, .s 1, .s 7, .s 8]
  | 58, 0 => [.s 0, .s 3]
  | _, _ => []
def muts : FuncId → Bool
  | 45 => true
  | 46 => true
  | 44 => true
  | 57 => true
  | _ => false
def owns : FuncId → Bool
  | 45 => true
  | 46 => true
  | 43 => true
  | 31 => true
  | _ => false
def nestT : TypeId → Bool
  | 41 => true
  | 55 => true
  | 60 => true
  | _ => false
def xas : FuncId → Option XA
  | 44 => some gSort
  | 43 => some (gClone 3)
  | _ => none
noncomputable def cf : Cfg := { T := Ty, F := fun f => Try.prog.funcs[f]?, X := xas, mutA := muts, ownR := owns, keep := kps, nest := nestT }
end Go.Proofs.Ytgiamleohegjeaa.Am
namespace Go.Proofs.Ytgiamleohegjeaa.Am
open Go Go.Sort
section
variable {P : Program}
/-- What an outside function's rule owes. -/
theorem Mm.ofP {ι : Io} {h : Hp} {w : World} {bs : List Blk} (hpl : ∀ (i : Nat) (B : Blk), bs[i]? = some B → B.ow = none) (rb : ∀ (i : Nat) (B : Blk), bs[i]? = some B → RB ι h w i B)
  (nm : ∀ (i : Nat) (B : Blk), bs[i]? = some B → ∀ m ∈ B.nms, m < bs.length)
  (inj : ∀ (i j : Nat) (B B' : Blk) (L L' : Loc), bs[i]? = some B → bs[j]? = some B' → ι i = some L → ι j = some L' → L.b = L'.b → i = j)
  (sub : ∀ b o, h b = some o → w.heap[b]? = some o)
  (mut1 : ∀ (i : Nat) (B : Blk) (L : Loc), bs[i]? = some B → B.fz = false → ι i = some L → h L.b = none)
  (frz : ∀ (i : Nat) (B : Blk) (L : Loc), bs[i]? = some B → B.fz = true → ι i = some L → h L.b = w.heap[L.b]?)
  (dom : ∀ (i : Nat) (B : Blk) (L : Loc), bs[i]? = some B → ι i = some L → L.b < w.heap.size)
  (pr : ∀ (i : Nat) (B : Blk), bs[i]? = some B → B.pr = true → ∀ e ∈ B.els, ∀ x ∈ e, x.pr = true) : Mm ι h w bs :=
 ⟨rb, nm, fun i j B B' L L' b e e' l l' f f' => inj i j B B' L L' e e' l l' ((f.plain (hpl i B e)).symm.trans (f'.plain (hpl j B' e'))), sub,
  fun i B L b e z l f => by rw [f.plain (hpl i B e)]; exact mut1 i B L e z l, fun i B L b e z l f => by rw [f.plain (hpl i B e)]; exact frz i B L e z l, dom, pr⟩
theorem Post.ofP {ι : Io} {h : Hp} {w : World} {blks : List Blk} {rs : List Vl} {bs : List Blk} {us : List Value} {w' : World} {ι' : Io} {h' : Hp} (hpl : ∀ (i : Nat) (B : Blk), bs[i]? = some B → B.ow = none)
  (rv : RVs ι' h' rs us) (rn : ∀ m ∈ namesV rs, m < bs.length) (sub : Sub h h') (len : blks.length ≤ bs.length) (same : ∀ i, i < blks.length → ι' i = ι i) (mm : Mm ι' h' w' bs)
  (own : ∀ (i : Nat) (B : Blk) (L : Loc), bs[i]? = some B → B.fz = false → ι' i = some L → w.heap.size ≤ L.b ∨ Lent ι blks L.b)
  (own2 : ∀ (i : Nat) (B : Blk) (L : Loc), bs[i]? = some B → ι' i = some L → w.heap.size ≤ L.b ∨ ∃ (j : Nat) (B0 : Blk) (L0 : Loc), blks[j]? = some B0 ∧ ι j = some L0 ∧ L0.b = L.b)
  (frame : ∀ b, b < w.heap.size → ¬ Lent ι blks b → w'.heap[b]? = w.heap[b]?) (view : ∀ b, b < w.heap.size → ¬ Lent ι blks b → h' b = h b)
  (grow : w.heap.size ≤ w'.heap.size) (os : w'.os = w.os) (tape : w'.tape = w.tape) (output : w'.output = w.output) : Post ι h w blks rs bs us w' ι' h' :=
 ⟨rv, rn, sub, len, same, mm, fun i B L b e z l f => by rw [f.plain (hpl i B e)]; exact own i B L e z l, fun i B L b e l f => by rw [f.plain (hpl i B e)]; exact own2 i B L e l, frame, view, grow, os, tape, output⟩
def XSays (P : Program) (f : FuncId) (g : XA) : Prop := ∀ args blks rs bs, g args blks = some (rs, bs) → Enters P f ∧ ∀ (w : World) (ι : Io) (h : Hp) (vals : Array Value), RVs ι h args vals.toList → (∀ m ∈ namesV args, m < blks.length) → Mm ι h w blks → (∀ B ∈ blks, B.ow = none) →
  Calls P f vals w fun e w' => ∃ (us : Array Value) (ι' : Io) (h' : Hp), e = .returned (packV us) ∧ Post ι h w blks rs bs us.toList w' ι' h'
def SortSays (P : Program) (f : FuncId) : Prop :=
 (∀ (blk off cap : Nat) (zs : List Int) (w : World), Holds (Value.int .i64) w blk off zs.toArray → blk < w.heap.size → zs.length < 4611686018427387904 →
  Calls P f #[.slice (some ⟨blk, off, none⟩) zs.length cap] w fun e w' => e = .returned (.tuple #[]) ∧ ∃ n os, w' = grow (putRow (Value.int .i64) (Sort.ahead w n) blk off (zs.mergeSort fun x y => decide (x ≤ y)).toArray) os) ∧
 (∀ (p : Option Addr) (cap : Nat) (w : World), Calls P f #[.slice p 0 cap] w fun e w' => e = .returned (.tuple #[]) ∧ w' = w)
def CloneSays (P : Program) (f : FuncId) (ty : Nat) : Prop :=
 (∀ (b off n c : Nat) (zs : List Int) (w : World), n ≤ zs.length → n * 8 ≤ 140737488355328 → (∀ j, j < zs.length → w.cell? ⟨b, off + j, none⟩ = some (.int .i64 (zs.getD j 0))) →
  Calls P f #[.slice (some ⟨b, off, none⟩) n c] w fun e w' => ∃ v', e = .returned v' ∧ w'.ownsRow w.heap.size ty 1 v' n ((zs.take n).map (Value.int .i64)) ∧ v' ≠ .slice none 0 0 ∧ RowKit.Below w.heap.size w w') ∧
 (∀ (n c : Nat) (w : World), Calls P f #[.slice none n c] w fun e w' => e = .returned (.slice none 0 0) ∧ w' = w) ∧
 (∀ (a : Addr) (c : Nat) (w : World), Calls P f #[.slice (some a) 0 c] w fun e w' => ∃ v', e = .returned v' ∧ w'.ownsRow w.heap.size ty 1 v' 0 [] ∧ v' ≠ .slice none 0 0 ∧ RowKit.Below w.heap.size w w')

theorem intsA_eq : ∀ {els : List (List At)} {l : List Int}, intsA els = some l → els = l.map fun n => [At.int .i64 n]
 | [], l, h => by cases h; rfl
 | e :: r, l, h => by
  unfold intsA at h
  split at h
  ·rename_i e'; cases e'
  ·rename_i n r' e'
   cases e'
   simp only [Option.bind_eq_some_iff] at h
   obtain ⟨ns, h1, h⟩ := h
   cases h
   rw [intsA_eq h1]; rfl
  ·cases h
theorem one_val {vals : Array Value} {ι : Io} {h : Hp} {x : Vl} (hv : RVs ι h [x] vals.toList) : ∃ u, vals = #[u] ∧ RV ι h x u := by
 obtain ⟨u, h1, h2⟩ := hv.2 0 x rfl
 refine ⟨u, ?_, h2⟩
 have hl := hv.1
 cases vals with | mk l => 
 match l, hl, h1 with
 | [y], _, h1 => simp at h1; rw [h1]
theorem heap_row (w : World) (n blk off : Nat) (d : Array Int) (os : Array Obj) (k : Nat) (hk : k < w.heap.size) :
  (grow (putRow (Value.int .i64) (Sort.ahead w n) blk off d) os).heap[k]? = if blk = k then (w.heap[k]?).map (onCells (putCells (Value.int .i64) off d)) else w.heap[k]? := by
 rw [heap_grow_old _ _ (by simpa [putRow, mapBlock, Sort.ahead] using hk)]
 simp only [putRow, mapBlock, Sort.ahead, Array.getElem?_modify]
theorem sort_x {f : FuncId} (hE : Enters P f) (hS : SortSays P f) : XSays P f gSort := by
 intro args blks rs bs e
 unfold gSort at e
 split at e
 ·rename_i lo n b
  split at e
  ·rename_i hc
   obtain ⟨ces, cfz, cpr, clen, cn⟩ := hc
   simp only [Option.bind_eq_some_iff] at e
   obtain ⟨l, h1, e⟩ := e
   cases e
   have hl := intsA_eq h1
   have hln : l.length = n := by
    have := congrArg List.length hl
    simp only [List.length_take, List.length_drop, List.length_map] at this
    omega
   have hget : ∀ j, j < n → b.els[lo + j]? = some [At.int .i64 (l.getD j 0)] := by
    intro j hj
    have := congrArg (fun x : List (List At) => x[j]?) hl
    simp only [List.getElem?_take, hj, if_true, List.getElem?_drop, List.getElem?_map] at this
    rw [this, List.getElem?_eq_getElem (by omega), List.getD_eq_getElem?_getD, List.getElem?_eq_getElem (by omega)]
    rfl
   refine ⟨hE, fun w ι h vals hv hn hm hpl => ?_⟩
   obtain ⟨u, rfl, hr⟩ := one_val hv
   have hb := hm.rb 0 b rfl
   have hs : (sortI l).length = n := by unfold sortI; rw [List.length_mergeSort, hln]
   rcases hr with ⟨L, c, hL, rfl, hcap, hnc, hmax⟩ | ⟨hL, rfl, rfl, rfl⟩
   ·have hob : b.ow = none := hpl b (List.mem_cons_self ..)
    obtain ⟨C, b1, b2, b3, b4⟩ := hb.cells hL hob fun _ h0 _ => by omega
    have hes : L.es = 1 := by rw [b3, ces]
    have hLb := hm.dom 0 b L rfl hL
    have hcell : ∀ j, j < n → C[lo + j]? = some (.int .i64 (l.getD j 0)) := by
     intro j hj
     obtain ⟨q1, q2⟩ := b4 (lo + j) _ (hget j hj)
     obtain ⟨u, q3, q4⟩ := q2 0 _ rfl
     rw [ces, Nat.mul_one, Nat.add_zero] at q3
     cases q4
     exact q3
    have hH : Holds (Value.int .i64) w L.b (lo * L.es) l.toArray := by
     intro j hj
     have hj : j < n := by simpa [hln] using hj
     rw [hes, Nat.mul_one]
     constructor
     ·simp only [World.cell?, b1, Option.isSome_none, Bool.false_eq_true, if_false]
      rw [hcell j hj]
      have : l.toArray[j]! = l.getD j 0 := by
       simp [List.getD_eq_getElem?_getD, List.getElem!_eq_getElem?_getD]
      rw [this]
     ·simp only [World.frozen?, b1]
      simp
    have hC := hS.1 L.b (lo * L.es) c l w hH hLb (by omega)
    rw [hln] at hC
    refine hC.mono ?_
    rintro e w' ⟨rfl, n', os, rfl⟩
    have hheap := heap_row w n' L.b (lo * L.es) (l.mergeSort fun x y => decide (x ≤ y)).toArray os
    generalize hw' : grow (putRow (Value.int .i64) (Sort.ahead w n') L.b (lo * L.es) (l.mergeSort fun x y => decide (x ≤ y)).toArray) os = w' at hheap
    have hsz : w.heap.size ≤ w'.heap.size := by rw [← hw']; simp [grow, putRow, mapBlock, Sort.ahead]
    have hold : ∀ k, k < w.heap.size → L.b ≠ k → w'.heap[k]? = w.heap[k]? := fun k hk hne => by rw [hheap k hk, if_neg hne]
    have hmem : ∀ e ∈ b.els.take lo ++ (sortI l).map (Cd.at (.int .i64)) ++ b.els.drop (lo + n), e ∈ b.els ∨ ∃ z, e = [At.int .i64 z] := by
     intro e he
     rcases List.mem_append.1 he with he | he
     ·rcases List.mem_append.1 he with he | he
      ·exact .inl (List.mem_of_mem_take he)
      ·obtain ⟨z, _, rfl⟩ := List.mem_map.1 he
       exact .inr ⟨z, rfl⟩
     ·exact .inl (List.mem_of_mem_drop he)
    refine ⟨#[], ι, h, rfl, ?_⟩
    have hpl1 : ∀ (i : Nat) (B : Blk), ([{ els := b.els.take lo ++ (sortI l).map (Cd.at (.int .i64)) ++ b.els.drop (lo + n), es := b.es, ty := b.ty, pr := b.pr, fz := b.fz, ar := b.ar, mp := b.mp, ow := b.ow }] : List Blk)[i]? = some B → B.ow = none := by
     intro i B hB
     cases i with
     | succ i => simp at hB
     | zero => cases hB; exact hob
    refine Post.ofP hpl1 ?_ ?_ ?_ ?_ ?_ ?_ ?_ ?_ ?_ ?_ ?_ ?_ ?_ ?_
    ·exact ⟨rfl, fun j x hx => by simp at hx⟩
    ·intro m hm; cases hm
    ·exact Sub.refl h
    ·exact Nat.le_refl _
    ·intro i _; rfl
    ·refine Mm.ofP hpl1 ?_ ?_ ?_ ?_ ?_ ?_ ?_ ?_
     ·intro i B hB
      cases i with
      | succ i => simp at hB
      | zero =>
       cases hB
       refine RB.ofC hL hob ?_ (by show b.es ≠ 0; omega)
       refine ⟨putCells (Value.int .i64) (lo * L.es) (l.mergeSort fun x y => decide (x ≤ y)).toArray C, ?_, ?_, b3, ?_⟩
       ·rw [hheap _ hLb, if_pos rfl, b1]; rfl
       ·simp only [putCells, Array.size_mapIdx]; exact b2
       ·intro i e he
        simp only [ces] at *
        have hpc : ∀ x, C[i]? = some x → (putCells (Value.int .i64) (lo * L.es) (l.mergeSort fun x y => decide (x ≤ y)).toArray C)[i]? = some (if lo ≤ i ∧ i < lo + n then .int .i64 ((sortI l).getD (i - lo) 0) else x) := by
         intro x hx
         simp only [putCells, Array.getElem?_mapIdx, hx, Option.map_some, hes, Nat.mul_one, List.size_toArray, List.length_mergeSort, hln]
         congr 1
         split
         ·congr 1
          simp [sortI, List.getD_eq_getElem?_getD, List.getElem!_eq_getElem?_getD]
         ·rfl
        by_cases hi : lo ≤ i ∧ i < lo + n
        ·have : e = [At.int .i64 ((sortI l).getD (i - lo) 0)] := by
          rw [List.append_assoc, List.getElem?_append_right (by simp; omega), List.getElem?_append_left (by simp [hs]; omega), List.getElem?_map] at he
          simp only [List.length_take, show min lo b.els.length = lo by omega] at he
          rw [List.getElem?_eq_getElem (by omega)] at he
          cases he
          rw [List.getD_eq_getElem?_getD, List.getElem?_eq_getElem (by omega)]
          rfl
         subst this
         refine ⟨rfl, fun j x hx => ?_⟩
         cases j with
         | succ j => simp at hx
         | zero =>
          cases hx
          rw [Nat.mul_one, Nat.add_zero]
          have := hcell (i - lo) (by omega)
          rw [show lo + (i - lo) = i by omega] at this
          rw [hpc _ this, if_pos hi]
          exact ⟨_, rfl, .int _ _⟩
        ·have he0 : b.els[i]? = some e := by
          by_cases hi2 : i < lo
          ·rw [List.append_assoc, List.getElem?_append_left (by simp; omega), List.getElem?_take, if_pos hi2] at he
           exact he
          ·rw [List.getElem?_append_right (by simp [hs]; omega), List.getElem?_drop] at he
           simp only [List.length_append, List.length_take, List.length_map, hs, show min lo b.els.length = lo by omega] at he
           rwa [show lo + n + (i - (lo + n)) = i by omega] at he
         obtain ⟨q1, q2⟩ := b4 i e he0
         refine ⟨q1, fun j x hx => ?_⟩
         obtain ⟨u, q3, q4⟩ := q2 j x hx
         have hj : j = 0 := by
          have := (List.getElem?_eq_some_iff.1 hx).1
          omega
         subst hj
         rw [Nat.mul_one, Nat.add_zero] at q3 ⊢
         refine ⟨u, ?_, q4⟩
         rw [hpc _ q3, if_neg hi]
     ·intro i B hB m hmm
      cases i with
      | succ i => simp at hB
      | zero =>
       cases hB
       obtain ⟨e, he, hmm⟩ := List.mem_flatMap.1 hmm
       rcases hmem e he with he | ⟨z, rfl⟩
       ·exact hm.nm 0 b rfl m (List.mem_flatMap.2 ⟨e, he, hmm⟩)
       ·simp [At.nm] at hmm
     ·intro i j B B' L1 L2 e1 e2 _ _ _
      have := (List.getElem?_eq_some_iff.1 e1).1
      have := (List.getElem?_eq_some_iff.1 e2).1
      simp at *; omega
     ·intro k o ho
      have h0 := hm.sub k o ho
      have hk : k < w.heap.size := (Array.getElem?_eq_some_iff.1 h0).1
      rw [hold k hk, h0]
      intro hx; subst hx
      rw [hm.mut' 0 b L rfl cfz hL] at ho; cases ho
     ·intro i B L1 hB hf hL1
      cases i with
      | succ i => simp at hB
      | zero => cases hB; exact hm.mut' 0 b L1 rfl cfz hL1
     ·intro i B L1 hB hf hL1
      cases i with
      | succ i => simp at hB
      | zero => cases hB; rw [cfz] at hf; cases hf
     ·intro i B L1 hB hL1
      cases i with
      | succ i => simp at hB
      | zero => cases hB; exact Nat.lt_of_lt_of_le (hm.dom 0 b L1 rfl hL1) hsz
     ·intro i B hB _ e he x hx
      cases i with
      | succ i => simp at hB
      | zero =>
       cases hB
       rcases hmem e he with he | ⟨z, rfl⟩
       ·exact hm.pr 0 b rfl cpr e he x hx
       ·simp at hx; subst hx; rfl
    ·intro i B L1 hB hf hL1
     cases i with
     | succ i => simp at hB
     | zero => exact .inr ⟨0, b, L1, rfl, cfz, hL1, rfl⟩
    ·intro i B L1 hB hL1
     cases i with
     | succ i => simp at hB
     | zero => exact .inr ⟨0, b, L1, rfl, hL1, rfl⟩
    ·intro k hk hl
     exact hold k hk fun hx => hl ⟨0, b, L, rfl, cfz, hL, hx⟩
    ·intro k _ _; rfl
    ·exact hsz
    ·rw [← hw']; rfl
    ·rw [← hw']; rfl
    ·rw [← hw']; rfl
   ·have hb := hb.els0 hL
    have hbs : ({ els := b.els.take 0 ++ (sortI l).map (Cd.at (.int .i64)) ++ b.els.drop (0 + 0), es := b.es, ty := b.ty, pr := b.pr, fz := b.fz, ar := b.ar, mp := b.mp, ow := b.ow } : Blk) = b := by
     have hl0 : l = [] := List.eq_nil_of_length_eq_zero hln
     subst hl0
     cases b
     simp only at hb
     subst hb
     simp [sortI]
    rw [hbs]
    refine (hS.2 none 0 w).mono ?_
    rintro e w' ⟨rfl, rfl⟩
    refine ⟨#[], ι, h, rfl, ⟨⟨rfl, fun j x hx => by simp at hx⟩, fun m hm => (by cases hm), Sub.refl h, Nat.le_refl _, fun _ _ => rfl, hm, ?_, ?_, fun _ _ _ => rfl, fun _ _ _ => rfl, Nat.le_refl _, rfl, rfl, rfl⟩⟩
    ·intro i B L1 z hB hf hL1 f
     exact .inr ⟨i, B, L1, hB, hf, hL1, (f.plain (hpl B (List.mem_of_getElem? hB))).symm⟩
    ·intro i B L1 z hB hL1 f
     exact .inr ⟨i, B, L1, hB, hL1, (f.plain (hpl B (List.mem_of_getElem? hB))).symm⟩
  ·cases e
 ·cases e
/-- A fresh row of whole numbers, as a call's answer. -/
theorem clone_post {w w' : World} {ι : Io} {h : Hp} {ty n : Nat} {l : List Int} {v' : Value} (hm : Mm ι h w []) (hB : RowKit.Below w.heap.size w w')
  (ho : w'.ownsRow w.heap.size ty 1 v' n (l.map (Value.int .i64))) (hne : v' ≠ .slice none 0 0) :
  ∃ (ι' : Io) (h' : Hp), Post ι h w [] [.a (.sm 0 0 n)] [{ els := l.map fun n => [At.int .i64 n], es := 1, ty := ty, pr := true, fz := false, ar := true }] [v'] w' ι' h' := by
 obtain ⟨hln, hnil | ⟨g, cap, cur, rfl, hg, hheap, hnc, hmax, hcs, hx⟩⟩ := ho
 ·exact absurd hnil.1 hne
 ·have hln : l.length = n := by simpa using hln
  have hcur : ∀ (i : Nat) (z : Int), l[i]? = some z → cur[i]? = some (Value.int .i64 z) := by
   intro i z hz
   have hi : i < n := by rw [← hln]; exact (List.getElem?_eq_some_iff.1 hz).1
   have := congrArg (fun x : List Value => x[i]?) hx
   simp only [List.getElem?_take, Nat.mul_one, hi, if_true, List.getElem?_map, hz, Option.map_some] at this
   simpa using this
  have hg0 : h g = none := by
   cases hh : h g with
   | none => rfl
   | some o =>
    have := (Array.getElem?_eq_some_iff.1 (hm.sub g o hh)).1
    omega
  have hone : ∀ (i : Nat) (B : Blk), ([{ els := l.map fun n => [At.int .i64 n], es := 1, ty := ty, pr := true, fz := false, ar := true }] : List Blk)[i]? = some B → i = 0 ∧ B = { els := l.map fun n => [At.int .i64 n], es := 1, ty := ty, pr := true, fz := false, ar := true } := by
   intro i B hB
   cases i with
   | succ i => simp at hB
   | zero => cases hB; exact ⟨rfl, rfl⟩
  refine ⟨fun m => if m = 0 then some ⟨g, cur.size, 1⟩ else none, h, ?_⟩
  have hpl1 : ∀ (i : Nat) (B : Blk), ([{ els := l.map fun n => [At.int .i64 n], es := 1, ty := ty, pr := true, fz := false, ar := true }] : List Blk)[i]? = some B → B.ow = none := fun i B hB => by rw [(hone i B hB).2]
  refine Post.ofP hpl1 ?_ ?_ ?_ ?_ ?_ ?_ ?_ ?_ ?_ ?_ ?_ ?_ ?_ ?_
  ·refine ⟨rfl, fun j x hx => ?_⟩
   cases j with
   | succ j => simp at hx
   | zero =>
    cases hx
    refine ⟨_, rfl, .inl ⟨⟨g, cur.size, 1⟩, cap, rfl, by simp, by simp [hcs], hnc, hmax⟩⟩
  ·intro m hm; simp [namesV, Vl.cells, At.nm] at hm; subst hm; exact Nat.zero_lt_one
  ·exact Sub.refl h
  ·exact Nat.zero_le _
  ·intro i hi; cases hi
  ·refine Mm.ofP hpl1 ?_ ?_ ?_ ?_ ?_ ?_ ?_ ?_
   ·intro i B hB
    obtain ⟨rfl, rfl⟩ := hone i B hB
    refine RB.ofC (L := ⟨g, cur.size, 1⟩) (by simp) rfl ?_ (Nat.succ_ne_zero 0)
    refine ⟨cur, hheap, rfl, rfl, ?_⟩
    intro i e he
    simp only [List.getElem?_map, Option.map_eq_some_iff] at he
    obtain ⟨z, hz, rfl⟩ := he
    refine ⟨rfl, fun j x hx => ?_⟩
    cases j with
    | succ j => simp at hx
    | zero =>
     cases hx
     exact ⟨_, by rw [Nat.mul_one, Nat.add_zero]; exact hcur i z hz, .int _ _⟩
   ·intro i B hB m hmm
    obtain ⟨rfl, rfl⟩ := hone i B hB
    obtain ⟨e, he, hmm⟩ := List.mem_flatMap.1 hmm
    obtain ⟨z, _, rfl⟩ := List.mem_map.1 he
    simp [At.nm] at hmm
   ·intro i j B B' L1 L2 e1 e2 _ _ _
    rw [(hone i B e1).1, (hone j B' e2).1]
   ·intro k o ho
    have h0 := hm.sub k o ho
    rw [hB.block k (Array.getElem?_eq_some_iff.1 h0).1, h0]
   ·intro i B L1 hB hf hL1
    obtain ⟨rfl, rfl⟩ := hone i B hB
    simp only [if_true] at hL1
    cases hL1
    exact hg0
   ·intro i B L1 hB hf hL1
    obtain ⟨rfl, rfl⟩ := hone i B hB
    cases hf
   ·intro i B L1 hB hL1
    obtain ⟨rfl, rfl⟩ := hone i B hB
    simp only [if_true] at hL1
    cases hL1
    exact (Array.getElem?_eq_some_iff.1 hheap).1
   ·intro i B hB _ e he x hx
    obtain ⟨rfl, rfl⟩ := hone i B hB
    obtain ⟨z, _, rfl⟩ := List.mem_map.1 he
    simp at hx; subst hx; rfl
  ·intro i B L1 hB hf hL1
   obtain ⟨rfl, rfl⟩ := hone i B hB
   simp only [if_true] at hL1
   cases hL1
   exact .inl hg
  ·intro i B L1 hB hL1
   obtain ⟨rfl, rfl⟩ := hone i B hB
   simp only [if_true] at hL1
   cases hL1
   exact .inl hg
  ·intro k hk _; exact hB.block k hk
  ·intro k _ _; rfl
  ·exact hB.size
  ·exact hB.os
  ·exact hB.tape
  ·exact hB.output
theorem packV_one (v : Value) : packV #[v] = v := by simp [packV]
theorem clone_x {f : FuncId} {ty : Nat} (hE : Enters P f) (hS : CloneSays P f ty) : XSays P f (gClone ty) := by
 intro args blks rs bs e
 unfold gClone at e
 split at e
 ·rename_i n els
  split at e
  ·rename_i hc
   simp only [Option.bind_eq_some_iff] at e
   obtain ⟨l, h1, e⟩ := e
   cases e
   have hl := intsA_eq h1
   subst hl
   have hln : l.length = n := by simpa using hc.2
   refine ⟨hE, fun w ι h vals hv hn hm hpl => ?_⟩
   obtain ⟨u, rfl, hr⟩ := one_val hv
   have hr : RP h (.sl 1 n (l.map fun n => [At.int .i64 n])) u := hr
   have fin : ∀ (w' : World) v', w'.ownsRow w.heap.size ty 1 v' n (l.map (Value.int .i64)) → v' ≠ .slice none 0 0 → RowKit.Below w.heap.size w w' →
     ∃ (us : Array Value) (ι' : Io) (h' : Hp), Ending.returned v' = .returned (packV us) ∧ Post ι h w [] [.a (.sm 0 0 n)] [{ els := l.map fun n => [At.int .i64 n], es := 1, ty := ty, pr := true, fz := false, ar := true }] us.toList w' ι' h' := by
    intro w' v' ho hne hB
    obtain ⟨ι', h', hp⟩ := clone_post hm hB ho hne
    exact ⟨#[v'], ι', h', by rw [packV_one], hp⟩
   generalize hels : (l.map fun n => [At.int .i64 n]) = els at hr fin ⊢
   cases hr with
   | sl0 _ A c =>
    have hl0 : l = [] := List.eq_nil_of_length_eq_zero hln
    subst hl0
    cases A with
    | none =>
     refine (hS.2.1 0 c w).mono ?_
     rintro e w' ⟨rfl, rfl⟩
     refine ⟨#[.slice none 0 0], fun _ => none, h, by rw [packV_one], ?_⟩
     have hone : ∀ (i : Nat) (B : Blk), ([{ els := [], es := 1, ty := ty, pr := true, fz := false, ar := true }] : List Blk)[i]? = some B → i = 0 ∧ B = { els := [], es := 1, ty := ty, pr := true, fz := false, ar := true } := by
      intro i B hB
      cases i with
      | succ i => simp at hB
      | zero => cases hB; exact ⟨rfl, rfl⟩
     have hpl1 : ∀ (i : Nat) (B : Blk), ([{ els := [], es := 1, ty := ty, pr := true, fz := false, ar := true }] : List Blk)[i]? = some B → B.ow = none := fun i B hB => by rw [(hone i B hB).2]
     refine Post.ofP hpl1 ?_ ?_ ?_ ?_ ?_ ?_ ?_ ?_ ?_ ?_ ?_ ?_ ?_ ?_
     ·refine ⟨rfl, fun j x hx => ?_⟩
      cases j with
      | succ j => simp at hx
      | zero =>
       cases hx
       exact ⟨_, rfl, .inr ⟨rfl, rfl, rfl, rfl⟩⟩
     ·intro m hm; simp [namesV, Vl.cells, At.nm] at hm; subst hm; exact Nat.zero_lt_one
     ·exact Sub.refl h
     ·exact Nat.zero_le _
     ·intro i hi; cases hi
     ·refine Mm.ofP hpl1 ?_ ?_ ?_ ?_ ?_ ?_ ?_ ?_
      ·intro i B hB
       obtain ⟨rfl, rfl⟩ := hone i B hB
       rfl
      ·intro i B hB m hmm
       obtain ⟨rfl, rfl⟩ := hone i B hB
       cases hmm
      ·intro i j B B' L1 L2 e1 e2 q
       cases q
      ·exact hm.sub
      ·intro i B L1 hB hf q; cases q
      ·intro i B L1 hB hf q; cases q
      ·intro i B L1 hB q; cases q
      ·intro i B hB _ e he
       obtain ⟨rfl, rfl⟩ := hone i B hB
       cases he
     ·intro i B L1 hB hf q; cases q
     ·intro i B L1 hB q; cases q
     ·intro k hk _; rfl
     ·intro k _ _; rfl
     ·exact Nat.le_refl _
     ·rfl
     ·rfl
     ·rfl
    | some a =>
     refine (hS.2.2 a c w).mono ?_
     rintro e w' ⟨v', rfl, ho, hne, hB⟩
     exact fin w' v' ho hne hB
   | sl _ _ b off c es C t z us hb hn' hc' hl' hu hr' =>
    subst hels
    have hcell : ∀ j, j < l.length → w.cell? ⟨b, off + j, none⟩ = some (.int .i64 (l.getD j 0)) := by
     intro j hj
     have hg : (l.map fun n => [At.int .i64 n])[j]? = some [At.int .i64 (l.getD j 0)] := by
      rw [List.getElem?_map, List.getElem?_eq_getElem hj, List.getD_eq_getElem?_getD, List.getElem?_eq_getElem hj]; rfl
     have q1 := hu j _ 0 _ hg rfl
     have q2 := hr' j _ 0 _ hg rfl
     rw [Nat.mul_one, Nat.add_zero] at q1
     simp only [World.cell?, hm.sub b _ hb, Option.isSome_none, Bool.false_eq_true, if_false, q1]
     generalize us j 0 = y at q2
     cases q2; rfl
    have hC := hS.1 b off n c l w (by omega) hc.1 hcell
    refine hC.mono ?_
    rintro e w' ⟨v', rfl, ho, hne, hB⟩
    rw [show l.take n = l by rw [← hln, List.take_length]] at ho
    exact fin w' v' ho hne hB
  ·cases e
 ·cases e
end
end Go.Proofs.Ytgiamleohegjeaa.Am
set_option maxRecDepth 100000
namespace Go.Proofs.Ytgiamleohegjeaa.Am
open Go Go.Shelf
def xlays189_ren : Go.Shelf.Ren := ⟨fun | 189 => 44 | 125 => 56 | 257 => 55 | 128 => 68 | 129 => 69 | 294 => 59 | 295 => 60 | 296 => 61 | 297 => 62 | 298 => 63 | 299 => 64 | 216 => 65 | 300 => 66 | 301 => 67 | 328 => 70 | 329 => 71 | 330 => 72 | 331 => 73 | 332 => 74 | 215 => 75 | 343 => 76 | n => n, fun | 28 => 41 | 3 => 3 | 46 => 99 | 0 => 0 | 51 => 101 | 53 => 113 | 4 => 4 | 183 => 104 | 182 => 103 | 131 => 109 | 5 => 5 | 9 => 9 | 218 => 114 | 222 => 118 | 228 => 120 | 229 => 31 | n => n, fun | n => n⟩
theorem xlays189 : Go.Proofs.Lays.n189 Try.prog xlays189_ren := {
  mixed := by kernel_rfl
  f125 := Try.func56.trans (congrArg some (by kernel_rfl))
  f128 := Try.func68.trans (congrArg some (by kernel_rfl))
  f129 := Try.func69.trans (congrArg some (by kernel_rfl))
  f189 := Try.func44.trans (congrArg some (by kernel_rfl))
  f215 := Try.func75.trans (congrArg some (by kernel_rfl))
  f216 := Try.func65.trans (congrArg some (by kernel_rfl))
  f257 := Try.func55.trans (congrArg some (by kernel_rfl))
  f294 := Try.func59.trans (congrArg some (by kernel_rfl))
  f295 := Try.func60.trans (congrArg some (by kernel_rfl))
  f296 := Try.func61.trans (congrArg some (by kernel_rfl))
  f297 := Try.func62.trans (congrArg some (by kernel_rfl))
  f298 := Try.func63.trans (congrArg some (by kernel_rfl))
  f299 := Try.func64.trans (congrArg some (by kernel_rfl))
  f300 := Try.func66.trans (congrArg some (by kernel_rfl))
  f301 := Try.func67.trans (congrArg some (by kernel_rfl))
  f328 := Try.func70.trans (congrArg some (by kernel_rfl))
  f329 := Try.func71.trans (congrArg some (by kernel_rfl))
  f330 := Try.func72.trans (congrArg some (by kernel_rfl))
  f331 := Try.func73.trans (congrArg some (by kernel_rfl))
  f332 := Try.func74.trans (congrArg some (by kernel_rfl))
  f343 := Try.func76.trans (congrArg some (by kernel_rfl))
  t0 := Try.underlying0
  a0 := Try.isAgg0
  z0 := Try.sizeOf0
  v0 := Try.zeroValue0
  t3 := Try.underlying3
  a3 := Try.isAgg3
  z3 := Try.sizeOf3
  v3 := Try.zeroValue3
  t4 := Try.underlying4
  a4 := Try.isAgg4
  z4 := Try.sizeOf4
  v4 := Try.zeroValue4
  t5 := Try.underlying5
  a5 := Try.isAgg5
  z5 := Try.sizeOf5
  v5 := Try.zeroValue5
  t9 := Try.underlying9
  a9 := Try.isAgg9
  z9 := Try.sizeOf9
  v9 := Try.zeroValue9
  t28 := Try.underlying41
  a28 := Try.isAgg41
  z28 := Try.sizeOf41
  v28 := Try.zeroValue41
  t46 := Try.underlying99
  a46 := Try.isAgg99
  z46 := Try.sizeOf99
  v46 := Try.zeroValue99
  t51 := Try.underlying101
  a51 := Try.isAgg101
  z51 := Try.sizeOf101
  v51 := Try.zeroValue101
  t53 := Try.underlying113
  a53 := Try.isAgg113
  z53 := Try.sizeOf113
  v53 := Try.zeroValue113
  t131 := Try.underlying109
  a131 := Try.isAgg109
  z131 := Try.sizeOf109
  v131 := Try.zeroValue109
  t182 := Try.underlying103
  a182 := Try.isAgg103
  z182 := Try.sizeOf103
  v182 := Try.zeroValue103
  t183 := Try.underlying104
  a183 := Try.isAgg104
  z183 := Try.sizeOf104
  v183 := Try.zeroValue104
  t218 := Try.underlying114
  a218 := Try.isAgg114
  z218 := Try.sizeOf114
  v218 := Try.zeroValue114
  t222 := Try.underlying118
  a222 := Try.isAgg118
  z222 := Try.sizeOf118
  v222 := Try.zeroValue118
  t228 := Try.underlying120
  a228 := Try.isAgg120
  z228 := Try.sizeOf120
  v228 := Try.zeroValue120
  t229 := Try.underlying31
  a229 := Try.isAgg31
  z229 := Try.sizeOf31
  v229 := Try.zeroValue31 }
def xlays215_ren : Go.Shelf.Ren := ⟨fun | 15 => 43 | n => n, fun | 22 => 41 | 3 => 3 | 4 => 4 | n => n, fun | n => n⟩
theorem xlays215 : Go.Proofs.Lays2.n15 Try.prog xlays215_ren := {
  mixed := by kernel_rfl
  f15 := Try.func43.trans (congrArg some (by kernel_rfl))
  t3 := Try.underlying3
  a3 := Try.isAgg3
  z3 := Try.sizeOf3
  v3 := Try.zeroValue3
  t4 := Try.underlying4
  a4 := Try.isAgg4
  z4 := Try.sizeOf4
  v4 := Try.zeroValue4
  t22 := Try.underlying41
  a22 := Try.isAgg41
  z22 := Try.sizeOf41
  v22 := Try.zeroValue41
  i3 := by kernel_rfl }

theorem xsort_says : SortSays Try.prog 44 :=
  ⟨fun blk off cap zs w hH hb hs => Any.slices_Sort_int xlays189 blk off cap zs w hH hb hs, fun p cap w => Any.slices_Sort_int_none xlays189 p cap w⟩
theorem xclone_says : CloneSays Try.prog 43 3 :=
  ⟨fun b off n c zs w hz hb hc => Any.slices_Clone_int xlays215 b off n c zs w hz hb hc, fun n c w => Any.slices_Clone_int_nil xlays215 n c w, fun a c w => Any.slices_Clone_int_zero xlays215 a c w⟩
theorem xs_ok : ∀ f g args blks rs bs, cf.X f = some g → g args blks = some (rs, bs) → Enters Try.prog f ∧ ∀ (w : World) (ι : Io) (h : Hp) (vals : Array Value), RVs ι h args vals.toList → (∀ m ∈ namesV args, m < blks.length) → Mm ι h w blks → (∀ B ∈ blks, B.ow = none) →
    Calls Try.prog f vals w fun e w' => ∃ (us : Array Value) (ι' : Io) (h' : Hp), e = .returned (packV us) ∧ Post ι h w blks rs bs us.toList w' ι' h' := by
  intro f g args blks rs bs h
  change xas f = some g at h
  unfold xas at h
  split at h
  · cases h; exact sort_x ⟨_, Try.func44, by kernel_rfl, by kernel_rfl⟩ xsort_says args blks rs bs
  · cases h; exact clone_x ⟨_, Try.func43, by kernel_rfl, by kernel_rfl⟩ xclone_says args blks rs bs
  · cases h
end Go.Proofs.Ytgiamleohegjeaa.Am
namespace Go.Proofs.Ytgiamleohegjeaa.Am
open Go
theorem ty_ok : TyOk Try.prog Ty := by
  intro t i h
  unfold Ty at h
  split at h <;> first | (cases h; done) | (cases h; exact tok_of (by kernel_rfl))
theorem names : (Try.prog.funcs.toList.all fun fn => !(fn.name == "runtime.NumGoroutine")) = true := by kernel_rfl
theorem cfg_ok : CfgOk Try.prog cf :=
  { ty := ty_ok, fn := fun f fn e => names_ok names e, ext := xs_ok, mo := by kernel_rfl }
/-- A code's outermost loops, each with its block. -/
def lpL : Nat → Code → List (Nat × Code)
 | b, .seq x y => lpL b x ++ lpL b y
 | b, .cond _ x y => lpL b x ++ lpL b y
 | _, .block id x => lpL id x
 | b, .loop x => [(b, x)]
 | _, _ => []
theorem lall {Q : Nat → Code → Prop} (x : Code) : ∀ (b : Nat), (∀ q ∈ lpL b x, Q q.1 q.2) → LAll Q b x := by
 induction x with
 | seq x y hx hy => exact fun b h => ⟨hx b fun q m => h q (List.mem_append_left _ m), hy b fun q m => h q (List.mem_append_right _ m)⟩
 | cond _ x y hx hy => exact fun b h => ⟨hx b fun q m => h q (List.mem_append_left _ m), hy b fun q m => h q (List.mem_append_right _ m)⟩
 | block id x hx => exact fun b h => hx id h
 | loop x _ => exact fun b h => h (b, x) (List.mem_singleton.2 rfl)
 | _ => exact fun _ _ => trivial
/-- The loop that stands in a block. -/
def lbF (q : Nat) : Nat → Code → Option Code
 | b, .seq x y => (lbF q b x).or (lbF q b y)
 | b, .cond _ x y => (lbF q b x).or (lbF q b y)
 | _, .block id x => lbF q id x
 | b, .loop x => if b = q then some x else lbF q b x
 | _, _ => none
def lbB (fn : Func) (q : Nat) : Code := (lbF q 0 (bd fn)).getD .skip
def LIo (f : FuncId) (fn : Func) (p k : Nat) (i : LInst) : Prop := LIOk cf (call cf k) (kps f) fn.ntmps k p i.b (lbB fn i.b) i
def LLo (f : FuncId) (fn : Func) (p k : Nat) : List LInst → Prop
 | [] => True
 | i :: r => LIo f fn p k i ∧ LLo f fn p k r
theorem a0 {cl : FuncId → List Vl → List Blk → Option (List Vl × List Blk)} : AllI cl [] := trivial
theorem ac {cl : FuncId → List Vl → List Blk → Option (List Vl × List Blk)} {i : Inst} {r : List Inst} (h : InstOk cl i) (t : AllI cl r) : AllI cl (i :: r) := ⟨h, t⟩
theorem l0 {f : FuncId} {fn : Func} {p k : Nat} : LLo f fn p k [] := trivial
theorem lc {f : FuncId} {fn : Func} {p k : Nat} {i : LInst} {r : List LInst} (h : LIo f fn p k i) (t : LLo f fn p k r) : LLo f fn p k (i :: r) := ⟨h, t⟩
theorem LLo.all {f : FuncId} {fn : Func} {p k : Nat} (b : Nat) : ∀ {l : List LInst}, LLo f fn p k l → AllL cf (call cf k) (kps f) fn.ntmps k p b (lbB fn b) l
 | [], _ => trivial
 | _ :: _, h => ⟨fun e => e ▸ h.1, LLo.all b h.2⟩
theorem LLo.lall {R : Type} {f : FuncId} {fn : Func} {p k b : Nat} {x : Code} {l : List LInst} (h : LLo f fn p k l) {qs : List Nat} (hq : lpL b x = qs.map fun q => (q, lbB fn q)) :
  LAll (LOk (R := R) (fun b _ σ K => LOt Ty (kps f) p b σ K l) cf (call cf k) (kps f) fn.ntmps k p) b x := by
 refine Am.lall x b fun q m => ?_
 rw [hq] at m
 obtain ⟨i, _, rfl⟩ := List.mem_map.1 m
 exact LOt_ok (c := cf) (h.all i)
def mkL (b : Nat) (hs : List SS) (os : List OS) (L : Nat → DS SS.D hs → Option (DS OS.D os)) (k : Nat) : LInst := ⟨b, hs, os, L k⟩
def mkI (f : FuncId) (sh : FS) (os : List FS) (U : Nat → sh.D → Option (DS FS.D os)) (k : Nat) : Inst := ⟨f, sh, os, U k⟩
theorem lpk {f : FuncId} {fn : Func} {p k b : Nat} {hs : List SS} {os : List OS} {L : Nat → DS SS.D hs → Option (DS OS.D os)} (qs : List Nat) {is : List Inst} {ls : List LInst} (hC : AllI (call cf k) is) (hl : LLo f fn p k ls)
  (h0 : ∀ x, L 0 x = none) (hq : lpL b (lbB fn b) = qs.map fun q => (q, lbB fn q))
  (hF : ∀ n x, L (n + 1) x = encSK SS.enc (fun σ => run2 cf (fun f a b K => COt f a b K is) (fun b _ σ K => LOt Ty (kps f) p b σ K ls) fn.ntmps b (lbB fn b) σ (homeO (nextK Ty (kps f b) p hs os (L n)))) hs x) : LIo f fn p k (mkL b hs os L k) :=
 loop_ok (c := cf) (COt_ok hC) (hl.lall hq) L h0 hF
theorem fnk {f : FuncId} {fn : Func} {sh : FS} {os : List FS} {U : Nat → sh.D → Option (DS FS.D os)} (p : Nat) (qs : List Nat) (hf : cf.F f = some fn) {is : Nat → List Inst} {ls : Nat → List LInst} (hC : ∀ k, AllI (call cf k) (is k)) (hl : ∀ k, LLo f fn p k (ls k))
  (hz : cf.X f = none ∧ fn.body = some (bd fn) ∧ (sh.vs.length = fn.params.size + fn.nfree ∧ sh.vs.length ≤ fn.ntmps) ∧ sh.bs.length = p) (h0 : ∀ x, U 0 x = none) (hq : lpL 0 (bd fn) = qs.map fun q => (q, lbB fn q))
  (hF : ∀ k x, U (k + 1) x = body2 cf (fun f a b K => COt f a b K (is k)) (fun b _ σ K => LOt Ty (kps f) p b σ K (ls k)) f fn.ntmps fn.results.toList (bd fn) (sh.enc x).1 (sh.enc x).2 (putS FS.dec os)) : ∀ k, InstOk (call cf k) (mkI f sh os U k)
 | 0 => fun x y e => absurd ((h0 x).symm.trans e) (by simp)
 | k + 1 => inst_ok hz.1 hf hz.2.1 hz.2.2.1 (COt_ok (hC k)) (hz.2.2.2 ▸ (hl k).lall hq) (U (k + 1)) (hz.2.2.2 ▸ hF k)
abbrev vI : ShV := .a (.lf (.int .i64))
abbrev vB : ShV := .a (.lf .bool)
abbrev vJ : ShV := .a (.lf (.sl (.int .i64)))
abbrev cW : Cd := .sl (.int .u32)
end Go.Proofs.Ytgiamleohegjeaa.Am
namespace Go.Proofs.Ytgiamleohegjeaa.Am
open Go Go.RowKit Go.WideShapes

def cdPL (f : TypeId → Option Cd) : List Field → Option Cd
  | [] => none
  | [x] => f x.type
  | x :: r => (f x.type).bind fun a => (cdPL f r).bind fun b => some (.pr a b)
/-- At least so many bytes. -/
def Cd.by : Cd → Nat
  | .int .i8 | .int .u8 | .bool => 1
  | .int .i16 | .int .u16 => 2
  | .int .i32 | .int .u32 => 4
  | .int _ => 8
  | .str => 16
  | .sl _ => 24
  | .pr a b => a.by + b.by
  | .ref _ => 8
/-- A type's words, by the program's own tables. -/
def cdP (P : Program) : Nat → TypeId → Option Cd
  | 0, _ => none
  | k + 1, t => match P.underlying t with
    | some (.int k) => some (.int k)
    | some .bool => some .bool
    | some .string => some .str
    | some (.slice e) => (cdP P k e).bind fun c => if P.cellsOf e = c.sz ∧ c.by ≤ P.bytesOf e then some (.sl c) else none
    | some (.struct fs) => if tiles P fs.toList 0 (P.cellsOf t) = true then cdPL (cdP P k) fs.toList else none
    | _ => none
/-- What an argument's words keep to. -/
def Wfd : (c : Cd) → c.D → Prop
  | .int k, n => (Lit.int k n).wf = true
  | .bool, _ => True
  | .str, s => s.size ≤ maxLen ∧ s.size ≤ reachBytes
  | .sl c, l => (l.length ≤ maxLen ∧ l.length * c.by ≤ reachBytes) ∧ ∀ x ∈ l, Wfd c x
  | .pr a b, x => Wfd a x.1 ∧ Wfd b x.2
  | .ref _, _ => False

section
variable {P : Program}
theorem typed_cd : ∀ (k : Nat) (t : TypeId) (c : Cd), cdP P k t = some c → ∀ xs : List At, Typed P t xs → ∃ y : c.D, xs = c.at y ∧ Wfd c y := by
  intro k
  induction k with
  | zero => intro t c h; cases h
  | succ k ih =>
    intro t c h xs ht
    simp only [cdP] at h
    split at h
    · rename_i kk hu
      cases h
      obtain ⟨n, rfl, hw⟩ := typed_int hu ht
      exact ⟨n, rfl, hw⟩
    · rename_i hu
      cases h
      obtain ⟨b, rfl⟩ := typed_bool hu ht
      exact ⟨b, rfl, trivial⟩
    · rename_i hu
      cases h
      obtain ⟨s, rfl, hs⟩ := typed_str hu ht
      exact ⟨s, rfl, hs⟩
    · rename_i e hu
      simp only [Option.bind_eq_some_iff] at h
      obtain ⟨c', h1, h⟩ := h
      split at h
      · rename_i hz
        cases h
        obtain ⟨els, rfl, hn, hnb, hel⟩ := typed_sl hu ht
        have key : ∀ els : List (List At), (∀ el ∈ els, Typed P e el) → ∃ l : List c'.D, els = l.map c'.at ∧ ∀ x ∈ l, Wfd c' x := by
          intro els
          induction els with
          | nil => intro _; exact ⟨[], rfl, by simp⟩
          | cons x r ih2 =>
            intro hx
            obtain ⟨y, rfl, hw⟩ := ih e c' h1 x (hx x (List.mem_cons_self ..))
            obtain ⟨l, rfl, hl⟩ := ih2 fun el hm => hx el (List.mem_cons_of_mem _ hm)
            exact ⟨y :: l, rfl, fun z hz => by
              rcases List.mem_cons.1 hz with rfl | hz
              · exact hw
              · exact hl z hz⟩
        obtain ⟨l, rfl, hl⟩ := key els hel
        rw [List.length_map] at hn hnb ⊢
        exact ⟨l, by simp only [Cd.at, hz.1], ⟨hn, Nat.le_trans (Nat.mul_le_mul_left _ hz.2) hnb⟩, hl⟩
      · cases h
    · rename_i fs hu
      split at h
      · rename_i htile
        obtain ⟨hcl, hf⟩ := typed_st hu ht
        have key : ∀ (l : List Field) (o : Nat) (c : Cd), cdPL (cdP P k) l = some c → tiles P l o (P.cellsOf t) = true → (∀ f ∈ l, Typed P f.type ((xs.drop f.offset).take (P.cellsOf f.type))) → ∃ y : c.D, xs.drop o = c.at y ∧ Wfd c y := by
          intro l
          induction l with
          | nil => intro o c h; cases h
          | cons f r ih2 =>
            intro o c h ho hfs
            simp only [tiles, Bool.and_eq_true, beq_iff_eq] at ho
            obtain ⟨rfl, ho⟩ := ho
            have h0 := hfs f (List.mem_cons_self ..)
            cases r with
            | nil =>
              simp only [cdPL] at h
              simp only [tiles, beq_iff_eq] at ho
              obtain ⟨y, h2, h3⟩ := ih f.type c h _ h0
              refine ⟨y, ?_, h3⟩
              rw [← h2, List.take_of_length_le]
              rw [List.length_drop]; omega
            | cons g r =>
              simp only [cdPL, Option.bind_eq_some_iff] at h
              obtain ⟨a, h4, b, h5, h⟩ := h
              cases h
              obtain ⟨y, h2, h3⟩ := ih f.type a h4 _ h0
              obtain ⟨z, h6, h7⟩ := ih2 _ b h5 ho fun g hg => hfs g (List.mem_cons_of_mem _ hg)
              refine ⟨(y, z), ?_, h3, h7⟩
              simp only [Cd.at]
              rw [← h2, ← h6, ← List.drop_drop, List.take_append_drop]
        obtain ⟨y, h1, h2⟩ := key fs.toList 0 c h htile fun f hfm => by
          obtain ⟨i, hi⟩ := List.getElem?_of_mem hfm
          exact hf i f (by simpa using hi)
        exact ⟨y, by simpa using h1, h2⟩
      · cases h
    · cases h

def isStP (P : Program) (t : TypeId) : Bool := match P.underlying t with
  | some (.struct _) => true
  | _ => false
/-- An argument as the typed machine has it. -/
def argV (st : Bool) (c : Cd) (y : c.D) : V2 := if st then .g (c.cl y) else .a ((c.cl y).headD .nilp)
variable {H : Type} {enc : TypeId × Value → H} {w : World} {base : Nat} {sp : Nat → Bool} {held : Bool}
theorem open_cd {d base' : Nat} {t : TypeId} {c : Cd} (st : Bool) (ht : plainT P d t = true) (hc : cdP P 9 t = some c) (hst : isStP P t = st) {v : Value} (hval : Value.okWide P w .any base' t v) {D : DataW H} {ps : List MemPlace}
    (hd : DataW.Trod enc P w base sp held t v D ps) (hwt : (DataW.weights P t D).all (· ≤ reachBytes) = true) : ∃ y : c.D, RV (fun _ => none) (view w) (argV st c y).at v ∧ namesV [(argV st c y).at] = [] ∧ Wfd c y := by
  obtain ⟨x, h1, h2, h3, h4, h5⟩ := open_arg ht hval hd hwt
  obtain ⟨y, h6, h7⟩ := typed_cd 9 t c hc _ h3
  have hx : x = (argV st c y).at := by
    unfold isStP at hst
    cases hu : P.underlying t with
    | none => rw [hu] at hst; simp only at hst; subst hst
              rcases h4 with ⟨z, rfl⟩ | ⟨fs, e⟩
              · simp only [argV, Bool.false_eq_true, if_false, V2.at]
                simp only [Vl.cells] at h6
                rw [← cl_at] at h6
                match hq : c.cl y, h6 with
                | [], h6 => cases h6
                | q :: r, h6 => simp only [List.map_cons, List.cons.injEq] at h6; rw [h6.1]; rfl
              · rw [hu] at e; cases e
    | some dd =>
      cases st with
      | true =>
        have hs : ∃ fs, P.underlying t = some (.struct fs) := by
          rw [hu] at hst
          cases dd <;> simp only at hst <;> first | exact ⟨_, hu⟩ | cases hst
        rcases h5 with ⟨ys, rfl⟩ | e
        · simp only [argV, if_true, V2.at, cl_at]
          rw [← h6]; rfl
        · exact absurd hs e
      | false =>
        rcases h4 with ⟨z, rfl⟩ | ⟨fs, e⟩
        · simp only [argV, Bool.false_eq_true, if_false, V2.at]
          simp only [Vl.cells] at h6
          rw [← cl_at] at h6
          match hq : c.cl y, h6 with
          | [], h6 => cases h6
          | q :: r, h6 => simp only [List.map_cons, List.cons.injEq] at h6; rw [h6.1]; rfl
        · rw [hu] at e hst; cases e; cases hst
  subst hx
  exact ⟨y, h1, h2, h7⟩
theorem rvs_nil {ι : Io} {h : Hp} : RVs ι h [] [] := ⟨rfl, by simp⟩
theorem rvs_cons {ι : Io} {h : Hp} {x : Vl} {v : Value} {xs : List Vl} {vs : List Value} (h1 : RV ι h x v) (h2 : RVs ι h xs vs) : RVs ι h (x :: xs) (v :: vs) := by
  refine ⟨by simp [h2.1], fun j y e => ?_⟩
  cases j with
  | zero => simp at e; subst e; exact ⟨v, rfl, h1⟩
  | succ j => simp at e; simpa using h2.2 j y e
theorem names_cons {x : Vl} {xs : List Vl} (h1 : namesV [x] = []) (h2 : namesV xs = []) : namesV (x :: xs) = [] := by
  simp only [namesV, List.flatMap_cons, List.flatMap_nil, List.append_nil] at h1 h2 ⊢
  rw [h1, h2]; rfl
/-- A law's call, by its printed function. -/
theorem law_inst {c : Cfg} (hk : CfgOk P c) {k : Nat} {i : Inst} (hi : InstOk (call c k) i) {x : i.sh.D} {y : DS FS.D i.os} (h : i.F x = some y) (hy : encS FS.enc i.os y = ([.a (.bool true)], []))
    {args : List V2} (ha : i.sh.enc x = (args, [])) {vals : Array Value} (hr : RVs (fun _ => none) (view w) (args.map V2.at) vals.toList) (hn : namesV (args.map V2.at) = []) :
    Calls P i.f vals w fun e w' => e = .returned (.bool true) ∧ Below w.heap.size w w' := by
  have := hi x y h
  rw [hy, ha] at this
  exact law_calls hk hr hn this
end
end Go.Proofs.Ytgiamleohegjeaa.Am
