/- Printed functions: each says what the typed machine says of the program -/
import Derived.Test.YtlnailgfialgnaaGreatDoorMA3
import Derived.KernelRfl

set_option linter.unusedVariables false
set_option maxRecDepth 100000
namespace Go.Proofs.YtlnailgfialgnaaGreatDoor.Am
theorem qT : True := True.intro
theorem qA {a b : Prop} (h : a) (k : b) : a ∧ b := And.intro h k
open Go
noncomputable section
abbrev DvT : Type := Int × ByteArray × List Int × Int × (Int × Int) × (Int × List (Int × Int) × List Int) × ByteArray × Int × List (Int × Int) × List (Int × Int)
abbrev qG : Cd := .pr (.int .u8) (.pr .str (.pr (.sl (.int .i64)) (.pr (.int .i64) (.pr (.pr (.int .i64) (.int .i64)) (.pr (.pr (.int .i64) (.pr (.sl (.pr (.int .i64) (.int .i64))) (.sl (.int .i64)))) (.pr .str (.pr (.int .u8) (.pr (.sl (.pr (.int .i64) (.int .i64))) (.sl (.pr (.int .i64) (.int .i64)))))))))))

def qeD (k : Nat) (rec : List Int → Int → Option (List Int × Int)) (w : List Int) (n : Int) : Option (List Int × Int) :=
 if ((decide (n > (0 : Int))) = true) then
 if ((0 : Int) ≤ (IntKind.wrap .i64 (n - (1 : Int)))) then
 Option.bind (w)[(Int.toNat (IntKind.wrap .i64 (n - (1 : Int))))]? fun x =>
 if ((x == (0 : Int)) = true) then
 rec w (IntKind.wrap .i64 (n - (1 : Int)))
 else
 (some (w, n))
 else
 none
 else
 (some (w, n))
def qfi (k n : Nat) : List Int → Int → Option (List Int × Int) := Nat.rec (fun _ _ => none) (fun _ r => qeD k r) n
def qiv (k : Nat) (w : List Int) : Option (List Int) :=
 Option.bind (qfi k k w (((List.length w) : Nat) : Int)) fun r1 =>
 if (((0 : Int) ≤ (0 : Int)) ∧ (((0 : Int) ≤ r1.2) ∧ (r1.2 ≤ (((List.length r1.1) : Nat) : Int)))) then
 (some (List.take (Int.toNat r1.2) r1.1))
 else
 none
def qdv : Nat → List Int → Option (List Int)
 | 0, _ => none
 | k + 1, w => qiv k w
def quE : Nat → Inst := mkI 141 ⟨[vT], []⟩ [⟨[vT], []⟩] fun k x => qdv k x
def qi6 : SS := ⟨[(0, vT), (3, vI)], [], 0⟩
def quF (k : Nat) : LInst := mkL 0 [qi6] [⟨some 0, qi6⟩] (fun n x => qfi k n x.1 x.2) k
theorem quG (k : Nat) : LIo 141 Tryz.f141 0 k (quF k) :=
 lpk [] a0 l0 (fun _ => rfl) (by kernel_rfl) fun n x => by kernel_rfl
theorem qj1 : ∀ k, qh (call cf k) (quE k) :=
 fnk 0 [0] Tryz.func141 (fun k => a0) (fun k => (lc (quG k) l0)) ⟨rfl, rfl, ⟨rfl, Nat.le_of_ble_eq_true rfl⟩, rfl⟩ (fun _ => rfl) (by kernel_rfl) fun k x => by kernel_rfl

def qfu (k : Nat) (neg : Bool) (w : List Int) (z : Bool) : Option (Bool × List Int) :=
 Option.bind (qdv k w) fun r1 =>
 if (neg = true) then
 (some ((decide ((((List.length r1) : Nat) : Int) > (0 : Int))), r1))
 else
 (some (false, r1))
def qbt : Nat → Bool → List Int → Bool → Option (Bool × List Int)
 | 0, _, _, _ => none
 | k + 1, neg, w, z => qfu k neg w z
def Iq8 : Nat → Inst := mkI 198 ⟨[.a (.ptr 0 0 0), vB, vT], [.raw [[.lf .bool, .snil 1 106]] 2 147 true false false]⟩ [⟨[.a (.ptr 0 0 0)], [.raw [[.lf .bool, .lf cW]] 2 147 true false false]⟩] fun k x => qbt k x.1 x.2.1 x.2.2
theorem qoI : ∀ k, qh (call cf k) (Iq8 k) :=
 fnk 1 [] Tryz.func198 (fun k => (ac (qj1 k) a0)) (fun k => l0) ⟨rfl, rfl, ⟨rfl, Nat.le_of_ble_eq_true rfl⟩, rfl⟩ (fun _ => rfl) (by kernel_rfl) fun k x => by kernel_rfl

def qae (k : Nat) (rec : Nat → Int → Int → Int → List Int → Int → Int → List Int → Int → Int → Bool → Bool → List Int → Bool → List Int → List Int → Option (Nat × Int × Int × List Int × Int × Int × Bool × Bool × List Int × Bool × List Int × List Int)) (out1 : Nat) (i : Int) (a : Int) (carry : Int) (x : List Int) (x1 : Int) (x2 : Int) (x3 : List Int) (x4 : Int) (x5 : Int) (z : Bool) (x0 : Bool) (x11 : List Int) (y0 : Bool) (y1 : List Int) (outs : List Int) : Option (Nat × Int × Int × List Int × Int × Int × Bool × Bool × List Int × Bool × List Int × List Int) :=
 if ((decide (x5 < x4)) = true) then
 if ((0 : Int) ≤ x5) then
 Option.bind (x3)[(Int.toNat x5)]? fun x6 =>
 if (((0 : Int) ≤ (IntKind.wrap .i64 (i + x5))) ∧ ((IntKind.wrap .i64 (i + x5)) < ((out1 : Nat) : Int))) then
 Option.bind (outs)[(0 + (Int.toNat (IntKind.wrap .i64 (i + x5))))]? fun x7 =>
 if (((0 : Int) ≤ (IntKind.wrap .i64 (i + x5))) ∧ ((IntKind.wrap .i64 (i + x5)) < ((out1 : Nat) : Int))) then
 Option.bind (outs)[(0 + (Int.toNat (IntKind.wrap .i64 (i + x5))))]? fun x8 =>
 rec out1 i a (Int.fdiv (IntKind.wrap .u64 ((IntKind.wrap .u64 ((IntKind.wrap .u64 ((IntKind.wrap .u64 a) * (IntKind.wrap .u64 x6))) + (IntKind.wrap .u64 x7))) + carry)) (4294967296 : Int)) x x1 x2 x3 x4 (IntKind.wrap .i64 (x5 + (1 : Int))) z x0 x11 y0 y1 (List.set outs (0 + (Int.toNat (IntKind.wrap .i64 (i + x5)))) (IntKind.wrap .u32 (IntKind.wrap .u64 ((IntKind.wrap .u64 ((IntKind.wrap .u64 ((IntKind.wrap .u64 a) * (IntKind.wrap .u64 x6))) + (IntKind.wrap .u64 x7))) + carry))))
 else
 none
 else
 none
 else
 none
 else
 (some (out1, i, carry, x, x1, x2, z, x0, x11, y0, y1, outs))
def qZ (k n : Nat) : Nat → Int → Int → Int → List Int → Int → Int → List Int → Int → Int → Bool → Bool → List Int → Bool → List Int → List Int → Option (Nat × Int × Int × List Int × Int × Int × Bool × Bool × List Int × Bool × List Int × List Int) := Nat.rec (fun _ _ _ _ _ _ _ _ _ _ _ _ _ _ _ _ => none) (fun _ r => qae k r) n
def qaf (k : Nat) (rec : Nat → List Int → Int → Int → Bool → Bool → List Int → Bool → List Int → List Int → Option (Nat × Bool × Bool × List Int × Bool × List Int × List Int)) (out1 : Nat) (x : List Int) (x1 : Int) (x2 : Int) (z : Bool) (x0 : Bool) (x11 : List Int) (y0 : Bool) (y1 : List Int) (outs : List Int) : Option (Nat × Bool × Bool × List Int × Bool × List Int × List Int) :=
 if ((decide (x2 < x1)) = true) then
 if ((0 : Int) ≤ x2) then
 Option.bind (x)[(Int.toNat x2)]? fun x3 =>
 Option.bind (qZ k k out1 x2 x3 (0 : Int) x x1 x2 y1 (((List.length y1) : Nat) : Int) (0 : Int) z x0 x11 y0 y1 outs) fun r =>
 if (((0 : Int) ≤ (IntKind.wrap .i64 (r.2.1 + (((List.length r.2.2.2.2.2.2.2.2.2.2.1) : Nat) : Int)))) ∧ ((IntKind.wrap .i64 (r.2.1 + (((List.length r.2.2.2.2.2.2.2.2.2.2.1) : Nat) : Int))) < ((r.1 : Nat) : Int))) then
 Option.bind (r.2.2.2.2.2.2.2.2.2.2.2)[(0 + (Int.toNat (IntKind.wrap .i64 (r.2.1 + (((List.length r.2.2.2.2.2.2.2.2.2.2.1) : Nat) : Int)))))]? fun x4 =>
 rec r.1 r.2.2.2.1 r.2.2.2.2.1 (IntKind.wrap .i64 (r.2.2.2.2.2.1 + (1 : Int))) r.2.2.2.2.2.2.1 r.2.2.2.2.2.2.2.1 r.2.2.2.2.2.2.2.2.1 r.2.2.2.2.2.2.2.2.2.1 r.2.2.2.2.2.2.2.2.2.2.1 (List.set r.2.2.2.2.2.2.2.2.2.2.2 (0 + (Int.toNat (IntKind.wrap .i64 (r.2.1 + (((List.length r.2.2.2.2.2.2.2.2.2.2.1) : Nat) : Int))))) (IntKind.wrap .u32 r.2.2.1))
 else
 none
 else
 none
 else
 (some (out1, z, x0, x11, y0, y1, outs))
def qO (k n : Nat) : Nat → List Int → Int → Int → Bool → Bool → List Int → Bool → List Int → List Int → Option (Nat × Bool × Bool × List Int × Bool × List Int × List Int) := Nat.rec (fun _ _ _ _ _ _ _ _ _ _ => none) (fun _ r => qaf k r) n
def qdc (k : Nat) (z : Bool) (x0 : Bool) (x1 : List Int) (y0 : Bool) (y1 : List Int) : Option (Bool × List Int × Bool × List Int × Bool × List Int) :=
 if (((0 : Int) ≤ (IntKind.wrap .i64 ((((List.length x1) : Nat) : Int) + (((List.length y1) : Nat) : Int)))) ∧ (((IntKind.wrap .i64 ((((List.length x1) : Nat) : Int) + (((List.length y1) : Nat) : Int))) ≤ (IntKind.wrap .i64 ((((List.length x1) : Nat) : Int) + (((List.length y1) : Nat) : Int)))) ∧ (((IntKind.wrap .i64 ((((List.length x1) : Nat) : Int) + (((List.length y1) : Nat) : Int))) * (4 : Int)) ≤ (140737488355328 : Int)))) then
 Option.bind (qO k k (Int.toNat (IntKind.wrap .i64 ((((List.length x1) : Nat) : Int) + (((List.length y1) : Nat) : Int)))) x1 (((List.length x1) : Nat) : Int) (0 : Int) z x0 x1 y0 y1 (List.replicate (Int.toNat (IntKind.wrap .i64 ((((List.length x1) : Nat) : Int) + (((List.length y1) : Nat) : Int)))) (0 : Int))) fun r =>
 if ((0 + r.1) ≤ (List.length r.2.2.2.2.2.2)) then
 Option.bind (qbt k (!(r.2.2.1 == r.2.2.2.2.1)) (List.take r.1 r.2.2.2.2.2.2) r.2.1) fun r1 =>
 (some (r1.1, r1.2, r.2.2.1, r.2.2.2.1, r.2.2.2.2.1, r.2.2.2.2.2.1))
 else
 none
 else
 none
def qdX : Nat → Bool → Bool → List Int → Bool → List Int → Option (Bool × List Int × Bool × List Int × Bool × List Int)
 | 0, _, _, _, _, _ => none
 | k + 1, z, x0, x1, y0, y1 => qdc k z x0 x1 y0 y1
def Iq3 : Nat → Inst := mkI 155 ⟨[.a (.ptr 0 0 0), .a (.ptr 1 0 0), .a (.ptr 2 0 0)], [.raw [[.lf .bool, .snil 1 106]] 2 147 true false false, .raw [[.lf .bool, .lf cW]] 2 147 true false false, .raw [[.lf .bool, .lf cW]] 2 147 true false false]⟩ [⟨[.a (.ptr 0 0 0)], [.raw [[.lf .bool, .lf cW]] 2 147 true false false, .raw [[.lf .bool, .lf cW]] 2 147 true false false, .raw [[.lf .bool, .lf cW]] 2 147 true false false]⟩] fun k x => qdX k x.1 x.2.1 x.2.2.1 x.2.2.2.1 x.2.2.2.2
theorem qrG (k : Nat) : qa5 (call cf k) [Iq8 k] :=
 ac (qoI k) a0
def qxy (k : Nat) : LInst := mkL 2 [⟨[(0, .a (.ptr 0 0 0)), (1, .a (.ptr 1 0 0)), (2, .a (.ptr 2 0 0)), (7, .a (.smz 3)), (8, vI), (9, .a (.lf (.int .u32))), (10, vU), (29, vT), (30, vI), (31, vI), (39, vT), (40, vI), (41, vI)], [(0, some (.raw [[.lf .bool, .snil 1 106]] 2 147 true false false)), (1, some (.raw [[.lf .bool, .lf cW]] 2 147 true false false)), (2, some (.raw [[.lf .bool, .lf cW]] 2 147 true false false)), (3, some (.arr (.int .u32) 1 106 false))], 4⟩] [⟨some 2, ⟨[(0, .a (.ptr 0 0 0)), (1, .a (.ptr 1 0 0)), (2, .a (.ptr 2 0 0)), (7, .a (.smz 3)), (8, vI), (10, vU), (29, vT), (30, vI), (31, vI)], [(0, some (.raw [[.lf .bool, .snil 1 106]] 2 147 true false false)), (1, some (.raw [[.lf .bool, .lf cW]] 2 147 true false false)), (2, some (.raw [[.lf .bool, .lf cW]] 2 147 true false false)), (3, some (.arr (.int .u32) 1 106 false))], 4⟩⟩] (fun n x => qZ k n x.1 x.2.1 x.2.2.1 x.2.2.2.1 x.2.2.2.2.1 x.2.2.2.2.2.1 x.2.2.2.2.2.2.1 x.2.2.2.2.2.2.2.1 x.2.2.2.2.2.2.2.2.1 x.2.2.2.2.2.2.2.2.2.1 x.2.2.2.2.2.2.2.2.2.2.1 x.2.2.2.2.2.2.2.2.2.2.2.1 x.2.2.2.2.2.2.2.2.2.2.2.2.1 x.2.2.2.2.2.2.2.2.2.2.2.2.2.1 x.2.2.2.2.2.2.2.2.2.2.2.2.2.2.1 x.2.2.2.2.2.2.2.2.2.2.2.2.2.2.2) k
theorem qst (k : Nat) : LIo 155 Tryz.f155 3 k (qxy k) :=
 lpk [] (qrG k) l0 (fun _ => rfl) (by kernel_rfl) fun n x => by kernel_rfl
def qxz (k : Nat) : LInst := mkL 0 [⟨[(0, .a (.ptr 0 0 0)), (1, .a (.ptr 1 0 0)), (2, .a (.ptr 2 0 0)), (7, .a (.smz 3)), (29, vT), (30, vI), (31, vI)], [(0, some (.raw [[.lf .bool, .snil 1 106]] 2 147 true false false)), (1, some (.raw [[.lf .bool, .lf cW]] 2 147 true false false)), (2, some (.raw [[.lf .bool, .lf cW]] 2 147 true false false)), (3, some (.arr (.int .u32) 1 106 false))], 4⟩] [⟨some 0, ⟨[(0, .a (.ptr 0 0 0)), (1, .a (.ptr 1 0 0)), (2, .a (.ptr 2 0 0)), (7, .a (.smz 3))], [(0, some (.raw [[.lf .bool, .snil 1 106]] 2 147 true false false)), (1, some (.raw [[.lf .bool, .lf cW]] 2 147 true false false)), (2, some (.raw [[.lf .bool, .lf cW]] 2 147 true false false)), (3, some (.arr (.int .u32) 1 106 false))], 4⟩⟩] (fun n x => qO k n x.1 x.2.1 x.2.2.1 x.2.2.2.1 x.2.2.2.2.1 x.2.2.2.2.2.1 x.2.2.2.2.2.2.1 x.2.2.2.2.2.2.2.1 x.2.2.2.2.2.2.2.2.1 x.2.2.2.2.2.2.2.2.2) k
theorem qxA (k : Nat) : LIo 155 Tryz.f155 3 k (qxz k) :=
 lpk [2] (qrG k) (lc (qst k) l0) (fun _ => rfl) (by kernel_rfl) fun n x => by kernel_rfl
theorem qzA : ∀ k, qh (call cf k) (Iq3 k) :=
 fnk 3 [0] Tryz.func155 (fun k => (qrG k)) (fun k => (lc (qst k) (lc (qxA k) l0))) ⟨rfl, rfl, ⟨rfl, Nat.le_of_ble_eq_true rfl⟩, rfl⟩ (fun _ => rfl) (by kernel_rfl) fun k x => by kernel_rfl

def qh3 (k : Nat) (n0 : Int) (n1 : Int) : Option (Bool) :=
 if ((n0 == (0 : Int)) = true) then
 (some (n1 == (0 : Int)))
 else
 if ((decide (n0 ≥ (-(999999999 : Int)))) = true) then
 if ((decide (n0 ≤ (999999999 : Int))) = true) then
 if (((Int.tmod n0 (10 : Int)) != (0 : Int)) = true) then
 if ((decide (n1 ≥ (-(18 : Int)))) = true) then
 (some (decide (n1 ≤ (9 : Int))))
 else
 (some false)
 else
 (some false)
 else
 (some false)
 else
 (some false)
def qW : Nat → Int → Int → Option (Bool)
 | 0, _, _ => none
 | k + 1, n0, n1 => qh3 k n0 n1
def qms : Nat → Inst := mkI 118 ⟨[.g [.lf (.int .i64), .lf (.int .i64)]], []⟩ [⟨[vB], []⟩] fun k x => qW k x.1 x.2
theorem qj2 : ∀ k, qh (call cf k) (qms k) :=
 fnk 0 [] Tryz.func118 (fun k => a0) (fun k => l0) ⟨rfl, rfl, ⟨rfl, Nat.le_of_ble_eq_true rfl⟩, rfl⟩ (fun _ => rfl) (by kernel_rfl) fun k x => by kernel_rfl

def qdO (k : Nat) (rec : List ByteArray → List ByteArray → Int → Int → List (ByteArray × Int) → Option (List ByteArray × List (ByteArray × Int))) (l : List ByteArray) (x : List ByteArray) (x1 : Int) (x2 : Int) (seens : List (ByteArray × Int)) : Option (List ByteArray × List (ByteArray × Int)) :=
 if ((decide (x2 < x1)) = true) then
 if ((0 : Int) ≤ x2) then
 Option.bind (x)[(Int.toNat x2)]? fun x3 =>
 rec l x x1 (IntKind.wrap .i64 (x2 + (1 : Int))) (qam .str (.int .i64) seens x3 (IntKind.wrap .i64 ((qgF .str (.int .i64) seens x3 (0 : Int)) + (1 : Int))))
 else
 none
 else
 (some (l, seens))
def qcT (k n : Nat) : List ByteArray → List ByteArray → Int → Int → List (ByteArray × Int) → Option (List ByteArray × List (ByteArray × Int)) := Nat.rec (fun _ _ _ _ _ => none) (fun _ r => qdO k r) n
def qhr (k : Nat) (l : List ByteArray) : Option (Bool) :=
 Option.bind (qcT k k l l (((List.length l) : Nat) : Int) (0 : Int) []) fun r2 =>
 (some ((((List.length r2.2) : Nat) : Int) != (((List.length r2.1) : Nat) : Int)))
def qbT : Nat → List ByteArray → Option (Bool)
 | 0, _ => none
 | k + 1, l => qhr k l
def quH : Nat → Inst := mkI 183 ⟨[vR], []⟩ [⟨[vB], []⟩] fun k x => qbT k x
def quI (k : Nat) : LInst := mkL 0 [⟨[(0, vR), (3, .a (.mp 0)), (7, vR), (8, vI), (9, vI)], [(0, some (.map .str (.int .i64) 261 false))], 1⟩] [⟨some 0, ⟨[(0, vR), (3, .a (.mp 0))], [(0, some (.map .str (.int .i64) 261 false))], 1⟩⟩] (fun n x => qcT k n x.1 x.2.1 x.2.2.1 x.2.2.2.1 x.2.2.2.2) k
theorem quJ (k : Nat) : LIo 183 Tryz.f183 0 k (quI k) :=
 lpk [] a0 l0 (fun _ => rfl) (by kernel_rfl) fun n x => by kernel_rfl
theorem qxB : ∀ k, qh (call cf k) (quH k) :=
 fnk 0 [0] Tryz.func183 (fun k => a0) (fun k => (lc (quJ k) l0)) ⟨rfl, rfl, ⟨rfl, Nat.le_of_ble_eq_true rfl⟩, rfl⟩ (fun _ => rfl) (by kernel_rfl) fun k x => by kernel_rfl

def qfS (k : Nat) (s : ByteArray) : Option (Empty) :=
 none
def qdq : Nat → ByteArray → Option (Empty)
 | 0, _ => none
 | k + 1, s => qfS k s
def qyW : Nat → Inst := mkI 237 ⟨[vS], []⟩ [] fun k x => qdq k x
theorem qxC : ∀ k, qh (call cf k) (qyW k) :=
 fnk 0 [0] Tryz.func237 (fun k => a0) (fun k => l0) ⟨rfl, rfl, ⟨rfl, Nat.le_of_ble_eq_true rfl⟩, rfl⟩ (fun _ => rfl) (by kernel_rfl) fun k x => by kernel_rfl

def qjl (k : Nat) (s : ByteArray) (n : Int) : Option (Empty) :=
 Option.bind (qdq k s) fun r3 =>
 nomatch r3
def qg3 : Nat → ByteArray → Int → Option (Empty)
 | 0, _, _ => none
 | k + 1, s, n => qjl k s n
def quK : Nat → Inst := mkI 228 ⟨[vS, vI], []⟩ [] fun k x => qg3 k x.1 x.2
theorem qxD : ∀ k, qh (call cf k) (quK k) :=
 fnk 0 [0] Tryz.func228 (fun k => (ac (qxC k) a0)) (fun k => l0) ⟨rfl, rfl, ⟨rfl, Nat.le_of_ble_eq_true rfl⟩, rfl⟩ (fun _ => rfl) (by kernel_rfl) fun k x => by kernel_rfl

def qgg (k : Nat) (s : ByteArray) (substr : ByteArray) : Option (Int) :=
 if ((List.length (Array.toList (ByteArray.data substr))) = 1) then
 (some (qrA s substr))
 else
 none
def qda : Nat → ByteArray → ByteArray → Option (Int)
 | 0, _, _ => none
 | k + 1, s, substr => qgg k s substr
def qj3 : FS := ⟨[vS, vS], []⟩
def qlt : List FS := [⟨[vI], []⟩]
def quL (k : Nat) : Inst := ⟨229, qj3, qlt, fun x => qda k x.1 x.2⟩
theorem qxE (k : Nat) (x : qj3.D) : qda (k + 1) x.1 x.2 = (qiT) (DS FS.D qlt) (qj3.enc x).1 (qj3.enc x).2 (qgf FS.dec qlt) := by kernel_rfl
theorem qxF : ∀ k, qh (call cf k) (quL k)
 | 0 => fun x y e => absurd (show (none : Option _) = some y from e) (by simp)
 | k + 1 => qjj (c := cf) (k := k) (f := 229) (g := qgV) (G := qiT) (sh := qj3) (os := qlt) rfl (qoH) (fun x => qda (k + 1) x.1 x.2) (qxE k)

def qgh (k : Nat) (s : ByteArray) (substr : ByteArray) : Option (Int) :=
 if ((List.length (Array.toList (ByteArray.data substr))) = 1) then
 (some (qrz s substr))
 else
 none
def qdb : Nat → ByteArray → ByteArray → Option (Int)
 | 0, _, _ => none
 | k + 1, s, substr => qgh k s substr
def qj4 : FS := ⟨[vS, vS], []⟩
def qlu : List FS := [⟨[vI], []⟩]
def quM (k : Nat) : Inst := ⟨230, qj4, qlu, fun x => qdb k x.1 x.2⟩
theorem qxG (k : Nat) (x : qj4.D) : qdb (k + 1) x.1 x.2 = (qiS) (DS FS.D qlu) (qj4.enc x).1 (qj4.enc x).2 (qgf FS.dec qlu) := by kernel_rfl
theorem qxH : ∀ k, qh (call cf k) (quM k)
 | 0 => fun x y e => absurd (show (none : Option _) = some y from e) (by simp)
 | k + 1 => qjj (c := cf) (k := k) (f := 230) (g := qgU) (G := qiS) (sh := qj4) (os := qlu) rfl (qoG) (fun x => qdb (k + 1) x.1 x.2) (qxG k)

def qcc (k : Nat) (rec : ByteArray → ByteArray → Int → Int → Nat → Int → List ByteArray → Option (ByteArray × Nat × Int × List ByteArray)) (s : ByteArray) (sep : ByteArray) (sepSave : Int) (n : Int) (a : Nat) (i : Int) (as1 : List ByteArray) : Option (ByteArray × Nat × Int × List ByteArray) :=
 if ((decide (i < n)) = true) then
 Option.bind (qdb k s sep) fun r4 =>
 if ((decide (r4 < (0 : Int))) = true) then
 (some (s, a, i, as1))
 else
 if (((0 : Int) ≤ (0 : Int)) ∧ (((0 : Int) ≤ (IntKind.wrap .i64 (r4 + sepSave))) ∧ ((IntKind.wrap .i64 (r4 + sepSave)) ≤ (((ByteArray.size s) : Nat) : Int)))) then
 if (((0 : Int) ≤ i) ∧ (i < ((a : Nat) : Int))) then
 Option.bind (as1)[(0 + (Int.toNat i))]? fun x4 =>
 if (((0 : Int) ≤ (IntKind.wrap .i64 (r4 + (((ByteArray.size sep) : Nat) : Int)))) ∧ (((IntKind.wrap .i64 (r4 + (((ByteArray.size sep) : Nat) : Int))) ≤ (((ByteArray.size s) : Nat) : Int)) ∧ ((((ByteArray.size s) : Nat) : Int) ≤ (((ByteArray.size s) : Nat) : Int)))) then
 rec (ByteArray.extract s (Int.toNat (IntKind.wrap .i64 (r4 + (((ByteArray.size sep) : Nat) : Int)))) (Int.toNat (((ByteArray.size s) : Nat) : Int))) sep sepSave n a (IntKind.wrap .i64 (i + (1 : Int))) (List.set as1 (0 + (Int.toNat i)) (ByteArray.extract s 0 (Int.toNat (IntKind.wrap .i64 (r4 + sepSave)))))
 else
 none
 else
 none
 else
 none
 else
 (some (s, a, i, as1))
def qaA (k n : Nat) : ByteArray → ByteArray → Int → Int → Nat → Int → List ByteArray → Option (ByteArray × Nat × Int × List ByteArray) := Nat.rec (fun _ _ _ _ _ _ _ => none) (fun _ r => qcc k r) n
def qe2 (k : Nat) (s : ByteArray) (sep : ByteArray) (sepSave : Int) (n : Int) : Option (List ByteArray) :=
 if ((n == (0 : Int)) = true) then
 (some [])
 else
 if (((Array.toList (ByteArray.data sep)) == (Array.toList (ByteArray.data (ByteArray.mk (List.toArray []))))) = true) then
 Option.bind (qg3 k s n) fun r3 =>
 nomatch r3
 else
 if ((decide (n < (0 : Int))) = true) then
 Option.bind (qda k s sep) fun r3 =>
 if (((0 : Int) ≤ (min (IntKind.wrap .i64 (r3 + (1 : Int))) (IntKind.wrap .i64 ((((ByteArray.size s) : Nat) : Int) + (1 : Int))))) ∧ (((min (IntKind.wrap .i64 (r3 + (1 : Int))) (IntKind.wrap .i64 ((((ByteArray.size s) : Nat) : Int) + (1 : Int)))) ≤ (min (IntKind.wrap .i64 (r3 + (1 : Int))) (IntKind.wrap .i64 ((((ByteArray.size s) : Nat) : Int) + (1 : Int))))) ∧ (((min (IntKind.wrap .i64 (r3 + (1 : Int))) (IntKind.wrap .i64 ((((ByteArray.size s) : Nat) : Int) + (1 : Int)))) * (16 : Int)) ≤ (140737488355328 : Int)))) then
 Option.bind (qaA k k s sep sepSave (IntKind.wrap .i64 ((min (IntKind.wrap .i64 (r3 + (1 : Int))) (IntKind.wrap .i64 ((((ByteArray.size s) : Nat) : Int) + (1 : Int)))) - (1 : Int))) (Int.toNat (min (IntKind.wrap .i64 (r3 + (1 : Int))) (IntKind.wrap .i64 ((((ByteArray.size s) : Nat) : Int) + (1 : Int))))) (0 : Int) (List.replicate (Int.toNat (min (IntKind.wrap .i64 (r3 + (1 : Int))) (IntKind.wrap .i64 ((((ByteArray.size s) : Nat) : Int) + (1 : Int))))) (ByteArray.mk (List.toArray [])))) fun r4 =>
 if (((0 : Int) ≤ r4.2.2.1) ∧ (r4.2.2.1 < ((r4.2.1 : Nat) : Int))) then
 Option.bind (r4.2.2.2)[(0 + (Int.toNat r4.2.2.1))]? fun x4 =>
 if (((0 : Int) ≤ (0 : Int)) ∧ (((0 : Int) ≤ (IntKind.wrap .i64 (r4.2.2.1 + (1 : Int)))) ∧ (((0 + (Int.toNat (IntKind.wrap .i64 (r4.2.2.1 + (1 : Int))))) ≤ (List.length (List.set r4.2.2.2 (0 + (Int.toNat r4.2.2.1)) r4.1))) ∧ (((0 : Int) < (IntKind.wrap .i64 (r4.2.2.1 + (1 : Int)))) ∨ (true = true))))) then
 if ((0 + (Int.toNat (IntKind.wrap .i64 (r4.2.2.1 + (1 : Int))))) ≤ (List.length (List.set r4.2.2.2 (0 + (Int.toNat r4.2.2.1)) r4.1))) then
 (some (List.take (Int.toNat (IntKind.wrap .i64 (r4.2.2.1 + (1 : Int)))) (List.set r4.2.2.2 (0 + (Int.toNat r4.2.2.1)) r4.1)))
 else
 none
 else
 none
 else
 none
 else
 none
 else
 if (((0 : Int) ≤ (min n (IntKind.wrap .i64 ((((ByteArray.size s) : Nat) : Int) + (1 : Int))))) ∧ (((min n (IntKind.wrap .i64 ((((ByteArray.size s) : Nat) : Int) + (1 : Int)))) ≤ (min n (IntKind.wrap .i64 ((((ByteArray.size s) : Nat) : Int) + (1 : Int))))) ∧ (((min n (IntKind.wrap .i64 ((((ByteArray.size s) : Nat) : Int) + (1 : Int)))) * (16 : Int)) ≤ (140737488355328 : Int)))) then
 Option.bind (qaA k k s sep sepSave (IntKind.wrap .i64 ((min n (IntKind.wrap .i64 ((((ByteArray.size s) : Nat) : Int) + (1 : Int)))) - (1 : Int))) (Int.toNat (min n (IntKind.wrap .i64 ((((ByteArray.size s) : Nat) : Int) + (1 : Int))))) (0 : Int) (List.replicate (Int.toNat (min n (IntKind.wrap .i64 ((((ByteArray.size s) : Nat) : Int) + (1 : Int))))) (ByteArray.mk (List.toArray [])))) fun r3 =>
 if (((0 : Int) ≤ r3.2.2.1) ∧ (r3.2.2.1 < ((r3.2.1 : Nat) : Int))) then
 Option.bind (r3.2.2.2)[(0 + (Int.toNat r3.2.2.1))]? fun x4 =>
 if (((0 : Int) ≤ (0 : Int)) ∧ (((0 : Int) ≤ (IntKind.wrap .i64 (r3.2.2.1 + (1 : Int)))) ∧ (((0 + (Int.toNat (IntKind.wrap .i64 (r3.2.2.1 + (1 : Int))))) ≤ (List.length (List.set r3.2.2.2 (0 + (Int.toNat r3.2.2.1)) r3.1))) ∧ (((0 : Int) < (IntKind.wrap .i64 (r3.2.2.1 + (1 : Int)))) ∨ (true = true))))) then
 if ((0 + (Int.toNat (IntKind.wrap .i64 (r3.2.2.1 + (1 : Int))))) ≤ (List.length (List.set r3.2.2.2 (0 + (Int.toNat r3.2.2.1)) r3.1))) then
 (some (List.take (Int.toNat (IntKind.wrap .i64 (r3.2.2.1 + (1 : Int)))) (List.set r3.2.2.2 (0 + (Int.toNat r3.2.2.1)) r3.1)))
 else
 none
 else
 none
 else
 none
 else
 none
def qe3 : Nat → ByteArray → ByteArray → Int → Int → Option (List ByteArray)
 | 0, _, _, _, _ => none
 | k + 1, s, sep, sepSave, n => qe2 k s sep sepSave n
def qyX : Nat → Inst := mkI 193 ⟨[vS, vS, vI, vI], []⟩ [⟨[vR], []⟩] fun k x => qe3 k x.1 x.2.1 x.2.2.1 x.2.2.2
theorem qsu (k : Nat) : qa5 (call cf k) [quK k, quL k, quM k] :=
 ac (qxD k) (ac (qxF k) (ac (qxH k) a0))
def quN (k : Nat) : LInst := mkL 0 [⟨[(0, vS), (1, vS), (2, vI), (3, vI), (9, .a (.smz 0)), (10, vI)], [(0, some (.arr .str 1 9 false))], 1⟩] [⟨some 0, ⟨[(0, vS), (9, .a (.smz 0)), (10, vI)], [(0, some (.arr .str 1 9 false))], 1⟩⟩] (fun n x => qaA k n x.1 x.2.1 x.2.2.1 x.2.2.2.1 x.2.2.2.2.1 x.2.2.2.2.2.1 x.2.2.2.2.2.2) k
theorem quO (k : Nat) : LIo 193 Tryz.f193 0 k (quN k) :=
 lpk [] (qsu k) l0 (fun _ => rfl) (by kernel_rfl) fun n x => by kernel_rfl
theorem qxI : ∀ k, qh (call cf k) (qyX k) :=
 fnk 0 [0] Tryz.func193 (fun k => (qsu k)) (fun k => (lc (quO k) l0)) ⟨rfl, rfl, ⟨rfl, Nat.le_of_ble_eq_true rfl⟩, rfl⟩ (fun _ => rfl) (by kernel_rfl) fun k x => by kernel_rfl

def qgi (k : Nat) (s : ByteArray) (sep : ByteArray) : Option (List ByteArray) :=
 Option.bind (qe3 k s sep (0 : Int) (-(1 : Int))) fun r3 =>
 (some r3)
def qeU : Nat → ByteArray → ByteArray → Option (List ByteArray)
 | 0, _, _ => none
 | k + 1, s, sep => qgi k s sep
def qyY : Nat → Inst := mkI 133 ⟨[vS, vS], []⟩ [⟨[vR], []⟩] fun k x => qeU k x.1 x.2
theorem qxJ : ∀ k, qh (call cf k) (qyY k) :=
 fnk 0 [] Tryz.func133 (fun k => (ac (qxI k) a0)) (fun k => l0) ⟨rfl, rfl, ⟨rfl, Nat.le_of_ble_eq_true rfl⟩, rfl⟩ (fun _ => rfl) (by kernel_rfl) fun k x => by kernel_rfl

def qcr (k : Nat) (rec : List Int → Int → Int → Option ((Bool) ⊕ (Unit))) (x : List Int) (x1 : Int) (x2 : Int) : Option ((Bool) ⊕ (Unit)) :=
 if ((decide (x2 < x1)) = true) then
 if ((0 : Int) ≤ x2) then
 Option.bind (x)[(Int.toNat x2)]? fun x5 =>
 if ((decide (x5 ≥ (97 : Int))) = true) then
 if ((decide (x5 ≤ (122 : Int))) = false) then
 if ((decide (x5 ≥ (48 : Int))) = true) then
 if ((decide (x5 ≤ (57 : Int))) = false) then
 if ((!(x5 == (95 : Int))) = true) then
 (some (Sum.inl false))
 else
 rec x x1 (IntKind.wrap .i64 (x2 + (1 : Int)))
 else
 rec x x1 (IntKind.wrap .i64 (x2 + (1 : Int)))
 else
 if ((!(x5 == (95 : Int))) = true) then
 (some (Sum.inl false))
 else
 rec x x1 (IntKind.wrap .i64 (x2 + (1 : Int)))
 else
 rec x x1 (IntKind.wrap .i64 (x2 + (1 : Int)))
 else
 if ((decide (x5 ≥ (48 : Int))) = true) then
 if ((decide (x5 ≤ (57 : Int))) = false) then
 if ((!(x5 == (95 : Int))) = true) then
 (some (Sum.inl false))
 else
 rec x x1 (IntKind.wrap .i64 (x2 + (1 : Int)))
 else
 rec x x1 (IntKind.wrap .i64 (x2 + (1 : Int)))
 else
 if ((!(x5 == (95 : Int))) = true) then
 (some (Sum.inl false))
 else
 rec x x1 (IntKind.wrap .i64 (x2 + (1 : Int)))
 else
 none
 else
 (some (Sum.inr ()))
def qbz (k n : Nat) : List Int → Int → Int → Option ((Bool) ⊕ (Unit)) := Nat.rec (fun _ _ _ => none) (fun _ r => qcr k r) n
def qhs (k : Nat) (s : ByteArray) : Option (Bool) :=
 if ((decide ((((ByteArray.size s) : Nat) : Int) < (1 : Int))) = false) then
 if ((decide ((((ByteArray.size s) : Nat) : Int) > (16 : Int))) = true) then
 (some false)
 else
 Option.bind (qbz k k (List.map (fun b : UInt8 => ((UInt8.toNat b : Nat) : Int)) (Array.toList (ByteArray.data s))) (((List.length (List.map (fun b : UInt8 => ((UInt8.toNat b : Nat) : Int)) (Array.toList (ByteArray.data s)))) : Nat) : Int) (0 : Int)) fun r4 =>
 qc r4
 (fun r4 =>
 (some r4))
 (fun r4 =>
 (some true))
 else
 (some false)
def qfj : Nat → ByteArray → Option (Bool)
 | 0, _ => none
 | k + 1, s => qhs k s
def quP : Nat → Inst := mkI 226 ⟨[vS], []⟩ [⟨[vB], []⟩] fun k x => qfj k x
def quQ (k : Nat) : LInst := mkL 0 [⟨[(14, .a (.lf (.sl (.int .u8)))), (15, vI), (16, vI)], [], 0⟩] [⟨none, ⟨[(2, vB)], [], 0⟩⟩, ⟨some 0, ⟨[], [], 0⟩⟩] (fun n x => qbz k n x.1 x.2.1 x.2.2) k
theorem quR (k : Nat) : LIo 226 Tryz.f226 0 k (quQ k) :=
 lpk [] a0 l0 (fun _ => rfl) (by kernel_rfl) fun n x => by kernel_rfl
theorem qsv : ∀ k, qh (call cf k) (quP k) :=
 fnk 0 [0] Tryz.func226 (fun k => a0) (fun k => (lc (quR k) l0)) ⟨rfl, rfl, ⟨rfl, Nat.le_of_ble_eq_true rfl⟩, rfl⟩ (fun _ => rfl) (by kernel_rfl) fun k x => by kernel_rfl

def qh4 (k : Nat) (s : ByteArray) : Option (Bool) :=
 Option.bind (qfj k s) fun r4 =>
 (some r4)
def qgP : Nat → ByteArray → Option (Bool)
 | 0, _ => none
 | k + 1, s => qh4 k s
def qyZ : Nat → Inst := mkI 196 ⟨[vS], []⟩ [⟨[vB], []⟩] fun k x => qgP k x
theorem qxK : ∀ k, qh (call cf k) (qyZ k) :=
 fnk 0 [] Tryz.func196 (fun k => (ac (qsv k) a0)) (fun k => l0) ⟨rfl, rfl, ⟨rfl, Nat.le_of_ble_eq_true rfl⟩, rfl⟩ (fun _ => rfl) (by kernel_rfl) fun k x => by kernel_rfl

def qg4 (k : Nat) (p : ByteArray) : Option (Bool) :=
 Option.bind (qgP k p) fun r4 =>
 (some (!r4))
def qf3 : Nat → ByteArray → Option (Bool)
 | 0, _ => none
 | k + 1, p => qg4 k p
def quS : Nat → Inst := mkI 221 ⟨[vS], []⟩ [⟨[vB], []⟩] fun k x => qf3 k x
theorem qxL : ∀ k, qh (call cf k) (quS k) :=
 fnk 0 [] Tryz.func221 (fun k => (ac (qxK k) a0)) (fun k => l0) ⟨rfl, rfl, ⟨rfl, Nat.le_of_ble_eq_true rfl⟩, rfl⟩ (fun _ => rfl) (by kernel_rfl) fun k x => by kernel_rfl

def qeb (k : Nat) (rec : List ByteArray → Int → Int → Option ((Int) ⊕ (Unit))) (s : List ByteArray) (x : Int) (x1 : Int) : Option ((Int) ⊕ (Unit)) :=
 if ((decide (x1 < x)) = true) then
 if ((0 : Int) ≤ x1) then
 Option.bind (s)[(Int.toNat x1)]? fun x4 =>
 Option.bind (qf3 k x4) fun r4 =>
 if (r4 = true) then
 (some (Sum.inl x1))
 else
 rec s x (IntKind.wrap .i64 (x1 + (1 : Int)))
 else
 none
 else
 (some (Sum.inr ()))
def qbe (k n : Nat) : List ByteArray → Int → Int → Option ((Int) ⊕ (Unit)) := Nat.rec (fun _ _ _ => none) (fun _ r => qeb k r) n
def qbu (k : Nat) (s : List ByteArray) : Option (Int) :=
 Option.bind (qbe k k s (((List.length s) : Nat) : Int) (0 : Int)) fun r4 =>
 qc r4
 (fun r4 =>
 (some r4))
 (fun r4 =>
 (some (-(1 : Int))))
def qar : Nat → List ByteArray → Option (Int)
 | 0, _ => none
 | k + 1, s => qbu k s
def qy0 : Nat → Inst := mkI 194 ⟨[vR, .a (.fn 221 [])], []⟩ [⟨[vI], []⟩] fun k x => qar k x
theorem qsw (k : Nat) : qa5 (call cf k) [quS k] :=
 ac (qxL k) a0
def quT (k : Nat) : LInst := mkL 0 [⟨[(0, vR), (1, .a (.fn 221 [])), (7, vI), (8, vI)], [], 0⟩] [⟨none, ⟨[(4, vI)], [], 0⟩⟩, ⟨some 0, ⟨[], [], 0⟩⟩] (fun n x => qbe k n x.1 x.2.1 x.2.2) k
theorem quU (k : Nat) : LIo 194 Tryz.f194 0 k (quT k) :=
 lpk [] (qsw k) l0 (fun _ => rfl) (by kernel_rfl) fun n x => by kernel_rfl
theorem qxM : ∀ k, qh (call cf k) (qy0 k) :=
 fnk 0 [0] Tryz.func194 (fun k => (qsw k)) (fun k => (lc (quU k) l0)) ⟨rfl, rfl, ⟨rfl, Nat.le_of_ble_eq_true rfl⟩, rfl⟩ (fun _ => rfl) (by kernel_rfl) fun k x => by kernel_rfl

def qa6 (k : Nat) (s : List ByteArray) : Option (Bool) :=
 Option.bind (qar k s) fun r4 =>
 (some (decide (r4 ≥ (0 : Int))))
def qa7 : Nat → List ByteArray → Option (Bool)
 | 0, _ => none
 | k + 1, s => qa6 k s
def qy1 : Nat → Inst := mkI 134 ⟨[vR, .a (.fn 221 [])], []⟩ [⟨[vB], []⟩] fun k x => qa7 k x
theorem qxN : ∀ k, qh (call cf k) (qy1 k) :=
 fnk 0 [] Tryz.func134 (fun k => (ac (qxM k) a0)) (fun k => l0) ⟨rfl, rfl, ⟨rfl, Nat.le_of_ble_eq_true rfl⟩, rfl⟩ (fun _ => rfl) (by kernel_rfl) fun k x => by kernel_rfl

def qh5 (k : Nat) (s : ByteArray) : Option (Bool) :=
 Option.bind (qeU k s (ByteArray.mk (List.toArray (46 :: [])))) fun r3 =>
 if ((decide ((((List.length r3) : Nat) : Int) ≤ (9 : Int))) = true) then
 Option.bind (qa7 k r3) fun r4 =>
 (some (!r4))
 else
 (some false)
def qeV : Nat → ByteArray → Option (Bool)
 | 0, _ => none
 | k + 1, s => qh5 k s
def qrH : Nat → Inst := mkI 184 ⟨[vS], []⟩ [⟨[vB], []⟩] fun k x => qeV k x
theorem qsx : ∀ k, qh (call cf k) (qrH k) :=
 fnk 0 [] Tryz.func184 (fun k => (ac (qxJ k) (ac (qxN k) a0))) (fun k => l0) ⟨rfl, rfl, ⟨rfl, Nat.le_of_ble_eq_true rfl⟩, rfl⟩ (fun _ => rfl) (by kernel_rfl) fun k x => by kernel_rfl

def qcs (k : Nat) (rec : List (Int × Int) → Int → Int → Int → List (Int × Int) → List Int → Option ((Bool × Int × List (Int × Int) × List Int × Int × Int) ⊕ (Int × List (Int × Int) × List Int))) (x : List (Int × Int)) (x1 : Int) (x2 : Int) (w0 : Int) (w1 : List (Int × Int)) (w2 : List Int) : Option ((Bool × Int × List (Int × Int) × List Int × Int × Int) ⊕ (Int × List (Int × Int) × List Int)) :=
 if ((decide (x2 < x1)) = true) then
 if ((0 : Int) ≤ x2) then
 Option.bind (x)[(Int.toNat x2)]? fun x4 =>
 Option.bind (qW k x4.1 x4.2) fun r6 =>
 if ((!r6) = true) then
 (some (Sum.inl (false, w0, w1, w2, x4.1, x4.2)))
 else
 rec x x1 (IntKind.wrap .i64 (x2 + (1 : Int))) w0 w1 w2
 else
 none
 else
 (some (Sum.inr (w0, w1, w2)))
def qbA (k n : Nat) : List (Int × Int) → Int → Int → Int → List (Int × Int) → List Int → Option ((Bool × Int × List (Int × Int) × List Int × Int × Int) ⊕ (Int × List (Int × Int) × List Int)) := Nat.rec (fun _ _ _ _ _ _ => none) (fun _ r => qcs k r) n
def qct (k : Nat) (rec : List Int → Int → Int → Int → List (Int × Int) → List Int → Option ((Bool × Int × List (Int × Int) × List Int) ⊕ (Int × List (Int × Int) × List Int))) (x : List Int) (x1 : Int) (x2 : Int) (w0 : Int) (w1 : List (Int × Int)) (w2 : List Int) : Option ((Bool × Int × List (Int × Int) × List Int) ⊕ (Int × List (Int × Int) × List Int)) :=
 if ((decide (x2 < x1)) = true) then
 if ((0 : Int) ≤ x2) then
 Option.bind (x)[(Int.toNat x2)]? fun x4 =>
 if ((decide (x4 < (0 : Int))) = false) then
 if ((decide (x4 > (1000000000 : Int))) = true) then
 (some (Sum.inl (false, w0, w1, w2)))
 else
 rec x x1 (IntKind.wrap .i64 (x2 + (1 : Int))) w0 w1 w2
 else
 (some (Sum.inl (false, w0, w1, w2)))
 else
 none
 else
 (some (Sum.inr (w0, w1, w2)))
def qa8 (k n : Nat) : List Int → Int → Int → Int → List (Int × Int) → List Int → Option ((Bool × Int × List (Int × Int) × List Int) ⊕ (Int × List (Int × Int) × List Int)) := Nat.rec (fun _ _ _ _ _ _ => none) (fun _ r => qct k r) n
def qbE (k : Nat) (rec : Int → Int → List (Int × Int) → List Int → Option ((Bool × Int × List (Int × Int) × List Int) ⊕ (Int × List (Int × Int) × List Int))) (i : Int) (w0 : Int) (w1 : List (Int × Int)) (w2 : List Int) : Option ((Bool × Int × List (Int × Int) × List Int) ⊕ (Int × List (Int × Int) × List Int)) :=
 if ((decide (i < (((List.length w2) : Nat) : Int))) = true) then
 if ((0 : Int) ≤ i) then
 Option.bind (w2)[(Int.toNat i)]? fun x4 =>
 if ((0 : Int) ≤ (IntKind.wrap .i64 (i - (1 : Int)))) then
 Option.bind (w2)[(Int.toNat (IntKind.wrap .i64 (i - (1 : Int))))]? fun x5 =>
 if ((decide (x4 ≤ x5)) = true) then
 (some (Sum.inl (false, w0, w1, w2)))
 else
 rec (IntKind.wrap .i64 (i + (1 : Int))) w0 w1 w2
 else
 none
 else
 none
 else
 (some (Sum.inr (w0, w1, w2)))
def qaF (k n : Nat) : Int → Int → List (Int × Int) → List Int → Option ((Bool × Int × List (Int × Int) × List Int) ⊕ (Int × List (Int × Int) × List Int)) := Nat.rec (fun _ _ _ _ => none) (fun _ r => qbE k r) n
def qht (k : Nat) (w0 : Int) (w1 : List (Int × Int)) (w2 : List Int) : Option (Bool) :=
 Option.bind (qbA k k w1 (((List.length w1) : Nat) : Int) (0 : Int) w0 w1 w2) fun r6 =>
 qc r6
 (fun r6 =>
 (some r6.1))
 (fun r6 =>
 Option.bind (qa8 k k r6.2.2 (((List.length r6.2.2) : Nat) : Int) (0 : Int) r6.1 r6.2.1 r6.2.2) fun r7 =>
 qc r7
 (fun r7 =>
 (some r7.1))
 (fun r7 =>
 if ((r7.1 == (1 : Int)) = true) then
 if (((((List.length r7.2.1) : Nat) : Int) == (1 : Int)) = true) then
 (some ((((List.length r7.2.2) : Nat) : Int) == (0 : Int)))
 else
 (some false)
 else
 if ((r7.1 == (2 : Int)) = true) then
 if (((((List.length r7.2.1) : Nat) : Int) == (2 : Int)) = true) then
 if (((((List.length r7.2.2) : Nat) : Int) == (5 : Int)) = true) then
 Option.bind (r7.2.2)[4]? fun x4 =>
 if ((decide (x4 ≥ (1 : Int))) = true) then
 Option.bind (r7.2.2)[1]? fun x5 =>
 Option.bind (r7.2.2)[2]? fun x6 =>
 Option.bind (r7.2.2)[3]? fun x7 =>
 Option.bind (r7.2.2)[4]? fun x8 =>
 (some (decide ((IntKind.wrap .i64 ((IntKind.wrap .i64 (x5 + x6)) + x7)) ≤ x8)))
 else
 (some false)
 else
 (some false)
 else
 (some false)
 else
 if ((r7.1 == (3 : Int)) = true) then
 Option.bind (qaF k k (1 : Int) r7.1 r7.2.1 r7.2.2) fun r8 =>
 qc r8
 (fun r8 =>
 (some r8.1))
 (fun r8 =>
 if (((((List.length r8.2.1) : Nat) : Int) == (((List.length r8.2.2) : Nat) : Int)) = true) then
 if ((decide ((((List.length r8.2.1) : Nat) : Int) ≥ (1 : Int))) = true) then
 (some (decide ((((List.length r8.2.1) : Nat) : Int) ≤ (16 : Int))))
 else
 (some false)
 else
 (some false))
 else
 if ((r7.1 == (4 : Int)) = true) then
 if ((decide ((((List.length r7.2.1) : Nat) : Int) ≥ (1 : Int))) = true) then
 if ((decide ((((List.length r7.2.1) : Nat) : Int) ≤ (16 : Int))) = true) then
 (some ((((List.length r7.2.2) : Nat) : Int) == (0 : Int)))
 else
 (some false)
 else
 (some false)
 else
 (some false)))
def qeh : Nat → Int → List (Int × Int) → List Int → Option (Bool)
 | 0, _, _, _ => none
 | k + 1, w0, w1, w2 => qht k w0 w1 w2
def quV : Nat → Inst := mkI 222 ⟨[.g [.lf (.int .i64), .lf cE, .lf (.sl (.int .i64))]], []⟩ [⟨[vB], []⟩] fun k x => qeh k x.1 x.2.1 x.2.2
theorem qlv (k : Nat) : qa5 (call cf k) [qms k] :=
 ac (qj2 k) a0
def quW (k : Nat) : LInst := mkL 0 [⟨[(1, .a (.ptr 0 0 0)), (9, .a (.lf cE)), (10, vI), (11, vI)], [(0, some (.raw [[.lf (.int .i64), .lf cE, .lf (.sl (.int .i64))]] 3 44 true false false))], 1⟩] [⟨none, ⟨[(2, vB)], [(0, some (.raw [[.lf (.int .i64), .lf cE, .lf (.sl (.int .i64))]] 3 44 true false false)), (1, some (.raw [[.lf (.int .i64), .lf (.int .i64)]] 2 25 true false false))], 2⟩⟩, ⟨some 0, ⟨[(1, .a (.ptr 0 0 0))], [(0, some (.raw [[.lf (.int .i64), .lf cE, .lf (.sl (.int .i64))]] 3 44 true false false))], 1⟩⟩] (fun n x => qbA k n x.1 x.2.1 x.2.2.1 x.2.2.2.1 x.2.2.2.2.1 x.2.2.2.2.2) k
theorem qmt (k : Nat) : LIo 222 Tryz.f222 0 k (quW k) :=
 lpk [] (qlv k) l0 (fun _ => rfl) (by kernel_rfl) fun n x => by kernel_rfl
def quX (k : Nat) : LInst := mkL 2 [⟨[(1, .a (.ptr 0 0 0)), (20, vJ), (21, vI), (22, vI)], [(0, some (.raw [[.lf (.int .i64), .lf cE, .lf (.sl (.int .i64))]] 3 44 true false false))], 1⟩] [⟨none, ⟨[(2, vB)], [(0, some (.raw [[.lf (.int .i64), .lf cE, .lf (.sl (.int .i64))]] 3 44 true false false))], 1⟩⟩, ⟨some 2, ⟨[(1, .a (.ptr 0 0 0))], [(0, some (.raw [[.lf (.int .i64), .lf cE, .lf (.sl (.int .i64))]] 3 44 true false false))], 1⟩⟩] (fun n x => qa8 k n x.1 x.2.1 x.2.2.1 x.2.2.2.1 x.2.2.2.2.1 x.2.2.2.2.2) k
theorem qp2 (k : Nat) : LIo 222 Tryz.f222 0 k (quX k) :=
 lpk [] (qlv k) (lc (qmt k) l0) (fun _ => rfl) (by kernel_rfl) fun n x => by kernel_rfl
def quY (k : Nat) : LInst := mkL 5 [⟨[(1, .a (.ptr 0 0 0)), (7, vI)], [(0, some (.raw [[.lf (.int .i64), .lf cE, .lf (.sl (.int .i64))]] 3 44 true false false))], 1⟩] [⟨none, ⟨[(2, vB)], [(0, some (.raw [[.lf (.int .i64), .lf cE, .lf (.sl (.int .i64))]] 3 44 true false false))], 1⟩⟩, ⟨some 5, ⟨[(1, .a (.ptr 0 0 0))], [(0, some (.raw [[.lf (.int .i64), .lf cE, .lf (.sl (.int .i64))]] 3 44 true false false))], 1⟩⟩] (fun n x => qaF k n x.1 x.2.1 x.2.2.1 x.2.2.2) k
theorem quZ (k : Nat) : LIo 222 Tryz.f222 0 k (quY k) :=
 lpk [] (qlv k) (lc (qmt k) (lc (qp2 k) l0)) (fun _ => rfl) (by kernel_rfl) fun n x => by kernel_rfl
theorem qxO : ∀ k, qh (call cf k) (quV k) :=
 fnk 0 [0, 2, 5] Tryz.func222 (fun k => (qlv k)) (fun k => (lc (qmt k) (lc (qp2 k) (lc (quZ k) l0)))) ⟨rfl, rfl, ⟨rfl, Nat.le_of_ble_eq_true rfl⟩, rfl⟩ (fun _ => rfl) (by kernel_rfl) fun k x => by kernel_rfl

def qgG (k : Nat) (m0 : ByteArray) (m1 : Int) (m2 : List (Int × Int)) (m3 : List (Int × Int)) : Option (Bool) :=
 if (((Array.toList (ByteArray.data m0)) == (Array.toList (ByteArray.data (ByteArray.mk (List.toArray []))))) = true) then
 if ((m1 == (0 : Int)) = true) then
 (some ((IntKind.wrap .i64 ((((List.length m2) : Nat) : Int) + (((List.length m3) : Nat) : Int))) == (0 : Int)))
 else
 (some false)
 else
 (some false)
def qD : Nat → ByteArray → Int → List (Int × Int) → List (Int × Int) → Option (Bool)
 | 0, _, _, _, _ => none
 | k + 1, m0, m1, m2, m3 => qgG k m0 m1 m2 m3
def qu0 : Nat → Inst := mkI 223 ⟨[.g [.lf .str, .lf (.int .u8), .lf cE, .lf cE]], []⟩ [⟨[vB], []⟩] fun k x => qD k x.1 x.2.1 x.2.2.1 x.2.2.2
theorem qxP : ∀ k, qh (call cf k) (qu0 k) :=
 fnk 0 [] Tryz.func223 (fun k => a0) (fun k => l0) ⟨rfl, rfl, ⟨rfl, Nat.le_of_ble_eq_true rfl⟩, rfl⟩ (fun _ => rfl) (by kernel_rfl) fun k x => by kernel_rfl

def qg5 (k : Nat) (w0 : Int) (w1 : List (Int × Int)) (w2 : List Int) : Option (Bool) :=
 if ((w0 == (0 : Int)) = true) then
 (some ((IntKind.wrap .i64 ((((List.length w1) : Nat) : Int) + (((List.length w2) : Nat) : Int))) == (0 : Int)))
 else
 (some false)
def qH : Nat → Int → List (Int × Int) → List Int → Option (Bool)
 | 0, _, _, _ => none
 | k + 1, w0, w1, w2 => qg5 k w0 w1 w2
def qu1 : Nat → Inst := mkI 224 ⟨[.g [.lf (.int .i64), .lf cE, .lf (.sl (.int .i64))]], []⟩ [⟨[vB], []⟩] fun k x => qH k x.1 x.2.1 x.2.2
theorem qxQ : ∀ k, qh (call cf k) (qu1 k) :=
 fnk 0 [] Tryz.func224 (fun k => a0) (fun k => l0) ⟨rfl, rfl, ⟨rfl, Nat.le_of_ble_eq_true rfl⟩, rfl⟩ (fun _ => rfl) (by kernel_rfl) fun k x => by kernel_rfl

def qfk (k : Nat) (v : Int) : Option (Bool × List Int) :=
 if ((decide (v < (0 : Int))) = true) then
 Option.bind (qdv k (List.take 2 ((IntKind.wrap .u32 (IntKind.wrap .u64 ((0 : Int) - (IntKind.wrap .u64 v)))) :: ((IntKind.wrap .u32 (Int.fdiv (IntKind.wrap .u64 ((0 : Int) - (IntKind.wrap .u64 v))) (4294967296 : Int))) :: [])))) fun r11 =>
 (some ((decide (v < (0 : Int))), r11))
 else
 Option.bind (qdv k (List.take 2 ((IntKind.wrap .u32 (IntKind.wrap .u64 v)) :: ((IntKind.wrap .u32 (Int.fdiv (IntKind.wrap .u64 v) (4294967296 : Int))) :: [])))) fun r11 =>
 (some ((decide (v < (0 : Int))), r11))
def qca : Nat → Int → Option (Bool × List Int)
 | 0, _ => none
 | k + 1, v => qfk k v
def qu2 : Nat → Inst := mkI 87 ⟨[vI], []⟩ [⟨[.a (.ptr 0 0 0)], [.raw [[.lf .bool, .lf cW]] 2 147 true false false]⟩] fun k x => qca k x
theorem qoJ : ∀ k, qh (call cf k) (qu2 k) :=
 fnk 0 [] Tryz.func87 (fun k => (ac (qj1 k) a0)) (fun k => l0) ⟨rfl, rfl, ⟨rfl, Nat.le_of_ble_eq_true rfl⟩, rfl⟩ (fun _ => rfl) (by kernel_rfl) fun k x => by kernel_rfl

def qfv (k : Nat) (neg : Bool) (w : List Int) (z0 : Bool) (z1 : List Int) : Option (Bool × List Int) :=
 Option.bind (qdv k w) fun r14 =>
 if (neg = true) then
 (some ((decide ((((List.length r14) : Nat) : Int) > (0 : Int))), r14))
 else
 (some (false, r14))
def qdY : Nat → Bool → List Int → Bool → List Int → Option (Bool × List Int)
 | 0, _, _, _, _ => none
 | k + 1, neg, w, z0, z1 => qfv k neg w z0 z1
def Iq9 : Nat → Inst := mkI 198 ⟨[.a (.ptr 0 0 0), vB, vT], [.raw [[.lf .bool, .lf cW]] 2 147 true false false]⟩ [⟨[.a (.ptr 0 0 0)], [.raw [[.lf .bool, .lf cW]] 2 147 true false false]⟩] fun k x => qdY k x.1 x.2.1 x.2.2.1 x.2.2.2
theorem qy2 : ∀ k, qh (call cf k) (Iq9 k) :=
 fnk 1 [] Tryz.func198 (fun k => (ac (qj1 k) a0)) (fun k => l0) ⟨rfl, rfl, ⟨rfl, Nat.le_of_ble_eq_true rfl⟩, rfl⟩ (fun _ => rfl) (by kernel_rfl) fun k x => by kernel_rfl

def qep (k : Nat) (rec : Nat → Int → Int → Int → List Int → Int → Int → List Int → Int → Int → Bool → List Int → Bool → List Int → List Int → Option (Nat × Int × Int × List Int × Int × Int × Bool × List Int × Bool × List Int × List Int)) (out1 : Nat) (i : Int) (a : Int) (carry : Int) (x : List Int) (x1 : Int) (x2 : Int) (x3 : List Int) (x4 : Int) (x5 : Int) (x0 : Bool) (x11 : List Int) (y0 : Bool) (y1 : List Int) (outs : List Int) : Option (Nat × Int × Int × List Int × Int × Int × Bool × List Int × Bool × List Int × List Int) :=
 if ((decide (x5 < x4)) = true) then
 if ((0 : Int) ≤ x5) then
 Option.bind (x3)[(Int.toNat x5)]? fun x7 =>
 if (((0 : Int) ≤ (IntKind.wrap .i64 (i + x5))) ∧ ((IntKind.wrap .i64 (i + x5)) < ((out1 : Nat) : Int))) then
 Option.bind (outs)[(0 + (Int.toNat (IntKind.wrap .i64 (i + x5))))]? fun x8 =>
 if (((0 : Int) ≤ (IntKind.wrap .i64 (i + x5))) ∧ ((IntKind.wrap .i64 (i + x5)) < ((out1 : Nat) : Int))) then
 Option.bind (outs)[(0 + (Int.toNat (IntKind.wrap .i64 (i + x5))))]? fun x9 =>
 rec out1 i a (Int.fdiv (IntKind.wrap .u64 ((IntKind.wrap .u64 ((IntKind.wrap .u64 ((IntKind.wrap .u64 a) * (IntKind.wrap .u64 x7))) + (IntKind.wrap .u64 x8))) + carry)) (4294967296 : Int)) x x1 x2 x3 x4 (IntKind.wrap .i64 (x5 + (1 : Int))) x0 x11 y0 y1 (List.set outs (0 + (Int.toNat (IntKind.wrap .i64 (i + x5)))) (IntKind.wrap .u32 (IntKind.wrap .u64 ((IntKind.wrap .u64 ((IntKind.wrap .u64 ((IntKind.wrap .u64 a) * (IntKind.wrap .u64 x7))) + (IntKind.wrap .u64 x8))) + carry))))
 else
 none
 else
 none
 else
 none
 else
 (some (out1, i, carry, x, x1, x2, x0, x11, y0, y1, outs))
def qdw (k n : Nat) : Nat → Int → Int → Int → List Int → Int → Int → List Int → Int → Int → Bool → List Int → Bool → List Int → List Int → Option (Nat × Int × Int × List Int × Int × Int × Bool × List Int × Bool × List Int × List Int) := Nat.rec (fun _ _ _ _ _ _ _ _ _ _ _ _ _ _ _ => none) (fun _ r => qep k r) n
def qeq (k : Nat) (rec : Nat → List Int → Int → Int → Bool → List Int → Bool → List Int → List Int → Option (Nat × Bool × List Int × Bool × List Int × List Int)) (out1 : Nat) (x : List Int) (x1 : Int) (x2 : Int) (x0 : Bool) (x11 : List Int) (y0 : Bool) (y1 : List Int) (outs : List Int) : Option (Nat × Bool × List Int × Bool × List Int × List Int) :=
 if ((decide (x2 < x1)) = true) then
 if ((0 : Int) ≤ x2) then
 Option.bind (x)[(Int.toNat x2)]? fun x6 =>
 Option.bind (qdw k k out1 x2 x6 (0 : Int) x x1 x2 y1 (((List.length y1) : Nat) : Int) (0 : Int) x0 x11 y0 y1 outs) fun r13 =>
 if (((0 : Int) ≤ (IntKind.wrap .i64 (r13.2.1 + (((List.length r13.2.2.2.2.2.2.2.2.2.1) : Nat) : Int)))) ∧ ((IntKind.wrap .i64 (r13.2.1 + (((List.length r13.2.2.2.2.2.2.2.2.2.1) : Nat) : Int))) < ((r13.1 : Nat) : Int))) then
 Option.bind (r13.2.2.2.2.2.2.2.2.2.2)[(0 + (Int.toNat (IntKind.wrap .i64 (r13.2.1 + (((List.length r13.2.2.2.2.2.2.2.2.2.1) : Nat) : Int)))))]? fun x7 =>
 rec r13.1 r13.2.2.2.1 r13.2.2.2.2.1 (IntKind.wrap .i64 (r13.2.2.2.2.2.1 + (1 : Int))) r13.2.2.2.2.2.2.1 r13.2.2.2.2.2.2.2.1 r13.2.2.2.2.2.2.2.2.1 r13.2.2.2.2.2.2.2.2.2.1 (List.set r13.2.2.2.2.2.2.2.2.2.2 (0 + (Int.toNat (IntKind.wrap .i64 (r13.2.1 + (((List.length r13.2.2.2.2.2.2.2.2.2.1) : Nat) : Int))))) (IntKind.wrap .u32 r13.2.2.1))
 else
 none
 else
 none
 else
 (some (out1, x0, x11, y0, y1, outs))
def qcE (k n : Nat) : Nat → List Int → Int → Int → Bool → List Int → Bool → List Int → List Int → Option (Nat × Bool × List Int × Bool × List Int × List Int) := Nat.rec (fun _ _ _ _ _ _ _ _ _ => none) (fun _ r => qeq k r) n
def qfw (k : Nat) (x0 : Bool) (x1 : List Int) (y0 : Bool) (y1 : List Int) : Option (Bool × List Int × Bool × List Int) :=
 if (((0 : Int) ≤ (IntKind.wrap .i64 ((((List.length x1) : Nat) : Int) + (((List.length y1) : Nat) : Int)))) ∧ (((IntKind.wrap .i64 ((((List.length x1) : Nat) : Int) + (((List.length y1) : Nat) : Int))) ≤ (IntKind.wrap .i64 ((((List.length x1) : Nat) : Int) + (((List.length y1) : Nat) : Int)))) ∧ (((IntKind.wrap .i64 ((((List.length x1) : Nat) : Int) + (((List.length y1) : Nat) : Int))) * (4 : Int)) ≤ (140737488355328 : Int)))) then
 Option.bind (qcE k k (Int.toNat (IntKind.wrap .i64 ((((List.length x1) : Nat) : Int) + (((List.length y1) : Nat) : Int)))) x1 (((List.length x1) : Nat) : Int) (0 : Int) x0 x1 y0 y1 (List.replicate (Int.toNat (IntKind.wrap .i64 ((((List.length x1) : Nat) : Int) + (((List.length y1) : Nat) : Int)))) (0 : Int))) fun r13 =>
 if ((0 + r13.1) ≤ (List.length r13.2.2.2.2.2)) then
 Option.bind (qdY k (!(r13.2.1 == r13.2.2.2.1)) (List.take r13.1 r13.2.2.2.2.2) r13.2.1 r13.2.2.1) fun r14 =>
 (some (r14.1, r14.2, r13.2.2.2.1, r13.2.2.2.2.1))
 else
 none
 else
 none
def qdd : Nat → Bool → List Int → Bool → List Int → Option (Bool × List Int × Bool × List Int)
 | 0, _, _, _, _ => none
 | k + 1, x0, x1, y0, y1 => qfw k x0 x1 y0 y1
def Iq4 : Nat → Inst := mkI 155 ⟨[.a (.ptr 0 0 0), .a (.ptr 0 0 0), .a (.ptr 1 0 0)], [.raw [[.lf .bool, .lf cW]] 2 147 true false false, .raw [[.lf .bool, .lf cW]] 2 147 true false false]⟩ [⟨[.a (.ptr 0 0 0)], [.raw [[.lf .bool, .lf cW]] 2 147 true false false, .raw [[.lf .bool, .lf cW]] 2 147 true false false]⟩] fun k x => qdd k x.1 x.2.1 x.2.2.1 x.2.2.2
theorem qrI (k : Nat) : qa5 (call cf k) [Iq9 k] :=
 ac (qy2 k) a0
def qxR (k : Nat) : LInst := mkL 2 [⟨[(0, .a (.ptr 0 0 0)), (1, .a (.ptr 0 0 0)), (2, .a (.ptr 1 0 0)), (7, .a (.smz 2)), (8, vI), (9, .a (.lf (.int .u32))), (10, vU), (29, vT), (30, vI), (31, vI), (39, vT), (40, vI), (41, vI)], [(0, some (.raw [[.lf .bool, .lf cW]] 2 147 true false false)), (1, some (.raw [[.lf .bool, .lf cW]] 2 147 true false false)), (2, some (.arr (.int .u32) 1 106 false))], 3⟩] [⟨some 2, ⟨[(0, .a (.ptr 0 0 0)), (1, .a (.ptr 0 0 0)), (2, .a (.ptr 1 0 0)), (7, .a (.smz 2)), (8, vI), (10, vU), (29, vT), (30, vI), (31, vI)], [(0, some (.raw [[.lf .bool, .lf cW]] 2 147 true false false)), (1, some (.raw [[.lf .bool, .lf cW]] 2 147 true false false)), (2, some (.arr (.int .u32) 1 106 false))], 3⟩⟩] (fun n x => qdw k n x.1 x.2.1 x.2.2.1 x.2.2.2.1 x.2.2.2.2.1 x.2.2.2.2.2.1 x.2.2.2.2.2.2.1 x.2.2.2.2.2.2.2.1 x.2.2.2.2.2.2.2.2.1 x.2.2.2.2.2.2.2.2.2.1 x.2.2.2.2.2.2.2.2.2.2.1 x.2.2.2.2.2.2.2.2.2.2.2.1 x.2.2.2.2.2.2.2.2.2.2.2.2.1 x.2.2.2.2.2.2.2.2.2.2.2.2.2.1 x.2.2.2.2.2.2.2.2.2.2.2.2.2.2) k
theorem qsy (k : Nat) : LIo 155 Tryz.f155 2 k (qxR k) :=
 lpk [] (qrI k) l0 (fun _ => rfl) (by kernel_rfl) fun n x => by kernel_rfl
def qxS (k : Nat) : LInst := mkL 0 [⟨[(0, .a (.ptr 0 0 0)), (1, .a (.ptr 0 0 0)), (2, .a (.ptr 1 0 0)), (7, .a (.smz 2)), (29, vT), (30, vI), (31, vI)], [(0, some (.raw [[.lf .bool, .lf cW]] 2 147 true false false)), (1, some (.raw [[.lf .bool, .lf cW]] 2 147 true false false)), (2, some (.arr (.int .u32) 1 106 false))], 3⟩] [⟨some 0, ⟨[(0, .a (.ptr 0 0 0)), (1, .a (.ptr 0 0 0)), (2, .a (.ptr 1 0 0)), (7, .a (.smz 2))], [(0, some (.raw [[.lf .bool, .lf cW]] 2 147 true false false)), (1, some (.raw [[.lf .bool, .lf cW]] 2 147 true false false)), (2, some (.arr (.int .u32) 1 106 false))], 3⟩⟩] (fun n x => qcE k n x.1 x.2.1 x.2.2.1 x.2.2.2.1 x.2.2.2.2.1 x.2.2.2.2.2.1 x.2.2.2.2.2.2.1 x.2.2.2.2.2.2.2.1 x.2.2.2.2.2.2.2.2) k
theorem qxT (k : Nat) : LIo 155 Tryz.f155 2 k (qxS k) :=
 lpk [2] (qrI k) (lc (qsy k) l0) (fun _ => rfl) (by kernel_rfl) fun n x => by kernel_rfl
theorem qu3 : ∀ k, qh (call cf k) (Iq4 k) :=
 fnk 2 [0] Tryz.func155 (fun k => (qrI k)) (fun k => (lc (qsy k) (lc (qxT k) l0))) ⟨rfl, rfl, ⟨rfl, Nat.le_of_ble_eq_true rfl⟩, rfl⟩ (fun _ => rfl) (by kernel_rfl) fun k x => by kernel_rfl

def qfl (k : Nat) (rec : Int → Int → Bool → List Int → Bool → List Int → Option (Bool × List Int × Bool × List Int)) (x : Int) (x1 : Int) (z0 : Bool) (z1 : List Int) (ten0 : Bool) (ten1 : List Int) : Option (Bool × List Int × Bool × List Int) :=
 if ((decide (x1 < x)) = true) then
 Option.bind (qdd k z0 z1 ten0 ten1) fun r13 =>
 rec x (IntKind.wrap .i64 (x1 + (1 : Int))) r13.1 r13.2.1 r13.2.2.1 r13.2.2.2
 else
 (some (z0, z1, ten0, ten1))
def qdZ (k n : Nat) : Int → Int → Bool → List Int → Bool → List Int → Option (Bool × List Int × Bool × List Int) := Nat.rec (fun _ _ _ _ _ _ => none) (fun _ r => qfl k r) n
def qrJ (k : Nat) (k1 : Int) : Option (Bool × List Int) :=
 Option.bind (qca k (1 : Int)) fun r11 =>
 Option.bind (qca k (10 : Int)) fun r12 =>
 Option.bind (qdZ k k k1 (0 : Int) r11.1 r11.2 r12.1 r12.2) fun r13 =>
 (some (r13.1, r13.2.1))
def qh6 : Nat → Int → Option (Bool × List Int)
 | 0, _ => none
 | k + 1, k1 => qrJ k k1
def qy3 : Nat → Inst := mkI 234 ⟨[vI], []⟩ [⟨[.a (.ptr 0 0 0)], [.raw [[.lf .bool, .lf cW]] 2 147 true false false]⟩] fun k x => qh6 k x
theorem qsz (k : Nat) : qa5 (call cf k) [qu2 k, Iq4 k] :=
 ac (qoJ k) (ac (qu3 k) a0)
def qxU (k : Nat) : LInst := mkL 0 [⟨[(3, .a (.ptr 0 0 0)), (4, .a (.ptr 1 0 0)), (7, vI), (8, vI)], [(0, some (.raw [[.lf .bool, .lf cW]] 2 147 true false false)), (1, some (.raw [[.lf .bool, .lf cW]] 2 147 true false false))], 2⟩] [⟨some 0, ⟨[(3, .a (.ptr 0 0 0))], [(0, some (.raw [[.lf .bool, .lf cW]] 2 147 true false false)), (1, some (.raw [[.lf .bool, .lf cW]] 2 147 true false false))], 2⟩⟩] (fun n x => qdZ k n x.1 x.2.1 x.2.2.1 x.2.2.2.1 x.2.2.2.2.1 x.2.2.2.2.2) k
theorem qxV (k : Nat) : LIo 234 Tryz.f234 0 k (qxU k) :=
 lpk [] (qsz k) l0 (fun _ => rfl) (by kernel_rfl) fun n x => by kernel_rfl
theorem qxW : ∀ k, qh (call cf k) (qy3 k) :=
 fnk 0 [0] Tryz.func234 (fun k => (qsz k)) (fun k => (lc (qxV k) l0)) ⟨rfl, rfl, ⟨rfl, Nat.le_of_ble_eq_true rfl⟩, rfl⟩ (fun _ => rfl) (by kernel_rfl) fun k x => by kernel_rfl

def qcC (k : Nat) (rec : List Int → List Int → Int → Option ((Int) ⊕ (Unit))) (a : List Int) (b : List Int) (i : Int) : Option ((Int) ⊕ (Unit)) :=
 if ((decide (i ≥ (0 : Int))) = true) then
 if ((0 : Int) ≤ i) then
 Option.bind (a)[(Int.toNat i)]? fun x6 =>
 if ((0 : Int) ≤ i) then
 Option.bind (b)[(Int.toNat i)]? fun x7 =>
 if ((x6 != x7) = true) then
 if ((0 : Int) ≤ i) then
 Option.bind (a)[(Int.toNat i)]? fun x8 =>
 if ((0 : Int) ≤ i) then
 Option.bind (b)[(Int.toNat i)]? fun x9 =>
 if ((decide (x8 < x9)) = true) then
 (some (Sum.inl (-(1 : Int))))
 else
 (some (Sum.inl (1 : Int)))
 else
 none
 else
 none
 else
 rec a b (IntKind.wrap .i64 (i - (1 : Int)))
 else
 none
 else
 none
 else
 (some (Sum.inr ()))
def qd0 (k n : Nat) : List Int → List Int → Int → Option ((Int) ⊕ (Unit)) := Nat.rec (fun _ _ _ => none) (fun _ r => qcC k r) n
def qjm (k : Nat) (a : List Int) (b : List Int) : Option (Int) :=
 if (((((List.length a) : Nat) : Int) != (((List.length b) : Nat) : Int)) = true) then
 if ((decide ((((List.length a) : Nat) : Int) < (((List.length b) : Nat) : Int))) = true) then
 (some (-(1 : Int)))
 else
 (some (1 : Int))
 else
 Option.bind (qd0 k k a b (IntKind.wrap .i64 ((((List.length a) : Nat) : Int) - (1 : Int)))) fun r13 =>
 qc r13
 (fun r13 =>
 (some r13))
 (fun r13 =>
 (some (0 : Int)))
def qh7 : Nat → List Int → List Int → Option (Int)
 | 0, _, _ => none
 | k + 1, a, b => qjm k a b
def qy4 : Nat → Inst := mkI 200 ⟨[vT, vT], []⟩ [⟨[vI], []⟩] fun k x => qh7 k x.1 x.2
def qu4 (k : Nat) : LInst := mkL 0 [⟨[(0, vT), (1, vT), (5, vI)], [], 0⟩] [⟨none, ⟨[(4, vI)], [], 0⟩⟩, ⟨some 0, ⟨[], [], 0⟩⟩] (fun n x => qd0 k n x.1 x.2.1 x.2.2) k
theorem qu5 (k : Nat) : LIo 200 Tryz.f200 0 k (qu4 k) :=
 lpk [] a0 l0 (fun _ => rfl) (by kernel_rfl) fun n x => by kernel_rfl
theorem qsA : ∀ k, qh (call cf k) (qy4 k) :=
 fnk 0 [0] Tryz.func200 (fun k => a0) (fun k => (lc (qu5 k) l0)) ⟨rfl, rfl, ⟨rfl, Nat.le_of_ble_eq_true rfl⟩, rfl⟩ (fun _ => rfl) (by kernel_rfl) fun k x => by kernel_rfl

def qec (k : Nat) (rec : List Int → Int → Nat → Int → Int → List Int → Option (Nat × Int × List Int)) (a : List Int) (d : Int) (q : Nat) (r : Int) (i : Int) (qs : List Int) : Option (Nat × Int × List Int) :=
 if ((decide (i ≥ (0 : Int))) = true) then
 if ((0 : Int) ≤ i) then
 Option.bind (a)[(Int.toNat i)]? fun x7 =>
 if ((IntKind.wrap .u64 d) = (0 : Int)) then
 none
 else
 if (((0 : Int) ≤ i) ∧ (i < ((q : Nat) : Int))) then
 Option.bind (qs)[(0 + (Int.toNat i))]? fun x8 =>
 if ((IntKind.wrap .u64 d) = (0 : Int)) then
 none
 else
 rec a d q (Int.tmod (IntKind.wrap .u64 (((BitVec.toNat ((BitVec.ofInt 64 (IntKind.wrap .u64 (r * (4294967296 : Int)))) ||| (BitVec.ofInt 64 (IntKind.wrap .u64 x7)))) : Nat) : Int)) (IntKind.wrap .u64 d)) (IntKind.wrap .i64 (i - (1 : Int))) (List.set qs (0 + (Int.toNat i)) (IntKind.wrap .u32 (IntKind.wrap .u64 (Int.tdiv (IntKind.wrap .u64 (((BitVec.toNat ((BitVec.ofInt 64 (IntKind.wrap .u64 (r * (4294967296 : Int)))) ||| (BitVec.ofInt 64 (IntKind.wrap .u64 x7)))) : Nat) : Int)) (IntKind.wrap .u64 d)))))
 else
 none
 else
 none
 else
 (some (q, r, qs))
def qdP (k n : Nat) : List Int → Int → Nat → Int → Int → List Int → Option (Nat × Int × List Int) := Nat.rec (fun _ _ _ _ _ _ => none) (fun _ r => qec k r) n
def qh8 (k : Nat) (a : List Int) (d : Int) : Option (List Int × Int) :=
 if (((0 : Int) ≤ (((List.length a) : Nat) : Int)) ∧ (((((List.length a) : Nat) : Int) ≤ (((List.length a) : Nat) : Int)) ∧ (((((List.length a) : Nat) : Int) * (4 : Int)) ≤ (140737488355328 : Int)))) then
 Option.bind (qdP k k a d (Int.toNat (((List.length a) : Nat) : Int)) (0 : Int) (IntKind.wrap .i64 ((((List.length a) : Nat) : Int) - (1 : Int))) (List.replicate (Int.toNat (((List.length a) : Nat) : Int)) (0 : Int))) fun r14 =>
 if ((0 + r14.1) ≤ (List.length r14.2.2)) then
 (some ((List.take r14.1 r14.2.2), (IntKind.wrap .u32 r14.2.1)))
 else
 none
 else
 none
def qh9 : Nat → List Int → Int → Option (List Int × Int)
 | 0, _, _ => none
 | k + 1, a, d => qh8 k a d
def qy5 : Nat → Inst := mkI 241 ⟨[vT, .a (.lf (.int .u32))], []⟩ [⟨[vT, .a (.lf (.int .u32))], []⟩] fun k x => qh9 k x.1 x.2
def qu6 (k : Nat) : LInst := mkL 0 [⟨[(0, vT), (1, .a (.lf (.int .u32))), (6, .a (.smz 0)), (7, vU), (8, vI)], [(0, some (.arr (.int .u32) 1 106 false))], 1⟩] [⟨some 0, ⟨[(6, .a (.smz 0)), (7, vU)], [(0, some (.arr (.int .u32) 1 106 false))], 1⟩⟩] (fun n x => qdP k n x.1 x.2.1 x.2.2.1 x.2.2.2.1 x.2.2.2.2.1 x.2.2.2.2.2) k
theorem qu7 (k : Nat) : LIo 241 Tryz.f241 0 k (qu6 k) :=
 lpk [] a0 l0 (fun _ => rfl) (by kernel_rfl) fun n x => by kernel_rfl
theorem qxX : ∀ k, qh (call cf k) (qy5 k) :=
 fnk 0 [0] Tryz.func241 (fun k => a0) (fun k => (lc (qu7 k) l0)) ⟨rfl, rfl, ⟨rfl, Nat.le_of_ble_eq_true rfl⟩, rfl⟩ (fun _ => rfl) (by kernel_rfl) fun k x => by kernel_rfl

def qed (k : Nat) (rec : Int → Nat → List Int → Int → Int → List Int → Option (Nat × List Int)) (bits : Int) (out1 : Nat) (x : List Int) (x1 : Int) (x2 : Int) (outs : List Int) : Option (Nat × List Int) :=
 if ((decide (x2 < x1)) = true) then
 if ((0 : Int) ≤ x2) then
 Option.bind (x)[(Int.toNat x2)]? fun x6 =>
 if (bits < (0 : Int)) then
 none
 else
 if (((0 : Int) ≤ x2) ∧ (x2 < ((out1 : Nat) : Int))) then
 Option.bind (outs)[(0 + (Int.toNat x2))]? fun x7 =>
 if (((0 : Int) ≤ x2) ∧ (x2 < ((out1 : Nat) : Int))) then
 Option.bind (outs)[(0 + (Int.toNat x2))]? fun x8 =>
 if (((0 : Int) ≤ (IntKind.wrap .i64 (x2 + (1 : Int)))) ∧ ((IntKind.wrap .i64 (x2 + (1 : Int))) < ((out1 : Nat) : Int))) then
 Option.bind ((List.set outs (0 + (Int.toNat x2)) (IntKind.wrap .u32 (((BitVec.toNat ((BitVec.ofInt 32 x7) ||| (BitVec.ofInt 32 (IntKind.wrap .u32 (IntKind.wrap .u64 ((IntKind.wrap .u64 x6) * ((2 : Int) ^ (min (Int.toNat bits) 64)))))))) : Nat) : Int))))[(0 + (Int.toNat (IntKind.wrap .i64 (x2 + (1 : Int)))))]? fun x9 =>
 rec bits out1 x x1 (IntKind.wrap .i64 (x2 + (1 : Int))) (List.set (List.set outs (0 + (Int.toNat x2)) (IntKind.wrap .u32 (((BitVec.toNat ((BitVec.ofInt 32 x7) ||| (BitVec.ofInt 32 (IntKind.wrap .u32 (IntKind.wrap .u64 ((IntKind.wrap .u64 x6) * ((2 : Int) ^ (min (Int.toNat bits) 64)))))))) : Nat) : Int))) (0 + (Int.toNat (IntKind.wrap .i64 (x2 + (1 : Int))))) (IntKind.wrap .u32 (Int.fdiv (IntKind.wrap .u64 ((IntKind.wrap .u64 x6) * ((2 : Int) ^ (min (Int.toNat bits) 64)))) (4294967296 : Int))))
 else
 none
 else
 none
 else
 none
 else
 none
 else
 (some (out1, outs))
def qdQ (k n : Nat) : Int → Nat → List Int → Int → Int → List Int → Option (Nat × List Int) := Nat.rec (fun _ _ _ _ _ _ => none) (fun _ r => qed k r) n
def qia (k : Nat) (a : List Int) (bits : Int) : Option (Nat × List Int) :=
 if (((0 : Int) ≤ (IntKind.wrap .i64 ((((List.length a) : Nat) : Int) + (1 : Int)))) ∧ (((IntKind.wrap .i64 ((((List.length a) : Nat) : Int) + (1 : Int))) ≤ (IntKind.wrap .i64 ((((List.length a) : Nat) : Int) + (1 : Int)))) ∧ (((IntKind.wrap .i64 ((((List.length a) : Nat) : Int) + (1 : Int))) * (4 : Int)) ≤ (140737488355328 : Int)))) then
 Option.bind (qdQ k k bits (Int.toNat (IntKind.wrap .i64 ((((List.length a) : Nat) : Int) + (1 : Int)))) a (((List.length a) : Nat) : Int) (0 : Int) (List.replicate (Int.toNat (IntKind.wrap .i64 ((((List.length a) : Nat) : Int) + (1 : Int)))) (0 : Int))) fun r15 =>
 (some (r15.1, r15.2))
 else
 none
def qf4 : Nat → List Int → Int → Option (Nat × List Int)
 | 0, _, _ => none
 | k + 1, a, bits => qia k a bits
def qu8 : Nat → Inst := mkI 247 ⟨[vT, vU], []⟩ [⟨[.a (.smz 0)], [.arr (.int .u32) 1 106 false]⟩] fun k x => qf4 k x.1 x.2
def qu9 (k : Nat) : LInst := mkL 0 [⟨[(1, vU), (5, .a (.smz 0)), (13, vT), (14, vI), (15, vI)], [(0, some (.arr (.int .u32) 1 106 false))], 1⟩] [⟨some 0, ⟨[(5, .a (.smz 0))], [(0, some (.arr (.int .u32) 1 106 false))], 1⟩⟩] (fun n x => qdQ k n x.1 x.2.1 x.2.2.1 x.2.2.2.1 x.2.2.2.2.1 x.2.2.2.2.2) k
theorem qva (k : Nat) : LIo 247 Tryz.f247 0 k (qu9 k) :=
 lpk [] a0 l0 (fun _ => rfl) (by kernel_rfl) fun n x => by kernel_rfl
theorem qxY : ∀ k, qh (call cf k) (qu8 k) :=
 fnk 0 [0] Tryz.func247 (fun k => a0) (fun k => (lc (qva k) l0)) ⟨rfl, rfl, ⟨rfl, Nat.le_of_ble_eq_true rfl⟩, rfl⟩ (fun _ => rfl) (by kernel_rfl) fun k x => by kernel_rfl

def qac (k : Nat) (rec : Nat → Nat → Nat → Int → Int → Int → Int → Int → List Int → List Int → Option (Nat × Nat × Nat × Int × Int × List Int × List Int)) (u0 : Nat) (u1 : Nat) (v : Nat) (d : Int) (carry : Int) (borrow : Int) (x : Int) (x1 : Int) (us : List Int) (vs : List Int) : Option (Nat × Nat × Nat × Int × Int × List Int × List Int) :=
 if ((decide (x1 < x)) = true) then
 if ((decide (x1 < ((v : Nat) : Int))) = true) then
 if (((0 : Int) ≤ x1) ∧ (x1 < ((v : Nat) : Int))) then
 Option.bind (vs)[(0 + (Int.toNat x1))]? fun x10 =>
 if (((0 : Int) ≤ x1) ∧ (x1 < ((u1 : Nat) : Int))) then
 Option.bind (us)[(u0 + (Int.toNat x1))]? fun x11 =>
 if ((decide ((IntKind.wrap .u64 x11) < (IntKind.wrap .u64 ((IntKind.wrap .u64 (((BitVec.toNat ((BitVec.ofInt 64 (IntKind.wrap .u64 (carry + (IntKind.wrap .u64 (d * (IntKind.wrap .u64 x10)))))) &&& (BitVec.ofInt 64 (4294967295 : Int)))) : Nat) : Int)) + borrow)))) = true) then
 if (((0 : Int) ≤ x1) ∧ (x1 < ((u1 : Nat) : Int))) then
 Option.bind (us)[(u0 + (Int.toNat x1))]? fun x12 =>
 if (((0 : Int) ≤ x1) ∧ (x1 < ((u1 : Nat) : Int))) then
 Option.bind (us)[(u0 + (Int.toNat x1))]? fun x13 =>
 rec u0 u1 v d (Int.fdiv (IntKind.wrap .u64 (carry + (IntKind.wrap .u64 (d * (IntKind.wrap .u64 x10))))) (4294967296 : Int)) (1 : Int) x (IntKind.wrap .i64 (x1 + (1 : Int))) (List.set us (u0 + (Int.toNat x1)) (IntKind.wrap .u32 (IntKind.wrap .u64 ((IntKind.wrap .u64 x12) - (IntKind.wrap .u64 ((IntKind.wrap .u64 (((BitVec.toNat ((BitVec.ofInt 64 (IntKind.wrap .u64 (carry + (IntKind.wrap .u64 (d * (IntKind.wrap .u64 x10)))))) &&& (BitVec.ofInt 64 (4294967295 : Int)))) : Nat) : Int)) + borrow)))))) vs
 else
 none
 else
 none
 else
 if (((0 : Int) ≤ x1) ∧ (x1 < ((u1 : Nat) : Int))) then
 Option.bind (us)[(u0 + (Int.toNat x1))]? fun x12 =>
 if (((0 : Int) ≤ x1) ∧ (x1 < ((u1 : Nat) : Int))) then
 Option.bind (us)[(u0 + (Int.toNat x1))]? fun x13 =>
 rec u0 u1 v d (Int.fdiv (IntKind.wrap .u64 (carry + (IntKind.wrap .u64 (d * (IntKind.wrap .u64 x10))))) (4294967296 : Int)) (0 : Int) x (IntKind.wrap .i64 (x1 + (1 : Int))) (List.set us (u0 + (Int.toNat x1)) (IntKind.wrap .u32 (IntKind.wrap .u64 ((IntKind.wrap .u64 x12) - (IntKind.wrap .u64 ((IntKind.wrap .u64 (((BitVec.toNat ((BitVec.ofInt 64 (IntKind.wrap .u64 (carry + (IntKind.wrap .u64 (d * (IntKind.wrap .u64 x10)))))) &&& (BitVec.ofInt 64 (4294967295 : Int)))) : Nat) : Int)) + borrow)))))) vs
 else
 none
 else
 none
 else
 none
 else
 none
 else
 if (((0 : Int) ≤ x1) ∧ (x1 < ((u1 : Nat) : Int))) then
 Option.bind (us)[(u0 + (Int.toNat x1))]? fun x10 =>
 if ((decide ((IntKind.wrap .u64 x10) < (IntKind.wrap .u64 ((IntKind.wrap .u64 (((BitVec.toNat ((BitVec.ofInt 64 carry) &&& (BitVec.ofInt 64 (4294967295 : Int)))) : Nat) : Int)) + borrow)))) = true) then
 if (((0 : Int) ≤ x1) ∧ (x1 < ((u1 : Nat) : Int))) then
 Option.bind (us)[(u0 + (Int.toNat x1))]? fun x11 =>
 if (((0 : Int) ≤ x1) ∧ (x1 < ((u1 : Nat) : Int))) then
 Option.bind (us)[(u0 + (Int.toNat x1))]? fun x12 =>
 rec u0 u1 v d (Int.fdiv carry (4294967296 : Int)) (1 : Int) x (IntKind.wrap .i64 (x1 + (1 : Int))) (List.set us (u0 + (Int.toNat x1)) (IntKind.wrap .u32 (IntKind.wrap .u64 ((IntKind.wrap .u64 x11) - (IntKind.wrap .u64 ((IntKind.wrap .u64 (((BitVec.toNat ((BitVec.ofInt 64 carry) &&& (BitVec.ofInt 64 (4294967295 : Int)))) : Nat) : Int)) + borrow)))))) vs
 else
 none
 else
 none
 else
 if (((0 : Int) ≤ x1) ∧ (x1 < ((u1 : Nat) : Int))) then
 Option.bind (us)[(u0 + (Int.toNat x1))]? fun x11 =>
 if (((0 : Int) ≤ x1) ∧ (x1 < ((u1 : Nat) : Int))) then
 Option.bind (us)[(u0 + (Int.toNat x1))]? fun x12 =>
 rec u0 u1 v d (Int.fdiv carry (4294967296 : Int)) (0 : Int) x (IntKind.wrap .i64 (x1 + (1 : Int))) (List.set us (u0 + (Int.toNat x1)) (IntKind.wrap .u32 (IntKind.wrap .u64 ((IntKind.wrap .u64 x11) - (IntKind.wrap .u64 ((IntKind.wrap .u64 (((BitVec.toNat ((BitVec.ofInt 64 carry) &&& (BitVec.ofInt 64 (4294967295 : Int)))) : Nat) : Int)) + borrow)))))) vs
 else
 none
 else
 none
 else
 none
 else
 (some (u0, u1, v, d, borrow, us, vs))
def qaL (k n : Nat) : Nat → Nat → Nat → Int → Int → Int → Int → Int → List Int → List Int → Option (Nat × Nat × Nat × Int × Int × List Int × List Int) := Nat.rec (fun _ _ _ _ _ _ _ _ _ _ => none) (fun _ r => qac k r) n
def qbY (k : Nat) (rec : Nat → Nat → Nat → Int → Int → Int → Int → List Int → List Int → Option (Int × List Int × List Int)) (u0 : Nat) (u1 : Nat) (v : Nat) (d : Int) (carry : Int) (x : Int) (x1 : Int) (us : List Int) (vs : List Int) : Option (Int × List Int × List Int) :=
 if ((decide (x1 < x)) = true) then
 if (((0 : Int) ≤ x1) ∧ (x1 < ((u1 : Nat) : Int))) then
 Option.bind (us)[(u0 + (Int.toNat x1))]? fun x10 =>
 if ((decide (x1 < ((v : Nat) : Int))) = true) then
 if (((0 : Int) ≤ x1) ∧ (x1 < ((v : Nat) : Int))) then
 Option.bind (vs)[(0 + (Int.toNat x1))]? fun x11 =>
 if (((0 : Int) ≤ x1) ∧ (x1 < ((u1 : Nat) : Int))) then
 Option.bind (us)[(u0 + (Int.toNat x1))]? fun x12 =>
 rec u0 u1 v d (Int.fdiv (IntKind.wrap .u64 ((IntKind.wrap .u64 ((IntKind.wrap .u64 x10) + carry)) + (IntKind.wrap .u64 x11))) (4294967296 : Int)) x (IntKind.wrap .i64 (x1 + (1 : Int))) (List.set us (u0 + (Int.toNat x1)) (IntKind.wrap .u32 (IntKind.wrap .u64 ((IntKind.wrap .u64 ((IntKind.wrap .u64 x10) + carry)) + (IntKind.wrap .u64 x11))))) vs
 else
 none
 else
 none
 else
 if (((0 : Int) ≤ x1) ∧ (x1 < ((u1 : Nat) : Int))) then
 Option.bind (us)[(u0 + (Int.toNat x1))]? fun x11 =>
 rec u0 u1 v d (Int.fdiv (IntKind.wrap .u64 ((IntKind.wrap .u64 x10) + carry)) (4294967296 : Int)) x (IntKind.wrap .i64 (x1 + (1 : Int))) (List.set us (u0 + (Int.toNat x1)) (IntKind.wrap .u32 (IntKind.wrap .u64 ((IntKind.wrap .u64 x10) + carry)))) vs
 else
 none
 else
 none
 else
 (some (d, us, vs))
def qbN (k n : Nat) : Nat → Nat → Nat → Int → Int → Int → Int → List Int → List Int → Option (Int × List Int × List Int) := Nat.rec (fun _ _ _ _ _ _ _ _ _ => none) (fun _ r => qbY k r) n
def qfr (k : Nat) (u0 : Nat) (u1 : Nat) (v : Nat) (d : Int) (us : List Int) (vs : List Int) : Option (Int × List Int × List Int) :=
 Option.bind (qaL k k u0 u1 v d (0 : Int) (0 : Int) ((u1 : Nat) : Int) (0 : Int) us vs) fun r18 =>
 if ((r18.2.2.2.2.1 == (0 : Int)) = true) then
 (some ((IntKind.wrap .u32 r18.2.2.2.1), r18.2.2.2.2.2.1, r18.2.2.2.2.2.2))
 else
 Option.bind (qbN k k r18.1 r18.2.1 r18.2.2.1 r18.2.2.2.1 (0 : Int) ((r18.2.1 : Nat) : Int) (0 : Int) r18.2.2.2.2.2.1 r18.2.2.2.2.2.2) fun r19 =>
 (some ((IntKind.wrap .u32 (IntKind.wrap .u64 (r19.1 - (1 : Int)))), r19.2.1, r19.2.2))
def qfs : Nat → Nat → Nat → Nat → Int → List Int → List Int → Option (Int × List Int × List Int)
 | 0, _, _, _, _, _, _ => none
 | k + 1, u0, u1, v, d, us, vs => qfr k u0 u1 v d us vs
def qvb : Nat → Inst := mkI 248 ⟨[.a (.sms 0), .a (.smz 1), vU], [.arr (.int .u32) 1 106 false, .arr (.int .u32) 1 106 false]⟩ [⟨[.a (.lf (.int .u32))], [.arr (.int .u32) 1 106 false, .arr (.int .u32) 1 106 false]⟩] fun k x => qfs k x.1 x.2.1 x.2.2.1 x.2.2.2.1 x.2.2.2.2.1 x.2.2.2.2.2
def qvc (k : Nat) : LInst := mkL 0 [⟨[(0, .a (.sms 0)), (1, .a (.smz 1)), (2, vU), (7, vU), (8, vU), (14, vI), (15, vI)], [(0, some (.arr (.int .u32) 1 106 false)), (1, some (.arr (.int .u32) 1 106 false))], 2⟩] [⟨some 0, ⟨[(0, .a (.sms 0)), (1, .a (.smz 1)), (2, vU), (8, vU)], [(0, some (.arr (.int .u32) 1 106 false)), (1, some (.arr (.int .u32) 1 106 false))], 2⟩⟩] (fun n x => qaL k n x.1 x.2.1 x.2.2.1 x.2.2.2.1 x.2.2.2.2.1 x.2.2.2.2.2.1 x.2.2.2.2.2.2.1 x.2.2.2.2.2.2.2.1 x.2.2.2.2.2.2.2.2.1 x.2.2.2.2.2.2.2.2.2) k
theorem qp3 (k : Nat) : LIo 248 Tryz.f248 2 k (qvc k) :=
 lpk [] a0 l0 (fun _ => rfl) (by kernel_rfl) fun n x => by kernel_rfl
def qvd (k : Nat) : LInst := mkL 2 [⟨[(0, .a (.sms 0)), (1, .a (.smz 1)), (2, vU), (7, vU), (61, vI), (62, vI)], [(0, some (.arr (.int .u32) 1 106 false)), (1, some (.arr (.int .u32) 1 106 false))], 2⟩] [⟨some 2, ⟨[(2, vU)], [(0, some (.arr (.int .u32) 1 106 false)), (1, some (.arr (.int .u32) 1 106 false))], 2⟩⟩] (fun n x => qbN k n x.1 x.2.1 x.2.2.1 x.2.2.2.1 x.2.2.2.2.1 x.2.2.2.2.2.1 x.2.2.2.2.2.2.1 x.2.2.2.2.2.2.2.1 x.2.2.2.2.2.2.2.2) k
theorem qve (k : Nat) : LIo 248 Tryz.f248 2 k (qvd k) :=
 lpk [] a0 (lc (qp3 k) l0) (fun _ => rfl) (by kernel_rfl) fun n x => by kernel_rfl
theorem qxZ : ∀ k, qh (call cf k) (qvb k) :=
 fnk 2 [0, 2] Tryz.func248 (fun k => a0) (fun k => (lc (qp3 k) (lc (qve k) l0))) ⟨rfl, rfl, ⟨rfl, Nat.le_of_ble_eq_true rfl⟩, rfl⟩ (fun _ => rfl) (by kernel_rfl) fun k x => by kernel_rfl

def qeE (k : Nat) (rec : List Int → List Int → Int → Option (List Int × List Int × Int)) (a : List Int) (b : List Int) (bits : Int) : Option (List Int × List Int × Int) :=
 if ((0 : Int) ≤ (IntKind.wrap .i64 ((((List.length b) : Nat) : Int) - (1 : Int)))) then
 Option.bind (b)[(Int.toNat (IntKind.wrap .i64 ((((List.length b) : Nat) : Int) - (1 : Int))))]? fun x6 =>
 if (bits < (0 : Int)) then
 none
 else
 if (((Int.fdiv (IntKind.wrap .u32 (x6 * ((2 : Int) ^ (min (Int.toNat bits) 32)))) (2147483648 : Int)) == (0 : Int)) = true) then
 rec a b (IntKind.wrap .u64 (bits + (1 : Int)))
 else
 (some (a, b, bits))
 else
 none
def qei (k n : Nat) : List Int → List Int → Int → Option (List Int × List Int × Int) := Nat.rec (fun _ _ _ => none) (fun _ r => qeE k r) n
def qbv (k : Nat) (rec : Nat → Int → Int → Nat → Nat → Int → Int → Int → List Int → List Int → List Int → Option (Nat × Int × Int × Nat × Nat × Int × Int × List Int × List Int × List Int)) (q : Nat) (bits : Int) (n : Int) (u : Nat) (v : Nat) (j : Int) (d : Int) (rest : Int) (qs : List Int) (us : List Int) (vs : List Int) : Option (Nat × Int × Int × Nat × Nat × Int × Int × List Int × List Int × List Int) :=
 if ((decide (d > (4294967295 : Int))) = false) then
 if ((decide (rest ≤ (4294967295 : Int))) = true) then
 if (((0 : Int) ≤ (IntKind.wrap .i64 (n - (2 : Int)))) ∧ ((IntKind.wrap .i64 (n - (2 : Int))) < ((v : Nat) : Int))) then
 Option.bind (vs)[(0 + (Int.toNat (IntKind.wrap .i64 (n - (2 : Int)))))]? fun x10 =>
 if (((0 : Int) ≤ (IntKind.wrap .i64 ((IntKind.wrap .i64 (j + n)) - (2 : Int)))) ∧ ((IntKind.wrap .i64 ((IntKind.wrap .i64 (j + n)) - (2 : Int))) < ((u : Nat) : Int))) then
 Option.bind (us)[(0 + (Int.toNat (IntKind.wrap .i64 ((IntKind.wrap .i64 (j + n)) - (2 : Int)))))]? fun x11 =>
 if ((decide ((IntKind.wrap .u64 (d * (IntKind.wrap .u64 x10))) > (IntKind.wrap .u64 (((BitVec.toNat ((BitVec.ofInt 64 (IntKind.wrap .u64 (rest * (4294967296 : Int)))) ||| (BitVec.ofInt 64 (IntKind.wrap .u64 x11)))) : Nat) : Int)))) = true) then
 if (((0 : Int) ≤ (IntKind.wrap .i64 (n - (1 : Int)))) ∧ ((IntKind.wrap .i64 (n - (1 : Int))) < ((v : Nat) : Int))) then
 Option.bind (vs)[(0 + (Int.toNat (IntKind.wrap .i64 (n - (1 : Int)))))]? fun x12 =>
 if ((decide ((IntKind.wrap .u64 (rest + (IntKind.wrap .u64 x12))) > (4294967295 : Int))) = true) then
 (some (q, bits, n, u, v, j, (IntKind.wrap .u64 (d - (1 : Int))), qs, us, vs))
 else
 rec q bits n u v j (IntKind.wrap .u64 (d - (1 : Int))) (IntKind.wrap .u64 (rest + (IntKind.wrap .u64 x12))) qs us vs
 else
 none
 else
 (some (q, bits, n, u, v, j, d, qs, us, vs))
 else
 none
 else
 none
 else
 (some (q, bits, n, u, v, j, d, qs, us, vs))
 else
 if (((0 : Int) ≤ (IntKind.wrap .i64 (n - (1 : Int)))) ∧ ((IntKind.wrap .i64 (n - (1 : Int))) < ((v : Nat) : Int))) then
 Option.bind (vs)[(0 + (Int.toNat (IntKind.wrap .i64 (n - (1 : Int)))))]? fun x10 =>
 if ((decide ((IntKind.wrap .u64 (rest + (IntKind.wrap .u64 x10))) > (4294967295 : Int))) = true) then
 (some (q, bits, n, u, v, j, (IntKind.wrap .u64 (d - (1 : Int))), qs, us, vs))
 else
 rec q bits n u v j (IntKind.wrap .u64 (d - (1 : Int))) (IntKind.wrap .u64 (rest + (IntKind.wrap .u64 x10))) qs us vs
 else
 none
def qcD (k n : Nat) : Nat → Int → Int → Nat → Nat → Int → Int → Int → List Int → List Int → List Int → Option (Nat × Int × Int × Nat × Nat × Int × Int × List Int × List Int × List Int) := Nat.rec (fun _ _ _ _ _ _ _ _ _ _ _ => none) (fun _ r => qbv k r) n
def qeF (k : Nat) (rec : Nat → Int → Int → Nat → Nat → Int → List Int → List Int → List Int → Option (Nat × Int × Int × Nat × List Int × List Int × List Int)) (q : Nat) (bits : Int) (n : Int) (u : Nat) (v : Nat) (j : Int) (qs : List Int) (us : List Int) (vs : List Int) : Option (Nat × Int × Int × Nat × List Int × List Int × List Int) :=
 if ((decide (j ≥ (0 : Int))) = true) then
 if (((0 : Int) ≤ (IntKind.wrap .i64 (j + n))) ∧ ((IntKind.wrap .i64 (j + n)) < ((u : Nat) : Int))) then
 Option.bind (us)[(0 + (Int.toNat (IntKind.wrap .i64 (j + n))))]? fun x6 =>
 if (((0 : Int) ≤ (IntKind.wrap .i64 ((IntKind.wrap .i64 (j + n)) - (1 : Int)))) ∧ ((IntKind.wrap .i64 ((IntKind.wrap .i64 (j + n)) - (1 : Int))) < ((u : Nat) : Int))) then
 Option.bind (us)[(0 + (Int.toNat (IntKind.wrap .i64 ((IntKind.wrap .i64 (j + n)) - (1 : Int)))))]? fun x7 =>
 if (((0 : Int) ≤ (IntKind.wrap .i64 (n - (1 : Int)))) ∧ ((IntKind.wrap .i64 (n - (1 : Int))) < ((v : Nat) : Int))) then
 Option.bind (vs)[(0 + (Int.toNat (IntKind.wrap .i64 (n - (1 : Int)))))]? fun x8 =>
 if ((IntKind.wrap .u64 x8) = (0 : Int)) then
 none
 else
 if (((0 : Int) ≤ (IntKind.wrap .i64 (n - (1 : Int)))) ∧ ((IntKind.wrap .i64 (n - (1 : Int))) < ((v : Nat) : Int))) then
 Option.bind (vs)[(0 + (Int.toNat (IntKind.wrap .i64 (n - (1 : Int)))))]? fun x9 =>
 if ((IntKind.wrap .u64 x9) = (0 : Int)) then
 none
 else
 Option.bind (qcD k k q bits n u v j (IntKind.wrap .u64 (Int.tdiv (IntKind.wrap .u64 (((BitVec.toNat ((BitVec.ofInt 64 (IntKind.wrap .u64 ((IntKind.wrap .u64 x6) * (4294967296 : Int)))) ||| (BitVec.ofInt 64 (IntKind.wrap .u64 x7)))) : Nat) : Int)) (IntKind.wrap .u64 x8))) (Int.tmod (IntKind.wrap .u64 (((BitVec.toNat ((BitVec.ofInt 64 (IntKind.wrap .u64 ((IntKind.wrap .u64 x6) * (4294967296 : Int)))) ||| (BitVec.ofInt 64 (IntKind.wrap .u64 x7)))) : Nat) : Int)) (IntKind.wrap .u64 x9)) qs us vs) fun r17 =>
 if (((0 : Int) ≤ r17.2.2.2.2.2.1) ∧ ((r17.2.2.2.2.2.1 ≤ (IntKind.wrap .i64 ((IntKind.wrap .i64 (r17.2.2.2.2.2.1 + r17.2.2.1)) + (1 : Int)))) ∧ (((0 + (Int.toNat (IntKind.wrap .i64 ((IntKind.wrap .i64 (r17.2.2.2.2.2.1 + r17.2.2.1)) + (1 : Int))))) ≤ (List.length r17.2.2.2.2.2.2.2.2.1)) ∧ ((r17.2.2.2.2.2.1 < (IntKind.wrap .i64 ((IntKind.wrap .i64 (r17.2.2.2.2.2.1 + r17.2.2.1)) + (1 : Int)))) ∨ (false = true))))) then
 Option.bind (qfs k (0 + (Int.toNat r17.2.2.2.2.2.1)) ((Int.toNat (IntKind.wrap .i64 ((IntKind.wrap .i64 (r17.2.2.2.2.2.1 + r17.2.2.1)) + (1 : Int)))) - (Int.toNat r17.2.2.2.2.2.1)) r17.2.2.2.2.1 r17.2.2.2.2.2.2.1 r17.2.2.2.2.2.2.2.2.1 r17.2.2.2.2.2.2.2.2.2) fun r18 =>
 if (((0 : Int) ≤ r17.2.2.2.2.2.1) ∧ (r17.2.2.2.2.2.1 < ((r17.1 : Nat) : Int))) then
 Option.bind (r17.2.2.2.2.2.2.2.1)[(0 + (Int.toNat r17.2.2.2.2.2.1))]? fun x10 =>
 rec r17.1 r17.2.1 r17.2.2.1 r17.2.2.2.1 r17.2.2.2.2.1 (IntKind.wrap .i64 (r17.2.2.2.2.2.1 - (1 : Int))) (List.set r17.2.2.2.2.2.2.2.1 (0 + (Int.toNat r17.2.2.2.2.2.1)) r18.1) r18.2.1 r18.2.2
 else
 none
 else
 none
 else
 none
 else
 none
 else
 none
 else
 none
 else
 (some (q, bits, n, u, qs, us, vs))
def qfm (k n : Nat) : Nat → Int → Int → Nat → Nat → Int → List Int → List Int → List Int → Option (Nat × Int × Int × Nat × List Int × List Int × List Int) := Nat.rec (fun _ _ _ _ _ _ _ _ _ => none) (fun _ r => qeF k r) n
def qeG (k : Nat) (rec : Nat → Nat → Int → Nat → Int → Int → List Int → List Int → List Int → Option (Nat × Nat × List Int × List Int × List Int)) (q : Nat) (r : Nat) (bits : Int) (u : Nat) (x : Int) (x1 : Int) (qs : List Int) (rs : List Int) (us : List Int) : Option (Nat × Nat × List Int × List Int × List Int) :=
 if ((decide (x1 < x)) = true) then
 if (((0 : Int) ≤ x1) ∧ (x1 < ((u : Nat) : Int))) then
 Option.bind (us)[(0 + (Int.toNat x1))]? fun x6 =>
 if (bits < (0 : Int)) then
 none
 else
 if (((0 : Int) ≤ (IntKind.wrap .i64 (x1 + (1 : Int)))) ∧ ((IntKind.wrap .i64 (x1 + (1 : Int))) < ((u : Nat) : Int))) then
 Option.bind (us)[(0 + (Int.toNat (IntKind.wrap .i64 (x1 + (1 : Int)))))]? fun x7 =>
 if ((IntKind.wrap .u64 ((32 : Int) - bits)) < (0 : Int)) then
 none
 else
 if (((0 : Int) ≤ x1) ∧ (x1 < ((r : Nat) : Int))) then
 Option.bind (rs)[(0 + (Int.toNat x1))]? fun x8 =>
 rec q r bits u x (IntKind.wrap .i64 (x1 + (1 : Int))) qs (List.set rs (0 + (Int.toNat x1)) (IntKind.wrap .u32 (((BitVec.toNat ((BitVec.ofInt 32 (Int.fdiv x6 ((2 : Int) ^ (min (Int.toNat bits) 32)))) ||| (BitVec.ofInt 32 (IntKind.wrap .u32 (IntKind.wrap .u64 ((IntKind.wrap .u64 x7) * ((2 : Int) ^ (min (Int.toNat (IntKind.wrap .u64 ((32 : Int) - bits))) 64)))))))) : Nat) : Int))) us
 else
 none
 else
 none
 else
 none
 else
 (some (q, r, qs, rs, us))
def qej (k n : Nat) : Nat → Nat → Int → Nat → Int → Int → List Int → List Int → List Int → Option (Nat × Nat × List Int × List Int × List Int) := Nat.rec (fun _ _ _ _ _ _ _ _ _ => none) (fun _ r => qeG k r) n
def qiw (k : Nat) (a : List Int) (b : List Int) : Option (List Int × List Int) :=
 Option.bind (qei k k a b (0 : Int)) fun r14 =>
 Option.bind (qf4 k r14.1 r14.2.2) fun r15 =>
 Option.bind (qf4 k r14.2.1 r14.2.2) fun r16 =>
 if (((0 : Int) ≤ (0 : Int)) ∧ (((0 : Int) ≤ (((List.length r14.2.1) : Nat) : Int)) ∧ (((0 + (Int.toNat (((List.length r14.2.1) : Nat) : Int))) ≤ (List.length r16.2)) ∧ (((0 : Int) < (((List.length r14.2.1) : Nat) : Int)) ∨ (true = true))))) then
 if (((0 : Int) ≤ (IntKind.wrap .i64 (((r15.1 : Nat) : Int) - (((List.length r14.2.1) : Nat) : Int)))) ∧ (((IntKind.wrap .i64 (((r15.1 : Nat) : Int) - (((List.length r14.2.1) : Nat) : Int))) ≤ (IntKind.wrap .i64 (((r15.1 : Nat) : Int) - (((List.length r14.2.1) : Nat) : Int)))) ∧ (((IntKind.wrap .i64 (((r15.1 : Nat) : Int) - (((List.length r14.2.1) : Nat) : Int))) * (4 : Int)) ≤ (140737488355328 : Int)))) then
 Option.bind (qfm k k (Int.toNat (IntKind.wrap .i64 (((r15.1 : Nat) : Int) - (((List.length r14.2.1) : Nat) : Int)))) r14.2.2 (((List.length r14.2.1) : Nat) : Int) r15.1 (Int.toNat (((List.length r14.2.1) : Nat) : Int)) (IntKind.wrap .i64 ((IntKind.wrap .i64 (((r15.1 : Nat) : Int) - (((List.length r14.2.1) : Nat) : Int))) - (1 : Int))) (List.replicate (Int.toNat (IntKind.wrap .i64 (((r15.1 : Nat) : Int) - (((List.length r14.2.1) : Nat) : Int)))) (0 : Int)) r15.2 r16.2) fun r17 =>
 if (((0 : Int) ≤ r17.2.2.1) ∧ ((r17.2.2.1 ≤ r17.2.2.1) ∧ ((r17.2.2.1 * (4 : Int)) ≤ (140737488355328 : Int)))) then
 Option.bind (qej k k r17.1 (Int.toNat r17.2.2.1) r17.2.1 r17.2.2.2.1 r17.2.2.1 (0 : Int) r17.2.2.2.2.1 (List.replicate (Int.toNat r17.2.2.1) (0 : Int)) r17.2.2.2.2.2.1) fun r18 =>
 if ((0 + r18.1) ≤ (List.length r18.2.2.1)) then
 if ((0 + r18.2.1) ≤ (List.length r18.2.2.2.1)) then
 (some ((List.take r18.1 r18.2.2.1), (List.take r18.2.1 r18.2.2.2.1)))
 else
 none
 else
 none
 else
 none
 else
 none
 else
 none
def qhj : Nat → List Int → List Int → Option (List Int × List Int)
 | 0, _, _ => none
 | k + 1, a, b => qiw k a b
def qy6 : Nat → Inst := mkI 242 ⟨[vT, vT], []⟩ [⟨[vT, vT], []⟩] fun k x => qhj k x.1 x.2
theorem qj5 (k : Nat) : qa5 (call cf k) [qu8 k, qvb k] :=
 ac (qxY k) (ac (qxZ k) a0)
def qi7 : SS := ⟨[(0, vT), (1, vT), (6, vU)], [], 0⟩
def qvf (k : Nat) : LInst := mkL 0 [qi7] [⟨some 0, qi7⟩] (fun n x => qei k n x.1 x.2.1 x.2.2) k
theorem qj6 (k : Nat) : LIo 242 Tryz.f242 0 k (qvf k) :=
 lpk [] (qj5 k) l0 (fun _ => rfl) (by kernel_rfl) fun n x => by kernel_rfl
def qvg (k : Nat) : LInst := mkL 4 [⟨[(4, .a (.smz 0)), (6, vU), (7, vI), (8, .a (.smz 1)), (9, .a (.smz 2)), (10, vI), (12, vU), (13, vU)], [(0, some (.arr (.int .u32) 1 106 false)), (1, some (.arr (.int .u32) 1 106 false)), (2, some (.arr (.int .u32) 1 106 false))], 3⟩] [⟨some 4, ⟨[(4, .a (.smz 0)), (6, vU), (7, vI), (8, .a (.smz 1)), (9, .a (.smz 2)), (10, vI), (12, vU)], [(0, some (.arr (.int .u32) 1 106 false)), (1, some (.arr (.int .u32) 1 106 false)), (2, some (.arr (.int .u32) 1 106 false))], 3⟩⟩] (fun n x => qcD k n x.1 x.2.1 x.2.2.1 x.2.2.2.1 x.2.2.2.2.1 x.2.2.2.2.2.1 x.2.2.2.2.2.2.1 x.2.2.2.2.2.2.2.1 x.2.2.2.2.2.2.2.2.1 x.2.2.2.2.2.2.2.2.2.1 x.2.2.2.2.2.2.2.2.2.2) k
theorem qmu (k : Nat) : LIo 242 Tryz.f242 0 k (qvg k) :=
 lpk [] (qj5 k) (lc (qj6 k) l0) (fun _ => rfl) (by kernel_rfl) fun n x => by kernel_rfl
def qvh (k : Nat) : LInst := mkL 2 [⟨[(4, .a (.smz 0)), (6, vU), (7, vI), (8, .a (.smz 1)), (9, .a (.smz 2)), (10, vI)], [(0, some (.arr (.int .u32) 1 106 false)), (1, some (.arr (.int .u32) 1 106 false)), (2, some (.arr (.int .u32) 1 106 false))], 3⟩] [⟨some 2, ⟨[(4, .a (.smz 0)), (6, vU), (7, vI), (8, .a (.smz 1))], [(0, some (.arr (.int .u32) 1 106 false)), (1, some (.arr (.int .u32) 1 106 false)), (2, some (.arr (.int .u32) 1 106 false))], 3⟩⟩] (fun n x => qfm k n x.1 x.2.1 x.2.2.1 x.2.2.2.1 x.2.2.2.2.1 x.2.2.2.2.2.1 x.2.2.2.2.2.2.1 x.2.2.2.2.2.2.2.1 x.2.2.2.2.2.2.2.2) k
theorem qp4 (k : Nat) : LIo 242 Tryz.f242 0 k (qvh k) :=
 lpk [4] (qj5 k) (lc (qj6 k) (lc (qmu k) l0)) (fun _ => rfl) (by kernel_rfl) fun n x => by kernel_rfl
def qvi (k : Nat) : LInst := mkL 6 [⟨[(4, .a (.smz 0)), (5, .a (.smz 1)), (6, vU), (8, .a (.smz 2)), (139, vI), (140, vI)], [(0, some (.arr (.int .u32) 1 106 false)), (1, some (.arr (.int .u32) 1 106 false)), (2, some (.arr (.int .u32) 1 106 false))], 3⟩] [⟨some 6, ⟨[(4, .a (.smz 0)), (5, .a (.smz 1))], [(0, some (.arr (.int .u32) 1 106 false)), (1, some (.arr (.int .u32) 1 106 false)), (2, some (.arr (.int .u32) 1 106 false))], 3⟩⟩] (fun n x => qej k n x.1 x.2.1 x.2.2.1 x.2.2.2.1 x.2.2.2.2.1 x.2.2.2.2.2.1 x.2.2.2.2.2.2.1 x.2.2.2.2.2.2.2.1 x.2.2.2.2.2.2.2.2) k
theorem qvj (k : Nat) : LIo 242 Tryz.f242 0 k (qvi k) :=
 lpk [] (qj5 k) (lc (qj6 k) (lc (qmu k) (lc (qp4 k) l0))) (fun _ => rfl) (by kernel_rfl) fun n x => by kernel_rfl
theorem qx0 : ∀ k, qh (call cf k) (qy6 k) :=
 fnk 0 [0, 2, 6] Tryz.func242 (fun k => (qj5 k)) (fun k => (lc (qj6 k) (lc (qmu k) (lc (qp4 k) (lc (qvj k) l0))))) ⟨rfl, rfl, ⟨rfl, Nat.le_of_ble_eq_true rfl⟩, rfl⟩ (fun _ => rfl) (by kernel_rfl) fun k x => by kernel_rfl

def qdF (k : Nat) (a : List Int) (b : List Int) : Option (List Int × List Int) :=
 Option.bind (qh7 k a b) fun r13 =>
 if ((decide (r13 < (0 : Int))) = true) then
 (some ([], a))
 else
 if (((((List.length b) : Nat) : Int) == (1 : Int)) = true) then
 Option.bind (b)[0]? fun x6 =>
 Option.bind (qh9 k a x6) fun r14 =>
 (some (r14.1, (List.take 1 (r14.2 :: []))))
 else
 Option.bind (qhj k a b) fun r14 =>
 (some (r14.1, r14.2))
def qdG : Nat → List Int → List Int → Option (List Int × List Int)
 | 0, _, _ => none
 | k + 1, a, b => qdF k a b
def qvk : Nat → Inst := mkI 231 ⟨[vT, vT], []⟩ [⟨[vT, vT], []⟩] fun k x => qdG k x.1 x.2
theorem qsB : ∀ k, qh (call cf k) (qvk k) :=
 fnk 0 [] Tryz.func231 (fun k => (ac (qsA k) (ac (qxX k) (ac (qx0 k) a0)))) (fun k => l0) ⟨rfl, rfl, ⟨rfl, Nat.le_of_ble_eq_true rfl⟩, rfl⟩ (fun _ => rfl) (by kernel_rfl) fun k x => by kernel_rfl

def qdx (k : Nat) (rec : List Int → List Int → Bool → List Int → Bool → List Int → Option (List Int × Bool × List Int × Bool × List Int)) (a : List Int) (b : List Int) (m0 : Bool) (m1 : List Int) (m01 : Bool) (m11 : List Int) : Option (List Int × Bool × List Int × Bool × List Int) :=
 if ((decide ((((List.length b) : Nat) : Int) > (0 : Int))) = true) then
 Option.bind (qdG k a b) fun r13 =>
 if (((0 + (List.length r13.2)) * 4) ≤ 140737488355328) then
 if ((0 + (0 + (List.length r13.2))) ≤ (List.length ((List.take 0 []) ++ r13.2))) then
 Option.bind (qdv k (List.take (0 + (List.length r13.2)) ((List.take 0 []) ++ r13.2))) fun r14 =>
 rec b r14 m0 m1 m01 m11
 else
 none
 else
 none
 else
 (some (a, m0, m1, m01, m11))
def qdR (k n : Nat) : List Int → List Int → Bool → List Int → Bool → List Int → Option (List Int × Bool × List Int × Bool × List Int) := Nat.rec (fun _ _ _ _ _ _ => none) (fun _ r => qdx k r) n
def qg6 (k : Nat) (x0 : Bool) (x1 : List Int) (y0 : Bool) (y1 : List Int) : Option (Bool × List Int × Bool × List Int × Bool × List Int) :=
 Option.bind (qdR k k x1 y1 x0 x1 y0 y1) fun r13 =>
 Option.bind (qbt k false r13.1 false) fun r14 =>
 (some (r13.2.1, r13.2.2.1, r13.2.2.2.1, r13.2.2.2.2, r14.1, r14.2))
def qf5 : Nat → Bool → List Int → Bool → List Int → Option (Bool × List Int × Bool × List Int × Bool × List Int)
 | 0, _, _, _, _ => none
 | k + 1, x0, x1, y0, y1 => qg6 k x0 x1 y0 y1
def Iq1 : Nat → Inst := mkI 203 ⟨[.a (.ptr 0 0 0), .a (.ptr 1 0 0)], [.raw [[.lf .bool, .lf cW]] 2 147 true false false, .raw [[.lf .bool, .lf cW]] 2 147 true false false]⟩ [⟨[.a (.ptr 2 0 0)], [.raw [[.lf .bool, .lf cW]] 2 147 true false false, .raw [[.lf .bool, .lf cW]] 2 147 true false false, .raw [[.lf .bool, .lf cW]] 2 147 true false false]⟩] fun k x => qf5 k x.1 x.2.1 x.2.2.1 x.2.2.2
theorem qvl (k : Nat) : qa5 (call cf k) [qvk k, quE k, Iq8 k] :=
 ac (qsB k) (ac (qj1 k) (ac (qoI k) a0))
def qx1 (k : Nat) : LInst := mkL 0 [⟨[(5, vT), (6, vT)], [(0, some (.raw [[.lf .bool, .lf cW]] 2 147 true false false)), (1, some (.raw [[.lf .bool, .lf cW]] 2 147 true false false))], 2⟩] [⟨some 0, ⟨[(5, vT)], [(0, some (.raw [[.lf .bool, .lf cW]] 2 147 true false false)), (1, some (.raw [[.lf .bool, .lf cW]] 2 147 true false false))], 2⟩⟩] (fun n x => qdR k n x.1 x.2.1 x.2.2.1 x.2.2.2.1 x.2.2.2.2.1 x.2.2.2.2.2) k
theorem qx2 (k : Nat) : LIo 203 Tryz.f203 2 k (qx1 k) :=
 lpk [] (qvl k) l0 (fun _ => rfl) (by kernel_rfl) fun n x => by kernel_rfl
theorem qy7 : ∀ k, qh (call cf k) (Iq1 k) :=
 fnk 2 [0] Tryz.func203 (fun k => (qvl k)) (fun k => (lc (qx2 k) l0)) ⟨rfl, rfl, ⟨rfl, Nat.le_of_ble_eq_true rfl⟩, rfl⟩ (fun _ => rfl) (by kernel_rfl) fun k x => by kernel_rfl

def qer (k : Nat) (z : Bool) (x0 : Bool) (x1 : List Int) (y0 : Bool) (y1 : List Int) (r : Bool) : Option (Bool × List Int × Bool × List Int × Bool × List Int × Bool × List Int) :=
 Option.bind (qdG k x1 y1) fun r14 =>
 Option.bind (qbt k x0 r14.2 r) fun r15 =>
 Option.bind (qbt k (!(x0 == y0)) r14.1 z) fun r16 =>
 (some (r16.1, r16.2, x0, x1, y0, y1, r15.1, r15.2))
def qdp : Nat → Bool → Bool → List Int → Bool → List Int → Bool → Option (Bool × List Int × Bool × List Int × Bool × List Int × Bool × List Int)
 | 0, _, _, _, _, _, _ => none
 | k + 1, z, x0, x1, y0, y1, r => qer k z x0 x1 y0 y1 r
def Iq6 : Nat → Inst := mkI 232 ⟨[.a (.ptr 0 0 0), .a (.ptr 1 0 0), .a (.ptr 2 0 0), .a (.ptr 3 0 0)], [.raw [[.lf .bool, .snil 1 106]] 2 147 true false false, .raw [[.lf .bool, .lf cW]] 2 147 true false false, .raw [[.lf .bool, .lf cW]] 2 147 true false false, .raw [[.lf .bool, .snil 1 106]] 2 147 true false false]⟩ [⟨[.a (.ptr 0 0 0), .a (.ptr 3 0 0)], [.raw [[.lf .bool, .lf cW]] 2 147 true false false, .raw [[.lf .bool, .lf cW]] 2 147 true false false, .raw [[.lf .bool, .lf cW]] 2 147 true false false, .raw [[.lf .bool, .lf cW]] 2 147 true false false]⟩] fun k x => qdp k x.1 x.2.1 x.2.2.1 x.2.2.2.1 x.2.2.2.2.1 x.2.2.2.2.2
theorem qy8 : ∀ k, qh (call cf k) (Iq6 k) :=
 fnk 4 [] Tryz.func232 (fun k => (ac (qsB k) (ac (qoI k) a0))) (fun k => l0) ⟨rfl, rfl, ⟨rfl, Nat.le_of_ble_eq_true rfl⟩, rfl⟩ (fun _ => rfl) (by kernel_rfl) fun k x => by kernel_rfl

def qjn (k : Nat) (z : Bool) (x0 : Bool) (x1 : List Int) (y0 : Bool) (y1 : List Int) : Option (Bool × List Int × Bool × List Int × Bool × List Int) :=
 Option.bind (qdp k z x0 x1 y0 y1 false) fun r14 =>
 (some (r14.1, r14.2.1, r14.2.2.1, r14.2.2.2.1, r14.2.2.2.2.1, r14.2.2.2.2.2.1))
def qbZ : Nat → Bool → Bool → List Int → Bool → List Int → Option (Bool × List Int × Bool × List Int × Bool × List Int)
 | 0, _, _, _, _, _ => none
 | k + 1, z, x0, x1, y0, y1 => qjn k z x0 x1 y0 y1
def Iq7 : Nat → Inst := mkI 204 ⟨[.a (.ptr 0 0 0), .a (.ptr 1 0 0), .a (.ptr 2 0 0)], [.raw [[.lf .bool, .snil 1 106]] 2 147 true false false, .raw [[.lf .bool, .lf cW]] 2 147 true false false, .raw [[.lf .bool, .lf cW]] 2 147 true false false]⟩ [⟨[.a (.ptr 0 0 0)], [.raw [[.lf .bool, .lf cW]] 2 147 true false false, .raw [[.lf .bool, .lf cW]] 2 147 true false false, .raw [[.lf .bool, .lf cW]] 2 147 true false false]⟩] fun k x => qbZ k x.1 x.2.1 x.2.2.1 x.2.2.2.1 x.2.2.2.2
theorem qy9 : ∀ k, qh (call cf k) (Iq7 k) :=
 fnk 3 [] Tryz.func204 (fun k => (ac (qy8 k) a0)) (fun k => l0) ⟨rfl, rfl, ⟨rfl, Nat.le_of_ble_eq_true rfl⟩, rfl⟩ (fun _ => rfl) (by kernel_rfl) fun k x => by kernel_rfl

def qcV (k : Nat) (z0 : Bool) (z1 : Bool) (n0 : Bool) (n1 : List Int) (d0 : Bool) (d1 : List Int) : Option (Bool × List Int × Bool × List Int × Bool × List Int × Bool × List Int) :=
 Option.bind (qf5 k n0 n1 d0 d1) fun r13 =>
 if (r13.2.2.1 = true) then
 Option.bind (qbZ k false r13.1 r13.2.1 true r13.2.2.2.2.2) fun r14 =>
 Option.bind (qbZ k false r13.2.2.1 r13.2.2.2.1 r14.2.2.2.2.1 r14.2.2.2.2.2) fun r15 =>
 (some (r14.1, r14.2.1, r15.1, r15.2.1, r14.2.2.1, r14.2.2.2.1, r15.2.2.1, r15.2.2.2.1))
 else
 Option.bind (qbZ k false r13.1 r13.2.1 r13.2.2.2.2.1 r13.2.2.2.2.2) fun r14 =>
 Option.bind (qbZ k false r13.2.2.1 r13.2.2.2.1 r14.2.2.2.2.1 r14.2.2.2.2.2) fun r15 =>
 (some (r14.1, r14.2.1, r15.1, r15.2.1, r14.2.2.1, r14.2.2.2.1, r15.2.2.1, r15.2.2.2.1))
def qcW : Nat → Bool → Bool → Bool → List Int → Bool → List Int → Option (Bool × List Int × Bool × List Int × Bool × List Int × Bool × List Int)
 | 0, _, _, _, _, _, _ => none
 | k + 1, z0, z1, n0, n1, d0, d1 => qcV k z0 z1 n0 n1 d0 d1
def qza : Nat → Inst := mkI 144 ⟨[.a (.ptr 0 0 0), .a (.ptr 1 0 0), .a (.ptr 2 0 0)], [.raw [[.lf .bool, .snil 1 106, .lf .bool, .snil 1 106]] 4 180 true false false, .raw [[.lf .bool, .lf cW]] 2 147 true false false, .raw [[.lf .bool, .lf cW]] 2 147 true false false]⟩ [⟨[.a (.ptr 0 0 0)], [.raw [[.lf .bool, .lf cW, .lf .bool, .lf cW]] 4 180 true false false, .raw [[.lf .bool, .lf cW]] 2 147 true false false, .raw [[.lf .bool, .lf cW]] 2 147 true false false]⟩] fun k x => qcW k x.1 x.2.1 x.2.2.1 x.2.2.2.1 x.2.2.2.2.1 x.2.2.2.2.2
theorem qx3 : ∀ k, qh (call cf k) (qza k) :=
 fnk 3 [] Tryz.func144 (fun k => (ac (qy7 k) (ac (qy9 k) a0))) (fun k => l0) ⟨rfl, rfl, ⟨rfl, Nat.le_of_ble_eq_true rfl⟩, rfl⟩ (fun _ => rfl) (by kernel_rfl) fun k x => by kernel_rfl

def qk9 (k : Nat) (n0 : Bool) (n1 : List Int) (d0 : Bool) (d1 : List Int) : Option (Bool × List Int × Bool × List Int × Bool × List Int × Bool × List Int) :=
 Option.bind (qcW k false false n0 n1 d0 d1) fun r13 =>
 (some (r13.2.2.2.2.1, r13.2.2.2.2.2.1, r13.2.2.2.2.2.2.1, r13.2.2.2.2.2.2.2, r13.1, r13.2.1, r13.2.2.1, r13.2.2.2.1))
def qee : Nat → Bool → List Int → Bool → List Int → Option (Bool × List Int × Bool × List Int × Bool × List Int × Bool × List Int)
 | 0, _, _, _, _ => none
 | k + 1, n0, n1, d0, d1 => qk9 k n0 n1 d0 d1
def Iq0 : Nat → Inst := mkI 89 ⟨[.a (.ptr 0 0 0), .a (.ptr 1 0 0)], [.raw [[.lf .bool, .lf cW]] 2 147 true false false, .raw [[.lf .bool, .lf cW]] 2 147 true false false]⟩ [⟨[.a (.ptr 2 0 0)], [.raw [[.lf .bool, .lf cW]] 2 147 true false false, .raw [[.lf .bool, .lf cW]] 2 147 true false false, .raw [[.lf .bool, .lf cW, .lf .bool, .lf cW]] 4 180 true false false]⟩] fun k x => qee k x.1 x.2.1 x.2.2.1 x.2.2.2
theorem qzb : ∀ k, qh (call cf k) (Iq0 k) :=
 fnk 2 [] Tryz.func89 (fun k => (ac (qx3 k) a0)) (fun k => l0) ⟨rfl, rfl, ⟨rfl, Nat.le_of_ble_eq_true rfl⟩, rfl⟩ (fun _ => rfl) (by kernel_rfl) fun k x => by kernel_rfl

def qgA (k : Nat) (n0 : Int) (n1 : Int) : Option (Bool × List Int × Bool × List Int) :=
 Option.bind (qh6 k (max n1 (IntKind.wrap .i64 ((0 : Int) - n1)))) fun r11 =>
 if ((decide (n1 < (0 : Int))) = true) then
 Option.bind (qca k n0) fun r12 =>
 Option.bind (qee k r12.1 r12.2 r11.1 r11.2) fun r13 =>
 (some (r13.2.2.2.2.1, r13.2.2.2.2.2.1, r13.2.2.2.2.2.2.1, r13.2.2.2.2.2.2.2))
 else
 Option.bind (qca k n0) fun r12 =>
 Option.bind (qdd k r11.1 r11.2 r12.1 r12.2) fun r13 =>
 Option.bind (qca k (1 : Int)) fun r14 =>
 Option.bind (qee k r13.1 r13.2.1 r14.1 r14.2) fun r15 =>
 (some (r15.2.2.2.2.1, r15.2.2.2.2.2.1, r15.2.2.2.2.2.2.1, r15.2.2.2.2.2.2.2))
def qfP : Nat → Int → Int → Option (Bool × List Int × Bool × List Int)
 | 0, _, _ => none
 | k + 1, n0, n1 => qgA k n0 n1
def qzc : Nat → Inst := mkI 214 ⟨[.g [.lf (.int .i64), .lf (.int .i64)]], []⟩ [⟨[.a (.ptr 0 0 0)], [.raw [[.lf .bool, .lf cW, .lf .bool, .lf cW]] 4 180 true false false]⟩] fun k x => qfP k x.1 x.2
theorem qx4 : ∀ k, qh (call cf k) (qzc k) :=
 fnk 0 [] Tryz.func214 (fun k => (ac (qxW k) (ac (qoJ k) (ac (qzb k) (ac (qu3 k) a0))))) (fun k => l0) ⟨rfl, rfl, ⟨rfl, Nat.le_of_ble_eq_true rfl⟩, rfl⟩ (fun _ => rfl) (by kernel_rfl) fun k x => by kernel_rfl

def qkB (k : Nat) (neg : Bool) (w : List Int) : Option (Bool × List Int) :=
 if (((0 + (List.length w)) * 4) ≤ 140737488355328) then
 if ((0 + (0 + (List.length w))) ≤ (List.length ((List.take 0 []) ++ w))) then
 Option.bind (qdv k (List.take (0 + (List.length w)) ((List.take 0 []) ++ w))) fun r13 =>
 if (neg = true) then
 (some ((decide ((((List.length r13) : Nat) : Int) > (0 : Int))), r13))
 else
 (some (false, r13))
 else
 none
 else
 none
def qhD : Nat → Bool → List Int → Option (Bool × List Int)
 | 0, _, _ => none
 | k + 1, neg, w => qkB k neg w
def qzd : Nat → Inst := mkI 202 ⟨[vB, vT], []⟩ [⟨[.a (.ptr 0 0 0)], [.raw [[.lf .bool, .lf cW]] 2 147 true false false]⟩] fun k x => qhD k x.1 x.2
theorem qx5 : ∀ k, qh (call cf k) (qzd k) :=
 fnk 0 [] Tryz.func202 (fun k => (ac (qj1 k) a0)) (fun k => l0) ⟨rfl, rfl, ⟨rfl, Nat.le_of_ble_eq_true rfl⟩, rfl⟩ (fun _ => rfl) (by kernel_rfl) fun k x => by kernel_rfl

def qeH (k : Nat) (z0 : Bool) (z1 : List Int) (z2 : Bool) (z3 : List Int) : Option (Bool × List Int × Bool × List Int × Bool × List Int) :=
 if (((((List.length z3) : Nat) : Int) == (0 : Int)) = true) then
 Option.bind (qca k (1 : Int)) fun r13 =>
 (some (z0, z1, z2, z3, r13.1, r13.2))
 else
 Option.bind (qhD k false z3) fun r13 =>
 (some (z0, z1, z2, z3, r13.1, r13.2))
def qcF : Nat → Bool → List Int → Bool → List Int → Option (Bool × List Int × Bool × List Int × Bool × List Int)
 | 0, _, _, _, _ => none
 | k + 1, z0, z1, z2, z3 => qeH k z0 z1 z2 z3
def qze : Nat → Inst := mkI 143 ⟨[.a (.ptr 0 0 0)], [.raw [[.lf .bool, .lf cW, .lf .bool, .lf cW]] 4 180 true false false]⟩ [⟨[.a (.ptr 1 0 0)], [.raw [[.lf .bool, .lf cW, .lf .bool, .lf cW]] 4 180 true false false, .raw [[.lf .bool, .lf cW]] 2 147 true false false]⟩] fun k x => qcF k x.1 x.2.1 x.2.2.1 x.2.2.2
theorem qx6 : ∀ k, qh (call cf k) (qze k) :=
 fnk 1 [] Tryz.func143 (fun k => (ac (qoJ k) (ac (qx5 k) a0))) (fun k => l0) ⟨rfl, rfl, ⟨rfl, Nat.le_of_ble_eq_true rfl⟩, rfl⟩ (fun _ => rfl) (by kernel_rfl) fun k x => by kernel_rfl

def qes (k : Nat) (rec : Nat → Int → Int → Int → List Int → Int → Int → List Int → Int → Int → Bool → Bool → List Int → Bool → List Int → Bool → List Int → List Int → Option (Nat × Int × Int × List Int × Int × Int × Bool × Bool × List Int × Bool × List Int × Bool × List Int × List Int)) (out1 : Nat) (i : Int) (a : Int) (carry : Int) (x : List Int) (x1 : Int) (x2 : Int) (x3 : List Int) (x4 : Int) (x5 : Int) (z : Bool) (x0 : Bool) (x11 : List Int) (x21 : Bool) (x31 : List Int) (y0 : Bool) (y1 : List Int) (outs : List Int) : Option (Nat × Int × Int × List Int × Int × Int × Bool × Bool × List Int × Bool × List Int × Bool × List Int × List Int) :=
 if ((decide (x5 < x4)) = true) then
 if ((0 : Int) ≤ x5) then
 Option.bind (x3)[(Int.toNat x5)]? fun x7 =>
 if (((0 : Int) ≤ (IntKind.wrap .i64 (i + x5))) ∧ ((IntKind.wrap .i64 (i + x5)) < ((out1 : Nat) : Int))) then
 Option.bind (outs)[(0 + (Int.toNat (IntKind.wrap .i64 (i + x5))))]? fun x8 =>
 if (((0 : Int) ≤ (IntKind.wrap .i64 (i + x5))) ∧ ((IntKind.wrap .i64 (i + x5)) < ((out1 : Nat) : Int))) then
 Option.bind (outs)[(0 + (Int.toNat (IntKind.wrap .i64 (i + x5))))]? fun x9 =>
 rec out1 i a (Int.fdiv (IntKind.wrap .u64 ((IntKind.wrap .u64 ((IntKind.wrap .u64 ((IntKind.wrap .u64 a) * (IntKind.wrap .u64 x7))) + (IntKind.wrap .u64 x8))) + carry)) (4294967296 : Int)) x x1 x2 x3 x4 (IntKind.wrap .i64 (x5 + (1 : Int))) z x0 x11 x21 x31 y0 y1 (List.set outs (0 + (Int.toNat (IntKind.wrap .i64 (i + x5)))) (IntKind.wrap .u32 (IntKind.wrap .u64 ((IntKind.wrap .u64 ((IntKind.wrap .u64 ((IntKind.wrap .u64 a) * (IntKind.wrap .u64 x7))) + (IntKind.wrap .u64 x8))) + carry))))
 else
 none
 else
 none
 else
 none
 else
 (some (out1, i, carry, x, x1, x2, z, x0, x11, x21, x31, y0, y1, outs))
def qdy (k n : Nat) : Nat → Int → Int → Int → List Int → Int → Int → List Int → Int → Int → Bool → Bool → List Int → Bool → List Int → Bool → List Int → List Int → Option (Nat × Int × Int × List Int × Int × Int × Bool × Bool × List Int × Bool × List Int × Bool × List Int × List Int) := Nat.rec (fun _ _ _ _ _ _ _ _ _ _ _ _ _ _ _ _ _ _ => none) (fun _ r => qes k r) n
def qet (k : Nat) (rec : Nat → List Int → Int → Int → Bool → Bool → List Int → Bool → List Int → Bool → List Int → List Int → Option (Nat × Bool × Bool × List Int × Bool × List Int × Bool × List Int × List Int)) (out1 : Nat) (x : List Int) (x1 : Int) (x2 : Int) (z : Bool) (x0 : Bool) (x11 : List Int) (x21 : Bool) (x3 : List Int) (y0 : Bool) (y1 : List Int) (outs : List Int) : Option (Nat × Bool × Bool × List Int × Bool × List Int × Bool × List Int × List Int) :=
 if ((decide (x2 < x1)) = true) then
 if ((0 : Int) ≤ x2) then
 Option.bind (x)[(Int.toNat x2)]? fun x6 =>
 Option.bind (qdy k k out1 x2 x6 (0 : Int) x x1 x2 y1 (((List.length y1) : Nat) : Int) (0 : Int) z x0 x11 x21 x3 y0 y1 outs) fun r14 =>
 if (((0 : Int) ≤ (IntKind.wrap .i64 (r14.2.1 + (((List.length r14.2.2.2.2.2.2.2.2.2.2.2.2.1) : Nat) : Int)))) ∧ ((IntKind.wrap .i64 (r14.2.1 + (((List.length r14.2.2.2.2.2.2.2.2.2.2.2.2.1) : Nat) : Int))) < ((r14.1 : Nat) : Int))) then
 Option.bind (r14.2.2.2.2.2.2.2.2.2.2.2.2.2)[(0 + (Int.toNat (IntKind.wrap .i64 (r14.2.1 + (((List.length r14.2.2.2.2.2.2.2.2.2.2.2.2.1) : Nat) : Int)))))]? fun x7 =>
 rec r14.1 r14.2.2.2.1 r14.2.2.2.2.1 (IntKind.wrap .i64 (r14.2.2.2.2.2.1 + (1 : Int))) r14.2.2.2.2.2.2.1 r14.2.2.2.2.2.2.2.1 r14.2.2.2.2.2.2.2.2.1 r14.2.2.2.2.2.2.2.2.2.1 r14.2.2.2.2.2.2.2.2.2.2.1 r14.2.2.2.2.2.2.2.2.2.2.2.1 r14.2.2.2.2.2.2.2.2.2.2.2.2.1 (List.set r14.2.2.2.2.2.2.2.2.2.2.2.2.2 (0 + (Int.toNat (IntKind.wrap .i64 (r14.2.1 + (((List.length r14.2.2.2.2.2.2.2.2.2.2.2.2.1) : Nat) : Int))))) (IntKind.wrap .u32 r14.2.2.1))
 else
 none
 else
 none
 else
 (some (out1, z, x0, x11, x21, x3, y0, y1, outs))
def qdz (k n : Nat) : Nat → List Int → Int → Int → Bool → Bool → List Int → Bool → List Int → Bool → List Int → List Int → Option (Nat × Bool × Bool × List Int × Bool × List Int × Bool × List Int × List Int) := Nat.rec (fun _ _ _ _ _ _ _ _ _ _ _ _ => none) (fun _ r => qet k r) n
def qfx (k : Nat) (z : Bool) (x0 : Bool) (x1 : List Int) (x2 : Bool) (x3 : List Int) (y0 : Bool) (y1 : List Int) : Option (Bool × List Int × Bool × List Int × Bool × List Int × Bool × List Int) :=
 if (((0 : Int) ≤ (IntKind.wrap .i64 ((((List.length x1) : Nat) : Int) + (((List.length y1) : Nat) : Int)))) ∧ (((IntKind.wrap .i64 ((((List.length x1) : Nat) : Int) + (((List.length y1) : Nat) : Int))) ≤ (IntKind.wrap .i64 ((((List.length x1) : Nat) : Int) + (((List.length y1) : Nat) : Int)))) ∧ (((IntKind.wrap .i64 ((((List.length x1) : Nat) : Int) + (((List.length y1) : Nat) : Int))) * (4 : Int)) ≤ (140737488355328 : Int)))) then
 Option.bind (qdz k k (Int.toNat (IntKind.wrap .i64 ((((List.length x1) : Nat) : Int) + (((List.length y1) : Nat) : Int)))) x1 (((List.length x1) : Nat) : Int) (0 : Int) z x0 x1 x2 x3 y0 y1 (List.replicate (Int.toNat (IntKind.wrap .i64 ((((List.length x1) : Nat) : Int) + (((List.length y1) : Nat) : Int)))) (0 : Int))) fun r14 =>
 if ((0 + r14.1) ≤ (List.length r14.2.2.2.2.2.2.2.2)) then
 Option.bind (qbt k (!(r14.2.2.1 == r14.2.2.2.2.2.2.1)) (List.take r14.1 r14.2.2.2.2.2.2.2.2) r14.2.1) fun r15 =>
 (some (r15.1, r15.2, r14.2.2.1, r14.2.2.2.1, r14.2.2.2.2.1, r14.2.2.2.2.2.1, r14.2.2.2.2.2.2.1, r14.2.2.2.2.2.2.2.1))
 else
 none
 else
 none
def qde : Nat → Bool → Bool → List Int → Bool → List Int → Bool → List Int → Option (Bool × List Int × Bool × List Int × Bool × List Int × Bool × List Int)
 | 0, _, _, _, _, _, _, _ => none
 | k + 1, z, x0, x1, x2, x3, y0, y1 => qfx k z x0 x1 x2 x3 y0 y1
def Iq5 : Nat → Inst := mkI 155 ⟨[.a (.ptr 0 0 0), .a (.ptr 1 0 0), .a (.ptr 2 0 0)], [.raw [[.lf .bool, .snil 1 106]] 2 147 true false false, .raw [[.lf .bool, .lf cW, .lf .bool, .lf cW]] 4 180 true false false, .raw [[.lf .bool, .lf cW]] 2 147 true false false]⟩ [⟨[.a (.ptr 0 0 0)], [.raw [[.lf .bool, .lf cW]] 2 147 true false false, .raw [[.lf .bool, .lf cW, .lf .bool, .lf cW]] 4 180 true false false, .raw [[.lf .bool, .lf cW]] 2 147 true false false]⟩] fun k x => qde k x.1 x.2.1 x.2.2.1 x.2.2.2.1 x.2.2.2.2.1 x.2.2.2.2.2.1 x.2.2.2.2.2.2
theorem qrK (k : Nat) : qa5 (call cf k) [Iq8 k] :=
 ac (qoI k) a0
def qx7 (k : Nat) : LInst := mkL 2 [⟨[(0, .a (.ptr 0 0 0)), (1, .a (.ptr 1 0 0)), (2, .a (.ptr 2 0 0)), (7, .a (.smz 3)), (8, vI), (9, .a (.lf (.int .u32))), (10, vU), (29, vT), (30, vI), (31, vI), (39, vT), (40, vI), (41, vI)], [(0, some (.raw [[.lf .bool, .snil 1 106]] 2 147 true false false)), (1, some (.raw [[.lf .bool, .lf cW, .lf .bool, .lf cW]] 4 180 true false false)), (2, some (.raw [[.lf .bool, .lf cW]] 2 147 true false false)), (3, some (.arr (.int .u32) 1 106 false))], 4⟩] [⟨some 2, ⟨[(0, .a (.ptr 0 0 0)), (1, .a (.ptr 1 0 0)), (2, .a (.ptr 2 0 0)), (7, .a (.smz 3)), (8, vI), (10, vU), (29, vT), (30, vI), (31, vI)], [(0, some (.raw [[.lf .bool, .snil 1 106]] 2 147 true false false)), (1, some (.raw [[.lf .bool, .lf cW, .lf .bool, .lf cW]] 4 180 true false false)), (2, some (.raw [[.lf .bool, .lf cW]] 2 147 true false false)), (3, some (.arr (.int .u32) 1 106 false))], 4⟩⟩] (fun n x => qdy k n x.1 x.2.1 x.2.2.1 x.2.2.2.1 x.2.2.2.2.1 x.2.2.2.2.2.1 x.2.2.2.2.2.2.1 x.2.2.2.2.2.2.2.1 x.2.2.2.2.2.2.2.2.1 x.2.2.2.2.2.2.2.2.2.1 x.2.2.2.2.2.2.2.2.2.2.1 x.2.2.2.2.2.2.2.2.2.2.2.1 x.2.2.2.2.2.2.2.2.2.2.2.2.1 x.2.2.2.2.2.2.2.2.2.2.2.2.2.1 x.2.2.2.2.2.2.2.2.2.2.2.2.2.2.1 x.2.2.2.2.2.2.2.2.2.2.2.2.2.2.2.1 x.2.2.2.2.2.2.2.2.2.2.2.2.2.2.2.2.1 x.2.2.2.2.2.2.2.2.2.2.2.2.2.2.2.2.2) k
theorem qsC (k : Nat) : LIo 155 Tryz.f155 3 k (qx7 k) :=
 lpk [] (qrK k) l0 (fun _ => rfl) (by kernel_rfl) fun n x => by kernel_rfl
def qx8 (k : Nat) : LInst := mkL 0 [⟨[(0, .a (.ptr 0 0 0)), (1, .a (.ptr 1 0 0)), (2, .a (.ptr 2 0 0)), (7, .a (.smz 3)), (29, vT), (30, vI), (31, vI)], [(0, some (.raw [[.lf .bool, .snil 1 106]] 2 147 true false false)), (1, some (.raw [[.lf .bool, .lf cW, .lf .bool, .lf cW]] 4 180 true false false)), (2, some (.raw [[.lf .bool, .lf cW]] 2 147 true false false)), (3, some (.arr (.int .u32) 1 106 false))], 4⟩] [⟨some 0, ⟨[(0, .a (.ptr 0 0 0)), (1, .a (.ptr 1 0 0)), (2, .a (.ptr 2 0 0)), (7, .a (.smz 3))], [(0, some (.raw [[.lf .bool, .snil 1 106]] 2 147 true false false)), (1, some (.raw [[.lf .bool, .lf cW, .lf .bool, .lf cW]] 4 180 true false false)), (2, some (.raw [[.lf .bool, .lf cW]] 2 147 true false false)), (3, some (.arr (.int .u32) 1 106 false))], 4⟩⟩] (fun n x => qdz k n x.1 x.2.1 x.2.2.1 x.2.2.2.1 x.2.2.2.2.1 x.2.2.2.2.2.1 x.2.2.2.2.2.2.1 x.2.2.2.2.2.2.2.1 x.2.2.2.2.2.2.2.2.1 x.2.2.2.2.2.2.2.2.2.1 x.2.2.2.2.2.2.2.2.2.2.1 x.2.2.2.2.2.2.2.2.2.2.2) k
theorem qx9 (k : Nat) : LIo 155 Tryz.f155 3 k (qx8 k) :=
 lpk [2] (qrK k) (lc (qsC k) l0) (fun _ => rfl) (by kernel_rfl) fun n x => by kernel_rfl
theorem qzf : ∀ k, qh (call cf k) (Iq5 k) :=
 fnk 3 [0] Tryz.func155 (fun k => (qrK k)) (fun k => (lc (qsC k) (lc (qx9 k) l0))) ⟨rfl, rfl, ⟨rfl, Nat.le_of_ble_eq_true rfl⟩, rfl⟩ (fun _ => rfl) (by kernel_rfl) fun k x => by kernel_rfl

def qfy (k : Nat) (z0 : Bool) (z1 : List Int) (y0 : Bool) (y1 : List Int) : Option (Int × Bool × List Int × Bool × List Int) :=
 if ((!(z0 == y0)) = true) then
 if (z0 = true) then
 (some ((-(1 : Int)), z0, z1, y0, y1))
 else
 (some ((1 : Int), z0, z1, y0, y1))
 else
 Option.bind (qh7 k z1 y1) fun r17 =>
 if (z0 = true) then
 (some ((IntKind.wrap .i64 ((0 : Int) - r17)), z0, z1, y0, y1))
 else
 (some (r17, z0, z1, y0, y1))
def qd1 : Nat → Bool → List Int → Bool → List Int → Option (Int × Bool × List Int × Bool × List Int)
 | 0, _, _, _, _ => none
 | k + 1, z0, z1, y0, y1 => qfy k z0 z1 y0 y1
def Iq2 : Nat → Inst := mkI 156 ⟨[.a (.ptr 0 0 0), .a (.ptr 1 0 0)], [.raw [[.lf .bool, .lf cW]] 2 147 true false false, .raw [[.lf .bool, .lf cW]] 2 147 true false false]⟩ [⟨[vI], [.raw [[.lf .bool, .lf cW]] 2 147 true false false, .raw [[.lf .bool, .lf cW]] 2 147 true false false]⟩] fun k x => qd1 k x.1 x.2.1 x.2.2.1 x.2.2.2
theorem qzg : ∀ k, qh (call cf k) (Iq2 k) :=
 fnk 2 [] Tryz.func156 (fun k => (ac (qsA k) a0)) (fun k => l0) ⟨rfl, rfl, ⟨rfl, Nat.le_of_ble_eq_true rfl⟩, rfl⟩ (fun _ => rfl) (by kernel_rfl) fun k x => by kernel_rfl

def qjo (k : Nat) (z0 : Bool) (z1 : List Int) (z2 : Bool) (z3 : List Int) (y0 : Bool) (y1 : List Int) (y2 : Bool) (y3 : List Int) : Option (Int × Bool × List Int × Bool × List Int × Bool × List Int × Bool × List Int) :=
 Option.bind (qcF k y0 y1 y2 y3) fun r13 =>
 Option.bind (qde k false z0 z1 z2 z3 r13.2.2.2.2.1 r13.2.2.2.2.2) fun r14 =>
 Option.bind (qcF k r14.2.2.1 r14.2.2.2.1 r14.2.2.2.2.1 r14.2.2.2.2.2.1) fun r15 =>
 Option.bind (qde k false r13.1 r13.2.1 r13.2.2.1 r13.2.2.2.1 r15.2.2.2.2.1 r15.2.2.2.2.2) fun r16 =>
 Option.bind (qd1 k r14.1 r14.2.1 r16.1 r16.2.1) fun r17 =>
 (some (r17.1, r15.1, r15.2.1, r15.2.2.1, r15.2.2.2.1, r16.2.2.1, r16.2.2.2.1, r16.2.2.2.2.1, r16.2.2.2.2.2.1))
def qd2 : Nat → Bool → List Int → Bool → List Int → Bool → List Int → Bool → List Int → Option (Int × Bool × List Int × Bool × List Int × Bool × List Int × Bool × List Int)
 | 0, _, _, _, _, _, _, _, _ => none
 | k + 1, z0, z1, z2, z3, y0, y1, y2, y3 => qjo k z0 z1 z2 z3 y0 y1 y2 y3
def qzh : Nat → Inst := mkI 100 ⟨[.a (.ptr 0 0 0), .a (.ptr 1 0 0)], [.raw [[.lf .bool, .lf cW, .lf .bool, .lf cW]] 4 180 true false false, .raw [[.lf .bool, .lf cW, .lf .bool, .lf cW]] 4 180 true false false]⟩ [⟨[vI], [.raw [[.lf .bool, .lf cW, .lf .bool, .lf cW]] 4 180 true false false, .raw [[.lf .bool, .lf cW, .lf .bool, .lf cW]] 4 180 true false false]⟩] fun k x => qd2 k x.1 x.2.1 x.2.2.1 x.2.2.2.1 x.2.2.2.2.1 x.2.2.2.2.2.1 x.2.2.2.2.2.2.1 x.2.2.2.2.2.2.2
theorem qya : ∀ k, qh (call cf k) (qzh k) :=
 fnk 2 [] Tryz.func100 (fun k => (ac (qx6 k) (ac (qzf k) (ac (qzg k) a0)))) (fun k => l0) ⟨rfl, rfl, ⟨rfl, Nat.le_of_ble_eq_true rfl⟩, rfl⟩ (fun _ => rfl) (by kernel_rfl) fun k x => by kernel_rfl

def qjp (k : Nat) (a0 : Int) (a1 : Int) (b0 : Int) (b1 : Int) : Option (Int × Int) :=
 Option.bind (qW k a0 a1) fun r9 =>
 if ((!r9) = false) then
 Option.bind (qW k b0 b1) fun r10 =>
 if ((!r10) = true) then
 (some ((0 : Int), (30 : Int)))
 else
 Option.bind (qfP k a0 a1) fun r11 =>
 Option.bind (qfP k b0 b1) fun r12 =>
 Option.bind (qd2 k r11.1 r11.2.1 r11.2.2.1 r11.2.2.2 r12.1 r12.2.1 r12.2.2.1 r12.2.2.2) fun r13 =>
 (some (r13.1, (0 : Int)))
 else
 (some ((0 : Int), (30 : Int)))
def qg7 : Nat → Int → Int → Int → Int → Option (Int × Int)
 | 0, _, _, _, _ => none
 | k + 1, a0, a1, b0, b1 => qjp k a0 a1 b0 b1
def qvm : Nat → Inst := mkI 227 ⟨[.g [.lf (.int .i64), .lf (.int .i64)], .g [.lf (.int .i64), .lf (.int .i64)]], []⟩ [⟨[vI, vI], []⟩] fun k x => qg7 k x.1 x.2.1 x.2.2.1 x.2.2.2
theorem qyb : ∀ k, qh (call cf k) (qvm k) :=
 fnk 0 [] Tryz.func227 (fun k => (ac (qj2 k) (ac (qx4 k) (ac (qya k) a0)))) (fun k => l0) ⟨rfl, rfl, ⟨rfl, Nat.le_of_ble_eq_true rfl⟩, rfl⟩ (fun _ => rfl) (by kernel_rfl) fun k x => by kernel_rfl

def qcd (k : Nat) (rec : List (Int × Int) → List (Int × Int) → Int → List (Int × Int) → Int → Int → ByteArray → Int → List (Int × Int) → List (Int × Int) → Option ((Bool × ByteArray × Int × List (Int × Int) × List (Int × Int) × Int × Int) ⊕ (List (Int × Int) × List (Int × Int) × Int × ByteArray × Int × List (Int × Int) × List (Int × Int)))) (x0 : List (Int × Int)) (x1 : List (Int × Int)) (x : Int) (x2 : List (Int × Int)) (x3 : Int) (x4 : Int) (m0 : ByteArray) (m1 : Int) (m2 : List (Int × Int)) (m3 : List (Int × Int)) : Option ((Bool × ByteArray × Int × List (Int × Int) × List (Int × Int) × Int × Int) ⊕ (List (Int × Int) × List (Int × Int) × Int × ByteArray × Int × List (Int × Int) × List (Int × Int))) :=
 if ((decide (x4 < x3)) = true) then
 if ((0 : Int) ≤ x4) then
 Option.bind (x2)[(Int.toNat x4)]? fun x5 =>
 Option.bind (qW k x5.1 x5.2) fun r8 =>
 if ((!r8) = true) then
 (some (Sum.inl (false, m0, m1, m2, m3, x5.1, x5.2)))
 else
 rec x0 x1 x x2 x3 (IntKind.wrap .i64 (x4 + (1 : Int))) m0 m1 m2 m3
 else
 none
 else
 (some (Sum.inr (x0, x1, x, m0, m1, m2, m3)))
def qaI (k n : Nat) : List (Int × Int) → List (Int × Int) → Int → List (Int × Int) → Int → Int → ByteArray → Int → List (Int × Int) → List (Int × Int) → Option ((Bool × ByteArray × Int × List (Int × Int) × List (Int × Int) × Int × Int) ⊕ (List (Int × Int) × List (Int × Int) × Int × ByteArray × Int × List (Int × Int) × List (Int × Int))) := Nat.rec (fun _ _ _ _ _ _ _ _ _ _ => none) (fun _ r => qcd k r) n
def qcO (k : Nat) (rec : List (Int × Int) → List (Int × Int) → Int → ByteArray → Int → List (Int × Int) → List (Int × Int) → Option ((Bool × ByteArray × Int × List (Int × Int) × List (Int × Int) × Int × Int) ⊕ (ByteArray × Int × List (Int × Int) × List (Int × Int)))) (x0 : List (Int × Int)) (x1 : List (Int × Int)) (x : Int) (m0 : ByteArray) (m1 : Int) (m2 : List (Int × Int)) (m3 : List (Int × Int)) : Option ((Bool × ByteArray × Int × List (Int × Int) × List (Int × Int) × Int × Int) ⊕ (ByteArray × Int × List (Int × Int) × List (Int × Int))) :=
 if ((decide (x < (2 : Int))) = true) then
 if (x = (0 : Int)) then
 Option.bind (qaI k k x0 x1 x x0 (((List.length x0) : Nat) : Int) (0 : Int) m0 m1 m2 m3) fun r8 =>
 qc r8
 (fun r8 =>
 (some (Sum.inl (r8.1, r8.2.1, r8.2.2.1, r8.2.2.2.1, r8.2.2.2.2.1, r8.2.2.2.2.2.1, r8.2.2.2.2.2.2))))
 (fun r8 =>
 rec r8.1 r8.2.1 (IntKind.wrap .i64 (r8.2.2.1 + (1 : Int))) r8.2.2.2.1 r8.2.2.2.2.1 r8.2.2.2.2.2.1 r8.2.2.2.2.2.2)
 else
 if ((x - (1 : Int)) = (0 : Int)) then
 Option.bind (qaI k k x0 x1 x x1 (((List.length x1) : Nat) : Int) (0 : Int) m0 m1 m2 m3) fun r8 =>
 qc r8
 (fun r8 =>
 (some (Sum.inl (r8.1, r8.2.1, r8.2.2.1, r8.2.2.2.1, r8.2.2.2.2.1, r8.2.2.2.2.2.1, r8.2.2.2.2.2.2))))
 (fun r8 =>
 rec r8.1 r8.2.1 (IntKind.wrap .i64 (r8.2.2.1 + (1 : Int))) r8.2.2.2.1 r8.2.2.2.2.1 r8.2.2.2.2.2.1 r8.2.2.2.2.2.2)
 else
 none
 else
 (some (Sum.inr (m0, m1, m2, m3)))
def qap (k n : Nat) : List (Int × Int) → List (Int × Int) → Int → ByteArray → Int → List (Int × Int) → List (Int × Int) → Option ((Bool × ByteArray × Int × List (Int × Int) × List (Int × Int) × Int × Int) ⊕ (ByteArray × Int × List (Int × Int) × List (Int × Int))) := Nat.rec (fun _ _ _ _ _ _ _ => none) (fun _ r => qcO k r) n
def qbq (k : Nat) (rec : Int → ByteArray → Int → List (Int × Int) → List (Int × Int) → Option ((Bool × ByteArray × Int × List (Int × Int) × List (Int × Int)) ⊕ (ByteArray × Int × List (Int × Int) × List (Int × Int)))) (i : Int) (m0 : ByteArray) (m1 : Int) (m2 : List (Int × Int)) (m3 : List (Int × Int)) : Option ((Bool × ByteArray × Int × List (Int × Int) × List (Int × Int)) ⊕ (ByteArray × Int × List (Int × Int) × List (Int × Int))) :=
 if ((decide (i < (((List.length m3) : Nat) : Int))) = true) then
 if ((0 : Int) ≤ (IntKind.wrap .i64 (i - (1 : Int)))) then
 Option.bind (m3)[(Int.toNat (IntKind.wrap .i64 (i - (1 : Int))))]? fun x4 =>
 if ((0 : Int) ≤ i) then
 Option.bind (m3)[(Int.toNat i)]? fun x5 =>
 Option.bind (qg7 k x4.1 x4.2 x5.1 x5.2) fun r9 =>
 if ((decide (r9.1 ≥ (0 : Int))) = true) then
 (some (Sum.inl (false, m0, m1, m2, m3)))
 else
 rec (IntKind.wrap .i64 (i + (1 : Int))) m0 m1 m2 m3
 else
 none
 else
 none
 else
 (some (Sum.inr (m0, m1, m2, m3)))
def qab (k n : Nat) : Int → ByteArray → Int → List (Int × Int) → List (Int × Int) → Option ((Bool × ByteArray × Int × List (Int × Int) × List (Int × Int)) ⊕ (ByteArray × Int × List (Int × Int) × List (Int × Int))) := Nat.rec (fun _ _ _ _ _ => none) (fun _ r => qbq k r) n
def qg8 (k : Nat) (m0 : ByteArray) (m1 : Int) (m2 : List (Int × Int)) (m3 : List (Int × Int)) : Option (Bool) :=
 Option.bind (qfj k m0) fun r7 =>
 if ((!r7) = true) then
 (some false)
 else
 Option.bind (qap k k m2 m3 (0 : Int) m0 m1 m2 m3) fun r8 =>
 qc r8
 (fun r8 =>
 (some r8.1))
 (fun r8 =>
 if ((r8.2.1 == (115 : Int)) = true) then
 if (((((List.length r8.2.2.1) : Nat) : Int) == (2 : Int)) = true) then
 (some ((((List.length r8.2.2.2) : Nat) : Int) == (1 : Int)))
 else
 (some false)
 else
 if ((r8.2.1 == (100 : Int)) = true) then
 if ((decide ((((List.length r8.2.2.1) : Nat) : Int) < (1 : Int))) = false) then
 if ((decide ((((List.length r8.2.2.1) : Nat) : Int) > (4 : Int))) = false) then
 if (((((List.length r8.2.2.2) : Nat) : Int) != (IntKind.wrap .i64 ((((List.length r8.2.2.1) : Nat) : Int) - (1 : Int)))) = true) then
 (some false)
 else
 Option.bind (qab k k (1 : Int) r8.1 r8.2.1 r8.2.2.1 r8.2.2.2) fun r9 =>
 qc r9
 (fun r9 =>
 (some r9.1))
 (fun r9 =>
 (some true))
 else
 (some false)
 else
 (some false)
 else
 (some false))
def qdS : Nat → ByteArray → Int → List (Int × Int) → List (Int × Int) → Option (Bool)
 | 0, _, _, _, _ => none
 | k + 1, m0, m1, m2, m3 => qg8 k m0 m1 m2 m3
def qvn : Nat → Inst := mkI 192 ⟨[.g [.lf .str, .lf (.int .u8), .lf cE, .lf cE]], []⟩ [⟨[vB], []⟩] fun k x => qdS k x.1 x.2.1 x.2.2.1 x.2.2.2
theorem qlw (k : Nat) : qa5 (call cf k) [quP k, qms k, qvm k] :=
 ac (qsv k) (ac (qj2 k) (ac (qyb k) a0))
def qvo (k : Nat) : LInst := mkL 2 [⟨[(1, .a (.ptr 0 0 0)), (18, .g [.lf cE, .lf cE]), (19, vI), (22, .a (.lf cE)), (23, vI), (24, vI)], [(0, some (.raw [[.lf .str, .lf (.int .u8), .lf cE, .lf cE]] 4 46 true false false))], 1⟩] [⟨none, ⟨[(2, vB)], [(0, some (.raw [[.lf .str, .lf (.int .u8), .lf cE, .lf cE]] 4 46 true false false)), (1, some (.raw [[.lf (.int .i64), .lf (.int .i64)]] 2 25 true false false))], 2⟩⟩, ⟨some 2, ⟨[(1, .a (.ptr 0 0 0)), (18, .g [.lf cE, .lf cE]), (19, vI)], [(0, some (.raw [[.lf .str, .lf (.int .u8), .lf cE, .lf cE]] 4 46 true false false))], 1⟩⟩] (fun n x => qaI k n x.1 x.2.1 x.2.2.1 x.2.2.2.1 x.2.2.2.2.1 x.2.2.2.2.2.1 x.2.2.2.2.2.2.1 x.2.2.2.2.2.2.2.1 x.2.2.2.2.2.2.2.2.1 x.2.2.2.2.2.2.2.2.2) k
theorem qmv (k : Nat) : LIo 192 Tryz.f192 0 k (qvo k) :=
 lpk [] (qlw k) l0 (fun _ => rfl) (by kernel_rfl) fun n x => by kernel_rfl
def qvp (k : Nat) : LInst := mkL 0 [⟨[(1, .a (.ptr 0 0 0)), (18, .g [.lf cE, .lf cE]), (19, vI)], [(0, some (.raw [[.lf .str, .lf (.int .u8), .lf cE, .lf cE]] 4 46 true false false))], 1⟩] [⟨none, ⟨[(2, vB)], [(0, some (.raw [[.lf .str, .lf (.int .u8), .lf cE, .lf cE]] 4 46 true false false)), (1, some (.raw [[.lf (.int .i64), .lf (.int .i64)]] 2 25 true false false))], 2⟩⟩, ⟨some 0, ⟨[(1, .a (.ptr 0 0 0))], [(0, some (.raw [[.lf .str, .lf (.int .u8), .lf cE, .lf cE]] 4 46 true false false))], 1⟩⟩] (fun n x => qap k n x.1 x.2.1 x.2.2.1 x.2.2.2.1 x.2.2.2.2.1 x.2.2.2.2.2.1 x.2.2.2.2.2.2) k
theorem qp5 (k : Nat) : LIo 192 Tryz.f192 0 k (qvp k) :=
 lpk [2] (qlw k) (lc (qmv k) l0) (fun _ => rfl) (by kernel_rfl) fun n x => by kernel_rfl
def qvq (k : Nat) : LInst := mkL 5 [⟨[(1, .a (.ptr 0 0 0)), (7, vI)], [(0, some (.raw [[.lf .str, .lf (.int .u8), .lf cE, .lf cE]] 4 46 true false false))], 1⟩] [⟨none, ⟨[(2, vB)], [(0, some (.raw [[.lf .str, .lf (.int .u8), .lf cE, .lf cE]] 4 46 true false false))], 1⟩⟩, ⟨some 5, ⟨[], [(0, some (.raw [[.lf .str, .lf (.int .u8), .lf cE, .lf cE]] 4 46 true false false))], 1⟩⟩] (fun n x => qab k n x.1 x.2.1 x.2.2.1 x.2.2.2.1 x.2.2.2.2) k
theorem qvr (k : Nat) : LIo 192 Tryz.f192 0 k (qvq k) :=
 lpk [] (qlw k) (lc (qmv k) (lc (qp5 k) l0)) (fun _ => rfl) (by kernel_rfl) fun n x => by kernel_rfl
theorem qyc : ∀ k, qh (call cf k) (qvn k) :=
 fnk 0 [0, 5] Tryz.func192 (fun k => (qlw k)) (fun k => (lc (qmv k) (lc (qp5 k) (lc (qvr k) l0)))) ⟨rfl, rfl, ⟨rfl, Nat.le_of_ble_eq_true rfl⟩, rfl⟩ (fun _ => rfl) (by kernel_rfl) fun k x => by kernel_rfl

def qcu (k : Nat) (rec : List Int → Int → Int → List ByteArray → List DvT → Int → Int → Int → Int → ByteArray → List Int → Int → Int → Int → Int → List (Int × Int) → List Int → ByteArray → Int → List (Int × Int) → List (Int × Int) → Option ((Bool × List ByteArray × List DvT × Int × Int × Int × Int × ByteArray × List Int × Int × Int × Int × Int × List (Int × Int) × List Int × ByteArray × Int × List (Int × Int) × List (Int × Int)) ⊕ (List ByteArray × List DvT × Int × Int × Int × Int × ByteArray × List Int × Int × Int × Int × Int × List (Int × Int) × List Int × ByteArray × Int × List (Int × Int) × List (Int × Int)))) (x : List Int) (x1 : Int) (x2 : Int) (f0 : List ByteArray) (f1 : List DvT) (f2 : Int) (f3 : Int) (f4 : Int) (d0 : Int) (d1 : ByteArray) (d2 : List Int) (d3 : Int) (d4 : Int) (d5 : Int) (d6 : Int) (d7 : List (Int × Int)) (d8 : List Int) (d9 : ByteArray) (d10 : Int) (d11 : List (Int × Int)) (d12 : List (Int × Int)) : Option ((Bool × List ByteArray × List DvT × Int × Int × Int × Int × ByteArray × List Int × Int × Int × Int × Int × List (Int × Int) × List Int × ByteArray × Int × List (Int × Int) × List (Int × Int)) ⊕ (List ByteArray × List DvT × Int × Int × Int × Int × ByteArray × List Int × Int × Int × Int × Int × List (Int × Int) × List Int × ByteArray × Int × List (Int × Int) × List (Int × Int))) :=
 if ((decide (x2 < x1)) = true) then
 if ((0 : Int) ≤ x2) then
 Option.bind (x)[(Int.toNat x2)]? fun x4 =>
 if ((decide (x4 < (0 : Int))) = false) then
 if ((decide (x4 ≥ (((List.length f0) : Nat) : Int))) = true) then
 (some (Sum.inl (false, f0, f1, f2, f3, f4, d0, d1, d2, d3, d4, d5, d6, d7, d8, d9, d10, d11, d12)))
 else
 rec x x1 (IntKind.wrap .i64 (x2 + (1 : Int))) f0 f1 f2 f3 f4 d0 d1 d2 d3 d4 d5 d6 d7 d8 d9 d10 d11 d12
 else
 (some (Sum.inl (false, f0, f1, f2, f3, f4, d0, d1, d2, d3, d4, d5, d6, d7, d8, d9, d10, d11, d12)))
 else
 none
 else
 (some (Sum.inr (f0, f1, f2, f3, f4, d0, d1, d2, d3, d4, d5, d6, d7, d8, d9, d10, d11, d12)))
def qa9 (k n : Nat) : List Int → Int → Int → List ByteArray → List DvT → Int → Int → Int → Int → ByteArray → List Int → Int → Int → Int → Int → List (Int × Int) → List Int → ByteArray → Int → List (Int × Int) → List (Int × Int) → Option ((Bool × List ByteArray × List DvT × Int × Int × Int × Int × ByteArray × List Int × Int × Int × Int × Int × List (Int × Int) × List Int × ByteArray × Int × List (Int × Int) × List (Int × Int)) ⊕ (List ByteArray × List DvT × Int × Int × Int × Int × ByteArray × List Int × Int × Int × Int × Int × List (Int × Int) × List Int × ByteArray × Int × List (Int × Int) × List (Int × Int))) := Nat.rec (fun _ _ _ _ _ _ _ _ _ _ _ _ _ _ _ _ _ _ _ _ _ => none) (fun _ r => qcu k r) n
def qgq (k : Nat) (f0 : List ByteArray) (f1 : List DvT) (f2 : Int) (f3 : Int) (f4 : Int) (d0 : Int) (d1 : ByteArray) (d2 : List Int) (d3 : Int) (d4 : Int) (d5 : Int) (d6 : Int) (d7 : List (Int × Int)) (d8 : List Int) (d9 : ByteArray) (d10 : Int) (d11 : List (Int × Int)) (d12 : List (Int × Int)) : Option (Bool) :=
 if (((qgF (.int .u8) (.int .i64) (qam (.int .u8) (.int .i64) (qam (.int .u8) (.int .i64) (qam (.int .u8) (.int .i64) (qam (.int .u8) (.int .i64) (qam (.int .u8) (.int .i64) (qam (.int .u8) (.int .i64) (qam (.int .u8) (.int .i64) (qam (.int .u8) (.int .i64) (qam (.int .u8) (.int .i64) (qam (.int .u8) (.int .i64) (qam (.int .u8) (.int .i64) (qam (.int .u8) (.int .i64) [] (114 : Int) (2 : Int)) (99 : Int) (2 : Int)) (108 : Int) (2 : Int)) (118 : Int) (2 : Int)) (105 : Int) (2 : Int)) (101 : Int) (4 : Int)) (103 : Int) (4 : Int)) (102 : Int) (2 : Int)) (104 : Int) (2 : Int)) (116 : Int) (4 : Int)) (100 : Int) (2 : Int)) (115 : Int) (4 : Int)) d0 (0 : Int)) == (0 : Int)) = false) then
 if (((((List.length d2) : Nat) : Int) != (qgF (.int .u8) (.int .i64) (qam (.int .u8) (.int .i64) (qam (.int .u8) (.int .i64) (qam (.int .u8) (.int .i64) (qam (.int .u8) (.int .i64) (qam (.int .u8) (.int .i64) (qam (.int .u8) (.int .i64) (qam (.int .u8) (.int .i64) (qam (.int .u8) (.int .i64) (qam (.int .u8) (.int .i64) (qam (.int .u8) (.int .i64) (qam (.int .u8) (.int .i64) (qam (.int .u8) (.int .i64) [] (114 : Int) (2 : Int)) (99 : Int) (2 : Int)) (108 : Int) (2 : Int)) (118 : Int) (2 : Int)) (105 : Int) (2 : Int)) (101 : Int) (4 : Int)) (103 : Int) (4 : Int)) (102 : Int) (2 : Int)) (104 : Int) (2 : Int)) (116 : Int) (4 : Int)) (100 : Int) (2 : Int)) (115 : Int) (4 : Int)) d0 (0 : Int))) = false) then
 Option.bind (qeV k d1) fun r4 =>
 if ((!r4) = true) then
 (some false)
 else
 Option.bind (qa9 k k d2 (((List.length d2) : Nat) : Int) (0 : Int) f0 f1 f2 f3 f4 d0 d1 d2 d3 d4 d5 d6 d7 d8 d9 d10 d11 d12) fun r5 =>
 qc r5
 (fun r5 =>
 (some r5.1))
 (fun r5 =>
 if ((r5.2.2.2.2.2.1 == (118 : Int)) = true) then
 Option.bind (qeh k r5.2.2.2.2.2.2.2.2.2.2.2.1 r5.2.2.2.2.2.2.2.2.2.2.2.2.1 r5.2.2.2.2.2.2.2.2.2.2.2.2.2.1) fun r6 =>
 if (r6 = true) then
 if ((r5.2.2.2.2.2.2.2.2.2.1 == (0 : Int)) = true) then
 if ((r5.2.2.2.2.2.2.2.2.2.2.1 == (0 : Int)) = true) then
 Option.bind (qD k r5.2.2.2.2.2.2.2.2.2.2.2.2.2.2.1 r5.2.2.2.2.2.2.2.2.2.2.2.2.2.2.2.1 r5.2.2.2.2.2.2.2.2.2.2.2.2.2.2.2.2.1 r5.2.2.2.2.2.2.2.2.2.2.2.2.2.2.2.2.2) fun r7 =>
 if (r7 = true) then
 (some (r5.2.2.2.2.2.2.2.2.1 == (0 : Int)))
 else
 (some false)
 else
 (some false)
 else
 (some false)
 else
 (some false)
 else
 if ((r5.2.2.2.2.2.1 == (105 : Int)) = true) then
 Option.bind (qeh k r5.2.2.2.2.2.2.2.2.2.2.2.1 r5.2.2.2.2.2.2.2.2.2.2.2.2.1 r5.2.2.2.2.2.2.2.2.2.2.2.2.2.1) fun r6 =>
 if (r6 = true) then
 if ((r5.2.2.2.2.2.2.2.2.2.1 == (0 : Int)) = true) then
 if ((r5.2.2.2.2.2.2.2.2.2.2.1 == (0 : Int)) = true) then
 Option.bind (qD k r5.2.2.2.2.2.2.2.2.2.2.2.2.2.2.1 r5.2.2.2.2.2.2.2.2.2.2.2.2.2.2.2.1 r5.2.2.2.2.2.2.2.2.2.2.2.2.2.2.2.2.1 r5.2.2.2.2.2.2.2.2.2.2.2.2.2.2.2.2.2) fun r7 =>
 if (r7 = true) then
 (some (r5.2.2.2.2.2.2.2.2.1 == (0 : Int)))
 else
 (some false)
 else
 (some false)
 else
 (some false)
 else
 (some false)
 else
 if ((r5.2.2.2.2.2.1 == (100 : Int)) = true) then
 Option.bind (qH k r5.2.2.2.2.2.2.2.2.2.2.2.1 r5.2.2.2.2.2.2.2.2.2.2.2.2.1 r5.2.2.2.2.2.2.2.2.2.2.2.2.2.1) fun r6 =>
 if (r6 = true) then
 if ((r5.2.2.2.2.2.2.2.2.2.1 == (0 : Int)) = true) then
 if ((r5.2.2.2.2.2.2.2.2.2.2.1 == (0 : Int)) = true) then
 Option.bind (qdS k r5.2.2.2.2.2.2.2.2.2.2.2.2.2.2.1 r5.2.2.2.2.2.2.2.2.2.2.2.2.2.2.2.1 r5.2.2.2.2.2.2.2.2.2.2.2.2.2.2.2.2.1 r5.2.2.2.2.2.2.2.2.2.2.2.2.2.2.2.2.2) fun r7 =>
 if (r7 = true) then
 if ((r5.2.2.2.2.2.2.2.2.2.2.2.2.2.2.2.1 == r5.2.2.2.2.2.1) = true) then
 (some (r5.2.2.2.2.2.2.2.2.1 == (0 : Int)))
 else
 (some false)
 else
 (some false)
 else
 (some false)
 else
 (some false)
 else
 (some false)
 else
 if ((r5.2.2.2.2.2.1 == (115 : Int)) = true) then
 Option.bind (qH k r5.2.2.2.2.2.2.2.2.2.2.2.1 r5.2.2.2.2.2.2.2.2.2.2.2.2.1 r5.2.2.2.2.2.2.2.2.2.2.2.2.2.1) fun r6 =>
 if (r6 = true) then
 if ((r5.2.2.2.2.2.2.2.2.2.1 == (0 : Int)) = true) then
 if ((r5.2.2.2.2.2.2.2.2.2.2.1 == (0 : Int)) = true) then
 Option.bind (qdS k r5.2.2.2.2.2.2.2.2.2.2.2.2.2.2.1 r5.2.2.2.2.2.2.2.2.2.2.2.2.2.2.2.1 r5.2.2.2.2.2.2.2.2.2.2.2.2.2.2.2.2.1 r5.2.2.2.2.2.2.2.2.2.2.2.2.2.2.2.2.2) fun r7 =>
 if (r7 = true) then
 if ((r5.2.2.2.2.2.2.2.2.2.2.2.2.2.2.2.1 == r5.2.2.2.2.2.1) = true) then
 (some (r5.2.2.2.2.2.2.2.2.1 == (0 : Int)))
 else
 (some false)
 else
 (some false)
 else
 (some false)
 else
 (some false)
 else
 (some false)
 else
 if ((r5.2.2.2.2.2.1 == (102 : Int)) = true) then
 if ((decide (r5.2.2.2.2.2.2.2.2.1 < (0 : Int))) = false) then
 if ((decide (r5.2.2.2.2.2.2.2.2.1 ≥ (((List.length r5.2.1) : Nat) : Int))) = false) then
 if ((0 : Int) ≤ r5.2.2.2.2.2.2.2.2.1) then
 Option.bind (r5.2.1)[(Int.toNat r5.2.2.2.2.2.2.2.2.1)]? fun x4 =>
 if ((x4.1 != (118 : Int)) = true) then
 (some false)
 else
 if ((r5.2.2.2.2.2.1 == (114 : Int)) = false) then
 if ((r5.2.2.2.2.2.1 == (99 : Int)) = false) then
 Option.bind (qW k r5.2.2.2.2.2.2.2.2.2.1 r5.2.2.2.2.2.2.2.2.2.2.1) fun r6 =>
 if (r6 = true) then
 if ((r5.2.2.2.2.2.2.2.2.2.1 != (0 : Int)) = false) then
 if ((!(r5.2.2.2.2.2.1 == (108 : Int))) = true) then
 Option.bind (qH k r5.2.2.2.2.2.2.2.2.2.2.2.1 r5.2.2.2.2.2.2.2.2.2.2.2.2.1 r5.2.2.2.2.2.2.2.2.2.2.2.2.2.1) fun r7 =>
 if (r7 = true) then
 Option.bind (qD k r5.2.2.2.2.2.2.2.2.2.2.2.2.2.2.1 r5.2.2.2.2.2.2.2.2.2.2.2.2.2.2.2.1 r5.2.2.2.2.2.2.2.2.2.2.2.2.2.2.2.2.1 r5.2.2.2.2.2.2.2.2.2.2.2.2.2.2.2.2.2) fun r8 =>
 (some r8)
 else
 (some false)
 else
 (some false)
 else
 Option.bind (qH k r5.2.2.2.2.2.2.2.2.2.2.2.1 r5.2.2.2.2.2.2.2.2.2.2.2.2.1 r5.2.2.2.2.2.2.2.2.2.2.2.2.2.1) fun r7 =>
 if (r7 = true) then
 Option.bind (qD k r5.2.2.2.2.2.2.2.2.2.2.2.2.2.2.1 r5.2.2.2.2.2.2.2.2.2.2.2.2.2.2.2.1 r5.2.2.2.2.2.2.2.2.2.2.2.2.2.2.2.2.1 r5.2.2.2.2.2.2.2.2.2.2.2.2.2.2.2.2.2) fun r8 =>
 (some r8)
 else
 (some false)
 else
 (some false)
 else
 Option.bind (qW k r5.2.2.2.2.2.2.2.2.2.1 r5.2.2.2.2.2.2.2.2.2.2.1) fun r6 =>
 if (r6 = true) then
 if ((r5.2.2.2.2.2.2.2.2.2.1 != (0 : Int)) = false) then
 (some false)
 else
 Option.bind (qH k r5.2.2.2.2.2.2.2.2.2.2.2.1 r5.2.2.2.2.2.2.2.2.2.2.2.2.1 r5.2.2.2.2.2.2.2.2.2.2.2.2.2.1) fun r7 =>
 if (r7 = true) then
 Option.bind (qD k r5.2.2.2.2.2.2.2.2.2.2.2.2.2.2.1 r5.2.2.2.2.2.2.2.2.2.2.2.2.2.2.2.1 r5.2.2.2.2.2.2.2.2.2.2.2.2.2.2.2.2.1 r5.2.2.2.2.2.2.2.2.2.2.2.2.2.2.2.2.2) fun r8 =>
 (some r8)
 else
 (some false)
 else
 (some false)
 else
 Option.bind (qW k r5.2.2.2.2.2.2.2.2.2.1 r5.2.2.2.2.2.2.2.2.2.2.1) fun r6 =>
 if (r6 = true) then
 if ((r5.2.2.2.2.2.2.2.2.2.1 != (0 : Int)) = false) then
 (some false)
 else
 Option.bind (qH k r5.2.2.2.2.2.2.2.2.2.2.2.1 r5.2.2.2.2.2.2.2.2.2.2.2.2.1 r5.2.2.2.2.2.2.2.2.2.2.2.2.2.1) fun r7 =>
 if (r7 = true) then
 Option.bind (qD k r5.2.2.2.2.2.2.2.2.2.2.2.2.2.2.1 r5.2.2.2.2.2.2.2.2.2.2.2.2.2.2.2.1 r5.2.2.2.2.2.2.2.2.2.2.2.2.2.2.2.2.1 r5.2.2.2.2.2.2.2.2.2.2.2.2.2.2.2.2.2) fun r8 =>
 (some r8)
 else
 (some false)
 else
 (some false)
 else
 none
 else
 (some false)
 else
 (some false)
 else
 if ((r5.2.2.2.2.2.1 == (104 : Int)) = true) then
 if ((decide (r5.2.2.2.2.2.2.2.2.1 < (0 : Int))) = false) then
 if ((decide (r5.2.2.2.2.2.2.2.2.1 ≥ (((List.length r5.2.1) : Nat) : Int))) = false) then
 if ((0 : Int) ≤ r5.2.2.2.2.2.2.2.2.1) then
 Option.bind (r5.2.1)[(Int.toNat r5.2.2.2.2.2.2.2.2.1)]? fun x4 =>
 if ((x4.1 != (118 : Int)) = true) then
 (some false)
 else
 if ((r5.2.2.2.2.2.1 == (114 : Int)) = false) then
 if ((r5.2.2.2.2.2.1 == (99 : Int)) = false) then
 Option.bind (qW k r5.2.2.2.2.2.2.2.2.2.1 r5.2.2.2.2.2.2.2.2.2.2.1) fun r6 =>
 if (r6 = true) then
 if ((r5.2.2.2.2.2.2.2.2.2.1 != (0 : Int)) = false) then
 if ((!(r5.2.2.2.2.2.1 == (108 : Int))) = true) then
 Option.bind (qH k r5.2.2.2.2.2.2.2.2.2.2.2.1 r5.2.2.2.2.2.2.2.2.2.2.2.2.1 r5.2.2.2.2.2.2.2.2.2.2.2.2.2.1) fun r7 =>
 if (r7 = true) then
 Option.bind (qD k r5.2.2.2.2.2.2.2.2.2.2.2.2.2.2.1 r5.2.2.2.2.2.2.2.2.2.2.2.2.2.2.2.1 r5.2.2.2.2.2.2.2.2.2.2.2.2.2.2.2.2.1 r5.2.2.2.2.2.2.2.2.2.2.2.2.2.2.2.2.2) fun r8 =>
 (some r8)
 else
 (some false)
 else
 (some false)
 else
 Option.bind (qH k r5.2.2.2.2.2.2.2.2.2.2.2.1 r5.2.2.2.2.2.2.2.2.2.2.2.2.1 r5.2.2.2.2.2.2.2.2.2.2.2.2.2.1) fun r7 =>
 if (r7 = true) then
 Option.bind (qD k r5.2.2.2.2.2.2.2.2.2.2.2.2.2.2.1 r5.2.2.2.2.2.2.2.2.2.2.2.2.2.2.2.1 r5.2.2.2.2.2.2.2.2.2.2.2.2.2.2.2.2.1 r5.2.2.2.2.2.2.2.2.2.2.2.2.2.2.2.2.2) fun r8 =>
 (some r8)
 else
 (some false)
 else
 (some false)
 else
 Option.bind (qW k r5.2.2.2.2.2.2.2.2.2.1 r5.2.2.2.2.2.2.2.2.2.2.1) fun r6 =>
 if (r6 = true) then
 if ((r5.2.2.2.2.2.2.2.2.2.1 != (0 : Int)) = false) then
 (some false)
 else
 Option.bind (qH k r5.2.2.2.2.2.2.2.2.2.2.2.1 r5.2.2.2.2.2.2.2.2.2.2.2.2.1 r5.2.2.2.2.2.2.2.2.2.2.2.2.2.1) fun r7 =>
 if (r7 = true) then
 Option.bind (qD k r5.2.2.2.2.2.2.2.2.2.2.2.2.2.2.1 r5.2.2.2.2.2.2.2.2.2.2.2.2.2.2.2.1 r5.2.2.2.2.2.2.2.2.2.2.2.2.2.2.2.2.1 r5.2.2.2.2.2.2.2.2.2.2.2.2.2.2.2.2.2) fun r8 =>
 (some r8)
 else
 (some false)
 else
 (some false)
 else
 Option.bind (qW k r5.2.2.2.2.2.2.2.2.2.1 r5.2.2.2.2.2.2.2.2.2.2.1) fun r6 =>
 if (r6 = true) then
 if ((r5.2.2.2.2.2.2.2.2.2.1 != (0 : Int)) = false) then
 (some false)
 else
 Option.bind (qH k r5.2.2.2.2.2.2.2.2.2.2.2.1 r5.2.2.2.2.2.2.2.2.2.2.2.2.1 r5.2.2.2.2.2.2.2.2.2.2.2.2.2.1) fun r7 =>
 if (r7 = true) then
 Option.bind (qD k r5.2.2.2.2.2.2.2.2.2.2.2.2.2.2.1 r5.2.2.2.2.2.2.2.2.2.2.2.2.2.2.2.1 r5.2.2.2.2.2.2.2.2.2.2.2.2.2.2.2.2.1 r5.2.2.2.2.2.2.2.2.2.2.2.2.2.2.2.2.2) fun r8 =>
 (some r8)
 else
 (some false)
 else
 (some false)
 else
 none
 else
 (some false)
 else
 (some false)
 else
 if ((r5.2.2.2.2.2.2.2.2.1 != (0 : Int)) = true) then
 (some false)
 else
 if ((r5.2.2.2.2.2.1 == (114 : Int)) = false) then
 if ((r5.2.2.2.2.2.1 == (99 : Int)) = false) then
 Option.bind (qW k r5.2.2.2.2.2.2.2.2.2.1 r5.2.2.2.2.2.2.2.2.2.2.1) fun r6 =>
 if (r6 = true) then
 if ((r5.2.2.2.2.2.2.2.2.2.1 != (0 : Int)) = false) then
 if ((!(r5.2.2.2.2.2.1 == (108 : Int))) = true) then
 Option.bind (qH k r5.2.2.2.2.2.2.2.2.2.2.2.1 r5.2.2.2.2.2.2.2.2.2.2.2.2.1 r5.2.2.2.2.2.2.2.2.2.2.2.2.2.1) fun r7 =>
 if (r7 = true) then
 Option.bind (qD k r5.2.2.2.2.2.2.2.2.2.2.2.2.2.2.1 r5.2.2.2.2.2.2.2.2.2.2.2.2.2.2.2.1 r5.2.2.2.2.2.2.2.2.2.2.2.2.2.2.2.2.1 r5.2.2.2.2.2.2.2.2.2.2.2.2.2.2.2.2.2) fun r8 =>
 (some r8)
 else
 (some false)
 else
 (some false)
 else
 Option.bind (qH k r5.2.2.2.2.2.2.2.2.2.2.2.1 r5.2.2.2.2.2.2.2.2.2.2.2.2.1 r5.2.2.2.2.2.2.2.2.2.2.2.2.2.1) fun r7 =>
 if (r7 = true) then
 Option.bind (qD k r5.2.2.2.2.2.2.2.2.2.2.2.2.2.2.1 r5.2.2.2.2.2.2.2.2.2.2.2.2.2.2.2.1 r5.2.2.2.2.2.2.2.2.2.2.2.2.2.2.2.2.1 r5.2.2.2.2.2.2.2.2.2.2.2.2.2.2.2.2.2) fun r8 =>
 (some r8)
 else
 (some false)
 else
 (some false)
 else
 Option.bind (qW k r5.2.2.2.2.2.2.2.2.2.1 r5.2.2.2.2.2.2.2.2.2.2.1) fun r6 =>
 if (r6 = true) then
 if ((r5.2.2.2.2.2.2.2.2.2.1 != (0 : Int)) = false) then
 (some false)
 else
 Option.bind (qH k r5.2.2.2.2.2.2.2.2.2.2.2.1 r5.2.2.2.2.2.2.2.2.2.2.2.2.1 r5.2.2.2.2.2.2.2.2.2.2.2.2.2.1) fun r7 =>
 if (r7 = true) then
 Option.bind (qD k r5.2.2.2.2.2.2.2.2.2.2.2.2.2.2.1 r5.2.2.2.2.2.2.2.2.2.2.2.2.2.2.2.1 r5.2.2.2.2.2.2.2.2.2.2.2.2.2.2.2.2.1 r5.2.2.2.2.2.2.2.2.2.2.2.2.2.2.2.2.2) fun r8 =>
 (some r8)
 else
 (some false)
 else
 (some false)
 else
 Option.bind (qW k r5.2.2.2.2.2.2.2.2.2.1 r5.2.2.2.2.2.2.2.2.2.2.1) fun r6 =>
 if (r6 = true) then
 if ((r5.2.2.2.2.2.2.2.2.2.1 != (0 : Int)) = false) then
 (some false)
 else
 Option.bind (qH k r5.2.2.2.2.2.2.2.2.2.2.2.1 r5.2.2.2.2.2.2.2.2.2.2.2.2.1 r5.2.2.2.2.2.2.2.2.2.2.2.2.2.1) fun r7 =>
 if (r7 = true) then
 Option.bind (qD k r5.2.2.2.2.2.2.2.2.2.2.2.2.2.2.1 r5.2.2.2.2.2.2.2.2.2.2.2.2.2.2.2.1 r5.2.2.2.2.2.2.2.2.2.2.2.2.2.2.2.2.1 r5.2.2.2.2.2.2.2.2.2.2.2.2.2.2.2.2.2) fun r8 =>
 (some r8)
 else
 (some false)
 else
 (some false))
 else
 (some false)
 else
 (some false)
def qfn : Nat → List ByteArray → List DvT → Int → Int → Int → Int → ByteArray → List Int → Int → Int → Int → Int → List (Int × Int) → List Int → ByteArray → Int → List (Int × Int) → List (Int × Int) → Option (Bool)
 | 0, _, _, _, _, _, _, _, _, _, _, _, _, _, _, _, _, _, _ => none
 | k + 1, f0, f1, f2, f3, f4, d0, d1, d2, d3, d4, d5, d6, d7, d8, d9, d10, d11, d12 => qgq k f0 f1 f2 f3 f4 d0 d1 d2 d3 d4 d5 d6 d7 d8 d9 d10 d11 d12
def qvs : Nat → Inst := mkI 185 ⟨[.g [.lf (.sl .str), .lf (.sl qG), .lf (.int .i64), .lf (.int .i64), .lf (.int .i64)], .g [.lf (.int .u8), .lf .str, .lf (.sl (.int .i64)), .lf (.int .i64), .lf (.int .i64), .lf (.int .i64), .lf (.int .i64), .lf cE, .lf (.sl (.int .i64)), .lf .str, .lf (.int .u8), .lf cE, .lf cE]], []⟩ [⟨[vB], []⟩] fun k x => qfn k x.1 x.2.1 x.2.2.1 x.2.2.2.1 x.2.2.2.2.1 x.2.2.2.2.2.1 x.2.2.2.2.2.2.1 x.2.2.2.2.2.2.2.1 x.2.2.2.2.2.2.2.2.1 x.2.2.2.2.2.2.2.2.2.1 x.2.2.2.2.2.2.2.2.2.2.1 x.2.2.2.2.2.2.2.2.2.2.2.1 x.2.2.2.2.2.2.2.2.2.2.2.2.1 x.2.2.2.2.2.2.2.2.2.2.2.2.2.1 x.2.2.2.2.2.2.2.2.2.2.2.2.2.2.1 x.2.2.2.2.2.2.2.2.2.2.2.2.2.2.2.1 x.2.2.2.2.2.2.2.2.2.2.2.2.2.2.2.2.1 x.2.2.2.2.2.2.2.2.2.2.2.2.2.2.2.2.2
theorem qsD (k : Nat) : qa5 (call cf k) [qrH k, quV k, qu0 k, qu1 k, qvn k, qms k] :=
 ac (qsx k) (ac (qxO k) (ac (qxP k) (ac (qxQ k) (ac (qyc k) (ac (qj2 k) a0)))))
def qvt (k : Nat) : LInst := mkL 0 [⟨[(2, .a (.ptr 0 0 0)), (3, .a (.ptr 1 0 0)), (30, vJ), (31, vI), (32, vI)], [(0, some (.raw [[.lf (.sl .str), .lf (.sl qG), .lf (.int .i64), .lf (.int .i64), .lf (.int .i64)]] 5 27 true false false)), (1, some (.raw [[.lf (.int .u8), .lf .str, .lf (.sl (.int .i64)), .lf (.int .i64), .lf (.int .i64), .lf (.int .i64), .lf (.int .i64), .lf cE, .lf (.sl (.int .i64)), .lf .str, .lf (.int .u8), .lf cE, .lf cE]] 13 48 true false false))], 2⟩] [⟨none, ⟨[(4, vB)], [(0, some (.raw [[.lf (.sl .str), .lf (.sl qG), .lf (.int .i64), .lf (.int .i64), .lf (.int .i64)]] 5 27 true false false)), (1, some (.raw [[.lf (.int .u8), .lf .str, .lf (.sl (.int .i64)), .lf (.int .i64), .lf (.int .i64), .lf (.int .i64), .lf (.int .i64), .lf cE, .lf (.sl (.int .i64)), .lf .str, .lf (.int .u8), .lf cE, .lf cE]] 13 48 true false false))], 2⟩⟩, ⟨some 0, ⟨[(2, .a (.ptr 0 0 0)), (3, .a (.ptr 1 0 0))], [(0, some (.raw [[.lf (.sl .str), .lf (.sl qG), .lf (.int .i64), .lf (.int .i64), .lf (.int .i64)]] 5 27 true false false)), (1, some (.raw [[.lf (.int .u8), .lf .str, .lf (.sl (.int .i64)), .lf (.int .i64), .lf (.int .i64), .lf (.int .i64), .lf (.int .i64), .lf cE, .lf (.sl (.int .i64)), .lf .str, .lf (.int .u8), .lf cE, .lf cE]] 13 48 true false false))], 2⟩⟩] (fun n x => qa9 k n x.1 x.2.1 x.2.2.1 x.2.2.2.1 x.2.2.2.2.1 x.2.2.2.2.2.1 x.2.2.2.2.2.2.1 x.2.2.2.2.2.2.2.1 x.2.2.2.2.2.2.2.2.1 x.2.2.2.2.2.2.2.2.2.1 x.2.2.2.2.2.2.2.2.2.2.1 x.2.2.2.2.2.2.2.2.2.2.2.1 x.2.2.2.2.2.2.2.2.2.2.2.2.1 x.2.2.2.2.2.2.2.2.2.2.2.2.2.1 x.2.2.2.2.2.2.2.2.2.2.2.2.2.2.1 x.2.2.2.2.2.2.2.2.2.2.2.2.2.2.2.1 x.2.2.2.2.2.2.2.2.2.2.2.2.2.2.2.2.1 x.2.2.2.2.2.2.2.2.2.2.2.2.2.2.2.2.2.1 x.2.2.2.2.2.2.2.2.2.2.2.2.2.2.2.2.2.2.1 x.2.2.2.2.2.2.2.2.2.2.2.2.2.2.2.2.2.2.2.1 x.2.2.2.2.2.2.2.2.2.2.2.2.2.2.2.2.2.2.2.2) k
theorem qvu (k : Nat) : LIo 185 Tryz.f185 0 k (qvt k) :=
 lpk [] (qsD k) l0 (fun _ => rfl) (by kernel_rfl) fun n x => by kernel_rfl
theorem qyd : ∀ k, qh (call cf k) (qvs k) :=
 fnk 0 [0] Tryz.func185 (fun k => (qsD k)) (fun k => (lc (qvu k) l0)) ⟨rfl, rfl, ⟨rfl, Nat.le_of_ble_eq_true rfl⟩, rfl⟩ (fun _ => rfl) (by kernel_rfl) fun k x => by kernel_rfl

def qeI (k : Nat) (s : ByteArray) (c : Int) : Option (Int) :=
 (some (qbX s c))
def qas : Nat → ByteArray → Int → Option (Int)
 | 0, _, _ => none
 | k + 1, s, c => qeI k s c
def qj7 : FS := ⟨[vS, .a (.lf (.int .u8))], []⟩
def qlx : List FS := [⟨[vI], []⟩]
def qrL (k : Nat) : Inst := ⟨59, qj7, qlx, fun x => qas k x.1 x.2⟩
theorem qye (k : Nat) (x : qj7.D) : qas (k + 1) x.1 x.2 = (qgO) (DS FS.D qlx) (qj7.enc x).1 (qj7.enc x).2 (qgf FS.dec qlx) := by kernel_rfl
theorem qsE : ∀ k, qh (call cf k) (qrL k)
 | 0 => fun x y e => absurd (show (none : Option _) = some y from e) (by simp)
 | k + 1 => qjj (c := cf) (k := k) (f := 59) (g := qeT) (G := qgO) (sh := qj7) (os := qlx) rfl (qk8) (fun x => qas (k + 1) x.1 x.2) (qye k)

def qdT (k : Nat) (rec : Int → Nat → List DvT → Int → Int → List Int → Option (Int × Nat × List Int)) (n : Int) (branch : Nat) (x : List DvT) (x1 : Int) (x2 : Int) (branchs : List Int) : Option (Int × Nat × List Int) :=
 if ((decide (x2 < x1)) = true) then
 if ((0 : Int) ≤ x2) then
 Option.bind (x)[(Int.toNat x2)]? fun x3 =>
 Option.bind (qas k (ByteArray.mk (List.toArray (118 :: (101 :: (104 :: (99 :: (108 :: (116 :: [])))))))) x3.1) fun r6 =>
 if ((decide (r6 ≥ (0 : Int))) = true) then
 if (branch ≤ (List.length branchs)) then
 if (((branch + (List.length (List.take 1 (n :: [])))) * 8) ≤ 140737488355328) then
 rec (IntKind.wrap .i64 (n + (1 : Int))) (branch + (List.length (List.take 1 (n :: [])))) x x1 (IntKind.wrap .i64 (x2 + (1 : Int))) ((List.take branch branchs) ++ (List.take 1 (n :: [])))
 else
 none
 else
 none
 else
 if (branch ≤ (List.length branchs)) then
 if (((branch + 1) * 8) ≤ 140737488355328) then
 rec n (branch + 1) x x1 (IntKind.wrap .i64 (x2 + (1 : Int))) ((List.take branch branchs) ++ (List.take 1 ((-(1 : Int)) :: [])))
 else
 none
 else
 none
 else
 none
 else
 (some (n, branch, branchs))
def qcU (k n : Nat) : Int → Nat → List DvT → Int → Int → List Int → Option (Int × Nat × List Int) := Nat.rec (fun _ _ _ _ _ _ => none) (fun _ r => qdT k r) n
def qhu (k : Nat) (f0 : List ByteArray) (f1 : List DvT) (f2 : Int) (f3 : Int) (f4 : Int) : Option (Int × List Int) :=
 Option.bind (qcU k k (IntKind.wrap .i64 ((((List.length f0) : Nat) : Int) - (1 : Int))) 0 f1 (((List.length f1) : Nat) : Int) (0 : Int) []) fun r6 =>
 if ((0 + r6.2.1) ≤ (List.length r6.2.2)) then
 (some (r6.1, (List.take r6.2.1 r6.2.2)))
 else
 none
def qc6 : Nat → List ByteArray → List DvT → Int → Int → Int → Option (Int × List Int)
 | 0, _, _, _, _, _ => none
 | k + 1, f0, f1, f2, f3, f4 => qhu k f0 f1 f2 f3 f4
def qvv : Nat → Inst := mkI 186 ⟨[.g [.lf (.sl .str), .lf (.sl qG), .lf (.int .i64), .lf (.int .i64), .lf (.int .i64)]], []⟩ [⟨[vI, vJ], []⟩] fun k x => qc6 k x.1 x.2.1 x.2.2.1 x.2.2.2.1 x.2.2.2.2
theorem qsF (k : Nat) : qa5 (call cf k) [qrL k] :=
 ac (qsE k) a0
def qvw (k : Nat) : LInst := mkL 0 [⟨[(4, vI), (5, .a (.smz 0)), (14, .a (.lf (.sl qG))), (15, vI), (16, vI)], [(0, some (.arr (.int .i64) 1 3 false))], 1⟩] [⟨some 0, ⟨[(4, vI), (5, .a (.smz 0))], [(0, some (.arr (.int .i64) 1 3 false))], 1⟩⟩] (fun n x => qcU k n x.1 x.2.1 x.2.2.1 x.2.2.2.1 x.2.2.2.2.1 x.2.2.2.2.2) k
theorem qvx (k : Nat) : LIo 186 Tryz.f186 0 k (qvw k) :=
 lpk [] (qsF k) l0 (fun _ => rfl) (by kernel_rfl) fun n x => by kernel_rfl
theorem qyf : ∀ k, qh (call cf k) (qvv k) :=
 fnk 0 [0] Tryz.func186 (fun k => (qsF k)) (fun k => (lc (qvx k) l0)) ⟨rfl, rfl, ⟨rfl, Nat.le_of_ble_eq_true rfl⟩, rfl⟩ (fun _ => rfl) (by kernel_rfl) fun k x => by kernel_rfl

def qcv (k : Nat) (rec : List ByteArray → Int → Int → List ByteArray → List DvT → Int → Int → Int → Option ((Int × List ByteArray × List DvT × Int × Int × Int) ⊕ (List ByteArray × List DvT × Int × Int × Int))) (x : List ByteArray) (x1 : Int) (x2 : Int) (f0 : List ByteArray) (f1 : List DvT) (f2 : Int) (f3 : Int) (f4 : Int) : Option ((Int × List ByteArray × List DvT × Int × Int × Int) ⊕ (List ByteArray × List DvT × Int × Int × Int)) :=
 if ((decide (x2 < x1)) = true) then
 if ((0 : Int) ≤ x2) then
 Option.bind (x)[(Int.toNat x2)]? fun x3 =>
 Option.bind (qeV k x3) fun r3 =>
 if ((!r3) = true) then
 (some (Sum.inl ((90 : Int), f0, f1, f2, f3, f4)))
 else
 rec x x1 (IntKind.wrap .i64 (x2 + (1 : Int))) f0 f1 f2 f3 f4
 else
 none
 else
 (some (Sum.inr (f0, f1, f2, f3, f4)))
def qaG (k n : Nat) : List ByteArray → Int → Int → List ByteArray → List DvT → Int → Int → Int → Option ((Int × List ByteArray × List DvT × Int × Int × Int) ⊕ (List ByteArray × List DvT × Int × Int × Int)) := Nat.rec (fun _ _ _ _ _ _ _ _ => none) (fun _ r => qcv k r) n
def qcw (k : Nat) (rec : Nat → List DvT → Int → Int → List ByteArray → List DvT → Int → Int → Int → List ByteArray → Option ((Int × List ByteArray × List DvT × Int × Int × Int × List ByteArray × Int × ByteArray × List Int × Int × Int × Int × Int × List (Int × Int) × List Int × ByteArray × Int × List (Int × Int) × List (Int × Int)) ⊕ (Nat × List ByteArray × List DvT × Int × Int × Int × List ByteArray))) (qbD : Nat) (x : List DvT) (x1 : Int) (x2 : Int) (f0 : List ByteArray) (f1 : List DvT) (f2 : Int) (f3 : Int) (f4 : Int) (namess : List ByteArray) : Option ((Int × List ByteArray × List DvT × Int × Int × Int × List ByteArray × Int × ByteArray × List Int × Int × Int × Int × Int × List (Int × Int) × List Int × ByteArray × Int × List (Int × Int) × List (Int × Int)) ⊕ (Nat × List ByteArray × List DvT × Int × Int × Int × List ByteArray)) :=
 if ((decide (x2 < x1)) = true) then
 if ((0 : Int) ≤ x2) then
 Option.bind (x)[(Int.toNat x2)]? fun x3 =>
 Option.bind (qfn k f0 f1 f2 f3 f4 x3.1 x3.2.1 x3.2.2.1 x3.2.2.2.1 x3.2.2.2.2.1.1 x3.2.2.2.2.1.2 x3.2.2.2.2.2.1.1 x3.2.2.2.2.2.1.2.1 x3.2.2.2.2.2.1.2.2 x3.2.2.2.2.2.2.1 x3.2.2.2.2.2.2.2.1 x3.2.2.2.2.2.2.2.2.1 x3.2.2.2.2.2.2.2.2.2) fun r4 =>
 if ((!r4) = true) then
 (some (Sum.inl ((90 : Int), f0, f1, f2, f3, f4, namess, x3.1, x3.2.1, x3.2.2.1, x3.2.2.2.1, x3.2.2.2.2.1.1, x3.2.2.2.2.1.2, x3.2.2.2.2.2.1.1, x3.2.2.2.2.2.1.2.1, x3.2.2.2.2.2.1.2.2, x3.2.2.2.2.2.2.1, x3.2.2.2.2.2.2.2.1, x3.2.2.2.2.2.2.2.2.1, x3.2.2.2.2.2.2.2.2.2)))
 else
 if (qbD ≤ (List.length namess)) then
 if (((qbD + (List.length (List.take 1 (x3.2.1 :: [])))) * 16) ≤ 140737488355328) then
 rec (qbD + (List.length (List.take 1 (x3.2.1 :: [])))) x x1 (IntKind.wrap .i64 (x2 + (1 : Int))) f0 f1 f2 f3 f4 ((List.take qbD namess) ++ (List.take 1 (x3.2.1 :: [])))
 else
 none
 else
 none
 else
 none
 else
 (some (Sum.inr (qbD, f0, f1, f2, f3, f4, namess)))
def qaq (k n : Nat) : Nat → List DvT → Int → Int → List ByteArray → List DvT → Int → Int → Int → List ByteArray → Option ((Int × List ByteArray × List DvT × Int × Int × Int × List ByteArray × Int × ByteArray × List Int × Int × Int × Int × Int × List (Int × Int) × List Int × ByteArray × Int × List (Int × Int) × List (Int × Int)) ⊕ (Nat × List ByteArray × List DvT × Int × Int × Int × List ByteArray)) := Nat.rec (fun _ _ _ _ _ _ _ _ _ _ => none) (fun _ r => qcw k r) n
def qgr (k : Nat) (f0 : List ByteArray) (f1 : List DvT) (f2 : Int) (f3 : Int) (f4 : Int) : Option (Int) :=
 Option.bind (qW k f2 f3) fun r1 =>
 if ((!r1) = false) then
 if ((decide (f2 ≤ (0 : Int))) = false) then
 if ((f4 != (1 : Int)) = true) then
 if ((f4 != (2 : Int)) = true) then
 (some (90 : Int))
 else
 if ((decide ((((List.length f0) : Nat) : Int) < (1 : Int))) = false) then
 if ((decide ((((List.length f0) : Nat) : Int) > (32 : Int))) = false) then
 Option.bind (f0)[0]? fun x =>
 if ((!((Array.toList (ByteArray.data x)) == (Array.toList (ByteArray.data (ByteArray.mk (List.toArray (48 :: []))))))) = false) then
 if ((decide ((((List.length f1) : Nat) : Int) > (64 : Int))) = false) then
 Option.bind (qbT k f0) fun r2 =>
 if (r2 = true) then
 (some (90 : Int))
 else
 Option.bind (qaG k k f0 (((List.length f0) : Nat) : Int) (0 : Int) f0 f1 f2 f3 f4) fun r3 =>
 qc r3
 (fun r3 =>
 (some r3.1))
 (fun r3 =>
 Option.bind (qaq k k 0 r3.2.1 (((List.length r3.2.1) : Nat) : Int) (0 : Int) r3.1 r3.2.1 r3.2.2.1 r3.2.2.2.1 r3.2.2.2.2 []) fun r4 =>
 qc r4
 (fun r4 =>
 (some r4.1))
 (fun r4 =>
 if ((0 + r4.1) ≤ (List.length r4.2.2.2.2.2.2)) then
 Option.bind (qbT k (List.take r4.1 r4.2.2.2.2.2.2)) fun r5 =>
 if (r5 = true) then
 (some (90 : Int))
 else
 Option.bind (qc6 k r4.2.1 r4.2.2.1 r4.2.2.2.1 r4.2.2.2.2.1 r4.2.2.2.2.2.1) fun r6 =>
 if ((decide (r6.1 > (48 : Int))) = true) then
 (some (5 : Int))
 else
 (some (0 : Int))
 else
 none))
 else
 (some (90 : Int))
 else
 (some (90 : Int))
 else
 (some (90 : Int))
 else
 (some (90 : Int))
 else
 if ((decide ((((List.length f0) : Nat) : Int) < (1 : Int))) = false) then
 if ((decide ((((List.length f0) : Nat) : Int) > (32 : Int))) = false) then
 Option.bind (f0)[0]? fun x =>
 if ((!((Array.toList (ByteArray.data x)) == (Array.toList (ByteArray.data (ByteArray.mk (List.toArray (48 :: []))))))) = false) then
 if ((decide ((((List.length f1) : Nat) : Int) > (64 : Int))) = false) then
 Option.bind (qbT k f0) fun r2 =>
 if (r2 = true) then
 (some (90 : Int))
 else
 Option.bind (qaG k k f0 (((List.length f0) : Nat) : Int) (0 : Int) f0 f1 f2 f3 f4) fun r3 =>
 qc r3
 (fun r3 =>
 (some r3.1))
 (fun r3 =>
 Option.bind (qaq k k 0 r3.2.1 (((List.length r3.2.1) : Nat) : Int) (0 : Int) r3.1 r3.2.1 r3.2.2.1 r3.2.2.2.1 r3.2.2.2.2 []) fun r4 =>
 qc r4
 (fun r4 =>
 (some r4.1))
 (fun r4 =>
 if ((0 + r4.1) ≤ (List.length r4.2.2.2.2.2.2)) then
 Option.bind (qbT k (List.take r4.1 r4.2.2.2.2.2.2)) fun r5 =>
 if (r5 = true) then
 (some (90 : Int))
 else
 Option.bind (qc6 k r4.2.1 r4.2.2.1 r4.2.2.2.1 r4.2.2.2.2.1 r4.2.2.2.2.2.1) fun r6 =>
 if ((decide (r6.1 > (48 : Int))) = true) then
 (some (5 : Int))
 else
 (some (0 : Int))
 else
 none))
 else
 (some (90 : Int))
 else
 (some (90 : Int))
 else
 (some (90 : Int))
 else
 (some (90 : Int))
 else
 (some (90 : Int))
 else
 (some (90 : Int))
def qek : Nat → List ByteArray → List DvT → Int → Int → Int → Option (Int)
 | 0, _, _, _, _, _ => none
 | k + 1, f0, f1, f2, f3, f4 => qgr k f0 f1 f2 f3 f4
def qzi : Nat → Inst := mkI 120 ⟨[.g [.lf (.sl .str), .lf (.sl qG), .lf (.int .i64), .lf (.int .i64), .lf (.int .i64)]], []⟩ [⟨[vI], []⟩] fun k x => qek k x.1 x.2.1 x.2.2.1 x.2.2.2.1 x.2.2.2.2
theorem qoK (k : Nat) : qa5 (call cf k) [qms k, quH k, qrH k, qvs k, qvv k] :=
 ac (qj2 k) (ac (qxB k) (ac (qsx k) (ac (qyd k) (ac (qyf k) a0))))
def qvy (k : Nat) : LInst := mkL 0 [⟨[(1, .a (.ptr 0 0 0)), (59, vR), (60, vI), (61, vI)], [(0, some (.raw [[.lf (.sl .str), .lf (.sl qG), .lf (.int .i64), .lf (.int .i64), .lf (.int .i64)]] 5 27 true false false))], 1⟩] [⟨none, ⟨[(2, vI)], [(0, some (.raw [[.lf (.sl .str), .lf (.sl qG), .lf (.int .i64), .lf (.int .i64), .lf (.int .i64)]] 5 27 true false false))], 1⟩⟩, ⟨some 0, ⟨[(1, .a (.ptr 0 0 0))], [(0, some (.raw [[.lf (.sl .str), .lf (.sl qG), .lf (.int .i64), .lf (.int .i64), .lf (.int .i64)]] 5 27 true false false))], 1⟩⟩] (fun n x => qaG k n x.1 x.2.1 x.2.2.1 x.2.2.2.1 x.2.2.2.2.1 x.2.2.2.2.2.1 x.2.2.2.2.2.2.1 x.2.2.2.2.2.2.2) k
theorem qp6 (k : Nat) : LIo 120 Tryz.f120 0 k (qvy k) :=
 lpk [] (qoK k) l0 (fun _ => rfl) (by kernel_rfl) fun n x => by kernel_rfl
def qvz (k : Nat) : LInst := mkL 2 [⟨[(1, .a (.ptr 0 0 0)), (5, .a (.smz 1)), (70, .a (.lf (.sl qG))), (71, vI), (72, vI)], [(0, some (.raw [[.lf (.sl .str), .lf (.sl qG), .lf (.int .i64), .lf (.int .i64), .lf (.int .i64)]] 5 27 true false false)), (1, some (.arr .str 1 9 false))], 2⟩] [⟨none, ⟨[(2, vI)], [(0, some (.raw [[.lf (.sl .str), .lf (.sl qG), .lf (.int .i64), .lf (.int .i64), .lf (.int .i64)]] 5 27 true false false)), (1, some (.arr .str 1 9 false)), (2, some (.raw [[.lf (.int .u8), .lf .str, .lf (.sl (.int .i64)), .lf (.int .i64), .lf (.int .i64), .lf (.int .i64), .lf (.int .i64), .lf cE, .lf (.sl (.int .i64)), .lf .str, .lf (.int .u8), .lf cE, .lf cE]] 13 48 true false false))], 3⟩⟩, ⟨some 2, ⟨[(1, .a (.ptr 0 0 0)), (5, .a (.smz 1))], [(0, some (.raw [[.lf (.sl .str), .lf (.sl qG), .lf (.int .i64), .lf (.int .i64), .lf (.int .i64)]] 5 27 true false false)), (1, some (.arr .str 1 9 false))], 2⟩⟩] (fun n x => qaq k n x.1 x.2.1 x.2.2.1 x.2.2.2.1 x.2.2.2.2.1 x.2.2.2.2.2.1 x.2.2.2.2.2.2.1 x.2.2.2.2.2.2.2.1 x.2.2.2.2.2.2.2.2.1 x.2.2.2.2.2.2.2.2.2) k
theorem qvA (k : Nat) : LIo 120 Tryz.f120 0 k (qvz k) :=
 lpk [] (qoK k) (lc (qp6 k) l0) (fun _ => rfl) (by kernel_rfl) fun n x => by kernel_rfl
theorem qyg : ∀ k, qh (call cf k) (qzi k) :=
 fnk 0 [0, 2] Tryz.func120 (fun k => (qoK k)) (fun k => (lc (qp6 k) (lc (qvA k) l0))) ⟨rfl, rfl, ⟨rfl, Nat.le_of_ble_eq_true rfl⟩, rfl⟩ (fun _ => rfl) (by kernel_rfl) fun k x => by kernel_rfl


end
end Go.Proofs.YtlnailgfialgnaaGreatDoor.Am
namespace Go.Proofs.YtlnailgfialgnaaGreatDoor.Am
open Go
noncomputable section

def qbf (k : Nat) (rec : Int → Bool → Nat → Bool → Nat → List Int → List Int → Option (Bool × Nat × Bool × Nat × List Int × List Int)) (u : Int) (x0 : Bool) (x1 : Nat) (a0 : Bool) (a1 : Nat) (m : List Int) (m1 : List Int) : Option (Bool × Nat × Bool × Nat × List Int × List Int) :=
 if ((decide (u > (0 : Int))) = true) then
 if (a1 ≤ (List.length m1)) then
 if (((a1 + (List.length (List.take 1 ((IntKind.wrap .i64 (Int.tmod u (65536 : Int))) :: [])))) * 8) ≤ 140737488355328) then
 rec (IntKind.wrap .u64 (Int.tdiv u (65536 : Int))) x0 x1 a0 (a1 + (List.length (List.take 1 ((IntKind.wrap .i64 (Int.tmod u (65536 : Int))) :: [])))) m ((List.take a1 m1) ++ (List.take 1 ((IntKind.wrap .i64 (Int.tmod u (65536 : Int))) :: [])))
 else
 none
 else
 none
 else
 (some (x0, x1, a0, a1, m, m1))
def qaM (k n : Nat) : Int → Bool → Nat → Bool → Nat → List Int → List Int → Option (Bool × Nat × Bool × Nat × List Int × List Int) := Nat.rec (fun _ _ _ _ _ _ _ => none) (fun _ r => qbf k r) n
def qdf (k : Nat) (v : Int) : Option (Bool × List Int) :=
 if ((decide (v < (0 : Int))) = true) then
 Option.bind (qaM k k (IntKind.wrap .u64 ((0 : Int) - (IntKind.wrap .u64 v))) false 0 true 0 [] []) fun r5 =>
 if ((0 + r5.2.2.2.1) ≤ (List.length r5.2.2.2.2.2)) then
 (some (r5.2.2.1, (List.take r5.2.2.2.1 r5.2.2.2.2.2)))
 else
 none
 else
 Option.bind (qaM k k (IntKind.wrap .u64 v) false 0 false 0 [] []) fun r5 =>
 if ((0 + r5.2.2.2.1) ≤ (List.length r5.2.2.2.2.2)) then
 (some (r5.2.2.1, (List.take r5.2.2.2.1 r5.2.2.2.2.2)))
 else
 none
def qdg : Nat → Int → Option (Bool × List Int)
 | 0, _ => none
 | k + 1, v => qdf k v
def qzj : Nat → Inst := mkI 91 ⟨[vI], []⟩ [⟨[.g [.lf .bool, .lf (.sl (.int .i64))]], []⟩] fun k x => qdg k x
def qvB (k : Nat) : LInst := mkL 0 [⟨[(2, .a (.ptr 0 0 0)), (3, .a (.ptr 1 0 0)), (4, vU)], [(0, some (.raw [[.lf .bool, .smz 2]] 2 154 false false false)), (1, some (.raw [[.lf .bool, .smz 3]] 2 154 false false false)), (2, some (.arr (.int .i64) 1 3 false)), (3, some (.arr (.int .i64) 1 3 false))], 4⟩] [⟨some 0, ⟨[(2, .a (.ptr 0 0 0)), (3, .a (.ptr 1 0 0))], [(0, some (.raw [[.lf .bool, .smz 2]] 2 154 false false false)), (1, some (.raw [[.lf .bool, .smz 3]] 2 154 false false false)), (2, some (.arr (.int .i64) 1 3 false)), (3, some (.arr (.int .i64) 1 3 false))], 4⟩⟩] (fun n x => qaM k n x.1 x.2.1 x.2.2.1 x.2.2.2.1 x.2.2.2.2.1 x.2.2.2.2.2.1 x.2.2.2.2.2.2) k
theorem qvC (k : Nat) : LIo 91 Tryz.f91 0 k (qvB k) :=
 lpk [] a0 l0 (fun _ => rfl) (by kernel_rfl) fun n x => by kernel_rfl
theorem qyh : ∀ k, qh (call cf k) (qzj k) :=
 fnk 0 [0] Tryz.func91 (fun k => a0) (fun k => (lc (qvC k) l0)) ⟨rfl, rfl, ⟨rfl, Nat.le_of_ble_eq_true rfl⟩, rfl⟩ (fun _ => rfl) (by kernel_rfl) fun k x => by kernel_rfl

def qbG (k : Nat) (rec : Nat → Int → List Int → Option (Nat × Int × List Int)) (d : Nat) (n : Int) (ds : List Int) : Option (Nat × Int × List Int) :=
 if ((decide (n > (0 : Int))) = true) then
 if (((0 : Int) ≤ (IntKind.wrap .i64 (n - (1 : Int)))) ∧ ((IntKind.wrap .i64 (n - (1 : Int))) < ((d : Nat) : Int))) then
 Option.bind (ds)[(0 + (Int.toNat (IntKind.wrap .i64 (n - (1 : Int)))))]? fun x4 =>
 if ((x4 == (0 : Int)) = true) then
 rec d (IntKind.wrap .i64 (n - (1 : Int))) ds
 else
 (some (d, n, ds))
 else
 none
 else
 (some (d, n, ds))
def qbU (k n : Nat) : Nat → Int → List Int → Option (Nat × Int × List Int) := Nat.rec (fun _ _ _ => none) (fun _ r => qbG k r) n
def qaQ (k : Nat) (d : Nat) (ds : List Int) : Option (Nat × List Int) :=
 Option.bind (qbU k k d ((d : Nat) : Int) ds) fun r7 =>
 if (((0 : Int) ≤ (0 : Int)) ∧ (((0 : Int) ≤ r7.2.1) ∧ (((0 + (Int.toNat r7.2.1)) ≤ (List.length r7.2.2)) ∧ (((0 : Int) < r7.2.1) ∨ (true = true))))) then
 (some ((Int.toNat r7.2.1), r7.2.2))
 else
 none
def qC : Nat → Nat → List Int → Option (Nat × List Int)
 | 0, _, _ => none
 | k + 1, d, ds => qaQ k d ds
def qmw : Nat → Inst := mkI 205 ⟨[.a (.smz 0)], [.arr (.int .i64) 1 3 false]⟩ [⟨[.a (.smz 0)], [.arr (.int .i64) 1 3 false]⟩] fun k x => qC k x.1 x.2
def qp7 : SS := ⟨[(0, .a (.smz 0)), (3, vI)], [(0, some (.arr (.int .i64) 1 3 false))], 1⟩
def qvD (k : Nat) : LInst := mkL 0 [qp7] [⟨some 0, qp7⟩] (fun n x => qbU k n x.1 x.2.1 x.2.2) k
theorem qvE (k : Nat) : LIo 205 Tryz.f205 1 k (qvD k) :=
 lpk [] a0 l0 (fun _ => rfl) (by kernel_rfl) fun n x => by kernel_rfl
theorem qly : ∀ k, qh (call cf k) (qmw k) :=
 fnk 1 [0] Tryz.func205 (fun k => a0) (fun k => (lc (qvE k) l0)) ⟨rfl, rfl, ⟨rfl, Nat.le_of_ble_eq_true rfl⟩, rfl⟩ (fun _ => rfl) (by kernel_rfl) fun k x => by kernel_rfl

def qbg (k : Nat) (rec : List Int → List Int → Nat → Int → Int → List Int → Option (Nat × List Int)) (a : List Int) (b : List Int) (d : Nat) (carry : Int) (i : Int) (ds : List Int) : Option (Nat × List Int) :=
 if ((decide (i < (((List.length a) : Nat) : Int))) = false) then
 if ((decide (i < (((List.length b) : Nat) : Int))) = false) then
 if ((decide (carry > (0 : Int))) = true) then
 if ((decide (i < (((List.length a) : Nat) : Int))) = true) then
 if ((0 : Int) ≤ i) then
 Option.bind (a)[(Int.toNat i)]? fun x4 =>
 if ((decide (i < (((List.length b) : Nat) : Int))) = true) then
 if ((0 : Int) ≤ i) then
 Option.bind (b)[(Int.toNat i)]? fun x5 =>
 if (d ≤ (List.length ds)) then
 if (((d + (List.length (List.take 1 ((Int.tmod (IntKind.wrap .i64 ((IntKind.wrap .i64 (carry + x4)) + x5)) (65536 : Int)) :: [])))) * 8) ≤ 140737488355328) then
 rec a b (d + (List.length (List.take 1 ((Int.tmod (IntKind.wrap .i64 ((IntKind.wrap .i64 (carry + x4)) + x5)) (65536 : Int)) :: [])))) (IntKind.wrap .i64 (Int.tdiv (IntKind.wrap .i64 ((IntKind.wrap .i64 (carry + x4)) + x5)) (65536 : Int))) (IntKind.wrap .i64 (i + (1 : Int))) ((List.take d ds) ++ (List.take 1 ((Int.tmod (IntKind.wrap .i64 ((IntKind.wrap .i64 (carry + x4)) + x5)) (65536 : Int)) :: [])))
 else
 none
 else
 none
 else
 none
 else
 if (d ≤ (List.length ds)) then
 if (((d + (List.length (List.take 1 ((Int.tmod (IntKind.wrap .i64 (carry + x4)) (65536 : Int)) :: [])))) * 8) ≤ 140737488355328) then
 rec a b (d + (List.length (List.take 1 ((Int.tmod (IntKind.wrap .i64 (carry + x4)) (65536 : Int)) :: [])))) (IntKind.wrap .i64 (Int.tdiv (IntKind.wrap .i64 (carry + x4)) (65536 : Int))) (IntKind.wrap .i64 (i + (1 : Int))) ((List.take d ds) ++ (List.take 1 ((Int.tmod (IntKind.wrap .i64 (carry + x4)) (65536 : Int)) :: [])))
 else
 none
 else
 none
 else
 none
 else
 if ((decide (i < (((List.length b) : Nat) : Int))) = true) then
 if ((0 : Int) ≤ i) then
 Option.bind (b)[(Int.toNat i)]? fun x4 =>
 if (d ≤ (List.length ds)) then
 if (((d + (List.length (List.take 1 ((Int.tmod (IntKind.wrap .i64 (carry + x4)) (65536 : Int)) :: [])))) * 8) ≤ 140737488355328) then
 rec a b (d + (List.length (List.take 1 ((Int.tmod (IntKind.wrap .i64 (carry + x4)) (65536 : Int)) :: [])))) (IntKind.wrap .i64 (Int.tdiv (IntKind.wrap .i64 (carry + x4)) (65536 : Int))) (IntKind.wrap .i64 (i + (1 : Int))) ((List.take d ds) ++ (List.take 1 ((Int.tmod (IntKind.wrap .i64 (carry + x4)) (65536 : Int)) :: [])))
 else
 none
 else
 none
 else
 none
 else
 if (d ≤ (List.length ds)) then
 if (((d + (List.length (List.take 1 ((Int.tmod carry (65536 : Int)) :: [])))) * 8) ≤ 140737488355328) then
 rec a b (d + (List.length (List.take 1 ((Int.tmod carry (65536 : Int)) :: [])))) (IntKind.wrap .i64 (Int.tdiv carry (65536 : Int))) (IntKind.wrap .i64 (i + (1 : Int))) ((List.take d ds) ++ (List.take 1 ((Int.tmod carry (65536 : Int)) :: [])))
 else
 none
 else
 none
 else
 (some (d, ds))
 else
 if ((decide (i < (((List.length a) : Nat) : Int))) = true) then
 if ((0 : Int) ≤ i) then
 Option.bind (a)[(Int.toNat i)]? fun x4 =>
 if ((decide (i < (((List.length b) : Nat) : Int))) = true) then
 if ((0 : Int) ≤ i) then
 Option.bind (b)[(Int.toNat i)]? fun x5 =>
 if (d ≤ (List.length ds)) then
 if (((d + (List.length (List.take 1 ((Int.tmod (IntKind.wrap .i64 ((IntKind.wrap .i64 (carry + x4)) + x5)) (65536 : Int)) :: [])))) * 8) ≤ 140737488355328) then
 rec a b (d + (List.length (List.take 1 ((Int.tmod (IntKind.wrap .i64 ((IntKind.wrap .i64 (carry + x4)) + x5)) (65536 : Int)) :: [])))) (IntKind.wrap .i64 (Int.tdiv (IntKind.wrap .i64 ((IntKind.wrap .i64 (carry + x4)) + x5)) (65536 : Int))) (IntKind.wrap .i64 (i + (1 : Int))) ((List.take d ds) ++ (List.take 1 ((Int.tmod (IntKind.wrap .i64 ((IntKind.wrap .i64 (carry + x4)) + x5)) (65536 : Int)) :: [])))
 else
 none
 else
 none
 else
 none
 else
 if (d ≤ (List.length ds)) then
 if (((d + (List.length (List.take 1 ((Int.tmod (IntKind.wrap .i64 (carry + x4)) (65536 : Int)) :: [])))) * 8) ≤ 140737488355328) then
 rec a b (d + (List.length (List.take 1 ((Int.tmod (IntKind.wrap .i64 (carry + x4)) (65536 : Int)) :: [])))) (IntKind.wrap .i64 (Int.tdiv (IntKind.wrap .i64 (carry + x4)) (65536 : Int))) (IntKind.wrap .i64 (i + (1 : Int))) ((List.take d ds) ++ (List.take 1 ((Int.tmod (IntKind.wrap .i64 (carry + x4)) (65536 : Int)) :: [])))
 else
 none
 else
 none
 else
 none
 else
 if ((decide (i < (((List.length b) : Nat) : Int))) = true) then
 if ((0 : Int) ≤ i) then
 Option.bind (b)[(Int.toNat i)]? fun x4 =>
 if (d ≤ (List.length ds)) then
 if (((d + (List.length (List.take 1 ((Int.tmod (IntKind.wrap .i64 (carry + x4)) (65536 : Int)) :: [])))) * 8) ≤ 140737488355328) then
 rec a b (d + (List.length (List.take 1 ((Int.tmod (IntKind.wrap .i64 (carry + x4)) (65536 : Int)) :: [])))) (IntKind.wrap .i64 (Int.tdiv (IntKind.wrap .i64 (carry + x4)) (65536 : Int))) (IntKind.wrap .i64 (i + (1 : Int))) ((List.take d ds) ++ (List.take 1 ((Int.tmod (IntKind.wrap .i64 (carry + x4)) (65536 : Int)) :: [])))
 else
 none
 else
 none
 else
 none
 else
 if (d ≤ (List.length ds)) then
 if (((d + (List.length (List.take 1 ((Int.tmod carry (65536 : Int)) :: [])))) * 8) ≤ 140737488355328) then
 rec a b (d + (List.length (List.take 1 ((Int.tmod carry (65536 : Int)) :: [])))) (IntKind.wrap .i64 (Int.tdiv carry (65536 : Int))) (IntKind.wrap .i64 (i + (1 : Int))) ((List.take d ds) ++ (List.take 1 ((Int.tmod carry (65536 : Int)) :: [])))
 else
 none
 else
 none
 else
 if ((decide (i < (((List.length a) : Nat) : Int))) = true) then
 if ((0 : Int) ≤ i) then
 Option.bind (a)[(Int.toNat i)]? fun x4 =>
 if ((decide (i < (((List.length b) : Nat) : Int))) = true) then
 if ((0 : Int) ≤ i) then
 Option.bind (b)[(Int.toNat i)]? fun x5 =>
 if (d ≤ (List.length ds)) then
 if (((d + (List.length (List.take 1 ((Int.tmod (IntKind.wrap .i64 ((IntKind.wrap .i64 (carry + x4)) + x5)) (65536 : Int)) :: [])))) * 8) ≤ 140737488355328) then
 rec a b (d + (List.length (List.take 1 ((Int.tmod (IntKind.wrap .i64 ((IntKind.wrap .i64 (carry + x4)) + x5)) (65536 : Int)) :: [])))) (IntKind.wrap .i64 (Int.tdiv (IntKind.wrap .i64 ((IntKind.wrap .i64 (carry + x4)) + x5)) (65536 : Int))) (IntKind.wrap .i64 (i + (1 : Int))) ((List.take d ds) ++ (List.take 1 ((Int.tmod (IntKind.wrap .i64 ((IntKind.wrap .i64 (carry + x4)) + x5)) (65536 : Int)) :: [])))
 else
 none
 else
 none
 else
 none
 else
 if (d ≤ (List.length ds)) then
 if (((d + (List.length (List.take 1 ((Int.tmod (IntKind.wrap .i64 (carry + x4)) (65536 : Int)) :: [])))) * 8) ≤ 140737488355328) then
 rec a b (d + (List.length (List.take 1 ((Int.tmod (IntKind.wrap .i64 (carry + x4)) (65536 : Int)) :: [])))) (IntKind.wrap .i64 (Int.tdiv (IntKind.wrap .i64 (carry + x4)) (65536 : Int))) (IntKind.wrap .i64 (i + (1 : Int))) ((List.take d ds) ++ (List.take 1 ((Int.tmod (IntKind.wrap .i64 (carry + x4)) (65536 : Int)) :: [])))
 else
 none
 else
 none
 else
 none
 else
 if ((decide (i < (((List.length b) : Nat) : Int))) = true) then
 if ((0 : Int) ≤ i) then
 Option.bind (b)[(Int.toNat i)]? fun x4 =>
 if (d ≤ (List.length ds)) then
 if (((d + (List.length (List.take 1 ((Int.tmod (IntKind.wrap .i64 (carry + x4)) (65536 : Int)) :: [])))) * 8) ≤ 140737488355328) then
 rec a b (d + (List.length (List.take 1 ((Int.tmod (IntKind.wrap .i64 (carry + x4)) (65536 : Int)) :: [])))) (IntKind.wrap .i64 (Int.tdiv (IntKind.wrap .i64 (carry + x4)) (65536 : Int))) (IntKind.wrap .i64 (i + (1 : Int))) ((List.take d ds) ++ (List.take 1 ((Int.tmod (IntKind.wrap .i64 (carry + x4)) (65536 : Int)) :: [])))
 else
 none
 else
 none
 else
 none
 else
 if (d ≤ (List.length ds)) then
 if (((d + (List.length (List.take 1 ((Int.tmod carry (65536 : Int)) :: [])))) * 8) ≤ 140737488355328) then
 rec a b (d + (List.length (List.take 1 ((Int.tmod carry (65536 : Int)) :: [])))) (IntKind.wrap .i64 (Int.tdiv carry (65536 : Int))) (IntKind.wrap .i64 (i + (1 : Int))) ((List.take d ds) ++ (List.take 1 ((Int.tmod carry (65536 : Int)) :: [])))
 else
 none
 else
 none
def qaN (k n : Nat) : List Int → List Int → Nat → Int → Int → List Int → Option (Nat × List Int) := Nat.rec (fun _ _ _ _ _ _ => none) (fun _ r => qbg k r) n
def qfz (k : Nat) (a : List Int) (b : List Int) : Option (List Int) :=
 Option.bind (qaN k k a b 0 (0 : Int) (0 : Int) []) fun r6 =>
 Option.bind (qC k r6.1 r6.2) fun r7 =>
 if ((0 + r7.1) ≤ (List.length r7.2)) then
 (some (List.take r7.1 r7.2))
 else
 none
def qdh : Nat → List Int → List Int → Option (List Int)
 | 0, _, _ => none
 | k + 1, a, b => qfz k a b
def qzk : Nat → Inst := mkI 145 ⟨[vJ, vJ], []⟩ [⟨[vJ], []⟩] fun k x => qdh k x.1 x.2
theorem qsG (k : Nat) : qa5 (call cf k) [qmw k] :=
 ac (qly k) a0
def qvF (k : Nat) : LInst := mkL 0 [⟨[(0, vJ), (1, vJ), (5, .a (.smz 0)), (6, vI), (7, vI)], [(0, some (.arr (.int .i64) 1 3 false))], 1⟩] [⟨some 0, ⟨[(5, .a (.smz 0))], [(0, some (.arr (.int .i64) 1 3 false))], 1⟩⟩] (fun n x => qaN k n x.1 x.2.1 x.2.2.1 x.2.2.2.1 x.2.2.2.2.1 x.2.2.2.2.2) k
theorem qvG (k : Nat) : LIo 145 Tryz.f145 0 k (qvF k) :=
 lpk [] (qsG k) l0 (fun _ => rfl) (by kernel_rfl) fun n x => by kernel_rfl
theorem qyi : ∀ k, qh (call cf k) (qzk k) :=
 fnk 0 [0] Tryz.func145 (fun k => (qsG k)) (fun k => (lc (qvG k) l0)) ⟨rfl, rfl, ⟨rfl, Nat.le_of_ble_eq_true rfl⟩, rfl⟩ (fun _ => rfl) (by kernel_rfl) fun k x => by kernel_rfl

def qag (k : Nat) (rec : List Int → List Int → Int → Option ((Int) ⊕ (Unit))) (a : List Int) (b : List Int) (i : Int) : Option ((Int) ⊕ (Unit)) :=
 if ((decide (i ≥ (0 : Int))) = true) then
 if ((0 : Int) ≤ i) then
 Option.bind (a)[(Int.toNat i)]? fun x4 =>
 if ((0 : Int) ≤ i) then
 Option.bind (b)[(Int.toNat i)]? fun x5 =>
 if ((decide (x4 < x5)) = true) then
 (some (Sum.inl (-(1 : Int))))
 else
 if ((0 : Int) ≤ i) then
 Option.bind (a)[(Int.toNat i)]? fun x6 =>
 if ((0 : Int) ≤ i) then
 Option.bind (b)[(Int.toNat i)]? fun x7 =>
 if ((decide (x6 > x7)) = true) then
 (some (Sum.inl (1 : Int)))
 else
 rec a b (IntKind.wrap .i64 (i - (1 : Int)))
 else
 none
 else
 none
 else
 none
 else
 none
 else
 (some (Sum.inr ()))
def qbw (k n : Nat) : List Int → List Int → Int → Option ((Int) ⊕ (Unit)) := Nat.rec (fun _ _ _ => none) (fun _ r => qag k r) n
def qfA (k : Nat) (a : List Int) (b : List Int) : Option (Int) :=
 if (((((List.length a) : Nat) : Int) != (((List.length b) : Nat) : Int)) = true) then
 if ((decide ((((List.length a) : Nat) : Int) < (((List.length b) : Nat) : Int))) = true) then
 (some (-(1 : Int)))
 else
 (some (1 : Int))
 else
 Option.bind (qbw k k a b (IntKind.wrap .i64 ((((List.length a) : Nat) : Int) - (1 : Int)))) fun r6 =>
 qc r6
 (fun r6 =>
 (some r6))
 (fun r6 =>
 (some (0 : Int)))
def qdi : Nat → List Int → List Int → Option (Int)
 | 0, _, _ => none
 | k + 1, a, b => qfA k a b
def qvH : Nat → Inst := mkI 146 ⟨[vJ, vJ], []⟩ [⟨[vI], []⟩] fun k x => qdi k x.1 x.2
def qvI (k : Nat) : LInst := mkL 0 [⟨[(0, vJ), (1, vJ), (5, vI)], [], 0⟩] [⟨none, ⟨[(4, vI)], [], 0⟩⟩, ⟨some 0, ⟨[], [], 0⟩⟩] (fun n x => qbw k n x.1 x.2.1 x.2.2) k
theorem qvJ (k : Nat) : LIo 146 Tryz.f146 0 k (qvI k) :=
 lpk [] a0 l0 (fun _ => rfl) (by kernel_rfl) fun n x => by kernel_rfl
theorem qsH : ∀ k, qh (call cf k) (qvH k) :=
 fnk 0 [0] Tryz.func146 (fun k => a0) (fun k => (lc (qvJ k) l0)) ⟨rfl, rfl, ⟨rfl, Nat.le_of_ble_eq_true rfl⟩, rfl⟩ (fun _ => rfl) (by kernel_rfl) fun k x => by kernel_rfl

def qaR (k : Nat) (rec : List Int → List Int → Nat → Int → Int → List Int → Option (Nat × List Int)) (a : List Int) (b : List Int) (d : Nat) (borrow : Int) (i : Int) (ds : List Int) : Option (Nat × List Int) :=
 if ((decide (i < (((List.length a) : Nat) : Int))) = true) then
 if ((0 : Int) ≤ i) then
 Option.bind (a)[(Int.toNat i)]? fun x4 =>
 if ((decide (i < (((List.length b) : Nat) : Int))) = true) then
 if ((0 : Int) ≤ i) then
 Option.bind (b)[(Int.toNat i)]? fun x5 =>
 if ((decide ((IntKind.wrap .i64 ((IntKind.wrap .i64 (x4 - borrow)) - x5)) < (0 : Int))) = true) then
 if (d ≤ (List.length ds)) then
 if (((d + (List.length (List.take 1 ((IntKind.wrap .i64 ((IntKind.wrap .i64 ((IntKind.wrap .i64 (x4 - borrow)) - x5)) + (65536 : Int))) :: [])))) * 8) ≤ 140737488355328) then
 rec a b (d + (List.length (List.take 1 ((IntKind.wrap .i64 ((IntKind.wrap .i64 ((IntKind.wrap .i64 (x4 - borrow)) - x5)) + (65536 : Int))) :: [])))) (1 : Int) (IntKind.wrap .i64 (i + (1 : Int))) ((List.take d ds) ++ (List.take 1 ((IntKind.wrap .i64 ((IntKind.wrap .i64 ((IntKind.wrap .i64 (x4 - borrow)) - x5)) + (65536 : Int))) :: [])))
 else
 none
 else
 none
 else
 if (d ≤ (List.length ds)) then
 if (((d + (List.length (List.take 1 ((IntKind.wrap .i64 ((IntKind.wrap .i64 (x4 - borrow)) - x5)) :: [])))) * 8) ≤ 140737488355328) then
 rec a b (d + (List.length (List.take 1 ((IntKind.wrap .i64 ((IntKind.wrap .i64 (x4 - borrow)) - x5)) :: [])))) (0 : Int) (IntKind.wrap .i64 (i + (1 : Int))) ((List.take d ds) ++ (List.take 1 ((IntKind.wrap .i64 ((IntKind.wrap .i64 (x4 - borrow)) - x5)) :: [])))
 else
 none
 else
 none
 else
 none
 else
 if ((decide ((IntKind.wrap .i64 (x4 - borrow)) < (0 : Int))) = true) then
 if (d ≤ (List.length ds)) then
 if (((d + (List.length (List.take 1 ((IntKind.wrap .i64 ((IntKind.wrap .i64 (x4 - borrow)) + (65536 : Int))) :: [])))) * 8) ≤ 140737488355328) then
 rec a b (d + (List.length (List.take 1 ((IntKind.wrap .i64 ((IntKind.wrap .i64 (x4 - borrow)) + (65536 : Int))) :: [])))) (1 : Int) (IntKind.wrap .i64 (i + (1 : Int))) ((List.take d ds) ++ (List.take 1 ((IntKind.wrap .i64 ((IntKind.wrap .i64 (x4 - borrow)) + (65536 : Int))) :: [])))
 else
 none
 else
 none
 else
 if (d ≤ (List.length ds)) then
 if (((d + (List.length (List.take 1 ((IntKind.wrap .i64 (x4 - borrow)) :: [])))) * 8) ≤ 140737488355328) then
 rec a b (d + (List.length (List.take 1 ((IntKind.wrap .i64 (x4 - borrow)) :: [])))) (0 : Int) (IntKind.wrap .i64 (i + (1 : Int))) ((List.take d ds) ++ (List.take 1 ((IntKind.wrap .i64 (x4 - borrow)) :: [])))
 else
 none
 else
 none
 else
 none
 else
 (some (d, ds))
def qaB (k n : Nat) : List Int → List Int → Nat → Int → Int → List Int → Option (Nat × List Int) := Nat.rec (fun _ _ _ _ _ _ => none) (fun _ r => qaR k r) n
def qe4 (k : Nat) (a : List Int) (b : List Int) : Option (List Int) :=
 Option.bind (qaB k k a b 0 (0 : Int) (0 : Int) []) fun r7 =>
 Option.bind (qC k r7.1 r7.2) fun r8 =>
 if ((0 + r8.1) ≤ (List.length r8.2)) then
 (some (List.take r8.1 r8.2))
 else
 none
def qaD : Nat → List Int → List Int → Option (List Int)
 | 0, _, _ => none
 | k + 1, a, b => qe4 k a b
def qvK : Nat → Inst := mkI 147 ⟨[vJ, vJ], []⟩ [⟨[vJ], []⟩] fun k x => qaD k x.1 x.2
theorem qsI (k : Nat) : qa5 (call cf k) [qmw k] :=
 ac (qly k) a0
def qvL (k : Nat) : LInst := mkL 0 [⟨[(0, vJ), (1, vJ), (5, .a (.smz 0)), (6, vI), (7, vI)], [(0, some (.arr (.int .i64) 1 3 false))], 1⟩] [⟨some 0, ⟨[(5, .a (.smz 0))], [(0, some (.arr (.int .i64) 1 3 false))], 1⟩⟩] (fun n x => qaB k n x.1 x.2.1 x.2.2.1 x.2.2.2.1 x.2.2.2.2.1 x.2.2.2.2.2) k
theorem qvM (k : Nat) : LIo 147 Tryz.f147 0 k (qvL k) :=
 lpk [] (qsI k) l0 (fun _ => rfl) (by kernel_rfl) fun n x => by kernel_rfl
theorem qsJ : ∀ k, qh (call cf k) (qvK k) :=
 fnk 0 [0] Tryz.func147 (fun k => (qsI k)) (fun k => (lc (qvM k) l0)) ⟨rfl, rfl, ⟨rfl, Nat.le_of_ble_eq_true rfl⟩, rfl⟩ (fun _ => rfl) (by kernel_rfl) fun k x => by kernel_rfl

def qb0 (k : Nat) (a0 : Bool) (a1 : List Int) (b0 : Bool) (b1 : List Int) : Option (Bool × List Int) :=
 if ((a0 == b0) = true) then
 Option.bind (qdh k a1 b1) fun r6 =>
 if (a0 = true) then
 (some ((decide ((((List.length r6) : Nat) : Int) > (0 : Int))), r6))
 else
 (some (false, r6))
 else
 Option.bind (qdi k a1 b1) fun r6 =>
 if ((decide (r6 ≥ (0 : Int))) = true) then
 Option.bind (qaD k a1 b1) fun r7 =>
 if (a0 = true) then
 (some ((decide ((((List.length r7) : Nat) : Int) > (0 : Int))), r7))
 else
 (some (false, r7))
 else
 Option.bind (qaD k b1 a1) fun r7 =>
 (some (b0, r7))
def qcx : Nat → Bool → List Int → Bool → List Int → Option (Bool × List Int)
 | 0, _, _, _, _ => none
 | k + 1, a0, a1, b0, b1 => qb0 k a0 a1 b0 b1
def qzl : Nat → Inst := mkI 90 ⟨[.g [.lf .bool, .lf (.sl (.int .i64))], .g [.lf .bool, .lf (.sl (.int .i64))]], []⟩ [⟨[.g [.lf .bool, .lf (.sl (.int .i64))]], []⟩] fun k x => qcx k x.1 x.2.1 x.2.2.1 x.2.2.2
theorem qyj : ∀ k, qh (call cf k) (qzl k) :=
 fnk 0 [] Tryz.func90 (fun k => (ac (qyi k) (ac (qsH k) (ac (qsJ k) a0)))) (fun k => l0) ⟨rfl, rfl, ⟨rfl, Nat.le_of_ble_eq_true rfl⟩, rfl⟩ (fun _ => rfl) (by kernel_rfl) fun k x => by kernel_rfl

def qaS (k : Nat) (rec : Int → Bool → Nat → Bool → Nat → List Int → List Int → Option (Bool × Nat × Bool × Nat × List Int × List Int)) (v : Int) (x0 : Bool) (x1 : Nat) (a0 : Bool) (a1 : Nat) (m : List Int) (m1 : List Int) : Option (Bool × Nat × Bool × Nat × List Int × List Int) :=
 if ((decide (v > (0 : Int))) = true) then
 if (a1 ≤ (List.length m1)) then
 if (((a1 + (List.length (List.take 1 ((Int.tmod v (65536 : Int)) :: [])))) * 8) ≤ 140737488355328) then
 rec (IntKind.wrap .i64 (Int.tdiv v (65536 : Int))) x0 x1 a0 (a1 + (List.length (List.take 1 ((Int.tmod v (65536 : Int)) :: [])))) m ((List.take a1 m1) ++ (List.take 1 ((Int.tmod v (65536 : Int)) :: [])))
 else
 none
 else
 none
 else
 (some (x0, x1, a0, a1, m, m1))
def qaC (k n : Nat) : Int → Bool → Nat → Bool → Nat → List Int → List Int → Option (Bool × Nat × Bool × Nat × List Int × List Int) := Nat.rec (fun _ _ _ _ _ _ _ => none) (fun _ r => qaS k r) n
def qcX (k : Nat) (v : Int) : Option (Bool × List Int) :=
 if ((decide (v < (0 : Int))) = true) then
 Option.bind (qaC k k (IntKind.wrap .i64 ((0 : Int) - v)) false 0 true 0 [] []) fun r6 =>
 if ((0 + r6.2.2.2.1) ≤ (List.length r6.2.2.2.2.2)) then
 (some (r6.2.2.1, (List.take r6.2.2.2.1 r6.2.2.2.2.2)))
 else
 none
 else
 Option.bind (qaC k k v false 0 false 0 [] []) fun r6 =>
 if ((0 + r6.2.2.2.1) ≤ (List.length r6.2.2.2.2.2)) then
 (some (r6.2.2.1, (List.take r6.2.2.2.1 r6.2.2.2.2.2)))
 else
 none
def qS : Nat → Int → Option (Bool × List Int)
 | 0, _ => none
 | k + 1, v => qcX k v
def qoL : Nat → Inst := mkI 94 ⟨[vI], []⟩ [⟨[.g [.lf .bool, .lf (.sl (.int .i64))]], []⟩] fun k x => qS k x
def qvN (k : Nat) : LInst := mkL 0 [⟨[(0, vI), (2, .a (.ptr 0 0 0)), (3, .a (.ptr 1 0 0))], [(0, some (.raw [[.lf .bool, .smz 2]] 2 154 false false false)), (1, some (.raw [[.lf .bool, .smz 3]] 2 154 false false false)), (2, some (.arr (.int .i64) 1 3 false)), (3, some (.arr (.int .i64) 1 3 false))], 4⟩] [⟨some 0, ⟨[(2, .a (.ptr 0 0 0)), (3, .a (.ptr 1 0 0))], [(0, some (.raw [[.lf .bool, .smz 2]] 2 154 false false false)), (1, some (.raw [[.lf .bool, .smz 3]] 2 154 false false false)), (2, some (.arr (.int .i64) 1 3 false)), (3, some (.arr (.int .i64) 1 3 false))], 4⟩⟩] (fun n x => qaC k n x.1 x.2.1 x.2.2.1 x.2.2.2.1 x.2.2.2.2.1 x.2.2.2.2.2.1 x.2.2.2.2.2.2) k
theorem qvO (k : Nat) : LIo 94 Tryz.f94 0 k (qvN k) :=
 lpk [] a0 l0 (fun _ => rfl) (by kernel_rfl) fun n x => by kernel_rfl
theorem qlz : ∀ k, qh (call cf k) (qoL k) :=
 fnk 0 [0] Tryz.func94 (fun k => a0) (fun k => (lc (qvO k) l0)) ⟨rfl, rfl, ⟨rfl, Nat.le_of_ble_eq_true rfl⟩, rfl⟩ (fun _ => rfl) (by kernel_rfl) fun k x => by kernel_rfl

def qfB (k : Nat) (a0 : Bool) (a1 : List Int) : Option (Int) :=
 if (((((List.length a1) : Nat) : Int) == (0 : Int)) = true) then
 (some (0 : Int))
 else
 if (a0 = true) then
 (some (-(1 : Int)))
 else
 (some (1 : Int))
def qdj : Nat → Bool → List Int → Option (Int)
 | 0, _, _ => none
 | k + 1, a0, a1 => qfB k a0 a1
def qzm : Nat → Inst := mkI 149 ⟨[.g [.lf .bool, .lf (.sl (.int .i64))]], []⟩ [⟨[vI], []⟩] fun k x => qdj k x.1 x.2
theorem qsK : ∀ k, qh (call cf k) (qzm k) :=
 fnk 0 [] Tryz.func149 (fun k => a0) (fun k => l0) ⟨rfl, rfl, ⟨rfl, Nat.le_of_ble_eq_true rfl⟩, rfl⟩ (fun _ => rfl) (by kernel_rfl) fun k x => by kernel_rfl

def qcY (k : Nat) (a0 : Bool) (a1 : List Int) : Option (Bool × List Int) :=
 if (((((List.length a1) : Nat) : Int) == (0 : Int)) = true) then
 (some (false, []))
 else
 (some ((!a0), a1))
def qbJ : Nat → Bool → List Int → Option (Bool × List Int)
 | 0, _, _ => none
 | k + 1, a0, a1 => qcY k a0 a1
def qzn : Nat → Inst := mkI 150 ⟨[.g [.lf .bool, .lf (.sl (.int .i64))]], []⟩ [⟨[.g [.lf .bool, .lf (.sl (.int .i64))]], []⟩] fun k x => qbJ k x.1 x.2
theorem qsL : ∀ k, qh (call cf k) (qzn k) :=
 fnk 0 [] Tryz.func150 (fun k => a0) (fun k => l0) ⟨rfl, rfl, ⟨rfl, Nat.le_of_ble_eq_true rfl⟩, rfl⟩ (fun _ => rfl) (by kernel_rfl) fun k x => by kernel_rfl

def qj8 (k : Nat) (a0 : Bool) (a1 : List Int) : Option (Bool × List Int) :=
 (some (false, a1))
def qbO : Nat → Bool → List Int → Option (Bool × List Int)
 | 0, _, _ => none
 | k + 1, a0, a1 => qj8 k a0 a1
def qvP : Nat → Inst := mkI 206 ⟨[.g [.lf .bool, .lf (.sl (.int .i64))]], []⟩ [⟨[.g [.lf .bool, .lf (.sl (.int .i64))]], []⟩] fun k x => qbO k x.1 x.2
theorem qyk : ∀ k, qh (call cf k) (qvP k) :=
 fnk 0 [] Tryz.func206 (fun k => a0) (fun k => l0) ⟨rfl, rfl, ⟨rfl, Nat.le_of_ble_eq_true rfl⟩, rfl⟩ (fun _ => rfl) (by kernel_rfl) fun k x => by kernel_rfl

def qce (k : Nat) (rec : Nat → Int → Int → Int → Bool → List Int → Bool → List Int → Bool → Nat → List Int → List Int → Option (Nat × Int × Int × Bool × List Int × Bool × List Int × Bool × Nat × List Int × List Int)) (d : Nat) (i : Int) (carry : Int) (j : Int) (a0 : Bool) (a1 : List Int) (b0 : Bool) (b1 : List Int) (x0 : Bool) (x1 : Nat) (ds : List Int) (m : List Int) : Option (Nat × Int × Int × Bool × List Int × Bool × List Int × Bool × Nat × List Int × List Int) :=
 if ((decide (j < (((List.length b1) : Nat) : Int))) = true) then
 if (((0 : Int) ≤ (IntKind.wrap .i64 (i + j))) ∧ ((IntKind.wrap .i64 (i + j)) < ((d : Nat) : Int))) then
 Option.bind (ds)[(0 + (Int.toNat (IntKind.wrap .i64 (i + j))))]? fun x2 =>
 if ((0 : Int) ≤ i) then
 Option.bind (a1)[(Int.toNat i)]? fun x3 =>
 if ((0 : Int) ≤ j) then
 Option.bind (b1)[(Int.toNat j)]? fun x4 =>
 if (((0 : Int) ≤ (IntKind.wrap .i64 (i + j))) ∧ ((IntKind.wrap .i64 (i + j)) < ((d : Nat) : Int))) then
 Option.bind (ds)[(0 + (Int.toNat (IntKind.wrap .i64 (i + j))))]? fun x5 =>
 rec d i (IntKind.wrap .i64 (Int.tdiv (IntKind.wrap .i64 ((IntKind.wrap .i64 (x2 + (IntKind.wrap .i64 (x3 * x4)))) + carry)) (65536 : Int))) (IntKind.wrap .i64 (j + (1 : Int))) a0 a1 b0 b1 x0 x1 (List.set ds (0 + (Int.toNat (IntKind.wrap .i64 (i + j)))) (Int.tmod (IntKind.wrap .i64 ((IntKind.wrap .i64 (x2 + (IntKind.wrap .i64 (x3 * x4)))) + carry)) (65536 : Int))) m
 else
 none
 else
 none
 else
 none
 else
 none
 else
 (some (d, i, carry, a0, a1, b0, b1, x0, x1, ds, m))
def qbQ (k n : Nat) : Nat → Int → Int → Int → Bool → List Int → Bool → List Int → Bool → Nat → List Int → List Int → Option (Nat × Int × Int × Bool × List Int × Bool × List Int × Bool × Nat × List Int × List Int) := Nat.rec (fun _ _ _ _ _ _ _ _ _ _ _ _ => none) (fun _ r => qce k r) n
def qcf (k : Nat) (rec : Nat → Int → Bool → List Int → Bool → List Int → Bool → Nat → List Int → List Int → Option (Nat × Bool × List Int × Bool × List Int × Bool × Nat × List Int × List Int)) (d : Nat) (i : Int) (a0 : Bool) (a1 : List Int) (b0 : Bool) (b1 : List Int) (x0 : Bool) (x1 : Nat) (ds : List Int) (m : List Int) : Option (Nat × Bool × List Int × Bool × List Int × Bool × Nat × List Int × List Int) :=
 if ((decide (i < (((List.length a1) : Nat) : Int))) = true) then
 Option.bind (qbQ k k d i (0 : Int) (0 : Int) a0 a1 b0 b1 x0 x1 ds m) fun r15 =>
 if (((0 : Int) ≤ (IntKind.wrap .i64 (r15.2.1 + (((List.length r15.2.2.2.2.2.2.1) : Nat) : Int)))) ∧ ((IntKind.wrap .i64 (r15.2.1 + (((List.length r15.2.2.2.2.2.2.1) : Nat) : Int))) < ((r15.1 : Nat) : Int))) then
 Option.bind (r15.2.2.2.2.2.2.2.2.2.1)[(0 + (Int.toNat (IntKind.wrap .i64 (r15.2.1 + (((List.length r15.2.2.2.2.2.2.1) : Nat) : Int)))))]? fun x2 =>
 if (((0 : Int) ≤ (IntKind.wrap .i64 (r15.2.1 + (((List.length r15.2.2.2.2.2.2.1) : Nat) : Int)))) ∧ ((IntKind.wrap .i64 (r15.2.1 + (((List.length r15.2.2.2.2.2.2.1) : Nat) : Int))) < ((r15.1 : Nat) : Int))) then
 Option.bind (r15.2.2.2.2.2.2.2.2.2.1)[(0 + (Int.toNat (IntKind.wrap .i64 (r15.2.1 + (((List.length r15.2.2.2.2.2.2.1) : Nat) : Int)))))]? fun x3 =>
 rec r15.1 (IntKind.wrap .i64 (r15.2.1 + (1 : Int))) r15.2.2.2.1 r15.2.2.2.2.1 r15.2.2.2.2.2.1 r15.2.2.2.2.2.2.1 r15.2.2.2.2.2.2.2.1 r15.2.2.2.2.2.2.2.2.1 (List.set r15.2.2.2.2.2.2.2.2.2.1 (0 + (Int.toNat (IntKind.wrap .i64 (r15.2.1 + (((List.length r15.2.2.2.2.2.2.1) : Nat) : Int))))) (IntKind.wrap .i64 (x2 + r15.2.2.1))) r15.2.2.2.2.2.2.2.2.2.2
 else
 none
 else
 none
 else
 (some (d, a0, a1, b0, b1, x0, x1, ds, m))
def qbR (k n : Nat) : Nat → Int → Bool → List Int → Bool → List Int → Bool → Nat → List Int → List Int → Option (Nat × Bool × List Int × Bool × List Int × Bool × Nat × List Int × List Int) := Nat.rec (fun _ _ _ _ _ _ _ _ _ _ => none) (fun _ r => qcf k r) n
def qe5 (k : Nat) (a0 : Bool) (a1 : List Int) (b0 : Bool) (b1 : List Int) : Option (Bool × List Int) :=
 if (((0 : Int) ≤ (IntKind.wrap .i64 ((((List.length a1) : Nat) : Int) + (((List.length b1) : Nat) : Int)))) ∧ (((IntKind.wrap .i64 ((((List.length a1) : Nat) : Int) + (((List.length b1) : Nat) : Int))) ≤ (IntKind.wrap .i64 ((((List.length a1) : Nat) : Int) + (((List.length b1) : Nat) : Int)))) ∧ (((IntKind.wrap .i64 ((((List.length a1) : Nat) : Int) + (((List.length b1) : Nat) : Int))) * (8 : Int)) ≤ (140737488355328 : Int)))) then
 Option.bind (qbR k k (Int.toNat (IntKind.wrap .i64 ((((List.length a1) : Nat) : Int) + (((List.length b1) : Nat) : Int)))) (0 : Int) a0 a1 b0 b1 false 0 (List.replicate (Int.toNat (IntKind.wrap .i64 ((((List.length a1) : Nat) : Int) + (((List.length b1) : Nat) : Int)))) (0 : Int)) []) fun r15 =>
 Option.bind (qC k r15.1 r15.2.2.2.2.2.2.2.1) fun r16 =>
 if ((!(r15.2.1 == r15.2.2.2.1)) = true) then
 if ((0 + r16.1) ≤ (List.length r16.2)) then
 (some ((decide (((r16.1 : Nat) : Int) > (0 : Int))), (List.take r16.1 r16.2)))
 else
 none
 else
 if ((0 + r16.1) ≤ (List.length r16.2)) then
 (some (false, (List.take r16.1 r16.2)))
 else
 none
 else
 none
def qU : Nat → Bool → List Int → Bool → List Int → Option (Bool × List Int)
 | 0, _, _, _, _ => none
 | k + 1, a0, a1, b0, b1 => qe5 k a0 a1 b0 b1
def qoM : Nat → Inst := mkI 208 ⟨[.g [.lf .bool, .lf (.sl (.int .i64))], .g [.lf .bool, .lf (.sl (.int .i64))]], []⟩ [⟨[.g [.lf .bool, .lf (.sl (.int .i64))]], []⟩] fun k x => qU k x.1 x.2.1 x.2.2.1 x.2.2.2
theorem qoN (k : Nat) : qa5 (call cf k) [qmw k] :=
 ac (qly k) a0
def qvQ (k : Nat) : LInst := mkL 2 [⟨[(2, .a (.ptr 0 0 0)), (3, .a (.ptr 1 0 0)), (4, .a (.ptr 2 0 0)), (5, .a (.smz 3)), (6, vI), (7, vI), (8, vI)], [(0, some (.raw [[.lf .bool, .lf (.sl (.int .i64))]] 2 154 true false false)), (1, some (.raw [[.lf .bool, .lf (.sl (.int .i64))]] 2 154 true false false)), (2, some (.raw [[.lf .bool, .smz 4]] 2 154 false false false)), (3, some (.arr (.int .i64) 1 3 false)), (4, some (.arr (.int .i64) 1 3 false))], 5⟩] [⟨some 2, ⟨[(2, .a (.ptr 0 0 0)), (3, .a (.ptr 1 0 0)), (4, .a (.ptr 2 0 0)), (5, .a (.smz 3)), (6, vI), (7, vI)], [(0, some (.raw [[.lf .bool, .lf (.sl (.int .i64))]] 2 154 true false false)), (1, some (.raw [[.lf .bool, .lf (.sl (.int .i64))]] 2 154 true false false)), (2, some (.raw [[.lf .bool, .smz 4]] 2 154 false false false)), (3, some (.arr (.int .i64) 1 3 false)), (4, some (.arr (.int .i64) 1 3 false))], 5⟩⟩] (fun n x => qbQ k n x.1 x.2.1 x.2.2.1 x.2.2.2.1 x.2.2.2.2.1 x.2.2.2.2.2.1 x.2.2.2.2.2.2.1 x.2.2.2.2.2.2.2.1 x.2.2.2.2.2.2.2.2.1 x.2.2.2.2.2.2.2.2.2.1 x.2.2.2.2.2.2.2.2.2.2.1 x.2.2.2.2.2.2.2.2.2.2.2) k
theorem qp8 (k : Nat) : LIo 208 Tryz.f208 0 k (qvQ k) :=
 lpk [] (qoN k) l0 (fun _ => rfl) (by kernel_rfl) fun n x => by kernel_rfl
def qvR (k : Nat) : LInst := mkL 0 [⟨[(2, .a (.ptr 0 0 0)), (3, .a (.ptr 1 0 0)), (4, .a (.ptr 2 0 0)), (5, .a (.smz 3)), (6, vI)], [(0, some (.raw [[.lf .bool, .lf (.sl (.int .i64))]] 2 154 true false false)), (1, some (.raw [[.lf .bool, .lf (.sl (.int .i64))]] 2 154 true false false)), (2, some (.raw [[.lf .bool, .smz 4]] 2 154 false false false)), (3, some (.arr (.int .i64) 1 3 false)), (4, some (.arr (.int .i64) 1 3 false))], 5⟩] [⟨some 0, ⟨[(2, .a (.ptr 0 0 0)), (3, .a (.ptr 1 0 0)), (4, .a (.ptr 2 0 0)), (5, .a (.smz 3))], [(0, some (.raw [[.lf .bool, .lf (.sl (.int .i64))]] 2 154 true false false)), (1, some (.raw [[.lf .bool, .lf (.sl (.int .i64))]] 2 154 true false false)), (2, some (.raw [[.lf .bool, .smz 4]] 2 154 false false false)), (3, some (.arr (.int .i64) 1 3 false)), (4, some (.arr (.int .i64) 1 3 false))], 5⟩⟩] (fun n x => qbR k n x.1 x.2.1 x.2.2.1 x.2.2.2.1 x.2.2.2.2.1 x.2.2.2.2.2.1 x.2.2.2.2.2.2.1 x.2.2.2.2.2.2.2.1 x.2.2.2.2.2.2.2.2.1 x.2.2.2.2.2.2.2.2.2) k
theorem qvS (k : Nat) : LIo 208 Tryz.f208 0 k (qvR k) :=
 lpk [2] (qoN k) (lc (qp8 k) l0) (fun _ => rfl) (by kernel_rfl) fun n x => by kernel_rfl
theorem qj9 : ∀ k, qh (call cf k) (qoM k) :=
 fnk 0 [0] Tryz.func208 (fun k => (qoN k)) (fun k => (lc (qp8 k) (lc (qvS k) l0))) ⟨rfl, rfl, ⟨rfl, Nat.le_of_ble_eq_true rfl⟩, rfl⟩ (fun _ => rfl) (by kernel_rfl) fun k x => by kernel_rfl

def qX (k : Nat) (rec : List Int → List Int → Int → Int → Option (Int)) (r : List Int) (b : List Int) (low : Int) (high : Int) : Option (Int) :=
 if ((decide (low < high)) = true) then
 Option.bind (qS k (IntKind.wrap .i64 (Int.tdiv (IntKind.wrap .i64 ((IntKind.wrap .i64 (low + high)) + (1 : Int))) (2 : Int)))) fun r14 =>
 Option.bind (qU k false b r14.1 r14.2) fun r15 =>
 Option.bind (qdi k r15.2 r) fun r16 =>
 if ((decide (r16 ≤ (0 : Int))) = true) then
 rec r b (IntKind.wrap .i64 (Int.tdiv (IntKind.wrap .i64 ((IntKind.wrap .i64 (low + high)) + (1 : Int))) (2 : Int))) high
 else
 rec r b low (IntKind.wrap .i64 ((IntKind.wrap .i64 (Int.tdiv (IntKind.wrap .i64 ((IntKind.wrap .i64 (low + high)) + (1 : Int))) (2 : Int))) - (1 : Int)))
 else
 (some low)
def qbh (k n : Nat) : List Int → List Int → Int → Int → Option (Int) := Nat.rec (fun _ _ _ _ => none) (fun _ r => qX k r) n
def qe6 (k : Nat) (r : List Int) (b : List Int) : Option (Int) :=
 Option.bind (qdi k r b) fun r13 =>
 if ((decide (r13 < (0 : Int))) = true) then
 (some (0 : Int))
 else
 Option.bind (qbh k k r b (0 : Int) (65535 : Int)) fun r14 =>
 (some r14)
def qcl : Nat → List Int → List Int → Option (Int)
 | 0, _, _ => none
 | k + 1, r, b => qe6 k r b
def qvT : Nat → Inst := mkI 207 ⟨[vJ, vJ], []⟩ [⟨[vI], []⟩] fun k x => qcl k x.1 x.2
theorem qsM (k : Nat) : qa5 (call cf k) [qvH k, qoL k, qoM k] :=
 ac (qsH k) (ac (qlz k) (ac (qj9 k) a0))
def qvU (k : Nat) : LInst := mkL 0 [⟨[(0, vJ), (1, vJ), (5, vI), (6, vI)], [], 0⟩] [⟨some 0, ⟨[(5, vI)], [], 0⟩⟩] (fun n x => qbh k n x.1 x.2.1 x.2.2.1 x.2.2.2) k
theorem qvV (k : Nat) : LIo 207 Tryz.f207 0 k (qvU k) :=
 lpk [] (qsM k) l0 (fun _ => rfl) (by kernel_rfl) fun n x => by kernel_rfl
theorem qyl : ∀ k, qh (call cf k) (qvT k) :=
 fnk 0 [0] Tryz.func207 (fun k => (qsM k)) (fun k => (lc (qvV k) l0)) ⟨rfl, rfl, ⟨rfl, Nat.le_of_ble_eq_true rfl⟩, rfl⟩ (fun _ => rfl) (by kernel_rfl) fun k x => by kernel_rfl

def qv (k : Nat) (rec : ((Nat × Nat × Int × Bool × List Int × Bool × List Int × Bool × Nat × Bool × Nat × List Int × List Int × List Int × List Int) ⊕ (Nat × List Int × Int × Bool × List Int × Bool × List Int × Bool × Nat × Bool × Nat × List Int × List Int × List Int)) → Option ((Nat × Nat × Bool × List Int × Bool × List Int × Bool × Nat × Bool × Nat × List Int × List Int × List Int × List Int) ⊕ (Nat × List Int × Bool × List Int × Bool × List Int × Bool × Nat × Bool × Nat × List Int × List Int × List Int))) (x : (Nat × Nat × Int × Bool × List Int × Bool × List Int × Bool × Nat × Bool × Nat × List Int × List Int × List Int × List Int) ⊕ (Nat × List Int × Int × Bool × List Int × Bool × List Int × Bool × Nat × Bool × Nat × List Int × List Int × List Int)) : Option ((Nat × Nat × Bool × List Int × Bool × List Int × Bool × Nat × Bool × Nat × List Int × List Int × List Int × List Int) ⊕ (Nat × List Int × Bool × List Int × Bool × List Int × Bool × Nat × Bool × Nat × List Int × List Int × List Int)) :=
 qc x
 (fun x =>
 if ((decide (x.2.2.1 ≥ (0 : Int))) = true) then
 if ((0 : Int) ≤ x.2.2.1) then
 Option.bind (x.2.2.2.2.1)[(Int.toNat x.2.2.1)]? fun x2 =>
 if ((0 + x.2.1) ≤ (List.length x.2.2.2.2.2.2.2.2.2.2.2.2.1)) then
 if (((1 + (List.length (List.take x.2.1 x.2.2.2.2.2.2.2.2.2.2.2.2.1))) * 8) ≤ 140737488355328) then
 Option.bind (qC k (1 + (List.length (List.take x.2.1 x.2.2.2.2.2.2.2.2.2.2.2.2.1))) ((List.take 1 (x2 :: [])) ++ (List.take x.2.1 x.2.2.2.2.2.2.2.2.2.2.2.2.1))) fun r12 =>
 if ((0 + r12.1) ≤ (List.length r12.2)) then
 Option.bind (qcl k (List.take r12.1 r12.2) x.2.2.2.2.2.2.1) fun r13 =>
 if ((decide (r13 > (0 : Int))) = true) then
 Option.bind (qS k r13) fun r14 =>
 Option.bind (qU k false x.2.2.2.2.2.2.1 r14.1 r14.2) fun r15 =>
 if ((0 + r12.1) ≤ (List.length r12.2)) then
 Option.bind (qaD k (List.take r12.1 r12.2) r15.2) fun r16 =>
 if (((0 : Int) ≤ x.2.2.1) ∧ (x.2.2.1 < ((x.1 : Nat) : Int))) then
 Option.bind (x.2.2.2.2.2.2.2.2.2.2.2.1)[(0 + (Int.toNat x.2.2.1))]? fun x3 =>
 rec (Sum.inr (x.1, r16, (IntKind.wrap .i64 (x.2.2.1 - (1 : Int))), x.2.2.2.1, x.2.2.2.2.1, x.2.2.2.2.2.1, x.2.2.2.2.2.2.1, x.2.2.2.2.2.2.2.1, x.2.2.2.2.2.2.2.2.1, x.2.2.2.2.2.2.2.2.2.1, x.2.2.2.2.2.2.2.2.2.2.1, (List.set x.2.2.2.2.2.2.2.2.2.2.2.1 (0 + (Int.toNat x.2.2.1)) r13), x.2.2.2.2.2.2.2.2.2.2.2.2.2.1, x.2.2.2.2.2.2.2.2.2.2.2.2.2.2))
 else
 none
 else
 none
 else
 if (((0 : Int) ≤ x.2.2.1) ∧ (x.2.2.1 < ((x.1 : Nat) : Int))) then
 Option.bind (x.2.2.2.2.2.2.2.2.2.2.2.1)[(0 + (Int.toNat x.2.2.1))]? fun x3 =>
 rec (Sum.inl (x.1, r12.1, (IntKind.wrap .i64 (x.2.2.1 - (1 : Int))), x.2.2.2.1, x.2.2.2.2.1, x.2.2.2.2.2.1, x.2.2.2.2.2.2.1, x.2.2.2.2.2.2.2.1, x.2.2.2.2.2.2.2.2.1, x.2.2.2.2.2.2.2.2.2.1, x.2.2.2.2.2.2.2.2.2.2.1, (List.set x.2.2.2.2.2.2.2.2.2.2.2.1 (0 + (Int.toNat x.2.2.1)) r13), r12.2, x.2.2.2.2.2.2.2.2.2.2.2.2.2.1, x.2.2.2.2.2.2.2.2.2.2.2.2.2.2))
 else
 none
 else
 none
 else
 none
 else
 none
 else
 none
 else
 (some (Sum.inl (x.1, x.2.1, x.2.2.2.1, x.2.2.2.2.1, x.2.2.2.2.2.1, x.2.2.2.2.2.2.1, x.2.2.2.2.2.2.2.1, x.2.2.2.2.2.2.2.2.1, x.2.2.2.2.2.2.2.2.2.1, x.2.2.2.2.2.2.2.2.2.2.1, x.2.2.2.2.2.2.2.2.2.2.2.1, x.2.2.2.2.2.2.2.2.2.2.2.2.1, x.2.2.2.2.2.2.2.2.2.2.2.2.2.1, x.2.2.2.2.2.2.2.2.2.2.2.2.2.2))))
 (fun x =>
 if ((decide (x.2.2.1 ≥ (0 : Int))) = true) then
 if ((0 : Int) ≤ x.2.2.1) then
 Option.bind (x.2.2.2.2.1)[(Int.toNat x.2.2.1)]? fun x2 =>
 if (((1 + (List.length x.2.1)) * 8) ≤ 140737488355328) then
 Option.bind (qC k (1 + (List.length x.2.1)) ((List.take 1 (x2 :: [])) ++ x.2.1)) fun r12 =>
 if ((0 + r12.1) ≤ (List.length r12.2)) then
 Option.bind (qcl k (List.take r12.1 r12.2) x.2.2.2.2.2.2.1) fun r13 =>
 if ((decide (r13 > (0 : Int))) = true) then
 Option.bind (qS k r13) fun r14 =>
 Option.bind (qU k false x.2.2.2.2.2.2.1 r14.1 r14.2) fun r15 =>
 if ((0 + r12.1) ≤ (List.length r12.2)) then
 Option.bind (qaD k (List.take r12.1 r12.2) r15.2) fun r16 =>
 if (((0 : Int) ≤ x.2.2.1) ∧ (x.2.2.1 < ((x.1 : Nat) : Int))) then
 Option.bind (x.2.2.2.2.2.2.2.2.2.2.2.1)[(0 + (Int.toNat x.2.2.1))]? fun x3 =>
 rec (Sum.inr (x.1, r16, (IntKind.wrap .i64 (x.2.2.1 - (1 : Int))), x.2.2.2.1, x.2.2.2.2.1, x.2.2.2.2.2.1, x.2.2.2.2.2.2.1, x.2.2.2.2.2.2.2.1, x.2.2.2.2.2.2.2.2.1, x.2.2.2.2.2.2.2.2.2.1, x.2.2.2.2.2.2.2.2.2.2.1, (List.set x.2.2.2.2.2.2.2.2.2.2.2.1 (0 + (Int.toNat x.2.2.1)) r13), x.2.2.2.2.2.2.2.2.2.2.2.2.1, x.2.2.2.2.2.2.2.2.2.2.2.2.2))
 else
 none
 else
 none
 else
 if (((0 : Int) ≤ x.2.2.1) ∧ (x.2.2.1 < ((x.1 : Nat) : Int))) then
 Option.bind (x.2.2.2.2.2.2.2.2.2.2.2.1)[(0 + (Int.toNat x.2.2.1))]? fun x3 =>
 rec (Sum.inl (x.1, r12.1, (IntKind.wrap .i64 (x.2.2.1 - (1 : Int))), x.2.2.2.1, x.2.2.2.2.1, x.2.2.2.2.2.1, x.2.2.2.2.2.2.1, x.2.2.2.2.2.2.2.1, x.2.2.2.2.2.2.2.2.1, x.2.2.2.2.2.2.2.2.2.1, x.2.2.2.2.2.2.2.2.2.2.1, (List.set x.2.2.2.2.2.2.2.2.2.2.2.1 (0 + (Int.toNat x.2.2.1)) r13), r12.2, x.2.2.2.2.2.2.2.2.2.2.2.2.1, x.2.2.2.2.2.2.2.2.2.2.2.2.2))
 else
 none
 else
 none
 else
 none
 else
 none
 else
 (some (Sum.inr (x.1, x.2.1, x.2.2.2.1, x.2.2.2.2.1, x.2.2.2.2.2.1, x.2.2.2.2.2.2.1, x.2.2.2.2.2.2.2.1, x.2.2.2.2.2.2.2.2.1, x.2.2.2.2.2.2.2.2.2.1, x.2.2.2.2.2.2.2.2.2.2.1, x.2.2.2.2.2.2.2.2.2.2.2.1, x.2.2.2.2.2.2.2.2.2.2.2.2.1, x.2.2.2.2.2.2.2.2.2.2.2.2.2))))
def qK (k n : Nat) : ((Nat × Nat × Int × Bool × List Int × Bool × List Int × Bool × Nat × Bool × Nat × List Int × List Int × List Int × List Int) ⊕ (Nat × List Int × Int × Bool × List Int × Bool × List Int × Bool × Nat × Bool × Nat × List Int × List Int × List Int)) → Option ((Nat × Nat × Bool × List Int × Bool × List Int × Bool × Nat × Bool × Nat × List Int × List Int × List Int × List Int) ⊕ (Nat × List Int × Bool × List Int × Bool × List Int × Bool × Nat × Bool × Nat × List Int × List Int × List Int)) := Nat.rec (fun _ => none) (fun _ r => qv k r) n
def qeJ (k : Nat) (a0 : Bool) (a1 : List Int) (b0 : Bool) (b1 : List Int) : Option (Bool × List Int × Bool × List Int) :=
 if (((0 : Int) ≤ (((List.length a1) : Nat) : Int)) ∧ (((((List.length a1) : Nat) : Int) ≤ (((List.length a1) : Nat) : Int)) ∧ (((((List.length a1) : Nat) : Int) * (8 : Int)) ≤ (140737488355328 : Int)))) then
 Option.bind (qK k k (Sum.inl ((Int.toNat (((List.length a1) : Nat) : Int)), 0, (IntKind.wrap .i64 ((((List.length a1) : Nat) : Int) - (1 : Int))), a0, a1, b0, b1, false, 0, false, 0, (List.replicate (Int.toNat (((List.length a1) : Nat) : Int)) (0 : Int)), [], [], []))) fun r12 =>
 qc r12
 (fun r12 =>
 Option.bind (qC k r12.1 r12.2.2.2.2.2.2.2.2.2.2.1) fun r13 =>
 if ((!(r12.2.2.1 == r12.2.2.2.2.1)) = true) then
 if (r12.2.2.1 = true) then
 if ((0 + r13.1) ≤ (List.length r13.2)) then
 if ((0 + r12.2.1) ≤ (List.length r12.2.2.2.2.2.2.2.2.2.2.2.1)) then
 (some ((decide (((r13.1 : Nat) : Int) > (0 : Int))), (List.take r13.1 r13.2), (decide (((r12.2.1 : Nat) : Int) > (0 : Int))), (List.take r12.2.1 r12.2.2.2.2.2.2.2.2.2.2.2.1)))
 else
 none
 else
 none
 else
 if ((0 + r13.1) ≤ (List.length r13.2)) then
 if ((0 + r12.2.1) ≤ (List.length r12.2.2.2.2.2.2.2.2.2.2.2.1)) then
 (some ((decide (((r13.1 : Nat) : Int) > (0 : Int))), (List.take r13.1 r13.2), false, (List.take r12.2.1 r12.2.2.2.2.2.2.2.2.2.2.2.1)))
 else
 none
 else
 none
 else
 if (r12.2.2.1 = true) then
 if ((0 + r13.1) ≤ (List.length r13.2)) then
 if ((0 + r12.2.1) ≤ (List.length r12.2.2.2.2.2.2.2.2.2.2.2.1)) then
 (some (false, (List.take r13.1 r13.2), (decide (((r12.2.1 : Nat) : Int) > (0 : Int))), (List.take r12.2.1 r12.2.2.2.2.2.2.2.2.2.2.2.1)))
 else
 none
 else
 none
 else
 if ((0 + r13.1) ≤ (List.length r13.2)) then
 if ((0 + r12.2.1) ≤ (List.length r12.2.2.2.2.2.2.2.2.2.2.2.1)) then
 (some (false, (List.take r13.1 r13.2), false, (List.take r12.2.1 r12.2.2.2.2.2.2.2.2.2.2.2.1)))
 else
 none
 else
 none)
 (fun r12 =>
 Option.bind (qC k r12.1 r12.2.2.2.2.2.2.2.2.2.2.1) fun r13 =>
 if ((!(r12.2.2.1 == r12.2.2.2.2.1)) = true) then
 if (r12.2.2.1 = true) then
 if ((0 + r13.1) ≤ (List.length r13.2)) then
 (some ((decide (((r13.1 : Nat) : Int) > (0 : Int))), (List.take r13.1 r13.2), (decide ((((List.length r12.2.1) : Nat) : Int) > (0 : Int))), r12.2.1))
 else
 none
 else
 if ((0 + r13.1) ≤ (List.length r13.2)) then
 (some ((decide (((r13.1 : Nat) : Int) > (0 : Int))), (List.take r13.1 r13.2), false, r12.2.1))
 else
 none
 else
 if (r12.2.2.1 = true) then
 if ((0 + r13.1) ≤ (List.length r13.2)) then
 (some (false, (List.take r13.1 r13.2), (decide ((((List.length r12.2.1) : Nat) : Int) > (0 : Int))), r12.2.1))
 else
 none
 else
 if ((0 + r13.1) ≤ (List.length r13.2)) then
 (some (false, (List.take r13.1 r13.2), false, r12.2.1))
 else
 none)
 else
 none
def qaO : Nat → Bool → List Int → Bool → List Int → Option (Bool × List Int × Bool × List Int)
 | 0, _, _, _, _ => none
 | k + 1, a0, a1, b0, b1 => qeJ k a0 a1 b0 b1
def qvW : Nat → Inst := mkI 152 ⟨[.g [.lf .bool, .lf (.sl (.int .i64))], .g [.lf .bool, .lf (.sl (.int .i64))]], []⟩ [⟨[.g [.lf .bool, .lf (.sl (.int .i64))], .g [.lf .bool, .lf (.sl (.int .i64))]], []⟩] fun k x => qaO k x.1 x.2.1 x.2.2.1 x.2.2.2
theorem qsN (k : Nat) : qa5 (call cf k) [qmw k, qvT k, qoL k, qoM k, qvK k] :=
 ac (qly k) (ac (qyl k) (ac (qlz k) (ac (qj9 k) (ac (qsJ k) a0))))
def qvX (k : Nat) : LInst := mkL 0 [⟨[(2, .a (.ptr 0 0 0)), (3, .a (.ptr 1 0 0)), (4, .a (.ptr 2 0 0)), (5, .a (.ptr 3 0 0)), (6, .a (.smz 4)), (7, .a (.smz 5)), (8, vI)], [(0, some (.raw [[.lf .bool, .lf (.sl (.int .i64))]] 2 154 true false false)), (1, some (.raw [[.lf .bool, .lf (.sl (.int .i64))]] 2 154 true false false)), (2, some (.raw [[.lf .bool, .smz 6]] 2 154 false false false)), (3, some (.raw [[.lf .bool, .smz 7]] 2 154 false false false)), (4, some (.arr (.int .i64) 1 3 false)), (5, some (.arr (.int .i64) 1 3 false)), (6, some (.arr (.int .i64) 1 3 false)), (7, some (.arr (.int .i64) 1 3 false))], 8⟩, ⟨[(2, .a (.ptr 0 0 0)), (3, .a (.ptr 1 0 0)), (4, .a (.ptr 2 0 0)), (5, .a (.ptr 3 0 0)), (6, .a (.smz 4)), (7, vJ), (8, vI)], [(0, some (.raw [[.lf .bool, .lf (.sl (.int .i64))]] 2 154 true false false)), (1, some (.raw [[.lf .bool, .lf (.sl (.int .i64))]] 2 154 true false false)), (2, some (.raw [[.lf .bool, .smz 5]] 2 154 false false false)), (3, some (.raw [[.lf .bool, .smz 6]] 2 154 false false false)), (4, some (.arr (.int .i64) 1 3 false)), (5, some (.arr (.int .i64) 1 3 false)), (6, some (.arr (.int .i64) 1 3 false))], 7⟩] [⟨some 0, ⟨[(2, .a (.ptr 0 0 0)), (3, .a (.ptr 1 0 0)), (4, .a (.ptr 2 0 0)), (5, .a (.ptr 3 0 0)), (6, .a (.smz 4)), (7, .a (.smz 5))], [(0, some (.raw [[.lf .bool, .lf (.sl (.int .i64))]] 2 154 true false false)), (1, some (.raw [[.lf .bool, .lf (.sl (.int .i64))]] 2 154 true false false)), (2, some (.raw [[.lf .bool, .smz 6]] 2 154 false false false)), (3, some (.raw [[.lf .bool, .smz 7]] 2 154 false false false)), (4, some (.arr (.int .i64) 1 3 false)), (5, some (.arr (.int .i64) 1 3 false)), (6, some (.arr (.int .i64) 1 3 false)), (7, some (.arr (.int .i64) 1 3 false))], 8⟩⟩, ⟨some 0, ⟨[(2, .a (.ptr 0 0 0)), (3, .a (.ptr 1 0 0)), (4, .a (.ptr 2 0 0)), (5, .a (.ptr 3 0 0)), (6, .a (.smz 4)), (7, vJ)], [(0, some (.raw [[.lf .bool, .lf (.sl (.int .i64))]] 2 154 true false false)), (1, some (.raw [[.lf .bool, .lf (.sl (.int .i64))]] 2 154 true false false)), (2, some (.raw [[.lf .bool, .smz 5]] 2 154 false false false)), (3, some (.raw [[.lf .bool, .smz 6]] 2 154 false false false)), (4, some (.arr (.int .i64) 1 3 false)), (5, some (.arr (.int .i64) 1 3 false)), (6, some (.arr (.int .i64) 1 3 false))], 7⟩⟩] (fun n x => qK k n x) k
theorem qvY (k : Nat) : LIo 152 Tryz.f152 0 k (qvX k) :=
 lpk [] (qsN k) l0 (fun _ => rfl) (by kernel_rfl) fun n x => by kernel_rfl
theorem qsO : ∀ k, qh (call cf k) (qvW k) :=
 fnk 0 [0] Tryz.func152 (fun k => (qsN k)) (fun k => (lc (qvY k) l0)) ⟨rfl, rfl, ⟨rfl, Nat.le_of_ble_eq_true rfl⟩, rfl⟩ (fun _ => rfl) (by kernel_rfl) fun k x => by kernel_rfl

def qb5 (k : Nat) (rec : Bool → List Int → Bool → List Int → Bool → Nat → List Int → Option (Bool × List Int × Bool × List Int × Bool × Nat × List Int)) (a0 : Bool) (a1 : List Int) (b0 : Bool) (b1 : List Int) (x0 : Bool) (x1 : Nat) (m : List Int) : Option (Bool × List Int × Bool × List Int × Bool × Nat × List Int) :=
 if ((decide ((((List.length b1) : Nat) : Int) > (0 : Int))) = true) then
 Option.bind (qaO k a0 a1 b0 b1) fun r12 =>
 rec b0 b1 r12.2.2.1 r12.2.2.2 x0 x1 m
 else
 (some (a0, a1, b0, b1, x0, x1, m))
def qcg (k n : Nat) : Bool → List Int → Bool → List Int → Bool → Nat → List Int → Option (Bool × List Int × Bool × List Int × Bool × Nat × List Int) := Nat.rec (fun _ _ _ _ _ _ _ => none) (fun _ r => qb5 k r) n
def qix (k : Nat) (a0 : Bool) (a1 : List Int) (b0 : Bool) (b1 : List Int) : Option (Bool × List Int) :=
 Option.bind (qbO k a0 a1) fun r10 =>
 Option.bind (qbO k b0 b1) fun r11 =>
 Option.bind (qcg k k r10.1 r10.2 r11.1 r11.2 false 0 []) fun r12 =>
 (some (r12.1, r12.2.1))
def qcG : Nat → Bool → List Int → Bool → List Int → Option (Bool × List Int)
 | 0, _, _, _, _ => none
 | k + 1, a0, a1, b0, b1 => qix k a0 a1 b0 b1
def qzo : Nat → Inst := mkI 151 ⟨[.g [.lf .bool, .lf (.sl (.int .i64))], .g [.lf .bool, .lf (.sl (.int .i64))]], []⟩ [⟨[.g [.lf .bool, .lf (.sl (.int .i64))]], []⟩] fun k x => qcG k x.1 x.2.1 x.2.2.1 x.2.2.2
theorem qsP (k : Nat) : qa5 (call cf k) [qvP k, qvW k] :=
 ac (qyk k) (ac (qsO k) a0)
def qvZ (k : Nat) : LInst := mkL 0 [⟨[(2, .a (.ptr 0 0 0)), (3, .a (.ptr 1 0 0)), (4, .a (.ptr 2 0 0))], [(0, some (.raw [[.lf .bool, .lf (.sl (.int .i64))]] 2 154 true false false)), (1, some (.raw [[.lf .bool, .lf (.sl (.int .i64))]] 2 154 true false false)), (2, some (.raw [[.lf .bool, .smz 3]] 2 154 false false false)), (3, some (.arr (.int .i64) 1 3 false))], 4⟩] [⟨some 0, ⟨[(2, .a (.ptr 0 0 0)), (4, .a (.ptr 2 0 0))], [(0, some (.raw [[.lf .bool, .lf (.sl (.int .i64))]] 2 154 true false false)), (1, some (.raw [[.lf .bool, .lf (.sl (.int .i64))]] 2 154 true false false)), (2, some (.raw [[.lf .bool, .smz 3]] 2 154 false false false)), (3, some (.arr (.int .i64) 1 3 false))], 4⟩⟩] (fun n x => qcg k n x.1 x.2.1 x.2.2.1 x.2.2.2.1 x.2.2.2.2.1 x.2.2.2.2.2.1 x.2.2.2.2.2.2) k
theorem qv0 (k : Nat) : LIo 151 Tryz.f151 0 k (qvZ k) :=
 lpk [] (qsP k) l0 (fun _ => rfl) (by kernel_rfl) fun n x => by kernel_rfl
theorem qym : ∀ k, qh (call cf k) (qzo k) :=
 fnk 0 [0] Tryz.func151 (fun k => (qsP k)) (fun k => (lc (qv0 k) l0)) ⟨rfl, rfl, ⟨rfl, Nat.le_of_ble_eq_true rfl⟩, rfl⟩ (fun _ => rfl) (by kernel_rfl) fun k x => by kernel_rfl

def qcH (k : Nat) (num0 : Bool) (num1 : List Int) (den0 : Bool) (den1 : List Int) : Option (Bool × List Int × Bool × List Int) :=
 Option.bind (qdj k den0 den1) fun r7 =>
 if ((decide (r7 < (0 : Int))) = true) then
 Option.bind (qbJ k num0 num1) fun r8 =>
 Option.bind (qbJ k den0 den1) fun r9 =>
 Option.bind (qcG k r8.1 r8.2 r9.1 r9.2) fun r10 =>
 Option.bind (qaO k r8.1 r8.2 r10.1 r10.2) fun r11 =>
 Option.bind (qaO k r9.1 r9.2 r10.1 r10.2) fun r12 =>
 (some (r11.1, r11.2.1, r12.1, r12.2.1))
 else
 Option.bind (qcG k num0 num1 den0 den1) fun r8 =>
 Option.bind (qaO k num0 num1 r8.1 r8.2) fun r9 =>
 Option.bind (qaO k den0 den1 r8.1 r8.2) fun r10 =>
 (some (r9.1, r9.2.1, r10.1, r10.2.1))
def qcI : Nat → Bool → List Int → Bool → List Int → Option (Bool × List Int × Bool × List Int)
 | 0, _, _, _, _ => none
 | k + 1, num0, num1, den0, den1 => qcH k num0 num1 den0 den1
def qzp : Nat → Inst := mkI 93 ⟨[.g [.lf .bool, .lf (.sl (.int .i64))], .g [.lf .bool, .lf (.sl (.int .i64))]], []⟩ [⟨[.g [.lf .bool, .lf (.sl (.int .i64)), .lf .bool, .lf (.sl (.int .i64))]], []⟩] fun k x => qcI k x.1 x.2.1 x.2.2.1 x.2.2.2
theorem qyn : ∀ k, qh (call cf k) (qzp k) :=
 fnk 0 [] Tryz.func93 (fun k => (ac (qsK k) (ac (qsL k) (ac (qym k) (ac (qsO k) a0))))) (fun k => l0) ⟨rfl, rfl, ⟨rfl, Nat.le_of_ble_eq_true rfl⟩, rfl⟩ (fun _ => rfl) (by kernel_rfl) fun k x => by kernel_rfl

def qe7 (k : Nat) (n0 : Int) (n1 : Int) : Option (Bool) :=
 if ((n0 == (0 : Int)) = false) then
 if (((Int.tmod n0 (10 : Int)) == (0 : Int)) = true) then
 if ((n0 == (0 : Int)) = true) then
 (some (n1 == (0 : Int)))
 else
 (some false)
 else
 if ((decide (n0 ≤ (999999999 : Int))) = true) then
 if ((decide (n0 ≥ (-(999999999 : Int)))) = true) then
 if ((decide (n1 ≤ (9 : Int))) = true) then
 (some (decide (n1 ≥ (-(18 : Int)))))
 else
 (some false)
 else
 (some false)
 else
 (some false)
 else
 if ((n0 == (0 : Int)) = true) then
 (some (n1 == (0 : Int)))
 else
 (some false)
def qaE : Nat → Int → Int → Option (Bool)
 | 0, _, _ => none
 | k + 1, n0, n1 => qe7 k n0 n1
def qmx : Nat → Inst := mkI 67 ⟨[.g [.lf (.int .i64), .lf (.int .i64)]], []⟩ [⟨[vB], []⟩] fun k x => qaE k x.1 x.2
theorem qlA : ∀ k, qh (call cf k) (qmx k) :=
 fnk 0 [] Tryz.func67 (fun k => a0) (fun k => l0) ⟨rfl, rfl, ⟨rfl, Nat.le_of_ble_eq_true rfl⟩, rfl⟩ (fun _ => rfl) (by kernel_rfl) fun k x => by kernel_rfl

def qbi (k : Nat) (rec : ByteArray → Int → Option ((Bool) ⊕ (ByteArray))) (s : ByteArray) (i : Int) : Option ((Bool) ⊕ (ByteArray)) :=
 if ((decide (i < (((ByteArray.size s) : Nat) : Int))) = true) then
 if ((0 : Int) ≤ i) then
 Option.bind ((ByteArray.data s))[(Int.toNat i)]? fun x3 =>
 if ((decide ((((UInt8.toNat x3) : Nat) : Int) < (97 : Int))) = false) then
 if ((decide ((((UInt8.toNat x3) : Nat) : Int) > (122 : Int))) = true) then
 if ((decide ((((UInt8.toNat x3) : Nat) : Int) < (48 : Int))) = false) then
 if ((decide ((((UInt8.toNat x3) : Nat) : Int) > (57 : Int))) = true) then
 if (((((UInt8.toNat x3) : Nat) : Int) != (95 : Int)) = true) then
 (some (Sum.inl false))
 else
 rec s (IntKind.wrap .i64 (i + (1 : Int)))
 else
 rec s (IntKind.wrap .i64 (i + (1 : Int)))
 else
 if (((((UInt8.toNat x3) : Nat) : Int) != (95 : Int)) = true) then
 (some (Sum.inl false))
 else
 rec s (IntKind.wrap .i64 (i + (1 : Int)))
 else
 rec s (IntKind.wrap .i64 (i + (1 : Int)))
 else
 if ((decide ((((UInt8.toNat x3) : Nat) : Int) < (48 : Int))) = false) then
 if ((decide ((((UInt8.toNat x3) : Nat) : Int) > (57 : Int))) = true) then
 if (((((UInt8.toNat x3) : Nat) : Int) != (95 : Int)) = true) then
 (some (Sum.inl false))
 else
 rec s (IntKind.wrap .i64 (i + (1 : Int)))
 else
 rec s (IntKind.wrap .i64 (i + (1 : Int)))
 else
 if (((((UInt8.toNat x3) : Nat) : Int) != (95 : Int)) = true) then
 (some (Sum.inl false))
 else
 rec s (IntKind.wrap .i64 (i + (1 : Int)))
 else
 none
 else
 (some (Sum.inr s))
def qaa (k n : Nat) : ByteArray → Int → Option ((Bool) ⊕ (ByteArray)) := Nat.rec (fun _ _ => none) (fun _ r => qbi k r) n
def qfC (k : Nat) (s : ByteArray) : Option (Bool) :=
 Option.bind (qaa k k s (0 : Int)) fun r4 =>
 qc r4
 (fun r4 =>
 (some r4))
 (fun r4 =>
 if ((decide ((((ByteArray.size r4) : Nat) : Int) ≥ (1 : Int))) = true) then
 (some (decide ((((ByteArray.size r4) : Nat) : Int) ≤ (16 : Int))))
 else
 (some false))
def qcy : Nat → ByteArray → Option (Bool)
 | 0, _ => none
 | k + 1, s => qfC k s
def qrM : Nat → Inst := mkI 126 ⟨[vS], []⟩ [⟨[vB], []⟩] fun k x => qcy k x
def qv1 (k : Nat) : LInst := mkL 0 [⟨[(0, vS), (3, vI)], [], 0⟩] [⟨none, ⟨[(2, vB)], [], 0⟩⟩, ⟨some 0, ⟨[(0, vS)], [], 0⟩⟩] (fun n x => qaa k n x.1 x.2) k
theorem qv2 (k : Nat) : LIo 126 Tryz.f126 0 k (qv1 k) :=
 lpk [] a0 l0 (fun _ => rfl) (by kernel_rfl) fun n x => by kernel_rfl
theorem qsQ : ∀ k, qh (call cf k) (qrM k) :=
 fnk 0 [0] Tryz.func126 (fun k => a0) (fun k => (lc (qv2 k) l0)) ⟨rfl, rfl, ⟨rfl, Nat.le_of_ble_eq_true rfl⟩, rfl⟩ (fun _ => rfl) (by kernel_rfl) fun k x => by kernel_rfl

def qbj (k : Nat) (rec : ByteArray → Int → Int → Int → Option ((Bool) ⊕ (Int))) (s : ByteArray) (parts : Int) (from1 : Int) (i : Int) : Option ((Bool) ⊕ (Int)) :=
 if ((decide (i ≤ (((ByteArray.size s) : Nat) : Int))) = true) then
 if ((i == (((ByteArray.size s) : Nat) : Int)) = false) then
 if ((0 : Int) ≤ i) then
 Option.bind ((ByteArray.data s))[(Int.toNat i)]? fun x2 =>
 if (((((UInt8.toNat x2) : Nat) : Int) == (46 : Int)) = true) then
 if (((0 : Int) ≤ from1) ∧ ((from1 ≤ i) ∧ (i ≤ (((ByteArray.size s) : Nat) : Int)))) then
 Option.bind (qcy k (ByteArray.extract s (Int.toNat from1) (Int.toNat i))) fun r4 =>
 if ((!r4) = true) then
 (some (Sum.inl false))
 else
 rec s (IntKind.wrap .i64 (parts + (1 : Int))) (IntKind.wrap .i64 (i + (1 : Int))) (IntKind.wrap .i64 (i + (1 : Int)))
 else
 none
 else
 rec s parts from1 (IntKind.wrap .i64 (i + (1 : Int)))
 else
 none
 else
 if (((0 : Int) ≤ from1) ∧ ((from1 ≤ i) ∧ (i ≤ (((ByteArray.size s) : Nat) : Int)))) then
 Option.bind (qcy k (ByteArray.extract s (Int.toNat from1) (Int.toNat i))) fun r4 =>
 if ((!r4) = true) then
 (some (Sum.inl false))
 else
 rec s (IntKind.wrap .i64 (parts + (1 : Int))) (IntKind.wrap .i64 (i + (1 : Int))) (IntKind.wrap .i64 (i + (1 : Int)))
 else
 none
 else
 (some (Sum.inr parts))
def qat (k n : Nat) : ByteArray → Int → Int → Int → Option ((Bool) ⊕ (Int)) := Nat.rec (fun _ _ _ _ => none) (fun _ r => qbj k r) n
def qfD (k : Nat) (s : ByteArray) : Option (Bool) :=
 Option.bind (qat k k s (0 : Int) (0 : Int) (0 : Int)) fun r4 =>
 qc r4
 (fun r4 =>
 (some r4))
 (fun r4 =>
 (some (decide (r4 ≤ (9 : Int)))))
def qz : Nat → ByteArray → Option (Bool)
 | 0, _ => none
 | k + 1, s => qfD k s
def qrN : Nat → Inst := mkI 69 ⟨[vS], []⟩ [⟨[vB], []⟩] fun k x => qz k x
theorem qsR (k : Nat) : qa5 (call cf k) [qrM k] :=
 ac (qsQ k) a0
def qv3 (k : Nat) : LInst := mkL 0 [⟨[(0, vS), (3, vI), (4, vI), (5, vI)], [], 0⟩] [⟨none, ⟨[(2, vB)], [], 0⟩⟩, ⟨some 0, ⟨[(3, vI)], [], 0⟩⟩] (fun n x => qat k n x.1 x.2.1 x.2.2.1 x.2.2.2) k
theorem qv4 (k : Nat) : LIo 69 Tryz.f69 0 k (qv3 k) :=
 lpk [] (qsR k) l0 (fun _ => rfl) (by kernel_rfl) fun n x => by kernel_rfl
theorem qsS : ∀ k, qh (call cf k) (qrN k) :=
 fnk 0 [0] Tryz.func69 (fun k => (qsR k)) (fun k => (lc (qv4 k) l0)) ⟨rfl, rfl, ⟨rfl, Nat.le_of_ble_eq_true rfl⟩, rfl⟩ (fun _ => rfl) (by kernel_rfl) fun k x => by kernel_rfl

def qaJ (k : Nat) (rec : List Int → Int → Option ((Bool) ⊕ (Unit))) (l : List Int) (i : Int) : Option ((Bool) ⊕ (Unit)) :=
 if ((decide (i < (((List.length l) : Nat) : Int))) = true) then
 if ((0 : Int) ≤ (IntKind.wrap .i64 (i - (1 : Int)))) then
 Option.bind (l)[(Int.toNat (IntKind.wrap .i64 (i - (1 : Int))))]? fun x3 =>
 if ((0 : Int) ≤ i) then
 Option.bind (l)[(Int.toNat i)]? fun x4 =>
 if ((decide (x3 ≥ x4)) = true) then
 (some (Sum.inl false))
 else
 rec l (IntKind.wrap .i64 (i + (1 : Int)))
 else
 none
 else
 none
 else
 (some (Sum.inr ()))
def qL (k n : Nat) : List Int → Int → Option ((Bool) ⊕ (Unit)) := Nat.rec (fun _ _ => none) (fun _ r => qaJ k r) n
def qiy (k : Nat) (l : List Int) : Option (Bool) :=
 Option.bind (qL k k l (1 : Int)) fun r9 =>
 qc r9
 (fun r9 =>
 (some r9))
 (fun r9 =>
 (some true))
def qcJ : Nat → List Int → Option (Bool)
 | 0, _ => none
 | k + 1, l => qiy k l
def qv5 : Nat → Inst := mkI 189 ⟨[vJ], []⟩ [⟨[vB], []⟩] fun k x => qcJ k x
def qv6 (k : Nat) : LInst := mkL 0 [⟨[(0, vJ), (3, vI)], [], 0⟩] [⟨none, ⟨[(2, vB)], [], 0⟩⟩, ⟨some 0, ⟨[], [], 0⟩⟩] (fun n x => qL k n x.1 x.2) k
theorem qv7 (k : Nat) : LIo 189 Tryz.f189 0 k (qv6 k) :=
 lpk [] a0 l0 (fun _ => rfl) (by kernel_rfl) fun n x => by kernel_rfl
theorem qyo : ∀ k, qh (call cf k) (qv5 k) :=
 fnk 0 [0] Tryz.func189 (fun k => a0) (fun k => (lc (qv7 k) l0)) ⟨rfl, rfl, ⟨rfl, Nat.le_of_ble_eq_true rfl⟩, rfl⟩ (fun _ => rfl) (by kernel_rfl) fun k x => by kernel_rfl

def qaT (k : Nat) (rec : Int → Int → List (Int × Int) → List Int → Option ((Bool × Int × List (Int × Int) × List Int) ⊕ (Int × List (Int × Int) × List Int))) (i : Int) (w0 : Int) (w1 : List (Int × Int)) (w2 : List Int) : Option ((Bool × Int × List (Int × Int) × List Int) ⊕ (Int × List (Int × Int) × List Int)) :=
 if ((decide (i < (((List.length w1) : Nat) : Int))) = true) then
 if ((0 : Int) ≤ i) then
 Option.bind (w1)[(Int.toNat i)]? fun x3 =>
 Option.bind (qaE k x3.1 x3.2) fun r7 =>
 if ((!r7) = true) then
 (some (Sum.inl (false, w0, w1, w2)))
 else
 rec (IntKind.wrap .i64 (i + (1 : Int))) w0 w1 w2
 else
 none
 else
 (some (Sum.inr (w0, w1, w2)))
def qP (k n : Nat) : Int → Int → List (Int × Int) → List Int → Option ((Bool × Int × List (Int × Int) × List Int) ⊕ (Int × List (Int × Int) × List Int)) := Nat.rec (fun _ _ _ _ => none) (fun _ r => qaT k r) n
def qaU (k : Nat) (rec : Int → Int → List (Int × Int) → List Int → Option ((Bool × Int × List (Int × Int) × List Int) ⊕ (Int × List (Int × Int) × List Int))) (i : Int) (w0 : Int) (w1 : List (Int × Int)) (w2 : List Int) : Option ((Bool × Int × List (Int × Int) × List Int) ⊕ (Int × List (Int × Int) × List Int)) :=
 if ((decide (i < (((List.length w2) : Nat) : Int))) = true) then
 if ((0 : Int) ≤ i) then
 Option.bind (w2)[(Int.toNat i)]? fun x3 =>
 if ((decide (x3 < (0 : Int))) = false) then
 if ((0 : Int) ≤ i) then
 Option.bind (w2)[(Int.toNat i)]? fun x4 =>
 if ((decide (x4 > (1000000000 : Int))) = true) then
 (some (Sum.inl (false, w0, w1, w2)))
 else
 rec (IntKind.wrap .i64 (i + (1 : Int))) w0 w1 w2
 else
 none
 else
 (some (Sum.inl (false, w0, w1, w2)))
 else
 none
 else
 (some (Sum.inr (w0, w1, w2)))
def qI (k n : Nat) : Int → Int → List (Int × Int) → List Int → Option ((Bool × Int × List (Int × Int) × List Int) ⊕ (Int × List (Int × Int) × List Int)) := Nat.rec (fun _ _ _ _ => none) (fun _ r => qaU k r) n
def qe8 (k : Nat) (w0 : Int) (w1 : List (Int × Int)) (w2 : List Int) : Option (Bool) :=
 Option.bind (qP k k (0 : Int) w0 w1 w2) fun r7 =>
 qc r7
 (fun r7 =>
 (some r7.1))
 (fun r7 =>
 Option.bind (qI k k (0 : Int) r7.1 r7.2.1 r7.2.2) fun r8 =>
 qc r8
 (fun r8 =>
 (some r8.1))
 (fun r8 =>
 if ((r8.1 == (1 : Int)) = true) then
 if (((((List.length r8.2.1) : Nat) : Int) == (1 : Int)) = true) then
 (some ((((List.length r8.2.2) : Nat) : Int) == (0 : Int)))
 else
 (some false)
 else
 if ((r8.1 == (2 : Int)) = true) then
 if (((((List.length r8.2.1) : Nat) : Int) == (2 : Int)) = true) then
 if (((((List.length r8.2.2) : Nat) : Int) == (5 : Int)) = true) then
 Option.bind (r8.2.2)[4]? fun x3 =>
 if ((decide (x3 > (0 : Int))) = true) then
 Option.bind (r8.2.2)[1]? fun x4 =>
 Option.bind (r8.2.2)[2]? fun x5 =>
 Option.bind (r8.2.2)[3]? fun x6 =>
 Option.bind (r8.2.2)[4]? fun x7 =>
 (some (decide ((IntKind.wrap .i64 ((IntKind.wrap .i64 (x4 + x5)) + x6)) ≤ x7)))
 else
 (some false)
 else
 (some false)
 else
 (some false)
 else
 if ((r8.1 == (3 : Int)) = true) then
 if (((((List.length r8.2.1) : Nat) : Int) == (((List.length r8.2.2) : Nat) : Int)) = true) then
 if ((decide ((((List.length r8.2.1) : Nat) : Int) ≥ (1 : Int))) = true) then
 if ((decide ((((List.length r8.2.1) : Nat) : Int) ≤ (16 : Int))) = true) then
 Option.bind (qcJ k r8.2.2) fun r9 =>
 (some r9)
 else
 (some false)
 else
 (some false)
 else
 (some false)
 else
 if ((r8.1 == (4 : Int)) = true) then
 if ((decide ((((List.length r8.2.1) : Nat) : Int) ≥ (1 : Int))) = true) then
 if ((decide ((((List.length r8.2.1) : Nat) : Int) ≤ (16 : Int))) = true) then
 (some ((((List.length r8.2.2) : Nat) : Int) == (0 : Int)))
 else
 (some false)
 else
 (some false)
 else
 (some false)))
def qV : Nat → Int → List (Int × Int) → List Int → Option (Bool)
 | 0, _, _, _ => none
 | k + 1, w0, w1, w2 => qe8 k w0 w1 w2
def qv8 : Nat → Inst := mkI 124 ⟨[.g [.lf (.int .i64), .lf cE, .lf (.sl (.int .i64))]], []⟩ [⟨[vB], []⟩] fun k x => qV k x.1 x.2.1 x.2.2
theorem qoO (k : Nat) : qa5 (call cf k) [qmx k, qv5 k] :=
 ac (qlA k) (ac (qyo k) a0)
def qv9 (k : Nat) : LInst := mkL 0 [⟨[(1, .a (.ptr 0 0 0)), (3, vI)], [(0, some (.raw [[.lf (.int .i64), .lf cE, .lf (.sl (.int .i64))]] 3 44 true false false))], 1⟩] [⟨none, ⟨[(2, vB)], [(0, some (.raw [[.lf (.int .i64), .lf cE, .lf (.sl (.int .i64))]] 3 44 true false false))], 1⟩⟩, ⟨some 0, ⟨[(1, .a (.ptr 0 0 0))], [(0, some (.raw [[.lf (.int .i64), .lf cE, .lf (.sl (.int .i64))]] 3 44 true false false))], 1⟩⟩] (fun n x => qP k n x.1 x.2.1 x.2.2.1 x.2.2.2) k
theorem qp9 (k : Nat) : LIo 124 Tryz.f124 0 k (qv9 k) :=
 lpk [] (qoO k) l0 (fun _ => rfl) (by kernel_rfl) fun n x => by kernel_rfl
def qwa (k : Nat) : LInst := mkL 2 [⟨[(1, .a (.ptr 0 0 0)), (4, vI)], [(0, some (.raw [[.lf (.int .i64), .lf cE, .lf (.sl (.int .i64))]] 3 44 true false false))], 1⟩] [⟨none, ⟨[(2, vB)], [(0, some (.raw [[.lf (.int .i64), .lf cE, .lf (.sl (.int .i64))]] 3 44 true false false))], 1⟩⟩, ⟨some 2, ⟨[(1, .a (.ptr 0 0 0))], [(0, some (.raw [[.lf (.int .i64), .lf cE, .lf (.sl (.int .i64))]] 3 44 true false false))], 1⟩⟩] (fun n x => qI k n x.1 x.2.1 x.2.2.1 x.2.2.2) k
theorem qwb (k : Nat) : LIo 124 Tryz.f124 0 k (qwa k) :=
 lpk [] (qoO k) (lc (qp9 k) l0) (fun _ => rfl) (by kernel_rfl) fun n x => by kernel_rfl
theorem qyp : ∀ k, qh (call cf k) (qv8 k) :=
 fnk 0 [0, 2] Tryz.func124 (fun k => (qoO k)) (fun k => (lc (qp9 k) (lc (qwb k) l0))) ⟨rfl, rfl, ⟨rfl, Nat.le_of_ble_eq_true rfl⟩, rfl⟩ (fun _ => rfl) (by kernel_rfl) fun k x => by kernel_rfl

def qbk (k : Nat) (rec : List (Int × Int) → List (Int × Int) → Int → Option ((Bool) ⊕ (Unit))) (a : List (Int × Int)) (b : List (Int × Int)) (i : Int) : Option ((Bool) ⊕ (Unit)) :=
 if ((decide (i < (((List.length a) : Nat) : Int))) = true) then
 if ((0 : Int) ≤ i) then
 Option.bind (a)[(Int.toNat i)]? fun x3 =>
 if ((0 : Int) ≤ i) then
 Option.bind (b)[(Int.toNat i)]? fun x4 =>
 if ((x3.1 == x4.1) = true) then
 if ((x3.2 == x4.2) = true) then
 rec a b (IntKind.wrap .i64 (i + (1 : Int)))
 else
 (some (Sum.inl false))
 else
 (some (Sum.inl false))
 else
 none
 else
 none
 else
 (some (Sum.inr ()))
def qau (k n : Nat) : List (Int × Int) → List (Int × Int) → Int → Option ((Bool) ⊕ (Unit)) := Nat.rec (fun _ _ _ => none) (fun _ r => qbk k r) n
def qfE (k : Nat) (a : List (Int × Int)) (b : List (Int × Int)) : Option (Bool) :=
 if (((((List.length a) : Nat) : Int) != (((List.length b) : Nat) : Int)) = true) then
 (some false)
 else
 Option.bind (qau k k a b (0 : Int)) fun r9 =>
 qc r9
 (fun r9 =>
 (some r9))
 (fun r9 =>
 (some true))
def qcz : Nat → List (Int × Int) → List (Int × Int) → Option (Bool)
 | 0, _, _ => none
 | k + 1, a, b => qfE k a b
def qwc : Nat → Inst := mkI 188 ⟨[.a (.lf cE), .a (.lf cE)], []⟩ [⟨[vB], []⟩] fun k x => qcz k x.1 x.2
def qwd (k : Nat) : LInst := mkL 0 [⟨[(0, .a (.lf cE)), (1, .a (.lf cE)), (5, vI)], [], 0⟩] [⟨none, ⟨[(4, vB)], [], 0⟩⟩, ⟨some 0, ⟨[], [], 0⟩⟩] (fun n x => qau k n x.1 x.2.1 x.2.2) k
theorem qwe (k : Nat) : LIo 188 Tryz.f188 0 k (qwd k) :=
 lpk [] a0 l0 (fun _ => rfl) (by kernel_rfl) fun n x => by kernel_rfl
theorem qsT : ∀ k, qh (call cf k) (qwc k) :=
 fnk 0 [0] Tryz.func188 (fun k => a0) (fun k => (lc (qwe k) l0)) ⟨rfl, rfl, ⟨rfl, Nat.le_of_ble_eq_true rfl⟩, rfl⟩ (fun _ => rfl) (by kernel_rfl) fun k x => by kernel_rfl

def qbl (k : Nat) (rec : Int → Int → List (Int × Int) → List Int → Int → List (Int × Int) → List Int → Option ((Bool × Int × List (Int × Int) × List Int × Int × List (Int × Int) × List Int) ⊕ (Int × List (Int × Int) × List Int × Int × List (Int × Int) × List Int))) (i : Int) (a0 : Int) (a1 : List (Int × Int)) (a2 : List Int) (b0 : Int) (b1 : List (Int × Int)) (b2 : List Int) : Option ((Bool × Int × List (Int × Int) × List Int × Int × List (Int × Int) × List Int) ⊕ (Int × List (Int × Int) × List Int × Int × List (Int × Int) × List Int)) :=
 if ((decide (i < (((List.length a2) : Nat) : Int))) = true) then
 if ((0 : Int) ≤ i) then
 Option.bind (a2)[(Int.toNat i)]? fun x3 =>
 if ((0 : Int) ≤ i) then
 Option.bind (b2)[(Int.toNat i)]? fun x4 =>
 if ((x3 != x4) = true) then
 (some (Sum.inl (false, a0, a1, a2, b0, b1, b2)))
 else
 rec (IntKind.wrap .i64 (i + (1 : Int))) a0 a1 a2 b0 b1 b2
 else
 none
 else
 none
 else
 (some (Sum.inr (a0, a1, a2, b0, b1, b2)))
def qav (k n : Nat) : Int → Int → List (Int × Int) → List Int → Int → List (Int × Int) → List Int → Option ((Bool × Int × List (Int × Int) × List Int × Int × List (Int × Int) × List Int) ⊕ (Int × List (Int × Int) × List Int × Int × List (Int × Int) × List Int)) := Nat.rec (fun _ _ _ _ _ _ _ => none) (fun _ r => qbl k r) n
def qfF (k : Nat) (a0 : Int) (a1 : List (Int × Int)) (a2 : List Int) (b0 : Int) (b1 : List (Int × Int)) (b2 : List Int) : Option (Bool) :=
 if ((a0 != b0) = false) then
 if (((((List.length a2) : Nat) : Int) != (((List.length b2) : Nat) : Int)) = true) then
 (some false)
 else
 Option.bind (qav k k (0 : Int) a0 a1 a2 b0 b1 b2) fun r8 =>
 qc r8
 (fun r8 =>
 (some r8.1))
 (fun r8 =>
 Option.bind (qcz k r8.2.1 r8.2.2.2.2.1) fun r9 =>
 (some r9))
 else
 (some false)
def qu : Nat → Int → List (Int × Int) → List Int → Int → List (Int × Int) → List Int → Option (Bool)
 | 0, _, _, _, _, _, _ => none
 | k + 1, a0, a1, a2, b0, b1, b2 => qfF k a0 a1 a2 b0 b1 b2
def qwf : Nat → Inst := mkI 122 ⟨[.g [.lf (.int .i64), .lf cE, .lf (.sl (.int .i64))], .g [.lf (.int .i64), .lf cE, .lf (.sl (.int .i64))]], []⟩ [⟨[vB], []⟩] fun k x => qu k x.1 x.2.1 x.2.2.1 x.2.2.2.1 x.2.2.2.2.1 x.2.2.2.2.2
theorem qsU (k : Nat) : qa5 (call cf k) [qwc k] :=
 ac (qsT k) a0
def qwg (k : Nat) : LInst := mkL 0 [⟨[(2, .a (.ptr 0 0 0)), (3, .a (.ptr 1 0 0)), (5, vI)], [(0, some (.raw [[.lf (.int .i64), .lf cE, .lf (.sl (.int .i64))]] 3 44 true false false)), (1, some (.raw [[.lf (.int .i64), .lf cE, .lf (.sl (.int .i64))]] 3 44 true false false))], 2⟩] [⟨none, ⟨[(4, vB)], [(0, some (.raw [[.lf (.int .i64), .lf cE, .lf (.sl (.int .i64))]] 3 44 true false false)), (1, some (.raw [[.lf (.int .i64), .lf cE, .lf (.sl (.int .i64))]] 3 44 true false false))], 2⟩⟩, ⟨some 0, ⟨[(2, .a (.ptr 0 0 0)), (3, .a (.ptr 1 0 0))], [(0, some (.raw [[.lf (.int .i64), .lf cE, .lf (.sl (.int .i64))]] 3 44 true false false)), (1, some (.raw [[.lf (.int .i64), .lf cE, .lf (.sl (.int .i64))]] 3 44 true false false))], 2⟩⟩] (fun n x => qav k n x.1 x.2.1 x.2.2.1 x.2.2.2.1 x.2.2.2.2.1 x.2.2.2.2.2.1 x.2.2.2.2.2.2) k
theorem qwh (k : Nat) : LIo 122 Tryz.f122 0 k (qwg k) :=
 lpk [] (qsU k) l0 (fun _ => rfl) (by kernel_rfl) fun n x => by kernel_rfl
theorem qyq : ∀ k, qh (call cf k) (qwf k) :=
 fnk 0 [0] Tryz.func122 (fun k => (qsU k)) (fun k => (lc (qwh k) l0)) ⟨rfl, rfl, ⟨rfl, Nat.le_of_ble_eq_true rfl⟩, rfl⟩ (fun _ => rfl) (by kernel_rfl) fun k x => by kernel_rfl

def qch (k : Nat) (rec : Int → Int → Bool → Nat → Bool → List Int → List Int → Option (Bool × Nat × Bool × List Int × List Int)) (k1 : Int) (i : Int) (x0 : Bool) (x1 : Nat) (p0 : Bool) (p1 : List Int) (m : List Int) : Option (Bool × Nat × Bool × List Int × List Int) :=
 if ((decide (i < k1)) = true) then
 Option.bind (qS k (10 : Int)) fun r14 =>
 Option.bind (qU k p0 p1 r14.1 r14.2) fun r15 =>
 rec k1 (IntKind.wrap .i64 (i + (1 : Int))) x0 x1 r15.1 r15.2 m
 else
 (some (x0, x1, p0, p1, m))
def qbm (k n : Nat) : Int → Int → Bool → Nat → Bool → List Int → List Int → Option (Bool × Nat × Bool × List Int × List Int) := Nat.rec (fun _ _ _ _ _ _ _ => none) (fun _ r => qch k r) n
def qi0 (k : Nat) (k1 : Int) : Option (Bool × List Int) :=
 Option.bind (qS k (1 : Int)) fun r13 =>
 Option.bind (qbm k k k1 (0 : Int) false 0 r13.1 r13.2 []) fun r14 =>
 (some (r14.2.2.1, r14.2.2.2.1))
def qcZ : Nat → Int → Option (Bool × List Int)
 | 0, _ => none
 | k + 1, k1 => qi0 k k1
def qzq : Nat → Inst := mkI 217 ⟨[vI], []⟩ [⟨[.g [.lf .bool, .lf (.sl (.int .i64))]], []⟩] fun k x => qcZ k x
theorem qsV (k : Nat) : qa5 (call cf k) [qoL k, qoM k] :=
 ac (qlz k) (ac (qj9 k) a0)
def qwi (k : Nat) : LInst := mkL 0 [⟨[(0, vI), (2, .a (.ptr 0 0 0)), (3, .a (.ptr 1 0 0)), (4, vI)], [(0, some (.raw [[.lf .bool, .smz 2]] 2 154 false false false)), (1, some (.raw [[.lf .bool, .lf (.sl (.int .i64))]] 2 154 true false false)), (2, some (.arr (.int .i64) 1 3 false))], 3⟩] [⟨some 0, ⟨[(2, .a (.ptr 0 0 0)), (3, .a (.ptr 1 0 0))], [(0, some (.raw [[.lf .bool, .smz 2]] 2 154 false false false)), (1, some (.raw [[.lf .bool, .lf (.sl (.int .i64))]] 2 154 true false false)), (2, some (.arr (.int .i64) 1 3 false))], 3⟩⟩] (fun n x => qbm k n x.1 x.2.1 x.2.2.1 x.2.2.2.1 x.2.2.2.2.1 x.2.2.2.2.2.1 x.2.2.2.2.2.2) k
theorem qwj (k : Nat) : LIo 217 Tryz.f217 0 k (qwi k) :=
 lpk [] (qsV k) l0 (fun _ => rfl) (by kernel_rfl) fun n x => by kernel_rfl
theorem qyr : ∀ k, qh (call cf k) (qzq k) :=
 fnk 0 [0] Tryz.func217 (fun k => (qsV k)) (fun k => (lc (qwj k) l0)) ⟨rfl, rfl, ⟨rfl, Nat.le_of_ble_eq_true rfl⟩, rfl⟩ (fun _ => rfl) (by kernel_rfl) fun k x => by kernel_rfl

def qhE (k : Nat) (n0 : Int) (n1 : Int) : Option (Bool × List Int × Bool × List Int) :=
 Option.bind (qdg k n0) fun r12 =>
 if ((decide (n1 < (0 : Int))) = true) then
 Option.bind (qcZ k (IntKind.wrap .i64 ((0 : Int) - n1))) fun r13 =>
 Option.bind (qcI k r12.1 r12.2 r13.1 r13.2) fun r14 =>
 (some (r14.1, r14.2.1, r14.2.2.1, r14.2.2.2))
 else
 Option.bind (qcZ k n1) fun r13 =>
 Option.bind (qU k r12.1 r12.2 r13.1 r13.2) fun r14 =>
 Option.bind (qS k (1 : Int)) fun r15 =>
 (some (r14.1, r14.2, r15.1, r15.2))
def qb6 : Nat → Int → Int → Option (Bool × List Int × Bool × List Int)
 | 0, _, _ => none
 | k + 1, n0, n1 => qhE k n0 n1
def qwk : Nat → Inst := mkI 180 ⟨[.g [.lf (.int .i64), .lf (.int .i64)]], []⟩ [⟨[.g [.lf .bool, .lf (.sl (.int .i64)), .lf .bool, .lf (.sl (.int .i64))]], []⟩] fun k x => qb6 k x.1 x.2
theorem qys : ∀ k, qh (call cf k) (qwk k) :=
 fnk 0 [] Tryz.func180 (fun k => (ac (qyh k) (ac (qyr k) (ac (qyn k) (ac (qj9 k) (ac (qlz k) a0)))))) (fun k => l0) ⟨rfl, rfl, ⟨rfl, Nat.le_of_ble_eq_true rfl⟩, rfl⟩ (fun _ => rfl) (by kernel_rfl) fun k x => by kernel_rfl

def qjq (k : Nat) (a0 : Bool) (a1 : List Int) (b0 : Bool) (b1 : List Int) : Option (Bool × List Int) :=
 Option.bind (qbJ k b0 b1) fun r16 =>
 Option.bind (qcx k a0 a1 r16.1 r16.2) fun r17 =>
 (some (r17.1, r17.2))
def qd3 : Nat → Bool → List Int → Bool → List Int → Option (Bool × List Int)
 | 0, _, _, _, _ => none
 | k + 1, a0, a1, b0, b1 => qjq k a0 a1 b0 b1
def qzr : Nat → Inst := mkI 236 ⟨[.g [.lf .bool, .lf (.sl (.int .i64))], .g [.lf .bool, .lf (.sl (.int .i64))]], []⟩ [⟨[.g [.lf .bool, .lf (.sl (.int .i64))]], []⟩] fun k x => qd3 k x.1 x.2.1 x.2.2.1 x.2.2.2
theorem qyt : ∀ k, qh (call cf k) (qzr k) :=
 fnk 0 [] Tryz.func236 (fun k => (ac (qsL k) (ac (qyj k) a0))) (fun k => l0) ⟨rfl, rfl, ⟨rfl, Nat.le_of_ble_eq_true rfl⟩, rfl⟩ (fun _ => rfl) (by kernel_rfl) fun k x => by kernel_rfl

def qjr (k : Nat) (a0 : Bool) (a1 : List Int) (b0 : Bool) (b1 : List Int) : Option (Int) :=
 Option.bind (qd3 k a0 a1 b0 b1) fun r16 =>
 Option.bind (qdj k r16.1 r16.2) fun r17 =>
 (some r17)
def qd4 : Nat → Bool → List Int → Bool → List Int → Option (Int)
 | 0, _, _, _, _ => none
 | k + 1, a0, a1, b0, b1 => qjr k a0 a1 b0 b1
def qzs : Nat → Inst := mkI 225 ⟨[.g [.lf .bool, .lf (.sl (.int .i64))], .g [.lf .bool, .lf (.sl (.int .i64))]], []⟩ [⟨[vI], []⟩] fun k x => qd4 k x.1 x.2.1 x.2.2.1 x.2.2.2
theorem qyu : ∀ k, qh (call cf k) (qzs k) :=
 fnk 0 [] Tryz.func225 (fun k => (ac (qyt k) (ac (qsK k) a0))) (fun k => l0) ⟨rfl, rfl, ⟨rfl, Nat.le_of_ble_eq_true rfl⟩, rfl⟩ (fun _ => rfl) (by kernel_rfl) fun k x => by kernel_rfl

def qjs (k : Nat) (a0 : Bool) (a1 : List Int) (a2 : Bool) (a3 : List Int) (b0 : Bool) (b1 : List Int) (b2 : Bool) (b3 : List Int) : Option (Int) :=
 Option.bind (qU k a0 a1 b2 b3) fun r14 =>
 Option.bind (qU k b0 b1 a2 a3) fun r15 =>
 Option.bind (qd4 k r14.1 r14.2 r15.1 r15.2) fun r16 =>
 (some r16)
def qdk : Nat → Bool → List Int → Bool → List Int → Bool → List Int → Bool → List Int → Option (Int)
 | 0, _, _, _, _, _, _, _, _ => none
 | k + 1, a0, a1, a2, a3, b0, b1, b2, b3 => qjs k a0 a1 a2 a3 b0 b1 b2 b3
def qwl : Nat → Inst := mkI 190 ⟨[.g [.lf .bool, .lf (.sl (.int .i64)), .lf .bool, .lf (.sl (.int .i64))], .g [.lf .bool, .lf (.sl (.int .i64)), .lf .bool, .lf (.sl (.int .i64))]], []⟩ [⟨[vI], []⟩] fun k x => qdk k x.1 x.2.1 x.2.2.1 x.2.2.2.1 x.2.2.2.2.1 x.2.2.2.2.2.1 x.2.2.2.2.2.2.1 x.2.2.2.2.2.2.2
theorem qyv : ∀ k, qh (call cf k) (qwl k) :=
 fnk 0 [] Tryz.func190 (fun k => (ac (qj9 k) (ac (qyu k) a0))) (fun k => l0) ⟨rfl, rfl, ⟨rfl, Nat.le_of_ble_eq_true rfl⟩, rfl⟩ (fun _ => rfl) (by kernel_rfl) fun k x => by kernel_rfl

def qaV (k : Nat) (rec : Int → ByteArray → Int → List (Int × Int) → List (Int × Int) → Option ((Bool × ByteArray × Int × List (Int × Int) × List (Int × Int)) ⊕ (ByteArray × Int × List (Int × Int) × List (Int × Int)))) (i : Int) (m0 : ByteArray) (m1 : Int) (m2 : List (Int × Int)) (m3 : List (Int × Int)) : Option ((Bool × ByteArray × Int × List (Int × Int) × List (Int × Int)) ⊕ (ByteArray × Int × List (Int × Int) × List (Int × Int))) :=
 if ((decide (i < (((List.length m2) : Nat) : Int))) = true) then
 if ((0 : Int) ≤ i) then
 Option.bind (m2)[(Int.toNat i)]? fun x3 =>
 Option.bind (qaE k x3.1 x3.2) fun r10 =>
 if ((!r10) = true) then
 (some (Sum.inl (false, m0, m1, m2, m3)))
 else
 rec (IntKind.wrap .i64 (i + (1 : Int))) m0 m1 m2 m3
 else
 none
 else
 (some (Sum.inr (m0, m1, m2, m3)))
def qQ (k n : Nat) : Int → ByteArray → Int → List (Int × Int) → List (Int × Int) → Option ((Bool × ByteArray × Int × List (Int × Int) × List (Int × Int)) ⊕ (ByteArray × Int × List (Int × Int) × List (Int × Int))) := Nat.rec (fun _ _ _ _ _ => none) (fun _ r => qaV k r) n
def qaW (k : Nat) (rec : Int → ByteArray → Int → List (Int × Int) → List (Int × Int) → Option ((Bool × ByteArray × Int × List (Int × Int) × List (Int × Int)) ⊕ (ByteArray × Int × List (Int × Int) × List (Int × Int)))) (i : Int) (m0 : ByteArray) (m1 : Int) (m2 : List (Int × Int)) (m3 : List (Int × Int)) : Option ((Bool × ByteArray × Int × List (Int × Int) × List (Int × Int)) ⊕ (ByteArray × Int × List (Int × Int) × List (Int × Int))) :=
 if ((decide (i < (((List.length m3) : Nat) : Int))) = true) then
 if ((0 : Int) ≤ i) then
 Option.bind (m3)[(Int.toNat i)]? fun x3 =>
 Option.bind (qaE k x3.1 x3.2) fun r11 =>
 if ((!r11) = true) then
 (some (Sum.inl (false, m0, m1, m2, m3)))
 else
 if ((m1 == (100 : Int)) = true) then
 if ((decide (i > (0 : Int))) = true) then
 if ((0 : Int) ≤ (IntKind.wrap .i64 (i - (1 : Int)))) then
 Option.bind (m3)[(Int.toNat (IntKind.wrap .i64 (i - (1 : Int))))]? fun x4 =>
 Option.bind (qb6 k x4.1 x4.2) fun r12 =>
 if ((0 : Int) ≤ i) then
 Option.bind (m3)[(Int.toNat i)]? fun x5 =>
 Option.bind (qb6 k x5.1 x5.2) fun r13 =>
 Option.bind (qdk k r12.1 r12.2.1 r12.2.2.1 r12.2.2.2 r13.1 r13.2.1 r13.2.2.1 r13.2.2.2) fun r14 =>
 if ((decide (r14 ≥ (0 : Int))) = true) then
 (some (Sum.inl (false, m0, m1, m2, m3)))
 else
 rec (IntKind.wrap .i64 (i + (1 : Int))) m0 m1 m2 m3
 else
 none
 else
 none
 else
 rec (IntKind.wrap .i64 (i + (1 : Int))) m0 m1 m2 m3
 else
 rec (IntKind.wrap .i64 (i + (1 : Int))) m0 m1 m2 m3
 else
 none
 else
 (some (Sum.inr (m0, m1, m2, m3)))
def qR (k n : Nat) : Int → ByteArray → Int → List (Int × Int) → List (Int × Int) → Option ((Bool × ByteArray × Int × List (Int × Int) × List (Int × Int)) ⊕ (ByteArray × Int × List (Int × Int) × List (Int × Int))) := Nat.rec (fun _ _ _ _ _ => none) (fun _ r => qaW k r) n
def qe9 (k : Nat) (m0 : ByteArray) (m1 : Int) (m2 : List (Int × Int)) (m3 : List (Int × Int)) : Option (Bool) :=
 Option.bind (qcy k m0) fun r9 =>
 if ((!r9) = true) then
 (some false)
 else
 Option.bind (qQ k k (0 : Int) m0 m1 m2 m3) fun r10 =>
 qc r10
 (fun r10 =>
 (some r10.1))
 (fun r10 =>
 Option.bind (qR k k (0 : Int) r10.1 r10.2.1 r10.2.2.1 r10.2.2.2) fun r11 =>
 qc r11
 (fun r11 =>
 (some r11.1))
 (fun r11 =>
 if ((r11.2.1 == (115 : Int)) = true) then
 if (((((List.length r11.2.2.1) : Nat) : Int) == (2 : Int)) = true) then
 (some ((((List.length r11.2.2.2) : Nat) : Int) == (1 : Int)))
 else
 (some false)
 else
 if ((r11.2.1 == (100 : Int)) = true) then
 if ((decide ((((List.length r11.2.2.1) : Nat) : Int) ≥ (1 : Int))) = true) then
 if ((decide ((((List.length r11.2.2.1) : Nat) : Int) ≤ (4 : Int))) = true) then
 (some ((IntKind.wrap .i64 ((((List.length r11.2.2.2) : Nat) : Int) + (1 : Int))) == (((List.length r11.2.2.1) : Nat) : Int)))
 else
 (some false)
 else
 (some false)
 else
 (some false)))
def qg : Nat → ByteArray → Int → List (Int × Int) → List (Int × Int) → Option (Bool)
 | 0, _, _, _, _ => none
 | k + 1, m0, m1, m2, m3 => qe9 k m0 m1 m2 m3
def qwm : Nat → Inst := mkI 125 ⟨[.g [.lf .str, .lf (.int .u8), .lf cE, .lf cE]], []⟩ [⟨[vB], []⟩] fun k x => qg k x.1 x.2.1 x.2.2.1 x.2.2.2
theorem qoP (k : Nat) : qa5 (call cf k) [qrM k, qmx k, qwk k, qwl k] :=
 ac (qsQ k) (ac (qlA k) (ac (qys k) (ac (qyv k) a0)))
def qwn (k : Nat) : LInst := mkL 0 [⟨[(1, .a (.ptr 0 0 0)), (3, vI)], [(0, some (.raw [[.lf .str, .lf (.int .u8), .lf cE, .lf cE]] 4 46 true false false))], 1⟩] [⟨none, ⟨[(2, vB)], [(0, some (.raw [[.lf .str, .lf (.int .u8), .lf cE, .lf cE]] 4 46 true false false))], 1⟩⟩, ⟨some 0, ⟨[(1, .a (.ptr 0 0 0))], [(0, some (.raw [[.lf .str, .lf (.int .u8), .lf cE, .lf cE]] 4 46 true false false))], 1⟩⟩] (fun n x => qQ k n x.1 x.2.1 x.2.2.1 x.2.2.2.1 x.2.2.2.2) k
theorem qqa (k : Nat) : LIo 125 Tryz.f125 0 k (qwn k) :=
 lpk [] (qoP k) l0 (fun _ => rfl) (by kernel_rfl) fun n x => by kernel_rfl
def qwo (k : Nat) : LInst := mkL 2 [⟨[(1, .a (.ptr 0 0 0)), (4, vI)], [(0, some (.raw [[.lf .str, .lf (.int .u8), .lf cE, .lf cE]] 4 46 true false false))], 1⟩] [⟨none, ⟨[(2, vB)], [(0, some (.raw [[.lf .str, .lf (.int .u8), .lf cE, .lf cE]] 4 46 true false false))], 1⟩⟩, ⟨some 2, ⟨[(1, .a (.ptr 0 0 0))], [(0, some (.raw [[.lf .str, .lf (.int .u8), .lf cE, .lf cE]] 4 46 true false false))], 1⟩⟩] (fun n x => qR k n x.1 x.2.1 x.2.2.1 x.2.2.2.1 x.2.2.2.2) k
theorem qwp (k : Nat) : LIo 125 Tryz.f125 0 k (qwo k) :=
 lpk [] (qoP k) (lc (qqa k) l0) (fun _ => rfl) (by kernel_rfl) fun n x => by kernel_rfl
theorem qyw : ∀ k, qh (call cf k) (qwm k) :=
 fnk 0 [0, 2] Tryz.func125 (fun k => (qoP k)) (fun k => (lc (qqa k) (lc (qwp k) l0))) ⟨rfl, rfl, ⟨rfl, Nat.le_of_ble_eq_true rfl⟩, rfl⟩ (fun _ => rfl) (by kernel_rfl) fun k x => by kernel_rfl

def qfG (k : Nat) (a0 : ByteArray) (a1 : Int) (a2 : List (Int × Int)) (a3 : List (Int × Int)) (b0 : ByteArray) (b1 : Int) (b2 : List (Int × Int)) (b3 : List (Int × Int)) : Option (Bool) :=
 if (((Array.toList (ByteArray.data a0)) == (Array.toList (ByteArray.data b0))) = true) then
 if ((a1 == b1) = true) then
 Option.bind (qcz k a2 b2) fun r9 =>
 if (r9 = true) then
 Option.bind (qcz k a3 b3) fun r10 =>
 (some r10)
 else
 (some false)
 else
 (some false)
 else
 (some false)
def qi : Nat → ByteArray → Int → List (Int × Int) → List (Int × Int) → ByteArray → Int → List (Int × Int) → List (Int × Int) → Option (Bool)
 | 0, _, _, _, _, _, _, _, _ => none
 | k + 1, a0, a1, a2, a3, b0, b1, b2, b3 => qfG k a0 a1 a2 a3 b0 b1 b2 b3
def qwq : Nat → Inst := mkI 123 ⟨[.g [.lf .str, .lf (.int .u8), .lf cE, .lf cE], .g [.lf .str, .lf (.int .u8), .lf cE, .lf cE]], []⟩ [⟨[vB], []⟩] fun k x => qi k x.1 x.2.1 x.2.2.1 x.2.2.2.1 x.2.2.2.2.1 x.2.2.2.2.2.1 x.2.2.2.2.2.2.1 x.2.2.2.2.2.2.2
theorem qyx : ∀ k, qh (call cf k) (qwq k) :=
 fnk 0 [] Tryz.func123 (fun k => (ac (qsT k) a0)) (fun k => l0) ⟨rfl, rfl, ⟨rfl, Nat.le_of_ble_eq_true rfl⟩, rfl⟩ (fun _ => rfl) (by kernel_rfl) fun k x => by kernel_rfl


end
end Go.Proofs.YtlnailgfialgnaaGreatDoor.Am
