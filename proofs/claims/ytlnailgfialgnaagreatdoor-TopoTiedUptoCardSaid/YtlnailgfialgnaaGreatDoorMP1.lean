/- Printed functions: each says what the typed machine says of the program -/
import Derived.Test.YtlnailgfialgnaaGreatDoorMA3
import Derived.KernelRfl

set_option linter.unusedVariables false
set_option maxRecDepth 100000
namespace Go.Proofs.YtlnailgfialgnaaGreatDoor.Am
theorem qT : True := True.intro
theorem qA {a b : Prop} (h : a) (k : b) : a ∧ b := And.intro h k
open Go
noncomputable section
abbrev DvT : Type := Int × ByteArray × List Int × Int × (Int × Int) × (Int × List (Int × Int) × List Int) × ByteArray × Int × List (Int × Int) × List (Int × Int)
abbrev qG : Cd := .pr (.int .u8) (.pr .str (.pr (.sl (.int .i64)) (.pr (.int .i64) (.pr (.pr (.int .i64) (.int .i64)) (.pr (.pr (.int .i64) (.pr (.sl (.pr (.int .i64) (.int .i64))) (.sl (.int .i64)))) (.pr .str (.pr (.int .u8) (.pr (.sl (.pr (.int .i64) (.int .i64))) (.sl (.pr (.int .i64) (.int .i64)))))))))))

def qez (k : Nat) (rec : List Int → Int → Option (List Int × Int)) (w : List Int) (n : Int) : Option (List Int × Int) :=
 if ((decide (n > (0 : Int))) = true) then
 if ((0 : Int) ≤ (IntKind.wrap .i64 (n - (1 : Int)))) then
 Option.bind (w)[(Int.toNat (IntKind.wrap .i64 (n - (1 : Int))))]? fun x =>
 if ((x == (0 : Int)) = true) then
 rec w (IntKind.wrap .i64 (n - (1 : Int)))
 else
 (some (w, n))
 else
 none
 else
 (some (w, n))
def qfe (k n : Nat) : List Int → Int → Option (List Int × Int) := Nat.rec (fun _ _ => none) (fun _ r => qez k r) n
def qiq (k : Nat) (w : List Int) : Option (List Int) :=
 Option.bind (qfe k k w (((List.length w) : Nat) : Int)) fun r1 =>
 if (((0 : Int) ≤ (0 : Int)) ∧ (((0 : Int) ≤ r1.2) ∧ (r1.2 ≤ (((List.length r1.1) : Nat) : Int)))) then
 (some (List.take (Int.toNat r1.2) r1.1))
 else
 none
def qdt : Nat → List Int → Option (List Int)
 | 0, _ => none
 | k + 1, w => qiq k w
def qxR : Nat → Inst := mkI 141 ⟨[vT], []⟩ [⟨[vT], []⟩] fun k x => qdt k x
def qiZ : SS := ⟨[(0, vT), (3, vI)], [], 0⟩
def qug (k : Nat) : LInst := mkL 0 [qiZ] [⟨some 0, qiZ⟩] (fun n x => qfe k n x.1 x.2) k
theorem quh (k : Nat) : LIo 141 Tryz.f141 0 k (qug k) :=
 lpk [] a0 l0 (fun _ => rfl) (by kernel_rfl) fun n x => by kernel_rfl
theorem qjT : ∀ k, qh (call cf k) (qxR k) :=
 fnk 0 [0] Tryz.func141 (fun k => a0) (fun k => (lc (quh k) l0)) ⟨rfl, rfl, ⟨rfl, Nat.le_of_ble_eq_true rfl⟩, rfl⟩ (fun _ => rfl) (by kernel_rfl) fun k x => by kernel_rfl

def qfr (k : Nat) (neg : Bool) (w : List Int) (z : Bool) : Option (Bool × List Int) :=
 Option.bind (qdt k w) fun r1 =>
 if (neg = true) then
 (some ((decide ((((List.length r1) : Nat) : Int) > (0 : Int))), r1))
 else
 (some (false, r1))
def qbs : Nat → Bool → List Int → Bool → Option (Bool × List Int)
 | 0, _, _, _ => none
 | k + 1, neg, w, z => qfr k neg w z
def Iq8 : Nat → Inst := mkI 198 ⟨[.a (.ptr 0 0 0), vB, vT], [.raw [[.lf .bool, .snil 1 106]] 2 147 true false false]⟩ [⟨[.a (.ptr 0 0 0)], [.raw [[.lf .bool, .lf cW]] 2 147 true false false]⟩] fun k x => qbs k x.1 x.2.1 x.2.2
theorem qos : ∀ k, qh (call cf k) (Iq8 k) :=
 fnk 1 [] Tryz.func198 (fun k => (ac (qjT k) a0)) (fun k => l0) ⟨rfl, rfl, ⟨rfl, Nat.le_of_ble_eq_true rfl⟩, rfl⟩ (fun _ => rfl) (by kernel_rfl) fun k x => by kernel_rfl

def qae (k : Nat) (rec : Nat → Int → Int → Int → List Int → Int → Int → List Int → Int → Int → Bool → Bool → List Int → Bool → List Int → List Int → Option (Nat × Int × Int × List Int × Int × Int × Bool × Bool × List Int × Bool × List Int × List Int)) (out1 : Nat) (i : Int) (a : Int) (carry : Int) (x : List Int) (x1 : Int) (x2 : Int) (x3 : List Int) (x4 : Int) (x5 : Int) (z : Bool) (x0 : Bool) (x11 : List Int) (y0 : Bool) (y1 : List Int) (outs : List Int) : Option (Nat × Int × Int × List Int × Int × Int × Bool × Bool × List Int × Bool × List Int × List Int) :=
 if ((decide (x5 < x4)) = true) then
 if ((0 : Int) ≤ x5) then
 Option.bind (x3)[(Int.toNat x5)]? fun x6 =>
 if (((0 : Int) ≤ (IntKind.wrap .i64 (i + x5))) ∧ ((IntKind.wrap .i64 (i + x5)) < ((out1 : Nat) : Int))) then
 Option.bind (outs)[(0 + (Int.toNat (IntKind.wrap .i64 (i + x5))))]? fun x7 =>
 if (((0 : Int) ≤ (IntKind.wrap .i64 (i + x5))) ∧ ((IntKind.wrap .i64 (i + x5)) < ((out1 : Nat) : Int))) then
 Option.bind (outs)[(0 + (Int.toNat (IntKind.wrap .i64 (i + x5))))]? fun x8 =>
 rec out1 i a (Int.fdiv (IntKind.wrap .u64 ((IntKind.wrap .u64 ((IntKind.wrap .u64 ((IntKind.wrap .u64 a) * (IntKind.wrap .u64 x6))) + (IntKind.wrap .u64 x7))) + carry)) (4294967296 : Int)) x x1 x2 x3 x4 (IntKind.wrap .i64 (x5 + (1 : Int))) z x0 x11 y0 y1 (List.set outs (0 + (Int.toNat (IntKind.wrap .i64 (i + x5)))) (IntKind.wrap .u32 (IntKind.wrap .u64 ((IntKind.wrap .u64 ((IntKind.wrap .u64 ((IntKind.wrap .u64 a) * (IntKind.wrap .u64 x6))) + (IntKind.wrap .u64 x7))) + carry))))
 else
 none
 else
 none
 else
 none
 else
 (some (out1, i, carry, x, x1, x2, z, x0, x11, y0, y1, outs))
def qZ (k n : Nat) : Nat → Int → Int → Int → List Int → Int → Int → List Int → Int → Int → Bool → Bool → List Int → Bool → List Int → List Int → Option (Nat × Int × Int × List Int × Int × Int × Bool × Bool × List Int × Bool × List Int × List Int) := Nat.rec (fun _ _ _ _ _ _ _ _ _ _ _ _ _ _ _ _ => none) (fun _ r => qae k r) n
def qaf (k : Nat) (rec : Nat → List Int → Int → Int → Bool → Bool → List Int → Bool → List Int → List Int → Option (Nat × Bool × Bool × List Int × Bool × List Int × List Int)) (out1 : Nat) (x : List Int) (x1 : Int) (x2 : Int) (z : Bool) (x0 : Bool) (x11 : List Int) (y0 : Bool) (y1 : List Int) (outs : List Int) : Option (Nat × Bool × Bool × List Int × Bool × List Int × List Int) :=
 if ((decide (x2 < x1)) = true) then
 if ((0 : Int) ≤ x2) then
 Option.bind (x)[(Int.toNat x2)]? fun x3 =>
 Option.bind (qZ k k out1 x2 x3 (0 : Int) x x1 x2 y1 (((List.length y1) : Nat) : Int) (0 : Int) z x0 x11 y0 y1 outs) fun r =>
 if (((0 : Int) ≤ (IntKind.wrap .i64 (r.2.1 + (((List.length r.2.2.2.2.2.2.2.2.2.2.1) : Nat) : Int)))) ∧ ((IntKind.wrap .i64 (r.2.1 + (((List.length r.2.2.2.2.2.2.2.2.2.2.1) : Nat) : Int))) < ((r.1 : Nat) : Int))) then
 Option.bind (r.2.2.2.2.2.2.2.2.2.2.2)[(0 + (Int.toNat (IntKind.wrap .i64 (r.2.1 + (((List.length r.2.2.2.2.2.2.2.2.2.2.1) : Nat) : Int)))))]? fun x4 =>
 rec r.1 r.2.2.2.1 r.2.2.2.2.1 (IntKind.wrap .i64 (r.2.2.2.2.2.1 + (1 : Int))) r.2.2.2.2.2.2.1 r.2.2.2.2.2.2.2.1 r.2.2.2.2.2.2.2.2.1 r.2.2.2.2.2.2.2.2.2.1 r.2.2.2.2.2.2.2.2.2.2.1 (List.set r.2.2.2.2.2.2.2.2.2.2.2 (0 + (Int.toNat (IntKind.wrap .i64 (r.2.1 + (((List.length r.2.2.2.2.2.2.2.2.2.2.1) : Nat) : Int))))) (IntKind.wrap .u32 r.2.2.1))
 else
 none
 else
 none
 else
 (some (out1, z, x0, x11, y0, y1, outs))
def qO (k n : Nat) : Nat → List Int → Int → Int → Bool → Bool → List Int → Bool → List Int → List Int → Option (Nat × Bool × Bool × List Int × Bool × List Int × List Int) := Nat.rec (fun _ _ _ _ _ _ _ _ _ _ => none) (fun _ r => qaf k r) n
def qdb (k : Nat) (z : Bool) (x0 : Bool) (x1 : List Int) (y0 : Bool) (y1 : List Int) : Option (Bool × List Int × Bool × List Int × Bool × List Int) :=
 if (((0 : Int) ≤ (IntKind.wrap .i64 ((((List.length x1) : Nat) : Int) + (((List.length y1) : Nat) : Int)))) ∧ (((IntKind.wrap .i64 ((((List.length x1) : Nat) : Int) + (((List.length y1) : Nat) : Int))) ≤ (IntKind.wrap .i64 ((((List.length x1) : Nat) : Int) + (((List.length y1) : Nat) : Int)))) ∧ (((IntKind.wrap .i64 ((((List.length x1) : Nat) : Int) + (((List.length y1) : Nat) : Int))) * (4 : Int)) ≤ (140737488355328 : Int)))) then
 Option.bind (qO k k (Int.toNat (IntKind.wrap .i64 ((((List.length x1) : Nat) : Int) + (((List.length y1) : Nat) : Int)))) x1 (((List.length x1) : Nat) : Int) (0 : Int) z x0 x1 y0 y1 (List.replicate (Int.toNat (IntKind.wrap .i64 ((((List.length x1) : Nat) : Int) + (((List.length y1) : Nat) : Int)))) (0 : Int))) fun r =>
 if ((0 + r.1) ≤ (List.length r.2.2.2.2.2.2)) then
 Option.bind (qbs k (!(r.2.2.1 == r.2.2.2.2.1)) (List.take r.1 r.2.2.2.2.2.2) r.2.1) fun r1 =>
 (some (r1.1, r1.2, r.2.2.1, r.2.2.2.1, r.2.2.2.2.1, r.2.2.2.2.2.1))
 else
 none
 else
 none
def qdU : Nat → Bool → Bool → List Int → Bool → List Int → Option (Bool × List Int × Bool × List Int × Bool × List Int)
 | 0, _, _, _, _, _ => none
 | k + 1, z, x0, x1, y0, y1 => qdb k z x0 x1 y0 y1
def Iq3 : Nat → Inst := mkI 155 ⟨[.a (.ptr 0 0 0), .a (.ptr 1 0 0), .a (.ptr 2 0 0)], [.raw [[.lf .bool, .snil 1 106]] 2 147 true false false, .raw [[.lf .bool, .lf cW]] 2 147 true false false, .raw [[.lf .bool, .lf cW]] 2 147 true false false]⟩ [⟨[.a (.ptr 0 0 0)], [.raw [[.lf .bool, .lf cW]] 2 147 true false false, .raw [[.lf .bool, .lf cW]] 2 147 true false false, .raw [[.lf .bool, .lf cW]] 2 147 true false false]⟩] fun k x => qdU k x.1 x.2.1 x.2.2.1 x.2.2.2.1 x.2.2.2.2
def qrp (k : Nat) := ac (qos k) a0
def qwt (k : Nat) : LInst := mkL 2 [⟨[(0, .a (.ptr 0 0 0)), (1, .a (.ptr 1 0 0)), (2, .a (.ptr 2 0 0)), (7, .a (.smz 3)), (8, vI), (9, .a (.lf (.int .u32))), (10, vU), (29, vT), (30, vI), (31, vI), (39, vT), (40, vI), (41, vI)], [(0, some (.raw [[.lf .bool, .snil 1 106]] 2 147 true false false)), (1, some (.raw [[.lf .bool, .lf cW]] 2 147 true false false)), (2, some (.raw [[.lf .bool, .lf cW]] 2 147 true false false)), (3, some (.arr (.int .u32) 1 106 false))], 4⟩] [⟨some 2, ⟨[(0, .a (.ptr 0 0 0)), (1, .a (.ptr 1 0 0)), (2, .a (.ptr 2 0 0)), (7, .a (.smz 3)), (8, vI), (10, vU), (29, vT), (30, vI), (31, vI)], [(0, some (.raw [[.lf .bool, .snil 1 106]] 2 147 true false false)), (1, some (.raw [[.lf .bool, .lf cW]] 2 147 true false false)), (2, some (.raw [[.lf .bool, .lf cW]] 2 147 true false false)), (3, some (.arr (.int .u32) 1 106 false))], 4⟩⟩] (fun n x => qZ k n x.1 x.2.1 x.2.2.1 x.2.2.2.1 x.2.2.2.2.1 x.2.2.2.2.2.1 x.2.2.2.2.2.2.1 x.2.2.2.2.2.2.2.1 x.2.2.2.2.2.2.2.2.1 x.2.2.2.2.2.2.2.2.2.1 x.2.2.2.2.2.2.2.2.2.2.1 x.2.2.2.2.2.2.2.2.2.2.2.1 x.2.2.2.2.2.2.2.2.2.2.2.2.1 x.2.2.2.2.2.2.2.2.2.2.2.2.2.1 x.2.2.2.2.2.2.2.2.2.2.2.2.2.2.1 x.2.2.2.2.2.2.2.2.2.2.2.2.2.2.2) k
theorem qr6 (k : Nat) : LIo 155 Tryz.f155 3 k (qwt k) :=
 lpk [] (qrp k) l0 (fun _ => rfl) (by kernel_rfl) fun n x => by kernel_rfl
def qwu (k : Nat) : LInst := mkL 0 [⟨[(0, .a (.ptr 0 0 0)), (1, .a (.ptr 1 0 0)), (2, .a (.ptr 2 0 0)), (7, .a (.smz 3)), (29, vT), (30, vI), (31, vI)], [(0, some (.raw [[.lf .bool, .snil 1 106]] 2 147 true false false)), (1, some (.raw [[.lf .bool, .lf cW]] 2 147 true false false)), (2, some (.raw [[.lf .bool, .lf cW]] 2 147 true false false)), (3, some (.arr (.int .u32) 1 106 false))], 4⟩] [⟨some 0, ⟨[(0, .a (.ptr 0 0 0)), (1, .a (.ptr 1 0 0)), (2, .a (.ptr 2 0 0)), (7, .a (.smz 3))], [(0, some (.raw [[.lf .bool, .snil 1 106]] 2 147 true false false)), (1, some (.raw [[.lf .bool, .lf cW]] 2 147 true false false)), (2, some (.raw [[.lf .bool, .lf cW]] 2 147 true false false)), (3, some (.arr (.int .u32) 1 106 false))], 4⟩⟩] (fun n x => qO k n x.1 x.2.1 x.2.2.1 x.2.2.2.1 x.2.2.2.2.1 x.2.2.2.2.2.1 x.2.2.2.2.2.2.1 x.2.2.2.2.2.2.2.1 x.2.2.2.2.2.2.2.2.1 x.2.2.2.2.2.2.2.2.2) k
theorem qwv (k : Nat) : LIo 155 Tryz.f155 3 k (qwu k) :=
 lpk [2] (qrp k) (lc (qr6 k) l0) (fun _ => rfl) (by kernel_rfl) fun n x => by kernel_rfl
theorem qzn : ∀ k, qh (call cf k) (Iq3 k) :=
 fnk 3 [0] Tryz.func155 (fun k => (qrp k)) (fun k => (lc (qr6 k) (lc (qwv k) l0))) ⟨rfl, rfl, ⟨rfl, Nat.le_of_ble_eq_true rfl⟩, rfl⟩ (fun _ => rfl) (by kernel_rfl) fun k x => by kernel_rfl

def qhY (k : Nat) (n0 : Int) (n1 : Int) : Option (Bool) :=
 if ((n0 == (0 : Int)) = true) then
 (some (n1 == (0 : Int)))
 else
 if ((decide (n0 ≥ (-(999999999 : Int)))) = true) then
 if ((decide (n0 ≤ (999999999 : Int))) = true) then
 if (((Int.tmod n0 (10 : Int)) != (0 : Int)) = true) then
 if ((decide (n1 ≥ (-(18 : Int)))) = true) then
 (some (decide (n1 ≤ (9 : Int))))
 else
 (some false)
 else
 (some false)
 else
 (some false)
 else
 (some false)
def qW : Nat → Int → Int → Option (Bool)
 | 0, _, _ => none
 | k + 1, n0, n1 => qhY k n0 n1
def qxS : Nat → Inst := mkI 118 ⟨[.g [.lf (.int .i64), .lf (.int .i64)]], []⟩ [⟨[vB], []⟩] fun k x => qW k x.1 x.2
theorem qjU : ∀ k, qh (call cf k) (qxS k) :=
 fnk 0 [] Tryz.func118 (fun k => a0) (fun k => l0) ⟨rfl, rfl, ⟨rfl, Nat.le_of_ble_eq_true rfl⟩, rfl⟩ (fun _ => rfl) (by kernel_rfl) fun k x => by kernel_rfl

def qdK (k : Nat) (rec : List ByteArray → List ByteArray → Int → Int → List (ByteArray × Int) → Option (List ByteArray × List (ByteArray × Int))) (l : List ByteArray) (x : List ByteArray) (x1 : Int) (x2 : Int) (seens : List (ByteArray × Int)) : Option (List ByteArray × List (ByteArray × Int)) :=
 if ((decide (x2 < x1)) = true) then
 if ((0 : Int) ≤ x2) then
 Option.bind (x)[(Int.toNat x2)]? fun x3 =>
 rec l x x1 (IntKind.wrap .i64 (x2 + (1 : Int))) (qam .str (.int .i64) seens x3 (IntKind.wrap .i64 ((qgC .str (.int .i64) seens x3 (0 : Int)) + (1 : Int))))
 else
 none
 else
 (some (l, seens))
def qcS (k n : Nat) : List ByteArray → List ByteArray → Int → Int → List (ByteArray × Int) → Option (List ByteArray × List (ByteArray × Int)) := Nat.rec (fun _ _ _ _ _ => none) (fun _ r => qdK k r) n
def qhn (k : Nat) (l : List ByteArray) : Option (Bool) :=
 Option.bind (qcS k k l l (((List.length l) : Nat) : Int) (0 : Int) []) fun r2 =>
 (some ((((List.length r2.2) : Nat) : Int) != (((List.length r2.1) : Nat) : Int)))
def qbS : Nat → List ByteArray → Option (Bool)
 | 0, _ => none
 | k + 1, l => qhn k l
def qxT : Nat → Inst := mkI 183 ⟨[vR], []⟩ [⟨[vB], []⟩] fun k x => qbS k x
def qui (k : Nat) : LInst := mkL 0 [⟨[(0, vR), (3, .a (.mp 0)), (7, vR), (8, vI), (9, vI)], [(0, some (.map .str (.int .i64) 261 false))], 1⟩] [⟨some 0, ⟨[(0, vR), (3, .a (.mp 0))], [(0, some (.map .str (.int .i64) 261 false))], 1⟩⟩] (fun n x => qcS k n x.1 x.2.1 x.2.2.1 x.2.2.2.1 x.2.2.2.2) k
theorem quj (k : Nat) : LIo 183 Tryz.f183 0 k (qui k) :=
 lpk [] a0 l0 (fun _ => rfl) (by kernel_rfl) fun n x => by kernel_rfl
theorem qww : ∀ k, qh (call cf k) (qxT k) :=
 fnk 0 [0] Tryz.func183 (fun k => a0) (fun k => (lc (quj k) l0)) ⟨rfl, rfl, ⟨rfl, Nat.le_of_ble_eq_true rfl⟩, rfl⟩ (fun _ => rfl) (by kernel_rfl) fun k x => by kernel_rfl

def qfP (k : Nat) (s : ByteArray) : Option (Empty) :=
 none
def qdp : Nat → ByteArray → Option (Empty)
 | 0, _ => none
 | k + 1, s => qfP k s
def qxU : Nat → Inst := mkI 237 ⟨[vS], []⟩ [] fun k x => qdp k x
theorem qwx : ∀ k, qh (call cf k) (qxU k) :=
 fnk 0 [0] Tryz.func237 (fun k => a0) (fun k => l0) ⟨rfl, rfl, ⟨rfl, Nat.le_of_ble_eq_true rfl⟩, rfl⟩ (fun _ => rfl) (by kernel_rfl) fun k x => by kernel_rfl

def qjd (k : Nat) (s : ByteArray) (n : Int) : Option (Empty) :=
 Option.bind (qdp k s) fun r3 =>
 nomatch r3
def qg0 : Nat → ByteArray → Int → Option (Empty)
 | 0, _, _ => none
 | k + 1, s, n => qjd k s n
def qxV : Nat → Inst := mkI 228 ⟨[vS, vI], []⟩ [] fun k x => qg0 k x.1 x.2
theorem qwy : ∀ k, qh (call cf k) (qxV k) :=
 fnk 0 [0] Tryz.func228 (fun k => (ac (qwx k) a0)) (fun k => l0) ⟨rfl, rfl, ⟨rfl, Nat.le_of_ble_eq_true rfl⟩, rfl⟩ (fun _ => rfl) (by kernel_rfl) fun k x => by kernel_rfl

def qgd (k : Nat) (s : ByteArray) (substr : ByteArray) : Option (Int) :=
 if ((List.length (Array.toList (ByteArray.data substr))) = 1) then
 (some (qrj s substr))
 else
 none
def qc9 : Nat → ByteArray → ByteArray → Option (Int)
 | 0, _, _ => none
 | k + 1, s, substr => qgd k s substr
def qjV : FS := ⟨[vS, vS], []⟩
def qlh : List FS := [⟨[vI], []⟩]
def qxW (k : Nat) : Inst := ⟨229, qjV, qlh, fun x => qc9 k x.1 x.2⟩
theorem qwz (k : Nat) (x : qjV.D) : qc9 (k + 1) x.1 x.2 = (qiM) (DS FS.D qlh) (qjV.enc x).1 (qjV.enc x).2 (qgc FS.dec qlh) := by kernel_rfl
theorem qwA : ∀ k, qh (call cf k) (qxW k)
 | 0 => fun x y e => absurd (show (none : Option _) = some y from e) (by simp)
 | k + 1 => qjb (c := cf) (k := k) (f := 229) (g := qgS) (G := qiM) (sh := qjV) (os := qlh) rfl (qor) (fun x => qc9 (k + 1) x.1 x.2) (qwz k)

def qge (k : Nat) (s : ByteArray) (substr : ByteArray) : Option (Int) :=
 if ((List.length (Array.toList (ByteArray.data substr))) = 1) then
 (some (qri s substr))
 else
 none
def qda : Nat → ByteArray → ByteArray → Option (Int)
 | 0, _, _ => none
 | k + 1, s, substr => qge k s substr
def qjW : FS := ⟨[vS, vS], []⟩
def qli : List FS := [⟨[vI], []⟩]
def qxX (k : Nat) : Inst := ⟨230, qjW, qli, fun x => qda k x.1 x.2⟩
theorem qwB (k : Nat) (x : qjW.D) : qda (k + 1) x.1 x.2 = (qiL) (DS FS.D qli) (qjW.enc x).1 (qjW.enc x).2 (qgc FS.dec qli) := by kernel_rfl
theorem qwC : ∀ k, qh (call cf k) (qxX k)
 | 0 => fun x y e => absurd (show (none : Option _) = some y from e) (by simp)
 | k + 1 => qjb (c := cf) (k := k) (f := 230) (g := qgR) (G := qiL) (sh := qjW) (os := qli) rfl (qoq) (fun x => qda (k + 1) x.1 x.2) (qwB k)

def qca (k : Nat) (rec : ByteArray → ByteArray → Int → Int → Nat → Int → List ByteArray → Option (ByteArray × Nat × Int × List ByteArray)) (s : ByteArray) (sep : ByteArray) (sepSave : Int) (n : Int) (a : Nat) (i : Int) (as1 : List ByteArray) : Option (ByteArray × Nat × Int × List ByteArray) :=
 if ((decide (i < n)) = true) then
 Option.bind (qda k s sep) fun r4 =>
 if ((decide (r4 < (0 : Int))) = true) then
 (some (s, a, i, as1))
 else
 if (((0 : Int) ≤ (0 : Int)) ∧ (((0 : Int) ≤ (IntKind.wrap .i64 (r4 + sepSave))) ∧ ((IntKind.wrap .i64 (r4 + sepSave)) ≤ (((ByteArray.size s) : Nat) : Int)))) then
 if (((0 : Int) ≤ i) ∧ (i < ((a : Nat) : Int))) then
 Option.bind (as1)[(0 + (Int.toNat i))]? fun x4 =>
 if (((0 : Int) ≤ (IntKind.wrap .i64 (r4 + (((ByteArray.size sep) : Nat) : Int)))) ∧ (((IntKind.wrap .i64 (r4 + (((ByteArray.size sep) : Nat) : Int))) ≤ (((ByteArray.size s) : Nat) : Int)) ∧ ((((ByteArray.size s) : Nat) : Int) ≤ (((ByteArray.size s) : Nat) : Int)))) then
 rec (ByteArray.extract s (Int.toNat (IntKind.wrap .i64 (r4 + (((ByteArray.size sep) : Nat) : Int)))) (Int.toNat (((ByteArray.size s) : Nat) : Int))) sep sepSave n a (IntKind.wrap .i64 (i + (1 : Int))) (List.set as1 (0 + (Int.toNat i)) (ByteArray.extract s 0 (Int.toNat (IntKind.wrap .i64 (r4 + sepSave)))))
 else
 none
 else
 none
 else
 none
 else
 (some (s, a, i, as1))
def qaA (k n : Nat) : ByteArray → ByteArray → Int → Int → Nat → Int → List ByteArray → Option (ByteArray × Nat × Int × List ByteArray) := Nat.rec (fun _ _ _ _ _ _ _ => none) (fun _ r => qca k r) n
def qeY (k : Nat) (s : ByteArray) (sep : ByteArray) (sepSave : Int) (n : Int) : Option (List ByteArray) :=
 if ((n == (0 : Int)) = true) then
 (some [])
 else
 if (((Array.toList (ByteArray.data sep)) == (Array.toList (ByteArray.data (ByteArray.mk (List.toArray []))))) = true) then
 Option.bind (qg0 k s n) fun r3 =>
 nomatch r3
 else
 if ((decide (n < (0 : Int))) = true) then
 Option.bind (qc9 k s sep) fun r3 =>
 if (((0 : Int) ≤ (min (IntKind.wrap .i64 (r3 + (1 : Int))) (IntKind.wrap .i64 ((((ByteArray.size s) : Nat) : Int) + (1 : Int))))) ∧ (((min (IntKind.wrap .i64 (r3 + (1 : Int))) (IntKind.wrap .i64 ((((ByteArray.size s) : Nat) : Int) + (1 : Int)))) ≤ (min (IntKind.wrap .i64 (r3 + (1 : Int))) (IntKind.wrap .i64 ((((ByteArray.size s) : Nat) : Int) + (1 : Int))))) ∧ (((min (IntKind.wrap .i64 (r3 + (1 : Int))) (IntKind.wrap .i64 ((((ByteArray.size s) : Nat) : Int) + (1 : Int)))) * (16 : Int)) ≤ (140737488355328 : Int)))) then
 Option.bind (qaA k k s sep sepSave (IntKind.wrap .i64 ((min (IntKind.wrap .i64 (r3 + (1 : Int))) (IntKind.wrap .i64 ((((ByteArray.size s) : Nat) : Int) + (1 : Int)))) - (1 : Int))) (Int.toNat (min (IntKind.wrap .i64 (r3 + (1 : Int))) (IntKind.wrap .i64 ((((ByteArray.size s) : Nat) : Int) + (1 : Int))))) (0 : Int) (List.replicate (Int.toNat (min (IntKind.wrap .i64 (r3 + (1 : Int))) (IntKind.wrap .i64 ((((ByteArray.size s) : Nat) : Int) + (1 : Int))))) (ByteArray.mk (List.toArray [])))) fun r4 =>
 if (((0 : Int) ≤ r4.2.2.1) ∧ (r4.2.2.1 < ((r4.2.1 : Nat) : Int))) then
 Option.bind (r4.2.2.2)[(0 + (Int.toNat r4.2.2.1))]? fun x4 =>
 if (((0 : Int) ≤ (0 : Int)) ∧ (((0 : Int) ≤ (IntKind.wrap .i64 (r4.2.2.1 + (1 : Int)))) ∧ (((0 + (Int.toNat (IntKind.wrap .i64 (r4.2.2.1 + (1 : Int))))) ≤ (List.length (List.set r4.2.2.2 (0 + (Int.toNat r4.2.2.1)) r4.1))) ∧ (((0 : Int) < (IntKind.wrap .i64 (r4.2.2.1 + (1 : Int)))) ∨ (true = true))))) then
 if ((0 + (Int.toNat (IntKind.wrap .i64 (r4.2.2.1 + (1 : Int))))) ≤ (List.length (List.set r4.2.2.2 (0 + (Int.toNat r4.2.2.1)) r4.1))) then
 (some (List.take (Int.toNat (IntKind.wrap .i64 (r4.2.2.1 + (1 : Int)))) (List.set r4.2.2.2 (0 + (Int.toNat r4.2.2.1)) r4.1)))
 else
 none
 else
 none
 else
 none
 else
 none
 else
 if (((0 : Int) ≤ (min n (IntKind.wrap .i64 ((((ByteArray.size s) : Nat) : Int) + (1 : Int))))) ∧ (((min n (IntKind.wrap .i64 ((((ByteArray.size s) : Nat) : Int) + (1 : Int)))) ≤ (min n (IntKind.wrap .i64 ((((ByteArray.size s) : Nat) : Int) + (1 : Int))))) ∧ (((min n (IntKind.wrap .i64 ((((ByteArray.size s) : Nat) : Int) + (1 : Int)))) * (16 : Int)) ≤ (140737488355328 : Int)))) then
 Option.bind (qaA k k s sep sepSave (IntKind.wrap .i64 ((min n (IntKind.wrap .i64 ((((ByteArray.size s) : Nat) : Int) + (1 : Int)))) - (1 : Int))) (Int.toNat (min n (IntKind.wrap .i64 ((((ByteArray.size s) : Nat) : Int) + (1 : Int))))) (0 : Int) (List.replicate (Int.toNat (min n (IntKind.wrap .i64 ((((ByteArray.size s) : Nat) : Int) + (1 : Int))))) (ByteArray.mk (List.toArray [])))) fun r3 =>
 if (((0 : Int) ≤ r3.2.2.1) ∧ (r3.2.2.1 < ((r3.2.1 : Nat) : Int))) then
 Option.bind (r3.2.2.2)[(0 + (Int.toNat r3.2.2.1))]? fun x4 =>
 if (((0 : Int) ≤ (0 : Int)) ∧ (((0 : Int) ≤ (IntKind.wrap .i64 (r3.2.2.1 + (1 : Int)))) ∧ (((0 + (Int.toNat (IntKind.wrap .i64 (r3.2.2.1 + (1 : Int))))) ≤ (List.length (List.set r3.2.2.2 (0 + (Int.toNat r3.2.2.1)) r3.1))) ∧ (((0 : Int) < (IntKind.wrap .i64 (r3.2.2.1 + (1 : Int)))) ∨ (true = true))))) then
 if ((0 + (Int.toNat (IntKind.wrap .i64 (r3.2.2.1 + (1 : Int))))) ≤ (List.length (List.set r3.2.2.2 (0 + (Int.toNat r3.2.2.1)) r3.1))) then
 (some (List.take (Int.toNat (IntKind.wrap .i64 (r3.2.2.1 + (1 : Int)))) (List.set r3.2.2.2 (0 + (Int.toNat r3.2.2.1)) r3.1)))
 else
 none
 else
 none
 else
 none
 else
 none
def qeZ : Nat → ByteArray → ByteArray → Int → Int → Option (List ByteArray)
 | 0, _, _, _, _ => none
 | k + 1, s, sep, sepSave, n => qeY k s sep sepSave n
def qxY : Nat → Inst := mkI 193 ⟨[vS, vS, vI, vI], []⟩ [⟨[vR], []⟩] fun k x => qeZ k x.1 x.2.1 x.2.2.1 x.2.2.2
def qr7 (k : Nat) := ac (qwy k) (ac (qwA k) (ac (qwC k) a0))
def quk (k : Nat) : LInst := mkL 0 [⟨[(0, vS), (1, vS), (2, vI), (3, vI), (9, .a (.smz 0)), (10, vI)], [(0, some (.arr .str 1 9 false))], 1⟩] [⟨some 0, ⟨[(0, vS), (9, .a (.smz 0)), (10, vI)], [(0, some (.arr .str 1 9 false))], 1⟩⟩] (fun n x => qaA k n x.1 x.2.1 x.2.2.1 x.2.2.2.1 x.2.2.2.2.1 x.2.2.2.2.2.1 x.2.2.2.2.2.2) k
theorem qul (k : Nat) : LIo 193 Tryz.f193 0 k (quk k) :=
 lpk [] (qr7 k) l0 (fun _ => rfl) (by kernel_rfl) fun n x => by kernel_rfl
theorem qwD : ∀ k, qh (call cf k) (qxY k) :=
 fnk 0 [0] Tryz.func193 (fun k => (qr7 k)) (fun k => (lc (qul k) l0)) ⟨rfl, rfl, ⟨rfl, Nat.le_of_ble_eq_true rfl⟩, rfl⟩ (fun _ => rfl) (by kernel_rfl) fun k x => by kernel_rfl

def qgf (k : Nat) (s : ByteArray) (sep : ByteArray) : Option (List ByteArray) :=
 Option.bind (qeZ k s sep (0 : Int) (-(1 : Int))) fun r3 =>
 (some r3)
def qeQ : Nat → ByteArray → ByteArray → Option (List ByteArray)
 | 0, _, _ => none
 | k + 1, s, sep => qgf k s sep
def qxZ : Nat → Inst := mkI 133 ⟨[vS, vS], []⟩ [⟨[vR], []⟩] fun k x => qeQ k x.1 x.2
theorem qwE : ∀ k, qh (call cf k) (qxZ k) :=
 fnk 0 [] Tryz.func133 (fun k => (ac (qwD k) a0)) (fun k => l0) ⟨rfl, rfl, ⟨rfl, Nat.le_of_ble_eq_true rfl⟩, rfl⟩ (fun _ => rfl) (by kernel_rfl) fun k x => by kernel_rfl

def qcq (k : Nat) (rec : List Int → Int → Int → Option ((Bool) ⊕ (Unit))) (x : List Int) (x1 : Int) (x2 : Int) : Option ((Bool) ⊕ (Unit)) :=
 if ((decide (x2 < x1)) = true) then
 if ((0 : Int) ≤ x2) then
 Option.bind (x)[(Int.toNat x2)]? fun x5 =>
 if ((decide (x5 ≥ (97 : Int))) = true) then
 if ((decide (x5 ≤ (122 : Int))) = false) then
 if ((decide (x5 ≥ (48 : Int))) = true) then
 if ((decide (x5 ≤ (57 : Int))) = false) then
 if ((!(x5 == (95 : Int))) = true) then
 (some (Sum.inl false))
 else
 rec x x1 (IntKind.wrap .i64 (x2 + (1 : Int)))
 else
 rec x x1 (IntKind.wrap .i64 (x2 + (1 : Int)))
 else
 if ((!(x5 == (95 : Int))) = true) then
 (some (Sum.inl false))
 else
 rec x x1 (IntKind.wrap .i64 (x2 + (1 : Int)))
 else
 rec x x1 (IntKind.wrap .i64 (x2 + (1 : Int)))
 else
 if ((decide (x5 ≥ (48 : Int))) = true) then
 if ((decide (x5 ≤ (57 : Int))) = false) then
 if ((!(x5 == (95 : Int))) = true) then
 (some (Sum.inl false))
 else
 rec x x1 (IntKind.wrap .i64 (x2 + (1 : Int)))
 else
 rec x x1 (IntKind.wrap .i64 (x2 + (1 : Int)))
 else
 if ((!(x5 == (95 : Int))) = true) then
 (some (Sum.inl false))
 else
 rec x x1 (IntKind.wrap .i64 (x2 + (1 : Int)))
 else
 none
 else
 (some (Sum.inr ()))
def qby (k n : Nat) : List Int → Int → Int → Option ((Bool) ⊕ (Unit)) := Nat.rec (fun _ _ _ => none) (fun _ r => qcq k r) n
def qho (k : Nat) (s : ByteArray) : Option (Bool) :=
 if ((decide ((((ByteArray.size s) : Nat) : Int) < (1 : Int))) = false) then
 if ((decide ((((ByteArray.size s) : Nat) : Int) > (16 : Int))) = true) then
 (some false)
 else
 Option.bind (qby k k (List.map (fun b : UInt8 => ((UInt8.toNat b : Nat) : Int)) (Array.toList (ByteArray.data s))) (((List.length (List.map (fun b : UInt8 => ((UInt8.toNat b : Nat) : Int)) (Array.toList (ByteArray.data s)))) : Nat) : Int) (0 : Int)) fun r4 =>
 qc r4
 (fun r4 =>
 (some r4))
 (fun r4 =>
 (some true))
 else
 (some false)
def qff : Nat → ByteArray → Option (Bool)
 | 0, _ => none
 | k + 1, s => qho k s
def qx0 : Nat → Inst := mkI 226 ⟨[vS], []⟩ [⟨[vB], []⟩] fun k x => qff k x
def qum (k : Nat) : LInst := mkL 0 [⟨[(14, .a (.lf (.sl (.int .u8)))), (15, vI), (16, vI)], [], 0⟩] [⟨none, ⟨[(2, vB)], [], 0⟩⟩, ⟨some 0, ⟨[], [], 0⟩⟩] (fun n x => qby k n x.1 x.2.1 x.2.2) k
theorem qun (k : Nat) : LIo 226 Tryz.f226 0 k (qum k) :=
 lpk [] a0 l0 (fun _ => rfl) (by kernel_rfl) fun n x => by kernel_rfl
theorem qr8 : ∀ k, qh (call cf k) (qx0 k) :=
 fnk 0 [0] Tryz.func226 (fun k => a0) (fun k => (lc (qun k) l0)) ⟨rfl, rfl, ⟨rfl, Nat.le_of_ble_eq_true rfl⟩, rfl⟩ (fun _ => rfl) (by kernel_rfl) fun k x => by kernel_rfl

def qhZ (k : Nat) (s : ByteArray) : Option (Bool) :=
 Option.bind (qff k s) fun r4 =>
 (some r4)
def qgM : Nat → ByteArray → Option (Bool)
 | 0, _ => none
 | k + 1, s => qhZ k s
def qx1 : Nat → Inst := mkI 196 ⟨[vS], []⟩ [⟨[vB], []⟩] fun k x => qgM k x
theorem qwF : ∀ k, qh (call cf k) (qx1 k) :=
 fnk 0 [] Tryz.func196 (fun k => (ac (qr8 k) a0)) (fun k => l0) ⟨rfl, rfl, ⟨rfl, Nat.le_of_ble_eq_true rfl⟩, rfl⟩ (fun _ => rfl) (by kernel_rfl) fun k x => by kernel_rfl

def qg1 (k : Nat) (p : ByteArray) : Option (Bool) :=
 Option.bind (qgM k p) fun r4 =>
 (some (!r4))
def qf1 : Nat → ByteArray → Option (Bool)
 | 0, _ => none
 | k + 1, p => qg1 k p
def qx2 : Nat → Inst := mkI 221 ⟨[vS], []⟩ [⟨[vB], []⟩] fun k x => qf1 k x
theorem qwG : ∀ k, qh (call cf k) (qx2 k) :=
 fnk 0 [] Tryz.func221 (fun k => (ac (qwF k) a0)) (fun k => l0) ⟨rfl, rfl, ⟨rfl, Nat.le_of_ble_eq_true rfl⟩, rfl⟩ (fun _ => rfl) (by kernel_rfl) fun k x => by kernel_rfl

def qd7 (k : Nat) (rec : List ByteArray → Int → Int → Option ((Int) ⊕ (Unit))) (s : List ByteArray) (x : Int) (x1 : Int) : Option ((Int) ⊕ (Unit)) :=
 if ((decide (x1 < x)) = true) then
 if ((0 : Int) ≤ x1) then
 Option.bind (s)[(Int.toNat x1)]? fun x4 =>
 Option.bind (qf1 k x4) fun r4 =>
 if (r4 = true) then
 (some (Sum.inl x1))
 else
 rec s x (IntKind.wrap .i64 (x1 + (1 : Int)))
 else
 none
 else
 (some (Sum.inr ()))
def qbc (k n : Nat) : List ByteArray → Int → Int → Option ((Int) ⊕ (Unit)) := Nat.rec (fun _ _ _ => none) (fun _ r => qd7 k r) n
def qbt (k : Nat) (s : List ByteArray) : Option (Int) :=
 Option.bind (qbc k k s (((List.length s) : Nat) : Int) (0 : Int)) fun r4 =>
 qc r4
 (fun r4 =>
 (some r4))
 (fun r4 =>
 (some (-(1 : Int))))
def qar : Nat → List ByteArray → Option (Int)
 | 0, _ => none
 | k + 1, s => qbt k s
def qx3 : Nat → Inst := mkI 194 ⟨[vR, .a (.fn 221 [])], []⟩ [⟨[vI], []⟩] fun k x => qar k x
def qr9 (k : Nat) := ac (qwG k) a0
def qup (k : Nat) : LInst := mkL 0 [⟨[(0, vR), (1, .a (.fn 221 [])), (7, vI), (8, vI)], [], 0⟩] [⟨none, ⟨[(4, vI)], [], 0⟩⟩, ⟨some 0, ⟨[], [], 0⟩⟩] (fun n x => qbc k n x.1 x.2.1 x.2.2) k
theorem quq (k : Nat) : LIo 194 Tryz.f194 0 k (qup k) :=
 lpk [] (qr9 k) l0 (fun _ => rfl) (by kernel_rfl) fun n x => by kernel_rfl
theorem qwH : ∀ k, qh (call cf k) (qx3 k) :=
 fnk 0 [0] Tryz.func194 (fun k => (qr9 k)) (fun k => (lc (quq k) l0)) ⟨rfl, rfl, ⟨rfl, Nat.le_of_ble_eq_true rfl⟩, rfl⟩ (fun _ => rfl) (by kernel_rfl) fun k x => by kernel_rfl

def qa5 (k : Nat) (s : List ByteArray) : Option (Bool) :=
 Option.bind (qar k s) fun r4 =>
 (some (decide (r4 ≥ (0 : Int))))
def qa6 : Nat → List ByteArray → Option (Bool)
 | 0, _ => none
 | k + 1, s => qa5 k s
def qx4 : Nat → Inst := mkI 134 ⟨[vR, .a (.fn 221 [])], []⟩ [⟨[vB], []⟩] fun k x => qa6 k x
theorem qwI : ∀ k, qh (call cf k) (qx4 k) :=
 fnk 0 [] Tryz.func134 (fun k => (ac (qwH k) a0)) (fun k => l0) ⟨rfl, rfl, ⟨rfl, Nat.le_of_ble_eq_true rfl⟩, rfl⟩ (fun _ => rfl) (by kernel_rfl) fun k x => by kernel_rfl

def qh0 (k : Nat) (s : ByteArray) : Option (Bool) :=
 Option.bind (qeQ k s (ByteArray.mk (List.toArray (46 :: [])))) fun r3 =>
 if ((decide ((((List.length r3) : Nat) : Int) ≤ (9 : Int))) = true) then
 Option.bind (qa6 k r3) fun r4 =>
 (some (!r4))
 else
 (some false)
def qeR : Nat → ByteArray → Option (Bool)
 | 0, _ => none
 | k + 1, s => qh0 k s
def qx5 : Nat → Inst := mkI 184 ⟨[vS], []⟩ [⟨[vB], []⟩] fun k x => qeR k x
theorem qsa : ∀ k, qh (call cf k) (qx5 k) :=
 fnk 0 [] Tryz.func184 (fun k => (ac (qwE k) (ac (qwI k) a0))) (fun k => l0) ⟨rfl, rfl, ⟨rfl, Nat.le_of_ble_eq_true rfl⟩, rfl⟩ (fun _ => rfl) (by kernel_rfl) fun k x => by kernel_rfl

def qcr (k : Nat) (rec : List (Int × Int) → Int → Int → Int → List (Int × Int) → List Int → Option ((Bool × Int × List (Int × Int) × List Int × Int × Int) ⊕ (Int × List (Int × Int) × List Int))) (x : List (Int × Int)) (x1 : Int) (x2 : Int) (w0 : Int) (w1 : List (Int × Int)) (w2 : List Int) : Option ((Bool × Int × List (Int × Int) × List Int × Int × Int) ⊕ (Int × List (Int × Int) × List Int)) :=
 if ((decide (x2 < x1)) = true) then
 if ((0 : Int) ≤ x2) then
 Option.bind (x)[(Int.toNat x2)]? fun x4 =>
 Option.bind (qW k x4.1 x4.2) fun r6 =>
 if ((!r6) = true) then
 (some (Sum.inl (false, w0, w1, w2, x4.1, x4.2)))
 else
 rec x x1 (IntKind.wrap .i64 (x2 + (1 : Int))) w0 w1 w2
 else
 none
 else
 (some (Sum.inr (w0, w1, w2)))
def qbz (k n : Nat) : List (Int × Int) → Int → Int → Int → List (Int × Int) → List Int → Option ((Bool × Int × List (Int × Int) × List Int × Int × Int) ⊕ (Int × List (Int × Int) × List Int)) := Nat.rec (fun _ _ _ _ _ _ => none) (fun _ r => qcr k r) n
def qcs (k : Nat) (rec : List Int → Int → Int → Int → List (Int × Int) → List Int → Option ((Bool × Int × List (Int × Int) × List Int) ⊕ (Int × List (Int × Int) × List Int))) (x : List Int) (x1 : Int) (x2 : Int) (w0 : Int) (w1 : List (Int × Int)) (w2 : List Int) : Option ((Bool × Int × List (Int × Int) × List Int) ⊕ (Int × List (Int × Int) × List Int)) :=
 if ((decide (x2 < x1)) = true) then
 if ((0 : Int) ≤ x2) then
 Option.bind (x)[(Int.toNat x2)]? fun x4 =>
 if ((decide (x4 < (0 : Int))) = false) then
 if ((decide (x4 > (1000000000 : Int))) = true) then
 (some (Sum.inl (false, w0, w1, w2)))
 else
 rec x x1 (IntKind.wrap .i64 (x2 + (1 : Int))) w0 w1 w2
 else
 (some (Sum.inl (false, w0, w1, w2)))
 else
 none
 else
 (some (Sum.inr (w0, w1, w2)))
def qa7 (k n : Nat) : List Int → Int → Int → Int → List (Int × Int) → List Int → Option ((Bool × Int × List (Int × Int) × List Int) ⊕ (Int × List (Int × Int) × List Int)) := Nat.rec (fun _ _ _ _ _ _ => none) (fun _ r => qcs k r) n
def qbC (k : Nat) (rec : Int → Int → List (Int × Int) → List Int → Option ((Bool × Int × List (Int × Int) × List Int) ⊕ (Int × List (Int × Int) × List Int))) (i : Int) (w0 : Int) (w1 : List (Int × Int)) (w2 : List Int) : Option ((Bool × Int × List (Int × Int) × List Int) ⊕ (Int × List (Int × Int) × List Int)) :=
 if ((decide (i < (((List.length w2) : Nat) : Int))) = true) then
 if ((0 : Int) ≤ i) then
 Option.bind (w2)[(Int.toNat i)]? fun x4 =>
 if ((0 : Int) ≤ (IntKind.wrap .i64 (i - (1 : Int)))) then
 Option.bind (w2)[(Int.toNat (IntKind.wrap .i64 (i - (1 : Int))))]? fun x5 =>
 if ((decide (x4 ≤ x5)) = true) then
 (some (Sum.inl (false, w0, w1, w2)))
 else
 rec (IntKind.wrap .i64 (i + (1 : Int))) w0 w1 w2
 else
 none
 else
 none
 else
 (some (Sum.inr (w0, w1, w2)))
def qaF (k n : Nat) : Int → Int → List (Int × Int) → List Int → Option ((Bool × Int × List (Int × Int) × List Int) ⊕ (Int × List (Int × Int) × List Int)) := Nat.rec (fun _ _ _ _ => none) (fun _ r => qbC k r) n
def qhp (k : Nat) (w0 : Int) (w1 : List (Int × Int)) (w2 : List Int) : Option (Bool) :=
 Option.bind (qbz k k w1 (((List.length w1) : Nat) : Int) (0 : Int) w0 w1 w2) fun r6 =>
 qc r6
 (fun r6 =>
 (some r6.1))
 (fun r6 =>
 Option.bind (qa7 k k r6.2.2 (((List.length r6.2.2) : Nat) : Int) (0 : Int) r6.1 r6.2.1 r6.2.2) fun r7 =>
 qc r7
 (fun r7 =>
 (some r7.1))
 (fun r7 =>
 if ((r7.1 == (1 : Int)) = true) then
 if (((((List.length r7.2.1) : Nat) : Int) == (1 : Int)) = true) then
 (some ((((List.length r7.2.2) : Nat) : Int) == (0 : Int)))
 else
 (some false)
 else
 if ((r7.1 == (2 : Int)) = true) then
 if (((((List.length r7.2.1) : Nat) : Int) == (2 : Int)) = true) then
 if (((((List.length r7.2.2) : Nat) : Int) == (5 : Int)) = true) then
 Option.bind (r7.2.2)[4]? fun x4 =>
 if ((decide (x4 ≥ (1 : Int))) = true) then
 Option.bind (r7.2.2)[1]? fun x5 =>
 Option.bind (r7.2.2)[2]? fun x6 =>
 Option.bind (r7.2.2)[3]? fun x7 =>
 Option.bind (r7.2.2)[4]? fun x8 =>
 (some (decide ((IntKind.wrap .i64 ((IntKind.wrap .i64 (x5 + x6)) + x7)) ≤ x8)))
 else
 (some false)
 else
 (some false)
 else
 (some false)
 else
 if ((r7.1 == (3 : Int)) = true) then
 Option.bind (qaF k k (1 : Int) r7.1 r7.2.1 r7.2.2) fun r8 =>
 qc r8
 (fun r8 =>
 (some r8.1))
 (fun r8 =>
 if (((((List.length r8.2.1) : Nat) : Int) == (((List.length r8.2.2) : Nat) : Int)) = true) then
 if ((decide ((((List.length r8.2.1) : Nat) : Int) ≥ (1 : Int))) = true) then
 (some (decide ((((List.length r8.2.1) : Nat) : Int) ≤ (16 : Int))))
 else
 (some false)
 else
 (some false))
 else
 if ((r7.1 == (4 : Int)) = true) then
 if ((decide ((((List.length r7.2.1) : Nat) : Int) ≥ (1 : Int))) = true) then
 if ((decide ((((List.length r7.2.1) : Nat) : Int) ≤ (16 : Int))) = true) then
 (some ((((List.length r7.2.2) : Nat) : Int) == (0 : Int)))
 else
 (some false)
 else
 (some false)
 else
 (some false)))
def qed : Nat → Int → List (Int × Int) → List Int → Option (Bool)
 | 0, _, _, _ => none
 | k + 1, w0, w1, w2 => qhp k w0 w1 w2
def qx6 : Nat → Inst := mkI 222 ⟨[.g [.lf (.int .i64), .lf cE, .lf (.sl (.int .i64))]], []⟩ [⟨[vB], []⟩] fun k x => qed k x.1 x.2.1 x.2.2
def qlj (k : Nat) := ac (qjU k) a0
def qur (k : Nat) : LInst := mkL 0 [⟨[(1, .a (.ptr 0 0 0)), (9, .a (.lf cE)), (10, vI), (11, vI)], [(0, some (.raw [[.lf (.int .i64), .lf cE, .lf (.sl (.int .i64))]] 3 44 true false false))], 1⟩] [⟨none, ⟨[(2, vB)], [(0, some (.raw [[.lf (.int .i64), .lf cE, .lf (.sl (.int .i64))]] 3 44 true false false)), (1, some (.raw [[.lf (.int .i64), .lf (.int .i64)]] 2 25 true false false))], 2⟩⟩, ⟨some 0, ⟨[(1, .a (.ptr 0 0 0))], [(0, some (.raw [[.lf (.int .i64), .lf cE, .lf (.sl (.int .i64))]] 3 44 true false false))], 1⟩⟩] (fun n x => qbz k n x.1 x.2.1 x.2.2.1 x.2.2.2.1 x.2.2.2.2.1 x.2.2.2.2.2) k
theorem qmf (k : Nat) : LIo 222 Tryz.f222 0 k (qur k) :=
 lpk [] (qlj k) l0 (fun _ => rfl) (by kernel_rfl) fun n x => by kernel_rfl
def qus (k : Nat) : LInst := mkL 2 [⟨[(1, .a (.ptr 0 0 0)), (20, vJ), (21, vI), (22, vI)], [(0, some (.raw [[.lf (.int .i64), .lf cE, .lf (.sl (.int .i64))]] 3 44 true false false))], 1⟩] [⟨none, ⟨[(2, vB)], [(0, some (.raw [[.lf (.int .i64), .lf cE, .lf (.sl (.int .i64))]] 3 44 true false false))], 1⟩⟩, ⟨some 2, ⟨[(1, .a (.ptr 0 0 0))], [(0, some (.raw [[.lf (.int .i64), .lf cE, .lf (.sl (.int .i64))]] 3 44 true false false))], 1⟩⟩] (fun n x => qa7 k n x.1 x.2.1 x.2.2.1 x.2.2.2.1 x.2.2.2.2.1 x.2.2.2.2.2) k
theorem qpL (k : Nat) : LIo 222 Tryz.f222 0 k (qus k) :=
 lpk [] (qlj k) (lc (qmf k) l0) (fun _ => rfl) (by kernel_rfl) fun n x => by kernel_rfl
def qut (k : Nat) : LInst := mkL 5 [⟨[(1, .a (.ptr 0 0 0)), (7, vI)], [(0, some (.raw [[.lf (.int .i64), .lf cE, .lf (.sl (.int .i64))]] 3 44 true false false))], 1⟩] [⟨none, ⟨[(2, vB)], [(0, some (.raw [[.lf (.int .i64), .lf cE, .lf (.sl (.int .i64))]] 3 44 true false false))], 1⟩⟩, ⟨some 5, ⟨[(1, .a (.ptr 0 0 0))], [(0, some (.raw [[.lf (.int .i64), .lf cE, .lf (.sl (.int .i64))]] 3 44 true false false))], 1⟩⟩] (fun n x => qaF k n x.1 x.2.1 x.2.2.1 x.2.2.2) k
theorem quu (k : Nat) : LIo 222 Tryz.f222 0 k (qut k) :=
 lpk [] (qlj k) (lc (qmf k) (lc (qpL k) l0)) (fun _ => rfl) (by kernel_rfl) fun n x => by kernel_rfl
theorem qwJ : ∀ k, qh (call cf k) (qx6 k) :=
 fnk 0 [0, 2, 5] Tryz.func222 (fun k => (qlj k)) (fun k => (lc (qmf k) (lc (qpL k) (lc (quu k) l0)))) ⟨rfl, rfl, ⟨rfl, Nat.le_of_ble_eq_true rfl⟩, rfl⟩ (fun _ => rfl) (by kernel_rfl) fun k x => by kernel_rfl

def qgD (k : Nat) (m0 : ByteArray) (m1 : Int) (m2 : List (Int × Int)) (m3 : List (Int × Int)) : Option (Bool) :=
 if (((Array.toList (ByteArray.data m0)) == (Array.toList (ByteArray.data (ByteArray.mk (List.toArray []))))) = true) then
 if ((m1 == (0 : Int)) = true) then
 (some ((IntKind.wrap .i64 ((((List.length m2) : Nat) : Int) + (((List.length m3) : Nat) : Int))) == (0 : Int)))
 else
 (some false)
 else
 (some false)
def qD : Nat → ByteArray → Int → List (Int × Int) → List (Int × Int) → Option (Bool)
 | 0, _, _, _, _ => none
 | k + 1, m0, m1, m2, m3 => qgD k m0 m1 m2 m3
def qx7 : Nat → Inst := mkI 223 ⟨[.g [.lf .str, .lf (.int .u8), .lf cE, .lf cE]], []⟩ [⟨[vB], []⟩] fun k x => qD k x.1 x.2.1 x.2.2.1 x.2.2.2
theorem qwK : ∀ k, qh (call cf k) (qx7 k) :=
 fnk 0 [] Tryz.func223 (fun k => a0) (fun k => l0) ⟨rfl, rfl, ⟨rfl, Nat.le_of_ble_eq_true rfl⟩, rfl⟩ (fun _ => rfl) (by kernel_rfl) fun k x => by kernel_rfl

def qg2 (k : Nat) (w0 : Int) (w1 : List (Int × Int)) (w2 : List Int) : Option (Bool) :=
 if ((w0 == (0 : Int)) = true) then
 (some ((IntKind.wrap .i64 ((((List.length w1) : Nat) : Int) + (((List.length w2) : Nat) : Int))) == (0 : Int)))
 else
 (some false)
def qH : Nat → Int → List (Int × Int) → List Int → Option (Bool)
 | 0, _, _, _ => none
 | k + 1, w0, w1, w2 => qg2 k w0 w1 w2
def qx8 : Nat → Inst := mkI 224 ⟨[.g [.lf (.int .i64), .lf cE, .lf (.sl (.int .i64))]], []⟩ [⟨[vB], []⟩] fun k x => qH k x.1 x.2.1 x.2.2
theorem qwL : ∀ k, qh (call cf k) (qx8 k) :=
 fnk 0 [] Tryz.func224 (fun k => a0) (fun k => l0) ⟨rfl, rfl, ⟨rfl, Nat.le_of_ble_eq_true rfl⟩, rfl⟩ (fun _ => rfl) (by kernel_rfl) fun k x => by kernel_rfl

def qfg (k : Nat) (v : Int) : Option (Bool × List Int) :=
 if ((decide (v < (0 : Int))) = true) then
 Option.bind (qdt k (List.take 2 ((IntKind.wrap .u32 (IntKind.wrap .u64 ((0 : Int) - (IntKind.wrap .u64 v)))) :: ((IntKind.wrap .u32 (Int.fdiv (IntKind.wrap .u64 ((0 : Int) - (IntKind.wrap .u64 v))) (4294967296 : Int))) :: [])))) fun r11 =>
 (some ((decide (v < (0 : Int))), r11))
 else
 Option.bind (qdt k (List.take 2 ((IntKind.wrap .u32 (IntKind.wrap .u64 v)) :: ((IntKind.wrap .u32 (Int.fdiv (IntKind.wrap .u64 v) (4294967296 : Int))) :: [])))) fun r11 =>
 (some ((decide (v < (0 : Int))), r11))
def qb8 : Nat → Int → Option (Bool × List Int)
 | 0, _ => none
 | k + 1, v => qfg k v
def qx9 : Nat → Inst := mkI 87 ⟨[vI], []⟩ [⟨[.a (.ptr 0 0 0)], [.raw [[.lf .bool, .lf cW]] 2 147 true false false]⟩] fun k x => qb8 k x
theorem qot : ∀ k, qh (call cf k) (qx9 k) :=
 fnk 0 [] Tryz.func87 (fun k => (ac (qjT k) a0)) (fun k => l0) ⟨rfl, rfl, ⟨rfl, Nat.le_of_ble_eq_true rfl⟩, rfl⟩ (fun _ => rfl) (by kernel_rfl) fun k x => by kernel_rfl

def qfs (k : Nat) (neg : Bool) (w : List Int) (z0 : Bool) (z1 : List Int) : Option (Bool × List Int) :=
 Option.bind (qdt k w) fun r14 =>
 if (neg = true) then
 (some ((decide ((((List.length r14) : Nat) : Int) > (0 : Int))), r14))
 else
 (some (false, r14))
def qdV : Nat → Bool → List Int → Bool → List Int → Option (Bool × List Int)
 | 0, _, _, _, _ => none
 | k + 1, neg, w, z0, z1 => qfs k neg w z0 z1
def Iq9 : Nat → Inst := mkI 198 ⟨[.a (.ptr 0 0 0), vB, vT], [.raw [[.lf .bool, .lf cW]] 2 147 true false false]⟩ [⟨[.a (.ptr 0 0 0)], [.raw [[.lf .bool, .lf cW]] 2 147 true false false]⟩] fun k x => qdV k x.1 x.2.1 x.2.2.1 x.2.2.2
theorem qya : ∀ k, qh (call cf k) (Iq9 k) :=
 fnk 1 [] Tryz.func198 (fun k => (ac (qjT k) a0)) (fun k => l0) ⟨rfl, rfl, ⟨rfl, Nat.le_of_ble_eq_true rfl⟩, rfl⟩ (fun _ => rfl) (by kernel_rfl) fun k x => by kernel_rfl

def qek (k : Nat) (rec : Nat → Int → Int → Int → List Int → Int → Int → List Int → Int → Int → Bool → List Int → Bool → List Int → List Int → Option (Nat × Int × Int × List Int × Int × Int × Bool × List Int × Bool × List Int × List Int)) (out1 : Nat) (i : Int) (a : Int) (carry : Int) (x : List Int) (x1 : Int) (x2 : Int) (x3 : List Int) (x4 : Int) (x5 : Int) (x0 : Bool) (x11 : List Int) (y0 : Bool) (y1 : List Int) (outs : List Int) : Option (Nat × Int × Int × List Int × Int × Int × Bool × List Int × Bool × List Int × List Int) :=
 if ((decide (x5 < x4)) = true) then
 if ((0 : Int) ≤ x5) then
 Option.bind (x3)[(Int.toNat x5)]? fun x7 =>
 if (((0 : Int) ≤ (IntKind.wrap .i64 (i + x5))) ∧ ((IntKind.wrap .i64 (i + x5)) < ((out1 : Nat) : Int))) then
 Option.bind (outs)[(0 + (Int.toNat (IntKind.wrap .i64 (i + x5))))]? fun x8 =>
 if (((0 : Int) ≤ (IntKind.wrap .i64 (i + x5))) ∧ ((IntKind.wrap .i64 (i + x5)) < ((out1 : Nat) : Int))) then
 Option.bind (outs)[(0 + (Int.toNat (IntKind.wrap .i64 (i + x5))))]? fun x9 =>
 rec out1 i a (Int.fdiv (IntKind.wrap .u64 ((IntKind.wrap .u64 ((IntKind.wrap .u64 ((IntKind.wrap .u64 a) * (IntKind.wrap .u64 x7))) + (IntKind.wrap .u64 x8))) + carry)) (4294967296 : Int)) x x1 x2 x3 x4 (IntKind.wrap .i64 (x5 + (1 : Int))) x0 x11 y0 y1 (List.set outs (0 + (Int.toNat (IntKind.wrap .i64 (i + x5)))) (IntKind.wrap .u32 (IntKind.wrap .u64 ((IntKind.wrap .u64 ((IntKind.wrap .u64 ((IntKind.wrap .u64 a) * (IntKind.wrap .u64 x7))) + (IntKind.wrap .u64 x8))) + carry))))
 else
 none
 else
 none
 else
 none
 else
 (some (out1, i, carry, x, x1, x2, x0, x11, y0, y1, outs))
def qdu (k n : Nat) : Nat → Int → Int → Int → List Int → Int → Int → List Int → Int → Int → Bool → List Int → Bool → List Int → List Int → Option (Nat × Int × Int × List Int × Int × Int × Bool × List Int × Bool × List Int × List Int) := Nat.rec (fun _ _ _ _ _ _ _ _ _ _ _ _ _ _ _ => none) (fun _ r => qek k r) n
def qel (k : Nat) (rec : Nat → List Int → Int → Int → Bool → List Int → Bool → List Int → List Int → Option (Nat × Bool × List Int × Bool × List Int × List Int)) (out1 : Nat) (x : List Int) (x1 : Int) (x2 : Int) (x0 : Bool) (x11 : List Int) (y0 : Bool) (y1 : List Int) (outs : List Int) : Option (Nat × Bool × List Int × Bool × List Int × List Int) :=
 if ((decide (x2 < x1)) = true) then
 if ((0 : Int) ≤ x2) then
 Option.bind (x)[(Int.toNat x2)]? fun x6 =>
 Option.bind (qdu k k out1 x2 x6 (0 : Int) x x1 x2 y1 (((List.length y1) : Nat) : Int) (0 : Int) x0 x11 y0 y1 outs) fun r13 =>
 if (((0 : Int) ≤ (IntKind.wrap .i64 (r13.2.1 + (((List.length r13.2.2.2.2.2.2.2.2.2.1) : Nat) : Int)))) ∧ ((IntKind.wrap .i64 (r13.2.1 + (((List.length r13.2.2.2.2.2.2.2.2.2.1) : Nat) : Int))) < ((r13.1 : Nat) : Int))) then
 Option.bind (r13.2.2.2.2.2.2.2.2.2.2)[(0 + (Int.toNat (IntKind.wrap .i64 (r13.2.1 + (((List.length r13.2.2.2.2.2.2.2.2.2.1) : Nat) : Int)))))]? fun x7 =>
 rec r13.1 r13.2.2.2.1 r13.2.2.2.2.1 (IntKind.wrap .i64 (r13.2.2.2.2.2.1 + (1 : Int))) r13.2.2.2.2.2.2.1 r13.2.2.2.2.2.2.2.1 r13.2.2.2.2.2.2.2.2.1 r13.2.2.2.2.2.2.2.2.2.1 (List.set r13.2.2.2.2.2.2.2.2.2.2 (0 + (Int.toNat (IntKind.wrap .i64 (r13.2.1 + (((List.length r13.2.2.2.2.2.2.2.2.2.1) : Nat) : Int))))) (IntKind.wrap .u32 r13.2.2.1))
 else
 none
 else
 none
 else
 (some (out1, x0, x11, y0, y1, outs))
def qcD (k n : Nat) : Nat → List Int → Int → Int → Bool → List Int → Bool → List Int → List Int → Option (Nat × Bool × List Int × Bool × List Int × List Int) := Nat.rec (fun _ _ _ _ _ _ _ _ _ => none) (fun _ r => qel k r) n
def qft (k : Nat) (x0 : Bool) (x1 : List Int) (y0 : Bool) (y1 : List Int) : Option (Bool × List Int × Bool × List Int) :=
 if (((0 : Int) ≤ (IntKind.wrap .i64 ((((List.length x1) : Nat) : Int) + (((List.length y1) : Nat) : Int)))) ∧ (((IntKind.wrap .i64 ((((List.length x1) : Nat) : Int) + (((List.length y1) : Nat) : Int))) ≤ (IntKind.wrap .i64 ((((List.length x1) : Nat) : Int) + (((List.length y1) : Nat) : Int)))) ∧ (((IntKind.wrap .i64 ((((List.length x1) : Nat) : Int) + (((List.length y1) : Nat) : Int))) * (4 : Int)) ≤ (140737488355328 : Int)))) then
 Option.bind (qcD k k (Int.toNat (IntKind.wrap .i64 ((((List.length x1) : Nat) : Int) + (((List.length y1) : Nat) : Int)))) x1 (((List.length x1) : Nat) : Int) (0 : Int) x0 x1 y0 y1 (List.replicate (Int.toNat (IntKind.wrap .i64 ((((List.length x1) : Nat) : Int) + (((List.length y1) : Nat) : Int)))) (0 : Int))) fun r13 =>
 if ((0 + r13.1) ≤ (List.length r13.2.2.2.2.2)) then
 Option.bind (qdV k (!(r13.2.1 == r13.2.2.2.1)) (List.take r13.1 r13.2.2.2.2.2) r13.2.1 r13.2.2.1) fun r14 =>
 (some (r14.1, r14.2, r13.2.2.2.1, r13.2.2.2.2.1))
 else
 none
 else
 none
def qdc : Nat → Bool → List Int → Bool → List Int → Option (Bool × List Int × Bool × List Int)
 | 0, _, _, _, _ => none
 | k + 1, x0, x1, y0, y1 => qft k x0 x1 y0 y1
def Iq4 : Nat → Inst := mkI 155 ⟨[.a (.ptr 0 0 0), .a (.ptr 0 0 0), .a (.ptr 1 0 0)], [.raw [[.lf .bool, .lf cW]] 2 147 true false false, .raw [[.lf .bool, .lf cW]] 2 147 true false false]⟩ [⟨[.a (.ptr 0 0 0)], [.raw [[.lf .bool, .lf cW]] 2 147 true false false, .raw [[.lf .bool, .lf cW]] 2 147 true false false]⟩] fun k x => qdc k x.1 x.2.1 x.2.2.1 x.2.2.2
def qrq (k : Nat) := ac (qya k) a0
def qwM (k : Nat) : LInst := mkL 2 [⟨[(0, .a (.ptr 0 0 0)), (1, .a (.ptr 0 0 0)), (2, .a (.ptr 1 0 0)), (7, .a (.smz 2)), (8, vI), (9, .a (.lf (.int .u32))), (10, vU), (29, vT), (30, vI), (31, vI), (39, vT), (40, vI), (41, vI)], [(0, some (.raw [[.lf .bool, .lf cW]] 2 147 true false false)), (1, some (.raw [[.lf .bool, .lf cW]] 2 147 true false false)), (2, some (.arr (.int .u32) 1 106 false))], 3⟩] [⟨some 2, ⟨[(0, .a (.ptr 0 0 0)), (1, .a (.ptr 0 0 0)), (2, .a (.ptr 1 0 0)), (7, .a (.smz 2)), (8, vI), (10, vU), (29, vT), (30, vI), (31, vI)], [(0, some (.raw [[.lf .bool, .lf cW]] 2 147 true false false)), (1, some (.raw [[.lf .bool, .lf cW]] 2 147 true false false)), (2, some (.arr (.int .u32) 1 106 false))], 3⟩⟩] (fun n x => qdu k n x.1 x.2.1 x.2.2.1 x.2.2.2.1 x.2.2.2.2.1 x.2.2.2.2.2.1 x.2.2.2.2.2.2.1 x.2.2.2.2.2.2.2.1 x.2.2.2.2.2.2.2.2.1 x.2.2.2.2.2.2.2.2.2.1 x.2.2.2.2.2.2.2.2.2.2.1 x.2.2.2.2.2.2.2.2.2.2.2.1 x.2.2.2.2.2.2.2.2.2.2.2.2.1 x.2.2.2.2.2.2.2.2.2.2.2.2.2.1 x.2.2.2.2.2.2.2.2.2.2.2.2.2.2) k
theorem qsb (k : Nat) : LIo 155 Tryz.f155 2 k (qwM k) :=
 lpk [] (qrq k) l0 (fun _ => rfl) (by kernel_rfl) fun n x => by kernel_rfl
def qwN (k : Nat) : LInst := mkL 0 [⟨[(0, .a (.ptr 0 0 0)), (1, .a (.ptr 0 0 0)), (2, .a (.ptr 1 0 0)), (7, .a (.smz 2)), (29, vT), (30, vI), (31, vI)], [(0, some (.raw [[.lf .bool, .lf cW]] 2 147 true false false)), (1, some (.raw [[.lf .bool, .lf cW]] 2 147 true false false)), (2, some (.arr (.int .u32) 1 106 false))], 3⟩] [⟨some 0, ⟨[(0, .a (.ptr 0 0 0)), (1, .a (.ptr 0 0 0)), (2, .a (.ptr 1 0 0)), (7, .a (.smz 2))], [(0, some (.raw [[.lf .bool, .lf cW]] 2 147 true false false)), (1, some (.raw [[.lf .bool, .lf cW]] 2 147 true false false)), (2, some (.arr (.int .u32) 1 106 false))], 3⟩⟩] (fun n x => qcD k n x.1 x.2.1 x.2.2.1 x.2.2.2.1 x.2.2.2.2.1 x.2.2.2.2.2.1 x.2.2.2.2.2.2.1 x.2.2.2.2.2.2.2.1 x.2.2.2.2.2.2.2.2) k
theorem qwO (k : Nat) : LIo 155 Tryz.f155 2 k (qwN k) :=
 lpk [2] (qrq k) (lc (qsb k) l0) (fun _ => rfl) (by kernel_rfl) fun n x => by kernel_rfl
theorem quv : ∀ k, qh (call cf k) (Iq4 k) :=
 fnk 2 [0] Tryz.func155 (fun k => (qrq k)) (fun k => (lc (qsb k) (lc (qwO k) l0))) ⟨rfl, rfl, ⟨rfl, Nat.le_of_ble_eq_true rfl⟩, rfl⟩ (fun _ => rfl) (by kernel_rfl) fun k x => by kernel_rfl

def qfh (k : Nat) (rec : Int → Int → Bool → List Int → Bool → List Int → Option (Bool × List Int × Bool × List Int)) (x : Int) (x1 : Int) (z0 : Bool) (z1 : List Int) (ten0 : Bool) (ten1 : List Int) : Option (Bool × List Int × Bool × List Int) :=
 if ((decide (x1 < x)) = true) then
 Option.bind (qdc k z0 z1 ten0 ten1) fun r13 =>
 rec x (IntKind.wrap .i64 (x1 + (1 : Int))) r13.1 r13.2.1 r13.2.2.1 r13.2.2.2
 else
 (some (z0, z1, ten0, ten1))
def qdW (k n : Nat) : Int → Int → Bool → List Int → Bool → List Int → Option (Bool × List Int × Bool × List Int) := Nat.rec (fun _ _ _ _ _ _ => none) (fun _ r => qfh k r) n
def qrr (k : Nat) (k1 : Int) : Option (Bool × List Int) :=
 Option.bind (qb8 k (1 : Int)) fun r11 =>
 Option.bind (qb8 k (10 : Int)) fun r12 =>
 Option.bind (qdW k k k1 (0 : Int) r11.1 r11.2 r12.1 r12.2) fun r13 =>
 (some (r13.1, r13.2.1))
def qh1 : Nat → Int → Option (Bool × List Int)
 | 0, _ => none
 | k + 1, k1 => qrr k k1
def qyb : Nat → Inst := mkI 234 ⟨[vI], []⟩ [⟨[.a (.ptr 0 0 0)], [.raw [[.lf .bool, .lf cW]] 2 147 true false false]⟩] fun k x => qh1 k x
def qsc (k : Nat) := ac (qot k) (ac (quv k) a0)
def qwP (k : Nat) : LInst := mkL 0 [⟨[(3, .a (.ptr 0 0 0)), (4, .a (.ptr 1 0 0)), (7, vI), (8, vI)], [(0, some (.raw [[.lf .bool, .lf cW]] 2 147 true false false)), (1, some (.raw [[.lf .bool, .lf cW]] 2 147 true false false))], 2⟩] [⟨some 0, ⟨[(3, .a (.ptr 0 0 0))], [(0, some (.raw [[.lf .bool, .lf cW]] 2 147 true false false)), (1, some (.raw [[.lf .bool, .lf cW]] 2 147 true false false))], 2⟩⟩] (fun n x => qdW k n x.1 x.2.1 x.2.2.1 x.2.2.2.1 x.2.2.2.2.1 x.2.2.2.2.2) k
theorem qwQ (k : Nat) : LIo 234 Tryz.f234 0 k (qwP k) :=
 lpk [] (qsc k) l0 (fun _ => rfl) (by kernel_rfl) fun n x => by kernel_rfl
theorem qwR : ∀ k, qh (call cf k) (qyb k) :=
 fnk 0 [0] Tryz.func234 (fun k => (qsc k)) (fun k => (lc (qwQ k) l0)) ⟨rfl, rfl, ⟨rfl, Nat.le_of_ble_eq_true rfl⟩, rfl⟩ (fun _ => rfl) (by kernel_rfl) fun k x => by kernel_rfl

def qcB (k : Nat) (rec : List Int → List Int → Int → Option ((Int) ⊕ (Unit))) (a : List Int) (b : List Int) (i : Int) : Option ((Int) ⊕ (Unit)) :=
 if ((decide (i ≥ (0 : Int))) = true) then
 if ((0 : Int) ≤ i) then
 Option.bind (a)[(Int.toNat i)]? fun x6 =>
 if ((0 : Int) ≤ i) then
 Option.bind (b)[(Int.toNat i)]? fun x7 =>
 if ((x6 != x7) = true) then
 if ((0 : Int) ≤ i) then
 Option.bind (a)[(Int.toNat i)]? fun x8 =>
 if ((0 : Int) ≤ i) then
 Option.bind (b)[(Int.toNat i)]? fun x9 =>
 if ((decide (x8 < x9)) = true) then
 (some (Sum.inl (-(1 : Int))))
 else
 (some (Sum.inl (1 : Int)))
 else
 none
 else
 none
 else
 rec a b (IntKind.wrap .i64 (i - (1 : Int)))
 else
 none
 else
 none
 else
 (some (Sum.inr ()))
def qdX (k n : Nat) : List Int → List Int → Int → Option ((Int) ⊕ (Unit)) := Nat.rec (fun _ _ _ => none) (fun _ r => qcB k r) n
def qje (k : Nat) (a : List Int) (b : List Int) : Option (Int) :=
 if (((((List.length a) : Nat) : Int) != (((List.length b) : Nat) : Int)) = true) then
 if ((decide ((((List.length a) : Nat) : Int) < (((List.length b) : Nat) : Int))) = true) then
 (some (-(1 : Int)))
 else
 (some (1 : Int))
 else
 Option.bind (qdX k k a b (IntKind.wrap .i64 ((((List.length a) : Nat) : Int) - (1 : Int)))) fun r13 =>
 qc r13
 (fun r13 =>
 (some r13))
 (fun r13 =>
 (some (0 : Int)))
def qh2 : Nat → List Int → List Int → Option (Int)
 | 0, _, _ => none
 | k + 1, a, b => qje k a b
def qyc : Nat → Inst := mkI 200 ⟨[vT, vT], []⟩ [⟨[vI], []⟩] fun k x => qh2 k x.1 x.2
def quw (k : Nat) : LInst := mkL 0 [⟨[(0, vT), (1, vT), (5, vI)], [], 0⟩] [⟨none, ⟨[(4, vI)], [], 0⟩⟩, ⟨some 0, ⟨[], [], 0⟩⟩] (fun n x => qdX k n x.1 x.2.1 x.2.2) k
theorem qux (k : Nat) : LIo 200 Tryz.f200 0 k (quw k) :=
 lpk [] a0 l0 (fun _ => rfl) (by kernel_rfl) fun n x => by kernel_rfl
theorem qsd : ∀ k, qh (call cf k) (qyc k) :=
 fnk 0 [0] Tryz.func200 (fun k => a0) (fun k => (lc (qux k) l0)) ⟨rfl, rfl, ⟨rfl, Nat.le_of_ble_eq_true rfl⟩, rfl⟩ (fun _ => rfl) (by kernel_rfl) fun k x => by kernel_rfl

def qd8 (k : Nat) (rec : List Int → Int → Nat → Int → Int → List Int → Option (Nat × Int × List Int)) (a : List Int) (d : Int) (q : Nat) (r : Int) (i : Int) (qs : List Int) : Option (Nat × Int × List Int) :=
 if ((decide (i ≥ (0 : Int))) = true) then
 if ((0 : Int) ≤ i) then
 Option.bind (a)[(Int.toNat i)]? fun x7 =>
 if ((IntKind.wrap .u64 d) = (0 : Int)) then
 none
 else
 if (((0 : Int) ≤ i) ∧ (i < ((q : Nat) : Int))) then
 Option.bind (qs)[(0 + (Int.toNat i))]? fun x8 =>
 if ((IntKind.wrap .u64 d) = (0 : Int)) then
 none
 else
 rec a d q (Int.tmod (IntKind.wrap .u64 (((BitVec.toNat ((BitVec.ofInt 64 (IntKind.wrap .u64 (r * (4294967296 : Int)))) ||| (BitVec.ofInt 64 (IntKind.wrap .u64 x7)))) : Nat) : Int)) (IntKind.wrap .u64 d)) (IntKind.wrap .i64 (i - (1 : Int))) (List.set qs (0 + (Int.toNat i)) (IntKind.wrap .u32 (IntKind.wrap .u64 (Int.tdiv (IntKind.wrap .u64 (((BitVec.toNat ((BitVec.ofInt 64 (IntKind.wrap .u64 (r * (4294967296 : Int)))) ||| (BitVec.ofInt 64 (IntKind.wrap .u64 x7)))) : Nat) : Int)) (IntKind.wrap .u64 d)))))
 else
 none
 else
 none
 else
 (some (q, r, qs))
def qdL (k n : Nat) : List Int → Int → Nat → Int → Int → List Int → Option (Nat × Int × List Int) := Nat.rec (fun _ _ _ _ _ _ => none) (fun _ r => qd8 k r) n
def qh3 (k : Nat) (a : List Int) (d : Int) : Option (List Int × Int) :=
 if (((0 : Int) ≤ (((List.length a) : Nat) : Int)) ∧ (((((List.length a) : Nat) : Int) ≤ (((List.length a) : Nat) : Int)) ∧ (((((List.length a) : Nat) : Int) * (4 : Int)) ≤ (140737488355328 : Int)))) then
 Option.bind (qdL k k a d (Int.toNat (((List.length a) : Nat) : Int)) (0 : Int) (IntKind.wrap .i64 ((((List.length a) : Nat) : Int) - (1 : Int))) (List.replicate (Int.toNat (((List.length a) : Nat) : Int)) (0 : Int))) fun r14 =>
 if ((0 + r14.1) ≤ (List.length r14.2.2)) then
 (some ((List.take r14.1 r14.2.2), (IntKind.wrap .u32 r14.2.1)))
 else
 none
 else
 none
def qh4 : Nat → List Int → Int → Option (List Int × Int)
 | 0, _, _ => none
 | k + 1, a, d => qh3 k a d
def qyd : Nat → Inst := mkI 241 ⟨[vT, .a (.lf (.int .u32))], []⟩ [⟨[vT, .a (.lf (.int .u32))], []⟩] fun k x => qh4 k x.1 x.2
def quy (k : Nat) : LInst := mkL 0 [⟨[(0, vT), (1, .a (.lf (.int .u32))), (6, .a (.smz 0)), (7, vU), (8, vI)], [(0, some (.arr (.int .u32) 1 106 false))], 1⟩] [⟨some 0, ⟨[(6, .a (.smz 0)), (7, vU)], [(0, some (.arr (.int .u32) 1 106 false))], 1⟩⟩] (fun n x => qdL k n x.1 x.2.1 x.2.2.1 x.2.2.2.1 x.2.2.2.2.1 x.2.2.2.2.2) k
theorem quz (k : Nat) : LIo 241 Tryz.f241 0 k (quy k) :=
 lpk [] a0 l0 (fun _ => rfl) (by kernel_rfl) fun n x => by kernel_rfl
theorem qwS : ∀ k, qh (call cf k) (qyd k) :=
 fnk 0 [0] Tryz.func241 (fun k => a0) (fun k => (lc (quz k) l0)) ⟨rfl, rfl, ⟨rfl, Nat.le_of_ble_eq_true rfl⟩, rfl⟩ (fun _ => rfl) (by kernel_rfl) fun k x => by kernel_rfl

def qd9 (k : Nat) (rec : Int → Nat → List Int → Int → Int → List Int → Option (Nat × List Int)) (bits : Int) (out1 : Nat) (x : List Int) (x1 : Int) (x2 : Int) (outs : List Int) : Option (Nat × List Int) :=
 if ((decide (x2 < x1)) = true) then
 if ((0 : Int) ≤ x2) then
 Option.bind (x)[(Int.toNat x2)]? fun x6 =>
 if (bits < (0 : Int)) then
 none
 else
 if (((0 : Int) ≤ x2) ∧ (x2 < ((out1 : Nat) : Int))) then
 Option.bind (outs)[(0 + (Int.toNat x2))]? fun x7 =>
 if (((0 : Int) ≤ x2) ∧ (x2 < ((out1 : Nat) : Int))) then
 Option.bind (outs)[(0 + (Int.toNat x2))]? fun x8 =>
 if (((0 : Int) ≤ (IntKind.wrap .i64 (x2 + (1 : Int)))) ∧ ((IntKind.wrap .i64 (x2 + (1 : Int))) < ((out1 : Nat) : Int))) then
 Option.bind ((List.set outs (0 + (Int.toNat x2)) (IntKind.wrap .u32 (((BitVec.toNat ((BitVec.ofInt 32 x7) ||| (BitVec.ofInt 32 (IntKind.wrap .u32 (IntKind.wrap .u64 ((IntKind.wrap .u64 x6) * ((2 : Int) ^ (min (Int.toNat bits) 64)))))))) : Nat) : Int))))[(0 + (Int.toNat (IntKind.wrap .i64 (x2 + (1 : Int)))))]? fun x9 =>
 rec bits out1 x x1 (IntKind.wrap .i64 (x2 + (1 : Int))) (List.set (List.set outs (0 + (Int.toNat x2)) (IntKind.wrap .u32 (((BitVec.toNat ((BitVec.ofInt 32 x7) ||| (BitVec.ofInt 32 (IntKind.wrap .u32 (IntKind.wrap .u64 ((IntKind.wrap .u64 x6) * ((2 : Int) ^ (min (Int.toNat bits) 64)))))))) : Nat) : Int))) (0 + (Int.toNat (IntKind.wrap .i64 (x2 + (1 : Int))))) (IntKind.wrap .u32 (Int.fdiv (IntKind.wrap .u64 ((IntKind.wrap .u64 x6) * ((2 : Int) ^ (min (Int.toNat bits) 64)))) (4294967296 : Int))))
 else
 none
 else
 none
 else
 none
 else
 none
 else
 (some (out1, outs))
def qdM (k n : Nat) : Int → Nat → List Int → Int → Int → List Int → Option (Nat × List Int) := Nat.rec (fun _ _ _ _ _ _ => none) (fun _ r => qd9 k r) n
def qh5 (k : Nat) (a : List Int) (bits : Int) : Option (Nat × List Int) :=
 if (((0 : Int) ≤ (IntKind.wrap .i64 ((((List.length a) : Nat) : Int) + (1 : Int)))) ∧ (((IntKind.wrap .i64 ((((List.length a) : Nat) : Int) + (1 : Int))) ≤ (IntKind.wrap .i64 ((((List.length a) : Nat) : Int) + (1 : Int)))) ∧ (((IntKind.wrap .i64 ((((List.length a) : Nat) : Int) + (1 : Int))) * (4 : Int)) ≤ (140737488355328 : Int)))) then
 Option.bind (qdM k k bits (Int.toNat (IntKind.wrap .i64 ((((List.length a) : Nat) : Int) + (1 : Int)))) a (((List.length a) : Nat) : Int) (0 : Int) (List.replicate (Int.toNat (IntKind.wrap .i64 ((((List.length a) : Nat) : Int) + (1 : Int)))) (0 : Int))) fun r15 =>
 (some (r15.1, r15.2))
 else
 none
def qf2 : Nat → List Int → Int → Option (Nat × List Int)
 | 0, _, _ => none
 | k + 1, a, bits => qh5 k a bits
def qye : Nat → Inst := mkI 247 ⟨[vT, vU], []⟩ [⟨[.a (.smz 0)], [.arr (.int .u32) 1 106 false]⟩] fun k x => qf2 k x.1 x.2
def quA (k : Nat) : LInst := mkL 0 [⟨[(1, vU), (5, .a (.smz 0)), (13, vT), (14, vI), (15, vI)], [(0, some (.arr (.int .u32) 1 106 false))], 1⟩] [⟨some 0, ⟨[(5, .a (.smz 0))], [(0, some (.arr (.int .u32) 1 106 false))], 1⟩⟩] (fun n x => qdM k n x.1 x.2.1 x.2.2.1 x.2.2.2.1 x.2.2.2.2.1 x.2.2.2.2.2) k
theorem quB (k : Nat) : LIo 247 Tryz.f247 0 k (quA k) :=
 lpk [] a0 l0 (fun _ => rfl) (by kernel_rfl) fun n x => by kernel_rfl
theorem qwT : ∀ k, qh (call cf k) (qye k) :=
 fnk 0 [0] Tryz.func247 (fun k => a0) (fun k => (lc (quB k) l0)) ⟨rfl, rfl, ⟨rfl, Nat.le_of_ble_eq_true rfl⟩, rfl⟩ (fun _ => rfl) (by kernel_rfl) fun k x => by kernel_rfl

def qac (k : Nat) (rec : Nat → Nat → Nat → Int → Int → Int → Int → Int → List Int → List Int → Option (Nat × Nat × Nat × Int × Int × List Int × List Int)) (u0 : Nat) (u1 : Nat) (v : Nat) (d : Int) (carry : Int) (borrow : Int) (x : Int) (x1 : Int) (us : List Int) (vs : List Int) : Option (Nat × Nat × Nat × Int × Int × List Int × List Int) :=
 if ((decide (x1 < x)) = true) then
 if ((decide (x1 < ((v : Nat) : Int))) = true) then
 if (((0 : Int) ≤ x1) ∧ (x1 < ((v : Nat) : Int))) then
 Option.bind (vs)[(0 + (Int.toNat x1))]? fun x10 =>
 if (((0 : Int) ≤ x1) ∧ (x1 < ((u1 : Nat) : Int))) then
 Option.bind (us)[(u0 + (Int.toNat x1))]? fun x11 =>
 if ((decide ((IntKind.wrap .u64 x11) < (IntKind.wrap .u64 ((IntKind.wrap .u64 (((BitVec.toNat ((BitVec.ofInt 64 (IntKind.wrap .u64 (carry + (IntKind.wrap .u64 (d * (IntKind.wrap .u64 x10)))))) &&& (BitVec.ofInt 64 (4294967295 : Int)))) : Nat) : Int)) + borrow)))) = true) then
 if (((0 : Int) ≤ x1) ∧ (x1 < ((u1 : Nat) : Int))) then
 Option.bind (us)[(u0 + (Int.toNat x1))]? fun x12 =>
 if (((0 : Int) ≤ x1) ∧ (x1 < ((u1 : Nat) : Int))) then
 Option.bind (us)[(u0 + (Int.toNat x1))]? fun x13 =>
 rec u0 u1 v d (Int.fdiv (IntKind.wrap .u64 (carry + (IntKind.wrap .u64 (d * (IntKind.wrap .u64 x10))))) (4294967296 : Int)) (1 : Int) x (IntKind.wrap .i64 (x1 + (1 : Int))) (List.set us (u0 + (Int.toNat x1)) (IntKind.wrap .u32 (IntKind.wrap .u64 ((IntKind.wrap .u64 x12) - (IntKind.wrap .u64 ((IntKind.wrap .u64 (((BitVec.toNat ((BitVec.ofInt 64 (IntKind.wrap .u64 (carry + (IntKind.wrap .u64 (d * (IntKind.wrap .u64 x10)))))) &&& (BitVec.ofInt 64 (4294967295 : Int)))) : Nat) : Int)) + borrow)))))) vs
 else
 none
 else
 none
 else
 if (((0 : Int) ≤ x1) ∧ (x1 < ((u1 : Nat) : Int))) then
 Option.bind (us)[(u0 + (Int.toNat x1))]? fun x12 =>
 if (((0 : Int) ≤ x1) ∧ (x1 < ((u1 : Nat) : Int))) then
 Option.bind (us)[(u0 + (Int.toNat x1))]? fun x13 =>
 rec u0 u1 v d (Int.fdiv (IntKind.wrap .u64 (carry + (IntKind.wrap .u64 (d * (IntKind.wrap .u64 x10))))) (4294967296 : Int)) (0 : Int) x (IntKind.wrap .i64 (x1 + (1 : Int))) (List.set us (u0 + (Int.toNat x1)) (IntKind.wrap .u32 (IntKind.wrap .u64 ((IntKind.wrap .u64 x12) - (IntKind.wrap .u64 ((IntKind.wrap .u64 (((BitVec.toNat ((BitVec.ofInt 64 (IntKind.wrap .u64 (carry + (IntKind.wrap .u64 (d * (IntKind.wrap .u64 x10)))))) &&& (BitVec.ofInt 64 (4294967295 : Int)))) : Nat) : Int)) + borrow)))))) vs
 else
 none
 else
 none
 else
 none
 else
 none
 else
 if (((0 : Int) ≤ x1) ∧ (x1 < ((u1 : Nat) : Int))) then
 Option.bind (us)[(u0 + (Int.toNat x1))]? fun x10 =>
 if ((decide ((IntKind.wrap .u64 x10) < (IntKind.wrap .u64 ((IntKind.wrap .u64 (((BitVec.toNat ((BitVec.ofInt 64 carry) &&& (BitVec.ofInt 64 (4294967295 : Int)))) : Nat) : Int)) + borrow)))) = true) then
 if (((0 : Int) ≤ x1) ∧ (x1 < ((u1 : Nat) : Int))) then
 Option.bind (us)[(u0 + (Int.toNat x1))]? fun x11 =>
 if (((0 : Int) ≤ x1) ∧ (x1 < ((u1 : Nat) : Int))) then
 Option.bind (us)[(u0 + (Int.toNat x1))]? fun x12 =>
 rec u0 u1 v d (Int.fdiv carry (4294967296 : Int)) (1 : Int) x (IntKind.wrap .i64 (x1 + (1 : Int))) (List.set us (u0 + (Int.toNat x1)) (IntKind.wrap .u32 (IntKind.wrap .u64 ((IntKind.wrap .u64 x11) - (IntKind.wrap .u64 ((IntKind.wrap .u64 (((BitVec.toNat ((BitVec.ofInt 64 carry) &&& (BitVec.ofInt 64 (4294967295 : Int)))) : Nat) : Int)) + borrow)))))) vs
 else
 none
 else
 none
 else
 if (((0 : Int) ≤ x1) ∧ (x1 < ((u1 : Nat) : Int))) then
 Option.bind (us)[(u0 + (Int.toNat x1))]? fun x11 =>
 if (((0 : Int) ≤ x1) ∧ (x1 < ((u1 : Nat) : Int))) then
 Option.bind (us)[(u0 + (Int.toNat x1))]? fun x12 =>
 rec u0 u1 v d (Int.fdiv carry (4294967296 : Int)) (0 : Int) x (IntKind.wrap .i64 (x1 + (1 : Int))) (List.set us (u0 + (Int.toNat x1)) (IntKind.wrap .u32 (IntKind.wrap .u64 ((IntKind.wrap .u64 x11) - (IntKind.wrap .u64 ((IntKind.wrap .u64 (((BitVec.toNat ((BitVec.ofInt 64 carry) &&& (BitVec.ofInt 64 (4294967295 : Int)))) : Nat) : Int)) + borrow)))))) vs
 else
 none
 else
 none
 else
 none
 else
 (some (u0, u1, v, d, borrow, us, vs))
def qaL (k n : Nat) : Nat → Nat → Nat → Int → Int → Int → Int → Int → List Int → List Int → Option (Nat × Nat × Nat × Int × Int × List Int × List Int) := Nat.rec (fun _ _ _ _ _ _ _ _ _ _ => none) (fun _ r => qac k r) n
def qbX (k : Nat) (rec : Nat → Nat → Nat → Int → Int → Int → Int → List Int → List Int → Option (Int × List Int × List Int)) (u0 : Nat) (u1 : Nat) (v : Nat) (d : Int) (carry : Int) (x : Int) (x1 : Int) (us : List Int) (vs : List Int) : Option (Int × List Int × List Int) :=
 if ((decide (x1 < x)) = true) then
 if (((0 : Int) ≤ x1) ∧ (x1 < ((u1 : Nat) : Int))) then
 Option.bind (us)[(u0 + (Int.toNat x1))]? fun x10 =>
 if ((decide (x1 < ((v : Nat) : Int))) = true) then
 if (((0 : Int) ≤ x1) ∧ (x1 < ((v : Nat) : Int))) then
 Option.bind (vs)[(0 + (Int.toNat x1))]? fun x11 =>
 if (((0 : Int) ≤ x1) ∧ (x1 < ((u1 : Nat) : Int))) then
 Option.bind (us)[(u0 + (Int.toNat x1))]? fun x12 =>
 rec u0 u1 v d (Int.fdiv (IntKind.wrap .u64 ((IntKind.wrap .u64 ((IntKind.wrap .u64 x10) + carry)) + (IntKind.wrap .u64 x11))) (4294967296 : Int)) x (IntKind.wrap .i64 (x1 + (1 : Int))) (List.set us (u0 + (Int.toNat x1)) (IntKind.wrap .u32 (IntKind.wrap .u64 ((IntKind.wrap .u64 ((IntKind.wrap .u64 x10) + carry)) + (IntKind.wrap .u64 x11))))) vs
 else
 none
 else
 none
 else
 if (((0 : Int) ≤ x1) ∧ (x1 < ((u1 : Nat) : Int))) then
 Option.bind (us)[(u0 + (Int.toNat x1))]? fun x11 =>
 rec u0 u1 v d (Int.fdiv (IntKind.wrap .u64 ((IntKind.wrap .u64 x10) + carry)) (4294967296 : Int)) x (IntKind.wrap .i64 (x1 + (1 : Int))) (List.set us (u0 + (Int.toNat x1)) (IntKind.wrap .u32 (IntKind.wrap .u64 ((IntKind.wrap .u64 x10) + carry)))) vs
 else
 none
 else
 none
 else
 (some (d, us, vs))
def qbM (k n : Nat) : Nat → Nat → Nat → Int → Int → Int → Int → List Int → List Int → Option (Int × List Int × List Int) := Nat.rec (fun _ _ _ _ _ _ _ _ _ => none) (fun _ r => qbX k r) n
def qfn (k : Nat) (u0 : Nat) (u1 : Nat) (v : Nat) (d : Int) (us : List Int) (vs : List Int) : Option (Int × List Int × List Int) :=
 Option.bind (qaL k k u0 u1 v d (0 : Int) (0 : Int) ((u1 : Nat) : Int) (0 : Int) us vs) fun r18 =>
 if ((r18.2.2.2.2.1 == (0 : Int)) = true) then
 (some ((IntKind.wrap .u32 r18.2.2.2.1), r18.2.2.2.2.2.1, r18.2.2.2.2.2.2))
 else
 Option.bind (qbM k k r18.1 r18.2.1 r18.2.2.1 r18.2.2.2.1 (0 : Int) ((r18.2.1 : Nat) : Int) (0 : Int) r18.2.2.2.2.2.1 r18.2.2.2.2.2.2) fun r19 =>
 (some ((IntKind.wrap .u32 (IntKind.wrap .u64 (r19.1 - (1 : Int)))), r19.2.1, r19.2.2))
def qfo : Nat → Nat → Nat → Nat → Int → List Int → List Int → Option (Int × List Int × List Int)
 | 0, _, _, _, _, _, _ => none
 | k + 1, u0, u1, v, d, us, vs => qfn k u0 u1 v d us vs
def qyf : Nat → Inst := mkI 248 ⟨[.a (.sms 0), .a (.smz 1), vU], [.arr (.int .u32) 1 106 false, .arr (.int .u32) 1 106 false]⟩ [⟨[.a (.lf (.int .u32))], [.arr (.int .u32) 1 106 false, .arr (.int .u32) 1 106 false]⟩] fun k x => qfo k x.1 x.2.1 x.2.2.1 x.2.2.2.1 x.2.2.2.2.1 x.2.2.2.2.2
def quC (k : Nat) : LInst := mkL 0 [⟨[(0, .a (.sms 0)), (1, .a (.smz 1)), (2, vU), (7, vU), (8, vU), (14, vI), (15, vI)], [(0, some (.arr (.int .u32) 1 106 false)), (1, some (.arr (.int .u32) 1 106 false))], 2⟩] [⟨some 0, ⟨[(0, .a (.sms 0)), (1, .a (.smz 1)), (2, vU), (8, vU)], [(0, some (.arr (.int .u32) 1 106 false)), (1, some (.arr (.int .u32) 1 106 false))], 2⟩⟩] (fun n x => qaL k n x.1 x.2.1 x.2.2.1 x.2.2.2.1 x.2.2.2.2.1 x.2.2.2.2.2.1 x.2.2.2.2.2.2.1 x.2.2.2.2.2.2.2.1 x.2.2.2.2.2.2.2.2.1 x.2.2.2.2.2.2.2.2.2) k
theorem qpM (k : Nat) : LIo 248 Tryz.f248 2 k (quC k) :=
 lpk [] a0 l0 (fun _ => rfl) (by kernel_rfl) fun n x => by kernel_rfl
def quD (k : Nat) : LInst := mkL 2 [⟨[(0, .a (.sms 0)), (1, .a (.smz 1)), (2, vU), (7, vU), (61, vI), (62, vI)], [(0, some (.arr (.int .u32) 1 106 false)), (1, some (.arr (.int .u32) 1 106 false))], 2⟩] [⟨some 2, ⟨[(2, vU)], [(0, some (.arr (.int .u32) 1 106 false)), (1, some (.arr (.int .u32) 1 106 false))], 2⟩⟩] (fun n x => qbM k n x.1 x.2.1 x.2.2.1 x.2.2.2.1 x.2.2.2.2.1 x.2.2.2.2.2.1 x.2.2.2.2.2.2.1 x.2.2.2.2.2.2.2.1 x.2.2.2.2.2.2.2.2) k
theorem quE (k : Nat) : LIo 248 Tryz.f248 2 k (quD k) :=
 lpk [] a0 (lc (qpM k) l0) (fun _ => rfl) (by kernel_rfl) fun n x => by kernel_rfl
theorem qwU : ∀ k, qh (call cf k) (qyf k) :=
 fnk 2 [0, 2] Tryz.func248 (fun k => a0) (fun k => (lc (qpM k) (lc (quE k) l0))) ⟨rfl, rfl, ⟨rfl, Nat.le_of_ble_eq_true rfl⟩, rfl⟩ (fun _ => rfl) (by kernel_rfl) fun k x => by kernel_rfl

def qeA (k : Nat) (rec : List Int → List Int → Int → Option (List Int × List Int × Int)) (a : List Int) (b : List Int) (bits : Int) : Option (List Int × List Int × Int) :=
 if ((0 : Int) ≤ (IntKind.wrap .i64 ((((List.length b) : Nat) : Int) - (1 : Int)))) then
 Option.bind (b)[(Int.toNat (IntKind.wrap .i64 ((((List.length b) : Nat) : Int) - (1 : Int))))]? fun x6 =>
 if (bits < (0 : Int)) then
 none
 else
 if (((Int.fdiv (IntKind.wrap .u32 (x6 * ((2 : Int) ^ (min (Int.toNat bits) 32)))) (2147483648 : Int)) == (0 : Int)) = true) then
 rec a b (IntKind.wrap .u64 (bits + (1 : Int)))
 else
 (some (a, b, bits))
 else
 none
def qee (k n : Nat) : List Int → List Int → Int → Option (List Int × List Int × Int) := Nat.rec (fun _ _ _ => none) (fun _ r => qeA k r) n
def qbu (k : Nat) (rec : Nat → Int → Int → Nat → Nat → Int → Int → Int → List Int → List Int → List Int → Option (Nat × Int × Int × Nat × Nat × Int × Int × List Int × List Int × List Int)) (q : Nat) (bits : Int) (n : Int) (u : Nat) (v : Nat) (j : Int) (d : Int) (rest : Int) (qs : List Int) (us : List Int) (vs : List Int) : Option (Nat × Int × Int × Nat × Nat × Int × Int × List Int × List Int × List Int) :=
 if ((decide (d > (4294967295 : Int))) = false) then
 if ((decide (rest ≤ (4294967295 : Int))) = true) then
 if (((0 : Int) ≤ (IntKind.wrap .i64 (n - (2 : Int)))) ∧ ((IntKind.wrap .i64 (n - (2 : Int))) < ((v : Nat) : Int))) then
 Option.bind (vs)[(0 + (Int.toNat (IntKind.wrap .i64 (n - (2 : Int)))))]? fun x10 =>
 if (((0 : Int) ≤ (IntKind.wrap .i64 ((IntKind.wrap .i64 (j + n)) - (2 : Int)))) ∧ ((IntKind.wrap .i64 ((IntKind.wrap .i64 (j + n)) - (2 : Int))) < ((u : Nat) : Int))) then
 Option.bind (us)[(0 + (Int.toNat (IntKind.wrap .i64 ((IntKind.wrap .i64 (j + n)) - (2 : Int)))))]? fun x11 =>
 if ((decide ((IntKind.wrap .u64 (d * (IntKind.wrap .u64 x10))) > (IntKind.wrap .u64 (((BitVec.toNat ((BitVec.ofInt 64 (IntKind.wrap .u64 (rest * (4294967296 : Int)))) ||| (BitVec.ofInt 64 (IntKind.wrap .u64 x11)))) : Nat) : Int)))) = true) then
 if (((0 : Int) ≤ (IntKind.wrap .i64 (n - (1 : Int)))) ∧ ((IntKind.wrap .i64 (n - (1 : Int))) < ((v : Nat) : Int))) then
 Option.bind (vs)[(0 + (Int.toNat (IntKind.wrap .i64 (n - (1 : Int)))))]? fun x12 =>
 if ((decide ((IntKind.wrap .u64 (rest + (IntKind.wrap .u64 x12))) > (4294967295 : Int))) = true) then
 (some (q, bits, n, u, v, j, (IntKind.wrap .u64 (d - (1 : Int))), qs, us, vs))
 else
 rec q bits n u v j (IntKind.wrap .u64 (d - (1 : Int))) (IntKind.wrap .u64 (rest + (IntKind.wrap .u64 x12))) qs us vs
 else
 none
 else
 (some (q, bits, n, u, v, j, d, qs, us, vs))
 else
 none
 else
 none
 else
 (some (q, bits, n, u, v, j, d, qs, us, vs))
 else
 if (((0 : Int) ≤ (IntKind.wrap .i64 (n - (1 : Int)))) ∧ ((IntKind.wrap .i64 (n - (1 : Int))) < ((v : Nat) : Int))) then
 Option.bind (vs)[(0 + (Int.toNat (IntKind.wrap .i64 (n - (1 : Int)))))]? fun x10 =>
 if ((decide ((IntKind.wrap .u64 (rest + (IntKind.wrap .u64 x10))) > (4294967295 : Int))) = true) then
 (some (q, bits, n, u, v, j, (IntKind.wrap .u64 (d - (1 : Int))), qs, us, vs))
 else
 rec q bits n u v j (IntKind.wrap .u64 (d - (1 : Int))) (IntKind.wrap .u64 (rest + (IntKind.wrap .u64 x10))) qs us vs
 else
 none
def qcC (k n : Nat) : Nat → Int → Int → Nat → Nat → Int → Int → Int → List Int → List Int → List Int → Option (Nat × Int × Int × Nat × Nat × Int × Int × List Int × List Int × List Int) := Nat.rec (fun _ _ _ _ _ _ _ _ _ _ _ => none) (fun _ r => qbu k r) n
def qeB (k : Nat) (rec : Nat → Int → Int → Nat → Nat → Int → List Int → List Int → List Int → Option (Nat × Int × Int × Nat × List Int × List Int × List Int)) (q : Nat) (bits : Int) (n : Int) (u : Nat) (v : Nat) (j : Int) (qs : List Int) (us : List Int) (vs : List Int) : Option (Nat × Int × Int × Nat × List Int × List Int × List Int) :=
 if ((decide (j ≥ (0 : Int))) = true) then
 if (((0 : Int) ≤ (IntKind.wrap .i64 (j + n))) ∧ ((IntKind.wrap .i64 (j + n)) < ((u : Nat) : Int))) then
 Option.bind (us)[(0 + (Int.toNat (IntKind.wrap .i64 (j + n))))]? fun x6 =>
 if (((0 : Int) ≤ (IntKind.wrap .i64 ((IntKind.wrap .i64 (j + n)) - (1 : Int)))) ∧ ((IntKind.wrap .i64 ((IntKind.wrap .i64 (j + n)) - (1 : Int))) < ((u : Nat) : Int))) then
 Option.bind (us)[(0 + (Int.toNat (IntKind.wrap .i64 ((IntKind.wrap .i64 (j + n)) - (1 : Int)))))]? fun x7 =>
 if (((0 : Int) ≤ (IntKind.wrap .i64 (n - (1 : Int)))) ∧ ((IntKind.wrap .i64 (n - (1 : Int))) < ((v : Nat) : Int))) then
 Option.bind (vs)[(0 + (Int.toNat (IntKind.wrap .i64 (n - (1 : Int)))))]? fun x8 =>
 if ((IntKind.wrap .u64 x8) = (0 : Int)) then
 none
 else
 if (((0 : Int) ≤ (IntKind.wrap .i64 (n - (1 : Int)))) ∧ ((IntKind.wrap .i64 (n - (1 : Int))) < ((v : Nat) : Int))) then
 Option.bind (vs)[(0 + (Int.toNat (IntKind.wrap .i64 (n - (1 : Int)))))]? fun x9 =>
 if ((IntKind.wrap .u64 x9) = (0 : Int)) then
 none
 else
 Option.bind (qcC k k q bits n u v j (IntKind.wrap .u64 (Int.tdiv (IntKind.wrap .u64 (((BitVec.toNat ((BitVec.ofInt 64 (IntKind.wrap .u64 ((IntKind.wrap .u64 x6) * (4294967296 : Int)))) ||| (BitVec.ofInt 64 (IntKind.wrap .u64 x7)))) : Nat) : Int)) (IntKind.wrap .u64 x8))) (Int.tmod (IntKind.wrap .u64 (((BitVec.toNat ((BitVec.ofInt 64 (IntKind.wrap .u64 ((IntKind.wrap .u64 x6) * (4294967296 : Int)))) ||| (BitVec.ofInt 64 (IntKind.wrap .u64 x7)))) : Nat) : Int)) (IntKind.wrap .u64 x9)) qs us vs) fun r17 =>
 if (((0 : Int) ≤ r17.2.2.2.2.2.1) ∧ ((r17.2.2.2.2.2.1 ≤ (IntKind.wrap .i64 ((IntKind.wrap .i64 (r17.2.2.2.2.2.1 + r17.2.2.1)) + (1 : Int)))) ∧ (((0 + (Int.toNat (IntKind.wrap .i64 ((IntKind.wrap .i64 (r17.2.2.2.2.2.1 + r17.2.2.1)) + (1 : Int))))) ≤ (List.length r17.2.2.2.2.2.2.2.2.1)) ∧ ((r17.2.2.2.2.2.1 < (IntKind.wrap .i64 ((IntKind.wrap .i64 (r17.2.2.2.2.2.1 + r17.2.2.1)) + (1 : Int)))) ∨ (false = true))))) then
 Option.bind (qfo k (0 + (Int.toNat r17.2.2.2.2.2.1)) ((Int.toNat (IntKind.wrap .i64 ((IntKind.wrap .i64 (r17.2.2.2.2.2.1 + r17.2.2.1)) + (1 : Int)))) - (Int.toNat r17.2.2.2.2.2.1)) r17.2.2.2.2.1 r17.2.2.2.2.2.2.1 r17.2.2.2.2.2.2.2.2.1 r17.2.2.2.2.2.2.2.2.2) fun r18 =>
 if (((0 : Int) ≤ r17.2.2.2.2.2.1) ∧ (r17.2.2.2.2.2.1 < ((r17.1 : Nat) : Int))) then
 Option.bind (r17.2.2.2.2.2.2.2.1)[(0 + (Int.toNat r17.2.2.2.2.2.1))]? fun x10 =>
 rec r17.1 r17.2.1 r17.2.2.1 r17.2.2.2.1 r17.2.2.2.2.1 (IntKind.wrap .i64 (r17.2.2.2.2.2.1 - (1 : Int))) (List.set r17.2.2.2.2.2.2.2.1 (0 + (Int.toNat r17.2.2.2.2.2.1)) r18.1) r18.2.1 r18.2.2
 else
 none
 else
 none
 else
 none
 else
 none
 else
 none
 else
 none
 else
 (some (q, bits, n, u, qs, us, vs))
def qfi (k n : Nat) : Nat → Int → Int → Nat → Nat → Int → List Int → List Int → List Int → Option (Nat × Int × Int × Nat × List Int × List Int × List Int) := Nat.rec (fun _ _ _ _ _ _ _ _ _ => none) (fun _ r => qeB k r) n
def qeC (k : Nat) (rec : Nat → Nat → Int → Nat → Int → Int → List Int → List Int → List Int → Option (Nat × Nat × List Int × List Int × List Int)) (q : Nat) (r : Nat) (bits : Int) (u : Nat) (x : Int) (x1 : Int) (qs : List Int) (rs : List Int) (us : List Int) : Option (Nat × Nat × List Int × List Int × List Int) :=
 if ((decide (x1 < x)) = true) then
 if (((0 : Int) ≤ x1) ∧ (x1 < ((u : Nat) : Int))) then
 Option.bind (us)[(0 + (Int.toNat x1))]? fun x6 =>
 if (bits < (0 : Int)) then
 none
 else
 if (((0 : Int) ≤ (IntKind.wrap .i64 (x1 + (1 : Int)))) ∧ ((IntKind.wrap .i64 (x1 + (1 : Int))) < ((u : Nat) : Int))) then
 Option.bind (us)[(0 + (Int.toNat (IntKind.wrap .i64 (x1 + (1 : Int)))))]? fun x7 =>
 if ((IntKind.wrap .u64 ((32 : Int) - bits)) < (0 : Int)) then
 none
 else
 if (((0 : Int) ≤ x1) ∧ (x1 < ((r : Nat) : Int))) then
 Option.bind (rs)[(0 + (Int.toNat x1))]? fun x8 =>
 rec q r bits u x (IntKind.wrap .i64 (x1 + (1 : Int))) qs (List.set rs (0 + (Int.toNat x1)) (IntKind.wrap .u32 (((BitVec.toNat ((BitVec.ofInt 32 (Int.fdiv x6 ((2 : Int) ^ (min (Int.toNat bits) 32)))) ||| (BitVec.ofInt 32 (IntKind.wrap .u32 (IntKind.wrap .u64 ((IntKind.wrap .u64 x7) * ((2 : Int) ^ (min (Int.toNat (IntKind.wrap .u64 ((32 : Int) - bits))) 64)))))))) : Nat) : Int))) us
 else
 none
 else
 none
 else
 none
 else
 (some (q, r, qs, rs, us))
def qef (k n : Nat) : Nat → Nat → Int → Nat → Int → Int → List Int → List Int → List Int → Option (Nat × Nat × List Int × List Int × List Int) := Nat.rec (fun _ _ _ _ _ _ _ _ _ => none) (fun _ r => qeC k r) n
def qir (k : Nat) (a : List Int) (b : List Int) : Option (List Int × List Int) :=
 Option.bind (qee k k a b (0 : Int)) fun r14 =>
 Option.bind (qf2 k r14.1 r14.2.2) fun r15 =>
 Option.bind (qf2 k r14.2.1 r14.2.2) fun r16 =>
 if (((0 : Int) ≤ (0 : Int)) ∧ (((0 : Int) ≤ (((List.length r14.2.1) : Nat) : Int)) ∧ (((0 + (Int.toNat (((List.length r14.2.1) : Nat) : Int))) ≤ (List.length r16.2)) ∧ (((0 : Int) < (((List.length r14.2.1) : Nat) : Int)) ∨ (true = true))))) then
 if (((0 : Int) ≤ (IntKind.wrap .i64 (((r15.1 : Nat) : Int) - (((List.length r14.2.1) : Nat) : Int)))) ∧ (((IntKind.wrap .i64 (((r15.1 : Nat) : Int) - (((List.length r14.2.1) : Nat) : Int))) ≤ (IntKind.wrap .i64 (((r15.1 : Nat) : Int) - (((List.length r14.2.1) : Nat) : Int)))) ∧ (((IntKind.wrap .i64 (((r15.1 : Nat) : Int) - (((List.length r14.2.1) : Nat) : Int))) * (4 : Int)) ≤ (140737488355328 : Int)))) then
 Option.bind (qfi k k (Int.toNat (IntKind.wrap .i64 (((r15.1 : Nat) : Int) - (((List.length r14.2.1) : Nat) : Int)))) r14.2.2 (((List.length r14.2.1) : Nat) : Int) r15.1 (Int.toNat (((List.length r14.2.1) : Nat) : Int)) (IntKind.wrap .i64 ((IntKind.wrap .i64 (((r15.1 : Nat) : Int) - (((List.length r14.2.1) : Nat) : Int))) - (1 : Int))) (List.replicate (Int.toNat (IntKind.wrap .i64 (((r15.1 : Nat) : Int) - (((List.length r14.2.1) : Nat) : Int)))) (0 : Int)) r15.2 r16.2) fun r17 =>
 if (((0 : Int) ≤ r17.2.2.1) ∧ ((r17.2.2.1 ≤ r17.2.2.1) ∧ ((r17.2.2.1 * (4 : Int)) ≤ (140737488355328 : Int)))) then
 Option.bind (qef k k r17.1 (Int.toNat r17.2.2.1) r17.2.1 r17.2.2.2.1 r17.2.2.1 (0 : Int) r17.2.2.2.2.1 (List.replicate (Int.toNat r17.2.2.1) (0 : Int)) r17.2.2.2.2.2.1) fun r18 =>
 if ((0 + r18.1) ≤ (List.length r18.2.2.1)) then
 if ((0 + r18.2.1) ≤ (List.length r18.2.2.2.1)) then
 (some ((List.take r18.1 r18.2.2.1), (List.take r18.2.1 r18.2.2.2.1)))
 else
 none
 else
 none
 else
 none
 else
 none
 else
 none
def qhg : Nat → List Int → List Int → Option (List Int × List Int)
 | 0, _, _ => none
 | k + 1, a, b => qir k a b
def qyg : Nat → Inst := mkI 242 ⟨[vT, vT], []⟩ [⟨[vT, vT], []⟩] fun k x => qhg k x.1 x.2
def qjX (k : Nat) := ac (qwT k) (ac (qwU k) a0)
def qi0 : SS := ⟨[(0, vT), (1, vT), (6, vU)], [], 0⟩
def quF (k : Nat) : LInst := mkL 0 [qi0] [⟨some 0, qi0⟩] (fun n x => qee k n x.1 x.2.1 x.2.2) k
theorem qjY (k : Nat) : LIo 242 Tryz.f242 0 k (quF k) :=
 lpk [] (qjX k) l0 (fun _ => rfl) (by kernel_rfl) fun n x => by kernel_rfl
def quG (k : Nat) : LInst := mkL 4 [⟨[(4, .a (.smz 0)), (6, vU), (7, vI), (8, .a (.smz 1)), (9, .a (.smz 2)), (10, vI), (12, vU), (13, vU)], [(0, some (.arr (.int .u32) 1 106 false)), (1, some (.arr (.int .u32) 1 106 false)), (2, some (.arr (.int .u32) 1 106 false))], 3⟩] [⟨some 4, ⟨[(4, .a (.smz 0)), (6, vU), (7, vI), (8, .a (.smz 1)), (9, .a (.smz 2)), (10, vI), (12, vU)], [(0, some (.arr (.int .u32) 1 106 false)), (1, some (.arr (.int .u32) 1 106 false)), (2, some (.arr (.int .u32) 1 106 false))], 3⟩⟩] (fun n x => qcC k n x.1 x.2.1 x.2.2.1 x.2.2.2.1 x.2.2.2.2.1 x.2.2.2.2.2.1 x.2.2.2.2.2.2.1 x.2.2.2.2.2.2.2.1 x.2.2.2.2.2.2.2.2.1 x.2.2.2.2.2.2.2.2.2.1 x.2.2.2.2.2.2.2.2.2.2) k
theorem qmg (k : Nat) : LIo 242 Tryz.f242 0 k (quG k) :=
 lpk [] (qjX k) (lc (qjY k) l0) (fun _ => rfl) (by kernel_rfl) fun n x => by kernel_rfl
def quH (k : Nat) : LInst := mkL 2 [⟨[(4, .a (.smz 0)), (6, vU), (7, vI), (8, .a (.smz 1)), (9, .a (.smz 2)), (10, vI)], [(0, some (.arr (.int .u32) 1 106 false)), (1, some (.arr (.int .u32) 1 106 false)), (2, some (.arr (.int .u32) 1 106 false))], 3⟩] [⟨some 2, ⟨[(4, .a (.smz 0)), (6, vU), (7, vI), (8, .a (.smz 1))], [(0, some (.arr (.int .u32) 1 106 false)), (1, some (.arr (.int .u32) 1 106 false)), (2, some (.arr (.int .u32) 1 106 false))], 3⟩⟩] (fun n x => qfi k n x.1 x.2.1 x.2.2.1 x.2.2.2.1 x.2.2.2.2.1 x.2.2.2.2.2.1 x.2.2.2.2.2.2.1 x.2.2.2.2.2.2.2.1 x.2.2.2.2.2.2.2.2) k
theorem qpN (k : Nat) : LIo 242 Tryz.f242 0 k (quH k) :=
 lpk [4] (qjX k) (lc (qjY k) (lc (qmg k) l0)) (fun _ => rfl) (by kernel_rfl) fun n x => by kernel_rfl
def quI (k : Nat) : LInst := mkL 6 [⟨[(4, .a (.smz 0)), (5, .a (.smz 1)), (6, vU), (8, .a (.smz 2)), (139, vI), (140, vI)], [(0, some (.arr (.int .u32) 1 106 false)), (1, some (.arr (.int .u32) 1 106 false)), (2, some (.arr (.int .u32) 1 106 false))], 3⟩] [⟨some 6, ⟨[(4, .a (.smz 0)), (5, .a (.smz 1))], [(0, some (.arr (.int .u32) 1 106 false)), (1, some (.arr (.int .u32) 1 106 false)), (2, some (.arr (.int .u32) 1 106 false))], 3⟩⟩] (fun n x => qef k n x.1 x.2.1 x.2.2.1 x.2.2.2.1 x.2.2.2.2.1 x.2.2.2.2.2.1 x.2.2.2.2.2.2.1 x.2.2.2.2.2.2.2.1 x.2.2.2.2.2.2.2.2) k
theorem quJ (k : Nat) : LIo 242 Tryz.f242 0 k (quI k) :=
 lpk [] (qjX k) (lc (qjY k) (lc (qmg k) (lc (qpN k) l0))) (fun _ => rfl) (by kernel_rfl) fun n x => by kernel_rfl
theorem qwV : ∀ k, qh (call cf k) (qyg k) :=
 fnk 0 [0, 2, 6] Tryz.func242 (fun k => (qjX k)) (fun k => (lc (qjY k) (lc (qmg k) (lc (qpN k) (lc (quJ k) l0))))) ⟨rfl, rfl, ⟨rfl, Nat.le_of_ble_eq_true rfl⟩, rfl⟩ (fun _ => rfl) (by kernel_rfl) fun k x => by kernel_rfl

def qdB (k : Nat) (a : List Int) (b : List Int) : Option (List Int × List Int) :=
 Option.bind (qh2 k a b) fun r13 =>
 if ((decide (r13 < (0 : Int))) = true) then
 (some ([], a))
 else
 if (((((List.length b) : Nat) : Int) == (1 : Int)) = true) then
 Option.bind (b)[0]? fun x6 =>
 Option.bind (qh4 k a x6) fun r14 =>
 (some (r14.1, (List.take 1 (r14.2 :: []))))
 else
 Option.bind (qhg k a b) fun r14 =>
 (some (r14.1, r14.2))
def qdC : Nat → List Int → List Int → Option (List Int × List Int)
 | 0, _, _ => none
 | k + 1, a, b => qdB k a b
def qyh : Nat → Inst := mkI 231 ⟨[vT, vT], []⟩ [⟨[vT, vT], []⟩] fun k x => qdC k x.1 x.2
theorem qse : ∀ k, qh (call cf k) (qyh k) :=
 fnk 0 [] Tryz.func231 (fun k => (ac (qsd k) (ac (qwS k) (ac (qwV k) a0)))) (fun k => l0) ⟨rfl, rfl, ⟨rfl, Nat.le_of_ble_eq_true rfl⟩, rfl⟩ (fun _ => rfl) (by kernel_rfl) fun k x => by kernel_rfl

def qdv (k : Nat) (rec : List Int → List Int → Bool → List Int → Bool → List Int → Option (List Int × Bool × List Int × Bool × List Int)) (a : List Int) (b : List Int) (m0 : Bool) (m1 : List Int) (m01 : Bool) (m11 : List Int) : Option (List Int × Bool × List Int × Bool × List Int) :=
 if ((decide ((((List.length b) : Nat) : Int) > (0 : Int))) = true) then
 Option.bind (qdC k a b) fun r13 =>
 if (((0 + (List.length r13.2)) * 4) ≤ 140737488355328) then
 if ((0 + (0 + (List.length r13.2))) ≤ (List.length ((List.take 0 []) ++ r13.2))) then
 Option.bind (qdt k (List.take (0 + (List.length r13.2)) ((List.take 0 []) ++ r13.2))) fun r14 =>
 rec b r14 m0 m1 m01 m11
 else
 none
 else
 none
 else
 (some (a, m0, m1, m01, m11))
def qdN (k n : Nat) : List Int → List Int → Bool → List Int → Bool → List Int → Option (List Int × Bool × List Int × Bool × List Int) := Nat.rec (fun _ _ _ _ _ _ => none) (fun _ r => qdv k r) n
def qg3 (k : Nat) (x0 : Bool) (x1 : List Int) (y0 : Bool) (y1 : List Int) : Option (Bool × List Int × Bool × List Int × Bool × List Int) :=
 Option.bind (qdN k k x1 y1 x0 x1 y0 y1) fun r13 =>
 Option.bind (qbs k false r13.1 false) fun r14 =>
 (some (r13.2.1, r13.2.2.1, r13.2.2.2.1, r13.2.2.2.2, r14.1, r14.2))
def qf3 : Nat → Bool → List Int → Bool → List Int → Option (Bool × List Int × Bool × List Int × Bool × List Int)
 | 0, _, _, _, _ => none
 | k + 1, x0, x1, y0, y1 => qg3 k x0 x1 y0 y1
def Iq1 : Nat → Inst := mkI 203 ⟨[.a (.ptr 0 0 0), .a (.ptr 1 0 0)], [.raw [[.lf .bool, .lf cW]] 2 147 true false false, .raw [[.lf .bool, .lf cW]] 2 147 true false false]⟩ [⟨[.a (.ptr 2 0 0)], [.raw [[.lf .bool, .lf cW]] 2 147 true false false, .raw [[.lf .bool, .lf cW]] 2 147 true false false, .raw [[.lf .bool, .lf cW]] 2 147 true false false]⟩] fun k x => qf3 k x.1 x.2.1 x.2.2.1 x.2.2.2
def quK (k : Nat) := ac (qse k) (ac (qjT k) (ac (qos k) a0))
def qwW (k : Nat) : LInst := mkL 0 [⟨[(5, vT), (6, vT)], [(0, some (.raw [[.lf .bool, .lf cW]] 2 147 true false false)), (1, some (.raw [[.lf .bool, .lf cW]] 2 147 true false false))], 2⟩] [⟨some 0, ⟨[(5, vT)], [(0, some (.raw [[.lf .bool, .lf cW]] 2 147 true false false)), (1, some (.raw [[.lf .bool, .lf cW]] 2 147 true false false))], 2⟩⟩] (fun n x => qdN k n x.1 x.2.1 x.2.2.1 x.2.2.2.1 x.2.2.2.2.1 x.2.2.2.2.2) k
theorem qwX (k : Nat) : LIo 203 Tryz.f203 2 k (qwW k) :=
 lpk [] (quK k) l0 (fun _ => rfl) (by kernel_rfl) fun n x => by kernel_rfl
theorem qyi : ∀ k, qh (call cf k) (Iq1 k) :=
 fnk 2 [0] Tryz.func203 (fun k => (quK k)) (fun k => (lc (qwX k) l0)) ⟨rfl, rfl, ⟨rfl, Nat.le_of_ble_eq_true rfl⟩, rfl⟩ (fun _ => rfl) (by kernel_rfl) fun k x => by kernel_rfl

def qem (k : Nat) (z : Bool) (x0 : Bool) (x1 : List Int) (y0 : Bool) (y1 : List Int) (r : Bool) : Option (Bool × List Int × Bool × List Int × Bool × List Int × Bool × List Int) :=
 Option.bind (qdC k x1 y1) fun r14 =>
 Option.bind (qbs k x0 r14.2 r) fun r15 =>
 Option.bind (qbs k (!(x0 == y0)) r14.1 z) fun r16 =>
 (some (r16.1, r16.2, x0, x1, y0, y1, r15.1, r15.2))
def qdo : Nat → Bool → Bool → List Int → Bool → List Int → Bool → Option (Bool × List Int × Bool × List Int × Bool × List Int × Bool × List Int)
 | 0, _, _, _, _, _, _ => none
 | k + 1, z, x0, x1, y0, y1, r => qem k z x0 x1 y0 y1 r
def Iq6 : Nat → Inst := mkI 232 ⟨[.a (.ptr 0 0 0), .a (.ptr 1 0 0), .a (.ptr 2 0 0), .a (.ptr 3 0 0)], [.raw [[.lf .bool, .snil 1 106]] 2 147 true false false, .raw [[.lf .bool, .lf cW]] 2 147 true false false, .raw [[.lf .bool, .lf cW]] 2 147 true false false, .raw [[.lf .bool, .snil 1 106]] 2 147 true false false]⟩ [⟨[.a (.ptr 0 0 0), .a (.ptr 3 0 0)], [.raw [[.lf .bool, .lf cW]] 2 147 true false false, .raw [[.lf .bool, .lf cW]] 2 147 true false false, .raw [[.lf .bool, .lf cW]] 2 147 true false false, .raw [[.lf .bool, .lf cW]] 2 147 true false false]⟩] fun k x => qdo k x.1 x.2.1 x.2.2.1 x.2.2.2.1 x.2.2.2.2.1 x.2.2.2.2.2
theorem qyj : ∀ k, qh (call cf k) (Iq6 k) :=
 fnk 4 [] Tryz.func232 (fun k => (ac (qse k) (ac (qos k) a0))) (fun k => l0) ⟨rfl, rfl, ⟨rfl, Nat.le_of_ble_eq_true rfl⟩, rfl⟩ (fun _ => rfl) (by kernel_rfl) fun k x => by kernel_rfl

def qjf (k : Nat) (z : Bool) (x0 : Bool) (x1 : List Int) (y0 : Bool) (y1 : List Int) : Option (Bool × List Int × Bool × List Int × Bool × List Int) :=
 Option.bind (qdo k z x0 x1 y0 y1 false) fun r14 =>
 (some (r14.1, r14.2.1, r14.2.2.1, r14.2.2.2.1, r14.2.2.2.2.1, r14.2.2.2.2.2.1))
def qbY : Nat → Bool → Bool → List Int → Bool → List Int → Option (Bool × List Int × Bool × List Int × Bool × List Int)
 | 0, _, _, _, _, _ => none
 | k + 1, z, x0, x1, y0, y1 => qjf k z x0 x1 y0 y1
def Iq7 : Nat → Inst := mkI 204 ⟨[.a (.ptr 0 0 0), .a (.ptr 1 0 0), .a (.ptr 2 0 0)], [.raw [[.lf .bool, .snil 1 106]] 2 147 true false false, .raw [[.lf .bool, .lf cW]] 2 147 true false false, .raw [[.lf .bool, .lf cW]] 2 147 true false false]⟩ [⟨[.a (.ptr 0 0 0)], [.raw [[.lf .bool, .lf cW]] 2 147 true false false, .raw [[.lf .bool, .lf cW]] 2 147 true false false, .raw [[.lf .bool, .lf cW]] 2 147 true false false]⟩] fun k x => qbY k x.1 x.2.1 x.2.2.1 x.2.2.2.1 x.2.2.2.2
theorem qyk : ∀ k, qh (call cf k) (Iq7 k) :=
 fnk 3 [] Tryz.func204 (fun k => (ac (qyj k) a0)) (fun k => l0) ⟨rfl, rfl, ⟨rfl, Nat.le_of_ble_eq_true rfl⟩, rfl⟩ (fun _ => rfl) (by kernel_rfl) fun k x => by kernel_rfl

def qcU (k : Nat) (z0 : Bool) (z1 : Bool) (n0 : Bool) (n1 : List Int) (d0 : Bool) (d1 : List Int) : Option (Bool × List Int × Bool × List Int × Bool × List Int × Bool × List Int) :=
 Option.bind (qf3 k n0 n1 d0 d1) fun r13 =>
 if (r13.2.2.1 = true) then
 Option.bind (qbY k false r13.1 r13.2.1 true r13.2.2.2.2.2) fun r14 =>
 Option.bind (qbY k false r13.2.2.1 r13.2.2.2.1 r14.2.2.2.2.1 r14.2.2.2.2.2) fun r15 =>
 (some (r14.1, r14.2.1, r15.1, r15.2.1, r14.2.2.1, r14.2.2.2.1, r15.2.2.1, r15.2.2.2.1))
 else
 Option.bind (qbY k false r13.1 r13.2.1 r13.2.2.2.2.1 r13.2.2.2.2.2) fun r14 =>
 Option.bind (qbY k false r13.2.2.1 r13.2.2.2.1 r14.2.2.2.2.1 r14.2.2.2.2.2) fun r15 =>
 (some (r14.1, r14.2.1, r15.1, r15.2.1, r14.2.2.1, r14.2.2.2.1, r15.2.2.1, r15.2.2.2.1))
def qcV : Nat → Bool → Bool → Bool → List Int → Bool → List Int → Option (Bool × List Int × Bool × List Int × Bool × List Int × Bool × List Int)
 | 0, _, _, _, _, _, _ => none
 | k + 1, z0, z1, n0, n1, d0, d1 => qcU k z0 z1 n0 n1 d0 d1
def qyl : Nat → Inst := mkI 144 ⟨[.a (.ptr 0 0 0), .a (.ptr 1 0 0), .a (.ptr 2 0 0)], [.raw [[.lf .bool, .snil 1 106, .lf .bool, .snil 1 106]] 4 180 true false false, .raw [[.lf .bool, .lf cW]] 2 147 true false false, .raw [[.lf .bool, .lf cW]] 2 147 true false false]⟩ [⟨[.a (.ptr 0 0 0)], [.raw [[.lf .bool, .lf cW, .lf .bool, .lf cW]] 4 180 true false false, .raw [[.lf .bool, .lf cW]] 2 147 true false false, .raw [[.lf .bool, .lf cW]] 2 147 true false false]⟩] fun k x => qcV k x.1 x.2.1 x.2.2.1 x.2.2.2.1 x.2.2.2.2.1 x.2.2.2.2.2
theorem qwY : ∀ k, qh (call cf k) (qyl k) :=
 fnk 3 [] Tryz.func144 (fun k => (ac (qyi k) (ac (qyk k) a0))) (fun k => l0) ⟨rfl, rfl, ⟨rfl, Nat.le_of_ble_eq_true rfl⟩, rfl⟩ (fun _ => rfl) (by kernel_rfl) fun k x => by kernel_rfl

def qkY (k : Nat) (n0 : Bool) (n1 : List Int) (d0 : Bool) (d1 : List Int) : Option (Bool × List Int × Bool × List Int × Bool × List Int × Bool × List Int) :=
 Option.bind (qcV k false false n0 n1 d0 d1) fun r13 =>
 (some (r13.2.2.2.2.1, r13.2.2.2.2.2.1, r13.2.2.2.2.2.2.1, r13.2.2.2.2.2.2.2, r13.1, r13.2.1, r13.2.2.1, r13.2.2.2.1))
def qea : Nat → Bool → List Int → Bool → List Int → Option (Bool × List Int × Bool × List Int × Bool × List Int × Bool × List Int)
 | 0, _, _, _, _ => none
 | k + 1, n0, n1, d0, d1 => qkY k n0 n1 d0 d1
def Iq0 : Nat → Inst := mkI 89 ⟨[.a (.ptr 0 0 0), .a (.ptr 1 0 0)], [.raw [[.lf .bool, .lf cW]] 2 147 true false false, .raw [[.lf .bool, .lf cW]] 2 147 true false false]⟩ [⟨[.a (.ptr 2 0 0)], [.raw [[.lf .bool, .lf cW]] 2 147 true false false, .raw [[.lf .bool, .lf cW]] 2 147 true false false, .raw [[.lf .bool, .lf cW, .lf .bool, .lf cW]] 4 180 true false false]⟩] fun k x => qea k x.1 x.2.1 x.2.2.1 x.2.2.2
theorem qym : ∀ k, qh (call cf k) (Iq0 k) :=
 fnk 2 [] Tryz.func89 (fun k => (ac (qwY k) a0)) (fun k => l0) ⟨rfl, rfl, ⟨rfl, Nat.le_of_ble_eq_true rfl⟩, rfl⟩ (fun _ => rfl) (by kernel_rfl) fun k x => by kernel_rfl

def qgx (k : Nat) (n0 : Int) (n1 : Int) : Option (Bool × List Int × Bool × List Int) :=
 Option.bind (qh1 k (max n1 (IntKind.wrap .i64 ((0 : Int) - n1)))) fun r11 =>
 if ((decide (n1 < (0 : Int))) = true) then
 Option.bind (qb8 k n0) fun r12 =>
 Option.bind (qea k r12.1 r12.2 r11.1 r11.2) fun r13 =>
 (some (r13.2.2.2.2.1, r13.2.2.2.2.2.1, r13.2.2.2.2.2.2.1, r13.2.2.2.2.2.2.2))
 else
 Option.bind (qb8 k n0) fun r12 =>
 Option.bind (qdc k r11.1 r11.2 r12.1 r12.2) fun r13 =>
 Option.bind (qb8 k (1 : Int)) fun r14 =>
 Option.bind (qea k r13.1 r13.2.1 r14.1 r14.2) fun r15 =>
 (some (r15.2.2.2.2.1, r15.2.2.2.2.2.1, r15.2.2.2.2.2.2.1, r15.2.2.2.2.2.2.2))
def qfM : Nat → Int → Int → Option (Bool × List Int × Bool × List Int)
 | 0, _, _ => none
 | k + 1, n0, n1 => qgx k n0 n1
def qyn : Nat → Inst := mkI 214 ⟨[.g [.lf (.int .i64), .lf (.int .i64)]], []⟩ [⟨[.a (.ptr 0 0 0)], [.raw [[.lf .bool, .lf cW, .lf .bool, .lf cW]] 4 180 true false false]⟩] fun k x => qfM k x.1 x.2
theorem qwZ : ∀ k, qh (call cf k) (qyn k) :=
 fnk 0 [] Tryz.func214 (fun k => (ac (qwR k) (ac (qot k) (ac (qym k) (ac (quv k) a0))))) (fun k => l0) ⟨rfl, rfl, ⟨rfl, Nat.le_of_ble_eq_true rfl⟩, rfl⟩ (fun _ => rfl) (by kernel_rfl) fun k x => by kernel_rfl

def qks (k : Nat) (neg : Bool) (w : List Int) : Option (Bool × List Int) :=
 if (((0 + (List.length w)) * 4) ≤ 140737488355328) then
 if ((0 + (0 + (List.length w))) ≤ (List.length ((List.take 0 []) ++ w))) then
 Option.bind (qdt k (List.take (0 + (List.length w)) ((List.take 0 []) ++ w))) fun r13 =>
 if (neg = true) then
 (some ((decide ((((List.length r13) : Nat) : Int) > (0 : Int))), r13))
 else
 (some (false, r13))
 else
 none
 else
 none
def qhz : Nat → Bool → List Int → Option (Bool × List Int)
 | 0, _, _ => none
 | k + 1, neg, w => qks k neg w
def qyo : Nat → Inst := mkI 202 ⟨[vB, vT], []⟩ [⟨[.a (.ptr 0 0 0)], [.raw [[.lf .bool, .lf cW]] 2 147 true false false]⟩] fun k x => qhz k x.1 x.2
theorem qw0 : ∀ k, qh (call cf k) (qyo k) :=
 fnk 0 [] Tryz.func202 (fun k => (ac (qjT k) a0)) (fun k => l0) ⟨rfl, rfl, ⟨rfl, Nat.le_of_ble_eq_true rfl⟩, rfl⟩ (fun _ => rfl) (by kernel_rfl) fun k x => by kernel_rfl

def qeD (k : Nat) (z0 : Bool) (z1 : List Int) (z2 : Bool) (z3 : List Int) : Option (Bool × List Int × Bool × List Int × Bool × List Int) :=
 if (((((List.length z3) : Nat) : Int) == (0 : Int)) = true) then
 Option.bind (qb8 k (1 : Int)) fun r13 =>
 (some (z0, z1, z2, z3, r13.1, r13.2))
 else
 Option.bind (qhz k false z3) fun r13 =>
 (some (z0, z1, z2, z3, r13.1, r13.2))
def qcE : Nat → Bool → List Int → Bool → List Int → Option (Bool × List Int × Bool × List Int × Bool × List Int)
 | 0, _, _, _, _ => none
 | k + 1, z0, z1, z2, z3 => qeD k z0 z1 z2 z3
def qyp : Nat → Inst := mkI 143 ⟨[.a (.ptr 0 0 0)], [.raw [[.lf .bool, .lf cW, .lf .bool, .lf cW]] 4 180 true false false]⟩ [⟨[.a (.ptr 1 0 0)], [.raw [[.lf .bool, .lf cW, .lf .bool, .lf cW]] 4 180 true false false, .raw [[.lf .bool, .lf cW]] 2 147 true false false]⟩] fun k x => qcE k x.1 x.2.1 x.2.2.1 x.2.2.2
theorem qw1 : ∀ k, qh (call cf k) (qyp k) :=
 fnk 1 [] Tryz.func143 (fun k => (ac (qot k) (ac (qw0 k) a0))) (fun k => l0) ⟨rfl, rfl, ⟨rfl, Nat.le_of_ble_eq_true rfl⟩, rfl⟩ (fun _ => rfl) (by kernel_rfl) fun k x => by kernel_rfl

def qen (k : Nat) (rec : Nat → Int → Int → Int → List Int → Int → Int → List Int → Int → Int → Bool → Bool → List Int → Bool → List Int → Bool → List Int → List Int → Option (Nat × Int × Int × List Int × Int × Int × Bool × Bool × List Int × Bool × List Int × Bool × List Int × List Int)) (out1 : Nat) (i : Int) (a : Int) (carry : Int) (x : List Int) (x1 : Int) (x2 : Int) (x3 : List Int) (x4 : Int) (x5 : Int) (z : Bool) (x0 : Bool) (x11 : List Int) (x21 : Bool) (x31 : List Int) (y0 : Bool) (y1 : List Int) (outs : List Int) : Option (Nat × Int × Int × List Int × Int × Int × Bool × Bool × List Int × Bool × List Int × Bool × List Int × List Int) :=
 if ((decide (x5 < x4)) = true) then
 if ((0 : Int) ≤ x5) then
 Option.bind (x3)[(Int.toNat x5)]? fun x7 =>
 if (((0 : Int) ≤ (IntKind.wrap .i64 (i + x5))) ∧ ((IntKind.wrap .i64 (i + x5)) < ((out1 : Nat) : Int))) then
 Option.bind (outs)[(0 + (Int.toNat (IntKind.wrap .i64 (i + x5))))]? fun x8 =>
 if (((0 : Int) ≤ (IntKind.wrap .i64 (i + x5))) ∧ ((IntKind.wrap .i64 (i + x5)) < ((out1 : Nat) : Int))) then
 Option.bind (outs)[(0 + (Int.toNat (IntKind.wrap .i64 (i + x5))))]? fun x9 =>
 rec out1 i a (Int.fdiv (IntKind.wrap .u64 ((IntKind.wrap .u64 ((IntKind.wrap .u64 ((IntKind.wrap .u64 a) * (IntKind.wrap .u64 x7))) + (IntKind.wrap .u64 x8))) + carry)) (4294967296 : Int)) x x1 x2 x3 x4 (IntKind.wrap .i64 (x5 + (1 : Int))) z x0 x11 x21 x31 y0 y1 (List.set outs (0 + (Int.toNat (IntKind.wrap .i64 (i + x5)))) (IntKind.wrap .u32 (IntKind.wrap .u64 ((IntKind.wrap .u64 ((IntKind.wrap .u64 ((IntKind.wrap .u64 a) * (IntKind.wrap .u64 x7))) + (IntKind.wrap .u64 x8))) + carry))))
 else
 none
 else
 none
 else
 none
 else
 (some (out1, i, carry, x, x1, x2, z, x0, x11, x21, x31, y0, y1, outs))
def qdw (k n : Nat) : Nat → Int → Int → Int → List Int → Int → Int → List Int → Int → Int → Bool → Bool → List Int → Bool → List Int → Bool → List Int → List Int → Option (Nat × Int × Int × List Int × Int × Int × Bool × Bool × List Int × Bool × List Int × Bool × List Int × List Int) := Nat.rec (fun _ _ _ _ _ _ _ _ _ _ _ _ _ _ _ _ _ _ => none) (fun _ r => qen k r) n
def qeo (k : Nat) (rec : Nat → List Int → Int → Int → Bool → Bool → List Int → Bool → List Int → Bool → List Int → List Int → Option (Nat × Bool × Bool × List Int × Bool × List Int × Bool × List Int × List Int)) (out1 : Nat) (x : List Int) (x1 : Int) (x2 : Int) (z : Bool) (x0 : Bool) (x11 : List Int) (x21 : Bool) (x3 : List Int) (y0 : Bool) (y1 : List Int) (outs : List Int) : Option (Nat × Bool × Bool × List Int × Bool × List Int × Bool × List Int × List Int) :=
 if ((decide (x2 < x1)) = true) then
 if ((0 : Int) ≤ x2) then
 Option.bind (x)[(Int.toNat x2)]? fun x6 =>
 Option.bind (qdw k k out1 x2 x6 (0 : Int) x x1 x2 y1 (((List.length y1) : Nat) : Int) (0 : Int) z x0 x11 x21 x3 y0 y1 outs) fun r14 =>
 if (((0 : Int) ≤ (IntKind.wrap .i64 (r14.2.1 + (((List.length r14.2.2.2.2.2.2.2.2.2.2.2.2.1) : Nat) : Int)))) ∧ ((IntKind.wrap .i64 (r14.2.1 + (((List.length r14.2.2.2.2.2.2.2.2.2.2.2.2.1) : Nat) : Int))) < ((r14.1 : Nat) : Int))) then
 Option.bind (r14.2.2.2.2.2.2.2.2.2.2.2.2.2)[(0 + (Int.toNat (IntKind.wrap .i64 (r14.2.1 + (((List.length r14.2.2.2.2.2.2.2.2.2.2.2.2.1) : Nat) : Int)))))]? fun x7 =>
 rec r14.1 r14.2.2.2.1 r14.2.2.2.2.1 (IntKind.wrap .i64 (r14.2.2.2.2.2.1 + (1 : Int))) r14.2.2.2.2.2.2.1 r14.2.2.2.2.2.2.2.1 r14.2.2.2.2.2.2.2.2.1 r14.2.2.2.2.2.2.2.2.2.1 r14.2.2.2.2.2.2.2.2.2.2.1 r14.2.2.2.2.2.2.2.2.2.2.2.1 r14.2.2.2.2.2.2.2.2.2.2.2.2.1 (List.set r14.2.2.2.2.2.2.2.2.2.2.2.2.2 (0 + (Int.toNat (IntKind.wrap .i64 (r14.2.1 + (((List.length r14.2.2.2.2.2.2.2.2.2.2.2.2.1) : Nat) : Int))))) (IntKind.wrap .u32 r14.2.2.1))
 else
 none
 else
 none
 else
 (some (out1, z, x0, x11, x21, x3, y0, y1, outs))
def qdx (k n : Nat) : Nat → List Int → Int → Int → Bool → Bool → List Int → Bool → List Int → Bool → List Int → List Int → Option (Nat × Bool × Bool × List Int × Bool × List Int × Bool × List Int × List Int) := Nat.rec (fun _ _ _ _ _ _ _ _ _ _ _ _ => none) (fun _ r => qeo k r) n
def qfu (k : Nat) (z : Bool) (x0 : Bool) (x1 : List Int) (x2 : Bool) (x3 : List Int) (y0 : Bool) (y1 : List Int) : Option (Bool × List Int × Bool × List Int × Bool × List Int × Bool × List Int) :=
 if (((0 : Int) ≤ (IntKind.wrap .i64 ((((List.length x1) : Nat) : Int) + (((List.length y1) : Nat) : Int)))) ∧ (((IntKind.wrap .i64 ((((List.length x1) : Nat) : Int) + (((List.length y1) : Nat) : Int))) ≤ (IntKind.wrap .i64 ((((List.length x1) : Nat) : Int) + (((List.length y1) : Nat) : Int)))) ∧ (((IntKind.wrap .i64 ((((List.length x1) : Nat) : Int) + (((List.length y1) : Nat) : Int))) * (4 : Int)) ≤ (140737488355328 : Int)))) then
 Option.bind (qdx k k (Int.toNat (IntKind.wrap .i64 ((((List.length x1) : Nat) : Int) + (((List.length y1) : Nat) : Int)))) x1 (((List.length x1) : Nat) : Int) (0 : Int) z x0 x1 x2 x3 y0 y1 (List.replicate (Int.toNat (IntKind.wrap .i64 ((((List.length x1) : Nat) : Int) + (((List.length y1) : Nat) : Int)))) (0 : Int))) fun r14 =>
 if ((0 + r14.1) ≤ (List.length r14.2.2.2.2.2.2.2.2)) then
 Option.bind (qbs k (!(r14.2.2.1 == r14.2.2.2.2.2.2.1)) (List.take r14.1 r14.2.2.2.2.2.2.2.2) r14.2.1) fun r15 =>
 (some (r15.1, r15.2, r14.2.2.1, r14.2.2.2.1, r14.2.2.2.2.1, r14.2.2.2.2.2.1, r14.2.2.2.2.2.2.1, r14.2.2.2.2.2.2.2.1))
 else
 none
 else
 none
def qdd : Nat → Bool → Bool → List Int → Bool → List Int → Bool → List Int → Option (Bool × List Int × Bool × List Int × Bool × List Int × Bool × List Int)
 | 0, _, _, _, _, _, _, _ => none
 | k + 1, z, x0, x1, x2, x3, y0, y1 => qfu k z x0 x1 x2 x3 y0 y1
def Iq5 : Nat → Inst := mkI 155 ⟨[.a (.ptr 0 0 0), .a (.ptr 1 0 0), .a (.ptr 2 0 0)], [.raw [[.lf .bool, .snil 1 106]] 2 147 true false false, .raw [[.lf .bool, .lf cW, .lf .bool, .lf cW]] 4 180 true false false, .raw [[.lf .bool, .lf cW]] 2 147 true false false]⟩ [⟨[.a (.ptr 0 0 0)], [.raw [[.lf .bool, .lf cW]] 2 147 true false false, .raw [[.lf .bool, .lf cW, .lf .bool, .lf cW]] 4 180 true false false, .raw [[.lf .bool, .lf cW]] 2 147 true false false]⟩] fun k x => qdd k x.1 x.2.1 x.2.2.1 x.2.2.2.1 x.2.2.2.2.1 x.2.2.2.2.2.1 x.2.2.2.2.2.2
def qrs (k : Nat) := ac (qos k) a0
def qw2 (k : Nat) : LInst := mkL 2 [⟨[(0, .a (.ptr 0 0 0)), (1, .a (.ptr 1 0 0)), (2, .a (.ptr 2 0 0)), (7, .a (.smz 3)), (8, vI), (9, .a (.lf (.int .u32))), (10, vU), (29, vT), (30, vI), (31, vI), (39, vT), (40, vI), (41, vI)], [(0, some (.raw [[.lf .bool, .snil 1 106]] 2 147 true false false)), (1, some (.raw [[.lf .bool, .lf cW, .lf .bool, .lf cW]] 4 180 true false false)), (2, some (.raw [[.lf .bool, .lf cW]] 2 147 true false false)), (3, some (.arr (.int .u32) 1 106 false))], 4⟩] [⟨some 2, ⟨[(0, .a (.ptr 0 0 0)), (1, .a (.ptr 1 0 0)), (2, .a (.ptr 2 0 0)), (7, .a (.smz 3)), (8, vI), (10, vU), (29, vT), (30, vI), (31, vI)], [(0, some (.raw [[.lf .bool, .snil 1 106]] 2 147 true false false)), (1, some (.raw [[.lf .bool, .lf cW, .lf .bool, .lf cW]] 4 180 true false false)), (2, some (.raw [[.lf .bool, .lf cW]] 2 147 true false false)), (3, some (.arr (.int .u32) 1 106 false))], 4⟩⟩] (fun n x => qdw k n x.1 x.2.1 x.2.2.1 x.2.2.2.1 x.2.2.2.2.1 x.2.2.2.2.2.1 x.2.2.2.2.2.2.1 x.2.2.2.2.2.2.2.1 x.2.2.2.2.2.2.2.2.1 x.2.2.2.2.2.2.2.2.2.1 x.2.2.2.2.2.2.2.2.2.2.1 x.2.2.2.2.2.2.2.2.2.2.2.1 x.2.2.2.2.2.2.2.2.2.2.2.2.1 x.2.2.2.2.2.2.2.2.2.2.2.2.2.1 x.2.2.2.2.2.2.2.2.2.2.2.2.2.2.1 x.2.2.2.2.2.2.2.2.2.2.2.2.2.2.2.1 x.2.2.2.2.2.2.2.2.2.2.2.2.2.2.2.2.1 x.2.2.2.2.2.2.2.2.2.2.2.2.2.2.2.2.2) k
theorem qsf (k : Nat) : LIo 155 Tryz.f155 3 k (qw2 k) :=
 lpk [] (qrs k) l0 (fun _ => rfl) (by kernel_rfl) fun n x => by kernel_rfl
def qw3 (k : Nat) : LInst := mkL 0 [⟨[(0, .a (.ptr 0 0 0)), (1, .a (.ptr 1 0 0)), (2, .a (.ptr 2 0 0)), (7, .a (.smz 3)), (29, vT), (30, vI), (31, vI)], [(0, some (.raw [[.lf .bool, .snil 1 106]] 2 147 true false false)), (1, some (.raw [[.lf .bool, .lf cW, .lf .bool, .lf cW]] 4 180 true false false)), (2, some (.raw [[.lf .bool, .lf cW]] 2 147 true false false)), (3, some (.arr (.int .u32) 1 106 false))], 4⟩] [⟨some 0, ⟨[(0, .a (.ptr 0 0 0)), (1, .a (.ptr 1 0 0)), (2, .a (.ptr 2 0 0)), (7, .a (.smz 3))], [(0, some (.raw [[.lf .bool, .snil 1 106]] 2 147 true false false)), (1, some (.raw [[.lf .bool, .lf cW, .lf .bool, .lf cW]] 4 180 true false false)), (2, some (.raw [[.lf .bool, .lf cW]] 2 147 true false false)), (3, some (.arr (.int .u32) 1 106 false))], 4⟩⟩] (fun n x => qdx k n x.1 x.2.1 x.2.2.1 x.2.2.2.1 x.2.2.2.2.1 x.2.2.2.2.2.1 x.2.2.2.2.2.2.1 x.2.2.2.2.2.2.2.1 x.2.2.2.2.2.2.2.2.1 x.2.2.2.2.2.2.2.2.2.1 x.2.2.2.2.2.2.2.2.2.2.1 x.2.2.2.2.2.2.2.2.2.2.2) k
theorem qw4 (k : Nat) : LIo 155 Tryz.f155 3 k (qw3 k) :=
 lpk [2] (qrs k) (lc (qsf k) l0) (fun _ => rfl) (by kernel_rfl) fun n x => by kernel_rfl
theorem qyq : ∀ k, qh (call cf k) (Iq5 k) :=
 fnk 3 [0] Tryz.func155 (fun k => (qrs k)) (fun k => (lc (qsf k) (lc (qw4 k) l0))) ⟨rfl, rfl, ⟨rfl, Nat.le_of_ble_eq_true rfl⟩, rfl⟩ (fun _ => rfl) (by kernel_rfl) fun k x => by kernel_rfl

def qfv (k : Nat) (z0 : Bool) (z1 : List Int) (y0 : Bool) (y1 : List Int) : Option (Int × Bool × List Int × Bool × List Int) :=
 if ((!(z0 == y0)) = true) then
 if (z0 = true) then
 (some ((-(1 : Int)), z0, z1, y0, y1))
 else
 (some ((1 : Int), z0, z1, y0, y1))
 else
 Option.bind (qh2 k z1 y1) fun r17 =>
 if (z0 = true) then
 (some ((IntKind.wrap .i64 ((0 : Int) - r17)), z0, z1, y0, y1))
 else
 (some (r17, z0, z1, y0, y1))
def qdY : Nat → Bool → List Int → Bool → List Int → Option (Int × Bool × List Int × Bool × List Int)
 | 0, _, _, _, _ => none
 | k + 1, z0, z1, y0, y1 => qfv k z0 z1 y0 y1
def Iq2 : Nat → Inst := mkI 156 ⟨[.a (.ptr 0 0 0), .a (.ptr 1 0 0)], [.raw [[.lf .bool, .lf cW]] 2 147 true false false, .raw [[.lf .bool, .lf cW]] 2 147 true false false]⟩ [⟨[vI], [.raw [[.lf .bool, .lf cW]] 2 147 true false false, .raw [[.lf .bool, .lf cW]] 2 147 true false false]⟩] fun k x => qdY k x.1 x.2.1 x.2.2.1 x.2.2.2
theorem qyr : ∀ k, qh (call cf k) (Iq2 k) :=
 fnk 2 [] Tryz.func156 (fun k => (ac (qsd k) a0)) (fun k => l0) ⟨rfl, rfl, ⟨rfl, Nat.le_of_ble_eq_true rfl⟩, rfl⟩ (fun _ => rfl) (by kernel_rfl) fun k x => by kernel_rfl

def qjg (k : Nat) (z0 : Bool) (z1 : List Int) (z2 : Bool) (z3 : List Int) (y0 : Bool) (y1 : List Int) (y2 : Bool) (y3 : List Int) : Option (Int × Bool × List Int × Bool × List Int × Bool × List Int × Bool × List Int) :=
 Option.bind (qcE k y0 y1 y2 y3) fun r13 =>
 Option.bind (qdd k false z0 z1 z2 z3 r13.2.2.2.2.1 r13.2.2.2.2.2) fun r14 =>
 Option.bind (qcE k r14.2.2.1 r14.2.2.2.1 r14.2.2.2.2.1 r14.2.2.2.2.2.1) fun r15 =>
 Option.bind (qdd k false r13.1 r13.2.1 r13.2.2.1 r13.2.2.2.1 r15.2.2.2.2.1 r15.2.2.2.2.2) fun r16 =>
 Option.bind (qdY k r14.1 r14.2.1 r16.1 r16.2.1) fun r17 =>
 (some (r17.1, r15.1, r15.2.1, r15.2.2.1, r15.2.2.2.1, r16.2.2.1, r16.2.2.2.1, r16.2.2.2.2.1, r16.2.2.2.2.2.1))
def qdZ : Nat → Bool → List Int → Bool → List Int → Bool → List Int → Bool → List Int → Option (Int × Bool × List Int × Bool × List Int × Bool × List Int × Bool × List Int)
 | 0, _, _, _, _, _, _, _, _ => none
 | k + 1, z0, z1, z2, z3, y0, y1, y2, y3 => qjg k z0 z1 z2 z3 y0 y1 y2 y3
def qys : Nat → Inst := mkI 100 ⟨[.a (.ptr 0 0 0), .a (.ptr 1 0 0)], [.raw [[.lf .bool, .lf cW, .lf .bool, .lf cW]] 4 180 true false false, .raw [[.lf .bool, .lf cW, .lf .bool, .lf cW]] 4 180 true false false]⟩ [⟨[vI], [.raw [[.lf .bool, .lf cW, .lf .bool, .lf cW]] 4 180 true false false, .raw [[.lf .bool, .lf cW, .lf .bool, .lf cW]] 4 180 true false false]⟩] fun k x => qdZ k x.1 x.2.1 x.2.2.1 x.2.2.2.1 x.2.2.2.2.1 x.2.2.2.2.2.1 x.2.2.2.2.2.2.1 x.2.2.2.2.2.2.2
theorem qw5 : ∀ k, qh (call cf k) (qys k) :=
 fnk 2 [] Tryz.func100 (fun k => (ac (qw1 k) (ac (qyq k) (ac (qyr k) a0)))) (fun k => l0) ⟨rfl, rfl, ⟨rfl, Nat.le_of_ble_eq_true rfl⟩, rfl⟩ (fun _ => rfl) (by kernel_rfl) fun k x => by kernel_rfl

def qjh (k : Nat) (a0 : Int) (a1 : Int) (b0 : Int) (b1 : Int) : Option (Int × Int) :=
 Option.bind (qW k a0 a1) fun r9 =>
 if ((!r9) = false) then
 Option.bind (qW k b0 b1) fun r10 =>
 if ((!r10) = true) then
 (some ((0 : Int), (30 : Int)))
 else
 Option.bind (qfM k a0 a1) fun r11 =>
 Option.bind (qfM k b0 b1) fun r12 =>
 Option.bind (qdZ k r11.1 r11.2.1 r11.2.2.1 r11.2.2.2 r12.1 r12.2.1 r12.2.2.1 r12.2.2.2) fun r13 =>
 (some (r13.1, (0 : Int)))
 else
 (some ((0 : Int), (30 : Int)))
def qg4 : Nat → Int → Int → Int → Int → Option (Int × Int)
 | 0, _, _, _, _ => none
 | k + 1, a0, a1, b0, b1 => qjh k a0 a1 b0 b1
def qyt : Nat → Inst := mkI 227 ⟨[.g [.lf (.int .i64), .lf (.int .i64)], .g [.lf (.int .i64), .lf (.int .i64)]], []⟩ [⟨[vI, vI], []⟩] fun k x => qg4 k x.1 x.2.1 x.2.2.1 x.2.2.2
theorem qw6 : ∀ k, qh (call cf k) (qyt k) :=
 fnk 0 [] Tryz.func227 (fun k => (ac (qjU k) (ac (qwZ k) (ac (qw5 k) a0)))) (fun k => l0) ⟨rfl, rfl, ⟨rfl, Nat.le_of_ble_eq_true rfl⟩, rfl⟩ (fun _ => rfl) (by kernel_rfl) fun k x => by kernel_rfl

def qcb (k : Nat) (rec : List (Int × Int) → List (Int × Int) → Int → List (Int × Int) → Int → Int → ByteArray → Int → List (Int × Int) → List (Int × Int) → Option ((Bool × ByteArray × Int × List (Int × Int) × List (Int × Int) × Int × Int) ⊕ (List (Int × Int) × List (Int × Int) × Int × ByteArray × Int × List (Int × Int) × List (Int × Int)))) (x0 : List (Int × Int)) (x1 : List (Int × Int)) (x : Int) (x2 : List (Int × Int)) (x3 : Int) (x4 : Int) (m0 : ByteArray) (m1 : Int) (m2 : List (Int × Int)) (m3 : List (Int × Int)) : Option ((Bool × ByteArray × Int × List (Int × Int) × List (Int × Int) × Int × Int) ⊕ (List (Int × Int) × List (Int × Int) × Int × ByteArray × Int × List (Int × Int) × List (Int × Int))) :=
 if ((decide (x4 < x3)) = true) then
 if ((0 : Int) ≤ x4) then
 Option.bind (x2)[(Int.toNat x4)]? fun x5 =>
 Option.bind (qW k x5.1 x5.2) fun r8 =>
 if ((!r8) = true) then
 (some (Sum.inl (false, m0, m1, m2, m3, x5.1, x5.2)))
 else
 rec x0 x1 x x2 x3 (IntKind.wrap .i64 (x4 + (1 : Int))) m0 m1 m2 m3
 else
 none
 else
 (some (Sum.inr (x0, x1, x, m0, m1, m2, m3)))
def qaI (k n : Nat) : List (Int × Int) → List (Int × Int) → Int → List (Int × Int) → Int → Int → ByteArray → Int → List (Int × Int) → List (Int × Int) → Option ((Bool × ByteArray × Int × List (Int × Int) × List (Int × Int) × Int × Int) ⊕ (List (Int × Int) × List (Int × Int) × Int × ByteArray × Int × List (Int × Int) × List (Int × Int))) := Nat.rec (fun _ _ _ _ _ _ _ _ _ _ => none) (fun _ r => qcb k r) n
def qcN (k : Nat) (rec : List (Int × Int) → List (Int × Int) → Int → ByteArray → Int → List (Int × Int) → List (Int × Int) → Option ((Bool × ByteArray × Int × List (Int × Int) × List (Int × Int) × Int × Int) ⊕ (ByteArray × Int × List (Int × Int) × List (Int × Int)))) (x0 : List (Int × Int)) (x1 : List (Int × Int)) (x : Int) (m0 : ByteArray) (m1 : Int) (m2 : List (Int × Int)) (m3 : List (Int × Int)) : Option ((Bool × ByteArray × Int × List (Int × Int) × List (Int × Int) × Int × Int) ⊕ (ByteArray × Int × List (Int × Int) × List (Int × Int))) :=
 if ((decide (x < (2 : Int))) = true) then
 if (x = (0 : Int)) then
 Option.bind (qaI k k x0 x1 x x0 (((List.length x0) : Nat) : Int) (0 : Int) m0 m1 m2 m3) fun r8 =>
 qc r8
 (fun r8 =>
 (some (Sum.inl (r8.1, r8.2.1, r8.2.2.1, r8.2.2.2.1, r8.2.2.2.2.1, r8.2.2.2.2.2.1, r8.2.2.2.2.2.2))))
 (fun r8 =>
 rec r8.1 r8.2.1 (IntKind.wrap .i64 (r8.2.2.1 + (1 : Int))) r8.2.2.2.1 r8.2.2.2.2.1 r8.2.2.2.2.2.1 r8.2.2.2.2.2.2)
 else
 if ((x - (1 : Int)) = (0 : Int)) then
 Option.bind (qaI k k x0 x1 x x1 (((List.length x1) : Nat) : Int) (0 : Int) m0 m1 m2 m3) fun r8 =>
 qc r8
 (fun r8 =>
 (some (Sum.inl (r8.1, r8.2.1, r8.2.2.1, r8.2.2.2.1, r8.2.2.2.2.1, r8.2.2.2.2.2.1, r8.2.2.2.2.2.2))))
 (fun r8 =>
 rec r8.1 r8.2.1 (IntKind.wrap .i64 (r8.2.2.1 + (1 : Int))) r8.2.2.2.1 r8.2.2.2.2.1 r8.2.2.2.2.2.1 r8.2.2.2.2.2.2)
 else
 none
 else
 (some (Sum.inr (m0, m1, m2, m3)))
def qap (k n : Nat) : List (Int × Int) → List (Int × Int) → Int → ByteArray → Int → List (Int × Int) → List (Int × Int) → Option ((Bool × ByteArray × Int × List (Int × Int) × List (Int × Int) × Int × Int) ⊕ (ByteArray × Int × List (Int × Int) × List (Int × Int))) := Nat.rec (fun _ _ _ _ _ _ _ => none) (fun _ r => qcN k r) n
def qbo (k : Nat) (rec : Int → ByteArray → Int → List (Int × Int) → List (Int × Int) → Option ((Bool × ByteArray × Int × List (Int × Int) × List (Int × Int)) ⊕ (ByteArray × Int × List (Int × Int) × List (Int × Int)))) (i : Int) (m0 : ByteArray) (m1 : Int) (m2 : List (Int × Int)) (m3 : List (Int × Int)) : Option ((Bool × ByteArray × Int × List (Int × Int) × List (Int × Int)) ⊕ (ByteArray × Int × List (Int × Int) × List (Int × Int))) :=
 if ((decide (i < (((List.length m3) : Nat) : Int))) = true) then
 if ((0 : Int) ≤ (IntKind.wrap .i64 (i - (1 : Int)))) then
 Option.bind (m3)[(Int.toNat (IntKind.wrap .i64 (i - (1 : Int))))]? fun x4 =>
 if ((0 : Int) ≤ i) then
 Option.bind (m3)[(Int.toNat i)]? fun x5 =>
 Option.bind (qg4 k x4.1 x4.2 x5.1 x5.2) fun r9 =>
 if ((decide (r9.1 ≥ (0 : Int))) = true) then
 (some (Sum.inl (false, m0, m1, m2, m3)))
 else
 rec (IntKind.wrap .i64 (i + (1 : Int))) m0 m1 m2 m3
 else
 none
 else
 none
 else
 (some (Sum.inr (m0, m1, m2, m3)))
def qab (k n : Nat) : Int → ByteArray → Int → List (Int × Int) → List (Int × Int) → Option ((Bool × ByteArray × Int × List (Int × Int) × List (Int × Int)) ⊕ (ByteArray × Int × List (Int × Int) × List (Int × Int))) := Nat.rec (fun _ _ _ _ _ => none) (fun _ r => qbo k r) n
def qg5 (k : Nat) (m0 : ByteArray) (m1 : Int) (m2 : List (Int × Int)) (m3 : List (Int × Int)) : Option (Bool) :=
 Option.bind (qff k m0) fun r7 =>
 if ((!r7) = true) then
 (some false)
 else
 Option.bind (qap k k m2 m3 (0 : Int) m0 m1 m2 m3) fun r8 =>
 qc r8
 (fun r8 =>
 (some r8.1))
 (fun r8 =>
 if ((r8.2.1 == (115 : Int)) = true) then
 if (((((List.length r8.2.2.1) : Nat) : Int) == (2 : Int)) = true) then
 (some ((((List.length r8.2.2.2) : Nat) : Int) == (1 : Int)))
 else
 (some false)
 else
 if ((r8.2.1 == (100 : Int)) = true) then
 if ((decide ((((List.length r8.2.2.1) : Nat) : Int) < (1 : Int))) = false) then
 if ((decide ((((List.length r8.2.2.1) : Nat) : Int) > (4 : Int))) = false) then
 if (((((List.length r8.2.2.2) : Nat) : Int) != (IntKind.wrap .i64 ((((List.length r8.2.2.1) : Nat) : Int) - (1 : Int)))) = true) then
 (some false)
 else
 Option.bind (qab k k (1 : Int) r8.1 r8.2.1 r8.2.2.1 r8.2.2.2) fun r9 =>
 qc r9
 (fun r9 =>
 (some r9.1))
 (fun r9 =>
 (some true))
 else
 (some false)
 else
 (some false)
 else
 (some false))
def qdO : Nat → ByteArray → Int → List (Int × Int) → List (Int × Int) → Option (Bool)
 | 0, _, _, _, _ => none
 | k + 1, m0, m1, m2, m3 => qg5 k m0 m1 m2 m3
def qyu : Nat → Inst := mkI 192 ⟨[.g [.lf .str, .lf (.int .u8), .lf cE, .lf cE]], []⟩ [⟨[vB], []⟩] fun k x => qdO k x.1 x.2.1 x.2.2.1 x.2.2.2
def qlk (k : Nat) := ac (qr8 k) (ac (qjU k) (ac (qw6 k) a0))
def quL (k : Nat) : LInst := mkL 2 [⟨[(1, .a (.ptr 0 0 0)), (18, .g [.lf cE, .lf cE]), (19, vI), (22, .a (.lf cE)), (23, vI), (24, vI)], [(0, some (.raw [[.lf .str, .lf (.int .u8), .lf cE, .lf cE]] 4 46 true false false))], 1⟩] [⟨none, ⟨[(2, vB)], [(0, some (.raw [[.lf .str, .lf (.int .u8), .lf cE, .lf cE]] 4 46 true false false)), (1, some (.raw [[.lf (.int .i64), .lf (.int .i64)]] 2 25 true false false))], 2⟩⟩, ⟨some 2, ⟨[(1, .a (.ptr 0 0 0)), (18, .g [.lf cE, .lf cE]), (19, vI)], [(0, some (.raw [[.lf .str, .lf (.int .u8), .lf cE, .lf cE]] 4 46 true false false))], 1⟩⟩] (fun n x => qaI k n x.1 x.2.1 x.2.2.1 x.2.2.2.1 x.2.2.2.2.1 x.2.2.2.2.2.1 x.2.2.2.2.2.2.1 x.2.2.2.2.2.2.2.1 x.2.2.2.2.2.2.2.2.1 x.2.2.2.2.2.2.2.2.2) k
theorem qmh (k : Nat) : LIo 192 Tryz.f192 0 k (quL k) :=
 lpk [] (qlk k) l0 (fun _ => rfl) (by kernel_rfl) fun n x => by kernel_rfl
def quM (k : Nat) : LInst := mkL 0 [⟨[(1, .a (.ptr 0 0 0)), (18, .g [.lf cE, .lf cE]), (19, vI)], [(0, some (.raw [[.lf .str, .lf (.int .u8), .lf cE, .lf cE]] 4 46 true false false))], 1⟩] [⟨none, ⟨[(2, vB)], [(0, some (.raw [[.lf .str, .lf (.int .u8), .lf cE, .lf cE]] 4 46 true false false)), (1, some (.raw [[.lf (.int .i64), .lf (.int .i64)]] 2 25 true false false))], 2⟩⟩, ⟨some 0, ⟨[(1, .a (.ptr 0 0 0))], [(0, some (.raw [[.lf .str, .lf (.int .u8), .lf cE, .lf cE]] 4 46 true false false))], 1⟩⟩] (fun n x => qap k n x.1 x.2.1 x.2.2.1 x.2.2.2.1 x.2.2.2.2.1 x.2.2.2.2.2.1 x.2.2.2.2.2.2) k
theorem qpO (k : Nat) : LIo 192 Tryz.f192 0 k (quM k) :=
 lpk [2] (qlk k) (lc (qmh k) l0) (fun _ => rfl) (by kernel_rfl) fun n x => by kernel_rfl
def quN (k : Nat) : LInst := mkL 5 [⟨[(1, .a (.ptr 0 0 0)), (7, vI)], [(0, some (.raw [[.lf .str, .lf (.int .u8), .lf cE, .lf cE]] 4 46 true false false))], 1⟩] [⟨none, ⟨[(2, vB)], [(0, some (.raw [[.lf .str, .lf (.int .u8), .lf cE, .lf cE]] 4 46 true false false))], 1⟩⟩, ⟨some 5, ⟨[], [(0, some (.raw [[.lf .str, .lf (.int .u8), .lf cE, .lf cE]] 4 46 true false false))], 1⟩⟩] (fun n x => qab k n x.1 x.2.1 x.2.2.1 x.2.2.2.1 x.2.2.2.2) k
theorem quO (k : Nat) : LIo 192 Tryz.f192 0 k (quN k) :=
 lpk [] (qlk k) (lc (qmh k) (lc (qpO k) l0)) (fun _ => rfl) (by kernel_rfl) fun n x => by kernel_rfl
theorem qw7 : ∀ k, qh (call cf k) (qyu k) :=
 fnk 0 [0, 5] Tryz.func192 (fun k => (qlk k)) (fun k => (lc (qmh k) (lc (qpO k) (lc (quO k) l0)))) ⟨rfl, rfl, ⟨rfl, Nat.le_of_ble_eq_true rfl⟩, rfl⟩ (fun _ => rfl) (by kernel_rfl) fun k x => by kernel_rfl

def qct (k : Nat) (rec : List Int → Int → Int → List ByteArray → List DvT → Int → Int → Int → Int → ByteArray → List Int → Int → Int → Int → Int → List (Int × Int) → List Int → ByteArray → Int → List (Int × Int) → List (Int × Int) → Option ((Bool × List ByteArray × List DvT × Int × Int × Int × Int × ByteArray × List Int × Int × Int × Int × Int × List (Int × Int) × List Int × ByteArray × Int × List (Int × Int) × List (Int × Int)) ⊕ (List ByteArray × List DvT × Int × Int × Int × Int × ByteArray × List Int × Int × Int × Int × Int × List (Int × Int) × List Int × ByteArray × Int × List (Int × Int) × List (Int × Int)))) (x : List Int) (x1 : Int) (x2 : Int) (f0 : List ByteArray) (f1 : List DvT) (f2 : Int) (f3 : Int) (f4 : Int) (d0 : Int) (d1 : ByteArray) (d2 : List Int) (d3 : Int) (d4 : Int) (d5 : Int) (d6 : Int) (d7 : List (Int × Int)) (d8 : List Int) (d9 : ByteArray) (d10 : Int) (d11 : List (Int × Int)) (d12 : List (Int × Int)) : Option ((Bool × List ByteArray × List DvT × Int × Int × Int × Int × ByteArray × List Int × Int × Int × Int × Int × List (Int × Int) × List Int × ByteArray × Int × List (Int × Int) × List (Int × Int)) ⊕ (List ByteArray × List DvT × Int × Int × Int × Int × ByteArray × List Int × Int × Int × Int × Int × List (Int × Int) × List Int × ByteArray × Int × List (Int × Int) × List (Int × Int))) :=
 if ((decide (x2 < x1)) = true) then
 if ((0 : Int) ≤ x2) then
 Option.bind (x)[(Int.toNat x2)]? fun x4 =>
 if ((decide (x4 < (0 : Int))) = false) then
 if ((decide (x4 ≥ (((List.length f0) : Nat) : Int))) = true) then
 (some (Sum.inl (false, f0, f1, f2, f3, f4, d0, d1, d2, d3, d4, d5, d6, d7, d8, d9, d10, d11, d12)))
 else
 rec x x1 (IntKind.wrap .i64 (x2 + (1 : Int))) f0 f1 f2 f3 f4 d0 d1 d2 d3 d4 d5 d6 d7 d8 d9 d10 d11 d12
 else
 (some (Sum.inl (false, f0, f1, f2, f3, f4, d0, d1, d2, d3, d4, d5, d6, d7, d8, d9, d10, d11, d12)))
 else
 none
 else
 (some (Sum.inr (f0, f1, f2, f3, f4, d0, d1, d2, d3, d4, d5, d6, d7, d8, d9, d10, d11, d12)))
def qa8 (k n : Nat) : List Int → Int → Int → List ByteArray → List DvT → Int → Int → Int → Int → ByteArray → List Int → Int → Int → Int → Int → List (Int × Int) → List Int → ByteArray → Int → List (Int × Int) → List (Int × Int) → Option ((Bool × List ByteArray × List DvT × Int × Int × Int × Int × ByteArray × List Int × Int × Int × Int × Int × List (Int × Int) × List Int × ByteArray × Int × List (Int × Int) × List (Int × Int)) ⊕ (List ByteArray × List DvT × Int × Int × Int × Int × ByteArray × List Int × Int × Int × Int × Int × List (Int × Int) × List Int × ByteArray × Int × List (Int × Int) × List (Int × Int))) := Nat.rec (fun _ _ _ _ _ _ _ _ _ _ _ _ _ _ _ _ _ _ _ _ _ => none) (fun _ r => qct k r) n
def qgn (k : Nat) (f0 : List ByteArray) (f1 : List DvT) (f2 : Int) (f3 : Int) (f4 : Int) (d0 : Int) (d1 : ByteArray) (d2 : List Int) (d3 : Int) (d4 : Int) (d5 : Int) (d6 : Int) (d7 : List (Int × Int)) (d8 : List Int) (d9 : ByteArray) (d10 : Int) (d11 : List (Int × Int)) (d12 : List (Int × Int)) : Option (Bool) :=
 if (((qgC (.int .u8) (.int .i64) (qam (.int .u8) (.int .i64) (qam (.int .u8) (.int .i64) (qam (.int .u8) (.int .i64) (qam (.int .u8) (.int .i64) (qam (.int .u8) (.int .i64) (qam (.int .u8) (.int .i64) (qam (.int .u8) (.int .i64) (qam (.int .u8) (.int .i64) (qam (.int .u8) (.int .i64) (qam (.int .u8) (.int .i64) (qam (.int .u8) (.int .i64) (qam (.int .u8) (.int .i64) [] (114 : Int) (2 : Int)) (99 : Int) (2 : Int)) (108 : Int) (2 : Int)) (118 : Int) (2 : Int)) (105 : Int) (2 : Int)) (101 : Int) (4 : Int)) (103 : Int) (4 : Int)) (102 : Int) (2 : Int)) (104 : Int) (2 : Int)) (116 : Int) (4 : Int)) (100 : Int) (2 : Int)) (115 : Int) (4 : Int)) d0 (0 : Int)) == (0 : Int)) = false) then
 if (((((List.length d2) : Nat) : Int) != (qgC (.int .u8) (.int .i64) (qam (.int .u8) (.int .i64) (qam (.int .u8) (.int .i64) (qam (.int .u8) (.int .i64) (qam (.int .u8) (.int .i64) (qam (.int .u8) (.int .i64) (qam (.int .u8) (.int .i64) (qam (.int .u8) (.int .i64) (qam (.int .u8) (.int .i64) (qam (.int .u8) (.int .i64) (qam (.int .u8) (.int .i64) (qam (.int .u8) (.int .i64) (qam (.int .u8) (.int .i64) [] (114 : Int) (2 : Int)) (99 : Int) (2 : Int)) (108 : Int) (2 : Int)) (118 : Int) (2 : Int)) (105 : Int) (2 : Int)) (101 : Int) (4 : Int)) (103 : Int) (4 : Int)) (102 : Int) (2 : Int)) (104 : Int) (2 : Int)) (116 : Int) (4 : Int)) (100 : Int) (2 : Int)) (115 : Int) (4 : Int)) d0 (0 : Int))) = false) then
 Option.bind (qeR k d1) fun r4 =>
 if ((!r4) = true) then
 (some false)
 else
 Option.bind (qa8 k k d2 (((List.length d2) : Nat) : Int) (0 : Int) f0 f1 f2 f3 f4 d0 d1 d2 d3 d4 d5 d6 d7 d8 d9 d10 d11 d12) fun r5 =>
 qc r5
 (fun r5 =>
 (some r5.1))
 (fun r5 =>
 if ((r5.2.2.2.2.2.1 == (118 : Int)) = true) then
 Option.bind (qed k r5.2.2.2.2.2.2.2.2.2.2.2.1 r5.2.2.2.2.2.2.2.2.2.2.2.2.1 r5.2.2.2.2.2.2.2.2.2.2.2.2.2.1) fun r6 =>
 if (r6 = true) then
 if ((r5.2.2.2.2.2.2.2.2.2.1 == (0 : Int)) = true) then
 if ((r5.2.2.2.2.2.2.2.2.2.2.1 == (0 : Int)) = true) then
 Option.bind (qD k r5.2.2.2.2.2.2.2.2.2.2.2.2.2.2.1 r5.2.2.2.2.2.2.2.2.2.2.2.2.2.2.2.1 r5.2.2.2.2.2.2.2.2.2.2.2.2.2.2.2.2.1 r5.2.2.2.2.2.2.2.2.2.2.2.2.2.2.2.2.2) fun r7 =>
 if (r7 = true) then
 (some (r5.2.2.2.2.2.2.2.2.1 == (0 : Int)))
 else
 (some false)
 else
 (some false)
 else
 (some false)
 else
 (some false)
 else
 if ((r5.2.2.2.2.2.1 == (105 : Int)) = true) then
 Option.bind (qed k r5.2.2.2.2.2.2.2.2.2.2.2.1 r5.2.2.2.2.2.2.2.2.2.2.2.2.1 r5.2.2.2.2.2.2.2.2.2.2.2.2.2.1) fun r6 =>
 if (r6 = true) then
 if ((r5.2.2.2.2.2.2.2.2.2.1 == (0 : Int)) = true) then
 if ((r5.2.2.2.2.2.2.2.2.2.2.1 == (0 : Int)) = true) then
 Option.bind (qD k r5.2.2.2.2.2.2.2.2.2.2.2.2.2.2.1 r5.2.2.2.2.2.2.2.2.2.2.2.2.2.2.2.1 r5.2.2.2.2.2.2.2.2.2.2.2.2.2.2.2.2.1 r5.2.2.2.2.2.2.2.2.2.2.2.2.2.2.2.2.2) fun r7 =>
 if (r7 = true) then
 (some (r5.2.2.2.2.2.2.2.2.1 == (0 : Int)))
 else
 (some false)
 else
 (some false)
 else
 (some false)
 else
 (some false)
 else
 if ((r5.2.2.2.2.2.1 == (100 : Int)) = true) then
 Option.bind (qH k r5.2.2.2.2.2.2.2.2.2.2.2.1 r5.2.2.2.2.2.2.2.2.2.2.2.2.1 r5.2.2.2.2.2.2.2.2.2.2.2.2.2.1) fun r6 =>
 if (r6 = true) then
 if ((r5.2.2.2.2.2.2.2.2.2.1 == (0 : Int)) = true) then
 if ((r5.2.2.2.2.2.2.2.2.2.2.1 == (0 : Int)) = true) then
 Option.bind (qdO k r5.2.2.2.2.2.2.2.2.2.2.2.2.2.2.1 r5.2.2.2.2.2.2.2.2.2.2.2.2.2.2.2.1 r5.2.2.2.2.2.2.2.2.2.2.2.2.2.2.2.2.1 r5.2.2.2.2.2.2.2.2.2.2.2.2.2.2.2.2.2) fun r7 =>
 if (r7 = true) then
 if ((r5.2.2.2.2.2.2.2.2.2.2.2.2.2.2.2.1 == r5.2.2.2.2.2.1) = true) then
 (some (r5.2.2.2.2.2.2.2.2.1 == (0 : Int)))
 else
 (some false)
 else
 (some false)
 else
 (some false)
 else
 (some false)
 else
 (some false)
 else
 if ((r5.2.2.2.2.2.1 == (115 : Int)) = true) then
 Option.bind (qH k r5.2.2.2.2.2.2.2.2.2.2.2.1 r5.2.2.2.2.2.2.2.2.2.2.2.2.1 r5.2.2.2.2.2.2.2.2.2.2.2.2.2.1) fun r6 =>
 if (r6 = true) then
 if ((r5.2.2.2.2.2.2.2.2.2.1 == (0 : Int)) = true) then
 if ((r5.2.2.2.2.2.2.2.2.2.2.1 == (0 : Int)) = true) then
 Option.bind (qdO k r5.2.2.2.2.2.2.2.2.2.2.2.2.2.2.1 r5.2.2.2.2.2.2.2.2.2.2.2.2.2.2.2.1 r5.2.2.2.2.2.2.2.2.2.2.2.2.2.2.2.2.1 r5.2.2.2.2.2.2.2.2.2.2.2.2.2.2.2.2.2) fun r7 =>
 if (r7 = true) then
 if ((r5.2.2.2.2.2.2.2.2.2.2.2.2.2.2.2.1 == r5.2.2.2.2.2.1) = true) then
 (some (r5.2.2.2.2.2.2.2.2.1 == (0 : Int)))
 else
 (some false)
 else
 (some false)
 else
 (some false)
 else
 (some false)
 else
 (some false)
 else
 if ((r5.2.2.2.2.2.1 == (102 : Int)) = true) then
 if ((decide (r5.2.2.2.2.2.2.2.2.1 < (0 : Int))) = false) then
 if ((decide (r5.2.2.2.2.2.2.2.2.1 ≥ (((List.length r5.2.1) : Nat) : Int))) = false) then
 if ((0 : Int) ≤ r5.2.2.2.2.2.2.2.2.1) then
 Option.bind (r5.2.1)[(Int.toNat r5.2.2.2.2.2.2.2.2.1)]? fun x4 =>
 if ((x4.1 != (118 : Int)) = true) then
 (some false)
 else
 if ((r5.2.2.2.2.2.1 == (114 : Int)) = false) then
 if ((r5.2.2.2.2.2.1 == (99 : Int)) = false) then
 Option.bind (qW k r5.2.2.2.2.2.2.2.2.2.1 r5.2.2.2.2.2.2.2.2.2.2.1) fun r6 =>
 if (r6 = true) then
 if ((r5.2.2.2.2.2.2.2.2.2.1 != (0 : Int)) = false) then
 if ((!(r5.2.2.2.2.2.1 == (108 : Int))) = true) then
 Option.bind (qH k r5.2.2.2.2.2.2.2.2.2.2.2.1 r5.2.2.2.2.2.2.2.2.2.2.2.2.1 r5.2.2.2.2.2.2.2.2.2.2.2.2.2.1) fun r7 =>
 if (r7 = true) then
 Option.bind (qD k r5.2.2.2.2.2.2.2.2.2.2.2.2.2.2.1 r5.2.2.2.2.2.2.2.2.2.2.2.2.2.2.2.1 r5.2.2.2.2.2.2.2.2.2.2.2.2.2.2.2.2.1 r5.2.2.2.2.2.2.2.2.2.2.2.2.2.2.2.2.2) fun r8 =>
 (some r8)
 else
 (some false)
 else
 (some false)
 else
 Option.bind (qH k r5.2.2.2.2.2.2.2.2.2.2.2.1 r5.2.2.2.2.2.2.2.2.2.2.2.2.1 r5.2.2.2.2.2.2.2.2.2.2.2.2.2.1) fun r7 =>
 if (r7 = true) then
 Option.bind (qD k r5.2.2.2.2.2.2.2.2.2.2.2.2.2.2.1 r5.2.2.2.2.2.2.2.2.2.2.2.2.2.2.2.1 r5.2.2.2.2.2.2.2.2.2.2.2.2.2.2.2.2.1 r5.2.2.2.2.2.2.2.2.2.2.2.2.2.2.2.2.2) fun r8 =>
 (some r8)
 else
 (some false)
 else
 (some false)
 else
 Option.bind (qW k r5.2.2.2.2.2.2.2.2.2.1 r5.2.2.2.2.2.2.2.2.2.2.1) fun r6 =>
 if (r6 = true) then
 if ((r5.2.2.2.2.2.2.2.2.2.1 != (0 : Int)) = false) then
 (some false)
 else
 Option.bind (qH k r5.2.2.2.2.2.2.2.2.2.2.2.1 r5.2.2.2.2.2.2.2.2.2.2.2.2.1 r5.2.2.2.2.2.2.2.2.2.2.2.2.2.1) fun r7 =>
 if (r7 = true) then
 Option.bind (qD k r5.2.2.2.2.2.2.2.2.2.2.2.2.2.2.1 r5.2.2.2.2.2.2.2.2.2.2.2.2.2.2.2.1 r5.2.2.2.2.2.2.2.2.2.2.2.2.2.2.2.2.1 r5.2.2.2.2.2.2.2.2.2.2.2.2.2.2.2.2.2) fun r8 =>
 (some r8)
 else
 (some false)
 else
 (some false)
 else
 Option.bind (qW k r5.2.2.2.2.2.2.2.2.2.1 r5.2.2.2.2.2.2.2.2.2.2.1) fun r6 =>
 if (r6 = true) then
 if ((r5.2.2.2.2.2.2.2.2.2.1 != (0 : Int)) = false) then
 (some false)
 else
 Option.bind (qH k r5.2.2.2.2.2.2.2.2.2.2.2.1 r5.2.2.2.2.2.2.2.2.2.2.2.2.1 r5.2.2.2.2.2.2.2.2.2.2.2.2.2.1) fun r7 =>
 if (r7 = true) then
 Option.bind (qD k r5.2.2.2.2.2.2.2.2.2.2.2.2.2.2.1 r5.2.2.2.2.2.2.2.2.2.2.2.2.2.2.2.1 r5.2.2.2.2.2.2.2.2.2.2.2.2.2.2.2.2.1 r5.2.2.2.2.2.2.2.2.2.2.2.2.2.2.2.2.2) fun r8 =>
 (some r8)
 else
 (some false)
 else
 (some false)
 else
 none
 else
 (some false)
 else
 (some false)
 else
 if ((r5.2.2.2.2.2.1 == (104 : Int)) = true) then
 if ((decide (r5.2.2.2.2.2.2.2.2.1 < (0 : Int))) = false) then
 if ((decide (r5.2.2.2.2.2.2.2.2.1 ≥ (((List.length r5.2.1) : Nat) : Int))) = false) then
 if ((0 : Int) ≤ r5.2.2.2.2.2.2.2.2.1) then
 Option.bind (r5.2.1)[(Int.toNat r5.2.2.2.2.2.2.2.2.1)]? fun x4 =>
 if ((x4.1 != (118 : Int)) = true) then
 (some false)
 else
 if ((r5.2.2.2.2.2.1 == (114 : Int)) = false) then
 if ((r5.2.2.2.2.2.1 == (99 : Int)) = false) then
 Option.bind (qW k r5.2.2.2.2.2.2.2.2.2.1 r5.2.2.2.2.2.2.2.2.2.2.1) fun r6 =>
 if (r6 = true) then
 if ((r5.2.2.2.2.2.2.2.2.2.1 != (0 : Int)) = false) then
 if ((!(r5.2.2.2.2.2.1 == (108 : Int))) = true) then
 Option.bind (qH k r5.2.2.2.2.2.2.2.2.2.2.2.1 r5.2.2.2.2.2.2.2.2.2.2.2.2.1 r5.2.2.2.2.2.2.2.2.2.2.2.2.2.1) fun r7 =>
 if (r7 = true) then
 Option.bind (qD k r5.2.2.2.2.2.2.2.2.2.2.2.2.2.2.1 r5.2.2.2.2.2.2.2.2.2.2.2.2.2.2.2.1 r5.2.2.2.2.2.2.2.2.2.2.2.2.2.2.2.2.1 r5.2.2.2.2.2.2.2.2.2.2.2.2.2.2.2.2.2) fun r8 =>
 (some r8)
 else
 (some false)
 else
 (some false)
 else
 Option.bind (qH k r5.2.2.2.2.2.2.2.2.2.2.2.1 r5.2.2.2.2.2.2.2.2.2.2.2.2.1 r5.2.2.2.2.2.2.2.2.2.2.2.2.2.1) fun r7 =>
 if (r7 = true) then
 Option.bind (qD k r5.2.2.2.2.2.2.2.2.2.2.2.2.2.2.1 r5.2.2.2.2.2.2.2.2.2.2.2.2.2.2.2.1 r5.2.2.2.2.2.2.2.2.2.2.2.2.2.2.2.2.1 r5.2.2.2.2.2.2.2.2.2.2.2.2.2.2.2.2.2) fun r8 =>
 (some r8)
 else
 (some false)
 else
 (some false)
 else
 Option.bind (qW k r5.2.2.2.2.2.2.2.2.2.1 r5.2.2.2.2.2.2.2.2.2.2.1) fun r6 =>
 if (r6 = true) then
 if ((r5.2.2.2.2.2.2.2.2.2.1 != (0 : Int)) = false) then
 (some false)
 else
 Option.bind (qH k r5.2.2.2.2.2.2.2.2.2.2.2.1 r5.2.2.2.2.2.2.2.2.2.2.2.2.1 r5.2.2.2.2.2.2.2.2.2.2.2.2.2.1) fun r7 =>
 if (r7 = true) then
 Option.bind (qD k r5.2.2.2.2.2.2.2.2.2.2.2.2.2.2.1 r5.2.2.2.2.2.2.2.2.2.2.2.2.2.2.2.1 r5.2.2.2.2.2.2.2.2.2.2.2.2.2.2.2.2.1 r5.2.2.2.2.2.2.2.2.2.2.2.2.2.2.2.2.2) fun r8 =>
 (some r8)
 else
 (some false)
 else
 (some false)
 else
 Option.bind (qW k r5.2.2.2.2.2.2.2.2.2.1 r5.2.2.2.2.2.2.2.2.2.2.1) fun r6 =>
 if (r6 = true) then
 if ((r5.2.2.2.2.2.2.2.2.2.1 != (0 : Int)) = false) then
 (some false)
 else
 Option.bind (qH k r5.2.2.2.2.2.2.2.2.2.2.2.1 r5.2.2.2.2.2.2.2.2.2.2.2.2.1 r5.2.2.2.2.2.2.2.2.2.2.2.2.2.1) fun r7 =>
 if (r7 = true) then
 Option.bind (qD k r5.2.2.2.2.2.2.2.2.2.2.2.2.2.2.1 r5.2.2.2.2.2.2.2.2.2.2.2.2.2.2.2.1 r5.2.2.2.2.2.2.2.2.2.2.2.2.2.2.2.2.1 r5.2.2.2.2.2.2.2.2.2.2.2.2.2.2.2.2.2) fun r8 =>
 (some r8)
 else
 (some false)
 else
 (some false)
 else
 none
 else
 (some false)
 else
 (some false)
 else
 if ((r5.2.2.2.2.2.2.2.2.1 != (0 : Int)) = true) then
 (some false)
 else
 if ((r5.2.2.2.2.2.1 == (114 : Int)) = false) then
 if ((r5.2.2.2.2.2.1 == (99 : Int)) = false) then
 Option.bind (qW k r5.2.2.2.2.2.2.2.2.2.1 r5.2.2.2.2.2.2.2.2.2.2.1) fun r6 =>
 if (r6 = true) then
 if ((r5.2.2.2.2.2.2.2.2.2.1 != (0 : Int)) = false) then
 if ((!(r5.2.2.2.2.2.1 == (108 : Int))) = true) then
 Option.bind (qH k r5.2.2.2.2.2.2.2.2.2.2.2.1 r5.2.2.2.2.2.2.2.2.2.2.2.2.1 r5.2.2.2.2.2.2.2.2.2.2.2.2.2.1) fun r7 =>
 if (r7 = true) then
 Option.bind (qD k r5.2.2.2.2.2.2.2.2.2.2.2.2.2.2.1 r5.2.2.2.2.2.2.2.2.2.2.2.2.2.2.2.1 r5.2.2.2.2.2.2.2.2.2.2.2.2.2.2.2.2.1 r5.2.2.2.2.2.2.2.2.2.2.2.2.2.2.2.2.2) fun r8 =>
 (some r8)
 else
 (some false)
 else
 (some false)
 else
 Option.bind (qH k r5.2.2.2.2.2.2.2.2.2.2.2.1 r5.2.2.2.2.2.2.2.2.2.2.2.2.1 r5.2.2.2.2.2.2.2.2.2.2.2.2.2.1) fun r7 =>
 if (r7 = true) then
 Option.bind (qD k r5.2.2.2.2.2.2.2.2.2.2.2.2.2.2.1 r5.2.2.2.2.2.2.2.2.2.2.2.2.2.2.2.1 r5.2.2.2.2.2.2.2.2.2.2.2.2.2.2.2.2.1 r5.2.2.2.2.2.2.2.2.2.2.2.2.2.2.2.2.2) fun r8 =>
 (some r8)
 else
 (some false)
 else
 (some false)
 else
 Option.bind (qW k r5.2.2.2.2.2.2.2.2.2.1 r5.2.2.2.2.2.2.2.2.2.2.1) fun r6 =>
 if (r6 = true) then
 if ((r5.2.2.2.2.2.2.2.2.2.1 != (0 : Int)) = false) then
 (some false)
 else
 Option.bind (qH k r5.2.2.2.2.2.2.2.2.2.2.2.1 r5.2.2.2.2.2.2.2.2.2.2.2.2.1 r5.2.2.2.2.2.2.2.2.2.2.2.2.2.1) fun r7 =>
 if (r7 = true) then
 Option.bind (qD k r5.2.2.2.2.2.2.2.2.2.2.2.2.2.2.1 r5.2.2.2.2.2.2.2.2.2.2.2.2.2.2.2.1 r5.2.2.2.2.2.2.2.2.2.2.2.2.2.2.2.2.1 r5.2.2.2.2.2.2.2.2.2.2.2.2.2.2.2.2.2) fun r8 =>
 (some r8)
 else
 (some false)
 else
 (some false)
 else
 Option.bind (qW k r5.2.2.2.2.2.2.2.2.2.1 r5.2.2.2.2.2.2.2.2.2.2.1) fun r6 =>
 if (r6 = true) then
 if ((r5.2.2.2.2.2.2.2.2.2.1 != (0 : Int)) = false) then
 (some false)
 else
 Option.bind (qH k r5.2.2.2.2.2.2.2.2.2.2.2.1 r5.2.2.2.2.2.2.2.2.2.2.2.2.1 r5.2.2.2.2.2.2.2.2.2.2.2.2.2.1) fun r7 =>
 if (r7 = true) then
 Option.bind (qD k r5.2.2.2.2.2.2.2.2.2.2.2.2.2.2.1 r5.2.2.2.2.2.2.2.2.2.2.2.2.2.2.2.1 r5.2.2.2.2.2.2.2.2.2.2.2.2.2.2.2.2.1 r5.2.2.2.2.2.2.2.2.2.2.2.2.2.2.2.2.2) fun r8 =>
 (some r8)
 else
 (some false)
 else
 (some false))
 else
 (some false)
 else
 (some false)
def qfj : Nat → List ByteArray → List DvT → Int → Int → Int → Int → ByteArray → List Int → Int → Int → Int → Int → List (Int × Int) → List Int → ByteArray → Int → List (Int × Int) → List (Int × Int) → Option (Bool)
 | 0, _, _, _, _, _, _, _, _, _, _, _, _, _, _, _, _, _, _ => none
 | k + 1, f0, f1, f2, f3, f4, d0, d1, d2, d3, d4, d5, d6, d7, d8, d9, d10, d11, d12 => qgn k f0 f1 f2 f3 f4 d0 d1 d2 d3 d4 d5 d6 d7 d8 d9 d10 d11 d12
def qyv : Nat → Inst := mkI 185 ⟨[.g [.lf (.sl .str), .lf (.sl qG), .lf (.int .i64), .lf (.int .i64), .lf (.int .i64)], .g [.lf (.int .u8), .lf .str, .lf (.sl (.int .i64)), .lf (.int .i64), .lf (.int .i64), .lf (.int .i64), .lf (.int .i64), .lf cE, .lf (.sl (.int .i64)), .lf .str, .lf (.int .u8), .lf cE, .lf cE]], []⟩ [⟨[vB], []⟩] fun k x => qfj k x.1 x.2.1 x.2.2.1 x.2.2.2.1 x.2.2.2.2.1 x.2.2.2.2.2.1 x.2.2.2.2.2.2.1 x.2.2.2.2.2.2.2.1 x.2.2.2.2.2.2.2.2.1 x.2.2.2.2.2.2.2.2.2.1 x.2.2.2.2.2.2.2.2.2.2.1 x.2.2.2.2.2.2.2.2.2.2.2.1 x.2.2.2.2.2.2.2.2.2.2.2.2.1 x.2.2.2.2.2.2.2.2.2.2.2.2.2.1 x.2.2.2.2.2.2.2.2.2.2.2.2.2.2.1 x.2.2.2.2.2.2.2.2.2.2.2.2.2.2.2.1 x.2.2.2.2.2.2.2.2.2.2.2.2.2.2.2.2.1 x.2.2.2.2.2.2.2.2.2.2.2.2.2.2.2.2.2
def qsg (k : Nat) := ac (qsa k) (ac (qwJ k) (ac (qwK k) (ac (qwL k) (ac (qw7 k) (ac (qjU k) a0)))))
def quP (k : Nat) : LInst := mkL 0 [⟨[(2, .a (.ptr 0 0 0)), (3, .a (.ptr 1 0 0)), (30, vJ), (31, vI), (32, vI)], [(0, some (.raw [[.lf (.sl .str), .lf (.sl qG), .lf (.int .i64), .lf (.int .i64), .lf (.int .i64)]] 5 27 true false false)), (1, some (.raw [[.lf (.int .u8), .lf .str, .lf (.sl (.int .i64)), .lf (.int .i64), .lf (.int .i64), .lf (.int .i64), .lf (.int .i64), .lf cE, .lf (.sl (.int .i64)), .lf .str, .lf (.int .u8), .lf cE, .lf cE]] 13 48 true false false))], 2⟩] [⟨none, ⟨[(4, vB)], [(0, some (.raw [[.lf (.sl .str), .lf (.sl qG), .lf (.int .i64), .lf (.int .i64), .lf (.int .i64)]] 5 27 true false false)), (1, some (.raw [[.lf (.int .u8), .lf .str, .lf (.sl (.int .i64)), .lf (.int .i64), .lf (.int .i64), .lf (.int .i64), .lf (.int .i64), .lf cE, .lf (.sl (.int .i64)), .lf .str, .lf (.int .u8), .lf cE, .lf cE]] 13 48 true false false))], 2⟩⟩, ⟨some 0, ⟨[(2, .a (.ptr 0 0 0)), (3, .a (.ptr 1 0 0))], [(0, some (.raw [[.lf (.sl .str), .lf (.sl qG), .lf (.int .i64), .lf (.int .i64), .lf (.int .i64)]] 5 27 true false false)), (1, some (.raw [[.lf (.int .u8), .lf .str, .lf (.sl (.int .i64)), .lf (.int .i64), .lf (.int .i64), .lf (.int .i64), .lf (.int .i64), .lf cE, .lf (.sl (.int .i64)), .lf .str, .lf (.int .u8), .lf cE, .lf cE]] 13 48 true false false))], 2⟩⟩] (fun n x => qa8 k n x.1 x.2.1 x.2.2.1 x.2.2.2.1 x.2.2.2.2.1 x.2.2.2.2.2.1 x.2.2.2.2.2.2.1 x.2.2.2.2.2.2.2.1 x.2.2.2.2.2.2.2.2.1 x.2.2.2.2.2.2.2.2.2.1 x.2.2.2.2.2.2.2.2.2.2.1 x.2.2.2.2.2.2.2.2.2.2.2.1 x.2.2.2.2.2.2.2.2.2.2.2.2.1 x.2.2.2.2.2.2.2.2.2.2.2.2.2.1 x.2.2.2.2.2.2.2.2.2.2.2.2.2.2.1 x.2.2.2.2.2.2.2.2.2.2.2.2.2.2.2.1 x.2.2.2.2.2.2.2.2.2.2.2.2.2.2.2.2.1 x.2.2.2.2.2.2.2.2.2.2.2.2.2.2.2.2.2.1 x.2.2.2.2.2.2.2.2.2.2.2.2.2.2.2.2.2.2.1 x.2.2.2.2.2.2.2.2.2.2.2.2.2.2.2.2.2.2.2.1 x.2.2.2.2.2.2.2.2.2.2.2.2.2.2.2.2.2.2.2.2) k
theorem quQ (k : Nat) : LIo 185 Tryz.f185 0 k (quP k) :=
 lpk [] (qsg k) l0 (fun _ => rfl) (by kernel_rfl) fun n x => by kernel_rfl
theorem qw8 : ∀ k, qh (call cf k) (qyv k) :=
 fnk 0 [0] Tryz.func185 (fun k => (qsg k)) (fun k => (lc (quQ k) l0)) ⟨rfl, rfl, ⟨rfl, Nat.le_of_ble_eq_true rfl⟩, rfl⟩ (fun _ => rfl) (by kernel_rfl) fun k x => by kernel_rfl

def qeE (k : Nat) (s : ByteArray) (c : Int) : Option (Int) :=
 (some (qbW s c))
def qas : Nat → ByteArray → Int → Option (Int)
 | 0, _, _ => none
 | k + 1, s, c => qeE k s c
def qjZ : FS := ⟨[vS, .a (.lf (.int .u8))], []⟩
def qll : List FS := [⟨[vI], []⟩]
def qyw (k : Nat) : Inst := ⟨59, qjZ, qll, fun x => qas k x.1 x.2⟩
theorem qw9 (k : Nat) (x : qjZ.D) : qas (k + 1) x.1 x.2 = (qgL) (DS FS.D qll) (qjZ.enc x).1 (qjZ.enc x).2 (qgc FS.dec qll) := by kernel_rfl
theorem qsh : ∀ k, qh (call cf k) (qyw k)
 | 0 => fun x y e => absurd (show (none : Option _) = some y from e) (by simp)
 | k + 1 => qjb (c := cf) (k := k) (f := 59) (g := qeP) (G := qgL) (sh := qjZ) (os := qll) rfl (qkX) (fun x => qas (k + 1) x.1 x.2) (qw9 k)

def qdP (k : Nat) (rec : Int → Nat → List DvT → Int → Int → List Int → Option (Int × Nat × List Int)) (n : Int) (branch : Nat) (x : List DvT) (x1 : Int) (x2 : Int) (branchs : List Int) : Option (Int × Nat × List Int) :=
 if ((decide (x2 < x1)) = true) then
 if ((0 : Int) ≤ x2) then
 Option.bind (x)[(Int.toNat x2)]? fun x3 =>
 Option.bind (qas k (ByteArray.mk (List.toArray (118 :: (101 :: (104 :: (99 :: (108 :: (116 :: [])))))))) x3.1) fun r6 =>
 if ((decide (r6 ≥ (0 : Int))) = true) then
 if (branch ≤ (List.length branchs)) then
 if (((branch + (List.length (List.take 1 (n :: [])))) * 8) ≤ 140737488355328) then
 rec (IntKind.wrap .i64 (n + (1 : Int))) (branch + (List.length (List.take 1 (n :: [])))) x x1 (IntKind.wrap .i64 (x2 + (1 : Int))) ((List.take branch branchs) ++ (List.take 1 (n :: [])))
 else
 none
 else
 none
 else
 if (branch ≤ (List.length branchs)) then
 if (((branch + 1) * 8) ≤ 140737488355328) then
 rec n (branch + 1) x x1 (IntKind.wrap .i64 (x2 + (1 : Int))) ((List.take branch branchs) ++ (List.take 1 ((-(1 : Int)) :: [])))
 else
 none
 else
 none
 else
 none
 else
 (some (n, branch, branchs))
def qcT (k n : Nat) : Int → Nat → List DvT → Int → Int → List Int → Option (Int × Nat × List Int) := Nat.rec (fun _ _ _ _ _ _ => none) (fun _ r => qdP k r) n
def qhq (k : Nat) (f0 : List ByteArray) (f1 : List DvT) (f2 : Int) (f3 : Int) (f4 : Int) : Option (Int × List Int) :=
 Option.bind (qcT k k (IntKind.wrap .i64 ((((List.length f0) : Nat) : Int) - (1 : Int))) 0 f1 (((List.length f1) : Nat) : Int) (0 : Int) []) fun r6 =>
 if ((0 + r6.2.1) ≤ (List.length r6.2.2)) then
 (some (r6.1, (List.take r6.2.1 r6.2.2)))
 else
 none
def qc5 : Nat → List ByteArray → List DvT → Int → Int → Int → Option (Int × List Int)
 | 0, _, _, _, _, _ => none
 | k + 1, f0, f1, f2, f3, f4 => qhq k f0 f1 f2 f3 f4
def qyx : Nat → Inst := mkI 186 ⟨[.g [.lf (.sl .str), .lf (.sl qG), .lf (.int .i64), .lf (.int .i64), .lf (.int .i64)]], []⟩ [⟨[vI, vJ], []⟩] fun k x => qc5 k x.1 x.2.1 x.2.2.1 x.2.2.2.1 x.2.2.2.2
def qsi (k : Nat) := ac (qsh k) a0
def quR (k : Nat) : LInst := mkL 0 [⟨[(4, vI), (5, .a (.smz 0)), (14, .a (.lf (.sl qG))), (15, vI), (16, vI)], [(0, some (.arr (.int .i64) 1 3 false))], 1⟩] [⟨some 0, ⟨[(4, vI), (5, .a (.smz 0))], [(0, some (.arr (.int .i64) 1 3 false))], 1⟩⟩] (fun n x => qcT k n x.1 x.2.1 x.2.2.1 x.2.2.2.1 x.2.2.2.2.1 x.2.2.2.2.2) k
theorem quS (k : Nat) : LIo 186 Tryz.f186 0 k (quR k) :=
 lpk [] (qsi k) l0 (fun _ => rfl) (by kernel_rfl) fun n x => by kernel_rfl
theorem qxa : ∀ k, qh (call cf k) (qyx k) :=
 fnk 0 [0] Tryz.func186 (fun k => (qsi k)) (fun k => (lc (quS k) l0)) ⟨rfl, rfl, ⟨rfl, Nat.le_of_ble_eq_true rfl⟩, rfl⟩ (fun _ => rfl) (by kernel_rfl) fun k x => by kernel_rfl

def qcu (k : Nat) (rec : List ByteArray → Int → Int → List ByteArray → List DvT → Int → Int → Int → Option ((Int × List ByteArray × List DvT × Int × Int × Int) ⊕ (List ByteArray × List DvT × Int × Int × Int))) (x : List ByteArray) (x1 : Int) (x2 : Int) (f0 : List ByteArray) (f1 : List DvT) (f2 : Int) (f3 : Int) (f4 : Int) : Option ((Int × List ByteArray × List DvT × Int × Int × Int) ⊕ (List ByteArray × List DvT × Int × Int × Int)) :=
 if ((decide (x2 < x1)) = true) then
 if ((0 : Int) ≤ x2) then
 Option.bind (x)[(Int.toNat x2)]? fun x3 =>
 Option.bind (qeR k x3) fun r3 =>
 if ((!r3) = true) then
 (some (Sum.inl ((90 : Int), f0, f1, f2, f3, f4)))
 else
 rec x x1 (IntKind.wrap .i64 (x2 + (1 : Int))) f0 f1 f2 f3 f4
 else
 none
 else
 (some (Sum.inr (f0, f1, f2, f3, f4)))
def qaG (k n : Nat) : List ByteArray → Int → Int → List ByteArray → List DvT → Int → Int → Int → Option ((Int × List ByteArray × List DvT × Int × Int × Int) ⊕ (List ByteArray × List DvT × Int × Int × Int)) := Nat.rec (fun _ _ _ _ _ _ _ _ => none) (fun _ r => qcu k r) n
def qcv (k : Nat) (rec : Nat → List DvT → Int → Int → List ByteArray → List DvT → Int → Int → Int → List ByteArray → Option ((Int × List ByteArray × List DvT × Int × Int × Int × List ByteArray × Int × ByteArray × List Int × Int × Int × Int × Int × List (Int × Int) × List Int × ByteArray × Int × List (Int × Int) × List (Int × Int)) ⊕ (Nat × List ByteArray × List DvT × Int × Int × Int × List ByteArray))) (qbL : Nat) (x : List DvT) (x1 : Int) (x2 : Int) (f0 : List ByteArray) (f1 : List DvT) (f2 : Int) (f3 : Int) (f4 : Int) (namess : List ByteArray) : Option ((Int × List ByteArray × List DvT × Int × Int × Int × List ByteArray × Int × ByteArray × List Int × Int × Int × Int × Int × List (Int × Int) × List Int × ByteArray × Int × List (Int × Int) × List (Int × Int)) ⊕ (Nat × List ByteArray × List DvT × Int × Int × Int × List ByteArray)) :=
 if ((decide (x2 < x1)) = true) then
 if ((0 : Int) ≤ x2) then
 Option.bind (x)[(Int.toNat x2)]? fun x3 =>
 Option.bind (qfj k f0 f1 f2 f3 f4 x3.1 x3.2.1 x3.2.2.1 x3.2.2.2.1 x3.2.2.2.2.1.1 x3.2.2.2.2.1.2 x3.2.2.2.2.2.1.1 x3.2.2.2.2.2.1.2.1 x3.2.2.2.2.2.1.2.2 x3.2.2.2.2.2.2.1 x3.2.2.2.2.2.2.2.1 x3.2.2.2.2.2.2.2.2.1 x3.2.2.2.2.2.2.2.2.2) fun r4 =>
 if ((!r4) = true) then
 (some (Sum.inl ((90 : Int), f0, f1, f2, f3, f4, namess, x3.1, x3.2.1, x3.2.2.1, x3.2.2.2.1, x3.2.2.2.2.1.1, x3.2.2.2.2.1.2, x3.2.2.2.2.2.1.1, x3.2.2.2.2.2.1.2.1, x3.2.2.2.2.2.1.2.2, x3.2.2.2.2.2.2.1, x3.2.2.2.2.2.2.2.1, x3.2.2.2.2.2.2.2.2.1, x3.2.2.2.2.2.2.2.2.2)))
 else
 if (qbL ≤ (List.length namess)) then
 if (((qbL + (List.length (List.take 1 (x3.2.1 :: [])))) * 16) ≤ 140737488355328) then
 rec (qbL + (List.length (List.take 1 (x3.2.1 :: [])))) x x1 (IntKind.wrap .i64 (x2 + (1 : Int))) f0 f1 f2 f3 f4 ((List.take qbL namess) ++ (List.take 1 (x3.2.1 :: [])))
 else
 none
 else
 none
 else
 none
 else
 (some (Sum.inr (qbL, f0, f1, f2, f3, f4, namess)))
def qaq (k n : Nat) : Nat → List DvT → Int → Int → List ByteArray → List DvT → Int → Int → Int → List ByteArray → Option ((Int × List ByteArray × List DvT × Int × Int × Int × List ByteArray × Int × ByteArray × List Int × Int × Int × Int × Int × List (Int × Int) × List Int × ByteArray × Int × List (Int × Int) × List (Int × Int)) ⊕ (Nat × List ByteArray × List DvT × Int × Int × Int × List ByteArray)) := Nat.rec (fun _ _ _ _ _ _ _ _ _ _ => none) (fun _ r => qcv k r) n
def qgo (k : Nat) (f0 : List ByteArray) (f1 : List DvT) (f2 : Int) (f3 : Int) (f4 : Int) : Option (Int) :=
 Option.bind (qW k f2 f3) fun r1 =>
 if ((!r1) = false) then
 if ((decide (f2 ≤ (0 : Int))) = false) then
 if ((f4 != (1 : Int)) = true) then
 if ((f4 != (2 : Int)) = true) then
 (some (90 : Int))
 else
 if ((decide ((((List.length f0) : Nat) : Int) < (1 : Int))) = false) then
 if ((decide ((((List.length f0) : Nat) : Int) > (32 : Int))) = false) then
 Option.bind (f0)[0]? fun x =>
 if ((!((Array.toList (ByteArray.data x)) == (Array.toList (ByteArray.data (ByteArray.mk (List.toArray (48 :: []))))))) = false) then
 if ((decide ((((List.length f1) : Nat) : Int) > (64 : Int))) = false) then
 Option.bind (qbS k f0) fun r2 =>
 if (r2 = true) then
 (some (90 : Int))
 else
 Option.bind (qaG k k f0 (((List.length f0) : Nat) : Int) (0 : Int) f0 f1 f2 f3 f4) fun r3 =>
 qc r3
 (fun r3 =>
 (some r3.1))
 (fun r3 =>
 Option.bind (qaq k k 0 r3.2.1 (((List.length r3.2.1) : Nat) : Int) (0 : Int) r3.1 r3.2.1 r3.2.2.1 r3.2.2.2.1 r3.2.2.2.2 []) fun r4 =>
 qc r4
 (fun r4 =>
 (some r4.1))
 (fun r4 =>
 if ((0 + r4.1) ≤ (List.length r4.2.2.2.2.2.2)) then
 Option.bind (qbS k (List.take r4.1 r4.2.2.2.2.2.2)) fun r5 =>
 if (r5 = true) then
 (some (90 : Int))
 else
 Option.bind (qc5 k r4.2.1 r4.2.2.1 r4.2.2.2.1 r4.2.2.2.2.1 r4.2.2.2.2.2.1) fun r6 =>
 if ((decide (r6.1 > (48 : Int))) = true) then
 (some (5 : Int))
 else
 (some (0 : Int))
 else
 none))
 else
 (some (90 : Int))
 else
 (some (90 : Int))
 else
 (some (90 : Int))
 else
 (some (90 : Int))
 else
 if ((decide ((((List.length f0) : Nat) : Int) < (1 : Int))) = false) then
 if ((decide ((((List.length f0) : Nat) : Int) > (32 : Int))) = false) then
 Option.bind (f0)[0]? fun x =>
 if ((!((Array.toList (ByteArray.data x)) == (Array.toList (ByteArray.data (ByteArray.mk (List.toArray (48 :: []))))))) = false) then
 if ((decide ((((List.length f1) : Nat) : Int) > (64 : Int))) = false) then
 Option.bind (qbS k f0) fun r2 =>
 if (r2 = true) then
 (some (90 : Int))
 else
 Option.bind (qaG k k f0 (((List.length f0) : Nat) : Int) (0 : Int) f0 f1 f2 f3 f4) fun r3 =>
 qc r3
 (fun r3 =>
 (some r3.1))
 (fun r3 =>
 Option.bind (qaq k k 0 r3.2.1 (((List.length r3.2.1) : Nat) : Int) (0 : Int) r3.1 r3.2.1 r3.2.2.1 r3.2.2.2.1 r3.2.2.2.2 []) fun r4 =>
 qc r4
 (fun r4 =>
 (some r4.1))
 (fun r4 =>
 if ((0 + r4.1) ≤ (List.length r4.2.2.2.2.2.2)) then
 Option.bind (qbS k (List.take r4.1 r4.2.2.2.2.2.2)) fun r5 =>
 if (r5 = true) then
 (some (90 : Int))
 else
 Option.bind (qc5 k r4.2.1 r4.2.2.1 r4.2.2.2.1 r4.2.2.2.2.1 r4.2.2.2.2.2.1) fun r6 =>
 if ((decide (r6.1 > (48 : Int))) = true) then
 (some (5 : Int))
 else
 (some (0 : Int))
 else
 none))
 else
 (some (90 : Int))
 else
 (some (90 : Int))
 else
 (some (90 : Int))
 else
 (some (90 : Int))
 else
 (some (90 : Int))
 else
 (some (90 : Int))
def qeg : Nat → List ByteArray → List DvT → Int → Int → Int → Option (Int)
 | 0, _, _, _, _, _ => none
 | k + 1, f0, f1, f2, f3, f4 => qgo k f0 f1 f2 f3 f4
def qyy : Nat → Inst := mkI 120 ⟨[.g [.lf (.sl .str), .lf (.sl qG), .lf (.int .i64), .lf (.int .i64), .lf (.int .i64)]], []⟩ [⟨[vI], []⟩] fun k x => qeg k x.1 x.2.1 x.2.2.1 x.2.2.2.1 x.2.2.2.2
def qou (k : Nat) := ac (qjU k) (ac (qww k) (ac (qsa k) (ac (qw8 k) (ac (qxa k) a0))))
def quT (k : Nat) : LInst := mkL 0 [⟨[(1, .a (.ptr 0 0 0)), (59, vR), (60, vI), (61, vI)], [(0, some (.raw [[.lf (.sl .str), .lf (.sl qG), .lf (.int .i64), .lf (.int .i64), .lf (.int .i64)]] 5 27 true false false))], 1⟩] [⟨none, ⟨[(2, vI)], [(0, some (.raw [[.lf (.sl .str), .lf (.sl qG), .lf (.int .i64), .lf (.int .i64), .lf (.int .i64)]] 5 27 true false false))], 1⟩⟩, ⟨some 0, ⟨[(1, .a (.ptr 0 0 0))], [(0, some (.raw [[.lf (.sl .str), .lf (.sl qG), .lf (.int .i64), .lf (.int .i64), .lf (.int .i64)]] 5 27 true false false))], 1⟩⟩] (fun n x => qaG k n x.1 x.2.1 x.2.2.1 x.2.2.2.1 x.2.2.2.2.1 x.2.2.2.2.2.1 x.2.2.2.2.2.2.1 x.2.2.2.2.2.2.2) k
theorem qpP (k : Nat) : LIo 120 Tryz.f120 0 k (quT k) :=
 lpk [] (qou k) l0 (fun _ => rfl) (by kernel_rfl) fun n x => by kernel_rfl
def quU (k : Nat) : LInst := mkL 2 [⟨[(1, .a (.ptr 0 0 0)), (5, .a (.smz 1)), (70, .a (.lf (.sl qG))), (71, vI), (72, vI)], [(0, some (.raw [[.lf (.sl .str), .lf (.sl qG), .lf (.int .i64), .lf (.int .i64), .lf (.int .i64)]] 5 27 true false false)), (1, some (.arr .str 1 9 false))], 2⟩] [⟨none, ⟨[(2, vI)], [(0, some (.raw [[.lf (.sl .str), .lf (.sl qG), .lf (.int .i64), .lf (.int .i64), .lf (.int .i64)]] 5 27 true false false)), (1, some (.arr .str 1 9 false)), (2, some (.raw [[.lf (.int .u8), .lf .str, .lf (.sl (.int .i64)), .lf (.int .i64), .lf (.int .i64), .lf (.int .i64), .lf (.int .i64), .lf cE, .lf (.sl (.int .i64)), .lf .str, .lf (.int .u8), .lf cE, .lf cE]] 13 48 true false false))], 3⟩⟩, ⟨some 2, ⟨[(1, .a (.ptr 0 0 0)), (5, .a (.smz 1))], [(0, some (.raw [[.lf (.sl .str), .lf (.sl qG), .lf (.int .i64), .lf (.int .i64), .lf (.int .i64)]] 5 27 true false false)), (1, some (.arr .str 1 9 false))], 2⟩⟩] (fun n x => qaq k n x.1 x.2.1 x.2.2.1 x.2.2.2.1 x.2.2.2.2.1 x.2.2.2.2.2.1 x.2.2.2.2.2.2.1 x.2.2.2.2.2.2.2.1 x.2.2.2.2.2.2.2.2.1 x.2.2.2.2.2.2.2.2.2) k
theorem quV (k : Nat) : LIo 120 Tryz.f120 0 k (quU k) :=
 lpk [] (qou k) (lc (qpP k) l0) (fun _ => rfl) (by kernel_rfl) fun n x => by kernel_rfl
theorem qxb : ∀ k, qh (call cf k) (qyy k) :=
 fnk 0 [0, 2] Tryz.func120 (fun k => (qou k)) (fun k => (lc (qpP k) (lc (quV k) l0))) ⟨rfl, rfl, ⟨rfl, Nat.le_of_ble_eq_true rfl⟩, rfl⟩ (fun _ => rfl) (by kernel_rfl) fun k x => by kernel_rfl


end
end Go.Proofs.YtlnailgfialgnaaGreatDoor.Am
