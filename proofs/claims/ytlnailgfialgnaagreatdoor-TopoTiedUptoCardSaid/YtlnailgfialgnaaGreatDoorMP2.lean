/- Printed functions: each says what the typed machine says of the program -/
import Derived.Test.YtlnailgfialgnaaGreatDoorMP1
import Derived.KernelRfl

set_option linter.unusedVariables false
set_option maxRecDepth 100000
namespace Go.Proofs.YtlnailgfialgnaaGreatDoor.Am
open Go
noncomputable section

def qbd (k : Nat) (rec : Int → Bool → Nat → Bool → Nat → List Int → List Int → Option (Bool × Nat × Bool × Nat × List Int × List Int)) (u : Int) (x0 : Bool) (x1 : Nat) (a0 : Bool) (a1 : Nat) (m : List Int) (m1 : List Int) : Option (Bool × Nat × Bool × Nat × List Int × List Int) :=
 if ((decide (u > (0 : Int))) = true) then
 if (a1 ≤ (List.length m1)) then
 if (((a1 + (List.length (List.take 1 ((IntKind.wrap .i64 (Int.tmod u (65536 : Int))) :: [])))) * 8) ≤ 140737488355328) then
 rec (IntKind.wrap .u64 (Int.tdiv u (65536 : Int))) x0 x1 a0 (a1 + (List.length (List.take 1 ((IntKind.wrap .i64 (Int.tmod u (65536 : Int))) :: [])))) m ((List.take a1 m1) ++ (List.take 1 ((IntKind.wrap .i64 (Int.tmod u (65536 : Int))) :: [])))
 else
 none
 else
 none
 else
 (some (x0, x1, a0, a1, m, m1))
def qaM (k n : Nat) : Int → Bool → Nat → Bool → Nat → List Int → List Int → Option (Bool × Nat × Bool × Nat × List Int × List Int) := Nat.rec (fun _ _ _ _ _ _ _ => none) (fun _ r => qbd k r) n
def qde (k : Nat) (v : Int) : Option (Bool × List Int) :=
 if ((decide (v < (0 : Int))) = true) then
 Option.bind (qaM k k (IntKind.wrap .u64 ((0 : Int) - (IntKind.wrap .u64 v))) false 0 true 0 [] []) fun r5 =>
 if ((0 + r5.2.2.2.1) ≤ (List.length r5.2.2.2.2.2)) then
 (some (r5.2.2.1, (List.take r5.2.2.2.1 r5.2.2.2.2.2)))
 else
 none
 else
 Option.bind (qaM k k (IntKind.wrap .u64 v) false 0 false 0 [] []) fun r5 =>
 if ((0 + r5.2.2.2.1) ≤ (List.length r5.2.2.2.2.2)) then
 (some (r5.2.2.1, (List.take r5.2.2.2.1 r5.2.2.2.2.2)))
 else
 none
def qdf : Nat → Int → Option (Bool × List Int)
 | 0, _ => none
 | k + 1, v => qde k v
def qyz : Nat → Inst := mkI 91 ⟨[vI], []⟩ [⟨[.g [.lf .bool, .lf (.sl (.int .i64))]], []⟩] fun k x => qdf k x
def quW (k : Nat) : LInst := mkL 0 [⟨[(2, .a (.ptr 0 0 0)), (3, .a (.ptr 1 0 0)), (4, vU)], [(0, some (.raw [[.lf .bool, .smz 2]] 2 154 false false false)), (1, some (.raw [[.lf .bool, .smz 3]] 2 154 false false false)), (2, some (.arr (.int .i64) 1 3 false)), (3, some (.arr (.int .i64) 1 3 false))], 4⟩] [⟨some 0, ⟨[(2, .a (.ptr 0 0 0)), (3, .a (.ptr 1 0 0))], [(0, some (.raw [[.lf .bool, .smz 2]] 2 154 false false false)), (1, some (.raw [[.lf .bool, .smz 3]] 2 154 false false false)), (2, some (.arr (.int .i64) 1 3 false)), (3, some (.arr (.int .i64) 1 3 false))], 4⟩⟩] (fun n x => qaM k n x.1 x.2.1 x.2.2.1 x.2.2.2.1 x.2.2.2.2.1 x.2.2.2.2.2.1 x.2.2.2.2.2.2) k
theorem quX (k : Nat) : LIo 91 Tryz.f91 0 k (quW k) :=
 lpk [] a0 l0 (fun _ => rfl) (by kernel_rfl) fun n x => by kernel_rfl
theorem qxc : ∀ k, qh (call cf k) (qyz k) :=
 fnk 0 [0] Tryz.func91 (fun k => a0) (fun k => (lc (quX k) l0)) ⟨rfl, rfl, ⟨rfl, Nat.le_of_ble_eq_true rfl⟩, rfl⟩ (fun _ => rfl) (by kernel_rfl) fun k x => by kernel_rfl

def qbE (k : Nat) (rec : Nat → Int → List Int → Option (Nat × Int × List Int)) (d : Nat) (n : Int) (ds : List Int) : Option (Nat × Int × List Int) :=
 if ((decide (n > (0 : Int))) = true) then
 if (((0 : Int) ≤ (IntKind.wrap .i64 (n - (1 : Int)))) ∧ ((IntKind.wrap .i64 (n - (1 : Int))) < ((d : Nat) : Int))) then
 Option.bind (ds)[(0 + (Int.toNat (IntKind.wrap .i64 (n - (1 : Int)))))]? fun x4 =>
 if ((x4 == (0 : Int)) = true) then
 rec d (IntKind.wrap .i64 (n - (1 : Int))) ds
 else
 (some (d, n, ds))
 else
 none
 else
 (some (d, n, ds))
def qbT (k n : Nat) : Nat → Int → List Int → Option (Nat × Int × List Int) := Nat.rec (fun _ _ _ => none) (fun _ r => qbE k r) n
def qaQ (k : Nat) (d : Nat) (ds : List Int) : Option (Nat × List Int) :=
 Option.bind (qbT k k d ((d : Nat) : Int) ds) fun r7 =>
 if (((0 : Int) ≤ (0 : Int)) ∧ (((0 : Int) ≤ r7.2.1) ∧ (((0 + (Int.toNat r7.2.1)) ≤ (List.length r7.2.2)) ∧ (((0 : Int) < r7.2.1) ∨ (true = true))))) then
 (some ((Int.toNat r7.2.1), r7.2.2))
 else
 none
def qC : Nat → Nat → List Int → Option (Nat × List Int)
 | 0, _, _ => none
 | k + 1, d, ds => qaQ k d ds
def qyA : Nat → Inst := mkI 205 ⟨[.a (.smz 0)], [.arr (.int .i64) 1 3 false]⟩ [⟨[.a (.smz 0)], [.arr (.int .i64) 1 3 false]⟩] fun k x => qC k x.1 x.2
def qpQ : SS := ⟨[(0, .a (.smz 0)), (3, vI)], [(0, some (.arr (.int .i64) 1 3 false))], 1⟩
def quY (k : Nat) : LInst := mkL 0 [qpQ] [⟨some 0, qpQ⟩] (fun n x => qbT k n x.1 x.2.1 x.2.2) k
theorem quZ (k : Nat) : LIo 205 Tryz.f205 1 k (quY k) :=
 lpk [] a0 l0 (fun _ => rfl) (by kernel_rfl) fun n x => by kernel_rfl
theorem qlm : ∀ k, qh (call cf k) (qyA k) :=
 fnk 1 [0] Tryz.func205 (fun k => a0) (fun k => (lc (quZ k) l0)) ⟨rfl, rfl, ⟨rfl, Nat.le_of_ble_eq_true rfl⟩, rfl⟩ (fun _ => rfl) (by kernel_rfl) fun k x => by kernel_rfl

def qbe (k : Nat) (rec : List Int → List Int → Nat → Int → Int → List Int → Option (Nat × List Int)) (a : List Int) (b : List Int) (d : Nat) (carry : Int) (i : Int) (ds : List Int) : Option (Nat × List Int) :=
 if ((decide (i < (((List.length a) : Nat) : Int))) = false) then
 if ((decide (i < (((List.length b) : Nat) : Int))) = false) then
 if ((decide (carry > (0 : Int))) = true) then
 if ((decide (i < (((List.length a) : Nat) : Int))) = true) then
 if ((0 : Int) ≤ i) then
 Option.bind (a)[(Int.toNat i)]? fun x4 =>
 if ((decide (i < (((List.length b) : Nat) : Int))) = true) then
 if ((0 : Int) ≤ i) then
 Option.bind (b)[(Int.toNat i)]? fun x5 =>
 if (d ≤ (List.length ds)) then
 if (((d + (List.length (List.take 1 ((Int.tmod (IntKind.wrap .i64 ((IntKind.wrap .i64 (carry + x4)) + x5)) (65536 : Int)) :: [])))) * 8) ≤ 140737488355328) then
 rec a b (d + (List.length (List.take 1 ((Int.tmod (IntKind.wrap .i64 ((IntKind.wrap .i64 (carry + x4)) + x5)) (65536 : Int)) :: [])))) (IntKind.wrap .i64 (Int.tdiv (IntKind.wrap .i64 ((IntKind.wrap .i64 (carry + x4)) + x5)) (65536 : Int))) (IntKind.wrap .i64 (i + (1 : Int))) ((List.take d ds) ++ (List.take 1 ((Int.tmod (IntKind.wrap .i64 ((IntKind.wrap .i64 (carry + x4)) + x5)) (65536 : Int)) :: [])))
 else
 none
 else
 none
 else
 none
 else
 if (d ≤ (List.length ds)) then
 if (((d + (List.length (List.take 1 ((Int.tmod (IntKind.wrap .i64 (carry + x4)) (65536 : Int)) :: [])))) * 8) ≤ 140737488355328) then
 rec a b (d + (List.length (List.take 1 ((Int.tmod (IntKind.wrap .i64 (carry + x4)) (65536 : Int)) :: [])))) (IntKind.wrap .i64 (Int.tdiv (IntKind.wrap .i64 (carry + x4)) (65536 : Int))) (IntKind.wrap .i64 (i + (1 : Int))) ((List.take d ds) ++ (List.take 1 ((Int.tmod (IntKind.wrap .i64 (carry + x4)) (65536 : Int)) :: [])))
 else
 none
 else
 none
 else
 none
 else
 if ((decide (i < (((List.length b) : Nat) : Int))) = true) then
 if ((0 : Int) ≤ i) then
 Option.bind (b)[(Int.toNat i)]? fun x4 =>
 if (d ≤ (List.length ds)) then
 if (((d + (List.length (List.take 1 ((Int.tmod (IntKind.wrap .i64 (carry + x4)) (65536 : Int)) :: [])))) * 8) ≤ 140737488355328) then
 rec a b (d + (List.length (List.take 1 ((Int.tmod (IntKind.wrap .i64 (carry + x4)) (65536 : Int)) :: [])))) (IntKind.wrap .i64 (Int.tdiv (IntKind.wrap .i64 (carry + x4)) (65536 : Int))) (IntKind.wrap .i64 (i + (1 : Int))) ((List.take d ds) ++ (List.take 1 ((Int.tmod (IntKind.wrap .i64 (carry + x4)) (65536 : Int)) :: [])))
 else
 none
 else
 none
 else
 none
 else
 if (d ≤ (List.length ds)) then
 if (((d + (List.length (List.take 1 ((Int.tmod carry (65536 : Int)) :: [])))) * 8) ≤ 140737488355328) then
 rec a b (d + (List.length (List.take 1 ((Int.tmod carry (65536 : Int)) :: [])))) (IntKind.wrap .i64 (Int.tdiv carry (65536 : Int))) (IntKind.wrap .i64 (i + (1 : Int))) ((List.take d ds) ++ (List.take 1 ((Int.tmod carry (65536 : Int)) :: [])))
 else
 none
 else
 none
 else
 (some (d, ds))
 else
 if ((decide (i < (((List.length a) : Nat) : Int))) = true) then
 if ((0 : Int) ≤ i) then
 Option.bind (a)[(Int.toNat i)]? fun x4 =>
 if ((decide (i < (((List.length b) : Nat) : Int))) = true) then
 if ((0 : Int) ≤ i) then
 Option.bind (b)[(Int.toNat i)]? fun x5 =>
 if (d ≤ (List.length ds)) then
 if (((d + (List.length (List.take 1 ((Int.tmod (IntKind.wrap .i64 ((IntKind.wrap .i64 (carry + x4)) + x5)) (65536 : Int)) :: [])))) * 8) ≤ 140737488355328) then
 rec a b (d + (List.length (List.take 1 ((Int.tmod (IntKind.wrap .i64 ((IntKind.wrap .i64 (carry + x4)) + x5)) (65536 : Int)) :: [])))) (IntKind.wrap .i64 (Int.tdiv (IntKind.wrap .i64 ((IntKind.wrap .i64 (carry + x4)) + x5)) (65536 : Int))) (IntKind.wrap .i64 (i + (1 : Int))) ((List.take d ds) ++ (List.take 1 ((Int.tmod (IntKind.wrap .i64 ((IntKind.wrap .i64 (carry + x4)) + x5)) (65536 : Int)) :: [])))
 else
 none
 else
 none
 else
 none
 else
 if (d ≤ (List.length ds)) then
 if (((d + (List.length (List.take 1 ((Int.tmod (IntKind.wrap .i64 (carry + x4)) (65536 : Int)) :: [])))) * 8) ≤ 140737488355328) then
 rec a b (d + (List.length (List.take 1 ((Int.tmod (IntKind.wrap .i64 (carry + x4)) (65536 : Int)) :: [])))) (IntKind.wrap .i64 (Int.tdiv (IntKind.wrap .i64 (carry + x4)) (65536 : Int))) (IntKind.wrap .i64 (i + (1 : Int))) ((List.take d ds) ++ (List.take 1 ((Int.tmod (IntKind.wrap .i64 (carry + x4)) (65536 : Int)) :: [])))
 else
 none
 else
 none
 else
 none
 else
 if ((decide (i < (((List.length b) : Nat) : Int))) = true) then
 if ((0 : Int) ≤ i) then
 Option.bind (b)[(Int.toNat i)]? fun x4 =>
 if (d ≤ (List.length ds)) then
 if (((d + (List.length (List.take 1 ((Int.tmod (IntKind.wrap .i64 (carry + x4)) (65536 : Int)) :: [])))) * 8) ≤ 140737488355328) then
 rec a b (d + (List.length (List.take 1 ((Int.tmod (IntKind.wrap .i64 (carry + x4)) (65536 : Int)) :: [])))) (IntKind.wrap .i64 (Int.tdiv (IntKind.wrap .i64 (carry + x4)) (65536 : Int))) (IntKind.wrap .i64 (i + (1 : Int))) ((List.take d ds) ++ (List.take 1 ((Int.tmod (IntKind.wrap .i64 (carry + x4)) (65536 : Int)) :: [])))
 else
 none
 else
 none
 else
 none
 else
 if (d ≤ (List.length ds)) then
 if (((d + (List.length (List.take 1 ((Int.tmod carry (65536 : Int)) :: [])))) * 8) ≤ 140737488355328) then
 rec a b (d + (List.length (List.take 1 ((Int.tmod carry (65536 : Int)) :: [])))) (IntKind.wrap .i64 (Int.tdiv carry (65536 : Int))) (IntKind.wrap .i64 (i + (1 : Int))) ((List.take d ds) ++ (List.take 1 ((Int.tmod carry (65536 : Int)) :: [])))
 else
 none
 else
 none
 else
 if ((decide (i < (((List.length a) : Nat) : Int))) = true) then
 if ((0 : Int) ≤ i) then
 Option.bind (a)[(Int.toNat i)]? fun x4 =>
 if ((decide (i < (((List.length b) : Nat) : Int))) = true) then
 if ((0 : Int) ≤ i) then
 Option.bind (b)[(Int.toNat i)]? fun x5 =>
 if (d ≤ (List.length ds)) then
 if (((d + (List.length (List.take 1 ((Int.tmod (IntKind.wrap .i64 ((IntKind.wrap .i64 (carry + x4)) + x5)) (65536 : Int)) :: [])))) * 8) ≤ 140737488355328) then
 rec a b (d + (List.length (List.take 1 ((Int.tmod (IntKind.wrap .i64 ((IntKind.wrap .i64 (carry + x4)) + x5)) (65536 : Int)) :: [])))) (IntKind.wrap .i64 (Int.tdiv (IntKind.wrap .i64 ((IntKind.wrap .i64 (carry + x4)) + x5)) (65536 : Int))) (IntKind.wrap .i64 (i + (1 : Int))) ((List.take d ds) ++ (List.take 1 ((Int.tmod (IntKind.wrap .i64 ((IntKind.wrap .i64 (carry + x4)) + x5)) (65536 : Int)) :: [])))
 else
 none
 else
 none
 else
 none
 else
 if (d ≤ (List.length ds)) then
 if (((d + (List.length (List.take 1 ((Int.tmod (IntKind.wrap .i64 (carry + x4)) (65536 : Int)) :: [])))) * 8) ≤ 140737488355328) then
 rec a b (d + (List.length (List.take 1 ((Int.tmod (IntKind.wrap .i64 (carry + x4)) (65536 : Int)) :: [])))) (IntKind.wrap .i64 (Int.tdiv (IntKind.wrap .i64 (carry + x4)) (65536 : Int))) (IntKind.wrap .i64 (i + (1 : Int))) ((List.take d ds) ++ (List.take 1 ((Int.tmod (IntKind.wrap .i64 (carry + x4)) (65536 : Int)) :: [])))
 else
 none
 else
 none
 else
 none
 else
 if ((decide (i < (((List.length b) : Nat) : Int))) = true) then
 if ((0 : Int) ≤ i) then
 Option.bind (b)[(Int.toNat i)]? fun x4 =>
 if (d ≤ (List.length ds)) then
 if (((d + (List.length (List.take 1 ((Int.tmod (IntKind.wrap .i64 (carry + x4)) (65536 : Int)) :: [])))) * 8) ≤ 140737488355328) then
 rec a b (d + (List.length (List.take 1 ((Int.tmod (IntKind.wrap .i64 (carry + x4)) (65536 : Int)) :: [])))) (IntKind.wrap .i64 (Int.tdiv (IntKind.wrap .i64 (carry + x4)) (65536 : Int))) (IntKind.wrap .i64 (i + (1 : Int))) ((List.take d ds) ++ (List.take 1 ((Int.tmod (IntKind.wrap .i64 (carry + x4)) (65536 : Int)) :: [])))
 else
 none
 else
 none
 else
 none
 else
 if (d ≤ (List.length ds)) then
 if (((d + (List.length (List.take 1 ((Int.tmod carry (65536 : Int)) :: [])))) * 8) ≤ 140737488355328) then
 rec a b (d + (List.length (List.take 1 ((Int.tmod carry (65536 : Int)) :: [])))) (IntKind.wrap .i64 (Int.tdiv carry (65536 : Int))) (IntKind.wrap .i64 (i + (1 : Int))) ((List.take d ds) ++ (List.take 1 ((Int.tmod carry (65536 : Int)) :: [])))
 else
 none
 else
 none
def qaN (k n : Nat) : List Int → List Int → Nat → Int → Int → List Int → Option (Nat × List Int) := Nat.rec (fun _ _ _ _ _ _ => none) (fun _ r => qbe k r) n
def qfw (k : Nat) (a : List Int) (b : List Int) : Option (List Int) :=
 Option.bind (qaN k k a b 0 (0 : Int) (0 : Int) []) fun r6 =>
 Option.bind (qC k r6.1 r6.2) fun r7 =>
 if ((0 + r7.1) ≤ (List.length r7.2)) then
 (some (List.take r7.1 r7.2))
 else
 none
def qdg : Nat → List Int → List Int → Option (List Int)
 | 0, _, _ => none
 | k + 1, a, b => qfw k a b
def qyB : Nat → Inst := mkI 145 ⟨[vJ, vJ], []⟩ [⟨[vJ], []⟩] fun k x => qdg k x.1 x.2
def qsj (k : Nat) := ac (qlm k) a0
def qu0 (k : Nat) : LInst := mkL 0 [⟨[(0, vJ), (1, vJ), (5, .a (.smz 0)), (6, vI), (7, vI)], [(0, some (.arr (.int .i64) 1 3 false))], 1⟩] [⟨some 0, ⟨[(5, .a (.smz 0))], [(0, some (.arr (.int .i64) 1 3 false))], 1⟩⟩] (fun n x => qaN k n x.1 x.2.1 x.2.2.1 x.2.2.2.1 x.2.2.2.2.1 x.2.2.2.2.2) k
theorem qu1 (k : Nat) : LIo 145 Tryz.f145 0 k (qu0 k) :=
 lpk [] (qsj k) l0 (fun _ => rfl) (by kernel_rfl) fun n x => by kernel_rfl
theorem qxd : ∀ k, qh (call cf k) (qyB k) :=
 fnk 0 [0] Tryz.func145 (fun k => (qsj k)) (fun k => (lc (qu1 k) l0)) ⟨rfl, rfl, ⟨rfl, Nat.le_of_ble_eq_true rfl⟩, rfl⟩ (fun _ => rfl) (by kernel_rfl) fun k x => by kernel_rfl

def qag (k : Nat) (rec : List Int → List Int → Int → Option ((Int) ⊕ (Unit))) (a : List Int) (b : List Int) (i : Int) : Option ((Int) ⊕ (Unit)) :=
 if ((decide (i ≥ (0 : Int))) = true) then
 if ((0 : Int) ≤ i) then
 Option.bind (a)[(Int.toNat i)]? fun x4 =>
 if ((0 : Int) ≤ i) then
 Option.bind (b)[(Int.toNat i)]? fun x5 =>
 if ((decide (x4 < x5)) = true) then
 (some (Sum.inl (-(1 : Int))))
 else
 if ((0 : Int) ≤ i) then
 Option.bind (a)[(Int.toNat i)]? fun x6 =>
 if ((0 : Int) ≤ i) then
 Option.bind (b)[(Int.toNat i)]? fun x7 =>
 if ((decide (x6 > x7)) = true) then
 (some (Sum.inl (1 : Int)))
 else
 rec a b (IntKind.wrap .i64 (i - (1 : Int)))
 else
 none
 else
 none
 else
 none
 else
 none
 else
 (some (Sum.inr ()))
def qbv (k n : Nat) : List Int → List Int → Int → Option ((Int) ⊕ (Unit)) := Nat.rec (fun _ _ _ => none) (fun _ r => qag k r) n
def qfx (k : Nat) (a : List Int) (b : List Int) : Option (Int) :=
 if (((((List.length a) : Nat) : Int) != (((List.length b) : Nat) : Int)) = true) then
 if ((decide ((((List.length a) : Nat) : Int) < (((List.length b) : Nat) : Int))) = true) then
 (some (-(1 : Int)))
 else
 (some (1 : Int))
 else
 Option.bind (qbv k k a b (IntKind.wrap .i64 ((((List.length a) : Nat) : Int) - (1 : Int)))) fun r6 =>
 qc r6
 (fun r6 =>
 (some r6))
 (fun r6 =>
 (some (0 : Int)))
def qdh : Nat → List Int → List Int → Option (Int)
 | 0, _, _ => none
 | k + 1, a, b => qfx k a b
def qyC : Nat → Inst := mkI 146 ⟨[vJ, vJ], []⟩ [⟨[vI], []⟩] fun k x => qdh k x.1 x.2
def qu2 (k : Nat) : LInst := mkL 0 [⟨[(0, vJ), (1, vJ), (5, vI)], [], 0⟩] [⟨none, ⟨[(4, vI)], [], 0⟩⟩, ⟨some 0, ⟨[], [], 0⟩⟩] (fun n x => qbv k n x.1 x.2.1 x.2.2) k
theorem qu3 (k : Nat) : LIo 146 Tryz.f146 0 k (qu2 k) :=
 lpk [] a0 l0 (fun _ => rfl) (by kernel_rfl) fun n x => by kernel_rfl
theorem qsk : ∀ k, qh (call cf k) (qyC k) :=
 fnk 0 [0] Tryz.func146 (fun k => a0) (fun k => (lc (qu3 k) l0)) ⟨rfl, rfl, ⟨rfl, Nat.le_of_ble_eq_true rfl⟩, rfl⟩ (fun _ => rfl) (by kernel_rfl) fun k x => by kernel_rfl

def qaR (k : Nat) (rec : List Int → List Int → Nat → Int → Int → List Int → Option (Nat × List Int)) (a : List Int) (b : List Int) (d : Nat) (borrow : Int) (i : Int) (ds : List Int) : Option (Nat × List Int) :=
 if ((decide (i < (((List.length a) : Nat) : Int))) = true) then
 if ((0 : Int) ≤ i) then
 Option.bind (a)[(Int.toNat i)]? fun x4 =>
 if ((decide (i < (((List.length b) : Nat) : Int))) = true) then
 if ((0 : Int) ≤ i) then
 Option.bind (b)[(Int.toNat i)]? fun x5 =>
 if ((decide ((IntKind.wrap .i64 ((IntKind.wrap .i64 (x4 - borrow)) - x5)) < (0 : Int))) = true) then
 if (d ≤ (List.length ds)) then
 if (((d + (List.length (List.take 1 ((IntKind.wrap .i64 ((IntKind.wrap .i64 ((IntKind.wrap .i64 (x4 - borrow)) - x5)) + (65536 : Int))) :: [])))) * 8) ≤ 140737488355328) then
 rec a b (d + (List.length (List.take 1 ((IntKind.wrap .i64 ((IntKind.wrap .i64 ((IntKind.wrap .i64 (x4 - borrow)) - x5)) + (65536 : Int))) :: [])))) (1 : Int) (IntKind.wrap .i64 (i + (1 : Int))) ((List.take d ds) ++ (List.take 1 ((IntKind.wrap .i64 ((IntKind.wrap .i64 ((IntKind.wrap .i64 (x4 - borrow)) - x5)) + (65536 : Int))) :: [])))
 else
 none
 else
 none
 else
 if (d ≤ (List.length ds)) then
 if (((d + (List.length (List.take 1 ((IntKind.wrap .i64 ((IntKind.wrap .i64 (x4 - borrow)) - x5)) :: [])))) * 8) ≤ 140737488355328) then
 rec a b (d + (List.length (List.take 1 ((IntKind.wrap .i64 ((IntKind.wrap .i64 (x4 - borrow)) - x5)) :: [])))) (0 : Int) (IntKind.wrap .i64 (i + (1 : Int))) ((List.take d ds) ++ (List.take 1 ((IntKind.wrap .i64 ((IntKind.wrap .i64 (x4 - borrow)) - x5)) :: [])))
 else
 none
 else
 none
 else
 none
 else
 if ((decide ((IntKind.wrap .i64 (x4 - borrow)) < (0 : Int))) = true) then
 if (d ≤ (List.length ds)) then
 if (((d + (List.length (List.take 1 ((IntKind.wrap .i64 ((IntKind.wrap .i64 (x4 - borrow)) + (65536 : Int))) :: [])))) * 8) ≤ 140737488355328) then
 rec a b (d + (List.length (List.take 1 ((IntKind.wrap .i64 ((IntKind.wrap .i64 (x4 - borrow)) + (65536 : Int))) :: [])))) (1 : Int) (IntKind.wrap .i64 (i + (1 : Int))) ((List.take d ds) ++ (List.take 1 ((IntKind.wrap .i64 ((IntKind.wrap .i64 (x4 - borrow)) + (65536 : Int))) :: [])))
 else
 none
 else
 none
 else
 if (d ≤ (List.length ds)) then
 if (((d + (List.length (List.take 1 ((IntKind.wrap .i64 (x4 - borrow)) :: [])))) * 8) ≤ 140737488355328) then
 rec a b (d + (List.length (List.take 1 ((IntKind.wrap .i64 (x4 - borrow)) :: [])))) (0 : Int) (IntKind.wrap .i64 (i + (1 : Int))) ((List.take d ds) ++ (List.take 1 ((IntKind.wrap .i64 (x4 - borrow)) :: [])))
 else
 none
 else
 none
 else
 none
 else
 (some (d, ds))
def qaB (k n : Nat) : List Int → List Int → Nat → Int → Int → List Int → Option (Nat × List Int) := Nat.rec (fun _ _ _ _ _ _ => none) (fun _ r => qaR k r) n
def qe0 (k : Nat) (a : List Int) (b : List Int) : Option (List Int) :=
 Option.bind (qaB k k a b 0 (0 : Int) (0 : Int) []) fun r7 =>
 Option.bind (qC k r7.1 r7.2) fun r8 =>
 if ((0 + r8.1) ≤ (List.length r8.2)) then
 (some (List.take r8.1 r8.2))
 else
 none
def qaD : Nat → List Int → List Int → Option (List Int)
 | 0, _, _ => none
 | k + 1, a, b => qe0 k a b
def qyD : Nat → Inst := mkI 147 ⟨[vJ, vJ], []⟩ [⟨[vJ], []⟩] fun k x => qaD k x.1 x.2
def qsl (k : Nat) := ac (qlm k) a0
def qu4 (k : Nat) : LInst := mkL 0 [⟨[(0, vJ), (1, vJ), (5, .a (.smz 0)), (6, vI), (7, vI)], [(0, some (.arr (.int .i64) 1 3 false))], 1⟩] [⟨some 0, ⟨[(5, .a (.smz 0))], [(0, some (.arr (.int .i64) 1 3 false))], 1⟩⟩] (fun n x => qaB k n x.1 x.2.1 x.2.2.1 x.2.2.2.1 x.2.2.2.2.1 x.2.2.2.2.2) k
theorem qu5 (k : Nat) : LIo 147 Tryz.f147 0 k (qu4 k) :=
 lpk [] (qsl k) l0 (fun _ => rfl) (by kernel_rfl) fun n x => by kernel_rfl
theorem qsm : ∀ k, qh (call cf k) (qyD k) :=
 fnk 0 [0] Tryz.func147 (fun k => (qsl k)) (fun k => (lc (qu5 k) l0)) ⟨rfl, rfl, ⟨rfl, Nat.le_of_ble_eq_true rfl⟩, rfl⟩ (fun _ => rfl) (by kernel_rfl) fun k x => by kernel_rfl

def qbZ (k : Nat) (a0 : Bool) (a1 : List Int) (b0 : Bool) (b1 : List Int) : Option (Bool × List Int) :=
 if ((a0 == b0) = true) then
 Option.bind (qdg k a1 b1) fun r6 =>
 if (a0 = true) then
 (some ((decide ((((List.length r6) : Nat) : Int) > (0 : Int))), r6))
 else
 (some (false, r6))
 else
 Option.bind (qdh k a1 b1) fun r6 =>
 if ((decide (r6 ≥ (0 : Int))) = true) then
 Option.bind (qaD k a1 b1) fun r7 =>
 if (a0 = true) then
 (some ((decide ((((List.length r7) : Nat) : Int) > (0 : Int))), r7))
 else
 (some (false, r7))
 else
 Option.bind (qaD k b1 a1) fun r7 =>
 (some (b0, r7))
def qcw : Nat → Bool → List Int → Bool → List Int → Option (Bool × List Int)
 | 0, _, _, _, _ => none
 | k + 1, a0, a1, b0, b1 => qbZ k a0 a1 b0 b1
def qyE : Nat → Inst := mkI 90 ⟨[.g [.lf .bool, .lf (.sl (.int .i64))], .g [.lf .bool, .lf (.sl (.int .i64))]], []⟩ [⟨[.g [.lf .bool, .lf (.sl (.int .i64))]], []⟩] fun k x => qcw k x.1 x.2.1 x.2.2.1 x.2.2.2
theorem qxe : ∀ k, qh (call cf k) (qyE k) :=
 fnk 0 [] Tryz.func90 (fun k => (ac (qxd k) (ac (qsk k) (ac (qsm k) a0)))) (fun k => l0) ⟨rfl, rfl, ⟨rfl, Nat.le_of_ble_eq_true rfl⟩, rfl⟩ (fun _ => rfl) (by kernel_rfl) fun k x => by kernel_rfl

def qaS (k : Nat) (rec : Int → Bool → Nat → Bool → Nat → List Int → List Int → Option (Bool × Nat × Bool × Nat × List Int × List Int)) (v : Int) (x0 : Bool) (x1 : Nat) (a0 : Bool) (a1 : Nat) (m : List Int) (m1 : List Int) : Option (Bool × Nat × Bool × Nat × List Int × List Int) :=
 if ((decide (v > (0 : Int))) = true) then
 if (a1 ≤ (List.length m1)) then
 if (((a1 + (List.length (List.take 1 ((Int.tmod v (65536 : Int)) :: [])))) * 8) ≤ 140737488355328) then
 rec (IntKind.wrap .i64 (Int.tdiv v (65536 : Int))) x0 x1 a0 (a1 + (List.length (List.take 1 ((Int.tmod v (65536 : Int)) :: [])))) m ((List.take a1 m1) ++ (List.take 1 ((Int.tmod v (65536 : Int)) :: [])))
 else
 none
 else
 none
 else
 (some (x0, x1, a0, a1, m, m1))
def qaC (k n : Nat) : Int → Bool → Nat → Bool → Nat → List Int → List Int → Option (Bool × Nat × Bool × Nat × List Int × List Int) := Nat.rec (fun _ _ _ _ _ _ _ => none) (fun _ r => qaS k r) n
def qcW (k : Nat) (v : Int) : Option (Bool × List Int) :=
 if ((decide (v < (0 : Int))) = true) then
 Option.bind (qaC k k (IntKind.wrap .i64 ((0 : Int) - v)) false 0 true 0 [] []) fun r6 =>
 if ((0 + r6.2.2.2.1) ≤ (List.length r6.2.2.2.2.2)) then
 (some (r6.2.2.1, (List.take r6.2.2.2.1 r6.2.2.2.2.2)))
 else
 none
 else
 Option.bind (qaC k k v false 0 false 0 [] []) fun r6 =>
 if ((0 + r6.2.2.2.1) ≤ (List.length r6.2.2.2.2.2)) then
 (some (r6.2.2.1, (List.take r6.2.2.2.1 r6.2.2.2.2.2)))
 else
 none
def qS : Nat → Int → Option (Bool × List Int)
 | 0, _ => none
 | k + 1, v => qcW k v
def qyF : Nat → Inst := mkI 94 ⟨[vI], []⟩ [⟨[.g [.lf .bool, .lf (.sl (.int .i64))]], []⟩] fun k x => qS k x
def qu6 (k : Nat) : LInst := mkL 0 [⟨[(0, vI), (2, .a (.ptr 0 0 0)), (3, .a (.ptr 1 0 0))], [(0, some (.raw [[.lf .bool, .smz 2]] 2 154 false false false)), (1, some (.raw [[.lf .bool, .smz 3]] 2 154 false false false)), (2, some (.arr (.int .i64) 1 3 false)), (3, some (.arr (.int .i64) 1 3 false))], 4⟩] [⟨some 0, ⟨[(2, .a (.ptr 0 0 0)), (3, .a (.ptr 1 0 0))], [(0, some (.raw [[.lf .bool, .smz 2]] 2 154 false false false)), (1, some (.raw [[.lf .bool, .smz 3]] 2 154 false false false)), (2, some (.arr (.int .i64) 1 3 false)), (3, some (.arr (.int .i64) 1 3 false))], 4⟩⟩] (fun n x => qaC k n x.1 x.2.1 x.2.2.1 x.2.2.2.1 x.2.2.2.2.1 x.2.2.2.2.2.1 x.2.2.2.2.2.2) k
theorem qu7 (k : Nat) : LIo 94 Tryz.f94 0 k (qu6 k) :=
 lpk [] a0 l0 (fun _ => rfl) (by kernel_rfl) fun n x => by kernel_rfl
theorem qln : ∀ k, qh (call cf k) (qyF k) :=
 fnk 0 [0] Tryz.func94 (fun k => a0) (fun k => (lc (qu7 k) l0)) ⟨rfl, rfl, ⟨rfl, Nat.le_of_ble_eq_true rfl⟩, rfl⟩ (fun _ => rfl) (by kernel_rfl) fun k x => by kernel_rfl

def qfy (k : Nat) (a0 : Bool) (a1 : List Int) : Option (Int) :=
 if (((((List.length a1) : Nat) : Int) == (0 : Int)) = true) then
 (some (0 : Int))
 else
 if (a0 = true) then
 (some (-(1 : Int)))
 else
 (some (1 : Int))
def qdi : Nat → Bool → List Int → Option (Int)
 | 0, _, _ => none
 | k + 1, a0, a1 => qfy k a0 a1
def qyG : Nat → Inst := mkI 149 ⟨[.g [.lf .bool, .lf (.sl (.int .i64))]], []⟩ [⟨[vI], []⟩] fun k x => qdi k x.1 x.2
theorem qsn : ∀ k, qh (call cf k) (qyG k) :=
 fnk 0 [] Tryz.func149 (fun k => a0) (fun k => l0) ⟨rfl, rfl, ⟨rfl, Nat.le_of_ble_eq_true rfl⟩, rfl⟩ (fun _ => rfl) (by kernel_rfl) fun k x => by kernel_rfl

def qcX (k : Nat) (a0 : Bool) (a1 : List Int) : Option (Bool × List Int) :=
 if (((((List.length a1) : Nat) : Int) == (0 : Int)) = true) then
 (some (false, []))
 else
 (some ((!a0), a1))
def qbH : Nat → Bool → List Int → Option (Bool × List Int)
 | 0, _, _ => none
 | k + 1, a0, a1 => qcX k a0 a1
def qyH : Nat → Inst := mkI 150 ⟨[.g [.lf .bool, .lf (.sl (.int .i64))]], []⟩ [⟨[.g [.lf .bool, .lf (.sl (.int .i64))]], []⟩] fun k x => qbH k x.1 x.2
theorem qso : ∀ k, qh (call cf k) (qyH k) :=
 fnk 0 [] Tryz.func150 (fun k => a0) (fun k => l0) ⟨rfl, rfl, ⟨rfl, Nat.le_of_ble_eq_true rfl⟩, rfl⟩ (fun _ => rfl) (by kernel_rfl) fun k x => by kernel_rfl

def qj0 (k : Nat) (a0 : Bool) (a1 : List Int) : Option (Bool × List Int) :=
 (some (false, a1))
def qbN : Nat → Bool → List Int → Option (Bool × List Int)
 | 0, _, _ => none
 | k + 1, a0, a1 => qj0 k a0 a1
def qyI : Nat → Inst := mkI 206 ⟨[.g [.lf .bool, .lf (.sl (.int .i64))]], []⟩ [⟨[.g [.lf .bool, .lf (.sl (.int .i64))]], []⟩] fun k x => qbN k x.1 x.2
theorem qxf : ∀ k, qh (call cf k) (qyI k) :=
 fnk 0 [] Tryz.func206 (fun k => a0) (fun k => l0) ⟨rfl, rfl, ⟨rfl, Nat.le_of_ble_eq_true rfl⟩, rfl⟩ (fun _ => rfl) (by kernel_rfl) fun k x => by kernel_rfl

def qcc (k : Nat) (rec : Nat → Int → Int → Int → Bool → List Int → Bool → List Int → Bool → Nat → List Int → List Int → Option (Nat × Int × Int × Bool × List Int × Bool × List Int × Bool × Nat × List Int × List Int)) (d : Nat) (i : Int) (carry : Int) (j : Int) (a0 : Bool) (a1 : List Int) (b0 : Bool) (b1 : List Int) (x0 : Bool) (x1 : Nat) (ds : List Int) (m : List Int) : Option (Nat × Int × Int × Bool × List Int × Bool × List Int × Bool × Nat × List Int × List Int) :=
 if ((decide (j < (((List.length b1) : Nat) : Int))) = true) then
 if (((0 : Int) ≤ (IntKind.wrap .i64 (i + j))) ∧ ((IntKind.wrap .i64 (i + j)) < ((d : Nat) : Int))) then
 Option.bind (ds)[(0 + (Int.toNat (IntKind.wrap .i64 (i + j))))]? fun x2 =>
 if ((0 : Int) ≤ i) then
 Option.bind (a1)[(Int.toNat i)]? fun x3 =>
 if ((0 : Int) ≤ j) then
 Option.bind (b1)[(Int.toNat j)]? fun x4 =>
 if (((0 : Int) ≤ (IntKind.wrap .i64 (i + j))) ∧ ((IntKind.wrap .i64 (i + j)) < ((d : Nat) : Int))) then
 Option.bind (ds)[(0 + (Int.toNat (IntKind.wrap .i64 (i + j))))]? fun x5 =>
 rec d i (IntKind.wrap .i64 (Int.tdiv (IntKind.wrap .i64 ((IntKind.wrap .i64 (x2 + (IntKind.wrap .i64 (x3 * x4)))) + carry)) (65536 : Int))) (IntKind.wrap .i64 (j + (1 : Int))) a0 a1 b0 b1 x0 x1 (List.set ds (0 + (Int.toNat (IntKind.wrap .i64 (i + j)))) (Int.tmod (IntKind.wrap .i64 ((IntKind.wrap .i64 (x2 + (IntKind.wrap .i64 (x3 * x4)))) + carry)) (65536 : Int))) m
 else
 none
 else
 none
 else
 none
 else
 none
 else
 (some (d, i, carry, a0, a1, b0, b1, x0, x1, ds, m))
def qbP (k n : Nat) : Nat → Int → Int → Int → Bool → List Int → Bool → List Int → Bool → Nat → List Int → List Int → Option (Nat × Int × Int × Bool × List Int × Bool × List Int × Bool × Nat × List Int × List Int) := Nat.rec (fun _ _ _ _ _ _ _ _ _ _ _ _ => none) (fun _ r => qcc k r) n
def qcd (k : Nat) (rec : Nat → Int → Bool → List Int → Bool → List Int → Bool → Nat → List Int → List Int → Option (Nat × Bool × List Int × Bool × List Int × Bool × Nat × List Int × List Int)) (d : Nat) (i : Int) (a0 : Bool) (a1 : List Int) (b0 : Bool) (b1 : List Int) (x0 : Bool) (x1 : Nat) (ds : List Int) (m : List Int) : Option (Nat × Bool × List Int × Bool × List Int × Bool × Nat × List Int × List Int) :=
 if ((decide (i < (((List.length a1) : Nat) : Int))) = true) then
 Option.bind (qbP k k d i (0 : Int) (0 : Int) a0 a1 b0 b1 x0 x1 ds m) fun r15 =>
 if (((0 : Int) ≤ (IntKind.wrap .i64 (r15.2.1 + (((List.length r15.2.2.2.2.2.2.1) : Nat) : Int)))) ∧ ((IntKind.wrap .i64 (r15.2.1 + (((List.length r15.2.2.2.2.2.2.1) : Nat) : Int))) < ((r15.1 : Nat) : Int))) then
 Option.bind (r15.2.2.2.2.2.2.2.2.2.1)[(0 + (Int.toNat (IntKind.wrap .i64 (r15.2.1 + (((List.length r15.2.2.2.2.2.2.1) : Nat) : Int)))))]? fun x2 =>
 if (((0 : Int) ≤ (IntKind.wrap .i64 (r15.2.1 + (((List.length r15.2.2.2.2.2.2.1) : Nat) : Int)))) ∧ ((IntKind.wrap .i64 (r15.2.1 + (((List.length r15.2.2.2.2.2.2.1) : Nat) : Int))) < ((r15.1 : Nat) : Int))) then
 Option.bind (r15.2.2.2.2.2.2.2.2.2.1)[(0 + (Int.toNat (IntKind.wrap .i64 (r15.2.1 + (((List.length r15.2.2.2.2.2.2.1) : Nat) : Int)))))]? fun x3 =>
 rec r15.1 (IntKind.wrap .i64 (r15.2.1 + (1 : Int))) r15.2.2.2.1 r15.2.2.2.2.1 r15.2.2.2.2.2.1 r15.2.2.2.2.2.2.1 r15.2.2.2.2.2.2.2.1 r15.2.2.2.2.2.2.2.2.1 (List.set r15.2.2.2.2.2.2.2.2.2.1 (0 + (Int.toNat (IntKind.wrap .i64 (r15.2.1 + (((List.length r15.2.2.2.2.2.2.1) : Nat) : Int))))) (IntKind.wrap .i64 (x2 + r15.2.2.1))) r15.2.2.2.2.2.2.2.2.2.2
 else
 none
 else
 none
 else
 (some (d, a0, a1, b0, b1, x0, x1, ds, m))
def qbQ (k n : Nat) : Nat → Int → Bool → List Int → Bool → List Int → Bool → Nat → List Int → List Int → Option (Nat × Bool × List Int × Bool × List Int × Bool × Nat × List Int × List Int) := Nat.rec (fun _ _ _ _ _ _ _ _ _ _ => none) (fun _ r => qcd k r) n
def qe1 (k : Nat) (a0 : Bool) (a1 : List Int) (b0 : Bool) (b1 : List Int) : Option (Bool × List Int) :=
 if (((0 : Int) ≤ (IntKind.wrap .i64 ((((List.length a1) : Nat) : Int) + (((List.length b1) : Nat) : Int)))) ∧ (((IntKind.wrap .i64 ((((List.length a1) : Nat) : Int) + (((List.length b1) : Nat) : Int))) ≤ (IntKind.wrap .i64 ((((List.length a1) : Nat) : Int) + (((List.length b1) : Nat) : Int)))) ∧ (((IntKind.wrap .i64 ((((List.length a1) : Nat) : Int) + (((List.length b1) : Nat) : Int))) * (8 : Int)) ≤ (140737488355328 : Int)))) then
 Option.bind (qbQ k k (Int.toNat (IntKind.wrap .i64 ((((List.length a1) : Nat) : Int) + (((List.length b1) : Nat) : Int)))) (0 : Int) a0 a1 b0 b1 false 0 (List.replicate (Int.toNat (IntKind.wrap .i64 ((((List.length a1) : Nat) : Int) + (((List.length b1) : Nat) : Int)))) (0 : Int)) []) fun r15 =>
 Option.bind (qC k r15.1 r15.2.2.2.2.2.2.2.1) fun r16 =>
 if ((!(r15.2.1 == r15.2.2.2.1)) = true) then
 if ((0 + r16.1) ≤ (List.length r16.2)) then
 (some ((decide (((r16.1 : Nat) : Int) > (0 : Int))), (List.take r16.1 r16.2)))
 else
 none
 else
 if ((0 + r16.1) ≤ (List.length r16.2)) then
 (some (false, (List.take r16.1 r16.2)))
 else
 none
 else
 none
def qU : Nat → Bool → List Int → Bool → List Int → Option (Bool × List Int)
 | 0, _, _, _, _ => none
 | k + 1, a0, a1, b0, b1 => qe1 k a0 a1 b0 b1
def qyJ : Nat → Inst := mkI 208 ⟨[.g [.lf .bool, .lf (.sl (.int .i64))], .g [.lf .bool, .lf (.sl (.int .i64))]], []⟩ [⟨[.g [.lf .bool, .lf (.sl (.int .i64))]], []⟩] fun k x => qU k x.1 x.2.1 x.2.2.1 x.2.2.2
def qov (k : Nat) := ac (qlm k) a0
def qu8 (k : Nat) : LInst := mkL 2 [⟨[(2, .a (.ptr 0 0 0)), (3, .a (.ptr 1 0 0)), (4, .a (.ptr 2 0 0)), (5, .a (.smz 3)), (6, vI), (7, vI), (8, vI)], [(0, some (.raw [[.lf .bool, .lf (.sl (.int .i64))]] 2 154 true false false)), (1, some (.raw [[.lf .bool, .lf (.sl (.int .i64))]] 2 154 true false false)), (2, some (.raw [[.lf .bool, .smz 4]] 2 154 false false false)), (3, some (.arr (.int .i64) 1 3 false)), (4, some (.arr (.int .i64) 1 3 false))], 5⟩] [⟨some 2, ⟨[(2, .a (.ptr 0 0 0)), (3, .a (.ptr 1 0 0)), (4, .a (.ptr 2 0 0)), (5, .a (.smz 3)), (6, vI), (7, vI)], [(0, some (.raw [[.lf .bool, .lf (.sl (.int .i64))]] 2 154 true false false)), (1, some (.raw [[.lf .bool, .lf (.sl (.int .i64))]] 2 154 true false false)), (2, some (.raw [[.lf .bool, .smz 4]] 2 154 false false false)), (3, some (.arr (.int .i64) 1 3 false)), (4, some (.arr (.int .i64) 1 3 false))], 5⟩⟩] (fun n x => qbP k n x.1 x.2.1 x.2.2.1 x.2.2.2.1 x.2.2.2.2.1 x.2.2.2.2.2.1 x.2.2.2.2.2.2.1 x.2.2.2.2.2.2.2.1 x.2.2.2.2.2.2.2.2.1 x.2.2.2.2.2.2.2.2.2.1 x.2.2.2.2.2.2.2.2.2.2.1 x.2.2.2.2.2.2.2.2.2.2.2) k
theorem qpR (k : Nat) : LIo 208 Tryz.f208 0 k (qu8 k) :=
 lpk [] (qov k) l0 (fun _ => rfl) (by kernel_rfl) fun n x => by kernel_rfl
def qu9 (k : Nat) : LInst := mkL 0 [⟨[(2, .a (.ptr 0 0 0)), (3, .a (.ptr 1 0 0)), (4, .a (.ptr 2 0 0)), (5, .a (.smz 3)), (6, vI)], [(0, some (.raw [[.lf .bool, .lf (.sl (.int .i64))]] 2 154 true false false)), (1, some (.raw [[.lf .bool, .lf (.sl (.int .i64))]] 2 154 true false false)), (2, some (.raw [[.lf .bool, .smz 4]] 2 154 false false false)), (3, some (.arr (.int .i64) 1 3 false)), (4, some (.arr (.int .i64) 1 3 false))], 5⟩] [⟨some 0, ⟨[(2, .a (.ptr 0 0 0)), (3, .a (.ptr 1 0 0)), (4, .a (.ptr 2 0 0)), (5, .a (.smz 3))], [(0, some (.raw [[.lf .bool, .lf (.sl (.int .i64))]] 2 154 true false false)), (1, some (.raw [[.lf .bool, .lf (.sl (.int .i64))]] 2 154 true false false)), (2, some (.raw [[.lf .bool, .smz 4]] 2 154 false false false)), (3, some (.arr (.int .i64) 1 3 false)), (4, some (.arr (.int .i64) 1 3 false))], 5⟩⟩] (fun n x => qbQ k n x.1 x.2.1 x.2.2.1 x.2.2.2.1 x.2.2.2.2.1 x.2.2.2.2.2.1 x.2.2.2.2.2.2.1 x.2.2.2.2.2.2.2.1 x.2.2.2.2.2.2.2.2.1 x.2.2.2.2.2.2.2.2.2) k
theorem qva (k : Nat) : LIo 208 Tryz.f208 0 k (qu9 k) :=
 lpk [2] (qov k) (lc (qpR k) l0) (fun _ => rfl) (by kernel_rfl) fun n x => by kernel_rfl
theorem qj1 : ∀ k, qh (call cf k) (qyJ k) :=
 fnk 0 [0] Tryz.func208 (fun k => (qov k)) (fun k => (lc (qpR k) (lc (qva k) l0))) ⟨rfl, rfl, ⟨rfl, Nat.le_of_ble_eq_true rfl⟩, rfl⟩ (fun _ => rfl) (by kernel_rfl) fun k x => by kernel_rfl

def qX (k : Nat) (rec : List Int → List Int → Int → Int → Option (Int)) (r : List Int) (b : List Int) (low : Int) (high : Int) : Option (Int) :=
 if ((decide (low < high)) = true) then
 Option.bind (qS k (IntKind.wrap .i64 (Int.tdiv (IntKind.wrap .i64 ((IntKind.wrap .i64 (low + high)) + (1 : Int))) (2 : Int)))) fun r14 =>
 Option.bind (qU k false b r14.1 r14.2) fun r15 =>
 Option.bind (qdh k r15.2 r) fun r16 =>
 if ((decide (r16 ≤ (0 : Int))) = true) then
 rec r b (IntKind.wrap .i64 (Int.tdiv (IntKind.wrap .i64 ((IntKind.wrap .i64 (low + high)) + (1 : Int))) (2 : Int))) high
 else
 rec r b low (IntKind.wrap .i64 ((IntKind.wrap .i64 (Int.tdiv (IntKind.wrap .i64 ((IntKind.wrap .i64 (low + high)) + (1 : Int))) (2 : Int))) - (1 : Int)))
 else
 (some low)
def qbf (k n : Nat) : List Int → List Int → Int → Int → Option (Int) := Nat.rec (fun _ _ _ _ => none) (fun _ r => qX k r) n
def qe2 (k : Nat) (r : List Int) (b : List Int) : Option (Int) :=
 Option.bind (qdh k r b) fun r13 =>
 if ((decide (r13 < (0 : Int))) = true) then
 (some (0 : Int))
 else
 Option.bind (qbf k k r b (0 : Int) (65535 : Int)) fun r14 =>
 (some r14)
def qcj : Nat → List Int → List Int → Option (Int)
 | 0, _, _ => none
 | k + 1, r, b => qe2 k r b
def qyK : Nat → Inst := mkI 207 ⟨[vJ, vJ], []⟩ [⟨[vI], []⟩] fun k x => qcj k x.1 x.2
def qsp (k : Nat) := ac (qsk k) (ac (qln k) (ac (qj1 k) a0))
def qvb (k : Nat) : LInst := mkL 0 [⟨[(0, vJ), (1, vJ), (5, vI), (6, vI)], [], 0⟩] [⟨some 0, ⟨[(5, vI)], [], 0⟩⟩] (fun n x => qbf k n x.1 x.2.1 x.2.2.1 x.2.2.2) k
theorem qvc (k : Nat) : LIo 207 Tryz.f207 0 k (qvb k) :=
 lpk [] (qsp k) l0 (fun _ => rfl) (by kernel_rfl) fun n x => by kernel_rfl
theorem qxg : ∀ k, qh (call cf k) (qyK k) :=
 fnk 0 [0] Tryz.func207 (fun k => (qsp k)) (fun k => (lc (qvc k) l0)) ⟨rfl, rfl, ⟨rfl, Nat.le_of_ble_eq_true rfl⟩, rfl⟩ (fun _ => rfl) (by kernel_rfl) fun k x => by kernel_rfl

def qv (k : Nat) (rec : ((Nat × Nat × Int × Bool × List Int × Bool × List Int × Bool × Nat × Bool × Nat × List Int × List Int × List Int × List Int) ⊕ (Nat × List Int × Int × Bool × List Int × Bool × List Int × Bool × Nat × Bool × Nat × List Int × List Int × List Int)) → Option ((Nat × Nat × Bool × List Int × Bool × List Int × Bool × Nat × Bool × Nat × List Int × List Int × List Int × List Int) ⊕ (Nat × List Int × Bool × List Int × Bool × List Int × Bool × Nat × Bool × Nat × List Int × List Int × List Int))) (x : (Nat × Nat × Int × Bool × List Int × Bool × List Int × Bool × Nat × Bool × Nat × List Int × List Int × List Int × List Int) ⊕ (Nat × List Int × Int × Bool × List Int × Bool × List Int × Bool × Nat × Bool × Nat × List Int × List Int × List Int)) : Option ((Nat × Nat × Bool × List Int × Bool × List Int × Bool × Nat × Bool × Nat × List Int × List Int × List Int × List Int) ⊕ (Nat × List Int × Bool × List Int × Bool × List Int × Bool × Nat × Bool × Nat × List Int × List Int × List Int)) :=
 qc x
 (fun x =>
 if ((decide (x.2.2.1 ≥ (0 : Int))) = true) then
 if ((0 : Int) ≤ x.2.2.1) then
 Option.bind (x.2.2.2.2.1)[(Int.toNat x.2.2.1)]? fun x2 =>
 if ((0 + x.2.1) ≤ (List.length x.2.2.2.2.2.2.2.2.2.2.2.2.1)) then
 if (((1 + (List.length (List.take x.2.1 x.2.2.2.2.2.2.2.2.2.2.2.2.1))) * 8) ≤ 140737488355328) then
 Option.bind (qC k (1 + (List.length (List.take x.2.1 x.2.2.2.2.2.2.2.2.2.2.2.2.1))) ((List.take 1 (x2 :: [])) ++ (List.take x.2.1 x.2.2.2.2.2.2.2.2.2.2.2.2.1))) fun r12 =>
 if ((0 + r12.1) ≤ (List.length r12.2)) then
 Option.bind (qcj k (List.take r12.1 r12.2) x.2.2.2.2.2.2.1) fun r13 =>
 if ((decide (r13 > (0 : Int))) = true) then
 Option.bind (qS k r13) fun r14 =>
 Option.bind (qU k false x.2.2.2.2.2.2.1 r14.1 r14.2) fun r15 =>
 if ((0 + r12.1) ≤ (List.length r12.2)) then
 Option.bind (qaD k (List.take r12.1 r12.2) r15.2) fun r16 =>
 if (((0 : Int) ≤ x.2.2.1) ∧ (x.2.2.1 < ((x.1 : Nat) : Int))) then
 Option.bind (x.2.2.2.2.2.2.2.2.2.2.2.1)[(0 + (Int.toNat x.2.2.1))]? fun x3 =>
 rec (Sum.inr (x.1, r16, (IntKind.wrap .i64 (x.2.2.1 - (1 : Int))), x.2.2.2.1, x.2.2.2.2.1, x.2.2.2.2.2.1, x.2.2.2.2.2.2.1, x.2.2.2.2.2.2.2.1, x.2.2.2.2.2.2.2.2.1, x.2.2.2.2.2.2.2.2.2.1, x.2.2.2.2.2.2.2.2.2.2.1, (List.set x.2.2.2.2.2.2.2.2.2.2.2.1 (0 + (Int.toNat x.2.2.1)) r13), x.2.2.2.2.2.2.2.2.2.2.2.2.2.1, x.2.2.2.2.2.2.2.2.2.2.2.2.2.2))
 else
 none
 else
 none
 else
 if (((0 : Int) ≤ x.2.2.1) ∧ (x.2.2.1 < ((x.1 : Nat) : Int))) then
 Option.bind (x.2.2.2.2.2.2.2.2.2.2.2.1)[(0 + (Int.toNat x.2.2.1))]? fun x3 =>
 rec (Sum.inl (x.1, r12.1, (IntKind.wrap .i64 (x.2.2.1 - (1 : Int))), x.2.2.2.1, x.2.2.2.2.1, x.2.2.2.2.2.1, x.2.2.2.2.2.2.1, x.2.2.2.2.2.2.2.1, x.2.2.2.2.2.2.2.2.1, x.2.2.2.2.2.2.2.2.2.1, x.2.2.2.2.2.2.2.2.2.2.1, (List.set x.2.2.2.2.2.2.2.2.2.2.2.1 (0 + (Int.toNat x.2.2.1)) r13), r12.2, x.2.2.2.2.2.2.2.2.2.2.2.2.2.1, x.2.2.2.2.2.2.2.2.2.2.2.2.2.2))
 else
 none
 else
 none
 else
 none
 else
 none
 else
 none
 else
 (some (Sum.inl (x.1, x.2.1, x.2.2.2.1, x.2.2.2.2.1, x.2.2.2.2.2.1, x.2.2.2.2.2.2.1, x.2.2.2.2.2.2.2.1, x.2.2.2.2.2.2.2.2.1, x.2.2.2.2.2.2.2.2.2.1, x.2.2.2.2.2.2.2.2.2.2.1, x.2.2.2.2.2.2.2.2.2.2.2.1, x.2.2.2.2.2.2.2.2.2.2.2.2.1, x.2.2.2.2.2.2.2.2.2.2.2.2.2.1, x.2.2.2.2.2.2.2.2.2.2.2.2.2.2))))
 (fun x =>
 if ((decide (x.2.2.1 ≥ (0 : Int))) = true) then
 if ((0 : Int) ≤ x.2.2.1) then
 Option.bind (x.2.2.2.2.1)[(Int.toNat x.2.2.1)]? fun x2 =>
 if (((1 + (List.length x.2.1)) * 8) ≤ 140737488355328) then
 Option.bind (qC k (1 + (List.length x.2.1)) ((List.take 1 (x2 :: [])) ++ x.2.1)) fun r12 =>
 if ((0 + r12.1) ≤ (List.length r12.2)) then
 Option.bind (qcj k (List.take r12.1 r12.2) x.2.2.2.2.2.2.1) fun r13 =>
 if ((decide (r13 > (0 : Int))) = true) then
 Option.bind (qS k r13) fun r14 =>
 Option.bind (qU k false x.2.2.2.2.2.2.1 r14.1 r14.2) fun r15 =>
 if ((0 + r12.1) ≤ (List.length r12.2)) then
 Option.bind (qaD k (List.take r12.1 r12.2) r15.2) fun r16 =>
 if (((0 : Int) ≤ x.2.2.1) ∧ (x.2.2.1 < ((x.1 : Nat) : Int))) then
 Option.bind (x.2.2.2.2.2.2.2.2.2.2.2.1)[(0 + (Int.toNat x.2.2.1))]? fun x3 =>
 rec (Sum.inr (x.1, r16, (IntKind.wrap .i64 (x.2.2.1 - (1 : Int))), x.2.2.2.1, x.2.2.2.2.1, x.2.2.2.2.2.1, x.2.2.2.2.2.2.1, x.2.2.2.2.2.2.2.1, x.2.2.2.2.2.2.2.2.1, x.2.2.2.2.2.2.2.2.2.1, x.2.2.2.2.2.2.2.2.2.2.1, (List.set x.2.2.2.2.2.2.2.2.2.2.2.1 (0 + (Int.toNat x.2.2.1)) r13), x.2.2.2.2.2.2.2.2.2.2.2.2.1, x.2.2.2.2.2.2.2.2.2.2.2.2.2))
 else
 none
 else
 none
 else
 if (((0 : Int) ≤ x.2.2.1) ∧ (x.2.2.1 < ((x.1 : Nat) : Int))) then
 Option.bind (x.2.2.2.2.2.2.2.2.2.2.2.1)[(0 + (Int.toNat x.2.2.1))]? fun x3 =>
 rec (Sum.inl (x.1, r12.1, (IntKind.wrap .i64 (x.2.2.1 - (1 : Int))), x.2.2.2.1, x.2.2.2.2.1, x.2.2.2.2.2.1, x.2.2.2.2.2.2.1, x.2.2.2.2.2.2.2.1, x.2.2.2.2.2.2.2.2.1, x.2.2.2.2.2.2.2.2.2.1, x.2.2.2.2.2.2.2.2.2.2.1, (List.set x.2.2.2.2.2.2.2.2.2.2.2.1 (0 + (Int.toNat x.2.2.1)) r13), r12.2, x.2.2.2.2.2.2.2.2.2.2.2.2.1, x.2.2.2.2.2.2.2.2.2.2.2.2.2))
 else
 none
 else
 none
 else
 none
 else
 none
 else
 (some (Sum.inr (x.1, x.2.1, x.2.2.2.1, x.2.2.2.2.1, x.2.2.2.2.2.1, x.2.2.2.2.2.2.1, x.2.2.2.2.2.2.2.1, x.2.2.2.2.2.2.2.2.1, x.2.2.2.2.2.2.2.2.2.1, x.2.2.2.2.2.2.2.2.2.2.1, x.2.2.2.2.2.2.2.2.2.2.2.1, x.2.2.2.2.2.2.2.2.2.2.2.2.1, x.2.2.2.2.2.2.2.2.2.2.2.2.2))))
def qK (k n : Nat) : ((Nat × Nat × Int × Bool × List Int × Bool × List Int × Bool × Nat × Bool × Nat × List Int × List Int × List Int × List Int) ⊕ (Nat × List Int × Int × Bool × List Int × Bool × List Int × Bool × Nat × Bool × Nat × List Int × List Int × List Int)) → Option ((Nat × Nat × Bool × List Int × Bool × List Int × Bool × Nat × Bool × Nat × List Int × List Int × List Int × List Int) ⊕ (Nat × List Int × Bool × List Int × Bool × List Int × Bool × Nat × Bool × Nat × List Int × List Int × List Int)) := Nat.rec (fun _ => none) (fun _ r => qv k r) n
def qeF (k : Nat) (a0 : Bool) (a1 : List Int) (b0 : Bool) (b1 : List Int) : Option (Bool × List Int × Bool × List Int) :=
 if (((0 : Int) ≤ (((List.length a1) : Nat) : Int)) ∧ (((((List.length a1) : Nat) : Int) ≤ (((List.length a1) : Nat) : Int)) ∧ (((((List.length a1) : Nat) : Int) * (8 : Int)) ≤ (140737488355328 : Int)))) then
 Option.bind (qK k k (Sum.inl ((Int.toNat (((List.length a1) : Nat) : Int)), 0, (IntKind.wrap .i64 ((((List.length a1) : Nat) : Int) - (1 : Int))), a0, a1, b0, b1, false, 0, false, 0, (List.replicate (Int.toNat (((List.length a1) : Nat) : Int)) (0 : Int)), [], [], []))) fun r12 =>
 qc r12
 (fun r12 =>
 Option.bind (qC k r12.1 r12.2.2.2.2.2.2.2.2.2.2.1) fun r13 =>
 if ((!(r12.2.2.1 == r12.2.2.2.2.1)) = true) then
 if (r12.2.2.1 = true) then
 if ((0 + r13.1) ≤ (List.length r13.2)) then
 if ((0 + r12.2.1) ≤ (List.length r12.2.2.2.2.2.2.2.2.2.2.2.1)) then
 (some ((decide (((r13.1 : Nat) : Int) > (0 : Int))), (List.take r13.1 r13.2), (decide (((r12.2.1 : Nat) : Int) > (0 : Int))), (List.take r12.2.1 r12.2.2.2.2.2.2.2.2.2.2.2.1)))
 else
 none
 else
 none
 else
 if ((0 + r13.1) ≤ (List.length r13.2)) then
 if ((0 + r12.2.1) ≤ (List.length r12.2.2.2.2.2.2.2.2.2.2.2.1)) then
 (some ((decide (((r13.1 : Nat) : Int) > (0 : Int))), (List.take r13.1 r13.2), false, (List.take r12.2.1 r12.2.2.2.2.2.2.2.2.2.2.2.1)))
 else
 none
 else
 none
 else
 if (r12.2.2.1 = true) then
 if ((0 + r13.1) ≤ (List.length r13.2)) then
 if ((0 + r12.2.1) ≤ (List.length r12.2.2.2.2.2.2.2.2.2.2.2.1)) then
 (some (false, (List.take r13.1 r13.2), (decide (((r12.2.1 : Nat) : Int) > (0 : Int))), (List.take r12.2.1 r12.2.2.2.2.2.2.2.2.2.2.2.1)))
 else
 none
 else
 none
 else
 if ((0 + r13.1) ≤ (List.length r13.2)) then
 if ((0 + r12.2.1) ≤ (List.length r12.2.2.2.2.2.2.2.2.2.2.2.1)) then
 (some (false, (List.take r13.1 r13.2), false, (List.take r12.2.1 r12.2.2.2.2.2.2.2.2.2.2.2.1)))
 else
 none
 else
 none)
 (fun r12 =>
 Option.bind (qC k r12.1 r12.2.2.2.2.2.2.2.2.2.2.1) fun r13 =>
 if ((!(r12.2.2.1 == r12.2.2.2.2.1)) = true) then
 if (r12.2.2.1 = true) then
 if ((0 + r13.1) ≤ (List.length r13.2)) then
 (some ((decide (((r13.1 : Nat) : Int) > (0 : Int))), (List.take r13.1 r13.2), (decide ((((List.length r12.2.1) : Nat) : Int) > (0 : Int))), r12.2.1))
 else
 none
 else
 if ((0 + r13.1) ≤ (List.length r13.2)) then
 (some ((decide (((r13.1 : Nat) : Int) > (0 : Int))), (List.take r13.1 r13.2), false, r12.2.1))
 else
 none
 else
 if (r12.2.2.1 = true) then
 if ((0 + r13.1) ≤ (List.length r13.2)) then
 (some (false, (List.take r13.1 r13.2), (decide ((((List.length r12.2.1) : Nat) : Int) > (0 : Int))), r12.2.1))
 else
 none
 else
 if ((0 + r13.1) ≤ (List.length r13.2)) then
 (some (false, (List.take r13.1 r13.2), false, r12.2.1))
 else
 none)
 else
 none
def qaO : Nat → Bool → List Int → Bool → List Int → Option (Bool × List Int × Bool × List Int)
 | 0, _, _, _, _ => none
 | k + 1, a0, a1, b0, b1 => qeF k a0 a1 b0 b1
def qyL : Nat → Inst := mkI 152 ⟨[.g [.lf .bool, .lf (.sl (.int .i64))], .g [.lf .bool, .lf (.sl (.int .i64))]], []⟩ [⟨[.g [.lf .bool, .lf (.sl (.int .i64))], .g [.lf .bool, .lf (.sl (.int .i64))]], []⟩] fun k x => qaO k x.1 x.2.1 x.2.2.1 x.2.2.2
def qsq (k : Nat) := ac (qlm k) (ac (qxg k) (ac (qln k) (ac (qj1 k) (ac (qsm k) a0))))
def qvd (k : Nat) : LInst := mkL 0 [⟨[(2, .a (.ptr 0 0 0)), (3, .a (.ptr 1 0 0)), (4, .a (.ptr 2 0 0)), (5, .a (.ptr 3 0 0)), (6, .a (.smz 4)), (7, .a (.smz 5)), (8, vI)], [(0, some (.raw [[.lf .bool, .lf (.sl (.int .i64))]] 2 154 true false false)), (1, some (.raw [[.lf .bool, .lf (.sl (.int .i64))]] 2 154 true false false)), (2, some (.raw [[.lf .bool, .smz 6]] 2 154 false false false)), (3, some (.raw [[.lf .bool, .smz 7]] 2 154 false false false)), (4, some (.arr (.int .i64) 1 3 false)), (5, some (.arr (.int .i64) 1 3 false)), (6, some (.arr (.int .i64) 1 3 false)), (7, some (.arr (.int .i64) 1 3 false))], 8⟩, ⟨[(2, .a (.ptr 0 0 0)), (3, .a (.ptr 1 0 0)), (4, .a (.ptr 2 0 0)), (5, .a (.ptr 3 0 0)), (6, .a (.smz 4)), (7, vJ), (8, vI)], [(0, some (.raw [[.lf .bool, .lf (.sl (.int .i64))]] 2 154 true false false)), (1, some (.raw [[.lf .bool, .lf (.sl (.int .i64))]] 2 154 true false false)), (2, some (.raw [[.lf .bool, .smz 5]] 2 154 false false false)), (3, some (.raw [[.lf .bool, .smz 6]] 2 154 false false false)), (4, some (.arr (.int .i64) 1 3 false)), (5, some (.arr (.int .i64) 1 3 false)), (6, some (.arr (.int .i64) 1 3 false))], 7⟩] [⟨some 0, ⟨[(2, .a (.ptr 0 0 0)), (3, .a (.ptr 1 0 0)), (4, .a (.ptr 2 0 0)), (5, .a (.ptr 3 0 0)), (6, .a (.smz 4)), (7, .a (.smz 5))], [(0, some (.raw [[.lf .bool, .lf (.sl (.int .i64))]] 2 154 true false false)), (1, some (.raw [[.lf .bool, .lf (.sl (.int .i64))]] 2 154 true false false)), (2, some (.raw [[.lf .bool, .smz 6]] 2 154 false false false)), (3, some (.raw [[.lf .bool, .smz 7]] 2 154 false false false)), (4, some (.arr (.int .i64) 1 3 false)), (5, some (.arr (.int .i64) 1 3 false)), (6, some (.arr (.int .i64) 1 3 false)), (7, some (.arr (.int .i64) 1 3 false))], 8⟩⟩, ⟨some 0, ⟨[(2, .a (.ptr 0 0 0)), (3, .a (.ptr 1 0 0)), (4, .a (.ptr 2 0 0)), (5, .a (.ptr 3 0 0)), (6, .a (.smz 4)), (7, vJ)], [(0, some (.raw [[.lf .bool, .lf (.sl (.int .i64))]] 2 154 true false false)), (1, some (.raw [[.lf .bool, .lf (.sl (.int .i64))]] 2 154 true false false)), (2, some (.raw [[.lf .bool, .smz 5]] 2 154 false false false)), (3, some (.raw [[.lf .bool, .smz 6]] 2 154 false false false)), (4, some (.arr (.int .i64) 1 3 false)), (5, some (.arr (.int .i64) 1 3 false)), (6, some (.arr (.int .i64) 1 3 false))], 7⟩⟩] (fun n x => qK k n x) k
theorem qve (k : Nat) : LIo 152 Tryz.f152 0 k (qvd k) :=
 lpk [] (qsq k) l0 (fun _ => rfl) (by kernel_rfl) fun n x => by kernel_rfl
theorem qsr : ∀ k, qh (call cf k) (qyL k) :=
 fnk 0 [0] Tryz.func152 (fun k => (qsq k)) (fun k => (lc (qve k) l0)) ⟨rfl, rfl, ⟨rfl, Nat.le_of_ble_eq_true rfl⟩, rfl⟩ (fun _ => rfl) (by kernel_rfl) fun k x => by kernel_rfl

def qb3 (k : Nat) (rec : Bool → List Int → Bool → List Int → Bool → Nat → List Int → Option (Bool × List Int × Bool × List Int × Bool × Nat × List Int)) (a0 : Bool) (a1 : List Int) (b0 : Bool) (b1 : List Int) (x0 : Bool) (x1 : Nat) (m : List Int) : Option (Bool × List Int × Bool × List Int × Bool × Nat × List Int) :=
 if ((decide ((((List.length b1) : Nat) : Int) > (0 : Int))) = true) then
 Option.bind (qaO k a0 a1 b0 b1) fun r12 =>
 rec b0 b1 r12.2.2.1 r12.2.2.2 x0 x1 m
 else
 (some (a0, a1, b0, b1, x0, x1, m))
def qce (k n : Nat) : Bool → List Int → Bool → List Int → Bool → Nat → List Int → Option (Bool × List Int × Bool × List Int × Bool × Nat × List Int) := Nat.rec (fun _ _ _ _ _ _ _ => none) (fun _ r => qb3 k r) n
def qis (k : Nat) (a0 : Bool) (a1 : List Int) (b0 : Bool) (b1 : List Int) : Option (Bool × List Int) :=
 Option.bind (qbN k a0 a1) fun r10 =>
 Option.bind (qbN k b0 b1) fun r11 =>
 Option.bind (qce k k r10.1 r10.2 r11.1 r11.2 false 0 []) fun r12 =>
 (some (r12.1, r12.2.1))
def qcF : Nat → Bool → List Int → Bool → List Int → Option (Bool × List Int)
 | 0, _, _, _, _ => none
 | k + 1, a0, a1, b0, b1 => qis k a0 a1 b0 b1
def qyM : Nat → Inst := mkI 151 ⟨[.g [.lf .bool, .lf (.sl (.int .i64))], .g [.lf .bool, .lf (.sl (.int .i64))]], []⟩ [⟨[.g [.lf .bool, .lf (.sl (.int .i64))]], []⟩] fun k x => qcF k x.1 x.2.1 x.2.2.1 x.2.2.2
def qss (k : Nat) := ac (qxf k) (ac (qsr k) a0)
def qvf (k : Nat) : LInst := mkL 0 [⟨[(2, .a (.ptr 0 0 0)), (3, .a (.ptr 1 0 0)), (4, .a (.ptr 2 0 0))], [(0, some (.raw [[.lf .bool, .lf (.sl (.int .i64))]] 2 154 true false false)), (1, some (.raw [[.lf .bool, .lf (.sl (.int .i64))]] 2 154 true false false)), (2, some (.raw [[.lf .bool, .smz 3]] 2 154 false false false)), (3, some (.arr (.int .i64) 1 3 false))], 4⟩] [⟨some 0, ⟨[(2, .a (.ptr 0 0 0)), (4, .a (.ptr 2 0 0))], [(0, some (.raw [[.lf .bool, .lf (.sl (.int .i64))]] 2 154 true false false)), (1, some (.raw [[.lf .bool, .lf (.sl (.int .i64))]] 2 154 true false false)), (2, some (.raw [[.lf .bool, .smz 3]] 2 154 false false false)), (3, some (.arr (.int .i64) 1 3 false))], 4⟩⟩] (fun n x => qce k n x.1 x.2.1 x.2.2.1 x.2.2.2.1 x.2.2.2.2.1 x.2.2.2.2.2.1 x.2.2.2.2.2.2) k
theorem qvg (k : Nat) : LIo 151 Tryz.f151 0 k (qvf k) :=
 lpk [] (qss k) l0 (fun _ => rfl) (by kernel_rfl) fun n x => by kernel_rfl
theorem qxh : ∀ k, qh (call cf k) (qyM k) :=
 fnk 0 [0] Tryz.func151 (fun k => (qss k)) (fun k => (lc (qvg k) l0)) ⟨rfl, rfl, ⟨rfl, Nat.le_of_ble_eq_true rfl⟩, rfl⟩ (fun _ => rfl) (by kernel_rfl) fun k x => by kernel_rfl

def qcG (k : Nat) (num0 : Bool) (num1 : List Int) (den0 : Bool) (den1 : List Int) : Option (Bool × List Int × Bool × List Int) :=
 Option.bind (qdi k den0 den1) fun r7 =>
 if ((decide (r7 < (0 : Int))) = true) then
 Option.bind (qbH k num0 num1) fun r8 =>
 Option.bind (qbH k den0 den1) fun r9 =>
 Option.bind (qcF k r8.1 r8.2 r9.1 r9.2) fun r10 =>
 Option.bind (qaO k r8.1 r8.2 r10.1 r10.2) fun r11 =>
 Option.bind (qaO k r9.1 r9.2 r10.1 r10.2) fun r12 =>
 (some (r11.1, r11.2.1, r12.1, r12.2.1))
 else
 Option.bind (qcF k num0 num1 den0 den1) fun r8 =>
 Option.bind (qaO k num0 num1 r8.1 r8.2) fun r9 =>
 Option.bind (qaO k den0 den1 r8.1 r8.2) fun r10 =>
 (some (r9.1, r9.2.1, r10.1, r10.2.1))
def qcH : Nat → Bool → List Int → Bool → List Int → Option (Bool × List Int × Bool × List Int)
 | 0, _, _, _, _ => none
 | k + 1, num0, num1, den0, den1 => qcG k num0 num1 den0 den1
def qyN : Nat → Inst := mkI 93 ⟨[.g [.lf .bool, .lf (.sl (.int .i64))], .g [.lf .bool, .lf (.sl (.int .i64))]], []⟩ [⟨[.g [.lf .bool, .lf (.sl (.int .i64)), .lf .bool, .lf (.sl (.int .i64))]], []⟩] fun k x => qcH k x.1 x.2.1 x.2.2.1 x.2.2.2
theorem qxi : ∀ k, qh (call cf k) (qyN k) :=
 fnk 0 [] Tryz.func93 (fun k => (ac (qsn k) (ac (qso k) (ac (qxh k) (ac (qsr k) a0))))) (fun k => l0) ⟨rfl, rfl, ⟨rfl, Nat.le_of_ble_eq_true rfl⟩, rfl⟩ (fun _ => rfl) (by kernel_rfl) fun k x => by kernel_rfl

def qe3 (k : Nat) (n0 : Int) (n1 : Int) : Option (Bool) :=
 if ((n0 == (0 : Int)) = false) then
 if (((Int.tmod n0 (10 : Int)) == (0 : Int)) = true) then
 if ((n0 == (0 : Int)) = true) then
 (some (n1 == (0 : Int)))
 else
 (some false)
 else
 if ((decide (n0 ≤ (999999999 : Int))) = true) then
 if ((decide (n0 ≥ (-(999999999 : Int)))) = true) then
 if ((decide (n1 ≤ (9 : Int))) = true) then
 (some (decide (n1 ≥ (-(18 : Int)))))
 else
 (some false)
 else
 (some false)
 else
 (some false)
 else
 if ((n0 == (0 : Int)) = true) then
 (some (n1 == (0 : Int)))
 else
 (some false)
def qaE : Nat → Int → Int → Option (Bool)
 | 0, _, _ => none
 | k + 1, n0, n1 => qe3 k n0 n1
def qyO : Nat → Inst := mkI 67 ⟨[.g [.lf (.int .i64), .lf (.int .i64)]], []⟩ [⟨[vB], []⟩] fun k x => qaE k x.1 x.2
theorem qlo : ∀ k, qh (call cf k) (qyO k) :=
 fnk 0 [] Tryz.func67 (fun k => a0) (fun k => l0) ⟨rfl, rfl, ⟨rfl, Nat.le_of_ble_eq_true rfl⟩, rfl⟩ (fun _ => rfl) (by kernel_rfl) fun k x => by kernel_rfl

def qbg (k : Nat) (rec : ByteArray → Int → Option ((Bool) ⊕ (ByteArray))) (s : ByteArray) (i : Int) : Option ((Bool) ⊕ (ByteArray)) :=
 if ((decide (i < (((ByteArray.size s) : Nat) : Int))) = true) then
 if ((0 : Int) ≤ i) then
 Option.bind ((ByteArray.data s))[(Int.toNat i)]? fun x3 =>
 if ((decide ((((UInt8.toNat x3) : Nat) : Int) < (97 : Int))) = false) then
 if ((decide ((((UInt8.toNat x3) : Nat) : Int) > (122 : Int))) = true) then
 if ((decide ((((UInt8.toNat x3) : Nat) : Int) < (48 : Int))) = false) then
 if ((decide ((((UInt8.toNat x3) : Nat) : Int) > (57 : Int))) = true) then
 if (((((UInt8.toNat x3) : Nat) : Int) != (95 : Int)) = true) then
 (some (Sum.inl false))
 else
 rec s (IntKind.wrap .i64 (i + (1 : Int)))
 else
 rec s (IntKind.wrap .i64 (i + (1 : Int)))
 else
 if (((((UInt8.toNat x3) : Nat) : Int) != (95 : Int)) = true) then
 (some (Sum.inl false))
 else
 rec s (IntKind.wrap .i64 (i + (1 : Int)))
 else
 rec s (IntKind.wrap .i64 (i + (1 : Int)))
 else
 if ((decide ((((UInt8.toNat x3) : Nat) : Int) < (48 : Int))) = false) then
 if ((decide ((((UInt8.toNat x3) : Nat) : Int) > (57 : Int))) = true) then
 if (((((UInt8.toNat x3) : Nat) : Int) != (95 : Int)) = true) then
 (some (Sum.inl false))
 else
 rec s (IntKind.wrap .i64 (i + (1 : Int)))
 else
 rec s (IntKind.wrap .i64 (i + (1 : Int)))
 else
 if (((((UInt8.toNat x3) : Nat) : Int) != (95 : Int)) = true) then
 (some (Sum.inl false))
 else
 rec s (IntKind.wrap .i64 (i + (1 : Int)))
 else
 none
 else
 (some (Sum.inr s))
def qaa (k n : Nat) : ByteArray → Int → Option ((Bool) ⊕ (ByteArray)) := Nat.rec (fun _ _ => none) (fun _ r => qbg k r) n
def qfz (k : Nat) (s : ByteArray) : Option (Bool) :=
 Option.bind (qaa k k s (0 : Int)) fun r4 =>
 qc r4
 (fun r4 =>
 (some r4))
 (fun r4 =>
 if ((decide ((((ByteArray.size r4) : Nat) : Int) ≥ (1 : Int))) = true) then
 (some (decide ((((ByteArray.size r4) : Nat) : Int) ≤ (16 : Int))))
 else
 (some false))
def qcx : Nat → ByteArray → Option (Bool)
 | 0, _ => none
 | k + 1, s => qfz k s
def qyP : Nat → Inst := mkI 126 ⟨[vS], []⟩ [⟨[vB], []⟩] fun k x => qcx k x
def qvh (k : Nat) : LInst := mkL 0 [⟨[(0, vS), (3, vI)], [], 0⟩] [⟨none, ⟨[(2, vB)], [], 0⟩⟩, ⟨some 0, ⟨[(0, vS)], [], 0⟩⟩] (fun n x => qaa k n x.1 x.2) k
theorem qvi (k : Nat) : LIo 126 Tryz.f126 0 k (qvh k) :=
 lpk [] a0 l0 (fun _ => rfl) (by kernel_rfl) fun n x => by kernel_rfl
theorem qst : ∀ k, qh (call cf k) (qyP k) :=
 fnk 0 [0] Tryz.func126 (fun k => a0) (fun k => (lc (qvi k) l0)) ⟨rfl, rfl, ⟨rfl, Nat.le_of_ble_eq_true rfl⟩, rfl⟩ (fun _ => rfl) (by kernel_rfl) fun k x => by kernel_rfl

def qbh (k : Nat) (rec : ByteArray → Int → Int → Int → Option ((Bool) ⊕ (Int))) (s : ByteArray) (parts : Int) (from1 : Int) (i : Int) : Option ((Bool) ⊕ (Int)) :=
 if ((decide (i ≤ (((ByteArray.size s) : Nat) : Int))) = true) then
 if ((i == (((ByteArray.size s) : Nat) : Int)) = false) then
 if ((0 : Int) ≤ i) then
 Option.bind ((ByteArray.data s))[(Int.toNat i)]? fun x2 =>
 if (((((UInt8.toNat x2) : Nat) : Int) == (46 : Int)) = true) then
 if (((0 : Int) ≤ from1) ∧ ((from1 ≤ i) ∧ (i ≤ (((ByteArray.size s) : Nat) : Int)))) then
 Option.bind (qcx k (ByteArray.extract s (Int.toNat from1) (Int.toNat i))) fun r4 =>
 if ((!r4) = true) then
 (some (Sum.inl false))
 else
 rec s (IntKind.wrap .i64 (parts + (1 : Int))) (IntKind.wrap .i64 (i + (1 : Int))) (IntKind.wrap .i64 (i + (1 : Int)))
 else
 none
 else
 rec s parts from1 (IntKind.wrap .i64 (i + (1 : Int)))
 else
 none
 else
 if (((0 : Int) ≤ from1) ∧ ((from1 ≤ i) ∧ (i ≤ (((ByteArray.size s) : Nat) : Int)))) then
 Option.bind (qcx k (ByteArray.extract s (Int.toNat from1) (Int.toNat i))) fun r4 =>
 if ((!r4) = true) then
 (some (Sum.inl false))
 else
 rec s (IntKind.wrap .i64 (parts + (1 : Int))) (IntKind.wrap .i64 (i + (1 : Int))) (IntKind.wrap .i64 (i + (1 : Int)))
 else
 none
 else
 (some (Sum.inr parts))
def qat (k n : Nat) : ByteArray → Int → Int → Int → Option ((Bool) ⊕ (Int)) := Nat.rec (fun _ _ _ _ => none) (fun _ r => qbh k r) n
def qfA (k : Nat) (s : ByteArray) : Option (Bool) :=
 Option.bind (qat k k s (0 : Int) (0 : Int) (0 : Int)) fun r4 =>
 qc r4
 (fun r4 =>
 (some r4))
 (fun r4 =>
 (some (decide (r4 ≤ (9 : Int)))))
def qz : Nat → ByteArray → Option (Bool)
 | 0, _ => none
 | k + 1, s => qfA k s
def qyQ : Nat → Inst := mkI 69 ⟨[vS], []⟩ [⟨[vB], []⟩] fun k x => qz k x
def qsu (k : Nat) := ac (qst k) a0
def qvj (k : Nat) : LInst := mkL 0 [⟨[(0, vS), (3, vI), (4, vI), (5, vI)], [], 0⟩] [⟨none, ⟨[(2, vB)], [], 0⟩⟩, ⟨some 0, ⟨[(3, vI)], [], 0⟩⟩] (fun n x => qat k n x.1 x.2.1 x.2.2.1 x.2.2.2) k
theorem qvk (k : Nat) : LIo 69 Tryz.f69 0 k (qvj k) :=
 lpk [] (qsu k) l0 (fun _ => rfl) (by kernel_rfl) fun n x => by kernel_rfl
theorem qsv : ∀ k, qh (call cf k) (qyQ k) :=
 fnk 0 [0] Tryz.func69 (fun k => (qsu k)) (fun k => (lc (qvk k) l0)) ⟨rfl, rfl, ⟨rfl, Nat.le_of_ble_eq_true rfl⟩, rfl⟩ (fun _ => rfl) (by kernel_rfl) fun k x => by kernel_rfl

def qaJ (k : Nat) (rec : List Int → Int → Option ((Bool) ⊕ (Unit))) (l : List Int) (i : Int) : Option ((Bool) ⊕ (Unit)) :=
 if ((decide (i < (((List.length l) : Nat) : Int))) = true) then
 if ((0 : Int) ≤ (IntKind.wrap .i64 (i - (1 : Int)))) then
 Option.bind (l)[(Int.toNat (IntKind.wrap .i64 (i - (1 : Int))))]? fun x3 =>
 if ((0 : Int) ≤ i) then
 Option.bind (l)[(Int.toNat i)]? fun x4 =>
 if ((decide (x3 ≥ x4)) = true) then
 (some (Sum.inl false))
 else
 rec l (IntKind.wrap .i64 (i + (1 : Int)))
 else
 none
 else
 none
 else
 (some (Sum.inr ()))
def qL (k n : Nat) : List Int → Int → Option ((Bool) ⊕ (Unit)) := Nat.rec (fun _ _ => none) (fun _ r => qaJ k r) n
def qit (k : Nat) (l : List Int) : Option (Bool) :=
 Option.bind (qL k k l (1 : Int)) fun r9 =>
 qc r9
 (fun r9 =>
 (some r9))
 (fun r9 =>
 (some true))
def qcI : Nat → List Int → Option (Bool)
 | 0, _ => none
 | k + 1, l => qit k l
def qyR : Nat → Inst := mkI 189 ⟨[vJ], []⟩ [⟨[vB], []⟩] fun k x => qcI k x
def qvl (k : Nat) : LInst := mkL 0 [⟨[(0, vJ), (3, vI)], [], 0⟩] [⟨none, ⟨[(2, vB)], [], 0⟩⟩, ⟨some 0, ⟨[], [], 0⟩⟩] (fun n x => qL k n x.1 x.2) k
theorem qvm (k : Nat) : LIo 189 Tryz.f189 0 k (qvl k) :=
 lpk [] a0 l0 (fun _ => rfl) (by kernel_rfl) fun n x => by kernel_rfl
theorem qxj : ∀ k, qh (call cf k) (qyR k) :=
 fnk 0 [0] Tryz.func189 (fun k => a0) (fun k => (lc (qvm k) l0)) ⟨rfl, rfl, ⟨rfl, Nat.le_of_ble_eq_true rfl⟩, rfl⟩ (fun _ => rfl) (by kernel_rfl) fun k x => by kernel_rfl

def qaT (k : Nat) (rec : Int → Int → List (Int × Int) → List Int → Option ((Bool × Int × List (Int × Int) × List Int) ⊕ (Int × List (Int × Int) × List Int))) (i : Int) (w0 : Int) (w1 : List (Int × Int)) (w2 : List Int) : Option ((Bool × Int × List (Int × Int) × List Int) ⊕ (Int × List (Int × Int) × List Int)) :=
 if ((decide (i < (((List.length w1) : Nat) : Int))) = true) then
 if ((0 : Int) ≤ i) then
 Option.bind (w1)[(Int.toNat i)]? fun x3 =>
 Option.bind (qaE k x3.1 x3.2) fun r7 =>
 if ((!r7) = true) then
 (some (Sum.inl (false, w0, w1, w2)))
 else
 rec (IntKind.wrap .i64 (i + (1 : Int))) w0 w1 w2
 else
 none
 else
 (some (Sum.inr (w0, w1, w2)))
def qP (k n : Nat) : Int → Int → List (Int × Int) → List Int → Option ((Bool × Int × List (Int × Int) × List Int) ⊕ (Int × List (Int × Int) × List Int)) := Nat.rec (fun _ _ _ _ => none) (fun _ r => qaT k r) n
def qaU (k : Nat) (rec : Int → Int → List (Int × Int) → List Int → Option ((Bool × Int × List (Int × Int) × List Int) ⊕ (Int × List (Int × Int) × List Int))) (i : Int) (w0 : Int) (w1 : List (Int × Int)) (w2 : List Int) : Option ((Bool × Int × List (Int × Int) × List Int) ⊕ (Int × List (Int × Int) × List Int)) :=
 if ((decide (i < (((List.length w2) : Nat) : Int))) = true) then
 if ((0 : Int) ≤ i) then
 Option.bind (w2)[(Int.toNat i)]? fun x3 =>
 if ((decide (x3 < (0 : Int))) = false) then
 if ((0 : Int) ≤ i) then
 Option.bind (w2)[(Int.toNat i)]? fun x4 =>
 if ((decide (x4 > (1000000000 : Int))) = true) then
 (some (Sum.inl (false, w0, w1, w2)))
 else
 rec (IntKind.wrap .i64 (i + (1 : Int))) w0 w1 w2
 else
 none
 else
 (some (Sum.inl (false, w0, w1, w2)))
 else
 none
 else
 (some (Sum.inr (w0, w1, w2)))
def qI (k n : Nat) : Int → Int → List (Int × Int) → List Int → Option ((Bool × Int × List (Int × Int) × List Int) ⊕ (Int × List (Int × Int) × List Int)) := Nat.rec (fun _ _ _ _ => none) (fun _ r => qaU k r) n
def qe4 (k : Nat) (w0 : Int) (w1 : List (Int × Int)) (w2 : List Int) : Option (Bool) :=
 Option.bind (qP k k (0 : Int) w0 w1 w2) fun r7 =>
 qc r7
 (fun r7 =>
 (some r7.1))
 (fun r7 =>
 Option.bind (qI k k (0 : Int) r7.1 r7.2.1 r7.2.2) fun r8 =>
 qc r8
 (fun r8 =>
 (some r8.1))
 (fun r8 =>
 if ((r8.1 == (1 : Int)) = true) then
 if (((((List.length r8.2.1) : Nat) : Int) == (1 : Int)) = true) then
 (some ((((List.length r8.2.2) : Nat) : Int) == (0 : Int)))
 else
 (some false)
 else
 if ((r8.1 == (2 : Int)) = true) then
 if (((((List.length r8.2.1) : Nat) : Int) == (2 : Int)) = true) then
 if (((((List.length r8.2.2) : Nat) : Int) == (5 : Int)) = true) then
 Option.bind (r8.2.2)[4]? fun x3 =>
 if ((decide (x3 > (0 : Int))) = true) then
 Option.bind (r8.2.2)[1]? fun x4 =>
 Option.bind (r8.2.2)[2]? fun x5 =>
 Option.bind (r8.2.2)[3]? fun x6 =>
 Option.bind (r8.2.2)[4]? fun x7 =>
 (some (decide ((IntKind.wrap .i64 ((IntKind.wrap .i64 (x4 + x5)) + x6)) ≤ x7)))
 else
 (some false)
 else
 (some false)
 else
 (some false)
 else
 if ((r8.1 == (3 : Int)) = true) then
 if (((((List.length r8.2.1) : Nat) : Int) == (((List.length r8.2.2) : Nat) : Int)) = true) then
 if ((decide ((((List.length r8.2.1) : Nat) : Int) ≥ (1 : Int))) = true) then
 if ((decide ((((List.length r8.2.1) : Nat) : Int) ≤ (16 : Int))) = true) then
 Option.bind (qcI k r8.2.2) fun r9 =>
 (some r9)
 else
 (some false)
 else
 (some false)
 else
 (some false)
 else
 if ((r8.1 == (4 : Int)) = true) then
 if ((decide ((((List.length r8.2.1) : Nat) : Int) ≥ (1 : Int))) = true) then
 if ((decide ((((List.length r8.2.1) : Nat) : Int) ≤ (16 : Int))) = true) then
 (some ((((List.length r8.2.2) : Nat) : Int) == (0 : Int)))
 else
 (some false)
 else
 (some false)
 else
 (some false)))
def qV : Nat → Int → List (Int × Int) → List Int → Option (Bool)
 | 0, _, _, _ => none
 | k + 1, w0, w1, w2 => qe4 k w0 w1 w2
def qyS : Nat → Inst := mkI 124 ⟨[.g [.lf (.int .i64), .lf cE, .lf (.sl (.int .i64))]], []⟩ [⟨[vB], []⟩] fun k x => qV k x.1 x.2.1 x.2.2
def qow (k : Nat) := ac (qlo k) (ac (qxj k) a0)
def qvn (k : Nat) : LInst := mkL 0 [⟨[(1, .a (.ptr 0 0 0)), (3, vI)], [(0, some (.raw [[.lf (.int .i64), .lf cE, .lf (.sl (.int .i64))]] 3 44 true false false))], 1⟩] [⟨none, ⟨[(2, vB)], [(0, some (.raw [[.lf (.int .i64), .lf cE, .lf (.sl (.int .i64))]] 3 44 true false false))], 1⟩⟩, ⟨some 0, ⟨[(1, .a (.ptr 0 0 0))], [(0, some (.raw [[.lf (.int .i64), .lf cE, .lf (.sl (.int .i64))]] 3 44 true false false))], 1⟩⟩] (fun n x => qP k n x.1 x.2.1 x.2.2.1 x.2.2.2) k
theorem qpS (k : Nat) : LIo 124 Tryz.f124 0 k (qvn k) :=
 lpk [] (qow k) l0 (fun _ => rfl) (by kernel_rfl) fun n x => by kernel_rfl
def qvo (k : Nat) : LInst := mkL 2 [⟨[(1, .a (.ptr 0 0 0)), (4, vI)], [(0, some (.raw [[.lf (.int .i64), .lf cE, .lf (.sl (.int .i64))]] 3 44 true false false))], 1⟩] [⟨none, ⟨[(2, vB)], [(0, some (.raw [[.lf (.int .i64), .lf cE, .lf (.sl (.int .i64))]] 3 44 true false false))], 1⟩⟩, ⟨some 2, ⟨[(1, .a (.ptr 0 0 0))], [(0, some (.raw [[.lf (.int .i64), .lf cE, .lf (.sl (.int .i64))]] 3 44 true false false))], 1⟩⟩] (fun n x => qI k n x.1 x.2.1 x.2.2.1 x.2.2.2) k
theorem qvp (k : Nat) : LIo 124 Tryz.f124 0 k (qvo k) :=
 lpk [] (qow k) (lc (qpS k) l0) (fun _ => rfl) (by kernel_rfl) fun n x => by kernel_rfl
theorem qxk : ∀ k, qh (call cf k) (qyS k) :=
 fnk 0 [0, 2] Tryz.func124 (fun k => (qow k)) (fun k => (lc (qpS k) (lc (qvp k) l0))) ⟨rfl, rfl, ⟨rfl, Nat.le_of_ble_eq_true rfl⟩, rfl⟩ (fun _ => rfl) (by kernel_rfl) fun k x => by kernel_rfl

def qbi (k : Nat) (rec : List (Int × Int) → List (Int × Int) → Int → Option ((Bool) ⊕ (Unit))) (a : List (Int × Int)) (b : List (Int × Int)) (i : Int) : Option ((Bool) ⊕ (Unit)) :=
 if ((decide (i < (((List.length a) : Nat) : Int))) = true) then
 if ((0 : Int) ≤ i) then
 Option.bind (a)[(Int.toNat i)]? fun x3 =>
 if ((0 : Int) ≤ i) then
 Option.bind (b)[(Int.toNat i)]? fun x4 =>
 if ((x3.1 == x4.1) = true) then
 if ((x3.2 == x4.2) = true) then
 rec a b (IntKind.wrap .i64 (i + (1 : Int)))
 else
 (some (Sum.inl false))
 else
 (some (Sum.inl false))
 else
 none
 else
 none
 else
 (some (Sum.inr ()))
def qau (k n : Nat) : List (Int × Int) → List (Int × Int) → Int → Option ((Bool) ⊕ (Unit)) := Nat.rec (fun _ _ _ => none) (fun _ r => qbi k r) n
def qfB (k : Nat) (a : List (Int × Int)) (b : List (Int × Int)) : Option (Bool) :=
 if (((((List.length a) : Nat) : Int) != (((List.length b) : Nat) : Int)) = true) then
 (some false)
 else
 Option.bind (qau k k a b (0 : Int)) fun r9 =>
 qc r9
 (fun r9 =>
 (some r9))
 (fun r9 =>
 (some true))
def qcy : Nat → List (Int × Int) → List (Int × Int) → Option (Bool)
 | 0, _, _ => none
 | k + 1, a, b => qfB k a b
def qyT : Nat → Inst := mkI 188 ⟨[.a (.lf cE), .a (.lf cE)], []⟩ [⟨[vB], []⟩] fun k x => qcy k x.1 x.2
def qvq (k : Nat) : LInst := mkL 0 [⟨[(0, .a (.lf cE)), (1, .a (.lf cE)), (5, vI)], [], 0⟩] [⟨none, ⟨[(4, vB)], [], 0⟩⟩, ⟨some 0, ⟨[], [], 0⟩⟩] (fun n x => qau k n x.1 x.2.1 x.2.2) k
theorem qvr (k : Nat) : LIo 188 Tryz.f188 0 k (qvq k) :=
 lpk [] a0 l0 (fun _ => rfl) (by kernel_rfl) fun n x => by kernel_rfl
theorem qsw : ∀ k, qh (call cf k) (qyT k) :=
 fnk 0 [0] Tryz.func188 (fun k => a0) (fun k => (lc (qvr k) l0)) ⟨rfl, rfl, ⟨rfl, Nat.le_of_ble_eq_true rfl⟩, rfl⟩ (fun _ => rfl) (by kernel_rfl) fun k x => by kernel_rfl

def qbj (k : Nat) (rec : Int → Int → List (Int × Int) → List Int → Int → List (Int × Int) → List Int → Option ((Bool × Int × List (Int × Int) × List Int × Int × List (Int × Int) × List Int) ⊕ (Int × List (Int × Int) × List Int × Int × List (Int × Int) × List Int))) (i : Int) (a0 : Int) (a1 : List (Int × Int)) (a2 : List Int) (b0 : Int) (b1 : List (Int × Int)) (b2 : List Int) : Option ((Bool × Int × List (Int × Int) × List Int × Int × List (Int × Int) × List Int) ⊕ (Int × List (Int × Int) × List Int × Int × List (Int × Int) × List Int)) :=
 if ((decide (i < (((List.length a2) : Nat) : Int))) = true) then
 if ((0 : Int) ≤ i) then
 Option.bind (a2)[(Int.toNat i)]? fun x3 =>
 if ((0 : Int) ≤ i) then
 Option.bind (b2)[(Int.toNat i)]? fun x4 =>
 if ((x3 != x4) = true) then
 (some (Sum.inl (false, a0, a1, a2, b0, b1, b2)))
 else
 rec (IntKind.wrap .i64 (i + (1 : Int))) a0 a1 a2 b0 b1 b2
 else
 none
 else
 none
 else
 (some (Sum.inr (a0, a1, a2, b0, b1, b2)))
def qav (k n : Nat) : Int → Int → List (Int × Int) → List Int → Int → List (Int × Int) → List Int → Option ((Bool × Int × List (Int × Int) × List Int × Int × List (Int × Int) × List Int) ⊕ (Int × List (Int × Int) × List Int × Int × List (Int × Int) × List Int)) := Nat.rec (fun _ _ _ _ _ _ _ => none) (fun _ r => qbj k r) n
def qfC (k : Nat) (a0 : Int) (a1 : List (Int × Int)) (a2 : List Int) (b0 : Int) (b1 : List (Int × Int)) (b2 : List Int) : Option (Bool) :=
 if ((a0 != b0) = false) then
 if (((((List.length a2) : Nat) : Int) != (((List.length b2) : Nat) : Int)) = true) then
 (some false)
 else
 Option.bind (qav k k (0 : Int) a0 a1 a2 b0 b1 b2) fun r8 =>
 qc r8
 (fun r8 =>
 (some r8.1))
 (fun r8 =>
 Option.bind (qcy k r8.2.1 r8.2.2.2.2.1) fun r9 =>
 (some r9))
 else
 (some false)
def qt : Nat → Int → List (Int × Int) → List Int → Int → List (Int × Int) → List Int → Option (Bool)
 | 0, _, _, _, _, _, _ => none
 | k + 1, a0, a1, a2, b0, b1, b2 => qfC k a0 a1 a2 b0 b1 b2
def qyU : Nat → Inst := mkI 122 ⟨[.g [.lf (.int .i64), .lf cE, .lf (.sl (.int .i64))], .g [.lf (.int .i64), .lf cE, .lf (.sl (.int .i64))]], []⟩ [⟨[vB], []⟩] fun k x => qt k x.1 x.2.1 x.2.2.1 x.2.2.2.1 x.2.2.2.2.1 x.2.2.2.2.2
def qsx (k : Nat) := ac (qsw k) a0
def qvs (k : Nat) : LInst := mkL 0 [⟨[(2, .a (.ptr 0 0 0)), (3, .a (.ptr 1 0 0)), (5, vI)], [(0, some (.raw [[.lf (.int .i64), .lf cE, .lf (.sl (.int .i64))]] 3 44 true false false)), (1, some (.raw [[.lf (.int .i64), .lf cE, .lf (.sl (.int .i64))]] 3 44 true false false))], 2⟩] [⟨none, ⟨[(4, vB)], [(0, some (.raw [[.lf (.int .i64), .lf cE, .lf (.sl (.int .i64))]] 3 44 true false false)), (1, some (.raw [[.lf (.int .i64), .lf cE, .lf (.sl (.int .i64))]] 3 44 true false false))], 2⟩⟩, ⟨some 0, ⟨[(2, .a (.ptr 0 0 0)), (3, .a (.ptr 1 0 0))], [(0, some (.raw [[.lf (.int .i64), .lf cE, .lf (.sl (.int .i64))]] 3 44 true false false)), (1, some (.raw [[.lf (.int .i64), .lf cE, .lf (.sl (.int .i64))]] 3 44 true false false))], 2⟩⟩] (fun n x => qav k n x.1 x.2.1 x.2.2.1 x.2.2.2.1 x.2.2.2.2.1 x.2.2.2.2.2.1 x.2.2.2.2.2.2) k
theorem qvt (k : Nat) : LIo 122 Tryz.f122 0 k (qvs k) :=
 lpk [] (qsx k) l0 (fun _ => rfl) (by kernel_rfl) fun n x => by kernel_rfl
theorem qxl : ∀ k, qh (call cf k) (qyU k) :=
 fnk 0 [0] Tryz.func122 (fun k => (qsx k)) (fun k => (lc (qvt k) l0)) ⟨rfl, rfl, ⟨rfl, Nat.le_of_ble_eq_true rfl⟩, rfl⟩ (fun _ => rfl) (by kernel_rfl) fun k x => by kernel_rfl

def qcf (k : Nat) (rec : Int → Int → Bool → Nat → Bool → List Int → List Int → Option (Bool × Nat × Bool × List Int × List Int)) (k1 : Int) (i : Int) (x0 : Bool) (x1 : Nat) (p0 : Bool) (p1 : List Int) (m : List Int) : Option (Bool × Nat × Bool × List Int × List Int) :=
 if ((decide (i < k1)) = true) then
 Option.bind (qS k (10 : Int)) fun r14 =>
 Option.bind (qU k p0 p1 r14.1 r14.2) fun r15 =>
 rec k1 (IntKind.wrap .i64 (i + (1 : Int))) x0 x1 r15.1 r15.2 m
 else
 (some (x0, x1, p0, p1, m))
def qbk (k n : Nat) : Int → Int → Bool → Nat → Bool → List Int → List Int → Option (Bool × Nat × Bool × List Int × List Int) := Nat.rec (fun _ _ _ _ _ _ _ => none) (fun _ r => qcf k r) n
def qiT (k : Nat) (k1 : Int) : Option (Bool × List Int) :=
 Option.bind (qS k (1 : Int)) fun r13 =>
 Option.bind (qbk k k k1 (0 : Int) false 0 r13.1 r13.2 []) fun r14 =>
 (some (r14.2.2.1, r14.2.2.2.1))
def qcY : Nat → Int → Option (Bool × List Int)
 | 0, _ => none
 | k + 1, k1 => qiT k k1
def qyV : Nat → Inst := mkI 217 ⟨[vI], []⟩ [⟨[.g [.lf .bool, .lf (.sl (.int .i64))]], []⟩] fun k x => qcY k x
def qsy (k : Nat) := ac (qln k) (ac (qj1 k) a0)
def qvu (k : Nat) : LInst := mkL 0 [⟨[(0, vI), (2, .a (.ptr 0 0 0)), (3, .a (.ptr 1 0 0)), (4, vI)], [(0, some (.raw [[.lf .bool, .smz 2]] 2 154 false false false)), (1, some (.raw [[.lf .bool, .lf (.sl (.int .i64))]] 2 154 true false false)), (2, some (.arr (.int .i64) 1 3 false))], 3⟩] [⟨some 0, ⟨[(2, .a (.ptr 0 0 0)), (3, .a (.ptr 1 0 0))], [(0, some (.raw [[.lf .bool, .smz 2]] 2 154 false false false)), (1, some (.raw [[.lf .bool, .lf (.sl (.int .i64))]] 2 154 true false false)), (2, some (.arr (.int .i64) 1 3 false))], 3⟩⟩] (fun n x => qbk k n x.1 x.2.1 x.2.2.1 x.2.2.2.1 x.2.2.2.2.1 x.2.2.2.2.2.1 x.2.2.2.2.2.2) k
theorem qvv (k : Nat) : LIo 217 Tryz.f217 0 k (qvu k) :=
 lpk [] (qsy k) l0 (fun _ => rfl) (by kernel_rfl) fun n x => by kernel_rfl
theorem qxm : ∀ k, qh (call cf k) (qyV k) :=
 fnk 0 [0] Tryz.func217 (fun k => (qsy k)) (fun k => (lc (qvv k) l0)) ⟨rfl, rfl, ⟨rfl, Nat.le_of_ble_eq_true rfl⟩, rfl⟩ (fun _ => rfl) (by kernel_rfl) fun k x => by kernel_rfl

def qhA (k : Nat) (n0 : Int) (n1 : Int) : Option (Bool × List Int × Bool × List Int) :=
 Option.bind (qdf k n0) fun r12 =>
 if ((decide (n1 < (0 : Int))) = true) then
 Option.bind (qcY k (IntKind.wrap .i64 ((0 : Int) - n1))) fun r13 =>
 Option.bind (qcH k r12.1 r12.2 r13.1 r13.2) fun r14 =>
 (some (r14.1, r14.2.1, r14.2.2.1, r14.2.2.2))
 else
 Option.bind (qcY k n1) fun r13 =>
 Option.bind (qU k r12.1 r12.2 r13.1 r13.2) fun r14 =>
 Option.bind (qS k (1 : Int)) fun r15 =>
 (some (r14.1, r14.2, r15.1, r15.2))
def qb4 : Nat → Int → Int → Option (Bool × List Int × Bool × List Int)
 | 0, _, _ => none
 | k + 1, n0, n1 => qhA k n0 n1
def qyW : Nat → Inst := mkI 180 ⟨[.g [.lf (.int .i64), .lf (.int .i64)]], []⟩ [⟨[.g [.lf .bool, .lf (.sl (.int .i64)), .lf .bool, .lf (.sl (.int .i64))]], []⟩] fun k x => qb4 k x.1 x.2
theorem qxn : ∀ k, qh (call cf k) (qyW k) :=
 fnk 0 [] Tryz.func180 (fun k => (ac (qxc k) (ac (qxm k) (ac (qxi k) (ac (qj1 k) (ac (qln k) a0)))))) (fun k => l0) ⟨rfl, rfl, ⟨rfl, Nat.le_of_ble_eq_true rfl⟩, rfl⟩ (fun _ => rfl) (by kernel_rfl) fun k x => by kernel_rfl

def qji (k : Nat) (a0 : Bool) (a1 : List Int) (b0 : Bool) (b1 : List Int) : Option (Bool × List Int) :=
 Option.bind (qbH k b0 b1) fun r16 =>
 Option.bind (qcw k a0 a1 r16.1 r16.2) fun r17 =>
 (some (r17.1, r17.2))
def qd0 : Nat → Bool → List Int → Bool → List Int → Option (Bool × List Int)
 | 0, _, _, _, _ => none
 | k + 1, a0, a1, b0, b1 => qji k a0 a1 b0 b1
def qyX : Nat → Inst := mkI 236 ⟨[.g [.lf .bool, .lf (.sl (.int .i64))], .g [.lf .bool, .lf (.sl (.int .i64))]], []⟩ [⟨[.g [.lf .bool, .lf (.sl (.int .i64))]], []⟩] fun k x => qd0 k x.1 x.2.1 x.2.2.1 x.2.2.2
theorem qxo : ∀ k, qh (call cf k) (qyX k) :=
 fnk 0 [] Tryz.func236 (fun k => (ac (qso k) (ac (qxe k) a0))) (fun k => l0) ⟨rfl, rfl, ⟨rfl, Nat.le_of_ble_eq_true rfl⟩, rfl⟩ (fun _ => rfl) (by kernel_rfl) fun k x => by kernel_rfl

def qjj (k : Nat) (a0 : Bool) (a1 : List Int) (b0 : Bool) (b1 : List Int) : Option (Int) :=
 Option.bind (qd0 k a0 a1 b0 b1) fun r16 =>
 Option.bind (qdi k r16.1 r16.2) fun r17 =>
 (some r17)
def qd1 : Nat → Bool → List Int → Bool → List Int → Option (Int)
 | 0, _, _, _, _ => none
 | k + 1, a0, a1, b0, b1 => qjj k a0 a1 b0 b1
def qyY : Nat → Inst := mkI 225 ⟨[.g [.lf .bool, .lf (.sl (.int .i64))], .g [.lf .bool, .lf (.sl (.int .i64))]], []⟩ [⟨[vI], []⟩] fun k x => qd1 k x.1 x.2.1 x.2.2.1 x.2.2.2
theorem qxp : ∀ k, qh (call cf k) (qyY k) :=
 fnk 0 [] Tryz.func225 (fun k => (ac (qxo k) (ac (qsn k) a0))) (fun k => l0) ⟨rfl, rfl, ⟨rfl, Nat.le_of_ble_eq_true rfl⟩, rfl⟩ (fun _ => rfl) (by kernel_rfl) fun k x => by kernel_rfl

def qjk (k : Nat) (a0 : Bool) (a1 : List Int) (a2 : Bool) (a3 : List Int) (b0 : Bool) (b1 : List Int) (b2 : Bool) (b3 : List Int) : Option (Int) :=
 Option.bind (qU k a0 a1 b2 b3) fun r14 =>
 Option.bind (qU k b0 b1 a2 a3) fun r15 =>
 Option.bind (qd1 k r14.1 r14.2 r15.1 r15.2) fun r16 =>
 (some r16)
def qdj : Nat → Bool → List Int → Bool → List Int → Bool → List Int → Bool → List Int → Option (Int)
 | 0, _, _, _, _, _, _, _, _ => none
 | k + 1, a0, a1, a2, a3, b0, b1, b2, b3 => qjk k a0 a1 a2 a3 b0 b1 b2 b3
def qyZ : Nat → Inst := mkI 190 ⟨[.g [.lf .bool, .lf (.sl (.int .i64)), .lf .bool, .lf (.sl (.int .i64))], .g [.lf .bool, .lf (.sl (.int .i64)), .lf .bool, .lf (.sl (.int .i64))]], []⟩ [⟨[vI], []⟩] fun k x => qdj k x.1 x.2.1 x.2.2.1 x.2.2.2.1 x.2.2.2.2.1 x.2.2.2.2.2.1 x.2.2.2.2.2.2.1 x.2.2.2.2.2.2.2
theorem qxq : ∀ k, qh (call cf k) (qyZ k) :=
 fnk 0 [] Tryz.func190 (fun k => (ac (qj1 k) (ac (qxp k) a0))) (fun k => l0) ⟨rfl, rfl, ⟨rfl, Nat.le_of_ble_eq_true rfl⟩, rfl⟩ (fun _ => rfl) (by kernel_rfl) fun k x => by kernel_rfl

def qaV (k : Nat) (rec : Int → ByteArray → Int → List (Int × Int) → List (Int × Int) → Option ((Bool × ByteArray × Int × List (Int × Int) × List (Int × Int)) ⊕ (ByteArray × Int × List (Int × Int) × List (Int × Int)))) (i : Int) (m0 : ByteArray) (m1 : Int) (m2 : List (Int × Int)) (m3 : List (Int × Int)) : Option ((Bool × ByteArray × Int × List (Int × Int) × List (Int × Int)) ⊕ (ByteArray × Int × List (Int × Int) × List (Int × Int))) :=
 if ((decide (i < (((List.length m2) : Nat) : Int))) = true) then
 if ((0 : Int) ≤ i) then
 Option.bind (m2)[(Int.toNat i)]? fun x3 =>
 Option.bind (qaE k x3.1 x3.2) fun r10 =>
 if ((!r10) = true) then
 (some (Sum.inl (false, m0, m1, m2, m3)))
 else
 rec (IntKind.wrap .i64 (i + (1 : Int))) m0 m1 m2 m3
 else
 none
 else
 (some (Sum.inr (m0, m1, m2, m3)))
def qQ (k n : Nat) : Int → ByteArray → Int → List (Int × Int) → List (Int × Int) → Option ((Bool × ByteArray × Int × List (Int × Int) × List (Int × Int)) ⊕ (ByteArray × Int × List (Int × Int) × List (Int × Int))) := Nat.rec (fun _ _ _ _ _ => none) (fun _ r => qaV k r) n
def qaW (k : Nat) (rec : Int → ByteArray → Int → List (Int × Int) → List (Int × Int) → Option ((Bool × ByteArray × Int × List (Int × Int) × List (Int × Int)) ⊕ (ByteArray × Int × List (Int × Int) × List (Int × Int)))) (i : Int) (m0 : ByteArray) (m1 : Int) (m2 : List (Int × Int)) (m3 : List (Int × Int)) : Option ((Bool × ByteArray × Int × List (Int × Int) × List (Int × Int)) ⊕ (ByteArray × Int × List (Int × Int) × List (Int × Int))) :=
 if ((decide (i < (((List.length m3) : Nat) : Int))) = true) then
 if ((0 : Int) ≤ i) then
 Option.bind (m3)[(Int.toNat i)]? fun x3 =>
 Option.bind (qaE k x3.1 x3.2) fun r11 =>
 if ((!r11) = true) then
 (some (Sum.inl (false, m0, m1, m2, m3)))
 else
 if ((m1 == (100 : Int)) = true) then
 if ((decide (i > (0 : Int))) = true) then
 if ((0 : Int) ≤ (IntKind.wrap .i64 (i - (1 : Int)))) then
 Option.bind (m3)[(Int.toNat (IntKind.wrap .i64 (i - (1 : Int))))]? fun x4 =>
 Option.bind (qb4 k x4.1 x4.2) fun r12 =>
 if ((0 : Int) ≤ i) then
 Option.bind (m3)[(Int.toNat i)]? fun x5 =>
 Option.bind (qb4 k x5.1 x5.2) fun r13 =>
 Option.bind (qdj k r12.1 r12.2.1 r12.2.2.1 r12.2.2.2 r13.1 r13.2.1 r13.2.2.1 r13.2.2.2) fun r14 =>
 if ((decide (r14 ≥ (0 : Int))) = true) then
 (some (Sum.inl (false, m0, m1, m2, m3)))
 else
 rec (IntKind.wrap .i64 (i + (1 : Int))) m0 m1 m2 m3
 else
 none
 else
 none
 else
 rec (IntKind.wrap .i64 (i + (1 : Int))) m0 m1 m2 m3
 else
 rec (IntKind.wrap .i64 (i + (1 : Int))) m0 m1 m2 m3
 else
 none
 else
 (some (Sum.inr (m0, m1, m2, m3)))
def qR (k n : Nat) : Int → ByteArray → Int → List (Int × Int) → List (Int × Int) → Option ((Bool × ByteArray × Int × List (Int × Int) × List (Int × Int)) ⊕ (ByteArray × Int × List (Int × Int) × List (Int × Int))) := Nat.rec (fun _ _ _ _ _ => none) (fun _ r => qaW k r) n
def qe5 (k : Nat) (m0 : ByteArray) (m1 : Int) (m2 : List (Int × Int)) (m3 : List (Int × Int)) : Option (Bool) :=
 Option.bind (qcx k m0) fun r9 =>
 if ((!r9) = true) then
 (some false)
 else
 Option.bind (qQ k k (0 : Int) m0 m1 m2 m3) fun r10 =>
 qc r10
 (fun r10 =>
 (some r10.1))
 (fun r10 =>
 Option.bind (qR k k (0 : Int) r10.1 r10.2.1 r10.2.2.1 r10.2.2.2) fun r11 =>
 qc r11
 (fun r11 =>
 (some r11.1))
 (fun r11 =>
 if ((r11.2.1 == (115 : Int)) = true) then
 if (((((List.length r11.2.2.1) : Nat) : Int) == (2 : Int)) = true) then
 (some ((((List.length r11.2.2.2) : Nat) : Int) == (1 : Int)))
 else
 (some false)
 else
 if ((r11.2.1 == (100 : Int)) = true) then
 if ((decide ((((List.length r11.2.2.1) : Nat) : Int) ≥ (1 : Int))) = true) then
 if ((decide ((((List.length r11.2.2.1) : Nat) : Int) ≤ (4 : Int))) = true) then
 (some ((IntKind.wrap .i64 ((((List.length r11.2.2.2) : Nat) : Int) + (1 : Int))) == (((List.length r11.2.2.1) : Nat) : Int)))
 else
 (some false)
 else
 (some false)
 else
 (some false)))
def qg : Nat → ByteArray → Int → List (Int × Int) → List (Int × Int) → Option (Bool)
 | 0, _, _, _, _ => none
 | k + 1, m0, m1, m2, m3 => qe5 k m0 m1 m2 m3
def qy0 : Nat → Inst := mkI 125 ⟨[.g [.lf .str, .lf (.int .u8), .lf cE, .lf cE]], []⟩ [⟨[vB], []⟩] fun k x => qg k x.1 x.2.1 x.2.2.1 x.2.2.2
def qox (k : Nat) := ac (qst k) (ac (qlo k) (ac (qxn k) (ac (qxq k) a0)))
def qvw (k : Nat) : LInst := mkL 0 [⟨[(1, .a (.ptr 0 0 0)), (3, vI)], [(0, some (.raw [[.lf .str, .lf (.int .u8), .lf cE, .lf cE]] 4 46 true false false))], 1⟩] [⟨none, ⟨[(2, vB)], [(0, some (.raw [[.lf .str, .lf (.int .u8), .lf cE, .lf cE]] 4 46 true false false))], 1⟩⟩, ⟨some 0, ⟨[(1, .a (.ptr 0 0 0))], [(0, some (.raw [[.lf .str, .lf (.int .u8), .lf cE, .lf cE]] 4 46 true false false))], 1⟩⟩] (fun n x => qQ k n x.1 x.2.1 x.2.2.1 x.2.2.2.1 x.2.2.2.2) k
theorem qpT (k : Nat) : LIo 125 Tryz.f125 0 k (qvw k) :=
 lpk [] (qox k) l0 (fun _ => rfl) (by kernel_rfl) fun n x => by kernel_rfl
def qvx (k : Nat) : LInst := mkL 2 [⟨[(1, .a (.ptr 0 0 0)), (4, vI)], [(0, some (.raw [[.lf .str, .lf (.int .u8), .lf cE, .lf cE]] 4 46 true false false))], 1⟩] [⟨none, ⟨[(2, vB)], [(0, some (.raw [[.lf .str, .lf (.int .u8), .lf cE, .lf cE]] 4 46 true false false))], 1⟩⟩, ⟨some 2, ⟨[(1, .a (.ptr 0 0 0))], [(0, some (.raw [[.lf .str, .lf (.int .u8), .lf cE, .lf cE]] 4 46 true false false))], 1⟩⟩] (fun n x => qR k n x.1 x.2.1 x.2.2.1 x.2.2.2.1 x.2.2.2.2) k
theorem qvy (k : Nat) : LIo 125 Tryz.f125 0 k (qvx k) :=
 lpk [] (qox k) (lc (qpT k) l0) (fun _ => rfl) (by kernel_rfl) fun n x => by kernel_rfl
theorem qxr : ∀ k, qh (call cf k) (qy0 k) :=
 fnk 0 [0, 2] Tryz.func125 (fun k => (qox k)) (fun k => (lc (qpT k) (lc (qvy k) l0))) ⟨rfl, rfl, ⟨rfl, Nat.le_of_ble_eq_true rfl⟩, rfl⟩ (fun _ => rfl) (by kernel_rfl) fun k x => by kernel_rfl

def qfD (k : Nat) (a0 : ByteArray) (a1 : Int) (a2 : List (Int × Int)) (a3 : List (Int × Int)) (b0 : ByteArray) (b1 : Int) (b2 : List (Int × Int)) (b3 : List (Int × Int)) : Option (Bool) :=
 if (((Array.toList (ByteArray.data a0)) == (Array.toList (ByteArray.data b0))) = true) then
 if ((a1 == b1) = true) then
 Option.bind (qcy k a2 b2) fun r9 =>
 if (r9 = true) then
 Option.bind (qcy k a3 b3) fun r10 =>
 (some r10)
 else
 (some false)
 else
 (some false)
 else
 (some false)
def qi : Nat → ByteArray → Int → List (Int × Int) → List (Int × Int) → ByteArray → Int → List (Int × Int) → List (Int × Int) → Option (Bool)
 | 0, _, _, _, _, _, _, _, _ => none
 | k + 1, a0, a1, a2, a3, b0, b1, b2, b3 => qfD k a0 a1 a2 a3 b0 b1 b2 b3
def qy1 : Nat → Inst := mkI 123 ⟨[.g [.lf .str, .lf (.int .u8), .lf cE, .lf cE], .g [.lf .str, .lf (.int .u8), .lf cE, .lf cE]], []⟩ [⟨[vB], []⟩] fun k x => qi k x.1 x.2.1 x.2.2.1 x.2.2.2.1 x.2.2.2.2.1 x.2.2.2.2.2.1 x.2.2.2.2.2.2.1 x.2.2.2.2.2.2.2
theorem qxs : ∀ k, qh (call cf k) (qy1 k) :=
 fnk 0 [] Tryz.func123 (fun k => (ac (qsw k) a0)) (fun k => l0) ⟨rfl, rfl, ⟨rfl, Nat.le_of_ble_eq_true rfl⟩, rfl⟩ (fun _ => rfl) (by kernel_rfl) fun k x => by kernel_rfl

def qaX (k : Nat) (rec : Int → Bool → Bool → Bool → Bool → Int → List ByteArray → List DvT → Int → Int → Int → Int → ByteArray → List Int → Int → Int → Int → Int → List (Int × Int) → List Int → ByteArray → Int → List (Int × Int) → List (Int × Int) → Option ((Bool × List ByteArray × List DvT × Int × Int × Int × Int × ByteArray × List Int × Int × Int × Int × Int × List (Int × Int) × List Int × ByteArray × Int × List (Int × Int) × List (Int × Int)) ⊕ (Bool × Bool × Bool × Bool × List ByteArray × List DvT × Int × Int × Int × Int × ByteArray × List Int × Int × Int × Int × Int × List (Int × Int) × List Int × ByteArray × Int × List (Int × Int) × List (Int × Int)))) (nodes : Int) (ref : Bool) (value : Bool) (source : Bool) (modelled : Bool) (i : Int) (f0 : List ByteArray) (f1 : List DvT) (f2 : Int) (f3 : Int) (f4 : Int) (d0 : Int) (d1 : ByteArray) (d2 : List Int) (d3 : Int) (d4 : Int) (d5 : Int) (d6 : Int) (d7 : List (Int × Int)) (d8 : List Int) (d9 : ByteArray) (d10 : Int) (d11 : List (Int × Int)) (d12 : List (Int × Int)) : Option ((Bool × List ByteArray × List DvT × Int × Int × Int × Int × ByteArray × List Int × Int × Int × Int × Int × List (Int × Int) × List Int × ByteArray × Int × List (Int × Int) × List (Int × Int)) ⊕ (Bool × Bool × Bool × Bool × List ByteArray × List DvT × Int × Int × Int × Int × ByteArray × List Int × Int × Int × Int × Int × List (Int × Int) × List Int × ByteArray × Int × List (Int × Int) × List (Int × Int))) :=
 if ((decide (i < nodes)) = true) then
 if ((0 : Int) ≤ i) then
 Option.bind (d2)[(Int.toNat i)]? fun x2 =>
 if ((decide (x2 < (0 : Int))) = false) then
 if ((0 : Int) ≤ i) then
 Option.bind (d2)[(Int.toNat i)]? fun x3 =>
 if ((decide (x3 ≥ (((List.length f0) : Nat) : Int))) = true) then
 (some (Sum.inl (false, f0, f1, f2, f3, f4, d0, d1, d2, d3, d4, d5, d6, d7, d8, d9, d10, d11, d12)))
 else
 rec nodes ref value source modelled (IntKind.wrap .i64 (i + (1 : Int))) f0 f1 f2 f3 f4 d0 d1 d2 d3 d4 d5 d6 d7 d8 d9 d10 d11 d12
 else
 none
 else
 (some (Sum.inl (false, f0, f1, f2, f3, f4, d0, d1, d2, d3, d4, d5, d6, d7, d8, d9, d10, d11, d12)))
 else
 none
 else
 (some (Sum.inr (ref, value, source, modelled, f0, f1, f2, f3, f4, d0, d1, d2, d3, d4, d5, d6, d7, d8, d9, d10, d11, d12)))
def qp (k n : Nat) : Int → Bool → Bool → Bool → Bool → Int → List ByteArray → List DvT → Int → Int → Int → Int → ByteArray → List Int → Int → Int → Int → Int → List (Int × Int) → List Int → ByteArray → Int → List (Int × Int) → List (Int × Int) → Option ((Bool × List ByteArray × List DvT × Int × Int × Int × Int × ByteArray × List Int × Int × Int × Int × Int × List (Int × Int) × List Int × ByteArray × Int × List (Int × Int) × List (Int × Int)) ⊕ (Bool × Bool × Bool × Bool × List ByteArray × List DvT × Int × Int × Int × Int × ByteArray × List Int × Int × Int × Int × Int × List (Int × Int) × List Int × ByteArray × Int × List (Int × Int) × List (Int × Int))) := Nat.rec (fun _ _ _ _ _ _ _ _ _ _ _ _ _ _ _ _ _ _ _ _ _ _ _ _ => none) (fun _ r => qaX k r) n
def qe (k : Nat) (r5 : Bool × Bool × Bool × Bool × List ByteArray × List DvT × Int × Int × Int × Int × ByteArray × List Int × Int × Int × Int × Int × List (Int × Int) × List Int × ByteArray × Int × List (Int × Int) × List (Int × Int)) : Option (Bool) :=
 if (r5.1 = true) then
 if ((decide (r5.2.2.2.2.2.2.2.2.2.2.2.2.1 < (0 : Int))) = false) then
 if ((decide (r5.2.2.2.2.2.2.2.2.2.2.2.2.1 ≥ (((List.length r5.2.2.2.2.2.1) : Nat) : Int))) = false) then
 if ((0 : Int) ≤ r5.2.2.2.2.2.2.2.2.2.2.2.2.1) then
 Option.bind (r5.2.2.2.2.2.1)[(Int.toNat r5.2.2.2.2.2.2.2.2.2.2.2.2.1)]? fun x2 =>
 if ((x2.1 != (118 : Int)) = true) then
 (some false)
 else
 if (r5.2.1 = true) then
 Option.bind (qaE k r5.2.2.2.2.2.2.2.2.2.2.2.2.2.1 r5.2.2.2.2.2.2.2.2.2.2.2.2.2.2.1) fun r6 =>
 if ((!r6) = false) then
 if ((!r5.2.1) = true) then
 if ((r5.2.2.2.2.2.2.2.2.2.2.2.2.2.1 == (0 : Int)) = true) then
 if ((r5.2.2.2.2.2.2.2.2.2.2.2.2.2.2.1 == (0 : Int)) = true) then
 if (r5.2.2.1 = true) then
 Option.bind (qV k r5.2.2.2.2.2.2.2.2.2.2.2.2.2.2.2.1 r5.2.2.2.2.2.2.2.2.2.2.2.2.2.2.2.2.1 r5.2.2.2.2.2.2.2.2.2.2.2.2.2.2.2.2.2.1) fun r7 =>
 if ((!r7) = false) then
 if ((!r5.2.2.1) = true) then
 Option.bind (qt k r5.2.2.2.2.2.2.2.2.2.2.2.2.2.2.2.1 r5.2.2.2.2.2.2.2.2.2.2.2.2.2.2.2.2.1 r5.2.2.2.2.2.2.2.2.2.2.2.2.2.2.2.2.2.1 (0 : Int) [] []) fun r8 =>
 if ((!r8) = true) then
 (some false)
 else
 if (r5.2.2.2.1 = true) then
 Option.bind (qg k r5.2.2.2.2.2.2.2.2.2.2.2.2.2.2.2.2.2.2.1 r5.2.2.2.2.2.2.2.2.2.2.2.2.2.2.2.2.2.2.2.1 r5.2.2.2.2.2.2.2.2.2.2.2.2.2.2.2.2.2.2.2.2.1 r5.2.2.2.2.2.2.2.2.2.2.2.2.2.2.2.2.2.2.2.2.2) fun r9 =>
 if (r9 = true) then
 (some (r5.2.2.2.2.2.2.2.2.2.2.2.2.2.2.2.2.2.2.2.1 == r5.2.2.2.2.2.2.2.2.2.1))
 else
 (some false)
 else
 Option.bind (qi k r5.2.2.2.2.2.2.2.2.2.2.2.2.2.2.2.2.2.2.1 r5.2.2.2.2.2.2.2.2.2.2.2.2.2.2.2.2.2.2.2.1 r5.2.2.2.2.2.2.2.2.2.2.2.2.2.2.2.2.2.2.2.2.1 r5.2.2.2.2.2.2.2.2.2.2.2.2.2.2.2.2.2.2.2.2.2 (ByteArray.mk (List.toArray [])) (0 : Int) [] []) fun r9 =>
 (some r9)
 else
 if (r5.2.2.2.1 = true) then
 Option.bind (qg k r5.2.2.2.2.2.2.2.2.2.2.2.2.2.2.2.2.2.2.1 r5.2.2.2.2.2.2.2.2.2.2.2.2.2.2.2.2.2.2.2.1 r5.2.2.2.2.2.2.2.2.2.2.2.2.2.2.2.2.2.2.2.2.1 r5.2.2.2.2.2.2.2.2.2.2.2.2.2.2.2.2.2.2.2.2.2) fun r8 =>
 if (r8 = true) then
 (some (r5.2.2.2.2.2.2.2.2.2.2.2.2.2.2.2.2.2.2.2.1 == r5.2.2.2.2.2.2.2.2.2.1))
 else
 (some false)
 else
 Option.bind (qi k r5.2.2.2.2.2.2.2.2.2.2.2.2.2.2.2.2.2.2.1 r5.2.2.2.2.2.2.2.2.2.2.2.2.2.2.2.2.2.2.2.1 r5.2.2.2.2.2.2.2.2.2.2.2.2.2.2.2.2.2.2.2.2.1 r5.2.2.2.2.2.2.2.2.2.2.2.2.2.2.2.2.2.2.2.2.2 (ByteArray.mk (List.toArray [])) (0 : Int) [] []) fun r8 =>
 (some r8)
 else
 (some false)
 else
 if ((!r5.2.2.1) = true) then
 Option.bind (qt k r5.2.2.2.2.2.2.2.2.2.2.2.2.2.2.2.1 r5.2.2.2.2.2.2.2.2.2.2.2.2.2.2.2.2.1 r5.2.2.2.2.2.2.2.2.2.2.2.2.2.2.2.2.2.1 (0 : Int) [] []) fun r7 =>
 if ((!r7) = true) then
 (some false)
 else
 if (r5.2.2.2.1 = true) then
 Option.bind (qg k r5.2.2.2.2.2.2.2.2.2.2.2.2.2.2.2.2.2.2.1 r5.2.2.2.2.2.2.2.2.2.2.2.2.2.2.2.2.2.2.2.1 r5.2.2.2.2.2.2.2.2.2.2.2.2.2.2.2.2.2.2.2.2.1 r5.2.2.2.2.2.2.2.2.2.2.2.2.2.2.2.2.2.2.2.2.2) fun r8 =>
 if (r8 = true) then
 (some (r5.2.2.2.2.2.2.2.2.2.2.2.2.2.2.2.2.2.2.2.1 == r5.2.2.2.2.2.2.2.2.2.1))
 else
 (some false)
 else
 Option.bind (qi k r5.2.2.2.2.2.2.2.2.2.2.2.2.2.2.2.2.2.2.1 r5.2.2.2.2.2.2.2.2.2.2.2.2.2.2.2.2.2.2.2.1 r5.2.2.2.2.2.2.2.2.2.2.2.2.2.2.2.2.2.2.2.2.1 r5.2.2.2.2.2.2.2.2.2.2.2.2.2.2.2.2.2.2.2.2.2 (ByteArray.mk (List.toArray [])) (0 : Int) [] []) fun r8 =>
 (some r8)
 else
 if (r5.2.2.2.1 = true) then
 Option.bind (qg k r5.2.2.2.2.2.2.2.2.2.2.2.2.2.2.2.2.2.2.1 r5.2.2.2.2.2.2.2.2.2.2.2.2.2.2.2.2.2.2.2.1 r5.2.2.2.2.2.2.2.2.2.2.2.2.2.2.2.2.2.2.2.2.1 r5.2.2.2.2.2.2.2.2.2.2.2.2.2.2.2.2.2.2.2.2.2) fun r7 =>
 if (r7 = true) then
 (some (r5.2.2.2.2.2.2.2.2.2.2.2.2.2.2.2.2.2.2.2.1 == r5.2.2.2.2.2.2.2.2.2.1))
 else
 (some false)
 else
 Option.bind (qi k r5.2.2.2.2.2.2.2.2.2.2.2.2.2.2.2.2.2.2.1 r5.2.2.2.2.2.2.2.2.2.2.2.2.2.2.2.2.2.2.2.1 r5.2.2.2.2.2.2.2.2.2.2.2.2.2.2.2.2.2.2.2.2.1 r5.2.2.2.2.2.2.2.2.2.2.2.2.2.2.2.2.2.2.2.2.2 (ByteArray.mk (List.toArray [])) (0 : Int) [] []) fun r7 =>
 (some r7)
 else
 (some false)
 else
 (some false)
 else
 if (r5.2.2.1 = true) then
 Option.bind (qV k r5.2.2.2.2.2.2.2.2.2.2.2.2.2.2.2.1 r5.2.2.2.2.2.2.2.2.2.2.2.2.2.2.2.2.1 r5.2.2.2.2.2.2.2.2.2.2.2.2.2.2.2.2.2.1) fun r7 =>
 if ((!r7) = false) then
 if ((!r5.2.2.1) = true) then
 Option.bind (qt k r5.2.2.2.2.2.2.2.2.2.2.2.2.2.2.2.1 r5.2.2.2.2.2.2.2.2.2.2.2.2.2.2.2.2.1 r5.2.2.2.2.2.2.2.2.2.2.2.2.2.2.2.2.2.1 (0 : Int) [] []) fun r8 =>
 if ((!r8) = true) then
 (some false)
 else
 if (r5.2.2.2.1 = true) then
 Option.bind (qg k r5.2.2.2.2.2.2.2.2.2.2.2.2.2.2.2.2.2.2.1 r5.2.2.2.2.2.2.2.2.2.2.2.2.2.2.2.2.2.2.2.1 r5.2.2.2.2.2.2.2.2.2.2.2.2.2.2.2.2.2.2.2.2.1 r5.2.2.2.2.2.2.2.2.2.2.2.2.2.2.2.2.2.2.2.2.2) fun r9 =>
 if (r9 = true) then
 (some (r5.2.2.2.2.2.2.2.2.2.2.2.2.2.2.2.2.2.2.2.1 == r5.2.2.2.2.2.2.2.2.2.1))
 else
 (some false)
 else
 Option.bind (qi k r5.2.2.2.2.2.2.2.2.2.2.2.2.2.2.2.2.2.2.1 r5.2.2.2.2.2.2.2.2.2.2.2.2.2.2.2.2.2.2.2.1 r5.2.2.2.2.2.2.2.2.2.2.2.2.2.2.2.2.2.2.2.2.1 r5.2.2.2.2.2.2.2.2.2.2.2.2.2.2.2.2.2.2.2.2.2 (ByteArray.mk (List.toArray [])) (0 : Int) [] []) fun r9 =>
 (some r9)
 else
 if (r5.2.2.2.1 = true) then
 Option.bind (qg k r5.2.2.2.2.2.2.2.2.2.2.2.2.2.2.2.2.2.2.1 r5.2.2.2.2.2.2.2.2.2.2.2.2.2.2.2.2.2.2.2.1 r5.2.2.2.2.2.2.2.2.2.2.2.2.2.2.2.2.2.2.2.2.1 r5.2.2.2.2.2.2.2.2.2.2.2.2.2.2.2.2.2.2.2.2.2) fun r8 =>
 if (r8 = true) then
 (some (r5.2.2.2.2.2.2.2.2.2.2.2.2.2.2.2.2.2.2.2.1 == r5.2.2.2.2.2.2.2.2.2.1))
 else
 (some false)
 else
 Option.bind (qi k r5.2.2.2.2.2.2.2.2.2.2.2.2.2.2.2.2.2.2.1 r5.2.2.2.2.2.2.2.2.2.2.2.2.2.2.2.2.2.2.2.1 r5.2.2.2.2.2.2.2.2.2.2.2.2.2.2.2.2.2.2.2.2.1 r5.2.2.2.2.2.2.2.2.2.2.2.2.2.2.2.2.2.2.2.2.2 (ByteArray.mk (List.toArray [])) (0 : Int) [] []) fun r8 =>
 (some r8)
 else
 (some false)
 else
 if ((!r5.2.2.1) = true) then
 Option.bind (qt k r5.2.2.2.2.2.2.2.2.2.2.2.2.2.2.2.1 r5.2.2.2.2.2.2.2.2.2.2.2.2.2.2.2.2.1 r5.2.2.2.2.2.2.2.2.2.2.2.2.2.2.2.2.2.1 (0 : Int) [] []) fun r7 =>
 if ((!r7) = true) then
 (some false)
 else
 if (r5.2.2.2.1 = true) then
 Option.bind (qg k r5.2.2.2.2.2.2.2.2.2.2.2.2.2.2.2.2.2.2.1 r5.2.2.2.2.2.2.2.2.2.2.2.2.2.2.2.2.2.2.2.1 r5.2.2.2.2.2.2.2.2.2.2.2.2.2.2.2.2.2.2.2.2.1 r5.2.2.2.2.2.2.2.2.2.2.2.2.2.2.2.2.2.2.2.2.2) fun r8 =>
 if (r8 = true) then
 (some (r5.2.2.2.2.2.2.2.2.2.2.2.2.2.2.2.2.2.2.2.1 == r5.2.2.2.2.2.2.2.2.2.1))
 else
 (some false)
 else
 Option.bind (qi k r5.2.2.2.2.2.2.2.2.2.2.2.2.2.2.2.2.2.2.1 r5.2.2.2.2.2.2.2.2.2.2.2.2.2.2.2.2.2.2.2.1 r5.2.2.2.2.2.2.2.2.2.2.2.2.2.2.2.2.2.2.2.2.1 r5.2.2.2.2.2.2.2.2.2.2.2.2.2.2.2.2.2.2.2.2.2 (ByteArray.mk (List.toArray [])) (0 : Int) [] []) fun r8 =>
 (some r8)
 else
 if (r5.2.2.2.1 = true) then
 Option.bind (qg k r5.2.2.2.2.2.2.2.2.2.2.2.2.2.2.2.2.2.2.1 r5.2.2.2.2.2.2.2.2.2.2.2.2.2.2.2.2.2.2.2.1 r5.2.2.2.2.2.2.2.2.2.2.2.2.2.2.2.2.2.2.2.2.1 r5.2.2.2.2.2.2.2.2.2.2.2.2.2.2.2.2.2.2.2.2.2) fun r7 =>
 if (r7 = true) then
 (some (r5.2.2.2.2.2.2.2.2.2.2.2.2.2.2.2.2.2.2.2.1 == r5.2.2.2.2.2.2.2.2.2.1))
 else
 (some false)
 else
 Option.bind (qi k r5.2.2.2.2.2.2.2.2.2.2.2.2.2.2.2.2.2.2.1 r5.2.2.2.2.2.2.2.2.2.2.2.2.2.2.2.2.2.2.2.1 r5.2.2.2.2.2.2.2.2.2.2.2.2.2.2.2.2.2.2.2.2.1 r5.2.2.2.2.2.2.2.2.2.2.2.2.2.2.2.2.2.2.2.2.2 (ByteArray.mk (List.toArray [])) (0 : Int) [] []) fun r7 =>
 (some r7)
 else
 (some false)
 else
 if ((!r5.2.1) = true) then
 if ((r5.2.2.2.2.2.2.2.2.2.2.2.2.2.1 == (0 : Int)) = true) then
 if ((r5.2.2.2.2.2.2.2.2.2.2.2.2.2.2.1 == (0 : Int)) = true) then
 if (r5.2.2.1 = true) then
 Option.bind (qV k r5.2.2.2.2.2.2.2.2.2.2.2.2.2.2.2.1 r5.2.2.2.2.2.2.2.2.2.2.2.2.2.2.2.2.1 r5.2.2.2.2.2.2.2.2.2.2.2.2.2.2.2.2.2.1) fun r6 =>
 if ((!r6) = false) then
 if ((!r5.2.2.1) = true) then
 Option.bind (qt k r5.2.2.2.2.2.2.2.2.2.2.2.2.2.2.2.1 r5.2.2.2.2.2.2.2.2.2.2.2.2.2.2.2.2.1 r5.2.2.2.2.2.2.2.2.2.2.2.2.2.2.2.2.2.1 (0 : Int) [] []) fun r7 =>
 if ((!r7) = true) then
 (some false)
 else
 if (r5.2.2.2.1 = true) then
 Option.bind (qg k r5.2.2.2.2.2.2.2.2.2.2.2.2.2.2.2.2.2.2.1 r5.2.2.2.2.2.2.2.2.2.2.2.2.2.2.2.2.2.2.2.1 r5.2.2.2.2.2.2.2.2.2.2.2.2.2.2.2.2.2.2.2.2.1 r5.2.2.2.2.2.2.2.2.2.2.2.2.2.2.2.2.2.2.2.2.2) fun r8 =>
 if (r8 = true) then
 (some (r5.2.2.2.2.2.2.2.2.2.2.2.2.2.2.2.2.2.2.2.1 == r5.2.2.2.2.2.2.2.2.2.1))
 else
 (some false)
 else
 Option.bind (qi k r5.2.2.2.2.2.2.2.2.2.2.2.2.2.2.2.2.2.2.1 r5.2.2.2.2.2.2.2.2.2.2.2.2.2.2.2.2.2.2.2.1 r5.2.2.2.2.2.2.2.2.2.2.2.2.2.2.2.2.2.2.2.2.1 r5.2.2.2.2.2.2.2.2.2.2.2.2.2.2.2.2.2.2.2.2.2 (ByteArray.mk (List.toArray [])) (0 : Int) [] []) fun r8 =>
 (some r8)
 else
 if (r5.2.2.2.1 = true) then
 Option.bind (qg k r5.2.2.2.2.2.2.2.2.2.2.2.2.2.2.2.2.2.2.1 r5.2.2.2.2.2.2.2.2.2.2.2.2.2.2.2.2.2.2.2.1 r5.2.2.2.2.2.2.2.2.2.2.2.2.2.2.2.2.2.2.2.2.1 r5.2.2.2.2.2.2.2.2.2.2.2.2.2.2.2.2.2.2.2.2.2) fun r7 =>
 if (r7 = true) then
 (some (r5.2.2.2.2.2.2.2.2.2.2.2.2.2.2.2.2.2.2.2.1 == r5.2.2.2.2.2.2.2.2.2.1))
 else
 (some false)
 else
 Option.bind (qi k r5.2.2.2.2.2.2.2.2.2.2.2.2.2.2.2.2.2.2.1 r5.2.2.2.2.2.2.2.2.2.2.2.2.2.2.2.2.2.2.2.1 r5.2.2.2.2.2.2.2.2.2.2.2.2.2.2.2.2.2.2.2.2.1 r5.2.2.2.2.2.2.2.2.2.2.2.2.2.2.2.2.2.2.2.2.2 (ByteArray.mk (List.toArray [])) (0 : Int) [] []) fun r7 =>
 (some r7)
 else
 (some false)
 else
 if ((!r5.2.2.1) = true) then
 Option.bind (qt k r5.2.2.2.2.2.2.2.2.2.2.2.2.2.2.2.1 r5.2.2.2.2.2.2.2.2.2.2.2.2.2.2.2.2.1 r5.2.2.2.2.2.2.2.2.2.2.2.2.2.2.2.2.2.1 (0 : Int) [] []) fun r6 =>
 if ((!r6) = true) then
 (some false)
 else
 if (r5.2.2.2.1 = true) then
 Option.bind (qg k r5.2.2.2.2.2.2.2.2.2.2.2.2.2.2.2.2.2.2.1 r5.2.2.2.2.2.2.2.2.2.2.2.2.2.2.2.2.2.2.2.1 r5.2.2.2.2.2.2.2.2.2.2.2.2.2.2.2.2.2.2.2.2.1 r5.2.2.2.2.2.2.2.2.2.2.2.2.2.2.2.2.2.2.2.2.2) fun r7 =>
 if (r7 = true) then
 (some (r5.2.2.2.2.2.2.2.2.2.2.2.2.2.2.2.2.2.2.2.1 == r5.2.2.2.2.2.2.2.2.2.1))
 else
 (some false)
 else
 Option.bind (qi k r5.2.2.2.2.2.2.2.2.2.2.2.2.2.2.2.2.2.2.1 r5.2.2.2.2.2.2.2.2.2.2.2.2.2.2.2.2.2.2.2.1 r5.2.2.2.2.2.2.2.2.2.2.2.2.2.2.2.2.2.2.2.2.1 r5.2.2.2.2.2.2.2.2.2.2.2.2.2.2.2.2.2.2.2.2.2 (ByteArray.mk (List.toArray [])) (0 : Int) [] []) fun r7 =>
 (some r7)
 else
 if (r5.2.2.2.1 = true) then
 Option.bind (qg k r5.2.2.2.2.2.2.2.2.2.2.2.2.2.2.2.2.2.2.1 r5.2.2.2.2.2.2.2.2.2.2.2.2.2.2.2.2.2.2.2.1 r5.2.2.2.2.2.2.2.2.2.2.2.2.2.2.2.2.2.2.2.2.1 r5.2.2.2.2.2.2.2.2.2.2.2.2.2.2.2.2.2.2.2.2.2) fun r6 =>
 if (r6 = true) then
 (some (r5.2.2.2.2.2.2.2.2.2.2.2.2.2.2.2.2.2.2.2.1 == r5.2.2.2.2.2.2.2.2.2.1))
 else
 (some false)
 else
 Option.bind (qi k r5.2.2.2.2.2.2.2.2.2.2.2.2.2.2.2.2.2.2.1 r5.2.2.2.2.2.2.2.2.2.2.2.2.2.2.2.2.2.2.2.1 r5.2.2.2.2.2.2.2.2.2.2.2.2.2.2.2.2.2.2.2.2.1 r5.2.2.2.2.2.2.2.2.2.2.2.2.2.2.2.2.2.2.2.2.2 (ByteArray.mk (List.toArray [])) (0 : Int) [] []) fun r6 =>
 (some r6)
 else
 (some false)
 else
 (some false)
 else
 if (r5.2.2.1 = true) then
 Option.bind (qV k r5.2.2.2.2.2.2.2.2.2.2.2.2.2.2.2.1 r5.2.2.2.2.2.2.2.2.2.2.2.2.2.2.2.2.1 r5.2.2.2.2.2.2.2.2.2.2.2.2.2.2.2.2.2.1) fun r6 =>
 if ((!r6) = false) then
 if ((!r5.2.2.1) = true) then
 Option.bind (qt k r5.2.2.2.2.2.2.2.2.2.2.2.2.2.2.2.1 r5.2.2.2.2.2.2.2.2.2.2.2.2.2.2.2.2.1 r5.2.2.2.2.2.2.2.2.2.2.2.2.2.2.2.2.2.1 (0 : Int) [] []) fun r7 =>
 if ((!r7) = true) then
 (some false)
 else
 if (r5.2.2.2.1 = true) then
 Option.bind (qg k r5.2.2.2.2.2.2.2.2.2.2.2.2.2.2.2.2.2.2.1 r5.2.2.2.2.2.2.2.2.2.2.2.2.2.2.2.2.2.2.2.1 r5.2.2.2.2.2.2.2.2.2.2.2.2.2.2.2.2.2.2.2.2.1 r5.2.2.2.2.2.2.2.2.2.2.2.2.2.2.2.2.2.2.2.2.2) fun r8 =>
 if (r8 = true) then
 (some (r5.2.2.2.2.2.2.2.2.2.2.2.2.2.2.2.2.2.2.2.1 == r5.2.2.2.2.2.2.2.2.2.1))
 else
 (some false)
 else
 Option.bind (qi k r5.2.2.2.2.2.2.2.2.2.2.2.2.2.2.2.2.2.2.1 r5.2.2.2.2.2.2.2.2.2.2.2.2.2.2.2.2.2.2.2.1 r5.2.2.2.2.2.2.2.2.2.2.2.2.2.2.2.2.2.2.2.2.1 r5.2.2.2.2.2.2.2.2.2.2.2.2.2.2.2.2.2.2.2.2.2 (ByteArray.mk (List.toArray [])) (0 : Int) [] []) fun r8 =>
 (some r8)
 else
 if (r5.2.2.2.1 = true) then
 Option.bind (qg k r5.2.2.2.2.2.2.2.2.2.2.2.2.2.2.2.2.2.2.1 r5.2.2.2.2.2.2.2.2.2.2.2.2.2.2.2.2.2.2.2.1 r5.2.2.2.2.2.2.2.2.2.2.2.2.2.2.2.2.2.2.2.2.1 r5.2.2.2.2.2.2.2.2.2.2.2.2.2.2.2.2.2.2.2.2.2) fun r7 =>
 if (r7 = true) then
 (some (r5.2.2.2.2.2.2.2.2.2.2.2.2.2.2.2.2.2.2.2.1 == r5.2.2.2.2.2.2.2.2.2.1))
 else
 (some false)
 else
 Option.bind (qi k r5.2.2.2.2.2.2.2.2.2.2.2.2.2.2.2.2.2.2.1 r5.2.2.2.2.2.2.2.2.2.2.2.2.2.2.2.2.2.2.2.1 r5.2.2.2.2.2.2.2.2.2.2.2.2.2.2.2.2.2.2.2.2.1 r5.2.2.2.2.2.2.2.2.2.2.2.2.2.2.2.2.2.2.2.2.2 (ByteArray.mk (List.toArray [])) (0 : Int) [] []) fun r7 =>
 (some r7)
 else
 (some false)
 else
 if ((!r5.2.2.1) = true) then
 Option.bind (qt k r5.2.2.2.2.2.2.2.2.2.2.2.2.2.2.2.1 r5.2.2.2.2.2.2.2.2.2.2.2.2.2.2.2.2.1 r5.2.2.2.2.2.2.2.2.2.2.2.2.2.2.2.2.2.1 (0 : Int) [] []) fun r6 =>
 if ((!r6) = true) then
 (some false)
 else
 if (r5.2.2.2.1 = true) then
 Option.bind (qg k r5.2.2.2.2.2.2.2.2.2.2.2.2.2.2.2.2.2.2.1 r5.2.2.2.2.2.2.2.2.2.2.2.2.2.2.2.2.2.2.2.1 r5.2.2.2.2.2.2.2.2.2.2.2.2.2.2.2.2.2.2.2.2.1 r5.2.2.2.2.2.2.2.2.2.2.2.2.2.2.2.2.2.2.2.2.2) fun r7 =>
 if (r7 = true) then
 (some (r5.2.2.2.2.2.2.2.2.2.2.2.2.2.2.2.2.2.2.2.1 == r5.2.2.2.2.2.2.2.2.2.1))
 else
 (some false)
 else
 Option.bind (qi k r5.2.2.2.2.2.2.2.2.2.2.2.2.2.2.2.2.2.2.1 r5.2.2.2.2.2.2.2.2.2.2.2.2.2.2.2.2.2.2.2.1 r5.2.2.2.2.2.2.2.2.2.2.2.2.2.2.2.2.2.2.2.2.1 r5.2.2.2.2.2.2.2.2.2.2.2.2.2.2.2.2.2.2.2.2.2 (ByteArray.mk (List.toArray [])) (0 : Int) [] []) fun r7 =>
 (some r7)
 else
 if (r5.2.2.2.1 = true) then
 Option.bind (qg k r5.2.2.2.2.2.2.2.2.2.2.2.2.2.2.2.2.2.2.1 r5.2.2.2.2.2.2.2.2.2.2.2.2.2.2.2.2.2.2.2.1 r5.2.2.2.2.2.2.2.2.2.2.2.2.2.2.2.2.2.2.2.2.1 r5.2.2.2.2.2.2.2.2.2.2.2.2.2.2.2.2.2.2.2.2.2) fun r6 =>
 if (r6 = true) then
 (some (r5.2.2.2.2.2.2.2.2.2.2.2.2.2.2.2.2.2.2.2.1 == r5.2.2.2.2.2.2.2.2.2.1))
 else
 (some false)
 else
 Option.bind (qi k r5.2.2.2.2.2.2.2.2.2.2.2.2.2.2.2.2.2.2.1 r5.2.2.2.2.2.2.2.2.2.2.2.2.2.2.2.2.2.2.2.1 r5.2.2.2.2.2.2.2.2.2.2.2.2.2.2.2.2.2.2.2.2.1 r5.2.2.2.2.2.2.2.2.2.2.2.2.2.2.2.2.2.2.2.2.2 (ByteArray.mk (List.toArray [])) (0 : Int) [] []) fun r6 =>
 (some r6)
 else
 none
 else
 (some false)
 else
 (some false)
 else
 if ((r5.2.2.2.2.2.2.2.2.2.2.2.2.1 != (0 : Int)) = true) then
 (some false)
 else
 if (r5.2.1 = true) then
 Option.bind (qaE k r5.2.2.2.2.2.2.2.2.2.2.2.2.2.1 r5.2.2.2.2.2.2.2.2.2.2.2.2.2.2.1) fun r6 =>
 if ((!r6) = false) then
 if ((!r5.2.1) = true) then
 if ((r5.2.2.2.2.2.2.2.2.2.2.2.2.2.1 == (0 : Int)) = true) then
 if ((r5.2.2.2.2.2.2.2.2.2.2.2.2.2.2.1 == (0 : Int)) = true) then
 if (r5.2.2.1 = true) then
 Option.bind (qV k r5.2.2.2.2.2.2.2.2.2.2.2.2.2.2.2.1 r5.2.2.2.2.2.2.2.2.2.2.2.2.2.2.2.2.1 r5.2.2.2.2.2.2.2.2.2.2.2.2.2.2.2.2.2.1) fun r7 =>
 if ((!r7) = false) then
 if ((!r5.2.2.1) = true) then
 Option.bind (qt k r5.2.2.2.2.2.2.2.2.2.2.2.2.2.2.2.1 r5.2.2.2.2.2.2.2.2.2.2.2.2.2.2.2.2.1 r5.2.2.2.2.2.2.2.2.2.2.2.2.2.2.2.2.2.1 (0 : Int) [] []) fun r8 =>
 if ((!r8) = true) then
 (some false)
 else
 if (r5.2.2.2.1 = true) then
 Option.bind (qg k r5.2.2.2.2.2.2.2.2.2.2.2.2.2.2.2.2.2.2.1 r5.2.2.2.2.2.2.2.2.2.2.2.2.2.2.2.2.2.2.2.1 r5.2.2.2.2.2.2.2.2.2.2.2.2.2.2.2.2.2.2.2.2.1 r5.2.2.2.2.2.2.2.2.2.2.2.2.2.2.2.2.2.2.2.2.2) fun r9 =>
 if (r9 = true) then
 (some (r5.2.2.2.2.2.2.2.2.2.2.2.2.2.2.2.2.2.2.2.1 == r5.2.2.2.2.2.2.2.2.2.1))
 else
 (some false)
 else
 Option.bind (qi k r5.2.2.2.2.2.2.2.2.2.2.2.2.2.2.2.2.2.2.1 r5.2.2.2.2.2.2.2.2.2.2.2.2.2.2.2.2.2.2.2.1 r5.2.2.2.2.2.2.2.2.2.2.2.2.2.2.2.2.2.2.2.2.1 r5.2.2.2.2.2.2.2.2.2.2.2.2.2.2.2.2.2.2.2.2.2 (ByteArray.mk (List.toArray [])) (0 : Int) [] []) fun r9 =>
 (some r9)
 else
 if (r5.2.2.2.1 = true) then
 Option.bind (qg k r5.2.2.2.2.2.2.2.2.2.2.2.2.2.2.2.2.2.2.1 r5.2.2.2.2.2.2.2.2.2.2.2.2.2.2.2.2.2.2.2.1 r5.2.2.2.2.2.2.2.2.2.2.2.2.2.2.2.2.2.2.2.2.1 r5.2.2.2.2.2.2.2.2.2.2.2.2.2.2.2.2.2.2.2.2.2) fun r8 =>
 if (r8 = true) then
 (some (r5.2.2.2.2.2.2.2.2.2.2.2.2.2.2.2.2.2.2.2.1 == r5.2.2.2.2.2.2.2.2.2.1))
 else
 (some false)
 else
 Option.bind (qi k r5.2.2.2.2.2.2.2.2.2.2.2.2.2.2.2.2.2.2.1 r5.2.2.2.2.2.2.2.2.2.2.2.2.2.2.2.2.2.2.2.1 r5.2.2.2.2.2.2.2.2.2.2.2.2.2.2.2.2.2.2.2.2.1 r5.2.2.2.2.2.2.2.2.2.2.2.2.2.2.2.2.2.2.2.2.2 (ByteArray.mk (List.toArray [])) (0 : Int) [] []) fun r8 =>
 (some r8)
 else
 (some false)
 else
 if ((!r5.2.2.1) = true) then
 Option.bind (qt k r5.2.2.2.2.2.2.2.2.2.2.2.2.2.2.2.1 r5.2.2.2.2.2.2.2.2.2.2.2.2.2.2.2.2.1 r5.2.2.2.2.2.2.2.2.2.2.2.2.2.2.2.2.2.1 (0 : Int) [] []) fun r7 =>
 if ((!r7) = true) then
 (some false)
 else
 if (r5.2.2.2.1 = true) then
 Option.bind (qg k r5.2.2.2.2.2.2.2.2.2.2.2.2.2.2.2.2.2.2.1 r5.2.2.2.2.2.2.2.2.2.2.2.2.2.2.2.2.2.2.2.1 r5.2.2.2.2.2.2.2.2.2.2.2.2.2.2.2.2.2.2.2.2.1 r5.2.2.2.2.2.2.2.2.2.2.2.2.2.2.2.2.2.2.2.2.2) fun r8 =>
 if (r8 = true) then
 (some (r5.2.2.2.2.2.2.2.2.2.2.2.2.2.2.2.2.2.2.2.1 == r5.2.2.2.2.2.2.2.2.2.1))
 else
 (some false)
 else
 Option.bind (qi k r5.2.2.2.2.2.2.2.2.2.2.2.2.2.2.2.2.2.2.1 r5.2.2.2.2.2.2.2.2.2.2.2.2.2.2.2.2.2.2.2.1 r5.2.2.2.2.2.2.2.2.2.2.2.2.2.2.2.2.2.2.2.2.1 r5.2.2.2.2.2.2.2.2.2.2.2.2.2.2.2.2.2.2.2.2.2 (ByteArray.mk (List.toArray [])) (0 : Int) [] []) fun r8 =>
 (some r8)
 else
 if (r5.2.2.2.1 = true) then
 Option.bind (qg k r5.2.2.2.2.2.2.2.2.2.2.2.2.2.2.2.2.2.2.1 r5.2.2.2.2.2.2.2.2.2.2.2.2.2.2.2.2.2.2.2.1 r5.2.2.2.2.2.2.2.2.2.2.2.2.2.2.2.2.2.2.2.2.1 r5.2.2.2.2.2.2.2.2.2.2.2.2.2.2.2.2.2.2.2.2.2) fun r7 =>
 if (r7 = true) then
 (some (r5.2.2.2.2.2.2.2.2.2.2.2.2.2.2.2.2.2.2.2.1 == r5.2.2.2.2.2.2.2.2.2.1))
 else
 (some false)
 else
 Option.bind (qi k r5.2.2.2.2.2.2.2.2.2.2.2.2.2.2.2.2.2.2.1 r5.2.2.2.2.2.2.2.2.2.2.2.2.2.2.2.2.2.2.2.1 r5.2.2.2.2.2.2.2.2.2.2.2.2.2.2.2.2.2.2.2.2.1 r5.2.2.2.2.2.2.2.2.2.2.2.2.2.2.2.2.2.2.2.2.2 (ByteArray.mk (List.toArray [])) (0 : Int) [] []) fun r7 =>
 (some r7)
 else
 (some false)
 else
 (some false)
 else
 if (r5.2.2.1 = true) then
 Option.bind (qV k r5.2.2.2.2.2.2.2.2.2.2.2.2.2.2.2.1 r5.2.2.2.2.2.2.2.2.2.2.2.2.2.2.2.2.1 r5.2.2.2.2.2.2.2.2.2.2.2.2.2.2.2.2.2.1) fun r7 =>
 if ((!r7) = false) then
 if ((!r5.2.2.1) = true) then
 Option.bind (qt k r5.2.2.2.2.2.2.2.2.2.2.2.2.2.2.2.1 r5.2.2.2.2.2.2.2.2.2.2.2.2.2.2.2.2.1 r5.2.2.2.2.2.2.2.2.2.2.2.2.2.2.2.2.2.1 (0 : Int) [] []) fun r8 =>
 if ((!r8) = true) then
 (some false)
 else
 if (r5.2.2.2.1 = true) then
 Option.bind (qg k r5.2.2.2.2.2.2.2.2.2.2.2.2.2.2.2.2.2.2.1 r5.2.2.2.2.2.2.2.2.2.2.2.2.2.2.2.2.2.2.2.1 r5.2.2.2.2.2.2.2.2.2.2.2.2.2.2.2.2.2.2.2.2.1 r5.2.2.2.2.2.2.2.2.2.2.2.2.2.2.2.2.2.2.2.2.2) fun r9 =>
 if (r9 = true) then
 (some (r5.2.2.2.2.2.2.2.2.2.2.2.2.2.2.2.2.2.2.2.1 == r5.2.2.2.2.2.2.2.2.2.1))
 else
 (some false)
 else
 Option.bind (qi k r5.2.2.2.2.2.2.2.2.2.2.2.2.2.2.2.2.2.2.1 r5.2.2.2.2.2.2.2.2.2.2.2.2.2.2.2.2.2.2.2.1 r5.2.2.2.2.2.2.2.2.2.2.2.2.2.2.2.2.2.2.2.2.1 r5.2.2.2.2.2.2.2.2.2.2.2.2.2.2.2.2.2.2.2.2.2 (ByteArray.mk (List.toArray [])) (0 : Int) [] []) fun r9 =>
 (some r9)
 else
 if (r5.2.2.2.1 = true) then
 Option.bind (qg k r5.2.2.2.2.2.2.2.2.2.2.2.2.2.2.2.2.2.2.1 r5.2.2.2.2.2.2.2.2.2.2.2.2.2.2.2.2.2.2.2.1 r5.2.2.2.2.2.2.2.2.2.2.2.2.2.2.2.2.2.2.2.2.1 r5.2.2.2.2.2.2.2.2.2.2.2.2.2.2.2.2.2.2.2.2.2) fun r8 =>
 if (r8 = true) then
 (some (r5.2.2.2.2.2.2.2.2.2.2.2.2.2.2.2.2.2.2.2.1 == r5.2.2.2.2.2.2.2.2.2.1))
 else
 (some false)
 else
 Option.bind (qi k r5.2.2.2.2.2.2.2.2.2.2.2.2.2.2.2.2.2.2.1 r5.2.2.2.2.2.2.2.2.2.2.2.2.2.2.2.2.2.2.2.1 r5.2.2.2.2.2.2.2.2.2.2.2.2.2.2.2.2.2.2.2.2.1 r5.2.2.2.2.2.2.2.2.2.2.2.2.2.2.2.2.2.2.2.2.2 (ByteArray.mk (List.toArray [])) (0 : Int) [] []) fun r8 =>
 (some r8)
 else
 (some false)
 else
 if ((!r5.2.2.1) = true) then
 Option.bind (qt k r5.2.2.2.2.2.2.2.2.2.2.2.2.2.2.2.1 r5.2.2.2.2.2.2.2.2.2.2.2.2.2.2.2.2.1 r5.2.2.2.2.2.2.2.2.2.2.2.2.2.2.2.2.2.1 (0 : Int) [] []) fun r7 =>
 if ((!r7) = true) then
 (some false)
 else
 if (r5.2.2.2.1 = true) then
 Option.bind (qg k r5.2.2.2.2.2.2.2.2.2.2.2.2.2.2.2.2.2.2.1 r5.2.2.2.2.2.2.2.2.2.2.2.2.2.2.2.2.2.2.2.1 r5.2.2.2.2.2.2.2.2.2.2.2.2.2.2.2.2.2.2.2.2.1 r5.2.2.2.2.2.2.2.2.2.2.2.2.2.2.2.2.2.2.2.2.2) fun r8 =>
 if (r8 = true) then
 (some (r5.2.2.2.2.2.2.2.2.2.2.2.2.2.2.2.2.2.2.2.1 == r5.2.2.2.2.2.2.2.2.2.1))
 else
 (some false)
 else
 Option.bind (qi k r5.2.2.2.2.2.2.2.2.2.2.2.2.2.2.2.2.2.2.1 r5.2.2.2.2.2.2.2.2.2.2.2.2.2.2.2.2.2.2.2.1 r5.2.2.2.2.2.2.2.2.2.2.2.2.2.2.2.2.2.2.2.2.1 r5.2.2.2.2.2.2.2.2.2.2.2.2.2.2.2.2.2.2.2.2.2 (ByteArray.mk (List.toArray [])) (0 : Int) [] []) fun r8 =>
 (some r8)
 else
 if (r5.2.2.2.1 = true) then
 Option.bind (qg k r5.2.2.2.2.2.2.2.2.2.2.2.2.2.2.2.2.2.2.1 r5.2.2.2.2.2.2.2.2.2.2.2.2.2.2.2.2.2.2.2.1 r5.2.2.2.2.2.2.2.2.2.2.2.2.2.2.2.2.2.2.2.2.1 r5.2.2.2.2.2.2.2.2.2.2.2.2.2.2.2.2.2.2.2.2.2) fun r7 =>
 if (r7 = true) then
 (some (r5.2.2.2.2.2.2.2.2.2.2.2.2.2.2.2.2.2.2.2.1 == r5.2.2.2.2.2.2.2.2.2.1))
 else
 (some false)
 else
 Option.bind (qi k r5.2.2.2.2.2.2.2.2.2.2.2.2.2.2.2.2.2.2.1 r5.2.2.2.2.2.2.2.2.2.2.2.2.2.2.2.2.2.2.2.1 r5.2.2.2.2.2.2.2.2.2.2.2.2.2.2.2.2.2.2.2.2.1 r5.2.2.2.2.2.2.2.2.2.2.2.2.2.2.2.2.2.2.2.2.2 (ByteArray.mk (List.toArray [])) (0 : Int) [] []) fun r7 =>
 (some r7)
 else
 (some false)
 else
 if ((!r5.2.1) = true) then
 if ((r5.2.2.2.2.2.2.2.2.2.2.2.2.2.1 == (0 : Int)) = true) then
 if ((r5.2.2.2.2.2.2.2.2.2.2.2.2.2.2.1 == (0 : Int)) = true) then
 if (r5.2.2.1 = true) then
 Option.bind (qV k r5.2.2.2.2.2.2.2.2.2.2.2.2.2.2.2.1 r5.2.2.2.2.2.2.2.2.2.2.2.2.2.2.2.2.1 r5.2.2.2.2.2.2.2.2.2.2.2.2.2.2.2.2.2.1) fun r6 =>
 if ((!r6) = false) then
 if ((!r5.2.2.1) = true) then
 Option.bind (qt k r5.2.2.2.2.2.2.2.2.2.2.2.2.2.2.2.1 r5.2.2.2.2.2.2.2.2.2.2.2.2.2.2.2.2.1 r5.2.2.2.2.2.2.2.2.2.2.2.2.2.2.2.2.2.1 (0 : Int) [] []) fun r7 =>
 if ((!r7) = true) then
 (some false)
 else
 if (r5.2.2.2.1 = true) then
 Option.bind (qg k r5.2.2.2.2.2.2.2.2.2.2.2.2.2.2.2.2.2.2.1 r5.2.2.2.2.2.2.2.2.2.2.2.2.2.2.2.2.2.2.2.1 r5.2.2.2.2.2.2.2.2.2.2.2.2.2.2.2.2.2.2.2.2.1 r5.2.2.2.2.2.2.2.2.2.2.2.2.2.2.2.2.2.2.2.2.2) fun r8 =>
 if (r8 = true) then
 (some (r5.2.2.2.2.2.2.2.2.2.2.2.2.2.2.2.2.2.2.2.1 == r5.2.2.2.2.2.2.2.2.2.1))
 else
 (some false)
 else
 Option.bind (qi k r5.2.2.2.2.2.2.2.2.2.2.2.2.2.2.2.2.2.2.1 r5.2.2.2.2.2.2.2.2.2.2.2.2.2.2.2.2.2.2.2.1 r5.2.2.2.2.2.2.2.2.2.2.2.2.2.2.2.2.2.2.2.2.1 r5.2.2.2.2.2.2.2.2.2.2.2.2.2.2.2.2.2.2.2.2.2 (ByteArray.mk (List.toArray [])) (0 : Int) [] []) fun r8 =>
 (some r8)
 else
 if (r5.2.2.2.1 = true) then
 Option.bind (qg k r5.2.2.2.2.2.2.2.2.2.2.2.2.2.2.2.2.2.2.1 r5.2.2.2.2.2.2.2.2.2.2.2.2.2.2.2.2.2.2.2.1 r5.2.2.2.2.2.2.2.2.2.2.2.2.2.2.2.2.2.2.2.2.1 r5.2.2.2.2.2.2.2.2.2.2.2.2.2.2.2.2.2.2.2.2.2) fun r7 =>
 if (r7 = true) then
 (some (r5.2.2.2.2.2.2.2.2.2.2.2.2.2.2.2.2.2.2.2.1 == r5.2.2.2.2.2.2.2.2.2.1))
 else
 (some false)
 else
 Option.bind (qi k r5.2.2.2.2.2.2.2.2.2.2.2.2.2.2.2.2.2.2.1 r5.2.2.2.2.2.2.2.2.2.2.2.2.2.2.2.2.2.2.2.1 r5.2.2.2.2.2.2.2.2.2.2.2.2.2.2.2.2.2.2.2.2.1 r5.2.2.2.2.2.2.2.2.2.2.2.2.2.2.2.2.2.2.2.2.2 (ByteArray.mk (List.toArray [])) (0 : Int) [] []) fun r7 =>
 (some r7)
 else
 (some false)
 else
 if ((!r5.2.2.1) = true) then
 Option.bind (qt k r5.2.2.2.2.2.2.2.2.2.2.2.2.2.2.2.1 r5.2.2.2.2.2.2.2.2.2.2.2.2.2.2.2.2.1 r5.2.2.2.2.2.2.2.2.2.2.2.2.2.2.2.2.2.1 (0 : Int) [] []) fun r6 =>
 if ((!r6) = true) then
 (some false)
 else
 if (r5.2.2.2.1 = true) then
 Option.bind (qg k r5.2.2.2.2.2.2.2.2.2.2.2.2.2.2.2.2.2.2.1 r5.2.2.2.2.2.2.2.2.2.2.2.2.2.2.2.2.2.2.2.1 r5.2.2.2.2.2.2.2.2.2.2.2.2.2.2.2.2.2.2.2.2.1 r5.2.2.2.2.2.2.2.2.2.2.2.2.2.2.2.2.2.2.2.2.2) fun r7 =>
 if (r7 = true) then
 (some (r5.2.2.2.2.2.2.2.2.2.2.2.2.2.2.2.2.2.2.2.1 == r5.2.2.2.2.2.2.2.2.2.1))
 else
 (some false)
 else
 Option.bind (qi k r5.2.2.2.2.2.2.2.2.2.2.2.2.2.2.2.2.2.2.1 r5.2.2.2.2.2.2.2.2.2.2.2.2.2.2.2.2.2.2.2.1 r5.2.2.2.2.2.2.2.2.2.2.2.2.2.2.2.2.2.2.2.2.1 r5.2.2.2.2.2.2.2.2.2.2.2.2.2.2.2.2.2.2.2.2.2 (ByteArray.mk (List.toArray [])) (0 : Int) [] []) fun r7 =>
 (some r7)
 else
 if (r5.2.2.2.1 = true) then
 Option.bind (qg k r5.2.2.2.2.2.2.2.2.2.2.2.2.2.2.2.2.2.2.1 r5.2.2.2.2.2.2.2.2.2.2.2.2.2.2.2.2.2.2.2.1 r5.2.2.2.2.2.2.2.2.2.2.2.2.2.2.2.2.2.2.2.2.1 r5.2.2.2.2.2.2.2.2.2.2.2.2.2.2.2.2.2.2.2.2.2) fun r6 =>
 if (r6 = true) then
 (some (r5.2.2.2.2.2.2.2.2.2.2.2.2.2.2.2.2.2.2.2.1 == r5.2.2.2.2.2.2.2.2.2.1))
 else
 (some false)
 else
 Option.bind (qi k r5.2.2.2.2.2.2.2.2.2.2.2.2.2.2.2.2.2.2.1 r5.2.2.2.2.2.2.2.2.2.2.2.2.2.2.2.2.2.2.2.1 r5.2.2.2.2.2.2.2.2.2.2.2.2.2.2.2.2.2.2.2.2.1 r5.2.2.2.2.2.2.2.2.2.2.2.2.2.2.2.2.2.2.2.2.2 (ByteArray.mk (List.toArray [])) (0 : Int) [] []) fun r6 =>
 (some r6)
 else
 (some false)
 else
 (some false)
 else
 if (r5.2.2.1 = true) then
 Option.bind (qV k r5.2.2.2.2.2.2.2.2.2.2.2.2.2.2.2.1 r5.2.2.2.2.2.2.2.2.2.2.2.2.2.2.2.2.1 r5.2.2.2.2.2.2.2.2.2.2.2.2.2.2.2.2.2.1) fun r6 =>
 if ((!r6) = false) then
 if ((!r5.2.2.1) = true) then
 Option.bind (qt k r5.2.2.2.2.2.2.2.2.2.2.2.2.2.2.2.1 r5.2.2.2.2.2.2.2.2.2.2.2.2.2.2.2.2.1 r5.2.2.2.2.2.2.2.2.2.2.2.2.2.2.2.2.2.1 (0 : Int) [] []) fun r7 =>
 if ((!r7) = true) then
 (some false)
 else
 if (r5.2.2.2.1 = true) then
 Option.bind (qg k r5.2.2.2.2.2.2.2.2.2.2.2.2.2.2.2.2.2.2.1 r5.2.2.2.2.2.2.2.2.2.2.2.2.2.2.2.2.2.2.2.1 r5.2.2.2.2.2.2.2.2.2.2.2.2.2.2.2.2.2.2.2.2.1 r5.2.2.2.2.2.2.2.2.2.2.2.2.2.2.2.2.2.2.2.2.2) fun r8 =>
 if (r8 = true) then
 (some (r5.2.2.2.2.2.2.2.2.2.2.2.2.2.2.2.2.2.2.2.1 == r5.2.2.2.2.2.2.2.2.2.1))
 else
 (some false)
 else
 Option.bind (qi k r5.2.2.2.2.2.2.2.2.2.2.2.2.2.2.2.2.2.2.1 r5.2.2.2.2.2.2.2.2.2.2.2.2.2.2.2.2.2.2.2.1 r5.2.2.2.2.2.2.2.2.2.2.2.2.2.2.2.2.2.2.2.2.1 r5.2.2.2.2.2.2.2.2.2.2.2.2.2.2.2.2.2.2.2.2.2 (ByteArray.mk (List.toArray [])) (0 : Int) [] []) fun r8 =>
 (some r8)
 else
 if (r5.2.2.2.1 = true) then
 Option.bind (qg k r5.2.2.2.2.2.2.2.2.2.2.2.2.2.2.2.2.2.2.1 r5.2.2.2.2.2.2.2.2.2.2.2.2.2.2.2.2.2.2.2.1 r5.2.2.2.2.2.2.2.2.2.2.2.2.2.2.2.2.2.2.2.2.1 r5.2.2.2.2.2.2.2.2.2.2.2.2.2.2.2.2.2.2.2.2.2) fun r7 =>
 if (r7 = true) then
 (some (r5.2.2.2.2.2.2.2.2.2.2.2.2.2.2.2.2.2.2.2.1 == r5.2.2.2.2.2.2.2.2.2.1))
 else
 (some false)
 else
 Option.bind (qi k r5.2.2.2.2.2.2.2.2.2.2.2.2.2.2.2.2.2.2.1 r5.2.2.2.2.2.2.2.2.2.2.2.2.2.2.2.2.2.2.2.1 r5.2.2.2.2.2.2.2.2.2.2.2.2.2.2.2.2.2.2.2.2.1 r5.2.2.2.2.2.2.2.2.2.2.2.2.2.2.2.2.2.2.2.2.2 (ByteArray.mk (List.toArray [])) (0 : Int) [] []) fun r7 =>
 (some r7)
 else
 (some false)
 else
 if ((!r5.2.2.1) = true) then
 Option.bind (qt k r5.2.2.2.2.2.2.2.2.2.2.2.2.2.2.2.1 r5.2.2.2.2.2.2.2.2.2.2.2.2.2.2.2.2.1 r5.2.2.2.2.2.2.2.2.2.2.2.2.2.2.2.2.2.1 (0 : Int) [] []) fun r6 =>
 if ((!r6) = true) then
 (some false)
 else
 if (r5.2.2.2.1 = true) then
 Option.bind (qg k r5.2.2.2.2.2.2.2.2.2.2.2.2.2.2.2.2.2.2.1 r5.2.2.2.2.2.2.2.2.2.2.2.2.2.2.2.2.2.2.2.1 r5.2.2.2.2.2.2.2.2.2.2.2.2.2.2.2.2.2.2.2.2.1 r5.2.2.2.2.2.2.2.2.2.2.2.2.2.2.2.2.2.2.2.2.2) fun r7 =>
 if (r7 = true) then
 (some (r5.2.2.2.2.2.2.2.2.2.2.2.2.2.2.2.2.2.2.2.1 == r5.2.2.2.2.2.2.2.2.2.1))
 else
 (some false)
 else
 Option.bind (qi k r5.2.2.2.2.2.2.2.2.2.2.2.2.2.2.2.2.2.2.1 r5.2.2.2.2.2.2.2.2.2.2.2.2.2.2.2.2.2.2.2.1 r5.2.2.2.2.2.2.2.2.2.2.2.2.2.2.2.2.2.2.2.2.1 r5.2.2.2.2.2.2.2.2.2.2.2.2.2.2.2.2.2.2.2.2.2 (ByteArray.mk (List.toArray [])) (0 : Int) [] []) fun r7 =>
 (some r7)
 else
 if (r5.2.2.2.1 = true) then
 Option.bind (qg k r5.2.2.2.2.2.2.2.2.2.2.2.2.2.2.2.2.2.2.1 r5.2.2.2.2.2.2.2.2.2.2.2.2.2.2.2.2.2.2.2.1 r5.2.2.2.2.2.2.2.2.2.2.2.2.2.2.2.2.2.2.2.2.1 r5.2.2.2.2.2.2.2.2.2.2.2.2.2.2.2.2.2.2.2.2.2) fun r6 =>
 if (r6 = true) then
 (some (r5.2.2.2.2.2.2.2.2.2.2.2.2.2.2.2.2.2.2.2.1 == r5.2.2.2.2.2.2.2.2.2.1))
 else
 (some false)
 else
 Option.bind (qi k r5.2.2.2.2.2.2.2.2.2.2.2.2.2.2.2.2.2.2.1 r5.2.2.2.2.2.2.2.2.2.2.2.2.2.2.2.2.2.2.2.1 r5.2.2.2.2.2.2.2.2.2.2.2.2.2.2.2.2.2.2.2.2.1 r5.2.2.2.2.2.2.2.2.2.2.2.2.2.2.2.2.2.2.2.2.2 (ByteArray.mk (List.toArray [])) (0 : Int) [] []) fun r6 =>
 (some r6)
def qe6 (k : Nat) (f0 : List ByteArray) (f1 : List DvT) (f2 : Int) (f3 : Int) (f4 : Int) (d0 : Int) (d1 : ByteArray) (d2 : List Int) (d3 : Int) (d4 : Int) (d5 : Int) (d6 : Int) (d7 : List (Int × Int)) (d8 : List Int) (d9 : ByteArray) (d10 : Int) (d11 : List (Int × Int)) (d12 : List (Int × Int)) : Option (Bool) :=
 if ((d0 == (114 : Int)) = true) then
 if ((d4 == (0 : Int)) = true) then
 (some false)
 else
 if (((((List.length d2) : Nat) : Int) != (2 : Int)) = false) then
 Option.bind (qz k d1) fun r4 =>
 if ((!r4) = true) then
 (some false)
 else
 Option.bind (qp k k (2 : Int) false true false false (0 : Int) f0 f1 f2 f3 f4 d0 d1 d2 d3 d4 d5 d6 d7 d8 d9 d10 d11 d12) fun r5 =>
 qc r5
 (fun r5 =>
 (some r5.1))
 (qe k)
 else
 (some false)
 else
 if ((d0 == (99 : Int)) = true) then
 if ((d4 == (0 : Int)) = true) then
 (some false)
 else
 if (((((List.length d2) : Nat) : Int) != (2 : Int)) = false) then
 Option.bind (qz k d1) fun r4 =>
 if ((!r4) = true) then
 (some false)
 else
 Option.bind (qp k k (2 : Int) false true false false (0 : Int) f0 f1 f2 f3 f4 d0 d1 d2 d3 d4 d5 d6 d7 d8 d9 d10 d11 d12) fun r5 =>
 qc r5
 (fun r5 =>
 (some r5.1))
 (qe k)
 else
 (some false)
 else
 if ((d0 == (108 : Int)) = true) then
 if ((d4 == (0 : Int)) = true) then
 (some false)
 else
 if (((((List.length d2) : Nat) : Int) != (2 : Int)) = false) then
 Option.bind (qz k d1) fun r4 =>
 if ((!r4) = true) then
 (some false)
 else
 Option.bind (qp k k (2 : Int) false true false false (0 : Int) f0 f1 f2 f3 f4 d0 d1 d2 d3 d4 d5 d6 d7 d8 d9 d10 d11 d12) fun r5 =>
 qc r5
 (fun r5 =>
 (some r5.1))
 (qe k)
 else
 (some false)
 else
 if ((d0 == (118 : Int)) = true) then
 if (((((List.length d2) : Nat) : Int) != (2 : Int)) = false) then
 Option.bind (qz k d1) fun r4 =>
 if ((!r4) = true) then
 (some false)
 else
 Option.bind (qp k k (2 : Int) false false true false (0 : Int) f0 f1 f2 f3 f4 d0 d1 d2 d3 d4 d5 d6 d7 d8 d9 d10 d11 d12) fun r5 =>
 qc r5
 (fun r5 =>
 (some r5.1))
 (qe k)
 else
 (some false)
 else
 if ((d0 == (105 : Int)) = true) then
 if (((((List.length d2) : Nat) : Int) != (2 : Int)) = false) then
 Option.bind (qz k d1) fun r4 =>
 if ((!r4) = true) then
 (some false)
 else
 Option.bind (qp k k (2 : Int) false false true false (0 : Int) f0 f1 f2 f3 f4 d0 d1 d2 d3 d4 d5 d6 d7 d8 d9 d10 d11 d12) fun r5 =>
 qc r5
 (fun r5 =>
 (some r5.1))
 (qe k)
 else
 (some false)
 else
 if ((d0 == (101 : Int)) = true) then
 if (((((List.length d2) : Nat) : Int) != (4 : Int)) = false) then
 Option.bind (qz k d1) fun r4 =>
 if ((!r4) = true) then
 (some false)
 else
 Option.bind (qp k k (4 : Int) false true false false (0 : Int) f0 f1 f2 f3 f4 d0 d1 d2 d3 d4 d5 d6 d7 d8 d9 d10 d11 d12) fun r5 =>
 qc r5
 (fun r5 =>
 (some r5.1))
 (qe k)
 else
 (some false)
 else
 if ((d0 == (103 : Int)) = true) then
 if (((((List.length d2) : Nat) : Int) != (4 : Int)) = false) then
 Option.bind (qz k d1) fun r4 =>
 if ((!r4) = true) then
 (some false)
 else
 Option.bind (qp k k (4 : Int) false true false false (0 : Int) f0 f1 f2 f3 f4 d0 d1 d2 d3 d4 d5 d6 d7 d8 d9 d10 d11 d12) fun r5 =>
 qc r5
 (fun r5 =>
 (some r5.1))
 (qe k)
 else
 (some false)
 else
 if ((d0 == (116 : Int)) = true) then
 if (((((List.length d2) : Nat) : Int) != (4 : Int)) = false) then
 Option.bind (qz k d1) fun r4 =>
 if ((!r4) = true) then
 (some false)
 else
 Option.bind (qp k k (4 : Int) false true false false (0 : Int) f0 f1 f2 f3 f4 d0 d1 d2 d3 d4 d5 d6 d7 d8 d9 d10 d11 d12) fun r5 =>
 qc r5
 (fun r5 =>
 (some r5.1))
 (qe k)
 else
 (some false)
 else
 if ((d0 == (102 : Int)) = true) then
 if (((((List.length d2) : Nat) : Int) != (2 : Int)) = false) then
 Option.bind (qz k d1) fun r4 =>
 if ((!r4) = true) then
 (some false)
 else
 Option.bind (qp k k (2 : Int) true true false false (0 : Int) f0 f1 f2 f3 f4 d0 d1 d2 d3 d4 d5 d6 d7 d8 d9 d10 d11 d12) fun r5 =>
 qc r5
 (fun r5 =>
 (some r5.1))
 (qe k)
 else
 (some false)
 else
 if ((d0 == (104 : Int)) = true) then
 if (((((List.length d2) : Nat) : Int) != (2 : Int)) = false) then
 Option.bind (qz k d1) fun r4 =>
 if ((!r4) = true) then
 (some false)
 else
 Option.bind (qp k k (2 : Int) true true false false (0 : Int) f0 f1 f2 f3 f4 d0 d1 d2 d3 d4 d5 d6 d7 d8 d9 d10 d11 d12) fun r5 =>
 qc r5
 (fun r5 =>
 (some r5.1))
 (qe k)
 else
 (some false)
 else
 if ((d0 == (100 : Int)) = true) then
 if (((((List.length d2) : Nat) : Int) != (2 : Int)) = false) then
 Option.bind (qz k d1) fun r4 =>
 if ((!r4) = true) then
 (some false)
 else
 Option.bind (qp k k (2 : Int) false false false true (0 : Int) f0 f1 f2 f3 f4 d0 d1 d2 d3 d4 d5 d6 d7 d8 d9 d10 d11 d12) fun r5 =>
 qc r5
 (fun r5 =>
 (some r5.1))
 (qe k)
 else
 (some false)
 else
 if ((d0 == (115 : Int)) = true) then
 if (((((List.length d2) : Nat) : Int) != (4 : Int)) = false) then
 Option.bind (qz k d1) fun r4 =>
 if ((!r4) = true) then
 (some false)
 else
 Option.bind (qp k k (4 : Int) false false false true (0 : Int) f0 f1 f2 f3 f4 d0 d1 d2 d3 d4 d5 d6 d7 d8 d9 d10 d11 d12) fun r5 =>
 qc r5
 (fun r5 =>
 (some r5.1))
 (qe k)
 else
 (some false)
 else
 (some false)
def qcZ : Nat → List ByteArray → List DvT → Int → Int → Int → Int → ByteArray → List Int → Int → Int → Int → Int → List (Int × Int) → List Int → ByteArray → Int → List (Int × Int) → List (Int × Int) → Option (Bool)
 | 0, _, _, _, _, _, _, _, _, _, _, _, _, _, _, _, _, _, _ => none
 | k + 1, f0, f1, f2, f3, f4, d0, d1, d2, d3, d4, d5, d6, d7, d8, d9, d10, d11, d12 => qe6 k f0 f1 f2 f3 f4 d0 d1 d2 d3 d4 d5 d6 d7 d8 d9 d10 d11 d12
def qy2 : Nat → Inst := mkI 68 ⟨[.g [.lf (.sl .str), .lf (.sl qG), .lf (.int .i64), .lf (.int .i64), .lf (.int .i64)], .g [.lf (.int .u8), .lf .str, .lf (.sl (.int .i64)), .lf (.int .i64), .lf (.int .i64), .lf (.int .i64), .lf (.int .i64), .lf cE, .lf (.sl (.int .i64)), .lf .str, .lf (.int .u8), .lf cE, .lf cE]], []⟩ [⟨[vB], []⟩] fun k x => qcZ k x.1 x.2.1 x.2.2.1 x.2.2.2.1 x.2.2.2.2.1 x.2.2.2.2.2.1 x.2.2.2.2.2.2.1 x.2.2.2.2.2.2.2.1 x.2.2.2.2.2.2.2.2.1 x.2.2.2.2.2.2.2.2.2.1 x.2.2.2.2.2.2.2.2.2.2.1 x.2.2.2.2.2.2.2.2.2.2.2.1 x.2.2.2.2.2.2.2.2.2.2.2.2.1 x.2.2.2.2.2.2.2.2.2.2.2.2.2.1 x.2.2.2.2.2.2.2.2.2.2.2.2.2.2.1 x.2.2.2.2.2.2.2.2.2.2.2.2.2.2.2.1 x.2.2.2.2.2.2.2.2.2.2.2.2.2.2.2.2.1 x.2.2.2.2.2.2.2.2.2.2.2.2.2.2.2.2.2
def qsz (k : Nat) := ac (qsv k) (ac (qlo k) (ac (qxk k) (ac (qxl k) (ac (qxr k) (ac (qxs k) a0)))))
def qvz (k : Nat) : LInst := mkL 1 [⟨[(2, .a (.ptr 0 0 0)), (3, .a (.ptr 1 0 0)), (5, vI), (6, vB), (7, vB), (8, vB), (9, vB), (10, vI)], [(0, some (.raw [[.lf (.sl .str), .lf (.sl qG), .lf (.int .i64), .lf (.int .i64), .lf (.int .i64)]] 5 27 true false false)), (1, some (.raw [[.lf (.int .u8), .lf .str, .lf (.sl (.int .i64)), .lf (.int .i64), .lf (.int .i64), .lf (.int .i64), .lf (.int .i64), .lf cE, .lf (.sl (.int .i64)), .lf .str, .lf (.int .u8), .lf cE, .lf cE]] 13 48 true false false))], 2⟩] [⟨none, ⟨[(4, vB)], [(0, some (.raw [[.lf (.sl .str), .lf (.sl qG), .lf (.int .i64), .lf (.int .i64), .lf (.int .i64)]] 5 27 true false false)), (1, some (.raw [[.lf (.int .u8), .lf .str, .lf (.sl (.int .i64)), .lf (.int .i64), .lf (.int .i64), .lf (.int .i64), .lf (.int .i64), .lf cE, .lf (.sl (.int .i64)), .lf .str, .lf (.int .u8), .lf cE, .lf cE]] 13 48 true false false))], 2⟩⟩, ⟨some 1, ⟨[(2, .a (.ptr 0 0 0)), (3, .a (.ptr 1 0 0)), (6, vB), (7, vB), (8, vB), (9, vB)], [(0, some (.raw [[.lf (.sl .str), .lf (.sl qG), .lf (.int .i64), .lf (.int .i64), .lf (.int .i64)]] 5 27 true false false)), (1, some (.raw [[.lf (.int .u8), .lf .str, .lf (.sl (.int .i64)), .lf (.int .i64), .lf (.int .i64), .lf (.int .i64), .lf (.int .i64), .lf cE, .lf (.sl (.int .i64)), .lf .str, .lf (.int .u8), .lf cE, .lf cE]] 13 48 true false false))], 2⟩⟩] (fun n x => qp k n x.1 x.2.1 x.2.2.1 x.2.2.2.1 x.2.2.2.2.1 x.2.2.2.2.2.1 x.2.2.2.2.2.2.1 x.2.2.2.2.2.2.2.1 x.2.2.2.2.2.2.2.2.1 x.2.2.2.2.2.2.2.2.2.1 x.2.2.2.2.2.2.2.2.2.2.1 x.2.2.2.2.2.2.2.2.2.2.2.1 x.2.2.2.2.2.2.2.2.2.2.2.2.1 x.2.2.2.2.2.2.2.2.2.2.2.2.2.1 x.2.2.2.2.2.2.2.2.2.2.2.2.2.2.1 x.2.2.2.2.2.2.2.2.2.2.2.2.2.2.2.1 x.2.2.2.2.2.2.2.2.2.2.2.2.2.2.2.2.1 x.2.2.2.2.2.2.2.2.2.2.2.2.2.2.2.2.2.1 x.2.2.2.2.2.2.2.2.2.2.2.2.2.2.2.2.2.2.1 x.2.2.2.2.2.2.2.2.2.2.2.2.2.2.2.2.2.2.2.1 x.2.2.2.2.2.2.2.2.2.2.2.2.2.2.2.2.2.2.2.2.1 x.2.2.2.2.2.2.2.2.2.2.2.2.2.2.2.2.2.2.2.2.2.1 x.2.2.2.2.2.2.2.2.2.2.2.2.2.2.2.2.2.2.2.2.2.2.1 x.2.2.2.2.2.2.2.2.2.2.2.2.2.2.2.2.2.2.2.2.2.2.2) k
theorem qvA (k : Nat) : LIo 68 Tryz.f68 0 k (qvz k) :=
 lpk [] (qsz k) l0 (fun _ => rfl) (by kernel_rfl) fun n x => by kernel_rfl
theorem qxt : ∀ k, qh (call cf k) (qy2 k) :=
 fnk 0 [1] Tryz.func68 (fun k => (qsz k)) (fun k => (lc (qvA k) l0)) ⟨rfl, rfl, ⟨rfl, Nat.le_of_ble_eq_true rfl⟩, rfl⟩ (fun _ => rfl) (by kernel_rfl) fun k x => by kernel_rfl

def qbl (k : Nat) (rec : ByteArray → List ByteArray → Int → Option ((Bool) ⊕ (Unit))) (s : ByteArray) (l : List ByteArray) (i : Int) : Option ((Bool) ⊕ (Unit)) :=
 if ((decide (i < (((List.length l) : Nat) : Int))) = true) then
 if ((0 : Int) ≤ i) then
 Option.bind (l)[(Int.toNat i)]? fun x2 =>
 if (((Array.toList (ByteArray.data x2)) == (Array.toList (ByteArray.data s))) = true) then
 (some (Sum.inl true))
 else
 rec s l (IntKind.wrap .i64 (i + (1 : Int)))
 else
 none
 else
 (some (Sum.inr ()))
def qaw (k n : Nat) : ByteArray → List ByteArray → Int → Option ((Bool) ⊕ (Unit)) := Nat.rec (fun _ _ _ => none) (fun _ r => qbl k r) n
def qfE (k : Nat) (s : ByteArray) (l : List ByteArray) : Option (Bool) :=
 Option.bind (qaw k k s l (0 : Int)) fun r6 =>
 qc r6
 (fun r6 =>
 (some r6))
 (fun r6 =>
 (some false))
def qdk : Nat → ByteArray → List ByteArray → Option (Bool)
 | 0, _, _ => none
 | k + 1, s, l => qfE k s l
def qy3 : Nat → Inst := mkI 127 ⟨[vS, vR], []⟩ [⟨[vB], []⟩] fun k x => qdk k x.1 x.2
def qvB (k : Nat) : LInst := mkL 0 [⟨[(0, vS), (1, vR), (5, vI)], [], 0⟩] [⟨none, ⟨[(4, vB)], [], 0⟩⟩, ⟨some 0, ⟨[], [], 0⟩⟩] (fun n x => qaw k n x.1 x.2.1 x.2.2) k
theorem qvC (k : Nat) : LIo 127 Tryz.f127 0 k (qvB k) :=
 lpk [] a0 l0 (fun _ => rfl) (by kernel_rfl) fun n x => by kernel_rfl
theorem qxu : ∀ k, qh (call cf k) (qy3 k) :=
 fnk 0 [0] Tryz.func127 (fun k => a0) (fun k => (lc (qvC k) l0)) ⟨rfl, rfl, ⟨rfl, Nat.le_of_ble_eq_true rfl⟩, rfl⟩ (fun _ => rfl) (by kernel_rfl) fun k x => by kernel_rfl

def qaY (k : Nat) (rec : List ByteArray → Int → Option ((Bool) ⊕ (Unit))) (l : List ByteArray) (i : Int) : Option ((Bool) ⊕ (Unit)) :=
 if ((decide (i < (((List.length l) : Nat) : Int))) = true) then
 if ((0 : Int) ≤ i) then
 Option.bind (l)[(Int.toNat i)]? fun x1 =>
 if (((0 : Int) ≤ (0 : Int)) ∧ (((0 : Int) ≤ i) ∧ (i ≤ (((List.length l) : Nat) : Int)))) then
 Option.bind (qdk k x1 (List.take (Int.toNat i) l)) fun r6 =>
 if (r6 = true) then
 (some (Sum.inl true))
 else
 rec l (IntKind.wrap .i64 (i + (1 : Int)))
 else
 none
 else
 none
 else
 (some (Sum.inr ()))
def qah (k n : Nat) : List ByteArray → Int → Option ((Bool) ⊕ (Unit)) := Nat.rec (fun _ _ => none) (fun _ r => qaY k r) n
def qe7 (k : Nat) (l : List ByteArray) : Option (Bool) :=
 Option.bind (qah k k l (0 : Int)) fun r6 =>
 qc r6
 (fun r6 =>
 (some r6))
 (fun r6 =>
 (some false))
def qbI : Nat → List ByteArray → Option (Bool)
 | 0, _ => none
 | k + 1, l => qe7 k l
def qy4 : Nat → Inst := mkI 70 ⟨[vR], []⟩ [⟨[vB], []⟩] fun k x => qbI k x
def qsA (k : Nat) := ac (qxu k) a0
def qvD (k : Nat) : LInst := mkL 0 [⟨[(0, vR), (3, vI)], [], 0⟩] [⟨none, ⟨[(2, vB)], [], 0⟩⟩, ⟨some 0, ⟨[], [], 0⟩⟩] (fun n x => qah k n x.1 x.2) k
theorem qvE (k : Nat) : LIo 70 Tryz.f70 0 k (qvD k) :=
 lpk [] (qsA k) l0 (fun _ => rfl) (by kernel_rfl) fun n x => by kernel_rfl
theorem qxv : ∀ k, qh (call cf k) (qy4 k) :=
 fnk 0 [0] Tryz.func70 (fun k => (qsA k)) (fun k => (lc (qvE k) l0)) ⟨rfl, rfl, ⟨rfl, Nat.le_of_ble_eq_true rfl⟩, rfl⟩ (fun _ => rfl) (by kernel_rfl) fun k x => by kernel_rfl

def qd2 (k : Nat) (kind : Int) : Option (Bool) :=
 if ((kind == (118 : Int)) = false) then
 if ((kind == (101 : Int)) = false) then
 if ((kind == (104 : Int)) = false) then
 if ((kind == (99 : Int)) = false) then
 if ((kind == (108 : Int)) = false) then
 (some (kind == (116 : Int)))
 else
 (some true)
 else
 (some true)
 else
 (some true)
 else
 (some true)
 else
 (some true)
def qc3 : Nat → Int → Option (Bool)
 | 0, _ => none
 | k + 1, kind => qd2 k kind
def qy5 : Nat → Inst := mkI 128 ⟨[.a (.lf (.int .u8))], []⟩ [⟨[vB], []⟩] fun k x => qc3 k x
theorem qxw : ∀ k, qh (call cf k) (qy5 k) :=
 fnk 0 [] Tryz.func128 (fun k => a0) (fun k => l0) ⟨rfl, rfl, ⟨rfl, Nat.le_of_ble_eq_true rfl⟩, rfl⟩ (fun _ => rfl) (by kernel_rfl) fun k x => by kernel_rfl


end
noncomputable section

def qcg (k : Nat) (rec : Int → Nat → Int → List ByteArray → List DvT → Int → Int → Int → List Int → Option (Int × Nat × List ByteArray × List DvT × Int × Int × Int × List Int)) (n : Int) (b : Nat) (i : Int) (f0 : List ByteArray) (f1 : List DvT) (f2 : Int) (f3 : Int) (f4 : Int) (bs : List Int) : Option (Int × Nat × List ByteArray × List DvT × Int × Int × Int × List Int) :=
 if ((decide (i < (((List.length f1) : Nat) : Int))) = true) then
 if ((0 : Int) ≤ i) then
 Option.bind (f1)[(Int.toNat i)]? fun x1 =>
 Option.bind (qc3 k x1.1) fun r8 =>
 if (r8 = true) then
 if (b ≤ (List.length bs)) then
 if (((b + (List.length (List.take 1 (n :: [])))) * 8) ≤ 140737488355328) then
 rec (IntKind.wrap .i64 (n + (1 : Int))) (b + (List.length (List.take 1 (n :: [])))) (IntKind.wrap .i64 (i + (1 : Int))) f0 f1 f2 f3 f4 ((List.take b bs) ++ (List.take 1 (n :: [])))
 else
 none
 else
 none
 else
 if (b ≤ (List.length bs)) then
 if (((b + 1) * 8) ≤ 140737488355328) then
 rec n (b + 1) (IntKind.wrap .i64 (i + (1 : Int))) f0 f1 f2 f3 f4 ((List.take b bs) ++ (List.take 1 ((-(1 : Int)) :: [])))
 else
 none
 else
 none
 else
 none
 else
 (some (n, b, f0, f1, f2, f3, f4, bs))
def qbm (k n : Nat) : Int → Nat → Int → List ByteArray → List DvT → Int → Int → Int → List Int → Option (Int × Nat × List ByteArray × List DvT × Int × Int × Int × List Int) := Nat.rec (fun _ _ _ _ _ _ _ _ _ => none) (fun _ r => qcg k r) n
def qe8 (k : Nat) (f0 : List ByteArray) (f1 : List DvT) (f2 : Int) (f3 : Int) (f4 : Int) : Option (Int × List Int) :=
 Option.bind (qbm k k (IntKind.wrap .i64 ((((List.length f0) : Nat) : Int) - (1 : Int))) 0 (0 : Int) f0 f1 f2 f3 f4 []) fun r8 =>
 if ((0 + r8.2.1) ≤ (List.length r8.2.2.2.2.2.2.2)) then
 (some (r8.1, (List.take r8.2.1 r8.2.2.2.2.2.2.2)))
 else
 none
def qc0 : Nat → List ByteArray → List DvT → Int → Int → Int → Option (Int × List Int)
 | 0, _, _, _, _, _ => none
 | k + 1, f0, f1, f2, f3, f4 => qe8 k f0 f1 f2 f3 f4
def qy6 : Nat → Inst := mkI 71 ⟨[.g [.lf (.sl .str), .lf (.sl qG), .lf (.int .i64), .lf (.int .i64), .lf (.int .i64)]], []⟩ [⟨[vI, vJ], []⟩] fun k x => qc0 k x.1 x.2.1 x.2.2.1 x.2.2.2.1 x.2.2.2.2
def qsB (k : Nat) := ac (qxw k) a0
def qvF (k : Nat) : LInst := mkL 0 [⟨[(1, .a (.ptr 0 0 0)), (4, vI), (5, .a (.smz 1)), (6, vI)], [(0, some (.raw [[.lf (.sl .str), .lf (.sl qG), .lf (.int .i64), .lf (.int .i64), .lf (.int .i64)]] 5 27 true false false)), (1, some (.arr (.int .i64) 1 3 false))], 2⟩] [⟨some 0, ⟨[(4, vI), (5, .a (.smz 1))], [(0, some (.raw [[.lf (.sl .str), .lf (.sl qG), .lf (.int .i64), .lf (.int .i64), .lf (.int .i64)]] 5 27 true false false)), (1, some (.arr (.int .i64) 1 3 false))], 2⟩⟩] (fun n x => qbm k n x.1 x.2.1 x.2.2.1 x.2.2.2.1 x.2.2.2.2.1 x.2.2.2.2.2.1 x.2.2.2.2.2.2.1 x.2.2.2.2.2.2.2.1 x.2.2.2.2.2.2.2.2) k
theorem qvG (k : Nat) : LIo 71 Tryz.f71 0 k (qvF k) :=
 lpk [] (qsB k) l0 (fun _ => rfl) (by kernel_rfl) fun n x => by kernel_rfl
theorem qxx : ∀ k, qh (call cf k) (qy6 k) :=
 fnk 0 [0] Tryz.func71 (fun k => (qsB k)) (fun k => (lc (qvG k) l0)) ⟨rfl, rfl, ⟨rfl, Nat.le_of_ble_eq_true rfl⟩, rfl⟩ (fun _ => rfl) (by kernel_rfl) fun k x => by kernel_rfl

def qaZ (k : Nat) (rec : Nat → Int → List ByteArray → List DvT → Int → Int → Int → List ByteArray → Option ((Int × List ByteArray × List DvT × Int × Int × Int × List ByteArray) ⊕ (Nat × List ByteArray × List DvT × Int × Int × Int × List ByteArray))) (qbL : Nat) (i : Int) (f0 : List ByteArray) (f1 : List DvT) (f2 : Int) (f3 : Int) (f4 : Int) (namess : List ByteArray) : Option ((Int × List ByteArray × List DvT × Int × Int × Int × List ByteArray) ⊕ (Nat × List ByteArray × List DvT × Int × Int × Int × List ByteArray)) :=
 if ((decide (i < (((List.length f1) : Nat) : Int))) = true) then
 if ((0 : Int) ≤ i) then
 Option.bind (f1)[(Int.toNat i)]? fun x1 =>
 Option.bind (qcZ k f0 f1 f2 f3 f4 x1.1 x1.2.1 x1.2.2.1 x1.2.2.2.1 x1.2.2.2.2.1.1 x1.2.2.2.2.1.2 x1.2.2.2.2.2.1.1 x1.2.2.2.2.2.1.2.1 x1.2.2.2.2.2.1.2.2 x1.2.2.2.2.2.2.1 x1.2.2.2.2.2.2.2.1 x1.2.2.2.2.2.2.2.2.1 x1.2.2.2.2.2.2.2.2.2) fun r4 =>
 if ((!r4) = true) then
 (some (Sum.inl ((90 : Int), f0, f1, f2, f3, f4, namess)))
 else
 if ((0 : Int) ≤ i) then
 Option.bind (f1)[(Int.toNat i)]? fun x2 =>
 if (qbL ≤ (List.length namess)) then
 if (((qbL + (List.length (List.take 1 (x2.2.1 :: [])))) * 16) ≤ 140737488355328) then
 rec (qbL + (List.length (List.take 1 (x2.2.1 :: [])))) (IntKind.wrap .i64 (i + (1 : Int))) f0 f1 f2 f3 f4 ((List.take qbL namess) ++ (List.take 1 (x2.2.1 :: [])))
 else
 none
 else
 none
 else
 none
 else
 none
 else
 (some (Sum.inr (qbL, f0, f1, f2, f3, f4, namess)))
def qai (k n : Nat) : Nat → Int → List ByteArray → List DvT → Int → Int → Int → List ByteArray → Option ((Int × List ByteArray × List DvT × Int × Int × Int × List ByteArray) ⊕ (Nat × List ByteArray × List DvT × Int × Int × Int × List ByteArray)) := Nat.rec (fun _ _ _ _ _ _ _ _ => none) (fun _ r => qaZ k r) n
def qa0 (k : Nat) (rec : Nat → Int → List ByteArray → List DvT → Int → Int → Int → List ByteArray → Option ((Int × List ByteArray × List DvT × Int × Int × Int × List ByteArray) ⊕ (Nat × List ByteArray × List DvT × Int × Int × Int × List ByteArray))) (qbL : Nat) (i : Int) (f0 : List ByteArray) (f1 : List DvT) (f2 : Int) (f3 : Int) (f4 : Int) (namess : List ByteArray) : Option ((Int × List ByteArray × List DvT × Int × Int × Int × List ByteArray) ⊕ (Nat × List ByteArray × List DvT × Int × Int × Int × List ByteArray)) :=
 if ((decide (i < (((List.length f0) : Nat) : Int))) = true) then
 if ((0 : Int) ≤ i) then
 Option.bind (f0)[(Int.toNat i)]? fun x1 =>
 Option.bind (qz k x1) fun r5 =>
 if ((!r5) = true) then
 (some (Sum.inl ((90 : Int), f0, f1, f2, f3, f4, namess)))
 else
 rec qbL (IntKind.wrap .i64 (i + (1 : Int))) f0 f1 f2 f3 f4 namess
 else
 none
 else
 (some (Sum.inr (qbL, f0, f1, f2, f3, f4, namess)))
def qJ (k n : Nat) : Nat → Int → List ByteArray → List DvT → Int → Int → Int → List ByteArray → Option ((Int × List ByteArray × List DvT × Int × Int × Int × List ByteArray) ⊕ (Nat × List ByteArray × List DvT × Int × Int × Int × List ByteArray)) := Nat.rec (fun _ _ _ _ _ _ _ _ => none) (fun _ r => qa0 k r) n
def qe9 (k : Nat) (f0 : List ByteArray) (f1 : List DvT) (f2 : Int) (f3 : Int) (f4 : Int) : Option (Int) :=
 Option.bind (qaE k f2 f3) fun r3 =>
 if ((!r3) = false) then
 if ((decide (f2 < (1 : Int))) = false) then
 if ((decide (f4 < (1 : Int))) = false) then
 if ((decide (f4 > (2 : Int))) = false) then
 if ((decide ((((List.length f0) : Nat) : Int) < (1 : Int))) = false) then
 if ((decide ((((List.length f0) : Nat) : Int) > (32 : Int))) = false) then
 if ((decide ((((List.length f1) : Nat) : Int) > (64 : Int))) = false) then
 Option.bind (f0)[0]? fun x =>
 if ((!((Array.toList (ByteArray.data x)) == (Array.toList (ByteArray.data (ByteArray.mk (List.toArray (48 :: []))))))) = true) then
 (some (90 : Int))
 else
 Option.bind (qai k k 0 (0 : Int) f0 f1 f2 f3 f4 []) fun r4 =>
 qc r4
 (fun r4 =>
 (some r4.1))
 (fun r4 =>
 Option.bind (qJ k k r4.1 (0 : Int) r4.2.1 r4.2.2.1 r4.2.2.2.1 r4.2.2.2.2.1 r4.2.2.2.2.2.1 r4.2.2.2.2.2.2) fun r5 =>
 qc r5
 (fun r5 =>
 (some r5.1))
 (fun r5 =>
 if ((0 + r5.1) ≤ (List.length r5.2.2.2.2.2.2)) then
 Option.bind (qbI k (List.take r5.1 r5.2.2.2.2.2.2)) fun r6 =>
 if (r6 = false) then
 Option.bind (qbI k r5.2.1) fun r7 =>
 if (r7 = true) then
 (some (90 : Int))
 else
 Option.bind (qc0 k r5.2.1 r5.2.2.1 r5.2.2.2.1 r5.2.2.2.2.1 r5.2.2.2.2.2.1) fun r8 =>
 if ((decide (r8.1 > (48 : Int))) = true) then
 (some (5 : Int))
 else
 (some (0 : Int))
 else
 (some (90 : Int))
 else
 none))
 else
 (some (90 : Int))
 else
 (some (90 : Int))
 else
 (some (90 : Int))
 else
 (some (90 : Int))
 else
 (some (90 : Int))
 else
 (some (90 : Int))
 else
 (some (90 : Int))
def qbb : Nat → List ByteArray → List DvT → Int → Int → Int → Option (Int)
 | 0, _, _, _, _, _ => none
 | k + 1, f0, f1, f2, f3, f4 => qe9 k f0 f1 f2 f3 f4
def qy7 : Nat → Inst := mkI 24 ⟨[.g [.lf (.sl .str), .lf (.sl qG), .lf (.int .i64), .lf (.int .i64), .lf (.int .i64)]], []⟩ [⟨[vI], []⟩] fun k x => qbb k x.1 x.2.1 x.2.2.1 x.2.2.2.1 x.2.2.2.2
def qoy (k : Nat) := ac (qlo k) (ac (qxt k) (ac (qsv k) (ac (qxv k) (ac (qxx k) a0))))
def qvH (k : Nat) : LInst := mkL 0 [⟨[(1, .a (.ptr 0 0 0)), (3, .a (.smz 1)), (4, vI)], [(0, some (.raw [[.lf (.sl .str), .lf (.sl qG), .lf (.int .i64), .lf (.int .i64), .lf (.int .i64)]] 5 27 true false false)), (1, some (.arr .str 1 9 false))], 2⟩] [⟨none, ⟨[(2, vI)], [(0, some (.raw [[.lf (.sl .str), .lf (.sl qG), .lf (.int .i64), .lf (.int .i64), .lf (.int .i64)]] 5 27 true false false)), (1, some (.arr .str 1 9 false))], 2⟩⟩, ⟨some 0, ⟨[(1, .a (.ptr 0 0 0)), (3, .a (.smz 1))], [(0, some (.raw [[.lf (.sl .str), .lf (.sl qG), .lf (.int .i64), .lf (.int .i64), .lf (.int .i64)]] 5 27 true false false)), (1, some (.arr .str 1 9 false))], 2⟩⟩] (fun n x => qai k n x.1 x.2.1 x.2.2.1 x.2.2.2.1 x.2.2.2.2.1 x.2.2.2.2.2.1 x.2.2.2.2.2.2.1 x.2.2.2.2.2.2.2) k
theorem qpU (k : Nat) : LIo 24 Tryz.f24 0 k (qvH k) :=
 lpk [] (qoy k) l0 (fun _ => rfl) (by kernel_rfl) fun n x => by kernel_rfl
def qvI (k : Nat) : LInst := mkL 2 [⟨[(1, .a (.ptr 0 0 0)), (3, .a (.smz 1)), (5, vI)], [(0, some (.raw [[.lf (.sl .str), .lf (.sl qG), .lf (.int .i64), .lf (.int .i64), .lf (.int .i64)]] 5 27 true false false)), (1, some (.arr .str 1 9 false))], 2⟩] [⟨none, ⟨[(2, vI)], [(0, some (.raw [[.lf (.sl .str), .lf (.sl qG), .lf (.int .i64), .lf (.int .i64), .lf (.int .i64)]] 5 27 true false false)), (1, some (.arr .str 1 9 false))], 2⟩⟩, ⟨some 2, ⟨[(1, .a (.ptr 0 0 0)), (3, .a (.smz 1))], [(0, some (.raw [[.lf (.sl .str), .lf (.sl qG), .lf (.int .i64), .lf (.int .i64), .lf (.int .i64)]] 5 27 true false false)), (1, some (.arr .str 1 9 false))], 2⟩⟩] (fun n x => qJ k n x.1 x.2.1 x.2.2.1 x.2.2.2.1 x.2.2.2.2.1 x.2.2.2.2.2.1 x.2.2.2.2.2.2.1 x.2.2.2.2.2.2.2) k
theorem qvJ (k : Nat) : LIo 24 Tryz.f24 0 k (qvI k) :=
 lpk [] (qoy k) (lc (qpU k) l0) (fun _ => rfl) (by kernel_rfl) fun n x => by kernel_rfl
theorem qxy : ∀ k, qh (call cf k) (qy7 k) :=
 fnk 0 [0, 2] Tryz.func24 (fun k => (qoy k)) (fun k => (lc (qpU k) (lc (qvJ k) l0))) ⟨rfl, rfl, ⟨rfl, Nat.le_of_ble_eq_true rfl⟩, rfl⟩ (fun _ => rfl) (by kernel_rfl) fun k x => by kernel_rfl

def qf4 (k : Nat) (f0 : List ByteArray) (f1 : List DvT) (f2 : Int) (f3 : Int) (f4 : Int) (mode : Int) : Option (Int) :=
 Option.bind (qeg k f0 f1 f2 f3 f4) fun r =>
 if ((r != (0 : Int)) = true) then
 (some r)
 else
 if ((mode != (1 : Int)) = true) then
 if ((mode != (2 : Int)) = true) then
 (some (110 : Int))
 else
 (some (0 : Int))
 else
 (some (0 : Int))
def qd3 : Nat → List ByteArray → List DvT → Int → Int → Int → Int → Option (Int)
 | 0, _, _, _, _, _, _ => none
 | k + 1, f0, f1, f2, f3, f4, mode => qf4 k f0 f1 f2 f3 f4 mode
def qy8 : Nat → Inst := mkI 57 ⟨[.g [.lf (.sl .str), .lf (.sl qG), .lf (.int .i64), .lf (.int .i64), .lf (.int .i64)], vI], []⟩ [⟨[vI], []⟩] fun k x => qd3 k x.1 x.2.1 x.2.2.1 x.2.2.2.1 x.2.2.2.2.1 x.2.2.2.2.2
theorem qsC : ∀ k, qh (call cf k) (qy8 k) :=
 fnk 0 [] Tryz.func57 (fun k => (ac (qxb k) a0)) (fun k => l0) ⟨rfl, rfl, ⟨rfl, Nat.le_of_ble_eq_true rfl⟩, rfl⟩ (fun _ => rfl) (by kernel_rfl) fun k x => by kernel_rfl

def qdl (k : Nat) (rec : Nat → Int → Int → List Int → Option (Nat × List Int)) (s : Nat) (x : Int) (x1 : Int) (ss : List Int) : Option (Nat × List Int) :=
 if ((decide (x1 < x)) = true) then
 if (((0 : Int) ≤ x1) ∧ (x1 < ((s : Nat) : Int))) then
 Option.bind (ss)[(0 + (Int.toNat x1))]? fun x2 =>
 rec s x (IntKind.wrap .i64 (x1 + (1 : Int))) (List.set ss (0 + (Int.toNat x1)) x1)
 else
 none
 else
 (some (s, ss))
def qch (k n : Nat) : Nat → Int → Int → List Int → Option (Nat × List Int) := Nat.rec (fun _ _ _ _ => none) (fun _ r => qdl k r) n
def qgE (k : Nat) (n : Int) : Option (Nat × List Int) :=
 if (((0 : Int) ≤ n) ∧ ((n ≤ n) ∧ ((n * (8 : Int)) ≤ (140737488355328 : Int)))) then
 Option.bind (qch k k (Int.toNat n) n (0 : Int) (List.replicate (Int.toNat n) (0 : Int))) fun r1 =>
 (some (r1.1, r1.2))
 else
 none
def qeb : Nat → Int → Option (Nat × List Int)
 | 0, _ => none
 | k + 1, n => qgE k n
def qy9 : Nat → Inst := mkI 58 ⟨[vI], []⟩ [⟨[.a (.smz 0)], [.arr (.int .i64) 1 3 false]⟩] fun k x => qeb k x
def qvK (k : Nat) : LInst := mkL 0 [⟨[(3, .a (.smz 0)), (7, vI), (8, vI)], [(0, some (.arr (.int .i64) 1 3 false))], 1⟩] [⟨some 0, ⟨[(3, .a (.smz 0))], [(0, some (.arr (.int .i64) 1 3 false))], 1⟩⟩] (fun n x => qch k n x.1 x.2.1 x.2.2.1 x.2.2.2) k
theorem qvL (k : Nat) : LIo 58 Tryz.f58 0 k (qvK k) :=
 lpk [] a0 l0 (fun _ => rfl) (by kernel_rfl) fun n x => by kernel_rfl
theorem qsD : ∀ k, qh (call cf k) (qy9 k) :=
 fnk 0 [0] Tryz.func58 (fun k => a0) (fun k => (lc (qvL k) l0)) ⟨rfl, rfl, ⟨rfl, Nat.le_of_ble_eq_true rfl⟩, rfl⟩ (fun _ => rfl) (by kernel_rfl) fun k x => by kernel_rfl

def qan (k : Nat) (rec : Nat → Int → List Int → Option (Int × List Int)) (s : Nat) (i : Int) (ss : List Int) : Option (Int × List Int) :=
 if (((0 : Int) ≤ i) ∧ (i < ((s : Nat) : Int))) then
 Option.bind (ss)[(0 + (Int.toNat i))]? fun x6 =>
 if ((x6 != i) = true) then
 if (((0 : Int) ≤ i) ∧ (i < ((s : Nat) : Int))) then
 Option.bind (ss)[(0 + (Int.toNat i))]? fun x7 =>
 if (((0 : Int) ≤ x7) ∧ (x7 < ((s : Nat) : Int))) then
 Option.bind (ss)[(0 + (Int.toNat x7))]? fun x8 =>
 if (((0 : Int) ≤ i) ∧ (i < ((s : Nat) : Int))) then
 Option.bind (ss)[(0 + (Int.toNat i))]? fun x9 =>
 if (((0 : Int) ≤ i) ∧ (i < ((s : Nat) : Int))) then
 Option.bind ((List.set ss (0 + (Int.toNat i)) x8))[(0 + (Int.toNat i))]? fun x10 =>
 rec s x10 (List.set ss (0 + (Int.toNat i)) x8)
 else
 none
 else
 none
 else
 none
 else
 none
 else
 (some (i, ss))
 else
 none
def qM (k n : Nat) : Nat → Int → List Int → Option (Int × List Int) := Nat.rec (fun _ _ _ => none) (fun _ r => qan k r) n
def qd4 (k : Nat) (s : Nat) (i : Int) (ss : List Int) : Option (Int × List Int) :=
 Option.bind (qM k k s i ss) fun r3 =>
 (some (r3.1, r3.2))
def qa1 : Nat → Nat → Int → List Int → Option (Int × List Int)
 | 0, _, _, _ => none
 | k + 1, s, i, ss => qd4 k s i ss
def qh6 : Nat → Inst := mkI 61 ⟨[.a (.smz 0), vI], [.arr (.int .i64) 1 3 false]⟩ [⟨[vI], [.arr (.int .i64) 1 3 false]⟩] fun k x => qa1 k x.1 x.2.1 x.2.2
def qg8 (k : Nat) : LInst := mkL 0 [⟨[(0, .a (.smz 0)), (1, vI)], [(0, some (.arr (.int .i64) 1 3 false))], 1⟩] [⟨some 0, ⟨[(1, vI)], [(0, some (.arr (.int .i64) 1 3 false))], 1⟩⟩] (fun n x => qM k n x.1 x.2.1 x.2.2) k
theorem qg9 (k : Nat) : LIo 61 Tryz.f61 1 k (qg8 k) :=
 lpk [] a0 l0 (fun _ => rfl) (by kernel_rfl) fun n x => by kernel_rfl
theorem qfN : ∀ k, qh (call cf k) (qh6 k) :=
 fnk 1 [0] Tryz.func61 (fun k => a0) (fun k => (lc (qg9 k) l0)) ⟨rfl, rfl, ⟨rfl, Nat.le_of_ble_eq_true rfl⟩, rfl⟩ (fun _ => rfl) (by kernel_rfl) fun k x => by kernel_rfl

def qd5 (k : Nat) (s : Nat) (a : Int) (b : Int) (ss : List Int) : Option (Bool × List Int) :=
 Option.bind (qa1 k s a ss) fun r3 =>
 Option.bind (qa1 k s b r3.2) fun r4 =>
 if (((0 : Int) ≤ r3.1) ∧ (r3.1 < ((s : Nat) : Int))) then
 Option.bind (r4.2)[(0 + (Int.toNat r3.1))]? fun x6 =>
 (some ((r3.1 != r4.1), (List.set r4.2 (0 + (Int.toNat r3.1)) r4.1)))
 else
 none
def qY : Nat → Nat → Int → Int → List Int → Option (Bool × List Int)
 | 0, _, _, _, _ => none
 | k + 1, s, a, b, ss => qd5 k s a b ss
def qh7 : Nat → Inst := mkI 60 ⟨[.a (.smz 0), vI, vI], [.arr (.int .i64) 1 3 false]⟩ [⟨[vB], [.arr (.int .i64) 1 3 false]⟩] fun k x => qY k x.1 x.2.1 x.2.2.1 x.2.2.2
theorem qfO : ∀ k, qh (call cf k) (qh7 k) :=
 fnk 1 [] Tryz.func60 (fun k => (ac (qfN k) a0)) (fun k => l0) ⟨rfl, rfl, ⟨rfl, Nat.le_of_ble_eq_true rfl⟩, rfl⟩ (fun _ => rfl) (by kernel_rfl) fun k x => by kernel_rfl

def qbO (k : Nat) (rec : Nat → ByteArray → List DvT → Int → Int → List ByteArray → List DvT → Int → Int → Int → List Int → Option (Nat × List ByteArray × List DvT × Int × Int × Int × List Int)) (s : Nat) (first : ByteArray) (x : List DvT) (x1 : Int) (x2 : Int) (f0 : List ByteArray) (f1 : List DvT) (f2 : Int) (f3 : Int) (f4 : Int) (ss : List Int) : Option (Nat × List ByteArray × List DvT × Int × Int × Int × List Int) :=
 if ((decide (x2 < x1)) = true) then
 if ((0 : Int) ≤ x2) then
 Option.bind (x)[(Int.toNat x2)]? fun x3 =>
 Option.bind (qas k first x3.1) fun r2 =>
 if ((decide (r2 ≥ (0 : Int))) = true) then
 Option.bind (x3.2.2.1)[0]? fun x4 =>
 Option.bind (x3.2.2.1)[1]? fun x5 =>
 Option.bind (qY k s x4 x5 ss) fun r3 =>
 Option.bind (qas k (ByteArray.mk (List.toArray (101 :: (103 :: (116 :: []))))) x3.1) fun r4 =>
 if ((decide (r4 ≥ (0 : Int))) = true) then
 Option.bind (x3.2.2.1)[2]? fun x6 =>
 Option.bind (x3.2.2.1)[3]? fun x7 =>
 Option.bind (qY k s x6 x7 r3.2) fun r5 =>
 rec s first x x1 (IntKind.wrap .i64 (x2 + (1 : Int))) f0 f1 f2 f3 f4 r5.2
 else
 rec s first x x1 (IntKind.wrap .i64 (x2 + (1 : Int))) f0 f1 f2 f3 f4 r3.2
 else
 Option.bind (qas k (ByteArray.mk (List.toArray (101 :: (103 :: (116 :: []))))) x3.1) fun r3 =>
 if ((decide (r3 ≥ (0 : Int))) = true) then
 Option.bind (x3.2.2.1)[2]? fun x4 =>
 Option.bind (x3.2.2.1)[3]? fun x5 =>
 Option.bind (qY k s x4 x5 ss) fun r4 =>
 rec s first x x1 (IntKind.wrap .i64 (x2 + (1 : Int))) f0 f1 f2 f3 f4 r4.2
 else
 rec s first x x1 (IntKind.wrap .i64 (x2 + (1 : Int))) f0 f1 f2 f3 f4 ss
 else
 none
 else
 (some (s, f0, f1, f2, f3, f4, ss))
def qbD (k n : Nat) : Nat → ByteArray → List DvT → Int → Int → List ByteArray → List DvT → Int → Int → Int → List Int → Option (Nat × List ByteArray × List DvT × Int × Int × Int × List Int) := Nat.rec (fun _ _ _ _ _ _ _ _ _ _ _ => none) (fun _ r => qbO k r) n
def qdy (k : Nat) (rec : Nat → Nat → Int → Int → List Int → List Int → Option (Nat × List Int × List Int)) (s : Nat) (l : Nat) (x : Int) (x1 : Int) (ss : List Int) (ls : List Int) : Option (Nat × List Int × List Int) :=
 if ((decide (x1 < x)) = true) then
 Option.bind (qa1 k s x1 ss) fun r3 =>
 Option.bind (qa1 k s (0 : Int) r3.2) fun r4 =>
 if ((r3.1 != r4.1) = true) then
 if (l ≤ (List.length ls)) then
 if (((l + (List.length (List.take 1 (x1 :: [])))) * 8) ≤ 140737488355328) then
 rec s (l + (List.length (List.take 1 (x1 :: [])))) x (IntKind.wrap .i64 (x1 + (1 : Int))) r4.2 ((List.take l ls) ++ (List.take 1 (x1 :: [])))
 else
 none
 else
 none
 else
 rec s l x (IntKind.wrap .i64 (x1 + (1 : Int))) r4.2 ls
 else
 (some (l, ss, ls))
def qb5 (k n : Nat) : Nat → Nat → Int → Int → List Int → List Int → Option (Nat × List Int × List Int) := Nat.rec (fun _ _ _ _ _ _ => none) (fun _ r => qdy k r) n
def qeG (k : Nat) (f0 : List ByteArray) (f1 : List DvT) (f2 : Int) (f3 : Int) (f4 : Int) (mode : Int) : Option (Nat × Int × List Int) :=
 Option.bind (qd3 k f0 f1 f2 f3 f4 mode) fun r =>
 if ((r != (0 : Int)) = true) then
 (some (0, r, []))
 else
 Option.bind (qeb k (((List.length f0) : Nat) : Int)) fun r1 =>
 if ((mode == (2 : Int)) = true) then
 Option.bind (qbD k k r1.1 ((ByteArray.mk (List.toArray (114 :: (108 :: (118 :: (101 :: (104 :: (116 :: (100 :: (115 :: [])))))))))) ++ (ByteArray.mk (List.toArray (99 :: [])))) f1 (((List.length f1) : Nat) : Int) (0 : Int) f0 f1 f2 f3 f4 r1.2) fun r2 =>
 Option.bind (qb5 k k r2.1 0 (((List.length r2.2.1) : Nat) : Int) (0 : Int) r2.2.2.2.2.2.2 []) fun r3 =>
 (some (r3.1, (0 : Int), r3.2.2))
 else
 Option.bind (qbD k k r1.1 (ByteArray.mk (List.toArray (114 :: (108 :: (118 :: (101 :: (104 :: (116 :: (100 :: (115 :: [])))))))))) f1 (((List.length f1) : Nat) : Int) (0 : Int) f0 f1 f2 f3 f4 r1.2) fun r2 =>
 Option.bind (qb5 k k r2.1 0 (((List.length r2.2.1) : Nat) : Int) (0 : Int) r2.2.2.2.2.2.2 []) fun r3 =>
 (some (r3.1, (0 : Int), r3.2.2))
def qax : Nat → List ByteArray → List DvT → Int → Int → Int → Int → Option (Nat × Int × List Int)
 | 0, _, _, _, _, _, _ => none
 | k + 1, f0, f1, f2, f3, f4, mode => qeG k f0 f1 f2 f3 f4 mode
def qza : Nat → Inst := mkI 16 ⟨[.g [.lf (.sl .str), .lf (.sl qG), .lf (.int .i64), .lf (.int .i64), .lf (.int .i64)], vI], []⟩ [⟨[.a (.smz 0), vI], [.arr (.int .i64) 1 3 false]⟩] fun k x => qax k x.1 x.2.1 x.2.2.1 x.2.2.2.1 x.2.2.2.2.1 x.2.2.2.2.2
def qoz (k : Nat) := ac (qsC k) (ac (qsD k) (ac (qsh k) (ac (qfO k) (ac (qfN k) a0))))
def qvM (k : Nat) : LInst := mkL 0 [⟨[(2, .a (.ptr 0 0 0)), (7, .a (.smz 1)), (8, vS), (28, .a (.lf (.sl qG))), (29, vI), (30, vI)], [(0, some (.raw [[.lf (.sl .str), .lf (.sl qG), .lf (.int .i64), .lf (.int .i64), .lf (.int .i64)]] 5 27 true false false)), (1, some (.arr (.int .i64) 1 3 false))], 2⟩] [⟨some 0, ⟨[(2, .a (.ptr 0 0 0)), (7, .a (.smz 1))], [(0, some (.raw [[.lf (.sl .str), .lf (.sl qG), .lf (.int .i64), .lf (.int .i64), .lf (.int .i64)]] 5 27 true false false)), (1, some (.arr (.int .i64) 1 3 false))], 2⟩⟩] (fun n x => qbD k n x.1 x.2.1 x.2.2.1 x.2.2.2.1 x.2.2.2.2.1 x.2.2.2.2.2.1 x.2.2.2.2.2.2.1 x.2.2.2.2.2.2.2.1 x.2.2.2.2.2.2.2.2.1 x.2.2.2.2.2.2.2.2.2.1 x.2.2.2.2.2.2.2.2.2.2) k
theorem qpV (k : Nat) : LIo 16 Tryz.f16 0 k (qvM k) :=
 lpk [] (qoz k) l0 (fun _ => rfl) (by kernel_rfl) fun n x => by kernel_rfl
def qvN (k : Nat) : LInst := mkL 2 [⟨[(7, .a (.smz 0)), (11, .a (.smz 1)), (66, vI), (67, vI)], [(0, some (.arr (.int .i64) 1 3 false)), (1, some (.arr (.int .i64) 1 3 false))], 2⟩] [⟨some 2, ⟨[(11, .a (.smz 1))], [(0, some (.arr (.int .i64) 1 3 false)), (1, some (.arr (.int .i64) 1 3 false))], 2⟩⟩] (fun n x => qb5 k n x.1 x.2.1 x.2.2.1 x.2.2.2.1 x.2.2.2.2.1 x.2.2.2.2.2) k
theorem qvO (k : Nat) : LIo 16 Tryz.f16 0 k (qvN k) :=
 lpk [] (qoz k) (lc (qpV k) l0) (fun _ => rfl) (by kernel_rfl) fun n x => by kernel_rfl
theorem qoA : ∀ k, qh (call cf k) (qza k) :=
 fnk 0 [0, 2] Tryz.func16 (fun k => (qoz k)) (fun k => (lc (qpV k) (lc (qvO k) l0))) ⟨rfl, rfl, ⟨rfl, Nat.le_of_ble_eq_true rfl⟩, rfl⟩ (fun _ => rfl) (by kernel_rfl) fun k x => by kernel_rfl

def qb6 (k : Nat) (rec : Int → Nat → Nat → List DvT → Int → Int → List Int → List Int → Option (Nat × List Int × List Int)) (mode : Int) (s : Nat) (l : Nat) (x : List DvT) (x1 : Int) (x2 : Int) (ss : List Int) (ls : List Int) : Option (Nat × List Int × List Int) :=
 if ((decide (x2 < x1)) = true) then
 if ((0 : Int) ≤ x2) then
 Option.bind (x)[(Int.toNat x2)]? fun x3 =>
 if ((x3.1 == (118 : Int)) = false) then
 if ((x3.1 == (108 : Int)) = true) then
 if ((mode == (1 : Int)) = true) then
 Option.bind (x3.2.2.1)[0]? fun x4 =>
 Option.bind (x3.2.2.1)[1]? fun x5 =>
 Option.bind (qY k s x4 x5 ss) fun r3 =>
 if ((!r3.1) = true) then
 if (l ≤ (List.length ls)) then
 if (((l + (List.length (List.take 1 (x2 :: [])))) * 8) ≤ 140737488355328) then
 rec mode s (l + (List.length (List.take 1 (x2 :: [])))) x x1 (IntKind.wrap .i64 (x2 + (1 : Int))) r3.2 ((List.take l ls) ++ (List.take 1 (x2 :: [])))
 else
 none
 else
 none
 else
 rec mode s l x x1 (IntKind.wrap .i64 (x2 + (1 : Int))) r3.2 ls
 else
 rec mode s l x x1 (IntKind.wrap .i64 (x2 + (1 : Int))) ss ls
 else
 rec mode s l x x1 (IntKind.wrap .i64 (x2 + (1 : Int))) ss ls
 else
 Option.bind (x3.2.2.1)[0]? fun x4 =>
 Option.bind (x3.2.2.1)[1]? fun x5 =>
 Option.bind (qY k s x4 x5 ss) fun r3 =>
 if ((!r3.1) = true) then
 if (l ≤ (List.length ls)) then
 if (((l + (List.length (List.take 1 (x2 :: [])))) * 8) ≤ 140737488355328) then
 rec mode s (l + (List.length (List.take 1 (x2 :: [])))) x x1 (IntKind.wrap .i64 (x2 + (1 : Int))) r3.2 ((List.take l ls) ++ (List.take 1 (x2 :: [])))
 else
 none
 else
 none
 else
 rec mode s l x x1 (IntKind.wrap .i64 (x2 + (1 : Int))) r3.2 ls
 else
 none
 else
 (some (l, ss, ls))
def qa9 (k n : Nat) : Int → Nat → Nat → List DvT → Int → Int → List Int → List Int → Option (Nat × List Int × List Int) := Nat.rec (fun _ _ _ _ _ _ _ _ => none) (fun _ r => qb6 k r) n
def qfk (k : Nat) (f0 : List ByteArray) (f1 : List DvT) (f2 : Int) (f3 : Int) (f4 : Int) (mode : Int) : Option (Nat × Int × List Int) :=
 Option.bind (qd3 k f0 f1 f2 f3 f4 mode) fun r1 =>
 if ((r1 != (0 : Int)) = true) then
 (some (0, r1, []))
 else
 Option.bind (qeb k (((List.length f0) : Nat) : Int)) fun r2 =>
 Option.bind (qa9 k k mode r2.1 0 f1 (((List.length f1) : Nat) : Int) (0 : Int) r2.2 []) fun r3 =>
 (some (r3.1, (0 : Int), r3.2.2))
def qak : Nat → List ByteArray → List DvT → Int → Int → Int → Int → Option (Nat × Int × List Int)
 | 0, _, _, _, _, _, _ => none
 | k + 1, f0, f1, f2, f3, f4, mode => qfk k f0 f1 f2 f3 f4 mode
def qzb : Nat → Inst := mkI 17 ⟨[.g [.lf (.sl .str), .lf (.sl qG), .lf (.int .i64), .lf (.int .i64), .lf (.int .i64)], vI], []⟩ [⟨[.a (.smz 0), vI], [.arr (.int .i64) 1 3 false]⟩] fun k x => qak k x.1 x.2.1 x.2.2.1 x.2.2.2.1 x.2.2.2.2.1 x.2.2.2.2.2
def qsE (k : Nat) := ac (qsC k) (ac (qsD k) (ac (qfO k) a0))
def qvP (k : Nat) : LInst := mkL 0 [⟨[(1, vI), (7, .a (.smz 0)), (8, .a (.smz 1)), (22, .a (.lf (.sl qG))), (23, vI), (24, vI)], [(0, some (.arr (.int .i64) 1 3 false)), (1, some (.arr (.int .i64) 1 3 false))], 2⟩] [⟨some 0, ⟨[(8, .a (.smz 1))], [(0, some (.arr (.int .i64) 1 3 false)), (1, some (.arr (.int .i64) 1 3 false))], 2⟩⟩] (fun n x => qa9 k n x.1 x.2.1 x.2.2.1 x.2.2.2.1 x.2.2.2.2.1 x.2.2.2.2.2.1 x.2.2.2.2.2.2.1 x.2.2.2.2.2.2.2) k
theorem qvQ (k : Nat) : LIo 17 Tryz.f17 0 k (qvP k) :=
 lpk [] (qsE k) l0 (fun _ => rfl) (by kernel_rfl) fun n x => by kernel_rfl
theorem qoB : ∀ k, qh (call cf k) (qzb k) :=
 fnk 0 [0] Tryz.func17 (fun k => (qsE k)) (fun k => (lc (qvQ k) l0)) ⟨rfl, rfl, ⟨rfl, Nat.le_of_ble_eq_true rfl⟩, rfl⟩ (fun _ => rfl) (by kernel_rfl) fun k x => by kernel_rfl

def qmV (k : Nat) (f0 : List ByteArray) (f1 : List DvT) (f2 : Int) (f3 : Int) (f4 : Int) (mode : Int) : Option (Int) :=
 Option.bind (qax k f0 f1 f2 f3 f4 mode) fun r3 =>
 if ((r3.2.1 != (0 : Int)) = true) then
 (some r3.2.1)
 else
 if ((decide (((r3.1 : Nat) : Int) > (0 : Int))) = true) then
 (some (100 : Int))
 else
 Option.bind (qak k f0 f1 f2 f3 f4 mode) fun r4 =>
 if ((decide (((r4.1 : Nat) : Int) > (0 : Int))) = true) then
 (some (101 : Int))
 else
 (some (0 : Int))
def qgp : Nat → List ByteArray → List DvT → Int → Int → Int → Int → Option (Int)
 | 0, _, _, _, _, _, _ => none
 | k + 1, f0, f1, f2, f3, f4, mode => qmV k f0 f1 f2 f3 f4 mode
def qzc : Nat → Inst := mkI 21 ⟨[.g [.lf (.sl .str), .lf (.sl qG), .lf (.int .i64), .lf (.int .i64), .lf (.int .i64)], vI], []⟩ [⟨[vI], []⟩] fun k x => qgp k x.1 x.2.1 x.2.2.1 x.2.2.2.1 x.2.2.2.2.1 x.2.2.2.2.2
theorem qxz : ∀ k, qh (call cf k) (qzc k) :=
 fnk 0 [] Tryz.func21 (fun k => (ac (qoA k) (ac (qoB k) a0))) (fun k => l0) ⟨rfl, rfl, ⟨rfl, Nat.le_of_ble_eq_true rfl⟩, rfl⟩ (fun _ => rfl) (by kernel_rfl) fun k x => by kernel_rfl

def qiU (k : Nat) : Option (Bool) :=
 Option.bind (qax k (List.take 3 ((ByteArray.mk (List.toArray (48 :: []))) :: ((ByteArray.mk (List.toArray (97 :: []))) :: ((ByteArray.mk (List.toArray (98 :: []))) :: [])))) (List.take 3 (((118 : Int), ((ByteArray.mk (List.toArray (118 :: (49 :: [])))), ((List.take 2 ((1 : Int) :: ((0 : Int) :: []))), ((0 : Int), (((0 : Int), (0 : Int)), (((1 : Int), ((List.take 1 (((1 : Int), (0 : Int)) :: [])), [])), ((ByteArray.mk (List.toArray [])), ((0 : Int), ([], []))))))))) :: (((99 : Int), ((ByteArray.mk (List.toArray (99 :: (49 :: [])))), ((List.take 2 ((2 : Int) :: ((0 : Int) :: []))), ((0 : Int), (((1 : Int), (0 : Int)), (((0 : Int), (([] : List (Int × Int)), ([] : List Int))), ((ByteArray.mk (List.toArray [])), ((0 : Int), (([] : List (Int × Int)), ([] : List (Int × Int))))))))))) :: (((108 : Int), ((ByteArray.mk (List.toArray (108 :: (49 :: [])))), ((List.take 2 ((1 : Int) :: ((0 : Int) :: []))), ((0 : Int), (((1 : Int), (0 : Int)), (((0 : Int), (([] : List (Int × Int)), ([] : List Int))), ((ByteArray.mk (List.toArray [])), ((0 : Int), (([] : List (Int × Int)), ([] : List (Int × Int))))))))))) :: [])))) (1 : Int) (0 : Int) (1 : Int) (1 : Int)) fun r =>
 Option.bind (qak k (List.take 3 ((ByteArray.mk (List.toArray (48 :: []))) :: ((ByteArray.mk (List.toArray (97 :: []))) :: ((ByteArray.mk (List.toArray (98 :: []))) :: [])))) (List.take 3 (((118 : Int), ((ByteArray.mk (List.toArray (118 :: (49 :: [])))), ((List.take 2 ((1 : Int) :: ((0 : Int) :: []))), ((0 : Int), (((0 : Int), (0 : Int)), (((1 : Int), ((List.take 1 (((1 : Int), (0 : Int)) :: [])), [])), ((ByteArray.mk (List.toArray [])), ((0 : Int), ([], []))))))))) :: (((99 : Int), ((ByteArray.mk (List.toArray (99 :: (49 :: [])))), ((List.take 2 ((2 : Int) :: ((0 : Int) :: []))), ((0 : Int), (((1 : Int), (0 : Int)), (((0 : Int), (([] : List (Int × Int)), ([] : List Int))), ((ByteArray.mk (List.toArray [])), ((0 : Int), (([] : List (Int × Int)), ([] : List (Int × Int))))))))))) :: (((108 : Int), ((ByteArray.mk (List.toArray (108 :: (49 :: [])))), ((List.take 2 ((1 : Int) :: ((0 : Int) :: []))), ((0 : Int), (((1 : Int), (0 : Int)), (((0 : Int), (([] : List (Int × Int)), ([] : List Int))), ((ByteArray.mk (List.toArray [])), ((0 : Int), (([] : List (Int × Int)), ([] : List (Int × Int))))))))))) :: [])))) (1 : Int) (0 : Int) (1 : Int) (1 : Int)) fun r1 =>
 Option.bind (qax k (List.take 3 ((ByteArray.mk (List.toArray (48 :: []))) :: ((ByteArray.mk (List.toArray (97 :: []))) :: ((ByteArray.mk (List.toArray (98 :: []))) :: [])))) (List.take 3 (((118 : Int), ((ByteArray.mk (List.toArray (118 :: (49 :: [])))), ((List.take 2 ((1 : Int) :: ((0 : Int) :: []))), ((0 : Int), (((0 : Int), (0 : Int)), (((1 : Int), ((List.take 1 (((1 : Int), (0 : Int)) :: [])), [])), ((ByteArray.mk (List.toArray [])), ((0 : Int), ([], []))))))))) :: (((99 : Int), ((ByteArray.mk (List.toArray (99 :: (49 :: [])))), ((List.take 2 ((2 : Int) :: ((0 : Int) :: []))), ((0 : Int), (((1 : Int), (0 : Int)), (((0 : Int), (([] : List (Int × Int)), ([] : List Int))), ((ByteArray.mk (List.toArray [])), ((0 : Int), (([] : List (Int × Int)), ([] : List (Int × Int))))))))))) :: (((108 : Int), ((ByteArray.mk (List.toArray (108 :: (49 :: [])))), ((List.take 2 ((1 : Int) :: ((0 : Int) :: []))), ((0 : Int), (((1 : Int), (0 : Int)), (((0 : Int), (([] : List (Int × Int)), ([] : List Int))), ((ByteArray.mk (List.toArray [])), ((0 : Int), (([] : List (Int × Int)), ([] : List (Int × Int))))))))))) :: [])))) (1 : Int) (0 : Int) (1 : Int) (2 : Int)) fun r2 =>
 if ((r.2.1 == (0 : Int)) = true) then
 if ((r1.2.1 == (0 : Int)) = true) then
 if ((r2.2.1 == (0 : Int)) = true) then
 if ((((r.1 : Nat) : Int) == (1 : Int)) = true) then
 if (((0 : Int) ≤ (0 : Int)) ∧ ((0 : Int) < ((r.1 : Nat) : Int))) then
 Option.bind (r.2.2)[0]? fun x =>
 if ((x == (2 : Int)) = true) then
 if ((((r1.1 : Nat) : Int) == (1 : Int)) = true) then
 if (((0 : Int) ≤ (0 : Int)) ∧ ((0 : Int) < ((r1.1 : Nat) : Int))) then
 Option.bind (r1.2.2)[0]? fun x1 =>
 if ((x1 == (2 : Int)) = true) then
 if ((((r2.1 : Nat) : Int) == (0 : Int)) = true) then
 Option.bind (qgp k (List.take 3 ((ByteArray.mk (List.toArray (48 :: []))) :: ((ByteArray.mk (List.toArray (97 :: []))) :: ((ByteArray.mk (List.toArray (98 :: []))) :: [])))) (List.take 3 (((118 : Int), ((ByteArray.mk (List.toArray (118 :: (49 :: [])))), ((List.take 2 ((1 : Int) :: ((0 : Int) :: []))), ((0 : Int), (((0 : Int), (0 : Int)), (((1 : Int), ((List.take 1 (((1 : Int), (0 : Int)) :: [])), [])), ((ByteArray.mk (List.toArray [])), ((0 : Int), ([], []))))))))) :: (((99 : Int), ((ByteArray.mk (List.toArray (99 :: (49 :: [])))), ((List.take 2 ((2 : Int) :: ((0 : Int) :: []))), ((0 : Int), (((1 : Int), (0 : Int)), (((0 : Int), (([] : List (Int × Int)), ([] : List Int))), ((ByteArray.mk (List.toArray [])), ((0 : Int), (([] : List (Int × Int)), ([] : List (Int × Int))))))))))) :: (((108 : Int), ((ByteArray.mk (List.toArray (108 :: (49 :: [])))), ((List.take 2 ((1 : Int) :: ((0 : Int) :: []))), ((0 : Int), (((1 : Int), (0 : Int)), (((0 : Int), (([] : List (Int × Int)), ([] : List Int))), ((ByteArray.mk (List.toArray [])), ((0 : Int), (([] : List (Int × Int)), ([] : List (Int × Int))))))))))) :: [])))) (1 : Int) (0 : Int) (1 : Int) (1 : Int)) fun r3 =>
 if ((r3 == (100 : Int)) = true) then
 Option.bind (qgp k (List.take 3 ((ByteArray.mk (List.toArray (48 :: []))) :: ((ByteArray.mk (List.toArray (97 :: []))) :: ((ByteArray.mk (List.toArray (98 :: []))) :: [])))) (List.take 3 (((118 : Int), ((ByteArray.mk (List.toArray (118 :: (49 :: [])))), ((List.take 2 ((1 : Int) :: ((0 : Int) :: []))), ((0 : Int), (((0 : Int), (0 : Int)), (((1 : Int), ((List.take 1 (((1 : Int), (0 : Int)) :: [])), [])), ((ByteArray.mk (List.toArray [])), ((0 : Int), ([], []))))))))) :: (((99 : Int), ((ByteArray.mk (List.toArray (99 :: (49 :: [])))), ((List.take 2 ((2 : Int) :: ((0 : Int) :: []))), ((0 : Int), (((1 : Int), (0 : Int)), (((0 : Int), (([] : List (Int × Int)), ([] : List Int))), ((ByteArray.mk (List.toArray [])), ((0 : Int), (([] : List (Int × Int)), ([] : List (Int × Int))))))))))) :: (((108 : Int), ((ByteArray.mk (List.toArray (108 :: (49 :: [])))), ((List.take 2 ((1 : Int) :: ((0 : Int) :: []))), ((0 : Int), (((1 : Int), (0 : Int)), (((0 : Int), (([] : List (Int × Int)), ([] : List Int))), ((ByteArray.mk (List.toArray [])), ((0 : Int), (([] : List (Int × Int)), ([] : List (Int × Int))))))))))) :: [])))) (1 : Int) (0 : Int) (1 : Int) (2 : Int)) fun r4 =>
 if ((r4 == (0 : Int)) = true) then
 Option.bind (qgp k (List.take 3 ((ByteArray.mk (List.toArray (48 :: []))) :: ((ByteArray.mk (List.toArray (97 :: []))) :: ((ByteArray.mk (List.toArray (98 :: []))) :: [])))) (List.take 3 (((118 : Int), ((ByteArray.mk (List.toArray (118 :: (49 :: [])))), ((List.take 2 ((1 : Int) :: ((0 : Int) :: []))), ((0 : Int), (((0 : Int), (0 : Int)), (((1 : Int), ((List.take 1 (((1 : Int), (0 : Int)) :: [])), [])), ((ByteArray.mk (List.toArray [])), ((0 : Int), ([], []))))))))) :: (((99 : Int), ((ByteArray.mk (List.toArray (99 :: (49 :: [])))), ((List.take 2 ((2 : Int) :: ((0 : Int) :: []))), ((0 : Int), (((1 : Int), (0 : Int)), (((0 : Int), (([] : List (Int × Int)), ([] : List Int))), ((ByteArray.mk (List.toArray [])), ((0 : Int), (([] : List (Int × Int)), ([] : List (Int × Int))))))))))) :: (((108 : Int), ((ByteArray.mk (List.toArray (108 :: (49 :: [])))), ((List.take 2 ((1 : Int) :: ((0 : Int) :: []))), ((0 : Int), (((1 : Int), (0 : Int)), (((0 : Int), (([] : List (Int × Int)), ([] : List Int))), ((ByteArray.mk (List.toArray [])), ((0 : Int), (([] : List (Int × Int)), ([] : List (Int × Int))))))))))) :: [])))) (1 : Int) (0 : Int) (1 : Int) (3 : Int)) fun r5 =>
 (some (r5 == (110 : Int)))
 else
 (some false)
 else
 (some false)
 else
 (some false)
 else
 (some false)
 else
 none
 else
 (some false)
 else
 (some false)
 else
 none
 else
 (some false)
 else
 (some false)
 else
 (some false)
 else
 (some false)
def qfa : Nat → Option (Bool)
 | 0 => none
 | k + 1 => qiU k
def qzd : Nat → Inst := mkI 13 ⟨[], []⟩ [⟨[vB], []⟩] fun k x => qfa k
theorem qxA : ∀ k, qh (call cf k) (qzd k) :=
 fnk 0 [] Tryz.func13 (fun k => (ac (qoA k) (ac (qoB k) (ac (qxz k) a0)))) (fun k => l0) ⟨rfl, rfl, ⟨rfl, Nat.le_of_ble_eq_true rfl⟩, rfl⟩ (fun _ => rfl) (by kernel_rfl) fun k x => by kernel_rfl

def qa2 (k : Nat) (rec : Int → Int → List ByteArray → List DvT → Int → Int → Int → Option (Int × List ByteArray × List DvT × Int × Int × Int)) (n : Int) (i : Int) (f0 : List ByteArray) (f1 : List DvT) (f2 : Int) (f3 : Int) (f4 : Int) : Option (Int × List ByteArray × List DvT × Int × Int × Int) :=
 if ((decide (i < (((List.length f1) : Nat) : Int))) = true) then
 if ((decide (n < (2000 : Int))) = true) then
 if ((0 : Int) ≤ i) then
 Option.bind (f1)[(Int.toNat i)]? fun x =>
 rec (IntKind.wrap .i64 (n + (IntKind.wrap .i64 ((IntKind.wrap .i64 ((IntKind.wrap .i64 ((IntKind.wrap .i64 ((IntKind.wrap .i64 ((1 : Int) + (min (2000 : Int) (((List.length x.2.2.1) : Nat) : Int)))) + (min (2000 : Int) (((List.length x.2.2.2.2.2.1.2.1) : Nat) : Int)))) + (min (2000 : Int) (((List.length x.2.2.2.2.2.1.2.2) : Nat) : Int)))) + (min (2000 : Int) (((List.length x.2.2.2.2.2.2.2.2.1) : Nat) : Int)))) + (min (2000 : Int) (((List.length x.2.2.2.2.2.2.2.2.2) : Nat) : Int)))))) (IntKind.wrap .i64 (i + (1 : Int))) f0 f1 f2 f3 f4
 else
 none
 else
 (some (n, f0, f1, f2, f3, f4))
 else
 (some (n, f0, f1, f2, f3, f4))
def qaj (k n : Nat) : Int → Int → List ByteArray → List DvT → Int → Int → Int → Option (Int × List ByteArray × List DvT × Int × Int × Int) := Nat.rec (fun _ _ _ _ _ _ _ => none) (fun _ r => qa2 k r) n
def qfb (k : Nat) (f0 : List ByteArray) (f1 : List DvT) (f2 : Int) (f3 : Int) (f4 : Int) : Option (Bool) :=
 Option.bind (qaj k k (((List.length f0) : Nat) : Int) (0 : Int) f0 f1 f2 f3 f4) fun r1 =>
 (some (decide (r1.1 ≥ (2000 : Int))))
def qdE : Nat → List ByteArray → List DvT → Int → Int → Int → Option (Bool)
 | 0, _, _, _, _, _ => none
 | k + 1, f0, f1, f2, f3, f4 => qfb k f0 f1 f2 f3 f4
def qze : Nat → Inst := mkI 14 ⟨[.g [.lf (.sl .str), .lf (.sl qG), .lf (.int .i64), .lf (.int .i64), .lf (.int .i64)]], []⟩ [⟨[vB], []⟩] fun k x => qdE k x.1 x.2.1 x.2.2.1 x.2.2.2.1 x.2.2.2.2
def qvR (k : Nat) : LInst := mkL 0 [⟨[(1, .a (.ptr 0 0 0)), (3, vI), (4, vI)], [(0, some (.raw [[.lf (.sl .str), .lf (.sl qG), .lf (.int .i64), .lf (.int .i64), .lf (.int .i64)]] 5 27 true false false))], 1⟩] [⟨some 0, ⟨[(3, vI)], [(0, some (.raw [[.lf (.sl .str), .lf (.sl qG), .lf (.int .i64), .lf (.int .i64), .lf (.int .i64)]] 5 27 true false false))], 1⟩⟩] (fun n x => qaj k n x.1 x.2.1 x.2.2.1 x.2.2.2.1 x.2.2.2.2.1 x.2.2.2.2.2.1 x.2.2.2.2.2.2) k
theorem qvS (k : Nat) : LIo 14 Tryz.f14 0 k (qvR k) :=
 lpk [] a0 l0 (fun _ => rfl) (by kernel_rfl) fun n x => by kernel_rfl
theorem qxB : ∀ k, qh (call cf k) (qze k) :=
 fnk 0 [0] Tryz.func14 (fun k => a0) (fun k => (lc (qvS k) l0)) ⟨rfl, rfl, ⟨rfl, Nat.le_of_ble_eq_true rfl⟩, rfl⟩ (fun _ => rfl) (by kernel_rfl) fun k x => by kernel_rfl

def qbR (k : Nat) (rec : Int → List ByteArray → List DvT → Int → Int → Int → Nat → Nat → Int → Int → Int → Nat → Nat → Int → Int → Int → List ByteArray → List DvT → List ByteArray → List DvT → Option (List ByteArray × List DvT × Int × Int × Int × Nat × Nat × Int × Int × Int × Nat × Nat × Int × Int × Int × List ByteArray × List DvT × List ByteArray × List DvT)) (i : Int) (f0 : List ByteArray) (f1 : List DvT) (f2 : Int) (f3 : Int) (f4 : Int) (x0 : Nat) (x1 : Nat) (x2 : Int) (x3 : Int) (x4 : Int) (out0 : Nat) (out1 : Nat) (out2 : Int) (out3 : Int) (out4 : Int) (m : List ByteArray) (m1 : List DvT) (m2 : List ByteArray) (m3 : List DvT) : Option (List ByteArray × List DvT × Int × Int × Int × Nat × Nat × Int × Int × Int × Nat × Nat × Int × Int × Int × List ByteArray × List DvT × List ByteArray × List DvT) :=
 if ((decide (i < (((List.length f1) : Nat) : Int))) = true) then
 if ((0 : Int) ≤ i) then
 Option.bind (f1)[(Int.toNat i)]? fun x =>
 if (((0 + (List.length x.2.2.1)) * 8) ≤ 140737488355328) then
 if (((0 + (List.length x.2.2.2.2.2.1.2.1)) * 16) ≤ 140737488355328) then
 if (((0 + (List.length x.2.2.2.2.2.1.2.2)) * 8) ≤ 140737488355328) then
 if (((0 + (List.length x.2.2.2.2.2.2.2.2.1)) * 16) ≤ 140737488355328) then
 if (((0 + (List.length x.2.2.2.2.2.2.2.2.2)) * 16) ≤ 140737488355328) then
 if ((0 + (0 + (List.length x.2.2.1))) ≤ (List.length ((List.take 0 []) ++ x.2.2.1))) then
 if ((0 + (0 + (List.length x.2.2.2.2.2.1.2.1))) ≤ (List.length ((List.take 0 []) ++ x.2.2.2.2.2.1.2.1))) then
 if ((0 + (0 + (List.length x.2.2.2.2.2.1.2.2))) ≤ (List.length ((List.take 0 []) ++ x.2.2.2.2.2.1.2.2))) then
 if ((0 + (0 + (List.length x.2.2.2.2.2.2.2.2.1))) ≤ (List.length ((List.take 0 []) ++ x.2.2.2.2.2.2.2.2.1))) then
 if ((0 + (0 + (List.length x.2.2.2.2.2.2.2.2.2))) ≤ (List.length ((List.take 0 []) ++ x.2.2.2.2.2.2.2.2.2))) then
 if (out1 ≤ (List.length m3)) then
 if (((out1 + (List.length (List.take 1 ((x.1, (x.2.1, ((List.take (0 + (List.length x.2.2.1)) ((List.take 0 []) ++ x.2.2.1)), (x.2.2.2.1, ((x.2.2.2.2.1.1, x.2.2.2.2.1.2), ((x.2.2.2.2.2.1.1, ((List.take (0 + (List.length x.2.2.2.2.2.1.2.1)) ((List.take 0 []) ++ x.2.2.2.2.2.1.2.1)), (List.take (0 + (List.length x.2.2.2.2.2.1.2.2)) ((List.take 0 []) ++ x.2.2.2.2.2.1.2.2)))), (x.2.2.2.2.2.2.1, (x.2.2.2.2.2.2.2.1, ((List.take (0 + (List.length x.2.2.2.2.2.2.2.2.1)) ((List.take 0 []) ++ x.2.2.2.2.2.2.2.2.1)), (List.take (0 + (List.length x.2.2.2.2.2.2.2.2.2)) ((List.take 0 []) ++ x.2.2.2.2.2.2.2.2.2))))))))))) :: [])))) * 200) ≤ 140737488355328) then
 rec (IntKind.wrap .i64 (i + (1 : Int))) f0 f1 f2 f3 f4 x0 x1 x2 x3 x4 out0 (out1 + (List.length (List.take 1 ((x.1, (x.2.1, ((List.take (0 + (List.length x.2.2.1)) ((List.take 0 []) ++ x.2.2.1)), (x.2.2.2.1, ((x.2.2.2.2.1.1, x.2.2.2.2.1.2), ((x.2.2.2.2.2.1.1, ((List.take (0 + (List.length x.2.2.2.2.2.1.2.1)) ((List.take 0 []) ++ x.2.2.2.2.2.1.2.1)), (List.take (0 + (List.length x.2.2.2.2.2.1.2.2)) ((List.take 0 []) ++ x.2.2.2.2.2.1.2.2)))), (x.2.2.2.2.2.2.1, (x.2.2.2.2.2.2.2.1, ((List.take (0 + (List.length x.2.2.2.2.2.2.2.2.1)) ((List.take 0 []) ++ x.2.2.2.2.2.2.2.2.1)), (List.take (0 + (List.length x.2.2.2.2.2.2.2.2.2)) ((List.take 0 []) ++ x.2.2.2.2.2.2.2.2.2))))))))))) :: [])))) out2 out3 out4 m m1 m2 ((List.take out1 m3) ++ (List.take 1 ((x.1, (x.2.1, ((List.take (0 + (List.length x.2.2.1)) ((List.take 0 []) ++ x.2.2.1)), (x.2.2.2.1, ((x.2.2.2.2.1.1, x.2.2.2.2.1.2), ((x.2.2.2.2.2.1.1, ((List.take (0 + (List.length x.2.2.2.2.2.1.2.1)) ((List.take 0 []) ++ x.2.2.2.2.2.1.2.1)), (List.take (0 + (List.length x.2.2.2.2.2.1.2.2)) ((List.take 0 []) ++ x.2.2.2.2.2.1.2.2)))), (x.2.2.2.2.2.2.1, (x.2.2.2.2.2.2.2.1, ((List.take (0 + (List.length x.2.2.2.2.2.2.2.2.1)) ((List.take 0 []) ++ x.2.2.2.2.2.2.2.2.1)), (List.take (0 + (List.length x.2.2.2.2.2.2.2.2.2)) ((List.take 0 []) ++ x.2.2.2.2.2.2.2.2.2))))))))))) :: [])))
 else
 none
 else
 none
 else
 none
 else
 none
 else
 none
 else
 none
 else
 none
 else
 none
 else
 none
 else
 none
 else
 none
 else
 none
 else
 none
 else
 (some (f0, f1, f2, f3, f4, x0, x1, x2, x3, x4, out0, out1, out2, out3, out4, m, m1, m2, m3))
def qbw (k n : Nat) : Int → List ByteArray → List DvT → Int → Int → Int → Nat → Nat → Int → Int → Int → Nat → Nat → Int → Int → Int → List ByteArray → List DvT → List ByteArray → List DvT → Option (List ByteArray × List DvT × Int × Int × Int × Nat × Nat × Int × Int × Int × Nat × Nat × Int × Int × Int × List ByteArray × List DvT × List ByteArray × List DvT) := Nat.rec (fun _ _ _ _ _ _ _ _ _ _ _ _ _ _ _ _ _ _ _ _ => none) (fun _ r => qbR k r) n
def qfF (k : Nat) (f0 : List ByteArray) (f1 : List DvT) (f2 : Int) (f3 : Int) (f4 : Int) : Option (Nat × Nat × Int × Int × Int × List ByteArray × List DvT) :=
 if (((0 + (List.length f0)) * 16) ≤ 140737488355328) then
 Option.bind (qbw k k (0 : Int) f0 f1 f2 f3 f4 0 0 (0 : Int) (0 : Int) (0 : Int) (0 + (List.length f0)) 0 f2 f3 f4 [] [] ((List.take 0 []) ++ f0) []) fun r2 =>
 (some (r2.2.2.2.2.2.2.2.2.2.2.1, r2.2.2.2.2.2.2.2.2.2.2.2.1, r2.2.2.2.2.2.2.2.2.2.2.2.2.1, r2.2.2.2.2.2.2.2.2.2.2.2.2.2.1, r2.2.2.2.2.2.2.2.2.2.2.2.2.2.2.1, r2.2.2.2.2.2.2.2.2.2.2.2.2.2.2.2.2.2.1, r2.2.2.2.2.2.2.2.2.2.2.2.2.2.2.2.2.2.2))
 else
 none
def qdm : Nat → List ByteArray → List DvT → Int → Int → Int → Option (Nat × Nat × Int × Int × Int × List ByteArray × List DvT)
 | 0, _, _, _, _, _ => none
 | k + 1, f0, f1, f2, f3, f4 => qfF k f0 f1 f2 f3 f4
def qzf : Nat → Inst := mkI 15 ⟨[.g [.lf (.sl .str), .lf (.sl qG), .lf (.int .i64), .lf (.int .i64), .lf (.int .i64)]], []⟩ [⟨[.g [.smz 0, .smz 1, .lf (.int .i64), .lf (.int .i64), .lf (.int .i64)]], [.arr .str 1 9 false, .arr qG 13 48 false]⟩] fun k x => qdm k x.1 x.2.1 x.2.2.1 x.2.2.2.1 x.2.2.2.2
def qvT (k : Nat) : LInst := mkL 0 [⟨[(1, .a (.ptr 0 0 0)), (2, .a (.ptr 1 0 0)), (3, .a (.ptr 2 0 0)), (4, vI)], [(0, some (.raw [[.lf (.sl .str), .lf (.sl qG), .lf (.int .i64), .lf (.int .i64), .lf (.int .i64)]] 5 27 true false false)), (1, some (.raw [[.smz 3, .smz 4, .lf (.int .i64), .lf (.int .i64), .lf (.int .i64)]] 5 27 false false false)), (2, some (.raw [[.smz 5, .smz 6, .lf (.int .i64), .lf (.int .i64), .lf (.int .i64)]] 5 27 false false false)), (3, some (.arr .str 1 9 false)), (4, some (.arr qG 13 48 false)), (5, some (.arr .str 1 9 false)), (6, some (.arr qG 13 48 false))], 7⟩] [⟨some 0, ⟨[(2, .a (.ptr 1 0 0)), (3, .a (.ptr 2 0 0))], [(0, some (.raw [[.lf (.sl .str), .lf (.sl qG), .lf (.int .i64), .lf (.int .i64), .lf (.int .i64)]] 5 27 true false false)), (1, some (.raw [[.smz 3, .smz 4, .lf (.int .i64), .lf (.int .i64), .lf (.int .i64)]] 5 27 false false false)), (2, some (.raw [[.smz 5, .smz 6, .lf (.int .i64), .lf (.int .i64), .lf (.int .i64)]] 5 27 false false false)), (3, some (.arr .str 1 9 false)), (4, some (.arr qG 13 48 false)), (5, some (.arr .str 1 9 false)), (6, some (.arr qG 13 48 false))], 7⟩⟩] (fun n x => qbw k n x.1 x.2.1 x.2.2.1 x.2.2.2.1 x.2.2.2.2.1 x.2.2.2.2.2.1 x.2.2.2.2.2.2.1 x.2.2.2.2.2.2.2.1 x.2.2.2.2.2.2.2.2.1 x.2.2.2.2.2.2.2.2.2.1 x.2.2.2.2.2.2.2.2.2.2.1 x.2.2.2.2.2.2.2.2.2.2.2.1 x.2.2.2.2.2.2.2.2.2.2.2.2.1 x.2.2.2.2.2.2.2.2.2.2.2.2.2.1 x.2.2.2.2.2.2.2.2.2.2.2.2.2.2.1 x.2.2.2.2.2.2.2.2.2.2.2.2.2.2.2.1 x.2.2.2.2.2.2.2.2.2.2.2.2.2.2.2.2.1 x.2.2.2.2.2.2.2.2.2.2.2.2.2.2.2.2.2.1 x.2.2.2.2.2.2.2.2.2.2.2.2.2.2.2.2.2.2.1 x.2.2.2.2.2.2.2.2.2.2.2.2.2.2.2.2.2.2.2) k
theorem qvU (k : Nat) : LIo 15 Tryz.f15 0 k (qvT k) :=
 lpk [] a0 l0 (fun _ => rfl) (by kernel_rfl) fun n x => by kernel_rfl
theorem qxC : ∀ k, qh (call cf k) (qzf k) :=
 fnk 0 [0] Tryz.func15 (fun k => a0) (fun k => (lc (qvU k) l0)) ⟨rfl, rfl, ⟨rfl, Nat.le_of_ble_eq_true rfl⟩, rfl⟩ (fun _ => rfl) (by kernel_rfl) fun k x => by kernel_rfl

def qbn (k : Nat) (rec : List Int → List Int → Int → Option ((Bool) ⊕ (Unit))) (a : List Int) (b : List Int) (i : Int) : Option ((Bool) ⊕ (Unit)) :=
 if ((decide (i < (((List.length a) : Nat) : Int))) = true) then
 if ((0 : Int) ≤ i) then
 Option.bind (a)[(Int.toNat i)]? fun x =>
 if ((0 : Int) ≤ i) then
 Option.bind (b)[(Int.toNat i)]? fun x1 =>
 if ((x != x1) = true) then
 (some (Sum.inl false))
 else
 rec a b (IntKind.wrap .i64 (i + (1 : Int)))
 else
 none
 else
 none
 else
 (some (Sum.inr ()))
def qay (k n : Nat) : List Int → List Int → Int → Option ((Bool) ⊕ (Unit)) := Nat.rec (fun _ _ _ => none) (fun _ r => qbn k r) n
def qfG (k : Nat) (a : List Int) (b : List Int) : Option (Bool) :=
 if (((((List.length a) : Nat) : Int) != (((List.length b) : Nat) : Int)) = true) then
 (some false)
 else
 Option.bind (qay k k a b (0 : Int)) fun r7 =>
 qc r7
 (fun r7 =>
 (some r7))
 (fun r7 =>
 (some true))
def qb0 : Nat → List Int → List Int → Option (Bool)
 | 0, _, _ => none
 | k + 1, a, b => qfG k a b
def qzg : Nat → Inst := mkI 20 ⟨[vJ, vJ], []⟩ [⟨[vB], []⟩] fun k x => qb0 k x.1 x.2
def qvV (k : Nat) : LInst := mkL 0 [⟨[(0, vJ), (1, vJ), (5, vI)], [], 0⟩] [⟨none, ⟨[(4, vB)], [], 0⟩⟩, ⟨some 0, ⟨[], [], 0⟩⟩] (fun n x => qay k n x.1 x.2.1 x.2.2) k
theorem qvW (k : Nat) : LIo 20 Tryz.f20 0 k (qvV k) :=
 lpk [] a0 l0 (fun _ => rfl) (by kernel_rfl) fun n x => by kernel_rfl
theorem qxD : ∀ k, qh (call cf k) (qzg k) :=
 fnk 0 [0] Tryz.func20 (fun k => a0) (fun k => (lc (qvW k) l0)) ⟨rfl, rfl, ⟨rfl, Nat.le_of_ble_eq_true rfl⟩, rfl⟩ (fun _ => rfl) (by kernel_rfl) fun k x => by kernel_rfl

def qbF (k : Nat) (rec : Int → Nat → Int → Nat → Int → Int → Nat → Int → Int → List ByteArray → List DvT → Int → Int → Int → List Int → Nat → Nat → Int → Int → Int → List Int → List ByteArray → List DvT → Option (Int × Nat × Int × Nat × Int × Int × Nat × Int × Int × List ByteArray × List DvT × Int × Int × Int × List Int × Nat × Nat × Int × Int × Int × List Int × List ByteArray × List DvT)) (mode : Int) (l : Nat) (n : Int) (m : Nat) (at1 : Int) (x : Int) (x1 : Nat) (x2 : Int) (x3 : Int) (f0 : List ByteArray) (f1 : List DvT) (f2 : Int) (f3 : Int) (f4 : Int) (ls : List Int) (g0 : Nat) (g1 : Nat) (g2 : Int) (g3 : Int) (g4 : Int) (s : List Int) (m1 : List ByteArray) (m2 : List DvT) : Option (Int × Nat × Int × Nat × Int × Int × Nat × Int × Int × List ByteArray × List DvT × Int × Int × Int × List Int × Nat × Nat × Int × Int × Int × List Int × List ByteArray × List DvT) :=
 if ((decide (at1 < ((l : Nat) : Int))) = true) then
 if (((0 : Int) ≤ at1) ∧ (at1 < ((l : Nat) : Int))) then
 Option.bind (ls)[(0 + (Int.toNat at1))]? fun x4 =>
 if ((x4 != x) = true) then
 rec mode l n m (IntKind.wrap .i64 (at1 + (1 : Int))) x x1 x2 x3 f0 f1 f2 f3 f4 ls g0 g1 g2 g3 g4 s m1 m2
 else
 (some (mode, l, n, m, at1, x, x1, x2, x3, f0, f1, f2, f3, f4, ls, g0, g1, g2, g3, g4, s, m1, m2))
 else
 none
 else
 (some (mode, l, n, m, at1, x, x1, x2, x3, f0, f1, f2, f3, f4, ls, g0, g1, g2, g3, g4, s, m1, m2))
def qaz (k n : Nat) : Int → Nat → Int → Nat → Int → Int → Nat → Int → Int → List ByteArray → List DvT → Int → Int → Int → List Int → Nat → Nat → Int → Int → Int → List Int → List ByteArray → List DvT → Option (Int × Nat × Int × Nat × Int × Int × Nat × Int × Int × List ByteArray × List DvT × Int × Int × Int × List Int × Nat × Nat × Int × Int × Int × List Int × List ByteArray × List DvT) := Nat.rec (fun _ _ _ _ _ _ _ _ _ _ _ _ _ _ _ _ _ _ _ _ _ _ _ => none) (fun _ r => qbF k r) n
def qbG (k : Nat) (rec : Int → Nat → Int → Nat → Int → Nat → Int → Int → List ByteArray → List DvT → Int → Int → Int → List Int → Nat → Nat → Int → Int → Int → List Int → List ByteArray → List DvT → Option ((Bool × List ByteArray × List DvT × Int × Int × Int × List Int × Nat × Nat × Int × Int × Int × List Int × List ByteArray × List DvT) ⊕ (Int × Nat × Nat × List ByteArray × List DvT × Int × Int × Int × List Int × Nat × Nat × Int × Int × Int × List Int × List ByteArray × List DvT))) (mode : Int) (l : Nat) (n : Int) (m : Nat) (at1 : Int) (x : Nat) (x1 : Int) (x2 : Int) (f0 : List ByteArray) (f1 : List DvT) (f2 : Int) (f3 : Int) (f4 : Int) (ls : List Int) (g0 : Nat) (g1 : Nat) (g2 : Int) (g3 : Int) (g4 : Int) (s : List Int) (m1 : List ByteArray) (m2 : List DvT) : Option ((Bool × List ByteArray × List DvT × Int × Int × Int × List Int × Nat × Nat × Int × Int × Int × List Int × List ByteArray × List DvT) ⊕ (Int × Nat × Nat × List ByteArray × List DvT × Int × Int × Int × List Int × Nat × Nat × Int × Int × Int × List Int × List ByteArray × List DvT)) :=
 if ((decide (x2 < x1)) = true) then
 if (((0 : Int) ≤ x2) ∧ (x2 < ((x : Nat) : Int))) then
 Option.bind (s)[(0 + (Int.toNat x2))]? fun x3 =>
 Option.bind (qaz k k mode l n m at1 x3 x x1 x2 f0 f1 f2 f3 f4 ls g0 g1 g2 g3 g4 s m1 m2) fun r5 =>
 if ((r5.2.2.2.2.1 == ((r5.2.1 : Nat) : Int)) = false) then
 if ((r5.2.2.2.2.2.1 == r5.2.2.1) = true) then
 (some (Sum.inl (false, r5.2.2.2.2.2.2.2.2.2.1, r5.2.2.2.2.2.2.2.2.2.2.1, r5.2.2.2.2.2.2.2.2.2.2.2.1, r5.2.2.2.2.2.2.2.2.2.2.2.2.1, r5.2.2.2.2.2.2.2.2.2.2.2.2.2.1, r5.2.2.2.2.2.2.2.2.2.2.2.2.2.2.1, r5.2.2.2.2.2.2.2.2.2.2.2.2.2.2.2.1, r5.2.2.2.2.2.2.2.2.2.2.2.2.2.2.2.2.1, r5.2.2.2.2.2.2.2.2.2.2.2.2.2.2.2.2.2.1, r5.2.2.2.2.2.2.2.2.2.2.2.2.2.2.2.2.2.2.1, r5.2.2.2.2.2.2.2.2.2.2.2.2.2.2.2.2.2.2.2.1, r5.2.2.2.2.2.2.2.2.2.2.2.2.2.2.2.2.2.2.2.2.1, r5.2.2.2.2.2.2.2.2.2.2.2.2.2.2.2.2.2.2.2.2.2.1, r5.2.2.2.2.2.2.2.2.2.2.2.2.2.2.2.2.2.2.2.2.2.2)))
 else
 rec r5.1 r5.2.1 r5.2.2.1 r5.2.2.2.1 r5.2.2.2.2.1 r5.2.2.2.2.2.2.1 r5.2.2.2.2.2.2.2.1 (IntKind.wrap .i64 (r5.2.2.2.2.2.2.2.2.1 + (1 : Int))) r5.2.2.2.2.2.2.2.2.2.1 r5.2.2.2.2.2.2.2.2.2.2.1 r5.2.2.2.2.2.2.2.2.2.2.2.1 r5.2.2.2.2.2.2.2.2.2.2.2.2.1 r5.2.2.2.2.2.2.2.2.2.2.2.2.2.1 r5.2.2.2.2.2.2.2.2.2.2.2.2.2.2.1 r5.2.2.2.2.2.2.2.2.2.2.2.2.2.2.2.1 r5.2.2.2.2.2.2.2.2.2.2.2.2.2.2.2.2.1 r5.2.2.2.2.2.2.2.2.2.2.2.2.2.2.2.2.2.1 r5.2.2.2.2.2.2.2.2.2.2.2.2.2.2.2.2.2.2.1 r5.2.2.2.2.2.2.2.2.2.2.2.2.2.2.2.2.2.2.2.1 r5.2.2.2.2.2.2.2.2.2.2.2.2.2.2.2.2.2.2.2.2.1 r5.2.2.2.2.2.2.2.2.2.2.2.2.2.2.2.2.2.2.2.2.2.1 r5.2.2.2.2.2.2.2.2.2.2.2.2.2.2.2.2.2.2.2.2.2.2
 else
 (some (Sum.inl (false, r5.2.2.2.2.2.2.2.2.2.1, r5.2.2.2.2.2.2.2.2.2.2.1, r5.2.2.2.2.2.2.2.2.2.2.2.1, r5.2.2.2.2.2.2.2.2.2.2.2.2.1, r5.2.2.2.2.2.2.2.2.2.2.2.2.2.1, r5.2.2.2.2.2.2.2.2.2.2.2.2.2.2.1, r5.2.2.2.2.2.2.2.2.2.2.2.2.2.2.2.1, r5.2.2.2.2.2.2.2.2.2.2.2.2.2.2.2.2.1, r5.2.2.2.2.2.2.2.2.2.2.2.2.2.2.2.2.2.1, r5.2.2.2.2.2.2.2.2.2.2.2.2.2.2.2.2.2.2.1, r5.2.2.2.2.2.2.2.2.2.2.2.2.2.2.2.2.2.2.2.1, r5.2.2.2.2.2.2.2.2.2.2.2.2.2.2.2.2.2.2.2.2.1, r5.2.2.2.2.2.2.2.2.2.2.2.2.2.2.2.2.2.2.2.2.2.1, r5.2.2.2.2.2.2.2.2.2.2.2.2.2.2.2.2.2.2.2.2.2.2)))
 else
 none
 else
 (some (Sum.inr (mode, l, m, f0, f1, f2, f3, f4, ls, g0, g1, g2, g3, g4, s, m1, m2)))
def qN (k n : Nat) : Int → Nat → Int → Nat → Int → Nat → Int → Int → List ByteArray → List DvT → Int → Int → Int → List Int → Nat → Nat → Int → Int → Int → List Int → List ByteArray → List DvT → Option ((Bool × List ByteArray × List DvT × Int × Int × Int × List Int × Nat × Nat × Int × Int × Int × List Int × List ByteArray × List DvT) ⊕ (Int × Nat × Nat × List ByteArray × List DvT × Int × Int × Int × List Int × Nat × Nat × Int × Int × Int × List Int × List ByteArray × List DvT)) := Nat.rec (fun _ _ _ _ _ _ _ _ _ _ _ _ _ _ _ _ _ _ _ _ _ _ => none) (fun _ r => qbG k r) n
def qd6 (k : Nat) (f0 : List ByteArray) (f1 : List DvT) (f2 : Int) (f3 : Int) (f4 : Int) (mode : Int) (which : Int) : Option (Bool) :=
 Option.bind (qfa k) fun r =>
 if ((!r) = true) then
 (some false)
 else
 Option.bind (qdE k f0 f1 f2 f3 f4) fun r1 =>
 if (r1 = false) then
 if ((decide ((((List.length f1) : Nat) : Int) ≥ (64 : Int))) = true) then
 (some true)
 else
 Option.bind (qax k f0 f1 f2 f3 f4 mode) fun r2 =>
 if ((r2.2.1 != (0 : Int)) = false) then
 if ((((r2.1 : Nat) : Int) == (0 : Int)) = true) then
 (some (((r2.1 : Nat) : Int) == (0 : Int)))
 else
 if ((decide (which < (0 : Int))) = true) then
 if (((r2.1 : Nat) : Int) = (0 : Int)) then
 none
 else
 if (((0 : Int) ≤ (Int.tmod (IntKind.wrap .i64 ((0 : Int) - (IntKind.wrap .i64 (which + (1 : Int))))) ((r2.1 : Nat) : Int))) ∧ ((Int.tmod (IntKind.wrap .i64 ((0 : Int) - (IntKind.wrap .i64 (which + (1 : Int))))) ((r2.1 : Nat) : Int)) < ((r2.1 : Nat) : Int))) then
 Option.bind (r2.2.2)[(0 + (Int.toNat (Int.tmod (IntKind.wrap .i64 ((0 : Int) - (IntKind.wrap .i64 (which + (1 : Int))))) ((r2.1 : Nat) : Int))))]? fun x =>
 Option.bind (qdm k f0 f1 f2 f3 f4) fun r3 =>
 if (r3.2.1 ≤ (List.length r3.2.2.2.2.2.2)) then
 if (((r3.2.1 + (List.length (List.take 1 (((114 : Int), ((ByteArray.mk (List.toArray (116 :: (104 :: (101 :: (95 :: (110 :: (101 :: (119 :: (95 :: (114 :: (101 :: (115 :: (105 :: (115 :: (116 :: (111 :: (114 :: [])))))))))))))))))), ((List.take 2 (x :: ((0 : Int) :: []))), ((0 : Int), (((1 : Int), (0 : Int)), (((0 : Int), (([] : List (Int × Int)), ([] : List Int))), ((ByteArray.mk (List.toArray [])), ((0 : Int), (([] : List (Int × Int)), ([] : List (Int × Int))))))))))) :: [])))) * 200) ≤ 140737488355328) then
 if ((0 + r3.1) ≤ (List.length r3.2.2.2.2.2.1)) then
 if ((0 + (r3.2.1 + (List.length (List.take 1 (((114 : Int), ((ByteArray.mk (List.toArray (116 :: (104 :: (101 :: (95 :: (110 :: (101 :: (119 :: (95 :: (114 :: (101 :: (115 :: (105 :: (115 :: (116 :: (111 :: (114 :: [])))))))))))))))))), ((List.take 2 (x :: ((0 : Int) :: []))), ((0 : Int), (((1 : Int), (0 : Int)), (((0 : Int), (([] : List (Int × Int)), ([] : List Int))), ((ByteArray.mk (List.toArray [])), ((0 : Int), (([] : List (Int × Int)), ([] : List (Int × Int))))))))))) :: []))))) ≤ (List.length ((List.take r3.2.1 r3.2.2.2.2.2.2) ++ (List.take 1 (((114 : Int), ((ByteArray.mk (List.toArray (116 :: (104 :: (101 :: (95 :: (110 :: (101 :: (119 :: (95 :: (114 :: (101 :: (115 :: (105 :: (115 :: (116 :: (111 :: (114 :: [])))))))))))))))))), ((List.take 2 (x :: ((0 : Int) :: []))), ((0 : Int), (((1 : Int), (0 : Int)), (((0 : Int), (([] : List (Int × Int)), ([] : List Int))), ((ByteArray.mk (List.toArray [])), ((0 : Int), (([] : List (Int × Int)), ([] : List (Int × Int))))))))))) :: []))))) then
 Option.bind (qax k (List.take r3.1 r3.2.2.2.2.2.1) (List.take (r3.2.1 + (List.length (List.take 1 (((114 : Int), ((ByteArray.mk (List.toArray (116 :: (104 :: (101 :: (95 :: (110 :: (101 :: (119 :: (95 :: (114 :: (101 :: (115 :: (105 :: (115 :: (116 :: (111 :: (114 :: [])))))))))))))))))), ((List.take 2 (x :: ((0 : Int) :: []))), ((0 : Int), (((1 : Int), (0 : Int)), (((0 : Int), (([] : List (Int × Int)), ([] : List Int))), ((ByteArray.mk (List.toArray [])), ((0 : Int), (([] : List (Int × Int)), ([] : List (Int × Int))))))))))) :: [])))) ((List.take r3.2.1 r3.2.2.2.2.2.2) ++ (List.take 1 (((114 : Int), ((ByteArray.mk (List.toArray (116 :: (104 :: (101 :: (95 :: (110 :: (101 :: (119 :: (95 :: (114 :: (101 :: (115 :: (105 :: (115 :: (116 :: (111 :: (114 :: [])))))))))))))))))), ((List.take 2 (x :: ((0 : Int) :: []))), ((0 : Int), (((1 : Int), (0 : Int)), (((0 : Int), (([] : List (Int × Int)), ([] : List Int))), ((ByteArray.mk (List.toArray [])), ((0 : Int), (([] : List (Int × Int)), ([] : List (Int × Int))))))))))) :: [])))) r3.2.2.1 r3.2.2.2.1 r3.2.2.2.2.1 mode) fun r4 =>
 if ((r4.2.1 != (0 : Int)) = true) then
 if ((0 + r3.1) ≤ (List.length r3.2.2.2.2.2.1)) then
 if ((0 + (r3.2.1 + (List.length (List.take 1 (((114 : Int), ((ByteArray.mk (List.toArray (116 :: (104 :: (101 :: (95 :: (110 :: (101 :: (119 :: (95 :: (114 :: (101 :: (115 :: (105 :: (115 :: (116 :: (111 :: (114 :: [])))))))))))))))))), ((List.take 2 (x :: ((0 : Int) :: []))), ((0 : Int), (((1 : Int), (0 : Int)), (((0 : Int), (([] : List (Int × Int)), ([] : List Int))), ((ByteArray.mk (List.toArray [])), ((0 : Int), (([] : List (Int × Int)), ([] : List (Int × Int))))))))))) :: []))))) ≤ (List.length ((List.take r3.2.1 r3.2.2.2.2.2.2) ++ (List.take 1 (((114 : Int), ((ByteArray.mk (List.toArray (116 :: (104 :: (101 :: (95 :: (110 :: (101 :: (119 :: (95 :: (114 :: (101 :: (115 :: (105 :: (115 :: (116 :: (111 :: (114 :: [])))))))))))))))))), ((List.take 2 (x :: ((0 : Int) :: []))), ((0 : Int), (((1 : Int), (0 : Int)), (((0 : Int), (([] : List (Int × Int)), ([] : List Int))), ((ByteArray.mk (List.toArray [])), ((0 : Int), (([] : List (Int × Int)), ([] : List (Int × Int))))))))))) :: []))))) then
 Option.bind (qbb k (List.take r3.1 r3.2.2.2.2.2.1) (List.take (r3.2.1 + (List.length (List.take 1 (((114 : Int), ((ByteArray.mk (List.toArray (116 :: (104 :: (101 :: (95 :: (110 :: (101 :: (119 :: (95 :: (114 :: (101 :: (115 :: (105 :: (115 :: (116 :: (111 :: (114 :: [])))))))))))))))))), ((List.take 2 (x :: ((0 : Int) :: []))), ((0 : Int), (((1 : Int), (0 : Int)), (((0 : Int), (([] : List (Int × Int)), ([] : List Int))), ((ByteArray.mk (List.toArray [])), ((0 : Int), (([] : List (Int × Int)), ([] : List (Int × Int))))))))))) :: [])))) ((List.take r3.2.1 r3.2.2.2.2.2.2) ++ (List.take 1 (((114 : Int), ((ByteArray.mk (List.toArray (116 :: (104 :: (101 :: (95 :: (110 :: (101 :: (119 :: (95 :: (114 :: (101 :: (115 :: (105 :: (115 :: (116 :: (111 :: (114 :: [])))))))))))))))))), ((List.take 2 (x :: ((0 : Int) :: []))), ((0 : Int), (((1 : Int), (0 : Int)), (((0 : Int), (([] : List (Int × Int)), ([] : List Int))), ((ByteArray.mk (List.toArray [])), ((0 : Int), (([] : List (Int × Int)), ([] : List (Int × Int))))))))))) :: [])))) r3.2.2.1 r3.2.2.2.1 r3.2.2.2.2.1) fun r5 =>
 (some (r5 != (0 : Int)))
 else
 none
 else
 none
 else
 Option.bind (qN k k mode r2.1 x r4.1 (0 : Int) r4.1 ((r4.1 : Nat) : Int) (0 : Int) f0 f1 f2 f3 f4 r2.2.2 r3.1 (r3.2.1 + (List.length (List.take 1 (((114 : Int), ((ByteArray.mk (List.toArray (116 :: (104 :: (101 :: (95 :: (110 :: (101 :: (119 :: (95 :: (114 :: (101 :: (115 :: (105 :: (115 :: (116 :: (111 :: (114 :: [])))))))))))))))))), ((List.take 2 (x :: ((0 : Int) :: []))), ((0 : Int), (((1 : Int), (0 : Int)), (((0 : Int), (([] : List (Int × Int)), ([] : List Int))), ((ByteArray.mk (List.toArray [])), ((0 : Int), (([] : List (Int × Int)), ([] : List (Int × Int))))))))))) :: [])))) r3.2.2.1 r3.2.2.2.1 r3.2.2.2.2.1 r4.2.2 r3.2.2.2.2.2.1 ((List.take r3.2.1 r3.2.2.2.2.2.2) ++ (List.take 1 (((114 : Int), ((ByteArray.mk (List.toArray (116 :: (104 :: (101 :: (95 :: (110 :: (101 :: (119 :: (95 :: (114 :: (101 :: (115 :: (105 :: (115 :: (116 :: (111 :: (114 :: [])))))))))))))))))), ((List.take 2 (x :: ((0 : Int) :: []))), ((0 : Int), (((1 : Int), (0 : Int)), (((0 : Int), (([] : List (Int × Int)), ([] : List Int))), ((ByteArray.mk (List.toArray [])), ((0 : Int), (([] : List (Int × Int)), ([] : List (Int × Int))))))))))) :: [])))) fun r5 =>
 qc r5
 (fun r5 =>
 (some r5.1))
 (fun r5 =>
 Option.bind (qak k r5.2.2.2.1 r5.2.2.2.2.1 r5.2.2.2.2.2.1 r5.2.2.2.2.2.2.1 r5.2.2.2.2.2.2.2.1 r5.1) fun r6 =>
 if ((0 + r5.2.2.2.2.2.2.2.2.2.1) ≤ (List.length r5.2.2.2.2.2.2.2.2.2.2.2.2.2.2.2.1)) then
 if ((0 + r5.2.2.2.2.2.2.2.2.2.2.1) ≤ (List.length r5.2.2.2.2.2.2.2.2.2.2.2.2.2.2.2.2)) then
 Option.bind (qak k (List.take r5.2.2.2.2.2.2.2.2.2.1 r5.2.2.2.2.2.2.2.2.2.2.2.2.2.2.2.1) (List.take r5.2.2.2.2.2.2.2.2.2.2.1 r5.2.2.2.2.2.2.2.2.2.2.2.2.2.2.2.2) r5.2.2.2.2.2.2.2.2.2.2.2.1 r5.2.2.2.2.2.2.2.2.2.2.2.2.1 r5.2.2.2.2.2.2.2.2.2.2.2.2.2.1 r5.1) fun r7 =>
 if ((decide (((r5.2.2.1 : Nat) : Int) < ((r5.2.1 : Nat) : Int))) = true) then
 if ((r6.2.1 == (0 : Int)) = true) then
 if ((r7.2.1 == (0 : Int)) = true) then
 if ((0 + r6.1) ≤ (List.length r6.2.2)) then
 if ((0 + r7.1) ≤ (List.length r7.2.2)) then
 Option.bind (qb0 k (List.take r6.1 r6.2.2) (List.take r7.1 r7.2.2)) fun r8 =>
 (some r8)
 else
 none
 else
 none
 else
 (some false)
 else
 (some false)
 else
 (some false)
 else
 none
 else
 none)
 else
 none
 else
 none
 else
 none
 else
 none
 else
 none
 else
 if (((r2.1 : Nat) : Int) = (0 : Int)) then
 none
 else
 if (((0 : Int) ≤ (Int.tmod which ((r2.1 : Nat) : Int))) ∧ ((Int.tmod which ((r2.1 : Nat) : Int)) < ((r2.1 : Nat) : Int))) then
 Option.bind (r2.2.2)[(0 + (Int.toNat (Int.tmod which ((r2.1 : Nat) : Int))))]? fun x =>
 Option.bind (qdm k f0 f1 f2 f3 f4) fun r3 =>
 if (r3.2.1 ≤ (List.length r3.2.2.2.2.2.2)) then
 if (((r3.2.1 + (List.length (List.take 1 (((114 : Int), ((ByteArray.mk (List.toArray (116 :: (104 :: (101 :: (95 :: (110 :: (101 :: (119 :: (95 :: (114 :: (101 :: (115 :: (105 :: (115 :: (116 :: (111 :: (114 :: [])))))))))))))))))), ((List.take 2 (x :: ((0 : Int) :: []))), ((0 : Int), (((1 : Int), (0 : Int)), (((0 : Int), (([] : List (Int × Int)), ([] : List Int))), ((ByteArray.mk (List.toArray [])), ((0 : Int), (([] : List (Int × Int)), ([] : List (Int × Int))))))))))) :: [])))) * 200) ≤ 140737488355328) then
 if ((0 + r3.1) ≤ (List.length r3.2.2.2.2.2.1)) then
 if ((0 + (r3.2.1 + (List.length (List.take 1 (((114 : Int), ((ByteArray.mk (List.toArray (116 :: (104 :: (101 :: (95 :: (110 :: (101 :: (119 :: (95 :: (114 :: (101 :: (115 :: (105 :: (115 :: (116 :: (111 :: (114 :: [])))))))))))))))))), ((List.take 2 (x :: ((0 : Int) :: []))), ((0 : Int), (((1 : Int), (0 : Int)), (((0 : Int), (([] : List (Int × Int)), ([] : List Int))), ((ByteArray.mk (List.toArray [])), ((0 : Int), (([] : List (Int × Int)), ([] : List (Int × Int))))))))))) :: []))))) ≤ (List.length ((List.take r3.2.1 r3.2.2.2.2.2.2) ++ (List.take 1 (((114 : Int), ((ByteArray.mk (List.toArray (116 :: (104 :: (101 :: (95 :: (110 :: (101 :: (119 :: (95 :: (114 :: (101 :: (115 :: (105 :: (115 :: (116 :: (111 :: (114 :: [])))))))))))))))))), ((List.take 2 (x :: ((0 : Int) :: []))), ((0 : Int), (((1 : Int), (0 : Int)), (((0 : Int), (([] : List (Int × Int)), ([] : List Int))), ((ByteArray.mk (List.toArray [])), ((0 : Int), (([] : List (Int × Int)), ([] : List (Int × Int))))))))))) :: []))))) then
 Option.bind (qax k (List.take r3.1 r3.2.2.2.2.2.1) (List.take (r3.2.1 + (List.length (List.take 1 (((114 : Int), ((ByteArray.mk (List.toArray (116 :: (104 :: (101 :: (95 :: (110 :: (101 :: (119 :: (95 :: (114 :: (101 :: (115 :: (105 :: (115 :: (116 :: (111 :: (114 :: [])))))))))))))))))), ((List.take 2 (x :: ((0 : Int) :: []))), ((0 : Int), (((1 : Int), (0 : Int)), (((0 : Int), (([] : List (Int × Int)), ([] : List Int))), ((ByteArray.mk (List.toArray [])), ((0 : Int), (([] : List (Int × Int)), ([] : List (Int × Int))))))))))) :: [])))) ((List.take r3.2.1 r3.2.2.2.2.2.2) ++ (List.take 1 (((114 : Int), ((ByteArray.mk (List.toArray (116 :: (104 :: (101 :: (95 :: (110 :: (101 :: (119 :: (95 :: (114 :: (101 :: (115 :: (105 :: (115 :: (116 :: (111 :: (114 :: [])))))))))))))))))), ((List.take 2 (x :: ((0 : Int) :: []))), ((0 : Int), (((1 : Int), (0 : Int)), (((0 : Int), (([] : List (Int × Int)), ([] : List Int))), ((ByteArray.mk (List.toArray [])), ((0 : Int), (([] : List (Int × Int)), ([] : List (Int × Int))))))))))) :: [])))) r3.2.2.1 r3.2.2.2.1 r3.2.2.2.2.1 mode) fun r4 =>
 if ((r4.2.1 != (0 : Int)) = true) then
 if ((0 + r3.1) ≤ (List.length r3.2.2.2.2.2.1)) then
 if ((0 + (r3.2.1 + (List.length (List.take 1 (((114 : Int), ((ByteArray.mk (List.toArray (116 :: (104 :: (101 :: (95 :: (110 :: (101 :: (119 :: (95 :: (114 :: (101 :: (115 :: (105 :: (115 :: (116 :: (111 :: (114 :: [])))))))))))))))))), ((List.take 2 (x :: ((0 : Int) :: []))), ((0 : Int), (((1 : Int), (0 : Int)), (((0 : Int), (([] : List (Int × Int)), ([] : List Int))), ((ByteArray.mk (List.toArray [])), ((0 : Int), (([] : List (Int × Int)), ([] : List (Int × Int))))))))))) :: []))))) ≤ (List.length ((List.take r3.2.1 r3.2.2.2.2.2.2) ++ (List.take 1 (((114 : Int), ((ByteArray.mk (List.toArray (116 :: (104 :: (101 :: (95 :: (110 :: (101 :: (119 :: (95 :: (114 :: (101 :: (115 :: (105 :: (115 :: (116 :: (111 :: (114 :: [])))))))))))))))))), ((List.take 2 (x :: ((0 : Int) :: []))), ((0 : Int), (((1 : Int), (0 : Int)), (((0 : Int), (([] : List (Int × Int)), ([] : List Int))), ((ByteArray.mk (List.toArray [])), ((0 : Int), (([] : List (Int × Int)), ([] : List (Int × Int))))))))))) :: []))))) then
 Option.bind (qbb k (List.take r3.1 r3.2.2.2.2.2.1) (List.take (r3.2.1 + (List.length (List.take 1 (((114 : Int), ((ByteArray.mk (List.toArray (116 :: (104 :: (101 :: (95 :: (110 :: (101 :: (119 :: (95 :: (114 :: (101 :: (115 :: (105 :: (115 :: (116 :: (111 :: (114 :: [])))))))))))))))))), ((List.take 2 (x :: ((0 : Int) :: []))), ((0 : Int), (((1 : Int), (0 : Int)), (((0 : Int), (([] : List (Int × Int)), ([] : List Int))), ((ByteArray.mk (List.toArray [])), ((0 : Int), (([] : List (Int × Int)), ([] : List (Int × Int))))))))))) :: [])))) ((List.take r3.2.1 r3.2.2.2.2.2.2) ++ (List.take 1 (((114 : Int), ((ByteArray.mk (List.toArray (116 :: (104 :: (101 :: (95 :: (110 :: (101 :: (119 :: (95 :: (114 :: (101 :: (115 :: (105 :: (115 :: (116 :: (111 :: (114 :: [])))))))))))))))))), ((List.take 2 (x :: ((0 : Int) :: []))), ((0 : Int), (((1 : Int), (0 : Int)), (((0 : Int), (([] : List (Int × Int)), ([] : List Int))), ((ByteArray.mk (List.toArray [])), ((0 : Int), (([] : List (Int × Int)), ([] : List (Int × Int))))))))))) :: [])))) r3.2.2.1 r3.2.2.2.1 r3.2.2.2.2.1) fun r5 =>
 (some (r5 != (0 : Int)))
 else
 none
 else
 none
 else
 Option.bind (qN k k mode r2.1 x r4.1 (0 : Int) r4.1 ((r4.1 : Nat) : Int) (0 : Int) f0 f1 f2 f3 f4 r2.2.2 r3.1 (r3.2.1 + (List.length (List.take 1 (((114 : Int), ((ByteArray.mk (List.toArray (116 :: (104 :: (101 :: (95 :: (110 :: (101 :: (119 :: (95 :: (114 :: (101 :: (115 :: (105 :: (115 :: (116 :: (111 :: (114 :: [])))))))))))))))))), ((List.take 2 (x :: ((0 : Int) :: []))), ((0 : Int), (((1 : Int), (0 : Int)), (((0 : Int), (([] : List (Int × Int)), ([] : List Int))), ((ByteArray.mk (List.toArray [])), ((0 : Int), (([] : List (Int × Int)), ([] : List (Int × Int))))))))))) :: [])))) r3.2.2.1 r3.2.2.2.1 r3.2.2.2.2.1 r4.2.2 r3.2.2.2.2.2.1 ((List.take r3.2.1 r3.2.2.2.2.2.2) ++ (List.take 1 (((114 : Int), ((ByteArray.mk (List.toArray (116 :: (104 :: (101 :: (95 :: (110 :: (101 :: (119 :: (95 :: (114 :: (101 :: (115 :: (105 :: (115 :: (116 :: (111 :: (114 :: [])))))))))))))))))), ((List.take 2 (x :: ((0 : Int) :: []))), ((0 : Int), (((1 : Int), (0 : Int)), (((0 : Int), (([] : List (Int × Int)), ([] : List Int))), ((ByteArray.mk (List.toArray [])), ((0 : Int), (([] : List (Int × Int)), ([] : List (Int × Int))))))))))) :: [])))) fun r5 =>
 qc r5
 (fun r5 =>
 (some r5.1))
 (fun r5 =>
 Option.bind (qak k r5.2.2.2.1 r5.2.2.2.2.1 r5.2.2.2.2.2.1 r5.2.2.2.2.2.2.1 r5.2.2.2.2.2.2.2.1 r5.1) fun r6 =>
 if ((0 + r5.2.2.2.2.2.2.2.2.2.1) ≤ (List.length r5.2.2.2.2.2.2.2.2.2.2.2.2.2.2.2.1)) then
 if ((0 + r5.2.2.2.2.2.2.2.2.2.2.1) ≤ (List.length r5.2.2.2.2.2.2.2.2.2.2.2.2.2.2.2.2)) then
 Option.bind (qak k (List.take r5.2.2.2.2.2.2.2.2.2.1 r5.2.2.2.2.2.2.2.2.2.2.2.2.2.2.2.1) (List.take r5.2.2.2.2.2.2.2.2.2.2.1 r5.2.2.2.2.2.2.2.2.2.2.2.2.2.2.2.2) r5.2.2.2.2.2.2.2.2.2.2.2.1 r5.2.2.2.2.2.2.2.2.2.2.2.2.1 r5.2.2.2.2.2.2.2.2.2.2.2.2.2.1 r5.1) fun r7 =>
 if ((decide (((r5.2.2.1 : Nat) : Int) < ((r5.2.1 : Nat) : Int))) = true) then
 if ((r6.2.1 == (0 : Int)) = true) then
 if ((r7.2.1 == (0 : Int)) = true) then
 if ((0 + r6.1) ≤ (List.length r6.2.2)) then
 if ((0 + r7.1) ≤ (List.length r7.2.2)) then
 Option.bind (qb0 k (List.take r6.1 r6.2.2) (List.take r7.1 r7.2.2)) fun r8 =>
 (some r8)
 else
 none
 else
 none
 else
 (some false)
 else
 (some false)
 else
 (some false)
 else
 none
 else
 none)
 else
 none
 else
 none
 else
 none
 else
 none
 else
 none
 else
 (some (((r2.1 : Nat) : Int) == (0 : Int)))
 else
 (some true)
def qc4 : Nat → List ByteArray → List DvT → Int → Int → Int → Int → Int → Option (Bool)
 | 0, _, _, _, _, _, _, _ => none
 | k + 1, f0, f1, f2, f3, f4, mode, which => qd6 k f0 f1 f2 f3 f4 mode which
def qzh : Nat → Inst := mkI 4 ⟨[.g [.lf (.sl .str), .lf (.sl qG), .lf (.int .i64), .lf (.int .i64), .lf (.int .i64)], vI, vI], []⟩ [⟨[vB], []⟩] fun k x => qc4 k x.1 x.2.1 x.2.2.1 x.2.2.2.1 x.2.2.2.2.1 x.2.2.2.2.2.1 x.2.2.2.2.2.2
def qoC (k : Nat) := ac (qxA k) (ac (qxB k) (ac (qoA k) (ac (qxC k) (ac (qxy k) (ac (qoB k) (ac (qxD k) a0))))))
def qpW : SS := ⟨[(1, vI), (3, .a (.ptr 0 0 0)), (7, .a (.smz 1)), (9, vI), (10, .a (.ptr 2 0 0)), (11, .a (.smz 3)), (13, vI), (15, vI), (80, .a (.smz 3)), (81, vI), (82, vI)], [(0, some (.raw [[.lf (.sl .str), .lf (.sl qG), .lf (.int .i64), .lf (.int .i64), .lf (.int .i64)]] 5 27 true false false)), (1, some (.arr (.int .i64) 1 3 false)), (2, some (.raw [[.smz 4, .smz 5, .lf (.int .i64), .lf (.int .i64), .lf (.int .i64)]] 5 27 false false false)), (3, some (.arr (.int .i64) 1 3 false)), (4, some (.arr .str 1 9 true)), (5, some (.arr qG 13 48 true))], 6⟩
def qvX (k : Nat) : LInst := mkL 2 [qpW] [⟨some 2, qpW⟩] (fun n x => qaz k n x.1 x.2.1 x.2.2.1 x.2.2.2.1 x.2.2.2.2.1 x.2.2.2.2.2.1 x.2.2.2.2.2.2.1 x.2.2.2.2.2.2.2.1 x.2.2.2.2.2.2.2.2.1 x.2.2.2.2.2.2.2.2.2.1 x.2.2.2.2.2.2.2.2.2.2.1 x.2.2.2.2.2.2.2.2.2.2.2.1 x.2.2.2.2.2.2.2.2.2.2.2.2.1 x.2.2.2.2.2.2.2.2.2.2.2.2.2.1 x.2.2.2.2.2.2.2.2.2.2.2.2.2.2.1 x.2.2.2.2.2.2.2.2.2.2.2.2.2.2.2.1 x.2.2.2.2.2.2.2.2.2.2.2.2.2.2.2.2.1 x.2.2.2.2.2.2.2.2.2.2.2.2.2.2.2.2.2.1 x.2.2.2.2.2.2.2.2.2.2.2.2.2.2.2.2.2.2.1 x.2.2.2.2.2.2.2.2.2.2.2.2.2.2.2.2.2.2.2.1 x.2.2.2.2.2.2.2.2.2.2.2.2.2.2.2.2.2.2.2.2.1 x.2.2.2.2.2.2.2.2.2.2.2.2.2.2.2.2.2.2.2.2.2.1 x.2.2.2.2.2.2.2.2.2.2.2.2.2.2.2.2.2.2.2.2.2.2) k
theorem qpX (k : Nat) : LIo 4 Tryz.f4 0 k (qvX k) :=
 lpk [] (qoC k) l0 (fun _ => rfl) (by kernel_rfl) fun n x => by kernel_rfl
def qvY (k : Nat) : LInst := mkL 0 [⟨[(1, vI), (3, .a (.ptr 0 0 0)), (7, .a (.smz 1)), (9, vI), (10, .a (.ptr 2 0 0)), (11, .a (.smz 3)), (13, vI), (80, .a (.smz 3)), (81, vI), (82, vI)], [(0, some (.raw [[.lf (.sl .str), .lf (.sl qG), .lf (.int .i64), .lf (.int .i64), .lf (.int .i64)]] 5 27 true false false)), (1, some (.arr (.int .i64) 1 3 false)), (2, some (.raw [[.smz 4, .smz 5, .lf (.int .i64), .lf (.int .i64), .lf (.int .i64)]] 5 27 false false false)), (3, some (.arr (.int .i64) 1 3 false)), (4, some (.arr .str 1 9 true)), (5, some (.arr qG 13 48 true))], 6⟩] [⟨none, ⟨[(6, vB)], [(0, some (.raw [[.lf (.sl .str), .lf (.sl qG), .lf (.int .i64), .lf (.int .i64), .lf (.int .i64)]] 5 27 true false false)), (1, some (.arr (.int .i64) 1 3 false)), (2, some (.raw [[.smz 4, .smz 5, .lf (.int .i64), .lf (.int .i64), .lf (.int .i64)]] 5 27 false false false)), (3, some (.arr (.int .i64) 1 3 false)), (4, some (.arr .str 1 9 true)), (5, some (.arr qG 13 48 true))], 6⟩⟩, ⟨some 0, ⟨[(1, vI), (3, .a (.ptr 0 0 0)), (7, .a (.smz 1)), (10, .a (.ptr 2 0 0)), (11, .a (.smz 3))], [(0, some (.raw [[.lf (.sl .str), .lf (.sl qG), .lf (.int .i64), .lf (.int .i64), .lf (.int .i64)]] 5 27 true false false)), (1, some (.arr (.int .i64) 1 3 false)), (2, some (.raw [[.smz 4, .smz 5, .lf (.int .i64), .lf (.int .i64), .lf (.int .i64)]] 5 27 false false false)), (3, some (.arr (.int .i64) 1 3 false)), (4, some (.arr .str 1 9 true)), (5, some (.arr qG 13 48 true))], 6⟩⟩] (fun n x => qN k n x.1 x.2.1 x.2.2.1 x.2.2.2.1 x.2.2.2.2.1 x.2.2.2.2.2.1 x.2.2.2.2.2.2.1 x.2.2.2.2.2.2.2.1 x.2.2.2.2.2.2.2.2.1 x.2.2.2.2.2.2.2.2.2.1 x.2.2.2.2.2.2.2.2.2.2.1 x.2.2.2.2.2.2.2.2.2.2.2.1 x.2.2.2.2.2.2.2.2.2.2.2.2.1 x.2.2.2.2.2.2.2.2.2.2.2.2.2.1 x.2.2.2.2.2.2.2.2.2.2.2.2.2.2.1 x.2.2.2.2.2.2.2.2.2.2.2.2.2.2.2.1 x.2.2.2.2.2.2.2.2.2.2.2.2.2.2.2.2.1 x.2.2.2.2.2.2.2.2.2.2.2.2.2.2.2.2.2.1 x.2.2.2.2.2.2.2.2.2.2.2.2.2.2.2.2.2.2.1 x.2.2.2.2.2.2.2.2.2.2.2.2.2.2.2.2.2.2.2.1 x.2.2.2.2.2.2.2.2.2.2.2.2.2.2.2.2.2.2.2.2.1 x.2.2.2.2.2.2.2.2.2.2.2.2.2.2.2.2.2.2.2.2.2) k
theorem qvZ (k : Nat) : LIo 4 Tryz.f4 0 k (qvY k) :=
 lpk [2] (qoC k) (lc (qpX k) l0) (fun _ => rfl) (by kernel_rfl) fun n x => by kernel_rfl
theorem qxE : ∀ k, qh (call cf k) (qzh k) :=
 fnk 0 [0] Tryz.func4 (fun k => (qoC k)) (fun k => (lc (qpX k) (lc (qvZ k) l0))) ⟨rfl, rfl, ⟨rfl, Nat.le_of_ble_eq_true rfl⟩, rfl⟩ (fun _ => rfl) (by kernel_rfl) fun k x => by kernel_rfl


end
end Go.Proofs.YtlnailgfialgnaaGreatDoor.Am
