/- Printed functions: each says what the typed machine says of the program -/
import Derived.Test.YtbhnafdmilfobaaMA3
import Derived.KernelRfl

set_option linter.unusedVariables false
set_option maxRecDepth 100000
namespace Go.Proofs.Ytbhnafdmilfobaa.Am
theorem qT : True := True.intro
theorem qA {a b : Prop} (h : a) (k : b) : a ∧ b := And.intro h k
open Go
noncomputable section

def qhs (k : Nat) (n0 : Int) (n1 : Int) : Option (Bool) :=
 if ((n0 == (0 : Int)) = true) then
 (some (n1 == (0 : Int)))
 else
 if ((decide (n0 ≥ (-(999999999 : Int)))) = true) then
 if ((decide (n0 ≤ (999999999 : Int))) = true) then
 if (((Int.tmod n0 (10 : Int)) != (0 : Int)) = true) then
 if ((decide (n1 ≥ (-(18 : Int)))) = true) then
 (some (decide (n1 ≤ (9 : Int))))
 else
 (some false)
 else
 (some false)
 else
 (some false)
 else
 (some false)
def qc3 : Nat → Int → Int → Option (Bool)
 | 0, _, _ => none
 | k + 1, n0, n1 => qhs k n0 n1
def qjd : FS := { vs := [.g [.lf (.int .i64), .lf (.int .i64)]], bs := [] }
def qoW : List FS := [{ vs := [.a (.lf .bool)], bs := [] }]
def qgF (k : Nat) : Inst := ⟨58, qjd, qoW, fun x => qc3 k x.1 x.2⟩
theorem qCl (k : Nat) : qn (call cf k) [] := True.intro
theorem qCm (k : Nat) : qf (LOk (R := DS FS.D qoW) (fun b _ σ K => LOt Ty (kps 58) 0 b σ K []) cf (call cf k) (cf.keep 58) Try.f58.ntmps k qjd.bs.length) 0 (bd Try.f58) :=
 qA qT (qA (qA qT (qA (qA qT qT) qT)) (qA qT qT))
theorem qCn (k : Nat) (x : qjd.D) : qc3 (k + 1) x.1 x.2 = qi cf (fun f a b K => COt f a b K []) (fun b _ σ K => LOt Ty (kps 58) 0 b σ K []) 58 Try.f58.ntmps Try.f58.results.toList (bd Try.f58) (qjd.enc x).1 (qjd.enc x).2 (qj FS.dec qoW) := by kernel_rfl
theorem qti : ∀ k, qh (call cf k) (qgF k)
 | 0 => fun x y e => absurd (show (none : Option _) = some y from e) (by simp)
 | k + 1 => qe (c := cf) (k := k) (f := 58) (fn := Try.f58) (body := bd Try.f58) (sh := qjd) (os := qoW) rfl Try.func58 rfl ⟨rfl, Nat.le_of_ble_eq_true rfl⟩ (qd (qCl k)) (qCm k) (fun x => qc3 (k + 1) x.1 x.2) (qCn k)

def qd1 (k : Nat) (rec : List Int → Int → Option (List Int × Int)) (w : List Int) (n : Int) : Option (List Int × Int) :=
 if ((decide (n > (0 : Int))) = true) then
 if ((0 : Int) ≤ (IntKind.wrap .i64 (n - (1 : Int)))) then
 Option.bind (w)[(Int.toNat (IntKind.wrap .i64 (n - (1 : Int))))]? fun x1 =>
 if ((x1 == (0 : Int)) = true) then
 rec w (IntKind.wrap .i64 (n - (1 : Int)))
 else
 (some (w, n))
 else
 none
 else
 (some (w, n))
def qc5 (k n : Nat) : List Int → Int → Option (List Int × Int) := Nat.rec (fun _ _ => none) (fun _ r => qd1 k r) n
def qhV (k : Nat) (w : List Int) : Option (List Int) :=
 Option.bind (qc5 k k w (((List.length w) : Nat) : Int)) fun r2 =>
 if (((0 : Int) ≤ (0 : Int)) ∧ (((0 : Int) ≤ r2.2) ∧ (r2.2 ≤ (((List.length r2.1) : Nat) : Int)))) then
 (some (List.take (Int.toNat r2.2) r2.1))
 else
 none
def qcm : Nat → List Int → Option (List Int)
 | 0, _ => none
 | k + 1, w => qhV k w
def qje : FS := { vs := [.a (.lf (.sl (.int .u32)))], bs := [] }
def qoX : List FS := [{ vs := [.a (.lf (.sl (.int .u32)))], bs := [] }]
def qd2 (k : Nat) : Inst := ⟨102, qje, qoX, fun x => qcm k x⟩
theorem qwW (k : Nat) : qn (call cf k) [] := True.intro
def qhW : List SS := [{ fr := [(0, .a (.lf (.sl (.int .u32)))), (3, .a (.lf (.int .i64)))], mem := [], nx := 0 }]
def ql3 : List OS := [⟨some 0, { fr := [(0, .a (.lf (.sl (.int .u32)))), (3, .a (.lf (.int .i64)))], mem := [], nx := 0 }⟩]
def ql4 (k : Nat) : LInst := ⟨0, qhW, ql3, fun x => qc5 k k x.1 x.2⟩
theorem qyY (k : Nat) : qf (LOk (R := DS OS.D ql3) (fun b _ σ K => LOt Ty (kps 102) 0 b σ K []) cf (call cf k) (kps 102) Try.f102.ntmps k 0) 0 (lb Try.f102 0) :=
 qA (qA qT (qA qT qT)) qT
theorem qyZ (k n : Nat) (x : DS SS.D qhW) : qc5 k (n + 1) x.1 x.2 = qE SS.enc (fun σ => qF cf (fun f a b K => COt f a b K []) (fun b _ σ K => LOt Ty (kps 102) 0 b σ K []) Try.f102.ntmps 0 (lb Try.f102 0) σ (qJ Ty (kps 102 0) 0 qhW ql3 fun x => qc5 k n x.1 x.2)) qhW x := by kernel_rfl
theorem qy0 (k : Nat) : qac cf (call cf k) (kps 102) Try.f102.ntmps k 0 0 (lb Try.f102 0) (ql4 k) :=
 qr (c := cf) (callF := call cf k) (kp := kps 102) (nt := Try.f102.ntmps) (k := k) (p := 0) (b := 0) (x0 := lb Try.f102 0) (hs := qhW) (os := ql3) (qd (qwW k)) (qyY k) (fun n x => qc5 k n x.1 x.2) (fun _ => rfl) (qyZ k)
theorem qCo (k : Nat) : qf (LOk (R := DS FS.D qoX) (fun b _ σ K => LOt Ty (kps 102) 0 b σ K [ql4 k]) cf (call cf k) (cf.keep 102) Try.f102.ntmps k qje.bs.length) 0 (bd Try.f102) :=
 qA qT (qA qT (qA (qz (c := cf) (callF := call cf k) (kp := kps 102) (nt := Try.f102.ntmps) (k := k) (p := 0) (b := 0) (x0 := lb Try.f102 0) (l := [ql4 k]) (qA (fun _ => qy0 k) qT)) (qA qT qT)))
theorem qCp (k : Nat) (x : qje.D) : qcm (k + 1) x = qi cf (fun f a b K => COt f a b K []) (fun b _ σ K => LOt Ty (kps 102) 0 b σ K [ql4 k]) 102 Try.f102.ntmps Try.f102.results.toList (bd Try.f102) (qje.enc x).1 (qje.enc x).2 (qj FS.dec qoX) := by kernel_rfl
theorem qjf : ∀ k, qh (call cf k) (qd2 k)
 | 0 => fun x y e => absurd (show (none : Option _) = some y from e) (by simp)
 | k + 1 => qe (c := cf) (k := k) (f := 102) (fn := Try.f102) (body := bd Try.f102) (sh := qje) (os := qoX) rfl Try.func102 rfl ⟨rfl, Nat.le_of_ble_eq_true rfl⟩ (qd (qwW k)) (qCo k) (fun x => qcm (k + 1) x) (qCp k)

def qex (k : Nat) (v : Int) : Option (Bool × List Int) :=
 if ((decide (v < (0 : Int))) = true) then
 Option.bind (qcm k (List.take 2 ((IntKind.wrap .u32 (IntKind.wrap .u64 ((0 : Int) - (IntKind.wrap .u64 v)))) :: ((IntKind.wrap .u32 (Int.fdiv (IntKind.wrap .u64 ((0 : Int) - (IntKind.wrap .u64 v))) (4294967296 : Int))) :: [])))) fun r2 =>
 (some ((decide (v < (0 : Int))), r2))
 else
 Option.bind (qcm k (List.take 2 ((IntKind.wrap .u32 (IntKind.wrap .u64 v)) :: ((IntKind.wrap .u32 (Int.fdiv (IntKind.wrap .u64 v) (4294967296 : Int))) :: [])))) fun r2 =>
 (some ((decide (v < (0 : Int))), r2))
def qai : Nat → Int → Option (Bool × List Int)
 | 0, _ => none
 | k + 1, v => qex k v
def qjg : FS := { vs := [.a (.lf (.int .i64))], bs := [] }
def qoY : List FS := [{ vs := [.a (.ptr 0 0 0)], bs := [.raw [[.lf .bool, .lf (.sl (.int .u32))]] 2 98 true false] }]
def qfb (k : Nat) : Inst := ⟨75, qjg, qoY, fun x => qai k x⟩
theorem qCq (k : Nat) : qn (call cf k) [qd2 k] := qA (qjf k) qT
theorem qCr (k : Nat) : qf (LOk (R := DS FS.D qoY) (fun b _ σ K => LOt Ty (kps 75) 0 b σ K []) cf (call cf k) (cf.keep 75) Try.f75.ntmps k qjg.bs.length) 0 (bd Try.f75) :=
 qA qT (qA qT (qA (qA qT (qA qT qT)) (qA qT qT)))
theorem qCs (k : Nat) (x : qjg.D) : qai (k + 1) x = qi cf (fun f a b K => COt f a b K [qd2 k]) (fun b _ σ K => LOt Ty (kps 75) 0 b σ K []) 75 Try.f75.ntmps Try.f75.results.toList (bd Try.f75) (qjg.enc x).1 (qjg.enc x).2 (qj FS.dec qoY) := by kernel_rfl
theorem qjh : ∀ k, qh (call cf k) (qfb k)
 | 0 => fun x y e => absurd (show (none : Option _) = some y from e) (by simp)
 | k + 1 => qe (c := cf) (k := k) (f := 75) (fn := Try.f75) (body := bd Try.f75) (sh := qjg) (os := qoY) rfl Try.func75 rfl ⟨rfl, Nat.le_of_ble_eq_true rfl⟩ (qd (qCq k)) (qCr k) (fun x => qai (k + 1) x) (qCs k)

def qeJ (k : Nat) (neg : Bool) (w : List Int) (z0 : Bool) (z1 : List Int) : Option (Bool × List Int) :=
 Option.bind (qcm k w) fun r5 =>
 if (neg = true) then
 (some ((decide ((((List.length r5) : Nat) : Int) > (0 : Int))), r5))
 else
 (some (false, r5))
def qay : Nat → Bool → List Int → Bool → List Int → Option (Bool × List Int)
 | 0, _, _, _, _ => none
 | k + 1, neg, w, z0, z1 => qeJ k neg w z0 z1
def qji : FS := { vs := [.a (.ptr 0 0 0), .a (.lf .bool), .a (.lf (.sl (.int .u32)))], bs := [.raw [[.lf .bool, .lf (.sl (.int .u32))]] 2 98 true false] }
def qoZ : List FS := [{ vs := [.a (.ptr 0 0 0)], bs := [.raw [[.lf .bool, .lf (.sl (.int .u32))]] 2 98 true false] }]
def qht (k : Nat) : Inst := ⟨110, qji, qoZ, fun x => qay k x.1 x.2.1 x.2.2.1 x.2.2.2⟩
theorem qCt (k : Nat) : qn (call cf k) [qd2 k] := qA (qjf k) qT
theorem qCu (k : Nat) : qf (LOk (R := DS FS.D qoZ) (fun b _ σ K => LOt Ty (kps 110) 1 b σ K []) cf (call cf k) (cf.keep 110) Try.f110.ntmps k qji.bs.length) 0 (bd Try.f110) :=
 qA qT (qA qT (qA qT (qA qT qT)))
theorem qCv (k : Nat) (x : qji.D) : qay (k + 1) x.1 x.2.1 x.2.2.1 x.2.2.2 = qi cf (fun f a b K => COt f a b K [qd2 k]) (fun b _ σ K => LOt Ty (kps 110) 1 b σ K []) 110 Try.f110.ntmps Try.f110.results.toList (bd Try.f110) (qji.enc x).1 (qji.enc x).2 (qj FS.dec qoZ) := by kernel_rfl
theorem qtj : ∀ k, qh (call cf k) (qht k)
 | 0 => fun x y e => absurd (show (none : Option _) = some y from e) (by simp)
 | k + 1 => qe (c := cf) (k := k) (f := 110) (fn := Try.f110) (body := bd Try.f110) (sh := qji) (os := qoZ) rfl Try.func110 rfl ⟨rfl, Nat.le_of_ble_eq_true rfl⟩ (qd (qCt k)) (qCu k) (fun x => qay (k + 1) x.1 x.2.1 x.2.2.1 x.2.2.2) (qCv k)

def qdN (k : Nat) (rec : Nat → Int → Int → Int → List Int → Int → Int → List Int → Int → Int → Bool → List Int → Bool → List Int → List Int → Option (Nat × Int × Int × List Int × Int × Int × Bool × List Int × Bool × List Int × List Int)) (out1 : Nat) (i : Int) (a : Int) (carry : Int) (x : List Int) (x1 : Int) (x2 : Int) (x3 : List Int) (x4 : Int) (x5 : Int) (x0 : Bool) (x11 : List Int) (y0 : Bool) (y1 : List Int) (outs : List Int) : Option (Nat × Int × Int × List Int × Int × Int × Bool × List Int × Bool × List Int × List Int) :=
 if ((decide (x5 < x4)) = true) then
 if ((0 : Int) ≤ x5) then
 Option.bind (x3)[(Int.toNat x5)]? fun x6 =>
 if (((0 : Int) ≤ (IntKind.wrap .i64 (i + x5))) ∧ ((IntKind.wrap .i64 (i + x5)) < ((out1 : Nat) : Int))) then
 Option.bind (outs)[(0 + (Int.toNat (IntKind.wrap .i64 (i + x5))))]? fun x7 =>
 if (((0 : Int) ≤ (IntKind.wrap .i64 (i + x5))) ∧ ((IntKind.wrap .i64 (i + x5)) < ((out1 : Nat) : Int))) then
 Option.bind (outs)[(0 + (Int.toNat (IntKind.wrap .i64 (i + x5))))]? fun x8 =>
 rec out1 i a (Int.fdiv (IntKind.wrap .u64 ((IntKind.wrap .u64 ((IntKind.wrap .u64 ((IntKind.wrap .u64 a) * (IntKind.wrap .u64 x6))) + (IntKind.wrap .u64 x7))) + carry)) (4294967296 : Int)) x x1 x2 x3 x4 (IntKind.wrap .i64 (x5 + (1 : Int))) x0 x11 y0 y1 (List.set outs (0 + (Int.toNat (IntKind.wrap .i64 (i + x5)))) (IntKind.wrap .u32 (IntKind.wrap .u64 ((IntKind.wrap .u64 ((IntKind.wrap .u64 ((IntKind.wrap .u64 a) * (IntKind.wrap .u64 x6))) + (IntKind.wrap .u64 x7))) + carry))))
 else
 none
 else
 none
 else
 none
 else
 (some (out1, i, carry, x, x1, x2, x0, x11, y0, y1, outs))
def qbd (k n : Nat) : Nat → Int → Int → Int → List Int → Int → Int → List Int → Int → Int → Bool → List Int → Bool → List Int → List Int → Option (Nat × Int × Int × List Int × Int × Int × Bool × List Int × Bool × List Int × List Int) := Nat.rec (fun _ _ _ _ _ _ _ _ _ _ _ _ _ _ _ => none) (fun _ r => qdN k r) n
def qdO (k : Nat) (rec : Nat → List Int → Int → Int → Bool → List Int → Bool → List Int → List Int → Option (Nat × Bool × List Int × Bool × List Int × List Int)) (out1 : Nat) (x : List Int) (x1 : Int) (x2 : Int) (x0 : Bool) (x11 : List Int) (y0 : Bool) (y1 : List Int) (outs : List Int) : Option (Nat × Bool × List Int × Bool × List Int × List Int) :=
 if ((decide (x2 < x1)) = true) then
 if ((0 : Int) ≤ x2) then
 Option.bind (x)[(Int.toNat x2)]? fun x3 =>
 Option.bind (qbd k k out1 x2 x3 (0 : Int) x x1 x2 y1 (((List.length y1) : Nat) : Int) (0 : Int) x0 x11 y0 y1 outs) fun r4 =>
 if (((0 : Int) ≤ (IntKind.wrap .i64 (r4.2.1 + (((List.length r4.2.2.2.2.2.2.2.2.2.1) : Nat) : Int)))) ∧ ((IntKind.wrap .i64 (r4.2.1 + (((List.length r4.2.2.2.2.2.2.2.2.2.1) : Nat) : Int))) < ((r4.1 : Nat) : Int))) then
 Option.bind (r4.2.2.2.2.2.2.2.2.2.2)[(0 + (Int.toNat (IntKind.wrap .i64 (r4.2.1 + (((List.length r4.2.2.2.2.2.2.2.2.2.1) : Nat) : Int)))))]? fun x4 =>
 rec r4.1 r4.2.2.2.1 r4.2.2.2.2.1 (IntKind.wrap .i64 (r4.2.2.2.2.2.1 + (1 : Int))) r4.2.2.2.2.2.2.1 r4.2.2.2.2.2.2.2.1 r4.2.2.2.2.2.2.2.2.1 r4.2.2.2.2.2.2.2.2.2.1 (List.set r4.2.2.2.2.2.2.2.2.2.2 (0 + (Int.toNat (IntKind.wrap .i64 (r4.2.1 + (((List.length r4.2.2.2.2.2.2.2.2.2.1) : Nat) : Int))))) (IntKind.wrap .u32 r4.2.2.1))
 else
 none
 else
 none
 else
 (some (out1, x0, x11, y0, y1, outs))
def qaO (k n : Nat) : Nat → List Int → Int → Int → Bool → List Int → Bool → List Int → List Int → Option (Nat × Bool × List Int × Bool × List Int × List Int) := Nat.rec (fun _ _ _ _ _ _ _ _ _ => none) (fun _ r => qdO k r) n
def qeK (k : Nat) (x0 : Bool) (x1 : List Int) (y0 : Bool) (y1 : List Int) : Option (Bool × List Int × Bool × List Int) :=
 if (((0 : Int) ≤ (IntKind.wrap .i64 ((((List.length x1) : Nat) : Int) + (((List.length y1) : Nat) : Int)))) ∧ (((IntKind.wrap .i64 ((((List.length x1) : Nat) : Int) + (((List.length y1) : Nat) : Int))) ≤ (IntKind.wrap .i64 ((((List.length x1) : Nat) : Int) + (((List.length y1) : Nat) : Int)))) ∧ (((IntKind.wrap .i64 ((((List.length x1) : Nat) : Int) + (((List.length y1) : Nat) : Int))) * (4 : Int)) ≤ (140737488355328 : Int)))) then
 Option.bind (qaO k k (Int.toNat (IntKind.wrap .i64 ((((List.length x1) : Nat) : Int) + (((List.length y1) : Nat) : Int)))) x1 (((List.length x1) : Nat) : Int) (0 : Int) x0 x1 y0 y1 (List.replicate (Int.toNat (IntKind.wrap .i64 ((((List.length x1) : Nat) : Int) + (((List.length y1) : Nat) : Int)))) (0 : Int))) fun r4 =>
 if ((0 + r4.1) ≤ (List.length r4.2.2.2.2.2)) then
 Option.bind (qay k (!(r4.2.1 == r4.2.2.2.1)) (List.take r4.1 r4.2.2.2.2.2) r4.2.1 r4.2.2.1) fun r5 =>
 (some (r5.1, r5.2, r4.2.2.2.1, r4.2.2.2.2.1))
 else
 none
 else
 none
def qbJ : Nat → Bool → List Int → Bool → List Int → Option (Bool × List Int × Bool × List Int)
 | 0, _, _, _, _ => none
 | k + 1, x0, x1, y0, y1 => qeK k x0 x1 y0 y1
def qnW : FS := { vs := [.a (.ptr 0 0 0), .a (.ptr 0 0 0), .a (.ptr 1 0 0)], bs := [.raw [[.lf .bool, .lf (.sl (.int .u32))]] 2 98 true false, .raw [[.lf .bool, .lf (.sl (.int .u32))]] 2 98 true false] }
def qtk : List FS := [{ vs := [.a (.ptr 0 0 0)], bs := [.raw [[.lf .bool, .lf (.sl (.int .u32))]] 2 98 true false, .raw [[.lf .bool, .lf (.sl (.int .u32))]] 2 98 true false] }]
def Iq5 (k : Nat) : Inst := ⟨84, qnW, qtk, fun x => qbJ k x.1 x.2.1 x.2.2.1 x.2.2.2⟩
theorem qvM (k : Nat) : qn (call cf k) [qht k] := qA (qtj k) qT
def qhX : List SS := [{ fr := [(0, .a (.ptr 0 0 0)), (1, .a (.ptr 0 0 0)), (2, .a (.ptr 1 0 0)), (7, .a (.smz 2)), (8, .a (.lf (.int .i64))), (9, .a (.lf (.int .u32))), (10, .a (.lf (.int .u64))), (29, .a (.lf (.sl (.int .u32)))), (30, .a (.lf (.int .i64))), (31, .a (.lf (.int .i64))), (39, .a (.lf (.sl (.int .u32)))), (40, .a (.lf (.int .i64))), (41, .a (.lf (.int .i64)))], mem := [(0, some (.raw [[.lf .bool, .lf (.sl (.int .u32))]] 2 98 true false)), (1, some (.raw [[.lf .bool, .lf (.sl (.int .u32))]] 2 98 true false)), (2, some (.arr (.int .u32) 1 72 false))], nx := 3 }]
def ql5 : List OS := [⟨some 2, { fr := [(0, .a (.ptr 0 0 0)), (1, .a (.ptr 0 0 0)), (2, .a (.ptr 1 0 0)), (7, .a (.smz 2)), (8, .a (.lf (.int .i64))), (10, .a (.lf (.int .u64))), (29, .a (.lf (.sl (.int .u32)))), (30, .a (.lf (.int .i64))), (31, .a (.lf (.int .i64)))], mem := [(0, some (.raw [[.lf .bool, .lf (.sl (.int .u32))]] 2 98 true false)), (1, some (.raw [[.lf .bool, .lf (.sl (.int .u32))]] 2 98 true false)), (2, some (.arr (.int .u32) 1 72 false))], nx := 3 }⟩]
def qf3 (k : Nat) : LInst := ⟨2, qhX, ql5, fun x => qbd k k x.1 x.2.1 x.2.2.1 x.2.2.2.1 x.2.2.2.2.1 x.2.2.2.2.2.1 x.2.2.2.2.2.2.1 x.2.2.2.2.2.2.2.1 x.2.2.2.2.2.2.2.2.1 x.2.2.2.2.2.2.2.2.2.1 x.2.2.2.2.2.2.2.2.2.2.1 x.2.2.2.2.2.2.2.2.2.2.2.1 x.2.2.2.2.2.2.2.2.2.2.2.2.1 x.2.2.2.2.2.2.2.2.2.2.2.2.2.1 x.2.2.2.2.2.2.2.2.2.2.2.2.2.2⟩
theorem qy1 (k : Nat) : qf (LOk (R := DS OS.D ql5) (fun b _ σ K => LOt Ty (kps 84) 2 b σ K []) cf (call cf k) (kps 84) Try.f84.ntmps k 2) 2 (lb Try.f84 1) :=
 qA qT (qA (qA qT qT) (qA (qA qT (qA qT (qA qT qT))) qT))
theorem qy2 (k n : Nat) (x : DS SS.D qhX) : qbd k (n + 1) x.1 x.2.1 x.2.2.1 x.2.2.2.1 x.2.2.2.2.1 x.2.2.2.2.2.1 x.2.2.2.2.2.2.1 x.2.2.2.2.2.2.2.1 x.2.2.2.2.2.2.2.2.1 x.2.2.2.2.2.2.2.2.2.1 x.2.2.2.2.2.2.2.2.2.2.1 x.2.2.2.2.2.2.2.2.2.2.2.1 x.2.2.2.2.2.2.2.2.2.2.2.2.1 x.2.2.2.2.2.2.2.2.2.2.2.2.2.1 x.2.2.2.2.2.2.2.2.2.2.2.2.2.2 = qE SS.enc (fun σ => qF cf (fun f a b K => COt f a b K [qht k]) (fun b _ σ K => LOt Ty (kps 84) 2 b σ K []) Try.f84.ntmps 2 (lb Try.f84 1) σ (qJ Ty (kps 84 2) 2 qhX ql5 fun x => qbd k n x.1 x.2.1 x.2.2.1 x.2.2.2.1 x.2.2.2.2.1 x.2.2.2.2.2.1 x.2.2.2.2.2.2.1 x.2.2.2.2.2.2.2.1 x.2.2.2.2.2.2.2.2.1 x.2.2.2.2.2.2.2.2.2.1 x.2.2.2.2.2.2.2.2.2.2.1 x.2.2.2.2.2.2.2.2.2.2.2.1 x.2.2.2.2.2.2.2.2.2.2.2.2.1 x.2.2.2.2.2.2.2.2.2.2.2.2.2.1 x.2.2.2.2.2.2.2.2.2.2.2.2.2.2)) qhX x := by kernel_rfl
theorem qy3 (k : Nat) : qac cf (call cf k) (kps 84) Try.f84.ntmps k 2 2 (lb Try.f84 1) (qf3 k) :=
 qr (c := cf) (callF := call cf k) (kp := kps 84) (nt := Try.f84.ntmps) (k := k) (p := 2) (b := 2) (x0 := lb Try.f84 1) (hs := qhX) (os := ql5) (qd (qvM k)) (qy1 k) (fun n x => qbd k n x.1 x.2.1 x.2.2.1 x.2.2.2.1 x.2.2.2.2.1 x.2.2.2.2.2.1 x.2.2.2.2.2.2.1 x.2.2.2.2.2.2.2.1 x.2.2.2.2.2.2.2.2.1 x.2.2.2.2.2.2.2.2.2.1 x.2.2.2.2.2.2.2.2.2.2.1 x.2.2.2.2.2.2.2.2.2.2.2.1 x.2.2.2.2.2.2.2.2.2.2.2.2.1 x.2.2.2.2.2.2.2.2.2.2.2.2.2.1 x.2.2.2.2.2.2.2.2.2.2.2.2.2.2) (fun _ => rfl) (qy2 k)
def qhY : List SS := [{ fr := [(0, .a (.ptr 0 0 0)), (1, .a (.ptr 0 0 0)), (2, .a (.ptr 1 0 0)), (7, .a (.smz 2)), (29, .a (.lf (.sl (.int .u32)))), (30, .a (.lf (.int .i64))), (31, .a (.lf (.int .i64)))], mem := [(0, some (.raw [[.lf .bool, .lf (.sl (.int .u32))]] 2 98 true false)), (1, some (.raw [[.lf .bool, .lf (.sl (.int .u32))]] 2 98 true false)), (2, some (.arr (.int .u32) 1 72 false))], nx := 3 }]
def ql6 : List OS := [⟨some 0, { fr := [(0, .a (.ptr 0 0 0)), (1, .a (.ptr 0 0 0)), (2, .a (.ptr 1 0 0)), (7, .a (.smz 2))], mem := [(0, some (.raw [[.lf .bool, .lf (.sl (.int .u32))]] 2 98 true false)), (1, some (.raw [[.lf .bool, .lf (.sl (.int .u32))]] 2 98 true false)), (2, some (.arr (.int .u32) 1 72 false))], nx := 3 }⟩]
def ql7 (k : Nat) : LInst := ⟨0, qhY, ql6, fun x => qaO k k x.1 x.2.1 x.2.2.1 x.2.2.2.1 x.2.2.2.2.1 x.2.2.2.2.2.1 x.2.2.2.2.2.2.1 x.2.2.2.2.2.2.2.1 x.2.2.2.2.2.2.2.2⟩
theorem qy4 (k : Nat) : qf (LOk (R := DS OS.D ql6) (fun b _ σ K => LOt Ty (kps 84) 2 b σ K [qf3 k]) cf (call cf k) (kps 84) Try.f84.ntmps k 2) 0 (lb Try.f84 0) :=
 qA qT (qA (qA qT qT) (qA (qA qT (qA qT (qA (qA qT (qz (c := cf) (callF := call cf k) (kp := kps 84) (nt := Try.f84.ntmps) (k := k) (p := 2) (b := 2) (x0 := lb Try.f84 1) (l := [qf3 k]) (qA (fun _ => qy3 k) qT))) qT))) qT))
theorem qy5 (k n : Nat) (x : DS SS.D qhY) : qaO k (n + 1) x.1 x.2.1 x.2.2.1 x.2.2.2.1 x.2.2.2.2.1 x.2.2.2.2.2.1 x.2.2.2.2.2.2.1 x.2.2.2.2.2.2.2.1 x.2.2.2.2.2.2.2.2 = qE SS.enc (fun σ => qF cf (fun f a b K => COt f a b K [qht k]) (fun b _ σ K => LOt Ty (kps 84) 2 b σ K [qf3 k]) Try.f84.ntmps 0 (lb Try.f84 0) σ (qJ Ty (kps 84 0) 2 qhY ql6 fun x => qaO k n x.1 x.2.1 x.2.2.1 x.2.2.2.1 x.2.2.2.2.1 x.2.2.2.2.2.1 x.2.2.2.2.2.2.1 x.2.2.2.2.2.2.2.1 x.2.2.2.2.2.2.2.2)) qhY x := by kernel_rfl
theorem qy6 (k : Nat) : qac cf (call cf k) (kps 84) Try.f84.ntmps k 2 0 (lb Try.f84 0) (ql7 k) :=
 qr (c := cf) (callF := call cf k) (kp := kps 84) (nt := Try.f84.ntmps) (k := k) (p := 2) (b := 0) (x0 := lb Try.f84 0) (hs := qhY) (os := ql6) (qd (qvM k)) (qy4 k) (fun n x => qaO k n x.1 x.2.1 x.2.2.1 x.2.2.2.1 x.2.2.2.2.1 x.2.2.2.2.2.1 x.2.2.2.2.2.2.1 x.2.2.2.2.2.2.2.1 x.2.2.2.2.2.2.2.2) (fun _ => rfl) (qy5 k)
theorem qHa (k : Nat) : qf (LOk (R := DS FS.D qtk) (fun b _ σ K => LOt Ty (kps 84) 2 b σ K [qf3 k, ql7 k]) cf (call cf k) (cf.keep 84) Try.f84.ntmps k qnW.bs.length) 0 (bd Try.f84) :=
 qA qT (qA qT (qA (qA qT (qz (c := cf) (callF := call cf k) (kp := kps 84) (nt := Try.f84.ntmps) (k := k) (p := 2) (b := 0) (x0 := lb Try.f84 0) (l := [qf3 k, ql7 k]) (qA (fun h => absurd (show (2 : Nat) = 0 from h) (by decide)) (qA (fun _ => qy6 k) qT)))) (qA qT qT)))
theorem qHb (k : Nat) (x : qnW.D) : qbJ (k + 1) x.1 x.2.1 x.2.2.1 x.2.2.2 = qi cf (fun f a b K => COt f a b K [qht k]) (fun b _ σ K => LOt Ty (kps 84) 2 b σ K [qf3 k, ql7 k]) 84 Try.f84.ntmps Try.f84.results.toList (bd Try.f84) (qnW.enc x).1 (qnW.enc x).2 (qj FS.dec qtk) := by kernel_rfl
theorem qy7 : ∀ k, qh (call cf k) (Iq5 k)
 | 0 => fun x y e => absurd (show (none : Option _) = some y from e) (by simp)
 | k + 1 => qe (c := cf) (k := k) (f := 84) (fn := Try.f84) (body := bd Try.f84) (sh := qnW) (os := qtk) rfl Try.func84 rfl ⟨rfl, Nat.le_of_ble_eq_true rfl⟩ (qd (qvM k)) (qHa k) (fun x => qbJ (k + 1) x.1 x.2.1 x.2.2.1 x.2.2.2) (qHb k)

def qey (k : Nat) (rec : Int → Int → Bool → List Int → Bool → List Int → Option (Bool × List Int × Bool × List Int)) (x : Int) (x1 : Int) (z0 : Bool) (z1 : List Int) (ten0 : Bool) (ten1 : List Int) : Option (Bool × List Int × Bool × List Int) :=
 if ((decide (x1 < x)) = true) then
 Option.bind (qbJ k z0 z1 ten0 ten1) fun r4 =>
 rec x (IntKind.wrap .i64 (x1 + (1 : Int))) r4.1 r4.2.1 r4.2.2.1 r4.2.2.2
 else
 (some (z0, z1, ten0, ten1))
def qcG (k n : Nat) : Int → Int → Bool → List Int → Bool → List Int → Option (Bool × List Int × Bool × List Int) := Nat.rec (fun _ _ _ _ _ _ => none) (fun _ r => qey k r) n
def qvN (k : Nat) (k1 : Int) : Option (Bool × List Int) :=
 Option.bind (qai k (1 : Int)) fun r2 =>
 Option.bind (qai k (10 : Int)) fun r3 =>
 Option.bind (qcG k k k1 (0 : Int) r2.1 r2.2 r3.1 r3.2) fun r4 =>
 (some (r4.1, r4.2.1))
def qfl : Nat → Int → Option (Bool × List Int)
 | 0, _ => none
 | k + 1, k1 => qvN k k1
def qjj : FS := { vs := [.a (.lf (.int .i64))], bs := [] }
def qo0 : List FS := [{ vs := [.a (.ptr 0 0 0)], bs := [.raw [[.lf .bool, .lf (.sl (.int .u32))]] 2 98 true false] }]
def qvO (k : Nat) : Inst := ⟨92, qjj, qo0, fun x => qfl k x⟩
theorem qwX (k : Nat) : qn (call cf k) [qfb k, Iq5 k] := qA (qjh k) (qA (qy7 k) qT)
def qhZ : List SS := [{ fr := [(3, .a (.ptr 0 0 0)), (4, .a (.ptr 1 0 0)), (7, .a (.lf (.int .i64))), (8, .a (.lf (.int .i64)))], mem := [(0, some (.raw [[.lf .bool, .lf (.sl (.int .u32))]] 2 98 true false)), (1, some (.raw [[.lf .bool, .lf (.sl (.int .u32))]] 2 98 true false))], nx := 2 }]
def ql8 : List OS := [⟨some 0, { fr := [(3, .a (.ptr 0 0 0))], mem := [(0, some (.raw [[.lf .bool, .lf (.sl (.int .u32))]] 2 98 true false)), (1, some (.raw [[.lf .bool, .lf (.sl (.int .u32))]] 2 98 true false))], nx := 2 }⟩]
def ql9 (k : Nat) : LInst := ⟨0, qhZ, ql8, fun x => qcG k k x.1 x.2.1 x.2.2.1 x.2.2.2.1 x.2.2.2.2.1 x.2.2.2.2.2⟩
theorem qy8 (k : Nat) : qf (LOk (R := DS OS.D ql8) (fun b _ σ K => LOt Ty (kps 92) 0 b σ K []) cf (call cf k) (kps 92) Try.f92.ntmps k 0) 0 (lb Try.f92 0) :=
 qA qT (qA (qA qT qT) (qA qT qT))
theorem qy9 (k n : Nat) (x : DS SS.D qhZ) : qcG k (n + 1) x.1 x.2.1 x.2.2.1 x.2.2.2.1 x.2.2.2.2.1 x.2.2.2.2.2 = qE SS.enc (fun σ => qF cf (fun f a b K => COt f a b K [qfb k, Iq5 k]) (fun b _ σ K => LOt Ty (kps 92) 0 b σ K []) Try.f92.ntmps 0 (lb Try.f92 0) σ (qJ Ty (kps 92 0) 0 qhZ ql8 fun x => qcG k n x.1 x.2.1 x.2.2.1 x.2.2.2.1 x.2.2.2.2.1 x.2.2.2.2.2)) qhZ x := by kernel_rfl
theorem qza (k : Nat) : qac cf (call cf k) (kps 92) Try.f92.ntmps k 0 0 (lb Try.f92 0) (ql9 k) :=
 qr (c := cf) (callF := call cf k) (kp := kps 92) (nt := Try.f92.ntmps) (k := k) (p := 0) (b := 0) (x0 := lb Try.f92 0) (hs := qhZ) (os := ql8) (qd (qwX k)) (qy8 k) (fun n x => qcG k n x.1 x.2.1 x.2.2.1 x.2.2.2.1 x.2.2.2.2.1 x.2.2.2.2.2) (fun _ => rfl) (qy9 k)
theorem qCw (k : Nat) : qf (LOk (R := DS FS.D qo0) (fun b _ σ K => LOt Ty (kps 92) 0 b σ K [ql9 k]) cf (call cf k) (cf.keep 92) Try.f92.ntmps k qjj.bs.length) 0 (bd Try.f92) :=
 qA qT (qA qT (qA (qA qT (qz (c := cf) (callF := call cf k) (kp := kps 92) (nt := Try.f92.ntmps) (k := k) (p := 0) (b := 0) (x0 := lb Try.f92 0) (l := [ql9 k]) (qA (fun _ => qza k) qT))) (qA qT qT)))
theorem qCx (k : Nat) (x : qjj.D) : qfl (k + 1) x = qi cf (fun f a b K => COt f a b K [qfb k, Iq5 k]) (fun b _ σ K => LOt Ty (kps 92) 0 b σ K [ql9 k]) 92 Try.f92.ntmps Try.f92.results.toList (bd Try.f92) (qjj.enc x).1 (qjj.enc x).2 (qj FS.dec qo0) := by kernel_rfl
theorem qCy : ∀ k, qh (call cf k) (qvO k)
 | 0 => fun x y e => absurd (show (none : Option _) = some y from e) (by simp)
 | k + 1 => qe (c := cf) (k := k) (f := 92) (fn := Try.f92) (body := bd Try.f92) (sh := qjj) (os := qo0) rfl Try.func92 rfl ⟨rfl, Nat.le_of_ble_eq_true rfl⟩ (qd (qwX k)) (qCw k) (fun x => qfl (k + 1) x) (qCx k)

def qcH (k : Nat) (rec : List Int → List Int → Int → Option ((Int) ⊕ (Unit))) (a : List Int) (b : List Int) (i : Int) : Option ((Int) ⊕ (Unit)) :=
 if ((decide (i ≥ (0 : Int))) = true) then
 if ((0 : Int) ≤ i) then
 Option.bind (a)[(Int.toNat i)]? fun x2 =>
 if ((0 : Int) ≤ i) then
 Option.bind (b)[(Int.toNat i)]? fun x3 =>
 if ((x2 != x3) = true) then
 if ((0 : Int) ≤ i) then
 Option.bind (a)[(Int.toNat i)]? fun x4 =>
 if ((0 : Int) ≤ i) then
 Option.bind (b)[(Int.toNat i)]? fun x5 =>
 if ((decide (x4 < x5)) = true) then
 (some (Sum.inl (-(1 : Int))))
 else
 (some (Sum.inl (1 : Int)))
 else
 none
 else
 none
 else
 rec a b (IntKind.wrap .i64 (i - (1 : Int)))
 else
 none
 else
 none
 else
 (some (Sum.inr ()))
def qcI (k n : Nat) : List Int → List Int → Int → Option ((Int) ⊕ (Unit)) := Nat.rec (fun _ _ _ => none) (fun _ r => qcH k r) n
def qk4 (k : Nat) (a : List Int) (b : List Int) : Option (Int) :=
 if (((((List.length a) : Nat) : Int) != (((List.length b) : Nat) : Int)) = true) then
 if ((decide ((((List.length a) : Nat) : Int) < (((List.length b) : Nat) : Int))) = true) then
 (some (-(1 : Int)))
 else
 (some (1 : Int))
 else
 Option.bind (qcI k k a b (IntKind.wrap .i64 ((((List.length a) : Nat) : Int) - (1 : Int)))) fun r4 =>
 qc r4
 (fun r4 =>
 (some r4))
 (fun r4 =>
 (some (0 : Int)))
def qd3 : Nat → List Int → List Int → Option (Int)
 | 0, _, _ => none
 | k + 1, a, b => qk4 k a b
def qjk : FS := { vs := [.a (.lf (.sl (.int .u32))), .a (.lf (.sl (.int .u32)))], bs := [] }
def qo1 : List FS := [{ vs := [.a (.lf (.int .i64))], bs := [] }]
def qk5 (k : Nat) : Inst := ⟨111, qjk, qo1, fun x => qd3 k x.1 x.2⟩
theorem qwY (k : Nat) : qn (call cf k) [] := True.intro
def qh0 : List SS := [{ fr := [(0, .a (.lf (.sl (.int .u32)))), (1, .a (.lf (.sl (.int .u32)))), (5, .a (.lf (.int .i64)))], mem := [], nx := 0 }]
def qma : List OS := [⟨none, { fr := [(4, .a (.lf (.int .i64)))], mem := [], nx := 0 }⟩, ⟨some 0, { fr := [], mem := [], nx := 0 }⟩]
def qmb (k : Nat) : LInst := ⟨0, qh0, qma, fun x => qcI k k x.1 x.2.1 x.2.2⟩
theorem qzb (k : Nat) : qf (LOk (R := DS OS.D qma) (fun b _ σ K => LOt Ty (kps 111) 0 b σ K []) cf (call cf k) (kps 111) Try.f111.ntmps k 0) 0 (lb Try.f111 0) :=
 qA (qA qT (qA qT qT)) (qA (qA qT (qA (qA (qA qT (qA (qA qT qT) qT)) (qA qT qT)) qT)) qT)
theorem qzc (k n : Nat) (x : DS SS.D qh0) : qcI k (n + 1) x.1 x.2.1 x.2.2 = qE SS.enc (fun σ => qF cf (fun f a b K => COt f a b K []) (fun b _ σ K => LOt Ty (kps 111) 0 b σ K []) Try.f111.ntmps 0 (lb Try.f111 0) σ (qJ Ty (kps 111 0) 0 qh0 qma fun x => qcI k n x.1 x.2.1 x.2.2)) qh0 x := by kernel_rfl
theorem qzd (k : Nat) : qac cf (call cf k) (kps 111) Try.f111.ntmps k 0 0 (lb Try.f111 0) (qmb k) :=
 qr (c := cf) (callF := call cf k) (kp := kps 111) (nt := Try.f111.ntmps) (k := k) (p := 0) (b := 0) (x0 := lb Try.f111 0) (hs := qh0) (os := qma) (qd (qwY k)) (qzb k) (fun n x => qcI k n x.1 x.2.1 x.2.2) (fun _ => rfl) (qzc k)
theorem qCz (k : Nat) : qf (LOk (R := DS FS.D qo1) (fun b _ σ K => LOt Ty (kps 111) 0 b σ K [qmb k]) cf (call cf k) (cf.keep 111) Try.f111.ntmps k qjk.bs.length) 0 (bd Try.f111) :=
 qA qT (qA (qA qT (qA (qA (qA qT (qA (qA qT qT) qT)) (qA qT qT)) qT)) (qA (qA qT (qz (c := cf) (callF := call cf k) (kp := kps 111) (nt := Try.f111.ntmps) (k := k) (p := 0) (b := 0) (x0 := lb Try.f111 0) (l := [qmb k]) (qA (fun _ => qzd k) qT))) (qA qT qT)))
theorem qCA (k : Nat) (x : qjk.D) : qd3 (k + 1) x.1 x.2 = qi cf (fun f a b K => COt f a b K []) (fun b _ σ K => LOt Ty (kps 111) 0 b σ K [qmb k]) 111 Try.f111.ntmps Try.f111.results.toList (bd Try.f111) (qjk.enc x).1 (qjk.enc x).2 (qj FS.dec qo1) := by kernel_rfl
theorem qtl : ∀ k, qh (call cf k) (qk5 k)
 | 0 => fun x y e => absurd (show (none : Option _) = some y from e) (by simp)
 | k + 1 => qe (c := cf) (k := k) (f := 111) (fn := Try.f111) (body := bd Try.f111) (sh := qjk) (os := qo1) rfl Try.func111 rfl ⟨rfl, Nat.le_of_ble_eq_true rfl⟩ (qd (qwY k)) (qCz k) (fun x => qd3 (k + 1) x.1 x.2) (qCA k)

def qdH (k : Nat) (rec : List Int → Int → Nat → Int → Int → List Int → Option (Nat × Int × List Int)) (a : List Int) (d : Int) (q : Nat) (r : Int) (i : Int) (qs : List Int) : Option (Nat × Int × List Int) :=
 if ((decide (i ≥ (0 : Int))) = true) then
 if ((0 : Int) ≤ i) then
 Option.bind (a)[(Int.toNat i)]? fun x3 =>
 if ((IntKind.wrap .u64 d) = (0 : Int)) then
 none
 else
 if (((0 : Int) ≤ i) ∧ (i < ((q : Nat) : Int))) then
 Option.bind (qs)[(0 + (Int.toNat i))]? fun x4 =>
 if ((IntKind.wrap .u64 d) = (0 : Int)) then
 none
 else
 rec a d q (Int.tmod (IntKind.wrap .u64 (((BitVec.toNat ((BitVec.ofInt 64 (IntKind.wrap .u64 (r * (4294967296 : Int)))) ||| (BitVec.ofInt 64 (IntKind.wrap .u64 x3)))) : Nat) : Int)) (IntKind.wrap .u64 d)) (IntKind.wrap .i64 (i - (1 : Int))) (List.set qs (0 + (Int.toNat i)) (IntKind.wrap .u32 (IntKind.wrap .u64 (Int.tdiv (IntKind.wrap .u64 (((BitVec.toNat ((BitVec.ofInt 64 (IntKind.wrap .u64 (r * (4294967296 : Int)))) ||| (BitVec.ofInt 64 (IntKind.wrap .u64 x3)))) : Nat) : Int)) (IntKind.wrap .u64 d)))))
 else
 none
 else
 none
 else
 (some (q, r, qs))
def qb9 (k n : Nat) : List Int → Int → Nat → Int → Int → List Int → Option (Nat × Int × List Int) := Nat.rec (fun _ _ _ _ _ _ => none) (fun _ r => qdH k r) n
def qhu (k : Nat) (a : List Int) (d : Int) : Option (List Int × Int) :=
 if (((0 : Int) ≤ (((List.length a) : Nat) : Int)) ∧ (((((List.length a) : Nat) : Int) ≤ (((List.length a) : Nat) : Int)) ∧ (((((List.length a) : Nat) : Int) * (4 : Int)) ≤ (140737488355328 : Int)))) then
 Option.bind (qb9 k k a d (Int.toNat (((List.length a) : Nat) : Int)) (0 : Int) (IntKind.wrap .i64 ((((List.length a) : Nat) : Int) - (1 : Int))) (List.replicate (Int.toNat (((List.length a) : Nat) : Int)) (0 : Int))) fun r5 =>
 if ((0 + r5.1) ≤ (List.length r5.2.2)) then
 (some ((List.take r5.1 r5.2.2), (IntKind.wrap .u32 r5.2.1)))
 else
 none
 else
 none
def qej : Nat → List Int → Int → Option (List Int × Int)
 | 0, _, _ => none
 | k + 1, a, d => qhu k a d
def qjl : FS := { vs := [.a (.lf (.sl (.int .u32))), .a (.lf (.int .u32))], bs := [] }
def qo2 : List FS := [{ vs := [.a (.lf (.sl (.int .u32))), .a (.lf (.int .u32))], bs := [] }]
def qh1 (k : Nat) : Inst := ⟨103, qjl, qo2, fun x => qej k x.1 x.2⟩
theorem qwZ (k : Nat) : qn (call cf k) [] := True.intro
def qh2 : List SS := [{ fr := [(0, .a (.lf (.sl (.int .u32)))), (1, .a (.lf (.int .u32))), (6, .a (.smz 0)), (7, .a (.lf (.int .u64))), (8, .a (.lf (.int .i64)))], mem := [(0, some (.arr (.int .u32) 1 72 false))], nx := 1 }]
def qmc : List OS := [⟨some 0, { fr := [(6, .a (.smz 0)), (7, .a (.lf (.int .u64)))], mem := [(0, some (.arr (.int .u32) 1 72 false))], nx := 1 }⟩]
def qmd (k : Nat) : LInst := ⟨0, qh2, qmc, fun x => qb9 k k x.1 x.2.1 x.2.2.1 x.2.2.2.1 x.2.2.2.2.1 x.2.2.2.2.2⟩
theorem qze (k : Nat) : qf (LOk (R := DS OS.D qmc) (fun b _ σ K => LOt Ty (kps 103) 0 b σ K []) cf (call cf k) (kps 103) Try.f103.ntmps k 0) 0 (lb Try.f103 0) :=
 qA (qA qT (qA qT qT)) (qA (qA qT (qA qT qT)) qT)
theorem qzf (k n : Nat) (x : DS SS.D qh2) : qb9 k (n + 1) x.1 x.2.1 x.2.2.1 x.2.2.2.1 x.2.2.2.2.1 x.2.2.2.2.2 = qE SS.enc (fun σ => qF cf (fun f a b K => COt f a b K []) (fun b _ σ K => LOt Ty (kps 103) 0 b σ K []) Try.f103.ntmps 0 (lb Try.f103 0) σ (qJ Ty (kps 103 0) 0 qh2 qmc fun x => qb9 k n x.1 x.2.1 x.2.2.1 x.2.2.2.1 x.2.2.2.2.1 x.2.2.2.2.2)) qh2 x := by kernel_rfl
theorem qzg (k : Nat) : qac cf (call cf k) (kps 103) Try.f103.ntmps k 0 0 (lb Try.f103 0) (qmd k) :=
 qr (c := cf) (callF := call cf k) (kp := kps 103) (nt := Try.f103.ntmps) (k := k) (p := 0) (b := 0) (x0 := lb Try.f103 0) (hs := qh2) (os := qmc) (qd (qwZ k)) (qze k) (fun n x => qb9 k n x.1 x.2.1 x.2.2.1 x.2.2.2.1 x.2.2.2.2.1 x.2.2.2.2.2) (fun _ => rfl) (qzf k)
theorem qCB (k : Nat) : qf (LOk (R := DS FS.D qo2) (fun b _ σ K => LOt Ty (kps 103) 0 b σ K [qmd k]) cf (call cf k) (cf.keep 103) Try.f103.ntmps k qjl.bs.length) 0 (bd Try.f103) :=
 qA qT (qA qT (qA qT (qA (qA qT (qz (c := cf) (callF := call cf k) (kp := kps 103) (nt := Try.f103.ntmps) (k := k) (p := 0) (b := 0) (x0 := lb Try.f103 0) (l := [qmd k]) (qA (fun _ => qzg k) qT))) (qA qT qT))))
theorem qCC (k : Nat) (x : qjl.D) : qej (k + 1) x.1 x.2 = qi cf (fun f a b K => COt f a b K []) (fun b _ σ K => LOt Ty (kps 103) 0 b σ K [qmd k]) 103 Try.f103.ntmps Try.f103.results.toList (bd Try.f103) (qjl.enc x).1 (qjl.enc x).2 (qj FS.dec qo2) := by kernel_rfl
theorem qw0 : ∀ k, qh (call cf k) (qh1 k)
 | 0 => fun x y e => absurd (show (none : Option _) = some y from e) (by simp)
 | k + 1 => qe (c := cf) (k := k) (f := 103) (fn := Try.f103) (body := bd Try.f103) (sh := qjl) (os := qo2) rfl Try.func103 rfl ⟨rfl, Nat.le_of_ble_eq_true rfl⟩ (qd (qwZ k)) (qCB k) (fun x => qej (k + 1) x.1 x.2) (qCC k)

def qdI (k : Nat) (rec : Int → Nat → List Int → Int → Int → List Int → Option (Nat × List Int)) (bits : Int) (out1 : Nat) (x : List Int) (x1 : Int) (x2 : Int) (outs : List Int) : Option (Nat × List Int) :=
 if ((decide (x2 < x1)) = true) then
 if ((0 : Int) ≤ x2) then
 Option.bind (x)[(Int.toNat x2)]? fun x3 =>
 if (bits < (0 : Int)) then
 none
 else
 if (((0 : Int) ≤ x2) ∧ (x2 < ((out1 : Nat) : Int))) then
 Option.bind (outs)[(0 + (Int.toNat x2))]? fun x4 =>
 if (((0 : Int) ≤ x2) ∧ (x2 < ((out1 : Nat) : Int))) then
 Option.bind (outs)[(0 + (Int.toNat x2))]? fun x5 =>
 if (((0 : Int) ≤ (IntKind.wrap .i64 (x2 + (1 : Int)))) ∧ ((IntKind.wrap .i64 (x2 + (1 : Int))) < ((out1 : Nat) : Int))) then
 Option.bind ((List.set outs (0 + (Int.toNat x2)) (IntKind.wrap .u32 (((BitVec.toNat ((BitVec.ofInt 32 x4) ||| (BitVec.ofInt 32 (IntKind.wrap .u32 (IntKind.wrap .u64 ((IntKind.wrap .u64 x3) * ((2 : Int) ^ (min (Int.toNat bits) 64)))))))) : Nat) : Int))))[(0 + (Int.toNat (IntKind.wrap .i64 (x2 + (1 : Int)))))]? fun x6 =>
 rec bits out1 x x1 (IntKind.wrap .i64 (x2 + (1 : Int))) (List.set (List.set outs (0 + (Int.toNat x2)) (IntKind.wrap .u32 (((BitVec.toNat ((BitVec.ofInt 32 x4) ||| (BitVec.ofInt 32 (IntKind.wrap .u32 (IntKind.wrap .u64 ((IntKind.wrap .u64 x3) * ((2 : Int) ^ (min (Int.toNat bits) 64)))))))) : Nat) : Int))) (0 + (Int.toNat (IntKind.wrap .i64 (x2 + (1 : Int))))) (IntKind.wrap .u32 (Int.fdiv (IntKind.wrap .u64 ((IntKind.wrap .u64 x3) * ((2 : Int) ^ (min (Int.toNat bits) 64)))) (4294967296 : Int))))
 else
 none
 else
 none
 else
 none
 else
 none
 else
 (some (out1, outs))
def qca (k n : Nat) : Int → Nat → List Int → Int → Int → List Int → Option (Nat × List Int) := Nat.rec (fun _ _ _ _ _ _ => none) (fun _ r => qdI k r) n
def qhv (k : Nat) (a : List Int) (bits : Int) : Option (Nat × List Int) :=
 if (((0 : Int) ≤ (IntKind.wrap .i64 ((((List.length a) : Nat) : Int) + (1 : Int)))) ∧ (((IntKind.wrap .i64 ((((List.length a) : Nat) : Int) + (1 : Int))) ≤ (IntKind.wrap .i64 ((((List.length a) : Nat) : Int) + (1 : Int)))) ∧ (((IntKind.wrap .i64 ((((List.length a) : Nat) : Int) + (1 : Int))) * (4 : Int)) ≤ (140737488355328 : Int)))) then
 Option.bind (qca k k bits (Int.toNat (IntKind.wrap .i64 ((((List.length a) : Nat) : Int) + (1 : Int)))) a (((List.length a) : Nat) : Int) (0 : Int) (List.replicate (Int.toNat (IntKind.wrap .i64 ((((List.length a) : Nat) : Int) + (1 : Int)))) (0 : Int))) fun r6 =>
 (some (r6.1, r6.2))
 else
 none
def qdD : Nat → List Int → Int → Option (Nat × List Int)
 | 0, _, _ => none
 | k + 1, a, bits => qhv k a bits
def qjm : FS := { vs := [.a (.lf (.sl (.int .u32))), .a (.lf (.int .u64))], bs := [] }
def qo3 : List FS := [{ vs := [.a (.smz 0)], bs := [.arr (.int .u32) 1 72 false] }]
def qk6 (k : Nat) : Inst := ⟨125, qjm, qo3, fun x => qdD k x.1 x.2⟩
theorem qw1 (k : Nat) : qn (call cf k) [] := True.intro
def qh3 : List SS := [{ fr := [(1, .a (.lf (.int .u64))), (5, .a (.smz 0)), (13, .a (.lf (.sl (.int .u32)))), (14, .a (.lf (.int .i64))), (15, .a (.lf (.int .i64)))], mem := [(0, some (.arr (.int .u32) 1 72 false))], nx := 1 }]
def qme : List OS := [⟨some 0, { fr := [(5, .a (.smz 0))], mem := [(0, some (.arr (.int .u32) 1 72 false))], nx := 1 }⟩]
def qmf (k : Nat) : LInst := ⟨0, qh3, qme, fun x => qca k k x.1 x.2.1 x.2.2.1 x.2.2.2.1 x.2.2.2.2.1 x.2.2.2.2.2⟩
theorem qzh (k : Nat) : qf (LOk (R := DS OS.D qme) (fun b _ σ K => LOt Ty (kps 125) 0 b σ K []) cf (call cf k) (kps 125) Try.f125.ntmps k 0) 0 (lb Try.f125 0) :=
 qA qT (qA (qA qT qT) (qA (qA qT (qA qT (qA qT qT))) qT))
theorem qzi (k n : Nat) (x : DS SS.D qh3) : qca k (n + 1) x.1 x.2.1 x.2.2.1 x.2.2.2.1 x.2.2.2.2.1 x.2.2.2.2.2 = qE SS.enc (fun σ => qF cf (fun f a b K => COt f a b K []) (fun b _ σ K => LOt Ty (kps 125) 0 b σ K []) Try.f125.ntmps 0 (lb Try.f125 0) σ (qJ Ty (kps 125 0) 0 qh3 qme fun x => qca k n x.1 x.2.1 x.2.2.1 x.2.2.2.1 x.2.2.2.2.1 x.2.2.2.2.2)) qh3 x := by kernel_rfl
theorem qzj (k : Nat) : qac cf (call cf k) (kps 125) Try.f125.ntmps k 0 0 (lb Try.f125 0) (qmf k) :=
 qr (c := cf) (callF := call cf k) (kp := kps 125) (nt := Try.f125.ntmps) (k := k) (p := 0) (b := 0) (x0 := lb Try.f125 0) (hs := qh3) (os := qme) (qd (qw1 k)) (qzh k) (fun n x => qca k n x.1 x.2.1 x.2.2.1 x.2.2.2.1 x.2.2.2.2.1 x.2.2.2.2.2) (fun _ => rfl) (qzi k)
theorem qCD (k : Nat) : qf (LOk (R := DS FS.D qo3) (fun b _ σ K => LOt Ty (kps 125) 0 b σ K [qmf k]) cf (call cf k) (cf.keep 125) Try.f125.ntmps k qjm.bs.length) 0 (bd Try.f125) :=
 qA qT (qA qT (qA (qA qT (qz (c := cf) (callF := call cf k) (kp := kps 125) (nt := Try.f125.ntmps) (k := k) (p := 0) (b := 0) (x0 := lb Try.f125 0) (l := [qmf k]) (qA (fun _ => qzj k) qT))) (qA qT qT)))
theorem qCE (k : Nat) (x : qjm.D) : qdD (k + 1) x.1 x.2 = qi cf (fun f a b K => COt f a b K []) (fun b _ σ K => LOt Ty (kps 125) 0 b σ K [qmf k]) 125 Try.f125.ntmps Try.f125.results.toList (bd Try.f125) (qjm.enc x).1 (qjm.enc x).2 (qj FS.dec qo3) := by kernel_rfl
theorem qCF : ∀ k, qh (call cf k) (qk6 k)
 | 0 => fun x y e => absurd (show (none : Option _) = some y from e) (by simp)
 | k + 1 => qe (c := cf) (k := k) (f := 125) (fn := Try.f125) (body := bd Try.f125) (sh := qjm) (os := qo3) rfl Try.func125 rfl ⟨rfl, Nat.le_of_ble_eq_true rfl⟩ (qd (qw1 k)) (qCD k) (fun x => qdD (k + 1) x.1 x.2) (qCE k)

def qaz (k : Nat) (rec : Nat → Nat → Nat → Int → Int → Int → Int → Int → List Int → List Int → Option (Nat × Nat × Nat × Int × Int × List Int × List Int)) (u0 : Nat) (u1 : Nat) (v : Nat) (d : Int) (carry : Int) (borrow : Int) (x : Int) (x1 : Int) (us : List Int) (vs : List Int) : Option (Nat × Nat × Nat × Int × Int × List Int × List Int) :=
 if ((decide (x1 < x)) = true) then
 if ((decide (x1 < ((v : Nat) : Int))) = true) then
 if (((0 : Int) ≤ x1) ∧ (x1 < ((v : Nat) : Int))) then
 Option.bind (vs)[(0 + (Int.toNat x1))]? fun x6 =>
 if (((0 : Int) ≤ x1) ∧ (x1 < ((u1 : Nat) : Int))) then
 Option.bind (us)[(u0 + (Int.toNat x1))]? fun x7 =>
 if ((decide ((IntKind.wrap .u64 x7) < (IntKind.wrap .u64 ((IntKind.wrap .u64 (((BitVec.toNat ((BitVec.ofInt 64 (IntKind.wrap .u64 (carry + (IntKind.wrap .u64 (d * (IntKind.wrap .u64 x6)))))) &&& (BitVec.ofInt 64 (4294967295 : Int)))) : Nat) : Int)) + borrow)))) = true) then
 if (((0 : Int) ≤ x1) ∧ (x1 < ((u1 : Nat) : Int))) then
 Option.bind (us)[(u0 + (Int.toNat x1))]? fun x8 =>
 if (((0 : Int) ≤ x1) ∧ (x1 < ((u1 : Nat) : Int))) then
 Option.bind (us)[(u0 + (Int.toNat x1))]? fun x9 =>
 rec u0 u1 v d (Int.fdiv (IntKind.wrap .u64 (carry + (IntKind.wrap .u64 (d * (IntKind.wrap .u64 x6))))) (4294967296 : Int)) (1 : Int) x (IntKind.wrap .i64 (x1 + (1 : Int))) (List.set us (u0 + (Int.toNat x1)) (IntKind.wrap .u32 (IntKind.wrap .u64 ((IntKind.wrap .u64 x8) - (IntKind.wrap .u64 ((IntKind.wrap .u64 (((BitVec.toNat ((BitVec.ofInt 64 (IntKind.wrap .u64 (carry + (IntKind.wrap .u64 (d * (IntKind.wrap .u64 x6)))))) &&& (BitVec.ofInt 64 (4294967295 : Int)))) : Nat) : Int)) + borrow)))))) vs
 else
 none
 else
 none
 else
 if (((0 : Int) ≤ x1) ∧ (x1 < ((u1 : Nat) : Int))) then
 Option.bind (us)[(u0 + (Int.toNat x1))]? fun x8 =>
 if (((0 : Int) ≤ x1) ∧ (x1 < ((u1 : Nat) : Int))) then
 Option.bind (us)[(u0 + (Int.toNat x1))]? fun x9 =>
 rec u0 u1 v d (Int.fdiv (IntKind.wrap .u64 (carry + (IntKind.wrap .u64 (d * (IntKind.wrap .u64 x6))))) (4294967296 : Int)) (0 : Int) x (IntKind.wrap .i64 (x1 + (1 : Int))) (List.set us (u0 + (Int.toNat x1)) (IntKind.wrap .u32 (IntKind.wrap .u64 ((IntKind.wrap .u64 x8) - (IntKind.wrap .u64 ((IntKind.wrap .u64 (((BitVec.toNat ((BitVec.ofInt 64 (IntKind.wrap .u64 (carry + (IntKind.wrap .u64 (d * (IntKind.wrap .u64 x6)))))) &&& (BitVec.ofInt 64 (4294967295 : Int)))) : Nat) : Int)) + borrow)))))) vs
 else
 none
 else
 none
 else
 none
 else
 none
 else
 if (((0 : Int) ≤ x1) ∧ (x1 < ((u1 : Nat) : Int))) then
 Option.bind (us)[(u0 + (Int.toNat x1))]? fun x6 =>
 if ((decide ((IntKind.wrap .u64 x6) < (IntKind.wrap .u64 ((IntKind.wrap .u64 (((BitVec.toNat ((BitVec.ofInt 64 carry) &&& (BitVec.ofInt 64 (4294967295 : Int)))) : Nat) : Int)) + borrow)))) = true) then
 if (((0 : Int) ≤ x1) ∧ (x1 < ((u1 : Nat) : Int))) then
 Option.bind (us)[(u0 + (Int.toNat x1))]? fun x7 =>
 if (((0 : Int) ≤ x1) ∧ (x1 < ((u1 : Nat) : Int))) then
 Option.bind (us)[(u0 + (Int.toNat x1))]? fun x8 =>
 rec u0 u1 v d (Int.fdiv carry (4294967296 : Int)) (1 : Int) x (IntKind.wrap .i64 (x1 + (1 : Int))) (List.set us (u0 + (Int.toNat x1)) (IntKind.wrap .u32 (IntKind.wrap .u64 ((IntKind.wrap .u64 x7) - (IntKind.wrap .u64 ((IntKind.wrap .u64 (((BitVec.toNat ((BitVec.ofInt 64 carry) &&& (BitVec.ofInt 64 (4294967295 : Int)))) : Nat) : Int)) + borrow)))))) vs
 else
 none
 else
 none
 else
 if (((0 : Int) ≤ x1) ∧ (x1 < ((u1 : Nat) : Int))) then
 Option.bind (us)[(u0 + (Int.toNat x1))]? fun x7 =>
 if (((0 : Int) ≤ x1) ∧ (x1 < ((u1 : Nat) : Int))) then
 Option.bind (us)[(u0 + (Int.toNat x1))]? fun x8 =>
 rec u0 u1 v d (Int.fdiv carry (4294967296 : Int)) (0 : Int) x (IntKind.wrap .i64 (x1 + (1 : Int))) (List.set us (u0 + (Int.toNat x1)) (IntKind.wrap .u32 (IntKind.wrap .u64 ((IntKind.wrap .u64 x7) - (IntKind.wrap .u64 ((IntKind.wrap .u64 (((BitVec.toNat ((BitVec.ofInt 64 carry) &&& (BitVec.ofInt 64 (4294967295 : Int)))) : Nat) : Int)) + borrow)))))) vs
 else
 none
 else
 none
 else
 none
 else
 (some (u0, u1, v, d, borrow, us, vs))
def qag (k n : Nat) : Nat → Nat → Nat → Int → Int → Int → Int → Int → List Int → List Int → Option (Nat × Nat × Nat × Int × Int × List Int × List Int) := Nat.rec (fun _ _ _ _ _ _ _ _ _ _ => none) (fun _ r => qaz k r) n
def qbK (k : Nat) (rec : Nat → Nat → Nat → Int → Int → Int → Int → List Int → List Int → Option (Int × List Int × List Int)) (u0 : Nat) (u1 : Nat) (v : Nat) (d : Int) (carry : Int) (x : Int) (x1 : Int) (us : List Int) (vs : List Int) : Option (Int × List Int × List Int) :=
 if ((decide (x1 < x)) = true) then
 if (((0 : Int) ≤ x1) ∧ (x1 < ((u1 : Nat) : Int))) then
 Option.bind (us)[(u0 + (Int.toNat x1))]? fun x6 =>
 if ((decide (x1 < ((v : Nat) : Int))) = true) then
 if (((0 : Int) ≤ x1) ∧ (x1 < ((v : Nat) : Int))) then
 Option.bind (vs)[(0 + (Int.toNat x1))]? fun x7 =>
 if (((0 : Int) ≤ x1) ∧ (x1 < ((u1 : Nat) : Int))) then
 Option.bind (us)[(u0 + (Int.toNat x1))]? fun x8 =>
 rec u0 u1 v d (Int.fdiv (IntKind.wrap .u64 ((IntKind.wrap .u64 ((IntKind.wrap .u64 x6) + carry)) + (IntKind.wrap .u64 x7))) (4294967296 : Int)) x (IntKind.wrap .i64 (x1 + (1 : Int))) (List.set us (u0 + (Int.toNat x1)) (IntKind.wrap .u32 (IntKind.wrap .u64 ((IntKind.wrap .u64 ((IntKind.wrap .u64 x6) + carry)) + (IntKind.wrap .u64 x7))))) vs
 else
 none
 else
 none
 else
 if (((0 : Int) ≤ x1) ∧ (x1 < ((u1 : Nat) : Int))) then
 Option.bind (us)[(u0 + (Int.toNat x1))]? fun x7 =>
 rec u0 u1 v d (Int.fdiv (IntKind.wrap .u64 ((IntKind.wrap .u64 x6) + carry)) (4294967296 : Int)) x (IntKind.wrap .i64 (x1 + (1 : Int))) (List.set us (u0 + (Int.toNat x1)) (IntKind.wrap .u32 (IntKind.wrap .u64 ((IntKind.wrap .u64 x6) + carry)))) vs
 else
 none
 else
 none
 else
 (some (d, us, vs))
def qaG (k n : Nat) : Nat → Nat → Nat → Int → Int → Int → Int → List Int → List Int → Option (Int × List Int × List Int) := Nat.rec (fun _ _ _ _ _ _ _ _ _ => none) (fun _ r => qbK k r) n
def qeF (k : Nat) (u0 : Nat) (u1 : Nat) (v : Nat) (d : Int) (us : List Int) (vs : List Int) : Option (Int × List Int × List Int) :=
 Option.bind (qag k k u0 u1 v d (0 : Int) (0 : Int) ((u1 : Nat) : Int) (0 : Int) us vs) fun r9 =>
 if ((r9.2.2.2.2.1 == (0 : Int)) = true) then
 (some ((IntKind.wrap .u32 r9.2.2.2.1), r9.2.2.2.2.2.1, r9.2.2.2.2.2.2))
 else
 Option.bind (qaG k k r9.1 r9.2.1 r9.2.2.1 r9.2.2.2.1 (0 : Int) ((r9.2.1 : Nat) : Int) (0 : Int) r9.2.2.2.2.2.1 r9.2.2.2.2.2.2) fun r10 =>
 (some ((IntKind.wrap .u32 (IntKind.wrap .u64 (r10.1 - (1 : Int)))), r10.2.1, r10.2.2))
def qdg : Nat → Nat → Nat → Nat → Int → List Int → List Int → Option (Int × List Int × List Int)
 | 0, _, _, _, _, _, _ => none
 | k + 1, u0, u1, v, d, us, vs => qeF k u0 u1 v d us vs
def qjn : FS := { vs := [.a (.sms 0), .a (.smz 1), .a (.lf (.int .u64))], bs := [.arr (.int .u32) 1 72 false, .arr (.int .u32) 1 72 false] }
def qo4 : List FS := [{ vs := [.a (.lf (.int .u32))], bs := [.arr (.int .u32) 1 72 false, .arr (.int .u32) 1 72 false] }]
def qk7 (k : Nat) : Inst := ⟨126, qjn, qo4, fun x => qdg k x.1 x.2.1 x.2.2.1 x.2.2.2.1 x.2.2.2.2.1 x.2.2.2.2.2⟩
theorem qtm (k : Nat) : qn (call cf k) [] := True.intro
def qh4 : List SS := [{ fr := [(0, .a (.sms 0)), (1, .a (.smz 1)), (2, .a (.lf (.int .u64))), (7, .a (.lf (.int .u64))), (8, .a (.lf (.int .u64))), (14, .a (.lf (.int .i64))), (15, .a (.lf (.int .i64)))], mem := [(0, some (.arr (.int .u32) 1 72 false)), (1, some (.arr (.int .u32) 1 72 false))], nx := 2 }]
def qmg : List OS := [⟨some 0, { fr := [(0, .a (.sms 0)), (1, .a (.smz 1)), (2, .a (.lf (.int .u64))), (8, .a (.lf (.int .u64)))], mem := [(0, some (.arr (.int .u32) 1 72 false)), (1, some (.arr (.int .u32) 1 72 false))], nx := 2 }⟩]
def qf4 (k : Nat) : LInst := ⟨0, qh4, qmg, fun x => qag k k x.1 x.2.1 x.2.2.1 x.2.2.2.1 x.2.2.2.2.1 x.2.2.2.2.2.1 x.2.2.2.2.2.2.1 x.2.2.2.2.2.2.2.1 x.2.2.2.2.2.2.2.2.1 x.2.2.2.2.2.2.2.2.2⟩
theorem qzk (k : Nat) : qf (LOk (R := DS OS.D qmg) (fun b _ σ K => LOt Ty (kps 126) 2 b σ K []) cf (call cf k) (kps 126) Try.f126.ntmps k 2) 0 (lb Try.f126 0) :=
 qA qT (qA (qA qT qT) (qA (qA qT (qA (qA qT (qA qT qT)) (qA qT (qA qT (qA (qA qT (qA qT qT)) (qA qT qT)))))) qT))
theorem qzl (k n : Nat) (x : DS SS.D qh4) : qag k (n + 1) x.1 x.2.1 x.2.2.1 x.2.2.2.1 x.2.2.2.2.1 x.2.2.2.2.2.1 x.2.2.2.2.2.2.1 x.2.2.2.2.2.2.2.1 x.2.2.2.2.2.2.2.2.1 x.2.2.2.2.2.2.2.2.2 = qE SS.enc (fun σ => qF cf (fun f a b K => COt f a b K []) (fun b _ σ K => LOt Ty (kps 126) 2 b σ K []) Try.f126.ntmps 0 (lb Try.f126 0) σ (qJ Ty (kps 126 0) 2 qh4 qmg fun x => qag k n x.1 x.2.1 x.2.2.1 x.2.2.2.1 x.2.2.2.2.1 x.2.2.2.2.2.1 x.2.2.2.2.2.2.1 x.2.2.2.2.2.2.2.1 x.2.2.2.2.2.2.2.2.1 x.2.2.2.2.2.2.2.2.2)) qh4 x := by kernel_rfl
theorem qzm (k : Nat) : qac cf (call cf k) (kps 126) Try.f126.ntmps k 2 0 (lb Try.f126 0) (qf4 k) :=
 qr (c := cf) (callF := call cf k) (kp := kps 126) (nt := Try.f126.ntmps) (k := k) (p := 2) (b := 0) (x0 := lb Try.f126 0) (hs := qh4) (os := qmg) (qd (qtm k)) (qzk k) (fun n x => qag k n x.1 x.2.1 x.2.2.1 x.2.2.2.1 x.2.2.2.2.1 x.2.2.2.2.2.1 x.2.2.2.2.2.2.1 x.2.2.2.2.2.2.2.1 x.2.2.2.2.2.2.2.2.1 x.2.2.2.2.2.2.2.2.2) (fun _ => rfl) (qzl k)
def qh5 : List SS := [{ fr := [(0, .a (.sms 0)), (1, .a (.smz 1)), (2, .a (.lf (.int .u64))), (7, .a (.lf (.int .u64))), (61, .a (.lf (.int .i64))), (62, .a (.lf (.int .i64)))], mem := [(0, some (.arr (.int .u32) 1 72 false)), (1, some (.arr (.int .u32) 1 72 false))], nx := 2 }]
def qmh : List OS := [⟨some 2, { fr := [(2, .a (.lf (.int .u64)))], mem := [(0, some (.arr (.int .u32) 1 72 false)), (1, some (.arr (.int .u32) 1 72 false))], nx := 2 }⟩]
def qh6 (k : Nat) : LInst := ⟨2, qh5, qmh, fun x => qaG k k x.1 x.2.1 x.2.2.1 x.2.2.2.1 x.2.2.2.2.1 x.2.2.2.2.2.1 x.2.2.2.2.2.2.1 x.2.2.2.2.2.2.2.1 x.2.2.2.2.2.2.2.2⟩
theorem qzn (k : Nat) : qf (LOk (R := DS OS.D qmh) (fun b _ σ K => LOt Ty (kps 126) 2 b σ K [qf4 k]) cf (call cf k) (kps 126) Try.f126.ntmps k 2) 2 (lb Try.f126 1) :=
 qA qT (qA (qA qT qT) (qA (qA qT (qA qT (qA (qA qT (qA qT qT)) (qA qT qT)))) qT))
theorem qzo (k n : Nat) (x : DS SS.D qh5) : qaG k (n + 1) x.1 x.2.1 x.2.2.1 x.2.2.2.1 x.2.2.2.2.1 x.2.2.2.2.2.1 x.2.2.2.2.2.2.1 x.2.2.2.2.2.2.2.1 x.2.2.2.2.2.2.2.2 = qE SS.enc (fun σ => qF cf (fun f a b K => COt f a b K []) (fun b _ σ K => LOt Ty (kps 126) 2 b σ K [qf4 k]) Try.f126.ntmps 2 (lb Try.f126 1) σ (qJ Ty (kps 126 2) 2 qh5 qmh fun x => qaG k n x.1 x.2.1 x.2.2.1 x.2.2.2.1 x.2.2.2.2.1 x.2.2.2.2.2.1 x.2.2.2.2.2.2.1 x.2.2.2.2.2.2.2.1 x.2.2.2.2.2.2.2.2)) qh5 x := by kernel_rfl
theorem qzp (k : Nat) : qac cf (call cf k) (kps 126) Try.f126.ntmps k 2 2 (lb Try.f126 1) (qh6 k) :=
 qr (c := cf) (callF := call cf k) (kp := kps 126) (nt := Try.f126.ntmps) (k := k) (p := 2) (b := 2) (x0 := lb Try.f126 1) (hs := qh5) (os := qmh) (qd (qtm k)) (qzn k) (fun n x => qaG k n x.1 x.2.1 x.2.2.1 x.2.2.2.1 x.2.2.2.2.1 x.2.2.2.2.2.1 x.2.2.2.2.2.2.1 x.2.2.2.2.2.2.2.1 x.2.2.2.2.2.2.2.2) (fun _ => rfl) (qzo k)
theorem qCG (k : Nat) : qf (LOk (R := DS FS.D qo4) (fun b _ σ K => LOt Ty (kps 126) 2 b σ K [qf4 k, qh6 k]) cf (call cf k) (cf.keep 126) Try.f126.ntmps k qjn.bs.length) 0 (bd Try.f126) :=
 qA qT (qA qT (qA (qA qT (qz (c := cf) (callF := call cf k) (kp := kps 126) (nt := Try.f126.ntmps) (k := k) (p := 2) (b := 0) (x0 := lb Try.f126 0) (l := [qf4 k, qh6 k]) (qA (fun _ => qzm k) (qA (fun h => absurd (show (2 : Nat) = 0 from h) (by decide)) qT)))) (qA (qA qT (qA (qA qT qT) qT)) (qA qT (qA (qA qT (qz (c := cf) (callF := call cf k) (kp := kps 126) (nt := Try.f126.ntmps) (k := k) (p := 2) (b := 2) (x0 := lb Try.f126 1) (l := [qf4 k, qh6 k]) (qA (fun h => absurd (show (0 : Nat) = 2 from h) (by decide)) (qA (fun _ => qzp k) qT)))) (qA qT qT))))))
theorem qCH (k : Nat) (x : qjn.D) : qdg (k + 1) x.1 x.2.1 x.2.2.1 x.2.2.2.1 x.2.2.2.2.1 x.2.2.2.2.2 = qi cf (fun f a b K => COt f a b K []) (fun b _ σ K => LOt Ty (kps 126) 2 b σ K [qf4 k, qh6 k]) 126 Try.f126.ntmps Try.f126.results.toList (bd Try.f126) (qjn.enc x).1 (qjn.enc x).2 (qj FS.dec qo4) := by kernel_rfl
theorem qCI : ∀ k, qh (call cf k) (qk7 k)
 | 0 => fun x y e => absurd (show (none : Option _) = some y from e) (by simp)
 | k + 1 => qe (c := cf) (k := k) (f := 126) (fn := Try.f126) (body := bd Try.f126) (sh := qjn) (os := qo4) rfl Try.func126 rfl ⟨rfl, Nat.le_of_ble_eq_true rfl⟩ (qd (qtm k)) (qCG k) (fun x => qdg (k + 1) x.1 x.2.1 x.2.2.1 x.2.2.2.1 x.2.2.2.2.1 x.2.2.2.2.2) (qCH k)

def qd4 (k : Nat) (rec : List Int → List Int → Int → Option (List Int × List Int × Int)) (a : List Int) (b : List Int) (bits : Int) : Option (List Int × List Int × Int) :=
 if ((0 : Int) ≤ (IntKind.wrap .i64 ((((List.length b) : Nat) : Int) - (1 : Int)))) then
 Option.bind (b)[(Int.toNat (IntKind.wrap .i64 ((((List.length b) : Nat) : Int) - (1 : Int))))]? fun x2 =>
 if (bits < (0 : Int)) then
 none
 else
 if (((Int.fdiv (IntKind.wrap .u32 (x2 * ((2 : Int) ^ (min (Int.toNat bits) 32)))) (2147483648 : Int)) == (0 : Int)) = true) then
 rec a b (IntKind.wrap .u64 (bits + (1 : Int)))
 else
 (some (a, b, bits))
 else
 none
def qcJ (k n : Nat) : List Int → List Int → Int → Option (List Int × List Int × Int) := Nat.rec (fun _ _ _ => none) (fun _ r => qd4 k r) n
def qbe (k : Nat) (rec : Nat → Int → Int → Nat → Nat → Int → Int → Int → List Int → List Int → List Int → Option (Nat × Int × Int × Nat × Nat × Int × Int × List Int × List Int × List Int)) (q : Nat) (bits : Int) (n : Int) (u : Nat) (v : Nat) (j : Int) (d : Int) (rest : Int) (qs : List Int) (us : List Int) (vs : List Int) : Option (Nat × Int × Int × Nat × Nat × Int × Int × List Int × List Int × List Int) :=
 if ((decide (d > (4294967295 : Int))) = false) then
 if ((decide (rest ≤ (4294967295 : Int))) = true) then
 if (((0 : Int) ≤ (IntKind.wrap .i64 (n - (2 : Int)))) ∧ ((IntKind.wrap .i64 (n - (2 : Int))) < ((v : Nat) : Int))) then
 Option.bind (vs)[(0 + (Int.toNat (IntKind.wrap .i64 (n - (2 : Int)))))]? fun x6 =>
 if (((0 : Int) ≤ (IntKind.wrap .i64 ((IntKind.wrap .i64 (j + n)) - (2 : Int)))) ∧ ((IntKind.wrap .i64 ((IntKind.wrap .i64 (j + n)) - (2 : Int))) < ((u : Nat) : Int))) then
 Option.bind (us)[(0 + (Int.toNat (IntKind.wrap .i64 ((IntKind.wrap .i64 (j + n)) - (2 : Int)))))]? fun x7 =>
 if ((decide ((IntKind.wrap .u64 (d * (IntKind.wrap .u64 x6))) > (IntKind.wrap .u64 (((BitVec.toNat ((BitVec.ofInt 64 (IntKind.wrap .u64 (rest * (4294967296 : Int)))) ||| (BitVec.ofInt 64 (IntKind.wrap .u64 x7)))) : Nat) : Int)))) = true) then
 if (((0 : Int) ≤ (IntKind.wrap .i64 (n - (1 : Int)))) ∧ ((IntKind.wrap .i64 (n - (1 : Int))) < ((v : Nat) : Int))) then
 Option.bind (vs)[(0 + (Int.toNat (IntKind.wrap .i64 (n - (1 : Int)))))]? fun x8 =>
 if ((decide ((IntKind.wrap .u64 (rest + (IntKind.wrap .u64 x8))) > (4294967295 : Int))) = true) then
 (some (q, bits, n, u, v, j, (IntKind.wrap .u64 (d - (1 : Int))), qs, us, vs))
 else
 rec q bits n u v j (IntKind.wrap .u64 (d - (1 : Int))) (IntKind.wrap .u64 (rest + (IntKind.wrap .u64 x8))) qs us vs
 else
 none
 else
 (some (q, bits, n, u, v, j, d, qs, us, vs))
 else
 none
 else
 none
 else
 (some (q, bits, n, u, v, j, d, qs, us, vs))
 else
 if (((0 : Int) ≤ (IntKind.wrap .i64 (n - (1 : Int)))) ∧ ((IntKind.wrap .i64 (n - (1 : Int))) < ((v : Nat) : Int))) then
 Option.bind (vs)[(0 + (Int.toNat (IntKind.wrap .i64 (n - (1 : Int)))))]? fun x6 =>
 if ((decide ((IntKind.wrap .u64 (rest + (IntKind.wrap .u64 x6))) > (4294967295 : Int))) = true) then
 (some (q, bits, n, u, v, j, (IntKind.wrap .u64 (d - (1 : Int))), qs, us, vs))
 else
 rec q bits n u v j (IntKind.wrap .u64 (d - (1 : Int))) (IntKind.wrap .u64 (rest + (IntKind.wrap .u64 x6))) qs us vs
 else
 none
def qbs (k n : Nat) : Nat → Int → Int → Nat → Nat → Int → Int → Int → List Int → List Int → List Int → Option (Nat × Int × Int × Nat × Nat × Int × Int × List Int × List Int × List Int) := Nat.rec (fun _ _ _ _ _ _ _ _ _ _ _ => none) (fun _ r => qbe k r) n
def qd5 (k : Nat) (rec : Nat → Int → Int → Nat → Nat → Int → List Int → List Int → List Int → Option (Nat × Int × Int × Nat × List Int × List Int × List Int)) (q : Nat) (bits : Int) (n : Int) (u : Nat) (v : Nat) (j : Int) (qs : List Int) (us : List Int) (vs : List Int) : Option (Nat × Int × Int × Nat × List Int × List Int × List Int) :=
 if ((decide (j ≥ (0 : Int))) = true) then
 if (((0 : Int) ≤ (IntKind.wrap .i64 (j + n))) ∧ ((IntKind.wrap .i64 (j + n)) < ((u : Nat) : Int))) then
 Option.bind (us)[(0 + (Int.toNat (IntKind.wrap .i64 (j + n))))]? fun x2 =>
 if (((0 : Int) ≤ (IntKind.wrap .i64 ((IntKind.wrap .i64 (j + n)) - (1 : Int)))) ∧ ((IntKind.wrap .i64 ((IntKind.wrap .i64 (j + n)) - (1 : Int))) < ((u : Nat) : Int))) then
 Option.bind (us)[(0 + (Int.toNat (IntKind.wrap .i64 ((IntKind.wrap .i64 (j + n)) - (1 : Int)))))]? fun x3 =>
 if (((0 : Int) ≤ (IntKind.wrap .i64 (n - (1 : Int)))) ∧ ((IntKind.wrap .i64 (n - (1 : Int))) < ((v : Nat) : Int))) then
 Option.bind (vs)[(0 + (Int.toNat (IntKind.wrap .i64 (n - (1 : Int)))))]? fun x4 =>
 if ((IntKind.wrap .u64 x4) = (0 : Int)) then
 none
 else
 if (((0 : Int) ≤ (IntKind.wrap .i64 (n - (1 : Int)))) ∧ ((IntKind.wrap .i64 (n - (1 : Int))) < ((v : Nat) : Int))) then
 Option.bind (vs)[(0 + (Int.toNat (IntKind.wrap .i64 (n - (1 : Int)))))]? fun x5 =>
 if ((IntKind.wrap .u64 x5) = (0 : Int)) then
 none
 else
 Option.bind (qbs k k q bits n u v j (IntKind.wrap .u64 (Int.tdiv (IntKind.wrap .u64 (((BitVec.toNat ((BitVec.ofInt 64 (IntKind.wrap .u64 ((IntKind.wrap .u64 x2) * (4294967296 : Int)))) ||| (BitVec.ofInt 64 (IntKind.wrap .u64 x3)))) : Nat) : Int)) (IntKind.wrap .u64 x4))) (Int.tmod (IntKind.wrap .u64 (((BitVec.toNat ((BitVec.ofInt 64 (IntKind.wrap .u64 ((IntKind.wrap .u64 x2) * (4294967296 : Int)))) ||| (BitVec.ofInt 64 (IntKind.wrap .u64 x3)))) : Nat) : Int)) (IntKind.wrap .u64 x5)) qs us vs) fun r8 =>
 if (((0 : Int) ≤ r8.2.2.2.2.2.1) ∧ ((r8.2.2.2.2.2.1 ≤ (IntKind.wrap .i64 ((IntKind.wrap .i64 (r8.2.2.2.2.2.1 + r8.2.2.1)) + (1 : Int)))) ∧ (((0 + (Int.toNat (IntKind.wrap .i64 ((IntKind.wrap .i64 (r8.2.2.2.2.2.1 + r8.2.2.1)) + (1 : Int))))) ≤ (List.length r8.2.2.2.2.2.2.2.2.1)) ∧ ((r8.2.2.2.2.2.1 < (IntKind.wrap .i64 ((IntKind.wrap .i64 (r8.2.2.2.2.2.1 + r8.2.2.1)) + (1 : Int)))) ∨ (false = true))))) then
 Option.bind (qdg k (0 + (Int.toNat r8.2.2.2.2.2.1)) ((Int.toNat (IntKind.wrap .i64 ((IntKind.wrap .i64 (r8.2.2.2.2.2.1 + r8.2.2.1)) + (1 : Int)))) - (Int.toNat r8.2.2.2.2.2.1)) r8.2.2.2.2.1 r8.2.2.2.2.2.2.1 r8.2.2.2.2.2.2.2.2.1 r8.2.2.2.2.2.2.2.2.2) fun r9 =>
 if (((0 : Int) ≤ r8.2.2.2.2.2.1) ∧ (r8.2.2.2.2.2.1 < ((r8.1 : Nat) : Int))) then
 Option.bind (r8.2.2.2.2.2.2.2.1)[(0 + (Int.toNat r8.2.2.2.2.2.1))]? fun x6 =>
 rec r8.1 r8.2.1 r8.2.2.1 r8.2.2.2.1 r8.2.2.2.2.1 (IntKind.wrap .i64 (r8.2.2.2.2.2.1 - (1 : Int))) (List.set r8.2.2.2.2.2.2.2.1 (0 + (Int.toNat r8.2.2.2.2.2.1)) r9.1) r9.2.1 r9.2.2
 else
 none
 else
 none
 else
 none
 else
 none
 else
 none
 else
 none
 else
 (some (q, bits, n, u, qs, us, vs))
def qc6 (k n : Nat) : Nat → Int → Int → Nat → Nat → Int → List Int → List Int → List Int → Option (Nat × Int × Int × Nat × List Int × List Int × List Int) := Nat.rec (fun _ _ _ _ _ _ _ _ _ => none) (fun _ r => qd5 k r) n
def qd6 (k : Nat) (rec : Nat → Nat → Int → Nat → Int → Int → List Int → List Int → List Int → Option (Nat × Nat × List Int × List Int × List Int)) (q : Nat) (r : Nat) (bits : Int) (u : Nat) (x : Int) (x1 : Int) (qs : List Int) (rs : List Int) (us : List Int) : Option (Nat × Nat × List Int × List Int × List Int) :=
 if ((decide (x1 < x)) = true) then
 if (((0 : Int) ≤ x1) ∧ (x1 < ((u : Nat) : Int))) then
 Option.bind (us)[(0 + (Int.toNat x1))]? fun x2 =>
 if (bits < (0 : Int)) then
 none
 else
 if (((0 : Int) ≤ (IntKind.wrap .i64 (x1 + (1 : Int)))) ∧ ((IntKind.wrap .i64 (x1 + (1 : Int))) < ((u : Nat) : Int))) then
 Option.bind (us)[(0 + (Int.toNat (IntKind.wrap .i64 (x1 + (1 : Int)))))]? fun x3 =>
 if ((IntKind.wrap .u64 ((32 : Int) - bits)) < (0 : Int)) then
 none
 else
 if (((0 : Int) ≤ x1) ∧ (x1 < ((r : Nat) : Int))) then
 Option.bind (rs)[(0 + (Int.toNat x1))]? fun x4 =>
 rec q r bits u x (IntKind.wrap .i64 (x1 + (1 : Int))) qs (List.set rs (0 + (Int.toNat x1)) (IntKind.wrap .u32 (((BitVec.toNat ((BitVec.ofInt 32 (Int.fdiv x2 ((2 : Int) ^ (min (Int.toNat bits) 32)))) ||| (BitVec.ofInt 32 (IntKind.wrap .u32 (IntKind.wrap .u64 ((IntKind.wrap .u64 x3) * ((2 : Int) ^ (min (Int.toNat (IntKind.wrap .u64 ((32 : Int) - bits))) 64)))))))) : Nat) : Int))) us
 else
 none
 else
 none
 else
 none
 else
 (some (q, r, qs, rs, us))
def qcK (k n : Nat) : Nat → Nat → Int → Nat → Int → Int → List Int → List Int → List Int → Option (Nat × Nat × List Int × List Int × List Int) := Nat.rec (fun _ _ _ _ _ _ _ _ _ => none) (fun _ r => qd6 k r) n
def qh7 (k : Nat) (a : List Int) (b : List Int) : Option (List Int × List Int) :=
 Option.bind (qcJ k k a b (0 : Int)) fun r5 =>
 Option.bind (qdD k r5.1 r5.2.2) fun r6 =>
 Option.bind (qdD k r5.2.1 r5.2.2) fun r7 =>
 if (((0 : Int) ≤ (0 : Int)) ∧ (((0 : Int) ≤ (((List.length r5.2.1) : Nat) : Int)) ∧ (((0 + (Int.toNat (((List.length r5.2.1) : Nat) : Int))) ≤ (List.length r7.2)) ∧ (((0 : Int) < (((List.length r5.2.1) : Nat) : Int)) ∨ (true = true))))) then
 if (((0 : Int) ≤ (IntKind.wrap .i64 (((r6.1 : Nat) : Int) - (((List.length r5.2.1) : Nat) : Int)))) ∧ (((IntKind.wrap .i64 (((r6.1 : Nat) : Int) - (((List.length r5.2.1) : Nat) : Int))) ≤ (IntKind.wrap .i64 (((r6.1 : Nat) : Int) - (((List.length r5.2.1) : Nat) : Int)))) ∧ (((IntKind.wrap .i64 (((r6.1 : Nat) : Int) - (((List.length r5.2.1) : Nat) : Int))) * (4 : Int)) ≤ (140737488355328 : Int)))) then
 Option.bind (qc6 k k (Int.toNat (IntKind.wrap .i64 (((r6.1 : Nat) : Int) - (((List.length r5.2.1) : Nat) : Int)))) r5.2.2 (((List.length r5.2.1) : Nat) : Int) r6.1 (Int.toNat (((List.length r5.2.1) : Nat) : Int)) (IntKind.wrap .i64 ((IntKind.wrap .i64 (((r6.1 : Nat) : Int) - (((List.length r5.2.1) : Nat) : Int))) - (1 : Int))) (List.replicate (Int.toNat (IntKind.wrap .i64 (((r6.1 : Nat) : Int) - (((List.length r5.2.1) : Nat) : Int)))) (0 : Int)) r6.2 r7.2) fun r8 =>
 if (((0 : Int) ≤ r8.2.2.1) ∧ ((r8.2.2.1 ≤ r8.2.2.1) ∧ ((r8.2.2.1 * (4 : Int)) ≤ (140737488355328 : Int)))) then
 Option.bind (qcK k k r8.1 (Int.toNat r8.2.2.1) r8.2.1 r8.2.2.2.1 r8.2.2.1 (0 : Int) r8.2.2.2.2.1 (List.replicate (Int.toNat r8.2.2.1) (0 : Int)) r8.2.2.2.2.2.1) fun r9 =>
 if ((0 + r9.1) ≤ (List.length r9.2.2.1)) then
 if ((0 + r9.2.1) ≤ (List.length r9.2.2.2.1)) then
 (some ((List.take r9.1 r9.2.2.1), (List.take r9.2.1 r9.2.2.2.1)))
 else
 none
 else
 none
 else
 none
 else
 none
 else
 none
def qeZ : Nat → List Int → List Int → Option (List Int × List Int)
 | 0, _, _ => none
 | k + 1, a, b => qh7 k a b
def qjo : FS := { vs := [.a (.lf (.sl (.int .u32))), .a (.lf (.sl (.int .u32)))], bs := [] }
def qo5 : List FS := [{ vs := [.a (.lf (.sl (.int .u32))), .a (.lf (.sl (.int .u32)))], bs := [] }]
def qvP (k : Nat) : Inst := ⟨124, qjo, qo5, fun x => qeZ k x.1 x.2⟩
theorem qmi (k : Nat) : qn (call cf k) [qk6 k, qk7 k] := qA (qCF k) (qA (qCI k) qT)
def qh8 : List SS := [{ fr := [(0, .a (.lf (.sl (.int .u32)))), (1, .a (.lf (.sl (.int .u32)))), (6, .a (.lf (.int .u64)))], mem := [], nx := 0 }]
def qmj : List OS := [⟨some 0, { fr := [(0, .a (.lf (.sl (.int .u32)))), (1, .a (.lf (.sl (.int .u32)))), (6, .a (.lf (.int .u64)))], mem := [], nx := 0 }⟩]
def qdx (k : Nat) : LInst := ⟨0, qh8, qmj, fun x => qcJ k k x.1 x.2.1 x.2.2⟩
theorem qzq (k : Nat) : qf (LOk (R := DS OS.D qmj) (fun b _ σ K => LOt Ty (kps 124) 0 b σ K []) cf (call cf k) (kps 124) Try.f124.ntmps k 0) 0 (lb Try.f124 0) :=
 qA (qA qT (qA qT qT)) qT
theorem qzr (k n : Nat) (x : DS SS.D qh8) : qcJ k (n + 1) x.1 x.2.1 x.2.2 = qE SS.enc (fun σ => qF cf (fun f a b K => COt f a b K [qk6 k, qk7 k]) (fun b _ σ K => LOt Ty (kps 124) 0 b σ K []) Try.f124.ntmps 0 (lb Try.f124 0) σ (qJ Ty (kps 124 0) 0 qh8 qmj fun x => qcJ k n x.1 x.2.1 x.2.2)) qh8 x := by kernel_rfl
theorem qzs (k : Nat) : qac cf (call cf k) (kps 124) Try.f124.ntmps k 0 0 (lb Try.f124 0) (qdx k) :=
 qr (c := cf) (callF := call cf k) (kp := kps 124) (nt := Try.f124.ntmps) (k := k) (p := 0) (b := 0) (x0 := lb Try.f124 0) (hs := qh8) (os := qmj) (qd (qmi k)) (qzq k) (fun n x => qcJ k n x.1 x.2.1 x.2.2) (fun _ => rfl) (qzr k)
def qh9 : List SS := [{ fr := [(4, .a (.smz 0)), (6, .a (.lf (.int .u64))), (7, .a (.lf (.int .i64))), (8, .a (.smz 1)), (9, .a (.smz 2)), (10, .a (.lf (.int .i64))), (12, .a (.lf (.int .u64))), (13, .a (.lf (.int .u64)))], mem := [(0, some (.arr (.int .u32) 1 72 false)), (1, some (.arr (.int .u32) 1 72 false)), (2, some (.arr (.int .u32) 1 72 false))], nx := 3 }]
def qmk : List OS := [⟨some 4, { fr := [(4, .a (.smz 0)), (6, .a (.lf (.int .u64))), (7, .a (.lf (.int .i64))), (8, .a (.smz 1)), (9, .a (.smz 2)), (10, .a (.lf (.int .i64))), (12, .a (.lf (.int .u64)))], mem := [(0, some (.arr (.int .u32) 1 72 false)), (1, some (.arr (.int .u32) 1 72 false)), (2, some (.arr (.int .u32) 1 72 false))], nx := 3 }⟩]
def qd7 (k : Nat) : LInst := ⟨4, qh9, qmk, fun x => qbs k k x.1 x.2.1 x.2.2.1 x.2.2.2.1 x.2.2.2.2.1 x.2.2.2.2.2.1 x.2.2.2.2.2.2.1 x.2.2.2.2.2.2.2.1 x.2.2.2.2.2.2.2.2.1 x.2.2.2.2.2.2.2.2.2.1 x.2.2.2.2.2.2.2.2.2.2⟩
theorem qzt (k : Nat) : qf (LOk (R := DS OS.D qmk) (fun b _ σ K => LOt Ty (kps 124) 0 b σ K [qdx k]) cf (call cf k) (kps 124) Try.f124.ntmps k 0) 4 (lb Try.f124 2) :=
 qA (qA qT (qA qT qT)) (qA qT (qA qT (qA qT (qA qT qT))))
theorem qzu (k n : Nat) (x : DS SS.D qh9) : qbs k (n + 1) x.1 x.2.1 x.2.2.1 x.2.2.2.1 x.2.2.2.2.1 x.2.2.2.2.2.1 x.2.2.2.2.2.2.1 x.2.2.2.2.2.2.2.1 x.2.2.2.2.2.2.2.2.1 x.2.2.2.2.2.2.2.2.2.1 x.2.2.2.2.2.2.2.2.2.2 = qE SS.enc (fun σ => qF cf (fun f a b K => COt f a b K [qk6 k, qk7 k]) (fun b _ σ K => LOt Ty (kps 124) 0 b σ K [qdx k]) Try.f124.ntmps 4 (lb Try.f124 2) σ (qJ Ty (kps 124 4) 0 qh9 qmk fun x => qbs k n x.1 x.2.1 x.2.2.1 x.2.2.2.1 x.2.2.2.2.1 x.2.2.2.2.2.1 x.2.2.2.2.2.2.1 x.2.2.2.2.2.2.2.1 x.2.2.2.2.2.2.2.2.1 x.2.2.2.2.2.2.2.2.2.1 x.2.2.2.2.2.2.2.2.2.2)) qh9 x := by kernel_rfl
theorem qzv (k : Nat) : qac cf (call cf k) (kps 124) Try.f124.ntmps k 0 4 (lb Try.f124 2) (qd7 k) :=
 qr (c := cf) (callF := call cf k) (kp := kps 124) (nt := Try.f124.ntmps) (k := k) (p := 0) (b := 4) (x0 := lb Try.f124 2) (hs := qh9) (os := qmk) (qd (qmi k)) (qzt k) (fun n x => qbs k n x.1 x.2.1 x.2.2.1 x.2.2.2.1 x.2.2.2.2.1 x.2.2.2.2.2.1 x.2.2.2.2.2.2.1 x.2.2.2.2.2.2.2.1 x.2.2.2.2.2.2.2.2.1 x.2.2.2.2.2.2.2.2.2.1 x.2.2.2.2.2.2.2.2.2.2) (fun _ => rfl) (qzu k)
def qia : List SS := [{ fr := [(4, .a (.smz 0)), (6, .a (.lf (.int .u64))), (7, .a (.lf (.int .i64))), (8, .a (.smz 1)), (9, .a (.smz 2)), (10, .a (.lf (.int .i64)))], mem := [(0, some (.arr (.int .u32) 1 72 false)), (1, some (.arr (.int .u32) 1 72 false)), (2, some (.arr (.int .u32) 1 72 false))], nx := 3 }]
def qml : List OS := [⟨some 2, { fr := [(4, .a (.smz 0)), (6, .a (.lf (.int .u64))), (7, .a (.lf (.int .i64))), (8, .a (.smz 1))], mem := [(0, some (.arr (.int .u32) 1 72 false)), (1, some (.arr (.int .u32) 1 72 false)), (2, some (.arr (.int .u32) 1 72 false))], nx := 3 }⟩]
def qfH (k : Nat) : LInst := ⟨2, qia, qml, fun x => qc6 k k x.1 x.2.1 x.2.2.1 x.2.2.2.1 x.2.2.2.2.1 x.2.2.2.2.2.1 x.2.2.2.2.2.2.1 x.2.2.2.2.2.2.2.1 x.2.2.2.2.2.2.2.2⟩
theorem qzw (k : Nat) : qf (LOk (R := DS OS.D qml) (fun b _ σ K => LOt Ty (kps 124) 0 b σ K [qdx k, qd7 k]) cf (call cf k) (kps 124) Try.f124.ntmps k 0) 2 (lb Try.f124 1) :=
 qA (qA qT (qA qT qT)) (qA (qA qT (qA qT (qA (qz (c := cf) (callF := call cf k) (kp := kps 124) (nt := Try.f124.ntmps) (k := k) (p := 0) (b := 4) (x0 := lb Try.f124 2) (l := [qdx k, qd7 k]) (qA (fun h => absurd (show (0 : Nat) = 4 from h) (by decide)) (qA (fun _ => qzv k) qT))) qT))) qT)
theorem qzx (k n : Nat) (x : DS SS.D qia) : qc6 k (n + 1) x.1 x.2.1 x.2.2.1 x.2.2.2.1 x.2.2.2.2.1 x.2.2.2.2.2.1 x.2.2.2.2.2.2.1 x.2.2.2.2.2.2.2.1 x.2.2.2.2.2.2.2.2 = qE SS.enc (fun σ => qF cf (fun f a b K => COt f a b K [qk6 k, qk7 k]) (fun b _ σ K => LOt Ty (kps 124) 0 b σ K [qdx k, qd7 k]) Try.f124.ntmps 2 (lb Try.f124 1) σ (qJ Ty (kps 124 2) 0 qia qml fun x => qc6 k n x.1 x.2.1 x.2.2.1 x.2.2.2.1 x.2.2.2.2.1 x.2.2.2.2.2.1 x.2.2.2.2.2.2.1 x.2.2.2.2.2.2.2.1 x.2.2.2.2.2.2.2.2)) qia x := by kernel_rfl
theorem qzy (k : Nat) : qac cf (call cf k) (kps 124) Try.f124.ntmps k 0 2 (lb Try.f124 1) (qfH k) :=
 qr (c := cf) (callF := call cf k) (kp := kps 124) (nt := Try.f124.ntmps) (k := k) (p := 0) (b := 2) (x0 := lb Try.f124 1) (hs := qia) (os := qml) (qd (qmi k)) (qzw k) (fun n x => qc6 k n x.1 x.2.1 x.2.2.1 x.2.2.2.1 x.2.2.2.2.1 x.2.2.2.2.2.1 x.2.2.2.2.2.2.1 x.2.2.2.2.2.2.2.1 x.2.2.2.2.2.2.2.2) (fun _ => rfl) (qzx k)
def qib : List SS := [{ fr := [(4, .a (.smz 0)), (5, .a (.smz 1)), (6, .a (.lf (.int .u64))), (8, .a (.smz 2)), (139, .a (.lf (.int .i64))), (140, .a (.lf (.int .i64)))], mem := [(0, some (.arr (.int .u32) 1 72 false)), (1, some (.arr (.int .u32) 1 72 false)), (2, some (.arr (.int .u32) 1 72 false))], nx := 3 }]
def qmm : List OS := [⟨some 6, { fr := [(4, .a (.smz 0)), (5, .a (.smz 1))], mem := [(0, some (.arr (.int .u32) 1 72 false)), (1, some (.arr (.int .u32) 1 72 false)), (2, some (.arr (.int .u32) 1 72 false))], nx := 3 }⟩]
def qgX (k : Nat) : LInst := ⟨6, qib, qmm, fun x => qcK k k x.1 x.2.1 x.2.2.1 x.2.2.2.1 x.2.2.2.2.1 x.2.2.2.2.2.1 x.2.2.2.2.2.2.1 x.2.2.2.2.2.2.2.1 x.2.2.2.2.2.2.2.2⟩
theorem qzz (k : Nat) : qf (LOk (R := DS OS.D qmm) (fun b _ σ K => LOt Ty (kps 124) 0 b σ K [qdx k, qd7 k, qfH k]) cf (call cf k) (kps 124) Try.f124.ntmps k 0) 6 (lb Try.f124 3) :=
 qA qT (qA (qA qT qT) (qA (qA qT qT) qT))
theorem qzA (k n : Nat) (x : DS SS.D qib) : qcK k (n + 1) x.1 x.2.1 x.2.2.1 x.2.2.2.1 x.2.2.2.2.1 x.2.2.2.2.2.1 x.2.2.2.2.2.2.1 x.2.2.2.2.2.2.2.1 x.2.2.2.2.2.2.2.2 = qE SS.enc (fun σ => qF cf (fun f a b K => COt f a b K [qk6 k, qk7 k]) (fun b _ σ K => LOt Ty (kps 124) 0 b σ K [qdx k, qd7 k, qfH k]) Try.f124.ntmps 6 (lb Try.f124 3) σ (qJ Ty (kps 124 6) 0 qib qmm fun x => qcK k n x.1 x.2.1 x.2.2.1 x.2.2.2.1 x.2.2.2.2.1 x.2.2.2.2.2.1 x.2.2.2.2.2.2.1 x.2.2.2.2.2.2.2.1 x.2.2.2.2.2.2.2.2)) qib x := by kernel_rfl
theorem qzB (k : Nat) : qac cf (call cf k) (kps 124) Try.f124.ntmps k 0 6 (lb Try.f124 3) (qgX k) :=
 qr (c := cf) (callF := call cf k) (kp := kps 124) (nt := Try.f124.ntmps) (k := k) (p := 0) (b := 6) (x0 := lb Try.f124 3) (hs := qib) (os := qmm) (qd (qmi k)) (qzz k) (fun n x => qcK k n x.1 x.2.1 x.2.2.1 x.2.2.2.1 x.2.2.2.2.1 x.2.2.2.2.2.1 x.2.2.2.2.2.2.1 x.2.2.2.2.2.2.2.1 x.2.2.2.2.2.2.2.2) (fun _ => rfl) (qzA k)
theorem qCJ (k : Nat) : qf (LOk (R := DS FS.D qo5) (fun b _ σ K => LOt Ty (kps 124) 0 b σ K [qdx k, qd7 k, qfH k, qgX k]) cf (call cf k) (cf.keep 124) Try.f124.ntmps k qjo.bs.length) 0 (bd Try.f124) :=
 qA qT (qA qT (qA (qz (c := cf) (callF := call cf k) (kp := kps 124) (nt := Try.f124.ntmps) (k := k) (p := 0) (b := 0) (x0 := lb Try.f124 0) (l := [qdx k, qd7 k, qfH k, qgX k]) (qA (fun _ => qzs k) (qA (fun h => absurd (show (4 : Nat) = 0 from h) (by decide)) (qA (fun h => absurd (show (2 : Nat) = 0 from h) (by decide)) (qA (fun h => absurd (show (6 : Nat) = 0 from h) (by decide)) qT))))) (qA qT (qA qT (qA qT (qA (qA qT (qz (c := cf) (callF := call cf k) (kp := kps 124) (nt := Try.f124.ntmps) (k := k) (p := 0) (b := 2) (x0 := lb Try.f124 1) (l := [qdx k, qd7 k, qfH k, qgX k]) (qA (fun h => absurd (show (0 : Nat) = 2 from h) (by decide)) (qA (fun h => absurd (show (4 : Nat) = 2 from h) (by decide)) (qA (fun _ => qzy k) (qA (fun h => absurd (show (6 : Nat) = 2 from h) (by decide)) qT)))))) (qA qT (qA (qA qT (qz (c := cf) (callF := call cf k) (kp := kps 124) (nt := Try.f124.ntmps) (k := k) (p := 0) (b := 6) (x0 := lb Try.f124 3) (l := [qdx k, qd7 k, qfH k, qgX k]) (qA (fun h => absurd (show (0 : Nat) = 6 from h) (by decide)) (qA (fun h => absurd (show (4 : Nat) = 6 from h) (by decide)) (qA (fun h => absurd (show (2 : Nat) = 6 from h) (by decide)) (qA (fun _ => qzB k) qT)))))) (qA qT qT)))))))))
theorem qCK (k : Nat) (x : qjo.D) : qeZ (k + 1) x.1 x.2 = qi cf (fun f a b K => COt f a b K [qk6 k, qk7 k]) (fun b _ σ K => LOt Ty (kps 124) 0 b σ K [qdx k, qd7 k, qfH k, qgX k]) 124 Try.f124.ntmps Try.f124.results.toList (bd Try.f124) (qjo.enc x).1 (qjo.enc x).2 (qj FS.dec qo5) := by kernel_rfl
theorem qCL : ∀ k, qh (call cf k) (qvP k)
 | 0 => fun x y e => absurd (show (none : Option _) = some y from e) (by simp)
 | k + 1 => qe (c := cf) (k := k) (f := 124) (fn := Try.f124) (body := bd Try.f124) (sh := qjo) (os := qo5) rfl Try.func124 rfl ⟨rfl, Nat.le_of_ble_eq_true rfl⟩ (qd (qmi k)) (qCJ k) (fun x => qeZ (k + 1) x.1 x.2) (qCK k)

def qdm (k : Nat) (a : List Int) (b : List Int) : Option (List Int × List Int) :=
 Option.bind (qd3 k a b) fun r4 =>
 if ((decide (r4 < (0 : Int))) = true) then
 (some ([], a))
 else
 if (((((List.length b) : Nat) : Int) == (1 : Int)) = true) then
 Option.bind (b)[0]? fun x2 =>
 Option.bind (qej k a x2) fun r5 =>
 (some (r5.1, (List.take 1 (r5.2 :: []))))
 else
 Option.bind (qeZ k a b) fun r5 =>
 (some (r5.1, r5.2))
def qcL : Nat → List Int → List Int → Option (List Int × List Int)
 | 0, _, _ => none
 | k + 1, a, b => qdm k a b
def qjp : FS := { vs := [.a (.lf (.sl (.int .u32))), .a (.lf (.sl (.int .u32)))], bs := [] }
def qo6 : List FS := [{ vs := [.a (.lf (.sl (.int .u32))), .a (.lf (.sl (.int .u32)))], bs := [] }]
def qnX (k : Nat) : Inst := ⟨121, qjp, qo6, fun x => qcL k x.1 x.2⟩
theorem qCM (k : Nat) : qn (call cf k) [qk5 k, qh1 k, qvP k] := qA (qtl k) (qA (qw0 k) (qA (qCL k) qT))
theorem qCN (k : Nat) : qf (LOk (R := DS FS.D qo6) (fun b _ σ K => LOt Ty (kps 121) 0 b σ K []) cf (call cf k) (cf.keep 121) Try.f121.ntmps k qjp.bs.length) 0 (bd Try.f121) :=
 qA qT (qA (qA qT (qA (qA qT qT) (qA qT (qA (qA qT (qA qT qT)) qT)))) (qA qT qT))
theorem qCO (k : Nat) (x : qjp.D) : qcL (k + 1) x.1 x.2 = qi cf (fun f a b K => COt f a b K [qk5 k, qh1 k, qvP k]) (fun b _ σ K => LOt Ty (kps 121) 0 b σ K []) 121 Try.f121.ntmps Try.f121.results.toList (bd Try.f121) (qjp.enc x).1 (qjp.enc x).2 (qj FS.dec qo6) := by kernel_rfl
theorem qw2 : ∀ k, qh (call cf k) (qnX k)
 | 0 => fun x y e => absurd (show (none : Option _) = some y from e) (by simp)
 | k + 1 => qe (c := cf) (k := k) (f := 121) (fn := Try.f121) (body := bd Try.f121) (sh := qjp) (os := qo6) rfl Try.func121 rfl ⟨rfl, Nat.le_of_ble_eq_true rfl⟩ (qd (qCM k)) (qCN k) (fun x => qcL (k + 1) x.1 x.2) (qCO k)

def qeL (k : Nat) (neg : Bool) (w : List Int) (z : Bool) : Option (Bool × List Int) :=
 Option.bind (qcm k w) fun r5 =>
 if (neg = true) then
 (some ((decide ((((List.length r5) : Nat) : Int) > (0 : Int))), r5))
 else
 (some (false, r5))
def qal : Nat → Bool → List Int → Bool → Option (Bool × List Int)
 | 0, _, _, _ => none
 | k + 1, neg, w, z => qeL k neg w z
def qjq : FS := { vs := [.a (.ptr 0 0 0), .a (.lf .bool), .a (.lf (.sl (.int .u32)))], bs := [.raw [[.lf .bool, .snil 1 72]] 2 98 true false] }
def qo7 : List FS := [{ vs := [.a (.ptr 0 0 0)], bs := [.raw [[.lf .bool, .lf (.sl (.int .u32))]] 2 98 true false] }]
def qde (k : Nat) : Inst := ⟨110, qjq, qo7, fun x => qal k x.1 x.2.1 x.2.2⟩
theorem qCP (k : Nat) : qn (call cf k) [qd2 k] := qA (qjf k) qT
theorem qCQ (k : Nat) : qf (LOk (R := DS FS.D qo7) (fun b _ σ K => LOt Ty (kps 110) 1 b σ K []) cf (call cf k) (cf.keep 110) Try.f110.ntmps k qjq.bs.length) 0 (bd Try.f110) :=
 qA qT (qA qT (qA qT (qA qT qT)))
theorem qCR (k : Nat) (x : qjq.D) : qal (k + 1) x.1 x.2.1 x.2.2 = qi cf (fun f a b K => COt f a b K [qd2 k]) (fun b _ σ K => LOt Ty (kps 110) 1 b σ K []) 110 Try.f110.ntmps Try.f110.results.toList (bd Try.f110) (qjq.enc x).1 (qjq.enc x).2 (qj FS.dec qo7) := by kernel_rfl
theorem qjr : ∀ k, qh (call cf k) (qde k)
 | 0 => fun x y e => absurd (show (none : Option _) = some y from e) (by simp)
 | k + 1 => qe (c := cf) (k := k) (f := 110) (fn := Try.f110) (body := bd Try.f110) (sh := qjq) (os := qo7) rfl Try.func110 rfl ⟨rfl, Nat.le_of_ble_eq_true rfl⟩ (qd (qCP k)) (qCQ k) (fun x => qal (k + 1) x.1 x.2.1 x.2.2) (qCR k)

def qdj (k : Nat) (rec : List Int → List Int → Bool → List Int → Bool → List Int → Option (List Int × Bool × List Int × Bool × List Int)) (a : List Int) (b : List Int) (m0 : Bool) (m1 : List Int) (m01 : Bool) (m11 : List Int) : Option (List Int × Bool × List Int × Bool × List Int) :=
 if ((decide ((((List.length b) : Nat) : Int) > (0 : Int))) = true) then
 Option.bind (qcL k a b) fun r4 =>
 if (((0 + (List.length r4.2)) * 4) ≤ 140737488355328) then
 if ((0 + (0 + (List.length r4.2))) ≤ (List.length ((List.take 0 []) ++ r4.2))) then
 Option.bind (qcm k (List.take (0 + (List.length r4.2)) ((List.take 0 []) ++ r4.2))) fun r5 =>
 rec b r5 m0 m1 m01 m11
 else
 none
 else
 none
 else
 (some (a, m0, m1, m01, m11))
def qb0 (k n : Nat) : List Int → List Int → Bool → List Int → Bool → List Int → Option (List Int × Bool × List Int × Bool × List Int) := Nat.rec (fun _ _ _ _ _ _ => none) (fun _ r => qdj k r) n
def qf5 (k : Nat) (x0 : Bool) (x1 : List Int) (y0 : Bool) (y1 : List Int) : Option (Bool × List Int × Bool × List Int × Bool × List Int) :=
 Option.bind (qb0 k k x1 y1 x0 x1 y0 y1) fun r4 =>
 Option.bind (qal k false r4.1 false) fun r5 =>
 (some (r4.2.1, r4.2.2.1, r4.2.2.2.1, r4.2.2.2.2, r5.1, r5.2))
def qcO : Nat → Bool → List Int → Bool → List Int → Option (Bool × List Int × Bool × List Int × Bool × List Int)
 | 0, _, _, _, _ => none
 | k + 1, x0, x1, y0, y1 => qf5 k x0 x1 y0 y1
def qnY : FS := { vs := [.a (.ptr 0 0 0), .a (.ptr 1 0 0)], bs := [.raw [[.lf .bool, .lf (.sl (.int .u32))]] 2 98 true false, .raw [[.lf .bool, .lf (.sl (.int .u32))]] 2 98 true false] }
def qtn : List FS := [{ vs := [.a (.ptr 2 0 0)], bs := [.raw [[.lf .bool, .lf (.sl (.int .u32))]] 2 98 true false, .raw [[.lf .bool, .lf (.sl (.int .u32))]] 2 98 true false, .raw [[.lf .bool, .lf (.sl (.int .u32))]] 2 98 true false] }]
def Iq1 (k : Nat) : Inst := ⟨109, qnY, qtn, fun x => qcO k x.1 x.2.1 x.2.2.1 x.2.2.2⟩
theorem qzC (k : Nat) : qn (call cf k) [qnX k, qd2 k, qde k] := qA (qw2 k) (qA (qjf k) (qA (qjr k) qT))
def qic : List SS := [{ fr := [(5, .a (.lf (.sl (.int .u32)))), (6, .a (.lf (.sl (.int .u32))))], mem := [(0, some (.raw [[.lf .bool, .lf (.sl (.int .u32))]] 2 98 true false)), (1, some (.raw [[.lf .bool, .lf (.sl (.int .u32))]] 2 98 true false))], nx := 2 }]
def qmn : List OS := [⟨some 0, { fr := [(5, .a (.lf (.sl (.int .u32))))], mem := [(0, some (.raw [[.lf .bool, .lf (.sl (.int .u32))]] 2 98 true false)), (1, some (.raw [[.lf .bool, .lf (.sl (.int .u32))]] 2 98 true false))], nx := 2 }⟩]
def qmo (k : Nat) : LInst := ⟨0, qic, qmn, fun x => qb0 k k x.1 x.2.1 x.2.2.1 x.2.2.2.1 x.2.2.2.2.1 x.2.2.2.2.2⟩
theorem qzD (k : Nat) : qf (LOk (R := DS OS.D qmn) (fun b _ σ K => LOt Ty (kps 109) 2 b σ K []) cf (call cf k) (kps 109) Try.f109.ntmps k 2) 0 (lb Try.f109 0) :=
 qA (qA qT (qA qT qT)) (qA qT qT)
theorem qzE (k n : Nat) (x : DS SS.D qic) : qb0 k (n + 1) x.1 x.2.1 x.2.2.1 x.2.2.2.1 x.2.2.2.2.1 x.2.2.2.2.2 = qE SS.enc (fun σ => qF cf (fun f a b K => COt f a b K [qnX k, qd2 k, qde k]) (fun b _ σ K => LOt Ty (kps 109) 2 b σ K []) Try.f109.ntmps 0 (lb Try.f109 0) σ (qJ Ty (kps 109 0) 2 qic qmn fun x => qb0 k n x.1 x.2.1 x.2.2.1 x.2.2.2.1 x.2.2.2.2.1 x.2.2.2.2.2)) qic x := by kernel_rfl
theorem qzF (k : Nat) : qac cf (call cf k) (kps 109) Try.f109.ntmps k 2 0 (lb Try.f109 0) (qmo k) :=
 qr (c := cf) (callF := call cf k) (kp := kps 109) (nt := Try.f109.ntmps) (k := k) (p := 2) (b := 0) (x0 := lb Try.f109 0) (hs := qic) (os := qmn) (qd (qzC k)) (qzD k) (fun n x => qb0 k n x.1 x.2.1 x.2.2.1 x.2.2.2.1 x.2.2.2.2.1 x.2.2.2.2.2) (fun _ => rfl) (qzE k)
theorem qHc (k : Nat) : qf (LOk (R := DS FS.D qtn) (fun b _ σ K => LOt Ty (kps 109) 2 b σ K [qmo k]) cf (call cf k) (cf.keep 109) Try.f109.ntmps k qnY.bs.length) 0 (bd Try.f109) :=
 qA qT (qA qT (qA (qz (c := cf) (callF := call cf k) (kp := kps 109) (nt := Try.f109.ntmps) (k := k) (p := 2) (b := 0) (x0 := lb Try.f109 0) (l := [qmo k]) (qA (fun _ => qzF k) qT)) (qA qT qT)))
theorem qHd (k : Nat) (x : qnY.D) : qcO (k + 1) x.1 x.2.1 x.2.2.1 x.2.2.2 = qi cf (fun f a b K => COt f a b K [qnX k, qd2 k, qde k]) (fun b _ σ K => LOt Ty (kps 109) 2 b σ K [qmo k]) 109 Try.f109.ntmps Try.f109.results.toList (bd Try.f109) (qnY.enc x).1 (qnY.enc x).2 (qj FS.dec qtn) := by kernel_rfl
theorem qvQ : ∀ k, qh (call cf k) (Iq1 k)
 | 0 => fun x y e => absurd (show (none : Option _) = some y from e) (by simp)
 | k + 1 => qe (c := cf) (k := k) (f := 109) (fn := Try.f109) (body := bd Try.f109) (sh := qnY) (os := qtn) rfl Try.func109 rfl ⟨rfl, Nat.le_of_ble_eq_true rfl⟩ (qd (qzC k)) (qHc k) (fun x => qcO (k + 1) x.1 x.2.1 x.2.2.1 x.2.2.2) (qHd k)

def qdP (k : Nat) (z : Bool) (x0 : Bool) (x1 : List Int) (y0 : Bool) (y1 : List Int) (r : Bool) : Option (Bool × List Int × Bool × List Int × Bool × List Int × Bool × List Int) :=
 Option.bind (qcL k x1 y1) fun r5 =>
 Option.bind (qal k x0 r5.2 r) fun r6 =>
 Option.bind (qal k (!(x0 == y0)) r5.1 z) fun r7 =>
 (some (r7.1, r7.2, x0, x1, y0, y1, r6.1, r6.2))
def qbG : Nat → Bool → Bool → List Int → Bool → List Int → Bool → Option (Bool × List Int × Bool × List Int × Bool × List Int × Bool × List Int)
 | 0, _, _, _, _, _, _ => none
 | k + 1, z, x0, x1, y0, y1, r => qdP k z x0 x1 y0 y1 r
def qjs : FS := { vs := [.a (.ptr 0 0 0), .a (.ptr 1 0 0), .a (.ptr 2 0 0), .a (.ptr 3 0 0)], bs := [.raw [[.lf .bool, .snil 1 72]] 2 98 true false, .raw [[.lf .bool, .lf (.sl (.int .u32))]] 2 98 true false, .raw [[.lf .bool, .lf (.sl (.int .u32))]] 2 98 true false, .raw [[.lf .bool, .snil 1 72]] 2 98 true false] }
def qo8 : List FS := [{ vs := [.a (.ptr 0 0 0), .a (.ptr 3 0 0)], bs := [.raw [[.lf .bool, .lf (.sl (.int .u32))]] 2 98 true false, .raw [[.lf .bool, .lf (.sl (.int .u32))]] 2 98 true false, .raw [[.lf .bool, .lf (.sl (.int .u32))]] 2 98 true false, .raw [[.lf .bool, .lf (.sl (.int .u32))]] 2 98 true false] }]
def qvR (k : Nat) : Inst := ⟨114, qjs, qo8, fun x => qbG k x.1 x.2.1 x.2.2.1 x.2.2.2.1 x.2.2.2.2.1 x.2.2.2.2.2⟩
theorem qCS (k : Nat) : qn (call cf k) [qnX k, qde k] := qA (qw2 k) (qA (qjr k) qT)
theorem qCT (k : Nat) : qf (LOk (R := DS FS.D qo8) (fun b _ σ K => LOt Ty (kps 114) 4 b σ K []) cf (call cf k) (cf.keep 114) Try.f114.ntmps k qjs.bs.length) 0 (bd Try.f114) :=
 qA qT (qA qT (qA qT (qA qT (qA qT qT))))
theorem qCU (k : Nat) (x : qjs.D) : qbG (k + 1) x.1 x.2.1 x.2.2.1 x.2.2.2.1 x.2.2.2.2.1 x.2.2.2.2.2 = qi cf (fun f a b K => COt f a b K [qnX k, qde k]) (fun b _ σ K => LOt Ty (kps 114) 4 b σ K []) 114 Try.f114.ntmps Try.f114.results.toList (bd Try.f114) (qjs.enc x).1 (qjs.enc x).2 (qj FS.dec qo8) := by kernel_rfl
theorem qCV : ∀ k, qh (call cf k) (qvR k)
 | 0 => fun x y e => absurd (show (none : Option _) = some y from e) (by simp)
 | k + 1 => qe (c := cf) (k := k) (f := 114) (fn := Try.f114) (body := bd Try.f114) (sh := qjs) (os := qo8) rfl Try.func114 rfl ⟨rfl, Nat.le_of_ble_eq_true rfl⟩ (qd (qCS k)) (qCT k) (fun x => qbG (k + 1) x.1 x.2.1 x.2.2.1 x.2.2.2.1 x.2.2.2.2.1 x.2.2.2.2.2) (qCU k)

def qk8 (k : Nat) (z : Bool) (x0 : Bool) (x1 : List Int) (y0 : Bool) (y1 : List Int) : Option (Bool × List Int × Bool × List Int × Bool × List Int) :=
 Option.bind (qbG k z x0 x1 y0 y1 false) fun r5 =>
 (some (r5.1, r5.2.1, r5.2.2.1, r5.2.2.2.1, r5.2.2.2.2.1, r5.2.2.2.2.2.1))
def qZ : Nat → Bool → Bool → List Int → Bool → List Int → Option (Bool × List Int × Bool × List Int × Bool × List Int)
 | 0, _, _, _, _, _ => none
 | k + 1, z, x0, x1, y0, y1 => qk8 k z x0 x1 y0 y1
def qjt : FS := { vs := [.a (.ptr 0 0 0), .a (.ptr 1 0 0), .a (.ptr 2 0 0)], bs := [.raw [[.lf .bool, .snil 1 72]] 2 98 true false, .raw [[.lf .bool, .lf (.sl (.int .u32))]] 2 98 true false, .raw [[.lf .bool, .lf (.sl (.int .u32))]] 2 98 true false] }
def qo9 : List FS := [{ vs := [.a (.ptr 0 0 0)], bs := [.raw [[.lf .bool, .lf (.sl (.int .u32))]] 2 98 true false, .raw [[.lf .bool, .lf (.sl (.int .u32))]] 2 98 true false, .raw [[.lf .bool, .lf (.sl (.int .u32))]] 2 98 true false] }]
def qq4 (k : Nat) : Inst := ⟨112, qjt, qo9, fun x => qZ k x.1 x.2.1 x.2.2.1 x.2.2.2.1 x.2.2.2.2⟩
theorem qCW (k : Nat) : qn (call cf k) [qvR k] := qA (qCV k) qT
theorem qCX (k : Nat) : qf (LOk (R := DS FS.D qo9) (fun b _ σ K => LOt Ty (kps 112) 3 b σ K []) cf (call cf k) (cf.keep 112) Try.f112.ntmps k qjt.bs.length) 0 (bd Try.f112) :=
 qA qT (qA qT (qA qT qT))
theorem qCY (k : Nat) (x : qjt.D) : qZ (k + 1) x.1 x.2.1 x.2.2.1 x.2.2.2.1 x.2.2.2.2 = qi cf (fun f a b K => COt f a b K [qvR k]) (fun b _ σ K => LOt Ty (kps 112) 3 b σ K []) 112 Try.f112.ntmps Try.f112.results.toList (bd Try.f112) (qjt.enc x).1 (qjt.enc x).2 (qj FS.dec qo9) := by kernel_rfl
theorem qw3 : ∀ k, qh (call cf k) (qq4 k)
 | 0 => fun x y e => absurd (show (none : Option _) = some y from e) (by simp)
 | k + 1 => qe (c := cf) (k := k) (f := 112) (fn := Try.f112) (body := bd Try.f112) (sh := qjt) (os := qo9) rfl Try.func112 rfl ⟨rfl, Nat.le_of_ble_eq_true rfl⟩ (qd (qCW k)) (qCX k) (fun x => qZ (k + 1) x.1 x.2.1 x.2.2.1 x.2.2.2.1 x.2.2.2.2) (qCY k)

def qcW (k : Nat) (z0 : Bool) (z1 : Bool) (n0 : Bool) (n1 : List Int) (d0 : Bool) (d1 : List Int) : Option (Bool × List Int × Bool × List Int × Bool × List Int × Bool × List Int) :=
 Option.bind (qcO k n0 n1 d0 d1) fun r4 =>
 if (r4.2.2.1 = true) then
 Option.bind (qZ k false r4.1 r4.2.1 true r4.2.2.2.2.2) fun r5 =>
 Option.bind (qZ k false r4.2.2.1 r4.2.2.2.1 r5.2.2.2.2.1 r5.2.2.2.2.2) fun r6 =>
 (some (r5.1, r5.2.1, r6.1, r6.2.1, r5.2.2.1, r5.2.2.2.1, r6.2.2.1, r6.2.2.2.1))
 else
 Option.bind (qZ k false r4.1 r4.2.1 r4.2.2.2.2.1 r4.2.2.2.2.2) fun r5 =>
 Option.bind (qZ k false r4.2.2.1 r4.2.2.2.1 r5.2.2.2.2.1 r5.2.2.2.2.2) fun r6 =>
 (some (r5.1, r5.2.1, r6.1, r6.2.1, r5.2.2.1, r5.2.2.2.1, r6.2.2.1, r6.2.2.2.1))
def qao : Nat → Bool → Bool → Bool → List Int → Bool → List Int → Option (Bool × List Int × Bool × List Int × Bool × List Int × Bool × List Int)
 | 0, _, _, _, _, _, _ => none
 | k + 1, z0, z1, n0, n1, d0, d1 => qcW k z0 z1 n0 n1 d0 d1
def qju : FS := { vs := [.a (.ptr 0 0 0), .a (.ptr 1 0 0), .a (.ptr 2 0 0)], bs := [.raw [[.lf .bool, .snil 1 72, .lf .bool, .snil 1 72]] 4 100 true false, .raw [[.lf .bool, .lf (.sl (.int .u32))]] 2 98 true false, .raw [[.lf .bool, .lf (.sl (.int .u32))]] 2 98 true false] }
def qpa : List FS := [{ vs := [.a (.ptr 0 0 0)], bs := [.raw [[.lf .bool, .lf (.sl (.int .u32)), .lf .bool, .lf (.sl (.int .u32))]] 4 100 true false, .raw [[.lf .bool, .lf (.sl (.int .u32))]] 2 98 true false, .raw [[.lf .bool, .lf (.sl (.int .u32))]] 2 98 true false] }]
def qhw (k : Nat) : Inst := ⟨88, qju, qpa, fun x => qao k x.1 x.2.1 x.2.2.1 x.2.2.2.1 x.2.2.2.2.1 x.2.2.2.2.2⟩
theorem qCZ (k : Nat) : qn (call cf k) [Iq1 k, qq4 k] := qA (qvQ k) (qA (qw3 k) qT)
theorem qC0 (k : Nat) : qf (LOk (R := DS FS.D qpa) (fun b _ σ K => LOt Ty (kps 88) 3 b σ K []) cf (call cf k) (cf.keep 88) Try.f88.ntmps k qju.bs.length) 0 (bd Try.f88) :=
 qA qT (qA qT (qA (qA qT (qA qT qT)) (qA qT (qA qT (qA qT (qA qT (qA qT qT)))))))
theorem qC1 (k : Nat) (x : qju.D) : qao (k + 1) x.1 x.2.1 x.2.2.1 x.2.2.2.1 x.2.2.2.2.1 x.2.2.2.2.2 = qi cf (fun f a b K => COt f a b K [Iq1 k, qq4 k]) (fun b _ σ K => LOt Ty (kps 88) 3 b σ K []) 88 Try.f88.ntmps Try.f88.results.toList (bd Try.f88) (qju.enc x).1 (qju.enc x).2 (qj FS.dec qpa) := by kernel_rfl
theorem qpb : ∀ k, qh (call cf k) (qhw k)
 | 0 => fun x y e => absurd (show (none : Option _) = some y from e) (by simp)
 | k + 1 => qe (c := cf) (k := k) (f := 88) (fn := Try.f88) (body := bd Try.f88) (sh := qju) (os := qpa) rfl Try.func88 rfl ⟨rfl, Nat.le_of_ble_eq_true rfl⟩ (qd (qCZ k)) (qC0 k) (fun x => qao (k + 1) x.1 x.2.1 x.2.2.1 x.2.2.2.1 x.2.2.2.2.1 x.2.2.2.2.2) (qC1 k)

def qoL (k : Nat) (n0 : Bool) (n1 : List Int) (d0 : Bool) (d1 : List Int) : Option (Bool × List Int × Bool × List Int × Bool × List Int × Bool × List Int) :=
 Option.bind (qao k false false n0 n1 d0 d1) fun r4 =>
 (some (r4.2.2.2.2.1, r4.2.2.2.2.2.1, r4.2.2.2.2.2.2.1, r4.2.2.2.2.2.2.2, r4.1, r4.2.1, r4.2.2.1, r4.2.2.2.1))
def qbt : Nat → Bool → List Int → Bool → List Int → Option (Bool × List Int × Bool × List Int × Bool × List Int × Bool × List Int)
 | 0, _, _, _, _ => none
 | k + 1, n0, n1, d0, d1 => qoL k n0 n1 d0 d1
def qnZ : FS := { vs := [.a (.ptr 0 0 0), .a (.ptr 1 0 0)], bs := [.raw [[.lf .bool, .lf (.sl (.int .u32))]] 2 98 true false, .raw [[.lf .bool, .lf (.sl (.int .u32))]] 2 98 true false] }
def qto : List FS := [{ vs := [.a (.ptr 2 0 0)], bs := [.raw [[.lf .bool, .lf (.sl (.int .u32))]] 2 98 true false, .raw [[.lf .bool, .lf (.sl (.int .u32))]] 2 98 true false, .raw [[.lf .bool, .lf (.sl (.int .u32)), .lf .bool, .lf (.sl (.int .u32))]] 4 100 true false] }]
def Iq0 (k : Nat) : Inst := ⟨72, qnZ, qto, fun x => qbt k x.1 x.2.1 x.2.2.1 x.2.2.2⟩
theorem qHe (k : Nat) : qn (call cf k) [qhw k] := qA (qpb k) qT
theorem qHf (k : Nat) : qf (LOk (R := DS FS.D qto) (fun b _ σ K => LOt Ty (kps 72) 2 b σ K []) cf (call cf k) (cf.keep 72) Try.f72.ntmps k qnZ.bs.length) 0 (bd Try.f72) :=
 qA qT (qA qT qT)
theorem qHg (k : Nat) (x : qnZ.D) : qbt (k + 1) x.1 x.2.1 x.2.2.1 x.2.2.2 = qi cf (fun f a b K => COt f a b K [qhw k]) (fun b _ σ K => LOt Ty (kps 72) 2 b σ K []) 72 Try.f72.ntmps Try.f72.results.toList (bd Try.f72) (qnZ.enc x).1 (qnZ.enc x).2 (qj FS.dec qto) := by kernel_rfl
theorem qtp : ∀ k, qh (call cf k) (Iq0 k)
 | 0 => fun x y e => absurd (show (none : Option _) = some y from e) (by simp)
 | k + 1 => qe (c := cf) (k := k) (f := 72) (fn := Try.f72) (body := bd Try.f72) (sh := qnZ) (os := qto) rfl Try.func72 rfl ⟨rfl, Nat.le_of_ble_eq_true rfl⟩ (qd (qHe k)) (qHf k) (fun x => qbt (k + 1) x.1 x.2.1 x.2.2.1 x.2.2.2) (qHg k)

def qfI (k : Nat) (n0 : Int) (n1 : Int) : Option (Bool × List Int × Bool × List Int) :=
 Option.bind (qfl k (max n1 (IntKind.wrap .i64 ((0 : Int) - n1)))) fun r2 =>
 if ((decide (n1 < (0 : Int))) = true) then
 Option.bind (qai k n0) fun r3 =>
 Option.bind (qbt k r3.1 r3.2 r2.1 r2.2) fun r4 =>
 (some (r4.2.2.2.2.1, r4.2.2.2.2.2.1, r4.2.2.2.2.2.2.1, r4.2.2.2.2.2.2.2))
 else
 Option.bind (qai k n0) fun r3 =>
 Option.bind (qbJ k r2.1 r2.2 r3.1 r3.2) fun r4 =>
 Option.bind (qai k (1 : Int)) fun r5 =>
 Option.bind (qbt k r4.1 r4.2.1 r5.1 r5.2) fun r6 =>
 (some (r6.2.2.2.2.1, r6.2.2.2.2.2.1, r6.2.2.2.2.2.2.1, r6.2.2.2.2.2.2.2))
def qdk : Nat → Int → Int → Option (Bool × List Int × Bool × List Int)
 | 0, _, _ => none
 | k + 1, n0, n1 => qfI k n0 n1
def qjv : FS := { vs := [.g [.lf (.int .i64), .lf (.int .i64)]], bs := [] }
def qpc : List FS := [{ vs := [.a (.ptr 0 0 0)], bs := [.raw [[.lf .bool, .lf (.sl (.int .u32)), .lf .bool, .lf (.sl (.int .u32))]] 4 100 true false] }]
def qq5 (k : Nat) : Inst := ⟨59, qjv, qpc, fun x => qdk k x.1 x.2⟩
theorem qC2 (k : Nat) : qn (call cf k) [qvO k, qfb k, Iq0 k, Iq5 k] := qA (qCy k) (qA (qjh k) (qA (qtp k) (qA (qy7 k) qT)))
theorem qC3 (k : Nat) : qf (LOk (R := DS FS.D qpc) (fun b _ σ K => LOt Ty (kps 59) 0 b σ K []) cf (call cf k) (cf.keep 59) Try.f59.ntmps k qjv.bs.length) 0 (bd Try.f59) :=
 qA qT (qA qT (qA (qA qT (qA (qA qT qT) qT)) (qA qT qT)))
theorem qC4 (k : Nat) (x : qjv.D) : qdk (k + 1) x.1 x.2 = qi cf (fun f a b K => COt f a b K [qvO k, qfb k, Iq0 k, Iq5 k]) (fun b _ σ K => LOt Ty (kps 59) 0 b σ K []) 59 Try.f59.ntmps Try.f59.results.toList (bd Try.f59) (qjv.enc x).1 (qjv.enc x).2 (qj FS.dec qpc) := by kernel_rfl
theorem qw4 : ∀ k, qh (call cf k) (qq5 k)
 | 0 => fun x y e => absurd (show (none : Option _) = some y from e) (by simp)
 | k + 1 => qe (c := cf) (k := k) (f := 59) (fn := Try.f59) (body := bd Try.f59) (sh := qjv) (os := qpc) rfl Try.func59 rfl ⟨rfl, Nat.le_of_ble_eq_true rfl⟩ (qd (qC2 k)) (qC3 k) (fun x => qdk (k + 1) x.1 x.2) (qC4 k)

def qn0 (k : Nat) (neg : Bool) (w : List Int) : Option (Bool × List Int) :=
 if (((0 + (List.length w)) * 4) ≤ 140737488355328) then
 if ((0 + (0 + (List.length w))) ≤ (List.length ((List.take 0 []) ++ w))) then
 Option.bind (qcm k (List.take (0 + (List.length w)) ((List.take 0 []) ++ w))) fun r3 =>
 if (neg = true) then
 (some ((decide ((((List.length r3) : Nat) : Int) > (0 : Int))), r3))
 else
 (some (false, r3))
 else
 none
 else
 none
def qdJ : Nat → Bool → List Int → Option (Bool × List Int)
 | 0, _, _ => none
 | k + 1, neg, w => qn0 k neg w
def qjw : FS := { vs := [.a (.lf .bool), .a (.lf (.sl (.int .u32)))], bs := [] }
def qpd : List FS := [{ vs := [.a (.ptr 0 0 0)], bs := [.raw [[.lf .bool, .lf (.sl (.int .u32))]] 2 98 true false] }]
def qhx (k : Nat) : Inst := ⟨99, qjw, qpd, fun x => qdJ k x.1 x.2⟩
theorem qC5 (k : Nat) : qn (call cf k) [qd2 k] := qA (qjf k) qT
theorem qC6 (k : Nat) : qf (LOk (R := DS FS.D qpd) (fun b _ σ K => LOt Ty (kps 99) 0 b σ K []) cf (call cf k) (cf.keep 99) Try.f99.ntmps k qjw.bs.length) 0 (bd Try.f99) :=
 qA qT (qA qT (qA qT (qA qT qT)))
theorem qC7 (k : Nat) (x : qjw.D) : qdJ (k + 1) x.1 x.2 = qi cf (fun f a b K => COt f a b K [qd2 k]) (fun b _ σ K => LOt Ty (kps 99) 0 b σ K []) 99 Try.f99.ntmps Try.f99.results.toList (bd Try.f99) (qjw.enc x).1 (qjw.enc x).2 (qj FS.dec qpd) := by kernel_rfl
theorem qpe : ∀ k, qh (call cf k) (qhx k)
 | 0 => fun x y e => absurd (show (none : Option _) = some y from e) (by simp)
 | k + 1 => qe (c := cf) (k := k) (f := 99) (fn := Try.f99) (body := bd Try.f99) (sh := qjw) (os := qpd) rfl Try.func99 rfl ⟨rfl, Nat.le_of_ble_eq_true rfl⟩ (qd (qC5 k)) (qC6 k) (fun x => qdJ (k + 1) x.1 x.2) (qC7 k)

def qk9 (k : Nat) (z0 : Bool) (z1 : List Int) (z2 : Bool) (z3 : List Int) : Option (Bool × List Int × Bool × List Int × Bool × List Int) :=
 Option.bind (qdJ k z0 z1) fun r3 =>
 (some (z0, z1, z2, z3, r3.1, r3.2))
def qbL : Nat → Bool → List Int → Bool → List Int → Option (Bool × List Int × Bool × List Int × Bool × List Int)
 | 0, _, _, _, _ => none
 | k + 1, z0, z1, z2, z3 => qk9 k z0 z1 z2 z3
def qjx : FS := { vs := [.a (.ptr 0 0 0)], bs := [.raw [[.lf .bool, .lf (.sl (.int .u32)), .lf .bool, .lf (.sl (.int .u32))]] 4 100 true false] }
def qpf : List FS := [{ vs := [.a (.ptr 1 0 0)], bs := [.raw [[.lf .bool, .lf (.sl (.int .u32)), .lf .bool, .lf (.sl (.int .u32))]] 4 100 true false, .raw [[.lf .bool, .lf (.sl (.int .u32))]] 2 98 true false] }]
def qq6 (k : Nat) : Inst := ⟨91, qjx, qpf, fun x => qbL k x.1 x.2.1 x.2.2.1 x.2.2.2⟩
theorem qC8 (k : Nat) : qn (call cf k) [qhx k] := qA (qpe k) qT
theorem qC9 (k : Nat) : qf (LOk (R := DS FS.D qpf) (fun b _ σ K => LOt Ty (kps 91) 1 b σ K []) cf (call cf k) (cf.keep 91) Try.f91.ntmps k qjx.bs.length) 0 (bd Try.f91) :=
 qA qT (qA qT qT)
theorem qDa (k : Nat) (x : qjx.D) : qbL (k + 1) x.1 x.2.1 x.2.2.1 x.2.2.2 = qi cf (fun f a b K => COt f a b K [qhx k]) (fun b _ σ K => LOt Ty (kps 91) 1 b σ K []) 91 Try.f91.ntmps Try.f91.results.toList (bd Try.f91) (qjx.enc x).1 (qjx.enc x).2 (qj FS.dec qpf) := by kernel_rfl
theorem qw5 : ∀ k, qh (call cf k) (qq6 k)
 | 0 => fun x y e => absurd (show (none : Option _) = some y from e) (by simp)
 | k + 1 => qe (c := cf) (k := k) (f := 91) (fn := Try.f91) (body := bd Try.f91) (sh := qjx) (os := qpf) rfl Try.func91 rfl ⟨rfl, Nat.le_of_ble_eq_true rfl⟩ (qd (qC8 k)) (qC9 k) (fun x => qbL (k + 1) x.1 x.2.1 x.2.2.1 x.2.2.2) (qDa k)

def qeo (k : Nat) (z0 : Bool) (z1 : List Int) : Option (Int × Bool × List Int) :=
 if (((((List.length z1) : Nat) : Int) == (0 : Int)) = true) then
 (some ((0 : Int), z0, z1))
 else
 if (z0 = true) then
 (some ((-(1 : Int)), z0, z1))
 else
 (some ((1 : Int), z0, z1))
def qcg : Nat → Bool → List Int → Option (Int × Bool × List Int)
 | 0, _, _ => none
 | k + 1, z0, z1 => qeo k z0 z1
def qjy : FS := { vs := [.a (.ptr 0 0 0)], bs := [.raw [[.lf .bool, .lf (.sl (.int .u32))]] 2 98 true false] }
def qpg : List FS := [{ vs := [.a (.lf (.int .i64))], bs := [.raw [[.lf .bool, .lf (.sl (.int .u32))]] 2 98 true false] }]
def qvS (k : Nat) : Inst := ⟨100, qjy, qpg, fun x => qcg k x.1 x.2⟩
theorem qDb (k : Nat) : qn (call cf k) [] := True.intro
theorem qDc (k : Nat) : qf (LOk (R := DS FS.D qpg) (fun b _ σ K => LOt Ty (kps 100) 1 b σ K []) cf (call cf k) (cf.keep 100) Try.f100.ntmps k qjy.bs.length) 0 (bd Try.f100) :=
 qA qT (qA (qA qT (qA (qA qT qT) (qA qT (qA (qA qT qT) qT)))) (qA qT qT))
theorem qDd (k : Nat) (x : qjy.D) : qcg (k + 1) x.1 x.2 = qi cf (fun f a b K => COt f a b K []) (fun b _ σ K => LOt Ty (kps 100) 1 b σ K []) 100 Try.f100.ntmps Try.f100.results.toList (bd Try.f100) (qjy.enc x).1 (qjy.enc x).2 (qj FS.dec qpg) := by kernel_rfl
theorem qDe : ∀ k, qh (call cf k) (qvS k)
 | 0 => fun x y e => absurd (show (none : Option _) = some y from e) (by simp)
 | k + 1 => qe (c := cf) (k := k) (f := 100) (fn := Try.f100) (body := bd Try.f100) (sh := qjy) (os := qpg) rfl Try.func100 rfl ⟨rfl, Nat.le_of_ble_eq_true rfl⟩ (qd (qDb k)) (qDc k) (fun x => qcg (k + 1) x.1 x.2) (qDd k)

def qd8 (k : Nat) (z0 : Bool) (z1 : List Int) : Option (Nat × Bool × List Int × List Int) :=
 if (((0 + (List.length z1)) * 4) ≤ 140737488355328) then
 (some ((0 + (List.length z1)), z0, z1, ((List.take 0 []) ++ z1)))
 else
 none
def qb1 : Nat → Bool → List Int → Option (Nat × Bool × List Int × List Int)
 | 0, _, _ => none
 | k + 1, z0, z1 => qd8 k z0 z1
def qjz : FS := { vs := [.a (.ptr 0 0 0)], bs := [.raw [[.lf .bool, .lf (.sl (.int .u32))]] 2 98 true false] }
def qph : List FS := [{ vs := [.a (.smz 1)], bs := [.raw [[.lf .bool, .lf (.sl (.int .u32))]] 2 98 true false, .arr (.int .u32) 1 72 false] }]
def qvT (k : Nat) : Inst := ⟨101, qjz, qph, fun x => qb1 k x.1 x.2⟩
theorem qDf (k : Nat) : qn (call cf k) [] := True.intro
theorem qDg (k : Nat) : qf (LOk (R := DS FS.D qph) (fun b _ σ K => LOt Ty (kps 101) 1 b σ K []) cf (call cf k) (cf.keep 101) Try.f101.ntmps k qjz.bs.length) 0 (bd Try.f101) :=
 qA qT (qA qT qT)
theorem qDh (k : Nat) (x : qjz.D) : qb1 (k + 1) x.1 x.2 = qi cf (fun f a b K => COt f a b K []) (fun b _ σ K => LOt Ty (kps 101) 1 b σ K []) 101 Try.f101.ntmps Try.f101.results.toList (bd Try.f101) (qjz.enc x).1 (qjz.enc x).2 (qj FS.dec qph) := by kernel_rfl
theorem qDi : ∀ k, qh (call cf k) (qvT k)
 | 0 => fun x y e => absurd (show (none : Option _) = some y from e) (by simp)
 | k + 1 => qe (c := cf) (k := k) (f := 101) (fn := Try.f101) (body := bd Try.f101) (sh := qjz) (os := qph) rfl Try.func101 rfl ⟨rfl, Nat.le_of_ble_eq_true rfl⟩ (qd (qDf k)) (qDg k) (fun x => qb1 (k + 1) x.1 x.2) (qDh k)

def qfm (k : Nat) (z0 : Bool) (z1 : List Int) : Option (Bool × Nat × Bool × List Int × List Int) :=
 Option.bind (qcg k z0 z1) fun r4 =>
 Option.bind (qb1 k r4.2.1 r4.2.2) fun r5 =>
 (some ((decide (r4.1 < (0 : Int))), r5.1, r5.2.1, r5.2.2.1, r5.2.2.2))
def qaL : Nat → Bool → List Int → Option (Bool × Nat × Bool × List Int × List Int)
 | 0, _, _ => none
 | k + 1, z0, z1 => qfm k z0 z1
def qgY : FS := { vs := [.a (.ptr 0 0 0)], bs := [.raw [[.lf .bool, .lf (.sl (.int .u32))]] 2 98 true false] }
def qmp : List FS := [{ vs := [.g [.lf .bool, .smz 1]], bs := [.raw [[.lf .bool, .lf (.sl (.int .u32))]] 2 98 true false, .arr (.int .u32) 1 72 false] }]
def qfR (k : Nat) : Inst := ⟨74, qgY, qmp, fun x => qaL k x.1 x.2⟩
theorem qzG (k : Nat) : qn (call cf k) [qvS k, qvT k] := qA (qDe k) (qA (qDi k) qT)
theorem qzH (k : Nat) : qf (LOk (R := DS FS.D qmp) (fun b _ σ K => LOt Ty (kps 74) 1 b σ K []) cf (call cf k) (cf.keep 74) Try.f74.ntmps k qgY.bs.length) 0 (bd Try.f74) :=
 qA qT (qA qT qT)
theorem qzI (k : Nat) (x : qgY.D) : qaL (k + 1) x.1 x.2 = qi cf (fun f a b K => COt f a b K [qvS k, qvT k]) (fun b _ σ K => LOt Ty (kps 74) 1 b σ K []) 74 Try.f74.ntmps Try.f74.results.toList (bd Try.f74) (qgY.enc x).1 (qgY.enc x).2 (qj FS.dec qmp) := by kernel_rfl
theorem qmq : ∀ k, qh (call cf k) (qfR k)
 | 0 => fun x y e => absurd (show (none : Option _) = some y from e) (by simp)
 | k + 1 => qe (c := cf) (k := k) (f := 74) (fn := Try.f74) (body := bd Try.f74) (sh := qgY) (os := qmp) rfl Try.func74 rfl ⟨rfl, Nat.le_of_ble_eq_true rfl⟩ (qd (qzG k)) (qzH k) (fun x => qaL (k + 1) x.1 x.2) (qzI k)

def qd9 (k : Nat) (z0 : Bool) (z1 : List Int) (z2 : Bool) (z3 : List Int) : Option (Bool × List Int × Bool × List Int × Bool × List Int) :=
 if (((((List.length z3) : Nat) : Int) == (0 : Int)) = true) then
 Option.bind (qai k (1 : Int)) fun r5 =>
 (some (z0, z1, z2, z3, r5.1, r5.2))
 else
 Option.bind (qdJ k false z3) fun r5 =>
 (some (z0, z1, z2, z3, r5.1, r5.2))
def qo : Nat → Bool → List Int → Bool → List Int → Option (Bool × List Int × Bool × List Int × Bool × List Int)
 | 0, _, _, _, _ => none
 | k + 1, z0, z1, z2, z3 => qd9 k z0 z1 z2 z3
def qjA : FS := { vs := [.a (.ptr 0 0 0)], bs := [.raw [[.lf .bool, .lf (.sl (.int .u32)), .lf .bool, .lf (.sl (.int .u32))]] 4 100 true false] }
def qpi : List FS := [{ vs := [.a (.ptr 1 0 0)], bs := [.raw [[.lf .bool, .lf (.sl (.int .u32)), .lf .bool, .lf (.sl (.int .u32))]] 4 100 true false, .raw [[.lf .bool, .lf (.sl (.int .u32))]] 2 98 true false] }]
def qea (k : Nat) : Inst := ⟨85, qjA, qpi, fun x => qo k x.1 x.2.1 x.2.2.1 x.2.2.2⟩
theorem qDj (k : Nat) : qn (call cf k) [qfb k, qhx k] := qA (qjh k) (qA (qpe k) qT)
theorem qDk (k : Nat) : qf (LOk (R := DS FS.D qpi) (fun b _ σ K => LOt Ty (kps 85) 1 b σ K []) cf (call cf k) (cf.keep 85) Try.f85.ntmps k qjA.bs.length) 0 (bd Try.f85) :=
 qA qT (qA (qA qT (qA (qA qT qT) qT)) (qA qT qT))
theorem qDl (k : Nat) (x : qjA.D) : qo (k + 1) x.1 x.2.1 x.2.2.1 x.2.2.2 = qi cf (fun f a b K => COt f a b K [qfb k, qhx k]) (fun b _ σ K => LOt Ty (kps 85) 1 b σ K []) 85 Try.f85.ntmps Try.f85.results.toList (bd Try.f85) (qjA.enc x).1 (qjA.enc x).2 (qj FS.dec qpi) := by kernel_rfl
theorem qgv : ∀ k, qh (call cf k) (qea k)
 | 0 => fun x y e => absurd (show (none : Option _) = some y from e) (by simp)
 | k + 1 => qe (c := cf) (k := k) (f := 85) (fn := Try.f85) (body := bd Try.f85) (sh := qjA) (os := qpi) rfl Try.func85 rfl ⟨rfl, Nat.le_of_ble_eq_true rfl⟩ (qd (qDj k)) (qDk k) (fun x => qo (k + 1) x.1 x.2.1 x.2.2.1 x.2.2.2) (qDl k)

def qfn (k : Nat) (z0 : Bool) (z1 : List Int) (z2 : Bool) (z3 : List Int) : Option (Bool × List Int × Bool × List Int × Bool × List Int × Bool × List Int) :=
 Option.bind (qbL k z0 z1 z2 z3) fun r3 =>
 Option.bind (qaL k r3.2.2.2.2.1 r3.2.2.2.2.2) fun r4 =>
 Option.bind (qo k r3.1 r3.2.1 r3.2.2.1 r3.2.2.2.1) fun r5 =>
 Option.bind (qaL k r5.2.2.2.2.1 r5.2.2.2.2.2) fun r6 =>
 if ((0 + r4.2.1) ≤ (List.length r4.2.2.2.2)) then
 if ((0 + r6.2.1) ≤ (List.length r6.2.2.2.2)) then
 (some (r4.1, (List.take r4.2.1 r4.2.2.2.2), r6.1, (List.take r6.2.1 r6.2.2.2.2), r5.1, r5.2.1, r5.2.2.1, r5.2.2.2.1))
 else
 none
 else
 none
def qaY : Nat → Bool → List Int → Bool → List Int → Option (Bool × List Int × Bool × List Int × Bool × List Int × Bool × List Int)
 | 0, _, _, _, _ => none
 | k + 1, z0, z1, z2, z3 => qfn k z0 z1 z2 z3
def qgZ : FS := { vs := [.a (.ptr 0 0 0)], bs := [.raw [[.lf .bool, .lf (.sl (.int .u32)), .lf .bool, .lf (.sl (.int .u32))]] 4 100 true false] }
def qmr : List FS := [{ vs := [.g [.lf .bool, .lf (.sl (.int .u32)), .lf .bool, .lf (.sl (.int .u32))]], bs := [.raw [[.lf .bool, .lf (.sl (.int .u32)), .lf .bool, .lf (.sl (.int .u32))]] 4 100 true false] }]
def qgw (k : Nat) : Inst := ⟨57, qgZ, qmr, fun x => qaY k x.1 x.2.1 x.2.2.1 x.2.2.2⟩
theorem qzJ (k : Nat) : qn (call cf k) [qq6 k, qfR k, qea k] := qA (qw5 k) (qA (qmq k) (qA (qgv k) qT))
theorem qzK (k : Nat) : qf (LOk (R := DS FS.D qmr) (fun b _ σ K => LOt Ty (kps 57) 1 b σ K []) cf (call cf k) (cf.keep 57) Try.f57.ntmps k qgZ.bs.length) 0 (bd Try.f57) :=
 qA qT (qA qT qT)
theorem qzL (k : Nat) (x : qgZ.D) : qaY (k + 1) x.1 x.2.1 x.2.2.1 x.2.2.2 = qi cf (fun f a b K => COt f a b K [qq6 k, qfR k, qea k]) (fun b _ σ K => LOt Ty (kps 57) 1 b σ K []) 57 Try.f57.ntmps Try.f57.results.toList (bd Try.f57) (qgZ.enc x).1 (qgZ.enc x).2 (qj FS.dec qmr) := by kernel_rfl
theorem qq7 : ∀ k, qh (call cf k) (qgw k)
 | 0 => fun x y e => absurd (show (none : Option _) = some y from e) (by simp)
 | k + 1 => qe (c := cf) (k := k) (f := 57) (fn := Try.f57) (body := bd Try.f57) (sh := qgZ) (os := qmr) rfl Try.func57 rfl ⟨rfl, Nat.le_of_ble_eq_true rfl⟩ (qd (qzJ k)) (qzK k) (fun x => qaY (k + 1) x.1 x.2.1 x.2.2.1 x.2.2.2) (qzL k)

def qhy (k : Nat) (n0 : Int) (n1 : Int) : Option (Bool × List Int × Bool × List Int × Int) :=
 Option.bind (qc3 k n0 n1) fun r1 =>
 if ((!r1) = true) then
 (some (false, [], false, [], (30 : Int)))
 else
 Option.bind (qdk k n0 n1) fun r2 =>
 Option.bind (qaY k r2.1 r2.2.1 r2.2.2.1 r2.2.2.2) fun r3 =>
 (some (r3.1, r3.2.1, r3.2.2.1, r3.2.2.2.1, (0 : Int)))
def qek : Nat → Int → Int → Option (Bool × List Int × Bool × List Int × Int)
 | 0, _, _ => none
 | k + 1, n0, n1 => qhy k n0 n1
def qjB : FS := { vs := [.g [.lf (.int .i64), .lf (.int .i64)]], bs := [] }
def qpj : List FS := [{ vs := [.g [.lf .bool, .lf (.sl (.int .u32)), .lf .bool, .lf (.sl (.int .u32))], .a (.lf (.int .i64))], bs := [] }]
def qvU (k : Nat) : Inst := ⟨24, qjB, qpj, fun x => qek k x.1 x.2⟩
theorem qDm (k : Nat) : qn (call cf k) [qgF k, qq5 k, qgw k] := qA (qti k) (qA (qw4 k) (qA (qq7 k) qT))
theorem qDn (k : Nat) : qf (LOk (R := DS FS.D qpj) (fun b _ σ K => LOt Ty (kps 24) 0 b σ K []) cf (call cf k) (cf.keep 24) Try.f24.ntmps k qjB.bs.length) 0 (bd Try.f24) :=
 qA qT (qA (qA qT (qA (qA qT qT) qT)) (qA qT qT))
theorem qDo (k : Nat) (x : qjB.D) : qek (k + 1) x.1 x.2 = qi cf (fun f a b K => COt f a b K [qgF k, qq5 k, qgw k]) (fun b _ σ K => LOt Ty (kps 24) 0 b σ K []) 24 Try.f24.ntmps Try.f24.results.toList (bd Try.f24) (qjB.enc x).1 (qjB.enc x).2 (qj FS.dec qpj) := by kernel_rfl
theorem qDp : ∀ k, qh (call cf k) (qvU k)
 | 0 => fun x y e => absurd (show (none : Option _) = some y from e) (by simp)
 | k + 1 => qe (c := cf) (k := k) (f := 24) (fn := Try.f24) (body := bd Try.f24) (sh := qjB) (os := qpj) rfl Try.func24 rfl ⟨rfl, Nat.le_of_ble_eq_true rfl⟩ (qd (qDm k)) (qDn k) (fun x => qek (k + 1) x.1 x.2) (qDo k)

def qtq (k : Nat) (a0 : Bool) (a1 : List Int) : Option (Bool × List Int) :=
 Option.bind (qdJ k a0 a1) fun r4 =>
 (some (r4.1, r4.2))
def qa8 : Nat → Bool → List Int → Option (Bool × List Int)
 | 0, _, _ => none
 | k + 1, a0, a1 => qtq k a0 a1
def qg0 : FS := { vs := [.g [.lf .bool, .lf (.sl (.int .u32))]], bs := [] }
def qms : List FS := [{ vs := [.a (.ptr 0 0 0)], bs := [.raw [[.lf .bool, .lf (.sl (.int .u32))]] 2 98 true false] }]
def qfS (k : Nat) : Inst := ⟨73, qg0, qms, fun x => qa8 k x.1 x.2⟩
theorem qzM (k : Nat) : qn (call cf k) [qhx k] := qA (qpe k) qT
theorem qzN (k : Nat) : qf (LOk (R := DS FS.D qms) (fun b _ σ K => LOt Ty (kps 73) 0 b σ K []) cf (call cf k) (cf.keep 73) Try.f73.ntmps k qg0.bs.length) 0 (bd Try.f73) :=
 qA qT (qA qT qT)
theorem qzO (k : Nat) (x : qg0.D) : qa8 (k + 1) x.1 x.2 = qi cf (fun f a b K => COt f a b K [qhx k]) (fun b _ σ K => LOt Ty (kps 73) 0 b σ K []) 73 Try.f73.ntmps Try.f73.results.toList (bd Try.f73) (qg0.enc x).1 (qg0.enc x).2 (qj FS.dec qms) := by kernel_rfl
theorem qmt : ∀ k, qh (call cf k) (qfS k)
 | 0 => fun x y e => absurd (show (none : Option _) = some y from e) (by simp)
 | k + 1 => qe (c := cf) (k := k) (f := 73) (fn := Try.f73) (body := bd Try.f73) (sh := qg0) (os := qms) rfl Try.func73 rfl ⟨rfl, Nat.le_of_ble_eq_true rfl⟩ (qd (qzM k)) (qzN k) (fun x => qa8 (k + 1) x.1 x.2) (qzO k)

def quE (k : Nat) (r0 : Bool) (r1 : List Int) (r2 : Bool) (r3 : List Int) : Option (Bool × List Int × Bool × List Int) :=
 Option.bind (qa8 k r0 r1) fun r4 =>
 Option.bind (qa8 k r2 r3) fun r5 =>
 Option.bind (qbt k r4.1 r4.2 r5.1 r5.2) fun r6 =>
 (some (r6.2.2.2.2.1, r6.2.2.2.2.2.1, r6.2.2.2.2.2.2.1, r6.2.2.2.2.2.2.2))
def qbf : Nat → Bool → List Int → Bool → List Int → Option (Bool × List Int × Bool × List Int)
 | 0, _, _, _, _ => none
 | k + 1, r0, r1, r2, r3 => quE k r0 r1 r2 r3
def qg1 : FS := { vs := [.g [.lf .bool, .lf (.sl (.int .u32)), .lf .bool, .lf (.sl (.int .u32))]], bs := [] }
def qmu : List FS := [{ vs := [.a (.ptr 0 0 0)], bs := [.raw [[.lf .bool, .lf (.sl (.int .u32)), .lf .bool, .lf (.sl (.int .u32))]] 4 100 true false] }]
def qfc (k : Nat) : Inst := ⟨46, qg1, qmu, fun x => qbf k x.1 x.2.1 x.2.2.1 x.2.2.2⟩
theorem qzP (k : Nat) : qn (call cf k) [qfS k, Iq0 k] := qA (qmt k) (qA (qtp k) qT)
theorem qzQ (k : Nat) : qf (LOk (R := DS FS.D qmu) (fun b _ σ K => LOt Ty (kps 46) 0 b σ K []) cf (call cf k) (cf.keep 46) Try.f46.ntmps k qg1.bs.length) 0 (bd Try.f46) :=
 qA qT (qA qT qT)
theorem qzR (k : Nat) (x : qg1.D) : qbf (k + 1) x.1 x.2.1 x.2.2.1 x.2.2.2 = qi cf (fun f a b K => COt f a b K [qfS k, Iq0 k]) (fun b _ σ K => LOt Ty (kps 46) 0 b σ K []) 46 Try.f46.ntmps Try.f46.results.toList (bd Try.f46) (qg1.enc x).1 (qg1.enc x).2 (qj FS.dec qmu) := by kernel_rfl
theorem qid : ∀ k, qh (call cf k) (qfc k)
 | 0 => fun x y e => absurd (show (none : Option _) = some y from e) (by simp)
 | k + 1 => qe (c := cf) (k := k) (f := 46) (fn := Try.f46) (body := bd Try.f46) (sh := qg1) (os := qmu) rfl Try.func46 rfl ⟨rfl, Nat.le_of_ble_eq_true rfl⟩ (qd (qzP k)) (qzQ k) (fun x => qbf (k + 1) x.1 x.2.1 x.2.2.1 x.2.2.2) (qzR k)

def qrS (k : Nat) (n : Int) (d : Int) : Option (Bool × List Int × Bool × List Int) :=
 Option.bind (qai k n) fun r2 =>
 Option.bind (qai k d) fun r3 =>
 Option.bind (qbt k r2.1 r2.2 r3.1 r3.2) fun r4 =>
 (some (r4.2.2.2.2.1, r4.2.2.2.2.2.1, r4.2.2.2.2.2.2.1, r4.2.2.2.2.2.2.2))
def qdK : Nat → Int → Int → Option (Bool × List Int × Bool × List Int)
 | 0, _, _ => none
 | k + 1, n, d => qrS k n d
def qjC : FS := { vs := [.a (.lf (.int .i64)), .a (.lf (.int .i64))], bs := [] }
def qpk : List FS := [{ vs := [.a (.ptr 0 0 0)], bs := [.raw [[.lf .bool, .lf (.sl (.int .u32)), .lf .bool, .lf (.sl (.int .u32))]] 4 100 true false] }]
def qvV (k : Nat) : Inst := ⟨55, qjC, qpk, fun x => qdK k x.1 x.2⟩
theorem qDq (k : Nat) : qn (call cf k) [qfb k, Iq0 k] := qA (qjh k) (qA (qtp k) qT)
theorem qDr (k : Nat) : qf (LOk (R := DS FS.D qpk) (fun b _ σ K => LOt Ty (kps 55) 0 b σ K []) cf (call cf k) (cf.keep 55) Try.f55.ntmps k qjC.bs.length) 0 (bd Try.f55) :=
 qA qT (qA qT qT)
theorem qDs (k : Nat) (x : qjC.D) : qdK (k + 1) x.1 x.2 = qi cf (fun f a b K => COt f a b K [qfb k, Iq0 k]) (fun b _ σ K => LOt Ty (kps 55) 0 b σ K []) 55 Try.f55.ntmps Try.f55.results.toList (bd Try.f55) (qjC.enc x).1 (qjC.enc x).2 (qj FS.dec qpk) := by kernel_rfl
theorem qDt : ∀ k, qh (call cf k) (qvV k)
 | 0 => fun x y e => absurd (show (none : Option _) = some y from e) (by simp)
 | k + 1 => qe (c := cf) (k := k) (f := 55) (fn := Try.f55) (body := bd Try.f55) (sh := qjC) (os := qpk) rfl Try.func55 rfl ⟨rfl, Nat.le_of_ble_eq_true rfl⟩ (qd (qDq k)) (qDr k) (fun x => qdK (k + 1) x.1 x.2) (qDs k)

def qdQ (k : Nat) (rec : Nat → Int → Int → Int → List Int → Int → Int → List Int → Int → Int → Bool → Bool → List Int → Bool → List Int → Bool → List Int → Bool → List Int → List Int → Option (Nat × Int × Int × List Int × Int × Int × Bool × Bool × List Int × Bool × List Int × Bool × List Int × Bool × List Int × List Int)) (out1 : Nat) (i : Int) (a : Int) (carry : Int) (x : List Int) (x1 : Int) (x2 : Int) (x3 : List Int) (x4 : Int) (x5 : Int) (z : Bool) (x0 : Bool) (x11 : List Int) (x21 : Bool) (x31 : List Int) (y0 : Bool) (y1 : List Int) (y2 : Bool) (y3 : List Int) (outs : List Int) : Option (Nat × Int × Int × List Int × Int × Int × Bool × Bool × List Int × Bool × List Int × Bool × List Int × Bool × List Int × List Int) :=
 if ((decide (x5 < x4)) = true) then
 if ((0 : Int) ≤ x5) then
 Option.bind (x3)[(Int.toNat x5)]? fun x6 =>
 if (((0 : Int) ≤ (IntKind.wrap .i64 (i + x5))) ∧ ((IntKind.wrap .i64 (i + x5)) < ((out1 : Nat) : Int))) then
 Option.bind (outs)[(0 + (Int.toNat (IntKind.wrap .i64 (i + x5))))]? fun x7 =>
 if (((0 : Int) ≤ (IntKind.wrap .i64 (i + x5))) ∧ ((IntKind.wrap .i64 (i + x5)) < ((out1 : Nat) : Int))) then
 Option.bind (outs)[(0 + (Int.toNat (IntKind.wrap .i64 (i + x5))))]? fun x8 =>
 rec out1 i a (Int.fdiv (IntKind.wrap .u64 ((IntKind.wrap .u64 ((IntKind.wrap .u64 ((IntKind.wrap .u64 a) * (IntKind.wrap .u64 x6))) + (IntKind.wrap .u64 x7))) + carry)) (4294967296 : Int)) x x1 x2 x3 x4 (IntKind.wrap .i64 (x5 + (1 : Int))) z x0 x11 x21 x31 y0 y1 y2 y3 (List.set outs (0 + (Int.toNat (IntKind.wrap .i64 (i + x5)))) (IntKind.wrap .u32 (IntKind.wrap .u64 ((IntKind.wrap .u64 ((IntKind.wrap .u64 ((IntKind.wrap .u64 a) * (IntKind.wrap .u64 x6))) + (IntKind.wrap .u64 x7))) + carry))))
 else
 none
 else
 none
 else
 none
 else
 (some (out1, i, carry, x, x1, x2, z, x0, x11, x21, x31, y0, y1, y2, y3, outs))
def qbg (k n : Nat) : Nat → Int → Int → Int → List Int → Int → Int → List Int → Int → Int → Bool → Bool → List Int → Bool → List Int → Bool → List Int → Bool → List Int → List Int → Option (Nat × Int × Int × List Int × Int × Int × Bool × Bool × List Int × Bool × List Int × Bool × List Int × Bool × List Int × List Int) := Nat.rec (fun _ _ _ _ _ _ _ _ _ _ _ _ _ _ _ _ _ _ _ _ => none) (fun _ r => qdQ k r) n
def qdR (k : Nat) (rec : Nat → List Int → Int → Int → Bool → Bool → List Int → Bool → List Int → Bool → List Int → Bool → List Int → List Int → Option (Nat × Bool × Bool × List Int × Bool × List Int × Bool × List Int × Bool × List Int × List Int)) (out1 : Nat) (x : List Int) (x1 : Int) (x2 : Int) (z : Bool) (x0 : Bool) (x11 : List Int) (x21 : Bool) (x3 : List Int) (y0 : Bool) (y1 : List Int) (y2 : Bool) (y3 : List Int) (outs : List Int) : Option (Nat × Bool × Bool × List Int × Bool × List Int × Bool × List Int × Bool × List Int × List Int) :=
 if ((decide (x2 < x1)) = true) then
 if ((0 : Int) ≤ x2) then
 Option.bind (x)[(Int.toNat x2)]? fun x4 =>
 Option.bind (qbg k k out1 x2 x4 (0 : Int) x x1 x2 y1 (((List.length y1) : Nat) : Int) (0 : Int) z x0 x11 x21 x3 y0 y1 y2 y3 outs) fun r3 =>
 if (((0 : Int) ≤ (IntKind.wrap .i64 (r3.2.1 + (((List.length r3.2.2.2.2.2.2.2.2.2.2.2.2.1) : Nat) : Int)))) ∧ ((IntKind.wrap .i64 (r3.2.1 + (((List.length r3.2.2.2.2.2.2.2.2.2.2.2.2.1) : Nat) : Int))) < ((r3.1 : Nat) : Int))) then
 Option.bind (r3.2.2.2.2.2.2.2.2.2.2.2.2.2.2.2)[(0 + (Int.toNat (IntKind.wrap .i64 (r3.2.1 + (((List.length r3.2.2.2.2.2.2.2.2.2.2.2.2.1) : Nat) : Int)))))]? fun x5 =>
 rec r3.1 r3.2.2.2.1 r3.2.2.2.2.1 (IntKind.wrap .i64 (r3.2.2.2.2.2.1 + (1 : Int))) r3.2.2.2.2.2.2.1 r3.2.2.2.2.2.2.2.1 r3.2.2.2.2.2.2.2.2.1 r3.2.2.2.2.2.2.2.2.2.1 r3.2.2.2.2.2.2.2.2.2.2.1 r3.2.2.2.2.2.2.2.2.2.2.2.1 r3.2.2.2.2.2.2.2.2.2.2.2.2.1 r3.2.2.2.2.2.2.2.2.2.2.2.2.2.1 r3.2.2.2.2.2.2.2.2.2.2.2.2.2.2.1 (List.set r3.2.2.2.2.2.2.2.2.2.2.2.2.2.2.2 (0 + (Int.toNat (IntKind.wrap .i64 (r3.2.1 + (((List.length r3.2.2.2.2.2.2.2.2.2.2.2.2.1) : Nat) : Int))))) (IntKind.wrap .u32 r3.2.2.1))
 else
 none
 else
 none
 else
 (some (out1, z, x0, x11, x21, x3, y0, y1, y2, y3, outs))
def qbh (k n : Nat) : Nat → List Int → Int → Int → Bool → Bool → List Int → Bool → List Int → Bool → List Int → Bool → List Int → List Int → Option (Nat × Bool × Bool × List Int × Bool × List Int × Bool × List Int × Bool × List Int × List Int) := Nat.rec (fun _ _ _ _ _ _ _ _ _ _ _ _ _ _ => none) (fun _ r => qdR k r) n
def qeM (k : Nat) (z : Bool) (x0 : Bool) (x1 : List Int) (x2 : Bool) (x3 : List Int) (y0 : Bool) (y1 : List Int) (y2 : Bool) (y3 : List Int) : Option (Bool × List Int × Bool × List Int × Bool × List Int × Bool × List Int × Bool × List Int) :=
 if (((0 : Int) ≤ (IntKind.wrap .i64 ((((List.length x1) : Nat) : Int) + (((List.length y1) : Nat) : Int)))) ∧ (((IntKind.wrap .i64 ((((List.length x1) : Nat) : Int) + (((List.length y1) : Nat) : Int))) ≤ (IntKind.wrap .i64 ((((List.length x1) : Nat) : Int) + (((List.length y1) : Nat) : Int)))) ∧ (((IntKind.wrap .i64 ((((List.length x1) : Nat) : Int) + (((List.length y1) : Nat) : Int))) * (4 : Int)) ≤ (140737488355328 : Int)))) then
 Option.bind (qbh k k (Int.toNat (IntKind.wrap .i64 ((((List.length x1) : Nat) : Int) + (((List.length y1) : Nat) : Int)))) x1 (((List.length x1) : Nat) : Int) (0 : Int) z x0 x1 x2 x3 y0 y1 y2 y3 (List.replicate (Int.toNat (IntKind.wrap .i64 ((((List.length x1) : Nat) : Int) + (((List.length y1) : Nat) : Int)))) (0 : Int))) fun r3 =>
 if ((0 + r3.1) ≤ (List.length r3.2.2.2.2.2.2.2.2.2.2)) then
 Option.bind (qal k (!(r3.2.2.1 == r3.2.2.2.2.2.2.1)) (List.take r3.1 r3.2.2.2.2.2.2.2.2.2.2) r3.2.1) fun r4 =>
 (some (r4.1, r4.2, r3.2.2.1, r3.2.2.2.1, r3.2.2.2.2.1, r3.2.2.2.2.2.1, r3.2.2.2.2.2.2.1, r3.2.2.2.2.2.2.2.1, r3.2.2.2.2.2.2.2.2.1, r3.2.2.2.2.2.2.2.2.2.1))
 else
 none
 else
 none
def qbM : Nat → Bool → Bool → List Int → Bool → List Int → Bool → List Int → Bool → List Int → Option (Bool × List Int × Bool × List Int × Bool × List Int × Bool × List Int × Bool × List Int)
 | 0, _, _, _, _, _, _, _, _, _ => none
 | k + 1, z, x0, x1, x2, x3, y0, y1, y2, y3 => qeM k z x0 x1 x2 x3 y0 y1 y2 y3
def qn1 : FS := { vs := [.a (.ptr 0 0 0), .a (.ptr 1 0 0), .a (.ptr 2 0 0)], bs := [.raw [[.lf .bool, .snil 1 72]] 2 98 true false, .raw [[.lf .bool, .lf (.sl (.int .u32)), .lf .bool, .lf (.sl (.int .u32))]] 4 100 true false, .raw [[.lf .bool, .lf (.sl (.int .u32)), .lf .bool, .lf (.sl (.int .u32))]] 4 100 true false] }
def qtr : List FS := [{ vs := [.a (.ptr 0 0 0)], bs := [.raw [[.lf .bool, .lf (.sl (.int .u32))]] 2 98 true false, .raw [[.lf .bool, .lf (.sl (.int .u32)), .lf .bool, .lf (.sl (.int .u32))]] 4 100 true false, .raw [[.lf .bool, .lf (.sl (.int .u32)), .lf .bool, .lf (.sl (.int .u32))]] 4 100 true false] }]
def Iq6 (k : Nat) : Inst := ⟨84, qn1, qtr, fun x => qbM k x.1 x.2.1 x.2.2.1 x.2.2.2.1 x.2.2.2.2.1 x.2.2.2.2.2.1 x.2.2.2.2.2.2.1 x.2.2.2.2.2.2.2.1 x.2.2.2.2.2.2.2.2⟩
theorem qvW (k : Nat) : qn (call cf k) [qde k] := qA (qjr k) qT
def qie : List SS := [{ fr := [(0, .a (.ptr 0 0 0)), (1, .a (.ptr 1 0 0)), (2, .a (.ptr 2 0 0)), (7, .a (.smz 3)), (8, .a (.lf (.int .i64))), (9, .a (.lf (.int .u32))), (10, .a (.lf (.int .u64))), (29, .a (.lf (.sl (.int .u32)))), (30, .a (.lf (.int .i64))), (31, .a (.lf (.int .i64))), (39, .a (.lf (.sl (.int .u32)))), (40, .a (.lf (.int .i64))), (41, .a (.lf (.int .i64)))], mem := [(0, some (.raw [[.lf .bool, .snil 1 72]] 2 98 true false)), (1, some (.raw [[.lf .bool, .lf (.sl (.int .u32)), .lf .bool, .lf (.sl (.int .u32))]] 4 100 true false)), (2, some (.raw [[.lf .bool, .lf (.sl (.int .u32)), .lf .bool, .lf (.sl (.int .u32))]] 4 100 true false)), (3, some (.arr (.int .u32) 1 72 false))], nx := 4 }]
def qmv : List OS := [⟨some 2, { fr := [(0, .a (.ptr 0 0 0)), (1, .a (.ptr 1 0 0)), (2, .a (.ptr 2 0 0)), (7, .a (.smz 3)), (8, .a (.lf (.int .i64))), (10, .a (.lf (.int .u64))), (29, .a (.lf (.sl (.int .u32)))), (30, .a (.lf (.int .i64))), (31, .a (.lf (.int .i64)))], mem := [(0, some (.raw [[.lf .bool, .snil 1 72]] 2 98 true false)), (1, some (.raw [[.lf .bool, .lf (.sl (.int .u32)), .lf .bool, .lf (.sl (.int .u32))]] 4 100 true false)), (2, some (.raw [[.lf .bool, .lf (.sl (.int .u32)), .lf .bool, .lf (.sl (.int .u32))]] 4 100 true false)), (3, some (.arr (.int .u32) 1 72 false))], nx := 4 }⟩]
def qf6 (k : Nat) : LInst := ⟨2, qie, qmv, fun x => qbg k k x.1 x.2.1 x.2.2.1 x.2.2.2.1 x.2.2.2.2.1 x.2.2.2.2.2.1 x.2.2.2.2.2.2.1 x.2.2.2.2.2.2.2.1 x.2.2.2.2.2.2.2.2.1 x.2.2.2.2.2.2.2.2.2.1 x.2.2.2.2.2.2.2.2.2.2.1 x.2.2.2.2.2.2.2.2.2.2.2.1 x.2.2.2.2.2.2.2.2.2.2.2.2.1 x.2.2.2.2.2.2.2.2.2.2.2.2.2.1 x.2.2.2.2.2.2.2.2.2.2.2.2.2.2.1 x.2.2.2.2.2.2.2.2.2.2.2.2.2.2.2.1 x.2.2.2.2.2.2.2.2.2.2.2.2.2.2.2.2.1 x.2.2.2.2.2.2.2.2.2.2.2.2.2.2.2.2.2.1 x.2.2.2.2.2.2.2.2.2.2.2.2.2.2.2.2.2.2.1 x.2.2.2.2.2.2.2.2.2.2.2.2.2.2.2.2.2.2.2⟩
theorem qzS (k : Nat) : qf (LOk (R := DS OS.D qmv) (fun b _ σ K => LOt Ty (kps 84) 3 b σ K []) cf (call cf k) (kps 84) Try.f84.ntmps k 3) 2 (lb Try.f84 1) :=
 qA qT (qA (qA qT qT) (qA (qA qT (qA qT (qA qT qT))) qT))
theorem qzT (k n : Nat) (x : DS SS.D qie) : qbg k (n + 1) x.1 x.2.1 x.2.2.1 x.2.2.2.1 x.2.2.2.2.1 x.2.2.2.2.2.1 x.2.2.2.2.2.2.1 x.2.2.2.2.2.2.2.1 x.2.2.2.2.2.2.2.2.1 x.2.2.2.2.2.2.2.2.2.1 x.2.2.2.2.2.2.2.2.2.2.1 x.2.2.2.2.2.2.2.2.2.2.2.1 x.2.2.2.2.2.2.2.2.2.2.2.2.1 x.2.2.2.2.2.2.2.2.2.2.2.2.2.1 x.2.2.2.2.2.2.2.2.2.2.2.2.2.2.1 x.2.2.2.2.2.2.2.2.2.2.2.2.2.2.2.1 x.2.2.2.2.2.2.2.2.2.2.2.2.2.2.2.2.1 x.2.2.2.2.2.2.2.2.2.2.2.2.2.2.2.2.2.1 x.2.2.2.2.2.2.2.2.2.2.2.2.2.2.2.2.2.2.1 x.2.2.2.2.2.2.2.2.2.2.2.2.2.2.2.2.2.2.2 = qE SS.enc (fun σ => qF cf (fun f a b K => COt f a b K [qde k]) (fun b _ σ K => LOt Ty (kps 84) 3 b σ K []) Try.f84.ntmps 2 (lb Try.f84 1) σ (qJ Ty (kps 84 2) 3 qie qmv fun x => qbg k n x.1 x.2.1 x.2.2.1 x.2.2.2.1 x.2.2.2.2.1 x.2.2.2.2.2.1 x.2.2.2.2.2.2.1 x.2.2.2.2.2.2.2.1 x.2.2.2.2.2.2.2.2.1 x.2.2.2.2.2.2.2.2.2.1 x.2.2.2.2.2.2.2.2.2.2.1 x.2.2.2.2.2.2.2.2.2.2.2.1 x.2.2.2.2.2.2.2.2.2.2.2.2.1 x.2.2.2.2.2.2.2.2.2.2.2.2.2.1 x.2.2.2.2.2.2.2.2.2.2.2.2.2.2.1 x.2.2.2.2.2.2.2.2.2.2.2.2.2.2.2.1 x.2.2.2.2.2.2.2.2.2.2.2.2.2.2.2.2.1 x.2.2.2.2.2.2.2.2.2.2.2.2.2.2.2.2.2.1 x.2.2.2.2.2.2.2.2.2.2.2.2.2.2.2.2.2.2.1 x.2.2.2.2.2.2.2.2.2.2.2.2.2.2.2.2.2.2.2)) qie x := by kernel_rfl
theorem qzU (k : Nat) : qac cf (call cf k) (kps 84) Try.f84.ntmps k 3 2 (lb Try.f84 1) (qf6 k) :=
 qr (c := cf) (callF := call cf k) (kp := kps 84) (nt := Try.f84.ntmps) (k := k) (p := 3) (b := 2) (x0 := lb Try.f84 1) (hs := qie) (os := qmv) (qd (qvW k)) (qzS k) (fun n x => qbg k n x.1 x.2.1 x.2.2.1 x.2.2.2.1 x.2.2.2.2.1 x.2.2.2.2.2.1 x.2.2.2.2.2.2.1 x.2.2.2.2.2.2.2.1 x.2.2.2.2.2.2.2.2.1 x.2.2.2.2.2.2.2.2.2.1 x.2.2.2.2.2.2.2.2.2.2.1 x.2.2.2.2.2.2.2.2.2.2.2.1 x.2.2.2.2.2.2.2.2.2.2.2.2.1 x.2.2.2.2.2.2.2.2.2.2.2.2.2.1 x.2.2.2.2.2.2.2.2.2.2.2.2.2.2.1 x.2.2.2.2.2.2.2.2.2.2.2.2.2.2.2.1 x.2.2.2.2.2.2.2.2.2.2.2.2.2.2.2.2.1 x.2.2.2.2.2.2.2.2.2.2.2.2.2.2.2.2.2.1 x.2.2.2.2.2.2.2.2.2.2.2.2.2.2.2.2.2.2.1 x.2.2.2.2.2.2.2.2.2.2.2.2.2.2.2.2.2.2.2) (fun _ => rfl) (qzT k)
def qif : List SS := [{ fr := [(0, .a (.ptr 0 0 0)), (1, .a (.ptr 1 0 0)), (2, .a (.ptr 2 0 0)), (7, .a (.smz 3)), (29, .a (.lf (.sl (.int .u32)))), (30, .a (.lf (.int .i64))), (31, .a (.lf (.int .i64)))], mem := [(0, some (.raw [[.lf .bool, .snil 1 72]] 2 98 true false)), (1, some (.raw [[.lf .bool, .lf (.sl (.int .u32)), .lf .bool, .lf (.sl (.int .u32))]] 4 100 true false)), (2, some (.raw [[.lf .bool, .lf (.sl (.int .u32)), .lf .bool, .lf (.sl (.int .u32))]] 4 100 true false)), (3, some (.arr (.int .u32) 1 72 false))], nx := 4 }]
def qmw : List OS := [⟨some 0, { fr := [(0, .a (.ptr 0 0 0)), (1, .a (.ptr 1 0 0)), (2, .a (.ptr 2 0 0)), (7, .a (.smz 3))], mem := [(0, some (.raw [[.lf .bool, .snil 1 72]] 2 98 true false)), (1, some (.raw [[.lf .bool, .lf (.sl (.int .u32)), .lf .bool, .lf (.sl (.int .u32))]] 4 100 true false)), (2, some (.raw [[.lf .bool, .lf (.sl (.int .u32)), .lf .bool, .lf (.sl (.int .u32))]] 4 100 true false)), (3, some (.arr (.int .u32) 1 72 false))], nx := 4 }⟩]
def qmx (k : Nat) : LInst := ⟨0, qif, qmw, fun x => qbh k k x.1 x.2.1 x.2.2.1 x.2.2.2.1 x.2.2.2.2.1 x.2.2.2.2.2.1 x.2.2.2.2.2.2.1 x.2.2.2.2.2.2.2.1 x.2.2.2.2.2.2.2.2.1 x.2.2.2.2.2.2.2.2.2.1 x.2.2.2.2.2.2.2.2.2.2.1 x.2.2.2.2.2.2.2.2.2.2.2.1 x.2.2.2.2.2.2.2.2.2.2.2.2.1 x.2.2.2.2.2.2.2.2.2.2.2.2.2⟩
theorem qzV (k : Nat) : qf (LOk (R := DS OS.D qmw) (fun b _ σ K => LOt Ty (kps 84) 3 b σ K [qf6 k]) cf (call cf k) (kps 84) Try.f84.ntmps k 3) 0 (lb Try.f84 0) :=
 qA qT (qA (qA qT qT) (qA (qA qT (qA qT (qA (qA qT (qz (c := cf) (callF := call cf k) (kp := kps 84) (nt := Try.f84.ntmps) (k := k) (p := 3) (b := 2) (x0 := lb Try.f84 1) (l := [qf6 k]) (qA (fun _ => qzU k) qT))) qT))) qT))
theorem qzW (k n : Nat) (x : DS SS.D qif) : qbh k (n + 1) x.1 x.2.1 x.2.2.1 x.2.2.2.1 x.2.2.2.2.1 x.2.2.2.2.2.1 x.2.2.2.2.2.2.1 x.2.2.2.2.2.2.2.1 x.2.2.2.2.2.2.2.2.1 x.2.2.2.2.2.2.2.2.2.1 x.2.2.2.2.2.2.2.2.2.2.1 x.2.2.2.2.2.2.2.2.2.2.2.1 x.2.2.2.2.2.2.2.2.2.2.2.2.1 x.2.2.2.2.2.2.2.2.2.2.2.2.2 = qE SS.enc (fun σ => qF cf (fun f a b K => COt f a b K [qde k]) (fun b _ σ K => LOt Ty (kps 84) 3 b σ K [qf6 k]) Try.f84.ntmps 0 (lb Try.f84 0) σ (qJ Ty (kps 84 0) 3 qif qmw fun x => qbh k n x.1 x.2.1 x.2.2.1 x.2.2.2.1 x.2.2.2.2.1 x.2.2.2.2.2.1 x.2.2.2.2.2.2.1 x.2.2.2.2.2.2.2.1 x.2.2.2.2.2.2.2.2.1 x.2.2.2.2.2.2.2.2.2.1 x.2.2.2.2.2.2.2.2.2.2.1 x.2.2.2.2.2.2.2.2.2.2.2.1 x.2.2.2.2.2.2.2.2.2.2.2.2.1 x.2.2.2.2.2.2.2.2.2.2.2.2.2)) qif x := by kernel_rfl
theorem qzX (k : Nat) : qac cf (call cf k) (kps 84) Try.f84.ntmps k 3 0 (lb Try.f84 0) (qmx k) :=
 qr (c := cf) (callF := call cf k) (kp := kps 84) (nt := Try.f84.ntmps) (k := k) (p := 3) (b := 0) (x0 := lb Try.f84 0) (hs := qif) (os := qmw) (qd (qvW k)) (qzV k) (fun n x => qbh k n x.1 x.2.1 x.2.2.1 x.2.2.2.1 x.2.2.2.2.1 x.2.2.2.2.2.1 x.2.2.2.2.2.2.1 x.2.2.2.2.2.2.2.1 x.2.2.2.2.2.2.2.2.1 x.2.2.2.2.2.2.2.2.2.1 x.2.2.2.2.2.2.2.2.2.2.1 x.2.2.2.2.2.2.2.2.2.2.2.1 x.2.2.2.2.2.2.2.2.2.2.2.2.1 x.2.2.2.2.2.2.2.2.2.2.2.2.2) (fun _ => rfl) (qzW k)
theorem qHh (k : Nat) : qf (LOk (R := DS FS.D qtr) (fun b _ σ K => LOt Ty (kps 84) 3 b σ K [qf6 k, qmx k]) cf (call cf k) (cf.keep 84) Try.f84.ntmps k qn1.bs.length) 0 (bd Try.f84) :=
 qA qT (qA qT (qA (qA qT (qz (c := cf) (callF := call cf k) (kp := kps 84) (nt := Try.f84.ntmps) (k := k) (p := 3) (b := 0) (x0 := lb Try.f84 0) (l := [qf6 k, qmx k]) (qA (fun h => absurd (show (2 : Nat) = 0 from h) (by decide)) (qA (fun _ => qzX k) qT)))) (qA qT qT)))
theorem qHi (k : Nat) (x : qn1.D) : qbM (k + 1) x.1 x.2.1 x.2.2.1 x.2.2.2.1 x.2.2.2.2.1 x.2.2.2.2.2.1 x.2.2.2.2.2.2.1 x.2.2.2.2.2.2.2.1 x.2.2.2.2.2.2.2.2 = qi cf (fun f a b K => COt f a b K [qde k]) (fun b _ σ K => LOt Ty (kps 84) 3 b σ K [qf6 k, qmx k]) 84 Try.f84.ntmps Try.f84.results.toList (bd Try.f84) (qn1.enc x).1 (qn1.enc x).2 (qj FS.dec qtr) := by kernel_rfl
theorem qzY : ∀ k, qh (call cf k) (Iq6 k)
 | 0 => fun x y e => absurd (show (none : Option _) = some y from e) (by simp)
 | k + 1 => qe (c := cf) (k := k) (f := 84) (fn := Try.f84) (body := bd Try.f84) (sh := qn1) (os := qtr) rfl Try.func84 rfl ⟨rfl, Nat.le_of_ble_eq_true rfl⟩ (qd (qvW k)) (qHh k) (fun x => qbM (k + 1) x.1 x.2.1 x.2.2.1 x.2.2.2.1 x.2.2.2.2.1 x.2.2.2.2.2.1 x.2.2.2.2.2.2.1 x.2.2.2.2.2.2.2.1 x.2.2.2.2.2.2.2.2) (qHi k)

def qV (k : Nat) (rec : Nat → Int → Int → Int → List Int → Int → Int → List Int → Int → Int → Bool → Bool → List Int → Bool → List Int → List Int → Option (Nat × Int × Int × List Int × Int × Int × Bool × Bool × List Int × Bool × List Int × List Int)) (out1 : Nat) (i : Int) (a : Int) (carry : Int) (x : List Int) (x1 : Int) (x2 : Int) (x3 : List Int) (x4 : Int) (x5 : Int) (z : Bool) (x0 : Bool) (x11 : List Int) (y0 : Bool) (y1 : List Int) (outs : List Int) : Option (Nat × Int × Int × List Int × Int × Int × Bool × Bool × List Int × Bool × List Int × List Int) :=
 if ((decide (x5 < x4)) = true) then
 if ((0 : Int) ≤ x5) then
 Option.bind (x3)[(Int.toNat x5)]? fun x6 =>
 if (((0 : Int) ≤ (IntKind.wrap .i64 (i + x5))) ∧ ((IntKind.wrap .i64 (i + x5)) < ((out1 : Nat) : Int))) then
 Option.bind (outs)[(0 + (Int.toNat (IntKind.wrap .i64 (i + x5))))]? fun x7 =>
 if (((0 : Int) ≤ (IntKind.wrap .i64 (i + x5))) ∧ ((IntKind.wrap .i64 (i + x5)) < ((out1 : Nat) : Int))) then
 Option.bind (outs)[(0 + (Int.toNat (IntKind.wrap .i64 (i + x5))))]? fun x8 =>
 rec out1 i a (Int.fdiv (IntKind.wrap .u64 ((IntKind.wrap .u64 ((IntKind.wrap .u64 ((IntKind.wrap .u64 a) * (IntKind.wrap .u64 x6))) + (IntKind.wrap .u64 x7))) + carry)) (4294967296 : Int)) x x1 x2 x3 x4 (IntKind.wrap .i64 (x5 + (1 : Int))) z x0 x11 y0 y1 (List.set outs (0 + (Int.toNat (IntKind.wrap .i64 (i + x5)))) (IntKind.wrap .u32 (IntKind.wrap .u64 ((IntKind.wrap .u64 ((IntKind.wrap .u64 ((IntKind.wrap .u64 a) * (IntKind.wrap .u64 x6))) + (IntKind.wrap .u64 x7))) + carry))))
 else
 none
 else
 none
 else
 none
 else
 (some (out1, i, carry, x, x1, x2, z, x0, x11, y0, y1, outs))
def qG (k n : Nat) : Nat → Int → Int → Int → List Int → Int → Int → List Int → Int → Int → Bool → Bool → List Int → Bool → List Int → List Int → Option (Nat × Int × Int × List Int × Int × Int × Bool × Bool × List Int × Bool × List Int × List Int) := Nat.rec (fun _ _ _ _ _ _ _ _ _ _ _ _ _ _ _ _ => none) (fun _ r => qV k r) n
def qW (k : Nat) (rec : Nat → List Int → Int → Int → Bool → Bool → List Int → Bool → List Int → List Int → Option (Nat × Bool × Bool × List Int × Bool × List Int × List Int)) (out1 : Nat) (x : List Int) (x1 : Int) (x2 : Int) (z : Bool) (x0 : Bool) (x11 : List Int) (y0 : Bool) (y1 : List Int) (outs : List Int) : Option (Nat × Bool × Bool × List Int × Bool × List Int × List Int) :=
 if ((decide (x2 < x1)) = true) then
 if ((0 : Int) ≤ x2) then
 Option.bind (x)[(Int.toNat x2)]? fun x4 =>
 Option.bind (qG k k out1 x2 x4 (0 : Int) x x1 x2 y1 (((List.length y1) : Nat) : Int) (0 : Int) z x0 x11 y0 y1 outs) fun r6 =>
 if (((0 : Int) ≤ (IntKind.wrap .i64 (r6.2.1 + (((List.length r6.2.2.2.2.2.2.2.2.2.2.1) : Nat) : Int)))) ∧ ((IntKind.wrap .i64 (r6.2.1 + (((List.length r6.2.2.2.2.2.2.2.2.2.2.1) : Nat) : Int))) < ((r6.1 : Nat) : Int))) then
 Option.bind (r6.2.2.2.2.2.2.2.2.2.2.2)[(0 + (Int.toNat (IntKind.wrap .i64 (r6.2.1 + (((List.length r6.2.2.2.2.2.2.2.2.2.2.1) : Nat) : Int)))))]? fun x5 =>
 rec r6.1 r6.2.2.2.1 r6.2.2.2.2.1 (IntKind.wrap .i64 (r6.2.2.2.2.2.1 + (1 : Int))) r6.2.2.2.2.2.2.1 r6.2.2.2.2.2.2.2.1 r6.2.2.2.2.2.2.2.2.1 r6.2.2.2.2.2.2.2.2.2.1 r6.2.2.2.2.2.2.2.2.2.2.1 (List.set r6.2.2.2.2.2.2.2.2.2.2.2 (0 + (Int.toNat (IntKind.wrap .i64 (r6.2.1 + (((List.length r6.2.2.2.2.2.2.2.2.2.2.1) : Nat) : Int))))) (IntKind.wrap .u32 r6.2.2.1))
 else
 none
 else
 none
 else
 (some (out1, z, x0, x11, y0, y1, outs))
def qB (k n : Nat) : Nat → List Int → Int → Int → Bool → Bool → List Int → Bool → List Int → List Int → Option (Nat × Bool × Bool × List Int × Bool × List Int × List Int) := Nat.rec (fun _ _ _ _ _ _ _ _ _ _ => none) (fun _ r => qW k r) n
def qbN (k : Nat) (z : Bool) (x0 : Bool) (x1 : List Int) (y0 : Bool) (y1 : List Int) : Option (Bool × List Int × Bool × List Int × Bool × List Int) :=
 if (((0 : Int) ≤ (IntKind.wrap .i64 ((((List.length x1) : Nat) : Int) + (((List.length y1) : Nat) : Int)))) ∧ (((IntKind.wrap .i64 ((((List.length x1) : Nat) : Int) + (((List.length y1) : Nat) : Int))) ≤ (IntKind.wrap .i64 ((((List.length x1) : Nat) : Int) + (((List.length y1) : Nat) : Int)))) ∧ (((IntKind.wrap .i64 ((((List.length x1) : Nat) : Int) + (((List.length y1) : Nat) : Int))) * (4 : Int)) ≤ (140737488355328 : Int)))) then
 Option.bind (qB k k (Int.toNat (IntKind.wrap .i64 ((((List.length x1) : Nat) : Int) + (((List.length y1) : Nat) : Int)))) x1 (((List.length x1) : Nat) : Int) (0 : Int) z x0 x1 y0 y1 (List.replicate (Int.toNat (IntKind.wrap .i64 ((((List.length x1) : Nat) : Int) + (((List.length y1) : Nat) : Int)))) (0 : Int))) fun r6 =>
 if ((0 + r6.1) ≤ (List.length r6.2.2.2.2.2.2)) then
 Option.bind (qal k (!(r6.2.2.1 == r6.2.2.2.2.1)) (List.take r6.1 r6.2.2.2.2.2.2) r6.2.1) fun r7 =>
 (some (r7.1, r7.2, r6.2.2.1, r6.2.2.2.1, r6.2.2.2.2.1, r6.2.2.2.2.2.1))
 else
 none
 else
 none
def qam : Nat → Bool → Bool → List Int → Bool → List Int → Option (Bool × List Int × Bool × List Int × Bool × List Int)
 | 0, _, _, _, _, _ => none
 | k + 1, z, x0, x1, y0, y1 => qbN k z x0 x1 y0 y1
def qn2 : FS := { vs := [.a (.ptr 0 0 0), .a (.ptr 1 0 0), .a (.ptr 2 0 0)], bs := [.raw [[.lf .bool, .snil 1 72]] 2 98 true false, .raw [[.lf .bool, .lf (.sl (.int .u32))]] 2 98 true false, .raw [[.lf .bool, .lf (.sl (.int .u32))]] 2 98 true false] }
def qts : List FS := [{ vs := [.a (.ptr 0 0 0)], bs := [.raw [[.lf .bool, .lf (.sl (.int .u32))]] 2 98 true false, .raw [[.lf .bool, .lf (.sl (.int .u32))]] 2 98 true false, .raw [[.lf .bool, .lf (.sl (.int .u32))]] 2 98 true false] }]
def Iq4 (k : Nat) : Inst := ⟨84, qn2, qts, fun x => qam k x.1 x.2.1 x.2.2.1 x.2.2.2.1 x.2.2.2.2⟩
theorem qvX (k : Nat) : qn (call cf k) [qde k] := qA (qjr k) qT
def qig : List SS := [{ fr := [(0, .a (.ptr 0 0 0)), (1, .a (.ptr 1 0 0)), (2, .a (.ptr 2 0 0)), (7, .a (.smz 3)), (8, .a (.lf (.int .i64))), (9, .a (.lf (.int .u32))), (10, .a (.lf (.int .u64))), (29, .a (.lf (.sl (.int .u32)))), (30, .a (.lf (.int .i64))), (31, .a (.lf (.int .i64))), (39, .a (.lf (.sl (.int .u32)))), (40, .a (.lf (.int .i64))), (41, .a (.lf (.int .i64)))], mem := [(0, some (.raw [[.lf .bool, .snil 1 72]] 2 98 true false)), (1, some (.raw [[.lf .bool, .lf (.sl (.int .u32))]] 2 98 true false)), (2, some (.raw [[.lf .bool, .lf (.sl (.int .u32))]] 2 98 true false)), (3, some (.arr (.int .u32) 1 72 false))], nx := 4 }]
def qmy : List OS := [⟨some 2, { fr := [(0, .a (.ptr 0 0 0)), (1, .a (.ptr 1 0 0)), (2, .a (.ptr 2 0 0)), (7, .a (.smz 3)), (8, .a (.lf (.int .i64))), (10, .a (.lf (.int .u64))), (29, .a (.lf (.sl (.int .u32)))), (30, .a (.lf (.int .i64))), (31, .a (.lf (.int .i64)))], mem := [(0, some (.raw [[.lf .bool, .snil 1 72]] 2 98 true false)), (1, some (.raw [[.lf .bool, .lf (.sl (.int .u32))]] 2 98 true false)), (2, some (.raw [[.lf .bool, .lf (.sl (.int .u32))]] 2 98 true false)), (3, some (.arr (.int .u32) 1 72 false))], nx := 4 }⟩]
def qf7 (k : Nat) : LInst := ⟨2, qig, qmy, fun x => qG k k x.1 x.2.1 x.2.2.1 x.2.2.2.1 x.2.2.2.2.1 x.2.2.2.2.2.1 x.2.2.2.2.2.2.1 x.2.2.2.2.2.2.2.1 x.2.2.2.2.2.2.2.2.1 x.2.2.2.2.2.2.2.2.2.1 x.2.2.2.2.2.2.2.2.2.2.1 x.2.2.2.2.2.2.2.2.2.2.2.1 x.2.2.2.2.2.2.2.2.2.2.2.2.1 x.2.2.2.2.2.2.2.2.2.2.2.2.2.1 x.2.2.2.2.2.2.2.2.2.2.2.2.2.2.1 x.2.2.2.2.2.2.2.2.2.2.2.2.2.2.2⟩
theorem qzZ (k : Nat) : qf (LOk (R := DS OS.D qmy) (fun b _ σ K => LOt Ty (kps 84) 3 b σ K []) cf (call cf k) (kps 84) Try.f84.ntmps k 3) 2 (lb Try.f84 1) :=
 qA qT (qA (qA qT qT) (qA (qA qT (qA qT (qA qT qT))) qT))
theorem qz0 (k n : Nat) (x : DS SS.D qig) : qG k (n + 1) x.1 x.2.1 x.2.2.1 x.2.2.2.1 x.2.2.2.2.1 x.2.2.2.2.2.1 x.2.2.2.2.2.2.1 x.2.2.2.2.2.2.2.1 x.2.2.2.2.2.2.2.2.1 x.2.2.2.2.2.2.2.2.2.1 x.2.2.2.2.2.2.2.2.2.2.1 x.2.2.2.2.2.2.2.2.2.2.2.1 x.2.2.2.2.2.2.2.2.2.2.2.2.1 x.2.2.2.2.2.2.2.2.2.2.2.2.2.1 x.2.2.2.2.2.2.2.2.2.2.2.2.2.2.1 x.2.2.2.2.2.2.2.2.2.2.2.2.2.2.2 = qE SS.enc (fun σ => qF cf (fun f a b K => COt f a b K [qde k]) (fun b _ σ K => LOt Ty (kps 84) 3 b σ K []) Try.f84.ntmps 2 (lb Try.f84 1) σ (qJ Ty (kps 84 2) 3 qig qmy fun x => qG k n x.1 x.2.1 x.2.2.1 x.2.2.2.1 x.2.2.2.2.1 x.2.2.2.2.2.1 x.2.2.2.2.2.2.1 x.2.2.2.2.2.2.2.1 x.2.2.2.2.2.2.2.2.1 x.2.2.2.2.2.2.2.2.2.1 x.2.2.2.2.2.2.2.2.2.2.1 x.2.2.2.2.2.2.2.2.2.2.2.1 x.2.2.2.2.2.2.2.2.2.2.2.2.1 x.2.2.2.2.2.2.2.2.2.2.2.2.2.1 x.2.2.2.2.2.2.2.2.2.2.2.2.2.2.1 x.2.2.2.2.2.2.2.2.2.2.2.2.2.2.2)) qig x := by kernel_rfl
theorem qz1 (k : Nat) : qac cf (call cf k) (kps 84) Try.f84.ntmps k 3 2 (lb Try.f84 1) (qf7 k) :=
 qr (c := cf) (callF := call cf k) (kp := kps 84) (nt := Try.f84.ntmps) (k := k) (p := 3) (b := 2) (x0 := lb Try.f84 1) (hs := qig) (os := qmy) (qd (qvX k)) (qzZ k) (fun n x => qG k n x.1 x.2.1 x.2.2.1 x.2.2.2.1 x.2.2.2.2.1 x.2.2.2.2.2.1 x.2.2.2.2.2.2.1 x.2.2.2.2.2.2.2.1 x.2.2.2.2.2.2.2.2.1 x.2.2.2.2.2.2.2.2.2.1 x.2.2.2.2.2.2.2.2.2.2.1 x.2.2.2.2.2.2.2.2.2.2.2.1 x.2.2.2.2.2.2.2.2.2.2.2.2.1 x.2.2.2.2.2.2.2.2.2.2.2.2.2.1 x.2.2.2.2.2.2.2.2.2.2.2.2.2.2.1 x.2.2.2.2.2.2.2.2.2.2.2.2.2.2.2) (fun _ => rfl) (qz0 k)
def qih : List SS := [{ fr := [(0, .a (.ptr 0 0 0)), (1, .a (.ptr 1 0 0)), (2, .a (.ptr 2 0 0)), (7, .a (.smz 3)), (29, .a (.lf (.sl (.int .u32)))), (30, .a (.lf (.int .i64))), (31, .a (.lf (.int .i64)))], mem := [(0, some (.raw [[.lf .bool, .snil 1 72]] 2 98 true false)), (1, some (.raw [[.lf .bool, .lf (.sl (.int .u32))]] 2 98 true false)), (2, some (.raw [[.lf .bool, .lf (.sl (.int .u32))]] 2 98 true false)), (3, some (.arr (.int .u32) 1 72 false))], nx := 4 }]
def qmz : List OS := [⟨some 0, { fr := [(0, .a (.ptr 0 0 0)), (1, .a (.ptr 1 0 0)), (2, .a (.ptr 2 0 0)), (7, .a (.smz 3))], mem := [(0, some (.raw [[.lf .bool, .snil 1 72]] 2 98 true false)), (1, some (.raw [[.lf .bool, .lf (.sl (.int .u32))]] 2 98 true false)), (2, some (.raw [[.lf .bool, .lf (.sl (.int .u32))]] 2 98 true false)), (3, some (.arr (.int .u32) 1 72 false))], nx := 4 }⟩]
def qmA (k : Nat) : LInst := ⟨0, qih, qmz, fun x => qB k k x.1 x.2.1 x.2.2.1 x.2.2.2.1 x.2.2.2.2.1 x.2.2.2.2.2.1 x.2.2.2.2.2.2.1 x.2.2.2.2.2.2.2.1 x.2.2.2.2.2.2.2.2.1 x.2.2.2.2.2.2.2.2.2⟩
theorem qz2 (k : Nat) : qf (LOk (R := DS OS.D qmz) (fun b _ σ K => LOt Ty (kps 84) 3 b σ K [qf7 k]) cf (call cf k) (kps 84) Try.f84.ntmps k 3) 0 (lb Try.f84 0) :=
 qA qT (qA (qA qT qT) (qA (qA qT (qA qT (qA (qA qT (qz (c := cf) (callF := call cf k) (kp := kps 84) (nt := Try.f84.ntmps) (k := k) (p := 3) (b := 2) (x0 := lb Try.f84 1) (l := [qf7 k]) (qA (fun _ => qz1 k) qT))) qT))) qT))
theorem qz3 (k n : Nat) (x : DS SS.D qih) : qB k (n + 1) x.1 x.2.1 x.2.2.1 x.2.2.2.1 x.2.2.2.2.1 x.2.2.2.2.2.1 x.2.2.2.2.2.2.1 x.2.2.2.2.2.2.2.1 x.2.2.2.2.2.2.2.2.1 x.2.2.2.2.2.2.2.2.2 = qE SS.enc (fun σ => qF cf (fun f a b K => COt f a b K [qde k]) (fun b _ σ K => LOt Ty (kps 84) 3 b σ K [qf7 k]) Try.f84.ntmps 0 (lb Try.f84 0) σ (qJ Ty (kps 84 0) 3 qih qmz fun x => qB k n x.1 x.2.1 x.2.2.1 x.2.2.2.1 x.2.2.2.2.1 x.2.2.2.2.2.1 x.2.2.2.2.2.2.1 x.2.2.2.2.2.2.2.1 x.2.2.2.2.2.2.2.2.1 x.2.2.2.2.2.2.2.2.2)) qih x := by kernel_rfl
theorem qz4 (k : Nat) : qac cf (call cf k) (kps 84) Try.f84.ntmps k 3 0 (lb Try.f84 0) (qmA k) :=
 qr (c := cf) (callF := call cf k) (kp := kps 84) (nt := Try.f84.ntmps) (k := k) (p := 3) (b := 0) (x0 := lb Try.f84 0) (hs := qih) (os := qmz) (qd (qvX k)) (qz2 k) (fun n x => qB k n x.1 x.2.1 x.2.2.1 x.2.2.2.1 x.2.2.2.2.1 x.2.2.2.2.2.1 x.2.2.2.2.2.2.1 x.2.2.2.2.2.2.2.1 x.2.2.2.2.2.2.2.2.1 x.2.2.2.2.2.2.2.2.2) (fun _ => rfl) (qz3 k)
theorem qHj (k : Nat) : qf (LOk (R := DS FS.D qts) (fun b _ σ K => LOt Ty (kps 84) 3 b σ K [qf7 k, qmA k]) cf (call cf k) (cf.keep 84) Try.f84.ntmps k qn2.bs.length) 0 (bd Try.f84) :=
 qA qT (qA qT (qA (qA qT (qz (c := cf) (callF := call cf k) (kp := kps 84) (nt := Try.f84.ntmps) (k := k) (p := 3) (b := 0) (x0 := lb Try.f84 0) (l := [qf7 k, qmA k]) (qA (fun h => absurd (show (2 : Nat) = 0 from h) (by decide)) (qA (fun _ => qz4 k) qT)))) (qA qT qT)))
theorem qHk (k : Nat) (x : qn2.D) : qam (k + 1) x.1 x.2.1 x.2.2.1 x.2.2.2.1 x.2.2.2.2 = qi cf (fun f a b K => COt f a b K [qde k]) (fun b _ σ K => LOt Ty (kps 84) 3 b σ K [qf7 k, qmA k]) 84 Try.f84.ntmps Try.f84.results.toList (bd Try.f84) (qn2.enc x).1 (qn2.enc x).2 (qj FS.dec qts) := by kernel_rfl
theorem qq8 : ∀ k, qh (call cf k) (Iq4 k)
 | 0 => fun x y e => absurd (show (none : Option _) = some y from e) (by simp)
 | k + 1 => qe (c := cf) (k := k) (f := 84) (fn := Try.f84) (body := bd Try.f84) (sh := qn2) (os := qts) rfl Try.func84 rfl ⟨rfl, Nat.le_of_ble_eq_true rfl⟩ (qd (qvX k)) (qHj k) (fun x => qam (k + 1) x.1 x.2.1 x.2.2.1 x.2.2.2.1 x.2.2.2.2) (qHk k)

def qkL (k : Nat) (z0 : Bool) (z1 : List Int) (z2 : Bool) (z3 : List Int) (n0 : Bool) (n1 : List Int) (d0 : Bool) (d1 : List Int) : Option (Bool × List Int × Bool × List Int × Bool × List Int × Bool × List Int) :=
 Option.bind (qcO k n0 n1 d0 d1) fun r7 =>
 if (r7.2.2.1 = true) then
 Option.bind (qZ k false r7.1 r7.2.1 true r7.2.2.2.2.2) fun r8 =>
 Option.bind (qZ k false r7.2.2.1 r7.2.2.2.1 r8.2.2.2.2.1 r8.2.2.2.2.2) fun r9 =>
 (some (r8.1, r8.2.1, r9.1, r9.2.1, r8.2.2.1, r8.2.2.2.1, r9.2.2.1, r9.2.2.2.1))
 else
 Option.bind (qZ k false r7.1 r7.2.1 r7.2.2.2.2.1 r7.2.2.2.2.2) fun r8 =>
 Option.bind (qZ k false r7.2.2.1 r7.2.2.2.1 r8.2.2.2.2.1 r8.2.2.2.2.2) fun r9 =>
 (some (r8.1, r8.2.1, r9.1, r9.2.1, r8.2.2.1, r8.2.2.2.1, r9.2.2.1, r9.2.2.2.1))
def qa1 : Nat → Bool → List Int → Bool → List Int → Bool → List Int → Bool → List Int → Option (Bool × List Int × Bool × List Int × Bool × List Int × Bool × List Int)
 | 0, _, _, _, _, _, _, _, _ => none
 | k + 1, z0, z1, z2, z3, n0, n1, d0, d1 => qkL k z0 z1 z2 z3 n0 n1 d0 d1
def qjD : FS := { vs := [.a (.ptr 0 0 0), .a (.ptr 1 0 0), .a (.ptr 2 0 0)], bs := [.raw [[.lf .bool, .lf (.sl (.int .u32)), .lf .bool, .lf (.sl (.int .u32))]] 4 100 true false, .raw [[.lf .bool, .lf (.sl (.int .u32))]] 2 98 true false, .raw [[.lf .bool, .lf (.sl (.int .u32))]] 2 98 true false] }
def qpl : List FS := [{ vs := [.a (.ptr 0 0 0)], bs := [.raw [[.lf .bool, .lf (.sl (.int .u32)), .lf .bool, .lf (.sl (.int .u32))]] 4 100 true false, .raw [[.lf .bool, .lf (.sl (.int .u32))]] 2 98 true false, .raw [[.lf .bool, .lf (.sl (.int .u32))]] 2 98 true false] }]
def qq9 (k : Nat) : Inst := ⟨88, qjD, qpl, fun x => qa1 k x.1 x.2.1 x.2.2.1 x.2.2.2.1 x.2.2.2.2.1 x.2.2.2.2.2.1 x.2.2.2.2.2.2.1 x.2.2.2.2.2.2.2⟩
theorem qDu (k : Nat) : qn (call cf k) [Iq1 k, qq4 k] := qA (qvQ k) (qA (qw3 k) qT)
theorem qDv (k : Nat) : qf (LOk (R := DS FS.D qpl) (fun b _ σ K => LOt Ty (kps 88) 3 b σ K []) cf (call cf k) (cf.keep 88) Try.f88.ntmps k qjD.bs.length) 0 (bd Try.f88) :=
 qA qT (qA qT (qA (qA qT (qA qT qT)) (qA qT (qA qT (qA qT (qA qT (qA qT qT)))))))
theorem qDw (k : Nat) (x : qjD.D) : qa1 (k + 1) x.1 x.2.1 x.2.2.1 x.2.2.2.1 x.2.2.2.2.1 x.2.2.2.2.2.1 x.2.2.2.2.2.2.1 x.2.2.2.2.2.2.2 = qi cf (fun f a b K => COt f a b K [Iq1 k, qq4 k]) (fun b _ σ K => LOt Ty (kps 88) 3 b σ K []) 88 Try.f88.ntmps Try.f88.results.toList (bd Try.f88) (qjD.enc x).1 (qjD.enc x).2 (qj FS.dec qpl) := by kernel_rfl
theorem qw6 : ∀ k, qh (call cf k) (qq9 k)
 | 0 => fun x y e => absurd (show (none : Option _) = some y from e) (by simp)
 | k + 1 => qe (c := cf) (k := k) (f := 88) (fn := Try.f88) (body := bd Try.f88) (sh := qjD) (os := qpl) rfl Try.func88 rfl ⟨rfl, Nat.le_of_ble_eq_true rfl⟩ (qd (qDu k)) (qDv k) (fun x => qa1 (k + 1) x.1 x.2.1 x.2.2.1 x.2.2.2.1 x.2.2.2.2.1 x.2.2.2.2.2.1 x.2.2.2.2.2.2.1 x.2.2.2.2.2.2.2) (qDw k)

def qla (k : Nat) (x0 : Bool) (x1 : List Int) (x2 : Bool) (x3 : List Int) (y0 : Bool) (y1 : List Int) (y2 : Bool) (y3 : List Int) : Option (Bool × List Int × Bool × List Int × Bool × List Int × Bool × List Int) :=
 Option.bind (qbM k false x0 x1 x2 x3 y0 y1 y2 y3) fun r3 =>
 Option.bind (qo k r3.2.2.1 r3.2.2.2.1 r3.2.2.2.2.1 r3.2.2.2.2.2.1) fun r4 =>
 Option.bind (qo k r3.2.2.2.2.2.2.1 r3.2.2.2.2.2.2.2.1 r3.2.2.2.2.2.2.2.2.1 r3.2.2.2.2.2.2.2.2.2) fun r5 =>
 Option.bind (qam k false r4.2.2.2.2.1 r4.2.2.2.2.2 r5.2.2.2.2.1 r5.2.2.2.2.2) fun r6 =>
 Option.bind (qa1 k r4.1 r4.2.1 r4.2.2.1 r4.2.2.2.1 r3.1 r3.2.1 r6.1 r6.2.1) fun r7 =>
 (some (r7.1, r7.2.1, r7.2.2.1, r7.2.2.2.1, r5.1, r5.2.1, r5.2.2.1, r5.2.2.2.1))
def qbi : Nat → Bool → List Int → Bool → List Int → Bool → List Int → Bool → List Int → Option (Bool × List Int × Bool × List Int × Bool × List Int × Bool × List Int)
 | 0, _, _, _, _, _, _, _, _ => none
 | k + 1, x0, x1, x2, x3, y0, y1, y2, y3 => qla k x0 x1 x2 x3 y0 y1 y2 y3
def qjE : FS := { vs := [.a (.ptr 0 0 0), .a (.ptr 0 0 0), .a (.ptr 1 0 0)], bs := [.raw [[.lf .bool, .lf (.sl (.int .u32)), .lf .bool, .lf (.sl (.int .u32))]] 4 100 true false, .raw [[.lf .bool, .lf (.sl (.int .u32)), .lf .bool, .lf (.sl (.int .u32))]] 4 100 true false] }
def qpm : List FS := [{ vs := [.a (.ptr 0 0 0)], bs := [.raw [[.lf .bool, .lf (.sl (.int .u32)), .lf .bool, .lf (.sl (.int .u32))]] 4 100 true false, .raw [[.lf .bool, .lf (.sl (.int .u32)), .lf .bool, .lf (.sl (.int .u32))]] 4 100 true false] }]
def qtt (k : Nat) : Inst := ⟨54, qjE, qpm, fun x => qbi k x.1 x.2.1 x.2.2.1 x.2.2.2.1 x.2.2.2.2.1 x.2.2.2.2.2.1 x.2.2.2.2.2.2.1 x.2.2.2.2.2.2.2⟩
theorem qDx (k : Nat) : qn (call cf k) [Iq6 k, qea k, Iq4 k, qq9 k] := qA (qzY k) (qA (qgv k) (qA (qq8 k) (qA (qw6 k) qT)))
theorem qDy (k : Nat) : qf (LOk (R := DS FS.D qpm) (fun b _ σ K => LOt Ty (kps 54) 2 b σ K []) cf (call cf k) (cf.keep 54) Try.f54.ntmps k qjE.bs.length) 0 (bd Try.f54) :=
 qA qT (qA qT (qA qT (qA qT (qA qT qT))))
theorem qDz (k : Nat) (x : qjE.D) : qbi (k + 1) x.1 x.2.1 x.2.2.1 x.2.2.2.1 x.2.2.2.2.1 x.2.2.2.2.2.1 x.2.2.2.2.2.2.1 x.2.2.2.2.2.2.2 = qi cf (fun f a b K => COt f a b K [Iq6 k, qea k, Iq4 k, qq9 k]) (fun b _ σ K => LOt Ty (kps 54) 2 b σ K []) 54 Try.f54.ntmps Try.f54.results.toList (bd Try.f54) (qjE.enc x).1 (qjE.enc x).2 (qj FS.dec qpm) := by kernel_rfl
theorem qDA : ∀ k, qh (call cf k) (qtt k)
 | 0 => fun x y e => absurd (show (none : Option _) = some y from e) (by simp)
 | k + 1 => qe (c := cf) (k := k) (f := 54) (fn := Try.f54) (body := bd Try.f54) (sh := qjE) (os := qpm) rfl Try.func54 rfl ⟨rfl, Nat.le_of_ble_eq_true rfl⟩ (qd (qDx k)) (qDy k) (fun x => qbi (k + 1) x.1 x.2.1 x.2.2.1 x.2.2.2.1 x.2.2.2.2.1 x.2.2.2.2.2.1 x.2.2.2.2.2.2.1 x.2.2.2.2.2.2.2) (qDz k)

def qgG (k : Nat) (a0 : Bool) (a1 : List Int) : Option (Int) :=
 if ((decide ((((List.length a1) : Nat) : Int) > (72 : Int))) = false) then
 if (((((List.length a1) : Nat) : Int) == (0 : Int)) = true) then
 if (a0 = false) then
 if ((decide ((((List.length a1) : Nat) : Int) > (0 : Int))) = true) then
 if ((0 : Int) ≤ (IntKind.wrap .i64 ((((List.length a1) : Nat) : Int) - (1 : Int)))) then
 Option.bind (a1)[(Int.toNat (IntKind.wrap .i64 ((((List.length a1) : Nat) : Int) - (1 : Int))))]? fun x1 =>
 if ((x1 == (0 : Int)) = true) then
 (some (10 : Int))
 else
 (some (0 : Int))
 else
 none
 else
 (some (0 : Int))
 else
 (some (10 : Int))
 else
 if ((decide ((((List.length a1) : Nat) : Int) > (0 : Int))) = true) then
 if ((0 : Int) ≤ (IntKind.wrap .i64 ((((List.length a1) : Nat) : Int) - (1 : Int)))) then
 Option.bind (a1)[(Int.toNat (IntKind.wrap .i64 ((((List.length a1) : Nat) : Int) - (1 : Int))))]? fun x1 =>
 if ((x1 == (0 : Int)) = true) then
 (some (10 : Int))
 else
 (some (0 : Int))
 else
 none
 else
 (some (0 : Int))
 else
 (some (10 : Int))
def qbu : Nat → Bool → List Int → Option (Int)
 | 0, _, _ => none
 | k + 1, a0, a1 => qgG k a0 a1
def qjF : FS := { vs := [.g [.lf .bool, .lf (.sl (.int .u32))]], bs := [] }
def qpn : List FS := [{ vs := [.a (.lf (.int .i64))], bs := [] }]
def qhz (k : Nat) : Inst := ⟨70, qjF, qpn, fun x => qbu k x.1 x.2⟩
theorem qDB (k : Nat) : qn (call cf k) [] := True.intro
theorem qDC (k : Nat) : qf (LOk (R := DS FS.D qpn) (fun b _ σ K => LOt Ty (kps 70) 0 b σ K []) cf (call cf k) (cf.keep 70) Try.f70.ntmps k qjF.bs.length) 0 (bd Try.f70) :=
 qA qT (qA qT (qA (qA qT (qA (qA qT qT) qT)) (qA qT qT)))
theorem qDD (k : Nat) (x : qjF.D) : qbu (k + 1) x.1 x.2 = qi cf (fun f a b K => COt f a b K []) (fun b _ σ K => LOt Ty (kps 70) 0 b σ K []) 70 Try.f70.ntmps Try.f70.results.toList (bd Try.f70) (qjF.enc x).1 (qjF.enc x).2 (qj FS.dec qpn) := by kernel_rfl
theorem qpo : ∀ k, qh (call cf k) (qhz k)
 | 0 => fun x y e => absurd (show (none : Option _) = some y from e) (by simp)
 | k + 1 => qe (c := cf) (k := k) (f := 70) (fn := Try.f70) (body := bd Try.f70) (sh := qjF) (os := qpn) rfl Try.func70 rfl ⟨rfl, Nat.le_of_ble_eq_true rfl⟩ (qd (qDB k)) (qDC k) (fun x => qbu (k + 1) x.1 x.2) (qDD k)

def qhA (k : Nat) (a0 : Bool) (a1 : List Int) (b0 : Bool) (b1 : List Int) : Option (Int) :=
 Option.bind (qbu k a0 a1) fun r7 =>
 if ((r7 != (0 : Int)) = true) then
 (some (10 : Int))
 else
 Option.bind (qbu k b0 b1) fun r8 =>
 (some r8)
def qel : Nat → Bool → List Int → Bool → List Int → Option (Int)
 | 0, _, _, _, _ => none
 | k + 1, a0, a1, b0, b1 => qhA k a0 a1 b0 b1
def qjG : FS := { vs := [.g [.lf .bool, .lf (.sl (.int .u32))], .g [.lf .bool, .lf (.sl (.int .u32))]], bs := [] }
def qpp : List FS := [{ vs := [.a (.lf (.int .i64))], bs := [] }]
def qvY (k : Nat) : Inst := ⟨108, qjG, qpp, fun x => qel k x.1 x.2.1 x.2.2.1 x.2.2.2⟩
theorem qDE (k : Nat) : qn (call cf k) [qhz k] := qA (qpo k) qT
theorem qDF (k : Nat) : qf (LOk (R := DS FS.D qpp) (fun b _ σ K => LOt Ty (kps 108) 0 b σ K []) cf (call cf k) (cf.keep 108) Try.f108.ntmps k qjG.bs.length) 0 (bd Try.f108) :=
 qA qT (qA (qA qT (qA (qA qT qT) qT)) (qA qT qT))
theorem qDG (k : Nat) (x : qjG.D) : qel (k + 1) x.1 x.2.1 x.2.2.1 x.2.2.2 = qi cf (fun f a b K => COt f a b K [qhz k]) (fun b _ σ K => LOt Ty (kps 108) 0 b σ K []) 108 Try.f108.ntmps Try.f108.results.toList (bd Try.f108) (qjG.enc x).1 (qjG.enc x).2 (qj FS.dec qpp) := by kernel_rfl
theorem qDH : ∀ k, qh (call cf k) (qvY k)
 | 0 => fun x y e => absurd (show (none : Option _) = some y from e) (by simp)
 | k + 1 => qe (c := cf) (k := k) (f := 108) (fn := Try.f108) (body := bd Try.f108) (sh := qjG) (os := qpp) rfl Try.func108 rfl ⟨rfl, Nat.le_of_ble_eq_true rfl⟩ (qd (qDE k)) (qDF k) (fun x => qel (k + 1) x.1 x.2.1 x.2.2.1 x.2.2.2) (qDG k)

def qii (k : Nat) (a0 : Bool) (a1 : List Int) (b0 : Bool) (b1 : List Int) : Option (Bool × List Int × Int) :=
 Option.bind (qel k a0 a1 b0 b1) fun r7 =>
 if ((r7 != (0 : Int)) = true) then
 (some (false, [], r7))
 else
 Option.bind (qa8 k a0 a1) fun r8 =>
 Option.bind (qa8 k b0 b1) fun r9 =>
 Option.bind (qcO k r8.1 r8.2 r9.1 r9.2) fun r10 =>
 Option.bind (qaL k r10.2.2.2.2.1 r10.2.2.2.2.2) fun r11 =>
 if ((0 + r11.2.1) ≤ (List.length r11.2.2.2.2)) then
 (some (r11.1, (List.take r11.2.1 r11.2.2.2.2), (0 : Int)))
 else
 none
def qe0 : Nat → Bool → List Int → Bool → List Int → Option (Bool × List Int × Int)
 | 0, _, _, _, _ => none
 | k + 1, a0, a1, b0, b1 => qii k a0 a1 b0 b1
def qjH : FS := { vs := [.g [.lf .bool, .lf (.sl (.int .u32))], .g [.lf .bool, .lf (.sl (.int .u32))]], bs := [] }
def qpq : List FS := [{ vs := [.g [.lf .bool, .lf (.sl (.int .u32))], .a (.lf (.int .i64))], bs := [] }]
def qvZ (k : Nat) : Inst := ⟨83, qjH, qpq, fun x => qe0 k x.1 x.2.1 x.2.2.1 x.2.2.2⟩
theorem qDI (k : Nat) : qn (call cf k) [qvY k, qfS k, Iq1 k, qfR k] := qA (qDH k) (qA (qmt k) (qA (qvQ k) (qA (qmq k) qT)))
theorem qDJ (k : Nat) : qf (LOk (R := DS FS.D qpq) (fun b _ σ K => LOt Ty (kps 83) 0 b σ K []) cf (call cf k) (cf.keep 83) Try.f83.ntmps k qjH.bs.length) 0 (bd Try.f83) :=
 qA qT (qA (qA qT (qA qT (qA (qA qT qT) qT))) (qA qT qT))
theorem qDK (k : Nat) (x : qjH.D) : qe0 (k + 1) x.1 x.2.1 x.2.2.1 x.2.2.2 = qi cf (fun f a b K => COt f a b K [qvY k, qfS k, Iq1 k, qfR k]) (fun b _ σ K => LOt Ty (kps 83) 0 b σ K []) 83 Try.f83.ntmps Try.f83.results.toList (bd Try.f83) (qjH.enc x).1 (qjH.enc x).2 (qj FS.dec qpq) := by kernel_rfl
theorem qDL : ∀ k, qh (call cf k) (qvZ k)
 | 0 => fun x y e => absurd (show (none : Option _) = some y from e) (by simp)
 | k + 1 => qe (c := cf) (k := k) (f := 83) (fn := Try.f83) (body := bd Try.f83) (sh := qjH) (os := qpq) rfl Try.func83 rfl ⟨rfl, Nat.le_of_ble_eq_true rfl⟩ (qd (qDI k)) (qDJ k) (fun x => qe0 (k + 1) x.1 x.2.1 x.2.2.1 x.2.2.2) (qDK k)

def qhB (k : Nat) (r0 : Bool) (r1 : List Int) (r2 : Bool) (r3 : List Int) : Option (Int) :=
 Option.bind (qbu k r0 r1) fun r5 =>
 if ((r5 != (0 : Int)) = false) then
 Option.bind (qbu k r2 r3) fun r6 =>
 if ((r6 != (0 : Int)) = true) then
 (some (10 : Int))
 else
 if (r2 = false) then
 if (((((List.length r3) : Nat) : Int) == (0 : Int)) = true) then
 (some (20 : Int))
 else
 Option.bind (qe0 k r0 r1 r2 r3) fun r7 =>
 if (((((List.length r7.2.1) : Nat) : Int) != (1 : Int)) = false) then
 Option.bind (r7.2.1)[0]? fun x1 =>
 if ((x1 != (1 : Int)) = true) then
 (some (20 : Int))
 else
 (some (0 : Int))
 else
 (some (20 : Int))
 else
 (some (20 : Int))
 else
 (some (10 : Int))
def qdE : Nat → Bool → List Int → Bool → List Int → Option (Int)
 | 0, _, _, _, _ => none
 | k + 1, r0, r1, r2, r3 => qhB k r0 r1 r2 r3
def qjI : FS := { vs := [.g [.lf .bool, .lf (.sl (.int .u32)), .lf .bool, .lf (.sl (.int .u32))]], bs := [] }
def qpr : List FS := [{ vs := [.a (.lf (.int .i64))], bs := [] }]
def qn3 (k : Nat) : Inst := ⟨45, qjI, qpr, fun x => qdE k x.1 x.2.1 x.2.2.1 x.2.2.2⟩
theorem qDM (k : Nat) : qn (call cf k) [qhz k, qvZ k] := qA (qpo k) (qA (qDL k) qT)
theorem qDN (k : Nat) : qf (LOk (R := DS FS.D qpr) (fun b _ σ K => LOt Ty (kps 45) 0 b σ K []) cf (call cf k) (cf.keep 45) Try.f45.ntmps k qjI.bs.length) 0 (bd Try.f45) :=
 qA qT (qA (qA qT (qA (qA qT qT) qT)) (qA (qA qT (qA (qA qT qT) qT)) (qA qT (qA (qA qT (qA (qA qT qT) qT)) (qA qT qT)))))
theorem qDO (k : Nat) (x : qjI.D) : qdE (k + 1) x.1 x.2.1 x.2.2.1 x.2.2.2 = qi cf (fun f a b K => COt f a b K [qhz k, qvZ k]) (fun b _ σ K => LOt Ty (kps 45) 0 b σ K []) 45 Try.f45.ntmps Try.f45.results.toList (bd Try.f45) (qjI.enc x).1 (qjI.enc x).2 (qj FS.dec qpr) := by kernel_rfl
theorem qw7 : ∀ k, qh (call cf k) (qn3 k)
 | 0 => fun x y e => absurd (show (none : Option _) = some y from e) (by simp)
 | k + 1 => qe (c := cf) (k := k) (f := 45) (fn := Try.f45) (body := bd Try.f45) (sh := qjI) (os := qpr) rfl Try.func45 rfl ⟨rfl, Nat.le_of_ble_eq_true rfl⟩ (qd (qDM k)) (qDN k) (fun x => qdE (k + 1) x.1 x.2.1 x.2.2.1 x.2.2.2) (qDO k)

def qez (k : Nat) (rec : List Int → List Int → Nat → Int → Int → Int → List Int → Option (List Int × Nat × Int × List Int)) (a : List Int) (b : List Int) (out1 : Nat) (carry : Int) (x : Int) (x1 : Int) (outs : List Int) : Option (List Int × Nat × Int × List Int) :=
 if ((decide (x1 < x)) = true) then
 if ((0 : Int) ≤ x1) then
 Option.bind (a)[(Int.toNat x1)]? fun x2 =>
 if ((decide (x1 < (((List.length b) : Nat) : Int))) = true) then
 if ((0 : Int) ≤ x1) then
 Option.bind (b)[(Int.toNat x1)]? fun x3 =>
 if (((0 : Int) ≤ x1) ∧ (x1 < ((out1 : Nat) : Int))) then
 Option.bind (outs)[(0 + (Int.toNat x1))]? fun x4 =>
 rec a b out1 (Int.fdiv (IntKind.wrap .u64 ((IntKind.wrap .u64 ((IntKind.wrap .u64 x2) + carry)) + (IntKind.wrap .u64 x3))) (4294967296 : Int)) x (IntKind.wrap .i64 (x1 + (1 : Int))) (List.set outs (0 + (Int.toNat x1)) (IntKind.wrap .u32 (IntKind.wrap .u64 ((IntKind.wrap .u64 ((IntKind.wrap .u64 x2) + carry)) + (IntKind.wrap .u64 x3)))))
 else
 none
 else
 none
 else
 if (((0 : Int) ≤ x1) ∧ (x1 < ((out1 : Nat) : Int))) then
 Option.bind (outs)[(0 + (Int.toNat x1))]? fun x3 =>
 rec a b out1 (Int.fdiv (IntKind.wrap .u64 ((IntKind.wrap .u64 x2) + carry)) (4294967296 : Int)) x (IntKind.wrap .i64 (x1 + (1 : Int))) (List.set outs (0 + (Int.toNat x1)) (IntKind.wrap .u32 (IntKind.wrap .u64 ((IntKind.wrap .u64 x2) + carry))))
 else
 none
 else
 none
 else
 (some (a, out1, carry, outs))
def qcb (k n : Nat) : List Int → List Int → Nat → Int → Int → Int → List Int → Option (List Int × Nat × Int × List Int) := Nat.rec (fun _ _ _ _ _ _ _ => none) (fun _ r => qez k r) n
def qf8 (k : Nat) (a : List Int) (b : List Int) : Option (List Int) :=
 if ((decide ((((List.length a) : Nat) : Int) < (((List.length b) : Nat) : Int))) = true) then
 if (((0 : Int) ≤ (IntKind.wrap .i64 ((((List.length b) : Nat) : Int) + (1 : Int)))) ∧ (((IntKind.wrap .i64 ((((List.length b) : Nat) : Int) + (1 : Int))) ≤ (IntKind.wrap .i64 ((((List.length b) : Nat) : Int) + (1 : Int)))) ∧ (((IntKind.wrap .i64 ((((List.length b) : Nat) : Int) + (1 : Int))) * (4 : Int)) ≤ (140737488355328 : Int)))) then
 Option.bind (qcb k k b a (Int.toNat (IntKind.wrap .i64 ((((List.length b) : Nat) : Int) + (1 : Int)))) (0 : Int) (((List.length b) : Nat) : Int) (0 : Int) (List.replicate (Int.toNat (IntKind.wrap .i64 ((((List.length b) : Nat) : Int) + (1 : Int)))) (0 : Int))) fun r10 =>
 if (((0 : Int) ≤ (((List.length r10.1) : Nat) : Int)) ∧ ((((List.length r10.1) : Nat) : Int) < ((r10.2.1 : Nat) : Int))) then
 Option.bind (r10.2.2.2)[(0 + (Int.toNat (((List.length r10.1) : Nat) : Int)))]? fun x2 =>
 if ((0 + r10.2.1) ≤ (List.length (List.set r10.2.2.2 (0 + (Int.toNat (((List.length r10.1) : Nat) : Int))) (IntKind.wrap .u32 r10.2.2.1)))) then
 (some (List.take r10.2.1 (List.set r10.2.2.2 (0 + (Int.toNat (((List.length r10.1) : Nat) : Int))) (IntKind.wrap .u32 r10.2.2.1))))
 else
 none
 else
 none
 else
 none
 else
 if (((0 : Int) ≤ (IntKind.wrap .i64 ((((List.length a) : Nat) : Int) + (1 : Int)))) ∧ (((IntKind.wrap .i64 ((((List.length a) : Nat) : Int) + (1 : Int))) ≤ (IntKind.wrap .i64 ((((List.length a) : Nat) : Int) + (1 : Int)))) ∧ (((IntKind.wrap .i64 ((((List.length a) : Nat) : Int) + (1 : Int))) * (4 : Int)) ≤ (140737488355328 : Int)))) then
 Option.bind (qcb k k a b (Int.toNat (IntKind.wrap .i64 ((((List.length a) : Nat) : Int) + (1 : Int)))) (0 : Int) (((List.length a) : Nat) : Int) (0 : Int) (List.replicate (Int.toNat (IntKind.wrap .i64 ((((List.length a) : Nat) : Int) + (1 : Int)))) (0 : Int))) fun r10 =>
 if (((0 : Int) ≤ (((List.length r10.1) : Nat) : Int)) ∧ ((((List.length r10.1) : Nat) : Int) < ((r10.2.1 : Nat) : Int))) then
 Option.bind (r10.2.2.2)[(0 + (Int.toNat (((List.length r10.1) : Nat) : Int)))]? fun x2 =>
 if ((0 + r10.2.1) ≤ (List.length (List.set r10.2.2.2 (0 + (Int.toNat (((List.length r10.1) : Nat) : Int))) (IntKind.wrap .u32 r10.2.2.1)))) then
 (some (List.take r10.2.1 (List.set r10.2.2.2 (0 + (Int.toNat (((List.length r10.1) : Nat) : Int))) (IntKind.wrap .u32 r10.2.2.1))))
 else
 none
 else
 none
 else
 none
def qfo : Nat → List Int → List Int → Option (List Int)
 | 0, _, _ => none
 | k + 1, a, b => qf8 k a b
def qjJ : FS := { vs := [.a (.lf (.sl (.int .u32))), .a (.lf (.sl (.int .u32)))], bs := [] }
def qps : List FS := [{ vs := [.a (.lf (.sl (.int .u32)))], bs := [] }]
def qv0 (k : Nat) : Inst := ⟨122, qjJ, qps, fun x => qfo k x.1 x.2⟩
theorem qw8 (k : Nat) : qn (call cf k) [] := True.intro
def qij : List SS := [{ fr := [(0, .a (.lf (.sl (.int .u32)))), (1, .a (.lf (.sl (.int .u32)))), (5, .a (.smz 0)), (6, .a (.lf (.int .u64))), (21, .a (.lf (.int .i64))), (22, .a (.lf (.int .i64)))], mem := [(0, some (.arr (.int .u32) 1 72 false))], nx := 1 }]
def qmB : List OS := [⟨some 0, { fr := [(0, .a (.lf (.sl (.int .u32)))), (5, .a (.smz 0)), (6, .a (.lf (.int .u64)))], mem := [(0, some (.arr (.int .u32) 1 72 false))], nx := 1 }⟩]
def qmC (k : Nat) : LInst := ⟨0, qij, qmB, fun x => qcb k k x.1 x.2.1 x.2.2.1 x.2.2.2.1 x.2.2.2.2.1 x.2.2.2.2.2.1 x.2.2.2.2.2.2⟩
theorem qz5 (k : Nat) : qf (LOk (R := DS OS.D qmB) (fun b _ σ K => LOt Ty (kps 122) 0 b σ K []) cf (call cf k) (kps 122) Try.f122.ntmps k 0) 0 (lb Try.f122 0) :=
 qA qT (qA (qA qT qT) (qA (qA qT (qA qT (qA (qA qT (qA qT qT)) (qA qT qT)))) qT))
theorem qz6 (k n : Nat) (x : DS SS.D qij) : qcb k (n + 1) x.1 x.2.1 x.2.2.1 x.2.2.2.1 x.2.2.2.2.1 x.2.2.2.2.2.1 x.2.2.2.2.2.2 = qE SS.enc (fun σ => qF cf (fun f a b K => COt f a b K []) (fun b _ σ K => LOt Ty (kps 122) 0 b σ K []) Try.f122.ntmps 0 (lb Try.f122 0) σ (qJ Ty (kps 122 0) 0 qij qmB fun x => qcb k n x.1 x.2.1 x.2.2.1 x.2.2.2.1 x.2.2.2.2.1 x.2.2.2.2.2.1 x.2.2.2.2.2.2)) qij x := by kernel_rfl
theorem qz7 (k : Nat) : qac cf (call cf k) (kps 122) Try.f122.ntmps k 0 0 (lb Try.f122 0) (qmC k) :=
 qr (c := cf) (callF := call cf k) (kp := kps 122) (nt := Try.f122.ntmps) (k := k) (p := 0) (b := 0) (x0 := lb Try.f122 0) (hs := qij) (os := qmB) (qd (qw8 k)) (qz5 k) (fun n x => qcb k n x.1 x.2.1 x.2.2.1 x.2.2.2.1 x.2.2.2.2.1 x.2.2.2.2.2.1 x.2.2.2.2.2.2) (fun _ => rfl) (qz6 k)
theorem qDP (k : Nat) : qf (LOk (R := DS FS.D qps) (fun b _ σ K => LOt Ty (kps 122) 0 b σ K [qmC k]) cf (call cf k) (cf.keep 122) Try.f122.ntmps k qjJ.bs.length) 0 (bd Try.f122) :=
 qA qT (qA (qA qT (qA qT qT)) (qA qT (qA qT (qA (qA qT (qz (c := cf) (callF := call cf k) (kp := kps 122) (nt := Try.f122.ntmps) (k := k) (p := 0) (b := 0) (x0 := lb Try.f122 0) (l := [qmC k]) (qA (fun _ => qz7 k) qT))) (qA qT (qA qT qT))))))
theorem qDQ (k : Nat) (x : qjJ.D) : qfo (k + 1) x.1 x.2 = qi cf (fun f a b K => COt f a b K []) (fun b _ σ K => LOt Ty (kps 122) 0 b σ K [qmC k]) 122 Try.f122.ntmps Try.f122.results.toList (bd Try.f122) (qjJ.enc x).1 (qjJ.enc x).2 (qj FS.dec qps) := by kernel_rfl
theorem qDR : ∀ k, qh (call cf k) (qv0 k)
 | 0 => fun x y e => absurd (show (none : Option _) = some y from e) (by simp)
 | k + 1 => qe (c := cf) (k := k) (f := 122) (fn := Try.f122) (body := bd Try.f122) (sh := qjJ) (os := qps) rfl Try.func122 rfl ⟨rfl, Nat.le_of_ble_eq_true rfl⟩ (qd (qw8 k)) (qDP k) (fun x => qfo (k + 1) x.1 x.2) (qDQ k)

def qeA (k : Nat) (rec : List Int → List Int → Nat → Int → Int → Int → List Int → Option (Nat × List Int)) (a : List Int) (b : List Int) (out1 : Nat) (borrow : Int) (x : Int) (x1 : Int) (outs : List Int) : Option (Nat × List Int) :=
 if ((decide (x1 < x)) = true) then
 if ((decide (x1 < (((List.length b) : Nat) : Int))) = true) then
 if ((0 : Int) ≤ x1) then
 Option.bind (b)[(Int.toNat x1)]? fun x2 =>
 if ((0 : Int) ≤ x1) then
 Option.bind (a)[(Int.toNat x1)]? fun x3 =>
 if (((0 : Int) ≤ x1) ∧ (x1 < ((out1 : Nat) : Int))) then
 Option.bind (outs)[(0 + (Int.toNat x1))]? fun x4 =>
 if ((0 : Int) ≤ x1) then
 Option.bind (a)[(Int.toNat x1)]? fun x5 =>
 if ((decide ((IntKind.wrap .u64 x5) < (IntKind.wrap .u64 (borrow + (IntKind.wrap .u64 x2))))) = true) then
 rec a b out1 (1 : Int) x (IntKind.wrap .i64 (x1 + (1 : Int))) (List.set outs (0 + (Int.toNat x1)) (IntKind.wrap .u32 (IntKind.wrap .u64 ((IntKind.wrap .u64 x3) - (IntKind.wrap .u64 (borrow + (IntKind.wrap .u64 x2)))))))
 else
 rec a b out1 (0 : Int) x (IntKind.wrap .i64 (x1 + (1 : Int))) (List.set outs (0 + (Int.toNat x1)) (IntKind.wrap .u32 (IntKind.wrap .u64 ((IntKind.wrap .u64 x3) - (IntKind.wrap .u64 (borrow + (IntKind.wrap .u64 x2)))))))
 else
 none
 else
 none
 else
 none
 else
 none
 else
 if ((0 : Int) ≤ x1) then
 Option.bind (a)[(Int.toNat x1)]? fun x2 =>
 if (((0 : Int) ≤ x1) ∧ (x1 < ((out1 : Nat) : Int))) then
 Option.bind (outs)[(0 + (Int.toNat x1))]? fun x3 =>
 if ((0 : Int) ≤ x1) then
 Option.bind (a)[(Int.toNat x1)]? fun x4 =>
 if ((decide ((IntKind.wrap .u64 x4) < borrow)) = true) then
 rec a b out1 (1 : Int) x (IntKind.wrap .i64 (x1 + (1 : Int))) (List.set outs (0 + (Int.toNat x1)) (IntKind.wrap .u32 (IntKind.wrap .u64 ((IntKind.wrap .u64 x2) - borrow))))
 else
 rec a b out1 (0 : Int) x (IntKind.wrap .i64 (x1 + (1 : Int))) (List.set outs (0 + (Int.toNat x1)) (IntKind.wrap .u32 (IntKind.wrap .u64 ((IntKind.wrap .u64 x2) - borrow))))
 else
 none
 else
 none
 else
 none
 else
 (some (out1, outs))
def qbH (k n : Nat) : List Int → List Int → Nat → Int → Int → Int → List Int → Option (Nat × List Int) := Nat.rec (fun _ _ _ _ _ _ _ => none) (fun _ r => qeA k r) n
def qlb (k : Nat) (a : List Int) (b : List Int) : Option (List Int) :=
 if (((0 : Int) ≤ (((List.length a) : Nat) : Int)) ∧ (((((List.length a) : Nat) : Int) ≤ (((List.length a) : Nat) : Int)) ∧ (((((List.length a) : Nat) : Int) * (4 : Int)) ≤ (140737488355328 : Int)))) then
 Option.bind (qbH k k a b (Int.toNat (((List.length a) : Nat) : Int)) (0 : Int) (((List.length a) : Nat) : Int) (0 : Int) (List.replicate (Int.toNat (((List.length a) : Nat) : Int)) (0 : Int))) fun r11 =>
 if ((0 + r11.1) ≤ (List.length r11.2)) then
 (some (List.take r11.1 r11.2))
 else
 none
 else
 none
def qeb : Nat → List Int → List Int → Option (List Int)
 | 0, _, _ => none
 | k + 1, a, b => qlb k a b
def qjK : FS := { vs := [.a (.lf (.sl (.int .u32))), .a (.lf (.sl (.int .u32)))], bs := [] }
def qpt : List FS := [{ vs := [.a (.lf (.sl (.int .u32)))], bs := [] }]
def qv1 (k : Nat) : Inst := ⟨123, qjK, qpt, fun x => qeb k x.1 x.2⟩
theorem qw9 (k : Nat) : qn (call cf k) [] := True.intro
def qik : List SS := [{ fr := [(0, .a (.lf (.sl (.int .u32)))), (1, .a (.lf (.sl (.int .u32)))), (5, .a (.smz 0)), (6, .a (.lf (.int .u64))), (13, .a (.lf (.int .i64))), (14, .a (.lf (.int .i64)))], mem := [(0, some (.arr (.int .u32) 1 72 false))], nx := 1 }]
def qmD : List OS := [⟨some 0, { fr := [(5, .a (.smz 0))], mem := [(0, some (.arr (.int .u32) 1 72 false))], nx := 1 }⟩]
def qmE (k : Nat) : LInst := ⟨0, qik, qmD, fun x => qbH k k x.1 x.2.1 x.2.2.1 x.2.2.2.1 x.2.2.2.2.1 x.2.2.2.2.2.1 x.2.2.2.2.2.2⟩
theorem qz8 (k : Nat) : qf (LOk (R := DS OS.D qmD) (fun b _ σ K => LOt Ty (kps 123) 0 b σ K []) cf (call cf k) (kps 123) Try.f123.ntmps k 0) 0 (lb Try.f123 0) :=
 qA qT (qA (qA qT qT) (qA (qA qT (qA qT (qA (qA qT (qA qT qT)) (qA qT (qA qT (qA qT (qA qT qT))))))) qT))
theorem qz9 (k n : Nat) (x : DS SS.D qik) : qbH k (n + 1) x.1 x.2.1 x.2.2.1 x.2.2.2.1 x.2.2.2.2.1 x.2.2.2.2.2.1 x.2.2.2.2.2.2 = qE SS.enc (fun σ => qF cf (fun f a b K => COt f a b K []) (fun b _ σ K => LOt Ty (kps 123) 0 b σ K []) Try.f123.ntmps 0 (lb Try.f123 0) σ (qJ Ty (kps 123 0) 0 qik qmD fun x => qbH k n x.1 x.2.1 x.2.2.1 x.2.2.2.1 x.2.2.2.2.1 x.2.2.2.2.2.1 x.2.2.2.2.2.2)) qik x := by kernel_rfl
theorem qAa (k : Nat) : qac cf (call cf k) (kps 123) Try.f123.ntmps k 0 0 (lb Try.f123 0) (qmE k) :=
 qr (c := cf) (callF := call cf k) (kp := kps 123) (nt := Try.f123.ntmps) (k := k) (p := 0) (b := 0) (x0 := lb Try.f123 0) (hs := qik) (os := qmD) (qd (qw9 k)) (qz8 k) (fun n x => qbH k n x.1 x.2.1 x.2.2.1 x.2.2.2.1 x.2.2.2.2.1 x.2.2.2.2.2.1 x.2.2.2.2.2.2) (fun _ => rfl) (qz9 k)
theorem qDS (k : Nat) : qf (LOk (R := DS FS.D qpt) (fun b _ σ K => LOt Ty (kps 123) 0 b σ K [qmE k]) cf (call cf k) (cf.keep 123) Try.f123.ntmps k qjK.bs.length) 0 (bd Try.f123) :=
 qA qT (qA qT (qA qT (qA (qA qT (qz (c := cf) (callF := call cf k) (kp := kps 123) (nt := Try.f123.ntmps) (k := k) (p := 0) (b := 0) (x0 := lb Try.f123 0) (l := [qmE k]) (qA (fun _ => qAa k) qT))) (qA qT qT))))
theorem qDT (k : Nat) (x : qjK.D) : qeb (k + 1) x.1 x.2 = qi cf (fun f a b K => COt f a b K []) (fun b _ σ K => LOt Ty (kps 123) 0 b σ K [qmE k]) 123 Try.f123.ntmps Try.f123.results.toList (bd Try.f123) (qjK.enc x).1 (qjK.enc x).2 (qj FS.dec qpt) := by kernel_rfl
theorem qDU : ∀ k, qh (call cf k) (qv1 k)
 | 0 => fun x y e => absurd (show (none : Option _) = some y from e) (by simp)
 | k + 1 => qe (c := cf) (k := k) (f := 123) (fn := Try.f123) (body := bd Try.f123) (sh := qjK) (os := qpt) rfl Try.func123 rfl ⟨rfl, Nat.le_of_ble_eq_true rfl⟩ (qd (qw9 k)) (qDS k) (fun x => qeb (k + 1) x.1 x.2) (qDT k)

def qlc (k : Nat) (yneg : Bool) (y : List Int) (x0 : Bool) (x1 : List Int) : Option (Bool × List Int) :=
 if ((x0 == yneg) = true) then
 Option.bind (qfo k x1 y) fun r10 =>
 Option.bind (qay k x0 r10 x0 x1) fun r11 =>
 (some (r11.1, r11.2))
 else
 Option.bind (qd3 k x1 y) fun r10 =>
 if ((decide (r10 ≥ (0 : Int))) = true) then
 Option.bind (qeb k x1 y) fun r11 =>
 Option.bind (qay k x0 r11 x0 x1) fun r12 =>
 (some (r12.1, r12.2))
 else
 Option.bind (qeb k y x1) fun r11 =>
 Option.bind (qay k yneg r11 x0 x1) fun r12 =>
 (some (r12.1, r12.2))
def qcu : Nat → Bool → List Int → Bool → List Int → Option (Bool × List Int)
 | 0, _, _, _, _ => none
 | k + 1, yneg, y, x0, x1 => qlc k yneg y x0 x1
def qjL : FS := { vs := [.a (.ptr 0 0 0), .a (.ptr 0 0 0), .a (.lf .bool), .a (.lf (.sl (.int .u32)))], bs := [.raw [[.lf .bool, .lf (.sl (.int .u32))]] 2 98 true false] }
def qpu : List FS := [{ vs := [.a (.ptr 0 0 0)], bs := [.raw [[.lf .bool, .lf (.sl (.int .u32))]] 2 98 true false] }]
def qv2 (k : Nat) : Inst := ⟨118, qjL, qpu, fun x => qcu k x.1 x.2.1 x.2.2.1 x.2.2.2⟩
theorem qDV (k : Nat) : qn (call cf k) [qv0 k, qht k, qk5 k, qv1 k] := qA (qDR k) (qA (qtj k) (qA (qtl k) (qA (qDU k) qT)))
theorem qDW (k : Nat) : qf (LOk (R := DS FS.D qpu) (fun b _ σ K => LOt Ty (kps 118) 1 b σ K []) cf (call cf k) (cf.keep 118) Try.f118.ntmps k qjL.bs.length) 0 (bd Try.f118) :=
 qA qT (qA (qA qT (qA (qA qT qT) qT)) (qA (qA qT (qA (qA qT qT) qT)) (qA qT qT)))
theorem qDX (k : Nat) (x : qjL.D) : qcu (k + 1) x.1 x.2.1 x.2.2.1 x.2.2.2 = qi cf (fun f a b K => COt f a b K [qv0 k, qht k, qk5 k, qv1 k]) (fun b _ σ K => LOt Ty (kps 118) 1 b σ K []) 118 Try.f118.ntmps Try.f118.results.toList (bd Try.f118) (qjL.enc x).1 (qjL.enc x).2 (qj FS.dec qpu) := by kernel_rfl
theorem qDY : ∀ k, qh (call cf k) (qv2 k)
 | 0 => fun x y e => absurd (show (none : Option _) = some y from e) (by simp)
 | k + 1 => qe (c := cf) (k := k) (f := 118) (fn := Try.f118) (body := bd Try.f118) (sh := qjL) (os := qpu) rfl Try.func118 rfl ⟨rfl, Nat.le_of_ble_eq_true rfl⟩ (qd (qDV k)) (qDW k) (fun x => qcu (k + 1) x.1 x.2.1 x.2.2.1 x.2.2.2) (qDX k)

def qeN (k : Nat) (z0 : Bool) (z1 : List Int) (y0 : Bool) (y1 : List Int) : Option (Int × Bool × List Int × Bool × List Int) :=
 if ((!(z0 == y0)) = true) then
 if (z0 = true) then
 (some ((-(1 : Int)), z0, z1, y0, y1))
 else
 (some ((1 : Int), z0, z1, y0, y1))
 else
 Option.bind (qd3 k z1 y1) fun r11 =>
 if (z0 = true) then
 (some ((IntKind.wrap .i64 ((0 : Int) - r11)), z0, z1, y0, y1))
 else
 (some (r11, z0, z1, y0, y1))
def qcv : Nat → Bool → List Int → Bool → List Int → Option (Int × Bool × List Int × Bool × List Int)
 | 0, _, _, _, _ => none
 | k + 1, z0, z1, y0, y1 => qeN k z0 z1 y0 y1
def qn4 : FS := { vs := [.a (.ptr 0 0 0), .a (.ptr 1 0 0)], bs := [.raw [[.lf .bool, .lf (.sl (.int .u32))]] 2 98 true false, .raw [[.lf .bool, .lf (.sl (.int .u32))]] 2 98 true false] }
def qtu : List FS := [{ vs := [.a (.lf (.int .i64))], bs := [.raw [[.lf .bool, .lf (.sl (.int .u32))]] 2 98 true false, .raw [[.lf .bool, .lf (.sl (.int .u32))]] 2 98 true false] }]
def Iq3 (k : Nat) : Inst := ⟨86, qn4, qtu, fun x => qcv k x.1 x.2.1 x.2.2.1 x.2.2.2⟩
theorem qHl (k : Nat) : qn (call cf k) [qk5 k] := qA (qtl k) qT
theorem qHm (k : Nat) : qf (LOk (R := DS FS.D qtu) (fun b _ σ K => LOt Ty (kps 86) 2 b σ K []) cf (call cf k) (cf.keep 86) Try.f86.ntmps k qn4.bs.length) 0 (bd Try.f86) :=
 qA qT (qA (qA qT (qA (qA (qA qT (qA (qA qT qT) qT)) (qA qT qT)) qT)) (qA qT (qA (qA qT (qA (qA qT qT) qT)) (qA qT qT))))
theorem qHn (k : Nat) (x : qn4.D) : qcv (k + 1) x.1 x.2.1 x.2.2.1 x.2.2.2 = qi cf (fun f a b K => COt f a b K [qk5 k]) (fun b _ σ K => LOt Ty (kps 86) 2 b σ K []) 86 Try.f86.ntmps Try.f86.results.toList (bd Try.f86) (qn4.enc x).1 (qn4.enc x).2 (qj FS.dec qtu) := by kernel_rfl
theorem qHo : ∀ k, qh (call cf k) (Iq3 k)
 | 0 => fun x y e => absurd (show (none : Option _) = some y from e) (by simp)
 | k + 1 => qe (c := cf) (k := k) (f := 86) (fn := Try.f86) (body := bd Try.f86) (sh := qn4) (os := qtu) rfl Try.func86 rfl ⟨rfl, Nat.le_of_ble_eq_true rfl⟩ (qd (qHl k)) (qHm k) (fun x => qcv (k + 1) x.1 x.2.1 x.2.2.1 x.2.2.2) (qHn k)


end
end Go.Proofs.Ytbhnafdmilfobaa.Am
