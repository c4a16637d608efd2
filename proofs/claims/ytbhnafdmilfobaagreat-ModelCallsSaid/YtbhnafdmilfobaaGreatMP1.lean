/- Printed functions: each says what the typed machine says of the program -/
import Derived.Test.YtbhnafdmilfobaaGreatMA3
import Derived.KernelRfl

set_option linter.unusedVariables false
set_option maxRecDepth 100000
namespace Go.Proofs.YtbhnafdmilfobaaGreat.Am
theorem qT : True := True.intro
theorem qA {a b : Prop} (h : a) (k : b) : a ∧ b := And.intro h k
open Go
noncomputable section

def qh1 (k : Nat) (n0 : Int) (n1 : Int) : Option (Bool) :=
 if ((n0 == (0 : Int)) = true) then
 (some (n1 == (0 : Int)))
 else
 if ((decide (n0 ≥ (-(999999999 : Int)))) = true) then
 if ((decide (n0 ≤ (999999999 : Int))) = true) then
 if (((Int.tmod n0 (10 : Int)) != (0 : Int)) = true) then
 if ((decide (n1 ≥ (-(18 : Int)))) = true) then
 (some (decide (n1 ≤ (9 : Int))))
 else
 (some false)
 else
 (some false)
 else
 (some false)
 else
 (some false)
def qdq : Nat → Int → Int → Option (Bool)
 | 0, _, _ => none
 | k + 1, n0, n1 => qh1 k n0 n1
def qjS : FS := { vs := [.g [.lf (.int .i64), .lf (.int .i64)]], bs := [] }
def qp9 : List FS := [{ vs := [.a (.lf .bool)], bs := [] }]
def qgZ (k : Nat) : Inst := ⟨52, qjS, qp9, fun x => qdq k x.1 x.2⟩
theorem qEz (k : Nat) : qk (call cf k) [] := True.intro
theorem qEA (k : Nat) : qg (LOk (R := DS FS.D qp9) (fun b _ σ K => LOt Ty (kps 52) 0 b σ K []) cf (call cf k) (cf.keep 52) Tryz.f52.ntmps k qjS.bs.length) 0 (bd Tryz.f52) :=
 qA qT (qA (qA qT (qA (qA qT qT) qT)) (qA qT qT))
theorem qEB (k : Nat) (x : qjS.D) : qdq (k + 1) x.1 x.2 = qi cf (fun f a b K => COt f a b K []) (fun b _ σ K => LOt Ty (kps 52) 0 b σ K []) 52 Tryz.f52.ntmps Tryz.f52.results.toList (bd Tryz.f52) (qjS.enc x).1 (qjS.enc x).2 (qj FS.dec qp9) := by kernel_rfl
theorem qut : ∀ k, qf (call cf k) (qgZ k)
 | 0 => fun x y e => absurd (show (none : Option _) = some y from e) (by simp)
 | k + 1 => qe (c := cf) (k := k) (f := 52) (fn := Tryz.f52) (body := bd Tryz.f52) (sh := qjS) (os := qp9) rfl Tryz.func52 rfl ⟨rfl, Nat.le_of_ble_eq_true rfl⟩ (qd (qEz k)) (qEA k) (fun x => qdq (k + 1) x.1 x.2) (qEB k)

def qel (k : Nat) (rec : List Int → Int → Option (List Int × Int)) (w : List Int) (n : Int) : Option (List Int × Int) :=
 if ((decide (n > (0 : Int))) = true) then
 if ((0 : Int) ≤ (IntKind.wrap .i64 (n - (1 : Int)))) then
 Option.bind (w)[(Int.toNat (IntKind.wrap .i64 (n - (1 : Int))))]? fun x1 =>
 if ((x1 == (0 : Int)) = true) then
 rec w (IntKind.wrap .i64 (n - (1 : Int)))
 else
 (some (w, n))
 else
 none
 else
 (some (w, n))
def qds (k n : Nat) : List Int → Int → Option (List Int × Int) := Nat.rec (fun _ _ => none) (fun _ r => qel k r) n
def qiA (k : Nat) (w : List Int) : Option (List Int) :=
 Option.bind (qds k k w (((List.length w) : Nat) : Int)) fun r2 =>
 if (((0 : Int) ≤ (0 : Int)) ∧ (((0 : Int) ≤ r2.2) ∧ (r2.2 ≤ (((List.length r2.1) : Nat) : Int)))) then
 (some (List.take (Int.toNat r2.2) r2.1))
 else
 none
def qcF : Nat → List Int → Option (List Int)
 | 0, _ => none
 | k + 1, w => qiA k w
def qjT : FS := { vs := [.a (.lf (.sl (.int .u32)))], bs := [] }
def qqa : List FS := [{ vs := [.a (.lf (.sl (.int .u32)))], bs := [] }]
def qem (k : Nat) : Inst := ⟨107, qjT, qqa, fun x => qcF k x⟩
theorem qyl (k : Nat) : qk (call cf k) [] := True.intro
def qiB : List SS := [{ fr := [(0, .a (.lf (.sl (.int .u32)))), (3, .a (.lf (.int .i64)))], mem := [], nx := 0 }]
def qmV : List OS := [⟨some 0, { fr := [(0, .a (.lf (.sl (.int .u32)))), (3, .a (.lf (.int .i64)))], mem := [], nx := 0 }⟩]
def qmW (k : Nat) : LInst := ⟨0, qiB, qmV, fun x => qds k k x.1 x.2⟩
theorem qAt (k : Nat) : qg (LOk (R := DS OS.D qmV) (fun b _ σ K => LOt Ty (kps 107) 0 b σ K []) cf (call cf k) (kps 107) Tryz.f107.ntmps k 0) 0 (lb Tryz.f107 0) :=
 qA (qA qT (qA qT qT)) qT
theorem qAu (k n : Nat) (x : DS SS.D qiB) : qds k (n + 1) x.1 x.2 = qD SS.enc (fun σ => qF cf (fun f a b K => COt f a b K []) (fun b _ σ K => LOt Ty (kps 107) 0 b σ K []) Tryz.f107.ntmps 0 (lb Tryz.f107 0) σ (qH Ty (kps 107 0) 0 qiB qmV fun x => qds k n x.1 x.2)) qiB x := by kernel_rfl
theorem qAv (k : Nat) : qY cf (call cf k) (kps 107) Tryz.f107.ntmps k 0 0 (lb Tryz.f107 0) (qmW k) :=
 qr (c := cf) (callF := call cf k) (kp := kps 107) (nt := Tryz.f107.ntmps) (k := k) (p := 0) (b := 0) (x0 := lb Tryz.f107 0) (hs := qiB) (os := qmV) (qd (qyl k)) (qAt k) (fun n x => qds k n x.1 x.2) (fun _ => rfl) (qAu k)
theorem qEC (k : Nat) : qg (LOk (R := DS FS.D qqa) (fun b _ σ K => LOt Ty (kps 107) 0 b σ K [qmW k]) cf (call cf k) (cf.keep 107) Tryz.f107.ntmps k qjT.bs.length) 0 (bd Tryz.f107) :=
 qA qT (qA qT (qA (qw (c := cf) (callF := call cf k) (kp := kps 107) (nt := Tryz.f107.ntmps) (k := k) (p := 0) (b := 0) (x0 := lb Tryz.f107 0) (l := [qmW k]) (qA (fun _ => qAv k) qT)) (qA qT qT)))
theorem qED (k : Nat) (x : qjT.D) : qcF (k + 1) x = qi cf (fun f a b K => COt f a b K []) (fun b _ σ K => LOt Ty (kps 107) 0 b σ K [qmW k]) 107 Tryz.f107.ntmps Tryz.f107.results.toList (bd Tryz.f107) (qjT.enc x).1 (qjT.enc x).2 (qj FS.dec qqa) := by kernel_rfl
theorem qjU : ∀ k, qf (call cf k) (qem k)
 | 0 => fun x y e => absurd (show (none : Option _) = some y from e) (by simp)
 | k + 1 => qe (c := cf) (k := k) (f := 107) (fn := Tryz.f107) (body := bd Tryz.f107) (sh := qjT) (os := qqa) rfl Tryz.func107 rfl ⟨rfl, Nat.le_of_ble_eq_true rfl⟩ (qd (qyl k)) (qEC k) (fun x => qcF (k + 1) x) (qED k)

def qeR (k : Nat) (v : Int) : Option (Bool × List Int) :=
 if ((decide (v < (0 : Int))) = true) then
 Option.bind (qcF k (List.take 2 ((IntKind.wrap .u32 (IntKind.wrap .u64 ((0 : Int) - (IntKind.wrap .u64 v)))) :: ((IntKind.wrap .u32 (Int.fdiv (IntKind.wrap .u64 ((0 : Int) - (IntKind.wrap .u64 v))) (4294967296 : Int))) :: [])))) fun r2 =>
 (some ((decide (v < (0 : Int))), r2))
 else
 Option.bind (qcF k (List.take 2 ((IntKind.wrap .u32 (IntKind.wrap .u64 v)) :: ((IntKind.wrap .u32 (Int.fdiv (IntKind.wrap .u64 v) (4294967296 : Int))) :: [])))) fun r2 =>
 (some ((decide (v < (0 : Int))), r2))
def qag : Nat → Int → Option (Bool × List Int)
 | 0, _ => none
 | k + 1, v => qeR k v
def qjV : FS := { vs := [.a (.lf (.int .i64))], bs := [] }
def qqb : List FS := [{ vs := [.a (.ptr 0 0 0)], bs := [.raw [[.lf .bool, .lf (.sl (.int .u32))]] 2 72 true false] }]
def qfz (k : Nat) : Inst := ⟨71, qjV, qqb, fun x => qag k x⟩
theorem qEE (k : Nat) : qk (call cf k) [qem k] := qA (qjU k) qT
theorem qEF (k : Nat) : qg (LOk (R := DS FS.D qqb) (fun b _ σ K => LOt Ty (kps 71) 0 b σ K []) cf (call cf k) (cf.keep 71) Tryz.f71.ntmps k qjV.bs.length) 0 (bd Tryz.f71) :=
 qA qT (qA qT (qA (qA qT (qA qT qT)) (qA qT qT)))
theorem qEG (k : Nat) (x : qjV.D) : qag (k + 1) x = qi cf (fun f a b K => COt f a b K [qem k]) (fun b _ σ K => LOt Ty (kps 71) 0 b σ K []) 71 Tryz.f71.ntmps Tryz.f71.results.toList (bd Tryz.f71) (qjV.enc x).1 (qjV.enc x).2 (qj FS.dec qqb) := by kernel_rfl
theorem qjW : ∀ k, qf (call cf k) (qfz k)
 | 0 => fun x y e => absurd (show (none : Option _) = some y from e) (by simp)
 | k + 1 => qe (c := cf) (k := k) (f := 71) (fn := Tryz.f71) (body := bd Tryz.f71) (sh := qjV) (os := qqb) rfl Tryz.func71 rfl ⟨rfl, Nat.le_of_ble_eq_true rfl⟩ (qd (qEE k)) (qEF k) (fun x => qag (k + 1) x) (qEG k)

def qe4 (k : Nat) (neg : Bool) (w : List Int) (z0 : Bool) (z1 : List Int) : Option (Bool × List Int) :=
 Option.bind (qcF k w) fun r5 =>
 if (neg = true) then
 (some ((decide ((((List.length r5) : Nat) : Int) > (0 : Int))), r5))
 else
 (some (false, r5))
def qaz : Nat → Bool → List Int → Bool → List Int → Option (Bool × List Int)
 | 0, _, _, _, _ => none
 | k + 1, neg, w, z0, z1 => qe4 k neg w z0 z1
def qjX : FS := { vs := [.a (.ptr 0 0 0), .a (.lf .bool), .a (.lf (.sl (.int .u32)))], bs := [.raw [[.lf .bool, .lf (.sl (.int .u32))]] 2 72 true false] }
def qqc : List FS := [{ vs := [.a (.ptr 0 0 0)], bs := [.raw [[.lf .bool, .lf (.sl (.int .u32))]] 2 72 true false] }]
def qh2 (k : Nat) : Inst := ⟨110, qjX, qqc, fun x => qaz k x.1 x.2.1 x.2.2.1 x.2.2.2⟩
theorem qEH (k : Nat) : qk (call cf k) [qem k] := qA (qjU k) qT
theorem qEI (k : Nat) : qg (LOk (R := DS FS.D qqc) (fun b _ σ K => LOt Ty (kps 110) 1 b σ K []) cf (call cf k) (cf.keep 110) Tryz.f110.ntmps k qjX.bs.length) 0 (bd Tryz.f110) :=
 qA qT (qA qT (qA qT (qA qT qT)))
theorem qEJ (k : Nat) (x : qjX.D) : qaz (k + 1) x.1 x.2.1 x.2.2.1 x.2.2.2 = qi cf (fun f a b K => COt f a b K [qem k]) (fun b _ σ K => LOt Ty (kps 110) 1 b σ K []) 110 Tryz.f110.ntmps Tryz.f110.results.toList (bd Tryz.f110) (qjX.enc x).1 (qjX.enc x).2 (qj FS.dec qqc) := by kernel_rfl
theorem quu : ∀ k, qf (call cf k) (qh2 k)
 | 0 => fun x y e => absurd (show (none : Option _) = some y from e) (by simp)
 | k + 1 => qe (c := cf) (k := k) (f := 110) (fn := Tryz.f110) (body := bd Tryz.f110) (sh := qjX) (os := qqc) rfl Tryz.func110 rfl ⟨rfl, Nat.le_of_ble_eq_true rfl⟩ (qd (qEH k)) (qEI k) (fun x => qaz (k + 1) x.1 x.2.1 x.2.2.1 x.2.2.2) (qEJ k)

def qd4 (k : Nat) (rec : Nat → Int → Int → Int → List Int → Int → Int → List Int → Int → Int → Bool → List Int → Bool → List Int → List Int → Option (Nat × Int × Int × List Int × Int × Int × Bool × List Int × Bool × List Int × List Int)) (out1 : Nat) (i : Int) (a : Int) (carry : Int) (x : List Int) (x1 : Int) (x2 : Int) (x3 : List Int) (x4 : Int) (x5 : Int) (x0 : Bool) (x11 : List Int) (y0 : Bool) (y1 : List Int) (outs : List Int) : Option (Nat × Int × Int × List Int × Int × Int × Bool × List Int × Bool × List Int × List Int) :=
 if ((decide (x5 < x4)) = true) then
 if ((0 : Int) ≤ x5) then
 Option.bind (x3)[(Int.toNat x5)]? fun x6 =>
 if (((0 : Int) ≤ (IntKind.wrap .i64 (i + x5))) ∧ ((IntKind.wrap .i64 (i + x5)) < ((out1 : Nat) : Int))) then
 Option.bind (outs)[(0 + (Int.toNat (IntKind.wrap .i64 (i + x5))))]? fun x7 =>
 if (((0 : Int) ≤ (IntKind.wrap .i64 (i + x5))) ∧ ((IntKind.wrap .i64 (i + x5)) < ((out1 : Nat) : Int))) then
 Option.bind (outs)[(0 + (Int.toNat (IntKind.wrap .i64 (i + x5))))]? fun x8 =>
 rec out1 i a (Int.fdiv (IntKind.wrap .u64 ((IntKind.wrap .u64 ((IntKind.wrap .u64 ((IntKind.wrap .u64 a) * (IntKind.wrap .u64 x6))) + (IntKind.wrap .u64 x7))) + carry)) (4294967296 : Int)) x x1 x2 x3 x4 (IntKind.wrap .i64 (x5 + (1 : Int))) x0 x11 y0 y1 (List.set outs (0 + (Int.toNat (IntKind.wrap .i64 (i + x5)))) (IntKind.wrap .u32 (IntKind.wrap .u64 ((IntKind.wrap .u64 ((IntKind.wrap .u64 ((IntKind.wrap .u64 a) * (IntKind.wrap .u64 x6))) + (IntKind.wrap .u64 x7))) + carry))))
 else
 none
 else
 none
 else
 none
 else
 (some (out1, i, carry, x, x1, x2, x0, x11, y0, y1, outs))
def qbs (k n : Nat) : Nat → Int → Int → Int → List Int → Int → Int → List Int → Int → Int → Bool → List Int → Bool → List Int → List Int → Option (Nat × Int × Int × List Int × Int × Int × Bool × List Int × Bool × List Int × List Int) := Nat.rec (fun _ _ _ _ _ _ _ _ _ _ _ _ _ _ _ => none) (fun _ r => qd4 k r) n
def qd5 (k : Nat) (rec : Nat → List Int → Int → Int → Bool → List Int → Bool → List Int → List Int → Option (Nat × Bool × List Int × Bool × List Int × List Int)) (out1 : Nat) (x : List Int) (x1 : Int) (x2 : Int) (x0 : Bool) (x11 : List Int) (y0 : Bool) (y1 : List Int) (outs : List Int) : Option (Nat × Bool × List Int × Bool × List Int × List Int) :=
 if ((decide (x2 < x1)) = true) then
 if ((0 : Int) ≤ x2) then
 Option.bind (x)[(Int.toNat x2)]? fun x3 =>
 Option.bind (qbs k k out1 x2 x3 (0 : Int) x x1 x2 y1 (((List.length y1) : Nat) : Int) (0 : Int) x0 x11 y0 y1 outs) fun r4 =>
 if (((0 : Int) ≤ (IntKind.wrap .i64 (r4.2.1 + (((List.length r4.2.2.2.2.2.2.2.2.2.1) : Nat) : Int)))) ∧ ((IntKind.wrap .i64 (r4.2.1 + (((List.length r4.2.2.2.2.2.2.2.2.2.1) : Nat) : Int))) < ((r4.1 : Nat) : Int))) then
 Option.bind (r4.2.2.2.2.2.2.2.2.2.2)[(0 + (Int.toNat (IntKind.wrap .i64 (r4.2.1 + (((List.length r4.2.2.2.2.2.2.2.2.2.1) : Nat) : Int)))))]? fun x4 =>
 rec r4.1 r4.2.2.2.1 r4.2.2.2.2.1 (IntKind.wrap .i64 (r4.2.2.2.2.2.1 + (1 : Int))) r4.2.2.2.2.2.2.1 r4.2.2.2.2.2.2.2.1 r4.2.2.2.2.2.2.2.2.1 r4.2.2.2.2.2.2.2.2.2.1 (List.set r4.2.2.2.2.2.2.2.2.2.2 (0 + (Int.toNat (IntKind.wrap .i64 (r4.2.1 + (((List.length r4.2.2.2.2.2.2.2.2.2.1) : Nat) : Int))))) (IntKind.wrap .u32 r4.2.2.1))
 else
 none
 else
 none
 else
 (some (out1, x0, x11, y0, y1, outs))
def qaX (k n : Nat) : Nat → List Int → Int → Int → Bool → List Int → Bool → List Int → List Int → Option (Nat × Bool × List Int × Bool × List Int × List Int) := Nat.rec (fun _ _ _ _ _ _ _ _ _ => none) (fun _ r => qd5 k r) n
def qe5 (k : Nat) (x0 : Bool) (x1 : List Int) (y0 : Bool) (y1 : List Int) : Option (Bool × List Int × Bool × List Int) :=
 if (((0 : Int) ≤ (IntKind.wrap .i64 ((((List.length x1) : Nat) : Int) + (((List.length y1) : Nat) : Int)))) ∧ (((IntKind.wrap .i64 ((((List.length x1) : Nat) : Int) + (((List.length y1) : Nat) : Int))) ≤ (IntKind.wrap .i64 ((((List.length x1) : Nat) : Int) + (((List.length y1) : Nat) : Int)))) ∧ (((IntKind.wrap .i64 ((((List.length x1) : Nat) : Int) + (((List.length y1) : Nat) : Int))) * (4 : Int)) ≤ (140737488355328 : Int)))) then
 Option.bind (qaX k k (Int.toNat (IntKind.wrap .i64 ((((List.length x1) : Nat) : Int) + (((List.length y1) : Nat) : Int)))) x1 (((List.length x1) : Nat) : Int) (0 : Int) x0 x1 y0 y1 (List.replicate (Int.toNat (IntKind.wrap .i64 ((((List.length x1) : Nat) : Int) + (((List.length y1) : Nat) : Int)))) (0 : Int))) fun r4 =>
 if ((0 + r4.1) ≤ (List.length r4.2.2.2.2.2)) then
 Option.bind (qaz k (!(r4.2.1 == r4.2.2.2.1)) (List.take r4.1 r4.2.2.2.2.2) r4.2.1 r4.2.2.1) fun r5 =>
 (some (r5.1, r5.2, r4.2.2.2.1, r4.2.2.2.2.1))
 else
 none
 else
 none
def qb0 : Nat → Bool → List Int → Bool → List Int → Option (Bool × List Int × Bool × List Int)
 | 0, _, _, _, _ => none
 | k + 1, x0, x1, y0, y1 => qe5 k x0 x1 y0 y1
def qo7 : FS := { vs := [.a (.ptr 0 0 0), .a (.ptr 0 0 0), .a (.ptr 1 0 0)], bs := [.raw [[.lf .bool, .lf (.sl (.int .u32))]] 2 72 true false, .raw [[.lf .bool, .lf (.sl (.int .u32))]] 2 72 true false] }
def quv : List FS := [{ vs := [.a (.ptr 0 0 0)], bs := [.raw [[.lf .bool, .lf (.sl (.int .u32))]] 2 72 true false, .raw [[.lf .bool, .lf (.sl (.int .u32))]] 2 72 true false] }]
def Iq5 (k : Nat) : Inst := ⟨75, qo7, quv, fun x => qb0 k x.1 x.2.1 x.2.2.1 x.2.2.2⟩
theorem qw8 (k : Nat) : qk (call cf k) [qh2 k] := qA (quu k) qT
def qiC : List SS := [{ fr := [(0, .a (.ptr 0 0 0)), (1, .a (.ptr 0 0 0)), (2, .a (.ptr 1 0 0)), (7, .a (.smz 2)), (8, .a (.lf (.int .i64))), (9, .a (.lf (.int .u32))), (10, .a (.lf (.int .u64))), (29, .a (.lf (.sl (.int .u32)))), (30, .a (.lf (.int .i64))), (31, .a (.lf (.int .i64))), (39, .a (.lf (.sl (.int .u32)))), (40, .a (.lf (.int .i64))), (41, .a (.lf (.int .i64)))], mem := [(0, some (.raw [[.lf .bool, .lf (.sl (.int .u32))]] 2 72 true false)), (1, some (.raw [[.lf .bool, .lf (.sl (.int .u32))]] 2 72 true false)), (2, some (.arr (.int .u32) 1 68 false))], nx := 3 }]
def qmX : List OS := [⟨some 2, { fr := [(0, .a (.ptr 0 0 0)), (1, .a (.ptr 0 0 0)), (2, .a (.ptr 1 0 0)), (7, .a (.smz 2)), (8, .a (.lf (.int .i64))), (10, .a (.lf (.int .u64))), (29, .a (.lf (.sl (.int .u32)))), (30, .a (.lf (.int .i64))), (31, .a (.lf (.int .i64)))], mem := [(0, some (.raw [[.lf .bool, .lf (.sl (.int .u32))]] 2 72 true false)), (1, some (.raw [[.lf .bool, .lf (.sl (.int .u32))]] 2 72 true false)), (2, some (.arr (.int .u32) 1 68 false))], nx := 3 }⟩]
def qgq (k : Nat) : LInst := ⟨2, qiC, qmX, fun x => qbs k k x.1 x.2.1 x.2.2.1 x.2.2.2.1 x.2.2.2.2.1 x.2.2.2.2.2.1 x.2.2.2.2.2.2.1 x.2.2.2.2.2.2.2.1 x.2.2.2.2.2.2.2.2.1 x.2.2.2.2.2.2.2.2.2.1 x.2.2.2.2.2.2.2.2.2.2.1 x.2.2.2.2.2.2.2.2.2.2.2.1 x.2.2.2.2.2.2.2.2.2.2.2.2.1 x.2.2.2.2.2.2.2.2.2.2.2.2.2.1 x.2.2.2.2.2.2.2.2.2.2.2.2.2.2⟩
theorem qAw (k : Nat) : qg (LOk (R := DS OS.D qmX) (fun b _ σ K => LOt Ty (kps 75) 2 b σ K []) cf (call cf k) (kps 75) Tryz.f75.ntmps k 2) 2 (lb Tryz.f75 1) :=
 qA qT (qA (qA qT qT) (qA (qA qT (qA qT (qA qT qT))) qT))
theorem qAx (k n : Nat) (x : DS SS.D qiC) : qbs k (n + 1) x.1 x.2.1 x.2.2.1 x.2.2.2.1 x.2.2.2.2.1 x.2.2.2.2.2.1 x.2.2.2.2.2.2.1 x.2.2.2.2.2.2.2.1 x.2.2.2.2.2.2.2.2.1 x.2.2.2.2.2.2.2.2.2.1 x.2.2.2.2.2.2.2.2.2.2.1 x.2.2.2.2.2.2.2.2.2.2.2.1 x.2.2.2.2.2.2.2.2.2.2.2.2.1 x.2.2.2.2.2.2.2.2.2.2.2.2.2.1 x.2.2.2.2.2.2.2.2.2.2.2.2.2.2 = qD SS.enc (fun σ => qF cf (fun f a b K => COt f a b K [qh2 k]) (fun b _ σ K => LOt Ty (kps 75) 2 b σ K []) Tryz.f75.ntmps 2 (lb Tryz.f75 1) σ (qH Ty (kps 75 2) 2 qiC qmX fun x => qbs k n x.1 x.2.1 x.2.2.1 x.2.2.2.1 x.2.2.2.2.1 x.2.2.2.2.2.1 x.2.2.2.2.2.2.1 x.2.2.2.2.2.2.2.1 x.2.2.2.2.2.2.2.2.1 x.2.2.2.2.2.2.2.2.2.1 x.2.2.2.2.2.2.2.2.2.2.1 x.2.2.2.2.2.2.2.2.2.2.2.1 x.2.2.2.2.2.2.2.2.2.2.2.2.1 x.2.2.2.2.2.2.2.2.2.2.2.2.2.1 x.2.2.2.2.2.2.2.2.2.2.2.2.2.2)) qiC x := by kernel_rfl
theorem qAy (k : Nat) : qY cf (call cf k) (kps 75) Tryz.f75.ntmps k 2 2 (lb Tryz.f75 1) (qgq k) :=
 qr (c := cf) (callF := call cf k) (kp := kps 75) (nt := Tryz.f75.ntmps) (k := k) (p := 2) (b := 2) (x0 := lb Tryz.f75 1) (hs := qiC) (os := qmX) (qd (qw8 k)) (qAw k) (fun n x => qbs k n x.1 x.2.1 x.2.2.1 x.2.2.2.1 x.2.2.2.2.1 x.2.2.2.2.2.1 x.2.2.2.2.2.2.1 x.2.2.2.2.2.2.2.1 x.2.2.2.2.2.2.2.2.1 x.2.2.2.2.2.2.2.2.2.1 x.2.2.2.2.2.2.2.2.2.2.1 x.2.2.2.2.2.2.2.2.2.2.2.1 x.2.2.2.2.2.2.2.2.2.2.2.2.1 x.2.2.2.2.2.2.2.2.2.2.2.2.2.1 x.2.2.2.2.2.2.2.2.2.2.2.2.2.2) (fun _ => rfl) (qAx k)
def qiD : List SS := [{ fr := [(0, .a (.ptr 0 0 0)), (1, .a (.ptr 0 0 0)), (2, .a (.ptr 1 0 0)), (7, .a (.smz 2)), (29, .a (.lf (.sl (.int .u32)))), (30, .a (.lf (.int .i64))), (31, .a (.lf (.int .i64)))], mem := [(0, some (.raw [[.lf .bool, .lf (.sl (.int .u32))]] 2 72 true false)), (1, some (.raw [[.lf .bool, .lf (.sl (.int .u32))]] 2 72 true false)), (2, some (.arr (.int .u32) 1 68 false))], nx := 3 }]
def qmY : List OS := [⟨some 0, { fr := [(0, .a (.ptr 0 0 0)), (1, .a (.ptr 0 0 0)), (2, .a (.ptr 1 0 0)), (7, .a (.smz 2))], mem := [(0, some (.raw [[.lf .bool, .lf (.sl (.int .u32))]] 2 72 true false)), (1, some (.raw [[.lf .bool, .lf (.sl (.int .u32))]] 2 72 true false)), (2, some (.arr (.int .u32) 1 68 false))], nx := 3 }⟩]
def qmZ (k : Nat) : LInst := ⟨0, qiD, qmY, fun x => qaX k k x.1 x.2.1 x.2.2.1 x.2.2.2.1 x.2.2.2.2.1 x.2.2.2.2.2.1 x.2.2.2.2.2.2.1 x.2.2.2.2.2.2.2.1 x.2.2.2.2.2.2.2.2⟩
theorem qAz (k : Nat) : qg (LOk (R := DS OS.D qmY) (fun b _ σ K => LOt Ty (kps 75) 2 b σ K [qgq k]) cf (call cf k) (kps 75) Tryz.f75.ntmps k 2) 0 (lb Tryz.f75 0) :=
 qA qT (qA (qA qT qT) (qA (qA qT (qA qT (qA (qA qT (qw (c := cf) (callF := call cf k) (kp := kps 75) (nt := Tryz.f75.ntmps) (k := k) (p := 2) (b := 2) (x0 := lb Tryz.f75 1) (l := [qgq k]) (qA (fun _ => qAy k) qT))) qT))) qT))
theorem qAA (k n : Nat) (x : DS SS.D qiD) : qaX k (n + 1) x.1 x.2.1 x.2.2.1 x.2.2.2.1 x.2.2.2.2.1 x.2.2.2.2.2.1 x.2.2.2.2.2.2.1 x.2.2.2.2.2.2.2.1 x.2.2.2.2.2.2.2.2 = qD SS.enc (fun σ => qF cf (fun f a b K => COt f a b K [qh2 k]) (fun b _ σ K => LOt Ty (kps 75) 2 b σ K [qgq k]) Tryz.f75.ntmps 0 (lb Tryz.f75 0) σ (qH Ty (kps 75 0) 2 qiD qmY fun x => qaX k n x.1 x.2.1 x.2.2.1 x.2.2.2.1 x.2.2.2.2.1 x.2.2.2.2.2.1 x.2.2.2.2.2.2.1 x.2.2.2.2.2.2.2.1 x.2.2.2.2.2.2.2.2)) qiD x := by kernel_rfl
theorem qAB (k : Nat) : qY cf (call cf k) (kps 75) Tryz.f75.ntmps k 2 0 (lb Tryz.f75 0) (qmZ k) :=
 qr (c := cf) (callF := call cf k) (kp := kps 75) (nt := Tryz.f75.ntmps) (k := k) (p := 2) (b := 0) (x0 := lb Tryz.f75 0) (hs := qiD) (os := qmY) (qd (qw8 k)) (qAz k) (fun n x => qaX k n x.1 x.2.1 x.2.2.1 x.2.2.2.1 x.2.2.2.2.1 x.2.2.2.2.2.1 x.2.2.2.2.2.2.1 x.2.2.2.2.2.2.2.1 x.2.2.2.2.2.2.2.2) (fun _ => rfl) (qAA k)
theorem qJk (k : Nat) : qg (LOk (R := DS FS.D quv) (fun b _ σ K => LOt Ty (kps 75) 2 b σ K [qgq k, qmZ k]) cf (call cf k) (cf.keep 75) Tryz.f75.ntmps k qo7.bs.length) 0 (bd Tryz.f75) :=
 qA qT (qA qT (qA (qA qT (qw (c := cf) (callF := call cf k) (kp := kps 75) (nt := Tryz.f75.ntmps) (k := k) (p := 2) (b := 0) (x0 := lb Tryz.f75 0) (l := [qgq k, qmZ k]) (qA (fun h => absurd (show (2 : Nat) = 0 from h) (by decide)) (qA (fun _ => qAB k) qT)))) (qA qT qT)))
theorem qJl (k : Nat) (x : qo7.D) : qb0 (k + 1) x.1 x.2.1 x.2.2.1 x.2.2.2 = qi cf (fun f a b K => COt f a b K [qh2 k]) (fun b _ σ K => LOt Ty (kps 75) 2 b σ K [qgq k, qmZ k]) 75 Tryz.f75.ntmps Tryz.f75.results.toList (bd Tryz.f75) (qo7.enc x).1 (qo7.enc x).2 (qj FS.dec quv) := by kernel_rfl
theorem qAC : ∀ k, qf (call cf k) (Iq5 k)
 | 0 => fun x y e => absurd (show (none : Option _) = some y from e) (by simp)
 | k + 1 => qe (c := cf) (k := k) (f := 75) (fn := Tryz.f75) (body := bd Tryz.f75) (sh := qo7) (os := quv) rfl Tryz.func75 rfl ⟨rfl, Nat.le_of_ble_eq_true rfl⟩ (qd (qw8 k)) (qJk k) (fun x => qb0 (k + 1) x.1 x.2.1 x.2.2.1 x.2.2.2) (qJl k)

def qeS (k : Nat) (rec : Int → Int → Bool → List Int → Bool → List Int → Option (Bool × List Int × Bool × List Int)) (x : Int) (x1 : Int) (z0 : Bool) (z1 : List Int) (ten0 : Bool) (ten1 : List Int) : Option (Bool × List Int × Bool × List Int) :=
 if ((decide (x1 < x)) = true) then
 Option.bind (qb0 k z0 z1 ten0 ten1) fun r4 =>
 rec x (IntKind.wrap .i64 (x1 + (1 : Int))) r4.1 r4.2.1 r4.2.2.1 r4.2.2.2
 else
 (some (z0, z1, ten0, ten1))
def qc7 (k n : Nat) : Int → Int → Bool → List Int → Bool → List Int → Option (Bool × List Int × Bool × List Int) := Nat.rec (fun _ _ _ _ _ _ => none) (fun _ r => qeS k r) n
def qw9 (k : Nat) (k1 : Int) : Option (Bool × List Int) :=
 Option.bind (qag k (1 : Int)) fun r2 =>
 Option.bind (qag k (10 : Int)) fun r3 =>
 Option.bind (qc7 k k k1 (0 : Int) r2.1 r2.2 r3.1 r3.2) fun r4 =>
 (some (r4.1, r4.2.1))
def qfF : Nat → Int → Option (Bool × List Int)
 | 0, _ => none
 | k + 1, k1 => qw9 k k1
def qjY : FS := { vs := [.a (.lf (.int .i64))], bs := [] }
def qqd : List FS := [{ vs := [.a (.ptr 0 0 0)], bs := [.raw [[.lf .bool, .lf (.sl (.int .u32))]] 2 72 true false] }]
def qxa (k : Nat) : Inst := ⟨124, qjY, qqd, fun x => qfF k x⟩
theorem qym (k : Nat) : qk (call cf k) [qfz k, Iq5 k] := qA (qjW k) (qA (qAC k) qT)
def qiE : List SS := [{ fr := [(3, .a (.ptr 0 0 0)), (4, .a (.ptr 1 0 0)), (7, .a (.lf (.int .i64))), (8, .a (.lf (.int .i64)))], mem := [(0, some (.raw [[.lf .bool, .lf (.sl (.int .u32))]] 2 72 true false)), (1, some (.raw [[.lf .bool, .lf (.sl (.int .u32))]] 2 72 true false))], nx := 2 }]
def qm0 : List OS := [⟨some 0, { fr := [(3, .a (.ptr 0 0 0))], mem := [(0, some (.raw [[.lf .bool, .lf (.sl (.int .u32))]] 2 72 true false)), (1, some (.raw [[.lf .bool, .lf (.sl (.int .u32))]] 2 72 true false))], nx := 2 }⟩]
def qm1 (k : Nat) : LInst := ⟨0, qiE, qm0, fun x => qc7 k k x.1 x.2.1 x.2.2.1 x.2.2.2.1 x.2.2.2.2.1 x.2.2.2.2.2⟩
theorem qAD (k : Nat) : qg (LOk (R := DS OS.D qm0) (fun b _ σ K => LOt Ty (kps 124) 0 b σ K []) cf (call cf k) (kps 124) Tryz.f124.ntmps k 0) 0 (lb Tryz.f124 0) :=
 qA qT (qA (qA qT qT) (qA qT qT))
theorem qAE (k n : Nat) (x : DS SS.D qiE) : qc7 k (n + 1) x.1 x.2.1 x.2.2.1 x.2.2.2.1 x.2.2.2.2.1 x.2.2.2.2.2 = qD SS.enc (fun σ => qF cf (fun f a b K => COt f a b K [qfz k, Iq5 k]) (fun b _ σ K => LOt Ty (kps 124) 0 b σ K []) Tryz.f124.ntmps 0 (lb Tryz.f124 0) σ (qH Ty (kps 124 0) 0 qiE qm0 fun x => qc7 k n x.1 x.2.1 x.2.2.1 x.2.2.2.1 x.2.2.2.2.1 x.2.2.2.2.2)) qiE x := by kernel_rfl
theorem qAF (k : Nat) : qY cf (call cf k) (kps 124) Tryz.f124.ntmps k 0 0 (lb Tryz.f124 0) (qm1 k) :=
 qr (c := cf) (callF := call cf k) (kp := kps 124) (nt := Tryz.f124.ntmps) (k := k) (p := 0) (b := 0) (x0 := lb Tryz.f124 0) (hs := qiE) (os := qm0) (qd (qym k)) (qAD k) (fun n x => qc7 k n x.1 x.2.1 x.2.2.1 x.2.2.2.1 x.2.2.2.2.1 x.2.2.2.2.2) (fun _ => rfl) (qAE k)
theorem qEK (k : Nat) : qg (LOk (R := DS FS.D qqd) (fun b _ σ K => LOt Ty (kps 124) 0 b σ K [qm1 k]) cf (call cf k) (cf.keep 124) Tryz.f124.ntmps k qjY.bs.length) 0 (bd Tryz.f124) :=
 qA qT (qA qT (qA (qA qT (qw (c := cf) (callF := call cf k) (kp := kps 124) (nt := Tryz.f124.ntmps) (k := k) (p := 0) (b := 0) (x0 := lb Tryz.f124 0) (l := [qm1 k]) (qA (fun _ => qAF k) qT))) (qA qT qT)))
theorem qEL (k : Nat) (x : qjY.D) : qfF (k + 1) x = qi cf (fun f a b K => COt f a b K [qfz k, Iq5 k]) (fun b _ σ K => LOt Ty (kps 124) 0 b σ K [qm1 k]) 124 Tryz.f124.ntmps Tryz.f124.results.toList (bd Tryz.f124) (qjY.enc x).1 (qjY.enc x).2 (qj FS.dec qqd) := by kernel_rfl
theorem qEM : ∀ k, qf (call cf k) (qxa k)
 | 0 => fun x y e => absurd (show (none : Option _) = some y from e) (by simp)
 | k + 1 => qe (c := cf) (k := k) (f := 124) (fn := Tryz.f124) (body := bd Tryz.f124) (sh := qjY) (os := qqd) rfl Tryz.func124 rfl ⟨rfl, Nat.le_of_ble_eq_true rfl⟩ (qd (qym k)) (qEK k) (fun x => qfF (k + 1) x) (qEL k)

def qc8 (k : Nat) (rec : List Int → List Int → Int → Option ((Int) ⊕ (Unit))) (a : List Int) (b : List Int) (i : Int) : Option ((Int) ⊕ (Unit)) :=
 if ((decide (i ≥ (0 : Int))) = true) then
 if ((0 : Int) ≤ i) then
 Option.bind (a)[(Int.toNat i)]? fun x2 =>
 if ((0 : Int) ≤ i) then
 Option.bind (b)[(Int.toNat i)]? fun x3 =>
 if ((x2 != x3) = true) then
 if ((0 : Int) ≤ i) then
 Option.bind (a)[(Int.toNat i)]? fun x4 =>
 if ((0 : Int) ≤ i) then
 Option.bind (b)[(Int.toNat i)]? fun x5 =>
 if ((decide (x4 < x5)) = true) then
 (some (Sum.inl (-(1 : Int))))
 else
 (some (Sum.inl (1 : Int)))
 else
 none
 else
 none
 else
 rec a b (IntKind.wrap .i64 (i - (1 : Int)))
 else
 none
 else
 none
 else
 (some (Sum.inr ()))
def qc9 (k n : Nat) : List Int → List Int → Int → Option ((Int) ⊕ (Unit)) := Nat.rec (fun _ _ _ => none) (fun _ r => qc8 k r) n
def qlO (k : Nat) (a : List Int) (b : List Int) : Option (Int) :=
 if (((((List.length a) : Nat) : Int) != (((List.length b) : Nat) : Int)) = true) then
 if ((decide ((((List.length a) : Nat) : Int) < (((List.length b) : Nat) : Int))) = true) then
 (some (-(1 : Int)))
 else
 (some (1 : Int))
 else
 Option.bind (qc9 k k a b (IntKind.wrap .i64 ((((List.length a) : Nat) : Int) - (1 : Int)))) fun r4 =>
 qc r4
 (fun r4 =>
 (some r4))
 (fun r4 =>
 (some (0 : Int)))
def qen : Nat → List Int → List Int → Option (Int)
 | 0, _, _ => none
 | k + 1, a, b => qlO k a b
def qjZ : FS := { vs := [.a (.lf (.sl (.int .u32))), .a (.lf (.sl (.int .u32)))], bs := [] }
def qqe : List FS := [{ vs := [.a (.lf (.int .i64))], bs := [] }]
def qlP (k : Nat) : Inst := ⟨117, qjZ, qqe, fun x => qen k x.1 x.2⟩
theorem qyn (k : Nat) : qk (call cf k) [] := True.intro
def qiF : List SS := [{ fr := [(0, .a (.lf (.sl (.int .u32)))), (1, .a (.lf (.sl (.int .u32)))), (5, .a (.lf (.int .i64)))], mem := [], nx := 0 }]
def qm2 : List OS := [⟨none, { fr := [(4, .a (.lf (.int .i64)))], mem := [], nx := 0 }⟩, ⟨some 0, { fr := [], mem := [], nx := 0 }⟩]
def qm3 (k : Nat) : LInst := ⟨0, qiF, qm2, fun x => qc9 k k x.1 x.2.1 x.2.2⟩
theorem qAG (k : Nat) : qg (LOk (R := DS OS.D qm2) (fun b _ σ K => LOt Ty (kps 117) 0 b σ K []) cf (call cf k) (kps 117) Tryz.f117.ntmps k 0) 0 (lb Tryz.f117 0) :=
 qA (qA qT (qA qT qT)) (qA (qA qT (qA (qA (qA qT (qA (qA qT qT) qT)) (qA qT qT)) qT)) qT)
theorem qAH (k n : Nat) (x : DS SS.D qiF) : qc9 k (n + 1) x.1 x.2.1 x.2.2 = qD SS.enc (fun σ => qF cf (fun f a b K => COt f a b K []) (fun b _ σ K => LOt Ty (kps 117) 0 b σ K []) Tryz.f117.ntmps 0 (lb Tryz.f117 0) σ (qH Ty (kps 117 0) 0 qiF qm2 fun x => qc9 k n x.1 x.2.1 x.2.2)) qiF x := by kernel_rfl
theorem qAI (k : Nat) : qY cf (call cf k) (kps 117) Tryz.f117.ntmps k 0 0 (lb Tryz.f117 0) (qm3 k) :=
 qr (c := cf) (callF := call cf k) (kp := kps 117) (nt := Tryz.f117.ntmps) (k := k) (p := 0) (b := 0) (x0 := lb Tryz.f117 0) (hs := qiF) (os := qm2) (qd (qyn k)) (qAG k) (fun n x => qc9 k n x.1 x.2.1 x.2.2) (fun _ => rfl) (qAH k)
theorem qEN (k : Nat) : qg (LOk (R := DS FS.D qqe) (fun b _ σ K => LOt Ty (kps 117) 0 b σ K [qm3 k]) cf (call cf k) (cf.keep 117) Tryz.f117.ntmps k qjZ.bs.length) 0 (bd Tryz.f117) :=
 qA qT (qA (qA qT (qA (qA (qA qT (qA (qA qT qT) qT)) (qA qT qT)) qT)) (qA (qA qT (qw (c := cf) (callF := call cf k) (kp := kps 117) (nt := Tryz.f117.ntmps) (k := k) (p := 0) (b := 0) (x0 := lb Tryz.f117 0) (l := [qm3 k]) (qA (fun _ => qAI k) qT))) (qA qT qT)))
theorem qEO (k : Nat) (x : qjZ.D) : qen (k + 1) x.1 x.2 = qi cf (fun f a b K => COt f a b K []) (fun b _ σ K => LOt Ty (kps 117) 0 b σ K [qm3 k]) 117 Tryz.f117.ntmps Tryz.f117.results.toList (bd Tryz.f117) (qjZ.enc x).1 (qjZ.enc x).2 (qj FS.dec qqe) := by kernel_rfl
theorem quw : ∀ k, qf (call cf k) (qlP k)
 | 0 => fun x y e => absurd (show (none : Option _) = some y from e) (by simp)
 | k + 1 => qe (c := cf) (k := k) (f := 117) (fn := Tryz.f117) (body := bd Tryz.f117) (sh := qjZ) (os := qqe) rfl Tryz.func117 rfl ⟨rfl, Nat.le_of_ble_eq_true rfl⟩ (qd (qyn k)) (qEN k) (fun x => qen (k + 1) x.1 x.2) (qEO k)

def qdY (k : Nat) (rec : List Int → Int → Nat → Int → Int → List Int → Option (Nat × Int × List Int)) (a : List Int) (d : Int) (q : Nat) (r : Int) (i : Int) (qs : List Int) : Option (Nat × Int × List Int) :=
 if ((decide (i ≥ (0 : Int))) = true) then
 if ((0 : Int) ≤ i) then
 Option.bind (a)[(Int.toNat i)]? fun x3 =>
 if ((IntKind.wrap .u64 d) = (0 : Int)) then
 none
 else
 if (((0 : Int) ≤ i) ∧ (i < ((q : Nat) : Int))) then
 Option.bind (qs)[(0 + (Int.toNat i))]? fun x4 =>
 if ((IntKind.wrap .u64 d) = (0 : Int)) then
 none
 else
 rec a d q (Int.tmod (IntKind.wrap .u64 (((BitVec.toNat ((BitVec.ofInt 64 (IntKind.wrap .u64 (r * (4294967296 : Int)))) ||| (BitVec.ofInt 64 (IntKind.wrap .u64 x3)))) : Nat) : Int)) (IntKind.wrap .u64 d)) (IntKind.wrap .i64 (i - (1 : Int))) (List.set qs (0 + (Int.toNat i)) (IntKind.wrap .u32 (IntKind.wrap .u64 (Int.tdiv (IntKind.wrap .u64 (((BitVec.toNat ((BitVec.ofInt 64 (IntKind.wrap .u64 (r * (4294967296 : Int)))) ||| (BitVec.ofInt 64 (IntKind.wrap .u64 x3)))) : Nat) : Int)) (IntKind.wrap .u64 d)))))
 else
 none
 else
 none
 else
 (some (q, r, qs))
def qcr (k n : Nat) : List Int → Int → Nat → Int → Int → List Int → Option (Nat × Int × List Int) := Nat.rec (fun _ _ _ _ _ _ => none) (fun _ r => qdY k r) n
def qh3 (k : Nat) (a : List Int) (d : Int) : Option (List Int × Int) :=
 if (((0 : Int) ≤ (((List.length a) : Nat) : Int)) ∧ (((((List.length a) : Nat) : Int) ≤ (((List.length a) : Nat) : Int)) ∧ (((((List.length a) : Nat) : Int) * (4 : Int)) ≤ (140737488355328 : Int)))) then
 Option.bind (qcr k k a d (Int.toNat (((List.length a) : Nat) : Int)) (0 : Int) (IntKind.wrap .i64 ((((List.length a) : Nat) : Int) - (1 : Int))) (List.replicate (Int.toNat (((List.length a) : Nat) : Int)) (0 : Int))) fun r5 =>
 if ((0 + r5.1) ≤ (List.length r5.2.2)) then
 (some ((List.take r5.1 r5.2.2), (IntKind.wrap .u32 r5.2.1)))
 else
 none
 else
 none
def qeB : Nat → List Int → Int → Option (List Int × Int)
 | 0, _, _ => none
 | k + 1, a, d => qh3 k a d
def qj0 : FS := { vs := [.a (.lf (.sl (.int .u32))), .a (.lf (.int .u32))], bs := [] }
def qqf : List FS := [{ vs := [.a (.lf (.sl (.int .u32))), .a (.lf (.int .u32))], bs := [] }]
def qiG (k : Nat) : Inst := ⟨108, qj0, qqf, fun x => qeB k x.1 x.2⟩
theorem qyo (k : Nat) : qk (call cf k) [] := True.intro
def qiH : List SS := [{ fr := [(0, .a (.lf (.sl (.int .u32)))), (1, .a (.lf (.int .u32))), (6, .a (.smz 0)), (7, .a (.lf (.int .u64))), (8, .a (.lf (.int .i64)))], mem := [(0, some (.arr (.int .u32) 1 68 false))], nx := 1 }]
def qm4 : List OS := [⟨some 0, { fr := [(6, .a (.smz 0)), (7, .a (.lf (.int .u64)))], mem := [(0, some (.arr (.int .u32) 1 68 false))], nx := 1 }⟩]
def qm5 (k : Nat) : LInst := ⟨0, qiH, qm4, fun x => qcr k k x.1 x.2.1 x.2.2.1 x.2.2.2.1 x.2.2.2.2.1 x.2.2.2.2.2⟩
theorem qAJ (k : Nat) : qg (LOk (R := DS OS.D qm4) (fun b _ σ K => LOt Ty (kps 108) 0 b σ K []) cf (call cf k) (kps 108) Tryz.f108.ntmps k 0) 0 (lb Tryz.f108 0) :=
 qA (qA qT (qA qT qT)) (qA (qA qT (qA qT qT)) qT)
theorem qAK (k n : Nat) (x : DS SS.D qiH) : qcr k (n + 1) x.1 x.2.1 x.2.2.1 x.2.2.2.1 x.2.2.2.2.1 x.2.2.2.2.2 = qD SS.enc (fun σ => qF cf (fun f a b K => COt f a b K []) (fun b _ σ K => LOt Ty (kps 108) 0 b σ K []) Tryz.f108.ntmps 0 (lb Tryz.f108 0) σ (qH Ty (kps 108 0) 0 qiH qm4 fun x => qcr k n x.1 x.2.1 x.2.2.1 x.2.2.2.1 x.2.2.2.2.1 x.2.2.2.2.2)) qiH x := by kernel_rfl
theorem qAL (k : Nat) : qY cf (call cf k) (kps 108) Tryz.f108.ntmps k 0 0 (lb Tryz.f108 0) (qm5 k) :=
 qr (c := cf) (callF := call cf k) (kp := kps 108) (nt := Tryz.f108.ntmps) (k := k) (p := 0) (b := 0) (x0 := lb Tryz.f108 0) (hs := qiH) (os := qm4) (qd (qyo k)) (qAJ k) (fun n x => qcr k n x.1 x.2.1 x.2.2.1 x.2.2.2.1 x.2.2.2.2.1 x.2.2.2.2.2) (fun _ => rfl) (qAK k)
theorem qEP (k : Nat) : qg (LOk (R := DS FS.D qqf) (fun b _ σ K => LOt Ty (kps 108) 0 b σ K [qm5 k]) cf (call cf k) (cf.keep 108) Tryz.f108.ntmps k qj0.bs.length) 0 (bd Tryz.f108) :=
 qA qT (qA qT (qA qT (qA (qA qT (qw (c := cf) (callF := call cf k) (kp := kps 108) (nt := Tryz.f108.ntmps) (k := k) (p := 0) (b := 0) (x0 := lb Tryz.f108 0) (l := [qm5 k]) (qA (fun _ => qAL k) qT))) (qA qT qT))))
theorem qEQ (k : Nat) (x : qj0.D) : qeB (k + 1) x.1 x.2 = qi cf (fun f a b K => COt f a b K []) (fun b _ σ K => LOt Ty (kps 108) 0 b σ K [qm5 k]) 108 Tryz.f108.ntmps Tryz.f108.results.toList (bd Tryz.f108) (qj0.enc x).1 (qj0.enc x).2 (qj FS.dec qqf) := by kernel_rfl
theorem qyp : ∀ k, qf (call cf k) (qiG k)
 | 0 => fun x y e => absurd (show (none : Option _) = some y from e) (by simp)
 | k + 1 => qe (c := cf) (k := k) (f := 108) (fn := Tryz.f108) (body := bd Tryz.f108) (sh := qj0) (os := qqf) rfl Tryz.func108 rfl ⟨rfl, Nat.le_of_ble_eq_true rfl⟩ (qd (qyo k)) (qEP k) (fun x => qeB (k + 1) x.1 x.2) (qEQ k)

def qdZ (k : Nat) (rec : Int → Nat → List Int → Int → Int → List Int → Option (Nat × List Int)) (bits : Int) (out1 : Nat) (x : List Int) (x1 : Int) (x2 : Int) (outs : List Int) : Option (Nat × List Int) :=
 if ((decide (x2 < x1)) = true) then
 if ((0 : Int) ≤ x2) then
 Option.bind (x)[(Int.toNat x2)]? fun x3 =>
 if (bits < (0 : Int)) then
 none
 else
 if (((0 : Int) ≤ x2) ∧ (x2 < ((out1 : Nat) : Int))) then
 Option.bind (outs)[(0 + (Int.toNat x2))]? fun x4 =>
 if (((0 : Int) ≤ x2) ∧ (x2 < ((out1 : Nat) : Int))) then
 Option.bind (outs)[(0 + (Int.toNat x2))]? fun x5 =>
 if (((0 : Int) ≤ (IntKind.wrap .i64 (x2 + (1 : Int)))) ∧ ((IntKind.wrap .i64 (x2 + (1 : Int))) < ((out1 : Nat) : Int))) then
 Option.bind ((List.set outs (0 + (Int.toNat x2)) (IntKind.wrap .u32 (((BitVec.toNat ((BitVec.ofInt 32 x4) ||| (BitVec.ofInt 32 (IntKind.wrap .u32 (IntKind.wrap .u64 ((IntKind.wrap .u64 x3) * ((2 : Int) ^ (min (Int.toNat bits) 64)))))))) : Nat) : Int))))[(0 + (Int.toNat (IntKind.wrap .i64 (x2 + (1 : Int)))))]? fun x6 =>
 rec bits out1 x x1 (IntKind.wrap .i64 (x2 + (1 : Int))) (List.set (List.set outs (0 + (Int.toNat x2)) (IntKind.wrap .u32 (((BitVec.toNat ((BitVec.ofInt 32 x4) ||| (BitVec.ofInt 32 (IntKind.wrap .u32 (IntKind.wrap .u64 ((IntKind.wrap .u64 x3) * ((2 : Int) ^ (min (Int.toNat bits) 64)))))))) : Nat) : Int))) (0 + (Int.toNat (IntKind.wrap .i64 (x2 + (1 : Int))))) (IntKind.wrap .u32 (Int.fdiv (IntKind.wrap .u64 ((IntKind.wrap .u64 x3) * ((2 : Int) ^ (min (Int.toNat bits) 64)))) (4294967296 : Int))))
 else
 none
 else
 none
 else
 none
 else
 none
 else
 (some (out1, outs))
def qcs (k n : Nat) : Int → Nat → List Int → Int → Int → List Int → Option (Nat × List Int) := Nat.rec (fun _ _ _ _ _ _ => none) (fun _ r => qdZ k r) n
def qh4 (k : Nat) (a : List Int) (bits : Int) : Option (Nat × List Int) :=
 if (((0 : Int) ≤ (IntKind.wrap .i64 ((((List.length a) : Nat) : Int) + (1 : Int)))) ∧ (((IntKind.wrap .i64 ((((List.length a) : Nat) : Int) + (1 : Int))) ≤ (IntKind.wrap .i64 ((((List.length a) : Nat) : Int) + (1 : Int)))) ∧ (((IntKind.wrap .i64 ((((List.length a) : Nat) : Int) + (1 : Int))) * (4 : Int)) ≤ (140737488355328 : Int)))) then
 Option.bind (qcs k k bits (Int.toNat (IntKind.wrap .i64 ((((List.length a) : Nat) : Int) + (1 : Int)))) a (((List.length a) : Nat) : Int) (0 : Int) (List.replicate (Int.toNat (IntKind.wrap .i64 ((((List.length a) : Nat) : Int) + (1 : Int)))) (0 : Int))) fun r6 =>
 (some (r6.1, r6.2))
 else
 none
def qdW : Nat → List Int → Int → Option (Nat × List Int)
 | 0, _, _ => none
 | k + 1, a, bits => qh4 k a bits
def qj1 : FS := { vs := [.a (.lf (.sl (.int .u32))), .a (.lf (.int .u64))], bs := [] }
def qqg : List FS := [{ vs := [.a (.smz 0)], bs := [.arr (.int .u32) 1 68 false] }]
def qlQ (k : Nat) : Inst := ⟨138, qj1, qqg, fun x => qdW k x.1 x.2⟩
theorem qyq (k : Nat) : qk (call cf k) [] := True.intro
def qiI : List SS := [{ fr := [(1, .a (.lf (.int .u64))), (5, .a (.smz 0)), (13, .a (.lf (.sl (.int .u32)))), (14, .a (.lf (.int .i64))), (15, .a (.lf (.int .i64)))], mem := [(0, some (.arr (.int .u32) 1 68 false))], nx := 1 }]
def qm6 : List OS := [⟨some 0, { fr := [(5, .a (.smz 0))], mem := [(0, some (.arr (.int .u32) 1 68 false))], nx := 1 }⟩]
def qm7 (k : Nat) : LInst := ⟨0, qiI, qm6, fun x => qcs k k x.1 x.2.1 x.2.2.1 x.2.2.2.1 x.2.2.2.2.1 x.2.2.2.2.2⟩
theorem qAM (k : Nat) : qg (LOk (R := DS OS.D qm6) (fun b _ σ K => LOt Ty (kps 138) 0 b σ K []) cf (call cf k) (kps 138) Tryz.f138.ntmps k 0) 0 (lb Tryz.f138 0) :=
 qA qT (qA (qA qT qT) (qA (qA qT (qA qT (qA qT qT))) qT))
theorem qAN (k n : Nat) (x : DS SS.D qiI) : qcs k (n + 1) x.1 x.2.1 x.2.2.1 x.2.2.2.1 x.2.2.2.2.1 x.2.2.2.2.2 = qD SS.enc (fun σ => qF cf (fun f a b K => COt f a b K []) (fun b _ σ K => LOt Ty (kps 138) 0 b σ K []) Tryz.f138.ntmps 0 (lb Tryz.f138 0) σ (qH Ty (kps 138 0) 0 qiI qm6 fun x => qcs k n x.1 x.2.1 x.2.2.1 x.2.2.2.1 x.2.2.2.2.1 x.2.2.2.2.2)) qiI x := by kernel_rfl
theorem qAO (k : Nat) : qY cf (call cf k) (kps 138) Tryz.f138.ntmps k 0 0 (lb Tryz.f138 0) (qm7 k) :=
 qr (c := cf) (callF := call cf k) (kp := kps 138) (nt := Tryz.f138.ntmps) (k := k) (p := 0) (b := 0) (x0 := lb Tryz.f138 0) (hs := qiI) (os := qm6) (qd (qyq k)) (qAM k) (fun n x => qcs k n x.1 x.2.1 x.2.2.1 x.2.2.2.1 x.2.2.2.2.1 x.2.2.2.2.2) (fun _ => rfl) (qAN k)
theorem qER (k : Nat) : qg (LOk (R := DS FS.D qqg) (fun b _ σ K => LOt Ty (kps 138) 0 b σ K [qm7 k]) cf (call cf k) (cf.keep 138) Tryz.f138.ntmps k qj1.bs.length) 0 (bd Tryz.f138) :=
 qA qT (qA qT (qA (qA qT (qw (c := cf) (callF := call cf k) (kp := kps 138) (nt := Tryz.f138.ntmps) (k := k) (p := 0) (b := 0) (x0 := lb Tryz.f138 0) (l := [qm7 k]) (qA (fun _ => qAO k) qT))) (qA qT qT)))
theorem qES (k : Nat) (x : qj1.D) : qdW (k + 1) x.1 x.2 = qi cf (fun f a b K => COt f a b K []) (fun b _ σ K => LOt Ty (kps 138) 0 b σ K [qm7 k]) 138 Tryz.f138.ntmps Tryz.f138.results.toList (bd Tryz.f138) (qj1.enc x).1 (qj1.enc x).2 (qj FS.dec qqg) := by kernel_rfl
theorem qET : ∀ k, qf (call cf k) (qlQ k)
 | 0 => fun x y e => absurd (show (none : Option _) = some y from e) (by simp)
 | k + 1 => qe (c := cf) (k := k) (f := 138) (fn := Tryz.f138) (body := bd Tryz.f138) (sh := qj1) (os := qqg) rfl Tryz.func138 rfl ⟨rfl, Nat.le_of_ble_eq_true rfl⟩ (qd (qyq k)) (qER k) (fun x => qdW (k + 1) x.1 x.2) (qES k)

def qaA (k : Nat) (rec : Nat → Nat → Nat → Int → Int → Int → Int → Int → List Int → List Int → Option (Nat × Nat × Nat × Int × Int × List Int × List Int)) (u0 : Nat) (u1 : Nat) (v : Nat) (d : Int) (carry : Int) (borrow : Int) (x : Int) (x1 : Int) (us : List Int) (vs : List Int) : Option (Nat × Nat × Nat × Int × Int × List Int × List Int) :=
 if ((decide (x1 < x)) = true) then
 if ((decide (x1 < ((v : Nat) : Int))) = true) then
 if (((0 : Int) ≤ x1) ∧ (x1 < ((v : Nat) : Int))) then
 Option.bind (vs)[(0 + (Int.toNat x1))]? fun x6 =>
 if (((0 : Int) ≤ x1) ∧ (x1 < ((u1 : Nat) : Int))) then
 Option.bind (us)[(u0 + (Int.toNat x1))]? fun x7 =>
 if ((decide ((IntKind.wrap .u64 x7) < (IntKind.wrap .u64 ((IntKind.wrap .u64 (((BitVec.toNat ((BitVec.ofInt 64 (IntKind.wrap .u64 (carry + (IntKind.wrap .u64 (d * (IntKind.wrap .u64 x6)))))) &&& (BitVec.ofInt 64 (4294967295 : Int)))) : Nat) : Int)) + borrow)))) = true) then
 if (((0 : Int) ≤ x1) ∧ (x1 < ((u1 : Nat) : Int))) then
 Option.bind (us)[(u0 + (Int.toNat x1))]? fun x8 =>
 if (((0 : Int) ≤ x1) ∧ (x1 < ((u1 : Nat) : Int))) then
 Option.bind (us)[(u0 + (Int.toNat x1))]? fun x9 =>
 rec u0 u1 v d (Int.fdiv (IntKind.wrap .u64 (carry + (IntKind.wrap .u64 (d * (IntKind.wrap .u64 x6))))) (4294967296 : Int)) (1 : Int) x (IntKind.wrap .i64 (x1 + (1 : Int))) (List.set us (u0 + (Int.toNat x1)) (IntKind.wrap .u32 (IntKind.wrap .u64 ((IntKind.wrap .u64 x8) - (IntKind.wrap .u64 ((IntKind.wrap .u64 (((BitVec.toNat ((BitVec.ofInt 64 (IntKind.wrap .u64 (carry + (IntKind.wrap .u64 (d * (IntKind.wrap .u64 x6)))))) &&& (BitVec.ofInt 64 (4294967295 : Int)))) : Nat) : Int)) + borrow)))))) vs
 else
 none
 else
 none
 else
 if (((0 : Int) ≤ x1) ∧ (x1 < ((u1 : Nat) : Int))) then
 Option.bind (us)[(u0 + (Int.toNat x1))]? fun x8 =>
 if (((0 : Int) ≤ x1) ∧ (x1 < ((u1 : Nat) : Int))) then
 Option.bind (us)[(u0 + (Int.toNat x1))]? fun x9 =>
 rec u0 u1 v d (Int.fdiv (IntKind.wrap .u64 (carry + (IntKind.wrap .u64 (d * (IntKind.wrap .u64 x6))))) (4294967296 : Int)) (0 : Int) x (IntKind.wrap .i64 (x1 + (1 : Int))) (List.set us (u0 + (Int.toNat x1)) (IntKind.wrap .u32 (IntKind.wrap .u64 ((IntKind.wrap .u64 x8) - (IntKind.wrap .u64 ((IntKind.wrap .u64 (((BitVec.toNat ((BitVec.ofInt 64 (IntKind.wrap .u64 (carry + (IntKind.wrap .u64 (d * (IntKind.wrap .u64 x6)))))) &&& (BitVec.ofInt 64 (4294967295 : Int)))) : Nat) : Int)) + borrow)))))) vs
 else
 none
 else
 none
 else
 none
 else
 none
 else
 if (((0 : Int) ≤ x1) ∧ (x1 < ((u1 : Nat) : Int))) then
 Option.bind (us)[(u0 + (Int.toNat x1))]? fun x6 =>
 if ((decide ((IntKind.wrap .u64 x6) < (IntKind.wrap .u64 ((IntKind.wrap .u64 (((BitVec.toNat ((BitVec.ofInt 64 carry) &&& (BitVec.ofInt 64 (4294967295 : Int)))) : Nat) : Int)) + borrow)))) = true) then
 if (((0 : Int) ≤ x1) ∧ (x1 < ((u1 : Nat) : Int))) then
 Option.bind (us)[(u0 + (Int.toNat x1))]? fun x7 =>
 if (((0 : Int) ≤ x1) ∧ (x1 < ((u1 : Nat) : Int))) then
 Option.bind (us)[(u0 + (Int.toNat x1))]? fun x8 =>
 rec u0 u1 v d (Int.fdiv carry (4294967296 : Int)) (1 : Int) x (IntKind.wrap .i64 (x1 + (1 : Int))) (List.set us (u0 + (Int.toNat x1)) (IntKind.wrap .u32 (IntKind.wrap .u64 ((IntKind.wrap .u64 x7) - (IntKind.wrap .u64 ((IntKind.wrap .u64 (((BitVec.toNat ((BitVec.ofInt 64 carry) &&& (BitVec.ofInt 64 (4294967295 : Int)))) : Nat) : Int)) + borrow)))))) vs
 else
 none
 else
 none
 else
 if (((0 : Int) ≤ x1) ∧ (x1 < ((u1 : Nat) : Int))) then
 Option.bind (us)[(u0 + (Int.toNat x1))]? fun x7 =>
 if (((0 : Int) ≤ x1) ∧ (x1 < ((u1 : Nat) : Int))) then
 Option.bind (us)[(u0 + (Int.toNat x1))]? fun x8 =>
 rec u0 u1 v d (Int.fdiv carry (4294967296 : Int)) (0 : Int) x (IntKind.wrap .i64 (x1 + (1 : Int))) (List.set us (u0 + (Int.toNat x1)) (IntKind.wrap .u32 (IntKind.wrap .u64 ((IntKind.wrap .u64 x7) - (IntKind.wrap .u64 ((IntKind.wrap .u64 (((BitVec.toNat ((BitVec.ofInt 64 carry) &&& (BitVec.ofInt 64 (4294967295 : Int)))) : Nat) : Int)) + borrow)))))) vs
 else
 none
 else
 none
 else
 none
 else
 (some (u0, u1, v, d, borrow, us, vs))
def qae (k n : Nat) : Nat → Nat → Nat → Int → Int → Int → Int → Int → List Int → List Int → Option (Nat × Nat × Nat × Int × Int × List Int × List Int) := Nat.rec (fun _ _ _ _ _ _ _ _ _ _ => none) (fun _ r => qaA k r) n
def qb1 (k : Nat) (rec : Nat → Nat → Nat → Int → Int → Int → Int → List Int → List Int → Option (Int × List Int × List Int)) (u0 : Nat) (u1 : Nat) (v : Nat) (d : Int) (carry : Int) (x : Int) (x1 : Int) (us : List Int) (vs : List Int) : Option (Int × List Int × List Int) :=
 if ((decide (x1 < x)) = true) then
 if (((0 : Int) ≤ x1) ∧ (x1 < ((u1 : Nat) : Int))) then
 Option.bind (us)[(u0 + (Int.toNat x1))]? fun x6 =>
 if ((decide (x1 < ((v : Nat) : Int))) = true) then
 if (((0 : Int) ≤ x1) ∧ (x1 < ((v : Nat) : Int))) then
 Option.bind (vs)[(0 + (Int.toNat x1))]? fun x7 =>
 if (((0 : Int) ≤ x1) ∧ (x1 < ((u1 : Nat) : Int))) then
 Option.bind (us)[(u0 + (Int.toNat x1))]? fun x8 =>
 rec u0 u1 v d (Int.fdiv (IntKind.wrap .u64 ((IntKind.wrap .u64 ((IntKind.wrap .u64 x6) + carry)) + (IntKind.wrap .u64 x7))) (4294967296 : Int)) x (IntKind.wrap .i64 (x1 + (1 : Int))) (List.set us (u0 + (Int.toNat x1)) (IntKind.wrap .u32 (IntKind.wrap .u64 ((IntKind.wrap .u64 ((IntKind.wrap .u64 x6) + carry)) + (IntKind.wrap .u64 x7))))) vs
 else
 none
 else
 none
 else
 if (((0 : Int) ≤ x1) ∧ (x1 < ((u1 : Nat) : Int))) then
 Option.bind (us)[(u0 + (Int.toNat x1))]? fun x7 =>
 rec u0 u1 v d (Int.fdiv (IntKind.wrap .u64 ((IntKind.wrap .u64 x6) + carry)) (4294967296 : Int)) x (IntKind.wrap .i64 (x1 + (1 : Int))) (List.set us (u0 + (Int.toNat x1)) (IntKind.wrap .u32 (IntKind.wrap .u64 ((IntKind.wrap .u64 x6) + carry)))) vs
 else
 none
 else
 none
 else
 (some (d, us, vs))
def qaK (k n : Nat) : Nat → Nat → Nat → Int → Int → Int → Int → List Int → List Int → Option (Int × List Int × List Int) := Nat.rec (fun _ _ _ _ _ _ _ _ _ => none) (fun _ r => qb1 k r) n
def qeZ (k : Nat) (u0 : Nat) (u1 : Nat) (v : Nat) (d : Int) (us : List Int) (vs : List Int) : Option (Int × List Int × List Int) :=
 Option.bind (qae k k u0 u1 v d (0 : Int) (0 : Int) ((u1 : Nat) : Int) (0 : Int) us vs) fun r9 =>
 if ((r9.2.2.2.2.1 == (0 : Int)) = true) then
 (some ((IntKind.wrap .u32 r9.2.2.2.1), r9.2.2.2.2.2.1, r9.2.2.2.2.2.2))
 else
 Option.bind (qaK k k r9.1 r9.2.1 r9.2.2.1 r9.2.2.2.1 (0 : Int) ((r9.2.1 : Nat) : Int) (0 : Int) r9.2.2.2.2.2.1 r9.2.2.2.2.2.2) fun r10 =>
 (some ((IntKind.wrap .u32 (IntKind.wrap .u64 (r10.1 - (1 : Int)))), r10.2.1, r10.2.2))
def qdF : Nat → Nat → Nat → Nat → Int → List Int → List Int → Option (Int × List Int × List Int)
 | 0, _, _, _, _, _, _ => none
 | k + 1, u0, u1, v, d, us, vs => qeZ k u0 u1 v d us vs
def qj2 : FS := { vs := [.a (.sms 0), .a (.smz 1), .a (.lf (.int .u64))], bs := [.arr (.int .u32) 1 68 false, .arr (.int .u32) 1 68 false] }
def qqh : List FS := [{ vs := [.a (.lf (.int .u32))], bs := [.arr (.int .u32) 1 68 false, .arr (.int .u32) 1 68 false] }]
def qlR (k : Nat) : Inst := ⟨139, qj2, qqh, fun x => qdF k x.1 x.2.1 x.2.2.1 x.2.2.2.1 x.2.2.2.2.1 x.2.2.2.2.2⟩
theorem qux (k : Nat) : qk (call cf k) [] := True.intro
def qiJ : List SS := [{ fr := [(0, .a (.sms 0)), (1, .a (.smz 1)), (2, .a (.lf (.int .u64))), (7, .a (.lf (.int .u64))), (8, .a (.lf (.int .u64))), (14, .a (.lf (.int .i64))), (15, .a (.lf (.int .i64)))], mem := [(0, some (.arr (.int .u32) 1 68 false)), (1, some (.arr (.int .u32) 1 68 false))], nx := 2 }]
def qm8 : List OS := [⟨some 0, { fr := [(0, .a (.sms 0)), (1, .a (.smz 1)), (2, .a (.lf (.int .u64))), (8, .a (.lf (.int .u64)))], mem := [(0, some (.arr (.int .u32) 1 68 false)), (1, some (.arr (.int .u32) 1 68 false))], nx := 2 }⟩]
def qgr (k : Nat) : LInst := ⟨0, qiJ, qm8, fun x => qae k k x.1 x.2.1 x.2.2.1 x.2.2.2.1 x.2.2.2.2.1 x.2.2.2.2.2.1 x.2.2.2.2.2.2.1 x.2.2.2.2.2.2.2.1 x.2.2.2.2.2.2.2.2.1 x.2.2.2.2.2.2.2.2.2⟩
theorem qAP (k : Nat) : qg (LOk (R := DS OS.D qm8) (fun b _ σ K => LOt Ty (kps 139) 2 b σ K []) cf (call cf k) (kps 139) Tryz.f139.ntmps k 2) 0 (lb Tryz.f139 0) :=
 qA qT (qA (qA qT qT) (qA (qA qT (qA (qA qT (qA qT qT)) (qA qT (qA qT (qA (qA qT (qA qT qT)) (qA qT qT)))))) qT))
theorem qAQ (k n : Nat) (x : DS SS.D qiJ) : qae k (n + 1) x.1 x.2.1 x.2.2.1 x.2.2.2.1 x.2.2.2.2.1 x.2.2.2.2.2.1 x.2.2.2.2.2.2.1 x.2.2.2.2.2.2.2.1 x.2.2.2.2.2.2.2.2.1 x.2.2.2.2.2.2.2.2.2 = qD SS.enc (fun σ => qF cf (fun f a b K => COt f a b K []) (fun b _ σ K => LOt Ty (kps 139) 2 b σ K []) Tryz.f139.ntmps 0 (lb Tryz.f139 0) σ (qH Ty (kps 139 0) 2 qiJ qm8 fun x => qae k n x.1 x.2.1 x.2.2.1 x.2.2.2.1 x.2.2.2.2.1 x.2.2.2.2.2.1 x.2.2.2.2.2.2.1 x.2.2.2.2.2.2.2.1 x.2.2.2.2.2.2.2.2.1 x.2.2.2.2.2.2.2.2.2)) qiJ x := by kernel_rfl
theorem qAR (k : Nat) : qY cf (call cf k) (kps 139) Tryz.f139.ntmps k 2 0 (lb Tryz.f139 0) (qgr k) :=
 qr (c := cf) (callF := call cf k) (kp := kps 139) (nt := Tryz.f139.ntmps) (k := k) (p := 2) (b := 0) (x0 := lb Tryz.f139 0) (hs := qiJ) (os := qm8) (qd (qux k)) (qAP k) (fun n x => qae k n x.1 x.2.1 x.2.2.1 x.2.2.2.1 x.2.2.2.2.1 x.2.2.2.2.2.1 x.2.2.2.2.2.2.1 x.2.2.2.2.2.2.2.1 x.2.2.2.2.2.2.2.2.1 x.2.2.2.2.2.2.2.2.2) (fun _ => rfl) (qAQ k)
def qiK : List SS := [{ fr := [(0, .a (.sms 0)), (1, .a (.smz 1)), (2, .a (.lf (.int .u64))), (7, .a (.lf (.int .u64))), (61, .a (.lf (.int .i64))), (62, .a (.lf (.int .i64)))], mem := [(0, some (.arr (.int .u32) 1 68 false)), (1, some (.arr (.int .u32) 1 68 false))], nx := 2 }]
def qm9 : List OS := [⟨some 2, { fr := [(2, .a (.lf (.int .u64)))], mem := [(0, some (.arr (.int .u32) 1 68 false)), (1, some (.arr (.int .u32) 1 68 false))], nx := 2 }⟩]
def qiL (k : Nat) : LInst := ⟨2, qiK, qm9, fun x => qaK k k x.1 x.2.1 x.2.2.1 x.2.2.2.1 x.2.2.2.2.1 x.2.2.2.2.2.1 x.2.2.2.2.2.2.1 x.2.2.2.2.2.2.2.1 x.2.2.2.2.2.2.2.2⟩
theorem qAS (k : Nat) : qg (LOk (R := DS OS.D qm9) (fun b _ σ K => LOt Ty (kps 139) 2 b σ K [qgr k]) cf (call cf k) (kps 139) Tryz.f139.ntmps k 2) 2 (lb Tryz.f139 1) :=
 qA qT (qA (qA qT qT) (qA (qA qT (qA qT (qA (qA qT (qA qT qT)) (qA qT qT)))) qT))
theorem qAT (k n : Nat) (x : DS SS.D qiK) : qaK k (n + 1) x.1 x.2.1 x.2.2.1 x.2.2.2.1 x.2.2.2.2.1 x.2.2.2.2.2.1 x.2.2.2.2.2.2.1 x.2.2.2.2.2.2.2.1 x.2.2.2.2.2.2.2.2 = qD SS.enc (fun σ => qF cf (fun f a b K => COt f a b K []) (fun b _ σ K => LOt Ty (kps 139) 2 b σ K [qgr k]) Tryz.f139.ntmps 2 (lb Tryz.f139 1) σ (qH Ty (kps 139 2) 2 qiK qm9 fun x => qaK k n x.1 x.2.1 x.2.2.1 x.2.2.2.1 x.2.2.2.2.1 x.2.2.2.2.2.1 x.2.2.2.2.2.2.1 x.2.2.2.2.2.2.2.1 x.2.2.2.2.2.2.2.2)) qiK x := by kernel_rfl
theorem qAU (k : Nat) : qY cf (call cf k) (kps 139) Tryz.f139.ntmps k 2 2 (lb Tryz.f139 1) (qiL k) :=
 qr (c := cf) (callF := call cf k) (kp := kps 139) (nt := Tryz.f139.ntmps) (k := k) (p := 2) (b := 2) (x0 := lb Tryz.f139 1) (hs := qiK) (os := qm9) (qd (qux k)) (qAS k) (fun n x => qaK k n x.1 x.2.1 x.2.2.1 x.2.2.2.1 x.2.2.2.2.1 x.2.2.2.2.2.1 x.2.2.2.2.2.2.1 x.2.2.2.2.2.2.2.1 x.2.2.2.2.2.2.2.2) (fun _ => rfl) (qAT k)
theorem qEU (k : Nat) : qg (LOk (R := DS FS.D qqh) (fun b _ σ K => LOt Ty (kps 139) 2 b σ K [qgr k, qiL k]) cf (call cf k) (cf.keep 139) Tryz.f139.ntmps k qj2.bs.length) 0 (bd Tryz.f139) :=
 qA qT (qA qT (qA (qA qT (qw (c := cf) (callF := call cf k) (kp := kps 139) (nt := Tryz.f139.ntmps) (k := k) (p := 2) (b := 0) (x0 := lb Tryz.f139 0) (l := [qgr k, qiL k]) (qA (fun _ => qAR k) (qA (fun h => absurd (show (2 : Nat) = 0 from h) (by decide)) qT)))) (qA (qA qT (qA (qA qT qT) qT)) (qA qT (qA (qA qT (qw (c := cf) (callF := call cf k) (kp := kps 139) (nt := Tryz.f139.ntmps) (k := k) (p := 2) (b := 2) (x0 := lb Tryz.f139 1) (l := [qgr k, qiL k]) (qA (fun h => absurd (show (0 : Nat) = 2 from h) (by decide)) (qA (fun _ => qAU k) qT)))) (qA qT qT))))))
theorem qEV (k : Nat) (x : qj2.D) : qdF (k + 1) x.1 x.2.1 x.2.2.1 x.2.2.2.1 x.2.2.2.2.1 x.2.2.2.2.2 = qi cf (fun f a b K => COt f a b K []) (fun b _ σ K => LOt Ty (kps 139) 2 b σ K [qgr k, qiL k]) 139 Tryz.f139.ntmps Tryz.f139.results.toList (bd Tryz.f139) (qj2.enc x).1 (qj2.enc x).2 (qj FS.dec qqh) := by kernel_rfl
theorem qEW : ∀ k, qf (call cf k) (qlR k)
 | 0 => fun x y e => absurd (show (none : Option _) = some y from e) (by simp)
 | k + 1 => qe (c := cf) (k := k) (f := 139) (fn := Tryz.f139) (body := bd Tryz.f139) (sh := qj2) (os := qqh) rfl Tryz.func139 rfl ⟨rfl, Nat.le_of_ble_eq_true rfl⟩ (qd (qux k)) (qEU k) (fun x => qdF (k + 1) x.1 x.2.1 x.2.2.1 x.2.2.2.1 x.2.2.2.2.1 x.2.2.2.2.2) (qEV k)

def qeo (k : Nat) (rec : List Int → List Int → Int → Option (List Int × List Int × Int)) (a : List Int) (b : List Int) (bits : Int) : Option (List Int × List Int × Int) :=
 if ((0 : Int) ≤ (IntKind.wrap .i64 ((((List.length b) : Nat) : Int) - (1 : Int)))) then
 Option.bind (b)[(Int.toNat (IntKind.wrap .i64 ((((List.length b) : Nat) : Int) - (1 : Int))))]? fun x2 =>
 if (bits < (0 : Int)) then
 none
 else
 if (((Int.fdiv (IntKind.wrap .u32 (x2 * ((2 : Int) ^ (min (Int.toNat bits) 32)))) (2147483648 : Int)) == (0 : Int)) = true) then
 rec a b (IntKind.wrap .u64 (bits + (1 : Int)))
 else
 (some (a, b, bits))
 else
 none
def qda (k n : Nat) : List Int → List Int → Int → Option (List Int × List Int × Int) := Nat.rec (fun _ _ _ => none) (fun _ r => qeo k r) n
def qbt (k : Nat) (rec : Nat → Int → Int → Nat → Nat → Int → Int → Int → List Int → List Int → List Int → Option (Nat × Int × Int × Nat × Nat × Int × Int × List Int × List Int × List Int)) (q : Nat) (bits : Int) (n : Int) (u : Nat) (v : Nat) (j : Int) (d : Int) (rest : Int) (qs : List Int) (us : List Int) (vs : List Int) : Option (Nat × Int × Int × Nat × Nat × Int × Int × List Int × List Int × List Int) :=
 if ((decide (d > (4294967295 : Int))) = false) then
 if ((decide (rest ≤ (4294967295 : Int))) = true) then
 if (((0 : Int) ≤ (IntKind.wrap .i64 (n - (2 : Int)))) ∧ ((IntKind.wrap .i64 (n - (2 : Int))) < ((v : Nat) : Int))) then
 Option.bind (vs)[(0 + (Int.toNat (IntKind.wrap .i64 (n - (2 : Int)))))]? fun x6 =>
 if (((0 : Int) ≤ (IntKind.wrap .i64 ((IntKind.wrap .i64 (j + n)) - (2 : Int)))) ∧ ((IntKind.wrap .i64 ((IntKind.wrap .i64 (j + n)) - (2 : Int))) < ((u : Nat) : Int))) then
 Option.bind (us)[(0 + (Int.toNat (IntKind.wrap .i64 ((IntKind.wrap .i64 (j + n)) - (2 : Int)))))]? fun x7 =>
 if ((decide ((IntKind.wrap .u64 (d * (IntKind.wrap .u64 x6))) > (IntKind.wrap .u64 (((BitVec.toNat ((BitVec.ofInt 64 (IntKind.wrap .u64 (rest * (4294967296 : Int)))) ||| (BitVec.ofInt 64 (IntKind.wrap .u64 x7)))) : Nat) : Int)))) = true) then
 if (((0 : Int) ≤ (IntKind.wrap .i64 (n - (1 : Int)))) ∧ ((IntKind.wrap .i64 (n - (1 : Int))) < ((v : Nat) : Int))) then
 Option.bind (vs)[(0 + (Int.toNat (IntKind.wrap .i64 (n - (1 : Int)))))]? fun x8 =>
 if ((decide ((IntKind.wrap .u64 (rest + (IntKind.wrap .u64 x8))) > (4294967295 : Int))) = true) then
 (some (q, bits, n, u, v, j, (IntKind.wrap .u64 (d - (1 : Int))), qs, us, vs))
 else
 rec q bits n u v j (IntKind.wrap .u64 (d - (1 : Int))) (IntKind.wrap .u64 (rest + (IntKind.wrap .u64 x8))) qs us vs
 else
 none
 else
 (some (q, bits, n, u, v, j, d, qs, us, vs))
 else
 none
 else
 none
 else
 (some (q, bits, n, u, v, j, d, qs, us, vs))
 else
 if (((0 : Int) ≤ (IntKind.wrap .i64 (n - (1 : Int)))) ∧ ((IntKind.wrap .i64 (n - (1 : Int))) < ((v : Nat) : Int))) then
 Option.bind (vs)[(0 + (Int.toNat (IntKind.wrap .i64 (n - (1 : Int)))))]? fun x6 =>
 if ((decide ((IntKind.wrap .u64 (rest + (IntKind.wrap .u64 x6))) > (4294967295 : Int))) = true) then
 (some (q, bits, n, u, v, j, (IntKind.wrap .u64 (d - (1 : Int))), qs, us, vs))
 else
 rec q bits n u v j (IntKind.wrap .u64 (d - (1 : Int))) (IntKind.wrap .u64 (rest + (IntKind.wrap .u64 x6))) qs us vs
 else
 none
def qbG (k n : Nat) : Nat → Int → Int → Nat → Nat → Int → Int → Int → List Int → List Int → List Int → Option (Nat × Int × Int × Nat × Nat × Int × Int × List Int × List Int × List Int) := Nat.rec (fun _ _ _ _ _ _ _ _ _ _ _ => none) (fun _ r => qbt k r) n
def qep (k : Nat) (rec : Nat → Int → Int → Nat → Nat → Int → List Int → List Int → List Int → Option (Nat × Int × Int × Nat × List Int × List Int × List Int)) (q : Nat) (bits : Int) (n : Int) (u : Nat) (v : Nat) (j : Int) (qs : List Int) (us : List Int) (vs : List Int) : Option (Nat × Int × Int × Nat × List Int × List Int × List Int) :=
 if ((decide (j ≥ (0 : Int))) = true) then
 if (((0 : Int) ≤ (IntKind.wrap .i64 (j + n))) ∧ ((IntKind.wrap .i64 (j + n)) < ((u : Nat) : Int))) then
 Option.bind (us)[(0 + (Int.toNat (IntKind.wrap .i64 (j + n))))]? fun x2 =>
 if (((0 : Int) ≤ (IntKind.wrap .i64 ((IntKind.wrap .i64 (j + n)) - (1 : Int)))) ∧ ((IntKind.wrap .i64 ((IntKind.wrap .i64 (j + n)) - (1 : Int))) < ((u : Nat) : Int))) then
 Option.bind (us)[(0 + (Int.toNat (IntKind.wrap .i64 ((IntKind.wrap .i64 (j + n)) - (1 : Int)))))]? fun x3 =>
 if (((0 : Int) ≤ (IntKind.wrap .i64 (n - (1 : Int)))) ∧ ((IntKind.wrap .i64 (n - (1 : Int))) < ((v : Nat) : Int))) then
 Option.bind (vs)[(0 + (Int.toNat (IntKind.wrap .i64 (n - (1 : Int)))))]? fun x4 =>
 if ((IntKind.wrap .u64 x4) = (0 : Int)) then
 none
 else
 if (((0 : Int) ≤ (IntKind.wrap .i64 (n - (1 : Int)))) ∧ ((IntKind.wrap .i64 (n - (1 : Int))) < ((v : Nat) : Int))) then
 Option.bind (vs)[(0 + (Int.toNat (IntKind.wrap .i64 (n - (1 : Int)))))]? fun x5 =>
 if ((IntKind.wrap .u64 x5) = (0 : Int)) then
 none
 else
 Option.bind (qbG k k q bits n u v j (IntKind.wrap .u64 (Int.tdiv (IntKind.wrap .u64 (((BitVec.toNat ((BitVec.ofInt 64 (IntKind.wrap .u64 ((IntKind.wrap .u64 x2) * (4294967296 : Int)))) ||| (BitVec.ofInt 64 (IntKind.wrap .u64 x3)))) : Nat) : Int)) (IntKind.wrap .u64 x4))) (Int.tmod (IntKind.wrap .u64 (((BitVec.toNat ((BitVec.ofInt 64 (IntKind.wrap .u64 ((IntKind.wrap .u64 x2) * (4294967296 : Int)))) ||| (BitVec.ofInt 64 (IntKind.wrap .u64 x3)))) : Nat) : Int)) (IntKind.wrap .u64 x5)) qs us vs) fun r8 =>
 if (((0 : Int) ≤ r8.2.2.2.2.2.1) ∧ ((r8.2.2.2.2.2.1 ≤ (IntKind.wrap .i64 ((IntKind.wrap .i64 (r8.2.2.2.2.2.1 + r8.2.2.1)) + (1 : Int)))) ∧ (((0 + (Int.toNat (IntKind.wrap .i64 ((IntKind.wrap .i64 (r8.2.2.2.2.2.1 + r8.2.2.1)) + (1 : Int))))) ≤ (List.length r8.2.2.2.2.2.2.2.2.1)) ∧ ((r8.2.2.2.2.2.1 < (IntKind.wrap .i64 ((IntKind.wrap .i64 (r8.2.2.2.2.2.1 + r8.2.2.1)) + (1 : Int)))) ∨ (false = true))))) then
 Option.bind (qdF k (0 + (Int.toNat r8.2.2.2.2.2.1)) ((Int.toNat (IntKind.wrap .i64 ((IntKind.wrap .i64 (r8.2.2.2.2.2.1 + r8.2.2.1)) + (1 : Int)))) - (Int.toNat r8.2.2.2.2.2.1)) r8.2.2.2.2.1 r8.2.2.2.2.2.2.1 r8.2.2.2.2.2.2.2.2.1 r8.2.2.2.2.2.2.2.2.2) fun r9 =>
 if (((0 : Int) ≤ r8.2.2.2.2.2.1) ∧ (r8.2.2.2.2.2.1 < ((r8.1 : Nat) : Int))) then
 Option.bind (r8.2.2.2.2.2.2.2.1)[(0 + (Int.toNat r8.2.2.2.2.2.1))]? fun x6 =>
 rec r8.1 r8.2.1 r8.2.2.1 r8.2.2.2.1 r8.2.2.2.2.1 (IntKind.wrap .i64 (r8.2.2.2.2.2.1 - (1 : Int))) (List.set r8.2.2.2.2.2.2.2.1 (0 + (Int.toNat r8.2.2.2.2.2.1)) r9.1) r9.2.1 r9.2.2
 else
 none
 else
 none
 else
 none
 else
 none
 else
 none
 else
 none
 else
 (some (q, bits, n, u, qs, us, vs))
def qdt (k n : Nat) : Nat → Int → Int → Nat → Nat → Int → List Int → List Int → List Int → Option (Nat × Int × Int × Nat × List Int × List Int × List Int) := Nat.rec (fun _ _ _ _ _ _ _ _ _ => none) (fun _ r => qep k r) n
def qeq (k : Nat) (rec : Nat → Nat → Int → Nat → Int → Int → List Int → List Int → List Int → Option (Nat × Nat × List Int × List Int × List Int)) (q : Nat) (r : Nat) (bits : Int) (u : Nat) (x : Int) (x1 : Int) (qs : List Int) (rs : List Int) (us : List Int) : Option (Nat × Nat × List Int × List Int × List Int) :=
 if ((decide (x1 < x)) = true) then
 if (((0 : Int) ≤ x1) ∧ (x1 < ((u : Nat) : Int))) then
 Option.bind (us)[(0 + (Int.toNat x1))]? fun x2 =>
 if (bits < (0 : Int)) then
 none
 else
 if (((0 : Int) ≤ (IntKind.wrap .i64 (x1 + (1 : Int)))) ∧ ((IntKind.wrap .i64 (x1 + (1 : Int))) < ((u : Nat) : Int))) then
 Option.bind (us)[(0 + (Int.toNat (IntKind.wrap .i64 (x1 + (1 : Int)))))]? fun x3 =>
 if ((IntKind.wrap .u64 ((32 : Int) - bits)) < (0 : Int)) then
 none
 else
 if (((0 : Int) ≤ x1) ∧ (x1 < ((r : Nat) : Int))) then
 Option.bind (rs)[(0 + (Int.toNat x1))]? fun x4 =>
 rec q r bits u x (IntKind.wrap .i64 (x1 + (1 : Int))) qs (List.set rs (0 + (Int.toNat x1)) (IntKind.wrap .u32 (((BitVec.toNat ((BitVec.ofInt 32 (Int.fdiv x2 ((2 : Int) ^ (min (Int.toNat bits) 32)))) ||| (BitVec.ofInt 32 (IntKind.wrap .u32 (IntKind.wrap .u64 ((IntKind.wrap .u64 x3) * ((2 : Int) ^ (min (Int.toNat (IntKind.wrap .u64 ((32 : Int) - bits))) 64)))))))) : Nat) : Int))) us
 else
 none
 else
 none
 else
 none
 else
 (some (q, r, qs, rs, us))
def qdb (k n : Nat) : Nat → Nat → Int → Nat → Int → Int → List Int → List Int → List Int → Option (Nat × Nat × List Int × List Int × List Int) := Nat.rec (fun _ _ _ _ _ _ _ _ _ => none) (fun _ r => qeq k r) n
def qiM (k : Nat) (a : List Int) (b : List Int) : Option (List Int × List Int) :=
 Option.bind (qda k k a b (0 : Int)) fun r5 =>
 Option.bind (qdW k r5.1 r5.2.2) fun r6 =>
 Option.bind (qdW k r5.2.1 r5.2.2) fun r7 =>
 if (((0 : Int) ≤ (0 : Int)) ∧ (((0 : Int) ≤ (((List.length r5.2.1) : Nat) : Int)) ∧ (((0 + (Int.toNat (((List.length r5.2.1) : Nat) : Int))) ≤ (List.length r7.2)) ∧ (((0 : Int) < (((List.length r5.2.1) : Nat) : Int)) ∨ (true = true))))) then
 if (((0 : Int) ≤ (IntKind.wrap .i64 (((r6.1 : Nat) : Int) - (((List.length r5.2.1) : Nat) : Int)))) ∧ (((IntKind.wrap .i64 (((r6.1 : Nat) : Int) - (((List.length r5.2.1) : Nat) : Int))) ≤ (IntKind.wrap .i64 (((r6.1 : Nat) : Int) - (((List.length r5.2.1) : Nat) : Int)))) ∧ (((IntKind.wrap .i64 (((r6.1 : Nat) : Int) - (((List.length r5.2.1) : Nat) : Int))) * (4 : Int)) ≤ (140737488355328 : Int)))) then
 Option.bind (qdt k k (Int.toNat (IntKind.wrap .i64 (((r6.1 : Nat) : Int) - (((List.length r5.2.1) : Nat) : Int)))) r5.2.2 (((List.length r5.2.1) : Nat) : Int) r6.1 (Int.toNat (((List.length r5.2.1) : Nat) : Int)) (IntKind.wrap .i64 ((IntKind.wrap .i64 (((r6.1 : Nat) : Int) - (((List.length r5.2.1) : Nat) : Int))) - (1 : Int))) (List.replicate (Int.toNat (IntKind.wrap .i64 (((r6.1 : Nat) : Int) - (((List.length r5.2.1) : Nat) : Int)))) (0 : Int)) r6.2 r7.2) fun r8 =>
 if (((0 : Int) ≤ r8.2.2.1) ∧ ((r8.2.2.1 ≤ r8.2.2.1) ∧ ((r8.2.2.1 * (4 : Int)) ≤ (140737488355328 : Int)))) then
 Option.bind (qdb k k r8.1 (Int.toNat r8.2.2.1) r8.2.1 r8.2.2.2.1 r8.2.2.1 (0 : Int) r8.2.2.2.2.1 (List.replicate (Int.toNat r8.2.2.1) (0 : Int)) r8.2.2.2.2.2.1) fun r9 =>
 if ((0 + r9.1) ≤ (List.length r9.2.2.1)) then
 if ((0 + r9.2.1) ≤ (List.length r9.2.2.2.1)) then
 (some ((List.take r9.1 r9.2.2.1), (List.take r9.2.1 r9.2.2.2.1)))
 else
 none
 else
 none
 else
 none
 else
 none
 else
 none
def qfo : Nat → List Int → List Int → Option (List Int × List Int)
 | 0, _, _ => none
 | k + 1, a, b => qiM k a b
def qj3 : FS := { vs := [.a (.lf (.sl (.int .u32))), .a (.lf (.sl (.int .u32)))], bs := [] }
def qqi : List FS := [{ vs := [.a (.lf (.sl (.int .u32))), .a (.lf (.sl (.int .u32)))], bs := [] }]
def qxb (k : Nat) : Inst := ⟨137, qj3, qqi, fun x => qfo k x.1 x.2⟩
theorem qna (k : Nat) : qk (call cf k) [qlQ k, qlR k] := qA (qET k) (qA (qEW k) qT)
def qiN : List SS := [{ fr := [(0, .a (.lf (.sl (.int .u32)))), (1, .a (.lf (.sl (.int .u32)))), (6, .a (.lf (.int .u64)))], mem := [], nx := 0 }]
def qnb : List OS := [⟨some 0, { fr := [(0, .a (.lf (.sl (.int .u32)))), (1, .a (.lf (.sl (.int .u32)))), (6, .a (.lf (.int .u64)))], mem := [], nx := 0 }⟩]
def qdT (k : Nat) : LInst := ⟨0, qiN, qnb, fun x => qda k k x.1 x.2.1 x.2.2⟩
theorem qAV (k : Nat) : qg (LOk (R := DS OS.D qnb) (fun b _ σ K => LOt Ty (kps 137) 0 b σ K []) cf (call cf k) (kps 137) Tryz.f137.ntmps k 0) 0 (lb Tryz.f137 0) :=
 qA (qA qT (qA qT qT)) qT
theorem qAW (k n : Nat) (x : DS SS.D qiN) : qda k (n + 1) x.1 x.2.1 x.2.2 = qD SS.enc (fun σ => qF cf (fun f a b K => COt f a b K [qlQ k, qlR k]) (fun b _ σ K => LOt Ty (kps 137) 0 b σ K []) Tryz.f137.ntmps 0 (lb Tryz.f137 0) σ (qH Ty (kps 137 0) 0 qiN qnb fun x => qda k n x.1 x.2.1 x.2.2)) qiN x := by kernel_rfl
theorem qAX (k : Nat) : qY cf (call cf k) (kps 137) Tryz.f137.ntmps k 0 0 (lb Tryz.f137 0) (qdT k) :=
 qr (c := cf) (callF := call cf k) (kp := kps 137) (nt := Tryz.f137.ntmps) (k := k) (p := 0) (b := 0) (x0 := lb Tryz.f137 0) (hs := qiN) (os := qnb) (qd (qna k)) (qAV k) (fun n x => qda k n x.1 x.2.1 x.2.2) (fun _ => rfl) (qAW k)
def qiO : List SS := [{ fr := [(4, .a (.smz 0)), (6, .a (.lf (.int .u64))), (7, .a (.lf (.int .i64))), (8, .a (.smz 1)), (9, .a (.smz 2)), (10, .a (.lf (.int .i64))), (12, .a (.lf (.int .u64))), (13, .a (.lf (.int .u64)))], mem := [(0, some (.arr (.int .u32) 1 68 false)), (1, some (.arr (.int .u32) 1 68 false)), (2, some (.arr (.int .u32) 1 68 false))], nx := 3 }]
def qnc : List OS := [⟨some 4, { fr := [(4, .a (.smz 0)), (6, .a (.lf (.int .u64))), (7, .a (.lf (.int .i64))), (8, .a (.smz 1)), (9, .a (.smz 2)), (10, .a (.lf (.int .i64))), (12, .a (.lf (.int .u64)))], mem := [(0, some (.arr (.int .u32) 1 68 false)), (1, some (.arr (.int .u32) 1 68 false)), (2, some (.arr (.int .u32) 1 68 false))], nx := 3 }⟩]
def qer (k : Nat) : LInst := ⟨4, qiO, qnc, fun x => qbG k k x.1 x.2.1 x.2.2.1 x.2.2.2.1 x.2.2.2.2.1 x.2.2.2.2.2.1 x.2.2.2.2.2.2.1 x.2.2.2.2.2.2.2.1 x.2.2.2.2.2.2.2.2.1 x.2.2.2.2.2.2.2.2.2.1 x.2.2.2.2.2.2.2.2.2.2⟩
theorem qAY (k : Nat) : qg (LOk (R := DS OS.D qnc) (fun b _ σ K => LOt Ty (kps 137) 0 b σ K [qdT k]) cf (call cf k) (kps 137) Tryz.f137.ntmps k 0) 4 (lb Tryz.f137 2) :=
 qA (qA qT (qA qT qT)) (qA qT (qA qT (qA qT (qA qT qT))))
theorem qAZ (k n : Nat) (x : DS SS.D qiO) : qbG k (n + 1) x.1 x.2.1 x.2.2.1 x.2.2.2.1 x.2.2.2.2.1 x.2.2.2.2.2.1 x.2.2.2.2.2.2.1 x.2.2.2.2.2.2.2.1 x.2.2.2.2.2.2.2.2.1 x.2.2.2.2.2.2.2.2.2.1 x.2.2.2.2.2.2.2.2.2.2 = qD SS.enc (fun σ => qF cf (fun f a b K => COt f a b K [qlQ k, qlR k]) (fun b _ σ K => LOt Ty (kps 137) 0 b σ K [qdT k]) Tryz.f137.ntmps 4 (lb Tryz.f137 2) σ (qH Ty (kps 137 4) 0 qiO qnc fun x => qbG k n x.1 x.2.1 x.2.2.1 x.2.2.2.1 x.2.2.2.2.1 x.2.2.2.2.2.1 x.2.2.2.2.2.2.1 x.2.2.2.2.2.2.2.1 x.2.2.2.2.2.2.2.2.1 x.2.2.2.2.2.2.2.2.2.1 x.2.2.2.2.2.2.2.2.2.2)) qiO x := by kernel_rfl
theorem qA0 (k : Nat) : qY cf (call cf k) (kps 137) Tryz.f137.ntmps k 0 4 (lb Tryz.f137 2) (qer k) :=
 qr (c := cf) (callF := call cf k) (kp := kps 137) (nt := Tryz.f137.ntmps) (k := k) (p := 0) (b := 4) (x0 := lb Tryz.f137 2) (hs := qiO) (os := qnc) (qd (qna k)) (qAY k) (fun n x => qbG k n x.1 x.2.1 x.2.2.1 x.2.2.2.1 x.2.2.2.2.1 x.2.2.2.2.2.1 x.2.2.2.2.2.2.1 x.2.2.2.2.2.2.2.1 x.2.2.2.2.2.2.2.2.1 x.2.2.2.2.2.2.2.2.2.1 x.2.2.2.2.2.2.2.2.2.2) (fun _ => rfl) (qAZ k)
def qiP : List SS := [{ fr := [(4, .a (.smz 0)), (6, .a (.lf (.int .u64))), (7, .a (.lf (.int .i64))), (8, .a (.smz 1)), (9, .a (.smz 2)), (10, .a (.lf (.int .i64)))], mem := [(0, some (.arr (.int .u32) 1 68 false)), (1, some (.arr (.int .u32) 1 68 false)), (2, some (.arr (.int .u32) 1 68 false))], nx := 3 }]
def qnd : List OS := [⟨some 2, { fr := [(4, .a (.smz 0)), (6, .a (.lf (.int .u64))), (7, .a (.lf (.int .i64))), (8, .a (.smz 1))], mem := [(0, some (.arr (.int .u32) 1 68 false)), (1, some (.arr (.int .u32) 1 68 false)), (2, some (.arr (.int .u32) 1 68 false))], nx := 3 }⟩]
def qf1 (k : Nat) : LInst := ⟨2, qiP, qnd, fun x => qdt k k x.1 x.2.1 x.2.2.1 x.2.2.2.1 x.2.2.2.2.1 x.2.2.2.2.2.1 x.2.2.2.2.2.2.1 x.2.2.2.2.2.2.2.1 x.2.2.2.2.2.2.2.2⟩
theorem qA1 (k : Nat) : qg (LOk (R := DS OS.D qnd) (fun b _ σ K => LOt Ty (kps 137) 0 b σ K [qdT k, qer k]) cf (call cf k) (kps 137) Tryz.f137.ntmps k 0) 2 (lb Tryz.f137 1) :=
 qA (qA qT (qA qT qT)) (qA (qA qT (qA qT (qA (qw (c := cf) (callF := call cf k) (kp := kps 137) (nt := Tryz.f137.ntmps) (k := k) (p := 0) (b := 4) (x0 := lb Tryz.f137 2) (l := [qdT k, qer k]) (qA (fun h => absurd (show (0 : Nat) = 4 from h) (by decide)) (qA (fun _ => qA0 k) qT))) qT))) qT)
theorem qA2 (k n : Nat) (x : DS SS.D qiP) : qdt k (n + 1) x.1 x.2.1 x.2.2.1 x.2.2.2.1 x.2.2.2.2.1 x.2.2.2.2.2.1 x.2.2.2.2.2.2.1 x.2.2.2.2.2.2.2.1 x.2.2.2.2.2.2.2.2 = qD SS.enc (fun σ => qF cf (fun f a b K => COt f a b K [qlQ k, qlR k]) (fun b _ σ K => LOt Ty (kps 137) 0 b σ K [qdT k, qer k]) Tryz.f137.ntmps 2 (lb Tryz.f137 1) σ (qH Ty (kps 137 2) 0 qiP qnd fun x => qdt k n x.1 x.2.1 x.2.2.1 x.2.2.2.1 x.2.2.2.2.1 x.2.2.2.2.2.1 x.2.2.2.2.2.2.1 x.2.2.2.2.2.2.2.1 x.2.2.2.2.2.2.2.2)) qiP x := by kernel_rfl
theorem qA3 (k : Nat) : qY cf (call cf k) (kps 137) Tryz.f137.ntmps k 0 2 (lb Tryz.f137 1) (qf1 k) :=
 qr (c := cf) (callF := call cf k) (kp := kps 137) (nt := Tryz.f137.ntmps) (k := k) (p := 0) (b := 2) (x0 := lb Tryz.f137 1) (hs := qiP) (os := qnd) (qd (qna k)) (qA1 k) (fun n x => qdt k n x.1 x.2.1 x.2.2.1 x.2.2.2.1 x.2.2.2.2.1 x.2.2.2.2.2.1 x.2.2.2.2.2.2.1 x.2.2.2.2.2.2.2.1 x.2.2.2.2.2.2.2.2) (fun _ => rfl) (qA2 k)
def qiQ : List SS := [{ fr := [(4, .a (.smz 0)), (5, .a (.smz 1)), (6, .a (.lf (.int .u64))), (8, .a (.smz 2)), (139, .a (.lf (.int .i64))), (140, .a (.lf (.int .i64)))], mem := [(0, some (.arr (.int .u32) 1 68 false)), (1, some (.arr (.int .u32) 1 68 false)), (2, some (.arr (.int .u32) 1 68 false))], nx := 3 }]
def qne : List OS := [⟨some 6, { fr := [(4, .a (.smz 0)), (5, .a (.smz 1))], mem := [(0, some (.arr (.int .u32) 1 68 false)), (1, some (.arr (.int .u32) 1 68 false)), (2, some (.arr (.int .u32) 1 68 false))], nx := 3 }⟩]
def qhg (k : Nat) : LInst := ⟨6, qiQ, qne, fun x => qdb k k x.1 x.2.1 x.2.2.1 x.2.2.2.1 x.2.2.2.2.1 x.2.2.2.2.2.1 x.2.2.2.2.2.2.1 x.2.2.2.2.2.2.2.1 x.2.2.2.2.2.2.2.2⟩
theorem qA4 (k : Nat) : qg (LOk (R := DS OS.D qne) (fun b _ σ K => LOt Ty (kps 137) 0 b σ K [qdT k, qer k, qf1 k]) cf (call cf k) (kps 137) Tryz.f137.ntmps k 0) 6 (lb Tryz.f137 3) :=
 qA qT (qA (qA qT qT) (qA (qA qT qT) qT))
theorem qA5 (k n : Nat) (x : DS SS.D qiQ) : qdb k (n + 1) x.1 x.2.1 x.2.2.1 x.2.2.2.1 x.2.2.2.2.1 x.2.2.2.2.2.1 x.2.2.2.2.2.2.1 x.2.2.2.2.2.2.2.1 x.2.2.2.2.2.2.2.2 = qD SS.enc (fun σ => qF cf (fun f a b K => COt f a b K [qlQ k, qlR k]) (fun b _ σ K => LOt Ty (kps 137) 0 b σ K [qdT k, qer k, qf1 k]) Tryz.f137.ntmps 6 (lb Tryz.f137 3) σ (qH Ty (kps 137 6) 0 qiQ qne fun x => qdb k n x.1 x.2.1 x.2.2.1 x.2.2.2.1 x.2.2.2.2.1 x.2.2.2.2.2.1 x.2.2.2.2.2.2.1 x.2.2.2.2.2.2.2.1 x.2.2.2.2.2.2.2.2)) qiQ x := by kernel_rfl
theorem qA6 (k : Nat) : qY cf (call cf k) (kps 137) Tryz.f137.ntmps k 0 6 (lb Tryz.f137 3) (qhg k) :=
 qr (c := cf) (callF := call cf k) (kp := kps 137) (nt := Tryz.f137.ntmps) (k := k) (p := 0) (b := 6) (x0 := lb Tryz.f137 3) (hs := qiQ) (os := qne) (qd (qna k)) (qA4 k) (fun n x => qdb k n x.1 x.2.1 x.2.2.1 x.2.2.2.1 x.2.2.2.2.1 x.2.2.2.2.2.1 x.2.2.2.2.2.2.1 x.2.2.2.2.2.2.2.1 x.2.2.2.2.2.2.2.2) (fun _ => rfl) (qA5 k)
theorem qEX (k : Nat) : qg (LOk (R := DS FS.D qqi) (fun b _ σ K => LOt Ty (kps 137) 0 b σ K [qdT k, qer k, qf1 k, qhg k]) cf (call cf k) (cf.keep 137) Tryz.f137.ntmps k qj3.bs.length) 0 (bd Tryz.f137) :=
 qA qT (qA qT (qA (qw (c := cf) (callF := call cf k) (kp := kps 137) (nt := Tryz.f137.ntmps) (k := k) (p := 0) (b := 0) (x0 := lb Tryz.f137 0) (l := [qdT k, qer k, qf1 k, qhg k]) (qA (fun _ => qAX k) (qA (fun h => absurd (show (4 : Nat) = 0 from h) (by decide)) (qA (fun h => absurd (show (2 : Nat) = 0 from h) (by decide)) (qA (fun h => absurd (show (6 : Nat) = 0 from h) (by decide)) qT))))) (qA qT (qA qT (qA qT (qA (qA qT (qw (c := cf) (callF := call cf k) (kp := kps 137) (nt := Tryz.f137.ntmps) (k := k) (p := 0) (b := 2) (x0 := lb Tryz.f137 1) (l := [qdT k, qer k, qf1 k, qhg k]) (qA (fun h => absurd (show (0 : Nat) = 2 from h) (by decide)) (qA (fun h => absurd (show (4 : Nat) = 2 from h) (by decide)) (qA (fun _ => qA3 k) (qA (fun h => absurd (show (6 : Nat) = 2 from h) (by decide)) qT)))))) (qA qT (qA (qA qT (qw (c := cf) (callF := call cf k) (kp := kps 137) (nt := Tryz.f137.ntmps) (k := k) (p := 0) (b := 6) (x0 := lb Tryz.f137 3) (l := [qdT k, qer k, qf1 k, qhg k]) (qA (fun h => absurd (show (0 : Nat) = 6 from h) (by decide)) (qA (fun h => absurd (show (4 : Nat) = 6 from h) (by decide)) (qA (fun h => absurd (show (2 : Nat) = 6 from h) (by decide)) (qA (fun _ => qA6 k) qT)))))) (qA qT qT)))))))))
theorem qEY (k : Nat) (x : qj3.D) : qfo (k + 1) x.1 x.2 = qi cf (fun f a b K => COt f a b K [qlQ k, qlR k]) (fun b _ σ K => LOt Ty (kps 137) 0 b σ K [qdT k, qer k, qf1 k, qhg k]) 137 Tryz.f137.ntmps Tryz.f137.results.toList (bd Tryz.f137) (qj3.enc x).1 (qj3.enc x).2 (qj FS.dec qqi) := by kernel_rfl
theorem qEZ : ∀ k, qf (call cf k) (qxb k)
 | 0 => fun x y e => absurd (show (none : Option _) = some y from e) (by simp)
 | k + 1 => qe (c := cf) (k := k) (f := 137) (fn := Tryz.f137) (body := bd Tryz.f137) (sh := qj3) (os := qqi) rfl Tryz.func137 rfl ⟨rfl, Nat.le_of_ble_eq_true rfl⟩ (qd (qna k)) (qEX k) (fun x => qfo (k + 1) x.1 x.2) (qEY k)

def qdM (k : Nat) (a : List Int) (b : List Int) : Option (List Int × List Int) :=
 Option.bind (qen k a b) fun r4 =>
 if ((decide (r4 < (0 : Int))) = true) then
 (some ([], a))
 else
 if (((((List.length b) : Nat) : Int) == (1 : Int)) = true) then
 Option.bind (b)[0]? fun x2 =>
 Option.bind (qeB k a x2) fun r5 =>
 (some (r5.1, (List.take 1 (r5.2 :: []))))
 else
 Option.bind (qfo k a b) fun r5 =>
 (some (r5.1, r5.2))
def qdc : Nat → List Int → List Int → Option (List Int × List Int)
 | 0, _, _ => none
 | k + 1, a, b => qdM k a b
def qj4 : FS := { vs := [.a (.lf (.sl (.int .u32))), .a (.lf (.sl (.int .u32)))], bs := [] }
def qqj : List FS := [{ vs := [.a (.lf (.sl (.int .u32))), .a (.lf (.sl (.int .u32)))], bs := [] }]
def qo8 (k : Nat) : Inst := ⟨130, qj4, qqj, fun x => qdc k x.1 x.2⟩
theorem qE0 (k : Nat) : qk (call cf k) [qlP k, qiG k, qxb k] := qA (quw k) (qA (qyp k) (qA (qEZ k) qT))
theorem qE1 (k : Nat) : qg (LOk (R := DS FS.D qqj) (fun b _ σ K => LOt Ty (kps 130) 0 b σ K []) cf (call cf k) (cf.keep 130) Tryz.f130.ntmps k qj4.bs.length) 0 (bd Tryz.f130) :=
 qA qT (qA (qA qT (qA (qA qT qT) (qA qT (qA (qA qT (qA qT qT)) qT)))) (qA qT qT))
theorem qE2 (k : Nat) (x : qj4.D) : qdc (k + 1) x.1 x.2 = qi cf (fun f a b K => COt f a b K [qlP k, qiG k, qxb k]) (fun b _ σ K => LOt Ty (kps 130) 0 b σ K []) 130 Tryz.f130.ntmps Tryz.f130.results.toList (bd Tryz.f130) (qj4.enc x).1 (qj4.enc x).2 (qj FS.dec qqj) := by kernel_rfl
theorem qyr : ∀ k, qf (call cf k) (qo8 k)
 | 0 => fun x y e => absurd (show (none : Option _) = some y from e) (by simp)
 | k + 1 => qe (c := cf) (k := k) (f := 130) (fn := Tryz.f130) (body := bd Tryz.f130) (sh := qj4) (os := qqj) rfl Tryz.func130 rfl ⟨rfl, Nat.le_of_ble_eq_true rfl⟩ (qd (qE0 k)) (qE1 k) (fun x => qdc (k + 1) x.1 x.2) (qE2 k)

def qe6 (k : Nat) (neg : Bool) (w : List Int) (z : Bool) : Option (Bool × List Int) :=
 Option.bind (qcF k w) fun r5 =>
 if (neg = true) then
 (some ((decide ((((List.length r5) : Nat) : Int) > (0 : Int))), r5))
 else
 (some (false, r5))
def qaj : Nat → Bool → List Int → Bool → Option (Bool × List Int)
 | 0, _, _, _ => none
 | k + 1, neg, w, z => qe6 k neg w z
def qj5 : FS := { vs := [.a (.ptr 0 0 0), .a (.lf .bool), .a (.lf (.sl (.int .u32)))], bs := [.raw [[.lf .bool, .snil 1 68]] 2 72 true false] }
def qqk : List FS := [{ vs := [.a (.ptr 0 0 0)], bs := [.raw [[.lf .bool, .lf (.sl (.int .u32))]] 2 72 true false] }]
def qdD (k : Nat) : Inst := ⟨110, qj5, qqk, fun x => qaj k x.1 x.2.1 x.2.2⟩
theorem qE3 (k : Nat) : qk (call cf k) [qem k] := qA (qjU k) qT
theorem qE4 (k : Nat) : qg (LOk (R := DS FS.D qqk) (fun b _ σ K => LOt Ty (kps 110) 1 b σ K []) cf (call cf k) (cf.keep 110) Tryz.f110.ntmps k qj5.bs.length) 0 (bd Tryz.f110) :=
 qA qT (qA qT (qA qT (qA qT qT)))
theorem qE5 (k : Nat) (x : qj5.D) : qaj (k + 1) x.1 x.2.1 x.2.2 = qi cf (fun f a b K => COt f a b K [qem k]) (fun b _ σ K => LOt Ty (kps 110) 1 b σ K []) 110 Tryz.f110.ntmps Tryz.f110.results.toList (bd Tryz.f110) (qj5.enc x).1 (qj5.enc x).2 (qj FS.dec qqk) := by kernel_rfl
theorem qj6 : ∀ k, qf (call cf k) (qdD k)
 | 0 => fun x y e => absurd (show (none : Option _) = some y from e) (by simp)
 | k + 1 => qe (c := cf) (k := k) (f := 110) (fn := Tryz.f110) (body := bd Tryz.f110) (sh := qj5) (os := qqk) rfl Tryz.func110 rfl ⟨rfl, Nat.le_of_ble_eq_true rfl⟩ (qd (qE3 k)) (qE4 k) (fun x => qaj (k + 1) x.1 x.2.1 x.2.2) (qE5 k)

def qdI (k : Nat) (rec : List Int → List Int → Bool → List Int → Bool → List Int → Option (List Int × Bool × List Int × Bool × List Int)) (a : List Int) (b : List Int) (m0 : Bool) (m1 : List Int) (m01 : Bool) (m11 : List Int) : Option (List Int × Bool × List Int × Bool × List Int) :=
 if ((decide ((((List.length b) : Nat) : Int) > (0 : Int))) = true) then
 Option.bind (qdc k a b) fun r4 =>
 if (((0 + (List.length r4.2)) * 4) ≤ 140737488355328) then
 if ((0 + (0 + (List.length r4.2))) ≤ (List.length ((List.take 0 []) ++ r4.2))) then
 Option.bind (qcF k (List.take (0 + (List.length r4.2)) ((List.take 0 []) ++ r4.2))) fun r5 =>
 rec b r5 m0 m1 m01 m11
 else
 none
 else
 none
 else
 (some (a, m0, m1, m01, m11))
def qci (k n : Nat) : List Int → List Int → Bool → List Int → Bool → List Int → Option (List Int × Bool × List Int × Bool × List Int) := Nat.rec (fun _ _ _ _ _ _ => none) (fun _ r => qdI k r) n
def qgs (k : Nat) (x0 : Bool) (x1 : List Int) (y0 : Bool) (y1 : List Int) : Option (Bool × List Int × Bool × List Int × Bool × List Int) :=
 Option.bind (qci k k x1 y1 x0 x1 y0 y1) fun r4 =>
 Option.bind (qaj k false r4.1 false) fun r5 =>
 (some (r4.2.1, r4.2.2.1, r4.2.2.2.1, r4.2.2.2.2, r5.1, r5.2))
def qdd : Nat → Bool → List Int → Bool → List Int → Option (Bool × List Int × Bool × List Int × Bool × List Int)
 | 0, _, _, _, _ => none
 | k + 1, x0, x1, y0, y1 => qgs k x0 x1 y0 y1
def qo9 : FS := { vs := [.a (.ptr 0 0 0), .a (.ptr 1 0 0)], bs := [.raw [[.lf .bool, .lf (.sl (.int .u32))]] 2 72 true false, .raw [[.lf .bool, .lf (.sl (.int .u32))]] 2 72 true false] }
def quy : List FS := [{ vs := [.a (.ptr 2 0 0)], bs := [.raw [[.lf .bool, .lf (.sl (.int .u32))]] 2 72 true false, .raw [[.lf .bool, .lf (.sl (.int .u32))]] 2 72 true false, .raw [[.lf .bool, .lf (.sl (.int .u32))]] 2 72 true false] }]
def Iq1 (k : Nat) : Inst := ⟨111, qo9, quy, fun x => qdd k x.1 x.2.1 x.2.2.1 x.2.2.2⟩
theorem qA7 (k : Nat) : qk (call cf k) [qo8 k, qem k, qdD k] := qA (qyr k) (qA (qjU k) (qA (qj6 k) qT))
def qiR : List SS := [{ fr := [(5, .a (.lf (.sl (.int .u32)))), (6, .a (.lf (.sl (.int .u32))))], mem := [(0, some (.raw [[.lf .bool, .lf (.sl (.int .u32))]] 2 72 true false)), (1, some (.raw [[.lf .bool, .lf (.sl (.int .u32))]] 2 72 true false))], nx := 2 }]
def qnf : List OS := [⟨some 0, { fr := [(5, .a (.lf (.sl (.int .u32))))], mem := [(0, some (.raw [[.lf .bool, .lf (.sl (.int .u32))]] 2 72 true false)), (1, some (.raw [[.lf .bool, .lf (.sl (.int .u32))]] 2 72 true false))], nx := 2 }⟩]
def qng (k : Nat) : LInst := ⟨0, qiR, qnf, fun x => qci k k x.1 x.2.1 x.2.2.1 x.2.2.2.1 x.2.2.2.2.1 x.2.2.2.2.2⟩
theorem qA8 (k : Nat) : qg (LOk (R := DS OS.D qnf) (fun b _ σ K => LOt Ty (kps 111) 2 b σ K []) cf (call cf k) (kps 111) Tryz.f111.ntmps k 2) 0 (lb Tryz.f111 0) :=
 qA (qA qT (qA qT qT)) (qA qT qT)
theorem qA9 (k n : Nat) (x : DS SS.D qiR) : qci k (n + 1) x.1 x.2.1 x.2.2.1 x.2.2.2.1 x.2.2.2.2.1 x.2.2.2.2.2 = qD SS.enc (fun σ => qF cf (fun f a b K => COt f a b K [qo8 k, qem k, qdD k]) (fun b _ σ K => LOt Ty (kps 111) 2 b σ K []) Tryz.f111.ntmps 0 (lb Tryz.f111 0) σ (qH Ty (kps 111 0) 2 qiR qnf fun x => qci k n x.1 x.2.1 x.2.2.1 x.2.2.2.1 x.2.2.2.2.1 x.2.2.2.2.2)) qiR x := by kernel_rfl
theorem qBa (k : Nat) : qY cf (call cf k) (kps 111) Tryz.f111.ntmps k 2 0 (lb Tryz.f111 0) (qng k) :=
 qr (c := cf) (callF := call cf k) (kp := kps 111) (nt := Tryz.f111.ntmps) (k := k) (p := 2) (b := 0) (x0 := lb Tryz.f111 0) (hs := qiR) (os := qnf) (qd (qA7 k)) (qA8 k) (fun n x => qci k n x.1 x.2.1 x.2.2.1 x.2.2.2.1 x.2.2.2.2.1 x.2.2.2.2.2) (fun _ => rfl) (qA9 k)
theorem qJm (k : Nat) : qg (LOk (R := DS FS.D quy) (fun b _ σ K => LOt Ty (kps 111) 2 b σ K [qng k]) cf (call cf k) (cf.keep 111) Tryz.f111.ntmps k qo9.bs.length) 0 (bd Tryz.f111) :=
 qA qT (qA qT (qA (qw (c := cf) (callF := call cf k) (kp := kps 111) (nt := Tryz.f111.ntmps) (k := k) (p := 2) (b := 0) (x0 := lb Tryz.f111 0) (l := [qng k]) (qA (fun _ => qBa k) qT)) (qA qT qT)))
theorem qJn (k : Nat) (x : qo9.D) : qdd (k + 1) x.1 x.2.1 x.2.2.1 x.2.2.2 = qi cf (fun f a b K => COt f a b K [qo8 k, qem k, qdD k]) (fun b _ σ K => LOt Ty (kps 111) 2 b σ K [qng k]) 111 Tryz.f111.ntmps Tryz.f111.results.toList (bd Tryz.f111) (qo9.enc x).1 (qo9.enc x).2 (qj FS.dec quy) := by kernel_rfl
theorem qxc : ∀ k, qf (call cf k) (Iq1 k)
 | 0 => fun x y e => absurd (show (none : Option _) = some y from e) (by simp)
 | k + 1 => qe (c := cf) (k := k) (f := 111) (fn := Tryz.f111) (body := bd Tryz.f111) (sh := qo9) (os := quy) rfl Tryz.func111 rfl ⟨rfl, Nat.le_of_ble_eq_true rfl⟩ (qd (qA7 k)) (qJm k) (fun x => qdd (k + 1) x.1 x.2.1 x.2.2.1 x.2.2.2) (qJn k)

def qd6 (k : Nat) (z : Bool) (x0 : Bool) (x1 : List Int) (y0 : Bool) (y1 : List Int) (r : Bool) : Option (Bool × List Int × Bool × List Int × Bool × List Int × Bool × List Int) :=
 Option.bind (qdc k x1 y1) fun r5 =>
 Option.bind (qaj k x0 r5.2 r) fun r6 =>
 Option.bind (qaj k (!(x0 == y0)) r5.1 z) fun r7 =>
 (some (r7.1, r7.2, x0, x1, y0, y1, r6.1, r6.2))
def qbU : Nat → Bool → Bool → List Int → Bool → List Int → Bool → Option (Bool × List Int × Bool × List Int × Bool × List Int × Bool × List Int)
 | 0, _, _, _, _, _, _ => none
 | k + 1, z, x0, x1, y0, y1, r => qd6 k z x0 x1 y0 y1 r
def qj7 : FS := { vs := [.a (.ptr 0 0 0), .a (.ptr 1 0 0), .a (.ptr 2 0 0), .a (.ptr 3 0 0)], bs := [.raw [[.lf .bool, .snil 1 68]] 2 72 true false, .raw [[.lf .bool, .lf (.sl (.int .u32))]] 2 72 true false, .raw [[.lf .bool, .lf (.sl (.int .u32))]] 2 72 true false, .raw [[.lf .bool, .snil 1 68]] 2 72 true false] }
def qql : List FS := [{ vs := [.a (.ptr 0 0 0), .a (.ptr 3 0 0)], bs := [.raw [[.lf .bool, .lf (.sl (.int .u32))]] 2 72 true false, .raw [[.lf .bool, .lf (.sl (.int .u32))]] 2 72 true false, .raw [[.lf .bool, .lf (.sl (.int .u32))]] 2 72 true false, .raw [[.lf .bool, .lf (.sl (.int .u32))]] 2 72 true false] }]
def qxd (k : Nat) : Inst := ⟨126, qj7, qql, fun x => qbU k x.1 x.2.1 x.2.2.1 x.2.2.2.1 x.2.2.2.2.1 x.2.2.2.2.2⟩
theorem qE6 (k : Nat) : qk (call cf k) [qo8 k, qdD k] := qA (qyr k) (qA (qj6 k) qT)
theorem qE7 (k : Nat) : qg (LOk (R := DS FS.D qql) (fun b _ σ K => LOt Ty (kps 126) 4 b σ K []) cf (call cf k) (cf.keep 126) Tryz.f126.ntmps k qj7.bs.length) 0 (bd Tryz.f126) :=
 qA qT (qA qT (qA qT (qA qT (qA qT qT))))
theorem qE8 (k : Nat) (x : qj7.D) : qbU (k + 1) x.1 x.2.1 x.2.2.1 x.2.2.2.1 x.2.2.2.2.1 x.2.2.2.2.2 = qi cf (fun f a b K => COt f a b K [qo8 k, qdD k]) (fun b _ σ K => LOt Ty (kps 126) 4 b σ K []) 126 Tryz.f126.ntmps Tryz.f126.results.toList (bd Tryz.f126) (qj7.enc x).1 (qj7.enc x).2 (qj FS.dec qql) := by kernel_rfl
theorem qE9 : ∀ k, qf (call cf k) (qxd k)
 | 0 => fun x y e => absurd (show (none : Option _) = some y from e) (by simp)
 | k + 1 => qe (c := cf) (k := k) (f := 126) (fn := Tryz.f126) (body := bd Tryz.f126) (sh := qj7) (os := qql) rfl Tryz.func126 rfl ⟨rfl, Nat.le_of_ble_eq_true rfl⟩ (qd (qE6 k)) (qE7 k) (fun x => qbU (k + 1) x.1 x.2.1 x.2.2.1 x.2.2.2.1 x.2.2.2.2.1 x.2.2.2.2.2) (qE8 k)

def qlS (k : Nat) (z : Bool) (x0 : Bool) (x1 : List Int) (y0 : Bool) (y1 : List Int) : Option (Bool × List Int × Bool × List Int × Bool × List Int) :=
 Option.bind (qbU k z x0 x1 y0 y1 false) fun r5 =>
 (some (r5.1, r5.2.1, r5.2.2.1, r5.2.2.2.1, r5.2.2.2.2.1, r5.2.2.2.2.2.1))
def qZ : Nat → Bool → Bool → List Int → Bool → List Int → Option (Bool × List Int × Bool × List Int × Bool × List Int)
 | 0, _, _, _, _, _ => none
 | k + 1, z, x0, x1, y0, y1 => qlS k z x0 x1 y0 y1
def qj8 : FS := { vs := [.a (.ptr 0 0 0), .a (.ptr 1 0 0), .a (.ptr 2 0 0)], bs := [.raw [[.lf .bool, .snil 1 68]] 2 72 true false, .raw [[.lf .bool, .lf (.sl (.int .u32))]] 2 72 true false, .raw [[.lf .bool, .lf (.sl (.int .u32))]] 2 72 true false] }
def qqm : List FS := [{ vs := [.a (.ptr 0 0 0)], bs := [.raw [[.lf .bool, .lf (.sl (.int .u32))]] 2 72 true false, .raw [[.lf .bool, .lf (.sl (.int .u32))]] 2 72 true false, .raw [[.lf .bool, .lf (.sl (.int .u32))]] 2 72 true false] }]
def qsh (k : Nat) : Inst := ⟨112, qj8, qqm, fun x => qZ k x.1 x.2.1 x.2.2.1 x.2.2.2.1 x.2.2.2.2⟩
theorem qFa (k : Nat) : qk (call cf k) [qxd k] := qA (qE9 k) qT
theorem qFb (k : Nat) : qg (LOk (R := DS FS.D qqm) (fun b _ σ K => LOt Ty (kps 112) 3 b σ K []) cf (call cf k) (cf.keep 112) Tryz.f112.ntmps k qj8.bs.length) 0 (bd Tryz.f112) :=
 qA qT (qA qT (qA qT qT))
theorem qFc (k : Nat) (x : qj8.D) : qZ (k + 1) x.1 x.2.1 x.2.2.1 x.2.2.2.1 x.2.2.2.2 = qi cf (fun f a b K => COt f a b K [qxd k]) (fun b _ σ K => LOt Ty (kps 112) 3 b σ K []) 112 Tryz.f112.ntmps Tryz.f112.results.toList (bd Tryz.f112) (qj8.enc x).1 (qj8.enc x).2 (qj FS.dec qqm) := by kernel_rfl
theorem qys : ∀ k, qf (call cf k) (qsh k)
 | 0 => fun x y e => absurd (show (none : Option _) = some y from e) (by simp)
 | k + 1 => qe (c := cf) (k := k) (f := 112) (fn := Tryz.f112) (body := bd Tryz.f112) (sh := qj8) (os := qqm) rfl Tryz.func112 rfl ⟨rfl, Nat.le_of_ble_eq_true rfl⟩ (qd (qFa k)) (qFb k) (fun x => qZ (k + 1) x.1 x.2.1 x.2.2.1 x.2.2.2.1 x.2.2.2.2) (qFc k)

def qdj (k : Nat) (z0 : Bool) (z1 : Bool) (n0 : Bool) (n1 : List Int) (d0 : Bool) (d1 : List Int) : Option (Bool × List Int × Bool × List Int × Bool × List Int × Bool × List Int) :=
 Option.bind (qdd k n0 n1 d0 d1) fun r4 =>
 if (r4.2.2.1 = true) then
 Option.bind (qZ k false r4.1 r4.2.1 true r4.2.2.2.2.2) fun r5 =>
 Option.bind (qZ k false r4.2.2.1 r4.2.2.2.1 r5.2.2.2.2.1 r5.2.2.2.2.2) fun r6 =>
 (some (r5.1, r5.2.1, r6.1, r6.2.1, r5.2.2.1, r5.2.2.2.1, r6.2.2.1, r6.2.2.2.1))
 else
 Option.bind (qZ k false r4.1 r4.2.1 r4.2.2.2.2.1 r4.2.2.2.2.2) fun r5 =>
 Option.bind (qZ k false r4.2.2.1 r4.2.2.2.1 r5.2.2.2.2.1 r5.2.2.2.2.2) fun r6 =>
 (some (r5.1, r5.2.1, r6.1, r6.2.1, r5.2.2.1, r5.2.2.2.1, r6.2.2.1, r6.2.2.2.1))
def qam : Nat → Bool → Bool → Bool → List Int → Bool → List Int → Option (Bool × List Int × Bool × List Int × Bool × List Int × Bool × List Int)
 | 0, _, _, _, _, _, _ => none
 | k + 1, z0, z1, n0, n1, d0, d1 => qdj k z0 z1 n0 n1 d0 d1
def qj9 : FS := { vs := [.a (.ptr 0 0 0), .a (.ptr 1 0 0), .a (.ptr 2 0 0)], bs := [.raw [[.lf .bool, .snil 1 68, .lf .bool, .snil 1 68]] 4 74 true false, .raw [[.lf .bool, .lf (.sl (.int .u32))]] 2 72 true false, .raw [[.lf .bool, .lf (.sl (.int .u32))]] 2 72 true false] }
def qqn : List FS := [{ vs := [.a (.ptr 0 0 0)], bs := [.raw [[.lf .bool, .lf (.sl (.int .u32)), .lf .bool, .lf (.sl (.int .u32))]] 4 74 true false, .raw [[.lf .bool, .lf (.sl (.int .u32))]] 2 72 true false, .raw [[.lf .bool, .lf (.sl (.int .u32))]] 2 72 true false] }]
def qh5 (k : Nat) : Inst := ⟨77, qj9, qqn, fun x => qam k x.1 x.2.1 x.2.2.1 x.2.2.2.1 x.2.2.2.2.1 x.2.2.2.2.2⟩
theorem qFd (k : Nat) : qk (call cf k) [Iq1 k, qsh k] := qA (qxc k) (qA (qys k) qT)
theorem qFe (k : Nat) : qg (LOk (R := DS FS.D qqn) (fun b _ σ K => LOt Ty (kps 77) 3 b σ K []) cf (call cf k) (cf.keep 77) Tryz.f77.ntmps k qj9.bs.length) 0 (bd Tryz.f77) :=
 qA qT (qA qT (qA (qA qT (qA qT qT)) (qA qT (qA qT (qA qT (qA qT (qA qT qT)))))))
theorem qFf (k : Nat) (x : qj9.D) : qam (k + 1) x.1 x.2.1 x.2.2.1 x.2.2.2.1 x.2.2.2.2.1 x.2.2.2.2.2 = qi cf (fun f a b K => COt f a b K [Iq1 k, qsh k]) (fun b _ σ K => LOt Ty (kps 77) 3 b σ K []) 77 Tryz.f77.ntmps Tryz.f77.results.toList (bd Tryz.f77) (qj9.enc x).1 (qj9.enc x).2 (qj FS.dec qqn) := by kernel_rfl
theorem qqo : ∀ k, qf (call cf k) (qh5 k)
 | 0 => fun x y e => absurd (show (none : Option _) = some y from e) (by simp)
 | k + 1 => qe (c := cf) (k := k) (f := 77) (fn := Tryz.f77) (body := bd Tryz.f77) (sh := qj9) (os := qqn) rfl Tryz.func77 rfl ⟨rfl, Nat.le_of_ble_eq_true rfl⟩ (qd (qFd k)) (qFe k) (fun x => qam (k + 1) x.1 x.2.1 x.2.2.1 x.2.2.2.1 x.2.2.2.2.1 x.2.2.2.2.2) (qFf k)

def qpZ (k : Nat) (n0 : Bool) (n1 : List Int) (d0 : Bool) (d1 : List Int) : Option (Bool × List Int × Bool × List Int × Bool × List Int × Bool × List Int) :=
 Option.bind (qam k false false n0 n1 d0 d1) fun r4 =>
 (some (r4.2.2.2.2.1, r4.2.2.2.2.2.1, r4.2.2.2.2.2.2.1, r4.2.2.2.2.2.2.2, r4.1, r4.2.1, r4.2.2.1, r4.2.2.2.1))
def qbH : Nat → Bool → List Int → Bool → List Int → Option (Bool × List Int × Bool × List Int × Bool × List Int × Bool × List Int)
 | 0, _, _, _, _ => none
 | k + 1, n0, n1, d0, d1 => qpZ k n0 n1 d0 d1
def qpa : FS := { vs := [.a (.ptr 0 0 0), .a (.ptr 1 0 0)], bs := [.raw [[.lf .bool, .lf (.sl (.int .u32))]] 2 72 true false, .raw [[.lf .bool, .lf (.sl (.int .u32))]] 2 72 true false] }
def quz : List FS := [{ vs := [.a (.ptr 2 0 0)], bs := [.raw [[.lf .bool, .lf (.sl (.int .u32))]] 2 72 true false, .raw [[.lf .bool, .lf (.sl (.int .u32))]] 2 72 true false, .raw [[.lf .bool, .lf (.sl (.int .u32)), .lf .bool, .lf (.sl (.int .u32))]] 4 74 true false] }]
def Iq0 (k : Nat) : Inst := ⟨68, qpa, quz, fun x => qbH k x.1 x.2.1 x.2.2.1 x.2.2.2⟩
theorem qJo (k : Nat) : qk (call cf k) [qh5 k] := qA (qqo k) qT
theorem qJp (k : Nat) : qg (LOk (R := DS FS.D quz) (fun b _ σ K => LOt Ty (kps 68) 2 b σ K []) cf (call cf k) (cf.keep 68) Tryz.f68.ntmps k qpa.bs.length) 0 (bd Tryz.f68) :=
 qA qT (qA qT qT)
theorem qJq (k : Nat) (x : qpa.D) : qbH (k + 1) x.1 x.2.1 x.2.2.1 x.2.2.2 = qi cf (fun f a b K => COt f a b K [qh5 k]) (fun b _ σ K => LOt Ty (kps 68) 2 b σ K []) 68 Tryz.f68.ntmps Tryz.f68.results.toList (bd Tryz.f68) (qpa.enc x).1 (qpa.enc x).2 (qj FS.dec quz) := by kernel_rfl
theorem quA : ∀ k, qf (call cf k) (Iq0 k)
 | 0 => fun x y e => absurd (show (none : Option _) = some y from e) (by simp)
 | k + 1 => qe (c := cf) (k := k) (f := 68) (fn := Tryz.f68) (body := bd Tryz.f68) (sh := qpa) (os := quz) rfl Tryz.func68 rfl ⟨rfl, Nat.le_of_ble_eq_true rfl⟩ (qd (qJo k)) (qJp k) (fun x => qbH (k + 1) x.1 x.2.1 x.2.2.1 x.2.2.2) (qJq k)

def qf2 (k : Nat) (n0 : Int) (n1 : Int) : Option (Bool × List Int × Bool × List Int) :=
 Option.bind (qfF k (max n1 (IntKind.wrap .i64 ((0 : Int) - n1)))) fun r2 =>
 if ((decide (n1 < (0 : Int))) = true) then
 Option.bind (qag k n0) fun r3 =>
 Option.bind (qbH k r3.1 r3.2 r2.1 r2.2) fun r4 =>
 (some (r4.2.2.2.2.1, r4.2.2.2.2.2.1, r4.2.2.2.2.2.2.1, r4.2.2.2.2.2.2.2))
 else
 Option.bind (qag k n0) fun r3 =>
 Option.bind (qb0 k r2.1 r2.2 r3.1 r3.2) fun r4 =>
 Option.bind (qag k (1 : Int)) fun r5 =>
 Option.bind (qbH k r4.1 r4.2.1 r5.1 r5.2) fun r6 =>
 (some (r6.2.2.2.2.1, r6.2.2.2.2.2.1, r6.2.2.2.2.2.2.1, r6.2.2.2.2.2.2.2))
def qdJ : Nat → Int → Int → Option (Bool × List Int × Bool × List Int)
 | 0, _, _ => none
 | k + 1, n0, n1 => qf2 k n0 n1
def qka : FS := { vs := [.g [.lf (.int .i64), .lf (.int .i64)]], bs := [] }
def qqp : List FS := [{ vs := [.a (.ptr 0 0 0)], bs := [.raw [[.lf .bool, .lf (.sl (.int .u32)), .lf .bool, .lf (.sl (.int .u32))]] 4 74 true false] }]
def qsi (k : Nat) : Inst := ⟨97, qka, qqp, fun x => qdJ k x.1 x.2⟩
theorem qFg (k : Nat) : qk (call cf k) [qxa k, qfz k, Iq0 k, Iq5 k] := qA (qEM k) (qA (qjW k) (qA (quA k) (qA (qAC k) qT)))
theorem qFh (k : Nat) : qg (LOk (R := DS FS.D qqp) (fun b _ σ K => LOt Ty (kps 97) 0 b σ K []) cf (call cf k) (cf.keep 97) Tryz.f97.ntmps k qka.bs.length) 0 (bd Tryz.f97) :=
 qA qT (qA qT (qA (qA qT (qA (qA qT qT) qT)) (qA qT qT)))
theorem qFi (k : Nat) (x : qka.D) : qdJ (k + 1) x.1 x.2 = qi cf (fun f a b K => COt f a b K [qxa k, qfz k, Iq0 k, Iq5 k]) (fun b _ σ K => LOt Ty (kps 97) 0 b σ K []) 97 Tryz.f97.ntmps Tryz.f97.results.toList (bd Tryz.f97) (qka.enc x).1 (qka.enc x).2 (qj FS.dec qqp) := by kernel_rfl
theorem qyt : ∀ k, qf (call cf k) (qsi k)
 | 0 => fun x y e => absurd (show (none : Option _) = some y from e) (by simp)
 | k + 1 => qe (c := cf) (k := k) (f := 97) (fn := Tryz.f97) (body := bd Tryz.f97) (sh := qka) (os := qqp) rfl Tryz.func97 rfl ⟨rfl, Nat.le_of_ble_eq_true rfl⟩ (qd (qFg k)) (qFh k) (fun x => qdJ (k + 1) x.1 x.2) (qFi k)

def qpb (k : Nat) (neg : Bool) (w : List Int) : Option (Bool × List Int) :=
 if (((0 + (List.length w)) * 4) ≤ 140737488355328) then
 if ((0 + (0 + (List.length w))) ≤ (List.length ((List.take 0 []) ++ w))) then
 Option.bind (qcF k (List.take (0 + (List.length w)) ((List.take 0 []) ++ w))) fun r3 =>
 if (neg = true) then
 (some ((decide ((((List.length r3) : Nat) : Int) > (0 : Int))), r3))
 else
 (some (false, r3))
 else
 none
 else
 none
def qd0 : Nat → Bool → List Int → Option (Bool × List Int)
 | 0, _, _ => none
 | k + 1, neg, w => qpb k neg w
def qkb : FS := { vs := [.a (.lf .bool), .a (.lf (.sl (.int .u32)))], bs := [] }
def qqq : List FS := [{ vs := [.a (.ptr 0 0 0)], bs := [.raw [[.lf .bool, .lf (.sl (.int .u32))]] 2 72 true false] }]
def qh6 (k : Nat) : Inst := ⟨104, qkb, qqq, fun x => qd0 k x.1 x.2⟩
theorem qFj (k : Nat) : qk (call cf k) [qem k] := qA (qjU k) qT
theorem qFk (k : Nat) : qg (LOk (R := DS FS.D qqq) (fun b _ σ K => LOt Ty (kps 104) 0 b σ K []) cf (call cf k) (cf.keep 104) Tryz.f104.ntmps k qkb.bs.length) 0 (bd Tryz.f104) :=
 qA qT (qA qT (qA qT (qA qT qT)))
theorem qFl (k : Nat) (x : qkb.D) : qd0 (k + 1) x.1 x.2 = qi cf (fun f a b K => COt f a b K [qem k]) (fun b _ σ K => LOt Ty (kps 104) 0 b σ K []) 104 Tryz.f104.ntmps Tryz.f104.results.toList (bd Tryz.f104) (qkb.enc x).1 (qkb.enc x).2 (qj FS.dec qqq) := by kernel_rfl
theorem qqr : ∀ k, qf (call cf k) (qh6 k)
 | 0 => fun x y e => absurd (show (none : Option _) = some y from e) (by simp)
 | k + 1 => qe (c := cf) (k := k) (f := 104) (fn := Tryz.f104) (body := bd Tryz.f104) (sh := qkb) (os := qqq) rfl Tryz.func104 rfl ⟨rfl, Nat.le_of_ble_eq_true rfl⟩ (qd (qFj k)) (qFk k) (fun x => qd0 (k + 1) x.1 x.2) (qFl k)

def qlT (k : Nat) (z0 : Bool) (z1 : List Int) (z2 : Bool) (z3 : List Int) : Option (Bool × List Int × Bool × List Int × Bool × List Int) :=
 Option.bind (qd0 k z0 z1) fun r3 =>
 (some (z0, z1, z2, z3, r3.1, r3.2))
def qb2 : Nat → Bool → List Int → Bool → List Int → Option (Bool × List Int × Bool × List Int × Bool × List Int)
 | 0, _, _, _, _ => none
 | k + 1, z0, z1, z2, z3 => qlT k z0 z1 z2 z3
def qkc : FS := { vs := [.a (.ptr 0 0 0)], bs := [.raw [[.lf .bool, .lf (.sl (.int .u32)), .lf .bool, .lf (.sl (.int .u32))]] 4 74 true false] }
def qqs : List FS := [{ vs := [.a (.ptr 1 0 0)], bs := [.raw [[.lf .bool, .lf (.sl (.int .u32)), .lf .bool, .lf (.sl (.int .u32))]] 4 74 true false, .raw [[.lf .bool, .lf (.sl (.int .u32))]] 2 72 true false] }]
def qsj (k : Nat) : Inst := ⟨79, qkc, qqs, fun x => qb2 k x.1 x.2.1 x.2.2.1 x.2.2.2⟩
theorem qFm (k : Nat) : qk (call cf k) [qh6 k] := qA (qqr k) qT
theorem qFn (k : Nat) : qg (LOk (R := DS FS.D qqs) (fun b _ σ K => LOt Ty (kps 79) 1 b σ K []) cf (call cf k) (cf.keep 79) Tryz.f79.ntmps k qkc.bs.length) 0 (bd Tryz.f79) :=
 qA qT (qA qT qT)
theorem qFo (k : Nat) (x : qkc.D) : qb2 (k + 1) x.1 x.2.1 x.2.2.1 x.2.2.2 = qi cf (fun f a b K => COt f a b K [qh6 k]) (fun b _ σ K => LOt Ty (kps 79) 1 b σ K []) 79 Tryz.f79.ntmps Tryz.f79.results.toList (bd Tryz.f79) (qkc.enc x).1 (qkc.enc x).2 (qj FS.dec qqs) := by kernel_rfl
theorem qyu : ∀ k, qf (call cf k) (qsj k)
 | 0 => fun x y e => absurd (show (none : Option _) = some y from e) (by simp)
 | k + 1 => qe (c := cf) (k := k) (f := 79) (fn := Tryz.f79) (body := bd Tryz.f79) (sh := qkc) (os := qqs) rfl Tryz.func79 rfl ⟨rfl, Nat.le_of_ble_eq_true rfl⟩ (qd (qFm k)) (qFn k) (fun x => qb2 (k + 1) x.1 x.2.1 x.2.2.1 x.2.2.2) (qFo k)

def qeH (k : Nat) (z0 : Bool) (z1 : List Int) : Option (Int × Bool × List Int) :=
 if (((((List.length z1) : Nat) : Int) == (0 : Int)) = true) then
 (some ((0 : Int), z0, z1))
 else
 if (z0 = true) then
 (some ((-(1 : Int)), z0, z1))
 else
 (some ((1 : Int), z0, z1))
def qcA : Nat → Bool → List Int → Option (Int × Bool × List Int)
 | 0, _, _ => none
 | k + 1, z0, z1 => qeH k z0 z1
def qkd : FS := { vs := [.a (.ptr 0 0 0)], bs := [.raw [[.lf .bool, .lf (.sl (.int .u32))]] 2 72 true false] }
def qqt : List FS := [{ vs := [.a (.lf (.int .i64))], bs := [.raw [[.lf .bool, .lf (.sl (.int .u32))]] 2 72 true false] }]
def qxe (k : Nat) : Inst := ⟨105, qkd, qqt, fun x => qcA k x.1 x.2⟩
theorem qFp (k : Nat) : qk (call cf k) [] := True.intro
theorem qFq (k : Nat) : qg (LOk (R := DS FS.D qqt) (fun b _ σ K => LOt Ty (kps 105) 1 b σ K []) cf (call cf k) (cf.keep 105) Tryz.f105.ntmps k qkd.bs.length) 0 (bd Tryz.f105) :=
 qA qT (qA (qA qT (qA (qA qT qT) (qA qT (qA (qA qT qT) qT)))) (qA qT qT))
theorem qFr (k : Nat) (x : qkd.D) : qcA (k + 1) x.1 x.2 = qi cf (fun f a b K => COt f a b K []) (fun b _ σ K => LOt Ty (kps 105) 1 b σ K []) 105 Tryz.f105.ntmps Tryz.f105.results.toList (bd Tryz.f105) (qkd.enc x).1 (qkd.enc x).2 (qj FS.dec qqt) := by kernel_rfl
theorem qFs : ∀ k, qf (call cf k) (qxe k)
 | 0 => fun x y e => absurd (show (none : Option _) = some y from e) (by simp)
 | k + 1 => qe (c := cf) (k := k) (f := 105) (fn := Tryz.f105) (body := bd Tryz.f105) (sh := qkd) (os := qqt) rfl Tryz.func105 rfl ⟨rfl, Nat.le_of_ble_eq_true rfl⟩ (qd (qFp k)) (qFq k) (fun x => qcA (k + 1) x.1 x.2) (qFr k)

def qes (k : Nat) (z0 : Bool) (z1 : List Int) : Option (Nat × Bool × List Int × List Int) :=
 if (((0 + (List.length z1)) * 4) ≤ 140737488355328) then
 (some ((0 + (List.length z1)), z0, z1, ((List.take 0 []) ++ z1)))
 else
 none
def qcj : Nat → Bool → List Int → Option (Nat × Bool × List Int × List Int)
 | 0, _, _ => none
 | k + 1, z0, z1 => qes k z0 z1
def qke : FS := { vs := [.a (.ptr 0 0 0)], bs := [.raw [[.lf .bool, .lf (.sl (.int .u32))]] 2 72 true false] }
def qqu : List FS := [{ vs := [.a (.smz 1)], bs := [.raw [[.lf .bool, .lf (.sl (.int .u32))]] 2 72 true false, .arr (.int .u32) 1 68 false] }]
def qxf (k : Nat) : Inst := ⟨106, qke, qqu, fun x => qcj k x.1 x.2⟩
theorem qFt (k : Nat) : qk (call cf k) [] := True.intro
theorem qFu (k : Nat) : qg (LOk (R := DS FS.D qqu) (fun b _ σ K => LOt Ty (kps 106) 1 b σ K []) cf (call cf k) (cf.keep 106) Tryz.f106.ntmps k qke.bs.length) 0 (bd Tryz.f106) :=
 qA qT (qA qT qT)
theorem qFv (k : Nat) (x : qke.D) : qcj (k + 1) x.1 x.2 = qi cf (fun f a b K => COt f a b K []) (fun b _ σ K => LOt Ty (kps 106) 1 b σ K []) 106 Tryz.f106.ntmps Tryz.f106.results.toList (bd Tryz.f106) (qke.enc x).1 (qke.enc x).2 (qj FS.dec qqu) := by kernel_rfl
theorem qFw : ∀ k, qf (call cf k) (qxf k)
 | 0 => fun x y e => absurd (show (none : Option _) = some y from e) (by simp)
 | k + 1 => qe (c := cf) (k := k) (f := 106) (fn := Tryz.f106) (body := bd Tryz.f106) (sh := qke) (os := qqu) rfl Tryz.func106 rfl ⟨rfl, Nat.le_of_ble_eq_true rfl⟩ (qd (qFt k)) (qFu k) (fun x => qcj (k + 1) x.1 x.2) (qFv k)

def qfG (k : Nat) (z0 : Bool) (z1 : List Int) : Option (Bool × Nat × Bool × List Int × List Int) :=
 Option.bind (qcA k z0 z1) fun r4 =>
 Option.bind (qcj k r4.2.1 r4.2.2) fun r5 =>
 (some ((decide (r4.1 < (0 : Int))), r5.1, r5.2.1, r5.2.2.1, r5.2.2.2))
def qaT : Nat → Bool → List Int → Option (Bool × Nat × Bool × List Int × List Int)
 | 0, _, _ => none
 | k + 1, z0, z1 => qfG k z0 z1
def qhh : FS := { vs := [.a (.ptr 0 0 0)], bs := [.raw [[.lf .bool, .lf (.sl (.int .u32))]] 2 72 true false] }
def qnh : List FS := [{ vs := [.g [.lf .bool, .smz 1]], bs := [.raw [[.lf .bool, .lf (.sl (.int .u32))]] 2 72 true false, .arr (.int .u32) 1 68 false] }]
def qgd (k : Nat) : Inst := ⟨70, qhh, qnh, fun x => qaT k x.1 x.2⟩
theorem qBb (k : Nat) : qk (call cf k) [qxe k, qxf k] := qA (qFs k) (qA (qFw k) qT)
theorem qBc (k : Nat) : qg (LOk (R := DS FS.D qnh) (fun b _ σ K => LOt Ty (kps 70) 1 b σ K []) cf (call cf k) (cf.keep 70) Tryz.f70.ntmps k qhh.bs.length) 0 (bd Tryz.f70) :=
 qA qT (qA qT qT)
theorem qBd (k : Nat) (x : qhh.D) : qaT (k + 1) x.1 x.2 = qi cf (fun f a b K => COt f a b K [qxe k, qxf k]) (fun b _ σ K => LOt Ty (kps 70) 1 b σ K []) 70 Tryz.f70.ntmps Tryz.f70.results.toList (bd Tryz.f70) (qhh.enc x).1 (qhh.enc x).2 (qj FS.dec qnh) := by kernel_rfl
theorem qni : ∀ k, qf (call cf k) (qgd k)
 | 0 => fun x y e => absurd (show (none : Option _) = some y from e) (by simp)
 | k + 1 => qe (c := cf) (k := k) (f := 70) (fn := Tryz.f70) (body := bd Tryz.f70) (sh := qhh) (os := qnh) rfl Tryz.func70 rfl ⟨rfl, Nat.le_of_ble_eq_true rfl⟩ (qd (qBb k)) (qBc k) (fun x => qaT (k + 1) x.1 x.2) (qBd k)

def qet (k : Nat) (z0 : Bool) (z1 : List Int) (z2 : Bool) (z3 : List Int) : Option (Bool × List Int × Bool × List Int × Bool × List Int) :=
 if (((((List.length z3) : Nat) : Int) == (0 : Int)) = true) then
 Option.bind (qag k (1 : Int)) fun r5 =>
 (some (z0, z1, z2, z3, r5.1, r5.2))
 else
 Option.bind (qd0 k false z3) fun r5 =>
 (some (z0, z1, z2, z3, r5.1, r5.2))
def qo : Nat → Bool → List Int → Bool → List Int → Option (Bool × List Int × Bool × List Int × Bool × List Int)
 | 0, _, _, _, _ => none
 | k + 1, z0, z1, z2, z3 => qet k z0 z1 z2 z3
def qkf : FS := { vs := [.a (.ptr 0 0 0)], bs := [.raw [[.lf .bool, .lf (.sl (.int .u32)), .lf .bool, .lf (.sl (.int .u32))]] 4 74 true false] }
def qqv : List FS := [{ vs := [.a (.ptr 1 0 0)], bs := [.raw [[.lf .bool, .lf (.sl (.int .u32)), .lf .bool, .lf (.sl (.int .u32))]] 4 74 true false, .raw [[.lf .bool, .lf (.sl (.int .u32))]] 2 72 true false] }]
def qeu (k : Nat) : Inst := ⟨76, qkf, qqv, fun x => qo k x.1 x.2.1 x.2.2.1 x.2.2.2⟩
theorem qFx (k : Nat) : qk (call cf k) [qfz k, qh6 k] := qA (qjW k) (qA (qqr k) qT)
theorem qFy (k : Nat) : qg (LOk (R := DS FS.D qqv) (fun b _ σ K => LOt Ty (kps 76) 1 b σ K []) cf (call cf k) (cf.keep 76) Tryz.f76.ntmps k qkf.bs.length) 0 (bd Tryz.f76) :=
 qA qT (qA (qA qT (qA (qA qT qT) qT)) (qA qT qT))
theorem qFz (k : Nat) (x : qkf.D) : qo (k + 1) x.1 x.2.1 x.2.2.1 x.2.2.2 = qi cf (fun f a b K => COt f a b K [qfz k, qh6 k]) (fun b _ σ K => LOt Ty (kps 76) 1 b σ K []) 76 Tryz.f76.ntmps Tryz.f76.results.toList (bd Tryz.f76) (qkf.enc x).1 (qkf.enc x).2 (qj FS.dec qqv) := by kernel_rfl
theorem qgO : ∀ k, qf (call cf k) (qeu k)
 | 0 => fun x y e => absurd (show (none : Option _) = some y from e) (by simp)
 | k + 1 => qe (c := cf) (k := k) (f := 76) (fn := Tryz.f76) (body := bd Tryz.f76) (sh := qkf) (os := qqv) rfl Tryz.func76 rfl ⟨rfl, Nat.le_of_ble_eq_true rfl⟩ (qd (qFx k)) (qFy k) (fun x => qo (k + 1) x.1 x.2.1 x.2.2.1 x.2.2.2) (qFz k)

def qfH (k : Nat) (z0 : Bool) (z1 : List Int) (z2 : Bool) (z3 : List Int) : Option (Bool × List Int × Bool × List Int × Bool × List Int × Bool × List Int) :=
 Option.bind (qb2 k z0 z1 z2 z3) fun r3 =>
 Option.bind (qaT k r3.2.2.2.2.1 r3.2.2.2.2.2) fun r4 =>
 Option.bind (qo k r3.1 r3.2.1 r3.2.2.1 r3.2.2.2.1) fun r5 =>
 Option.bind (qaT k r5.2.2.2.2.1 r5.2.2.2.2.2) fun r6 =>
 if ((0 + r4.2.1) ≤ (List.length r4.2.2.2.2)) then
 if ((0 + r6.2.1) ≤ (List.length r6.2.2.2.2)) then
 (some (r4.1, (List.take r4.2.1 r4.2.2.2.2), r6.1, (List.take r6.2.1 r6.2.2.2.2), r5.1, r5.2.1, r5.2.2.1, r5.2.2.2.1))
 else
 none
 else
 none
def qba : Nat → Bool → List Int → Bool → List Int → Option (Bool × List Int × Bool × List Int × Bool × List Int × Bool × List Int)
 | 0, _, _, _, _ => none
 | k + 1, z0, z1, z2, z3 => qfH k z0 z1 z2 z3
def qhi : FS := { vs := [.a (.ptr 0 0 0)], bs := [.raw [[.lf .bool, .lf (.sl (.int .u32)), .lf .bool, .lf (.sl (.int .u32))]] 4 74 true false] }
def qnj : List FS := [{ vs := [.g [.lf .bool, .lf (.sl (.int .u32)), .lf .bool, .lf (.sl (.int .u32))]], bs := [.raw [[.lf .bool, .lf (.sl (.int .u32)), .lf .bool, .lf (.sl (.int .u32))]] 4 74 true false] }]
def qgP (k : Nat) : Inst := ⟨36, qhi, qnj, fun x => qba k x.1 x.2.1 x.2.2.1 x.2.2.2⟩
theorem qBe (k : Nat) : qk (call cf k) [qsj k, qgd k, qeu k] := qA (qyu k) (qA (qni k) (qA (qgO k) qT))
theorem qBf (k : Nat) : qg (LOk (R := DS FS.D qnj) (fun b _ σ K => LOt Ty (kps 36) 1 b σ K []) cf (call cf k) (cf.keep 36) Tryz.f36.ntmps k qhi.bs.length) 0 (bd Tryz.f36) :=
 qA qT (qA qT qT)
theorem qBg (k : Nat) (x : qhi.D) : qba (k + 1) x.1 x.2.1 x.2.2.1 x.2.2.2 = qi cf (fun f a b K => COt f a b K [qsj k, qgd k, qeu k]) (fun b _ σ K => LOt Ty (kps 36) 1 b σ K []) 36 Tryz.f36.ntmps Tryz.f36.results.toList (bd Tryz.f36) (qhi.enc x).1 (qhi.enc x).2 (qj FS.dec qnj) := by kernel_rfl
theorem qsk : ∀ k, qf (call cf k) (qgP k)
 | 0 => fun x y e => absurd (show (none : Option _) = some y from e) (by simp)
 | k + 1 => qe (c := cf) (k := k) (f := 36) (fn := Tryz.f36) (body := bd Tryz.f36) (sh := qhi) (os := qnj) rfl Tryz.func36 rfl ⟨rfl, Nat.le_of_ble_eq_true rfl⟩ (qd (qBe k)) (qBf k) (fun x => qba (k + 1) x.1 x.2.1 x.2.2.1 x.2.2.2) (qBg k)

def qh7 (k : Nat) (n0 : Int) (n1 : Int) : Option (Bool × List Int × Bool × List Int × Int) :=
 Option.bind (qdq k n0 n1) fun r1 =>
 if ((!r1) = true) then
 (some (false, [], false, [], (30 : Int)))
 else
 Option.bind (qdJ k n0 n1) fun r2 =>
 Option.bind (qba k r2.1 r2.2.1 r2.2.2.1 r2.2.2.2) fun r3 =>
 (some (r3.1, r3.2.1, r3.2.2.1, r3.2.2.2.1, (0 : Int)))
def qeC : Nat → Int → Int → Option (Bool × List Int × Bool × List Int × Int)
 | 0, _, _ => none
 | k + 1, n0, n1 => qh7 k n0 n1
def qkg : FS := { vs := [.g [.lf (.int .i64), .lf (.int .i64)]], bs := [] }
def qqw : List FS := [{ vs := [.g [.lf .bool, .lf (.sl (.int .u32)), .lf .bool, .lf (.sl (.int .u32))], .a (.lf (.int .i64))], bs := [] }]
def qxg (k : Nat) : Inst := ⟨74, qkg, qqw, fun x => qeC k x.1 x.2⟩
theorem qFA (k : Nat) : qk (call cf k) [qgZ k, qsi k, qgP k] := qA (qut k) (qA (qyt k) (qA (qsk k) qT))
theorem qFB (k : Nat) : qg (LOk (R := DS FS.D qqw) (fun b _ σ K => LOt Ty (kps 74) 0 b σ K []) cf (call cf k) (cf.keep 74) Tryz.f74.ntmps k qkg.bs.length) 0 (bd Tryz.f74) :=
 qA qT (qA (qA qT (qA (qA qT qT) qT)) (qA qT qT))
theorem qFC (k : Nat) (x : qkg.D) : qeC (k + 1) x.1 x.2 = qi cf (fun f a b K => COt f a b K [qgZ k, qsi k, qgP k]) (fun b _ σ K => LOt Ty (kps 74) 0 b σ K []) 74 Tryz.f74.ntmps Tryz.f74.results.toList (bd Tryz.f74) (qkg.enc x).1 (qkg.enc x).2 (qj FS.dec qqw) := by kernel_rfl
theorem qFD : ∀ k, qf (call cf k) (qxg k)
 | 0 => fun x y e => absurd (show (none : Option _) = some y from e) (by simp)
 | k + 1 => qe (c := cf) (k := k) (f := 74) (fn := Tryz.f74) (body := bd Tryz.f74) (sh := qkg) (os := qqw) rfl Tryz.func74 rfl ⟨rfl, Nat.le_of_ble_eq_true rfl⟩ (qd (qFA k)) (qFB k) (fun x => qeC (k + 1) x.1 x.2) (qFC k)

def quB (k : Nat) (a0 : Bool) (a1 : List Int) : Option (Bool × List Int) :=
 Option.bind (qd0 k a0 a1) fun r4 =>
 (some (r4.1, r4.2))
def qbm : Nat → Bool → List Int → Option (Bool × List Int)
 | 0, _, _ => none
 | k + 1, a0, a1 => quB k a0 a1
def qhj : FS := { vs := [.g [.lf .bool, .lf (.sl (.int .u32))]], bs := [] }
def qnk : List FS := [{ vs := [.a (.ptr 0 0 0)], bs := [.raw [[.lf .bool, .lf (.sl (.int .u32))]] 2 72 true false] }]
def qge (k : Nat) : Inst := ⟨69, qhj, qnk, fun x => qbm k x.1 x.2⟩
theorem qBh (k : Nat) : qk (call cf k) [qh6 k] := qA (qqr k) qT
theorem qBi (k : Nat) : qg (LOk (R := DS FS.D qnk) (fun b _ σ K => LOt Ty (kps 69) 0 b σ K []) cf (call cf k) (cf.keep 69) Tryz.f69.ntmps k qhj.bs.length) 0 (bd Tryz.f69) :=
 qA qT (qA qT qT)
theorem qBj (k : Nat) (x : qhj.D) : qbm (k + 1) x.1 x.2 = qi cf (fun f a b K => COt f a b K [qh6 k]) (fun b _ σ K => LOt Ty (kps 69) 0 b σ K []) 69 Tryz.f69.ntmps Tryz.f69.results.toList (bd Tryz.f69) (qhj.enc x).1 (qhj.enc x).2 (qj FS.dec qnk) := by kernel_rfl
theorem qnl : ∀ k, qf (call cf k) (qge k)
 | 0 => fun x y e => absurd (show (none : Option _) = some y from e) (by simp)
 | k + 1 => qe (c := cf) (k := k) (f := 69) (fn := Tryz.f69) (body := bd Tryz.f69) (sh := qhj) (os := qnk) rfl Tryz.func69 rfl ⟨rfl, Nat.le_of_ble_eq_true rfl⟩ (qd (qBh k)) (qBi k) (fun x => qbm (k + 1) x.1 x.2) (qBj k)

def qvO (k : Nat) (r0 : Bool) (r1 : List Int) (r2 : Bool) (r3 : List Int) : Option (Bool × List Int × Bool × List Int) :=
 Option.bind (qbm k r0 r1) fun r4 =>
 Option.bind (qbm k r2 r3) fun r5 =>
 Option.bind (qbH k r4.1 r4.2 r5.1 r5.2) fun r6 =>
 (some (r6.2.2.2.2.1, r6.2.2.2.2.2.1, r6.2.2.2.2.2.2.1, r6.2.2.2.2.2.2.2))
def qdK : Nat → Bool → List Int → Bool → List Int → Option (Bool × List Int × Bool × List Int)
 | 0, _, _, _, _ => none
 | k + 1, r0, r1, r2, r3 => qvO k r0 r1 r2 r3
def qhk : FS := { vs := [.g [.lf .bool, .lf (.sl (.int .u32)), .lf .bool, .lf (.sl (.int .u32))]], bs := [] }
def qnm : List FS := [{ vs := [.a (.ptr 0 0 0)], bs := [.raw [[.lf .bool, .lf (.sl (.int .u32)), .lf .bool, .lf (.sl (.int .u32))]] 4 74 true false] }]
def qnn (k : Nat) : Inst := ⟨41, qhk, qnm, fun x => qdK k x.1 x.2.1 x.2.2.1 x.2.2.2⟩
theorem qBk (k : Nat) : qk (call cf k) [qge k, Iq0 k] := qA (qnl k) (qA (quA k) qT)
theorem qBl (k : Nat) : qg (LOk (R := DS FS.D qnm) (fun b _ σ K => LOt Ty (kps 41) 0 b σ K []) cf (call cf k) (cf.keep 41) Tryz.f41.ntmps k qhk.bs.length) 0 (bd Tryz.f41) :=
 qA qT (qA qT qT)
theorem qBm (k : Nat) (x : qhk.D) : qdK (k + 1) x.1 x.2.1 x.2.2.1 x.2.2.2 = qi cf (fun f a b K => COt f a b K [qge k, Iq0 k]) (fun b _ σ K => LOt Ty (kps 41) 0 b σ K []) 41 Tryz.f41.ntmps Tryz.f41.results.toList (bd Tryz.f41) (qhk.enc x).1 (qhk.enc x).2 (qj FS.dec qnm) := by kernel_rfl
theorem qvP : ∀ k, qf (call cf k) (qnn k)
 | 0 => fun x y e => absurd (show (none : Option _) = some y from e) (by simp)
 | k + 1 => qe (c := cf) (k := k) (f := 41) (fn := Tryz.f41) (body := bd Tryz.f41) (sh := qhk) (os := qnm) rfl Tryz.func41 rfl ⟨rfl, Nat.le_of_ble_eq_true rfl⟩ (qd (qBk k)) (qBl k) (fun x => qdK (k + 1) x.1 x.2.1 x.2.2.1 x.2.2.2) (qBm k)

def qte (k : Nat) (n : Int) (d : Int) : Option (Bool × List Int × Bool × List Int) :=
 Option.bind (qag k n) fun r2 =>
 Option.bind (qag k d) fun r3 =>
 Option.bind (qbH k r2.1 r2.2 r3.1 r3.2) fun r4 =>
 (some (r4.2.2.2.2.1, r4.2.2.2.2.2.1, r4.2.2.2.2.2.2.1, r4.2.2.2.2.2.2.2))
def qd1 : Nat → Int → Int → Option (Bool × List Int × Bool × List Int)
 | 0, _, _ => none
 | k + 1, n, d => qte k n d
def qkh : FS := { vs := [.a (.lf (.int .i64)), .a (.lf (.int .i64))], bs := [] }
def qqx : List FS := [{ vs := [.a (.ptr 0 0 0)], bs := [.raw [[.lf .bool, .lf (.sl (.int .u32)), .lf .bool, .lf (.sl (.int .u32))]] 4 74 true false] }]
def qxh (k : Nat) : Inst := ⟨59, qkh, qqx, fun x => qd1 k x.1 x.2⟩
theorem qFE (k : Nat) : qk (call cf k) [qfz k, Iq0 k] := qA (qjW k) (qA (quA k) qT)
theorem qFF (k : Nat) : qg (LOk (R := DS FS.D qqx) (fun b _ σ K => LOt Ty (kps 59) 0 b σ K []) cf (call cf k) (cf.keep 59) Tryz.f59.ntmps k qkh.bs.length) 0 (bd Tryz.f59) :=
 qA qT (qA qT qT)
theorem qFG (k : Nat) (x : qkh.D) : qd1 (k + 1) x.1 x.2 = qi cf (fun f a b K => COt f a b K [qfz k, Iq0 k]) (fun b _ σ K => LOt Ty (kps 59) 0 b σ K []) 59 Tryz.f59.ntmps Tryz.f59.results.toList (bd Tryz.f59) (qkh.enc x).1 (qkh.enc x).2 (qj FS.dec qqx) := by kernel_rfl
theorem qFH : ∀ k, qf (call cf k) (qxh k)
 | 0 => fun x y e => absurd (show (none : Option _) = some y from e) (by simp)
 | k + 1 => qe (c := cf) (k := k) (f := 59) (fn := Tryz.f59) (body := bd Tryz.f59) (sh := qkh) (os := qqx) rfl Tryz.func59 rfl ⟨rfl, Nat.le_of_ble_eq_true rfl⟩ (qd (qFE k)) (qFF k) (fun x => qd1 (k + 1) x.1 x.2) (qFG k)

def qd7 (k : Nat) (rec : Nat → Int → Int → Int → List Int → Int → Int → List Int → Int → Int → Bool → Bool → List Int → Bool → List Int → Bool → List Int → Bool → List Int → List Int → Option (Nat × Int × Int × List Int × Int × Int × Bool × Bool × List Int × Bool × List Int × Bool × List Int × Bool × List Int × List Int)) (out1 : Nat) (i : Int) (a : Int) (carry : Int) (x : List Int) (x1 : Int) (x2 : Int) (x3 : List Int) (x4 : Int) (x5 : Int) (z : Bool) (x0 : Bool) (x11 : List Int) (x21 : Bool) (x31 : List Int) (y0 : Bool) (y1 : List Int) (y2 : Bool) (y3 : List Int) (outs : List Int) : Option (Nat × Int × Int × List Int × Int × Int × Bool × Bool × List Int × Bool × List Int × Bool × List Int × Bool × List Int × List Int) :=
 if ((decide (x5 < x4)) = true) then
 if ((0 : Int) ≤ x5) then
 Option.bind (x3)[(Int.toNat x5)]? fun x6 =>
 if (((0 : Int) ≤ (IntKind.wrap .i64 (i + x5))) ∧ ((IntKind.wrap .i64 (i + x5)) < ((out1 : Nat) : Int))) then
 Option.bind (outs)[(0 + (Int.toNat (IntKind.wrap .i64 (i + x5))))]? fun x7 =>
 if (((0 : Int) ≤ (IntKind.wrap .i64 (i + x5))) ∧ ((IntKind.wrap .i64 (i + x5)) < ((out1 : Nat) : Int))) then
 Option.bind (outs)[(0 + (Int.toNat (IntKind.wrap .i64 (i + x5))))]? fun x8 =>
 rec out1 i a (Int.fdiv (IntKind.wrap .u64 ((IntKind.wrap .u64 ((IntKind.wrap .u64 ((IntKind.wrap .u64 a) * (IntKind.wrap .u64 x6))) + (IntKind.wrap .u64 x7))) + carry)) (4294967296 : Int)) x x1 x2 x3 x4 (IntKind.wrap .i64 (x5 + (1 : Int))) z x0 x11 x21 x31 y0 y1 y2 y3 (List.set outs (0 + (Int.toNat (IntKind.wrap .i64 (i + x5)))) (IntKind.wrap .u32 (IntKind.wrap .u64 ((IntKind.wrap .u64 ((IntKind.wrap .u64 ((IntKind.wrap .u64 a) * (IntKind.wrap .u64 x6))) + (IntKind.wrap .u64 x7))) + carry))))
 else
 none
 else
 none
 else
 none
 else
 (some (out1, i, carry, x, x1, x2, z, x0, x11, x21, x31, y0, y1, y2, y3, outs))
def qbu (k n : Nat) : Nat → Int → Int → Int → List Int → Int → Int → List Int → Int → Int → Bool → Bool → List Int → Bool → List Int → Bool → List Int → Bool → List Int → List Int → Option (Nat × Int × Int × List Int × Int × Int × Bool × Bool × List Int × Bool × List Int × Bool × List Int × Bool × List Int × List Int) := Nat.rec (fun _ _ _ _ _ _ _ _ _ _ _ _ _ _ _ _ _ _ _ _ => none) (fun _ r => qd7 k r) n
def qd8 (k : Nat) (rec : Nat → List Int → Int → Int → Bool → Bool → List Int → Bool → List Int → Bool → List Int → Bool → List Int → List Int → Option (Nat × Bool × Bool × List Int × Bool × List Int × Bool × List Int × Bool × List Int × List Int)) (out1 : Nat) (x : List Int) (x1 : Int) (x2 : Int) (z : Bool) (x0 : Bool) (x11 : List Int) (x21 : Bool) (x3 : List Int) (y0 : Bool) (y1 : List Int) (y2 : Bool) (y3 : List Int) (outs : List Int) : Option (Nat × Bool × Bool × List Int × Bool × List Int × Bool × List Int × Bool × List Int × List Int) :=
 if ((decide (x2 < x1)) = true) then
 if ((0 : Int) ≤ x2) then
 Option.bind (x)[(Int.toNat x2)]? fun x4 =>
 Option.bind (qbu k k out1 x2 x4 (0 : Int) x x1 x2 y1 (((List.length y1) : Nat) : Int) (0 : Int) z x0 x11 x21 x3 y0 y1 y2 y3 outs) fun r3 =>
 if (((0 : Int) ≤ (IntKind.wrap .i64 (r3.2.1 + (((List.length r3.2.2.2.2.2.2.2.2.2.2.2.2.1) : Nat) : Int)))) ∧ ((IntKind.wrap .i64 (r3.2.1 + (((List.length r3.2.2.2.2.2.2.2.2.2.2.2.2.1) : Nat) : Int))) < ((r3.1 : Nat) : Int))) then
 Option.bind (r3.2.2.2.2.2.2.2.2.2.2.2.2.2.2.2)[(0 + (Int.toNat (IntKind.wrap .i64 (r3.2.1 + (((List.length r3.2.2.2.2.2.2.2.2.2.2.2.2.1) : Nat) : Int)))))]? fun x5 =>
 rec r3.1 r3.2.2.2.1 r3.2.2.2.2.1 (IntKind.wrap .i64 (r3.2.2.2.2.2.1 + (1 : Int))) r3.2.2.2.2.2.2.1 r3.2.2.2.2.2.2.2.1 r3.2.2.2.2.2.2.2.2.1 r3.2.2.2.2.2.2.2.2.2.1 r3.2.2.2.2.2.2.2.2.2.2.1 r3.2.2.2.2.2.2.2.2.2.2.2.1 r3.2.2.2.2.2.2.2.2.2.2.2.2.1 r3.2.2.2.2.2.2.2.2.2.2.2.2.2.1 r3.2.2.2.2.2.2.2.2.2.2.2.2.2.2.1 (List.set r3.2.2.2.2.2.2.2.2.2.2.2.2.2.2.2 (0 + (Int.toNat (IntKind.wrap .i64 (r3.2.1 + (((List.length r3.2.2.2.2.2.2.2.2.2.2.2.2.1) : Nat) : Int))))) (IntKind.wrap .u32 r3.2.2.1))
 else
 none
 else
 none
 else
 (some (out1, z, x0, x11, x21, x3, y0, y1, y2, y3, outs))
def qbv (k n : Nat) : Nat → List Int → Int → Int → Bool → Bool → List Int → Bool → List Int → Bool → List Int → Bool → List Int → List Int → Option (Nat × Bool × Bool × List Int × Bool × List Int × Bool × List Int × Bool × List Int × List Int) := Nat.rec (fun _ _ _ _ _ _ _ _ _ _ _ _ _ _ => none) (fun _ r => qd8 k r) n
def qe7 (k : Nat) (z : Bool) (x0 : Bool) (x1 : List Int) (x2 : Bool) (x3 : List Int) (y0 : Bool) (y1 : List Int) (y2 : Bool) (y3 : List Int) : Option (Bool × List Int × Bool × List Int × Bool × List Int × Bool × List Int × Bool × List Int) :=
 if (((0 : Int) ≤ (IntKind.wrap .i64 ((((List.length x1) : Nat) : Int) + (((List.length y1) : Nat) : Int)))) ∧ (((IntKind.wrap .i64 ((((List.length x1) : Nat) : Int) + (((List.length y1) : Nat) : Int))) ≤ (IntKind.wrap .i64 ((((List.length x1) : Nat) : Int) + (((List.length y1) : Nat) : Int)))) ∧ (((IntKind.wrap .i64 ((((List.length x1) : Nat) : Int) + (((List.length y1) : Nat) : Int))) * (4 : Int)) ≤ (140737488355328 : Int)))) then
 Option.bind (qbv k k (Int.toNat (IntKind.wrap .i64 ((((List.length x1) : Nat) : Int) + (((List.length y1) : Nat) : Int)))) x1 (((List.length x1) : Nat) : Int) (0 : Int) z x0 x1 x2 x3 y0 y1 y2 y3 (List.replicate (Int.toNat (IntKind.wrap .i64 ((((List.length x1) : Nat) : Int) + (((List.length y1) : Nat) : Int)))) (0 : Int))) fun r3 =>
 if ((0 + r3.1) ≤ (List.length r3.2.2.2.2.2.2.2.2.2.2)) then
 Option.bind (qaj k (!(r3.2.2.1 == r3.2.2.2.2.2.2.1)) (List.take r3.1 r3.2.2.2.2.2.2.2.2.2.2) r3.2.1) fun r4 =>
 (some (r4.1, r4.2, r3.2.2.1, r3.2.2.2.1, r3.2.2.2.2.1, r3.2.2.2.2.2.1, r3.2.2.2.2.2.2.1, r3.2.2.2.2.2.2.2.1, r3.2.2.2.2.2.2.2.2.1, r3.2.2.2.2.2.2.2.2.2.1))
 else
 none
 else
 none
def qb3 : Nat → Bool → Bool → List Int → Bool → List Int → Bool → List Int → Bool → List Int → Option (Bool × List Int × Bool × List Int × Bool × List Int × Bool × List Int × Bool × List Int)
 | 0, _, _, _, _, _, _, _, _, _ => none
 | k + 1, z, x0, x1, x2, x3, y0, y1, y2, y3 => qe7 k z x0 x1 x2 x3 y0 y1 y2 y3
def qpc : FS := { vs := [.a (.ptr 0 0 0), .a (.ptr 1 0 0), .a (.ptr 2 0 0)], bs := [.raw [[.lf .bool, .snil 1 68]] 2 72 true false, .raw [[.lf .bool, .lf (.sl (.int .u32)), .lf .bool, .lf (.sl (.int .u32))]] 4 74 true false, .raw [[.lf .bool, .lf (.sl (.int .u32)), .lf .bool, .lf (.sl (.int .u32))]] 4 74 true false] }
def quC : List FS := [{ vs := [.a (.ptr 0 0 0)], bs := [.raw [[.lf .bool, .lf (.sl (.int .u32))]] 2 72 true false, .raw [[.lf .bool, .lf (.sl (.int .u32)), .lf .bool, .lf (.sl (.int .u32))]] 4 74 true false, .raw [[.lf .bool, .lf (.sl (.int .u32)), .lf .bool, .lf (.sl (.int .u32))]] 4 74 true false] }]
def Iq6 (k : Nat) : Inst := ⟨75, qpc, quC, fun x => qb3 k x.1 x.2.1 x.2.2.1 x.2.2.2.1 x.2.2.2.2.1 x.2.2.2.2.2.1 x.2.2.2.2.2.2.1 x.2.2.2.2.2.2.2.1 x.2.2.2.2.2.2.2.2⟩
theorem qxi (k : Nat) : qk (call cf k) [qdD k] := qA (qj6 k) qT
def qiS : List SS := [{ fr := [(0, .a (.ptr 0 0 0)), (1, .a (.ptr 1 0 0)), (2, .a (.ptr 2 0 0)), (7, .a (.smz 3)), (8, .a (.lf (.int .i64))), (9, .a (.lf (.int .u32))), (10, .a (.lf (.int .u64))), (29, .a (.lf (.sl (.int .u32)))), (30, .a (.lf (.int .i64))), (31, .a (.lf (.int .i64))), (39, .a (.lf (.sl (.int .u32)))), (40, .a (.lf (.int .i64))), (41, .a (.lf (.int .i64)))], mem := [(0, some (.raw [[.lf .bool, .snil 1 68]] 2 72 true false)), (1, some (.raw [[.lf .bool, .lf (.sl (.int .u32)), .lf .bool, .lf (.sl (.int .u32))]] 4 74 true false)), (2, some (.raw [[.lf .bool, .lf (.sl (.int .u32)), .lf .bool, .lf (.sl (.int .u32))]] 4 74 true false)), (3, some (.arr (.int .u32) 1 68 false))], nx := 4 }]
def qno : List OS := [⟨some 2, { fr := [(0, .a (.ptr 0 0 0)), (1, .a (.ptr 1 0 0)), (2, .a (.ptr 2 0 0)), (7, .a (.smz 3)), (8, .a (.lf (.int .i64))), (10, .a (.lf (.int .u64))), (29, .a (.lf (.sl (.int .u32)))), (30, .a (.lf (.int .i64))), (31, .a (.lf (.int .i64)))], mem := [(0, some (.raw [[.lf .bool, .snil 1 68]] 2 72 true false)), (1, some (.raw [[.lf .bool, .lf (.sl (.int .u32)), .lf .bool, .lf (.sl (.int .u32))]] 4 74 true false)), (2, some (.raw [[.lf .bool, .lf (.sl (.int .u32)), .lf .bool, .lf (.sl (.int .u32))]] 4 74 true false)), (3, some (.arr (.int .u32) 1 68 false))], nx := 4 }⟩]
def qgt (k : Nat) : LInst := ⟨2, qiS, qno, fun x => qbu k k x.1 x.2.1 x.2.2.1 x.2.2.2.1 x.2.2.2.2.1 x.2.2.2.2.2.1 x.2.2.2.2.2.2.1 x.2.2.2.2.2.2.2.1 x.2.2.2.2.2.2.2.2.1 x.2.2.2.2.2.2.2.2.2.1 x.2.2.2.2.2.2.2.2.2.2.1 x.2.2.2.2.2.2.2.2.2.2.2.1 x.2.2.2.2.2.2.2.2.2.2.2.2.1 x.2.2.2.2.2.2.2.2.2.2.2.2.2.1 x.2.2.2.2.2.2.2.2.2.2.2.2.2.2.1 x.2.2.2.2.2.2.2.2.2.2.2.2.2.2.2.1 x.2.2.2.2.2.2.2.2.2.2.2.2.2.2.2.2.1 x.2.2.2.2.2.2.2.2.2.2.2.2.2.2.2.2.2.1 x.2.2.2.2.2.2.2.2.2.2.2.2.2.2.2.2.2.2.1 x.2.2.2.2.2.2.2.2.2.2.2.2.2.2.2.2.2.2.2⟩
theorem qBn (k : Nat) : qg (LOk (R := DS OS.D qno) (fun b _ σ K => LOt Ty (kps 75) 3 b σ K []) cf (call cf k) (kps 75) Tryz.f75.ntmps k 3) 2 (lb Tryz.f75 1) :=
 qA qT (qA (qA qT qT) (qA (qA qT (qA qT (qA qT qT))) qT))
theorem qBo (k n : Nat) (x : DS SS.D qiS) : qbu k (n + 1) x.1 x.2.1 x.2.2.1 x.2.2.2.1 x.2.2.2.2.1 x.2.2.2.2.2.1 x.2.2.2.2.2.2.1 x.2.2.2.2.2.2.2.1 x.2.2.2.2.2.2.2.2.1 x.2.2.2.2.2.2.2.2.2.1 x.2.2.2.2.2.2.2.2.2.2.1 x.2.2.2.2.2.2.2.2.2.2.2.1 x.2.2.2.2.2.2.2.2.2.2.2.2.1 x.2.2.2.2.2.2.2.2.2.2.2.2.2.1 x.2.2.2.2.2.2.2.2.2.2.2.2.2.2.1 x.2.2.2.2.2.2.2.2.2.2.2.2.2.2.2.1 x.2.2.2.2.2.2.2.2.2.2.2.2.2.2.2.2.1 x.2.2.2.2.2.2.2.2.2.2.2.2.2.2.2.2.2.1 x.2.2.2.2.2.2.2.2.2.2.2.2.2.2.2.2.2.2.1 x.2.2.2.2.2.2.2.2.2.2.2.2.2.2.2.2.2.2.2 = qD SS.enc (fun σ => qF cf (fun f a b K => COt f a b K [qdD k]) (fun b _ σ K => LOt Ty (kps 75) 3 b σ K []) Tryz.f75.ntmps 2 (lb Tryz.f75 1) σ (qH Ty (kps 75 2) 3 qiS qno fun x => qbu k n x.1 x.2.1 x.2.2.1 x.2.2.2.1 x.2.2.2.2.1 x.2.2.2.2.2.1 x.2.2.2.2.2.2.1 x.2.2.2.2.2.2.2.1 x.2.2.2.2.2.2.2.2.1 x.2.2.2.2.2.2.2.2.2.1 x.2.2.2.2.2.2.2.2.2.2.1 x.2.2.2.2.2.2.2.2.2.2.2.1 x.2.2.2.2.2.2.2.2.2.2.2.2.1 x.2.2.2.2.2.2.2.2.2.2.2.2.2.1 x.2.2.2.2.2.2.2.2.2.2.2.2.2.2.1 x.2.2.2.2.2.2.2.2.2.2.2.2.2.2.2.1 x.2.2.2.2.2.2.2.2.2.2.2.2.2.2.2.2.1 x.2.2.2.2.2.2.2.2.2.2.2.2.2.2.2.2.2.1 x.2.2.2.2.2.2.2.2.2.2.2.2.2.2.2.2.2.2.1 x.2.2.2.2.2.2.2.2.2.2.2.2.2.2.2.2.2.2.2)) qiS x := by kernel_rfl
theorem qBp (k : Nat) : qY cf (call cf k) (kps 75) Tryz.f75.ntmps k 3 2 (lb Tryz.f75 1) (qgt k) :=
 qr (c := cf) (callF := call cf k) (kp := kps 75) (nt := Tryz.f75.ntmps) (k := k) (p := 3) (b := 2) (x0 := lb Tryz.f75 1) (hs := qiS) (os := qno) (qd (qxi k)) (qBn k) (fun n x => qbu k n x.1 x.2.1 x.2.2.1 x.2.2.2.1 x.2.2.2.2.1 x.2.2.2.2.2.1 x.2.2.2.2.2.2.1 x.2.2.2.2.2.2.2.1 x.2.2.2.2.2.2.2.2.1 x.2.2.2.2.2.2.2.2.2.1 x.2.2.2.2.2.2.2.2.2.2.1 x.2.2.2.2.2.2.2.2.2.2.2.1 x.2.2.2.2.2.2.2.2.2.2.2.2.1 x.2.2.2.2.2.2.2.2.2.2.2.2.2.1 x.2.2.2.2.2.2.2.2.2.2.2.2.2.2.1 x.2.2.2.2.2.2.2.2.2.2.2.2.2.2.2.1 x.2.2.2.2.2.2.2.2.2.2.2.2.2.2.2.2.1 x.2.2.2.2.2.2.2.2.2.2.2.2.2.2.2.2.2.1 x.2.2.2.2.2.2.2.2.2.2.2.2.2.2.2.2.2.2.1 x.2.2.2.2.2.2.2.2.2.2.2.2.2.2.2.2.2.2.2) (fun _ => rfl) (qBo k)
def qiT : List SS := [{ fr := [(0, .a (.ptr 0 0 0)), (1, .a (.ptr 1 0 0)), (2, .a (.ptr 2 0 0)), (7, .a (.smz 3)), (29, .a (.lf (.sl (.int .u32)))), (30, .a (.lf (.int .i64))), (31, .a (.lf (.int .i64)))], mem := [(0, some (.raw [[.lf .bool, .snil 1 68]] 2 72 true false)), (1, some (.raw [[.lf .bool, .lf (.sl (.int .u32)), .lf .bool, .lf (.sl (.int .u32))]] 4 74 true false)), (2, some (.raw [[.lf .bool, .lf (.sl (.int .u32)), .lf .bool, .lf (.sl (.int .u32))]] 4 74 true false)), (3, some (.arr (.int .u32) 1 68 false))], nx := 4 }]
def qnp : List OS := [⟨some 0, { fr := [(0, .a (.ptr 0 0 0)), (1, .a (.ptr 1 0 0)), (2, .a (.ptr 2 0 0)), (7, .a (.smz 3))], mem := [(0, some (.raw [[.lf .bool, .snil 1 68]] 2 72 true false)), (1, some (.raw [[.lf .bool, .lf (.sl (.int .u32)), .lf .bool, .lf (.sl (.int .u32))]] 4 74 true false)), (2, some (.raw [[.lf .bool, .lf (.sl (.int .u32)), .lf .bool, .lf (.sl (.int .u32))]] 4 74 true false)), (3, some (.arr (.int .u32) 1 68 false))], nx := 4 }⟩]
def qnq (k : Nat) : LInst := ⟨0, qiT, qnp, fun x => qbv k k x.1 x.2.1 x.2.2.1 x.2.2.2.1 x.2.2.2.2.1 x.2.2.2.2.2.1 x.2.2.2.2.2.2.1 x.2.2.2.2.2.2.2.1 x.2.2.2.2.2.2.2.2.1 x.2.2.2.2.2.2.2.2.2.1 x.2.2.2.2.2.2.2.2.2.2.1 x.2.2.2.2.2.2.2.2.2.2.2.1 x.2.2.2.2.2.2.2.2.2.2.2.2.1 x.2.2.2.2.2.2.2.2.2.2.2.2.2⟩
theorem qBq (k : Nat) : qg (LOk (R := DS OS.D qnp) (fun b _ σ K => LOt Ty (kps 75) 3 b σ K [qgt k]) cf (call cf k) (kps 75) Tryz.f75.ntmps k 3) 0 (lb Tryz.f75 0) :=
 qA qT (qA (qA qT qT) (qA (qA qT (qA qT (qA (qA qT (qw (c := cf) (callF := call cf k) (kp := kps 75) (nt := Tryz.f75.ntmps) (k := k) (p := 3) (b := 2) (x0 := lb Tryz.f75 1) (l := [qgt k]) (qA (fun _ => qBp k) qT))) qT))) qT))
theorem qBr (k n : Nat) (x : DS SS.D qiT) : qbv k (n + 1) x.1 x.2.1 x.2.2.1 x.2.2.2.1 x.2.2.2.2.1 x.2.2.2.2.2.1 x.2.2.2.2.2.2.1 x.2.2.2.2.2.2.2.1 x.2.2.2.2.2.2.2.2.1 x.2.2.2.2.2.2.2.2.2.1 x.2.2.2.2.2.2.2.2.2.2.1 x.2.2.2.2.2.2.2.2.2.2.2.1 x.2.2.2.2.2.2.2.2.2.2.2.2.1 x.2.2.2.2.2.2.2.2.2.2.2.2.2 = qD SS.enc (fun σ => qF cf (fun f a b K => COt f a b K [qdD k]) (fun b _ σ K => LOt Ty (kps 75) 3 b σ K [qgt k]) Tryz.f75.ntmps 0 (lb Tryz.f75 0) σ (qH Ty (kps 75 0) 3 qiT qnp fun x => qbv k n x.1 x.2.1 x.2.2.1 x.2.2.2.1 x.2.2.2.2.1 x.2.2.2.2.2.1 x.2.2.2.2.2.2.1 x.2.2.2.2.2.2.2.1 x.2.2.2.2.2.2.2.2.1 x.2.2.2.2.2.2.2.2.2.1 x.2.2.2.2.2.2.2.2.2.2.1 x.2.2.2.2.2.2.2.2.2.2.2.1 x.2.2.2.2.2.2.2.2.2.2.2.2.1 x.2.2.2.2.2.2.2.2.2.2.2.2.2)) qiT x := by kernel_rfl
theorem qBs (k : Nat) : qY cf (call cf k) (kps 75) Tryz.f75.ntmps k 3 0 (lb Tryz.f75 0) (qnq k) :=
 qr (c := cf) (callF := call cf k) (kp := kps 75) (nt := Tryz.f75.ntmps) (k := k) (p := 3) (b := 0) (x0 := lb Tryz.f75 0) (hs := qiT) (os := qnp) (qd (qxi k)) (qBq k) (fun n x => qbv k n x.1 x.2.1 x.2.2.1 x.2.2.2.1 x.2.2.2.2.1 x.2.2.2.2.2.1 x.2.2.2.2.2.2.1 x.2.2.2.2.2.2.2.1 x.2.2.2.2.2.2.2.2.1 x.2.2.2.2.2.2.2.2.2.1 x.2.2.2.2.2.2.2.2.2.2.1 x.2.2.2.2.2.2.2.2.2.2.2.1 x.2.2.2.2.2.2.2.2.2.2.2.2.1 x.2.2.2.2.2.2.2.2.2.2.2.2.2) (fun _ => rfl) (qBr k)
theorem qJr (k : Nat) : qg (LOk (R := DS FS.D quC) (fun b _ σ K => LOt Ty (kps 75) 3 b σ K [qgt k, qnq k]) cf (call cf k) (cf.keep 75) Tryz.f75.ntmps k qpc.bs.length) 0 (bd Tryz.f75) :=
 qA qT (qA qT (qA (qA qT (qw (c := cf) (callF := call cf k) (kp := kps 75) (nt := Tryz.f75.ntmps) (k := k) (p := 3) (b := 0) (x0 := lb Tryz.f75 0) (l := [qgt k, qnq k]) (qA (fun h => absurd (show (2 : Nat) = 0 from h) (by decide)) (qA (fun _ => qBs k) qT)))) (qA qT qT)))
theorem qJs (k : Nat) (x : qpc.D) : qb3 (k + 1) x.1 x.2.1 x.2.2.1 x.2.2.2.1 x.2.2.2.2.1 x.2.2.2.2.2.1 x.2.2.2.2.2.2.1 x.2.2.2.2.2.2.2.1 x.2.2.2.2.2.2.2.2 = qi cf (fun f a b K => COt f a b K [qdD k]) (fun b _ σ K => LOt Ty (kps 75) 3 b σ K [qgt k, qnq k]) 75 Tryz.f75.ntmps Tryz.f75.results.toList (bd Tryz.f75) (qpc.enc x).1 (qpc.enc x).2 (qj FS.dec quC) := by kernel_rfl
theorem qBt : ∀ k, qf (call cf k) (Iq6 k)
 | 0 => fun x y e => absurd (show (none : Option _) = some y from e) (by simp)
 | k + 1 => qe (c := cf) (k := k) (f := 75) (fn := Tryz.f75) (body := bd Tryz.f75) (sh := qpc) (os := quC) rfl Tryz.func75 rfl ⟨rfl, Nat.le_of_ble_eq_true rfl⟩ (qd (qxi k)) (qJr k) (fun x => qb3 (k + 1) x.1 x.2.1 x.2.2.1 x.2.2.2.1 x.2.2.2.2.1 x.2.2.2.2.2.1 x.2.2.2.2.2.2.1 x.2.2.2.2.2.2.2.1 x.2.2.2.2.2.2.2.2) (qJs k)

def qU (k : Nat) (rec : Nat → Int → Int → Int → List Int → Int → Int → List Int → Int → Int → Bool → Bool → List Int → Bool → List Int → List Int → Option (Nat × Int × Int × List Int × Int × Int × Bool × Bool × List Int × Bool × List Int × List Int)) (out1 : Nat) (i : Int) (a : Int) (carry : Int) (x : List Int) (x1 : Int) (x2 : Int) (x3 : List Int) (x4 : Int) (x5 : Int) (z : Bool) (x0 : Bool) (x11 : List Int) (y0 : Bool) (y1 : List Int) (outs : List Int) : Option (Nat × Int × Int × List Int × Int × Int × Bool × Bool × List Int × Bool × List Int × List Int) :=
 if ((decide (x5 < x4)) = true) then
 if ((0 : Int) ≤ x5) then
 Option.bind (x3)[(Int.toNat x5)]? fun x6 =>
 if (((0 : Int) ≤ (IntKind.wrap .i64 (i + x5))) ∧ ((IntKind.wrap .i64 (i + x5)) < ((out1 : Nat) : Int))) then
 Option.bind (outs)[(0 + (Int.toNat (IntKind.wrap .i64 (i + x5))))]? fun x7 =>
 if (((0 : Int) ≤ (IntKind.wrap .i64 (i + x5))) ∧ ((IntKind.wrap .i64 (i + x5)) < ((out1 : Nat) : Int))) then
 Option.bind (outs)[(0 + (Int.toNat (IntKind.wrap .i64 (i + x5))))]? fun x8 =>
 rec out1 i a (Int.fdiv (IntKind.wrap .u64 ((IntKind.wrap .u64 ((IntKind.wrap .u64 ((IntKind.wrap .u64 a) * (IntKind.wrap .u64 x6))) + (IntKind.wrap .u64 x7))) + carry)) (4294967296 : Int)) x x1 x2 x3 x4 (IntKind.wrap .i64 (x5 + (1 : Int))) z x0 x11 y0 y1 (List.set outs (0 + (Int.toNat (IntKind.wrap .i64 (i + x5)))) (IntKind.wrap .u32 (IntKind.wrap .u64 ((IntKind.wrap .u64 ((IntKind.wrap .u64 ((IntKind.wrap .u64 a) * (IntKind.wrap .u64 x6))) + (IntKind.wrap .u64 x7))) + carry))))
 else
 none
 else
 none
 else
 none
 else
 (some (out1, i, carry, x, x1, x2, z, x0, x11, y0, y1, outs))
def qG (k n : Nat) : Nat → Int → Int → Int → List Int → Int → Int → List Int → Int → Int → Bool → Bool → List Int → Bool → List Int → List Int → Option (Nat × Int × Int × List Int × Int × Int × Bool × Bool × List Int × Bool × List Int × List Int) := Nat.rec (fun _ _ _ _ _ _ _ _ _ _ _ _ _ _ _ _ => none) (fun _ r => qU k r) n
def qV (k : Nat) (rec : Nat → List Int → Int → Int → Bool → Bool → List Int → Bool → List Int → List Int → Option (Nat × Bool × Bool × List Int × Bool × List Int × List Int)) (out1 : Nat) (x : List Int) (x1 : Int) (x2 : Int) (z : Bool) (x0 : Bool) (x11 : List Int) (y0 : Bool) (y1 : List Int) (outs : List Int) : Option (Nat × Bool × Bool × List Int × Bool × List Int × List Int) :=
 if ((decide (x2 < x1)) = true) then
 if ((0 : Int) ≤ x2) then
 Option.bind (x)[(Int.toNat x2)]? fun x4 =>
 Option.bind (qG k k out1 x2 x4 (0 : Int) x x1 x2 y1 (((List.length y1) : Nat) : Int) (0 : Int) z x0 x11 y0 y1 outs) fun r6 =>
 if (((0 : Int) ≤ (IntKind.wrap .i64 (r6.2.1 + (((List.length r6.2.2.2.2.2.2.2.2.2.2.1) : Nat) : Int)))) ∧ ((IntKind.wrap .i64 (r6.2.1 + (((List.length r6.2.2.2.2.2.2.2.2.2.2.1) : Nat) : Int))) < ((r6.1 : Nat) : Int))) then
 Option.bind (r6.2.2.2.2.2.2.2.2.2.2.2)[(0 + (Int.toNat (IntKind.wrap .i64 (r6.2.1 + (((List.length r6.2.2.2.2.2.2.2.2.2.2.1) : Nat) : Int)))))]? fun x5 =>
 rec r6.1 r6.2.2.2.1 r6.2.2.2.2.1 (IntKind.wrap .i64 (r6.2.2.2.2.2.1 + (1 : Int))) r6.2.2.2.2.2.2.1 r6.2.2.2.2.2.2.2.1 r6.2.2.2.2.2.2.2.2.1 r6.2.2.2.2.2.2.2.2.2.1 r6.2.2.2.2.2.2.2.2.2.2.1 (List.set r6.2.2.2.2.2.2.2.2.2.2.2 (0 + (Int.toNat (IntKind.wrap .i64 (r6.2.1 + (((List.length r6.2.2.2.2.2.2.2.2.2.2.1) : Nat) : Int))))) (IntKind.wrap .u32 r6.2.2.1))
 else
 none
 else
 none
 else
 (some (out1, z, x0, x11, y0, y1, outs))
def qC (k n : Nat) : Nat → List Int → Int → Int → Bool → Bool → List Int → Bool → List Int → List Int → Option (Nat × Bool × Bool × List Int × Bool × List Int × List Int) := Nat.rec (fun _ _ _ _ _ _ _ _ _ _ => none) (fun _ r => qV k r) n
def qb4 (k : Nat) (z : Bool) (x0 : Bool) (x1 : List Int) (y0 : Bool) (y1 : List Int) : Option (Bool × List Int × Bool × List Int × Bool × List Int) :=
 if (((0 : Int) ≤ (IntKind.wrap .i64 ((((List.length x1) : Nat) : Int) + (((List.length y1) : Nat) : Int)))) ∧ (((IntKind.wrap .i64 ((((List.length x1) : Nat) : Int) + (((List.length y1) : Nat) : Int))) ≤ (IntKind.wrap .i64 ((((List.length x1) : Nat) : Int) + (((List.length y1) : Nat) : Int)))) ∧ (((IntKind.wrap .i64 ((((List.length x1) : Nat) : Int) + (((List.length y1) : Nat) : Int))) * (4 : Int)) ≤ (140737488355328 : Int)))) then
 Option.bind (qC k k (Int.toNat (IntKind.wrap .i64 ((((List.length x1) : Nat) : Int) + (((List.length y1) : Nat) : Int)))) x1 (((List.length x1) : Nat) : Int) (0 : Int) z x0 x1 y0 y1 (List.replicate (Int.toNat (IntKind.wrap .i64 ((((List.length x1) : Nat) : Int) + (((List.length y1) : Nat) : Int)))) (0 : Int))) fun r6 =>
 if ((0 + r6.1) ≤ (List.length r6.2.2.2.2.2.2)) then
 Option.bind (qaj k (!(r6.2.2.1 == r6.2.2.2.2.1)) (List.take r6.1 r6.2.2.2.2.2.2) r6.2.1) fun r7 =>
 (some (r7.1, r7.2, r6.2.2.1, r6.2.2.2.1, r6.2.2.2.2.1, r6.2.2.2.2.2.1))
 else
 none
 else
 none
def qak : Nat → Bool → Bool → List Int → Bool → List Int → Option (Bool × List Int × Bool × List Int × Bool × List Int)
 | 0, _, _, _, _, _ => none
 | k + 1, z, x0, x1, y0, y1 => qb4 k z x0 x1 y0 y1
def qpd : FS := { vs := [.a (.ptr 0 0 0), .a (.ptr 1 0 0), .a (.ptr 2 0 0)], bs := [.raw [[.lf .bool, .snil 1 68]] 2 72 true false, .raw [[.lf .bool, .lf (.sl (.int .u32))]] 2 72 true false, .raw [[.lf .bool, .lf (.sl (.int .u32))]] 2 72 true false] }
def quD : List FS := [{ vs := [.a (.ptr 0 0 0)], bs := [.raw [[.lf .bool, .lf (.sl (.int .u32))]] 2 72 true false, .raw [[.lf .bool, .lf (.sl (.int .u32))]] 2 72 true false, .raw [[.lf .bool, .lf (.sl (.int .u32))]] 2 72 true false] }]
def Iq4 (k : Nat) : Inst := ⟨75, qpd, quD, fun x => qak k x.1 x.2.1 x.2.2.1 x.2.2.2.1 x.2.2.2.2⟩
theorem qxj (k : Nat) : qk (call cf k) [qdD k] := qA (qj6 k) qT
def qiU : List SS := [{ fr := [(0, .a (.ptr 0 0 0)), (1, .a (.ptr 1 0 0)), (2, .a (.ptr 2 0 0)), (7, .a (.smz 3)), (8, .a (.lf (.int .i64))), (9, .a (.lf (.int .u32))), (10, .a (.lf (.int .u64))), (29, .a (.lf (.sl (.int .u32)))), (30, .a (.lf (.int .i64))), (31, .a (.lf (.int .i64))), (39, .a (.lf (.sl (.int .u32)))), (40, .a (.lf (.int .i64))), (41, .a (.lf (.int .i64)))], mem := [(0, some (.raw [[.lf .bool, .snil 1 68]] 2 72 true false)), (1, some (.raw [[.lf .bool, .lf (.sl (.int .u32))]] 2 72 true false)), (2, some (.raw [[.lf .bool, .lf (.sl (.int .u32))]] 2 72 true false)), (3, some (.arr (.int .u32) 1 68 false))], nx := 4 }]
def qnr : List OS := [⟨some 2, { fr := [(0, .a (.ptr 0 0 0)), (1, .a (.ptr 1 0 0)), (2, .a (.ptr 2 0 0)), (7, .a (.smz 3)), (8, .a (.lf (.int .i64))), (10, .a (.lf (.int .u64))), (29, .a (.lf (.sl (.int .u32)))), (30, .a (.lf (.int .i64))), (31, .a (.lf (.int .i64)))], mem := [(0, some (.raw [[.lf .bool, .snil 1 68]] 2 72 true false)), (1, some (.raw [[.lf .bool, .lf (.sl (.int .u32))]] 2 72 true false)), (2, some (.raw [[.lf .bool, .lf (.sl (.int .u32))]] 2 72 true false)), (3, some (.arr (.int .u32) 1 68 false))], nx := 4 }⟩]
def qgu (k : Nat) : LInst := ⟨2, qiU, qnr, fun x => qG k k x.1 x.2.1 x.2.2.1 x.2.2.2.1 x.2.2.2.2.1 x.2.2.2.2.2.1 x.2.2.2.2.2.2.1 x.2.2.2.2.2.2.2.1 x.2.2.2.2.2.2.2.2.1 x.2.2.2.2.2.2.2.2.2.1 x.2.2.2.2.2.2.2.2.2.2.1 x.2.2.2.2.2.2.2.2.2.2.2.1 x.2.2.2.2.2.2.2.2.2.2.2.2.1 x.2.2.2.2.2.2.2.2.2.2.2.2.2.1 x.2.2.2.2.2.2.2.2.2.2.2.2.2.2.1 x.2.2.2.2.2.2.2.2.2.2.2.2.2.2.2⟩
theorem qBu (k : Nat) : qg (LOk (R := DS OS.D qnr) (fun b _ σ K => LOt Ty (kps 75) 3 b σ K []) cf (call cf k) (kps 75) Tryz.f75.ntmps k 3) 2 (lb Tryz.f75 1) :=
 qA qT (qA (qA qT qT) (qA (qA qT (qA qT (qA qT qT))) qT))
theorem qBv (k n : Nat) (x : DS SS.D qiU) : qG k (n + 1) x.1 x.2.1 x.2.2.1 x.2.2.2.1 x.2.2.2.2.1 x.2.2.2.2.2.1 x.2.2.2.2.2.2.1 x.2.2.2.2.2.2.2.1 x.2.2.2.2.2.2.2.2.1 x.2.2.2.2.2.2.2.2.2.1 x.2.2.2.2.2.2.2.2.2.2.1 x.2.2.2.2.2.2.2.2.2.2.2.1 x.2.2.2.2.2.2.2.2.2.2.2.2.1 x.2.2.2.2.2.2.2.2.2.2.2.2.2.1 x.2.2.2.2.2.2.2.2.2.2.2.2.2.2.1 x.2.2.2.2.2.2.2.2.2.2.2.2.2.2.2 = qD SS.enc (fun σ => qF cf (fun f a b K => COt f a b K [qdD k]) (fun b _ σ K => LOt Ty (kps 75) 3 b σ K []) Tryz.f75.ntmps 2 (lb Tryz.f75 1) σ (qH Ty (kps 75 2) 3 qiU qnr fun x => qG k n x.1 x.2.1 x.2.2.1 x.2.2.2.1 x.2.2.2.2.1 x.2.2.2.2.2.1 x.2.2.2.2.2.2.1 x.2.2.2.2.2.2.2.1 x.2.2.2.2.2.2.2.2.1 x.2.2.2.2.2.2.2.2.2.1 x.2.2.2.2.2.2.2.2.2.2.1 x.2.2.2.2.2.2.2.2.2.2.2.1 x.2.2.2.2.2.2.2.2.2.2.2.2.1 x.2.2.2.2.2.2.2.2.2.2.2.2.2.1 x.2.2.2.2.2.2.2.2.2.2.2.2.2.2.1 x.2.2.2.2.2.2.2.2.2.2.2.2.2.2.2)) qiU x := by kernel_rfl
theorem qBw (k : Nat) : qY cf (call cf k) (kps 75) Tryz.f75.ntmps k 3 2 (lb Tryz.f75 1) (qgu k) :=
 qr (c := cf) (callF := call cf k) (kp := kps 75) (nt := Tryz.f75.ntmps) (k := k) (p := 3) (b := 2) (x0 := lb Tryz.f75 1) (hs := qiU) (os := qnr) (qd (qxj k)) (qBu k) (fun n x => qG k n x.1 x.2.1 x.2.2.1 x.2.2.2.1 x.2.2.2.2.1 x.2.2.2.2.2.1 x.2.2.2.2.2.2.1 x.2.2.2.2.2.2.2.1 x.2.2.2.2.2.2.2.2.1 x.2.2.2.2.2.2.2.2.2.1 x.2.2.2.2.2.2.2.2.2.2.1 x.2.2.2.2.2.2.2.2.2.2.2.1 x.2.2.2.2.2.2.2.2.2.2.2.2.1 x.2.2.2.2.2.2.2.2.2.2.2.2.2.1 x.2.2.2.2.2.2.2.2.2.2.2.2.2.2.1 x.2.2.2.2.2.2.2.2.2.2.2.2.2.2.2) (fun _ => rfl) (qBv k)
def qiV : List SS := [{ fr := [(0, .a (.ptr 0 0 0)), (1, .a (.ptr 1 0 0)), (2, .a (.ptr 2 0 0)), (7, .a (.smz 3)), (29, .a (.lf (.sl (.int .u32)))), (30, .a (.lf (.int .i64))), (31, .a (.lf (.int .i64)))], mem := [(0, some (.raw [[.lf .bool, .snil 1 68]] 2 72 true false)), (1, some (.raw [[.lf .bool, .lf (.sl (.int .u32))]] 2 72 true false)), (2, some (.raw [[.lf .bool, .lf (.sl (.int .u32))]] 2 72 true false)), (3, some (.arr (.int .u32) 1 68 false))], nx := 4 }]
def qns : List OS := [⟨some 0, { fr := [(0, .a (.ptr 0 0 0)), (1, .a (.ptr 1 0 0)), (2, .a (.ptr 2 0 0)), (7, .a (.smz 3))], mem := [(0, some (.raw [[.lf .bool, .snil 1 68]] 2 72 true false)), (1, some (.raw [[.lf .bool, .lf (.sl (.int .u32))]] 2 72 true false)), (2, some (.raw [[.lf .bool, .lf (.sl (.int .u32))]] 2 72 true false)), (3, some (.arr (.int .u32) 1 68 false))], nx := 4 }⟩]
def qnt (k : Nat) : LInst := ⟨0, qiV, qns, fun x => qC k k x.1 x.2.1 x.2.2.1 x.2.2.2.1 x.2.2.2.2.1 x.2.2.2.2.2.1 x.2.2.2.2.2.2.1 x.2.2.2.2.2.2.2.1 x.2.2.2.2.2.2.2.2.1 x.2.2.2.2.2.2.2.2.2⟩
theorem qBx (k : Nat) : qg (LOk (R := DS OS.D qns) (fun b _ σ K => LOt Ty (kps 75) 3 b σ K [qgu k]) cf (call cf k) (kps 75) Tryz.f75.ntmps k 3) 0 (lb Tryz.f75 0) :=
 qA qT (qA (qA qT qT) (qA (qA qT (qA qT (qA (qA qT (qw (c := cf) (callF := call cf k) (kp := kps 75) (nt := Tryz.f75.ntmps) (k := k) (p := 3) (b := 2) (x0 := lb Tryz.f75 1) (l := [qgu k]) (qA (fun _ => qBw k) qT))) qT))) qT))
theorem qBy (k n : Nat) (x : DS SS.D qiV) : qC k (n + 1) x.1 x.2.1 x.2.2.1 x.2.2.2.1 x.2.2.2.2.1 x.2.2.2.2.2.1 x.2.2.2.2.2.2.1 x.2.2.2.2.2.2.2.1 x.2.2.2.2.2.2.2.2.1 x.2.2.2.2.2.2.2.2.2 = qD SS.enc (fun σ => qF cf (fun f a b K => COt f a b K [qdD k]) (fun b _ σ K => LOt Ty (kps 75) 3 b σ K [qgu k]) Tryz.f75.ntmps 0 (lb Tryz.f75 0) σ (qH Ty (kps 75 0) 3 qiV qns fun x => qC k n x.1 x.2.1 x.2.2.1 x.2.2.2.1 x.2.2.2.2.1 x.2.2.2.2.2.1 x.2.2.2.2.2.2.1 x.2.2.2.2.2.2.2.1 x.2.2.2.2.2.2.2.2.1 x.2.2.2.2.2.2.2.2.2)) qiV x := by kernel_rfl
theorem qBz (k : Nat) : qY cf (call cf k) (kps 75) Tryz.f75.ntmps k 3 0 (lb Tryz.f75 0) (qnt k) :=
 qr (c := cf) (callF := call cf k) (kp := kps 75) (nt := Tryz.f75.ntmps) (k := k) (p := 3) (b := 0) (x0 := lb Tryz.f75 0) (hs := qiV) (os := qns) (qd (qxj k)) (qBx k) (fun n x => qC k n x.1 x.2.1 x.2.2.1 x.2.2.2.1 x.2.2.2.2.1 x.2.2.2.2.2.1 x.2.2.2.2.2.2.1 x.2.2.2.2.2.2.2.1 x.2.2.2.2.2.2.2.2.1 x.2.2.2.2.2.2.2.2.2) (fun _ => rfl) (qBy k)
theorem qJt (k : Nat) : qg (LOk (R := DS FS.D quD) (fun b _ σ K => LOt Ty (kps 75) 3 b σ K [qgu k, qnt k]) cf (call cf k) (cf.keep 75) Tryz.f75.ntmps k qpd.bs.length) 0 (bd Tryz.f75) :=
 qA qT (qA qT (qA (qA qT (qw (c := cf) (callF := call cf k) (kp := kps 75) (nt := Tryz.f75.ntmps) (k := k) (p := 3) (b := 0) (x0 := lb Tryz.f75 0) (l := [qgu k, qnt k]) (qA (fun h => absurd (show (2 : Nat) = 0 from h) (by decide)) (qA (fun _ => qBz k) qT)))) (qA qT qT)))
theorem qJu (k : Nat) (x : qpd.D) : qak (k + 1) x.1 x.2.1 x.2.2.1 x.2.2.2.1 x.2.2.2.2 = qi cf (fun f a b K => COt f a b K [qdD k]) (fun b _ σ K => LOt Ty (kps 75) 3 b σ K [qgu k, qnt k]) 75 Tryz.f75.ntmps Tryz.f75.results.toList (bd Tryz.f75) (qpd.enc x).1 (qpd.enc x).2 (qj FS.dec quD) := by kernel_rfl
theorem qsl : ∀ k, qf (call cf k) (Iq4 k)
 | 0 => fun x y e => absurd (show (none : Option _) = some y from e) (by simp)
 | k + 1 => qe (c := cf) (k := k) (f := 75) (fn := Tryz.f75) (body := bd Tryz.f75) (sh := qpd) (os := quD) rfl Tryz.func75 rfl ⟨rfl, Nat.le_of_ble_eq_true rfl⟩ (qd (qxj k)) (qJt k) (fun x => qak (k + 1) x.1 x.2.1 x.2.2.1 x.2.2.2.1 x.2.2.2.2) (qJu k)

def qlu (k : Nat) (z0 : Bool) (z1 : List Int) (z2 : Bool) (z3 : List Int) (n0 : Bool) (n1 : List Int) (d0 : Bool) (d1 : List Int) : Option (Bool × List Int × Bool × List Int × Bool × List Int × Bool × List Int) :=
 Option.bind (qdd k n0 n1 d0 d1) fun r7 =>
 if (r7.2.2.1 = true) then
 Option.bind (qZ k false r7.1 r7.2.1 true r7.2.2.2.2.2) fun r8 =>
 Option.bind (qZ k false r7.2.2.1 r7.2.2.2.1 r8.2.2.2.2.1 r8.2.2.2.2.2) fun r9 =>
 (some (r8.1, r8.2.1, r9.1, r9.2.1, r8.2.2.1, r8.2.2.2.1, r9.2.2.1, r9.2.2.2.1))
 else
 Option.bind (qZ k false r7.1 r7.2.1 r7.2.2.2.2.1 r7.2.2.2.2.2) fun r8 =>
 Option.bind (qZ k false r7.2.2.1 r7.2.2.2.1 r8.2.2.2.2.1 r8.2.2.2.2.2) fun r9 =>
 (some (r8.1, r8.2.1, r9.1, r9.2.1, r8.2.2.1, r8.2.2.2.1, r9.2.2.1, r9.2.2.2.1))
def qbc : Nat → Bool → List Int → Bool → List Int → Bool → List Int → Bool → List Int → Option (Bool × List Int × Bool × List Int × Bool × List Int × Bool × List Int)
 | 0, _, _, _, _, _, _, _, _ => none
 | k + 1, z0, z1, z2, z3, n0, n1, d0, d1 => qlu k z0 z1 z2 z3 n0 n1 d0 d1
def qki : FS := { vs := [.a (.ptr 0 0 0), .a (.ptr 1 0 0), .a (.ptr 2 0 0)], bs := [.raw [[.lf .bool, .lf (.sl (.int .u32)), .lf .bool, .lf (.sl (.int .u32))]] 4 74 true false, .raw [[.lf .bool, .lf (.sl (.int .u32))]] 2 72 true false, .raw [[.lf .bool, .lf (.sl (.int .u32))]] 2 72 true false] }
def qqy : List FS := [{ vs := [.a (.ptr 0 0 0)], bs := [.raw [[.lf .bool, .lf (.sl (.int .u32)), .lf .bool, .lf (.sl (.int .u32))]] 4 74 true false, .raw [[.lf .bool, .lf (.sl (.int .u32))]] 2 72 true false, .raw [[.lf .bool, .lf (.sl (.int .u32))]] 2 72 true false] }]
def qsm (k : Nat) : Inst := ⟨77, qki, qqy, fun x => qbc k x.1 x.2.1 x.2.2.1 x.2.2.2.1 x.2.2.2.2.1 x.2.2.2.2.2.1 x.2.2.2.2.2.2.1 x.2.2.2.2.2.2.2⟩
theorem qFI (k : Nat) : qk (call cf k) [Iq1 k, qsh k] := qA (qxc k) (qA (qys k) qT)
theorem qFJ (k : Nat) : qg (LOk (R := DS FS.D qqy) (fun b _ σ K => LOt Ty (kps 77) 3 b σ K []) cf (call cf k) (cf.keep 77) Tryz.f77.ntmps k qki.bs.length) 0 (bd Tryz.f77) :=
 qA qT (qA qT (qA (qA qT (qA qT qT)) (qA qT (qA qT (qA qT (qA qT (qA qT qT)))))))
theorem qFK (k : Nat) (x : qki.D) : qbc (k + 1) x.1 x.2.1 x.2.2.1 x.2.2.2.1 x.2.2.2.2.1 x.2.2.2.2.2.1 x.2.2.2.2.2.2.1 x.2.2.2.2.2.2.2 = qi cf (fun f a b K => COt f a b K [Iq1 k, qsh k]) (fun b _ σ K => LOt Ty (kps 77) 3 b σ K []) 77 Tryz.f77.ntmps Tryz.f77.results.toList (bd Tryz.f77) (qki.enc x).1 (qki.enc x).2 (qj FS.dec qqy) := by kernel_rfl
theorem qyv : ∀ k, qf (call cf k) (qsm k)
 | 0 => fun x y e => absurd (show (none : Option _) = some y from e) (by simp)
 | k + 1 => qe (c := cf) (k := k) (f := 77) (fn := Tryz.f77) (body := bd Tryz.f77) (sh := qki) (os := qqy) rfl Tryz.func77 rfl ⟨rfl, Nat.le_of_ble_eq_true rfl⟩ (qd (qFI k)) (qFJ k) (fun x => qbc (k + 1) x.1 x.2.1 x.2.2.1 x.2.2.2.1 x.2.2.2.2.1 x.2.2.2.2.2.1 x.2.2.2.2.2.2.1 x.2.2.2.2.2.2.2) (qFK k)

def qlU (k : Nat) (x0 : Bool) (x1 : List Int) (x2 : Bool) (x3 : List Int) (y0 : Bool) (y1 : List Int) (y2 : Bool) (y3 : List Int) : Option (Bool × List Int × Bool × List Int × Bool × List Int × Bool × List Int) :=
 Option.bind (qb3 k false x0 x1 x2 x3 y0 y1 y2 y3) fun r3 =>
 Option.bind (qo k r3.2.2.1 r3.2.2.2.1 r3.2.2.2.2.1 r3.2.2.2.2.2.1) fun r4 =>
 Option.bind (qo k r3.2.2.2.2.2.2.1 r3.2.2.2.2.2.2.2.1 r3.2.2.2.2.2.2.2.2.1 r3.2.2.2.2.2.2.2.2.2) fun r5 =>
 Option.bind (qak k false r4.2.2.2.2.1 r4.2.2.2.2.2 r5.2.2.2.2.1 r5.2.2.2.2.2) fun r6 =>
 Option.bind (qbc k r4.1 r4.2.1 r4.2.2.1 r4.2.2.2.1 r3.1 r3.2.1 r6.1 r6.2.1) fun r7 =>
 (some (r7.1, r7.2.1, r7.2.2.1, r7.2.2.2.1, r5.1, r5.2.1, r5.2.2.1, r5.2.2.2.1))
def qbw : Nat → Bool → List Int → Bool → List Int → Bool → List Int → Bool → List Int → Option (Bool × List Int × Bool × List Int × Bool × List Int × Bool × List Int)
 | 0, _, _, _, _, _, _, _, _ => none
 | k + 1, x0, x1, x2, x3, y0, y1, y2, y3 => qlU k x0 x1 x2 x3 y0 y1 y2 y3
def qkj : FS := { vs := [.a (.ptr 0 0 0), .a (.ptr 0 0 0), .a (.ptr 1 0 0)], bs := [.raw [[.lf .bool, .lf (.sl (.int .u32)), .lf .bool, .lf (.sl (.int .u32))]] 4 74 true false, .raw [[.lf .bool, .lf (.sl (.int .u32)), .lf .bool, .lf (.sl (.int .u32))]] 4 74 true false] }
def qqz : List FS := [{ vs := [.a (.ptr 0 0 0)], bs := [.raw [[.lf .bool, .lf (.sl (.int .u32)), .lf .bool, .lf (.sl (.int .u32))]] 4 74 true false, .raw [[.lf .bool, .lf (.sl (.int .u32)), .lf .bool, .lf (.sl (.int .u32))]] 4 74 true false] }]
def quE (k : Nat) : Inst := ⟨34, qkj, qqz, fun x => qbw k x.1 x.2.1 x.2.2.1 x.2.2.2.1 x.2.2.2.2.1 x.2.2.2.2.2.1 x.2.2.2.2.2.2.1 x.2.2.2.2.2.2.2⟩
theorem qFL (k : Nat) : qk (call cf k) [Iq6 k, qeu k, Iq4 k, qsm k] := qA (qBt k) (qA (qgO k) (qA (qsl k) (qA (qyv k) qT)))
theorem qFM (k : Nat) : qg (LOk (R := DS FS.D qqz) (fun b _ σ K => LOt Ty (kps 34) 2 b σ K []) cf (call cf k) (cf.keep 34) Tryz.f34.ntmps k qkj.bs.length) 0 (bd Tryz.f34) :=
 qA qT (qA qT (qA qT (qA qT (qA qT qT))))
theorem qFN (k : Nat) (x : qkj.D) : qbw (k + 1) x.1 x.2.1 x.2.2.1 x.2.2.2.1 x.2.2.2.2.1 x.2.2.2.2.2.1 x.2.2.2.2.2.2.1 x.2.2.2.2.2.2.2 = qi cf (fun f a b K => COt f a b K [Iq6 k, qeu k, Iq4 k, qsm k]) (fun b _ σ K => LOt Ty (kps 34) 2 b σ K []) 34 Tryz.f34.ntmps Tryz.f34.results.toList (bd Tryz.f34) (qkj.enc x).1 (qkj.enc x).2 (qj FS.dec qqz) := by kernel_rfl
theorem qFO : ∀ k, qf (call cf k) (quE k)
 | 0 => fun x y e => absurd (show (none : Option _) = some y from e) (by simp)
 | k + 1 => qe (c := cf) (k := k) (f := 34) (fn := Tryz.f34) (body := bd Tryz.f34) (sh := qkj) (os := qqz) rfl Tryz.func34 rfl ⟨rfl, Nat.le_of_ble_eq_true rfl⟩ (qd (qFL k)) (qFM k) (fun x => qbw (k + 1) x.1 x.2.1 x.2.2.1 x.2.2.2.1 x.2.2.2.2.1 x.2.2.2.2.2.1 x.2.2.2.2.2.2.1 x.2.2.2.2.2.2.2) (qFN k)

def qg0 (k : Nat) (a0 : Bool) (a1 : List Int) : Option (Int) :=
 if ((decide ((((List.length a1) : Nat) : Int) > (72 : Int))) = false) then
 if (((((List.length a1) : Nat) : Int) == (0 : Int)) = true) then
 if (a0 = false) then
 if ((decide ((((List.length a1) : Nat) : Int) > (0 : Int))) = true) then
 if ((0 : Int) ≤ (IntKind.wrap .i64 ((((List.length a1) : Nat) : Int) - (1 : Int)))) then
 Option.bind (a1)[(Int.toNat (IntKind.wrap .i64 ((((List.length a1) : Nat) : Int) - (1 : Int))))]? fun x1 =>
 if ((x1 == (0 : Int)) = true) then
 (some (10 : Int))
 else
 (some (0 : Int))
 else
 none
 else
 (some (0 : Int))
 else
 (some (10 : Int))
 else
 if ((decide ((((List.length a1) : Nat) : Int) > (0 : Int))) = true) then
 if ((0 : Int) ≤ (IntKind.wrap .i64 ((((List.length a1) : Nat) : Int) - (1 : Int)))) then
 Option.bind (a1)[(Int.toNat (IntKind.wrap .i64 ((((List.length a1) : Nat) : Int) - (1 : Int))))]? fun x1 =>
 if ((x1 == (0 : Int)) = true) then
 (some (10 : Int))
 else
 (some (0 : Int))
 else
 none
 else
 (some (0 : Int))
 else
 (some (10 : Int))
def qbI : Nat → Bool → List Int → Option (Int)
 | 0, _, _ => none
 | k + 1, a0, a1 => qg0 k a0 a1
def qkk : FS := { vs := [.g [.lf .bool, .lf (.sl (.int .u32))]], bs := [] }
def qqA : List FS := [{ vs := [.a (.lf (.int .i64))], bs := [] }]
def qh8 (k : Nat) : Inst := ⟨66, qkk, qqA, fun x => qbI k x.1 x.2⟩
theorem qFP (k : Nat) : qk (call cf k) [] := True.intro
theorem qFQ (k : Nat) : qg (LOk (R := DS FS.D qqA) (fun b _ σ K => LOt Ty (kps 66) 0 b σ K []) cf (call cf k) (cf.keep 66) Tryz.f66.ntmps k qkk.bs.length) 0 (bd Tryz.f66) :=
 qA qT (qA qT (qA (qA qT (qA (qA qT qT) qT)) (qA qT qT)))
theorem qFR (k : Nat) (x : qkk.D) : qbI (k + 1) x.1 x.2 = qi cf (fun f a b K => COt f a b K []) (fun b _ σ K => LOt Ty (kps 66) 0 b σ K []) 66 Tryz.f66.ntmps Tryz.f66.results.toList (bd Tryz.f66) (qkk.enc x).1 (qkk.enc x).2 (qj FS.dec qqA) := by kernel_rfl
theorem qqB : ∀ k, qf (call cf k) (qh8 k)
 | 0 => fun x y e => absurd (show (none : Option _) = some y from e) (by simp)
 | k + 1 => qe (c := cf) (k := k) (f := 66) (fn := Tryz.f66) (body := bd Tryz.f66) (sh := qkk) (os := qqA) rfl Tryz.func66 rfl ⟨rfl, Nat.le_of_ble_eq_true rfl⟩ (qd (qFP k)) (qFQ k) (fun x => qbI (k + 1) x.1 x.2) (qFR k)

def qh9 (k : Nat) (a0 : Bool) (a1 : List Int) (b0 : Bool) (b1 : List Int) : Option (Int) :=
 Option.bind (qbI k a0 a1) fun r7 =>
 if ((r7 != (0 : Int)) = true) then
 (some (10 : Int))
 else
 Option.bind (qbI k b0 b1) fun r8 =>
 (some r8)
def qeD : Nat → Bool → List Int → Bool → List Int → Option (Int)
 | 0, _, _, _, _ => none
 | k + 1, a0, a1, b0, b1 => qh9 k a0 a1 b0 b1
def qkl : FS := { vs := [.g [.lf .bool, .lf (.sl (.int .u32))], .g [.lf .bool, .lf (.sl (.int .u32))]], bs := [] }
def qqC : List FS := [{ vs := [.a (.lf (.int .i64))], bs := [] }]
def qxk (k : Nat) : Inst := ⟨116, qkl, qqC, fun x => qeD k x.1 x.2.1 x.2.2.1 x.2.2.2⟩
theorem qFS (k : Nat) : qk (call cf k) [qh8 k] := qA (qqB k) qT
theorem qFT (k : Nat) : qg (LOk (R := DS FS.D qqC) (fun b _ σ K => LOt Ty (kps 116) 0 b σ K []) cf (call cf k) (cf.keep 116) Tryz.f116.ntmps k qkl.bs.length) 0 (bd Tryz.f116) :=
 qA qT (qA (qA qT (qA (qA qT qT) qT)) (qA qT qT))
theorem qFU (k : Nat) (x : qkl.D) : qeD (k + 1) x.1 x.2.1 x.2.2.1 x.2.2.2 = qi cf (fun f a b K => COt f a b K [qh8 k]) (fun b _ σ K => LOt Ty (kps 116) 0 b σ K []) 116 Tryz.f116.ntmps Tryz.f116.results.toList (bd Tryz.f116) (qkl.enc x).1 (qkl.enc x).2 (qj FS.dec qqC) := by kernel_rfl
theorem qFV : ∀ k, qf (call cf k) (qxk k)
 | 0 => fun x y e => absurd (show (none : Option _) = some y from e) (by simp)
 | k + 1 => qe (c := cf) (k := k) (f := 116) (fn := Tryz.f116) (body := bd Tryz.f116) (sh := qkl) (os := qqC) rfl Tryz.func116 rfl ⟨rfl, Nat.le_of_ble_eq_true rfl⟩ (qd (qFS k)) (qFT k) (fun x => qeD (k + 1) x.1 x.2.1 x.2.2.1 x.2.2.2) (qFU k)

def qiW (k : Nat) (a0 : Bool) (a1 : List Int) (b0 : Bool) (b1 : List Int) : Option (Bool × List Int × Int) :=
 Option.bind (qeD k a0 a1 b0 b1) fun r7 =>
 if ((r7 != (0 : Int)) = true) then
 (some (false, [], r7))
 else
 Option.bind (qbm k a0 a1) fun r8 =>
 Option.bind (qbm k b0 b1) fun r9 =>
 Option.bind (qdd k r8.1 r8.2 r9.1 r9.2) fun r10 =>
 Option.bind (qaT k r10.2.2.2.2.1 r10.2.2.2.2.2) fun r11 =>
 if ((0 + r11.2.1) ≤ (List.length r11.2.2.2.2)) then
 (some (r11.1, (List.take r11.2.1 r11.2.2.2.2), (0 : Int)))
 else
 none
def qfp : Nat → Bool → List Int → Bool → List Int → Option (Bool × List Int × Int)
 | 0, _, _, _, _ => none
 | k + 1, a0, a1, b0, b1 => qiW k a0 a1 b0 b1
def qkm : FS := { vs := [.g [.lf .bool, .lf (.sl (.int .u32))], .g [.lf .bool, .lf (.sl (.int .u32))]], bs := [] }
def qqD : List FS := [{ vs := [.g [.lf .bool, .lf (.sl (.int .u32))], .a (.lf (.int .i64))], bs := [] }]
def qxl (k : Nat) : Inst := ⟨86, qkm, qqD, fun x => qfp k x.1 x.2.1 x.2.2.1 x.2.2.2⟩
theorem qFW (k : Nat) : qk (call cf k) [qxk k, qge k, Iq1 k, qgd k] := qA (qFV k) (qA (qnl k) (qA (qxc k) (qA (qni k) qT)))
theorem qFX (k : Nat) : qg (LOk (R := DS FS.D qqD) (fun b _ σ K => LOt Ty (kps 86) 0 b σ K []) cf (call cf k) (cf.keep 86) Tryz.f86.ntmps k qkm.bs.length) 0 (bd Tryz.f86) :=
 qA qT (qA (qA qT (qA qT (qA (qA qT qT) qT))) (qA qT qT))
theorem qFY (k : Nat) (x : qkm.D) : qfp (k + 1) x.1 x.2.1 x.2.2.1 x.2.2.2 = qi cf (fun f a b K => COt f a b K [qxk k, qge k, Iq1 k, qgd k]) (fun b _ σ K => LOt Ty (kps 86) 0 b σ K []) 86 Tryz.f86.ntmps Tryz.f86.results.toList (bd Tryz.f86) (qkm.enc x).1 (qkm.enc x).2 (qj FS.dec qqD) := by kernel_rfl
theorem qFZ : ∀ k, qf (call cf k) (qxl k)
 | 0 => fun x y e => absurd (show (none : Option _) = some y from e) (by simp)
 | k + 1 => qe (c := cf) (k := k) (f := 86) (fn := Tryz.f86) (body := bd Tryz.f86) (sh := qkm) (os := qqD) rfl Tryz.func86 rfl ⟨rfl, Nat.le_of_ble_eq_true rfl⟩ (qd (qFW k)) (qFX k) (fun x => qfp (k + 1) x.1 x.2.1 x.2.2.1 x.2.2.2) (qFY k)

def qia (k : Nat) (r0 : Bool) (r1 : List Int) (r2 : Bool) (r3 : List Int) : Option (Int) :=
 Option.bind (qbI k r0 r1) fun r5 =>
 if ((r5 != (0 : Int)) = false) then
 Option.bind (qbI k r2 r3) fun r6 =>
 if ((r6 != (0 : Int)) = true) then
 (some (10 : Int))
 else
 if (r2 = false) then
 if (((((List.length r3) : Nat) : Int) == (0 : Int)) = true) then
 (some (20 : Int))
 else
 Option.bind (qfp k r0 r1 r2 r3) fun r7 =>
 if (((((List.length r7.2.1) : Nat) : Int) != (1 : Int)) = false) then
 Option.bind (r7.2.1)[0]? fun x1 =>
 if ((x1 != (1 : Int)) = true) then
 (some (20 : Int))
 else
 (some (0 : Int))
 else
 (some (20 : Int))
 else
 (some (20 : Int))
 else
 (some (10 : Int))
def qeE : Nat → Bool → List Int → Bool → List Int → Option (Int)
 | 0, _, _, _, _ => none
 | k + 1, r0, r1, r2, r3 => qia k r0 r1 r2 r3
def qkn : FS := { vs := [.g [.lf .bool, .lf (.sl (.int .u32)), .lf .bool, .lf (.sl (.int .u32))]], bs := [] }
def qqE : List FS := [{ vs := [.a (.lf (.int .i64))], bs := [] }]
def qxm (k : Nat) : Inst := ⟨40, qkn, qqE, fun x => qeE k x.1 x.2.1 x.2.2.1 x.2.2.2⟩
theorem qF0 (k : Nat) : qk (call cf k) [qh8 k, qxl k] := qA (qqB k) (qA (qFZ k) qT)
theorem qF1 (k : Nat) : qg (LOk (R := DS FS.D qqE) (fun b _ σ K => LOt Ty (kps 40) 0 b σ K []) cf (call cf k) (cf.keep 40) Tryz.f40.ntmps k qkn.bs.length) 0 (bd Tryz.f40) :=
 qA qT (qA (qA qT (qA (qA qT qT) qT)) (qA (qA qT (qA (qA qT qT) qT)) (qA qT (qA (qA qT (qA (qA qT qT) qT)) (qA qT qT)))))
theorem qF2 (k : Nat) (x : qkn.D) : qeE (k + 1) x.1 x.2.1 x.2.2.1 x.2.2.2 = qi cf (fun f a b K => COt f a b K [qh8 k, qxl k]) (fun b _ σ K => LOt Ty (kps 40) 0 b σ K []) 40 Tryz.f40.ntmps Tryz.f40.results.toList (bd Tryz.f40) (qkn.enc x).1 (qkn.enc x).2 (qj FS.dec qqE) := by kernel_rfl
theorem qF3 : ∀ k, qf (call cf k) (qxm k)
 | 0 => fun x y e => absurd (show (none : Option _) = some y from e) (by simp)
 | k + 1 => qe (c := cf) (k := k) (f := 40) (fn := Tryz.f40) (body := bd Tryz.f40) (sh := qkn) (os := qqE) rfl Tryz.func40 rfl ⟨rfl, Nat.le_of_ble_eq_true rfl⟩ (qd (qF0 k)) (qF1 k) (fun x => qeE (k + 1) x.1 x.2.1 x.2.2.1 x.2.2.2) (qF2 k)

def qeT (k : Nat) (rec : List Int → List Int → Nat → Int → Int → Int → List Int → Option (List Int × Nat × Int × List Int)) (a : List Int) (b : List Int) (out1 : Nat) (carry : Int) (x : Int) (x1 : Int) (outs : List Int) : Option (List Int × Nat × Int × List Int) :=
 if ((decide (x1 < x)) = true) then
 if ((0 : Int) ≤ x1) then
 Option.bind (a)[(Int.toNat x1)]? fun x2 =>
 if ((decide (x1 < (((List.length b) : Nat) : Int))) = true) then
 if ((0 : Int) ≤ x1) then
 Option.bind (b)[(Int.toNat x1)]? fun x3 =>
 if (((0 : Int) ≤ x1) ∧ (x1 < ((out1 : Nat) : Int))) then
 Option.bind (outs)[(0 + (Int.toNat x1))]? fun x4 =>
 rec a b out1 (Int.fdiv (IntKind.wrap .u64 ((IntKind.wrap .u64 ((IntKind.wrap .u64 x2) + carry)) + (IntKind.wrap .u64 x3))) (4294967296 : Int)) x (IntKind.wrap .i64 (x1 + (1 : Int))) (List.set outs (0 + (Int.toNat x1)) (IntKind.wrap .u32 (IntKind.wrap .u64 ((IntKind.wrap .u64 ((IntKind.wrap .u64 x2) + carry)) + (IntKind.wrap .u64 x3)))))
 else
 none
 else
 none
 else
 if (((0 : Int) ≤ x1) ∧ (x1 < ((out1 : Nat) : Int))) then
 Option.bind (outs)[(0 + (Int.toNat x1))]? fun x3 =>
 rec a b out1 (Int.fdiv (IntKind.wrap .u64 ((IntKind.wrap .u64 x2) + carry)) (4294967296 : Int)) x (IntKind.wrap .i64 (x1 + (1 : Int))) (List.set outs (0 + (Int.toNat x1)) (IntKind.wrap .u32 (IntKind.wrap .u64 ((IntKind.wrap .u64 x2) + carry))))
 else
 none
 else
 none
 else
 (some (a, out1, carry, outs))
def qct (k n : Nat) : List Int → List Int → Nat → Int → Int → Int → List Int → Option (List Int × Nat × Int × List Int) := Nat.rec (fun _ _ _ _ _ _ _ => none) (fun _ r => qeT k r) n
def qgv (k : Nat) (a : List Int) (b : List Int) : Option (List Int) :=
 if ((decide ((((List.length a) : Nat) : Int) < (((List.length b) : Nat) : Int))) = true) then
 if (((0 : Int) ≤ (IntKind.wrap .i64 ((((List.length b) : Nat) : Int) + (1 : Int)))) ∧ (((IntKind.wrap .i64 ((((List.length b) : Nat) : Int) + (1 : Int))) ≤ (IntKind.wrap .i64 ((((List.length b) : Nat) : Int) + (1 : Int)))) ∧ (((IntKind.wrap .i64 ((((List.length b) : Nat) : Int) + (1 : Int))) * (4 : Int)) ≤ (140737488355328 : Int)))) then
 Option.bind (qct k k b a (Int.toNat (IntKind.wrap .i64 ((((List.length b) : Nat) : Int) + (1 : Int)))) (0 : Int) (((List.length b) : Nat) : Int) (0 : Int) (List.replicate (Int.toNat (IntKind.wrap .i64 ((((List.length b) : Nat) : Int) + (1 : Int)))) (0 : Int))) fun r10 =>
 if (((0 : Int) ≤ (((List.length r10.1) : Nat) : Int)) ∧ ((((List.length r10.1) : Nat) : Int) < ((r10.2.1 : Nat) : Int))) then
 Option.bind (r10.2.2.2)[(0 + (Int.toNat (((List.length r10.1) : Nat) : Int)))]? fun x2 =>
 if ((0 + r10.2.1) ≤ (List.length (List.set r10.2.2.2 (0 + (Int.toNat (((List.length r10.1) : Nat) : Int))) (IntKind.wrap .u32 r10.2.2.1)))) then
 (some (List.take r10.2.1 (List.set r10.2.2.2 (0 + (Int.toNat (((List.length r10.1) : Nat) : Int))) (IntKind.wrap .u32 r10.2.2.1))))
 else
 none
 else
 none
 else
 none
 else
 if (((0 : Int) ≤ (IntKind.wrap .i64 ((((List.length a) : Nat) : Int) + (1 : Int)))) ∧ (((IntKind.wrap .i64 ((((List.length a) : Nat) : Int) + (1 : Int))) ≤ (IntKind.wrap .i64 ((((List.length a) : Nat) : Int) + (1 : Int)))) ∧ (((IntKind.wrap .i64 ((((List.length a) : Nat) : Int) + (1 : Int))) * (4 : Int)) ≤ (140737488355328 : Int)))) then
 Option.bind (qct k k a b (Int.toNat (IntKind.wrap .i64 ((((List.length a) : Nat) : Int) + (1 : Int)))) (0 : Int) (((List.length a) : Nat) : Int) (0 : Int) (List.replicate (Int.toNat (IntKind.wrap .i64 ((((List.length a) : Nat) : Int) + (1 : Int)))) (0 : Int))) fun r10 =>
 if (((0 : Int) ≤ (((List.length r10.1) : Nat) : Int)) ∧ ((((List.length r10.1) : Nat) : Int) < ((r10.2.1 : Nat) : Int))) then
 Option.bind (r10.2.2.2)[(0 + (Int.toNat (((List.length r10.1) : Nat) : Int)))]? fun x2 =>
 if ((0 + r10.2.1) ≤ (List.length (List.set r10.2.2.2 (0 + (Int.toNat (((List.length r10.1) : Nat) : Int))) (IntKind.wrap .u32 r10.2.2.1)))) then
 (some (List.take r10.2.1 (List.set r10.2.2.2 (0 + (Int.toNat (((List.length r10.1) : Nat) : Int))) (IntKind.wrap .u32 r10.2.2.1))))
 else
 none
 else
 none
 else
 none
def qfI : Nat → List Int → List Int → Option (List Int)
 | 0, _, _ => none
 | k + 1, a, b => qgv k a b
def qko : FS := { vs := [.a (.lf (.sl (.int .u32))), .a (.lf (.sl (.int .u32)))], bs := [] }
def qqF : List FS := [{ vs := [.a (.lf (.sl (.int .u32)))], bs := [] }]
def qxn (k : Nat) : Inst := ⟨131, qko, qqF, fun x => qfI k x.1 x.2⟩
theorem qyw (k : Nat) : qk (call cf k) [] := True.intro
def qiX : List SS := [{ fr := [(0, .a (.lf (.sl (.int .u32)))), (1, .a (.lf (.sl (.int .u32)))), (5, .a (.smz 0)), (6, .a (.lf (.int .u64))), (21, .a (.lf (.int .i64))), (22, .a (.lf (.int .i64)))], mem := [(0, some (.arr (.int .u32) 1 68 false))], nx := 1 }]
def qnu : List OS := [⟨some 0, { fr := [(0, .a (.lf (.sl (.int .u32)))), (5, .a (.smz 0)), (6, .a (.lf (.int .u64)))], mem := [(0, some (.arr (.int .u32) 1 68 false))], nx := 1 }⟩]
def qnv (k : Nat) : LInst := ⟨0, qiX, qnu, fun x => qct k k x.1 x.2.1 x.2.2.1 x.2.2.2.1 x.2.2.2.2.1 x.2.2.2.2.2.1 x.2.2.2.2.2.2⟩
theorem qBA (k : Nat) : qg (LOk (R := DS OS.D qnu) (fun b _ σ K => LOt Ty (kps 131) 0 b σ K []) cf (call cf k) (kps 131) Tryz.f131.ntmps k 0) 0 (lb Tryz.f131 0) :=
 qA qT (qA (qA qT qT) (qA (qA qT (qA qT (qA (qA qT (qA qT qT)) (qA qT qT)))) qT))
theorem qBB (k n : Nat) (x : DS SS.D qiX) : qct k (n + 1) x.1 x.2.1 x.2.2.1 x.2.2.2.1 x.2.2.2.2.1 x.2.2.2.2.2.1 x.2.2.2.2.2.2 = qD SS.enc (fun σ => qF cf (fun f a b K => COt f a b K []) (fun b _ σ K => LOt Ty (kps 131) 0 b σ K []) Tryz.f131.ntmps 0 (lb Tryz.f131 0) σ (qH Ty (kps 131 0) 0 qiX qnu fun x => qct k n x.1 x.2.1 x.2.2.1 x.2.2.2.1 x.2.2.2.2.1 x.2.2.2.2.2.1 x.2.2.2.2.2.2)) qiX x := by kernel_rfl
theorem qBC (k : Nat) : qY cf (call cf k) (kps 131) Tryz.f131.ntmps k 0 0 (lb Tryz.f131 0) (qnv k) :=
 qr (c := cf) (callF := call cf k) (kp := kps 131) (nt := Tryz.f131.ntmps) (k := k) (p := 0) (b := 0) (x0 := lb Tryz.f131 0) (hs := qiX) (os := qnu) (qd (qyw k)) (qBA k) (fun n x => qct k n x.1 x.2.1 x.2.2.1 x.2.2.2.1 x.2.2.2.2.1 x.2.2.2.2.2.1 x.2.2.2.2.2.2) (fun _ => rfl) (qBB k)
theorem qF4 (k : Nat) : qg (LOk (R := DS FS.D qqF) (fun b _ σ K => LOt Ty (kps 131) 0 b σ K [qnv k]) cf (call cf k) (cf.keep 131) Tryz.f131.ntmps k qko.bs.length) 0 (bd Tryz.f131) :=
 qA qT (qA (qA qT (qA qT qT)) (qA qT (qA qT (qA (qA qT (qw (c := cf) (callF := call cf k) (kp := kps 131) (nt := Tryz.f131.ntmps) (k := k) (p := 0) (b := 0) (x0 := lb Tryz.f131 0) (l := [qnv k]) (qA (fun _ => qBC k) qT))) (qA qT (qA qT qT))))))
theorem qF5 (k : Nat) (x : qko.D) : qfI (k + 1) x.1 x.2 = qi cf (fun f a b K => COt f a b K []) (fun b _ σ K => LOt Ty (kps 131) 0 b σ K [qnv k]) 131 Tryz.f131.ntmps Tryz.f131.results.toList (bd Tryz.f131) (qko.enc x).1 (qko.enc x).2 (qj FS.dec qqF) := by kernel_rfl
theorem qF6 : ∀ k, qf (call cf k) (qxn k)
 | 0 => fun x y e => absurd (show (none : Option _) = some y from e) (by simp)
 | k + 1 => qe (c := cf) (k := k) (f := 131) (fn := Tryz.f131) (body := bd Tryz.f131) (sh := qko) (os := qqF) rfl Tryz.func131 rfl ⟨rfl, Nat.le_of_ble_eq_true rfl⟩ (qd (qyw k)) (qF4 k) (fun x => qfI (k + 1) x.1 x.2) (qF5 k)

def qeU (k : Nat) (rec : List Int → List Int → Nat → Int → Int → Int → List Int → Option (Nat × List Int)) (a : List Int) (b : List Int) (out1 : Nat) (borrow : Int) (x : Int) (x1 : Int) (outs : List Int) : Option (Nat × List Int) :=
 if ((decide (x1 < x)) = true) then
 if ((decide (x1 < (((List.length b) : Nat) : Int))) = true) then
 if ((0 : Int) ≤ x1) then
 Option.bind (b)[(Int.toNat x1)]? fun x2 =>
 if ((0 : Int) ≤ x1) then
 Option.bind (a)[(Int.toNat x1)]? fun x3 =>
 if (((0 : Int) ≤ x1) ∧ (x1 < ((out1 : Nat) : Int))) then
 Option.bind (outs)[(0 + (Int.toNat x1))]? fun x4 =>
 if ((0 : Int) ≤ x1) then
 Option.bind (a)[(Int.toNat x1)]? fun x5 =>
 if ((decide ((IntKind.wrap .u64 x5) < (IntKind.wrap .u64 (borrow + (IntKind.wrap .u64 x2))))) = true) then
 rec a b out1 (1 : Int) x (IntKind.wrap .i64 (x1 + (1 : Int))) (List.set outs (0 + (Int.toNat x1)) (IntKind.wrap .u32 (IntKind.wrap .u64 ((IntKind.wrap .u64 x3) - (IntKind.wrap .u64 (borrow + (IntKind.wrap .u64 x2)))))))
 else
 rec a b out1 (0 : Int) x (IntKind.wrap .i64 (x1 + (1 : Int))) (List.set outs (0 + (Int.toNat x1)) (IntKind.wrap .u32 (IntKind.wrap .u64 ((IntKind.wrap .u64 x3) - (IntKind.wrap .u64 (borrow + (IntKind.wrap .u64 x2)))))))
 else
 none
 else
 none
 else
 none
 else
 none
 else
 if ((0 : Int) ≤ x1) then
 Option.bind (a)[(Int.toNat x1)]? fun x2 =>
 if (((0 : Int) ≤ x1) ∧ (x1 < ((out1 : Nat) : Int))) then
 Option.bind (outs)[(0 + (Int.toNat x1))]? fun x3 =>
 if ((0 : Int) ≤ x1) then
 Option.bind (a)[(Int.toNat x1)]? fun x4 =>
 if ((decide ((IntKind.wrap .u64 x4) < borrow)) = true) then
 rec a b out1 (1 : Int) x (IntKind.wrap .i64 (x1 + (1 : Int))) (List.set outs (0 + (Int.toNat x1)) (IntKind.wrap .u32 (IntKind.wrap .u64 ((IntKind.wrap .u64 x2) - borrow))))
 else
 rec a b out1 (0 : Int) x (IntKind.wrap .i64 (x1 + (1 : Int))) (List.set outs (0 + (Int.toNat x1)) (IntKind.wrap .u32 (IntKind.wrap .u64 ((IntKind.wrap .u64 x2) - borrow))))
 else
 none
 else
 none
 else
 none
 else
 (some (out1, outs))
def qbY (k n : Nat) : List Int → List Int → Nat → Int → Int → Int → List Int → Option (Nat × List Int) := Nat.rec (fun _ _ _ _ _ _ _ => none) (fun _ r => qeU k r) n
def qlV (k : Nat) (a : List Int) (b : List Int) : Option (List Int) :=
 if (((0 : Int) ≤ (((List.length a) : Nat) : Int)) ∧ (((((List.length a) : Nat) : Int) ≤ (((List.length a) : Nat) : Int)) ∧ (((((List.length a) : Nat) : Int) * (4 : Int)) ≤ (140737488355328 : Int)))) then
 Option.bind (qbY k k a b (Int.toNat (((List.length a) : Nat) : Int)) (0 : Int) (((List.length a) : Nat) : Int) (0 : Int) (List.replicate (Int.toNat (((List.length a) : Nat) : Int)) (0 : Int))) fun r11 =>
 if ((0 + r11.1) ≤ (List.length r11.2)) then
 (some (List.take r11.1 r11.2))
 else
 none
 else
 none
def qev : Nat → List Int → List Int → Option (List Int)
 | 0, _, _ => none
 | k + 1, a, b => qlV k a b
def qkp : FS := { vs := [.a (.lf (.sl (.int .u32))), .a (.lf (.sl (.int .u32)))], bs := [] }
def qqG : List FS := [{ vs := [.a (.lf (.sl (.int .u32)))], bs := [] }]
def qxo (k : Nat) : Inst := ⟨132, qkp, qqG, fun x => qev k x.1 x.2⟩
theorem qyx (k : Nat) : qk (call cf k) [] := True.intro
def qiY : List SS := [{ fr := [(0, .a (.lf (.sl (.int .u32)))), (1, .a (.lf (.sl (.int .u32)))), (5, .a (.smz 0)), (6, .a (.lf (.int .u64))), (13, .a (.lf (.int .i64))), (14, .a (.lf (.int .i64)))], mem := [(0, some (.arr (.int .u32) 1 68 false))], nx := 1 }]
def qnw : List OS := [⟨some 0, { fr := [(5, .a (.smz 0))], mem := [(0, some (.arr (.int .u32) 1 68 false))], nx := 1 }⟩]
def qnx (k : Nat) : LInst := ⟨0, qiY, qnw, fun x => qbY k k x.1 x.2.1 x.2.2.1 x.2.2.2.1 x.2.2.2.2.1 x.2.2.2.2.2.1 x.2.2.2.2.2.2⟩
theorem qBD (k : Nat) : qg (LOk (R := DS OS.D qnw) (fun b _ σ K => LOt Ty (kps 132) 0 b σ K []) cf (call cf k) (kps 132) Tryz.f132.ntmps k 0) 0 (lb Tryz.f132 0) :=
 qA qT (qA (qA qT qT) (qA (qA qT (qA qT (qA (qA qT (qA qT qT)) (qA qT (qA qT (qA qT (qA qT qT))))))) qT))
theorem qBE (k n : Nat) (x : DS SS.D qiY) : qbY k (n + 1) x.1 x.2.1 x.2.2.1 x.2.2.2.1 x.2.2.2.2.1 x.2.2.2.2.2.1 x.2.2.2.2.2.2 = qD SS.enc (fun σ => qF cf (fun f a b K => COt f a b K []) (fun b _ σ K => LOt Ty (kps 132) 0 b σ K []) Tryz.f132.ntmps 0 (lb Tryz.f132 0) σ (qH Ty (kps 132 0) 0 qiY qnw fun x => qbY k n x.1 x.2.1 x.2.2.1 x.2.2.2.1 x.2.2.2.2.1 x.2.2.2.2.2.1 x.2.2.2.2.2.2)) qiY x := by kernel_rfl
theorem qBF (k : Nat) : qY cf (call cf k) (kps 132) Tryz.f132.ntmps k 0 0 (lb Tryz.f132 0) (qnx k) :=
 qr (c := cf) (callF := call cf k) (kp := kps 132) (nt := Tryz.f132.ntmps) (k := k) (p := 0) (b := 0) (x0 := lb Tryz.f132 0) (hs := qiY) (os := qnw) (qd (qyx k)) (qBD k) (fun n x => qbY k n x.1 x.2.1 x.2.2.1 x.2.2.2.1 x.2.2.2.2.1 x.2.2.2.2.2.1 x.2.2.2.2.2.2) (fun _ => rfl) (qBE k)
theorem qF7 (k : Nat) : qg (LOk (R := DS FS.D qqG) (fun b _ σ K => LOt Ty (kps 132) 0 b σ K [qnx k]) cf (call cf k) (cf.keep 132) Tryz.f132.ntmps k qkp.bs.length) 0 (bd Tryz.f132) :=
 qA qT (qA qT (qA qT (qA (qA qT (qw (c := cf) (callF := call cf k) (kp := kps 132) (nt := Tryz.f132.ntmps) (k := k) (p := 0) (b := 0) (x0 := lb Tryz.f132 0) (l := [qnx k]) (qA (fun _ => qBF k) qT))) (qA qT qT))))
theorem qF8 (k : Nat) (x : qkp.D) : qev (k + 1) x.1 x.2 = qi cf (fun f a b K => COt f a b K []) (fun b _ σ K => LOt Ty (kps 132) 0 b σ K [qnx k]) 132 Tryz.f132.ntmps Tryz.f132.results.toList (bd Tryz.f132) (qkp.enc x).1 (qkp.enc x).2 (qj FS.dec qqG) := by kernel_rfl
theorem qF9 : ∀ k, qf (call cf k) (qxo k)
 | 0 => fun x y e => absurd (show (none : Option _) = some y from e) (by simp)
 | k + 1 => qe (c := cf) (k := k) (f := 132) (fn := Tryz.f132) (body := bd Tryz.f132) (sh := qkp) (os := qqG) rfl Tryz.func132 rfl ⟨rfl, Nat.le_of_ble_eq_true rfl⟩ (qd (qyx k)) (qF7 k) (fun x => qev (k + 1) x.1 x.2) (qF8 k)

def qlW (k : Nat) (yneg : Bool) (y : List Int) (x0 : Bool) (x1 : List Int) : Option (Bool × List Int) :=
 if ((x0 == yneg) = true) then
 Option.bind (qfI k x1 y) fun r10 =>
 Option.bind (qaz k x0 r10 x0 x1) fun r11 =>
 (some (r11.1, r11.2))
 else
 Option.bind (qen k x1 y) fun r10 =>
 if ((decide (r10 ≥ (0 : Int))) = true) then
 Option.bind (qev k x1 y) fun r11 =>
 Option.bind (qaz k x0 r11 x0 x1) fun r12 =>
 (some (r12.1, r12.2))
 else
 Option.bind (qev k y x1) fun r11 =>
 Option.bind (qaz k yneg r11 x0 x1) fun r12 =>
 (some (r12.1, r12.2))
def qcP : Nat → Bool → List Int → Bool → List Int → Option (Bool × List Int)
 | 0, _, _, _, _ => none
 | k + 1, yneg, y, x0, x1 => qlW k yneg y x0 x1
def qkq : FS := { vs := [.a (.ptr 0 0 0), .a (.ptr 0 0 0), .a (.lf .bool), .a (.lf (.sl (.int .u32)))], bs := [.raw [[.lf .bool, .lf (.sl (.int .u32))]] 2 72 true false] }
def qqH : List FS := [{ vs := [.a (.ptr 0 0 0)], bs := [.raw [[.lf .bool, .lf (.sl (.int .u32))]] 2 72 true false] }]
def qxp (k : Nat) : Inst := ⟨113, qkq, qqH, fun x => qcP k x.1 x.2.1 x.2.2.1 x.2.2.2⟩
theorem qGa (k : Nat) : qk (call cf k) [qxn k, qh2 k, qlP k, qxo k] := qA (qF6 k) (qA (quu k) (qA (quw k) (qA (qF9 k) qT)))
theorem qGb (k : Nat) : qg (LOk (R := DS FS.D qqH) (fun b _ σ K => LOt Ty (kps 113) 1 b σ K []) cf (call cf k) (cf.keep 113) Tryz.f113.ntmps k qkq.bs.length) 0 (bd Tryz.f113) :=
 qA qT (qA (qA qT (qA (qA qT qT) qT)) (qA (qA qT (qA (qA qT qT) qT)) (qA qT qT)))
theorem qGc (k : Nat) (x : qkq.D) : qcP (k + 1) x.1 x.2.1 x.2.2.1 x.2.2.2 = qi cf (fun f a b K => COt f a b K [qxn k, qh2 k, qlP k, qxo k]) (fun b _ σ K => LOt Ty (kps 113) 1 b σ K []) 113 Tryz.f113.ntmps Tryz.f113.results.toList (bd Tryz.f113) (qkq.enc x).1 (qkq.enc x).2 (qj FS.dec qqH) := by kernel_rfl
theorem qGd : ∀ k, qf (call cf k) (qxp k)
 | 0 => fun x y e => absurd (show (none : Option _) = some y from e) (by simp)
 | k + 1 => qe (c := cf) (k := k) (f := 113) (fn := Tryz.f113) (body := bd Tryz.f113) (sh := qkq) (os := qqH) rfl Tryz.func113 rfl ⟨rfl, Nat.le_of_ble_eq_true rfl⟩ (qd (qGa k)) (qGb k) (fun x => qcP (k + 1) x.1 x.2.1 x.2.2.1 x.2.2.2) (qGc k)

def qe8 (k : Nat) (z0 : Bool) (z1 : List Int) (y0 : Bool) (y1 : List Int) : Option (Int × Bool × List Int × Bool × List Int) :=
 if ((!(z0 == y0)) = true) then
 if (z0 = true) then
 (some ((-(1 : Int)), z0, z1, y0, y1))
 else
 (some ((1 : Int), z0, z1, y0, y1))
 else
 Option.bind (qen k z1 y1) fun r11 =>
 if (z0 = true) then
 (some ((IntKind.wrap .i64 ((0 : Int) - r11)), z0, z1, y0, y1))
 else
 (some (r11, z0, z1, y0, y1))
def qcQ : Nat → Bool → List Int → Bool → List Int → Option (Int × Bool × List Int × Bool × List Int)
 | 0, _, _, _, _ => none
 | k + 1, z0, z1, y0, y1 => qe8 k z0 z1 y0 y1
def qpe : FS := { vs := [.a (.ptr 0 0 0), .a (.ptr 1 0 0)], bs := [.raw [[.lf .bool, .lf (.sl (.int .u32))]] 2 72 true false, .raw [[.lf .bool, .lf (.sl (.int .u32))]] 2 72 true false] }
def quF : List FS := [{ vs := [.a (.lf (.int .i64))], bs := [.raw [[.lf .bool, .lf (.sl (.int .u32))]] 2 72 true false, .raw [[.lf .bool, .lf (.sl (.int .u32))]] 2 72 true false] }]
def Iq3 (k : Nat) : Inst := ⟨87, qpe, quF, fun x => qcQ k x.1 x.2.1 x.2.2.1 x.2.2.2⟩
theorem qJv (k : Nat) : qk (call cf k) [qlP k] := qA (quw k) qT
theorem qJw (k : Nat) : qg (LOk (R := DS FS.D quF) (fun b _ σ K => LOt Ty (kps 87) 2 b σ K []) cf (call cf k) (cf.keep 87) Tryz.f87.ntmps k qpe.bs.length) 0 (bd Tryz.f87) :=
 qA qT (qA (qA qT (qA (qA (qA qT (qA (qA qT qT) qT)) (qA qT qT)) qT)) (qA qT (qA (qA qT (qA (qA qT qT) qT)) (qA qT qT))))
theorem qJx (k : Nat) (x : qpe.D) : qcQ (k + 1) x.1 x.2.1 x.2.2.1 x.2.2.2 = qi cf (fun f a b K => COt f a b K [qlP k]) (fun b _ σ K => LOt Ty (kps 87) 2 b σ K []) 87 Tryz.f87.ntmps Tryz.f87.results.toList (bd Tryz.f87) (qpe.enc x).1 (qpe.enc x).2 (qj FS.dec quF) := by kernel_rfl
theorem qJy : ∀ k, qf (call cf k) (Iq3 k)
 | 0 => fun x y e => absurd (show (none : Option _) = some y from e) (by simp)
 | k + 1 => qe (c := cf) (k := k) (f := 87) (fn := Tryz.f87) (body := bd Tryz.f87) (sh := qpe) (os := quF) rfl Tryz.func87 rfl ⟨rfl, Nat.le_of_ble_eq_true rfl⟩ (qd (qJv k)) (qJw k) (fun x => qcQ (k + 1) x.1 x.2.1 x.2.2.1 x.2.2.2) (qJx k)


end
end Go.Proofs.YtbhnafdmilfobaaGreat.Am
