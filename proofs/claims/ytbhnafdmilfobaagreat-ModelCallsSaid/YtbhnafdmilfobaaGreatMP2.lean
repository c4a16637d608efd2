/- Printed functions: each says what the typed machine says of the program -/
import Derived.Test.YtbhnafdmilfobaaGreatMP1
import Derived.KernelRfl

set_option linter.unusedVariables false
set_option maxRecDepth 100000
namespace Go.Proofs.YtbhnafdmilfobaaGreat.Am
open Go
noncomputable section

def qlX (k : Nat) (x0 : Bool) (x1 : List Int) (y0 : Bool) (y1 : List Int) : Option (Bool × List Int × Bool × List Int) :=
 Option.bind (qcP k y0 y1 x0 x1) fun r15 =>
 (some (r15.1, r15.2, y0, y1))
def qbx : Nat → Bool → List Int → Bool → List Int → Option (Bool × List Int × Bool × List Int)
 | 0, _, _, _, _ => none
 | k + 1, x0, x1, y0, y1 => qlX k x0 x1 y0 y1
def qpf : FS := { vs := [.a (.ptr 0 0 0), .a (.ptr 0 0 0), .a (.ptr 1 0 0)], bs := [.raw [[.lf .bool, .lf (.sl (.int .u32))]] 2 72 true false, .raw [[.lf .bool, .lf (.sl (.int .u32))]] 2 72 true false] }
def quG : List FS := [{ vs := [.a (.ptr 0 0 0)], bs := [.raw [[.lf .bool, .lf (.sl (.int .u32))]] 2 72 true false, .raw [[.lf .bool, .lf (.sl (.int .u32))]] 2 72 true false] }]
def Iq2 (k : Nat) : Inst := ⟨78, qpf, quG, fun x => qbx k x.1 x.2.1 x.2.2.1 x.2.2.2⟩
theorem qJz (k : Nat) : qk (call cf k) [qxp k] := qA (qGd k) qT
theorem qJA (k : Nat) : qg (LOk (R := DS FS.D quG) (fun b _ σ K => LOt Ty (kps 78) 2 b σ K []) cf (call cf k) (cf.keep 78) Tryz.f78.ntmps k qpf.bs.length) 0 (bd Tryz.f78) :=
 qA qT (qA qT qT)
theorem qJB (k : Nat) (x : qpf.D) : qbx (k + 1) x.1 x.2.1 x.2.2.1 x.2.2.2 = qi cf (fun f a b K => COt f a b K [qxp k]) (fun b _ σ K => LOt Ty (kps 78) 2 b σ K []) 78 Tryz.f78.ntmps Tryz.f78.results.toList (bd Tryz.f78) (qpf.enc x).1 (qpf.enc x).2 (qj FS.dec quG) := by kernel_rfl
theorem qxq : ∀ k, qf (call cf k) (Iq2 k)
 | 0 => fun x y e => absurd (show (none : Option _) = some y from e) (by simp)
 | k + 1 => qe (c := cf) (k := k) (f := 78) (fn := Tryz.f78) (body := bd Tryz.f78) (sh := qpf) (os := quG) rfl Tryz.func78 rfl ⟨rfl, Nat.le_of_ble_eq_true rfl⟩ (qd (qJz k)) (qJA k) (fun x => qbx (k + 1) x.1 x.2.1 x.2.2.1 x.2.2.2) (qJB k)

def qlY (k : Nat) (x0 : Bool) (x1 : List Int) : Option (Bool × List Int) :=
 Option.bind (qaz k (!x0) x1 x0 x1) fun r5 =>
 (some (r5.1, r5.2))
def qcR : Nat → Bool → List Int → Option (Bool × List Int)
 | 0, _, _ => none
 | k + 1, x0, x1 => qlY k x0 x1
def qpg : FS := { vs := [.a (.ptr 0 0 0), .a (.ptr 0 0 0)], bs := [.raw [[.lf .bool, .lf (.sl (.int .u32))]] 2 72 true false] }
def quH : List FS := [{ vs := [.a (.ptr 0 0 0)], bs := [.raw [[.lf .bool, .lf (.sl (.int .u32))]] 2 72 true false] }]
def Iq9 (k : Nat) : Inst := ⟨109, qpg, quH, fun x => qcR k x.1 x.2⟩
theorem qJC (k : Nat) : qk (call cf k) [qh2 k] := qA (quu k) qT
theorem qJD (k : Nat) : qg (LOk (R := DS FS.D quH) (fun b _ σ K => LOt Ty (kps 109) 1 b σ K []) cf (call cf k) (cf.keep 109) Tryz.f109.ntmps k qpg.bs.length) 0 (bd Tryz.f109) :=
 qA qT (qA qT qT)
theorem qJE (k : Nat) (x : qpg.D) : qcR (k + 1) x.1 x.2 = qi cf (fun f a b K => COt f a b K [qh2 k]) (fun b _ σ K => LOt Ty (kps 109) 1 b σ K []) 109 Tryz.f109.ntmps Tryz.f109.results.toList (bd Tryz.f109) (qpg.enc x).1 (qpg.enc x).2 (qj FS.dec quH) := by kernel_rfl
theorem qJF : ∀ k, qf (call cf k) (Iq9 k)
 | 0 => fun x y e => absurd (show (none : Option _) = some y from e) (by simp)
 | k + 1 => qe (c := cf) (k := k) (f := 109) (fn := Tryz.f109) (body := bd Tryz.f109) (sh := qpg) (os := quH) rfl Tryz.func109 rfl ⟨rfl, Nat.le_of_ble_eq_true rfl⟩ (qd (qJC k)) (qJD k) (fun x => qcR (k + 1) x.1 x.2) (qJE k)

def qlZ (k : Nat) (z0 : Bool) (z1 : Bool) (x0 : Bool) (x1 : List Int) (x2 : Bool) (x3 : List Int) : Option (Bool × List Int × Bool × List Int × Bool × List Int × Bool × List Int) :=
 Option.bind (qb2 k x0 x1 x2 x3) fun r3 =>
 Option.bind (qo k r3.1 r3.2.1 r3.2.2.1 r3.2.2.2.1) fun r4 =>
 Option.bind (qcR k r3.2.2.2.2.1 r3.2.2.2.2.2) fun r5 =>
 (some (r5.1, r5.2, r4.2.2.2.2.1, r4.2.2.2.2.2, r4.1, r4.2.1, r4.2.2.1, r4.2.2.2.1))
def qcS : Nat → Bool → Bool → Bool → List Int → Bool → List Int → Option (Bool × List Int × Bool × List Int × Bool × List Int × Bool × List Int)
 | 0, _, _, _, _, _, _ => none
 | k + 1, z0, z1, x0, x1, x2, x3 => qlZ k z0 z1 x0 x1 x2 x3
def qkr : FS := { vs := [.a (.ptr 0 0 0), .a (.ptr 1 0 0)], bs := [.raw [[.lf .bool, .snil 1 68, .lf .bool, .snil 1 68]] 4 74 true false, .raw [[.lf .bool, .lf (.sl (.int .u32)), .lf .bool, .lf (.sl (.int .u32))]] 4 74 true false] }
def qqI : List FS := [{ vs := [.a (.ptr 0 0 0)], bs := [.raw [[.lf .bool, .lf (.sl (.int .u32)), .lf .bool, .lf (.sl (.int .u32))]] 4 74 true false, .raw [[.lf .bool, .lf (.sl (.int .u32)), .lf .bool, .lf (.sl (.int .u32))]] 4 74 true false] }]
def qxr (k : Nat) : Inst := ⟨73, qkr, qqI, fun x => qcS k x.1 x.2.1 x.2.2.1 x.2.2.2.1 x.2.2.2.2.1 x.2.2.2.2.2⟩
theorem qGe (k : Nat) : qk (call cf k) [qsj k, qeu k, Iq9 k] := qA (qyu k) (qA (qgO k) (qA (qJF k) qT))
theorem qGf (k : Nat) : qg (LOk (R := DS FS.D qqI) (fun b _ σ K => LOt Ty (kps 73) 2 b σ K []) cf (call cf k) (cf.keep 73) Tryz.f73.ntmps k qkr.bs.length) 0 (bd Tryz.f73) :=
 qA qT (qA qT (qA qT (qA qT qT)))
theorem qGg (k : Nat) (x : qkr.D) : qcS (k + 1) x.1 x.2.1 x.2.2.1 x.2.2.2.1 x.2.2.2.2.1 x.2.2.2.2.2 = qi cf (fun f a b K => COt f a b K [qsj k, qeu k, Iq9 k]) (fun b _ σ K => LOt Ty (kps 73) 2 b σ K []) 73 Tryz.f73.ntmps Tryz.f73.results.toList (bd Tryz.f73) (qkr.enc x).1 (qkr.enc x).2 (qj FS.dec qqI) := by kernel_rfl
theorem qGh : ∀ k, qf (call cf k) (qxr k)
 | 0 => fun x y e => absurd (show (none : Option _) = some y from e) (by simp)
 | k + 1 => qe (c := cf) (k := k) (f := 73) (fn := Tryz.f73) (body := bd Tryz.f73) (sh := qkr) (os := qqI) rfl Tryz.func73 rfl ⟨rfl, Nat.le_of_ble_eq_true rfl⟩ (qd (qGe k)) (qGf k) (fun x => qcS (k + 1) x.1 x.2.1 x.2.2.1 x.2.2.2.1 x.2.2.2.2.1 x.2.2.2.2.2) (qGg k)

def qd9 (k : Nat) (rec : Nat → Int → Int → Int → List Int → Int → Int → List Int → Int → Int → Bool → Bool → List Int → Bool → List Int → Bool → List Int → List Int → Option (Nat × Int × Int × List Int × Int × Int × Bool × Bool × List Int × Bool × List Int × Bool × List Int × List Int)) (out1 : Nat) (i : Int) (a : Int) (carry : Int) (x : List Int) (x1 : Int) (x2 : Int) (x3 : List Int) (x4 : Int) (x5 : Int) (z : Bool) (x0 : Bool) (x11 : List Int) (x21 : Bool) (x31 : List Int) (y0 : Bool) (y1 : List Int) (outs : List Int) : Option (Nat × Int × Int × List Int × Int × Int × Bool × Bool × List Int × Bool × List Int × Bool × List Int × List Int) :=
 if ((decide (x5 < x4)) = true) then
 if ((0 : Int) ≤ x5) then
 Option.bind (x3)[(Int.toNat x5)]? fun x8 =>
 if (((0 : Int) ≤ (IntKind.wrap .i64 (i + x5))) ∧ ((IntKind.wrap .i64 (i + x5)) < ((out1 : Nat) : Int))) then
 Option.bind (outs)[(0 + (Int.toNat (IntKind.wrap .i64 (i + x5))))]? fun x9 =>
 if (((0 : Int) ≤ (IntKind.wrap .i64 (i + x5))) ∧ ((IntKind.wrap .i64 (i + x5)) < ((out1 : Nat) : Int))) then
 Option.bind (outs)[(0 + (Int.toNat (IntKind.wrap .i64 (i + x5))))]? fun x10 =>
 rec out1 i a (Int.fdiv (IntKind.wrap .u64 ((IntKind.wrap .u64 ((IntKind.wrap .u64 ((IntKind.wrap .u64 a) * (IntKind.wrap .u64 x8))) + (IntKind.wrap .u64 x9))) + carry)) (4294967296 : Int)) x x1 x2 x3 x4 (IntKind.wrap .i64 (x5 + (1 : Int))) z x0 x11 x21 x31 y0 y1 (List.set outs (0 + (Int.toNat (IntKind.wrap .i64 (i + x5)))) (IntKind.wrap .u32 (IntKind.wrap .u64 ((IntKind.wrap .u64 ((IntKind.wrap .u64 ((IntKind.wrap .u64 a) * (IntKind.wrap .u64 x8))) + (IntKind.wrap .u64 x9))) + carry))))
 else
 none
 else
 none
 else
 none
 else
 (some (out1, i, carry, x, x1, x2, z, x0, x11, x21, x31, y0, y1, outs))
def qby (k n : Nat) : Nat → Int → Int → Int → List Int → Int → Int → List Int → Int → Int → Bool → Bool → List Int → Bool → List Int → Bool → List Int → List Int → Option (Nat × Int × Int × List Int × Int × Int × Bool × Bool × List Int × Bool × List Int × Bool × List Int × List Int) := Nat.rec (fun _ _ _ _ _ _ _ _ _ _ _ _ _ _ _ _ _ _ => none) (fun _ r => qd9 k r) n
def qea (k : Nat) (rec : Nat → List Int → Int → Int → Bool → Bool → List Int → Bool → List Int → Bool → List Int → List Int → Option (Nat × Bool × Bool × List Int × Bool × List Int × Bool × List Int × List Int)) (out1 : Nat) (x : List Int) (x1 : Int) (x2 : Int) (z : Bool) (x0 : Bool) (x11 : List Int) (x21 : Bool) (x3 : List Int) (y0 : Bool) (y1 : List Int) (outs : List Int) : Option (Nat × Bool × Bool × List Int × Bool × List Int × Bool × List Int × List Int) :=
 if ((decide (x2 < x1)) = true) then
 if ((0 : Int) ≤ x2) then
 Option.bind (x)[(Int.toNat x2)]? fun x7 =>
 Option.bind (qby k k out1 x2 x7 (0 : Int) x x1 x2 y1 (((List.length y1) : Nat) : Int) (0 : Int) z x0 x11 x21 x3 y0 y1 outs) fun r5 =>
 if (((0 : Int) ≤ (IntKind.wrap .i64 (r5.2.1 + (((List.length r5.2.2.2.2.2.2.2.2.2.2.2.2.1) : Nat) : Int)))) ∧ ((IntKind.wrap .i64 (r5.2.1 + (((List.length r5.2.2.2.2.2.2.2.2.2.2.2.2.1) : Nat) : Int))) < ((r5.1 : Nat) : Int))) then
 Option.bind (r5.2.2.2.2.2.2.2.2.2.2.2.2.2)[(0 + (Int.toNat (IntKind.wrap .i64 (r5.2.1 + (((List.length r5.2.2.2.2.2.2.2.2.2.2.2.2.1) : Nat) : Int)))))]? fun x8 =>
 rec r5.1 r5.2.2.2.1 r5.2.2.2.2.1 (IntKind.wrap .i64 (r5.2.2.2.2.2.1 + (1 : Int))) r5.2.2.2.2.2.2.1 r5.2.2.2.2.2.2.2.1 r5.2.2.2.2.2.2.2.2.1 r5.2.2.2.2.2.2.2.2.2.1 r5.2.2.2.2.2.2.2.2.2.2.1 r5.2.2.2.2.2.2.2.2.2.2.2.1 r5.2.2.2.2.2.2.2.2.2.2.2.2.1 (List.set r5.2.2.2.2.2.2.2.2.2.2.2.2.2 (0 + (Int.toNat (IntKind.wrap .i64 (r5.2.1 + (((List.length r5.2.2.2.2.2.2.2.2.2.2.2.2.1) : Nat) : Int))))) (IntKind.wrap .u32 r5.2.2.1))
 else
 none
 else
 none
 else
 (some (out1, z, x0, x11, x21, x3, y0, y1, outs))
def qbz (k n : Nat) : Nat → List Int → Int → Int → Bool → Bool → List Int → Bool → List Int → Bool → List Int → List Int → Option (Nat × Bool × Bool × List Int × Bool × List Int × Bool × List Int × List Int) := Nat.rec (fun _ _ _ _ _ _ _ _ _ _ _ _ => none) (fun _ r => qea k r) n
def qe9 (k : Nat) (z : Bool) (x0 : Bool) (x1 : List Int) (x2 : Bool) (x3 : List Int) (y0 : Bool) (y1 : List Int) : Option (Bool × List Int × Bool × List Int × Bool × List Int × Bool × List Int) :=
 if (((0 : Int) ≤ (IntKind.wrap .i64 ((((List.length x1) : Nat) : Int) + (((List.length y1) : Nat) : Int)))) ∧ (((IntKind.wrap .i64 ((((List.length x1) : Nat) : Int) + (((List.length y1) : Nat) : Int))) ≤ (IntKind.wrap .i64 ((((List.length x1) : Nat) : Int) + (((List.length y1) : Nat) : Int)))) ∧ (((IntKind.wrap .i64 ((((List.length x1) : Nat) : Int) + (((List.length y1) : Nat) : Int))) * (4 : Int)) ≤ (140737488355328 : Int)))) then
 Option.bind (qbz k k (Int.toNat (IntKind.wrap .i64 ((((List.length x1) : Nat) : Int) + (((List.length y1) : Nat) : Int)))) x1 (((List.length x1) : Nat) : Int) (0 : Int) z x0 x1 x2 x3 y0 y1 (List.replicate (Int.toNat (IntKind.wrap .i64 ((((List.length x1) : Nat) : Int) + (((List.length y1) : Nat) : Int)))) (0 : Int))) fun r5 =>
 if ((0 + r5.1) ≤ (List.length r5.2.2.2.2.2.2.2.2)) then
 Option.bind (qaj k (!(r5.2.2.1 == r5.2.2.2.2.2.2.1)) (List.take r5.1 r5.2.2.2.2.2.2.2.2) r5.2.1) fun r6 =>
 (some (r6.1, r6.2, r5.2.2.1, r5.2.2.2.1, r5.2.2.2.2.1, r5.2.2.2.2.2.1, r5.2.2.2.2.2.2.1, r5.2.2.2.2.2.2.2.1))
 else
 none
 else
 none
def qal : Nat → Bool → Bool → List Int → Bool → List Int → Bool → List Int → Option (Bool × List Int × Bool × List Int × Bool × List Int × Bool × List Int)
 | 0, _, _, _, _, _, _, _ => none
 | k + 1, z, x0, x1, x2, x3, y0, y1 => qe9 k z x0 x1 x2 x3 y0 y1
def qph : FS := { vs := [.a (.ptr 0 0 0), .a (.ptr 1 0 0), .a (.ptr 2 0 0)], bs := [.raw [[.lf .bool, .snil 1 68]] 2 72 true false, .raw [[.lf .bool, .lf (.sl (.int .u32)), .lf .bool, .lf (.sl (.int .u32))]] 4 74 true false, .raw [[.lf .bool, .lf (.sl (.int .u32))]] 2 72 true false] }
def quI : List FS := [{ vs := [.a (.ptr 0 0 0)], bs := [.raw [[.lf .bool, .lf (.sl (.int .u32))]] 2 72 true false, .raw [[.lf .bool, .lf (.sl (.int .u32)), .lf .bool, .lf (.sl (.int .u32))]] 4 74 true false, .raw [[.lf .bool, .lf (.sl (.int .u32))]] 2 72 true false] }]
def Iq7 (k : Nat) : Inst := ⟨75, qph, quI, fun x => qal k x.1 x.2.1 x.2.2.1 x.2.2.2.1 x.2.2.2.2.1 x.2.2.2.2.2.1 x.2.2.2.2.2.2⟩
theorem qxs (k : Nat) : qk (call cf k) [qdD k] := qA (qj6 k) qT
def qiZ : List SS := [{ fr := [(0, .a (.ptr 0 0 0)), (1, .a (.ptr 1 0 0)), (2, .a (.ptr 2 0 0)), (7, .a (.smz 3)), (8, .a (.lf (.int .i64))), (9, .a (.lf (.int .u32))), (10, .a (.lf (.int .u64))), (29, .a (.lf (.sl (.int .u32)))), (30, .a (.lf (.int .i64))), (31, .a (.lf (.int .i64))), (39, .a (.lf (.sl (.int .u32)))), (40, .a (.lf (.int .i64))), (41, .a (.lf (.int .i64)))], mem := [(0, some (.raw [[.lf .bool, .snil 1 68]] 2 72 true false)), (1, some (.raw [[.lf .bool, .lf (.sl (.int .u32)), .lf .bool, .lf (.sl (.int .u32))]] 4 74 true false)), (2, some (.raw [[.lf .bool, .lf (.sl (.int .u32))]] 2 72 true false)), (3, some (.arr (.int .u32) 1 68 false))], nx := 4 }]
def qny : List OS := [⟨some 2, { fr := [(0, .a (.ptr 0 0 0)), (1, .a (.ptr 1 0 0)), (2, .a (.ptr 2 0 0)), (7, .a (.smz 3)), (8, .a (.lf (.int .i64))), (10, .a (.lf (.int .u64))), (29, .a (.lf (.sl (.int .u32)))), (30, .a (.lf (.int .i64))), (31, .a (.lf (.int .i64)))], mem := [(0, some (.raw [[.lf .bool, .snil 1 68]] 2 72 true false)), (1, some (.raw [[.lf .bool, .lf (.sl (.int .u32)), .lf .bool, .lf (.sl (.int .u32))]] 4 74 true false)), (2, some (.raw [[.lf .bool, .lf (.sl (.int .u32))]] 2 72 true false)), (3, some (.arr (.int .u32) 1 68 false))], nx := 4 }⟩]
def qgw (k : Nat) : LInst := ⟨2, qiZ, qny, fun x => qby k k x.1 x.2.1 x.2.2.1 x.2.2.2.1 x.2.2.2.2.1 x.2.2.2.2.2.1 x.2.2.2.2.2.2.1 x.2.2.2.2.2.2.2.1 x.2.2.2.2.2.2.2.2.1 x.2.2.2.2.2.2.2.2.2.1 x.2.2.2.2.2.2.2.2.2.2.1 x.2.2.2.2.2.2.2.2.2.2.2.1 x.2.2.2.2.2.2.2.2.2.2.2.2.1 x.2.2.2.2.2.2.2.2.2.2.2.2.2.1 x.2.2.2.2.2.2.2.2.2.2.2.2.2.2.1 x.2.2.2.2.2.2.2.2.2.2.2.2.2.2.2.1 x.2.2.2.2.2.2.2.2.2.2.2.2.2.2.2.2.1 x.2.2.2.2.2.2.2.2.2.2.2.2.2.2.2.2.2⟩
theorem qBG (k : Nat) : qg (LOk (R := DS OS.D qny) (fun b _ σ K => LOt Ty (kps 75) 3 b σ K []) cf (call cf k) (kps 75) Tryz.f75.ntmps k 3) 2 (lb Tryz.f75 1) :=
 qA qT (qA (qA qT qT) (qA (qA qT (qA qT (qA qT qT))) qT))
theorem qBH (k n : Nat) (x : DS SS.D qiZ) : qby k (n + 1) x.1 x.2.1 x.2.2.1 x.2.2.2.1 x.2.2.2.2.1 x.2.2.2.2.2.1 x.2.2.2.2.2.2.1 x.2.2.2.2.2.2.2.1 x.2.2.2.2.2.2.2.2.1 x.2.2.2.2.2.2.2.2.2.1 x.2.2.2.2.2.2.2.2.2.2.1 x.2.2.2.2.2.2.2.2.2.2.2.1 x.2.2.2.2.2.2.2.2.2.2.2.2.1 x.2.2.2.2.2.2.2.2.2.2.2.2.2.1 x.2.2.2.2.2.2.2.2.2.2.2.2.2.2.1 x.2.2.2.2.2.2.2.2.2.2.2.2.2.2.2.1 x.2.2.2.2.2.2.2.2.2.2.2.2.2.2.2.2.1 x.2.2.2.2.2.2.2.2.2.2.2.2.2.2.2.2.2 = qD SS.enc (fun σ => qF cf (fun f a b K => COt f a b K [qdD k]) (fun b _ σ K => LOt Ty (kps 75) 3 b σ K []) Tryz.f75.ntmps 2 (lb Tryz.f75 1) σ (qH Ty (kps 75 2) 3 qiZ qny fun x => qby k n x.1 x.2.1 x.2.2.1 x.2.2.2.1 x.2.2.2.2.1 x.2.2.2.2.2.1 x.2.2.2.2.2.2.1 x.2.2.2.2.2.2.2.1 x.2.2.2.2.2.2.2.2.1 x.2.2.2.2.2.2.2.2.2.1 x.2.2.2.2.2.2.2.2.2.2.1 x.2.2.2.2.2.2.2.2.2.2.2.1 x.2.2.2.2.2.2.2.2.2.2.2.2.1 x.2.2.2.2.2.2.2.2.2.2.2.2.2.1 x.2.2.2.2.2.2.2.2.2.2.2.2.2.2.1 x.2.2.2.2.2.2.2.2.2.2.2.2.2.2.2.1 x.2.2.2.2.2.2.2.2.2.2.2.2.2.2.2.2.1 x.2.2.2.2.2.2.2.2.2.2.2.2.2.2.2.2.2)) qiZ x := by kernel_rfl
theorem qBI (k : Nat) : qY cf (call cf k) (kps 75) Tryz.f75.ntmps k 3 2 (lb Tryz.f75 1) (qgw k) :=
 qr (c := cf) (callF := call cf k) (kp := kps 75) (nt := Tryz.f75.ntmps) (k := k) (p := 3) (b := 2) (x0 := lb Tryz.f75 1) (hs := qiZ) (os := qny) (qd (qxs k)) (qBG k) (fun n x => qby k n x.1 x.2.1 x.2.2.1 x.2.2.2.1 x.2.2.2.2.1 x.2.2.2.2.2.1 x.2.2.2.2.2.2.1 x.2.2.2.2.2.2.2.1 x.2.2.2.2.2.2.2.2.1 x.2.2.2.2.2.2.2.2.2.1 x.2.2.2.2.2.2.2.2.2.2.1 x.2.2.2.2.2.2.2.2.2.2.2.1 x.2.2.2.2.2.2.2.2.2.2.2.2.1 x.2.2.2.2.2.2.2.2.2.2.2.2.2.1 x.2.2.2.2.2.2.2.2.2.2.2.2.2.2.1 x.2.2.2.2.2.2.2.2.2.2.2.2.2.2.2.1 x.2.2.2.2.2.2.2.2.2.2.2.2.2.2.2.2.1 x.2.2.2.2.2.2.2.2.2.2.2.2.2.2.2.2.2) (fun _ => rfl) (qBH k)
def qi0 : List SS := [{ fr := [(0, .a (.ptr 0 0 0)), (1, .a (.ptr 1 0 0)), (2, .a (.ptr 2 0 0)), (7, .a (.smz 3)), (29, .a (.lf (.sl (.int .u32)))), (30, .a (.lf (.int .i64))), (31, .a (.lf (.int .i64)))], mem := [(0, some (.raw [[.lf .bool, .snil 1 68]] 2 72 true false)), (1, some (.raw [[.lf .bool, .lf (.sl (.int .u32)), .lf .bool, .lf (.sl (.int .u32))]] 4 74 true false)), (2, some (.raw [[.lf .bool, .lf (.sl (.int .u32))]] 2 72 true false)), (3, some (.arr (.int .u32) 1 68 false))], nx := 4 }]
def qnz : List OS := [⟨some 0, { fr := [(0, .a (.ptr 0 0 0)), (1, .a (.ptr 1 0 0)), (2, .a (.ptr 2 0 0)), (7, .a (.smz 3))], mem := [(0, some (.raw [[.lf .bool, .snil 1 68]] 2 72 true false)), (1, some (.raw [[.lf .bool, .lf (.sl (.int .u32)), .lf .bool, .lf (.sl (.int .u32))]] 4 74 true false)), (2, some (.raw [[.lf .bool, .lf (.sl (.int .u32))]] 2 72 true false)), (3, some (.arr (.int .u32) 1 68 false))], nx := 4 }⟩]
def qnA (k : Nat) : LInst := ⟨0, qi0, qnz, fun x => qbz k k x.1 x.2.1 x.2.2.1 x.2.2.2.1 x.2.2.2.2.1 x.2.2.2.2.2.1 x.2.2.2.2.2.2.1 x.2.2.2.2.2.2.2.1 x.2.2.2.2.2.2.2.2.1 x.2.2.2.2.2.2.2.2.2.1 x.2.2.2.2.2.2.2.2.2.2.1 x.2.2.2.2.2.2.2.2.2.2.2⟩
theorem qBJ (k : Nat) : qg (LOk (R := DS OS.D qnz) (fun b _ σ K => LOt Ty (kps 75) 3 b σ K [qgw k]) cf (call cf k) (kps 75) Tryz.f75.ntmps k 3) 0 (lb Tryz.f75 0) :=
 qA qT (qA (qA qT qT) (qA (qA qT (qA qT (qA (qA qT (qw (c := cf) (callF := call cf k) (kp := kps 75) (nt := Tryz.f75.ntmps) (k := k) (p := 3) (b := 2) (x0 := lb Tryz.f75 1) (l := [qgw k]) (qA (fun _ => qBI k) qT))) qT))) qT))
theorem qBK (k n : Nat) (x : DS SS.D qi0) : qbz k (n + 1) x.1 x.2.1 x.2.2.1 x.2.2.2.1 x.2.2.2.2.1 x.2.2.2.2.2.1 x.2.2.2.2.2.2.1 x.2.2.2.2.2.2.2.1 x.2.2.2.2.2.2.2.2.1 x.2.2.2.2.2.2.2.2.2.1 x.2.2.2.2.2.2.2.2.2.2.1 x.2.2.2.2.2.2.2.2.2.2.2 = qD SS.enc (fun σ => qF cf (fun f a b K => COt f a b K [qdD k]) (fun b _ σ K => LOt Ty (kps 75) 3 b σ K [qgw k]) Tryz.f75.ntmps 0 (lb Tryz.f75 0) σ (qH Ty (kps 75 0) 3 qi0 qnz fun x => qbz k n x.1 x.2.1 x.2.2.1 x.2.2.2.1 x.2.2.2.2.1 x.2.2.2.2.2.1 x.2.2.2.2.2.2.1 x.2.2.2.2.2.2.2.1 x.2.2.2.2.2.2.2.2.1 x.2.2.2.2.2.2.2.2.2.1 x.2.2.2.2.2.2.2.2.2.2.1 x.2.2.2.2.2.2.2.2.2.2.2)) qi0 x := by kernel_rfl
theorem qBL (k : Nat) : qY cf (call cf k) (kps 75) Tryz.f75.ntmps k 3 0 (lb Tryz.f75 0) (qnA k) :=
 qr (c := cf) (callF := call cf k) (kp := kps 75) (nt := Tryz.f75.ntmps) (k := k) (p := 3) (b := 0) (x0 := lb Tryz.f75 0) (hs := qi0) (os := qnz) (qd (qxs k)) (qBJ k) (fun n x => qbz k n x.1 x.2.1 x.2.2.1 x.2.2.2.1 x.2.2.2.2.1 x.2.2.2.2.2.1 x.2.2.2.2.2.2.1 x.2.2.2.2.2.2.2.1 x.2.2.2.2.2.2.2.2.1 x.2.2.2.2.2.2.2.2.2.1 x.2.2.2.2.2.2.2.2.2.2.1 x.2.2.2.2.2.2.2.2.2.2.2) (fun _ => rfl) (qBK k)
theorem qJG (k : Nat) : qg (LOk (R := DS FS.D quI) (fun b _ σ K => LOt Ty (kps 75) 3 b σ K [qgw k, qnA k]) cf (call cf k) (cf.keep 75) Tryz.f75.ntmps k qph.bs.length) 0 (bd Tryz.f75) :=
 qA qT (qA qT (qA (qA qT (qw (c := cf) (callF := call cf k) (kp := kps 75) (nt := Tryz.f75.ntmps) (k := k) (p := 3) (b := 0) (x0 := lb Tryz.f75 0) (l := [qgw k, qnA k]) (qA (fun h => absurd (show (2 : Nat) = 0 from h) (by decide)) (qA (fun _ => qBL k) qT)))) (qA qT qT)))
theorem qJH (k : Nat) (x : qph.D) : qal (k + 1) x.1 x.2.1 x.2.2.1 x.2.2.2.1 x.2.2.2.2.1 x.2.2.2.2.2.1 x.2.2.2.2.2.2 = qi cf (fun f a b K => COt f a b K [qdD k]) (fun b _ σ K => LOt Ty (kps 75) 3 b σ K [qgw k, qnA k]) 75 Tryz.f75.ntmps Tryz.f75.results.toList (bd Tryz.f75) (qph.enc x).1 (qph.enc x).2 (qj FS.dec quI) := by kernel_rfl
theorem quJ : ∀ k, qf (call cf k) (Iq7 k)
 | 0 => fun x y e => absurd (show (none : Option _) = some y from e) (by simp)
 | k + 1 => qe (c := cf) (k := k) (f := 75) (fn := Tryz.f75) (body := bd Tryz.f75) (sh := qph) (os := quI) rfl Tryz.func75 rfl ⟨rfl, Nat.le_of_ble_eq_true rfl⟩ (qd (qxs k)) (qJG k) (fun x => qal (k + 1) x.1 x.2.1 x.2.2.1 x.2.2.2.1 x.2.2.2.2.1 x.2.2.2.2.2.1 x.2.2.2.2.2.2) (qJH k)

def ql0 (k : Nat) (z0 : Bool) (z1 : Bool) (x0 : Bool) (x1 : List Int) (x2 : Bool) (x3 : List Int) (y0 : Bool) (y1 : List Int) (y2 : Bool) (y3 : List Int) : Option (Bool × List Int × Bool × List Int × Bool × List Int × Bool × List Int × Bool × List Int × Bool × List Int) :=
 Option.bind (qo k y0 y1 y2 y3) fun r4 =>
 Option.bind (qal k false x0 x1 x2 x3 r4.2.2.2.2.1 r4.2.2.2.2.2) fun r5 =>
 Option.bind (qo k r5.2.2.1 r5.2.2.2.1 r5.2.2.2.2.1 r5.2.2.2.2.2.1) fun r6 =>
 Option.bind (qal k false r4.1 r4.2.1 r4.2.2.1 r4.2.2.2.1 r6.2.2.2.2.1 r6.2.2.2.2.2) fun r7 =>
 Option.bind (qo k r6.1 r6.2.1 r6.2.2.1 r6.2.2.2.1) fun r8 =>
 Option.bind (qo k r7.2.2.1 r7.2.2.2.1 r7.2.2.2.2.1 r7.2.2.2.2.2.1) fun r9 =>
 Option.bind (qak k false r8.2.2.2.2.1 r8.2.2.2.2.2 r9.2.2.2.2.1 r9.2.2.2.2.2) fun r10 =>
 Option.bind (qbx k r5.1 r5.2.1 r7.1 r7.2.1) fun r11 =>
 Option.bind (qam k z0 z1 r11.1 r11.2.1 r10.1 r10.2.1) fun r12 =>
 (some (r12.1, r12.2.1, r12.2.2.1, r12.2.2.2.1, r8.1, r8.2.1, r8.2.2.1, r8.2.2.2.1, r9.1, r9.2.1, r9.2.2.1, r9.2.2.2.1))
def qcT : Nat → Bool → Bool → Bool → List Int → Bool → List Int → Bool → List Int → Bool → List Int → Option (Bool × List Int × Bool × List Int × Bool × List Int × Bool × List Int × Bool × List Int × Bool × List Int)
 | 0, _, _, _, _, _, _, _, _, _, _ => none
 | k + 1, z0, z1, x0, x1, x2, x3, y0, y1, y2, y3 => ql0 k z0 z1 x0 x1 x2 x3 y0 y1 y2 y3
def qks : FS := { vs := [.a (.ptr 0 0 0), .a (.ptr 1 0 0), .a (.ptr 2 0 0)], bs := [.raw [[.lf .bool, .snil 1 68, .lf .bool, .snil 1 68]] 4 74 true false, .raw [[.lf .bool, .lf (.sl (.int .u32)), .lf .bool, .lf (.sl (.int .u32))]] 4 74 true false, .raw [[.lf .bool, .lf (.sl (.int .u32)), .lf .bool, .lf (.sl (.int .u32))]] 4 74 true false] }
def qqJ : List FS := [{ vs := [.a (.ptr 0 0 0)], bs := [.raw [[.lf .bool, .lf (.sl (.int .u32)), .lf .bool, .lf (.sl (.int .u32))]] 4 74 true false, .raw [[.lf .bool, .lf (.sl (.int .u32)), .lf .bool, .lf (.sl (.int .u32))]] 4 74 true false, .raw [[.lf .bool, .lf (.sl (.int .u32)), .lf .bool, .lf (.sl (.int .u32))]] 4 74 true false] }]
def qxt (k : Nat) : Inst := ⟨33, qks, qqJ, fun x => qcT k x.1 x.2.1 x.2.2.1 x.2.2.2.1 x.2.2.2.2.1 x.2.2.2.2.2.1 x.2.2.2.2.2.2.1 x.2.2.2.2.2.2.2.1 x.2.2.2.2.2.2.2.2.1 x.2.2.2.2.2.2.2.2.2⟩
theorem qGi (k : Nat) : qk (call cf k) [qeu k, Iq7 k, Iq4 k, Iq2 k, qh5 k] := qA (qgO k) (qA (quJ k) (qA (qsl k) (qA (qxq k) (qA (qqo k) qT))))
theorem qGj (k : Nat) : qg (LOk (R := DS FS.D qqJ) (fun b _ σ K => LOt Ty (kps 33) 3 b σ K []) cf (call cf k) (cf.keep 33) Tryz.f33.ntmps k qks.bs.length) 0 (bd Tryz.f33) :=
 qA qT (qA qT (qA qT (qA qT (qA qT (qA qT qT)))))
theorem qGk (k : Nat) (x : qks.D) : qcT (k + 1) x.1 x.2.1 x.2.2.1 x.2.2.2.1 x.2.2.2.2.1 x.2.2.2.2.2.1 x.2.2.2.2.2.2.1 x.2.2.2.2.2.2.2.1 x.2.2.2.2.2.2.2.2.1 x.2.2.2.2.2.2.2.2.2 = qi cf (fun f a b K => COt f a b K [qeu k, Iq7 k, Iq4 k, Iq2 k, qh5 k]) (fun b _ σ K => LOt Ty (kps 33) 3 b σ K []) 33 Tryz.f33.ntmps Tryz.f33.results.toList (bd Tryz.f33) (qks.enc x).1 (qks.enc x).2 (qj FS.dec qqJ) := by kernel_rfl
theorem qGl : ∀ k, qf (call cf k) (qxt k)
 | 0 => fun x y e => absurd (show (none : Option _) = some y from e) (by simp)
 | k + 1 => qe (c := cf) (k := k) (f := 33) (fn := Tryz.f33) (body := bd Tryz.f33) (sh := qks) (os := qqJ) rfl Tryz.func33 rfl ⟨rfl, Nat.le_of_ble_eq_true rfl⟩ (qd (qGi k)) (qGj k) (fun x => qcT (k + 1) x.1 x.2.1 x.2.2.1 x.2.2.2.1 x.2.2.2.2.1 x.2.2.2.2.2.1 x.2.2.2.2.2.2.1 x.2.2.2.2.2.2.2.1 x.2.2.2.2.2.2.2.2.1 x.2.2.2.2.2.2.2.2.2) (qGk k)

def ql1 (k : Nat) (z0 : Bool) (z1 : Bool) (x0 : Bool) (x1 : List Int) (x2 : Bool) (x3 : List Int) (y0 : Bool) (y1 : List Int) (y2 : Bool) (y3 : List Int) : Option (Bool × List Int × Bool × List Int × Bool × List Int × Bool × List Int × Bool × List Int × Bool × List Int) :=
 Option.bind (qcS k false false y0 y1 y2 y3) fun r3 =>
 Option.bind (qcT k z0 z1 x0 x1 x2 x3 r3.1 r3.2.1 r3.2.2.1 r3.2.2.2.1) fun r4 =>
 (some (r4.1, r4.2.1, r4.2.2.1, r4.2.2.2.1, r4.2.2.2.2.1, r4.2.2.2.2.2.1, r4.2.2.2.2.2.2.1, r4.2.2.2.2.2.2.2.1, r3.2.2.2.2.1, r3.2.2.2.2.2.1, r3.2.2.2.2.2.2.1, r3.2.2.2.2.2.2.2))
def qbA : Nat → Bool → Bool → Bool → List Int → Bool → List Int → Bool → List Int → Bool → List Int → Option (Bool × List Int × Bool × List Int × Bool × List Int × Bool × List Int × Bool × List Int × Bool × List Int)
 | 0, _, _, _, _, _, _, _, _, _, _ => none
 | k + 1, z0, z1, x0, x1, x2, x3, y0, y1, y2, y3 => ql1 k z0 z1 x0 x1 x2 x3 y0 y1 y2 y3
def qkt : FS := { vs := [.a (.ptr 0 0 0), .a (.ptr 1 0 0), .a (.ptr 2 0 0)], bs := [.raw [[.lf .bool, .snil 1 68, .lf .bool, .snil 1 68]] 4 74 true false, .raw [[.lf .bool, .lf (.sl (.int .u32)), .lf .bool, .lf (.sl (.int .u32))]] 4 74 true false, .raw [[.lf .bool, .lf (.sl (.int .u32)), .lf .bool, .lf (.sl (.int .u32))]] 4 74 true false] }
def qqK : List FS := [{ vs := [.a (.ptr 0 0 0)], bs := [.raw [[.lf .bool, .lf (.sl (.int .u32)), .lf .bool, .lf (.sl (.int .u32))]] 4 74 true false, .raw [[.lf .bool, .lf (.sl (.int .u32)), .lf .bool, .lf (.sl (.int .u32))]] 4 74 true false, .raw [[.lf .bool, .lf (.sl (.int .u32)), .lf .bool, .lf (.sl (.int .u32))]] 4 74 true false] }]
def quK (k : Nat) : Inst := ⟨31, qkt, qqK, fun x => qbA k x.1 x.2.1 x.2.2.1 x.2.2.2.1 x.2.2.2.2.1 x.2.2.2.2.2.1 x.2.2.2.2.2.2.1 x.2.2.2.2.2.2.2.1 x.2.2.2.2.2.2.2.2.1 x.2.2.2.2.2.2.2.2.2⟩
theorem qGm (k : Nat) : qk (call cf k) [qxr k, qxt k] := qA (qGh k) (qA (qGl k) qT)
theorem qGn (k : Nat) : qg (LOk (R := DS FS.D qqK) (fun b _ σ K => LOt Ty (kps 31) 3 b σ K []) cf (call cf k) (cf.keep 31) Tryz.f31.ntmps k qkt.bs.length) 0 (bd Tryz.f31) :=
 qA qT (qA qT qT)
theorem qGo (k : Nat) (x : qkt.D) : qbA (k + 1) x.1 x.2.1 x.2.2.1 x.2.2.2.1 x.2.2.2.2.1 x.2.2.2.2.2.1 x.2.2.2.2.2.2.1 x.2.2.2.2.2.2.2.1 x.2.2.2.2.2.2.2.2.1 x.2.2.2.2.2.2.2.2.2 = qi cf (fun f a b K => COt f a b K [qxr k, qxt k]) (fun b _ σ K => LOt Ty (kps 31) 3 b σ K []) 31 Tryz.f31.ntmps Tryz.f31.results.toList (bd Tryz.f31) (qkt.enc x).1 (qkt.enc x).2 (qj FS.dec qqK) := by kernel_rfl
theorem qGp : ∀ k, qf (call cf k) (quK k)
 | 0 => fun x y e => absurd (show (none : Option _) = some y from e) (by simp)
 | k + 1 => qe (c := cf) (k := k) (f := 31) (fn := Tryz.f31) (body := bd Tryz.f31) (sh := qkt) (os := qqK) rfl Tryz.func31 rfl ⟨rfl, Nat.le_of_ble_eq_true rfl⟩ (qd (qGm k)) (qGn k) (fun x => qbA (k + 1) x.1 x.2.1 x.2.2.1 x.2.2.2.1 x.2.2.2.2.1 x.2.2.2.2.2.1 x.2.2.2.2.2.2.1 x.2.2.2.2.2.2.2.1 x.2.2.2.2.2.2.2.2.1 x.2.2.2.2.2.2.2.2.2) (qGo k)

def ql2 (k : Nat) (x0 : Bool) (x1 : List Int) (x2 : Bool) (x3 : List Int) (y0 : Bool) (y1 : List Int) (y2 : Bool) (y3 : List Int) : Option (Bool × List Int × Bool × List Int × Bool × List Int × Bool × List Int) :=
 Option.bind (qo k y0 y1 y2 y3) fun r6 =>
 Option.bind (qal k false x0 x1 x2 x3 r6.2.2.2.2.1 r6.2.2.2.2.2) fun r7 =>
 Option.bind (qo k r7.2.2.1 r7.2.2.2.1 r7.2.2.2.2.1 r7.2.2.2.2.2.1) fun r8 =>
 Option.bind (qal k false r6.1 r6.2.1 r6.2.2.1 r6.2.2.2.1 r8.2.2.2.2.1 r8.2.2.2.2.2) fun r9 =>
 Option.bind (qo k r8.1 r8.2.1 r8.2.2.1 r8.2.2.2.1) fun r10 =>
 Option.bind (qo k r9.2.2.1 r9.2.2.2.1 r9.2.2.2.2.1 r9.2.2.2.2.2.1) fun r11 =>
 Option.bind (qak k false r10.2.2.2.2.1 r10.2.2.2.2.2 r11.2.2.2.2.1 r11.2.2.2.2.2) fun r12 =>
 Option.bind (qbx k r7.1 r7.2.1 r9.1 r9.2.1) fun r13 =>
 Option.bind (qbc k r10.1 r10.2.1 r10.2.2.1 r10.2.2.2.1 r13.1 r13.2.1 r12.1 r12.2.1) fun r14 =>
 (some (r14.1, r14.2.1, r14.2.2.1, r14.2.2.2.1, r11.1, r11.2.1, r11.2.2.1, r11.2.2.2.1))
def qcU : Nat → Bool → List Int → Bool → List Int → Bool → List Int → Bool → List Int → Option (Bool × List Int × Bool × List Int × Bool × List Int × Bool × List Int)
 | 0, _, _, _, _, _, _, _, _ => none
 | k + 1, x0, x1, x2, x3, y0, y1, y2, y3 => ql2 k x0 x1 x2 x3 y0 y1 y2 y3
def qku : FS := { vs := [.a (.ptr 0 0 0), .a (.ptr 0 0 0), .a (.ptr 1 0 0)], bs := [.raw [[.lf .bool, .lf (.sl (.int .u32)), .lf .bool, .lf (.sl (.int .u32))]] 4 74 true false, .raw [[.lf .bool, .lf (.sl (.int .u32)), .lf .bool, .lf (.sl (.int .u32))]] 4 74 true false] }
def qqL : List FS := [{ vs := [.a (.ptr 0 0 0)], bs := [.raw [[.lf .bool, .lf (.sl (.int .u32)), .lf .bool, .lf (.sl (.int .u32))]] 4 74 true false, .raw [[.lf .bool, .lf (.sl (.int .u32)), .lf .bool, .lf (.sl (.int .u32))]] 4 74 true false] }]
def quL (k : Nat) : Inst := ⟨33, qku, qqL, fun x => qcU k x.1 x.2.1 x.2.2.1 x.2.2.2.1 x.2.2.2.2.1 x.2.2.2.2.2.1 x.2.2.2.2.2.2.1 x.2.2.2.2.2.2.2⟩
theorem qGq (k : Nat) : qk (call cf k) [qeu k, Iq7 k, Iq4 k, Iq2 k, qsm k] := qA (qgO k) (qA (quJ k) (qA (qsl k) (qA (qxq k) (qA (qyv k) qT))))
theorem qGr (k : Nat) : qg (LOk (R := DS FS.D qqL) (fun b _ σ K => LOt Ty (kps 33) 2 b σ K []) cf (call cf k) (cf.keep 33) Tryz.f33.ntmps k qku.bs.length) 0 (bd Tryz.f33) :=
 qA qT (qA qT (qA qT (qA qT (qA qT (qA qT qT)))))
theorem qGs (k : Nat) (x : qku.D) : qcU (k + 1) x.1 x.2.1 x.2.2.1 x.2.2.2.1 x.2.2.2.2.1 x.2.2.2.2.2.1 x.2.2.2.2.2.2.1 x.2.2.2.2.2.2.2 = qi cf (fun f a b K => COt f a b K [qeu k, Iq7 k, Iq4 k, Iq2 k, qsm k]) (fun b _ σ K => LOt Ty (kps 33) 2 b σ K []) 33 Tryz.f33.ntmps Tryz.f33.results.toList (bd Tryz.f33) (qku.enc x).1 (qku.enc x).2 (qj FS.dec qqL) := by kernel_rfl
theorem qGt : ∀ k, qf (call cf k) (quL k)
 | 0 => fun x y e => absurd (show (none : Option _) = some y from e) (by simp)
 | k + 1 => qe (c := cf) (k := k) (f := 33) (fn := Tryz.f33) (body := bd Tryz.f33) (sh := qku) (os := qqL) rfl Tryz.func33 rfl ⟨rfl, Nat.le_of_ble_eq_true rfl⟩ (qd (qGq k)) (qGr k) (fun x => qcU (k + 1) x.1 x.2.1 x.2.2.1 x.2.2.2.1 x.2.2.2.2.1 x.2.2.2.2.2.1 x.2.2.2.2.2.2.1 x.2.2.2.2.2.2.2) (qGs k)

def qcV (k : Nat) (rec : List Int → Int → Int → Option ((Bool) ⊕ (Unit))) (x : List Int) (x1 : Int) (x2 : Int) : Option ((Bool) ⊕ (Unit)) :=
 if ((decide (x2 < x1)) = true) then
 if ((0 : Int) ≤ x2) then
 Option.bind (x)[(Int.toNat x2)]? fun x3 =>
 if ((decide (x3 ≥ (97 : Int))) = true) then
 if ((decide (x3 ≤ (122 : Int))) = false) then
 if ((decide (x3 ≥ (48 : Int))) = true) then
 if ((decide (x3 ≤ (57 : Int))) = false) then
 if ((!(x3 == (95 : Int))) = true) then
 (some (Sum.inl false))
 else
 rec x x1 (IntKind.wrap .i64 (x2 + (1 : Int)))
 else
 rec x x1 (IntKind.wrap .i64 (x2 + (1 : Int)))
 else
 if ((!(x3 == (95 : Int))) = true) then
 (some (Sum.inl false))
 else
 rec x x1 (IntKind.wrap .i64 (x2 + (1 : Int)))
 else
 rec x x1 (IntKind.wrap .i64 (x2 + (1 : Int)))
 else
 if ((decide (x3 ≥ (48 : Int))) = true) then
 if ((decide (x3 ≤ (57 : Int))) = false) then
 if ((!(x3 == (95 : Int))) = true) then
 (some (Sum.inl false))
 else
 rec x x1 (IntKind.wrap .i64 (x2 + (1 : Int)))
 else
 rec x x1 (IntKind.wrap .i64 (x2 + (1 : Int)))
 else
 if ((!(x3 == (95 : Int))) = true) then
 (some (Sum.inl false))
 else
 rec x x1 (IntKind.wrap .i64 (x2 + (1 : Int)))
 else
 none
 else
 (some (Sum.inr ()))
def qaH (k n : Nat) : List Int → Int → Int → Option ((Bool) ⊕ (Unit)) := Nat.rec (fun _ _ _ => none) (fun _ r => qcV k r) n
def qg1 (k : Nat) (s : ByteArray) : Option (Bool) :=
 if ((decide ((((ByteArray.size s) : Nat) : Int) < (1 : Int))) = false) then
 if ((decide ((((ByteArray.size s) : Nat) : Int) > (16 : Int))) = true) then
 (some false)
 else
 Option.bind (qaH k k (List.map (fun b : UInt8 => ((UInt8.toNat b : Nat) : Int)) (Array.toList (ByteArray.data s))) (((List.length (List.map (fun b : UInt8 => ((UInt8.toNat b : Nat) : Int)) (Array.toList (ByteArray.data s)))) : Nat) : Int) (0 : Int)) fun r =>
 qc r
 (fun r =>
 (some r))
 (fun r =>
 (some true))
 else
 (some false)
def qd2 : Nat → ByteArray → Option (Bool)
 | 0, _ => none
 | k + 1, s => qg1 k s
def qkv : FS := { vs := [.a (.lf .str)], bs := [] }
def qqM : List FS := [{ vs := [.a (.lf .bool)], bs := [] }]
def qpi (k : Nat) : Inst := ⟨51, qkv, qqM, fun x => qd2 k x⟩
theorem qyy (k : Nat) : qk (call cf k) [] := True.intro
def qi1 : List SS := [{ fr := [(14, .a (.lf (.sl (.int .u8)))), (15, .a (.lf (.int .i64))), (16, .a (.lf (.int .i64)))], mem := [], nx := 0 }]
def qnB : List OS := [⟨none, { fr := [(2, .a (.lf .bool))], mem := [], nx := 0 }⟩, ⟨some 0, { fr := [], mem := [], nx := 0 }⟩]
def qnC (k : Nat) : LInst := ⟨0, qi1, qnB, fun x => qaH k k x.1 x.2.1 x.2.2⟩
theorem qBM (k : Nat) : qg (LOk (R := DS OS.D qnB) (fun b _ σ K => LOt Ty (kps 51) 0 b σ K []) cf (call cf k) (kps 51) Tryz.f51.ntmps k 0) 0 (lb Tryz.f51 0) :=
 qA qT (qA (qA qT qT) (qA (qA qT (qA qT (qA (qA qT qT) qT))) qT))
theorem qBN (k n : Nat) (x : DS SS.D qi1) : qaH k (n + 1) x.1 x.2.1 x.2.2 = qD SS.enc (fun σ => qF cf (fun f a b K => COt f a b K []) (fun b _ σ K => LOt Ty (kps 51) 0 b σ K []) Tryz.f51.ntmps 0 (lb Tryz.f51 0) σ (qH Ty (kps 51 0) 0 qi1 qnB fun x => qaH k n x.1 x.2.1 x.2.2)) qi1 x := by kernel_rfl
theorem qBO (k : Nat) : qY cf (call cf k) (kps 51) Tryz.f51.ntmps k 0 0 (lb Tryz.f51 0) (qnC k) :=
 qr (c := cf) (callF := call cf k) (kp := kps 51) (nt := Tryz.f51.ntmps) (k := k) (p := 0) (b := 0) (x0 := lb Tryz.f51 0) (hs := qi1) (os := qnB) (qd (qyy k)) (qBM k) (fun n x => qaH k n x.1 x.2.1 x.2.2) (fun _ => rfl) (qBN k)
theorem qGu (k : Nat) : qg (LOk (R := DS FS.D qqM) (fun b _ σ K => LOt Ty (kps 51) 0 b σ K [qnC k]) cf (call cf k) (cf.keep 51) Tryz.f51.ntmps k qkv.bs.length) 0 (bd Tryz.f51) :=
 qA qT (qA (qA qT (qA (qA qT qT) qT)) (qA (qA qT (qw (c := cf) (callF := call cf k) (kp := kps 51) (nt := Tryz.f51.ntmps) (k := k) (p := 0) (b := 0) (x0 := lb Tryz.f51 0) (l := [qnC k]) (qA (fun _ => qBO k) qT))) (qA qT qT)))
theorem qGv (k : Nat) (x : qkv.D) : qd2 (k + 1) x = qi cf (fun f a b K => COt f a b K []) (fun b _ σ K => LOt Ty (kps 51) 0 b σ K [qnC k]) 51 Tryz.f51.ntmps Tryz.f51.results.toList (bd Tryz.f51) (qkv.enc x).1 (qkv.enc x).2 (qj FS.dec qqM) := by kernel_rfl
theorem qGw : ∀ k, qf (call cf k) (qpi k)
 | 0 => fun x y e => absurd (show (none : Option _) = some y from e) (by simp)
 | k + 1 => qe (c := cf) (k := k) (f := 51) (fn := Tryz.f51) (body := bd Tryz.f51) (sh := qkv) (os := qqM) rfl Tryz.func51 rfl ⟨rfl, Nat.le_of_ble_eq_true rfl⟩ (qd (qyy k)) (qGu k) (fun x => qd2 (k + 1) x) (qGv k)

def ql3 (k : Nat) (z0 : Bool) (z1 : List Int) (z2 : Bool) (z3 : List Int) (y0 : Bool) (y1 : List Int) (y2 : Bool) (y3 : List Int) : Option (Int × Bool × List Int × Bool × List Int × Bool × List Int × Bool × List Int) :=
 Option.bind (qo k y0 y1 y2 y3) fun r6 =>
 Option.bind (qal k false z0 z1 z2 z3 r6.2.2.2.2.1 r6.2.2.2.2.2) fun r7 =>
 Option.bind (qo k r7.2.2.1 r7.2.2.2.1 r7.2.2.2.2.1 r7.2.2.2.2.2.1) fun r8 =>
 Option.bind (qal k false r6.1 r6.2.1 r6.2.2.1 r6.2.2.2.1 r8.2.2.2.2.1 r8.2.2.2.2.2) fun r9 =>
 Option.bind (qcQ k r7.1 r7.2.1 r9.1 r9.2.1) fun r10 =>
 (some (r10.1, r8.1, r8.2.1, r8.2.2.1, r8.2.2.2.1, r9.2.2.1, r9.2.2.2.1, r9.2.2.2.2.1, r9.2.2.2.2.2.1))
def qaO : Nat → Bool → List Int → Bool → List Int → Bool → List Int → Bool → List Int → Option (Int × Bool × List Int × Bool × List Int × Bool × List Int × Bool × List Int)
 | 0, _, _, _, _, _, _, _, _ => none
 | k + 1, z0, z1, z2, z3, y0, y1, y2, y3 => ql3 k z0 z1 z2 z3 y0 y1 y2 y3
def qkw : FS := { vs := [.a (.ptr 0 0 0), .a (.ptr 1 0 0)], bs := [.raw [[.lf .bool, .lf (.sl (.int .u32)), .lf .bool, .lf (.sl (.int .u32))]] 4 74 true false, .raw [[.lf .bool, .lf (.sl (.int .u32)), .lf .bool, .lf (.sl (.int .u32))]] 4 74 true false] }
def qqN : List FS := [{ vs := [.a (.lf (.int .i64))], bs := [.raw [[.lf .bool, .lf (.sl (.int .u32)), .lf .bool, .lf (.sl (.int .u32))]] 4 74 true false, .raw [[.lf .bool, .lf (.sl (.int .u32)), .lf .bool, .lf (.sl (.int .u32))]] 4 74 true false] }]
def qsn (k : Nat) : Inst := ⟨42, qkw, qqN, fun x => qaO k x.1 x.2.1 x.2.2.1 x.2.2.2.1 x.2.2.2.2.1 x.2.2.2.2.2.1 x.2.2.2.2.2.2.1 x.2.2.2.2.2.2.2⟩
theorem qGx (k : Nat) : qk (call cf k) [qeu k, Iq7 k, Iq3 k] := qA (qgO k) (qA (quJ k) (qA (qJy k) qT))
theorem qGy (k : Nat) : qg (LOk (R := DS FS.D qqN) (fun b _ σ K => LOt Ty (kps 42) 2 b σ K []) cf (call cf k) (cf.keep 42) Tryz.f42.ntmps k qkw.bs.length) 0 (bd Tryz.f42) :=
 qA qT (qA qT (qA qT (qA qT (qA qT qT))))
theorem qGz (k : Nat) (x : qkw.D) : qaO (k + 1) x.1 x.2.1 x.2.2.1 x.2.2.2.1 x.2.2.2.2.1 x.2.2.2.2.2.1 x.2.2.2.2.2.2.1 x.2.2.2.2.2.2.2 = qi cf (fun f a b K => COt f a b K [qeu k, Iq7 k, Iq3 k]) (fun b _ σ K => LOt Ty (kps 42) 2 b σ K []) 42 Tryz.f42.ntmps Tryz.f42.results.toList (bd Tryz.f42) (qkw.enc x).1 (qkw.enc x).2 (qj FS.dec qqN) := by kernel_rfl
theorem qyz : ∀ k, qf (call cf k) (qsn k)
 | 0 => fun x y e => absurd (show (none : Option _) = some y from e) (by simp)
 | k + 1 => qe (c := cf) (k := k) (f := 42) (fn := Tryz.f42) (body := bd Tryz.f42) (sh := qkw) (os := qqN) rfl Tryz.func42 rfl ⟨rfl, Nat.le_of_ble_eq_true rfl⟩ (qd (qGx k)) (qGy k) (fun x => qaO (k + 1) x.1 x.2.1 x.2.2.1 x.2.2.2.1 x.2.2.2.2.1 x.2.2.2.2.2.1 x.2.2.2.2.2.2.1 x.2.2.2.2.2.2.2) (qGz k)

def ql4 (k : Nat) (a0 : Int) (a1 : Int) (b0 : Int) (b1 : Int) : Option (Int × Int) :=
 Option.bind (qdq k a0 a1) fun r2 =>
 if ((!r2) = false) then
 Option.bind (qdq k b0 b1) fun r3 =>
 if ((!r3) = true) then
 (some ((0 : Int), (30 : Int)))
 else
 Option.bind (qdJ k a0 a1) fun r4 =>
 Option.bind (qdJ k b0 b1) fun r5 =>
 Option.bind (qaO k r4.1 r4.2.1 r4.2.2.1 r4.2.2.2 r5.1 r5.2.1 r5.2.2.1 r5.2.2.2) fun r6 =>
 (some (r6.1, (0 : Int)))
 else
 (some ((0 : Int), (30 : Int)))
def qfa : Nat → Int → Int → Int → Int → Option (Int × Int)
 | 0, _, _, _, _ => none
 | k + 1, a0, a1, b0, b1 => ql4 k a0 a1 b0 b1
def qkx : FS := { vs := [.g [.lf (.int .i64), .lf (.int .i64)], .g [.lf (.int .i64), .lf (.int .i64)]], bs := [] }
def qqO : List FS := [{ vs := [.a (.lf (.int .i64)), .a (.lf (.int .i64))], bs := [] }]
def qpj (k : Nat) : Inst := ⟨53, qkx, qqO, fun x => qfa k x.1 x.2.1 x.2.2.1 x.2.2.2⟩
theorem qGA (k : Nat) : qk (call cf k) [qgZ k, qsi k, qsn k] := qA (qut k) (qA (qyt k) (qA (qyz k) qT))
theorem qGB (k : Nat) : qg (LOk (R := DS FS.D qqO) (fun b _ σ K => LOt Ty (kps 53) 0 b σ K []) cf (call cf k) (cf.keep 53) Tryz.f53.ntmps k qkx.bs.length) 0 (bd Tryz.f53) :=
 qA qT (qA (qA qT (qA (qA qT qT) qT)) (qA qT qT))
theorem qGC (k : Nat) (x : qkx.D) : qfa (k + 1) x.1 x.2.1 x.2.2.1 x.2.2.2 = qi cf (fun f a b K => COt f a b K [qgZ k, qsi k, qsn k]) (fun b _ σ K => LOt Ty (kps 53) 0 b σ K []) 53 Tryz.f53.ntmps Tryz.f53.results.toList (bd Tryz.f53) (qkx.enc x).1 (qkx.enc x).2 (qj FS.dec qqO) := by kernel_rfl
theorem qGD : ∀ k, qf (call cf k) (qpj k)
 | 0 => fun x y e => absurd (show (none : Option _) = some y from e) (by simp)
 | k + 1 => qe (c := cf) (k := k) (f := 53) (fn := Tryz.f53) (body := bd Tryz.f53) (sh := qkx) (os := qqO) rfl Tryz.func53 rfl ⟨rfl, Nat.le_of_ble_eq_true rfl⟩ (qd (qGA k)) (qGB k) (fun x => qfa (k + 1) x.1 x.2.1 x.2.2.1 x.2.2.2) (qGC k)

def qcu (k : Nat) (rec : List (Int × Int) → List (Int × Int) → Int → List (Int × Int) → Int → Int → ByteArray → Int → List (Int × Int) → List (Int × Int) → Option ((Bool × ByteArray × Int × List (Int × Int) × List (Int × Int) × Int × Int) ⊕ (List (Int × Int) × List (Int × Int) × Int × ByteArray × Int × List (Int × Int) × List (Int × Int)))) (x0 : List (Int × Int)) (x1 : List (Int × Int)) (x : Int) (x2 : List (Int × Int)) (x3 : Int) (x4 : Int) (m0 : ByteArray) (m1 : Int) (m2 : List (Int × Int)) (m3 : List (Int × Int)) : Option ((Bool × ByteArray × Int × List (Int × Int) × List (Int × Int) × Int × Int) ⊕ (List (Int × Int) × List (Int × Int) × Int × ByteArray × Int × List (Int × Int) × List (Int × Int))) :=
 if ((decide (x4 < x3)) = true) then
 if ((0 : Int) ≤ x4) then
 Option.bind (x2)[(Int.toNat x4)]? fun x5 =>
 Option.bind (qdq k x5.1 x5.2) fun r1 =>
 if ((!r1) = true) then
 (some (Sum.inl (false, m0, m1, m2, m3, x5.1, x5.2)))
 else
 rec x0 x1 x x2 x3 (IntKind.wrap .i64 (x4 + (1 : Int))) m0 m1 m2 m3
 else
 none
 else
 (some (Sum.inr (x0, x1, x, m0, m1, m2, m3)))
def qaf (k n : Nat) : List (Int × Int) → List (Int × Int) → Int → List (Int × Int) → Int → Int → ByteArray → Int → List (Int × Int) → List (Int × Int) → Option ((Bool × ByteArray × Int × List (Int × Int) × List (Int × Int) × Int × Int) ⊕ (List (Int × Int) × List (Int × Int) × Int × ByteArray × Int × List (Int × Int) × List (Int × Int))) := Nat.rec (fun _ _ _ _ _ _ _ _ _ _ => none) (fun _ r => qcu k r) n
def qdg (k : Nat) (rec : List (Int × Int) → List (Int × Int) → Int → ByteArray → Int → List (Int × Int) → List (Int × Int) → Option ((Bool × ByteArray × Int × List (Int × Int) × List (Int × Int) × Int × Int) ⊕ (ByteArray × Int × List (Int × Int) × List (Int × Int)))) (x0 : List (Int × Int)) (x1 : List (Int × Int)) (x : Int) (m0 : ByteArray) (m1 : Int) (m2 : List (Int × Int)) (m3 : List (Int × Int)) : Option ((Bool × ByteArray × Int × List (Int × Int) × List (Int × Int) × Int × Int) ⊕ (ByteArray × Int × List (Int × Int) × List (Int × Int))) :=
 if ((decide (x < (2 : Int))) = true) then
 if (x = (0 : Int)) then
 Option.bind (qaf k k x0 x1 x x0 (((List.length x0) : Nat) : Int) (0 : Int) m0 m1 m2 m3) fun r1 =>
 qc r1
 (fun r1 =>
 (some (Sum.inl (r1.1, r1.2.1, r1.2.2.1, r1.2.2.2.1, r1.2.2.2.2.1, r1.2.2.2.2.2.1, r1.2.2.2.2.2.2))))
 (fun r1 =>
 rec r1.1 r1.2.1 (IntKind.wrap .i64 (r1.2.2.1 + (1 : Int))) r1.2.2.2.1 r1.2.2.2.2.1 r1.2.2.2.2.2.1 r1.2.2.2.2.2.2)
 else
 if ((x - (1 : Int)) = (0 : Int)) then
 Option.bind (qaf k k x0 x1 x x1 (((List.length x1) : Nat) : Int) (0 : Int) m0 m1 m2 m3) fun r1 =>
 qc r1
 (fun r1 =>
 (some (Sum.inl (r1.1, r1.2.1, r1.2.2.1, r1.2.2.2.1, r1.2.2.2.2.1, r1.2.2.2.2.2.1, r1.2.2.2.2.2.2))))
 (fun r1 =>
 rec r1.1 r1.2.1 (IntKind.wrap .i64 (r1.2.2.1 + (1 : Int))) r1.2.2.2.1 r1.2.2.2.2.1 r1.2.2.2.2.2.1 r1.2.2.2.2.2.2)
 else
 none
 else
 (some (Sum.inr (m0, m1, m2, m3)))
def qaa (k n : Nat) : List (Int × Int) → List (Int × Int) → Int → ByteArray → Int → List (Int × Int) → List (Int × Int) → Option ((Bool × ByteArray × Int × List (Int × Int) × List (Int × Int) × Int × Int) ⊕ (ByteArray × Int × List (Int × Int) × List (Int × Int))) := Nat.rec (fun _ _ _ _ _ _ _ => none) (fun _ r => qdg k r) n
def qbn (k : Nat) (rec : Int → ByteArray → Int → List (Int × Int) → List (Int × Int) → Option ((Bool × ByteArray × Int × List (Int × Int) × List (Int × Int)) ⊕ (ByteArray × Int × List (Int × Int) × List (Int × Int)))) (i : Int) (m0 : ByteArray) (m1 : Int) (m2 : List (Int × Int)) (m3 : List (Int × Int)) : Option ((Bool × ByteArray × Int × List (Int × Int) × List (Int × Int)) ⊕ (ByteArray × Int × List (Int × Int) × List (Int × Int))) :=
 if ((decide (i < (((List.length m3) : Nat) : Int))) = true) then
 if ((0 : Int) ≤ (IntKind.wrap .i64 (i - (1 : Int)))) then
 Option.bind (m3)[(Int.toNat (IntKind.wrap .i64 (i - (1 : Int))))]? fun x =>
 if ((0 : Int) ≤ i) then
 Option.bind (m3)[(Int.toNat i)]? fun x1 =>
 Option.bind (qfa k x.1 x.2 x1.1 x1.2) fun r2 =>
 if ((decide (r2.1 ≥ (0 : Int))) = true) then
 (some (Sum.inl (false, m0, m1, m2, m3)))
 else
 rec (IntKind.wrap .i64 (i + (1 : Int))) m0 m1 m2 m3
 else
 none
 else
 none
 else
 (some (Sum.inr (m0, m1, m2, m3)))
def qR (k n : Nat) : Int → ByteArray → Int → List (Int × Int) → List (Int × Int) → Option ((Bool × ByteArray × Int × List (Int × Int) × List (Int × Int)) ⊕ (ByteArray × Int × List (Int × Int) × List (Int × Int))) := Nat.rec (fun _ _ _ _ _ => none) (fun _ r => qbn k r) n
def qgx (k : Nat) (m0 : ByteArray) (m1 : Int) (m2 : List (Int × Int)) (m3 : List (Int × Int)) : Option (Bool) :=
 Option.bind (qd2 k m0) fun r =>
 if ((!r) = true) then
 (some false)
 else
 Option.bind (qaa k k m2 m3 (0 : Int) m0 m1 m2 m3) fun r1 =>
 qc r1
 (fun r1 =>
 (some r1.1))
 (fun r1 =>
 if ((r1.2.1 == (115 : Int)) = true) then
 if (((((List.length r1.2.2.1) : Nat) : Int) == (2 : Int)) = true) then
 (some ((((List.length r1.2.2.2) : Nat) : Int) == (1 : Int)))
 else
 (some false)
 else
 if ((r1.2.1 == (100 : Int)) = true) then
 if ((decide ((((List.length r1.2.2.1) : Nat) : Int) < (1 : Int))) = false) then
 if ((decide ((((List.length r1.2.2.1) : Nat) : Int) > (4 : Int))) = false) then
 if (((((List.length r1.2.2.2) : Nat) : Int) != (IntKind.wrap .i64 ((((List.length r1.2.2.1) : Nat) : Int) - (1 : Int)))) = true) then
 (some false)
 else
 Option.bind (qR k k (1 : Int) r1.1 r1.2.1 r1.2.2.1 r1.2.2.2) fun r2 =>
 qc r2
 (fun r2 =>
 (some r2.1))
 (fun r2 =>
 (some true))
 else
 (some false)
 else
 (some false)
 else
 (some false))
def qbW : Nat → ByteArray → Int → List (Int × Int) → List (Int × Int) → Option (Bool)
 | 0, _, _, _, _ => none
 | k + 1, m0, m1, m2, m3 => qgx k m0 m1 m2 m3
def qky : FS := { vs := [.g [.lf .str, .lf (.int .u8), .lf (.sl (.pr (.int .i64) (.int .i64))), .lf (.sl (.pr (.int .i64) (.int .i64)))]], bs := [] }
def qqP : List FS := [{ vs := [.a (.lf .bool)], bs := [] }]
def qib (k : Nat) : Inst := ⟨15, qky, qqP, fun x => qbW k x.1 x.2.1 x.2.2.1 x.2.2.2⟩
theorem qqQ (k : Nat) : qk (call cf k) [qpi k, qgZ k, qpj k] := qA (qGw k) (qA (qut k) (qA (qGD k) qT))
def qi2 : List SS := [{ fr := [(1, .a (.ptr 0 0 0)), (18, .g [.lf (.sl (.pr (.int .i64) (.int .i64))), .lf (.sl (.pr (.int .i64) (.int .i64)))]), (19, .a (.lf (.int .i64))), (22, .a (.lf (.sl (.pr (.int .i64) (.int .i64))))), (23, .a (.lf (.int .i64))), (24, .a (.lf (.int .i64)))], mem := [(0, some (.raw [[.lf .str, .lf (.int .u8), .lf (.sl (.pr (.int .i64) (.int .i64))), .lf (.sl (.pr (.int .i64) (.int .i64)))]] 4 24 true false))], nx := 1 }]
def qnD : List OS := [⟨none, { fr := [(2, .a (.lf .bool))], mem := [(0, some (.raw [[.lf .str, .lf (.int .u8), .lf (.sl (.pr (.int .i64) (.int .i64))), .lf (.sl (.pr (.int .i64) (.int .i64)))]] 4 24 true false)), (1, some (.raw [[.lf (.int .i64), .lf (.int .i64)]] 2 48 true false))], nx := 2 }⟩, ⟨some 2, { fr := [(1, .a (.ptr 0 0 0)), (18, .g [.lf (.sl (.pr (.int .i64) (.int .i64))), .lf (.sl (.pr (.int .i64) (.int .i64)))]), (19, .a (.lf (.int .i64)))], mem := [(0, some (.raw [[.lf .str, .lf (.int .u8), .lf (.sl (.pr (.int .i64) (.int .i64))), .lf (.sl (.pr (.int .i64) (.int .i64)))]] 4 24 true false))], nx := 1 }⟩]
def qeV (k : Nat) : LInst := ⟨2, qi2, qnD, fun x => qaf k k x.1 x.2.1 x.2.2.1 x.2.2.2.1 x.2.2.2.2.1 x.2.2.2.2.2.1 x.2.2.2.2.2.2.1 x.2.2.2.2.2.2.2.1 x.2.2.2.2.2.2.2.2.1 x.2.2.2.2.2.2.2.2.2⟩
theorem qBP (k : Nat) : qg (LOk (R := DS OS.D qnD) (fun b _ σ K => LOt Ty (kps 15) 0 b σ K []) cf (call cf k) (kps 15) Tryz.f15.ntmps k 0) 2 (lb Tryz.f15 1) :=
 qA qT (qA (qA qT qT) (qA (qA qT (qA qT (qA (qA qT qT) qT))) qT))
theorem qBQ (k n : Nat) (x : DS SS.D qi2) : qaf k (n + 1) x.1 x.2.1 x.2.2.1 x.2.2.2.1 x.2.2.2.2.1 x.2.2.2.2.2.1 x.2.2.2.2.2.2.1 x.2.2.2.2.2.2.2.1 x.2.2.2.2.2.2.2.2.1 x.2.2.2.2.2.2.2.2.2 = qD SS.enc (fun σ => qF cf (fun f a b K => COt f a b K [qpi k, qgZ k, qpj k]) (fun b _ σ K => LOt Ty (kps 15) 0 b σ K []) Tryz.f15.ntmps 2 (lb Tryz.f15 1) σ (qH Ty (kps 15 2) 0 qi2 qnD fun x => qaf k n x.1 x.2.1 x.2.2.1 x.2.2.2.1 x.2.2.2.2.1 x.2.2.2.2.2.1 x.2.2.2.2.2.2.1 x.2.2.2.2.2.2.2.1 x.2.2.2.2.2.2.2.2.1 x.2.2.2.2.2.2.2.2.2)) qi2 x := by kernel_rfl
theorem qBR (k : Nat) : qY cf (call cf k) (kps 15) Tryz.f15.ntmps k 0 2 (lb Tryz.f15 1) (qeV k) :=
 qr (c := cf) (callF := call cf k) (kp := kps 15) (nt := Tryz.f15.ntmps) (k := k) (p := 0) (b := 2) (x0 := lb Tryz.f15 1) (hs := qi2) (os := qnD) (qd (qqQ k)) (qBP k) (fun n x => qaf k n x.1 x.2.1 x.2.2.1 x.2.2.2.1 x.2.2.2.2.1 x.2.2.2.2.2.1 x.2.2.2.2.2.2.1 x.2.2.2.2.2.2.2.1 x.2.2.2.2.2.2.2.2.1 x.2.2.2.2.2.2.2.2.2) (fun _ => rfl) (qBQ k)
def qi3 : List SS := [{ fr := [(1, .a (.ptr 0 0 0)), (18, .g [.lf (.sl (.pr (.int .i64) (.int .i64))), .lf (.sl (.pr (.int .i64) (.int .i64)))]), (19, .a (.lf (.int .i64)))], mem := [(0, some (.raw [[.lf .str, .lf (.int .u8), .lf (.sl (.pr (.int .i64) (.int .i64))), .lf (.sl (.pr (.int .i64) (.int .i64)))]] 4 24 true false))], nx := 1 }]
def qnE : List OS := [⟨none, { fr := [(2, .a (.lf .bool))], mem := [(0, some (.raw [[.lf .str, .lf (.int .u8), .lf (.sl (.pr (.int .i64) (.int .i64))), .lf (.sl (.pr (.int .i64) (.int .i64)))]] 4 24 true false)), (1, some (.raw [[.lf (.int .i64), .lf (.int .i64)]] 2 48 true false))], nx := 2 }⟩, ⟨some 0, { fr := [(1, .a (.ptr 0 0 0))], mem := [(0, some (.raw [[.lf .str, .lf (.int .u8), .lf (.sl (.pr (.int .i64) (.int .i64))), .lf (.sl (.pr (.int .i64) (.int .i64)))]] 4 24 true false))], nx := 1 }⟩]
def qgy (k : Nat) : LInst := ⟨0, qi3, qnE, fun x => qaa k k x.1 x.2.1 x.2.2.1 x.2.2.2.1 x.2.2.2.2.1 x.2.2.2.2.2.1 x.2.2.2.2.2.2⟩
theorem qBS (k : Nat) : qg (LOk (R := DS OS.D qnE) (fun b _ σ K => LOt Ty (kps 15) 0 b σ K [qeV k]) cf (call cf k) (kps 15) Tryz.f15.ntmps k 0) 0 (lb Tryz.f15 0) :=
 qA qT (qA (qA qT qT) (qA (qA qT (qA qT (qw (c := cf) (callF := call cf k) (kp := kps 15) (nt := Tryz.f15.ntmps) (k := k) (p := 0) (b := 2) (x0 := lb Tryz.f15 1) (l := [qeV k]) (qA (fun _ => qBR k) qT)))) qT))
theorem qBT (k n : Nat) (x : DS SS.D qi3) : qaa k (n + 1) x.1 x.2.1 x.2.2.1 x.2.2.2.1 x.2.2.2.2.1 x.2.2.2.2.2.1 x.2.2.2.2.2.2 = qD SS.enc (fun σ => qF cf (fun f a b K => COt f a b K [qpi k, qgZ k, qpj k]) (fun b _ σ K => LOt Ty (kps 15) 0 b σ K [qeV k]) Tryz.f15.ntmps 0 (lb Tryz.f15 0) σ (qH Ty (kps 15 0) 0 qi3 qnE fun x => qaa k n x.1 x.2.1 x.2.2.1 x.2.2.2.1 x.2.2.2.2.1 x.2.2.2.2.2.1 x.2.2.2.2.2.2)) qi3 x := by kernel_rfl
theorem qBU (k : Nat) : qY cf (call cf k) (kps 15) Tryz.f15.ntmps k 0 0 (lb Tryz.f15 0) (qgy k) :=
 qr (c := cf) (callF := call cf k) (kp := kps 15) (nt := Tryz.f15.ntmps) (k := k) (p := 0) (b := 0) (x0 := lb Tryz.f15 0) (hs := qi3) (os := qnE) (qd (qqQ k)) (qBS k) (fun n x => qaa k n x.1 x.2.1 x.2.2.1 x.2.2.2.1 x.2.2.2.2.1 x.2.2.2.2.2.1 x.2.2.2.2.2.2) (fun _ => rfl) (qBT k)
def qi4 : List SS := [{ fr := [(1, .a (.ptr 0 0 0)), (7, .a (.lf (.int .i64)))], mem := [(0, some (.raw [[.lf .str, .lf (.int .u8), .lf (.sl (.pr (.int .i64) (.int .i64))), .lf (.sl (.pr (.int .i64) (.int .i64)))]] 4 24 true false))], nx := 1 }]
def qnF : List OS := [⟨none, { fr := [(2, .a (.lf .bool))], mem := [(0, some (.raw [[.lf .str, .lf (.int .u8), .lf (.sl (.pr (.int .i64) (.int .i64))), .lf (.sl (.pr (.int .i64) (.int .i64)))]] 4 24 true false))], nx := 1 }⟩, ⟨some 5, { fr := [], mem := [(0, some (.raw [[.lf .str, .lf (.int .u8), .lf (.sl (.pr (.int .i64) (.int .i64))), .lf (.sl (.pr (.int .i64) (.int .i64)))]] 4 24 true false))], nx := 1 }⟩]
def qi5 (k : Nat) : LInst := ⟨5, qi4, qnF, fun x => qR k k x.1 x.2.1 x.2.2.1 x.2.2.2.1 x.2.2.2.2⟩
theorem qBV (k : Nat) : qg (LOk (R := DS OS.D qnF) (fun b _ σ K => LOt Ty (kps 15) 0 b σ K [qeV k, qgy k]) cf (call cf k) (kps 15) Tryz.f15.ntmps k 0) 5 (lb Tryz.f15 2) :=
 qA (qA qT (qA qT qT)) (qA (qA qT (qA qT (qA (qA qT qT) qT))) qT)
theorem qBW (k n : Nat) (x : DS SS.D qi4) : qR k (n + 1) x.1 x.2.1 x.2.2.1 x.2.2.2.1 x.2.2.2.2 = qD SS.enc (fun σ => qF cf (fun f a b K => COt f a b K [qpi k, qgZ k, qpj k]) (fun b _ σ K => LOt Ty (kps 15) 0 b σ K [qeV k, qgy k]) Tryz.f15.ntmps 5 (lb Tryz.f15 2) σ (qH Ty (kps 15 5) 0 qi4 qnF fun x => qR k n x.1 x.2.1 x.2.2.1 x.2.2.2.1 x.2.2.2.2)) qi4 x := by kernel_rfl
theorem qBX (k : Nat) : qY cf (call cf k) (kps 15) Tryz.f15.ntmps k 0 5 (lb Tryz.f15 2) (qi5 k) :=
 qr (c := cf) (callF := call cf k) (kp := kps 15) (nt := Tryz.f15.ntmps) (k := k) (p := 0) (b := 5) (x0 := lb Tryz.f15 2) (hs := qi4) (os := qnF) (qd (qqQ k)) (qBV k) (fun n x => qR k n x.1 x.2.1 x.2.2.1 x.2.2.2.1 x.2.2.2.2) (fun _ => rfl) (qBW k)
theorem qGE (k : Nat) : qg (LOk (R := DS FS.D qqP) (fun b _ σ K => LOt Ty (kps 15) 0 b σ K [qeV k, qgy k, qi5 k]) cf (call cf k) (cf.keep 15) Tryz.f15.ntmps k qky.bs.length) 0 (bd Tryz.f15) :=
 qA qT (qA (qA qT (qA (qA qT qT) qT)) (qA (qA qT (qw (c := cf) (callF := call cf k) (kp := kps 15) (nt := Tryz.f15.ntmps) (k := k) (p := 0) (b := 0) (x0 := lb Tryz.f15 0) (l := [qeV k, qgy k, qi5 k]) (qA (fun h => absurd (show (2 : Nat) = 0 from h) (by decide)) (qA (fun _ => qBU k) (qA (fun h => absurd (show (5 : Nat) = 0 from h) (by decide)) qT))))) (qA (qA qT (qA qT (qA (qA qT qT) (qA qT (qA (qA (qA qT (qA (qA qT qT) qT)) (qA (qA qT (qw (c := cf) (callF := call cf k) (kp := kps 15) (nt := Tryz.f15.ntmps) (k := k) (p := 0) (b := 5) (x0 := lb Tryz.f15 2) (l := [qeV k, qgy k, qi5 k]) (qA (fun h => absurd (show (2 : Nat) = 5 from h) (by decide)) (qA (fun h => absurd (show (0 : Nat) = 5 from h) (by decide)) (qA (fun _ => qBX k) qT))))) (qA qT qT))) qT))))) (qA qT qT))))
theorem qGF (k : Nat) (x : qky.D) : qbW (k + 1) x.1 x.2.1 x.2.2.1 x.2.2.2 = qi cf (fun f a b K => COt f a b K [qpi k, qgZ k, qpj k]) (fun b _ σ K => LOt Ty (kps 15) 0 b σ K [qeV k, qgy k, qi5 k]) 15 Tryz.f15.ntmps Tryz.f15.results.toList (bd Tryz.f15) (qky.enc x).1 (qky.enc x).2 (qj FS.dec qqP) := by kernel_rfl
theorem qqR : ∀ k, qf (call cf k) (qib k)
 | 0 => fun x y e => absurd (show (none : Option _) = some y from e) (by simp)
 | k + 1 => qe (c := cf) (k := k) (f := 15) (fn := Tryz.f15) (body := bd Tryz.f15) (sh := qky) (os := qqP) rfl Tryz.func15 rfl ⟨rfl, Nat.le_of_ble_eq_true rfl⟩ (qd (qqQ k)) (qGE k) (fun x => qbW (k + 1) x.1 x.2.1 x.2.2.1 x.2.2.2) (qGF k)

def qso (k : Nat) (m0 : ByteArray) (m1 : Int) (m2 : List (Int × Int)) (m3 : List (Int × Int)) (k1 : Int) : Option (Int) :=
 Option.bind (qbW k m0 m1 m2 m3) fun r =>
 if ((!r) = true) then
 (some (50 : Int))
 else
 if ((decide (k1 < (0 : Int))) = false) then
 if ((decide (k1 ≥ (((List.length m2) : Nat) : Int))) = true) then
 (some (111 : Int))
 else
 (some (0 : Int))
 else
 (some (111 : Int))
def qdw : Nat → ByteArray → Int → List (Int × Int) → List (Int × Int) → Int → Option (Int)
 | 0, _, _, _, _, _ => none
 | k + 1, m0, m1, m2, m3, k1 => qso k m0 m1 m2 m3 k1
def qkz : FS := { vs := [.g [.lf .str, .lf (.int .u8), .lf (.sl (.pr (.int .i64) (.int .i64))), .lf (.sl (.pr (.int .i64) (.int .i64)))], .a (.lf (.int .i64))], bs := [] }
def qqS : List FS := [{ vs := [.a (.lf (.int .i64))], bs := [] }]
def qpk (k : Nat) : Inst := ⟨30, qkz, qqS, fun x => qdw k x.1 x.2.1 x.2.2.1 x.2.2.2.1 x.2.2.2.2⟩
theorem qGG (k : Nat) : qk (call cf k) [qib k] := qA (qqR k) qT
theorem qGH (k : Nat) : qg (LOk (R := DS FS.D qqS) (fun b _ σ K => LOt Ty (kps 30) 0 b σ K []) cf (call cf k) (cf.keep 30) Tryz.f30.ntmps k qkz.bs.length) 0 (bd Tryz.f30) :=
 qA qT (qA (qA qT (qA (qA qT qT) qT)) (qA (qA qT (qA (qA qT qT) qT)) (qA qT qT)))
theorem qGI (k : Nat) (x : qkz.D) : qdw (k + 1) x.1 x.2.1 x.2.2.1 x.2.2.2.1 x.2.2.2.2 = qi cf (fun f a b K => COt f a b K [qib k]) (fun b _ σ K => LOt Ty (kps 30) 0 b σ K []) 30 Tryz.f30.ntmps Tryz.f30.results.toList (bd Tryz.f30) (qkz.enc x).1 (qkz.enc x).2 (qj FS.dec qqS) := by kernel_rfl
theorem qyA : ∀ k, qf (call cf k) (qpk k)
 | 0 => fun x y e => absurd (show (none : Option _) = some y from e) (by simp)
 | k + 1 => qe (c := cf) (k := k) (f := 30) (fn := Tryz.f30) (body := bd Tryz.f30) (sh := qkz) (os := qqS) rfl Tryz.func30 rfl ⟨rfl, Nat.le_of_ble_eq_true rfl⟩ (qd (qGG k)) (qGH k) (fun x => qdw (k + 1) x.1 x.2.1 x.2.2.1 x.2.2.2.1 x.2.2.2.2) (qGI k)

def qsp (k : Nat) (n0 : Int) (n1 : Int) : Option (Bool × List Int × Bool × List Int) :=
 Option.bind (qeC k n0 n1) fun r1 =>
 Option.bind (qdK k r1.1 r1.2.1 r1.2.2.1 r1.2.2.2.1) fun r2 =>
 (some (r2.1, r2.2.1, r2.2.2.1, r2.2.2.2))
def qaL : Nat → Int → Int → Option (Bool × List Int × Bool × List Int)
 | 0, _, _ => none
 | k + 1, n0, n1 => qsp k n0 n1
def qkA : FS := { vs := [.g [.lf (.int .i64), .lf (.int .i64)]], bs := [] }
def qqT : List FS := [{ vs := [.a (.ptr 0 0 0)], bs := [.raw [[.lf .bool, .lf (.sl (.int .u32)), .lf .bool, .lf (.sl (.int .u32))]] 4 74 true false] }]
def qpl (k : Nat) : Inst := ⟨32, qkA, qqT, fun x => qaL k x.1 x.2⟩
theorem qGJ (k : Nat) : qk (call cf k) [qxg k, qnn k] := qA (qFD k) (qA (qvP k) qT)
theorem qGK (k : Nat) : qg (LOk (R := DS FS.D qqT) (fun b _ σ K => LOt Ty (kps 32) 0 b σ K []) cf (call cf k) (cf.keep 32) Tryz.f32.ntmps k qkA.bs.length) 0 (bd Tryz.f32) :=
 qA qT (qA qT (qA qT qT))
theorem qGL (k : Nat) (x : qkA.D) : qaL (k + 1) x.1 x.2 = qi cf (fun f a b K => COt f a b K [qxg k, qnn k]) (fun b _ σ K => LOt Ty (kps 32) 0 b σ K []) 32 Tryz.f32.ntmps Tryz.f32.results.toList (bd Tryz.f32) (qkA.enc x).1 (qkA.enc x).2 (qj FS.dec qqT) := by kernel_rfl
theorem qyB : ∀ k, qf (call cf k) (qpl k)
 | 0 => fun x y e => absurd (show (none : Option _) = some y from e) (by simp)
 | k + 1 => qe (c := cf) (k := k) (f := 32) (fn := Tryz.f32) (body := bd Tryz.f32) (sh := qkA) (os := qqT) rfl Tryz.func32 rfl ⟨rfl, Nat.le_of_ble_eq_true rfl⟩ (qd (qGJ k)) (qGK k) (fun x => qaL (k + 1) x.1 x.2) (qGL k)

def ql5 (k : Nat) (z0 : Bool) (z1 : Bool) (x0 : Bool) (x1 : List Int) (x2 : Bool) (x3 : List Int) (y0 : Bool) (y1 : List Int) (y2 : Bool) (y3 : List Int) : Option (Bool × List Int × Bool × List Int × Bool × List Int × Bool × List Int × Bool × List Int × Bool × List Int) :=
 Option.bind (qb3 k false x0 x1 x2 x3 y0 y1 y2 y3) fun r6 =>
 Option.bind (qo k r6.2.2.1 r6.2.2.2.1 r6.2.2.2.2.1 r6.2.2.2.2.2.1) fun r7 =>
 Option.bind (qo k r6.2.2.2.2.2.2.1 r6.2.2.2.2.2.2.2.1 r6.2.2.2.2.2.2.2.2.1 r6.2.2.2.2.2.2.2.2.2) fun r8 =>
 Option.bind (qak k false r7.2.2.2.2.1 r7.2.2.2.2.2 r8.2.2.2.2.1 r8.2.2.2.2.2) fun r9 =>
 Option.bind (qam k z0 z1 r6.1 r6.2.1 r9.1 r9.2.1) fun r10 =>
 (some (r10.1, r10.2.1, r10.2.2.1, r10.2.2.2.1, r7.1, r7.2.1, r7.2.2.1, r7.2.2.2.1, r8.1, r8.2.1, r8.2.2.1, r8.2.2.2.1))
def qcW : Nat → Bool → Bool → Bool → List Int → Bool → List Int → Bool → List Int → Bool → List Int → Option (Bool × List Int × Bool × List Int × Bool × List Int × Bool × List Int × Bool × List Int × Bool × List Int)
 | 0, _, _, _, _, _, _, _, _, _, _ => none
 | k + 1, z0, z1, x0, x1, x2, x3, y0, y1, y2, y3 => ql5 k z0 z1 x0 x1 x2 x3 y0 y1 y2 y3
def qkB : FS := { vs := [.a (.ptr 0 0 0), .a (.ptr 1 0 0), .a (.ptr 2 0 0)], bs := [.raw [[.lf .bool, .snil 1 68, .lf .bool, .snil 1 68]] 4 74 true false, .raw [[.lf .bool, .lf (.sl (.int .u32)), .lf .bool, .lf (.sl (.int .u32))]] 4 74 true false, .raw [[.lf .bool, .lf (.sl (.int .u32)), .lf .bool, .lf (.sl (.int .u32))]] 4 74 true false] }
def qqU : List FS := [{ vs := [.a (.ptr 0 0 0)], bs := [.raw [[.lf .bool, .lf (.sl (.int .u32)), .lf .bool, .lf (.sl (.int .u32))]] 4 74 true false, .raw [[.lf .bool, .lf (.sl (.int .u32)), .lf .bool, .lf (.sl (.int .u32))]] 4 74 true false, .raw [[.lf .bool, .lf (.sl (.int .u32)), .lf .bool, .lf (.sl (.int .u32))]] 4 74 true false] }]
def qxu (k : Nat) : Inst := ⟨34, qkB, qqU, fun x => qcW k x.1 x.2.1 x.2.2.1 x.2.2.2.1 x.2.2.2.2.1 x.2.2.2.2.2.1 x.2.2.2.2.2.2.1 x.2.2.2.2.2.2.2.1 x.2.2.2.2.2.2.2.2.1 x.2.2.2.2.2.2.2.2.2⟩
theorem qGM (k : Nat) : qk (call cf k) [Iq6 k, qeu k, Iq4 k, qh5 k] := qA (qBt k) (qA (qgO k) (qA (qsl k) (qA (qqo k) qT)))
theorem qGN (k : Nat) : qg (LOk (R := DS FS.D qqU) (fun b _ σ K => LOt Ty (kps 34) 3 b σ K []) cf (call cf k) (cf.keep 34) Tryz.f34.ntmps k qkB.bs.length) 0 (bd Tryz.f34) :=
 qA qT (qA qT (qA qT (qA qT (qA qT qT))))
theorem qGO (k : Nat) (x : qkB.D) : qcW (k + 1) x.1 x.2.1 x.2.2.1 x.2.2.2.1 x.2.2.2.2.1 x.2.2.2.2.2.1 x.2.2.2.2.2.2.1 x.2.2.2.2.2.2.2.1 x.2.2.2.2.2.2.2.2.1 x.2.2.2.2.2.2.2.2.2 = qi cf (fun f a b K => COt f a b K [Iq6 k, qeu k, Iq4 k, qh5 k]) (fun b _ σ K => LOt Ty (kps 34) 3 b σ K []) 34 Tryz.f34.ntmps Tryz.f34.results.toList (bd Tryz.f34) (qkB.enc x).1 (qkB.enc x).2 (qj FS.dec qqU) := by kernel_rfl
theorem qGP : ∀ k, qf (call cf k) (qxu k)
 | 0 => fun x y e => absurd (show (none : Option _) = some y from e) (by simp)
 | k + 1 => qe (c := cf) (k := k) (f := 34) (fn := Tryz.f34) (body := bd Tryz.f34) (sh := qkB) (os := qqU) rfl Tryz.func34 rfl ⟨rfl, Nat.le_of_ble_eq_true rfl⟩ (qd (qGM k)) (qGN k) (fun x => qcW (k + 1) x.1 x.2.1 x.2.2.1 x.2.2.2.1 x.2.2.2.2.1 x.2.2.2.2.2.1 x.2.2.2.2.2.2.1 x.2.2.2.2.2.2.2.1 x.2.2.2.2.2.2.2.2.1 x.2.2.2.2.2.2.2.2.2) (qGO k)

def qtf (k : Nat) (m0 : ByteArray) (m1 : Int) (m2 : List (Int × Int)) (m3 : List (Int × Int)) (k1 : Int) : Option (Bool × List Int × Bool × List Int) :=
 if ((0 : Int) ≤ k1) then
 Option.bind (m3)[(Int.toNat k1)]? fun x5 =>
 Option.bind (qaL k x5.1 x5.2) fun r4 =>
 Option.bind (qd1 k (1000000000 : Int) (1 : Int)) fun r5 =>
 Option.bind (qcW k false false r4.1 r4.2.1 r4.2.2.1 r4.2.2.2 r5.1 r5.2.1 r5.2.2.1 r5.2.2.2) fun r6 =>
 (some (r6.1, r6.2.1, r6.2.2.1, r6.2.2.2.1))
 else
 none
def qbJ : Nat → ByteArray → Int → List (Int × Int) → List (Int × Int) → Int → Option (Bool × List Int × Bool × List Int)
 | 0, _, _, _, _, _ => none
 | k + 1, m0, m1, m2, m3, k1 => qtf k m0 m1 m2 m3 k1
def qkC : FS := { vs := [.g [.lf .str, .lf (.int .u8), .lf (.sl (.pr (.int .i64) (.int .i64))), .lf (.sl (.pr (.int .i64) (.int .i64)))], .a (.lf (.int .i64))], bs := [] }
def qqV : List FS := [{ vs := [.a (.ptr 0 0 0)], bs := [.raw [[.lf .bool, .lf (.sl (.int .u32)), .lf .bool, .lf (.sl (.int .u32))]] 4 74 true false] }]
def qpm (k : Nat) : Inst := ⟨35, qkC, qqV, fun x => qbJ k x.1 x.2.1 x.2.2.1 x.2.2.2.1 x.2.2.2.2⟩
theorem qGQ (k : Nat) : qk (call cf k) [qpl k, qxh k, qxu k] := qA (qyB k) (qA (qFH k) (qA (qGP k) qT))
theorem qGR (k : Nat) : qg (LOk (R := DS FS.D qqV) (fun b _ σ K => LOt Ty (kps 35) 0 b σ K []) cf (call cf k) (cf.keep 35) Tryz.f35.ntmps k qkC.bs.length) 0 (bd Tryz.f35) :=
 qA qT (qA qT qT)
theorem qGS (k : Nat) (x : qkC.D) : qbJ (k + 1) x.1 x.2.1 x.2.2.1 x.2.2.2.1 x.2.2.2.2 = qi cf (fun f a b K => COt f a b K [qpl k, qxh k, qxu k]) (fun b _ σ K => LOt Ty (kps 35) 0 b σ K []) 35 Tryz.f35.ntmps Tryz.f35.results.toList (bd Tryz.f35) (qkC.enc x).1 (qkC.enc x).2 (qj FS.dec qqV) := by kernel_rfl
theorem qyC : ∀ k, qf (call cf k) (qpm k)
 | 0 => fun x y e => absurd (show (none : Option _) = some y from e) (by simp)
 | k + 1 => qe (c := cf) (k := k) (f := 35) (fn := Tryz.f35) (body := bd Tryz.f35) (sh := qkC) (os := qqV) rfl Tryz.func35 rfl ⟨rfl, Nat.le_of_ble_eq_true rfl⟩ (qd (qGQ k)) (qGR k) (fun x => qbJ (k + 1) x.1 x.2.1 x.2.2.1 x.2.2.2.1 x.2.2.2.2) (qGS k)

def qim (k : Nat) (rec : Nat → Int → Int → Int → Nat → Int → Int → List Int → Int → Int → Bool → Bool → Bool → Bool → List Int → List Int → List Int → Option (Nat × Int × Int × Nat × Int × Int × Bool × Bool × Bool × Bool × List Int × List Int × List Int)) (out1 : Nat) (i : Int) (a : Int) (carry : Int) (x : Nat) (x1 : Int) (x2 : Int) (x3 : List Int) (x4 : Int) (x5 : Int) (z : Bool) (x0 : Bool) (x11 : Bool) (y0 : Bool) (y1 : List Int) (outs : List Int) (s : List Int) : Option (Nat × Int × Int × Nat × Int × Int × Bool × Bool × Bool × Bool × List Int × List Int × List Int) :=
 if ((decide (x5 < x4)) = true) then
 if ((0 : Int) ≤ x5) then
 Option.bind (x3)[(Int.toNat x5)]? fun x6 =>
 if (((0 : Int) ≤ (IntKind.wrap .i64 (i + x5))) ∧ ((IntKind.wrap .i64 (i + x5)) < ((out1 : Nat) : Int))) then
 Option.bind (outs)[(0 + (Int.toNat (IntKind.wrap .i64 (i + x5))))]? fun x7 =>
 if (((0 : Int) ≤ (IntKind.wrap .i64 (i + x5))) ∧ ((IntKind.wrap .i64 (i + x5)) < ((out1 : Nat) : Int))) then
 Option.bind (outs)[(0 + (Int.toNat (IntKind.wrap .i64 (i + x5))))]? fun x8 =>
 rec out1 i a (Int.fdiv (IntKind.wrap .u64 ((IntKind.wrap .u64 ((IntKind.wrap .u64 ((IntKind.wrap .u64 a) * (IntKind.wrap .u64 x6))) + (IntKind.wrap .u64 x7))) + carry)) (4294967296 : Int)) x x1 x2 x3 x4 (IntKind.wrap .i64 (x5 + (1 : Int))) z x0 x11 y0 y1 (List.set outs (0 + (Int.toNat (IntKind.wrap .i64 (i + x5)))) (IntKind.wrap .u32 (IntKind.wrap .u64 ((IntKind.wrap .u64 ((IntKind.wrap .u64 ((IntKind.wrap .u64 a) * (IntKind.wrap .u64 x6))) + (IntKind.wrap .u64 x7))) + carry)))) s
 else
 none
 else
 none
 else
 none
 else
 (some (out1, i, carry, x, x1, x2, z, x0, x11, y0, y1, outs, s))
def qde (k n : Nat) : Nat → Int → Int → Int → Nat → Int → Int → List Int → Int → Int → Bool → Bool → Bool → Bool → List Int → List Int → List Int → Option (Nat × Int × Int × Nat × Int × Int × Bool × Bool × Bool × Bool × List Int × List Int × List Int) := Nat.rec (fun _ _ _ _ _ _ _ _ _ _ _ _ _ _ _ _ _ => none) (fun _ r => qim k r) n
def qeb (k : Nat) (rec : Nat → Nat → Int → Int → Bool → Bool → Bool → Bool → List Int → List Int → List Int → Option (Nat × Bool × Bool × Bool × Bool × List Int × List Int × List Int)) (out1 : Nat) (x : Nat) (x1 : Int) (x2 : Int) (z : Bool) (x0 : Bool) (x11 : Bool) (y0 : Bool) (y1 : List Int) (outs : List Int) (s : List Int) : Option (Nat × Bool × Bool × Bool × Bool × List Int × List Int × List Int) :=
 if ((decide (x2 < x1)) = true) then
 if (((0 : Int) ≤ x2) ∧ (x2 < ((x : Nat) : Int))) then
 Option.bind (s)[(0 + (Int.toNat x2))]? fun x5 =>
 Option.bind (qde k k out1 x2 x5 (0 : Int) x x1 x2 y1 (((List.length y1) : Nat) : Int) (0 : Int) z x0 x11 y0 y1 outs s) fun r7 =>
 if (((0 : Int) ≤ (IntKind.wrap .i64 (r7.2.1 + (((List.length r7.2.2.2.2.2.2.2.2.2.2.1) : Nat) : Int)))) ∧ ((IntKind.wrap .i64 (r7.2.1 + (((List.length r7.2.2.2.2.2.2.2.2.2.2.1) : Nat) : Int))) < ((r7.1 : Nat) : Int))) then
 Option.bind (r7.2.2.2.2.2.2.2.2.2.2.2.1)[(0 + (Int.toNat (IntKind.wrap .i64 (r7.2.1 + (((List.length r7.2.2.2.2.2.2.2.2.2.2.1) : Nat) : Int)))))]? fun x6 =>
 rec r7.1 r7.2.2.2.1 r7.2.2.2.2.1 (IntKind.wrap .i64 (r7.2.2.2.2.2.1 + (1 : Int))) r7.2.2.2.2.2.2.1 r7.2.2.2.2.2.2.2.1 r7.2.2.2.2.2.2.2.2.1 r7.2.2.2.2.2.2.2.2.2.1 r7.2.2.2.2.2.2.2.2.2.2.1 (List.set r7.2.2.2.2.2.2.2.2.2.2.2.1 (0 + (Int.toNat (IntKind.wrap .i64 (r7.2.1 + (((List.length r7.2.2.2.2.2.2.2.2.2.2.1) : Nat) : Int))))) (IntKind.wrap .u32 r7.2.2.1)) r7.2.2.2.2.2.2.2.2.2.2.2.2
 else
 none
 else
 none
 else
 (some (out1, z, x0, x11, y0, y1, outs, s))
def qaY (k n : Nat) : Nat → Nat → Int → Int → Bool → Bool → Bool → Bool → List Int → List Int → List Int → Option (Nat × Bool × Bool × Bool × Bool × List Int × List Int × List Int) := Nat.rec (fun _ _ _ _ _ _ _ _ _ _ _ => none) (fun _ r => qeb k r) n
def qfb (k : Nat) (z : Bool) (x0 : Bool) (x1 : Bool) (y0 : Bool) (y1 : List Int) : Option (Bool × List Int × Bool × Bool × Bool × List Int) :=
 if (((0 : Int) ≤ (IntKind.wrap .i64 ((0 : Int) + (((List.length y1) : Nat) : Int)))) ∧ (((IntKind.wrap .i64 ((0 : Int) + (((List.length y1) : Nat) : Int))) ≤ (IntKind.wrap .i64 ((0 : Int) + (((List.length y1) : Nat) : Int)))) ∧ (((IntKind.wrap .i64 ((0 : Int) + (((List.length y1) : Nat) : Int))) * (4 : Int)) ≤ (140737488355328 : Int)))) then
 Option.bind (qaY k k (Int.toNat (IntKind.wrap .i64 ((0 : Int) + (((List.length y1) : Nat) : Int)))) 0 (0 : Int) (0 : Int) z x0 x1 y0 y1 (List.replicate (Int.toNat (IntKind.wrap .i64 ((0 : Int) + (((List.length y1) : Nat) : Int)))) (0 : Int)) []) fun r7 =>
 if ((0 + r7.1) ≤ (List.length r7.2.2.2.2.2.2.1)) then
 Option.bind (qaj k (!(r7.2.2.1 == r7.2.2.2.2.1)) (List.take r7.1 r7.2.2.2.2.2.2.1) r7.2.1) fun r8 =>
 (some (r8.1, r8.2, r7.2.2.1, r7.2.2.2.1, r7.2.2.2.2.1, r7.2.2.2.2.2.1))
 else
 none
 else
 none
def qcX : Nat → Bool → Bool → Bool → Bool → List Int → Option (Bool × List Int × Bool × Bool × Bool × List Int)
 | 0, _, _, _, _, _ => none
 | k + 1, z, x0, x1, y0, y1 => qfb k z x0 x1 y0 y1
def qpn : FS := { vs := [.a (.ptr 0 0 0), .a (.ptr 1 0 0), .a (.ptr 2 0 0)], bs := [.raw [[.lf .bool, .snil 1 68]] 2 72 true false, .raw [[.lf .bool, .snil 1 68, .lf .bool, .snil 1 68]] 4 74 true false, .raw [[.lf .bool, .lf (.sl (.int .u32))]] 2 72 true false] }
def quM : List FS := [{ vs := [.a (.ptr 0 0 0)], bs := [.raw [[.lf .bool, .lf (.sl (.int .u32))]] 2 72 true false, .raw [[.lf .bool, .snil 1 68, .lf .bool, .snil 1 68]] 4 74 true false, .raw [[.lf .bool, .lf (.sl (.int .u32))]] 2 72 true false] }]
def Iq8 (k : Nat) : Inst := ⟨75, qpn, quM, fun x => qcX k x.1 x.2.1 x.2.2.1 x.2.2.2.1 x.2.2.2.2⟩
theorem qxv (k : Nat) : qk (call cf k) [qdD k] := qA (qj6 k) qT
def qi6 : List SS := [{ fr := [(0, .a (.ptr 0 0 0)), (1, .a (.ptr 1 0 0)), (2, .a (.ptr 2 0 0)), (7, .a (.smz 3)), (8, .a (.lf (.int .i64))), (9, .a (.lf (.int .u32))), (10, .a (.lf (.int .u64))), (29, .a (.smz 4)), (30, .a (.lf (.int .i64))), (31, .a (.lf (.int .i64))), (39, .a (.lf (.sl (.int .u32)))), (40, .a (.lf (.int .i64))), (41, .a (.lf (.int .i64)))], mem := [(0, some (.raw [[.lf .bool, .snil 1 68]] 2 72 true false)), (1, some (.raw [[.lf .bool, .snil 1 68, .lf .bool, .snil 1 68]] 4 74 true false)), (2, some (.raw [[.lf .bool, .lf (.sl (.int .u32))]] 2 72 true false)), (3, some (.arr (.int .u32) 1 68 false)), (4, some (.arr (.int .u32) 1 68 false))], nx := 5 }]
def qnG : List OS := [⟨some 2, { fr := [(0, .a (.ptr 0 0 0)), (1, .a (.ptr 1 0 0)), (2, .a (.ptr 2 0 0)), (7, .a (.smz 3)), (8, .a (.lf (.int .i64))), (10, .a (.lf (.int .u64))), (29, .a (.smz 4)), (30, .a (.lf (.int .i64))), (31, .a (.lf (.int .i64)))], mem := [(0, some (.raw [[.lf .bool, .snil 1 68]] 2 72 true false)), (1, some (.raw [[.lf .bool, .snil 1 68, .lf .bool, .snil 1 68]] 4 74 true false)), (2, some (.raw [[.lf .bool, .lf (.sl (.int .u32))]] 2 72 true false)), (3, some (.arr (.int .u32) 1 68 false)), (4, some (.arr (.int .u32) 1 68 false))], nx := 5 }⟩]
def qgz (k : Nat) : LInst := ⟨2, qi6, qnG, fun x => qde k k x.1 x.2.1 x.2.2.1 x.2.2.2.1 x.2.2.2.2.1 x.2.2.2.2.2.1 x.2.2.2.2.2.2.1 x.2.2.2.2.2.2.2.1 x.2.2.2.2.2.2.2.2.1 x.2.2.2.2.2.2.2.2.2.1 x.2.2.2.2.2.2.2.2.2.2.1 x.2.2.2.2.2.2.2.2.2.2.2.1 x.2.2.2.2.2.2.2.2.2.2.2.2.1 x.2.2.2.2.2.2.2.2.2.2.2.2.2.1 x.2.2.2.2.2.2.2.2.2.2.2.2.2.2.1 x.2.2.2.2.2.2.2.2.2.2.2.2.2.2.2.1 x.2.2.2.2.2.2.2.2.2.2.2.2.2.2.2.2⟩
theorem qBY (k : Nat) : qg (LOk (R := DS OS.D qnG) (fun b _ σ K => LOt Ty (kps 75) 3 b σ K []) cf (call cf k) (kps 75) Tryz.f75.ntmps k 3) 2 (lb Tryz.f75 1) :=
 qA qT (qA (qA qT qT) (qA (qA qT (qA qT (qA qT qT))) qT))
theorem qBZ (k n : Nat) (x : DS SS.D qi6) : qde k (n + 1) x.1 x.2.1 x.2.2.1 x.2.2.2.1 x.2.2.2.2.1 x.2.2.2.2.2.1 x.2.2.2.2.2.2.1 x.2.2.2.2.2.2.2.1 x.2.2.2.2.2.2.2.2.1 x.2.2.2.2.2.2.2.2.2.1 x.2.2.2.2.2.2.2.2.2.2.1 x.2.2.2.2.2.2.2.2.2.2.2.1 x.2.2.2.2.2.2.2.2.2.2.2.2.1 x.2.2.2.2.2.2.2.2.2.2.2.2.2.1 x.2.2.2.2.2.2.2.2.2.2.2.2.2.2.1 x.2.2.2.2.2.2.2.2.2.2.2.2.2.2.2.1 x.2.2.2.2.2.2.2.2.2.2.2.2.2.2.2.2 = qD SS.enc (fun σ => qF cf (fun f a b K => COt f a b K [qdD k]) (fun b _ σ K => LOt Ty (kps 75) 3 b σ K []) Tryz.f75.ntmps 2 (lb Tryz.f75 1) σ (qH Ty (kps 75 2) 3 qi6 qnG fun x => qde k n x.1 x.2.1 x.2.2.1 x.2.2.2.1 x.2.2.2.2.1 x.2.2.2.2.2.1 x.2.2.2.2.2.2.1 x.2.2.2.2.2.2.2.1 x.2.2.2.2.2.2.2.2.1 x.2.2.2.2.2.2.2.2.2.1 x.2.2.2.2.2.2.2.2.2.2.1 x.2.2.2.2.2.2.2.2.2.2.2.1 x.2.2.2.2.2.2.2.2.2.2.2.2.1 x.2.2.2.2.2.2.2.2.2.2.2.2.2.1 x.2.2.2.2.2.2.2.2.2.2.2.2.2.2.1 x.2.2.2.2.2.2.2.2.2.2.2.2.2.2.2.1 x.2.2.2.2.2.2.2.2.2.2.2.2.2.2.2.2)) qi6 x := by kernel_rfl
theorem qB0 (k : Nat) : qY cf (call cf k) (kps 75) Tryz.f75.ntmps k 3 2 (lb Tryz.f75 1) (qgz k) :=
 qr (c := cf) (callF := call cf k) (kp := kps 75) (nt := Tryz.f75.ntmps) (k := k) (p := 3) (b := 2) (x0 := lb Tryz.f75 1) (hs := qi6) (os := qnG) (qd (qxv k)) (qBY k) (fun n x => qde k n x.1 x.2.1 x.2.2.1 x.2.2.2.1 x.2.2.2.2.1 x.2.2.2.2.2.1 x.2.2.2.2.2.2.1 x.2.2.2.2.2.2.2.1 x.2.2.2.2.2.2.2.2.1 x.2.2.2.2.2.2.2.2.2.1 x.2.2.2.2.2.2.2.2.2.2.1 x.2.2.2.2.2.2.2.2.2.2.2.1 x.2.2.2.2.2.2.2.2.2.2.2.2.1 x.2.2.2.2.2.2.2.2.2.2.2.2.2.1 x.2.2.2.2.2.2.2.2.2.2.2.2.2.2.1 x.2.2.2.2.2.2.2.2.2.2.2.2.2.2.2.1 x.2.2.2.2.2.2.2.2.2.2.2.2.2.2.2.2) (fun _ => rfl) (qBZ k)
def qi7 : List SS := [{ fr := [(0, .a (.ptr 0 0 0)), (1, .a (.ptr 1 0 0)), (2, .a (.ptr 2 0 0)), (7, .a (.smz 3)), (29, .a (.smz 4)), (30, .a (.lf (.int .i64))), (31, .a (.lf (.int .i64)))], mem := [(0, some (.raw [[.lf .bool, .snil 1 68]] 2 72 true false)), (1, some (.raw [[.lf .bool, .snil 1 68, .lf .bool, .snil 1 68]] 4 74 true false)), (2, some (.raw [[.lf .bool, .lf (.sl (.int .u32))]] 2 72 true false)), (3, some (.arr (.int .u32) 1 68 false)), (4, some (.arr (.int .u32) 1 68 false))], nx := 5 }]
def qnH : List OS := [⟨some 0, { fr := [(0, .a (.ptr 0 0 0)), (1, .a (.ptr 1 0 0)), (2, .a (.ptr 2 0 0)), (7, .a (.smz 3))], mem := [(0, some (.raw [[.lf .bool, .snil 1 68]] 2 72 true false)), (1, some (.raw [[.lf .bool, .snil 1 68, .lf .bool, .snil 1 68]] 4 74 true false)), (2, some (.raw [[.lf .bool, .lf (.sl (.int .u32))]] 2 72 true false)), (3, some (.arr (.int .u32) 1 68 false)), (4, some (.arr (.int .u32) 1 68 false))], nx := 5 }⟩]
def qnI (k : Nat) : LInst := ⟨0, qi7, qnH, fun x => qaY k k x.1 x.2.1 x.2.2.1 x.2.2.2.1 x.2.2.2.2.1 x.2.2.2.2.2.1 x.2.2.2.2.2.2.1 x.2.2.2.2.2.2.2.1 x.2.2.2.2.2.2.2.2.1 x.2.2.2.2.2.2.2.2.2.1 x.2.2.2.2.2.2.2.2.2.2⟩
theorem qB1 (k : Nat) : qg (LOk (R := DS OS.D qnH) (fun b _ σ K => LOt Ty (kps 75) 3 b σ K [qgz k]) cf (call cf k) (kps 75) Tryz.f75.ntmps k 3) 0 (lb Tryz.f75 0) :=
 qA qT (qA (qA qT qT) (qA (qA qT (qA qT (qA (qA qT (qw (c := cf) (callF := call cf k) (kp := kps 75) (nt := Tryz.f75.ntmps) (k := k) (p := 3) (b := 2) (x0 := lb Tryz.f75 1) (l := [qgz k]) (qA (fun _ => qB0 k) qT))) qT))) qT))
theorem qB2 (k n : Nat) (x : DS SS.D qi7) : qaY k (n + 1) x.1 x.2.1 x.2.2.1 x.2.2.2.1 x.2.2.2.2.1 x.2.2.2.2.2.1 x.2.2.2.2.2.2.1 x.2.2.2.2.2.2.2.1 x.2.2.2.2.2.2.2.2.1 x.2.2.2.2.2.2.2.2.2.1 x.2.2.2.2.2.2.2.2.2.2 = qD SS.enc (fun σ => qF cf (fun f a b K => COt f a b K [qdD k]) (fun b _ σ K => LOt Ty (kps 75) 3 b σ K [qgz k]) Tryz.f75.ntmps 0 (lb Tryz.f75 0) σ (qH Ty (kps 75 0) 3 qi7 qnH fun x => qaY k n x.1 x.2.1 x.2.2.1 x.2.2.2.1 x.2.2.2.2.1 x.2.2.2.2.2.1 x.2.2.2.2.2.2.1 x.2.2.2.2.2.2.2.1 x.2.2.2.2.2.2.2.2.1 x.2.2.2.2.2.2.2.2.2.1 x.2.2.2.2.2.2.2.2.2.2)) qi7 x := by kernel_rfl
theorem qB3 (k : Nat) : qY cf (call cf k) (kps 75) Tryz.f75.ntmps k 3 0 (lb Tryz.f75 0) (qnI k) :=
 qr (c := cf) (callF := call cf k) (kp := kps 75) (nt := Tryz.f75.ntmps) (k := k) (p := 3) (b := 0) (x0 := lb Tryz.f75 0) (hs := qi7) (os := qnH) (qd (qxv k)) (qB1 k) (fun n x => qaY k n x.1 x.2.1 x.2.2.1 x.2.2.2.1 x.2.2.2.2.1 x.2.2.2.2.2.1 x.2.2.2.2.2.2.1 x.2.2.2.2.2.2.2.1 x.2.2.2.2.2.2.2.2.1 x.2.2.2.2.2.2.2.2.2.1 x.2.2.2.2.2.2.2.2.2.2) (fun _ => rfl) (qB2 k)
theorem qJI (k : Nat) : qg (LOk (R := DS FS.D quM) (fun b _ σ K => LOt Ty (kps 75) 3 b σ K [qgz k, qnI k]) cf (call cf k) (cf.keep 75) Tryz.f75.ntmps k qpn.bs.length) 0 (bd Tryz.f75) :=
 qA qT (qA qT (qA (qA qT (qw (c := cf) (callF := call cf k) (kp := kps 75) (nt := Tryz.f75.ntmps) (k := k) (p := 3) (b := 0) (x0 := lb Tryz.f75 0) (l := [qgz k, qnI k]) (qA (fun h => absurd (show (2 : Nat) = 0 from h) (by decide)) (qA (fun _ => qB3 k) qT)))) (qA qT qT)))
theorem qJJ (k : Nat) (x : qpn.D) : qcX (k + 1) x.1 x.2.1 x.2.2.1 x.2.2.2.1 x.2.2.2.2 = qi cf (fun f a b K => COt f a b K [qdD k]) (fun b _ σ K => LOt Ty (kps 75) 3 b σ K [qgz k, qnI k]) 75 Tryz.f75.ntmps Tryz.f75.results.toList (bd Tryz.f75) (qpn.enc x).1 (qpn.enc x).2 (qj FS.dec quM) := by kernel_rfl
theorem qJK : ∀ k, qf (call cf k) (Iq8 k)
 | 0 => fun x y e => absurd (show (none : Option _) = some y from e) (by simp)
 | k + 1 => qe (c := cf) (k := k) (f := 75) (fn := Tryz.f75) (body := bd Tryz.f75) (sh := qpn) (os := quM) rfl Tryz.func75 rfl ⟨rfl, Nat.le_of_ble_eq_true rfl⟩ (qd (qxv k)) (qJI k) (fun x => qcX (k + 1) x.1 x.2.1 x.2.2.1 x.2.2.2.1 x.2.2.2.2) (qJJ k)

def qi8 (k : Nat) (z0 : Bool) (z1 : Bool) : Option (Bool × Bool × Bool × List Int) :=
 Option.bind (qag k (1 : Int)) fun r8 =>
 (some (z0, z1, r8.1, r8.2))
def qap : Nat → Bool → Bool → Option (Bool × Bool × Bool × List Int)
 | 0, _, _ => none
 | k + 1, z0, z1 => qi8 k z0 z1
def qkD : FS := { vs := [.a (.ptr 0 0 0)], bs := [.raw [[.lf .bool, .snil 1 68, .lf .bool, .snil 1 68]] 4 74 true false] }
def qqW : List FS := [{ vs := [.a (.ptr 1 0 0)], bs := [.raw [[.lf .bool, .snil 1 68, .lf .bool, .snil 1 68]] 4 74 true false, .raw [[.lf .bool, .lf (.sl (.int .u32))]] 2 72 true false] }]
def qsq (k : Nat) : Inst := ⟨76, qkD, qqW, fun x => qap k x.1 x.2⟩
theorem qGT (k : Nat) : qk (call cf k) [qfz k] := qA (qjW k) qT
theorem qGU (k : Nat) : qg (LOk (R := DS FS.D qqW) (fun b _ σ K => LOt Ty (kps 76) 1 b σ K []) cf (call cf k) (cf.keep 76) Tryz.f76.ntmps k qkD.bs.length) 0 (bd Tryz.f76) :=
 qA qT (qA (qA qT (qA (qA qT qT) qT)) (qA qT qT))
theorem qGV (k : Nat) (x : qkD.D) : qap (k + 1) x.1 x.2 = qi cf (fun f a b K => COt f a b K [qfz k]) (fun b _ σ K => LOt Ty (kps 76) 1 b σ K []) 76 Tryz.f76.ntmps Tryz.f76.results.toList (bd Tryz.f76) (qkD.enc x).1 (qkD.enc x).2 (qj FS.dec qqW) := by kernel_rfl
theorem qyD : ∀ k, qf (call cf k) (qsq k)
 | 0 => fun x y e => absurd (show (none : Option _) = some y from e) (by simp)
 | k + 1 => qe (c := cf) (k := k) (f := 76) (fn := Tryz.f76) (body := bd Tryz.f76) (sh := qkD) (os := qqW) rfl Tryz.func76 rfl ⟨rfl, Nat.le_of_ble_eq_true rfl⟩ (qd (qGT k)) (qGU k) (fun x => qap (k + 1) x.1 x.2) (qGV k)

def ql6 (k : Nat) (x0 : Bool) (x1 : Bool) (y0 : Bool) (y1 : List Int) (y2 : Bool) (y3 : List Int) : Option (Bool × List Int × Bool × List Int × Bool × List Int × Bool × List Int) :=
 Option.bind (qo k y0 y1 y2 y3) fun r6 =>
 Option.bind (qcX k false x0 x1 r6.2.2.2.2.1 r6.2.2.2.2.2) fun r7 =>
 Option.bind (qap k r7.2.2.1 r7.2.2.2.1) fun r8 =>
 Option.bind (qal k false r6.1 r6.2.1 r6.2.2.1 r6.2.2.2.1 r8.2.2.1 r8.2.2.2) fun r9 =>
 Option.bind (qap k r8.1 r8.2.1) fun r10 =>
 Option.bind (qo k r9.2.2.1 r9.2.2.2.1 r9.2.2.2.2.1 r9.2.2.2.2.2.1) fun r11 =>
 Option.bind (qak k false r10.2.2.1 r10.2.2.2 r11.2.2.2.2.1 r11.2.2.2.2.2) fun r12 =>
 Option.bind (qbx k r7.1 r7.2.1 r9.1 r9.2.1) fun r13 =>
 Option.bind (qam k r10.1 r10.2.1 r13.1 r13.2.1 r12.1 r12.2.1) fun r14 =>
 (some (r14.1, r14.2.1, r14.2.2.1, r14.2.2.2.1, r11.1, r11.2.1, r11.2.2.1, r11.2.2.2.1))
def qcY : Nat → Bool → Bool → Bool → List Int → Bool → List Int → Option (Bool × List Int × Bool × List Int × Bool × List Int × Bool × List Int)
 | 0, _, _, _, _, _, _ => none
 | k + 1, x0, x1, y0, y1, y2, y3 => ql6 k x0 x1 y0 y1 y2 y3
def qkE : FS := { vs := [.a (.ptr 0 0 0), .a (.ptr 0 0 0), .a (.ptr 1 0 0)], bs := [.raw [[.lf .bool, .snil 1 68, .lf .bool, .snil 1 68]] 4 74 true false, .raw [[.lf .bool, .lf (.sl (.int .u32)), .lf .bool, .lf (.sl (.int .u32))]] 4 74 true false] }
def qqX : List FS := [{ vs := [.a (.ptr 0 0 0)], bs := [.raw [[.lf .bool, .lf (.sl (.int .u32)), .lf .bool, .lf (.sl (.int .u32))]] 4 74 true false, .raw [[.lf .bool, .lf (.sl (.int .u32)), .lf .bool, .lf (.sl (.int .u32))]] 4 74 true false] }]
def quN (k : Nat) : Inst := ⟨33, qkE, qqX, fun x => qcY k x.1 x.2.1 x.2.2.1 x.2.2.2.1 x.2.2.2.2.1 x.2.2.2.2.2⟩
theorem qGW (k : Nat) : qk (call cf k) [qeu k, Iq8 k, qsq k, Iq7 k, Iq4 k, Iq2 k, qh5 k] := qA (qgO k) (qA (qJK k) (qA (qyD k) (qA (quJ k) (qA (qsl k) (qA (qxq k) (qA (qqo k) qT))))))
theorem qGX (k : Nat) : qg (LOk (R := DS FS.D qqX) (fun b _ σ K => LOt Ty (kps 33) 2 b σ K []) cf (call cf k) (cf.keep 33) Tryz.f33.ntmps k qkE.bs.length) 0 (bd Tryz.f33) :=
 qA qT (qA qT (qA qT (qA qT (qA qT (qA qT qT)))))
theorem qGY (k : Nat) (x : qkE.D) : qcY (k + 1) x.1 x.2.1 x.2.2.1 x.2.2.2.1 x.2.2.2.2.1 x.2.2.2.2.2 = qi cf (fun f a b K => COt f a b K [qeu k, Iq8 k, qsq k, Iq7 k, Iq4 k, Iq2 k, qh5 k]) (fun b _ σ K => LOt Ty (kps 33) 2 b σ K []) 33 Tryz.f33.ntmps Tryz.f33.results.toList (bd Tryz.f33) (qkE.enc x).1 (qkE.enc x).2 (qj FS.dec qqX) := by kernel_rfl
theorem qGZ : ∀ k, qf (call cf k) (quN k)
 | 0 => fun x y e => absurd (show (none : Option _) = some y from e) (by simp)
 | k + 1 => qe (c := cf) (k := k) (f := 33) (fn := Tryz.f33) (body := bd Tryz.f33) (sh := qkE) (os := qqX) rfl Tryz.func33 rfl ⟨rfl, Nat.le_of_ble_eq_true rfl⟩ (qd (qGW k)) (qGX k) (fun x => qcY (k + 1) x.1 x.2.1 x.2.2.1 x.2.2.2.1 x.2.2.2.2.1 x.2.2.2.2.2) (qGY k)

def ql7 (k : Nat) (z0 : Bool) (z1 : Bool) : Option (Bool × Bool × Bool × List Int) :=
 Option.bind (qd0 k z0 []) fun r4 =>
 (some (z0, z1, r4.1, r4.2))
def qcZ : Nat → Bool → Bool → Option (Bool × Bool × Bool × List Int)
 | 0, _, _ => none
 | k + 1, z0, z1 => ql7 k z0 z1
def qkF : FS := { vs := [.a (.ptr 0 0 0)], bs := [.raw [[.lf .bool, .snil 1 68, .lf .bool, .snil 1 68]] 4 74 true false] }
def qqY : List FS := [{ vs := [.a (.ptr 1 0 0)], bs := [.raw [[.lf .bool, .snil 1 68, .lf .bool, .snil 1 68]] 4 74 true false, .raw [[.lf .bool, .lf (.sl (.int .u32))]] 2 72 true false] }]
def qxw (k : Nat) : Inst := ⟨79, qkF, qqY, fun x => qcZ k x.1 x.2⟩
theorem qG0 (k : Nat) : qk (call cf k) [qh6 k] := qA (qqr k) qT
theorem qG1 (k : Nat) : qg (LOk (R := DS FS.D qqY) (fun b _ σ K => LOt Ty (kps 79) 1 b σ K []) cf (call cf k) (cf.keep 79) Tryz.f79.ntmps k qkF.bs.length) 0 (bd Tryz.f79) :=
 qA qT (qA qT qT)
theorem qG2 (k : Nat) (x : qkF.D) : qcZ (k + 1) x.1 x.2 = qi cf (fun f a b K => COt f a b K [qh6 k]) (fun b _ σ K => LOt Ty (kps 79) 1 b σ K []) 79 Tryz.f79.ntmps Tryz.f79.results.toList (bd Tryz.f79) (qkF.enc x).1 (qkF.enc x).2 (qj FS.dec qqY) := by kernel_rfl
theorem qG3 : ∀ k, qf (call cf k) (qxw k)
 | 0 => fun x y e => absurd (show (none : Option _) = some y from e) (by simp)
 | k + 1 => qe (c := cf) (k := k) (f := 79) (fn := Tryz.f79) (body := bd Tryz.f79) (sh := qkF) (os := qqY) rfl Tryz.func79 rfl ⟨rfl, Nat.le_of_ble_eq_true rfl⟩ (qd (qG0 k)) (qG1 k) (fun x => qcZ (k + 1) x.1 x.2) (qG2 k)

def qpo (k : Nat) (z0 : Bool) (z1 : Bool) : Option (Bool × List Int × Bool × List Int × Bool × Bool) :=
 Option.bind (qcZ k z0 z1) fun r4 =>
 Option.bind (qaT k r4.2.2.1 r4.2.2.2) fun r5 =>
 Option.bind (qap k r4.1 r4.2.1) fun r6 =>
 Option.bind (qaT k r6.2.2.1 r6.2.2.2) fun r7 =>
 if ((0 + r5.2.1) ≤ (List.length r5.2.2.2.2)) then
 if ((0 + r7.2.1) ≤ (List.length r7.2.2.2.2)) then
 (some (r5.1, (List.take r5.2.1 r5.2.2.2.2), r7.1, (List.take r7.2.1 r7.2.2.2.2), r6.1, r6.2.1))
 else
 none
 else
 none
def qdu : Nat → Bool → Bool → Option (Bool × List Int × Bool × List Int × Bool × Bool)
 | 0, _, _ => none
 | k + 1, z0, z1 => qpo k z0 z1
def qhl : FS := { vs := [.a (.ptr 0 0 0)], bs := [.raw [[.lf .bool, .snil 1 68, .lf .bool, .snil 1 68]] 4 74 true false] }
def qnJ : List FS := [{ vs := [.g [.lf .bool, .lf (.sl (.int .u32)), .lf .bool, .lf (.sl (.int .u32))]], bs := [.raw [[.lf .bool, .snil 1 68, .lf .bool, .snil 1 68]] 4 74 true false] }]
def qqZ (k : Nat) : Inst := ⟨36, qhl, qnJ, fun x => qdu k x.1 x.2⟩
theorem qB4 (k : Nat) : qk (call cf k) [qxw k, qgd k, qsq k] := qA (qG3 k) (qA (qni k) (qA (qyD k) qT))
theorem qB5 (k : Nat) : qg (LOk (R := DS FS.D qnJ) (fun b _ σ K => LOt Ty (kps 36) 1 b σ K []) cf (call cf k) (cf.keep 36) Tryz.f36.ntmps k qhl.bs.length) 0 (bd Tryz.f36) :=
 qA qT (qA qT qT)
theorem qB6 (k : Nat) (x : qhl.D) : qdu (k + 1) x.1 x.2 = qi cf (fun f a b K => COt f a b K [qxw k, qgd k, qsq k]) (fun b _ σ K => LOt Ty (kps 36) 1 b σ K []) 36 Tryz.f36.ntmps Tryz.f36.results.toList (bd Tryz.f36) (qhl.enc x).1 (qhl.enc x).2 (qj FS.dec qnJ) := by kernel_rfl
theorem qB7 : ∀ k, qf (call cf k) (qqZ k)
 | 0 => fun x y e => absurd (show (none : Option _) = some y from e) (by simp)
 | k + 1 => qe (c := cf) (k := k) (f := 36) (fn := Tryz.f36) (body := bd Tryz.f36) (sh := qhl) (os := qnJ) rfl Tryz.func36 rfl ⟨rfl, Nat.le_of_ble_eq_true rfl⟩ (qd (qB4 k)) (qB5 k) (fun x => qdu (k + 1) x.1 x.2) (qB6 k)

def qbM (k : Nat) (rec : ((Int × Int × ByteArray × Int × List (Int × Int) × List (Int × Int) × Bool × Nat × Bool × Nat × Bool × Nat × Bool × Nat × Bool × Bool × List Int × List Int × List Int × List Int) ⊕ (Int × Int × ByteArray × Int × List (Int × Int) × List (Int × Int) × Bool × Nat × Bool × Nat × Bool × Nat × Bool × Nat × Bool × List Int × Bool × List Int × List Int × List Int × List Int × List Int)) → Option ((Int × ByteArray × Int × List (Int × Int) × List (Int × Int) × Bool × Nat × Bool × Nat × Bool × Nat × Bool × Nat × Bool × Bool × List Int × List Int × List Int × List Int) ⊕ (Int × ByteArray × Int × List (Int × Int) × List (Int × Int) × Bool × Nat × Bool × Nat × Bool × Nat × Bool × Nat × Bool × List Int × Bool × List Int × List Int × List Int × List Int × List Int))) (x : (Int × Int × ByteArray × Int × List (Int × Int) × List (Int × Int) × Bool × Nat × Bool × Nat × Bool × Nat × Bool × Nat × Bool × Bool × List Int × List Int × List Int × List Int) ⊕ (Int × Int × ByteArray × Int × List (Int × Int) × List (Int × Int) × Bool × Nat × Bool × Nat × Bool × Nat × Bool × Nat × Bool × List Int × Bool × List Int × List Int × List Int × List Int × List Int)) : Option ((Int × ByteArray × Int × List (Int × Int) × List (Int × Int) × Bool × Nat × Bool × Nat × Bool × Nat × Bool × Nat × Bool × Bool × List Int × List Int × List Int × List Int) ⊕ (Int × ByteArray × Int × List (Int × Int) × List (Int × Int) × Bool × Nat × Bool × Nat × Bool × Nat × Bool × Nat × Bool × List Int × Bool × List Int × List Int × List Int × List Int × List Int)) :=
 qc x
 (fun x =>
 if ((decide (x.2.1 < x.1)) = true) then
 if ((x.2.2.2.1 == (100 : Int)) = true) then
 if ((0 : Int) ≤ x.2.1) then
 Option.bind (x.2.2.2.2.1)[(Int.toNat x.2.1)]? fun x1 =>
 Option.bind (qaL k x1.1 x1.2) fun r1 =>
 if ((0 : Int) ≤ (IntKind.wrap .i64 (x.2.1 + (1 : Int)))) then
 Option.bind (x.2.2.2.2.1)[(Int.toNat (IntKind.wrap .i64 (x.2.1 + (1 : Int))))]? fun x2 =>
 Option.bind (qaL k x2.1 x2.2) fun r2 =>
 Option.bind (qbA k false false r1.1 r1.2.1 r1.2.2.1 r1.2.2.2 r2.1 r2.2.1 r2.2.2.1 r2.2.2.2) fun r3 =>
 Option.bind (qbJ k x.2.2.1 x.2.2.2.1 x.2.2.2.2.1 x.2.2.2.2.2.1 x.2.1) fun r4 =>
 Option.bind (qbw k r3.1 r3.2.1 r3.2.2.1 r3.2.2.2.1 r4.1 r4.2.1 r4.2.2.1 r4.2.2.2) fun r5 =>
 Option.bind (qcY k x.2.2.2.2.2.2.2.2.2.2.2.2.2.2.1 x.2.2.2.2.2.2.2.2.2.2.2.2.2.2.2.1 r5.1 r5.2.1 r5.2.2.1 r5.2.2.2.1) fun r6 =>
 rec (Sum.inr (x.1, (IntKind.wrap .i64 (x.2.1 + (1 : Int))), x.2.2.1, x.2.2.2.1, x.2.2.2.2.1, x.2.2.2.2.2.1, x.2.2.2.2.2.2.1, x.2.2.2.2.2.2.2.1, x.2.2.2.2.2.2.2.2.1, x.2.2.2.2.2.2.2.2.2.1, x.2.2.2.2.2.2.2.2.2.2.1, x.2.2.2.2.2.2.2.2.2.2.2.1, x.2.2.2.2.2.2.2.2.2.2.2.2.1, x.2.2.2.2.2.2.2.2.2.2.2.2.2.1, r6.1, r6.2.1, r6.2.2.1, r6.2.2.2.1, x.2.2.2.2.2.2.2.2.2.2.2.2.2.2.2.2.1, x.2.2.2.2.2.2.2.2.2.2.2.2.2.2.2.2.2.1, x.2.2.2.2.2.2.2.2.2.2.2.2.2.2.2.2.2.2.1, x.2.2.2.2.2.2.2.2.2.2.2.2.2.2.2.2.2.2.2))
 else
 none
 else
 none
 else
 (some (Sum.inl (x.1, x.2.2.1, x.2.2.2.1, x.2.2.2.2.1, x.2.2.2.2.2.1, x.2.2.2.2.2.2.1, x.2.2.2.2.2.2.2.1, x.2.2.2.2.2.2.2.2.1, x.2.2.2.2.2.2.2.2.2.1, x.2.2.2.2.2.2.2.2.2.2.1, x.2.2.2.2.2.2.2.2.2.2.2.1, x.2.2.2.2.2.2.2.2.2.2.2.2.1, x.2.2.2.2.2.2.2.2.2.2.2.2.2.1, x.2.2.2.2.2.2.2.2.2.2.2.2.2.2.1, x.2.2.2.2.2.2.2.2.2.2.2.2.2.2.2.1, x.2.2.2.2.2.2.2.2.2.2.2.2.2.2.2.2.1, x.2.2.2.2.2.2.2.2.2.2.2.2.2.2.2.2.2.1, x.2.2.2.2.2.2.2.2.2.2.2.2.2.2.2.2.2.2.1, x.2.2.2.2.2.2.2.2.2.2.2.2.2.2.2.2.2.2.2)))
 else
 (some (Sum.inl (x.1, x.2.2.1, x.2.2.2.1, x.2.2.2.2.1, x.2.2.2.2.2.1, x.2.2.2.2.2.2.1, x.2.2.2.2.2.2.2.1, x.2.2.2.2.2.2.2.2.1, x.2.2.2.2.2.2.2.2.2.1, x.2.2.2.2.2.2.2.2.2.2.1, x.2.2.2.2.2.2.2.2.2.2.2.1, x.2.2.2.2.2.2.2.2.2.2.2.2.1, x.2.2.2.2.2.2.2.2.2.2.2.2.2.1, x.2.2.2.2.2.2.2.2.2.2.2.2.2.2.1, x.2.2.2.2.2.2.2.2.2.2.2.2.2.2.2.1, x.2.2.2.2.2.2.2.2.2.2.2.2.2.2.2.2.1, x.2.2.2.2.2.2.2.2.2.2.2.2.2.2.2.2.2.1, x.2.2.2.2.2.2.2.2.2.2.2.2.2.2.2.2.2.2.1, x.2.2.2.2.2.2.2.2.2.2.2.2.2.2.2.2.2.2.2))))
 (fun x =>
 if ((decide (x.2.1 < x.1)) = true) then
 if ((x.2.2.2.1 == (100 : Int)) = true) then
 if ((0 : Int) ≤ x.2.1) then
 Option.bind (x.2.2.2.2.1)[(Int.toNat x.2.1)]? fun x1 =>
 Option.bind (qaL k x1.1 x1.2) fun r1 =>
 if ((0 : Int) ≤ (IntKind.wrap .i64 (x.2.1 + (1 : Int)))) then
 Option.bind (x.2.2.2.2.1)[(Int.toNat (IntKind.wrap .i64 (x.2.1 + (1 : Int))))]? fun x2 =>
 Option.bind (qaL k x2.1 x2.2) fun r2 =>
 Option.bind (qbA k false false r1.1 r1.2.1 r1.2.2.1 r1.2.2.2 r2.1 r2.2.1 r2.2.2.1 r2.2.2.2) fun r3 =>
 Option.bind (qbJ k x.2.2.1 x.2.2.2.1 x.2.2.2.2.1 x.2.2.2.2.2.1 x.2.1) fun r4 =>
 Option.bind (qbw k r3.1 r3.2.1 r3.2.2.1 r3.2.2.2.1 r4.1 r4.2.1 r4.2.2.1 r4.2.2.2) fun r5 =>
 Option.bind (qcU k x.2.2.2.2.2.2.2.2.2.2.2.2.2.2.1 x.2.2.2.2.2.2.2.2.2.2.2.2.2.2.2.1 x.2.2.2.2.2.2.2.2.2.2.2.2.2.2.2.2.1 x.2.2.2.2.2.2.2.2.2.2.2.2.2.2.2.2.2.1 r5.1 r5.2.1 r5.2.2.1 r5.2.2.2.1) fun r6 =>
 rec (Sum.inr (x.1, (IntKind.wrap .i64 (x.2.1 + (1 : Int))), x.2.2.1, x.2.2.2.1, x.2.2.2.2.1, x.2.2.2.2.2.1, x.2.2.2.2.2.2.1, x.2.2.2.2.2.2.2.1, x.2.2.2.2.2.2.2.2.1, x.2.2.2.2.2.2.2.2.2.1, x.2.2.2.2.2.2.2.2.2.2.1, x.2.2.2.2.2.2.2.2.2.2.2.1, x.2.2.2.2.2.2.2.2.2.2.2.2.1, x.2.2.2.2.2.2.2.2.2.2.2.2.2.1, r6.1, r6.2.1, r6.2.2.1, r6.2.2.2.1, x.2.2.2.2.2.2.2.2.2.2.2.2.2.2.2.2.2.2.1, x.2.2.2.2.2.2.2.2.2.2.2.2.2.2.2.2.2.2.2.1, x.2.2.2.2.2.2.2.2.2.2.2.2.2.2.2.2.2.2.2.2.1, x.2.2.2.2.2.2.2.2.2.2.2.2.2.2.2.2.2.2.2.2.2))
 else
 none
 else
 none
 else
 (some (Sum.inr (x.1, x.2.2.1, x.2.2.2.1, x.2.2.2.2.1, x.2.2.2.2.2.1, x.2.2.2.2.2.2.1, x.2.2.2.2.2.2.2.1, x.2.2.2.2.2.2.2.2.1, x.2.2.2.2.2.2.2.2.2.1, x.2.2.2.2.2.2.2.2.2.2.1, x.2.2.2.2.2.2.2.2.2.2.2.1, x.2.2.2.2.2.2.2.2.2.2.2.2.1, x.2.2.2.2.2.2.2.2.2.2.2.2.2.1, x.2.2.2.2.2.2.2.2.2.2.2.2.2.2.1, x.2.2.2.2.2.2.2.2.2.2.2.2.2.2.2.1, x.2.2.2.2.2.2.2.2.2.2.2.2.2.2.2.2.1, x.2.2.2.2.2.2.2.2.2.2.2.2.2.2.2.2.2.1, x.2.2.2.2.2.2.2.2.2.2.2.2.2.2.2.2.2.2.1, x.2.2.2.2.2.2.2.2.2.2.2.2.2.2.2.2.2.2.2.1, x.2.2.2.2.2.2.2.2.2.2.2.2.2.2.2.2.2.2.2.2.1, x.2.2.2.2.2.2.2.2.2.2.2.2.2.2.2.2.2.2.2.2.2)))
 else
 (some (Sum.inr (x.1, x.2.2.1, x.2.2.2.1, x.2.2.2.2.1, x.2.2.2.2.2.1, x.2.2.2.2.2.2.1, x.2.2.2.2.2.2.2.1, x.2.2.2.2.2.2.2.2.1, x.2.2.2.2.2.2.2.2.2.1, x.2.2.2.2.2.2.2.2.2.2.1, x.2.2.2.2.2.2.2.2.2.2.2.1, x.2.2.2.2.2.2.2.2.2.2.2.2.1, x.2.2.2.2.2.2.2.2.2.2.2.2.2.1, x.2.2.2.2.2.2.2.2.2.2.2.2.2.2.1, x.2.2.2.2.2.2.2.2.2.2.2.2.2.2.2.1, x.2.2.2.2.2.2.2.2.2.2.2.2.2.2.2.2.1, x.2.2.2.2.2.2.2.2.2.2.2.2.2.2.2.2.2.1, x.2.2.2.2.2.2.2.2.2.2.2.2.2.2.2.2.2.2.1, x.2.2.2.2.2.2.2.2.2.2.2.2.2.2.2.2.2.2.2.1, x.2.2.2.2.2.2.2.2.2.2.2.2.2.2.2.2.2.2.2.2.1, x.2.2.2.2.2.2.2.2.2.2.2.2.2.2.2.2.2.2.2.2.2))))
def qab (k n : Nat) : ((Int × Int × ByteArray × Int × List (Int × Int) × List (Int × Int) × Bool × Nat × Bool × Nat × Bool × Nat × Bool × Nat × Bool × Bool × List Int × List Int × List Int × List Int) ⊕ (Int × Int × ByteArray × Int × List (Int × Int) × List (Int × Int) × Bool × Nat × Bool × Nat × Bool × Nat × Bool × Nat × Bool × List Int × Bool × List Int × List Int × List Int × List Int × List Int)) → Option ((Int × ByteArray × Int × List (Int × Int) × List (Int × Int) × Bool × Nat × Bool × Nat × Bool × Nat × Bool × Nat × Bool × Bool × List Int × List Int × List Int × List Int) ⊕ (Int × ByteArray × Int × List (Int × Int) × List (Int × Int) × Bool × Nat × Bool × Nat × Bool × Nat × Bool × Nat × Bool × List Int × Bool × List Int × List Int × List Int × List Int × List Int)) := Nat.rec (fun _ => none) (fun _ r => qbM k r) n
def qtg (k : Nat) (m0 : ByteArray) (m1 : Int) (m2 : List (Int × Int)) (m3 : List (Int × Int)) (k1 : Int) : Option (Bool × List Int × Bool × List Int × Bool × List Int × Bool × List Int × Int) :=
 Option.bind (qdw k m0 m1 m2 m3 k1) fun r =>
 if ((r != (0 : Int)) = true) then
 (some (false, [], false, [], false, [], false, [], r))
 else
 Option.bind (qab k k (Sum.inl (k1, (0 : Int), m0, m1, m2, m3, false, 0, false, 0, false, 0, false, 0, false, false, [], [], [], []))) fun r1 =>
 qc r1
 (fun r1 =>
 if ((0 : Int) ≤ r1.1) then
 Option.bind (r1.2.2.2.1)[(Int.toNat r1.1)]? fun x =>
 Option.bind (qaL k x.1 x.2) fun r2 =>
 Option.bind (qba k r2.1 r2.2.1 r2.2.2.1 r2.2.2.2) fun r3 =>
 Option.bind (qdu k r1.2.2.2.2.2.2.2.2.2.2.2.2.2.1 r1.2.2.2.2.2.2.2.2.2.2.2.2.2.2.1) fun r4 =>
 (some (r3.1, r3.2.1, r3.2.2.1, r3.2.2.2.1, r4.1, r4.2.1, r4.2.2.1, r4.2.2.2.1, (0 : Int)))
 else
 none)
 (fun r1 =>
 if ((0 : Int) ≤ r1.1) then
 Option.bind (r1.2.2.2.1)[(Int.toNat r1.1)]? fun x =>
 Option.bind (qaL k x.1 x.2) fun r2 =>
 Option.bind (qba k r2.1 r2.2.1 r2.2.2.1 r2.2.2.2) fun r3 =>
 Option.bind (qba k r1.2.2.2.2.2.2.2.2.2.2.2.2.2.1 r1.2.2.2.2.2.2.2.2.2.2.2.2.2.2.1 r1.2.2.2.2.2.2.2.2.2.2.2.2.2.2.2.1 r1.2.2.2.2.2.2.2.2.2.2.2.2.2.2.2.2.1) fun r4 =>
 (some (r3.1, r3.2.1, r3.2.2.1, r3.2.2.2.1, r4.1, r4.2.1, r4.2.2.1, r4.2.2.2.1, (0 : Int)))
 else
 none)
def qbX : Nat → ByteArray → Int → List (Int × Int) → List (Int × Int) → Int → Option (Bool × List Int × Bool × List Int × Bool × List Int × Bool × List Int × Int)
 | 0, _, _, _, _, _ => none
 | k + 1, m0, m1, m2, m3, k1 => qtg k m0 m1 m2 m3 k1
def qkG : FS := { vs := [.g [.lf .str, .lf (.int .u8), .lf (.sl (.pr (.int .i64) (.int .i64))), .lf (.sl (.pr (.int .i64) (.int .i64)))], .a (.lf (.int .i64))], bs := [] }
def qq0 : List FS := [{ vs := [.g [.lf .bool, .lf (.sl (.int .u32)), .lf .bool, .lf (.sl (.int .u32))], .g [.lf .bool, .lf (.sl (.int .u32)), .lf .bool, .lf (.sl (.int .u32))], .a (.lf (.int .i64))], bs := [] }]
def qsr (k : Nat) : Inst := ⟨7, qkG, qq0, fun x => qbX k x.1 x.2.1 x.2.2.1 x.2.2.2.1 x.2.2.2.2⟩
theorem qyE (k : Nat) : qk (call cf k) [qpk k, qpl k, quK k, qpm k, quE k, quN k, quL k, qgP k, qqZ k] := qA (qyA k) (qA (qyB k) (qA (qGp k) (qA (qyC k) (qA (qFO k) (qA (qGZ k) (qA (qGt k) (qA (qsk k) (qA (qB7 k) qT))))))))
def qi9 : List SS := [{ fr := [(1, .a (.lf (.int .i64))), (2, .a (.ptr 0 0 0)), (4, .a (.ptr 1 0 0)), (5, .a (.ptr 2 0 0)), (8, .a (.ptr 3 0 0)), (9, .a (.lf (.int .i64)))], mem := [(0, some (.raw [[.lf .str, .lf (.int .u8), .lf (.sl (.pr (.int .i64) (.int .i64))), .lf (.sl (.pr (.int .i64) (.int .i64)))]] 4 24 true false)), (1, some (.raw [[.lf .bool, .smz 4, .lf .bool, .smz 5]] 4 29 false false)), (2, some (.raw [[.lf .bool, .smz 6, .lf .bool, .smz 7]] 4 29 false false)), (3, some (.raw [[.lf .bool, .snil 1 68, .lf .bool, .snil 1 68]] 4 74 true false)), (4, some (.arr (.int .u32) 1 68 false)), (5, some (.arr (.int .u32) 1 68 false)), (6, some (.arr (.int .u32) 1 68 false)), (7, some (.arr (.int .u32) 1 68 false))], nx := 8 }, { fr := [(1, .a (.lf (.int .i64))), (2, .a (.ptr 0 0 0)), (4, .a (.ptr 1 0 0)), (5, .a (.ptr 2 0 0)), (8, .a (.ptr 3 0 0)), (9, .a (.lf (.int .i64)))], mem := [(0, some (.raw [[.lf .str, .lf (.int .u8), .lf (.sl (.pr (.int .i64) (.int .i64))), .lf (.sl (.pr (.int .i64) (.int .i64)))]] 4 24 true false)), (1, some (.raw [[.lf .bool, .smz 4, .lf .bool, .smz 5]] 4 29 false false)), (2, some (.raw [[.lf .bool, .smz 6, .lf .bool, .smz 7]] 4 29 false false)), (3, some (.raw [[.lf .bool, .lf (.sl (.int .u32)), .lf .bool, .lf (.sl (.int .u32))]] 4 74 true false)), (4, some (.arr (.int .u32) 1 68 false)), (5, some (.arr (.int .u32) 1 68 false)), (6, some (.arr (.int .u32) 1 68 false)), (7, some (.arr (.int .u32) 1 68 false))], nx := 8 }]
def qnK : List OS := [⟨some 0, { fr := [(1, .a (.lf (.int .i64))), (2, .a (.ptr 0 0 0)), (4, .a (.ptr 1 0 0)), (5, .a (.ptr 2 0 0)), (8, .a (.ptr 3 0 0))], mem := [(0, some (.raw [[.lf .str, .lf (.int .u8), .lf (.sl (.pr (.int .i64) (.int .i64))), .lf (.sl (.pr (.int .i64) (.int .i64)))]] 4 24 true false)), (1, some (.raw [[.lf .bool, .smz 4, .lf .bool, .smz 5]] 4 29 false false)), (2, some (.raw [[.lf .bool, .smz 6, .lf .bool, .smz 7]] 4 29 false false)), (3, some (.raw [[.lf .bool, .snil 1 68, .lf .bool, .snil 1 68]] 4 74 true false)), (4, some (.arr (.int .u32) 1 68 false)), (5, some (.arr (.int .u32) 1 68 false)), (6, some (.arr (.int .u32) 1 68 false)), (7, some (.arr (.int .u32) 1 68 false))], nx := 8 }⟩, ⟨some 0, { fr := [(1, .a (.lf (.int .i64))), (2, .a (.ptr 0 0 0)), (4, .a (.ptr 1 0 0)), (5, .a (.ptr 2 0 0)), (8, .a (.ptr 3 0 0))], mem := [(0, some (.raw [[.lf .str, .lf (.int .u8), .lf (.sl (.pr (.int .i64) (.int .i64))), .lf (.sl (.pr (.int .i64) (.int .i64)))]] 4 24 true false)), (1, some (.raw [[.lf .bool, .smz 4, .lf .bool, .smz 5]] 4 29 false false)), (2, some (.raw [[.lf .bool, .smz 6, .lf .bool, .smz 7]] 4 29 false false)), (3, some (.raw [[.lf .bool, .lf (.sl (.int .u32)), .lf .bool, .lf (.sl (.int .u32))]] 4 74 true false)), (4, some (.arr (.int .u32) 1 68 false)), (5, some (.arr (.int .u32) 1 68 false)), (6, some (.arr (.int .u32) 1 68 false)), (7, some (.arr (.int .u32) 1 68 false))], nx := 8 }⟩]
def qnL (k : Nat) : LInst := ⟨0, qi9, qnK, fun x => qab k k x⟩
theorem qB8 (k : Nat) : qg (LOk (R := DS OS.D qnK) (fun b _ σ K => LOt Ty (kps 7) 0 b σ K []) cf (call cf k) (kps 7) Tryz.f7.ntmps k 0) 0 (lb Tryz.f7 0) :=
 qA (qA qT (qA qT qT)) (qA (qA qT qT) qT)
theorem qB9 (k n : Nat) (x : DS SS.D qi9) : qab k (n + 1) x = qD SS.enc (fun σ => qF cf (fun f a b K => COt f a b K [qpk k, qpl k, quK k, qpm k, quE k, quN k, quL k, qgP k, qqZ k]) (fun b _ σ K => LOt Ty (kps 7) 0 b σ K []) Tryz.f7.ntmps 0 (lb Tryz.f7 0) σ (qH Ty (kps 7 0) 0 qi9 qnK fun x => qab k n x)) qi9 x := by kernel_rfl
theorem qCa (k : Nat) : qY cf (call cf k) (kps 7) Tryz.f7.ntmps k 0 0 (lb Tryz.f7 0) (qnL k) :=
 qr (c := cf) (callF := call cf k) (kp := kps 7) (nt := Tryz.f7.ntmps) (k := k) (p := 0) (b := 0) (x0 := lb Tryz.f7 0) (hs := qi9) (os := qnK) (qd (qyE k)) (qB8 k) (fun n x => qab k n x) (fun _ => rfl) (qB9 k)
theorem qG4 (k : Nat) : qg (LOk (R := DS FS.D qq0) (fun b _ σ K => LOt Ty (kps 7) 0 b σ K [qnL k]) cf (call cf k) (cf.keep 7) Tryz.f7.ntmps k qkG.bs.length) 0 (bd Tryz.f7) :=
 qA qT (qA (qA qT (qA qT (qA (qA qT qT) qT))) (qA qT (qA (qA qT (qw (c := cf) (callF := call cf k) (kp := kps 7) (nt := Tryz.f7.ntmps) (k := k) (p := 0) (b := 0) (x0 := lb Tryz.f7 0) (l := [qnL k]) (qA (fun _ => qCa k) qT))) (qA qT qT))))
theorem qG5 (k : Nat) (x : qkG.D) : qbX (k + 1) x.1 x.2.1 x.2.2.1 x.2.2.2.1 x.2.2.2.2 = qi cf (fun f a b K => COt f a b K [qpk k, qpl k, quK k, qpm k, quE k, quN k, quL k, qgP k, qqZ k]) (fun b _ σ K => LOt Ty (kps 7) 0 b σ K [qnL k]) 7 Tryz.f7.ntmps Tryz.f7.results.toList (bd Tryz.f7) (qkG.enc x).1 (qkG.enc x).2 (qj FS.dec qq0) := by kernel_rfl
theorem qyF : ∀ k, qf (call cf k) (qsr k)
 | 0 => fun x y e => absurd (show (none : Option _) = some y from e) (by simp)
 | k + 1 => qe (c := cf) (k := k) (f := 7) (fn := Tryz.f7) (body := bd Tryz.f7) (sh := qkG) (os := qq0) rfl Tryz.func7 rfl ⟨rfl, Nat.le_of_ble_eq_true rfl⟩ (qd (qyE k)) (qG4 k) (fun x => qbX (k + 1) x.1 x.2.1 x.2.2.1 x.2.2.2.1 x.2.2.2.2) (qG5 k)

def qxx (k : Nat) (v : Int) : Option (Bool × List Int) :=
 Option.bind (qag k v) fun r1 =>
 Option.bind (qaT k r1.1 r1.2) fun r2 =>
 if ((0 + r2.2.1) ≤ (List.length r2.2.2.2.2)) then
 (some (r2.1, (List.take r2.2.1 r2.2.2.2.2)))
 else
 none
def qgA : Nat → Int → Option (Bool × List Int)
 | 0, _ => none
 | k + 1, v => qxx k v
def qkH : FS := { vs := [.a (.lf (.int .i64))], bs := [] }
def qq1 : List FS := [{ vs := [.g [.lf .bool, .lf (.sl (.int .u32))]], bs := [] }]
def qxy (k : Nat) : Inst := ⟨28, qkH, qq1, fun x => qgA k x⟩
theorem qG6 (k : Nat) : qk (call cf k) [qfz k, qgd k] := qA (qjW k) (qA (qni k) qT)
theorem qG7 (k : Nat) : qg (LOk (R := DS FS.D qq1) (fun b _ σ K => LOt Ty (kps 28) 0 b σ K []) cf (call cf k) (cf.keep 28) Tryz.f28.ntmps k qkH.bs.length) 0 (bd Tryz.f28) :=
 qA qT (qA qT qT)
theorem qG8 (k : Nat) (x : qkH.D) : qgA (k + 1) x = qi cf (fun f a b K => COt f a b K [qfz k, qgd k]) (fun b _ σ K => LOt Ty (kps 28) 0 b σ K []) 28 Tryz.f28.ntmps Tryz.f28.results.toList (bd Tryz.f28) (qkH.enc x).1 (qkH.enc x).2 (qj FS.dec qq1) := by kernel_rfl
theorem qG9 : ∀ k, qf (call cf k) (qxy k)
 | 0 => fun x y e => absurd (show (none : Option _) = some y from e) (by simp)
 | k + 1 => qe (c := cf) (k := k) (f := 28) (fn := Tryz.f28) (body := bd Tryz.f28) (sh := qkH) (os := qq1) rfl Tryz.func28 rfl ⟨rfl, Nat.le_of_ble_eq_true rfl⟩ (qd (qG6 k)) (qG7 k) (fun x => qgA (k + 1) x) (qG8 k)

def qnM (k : Nat) (z0 : Bool) (z1 : List Int) (z2 : Bool) (z3 : List Int) : Option (Bool × List Int × Bool × List Int × Int × Bool × List Int × Bool × List Int) :=
 Option.bind (qba k z0 z1 z2 z3) fun r8 =>
 if ((decide ((((List.length r8.2.1) : Nat) : Int) > (72 : Int))) = false) then
 if ((decide ((((List.length r8.2.2.2.1) : Nat) : Int) > (72 : Int))) = true) then
 (some (false, [], false, [], (13 : Int), r8.2.2.2.2.1, r8.2.2.2.2.2.1, r8.2.2.2.2.2.2.1, r8.2.2.2.2.2.2.2))
 else
 (some (r8.1, r8.2.1, r8.2.2.1, r8.2.2.2.1, (0 : Int), r8.2.2.2.2.1, r8.2.2.2.2.2.1, r8.2.2.2.2.2.2.1, r8.2.2.2.2.2.2.2))
 else
 (some (false, [], false, [], (13 : Int), r8.2.2.2.2.1, r8.2.2.2.2.2.1, r8.2.2.2.2.2.2.1, r8.2.2.2.2.2.2.2))
def qef : Nat → Bool → List Int → Bool → List Int → Option (Bool × List Int × Bool × List Int × Int × Bool × List Int × Bool × List Int)
 | 0, _, _, _, _ => none
 | k + 1, z0, z1, z2, z3 => qnM k z0 z1 z2 z3
def qkI : FS := { vs := [.a (.ptr 0 0 0)], bs := [.raw [[.lf .bool, .lf (.sl (.int .u32)), .lf .bool, .lf (.sl (.int .u32))]] 4 74 true false] }
def qq2 : List FS := [{ vs := [.g [.lf .bool, .lf (.sl (.int .u32)), .lf .bool, .lf (.sl (.int .u32))], .a (.lf (.int .i64))], bs := [.raw [[.lf .bool, .lf (.sl (.int .u32)), .lf .bool, .lf (.sl (.int .u32))]] 4 74 true false] }]
def qxz (k : Nat) : Inst := ⟨67, qkI, qq2, fun x => qef k x.1 x.2.1 x.2.2.1 x.2.2.2⟩
theorem qHa (k : Nat) : qk (call cf k) [qgP k] := qA (qsk k) qT
theorem qHb (k : Nat) : qg (LOk (R := DS FS.D qq2) (fun b _ σ K => LOt Ty (kps 67) 1 b σ K []) cf (call cf k) (cf.keep 67) Tryz.f67.ntmps k qkI.bs.length) 0 (bd Tryz.f67) :=
 qA qT (qA qT (qA (qA qT (qA (qA qT qT) qT)) (qA qT qT)))
theorem qHc (k : Nat) (x : qkI.D) : qef (k + 1) x.1 x.2.1 x.2.2.1 x.2.2.2 = qi cf (fun f a b K => COt f a b K [qgP k]) (fun b _ σ K => LOt Ty (kps 67) 1 b σ K []) 67 Tryz.f67.ntmps Tryz.f67.results.toList (bd Tryz.f67) (qkI.enc x).1 (qkI.enc x).2 (qj FS.dec qq2) := by kernel_rfl
theorem qHd : ∀ k, qf (call cf k) (qxz k)
 | 0 => fun x y e => absurd (show (none : Option _) = some y from e) (by simp)
 | k + 1 => qe (c := cf) (k := k) (f := 67) (fn := Tryz.f67) (body := bd Tryz.f67) (sh := qkI) (os := qq2) rfl Tryz.func67 rfl ⟨rfl, Nat.le_of_ble_eq_true rfl⟩ (qd (qHa k)) (qHb k) (fun x => qef (k + 1) x.1 x.2.1 x.2.2.1 x.2.2.2) (qHc k)

def qvQ (k : Nat) (num0 : Bool) (num1 : List Int) (den0 : Bool) (den1 : List Int) : Option (Bool × List Int × Bool × List Int × Int) :=
 Option.bind (qbI k num0 num1) fun r3 =>
 if ((r3 != (0 : Int)) = false) then
 Option.bind (qbI k den0 den1) fun r4 =>
 if ((r4 != (0 : Int)) = true) then
 (some (false, [], false, [], (10 : Int)))
 else
 if (((((List.length den1) : Nat) : Int) == (0 : Int)) = true) then
 (some (false, [], false, [], (11 : Int)))
 else
 Option.bind (qbm k num0 num1) fun r5 =>
 Option.bind (qbm k den0 den1) fun r6 =>
 Option.bind (qbH k r5.1 r5.2 r6.1 r6.2) fun r7 =>
 Option.bind (qef k r7.2.2.2.2.1 r7.2.2.2.2.2.1 r7.2.2.2.2.2.2.1 r7.2.2.2.2.2.2.2) fun r8 =>
 (some (r8.1, r8.2.1, r8.2.2.1, r8.2.2.2.1, r8.2.2.2.2.1))
 else
 (some (false, [], false, [], (10 : Int)))
def qgQ : Nat → Bool → List Int → Bool → List Int → Option (Bool × List Int × Bool × List Int × Int)
 | 0, _, _, _, _ => none
 | k + 1, num0, num1, den0, den1 => qvQ k num0 num1 den0 den1
def qkJ : FS := { vs := [.g [.lf .bool, .lf (.sl (.int .u32))], .g [.lf .bool, .lf (.sl (.int .u32))]], bs := [] }
def qq3 : List FS := [{ vs := [.g [.lf .bool, .lf (.sl (.int .u32)), .lf .bool, .lf (.sl (.int .u32))], .a (.lf (.int .i64))], bs := [] }]
def qxA (k : Nat) : Inst := ⟨27, qkJ, qq3, fun x => qgQ k x.1 x.2.1 x.2.2.1 x.2.2.2⟩
theorem qHe (k : Nat) : qk (call cf k) [qh8 k, qge k, Iq0 k, qxz k] := qA (qqB k) (qA (qnl k) (qA (quA k) (qA (qHd k) qT)))
theorem qHf (k : Nat) : qg (LOk (R := DS FS.D qq3) (fun b _ σ K => LOt Ty (kps 27) 0 b σ K []) cf (call cf k) (cf.keep 27) Tryz.f27.ntmps k qkJ.bs.length) 0 (bd Tryz.f27) :=
 qA qT (qA (qA qT (qA (qA qT qT) qT)) (qA (qA qT (qA (qA qT qT) qT)) (qA qT qT)))
theorem qHg (k : Nat) (x : qkJ.D) : qgQ (k + 1) x.1 x.2.1 x.2.2.1 x.2.2.2 = qi cf (fun f a b K => COt f a b K [qh8 k, qge k, Iq0 k, qxz k]) (fun b _ σ K => LOt Ty (kps 27) 0 b σ K []) 27 Tryz.f27.ntmps Tryz.f27.results.toList (bd Tryz.f27) (qkJ.enc x).1 (qkJ.enc x).2 (qj FS.dec qq3) := by kernel_rfl
theorem qHh : ∀ k, qf (call cf k) (qxA k)
 | 0 => fun x y e => absurd (show (none : Option _) = some y from e) (by simp)
 | k + 1 => qe (c := cf) (k := k) (f := 27) (fn := Tryz.f27) (body := bd Tryz.f27) (sh := qkJ) (os := qq3) rfl Tryz.func27 rfl ⟨rfl, Nat.le_of_ble_eq_true rfl⟩ (qd (qHe k)) (qHf k) (fun x => qgQ (k + 1) x.1 x.2.1 x.2.2.1 x.2.2.2) (qHg k)

def qg2 (k : Nat) (m0 : ByteArray) (m1 : Int) (m2 : List (Int × Int)) (m3 : List (Int × Int)) (k1 : Int) (u0 : Bool) (u1 : List Int) (u2 : Bool) (u3 : List Int) : Option (Int × Int) :=
 Option.bind (qdw k m0 m1 m2 m3 k1) fun r4 =>
 if ((r4 != (0 : Int)) = true) then
 (some ((0 : Int), r4))
 else
 Option.bind (qeE k u0 u1 u2 u3) fun r5 =>
 if ((r5 != (0 : Int)) = true) then
 (some ((0 : Int), r5))
 else
 Option.bind (qdK k u0 u1 u2 u3) fun r6 =>
 if ((decide (k1 > (0 : Int))) = true) then
 Option.bind (qbJ k m0 m1 m2 m3 (IntKind.wrap .i64 (k1 - (1 : Int)))) fun r7 =>
 Option.bind (qaO k r6.1 r6.2.1 r6.2.2.1 r6.2.2.2 r7.1 r7.2.1 r7.2.2.1 r7.2.2.2) fun r8 =>
 if ((decide (r8.1 < (0 : Int))) = true) then
 (some ((-(1 : Int)), (0 : Int)))
 else
 if ((decide (k1 < (((List.length m3) : Nat) : Int))) = true) then
 Option.bind (qbJ k m0 m1 m2 m3 k1) fun r9 =>
 Option.bind (qaO k r8.2.1 r8.2.2.1 r8.2.2.2.1 r8.2.2.2.2.1 r9.1 r9.2.1 r9.2.2.1 r9.2.2.2) fun r10 =>
 if ((decide (r10.1 > (0 : Int))) = true) then
 (some ((1 : Int), (0 : Int)))
 else
 (some ((0 : Int), (0 : Int)))
 else
 (some ((0 : Int), (0 : Int)))
 else
 if ((decide (k1 < (((List.length m3) : Nat) : Int))) = true) then
 Option.bind (qbJ k m0 m1 m2 m3 k1) fun r7 =>
 Option.bind (qaO k r6.1 r6.2.1 r6.2.2.1 r6.2.2.2 r7.1 r7.2.1 r7.2.2.1 r7.2.2.2) fun r8 =>
 if ((decide (r8.1 > (0 : Int))) = true) then
 (some ((1 : Int), (0 : Int)))
 else
 (some ((0 : Int), (0 : Int)))
 else
 (some ((0 : Int), (0 : Int)))
def qaU : Nat → ByteArray → Int → List (Int × Int) → List (Int × Int) → Int → Bool → List Int → Bool → List Int → Option (Int × Int)
 | 0, _, _, _, _, _, _, _, _, _ => none
 | k + 1, m0, m1, m2, m3, k1, u0, u1, u2, u3 => qg2 k m0 m1 m2 m3 k1 u0 u1 u2 u3
def qkK : FS := { vs := [.g [.lf .str, .lf (.int .u8), .lf (.sl (.pr (.int .i64) (.int .i64))), .lf (.sl (.pr (.int .i64) (.int .i64)))], .a (.lf (.int .i64)), .g [.lf .bool, .lf (.sl (.int .u32)), .lf .bool, .lf (.sl (.int .u32))]], bs := [] }
def qq4 : List FS := [{ vs := [.a (.lf (.int .i64)), .a (.lf (.int .i64))], bs := [] }]
def qja (k : Nat) : Inst := ⟨9, qkK, qq4, fun x => qaU k x.1 x.2.1 x.2.2.1 x.2.2.2.1 x.2.2.2.2.1 x.2.2.2.2.2.1 x.2.2.2.2.2.2.1 x.2.2.2.2.2.2.2.1 x.2.2.2.2.2.2.2.2⟩
theorem qHi (k : Nat) : qk (call cf k) [qpk k, qxm k, qnn k, qpm k, qsn k] := qA (qyA k) (qA (qF3 k) (qA (qvP k) (qA (qyC k) (qA (qyz k) qT))))
theorem qHj (k : Nat) : qg (LOk (R := DS FS.D qq4) (fun b _ σ K => LOt Ty (kps 9) 0 b σ K []) cf (call cf k) (cf.keep 9) Tryz.f9.ntmps k qkK.bs.length) 0 (bd Tryz.f9) :=
 qA qT (qA (qA qT (qA qT (qA (qA qT qT) qT))) (qA (qA qT (qA qT (qA (qA qT qT) qT))) (qA qT (qA (qA qT (qA (qA qT qT) qT)) (qA (qA qT (qA (qA qT qT) qT)) (qA qT qT))))))
theorem qHk (k : Nat) (x : qkK.D) : qaU (k + 1) x.1 x.2.1 x.2.2.1 x.2.2.2.1 x.2.2.2.2.1 x.2.2.2.2.2.1 x.2.2.2.2.2.2.1 x.2.2.2.2.2.2.2.1 x.2.2.2.2.2.2.2.2 = qi cf (fun f a b K => COt f a b K [qpk k, qxm k, qnn k, qpm k, qsn k]) (fun b _ σ K => LOt Ty (kps 9) 0 b σ K []) 9 Tryz.f9.ntmps Tryz.f9.results.toList (bd Tryz.f9) (qkK.enc x).1 (qkK.enc x).2 (qj FS.dec qq4) := by kernel_rfl
theorem quO : ∀ k, qf (call cf k) (qja k)
 | 0 => fun x y e => absurd (show (none : Option _) = some y from e) (by simp)
 | k + 1 => qe (c := cf) (k := k) (f := 9) (fn := Tryz.f9) (body := bd Tryz.f9) (sh := qkK) (os := qq4) rfl Tryz.func9 rfl ⟨rfl, Nat.le_of_ble_eq_true rfl⟩ (qd (qHi k)) (qHj k) (fun x => qaU (k + 1) x.1 x.2.1 x.2.2.1 x.2.2.2.1 x.2.2.2.2.1 x.2.2.2.2.2.1 x.2.2.2.2.2.2.1 x.2.2.2.2.2.2.2.1 x.2.2.2.2.2.2.2.2) (qHk k)

def qc0 (k : Nat) (rec : Int → ByteArray → Int → List (Int × Int) → List (Int × Int) → Bool → List Int → Bool → List Int → Option (Int × Int × ByteArray × Int × List (Int × Int) × List (Int × Int) × Bool × List Int × Bool × List Int)) (k1 : Int) (m0 : ByteArray) (m1 : Int) (m2 : List (Int × Int)) (m3 : List (Int × Int)) (u0 : Bool) (u1 : List Int) (u2 : Bool) (u3 : List Int) : Option (Int × Int × ByteArray × Int × List (Int × Int) × List (Int × Int) × Bool × List Int × Bool × List Int) :=
 Option.bind (qaU k m0 m1 m2 m3 k1 u0 u1 u2 u3) fun r5 =>
 if ((r5.2 != (0 : Int)) = true) then
 (some ((0 : Int), r5.2, m0, m1, m2, m3, u0, u1, u2, u3))
 else
 if ((r5.1 == (0 : Int)) = true) then
 (some (k1, (0 : Int), m0, m1, m2, m3, u0, u1, u2, u3))
 else
 rec (IntKind.wrap .i64 (k1 + (1 : Int))) m0 m1 m2 m3 u0 u1 u2 u3
def qaI (k n : Nat) : Int → ByteArray → Int → List (Int × Int) → List (Int × Int) → Bool → List Int → Bool → List Int → Option (Int × Int × ByteArray × Int × List (Int × Int) × List (Int × Int) × Bool × List Int × Bool × List Int) := Nat.rec (fun _ _ _ _ _ _ _ _ _ => none) (fun _ r => qc0 k r) n
def qth (k : Nat) (m0 : ByteArray) (m1 : Int) (m2 : List (Int × Int)) (m3 : List (Int × Int)) (u0 : Bool) (u1 : List Int) (u2 : Bool) (u3 : List Int) : Option (Int × Int) :=
 Option.bind (qaI k k (0 : Int) m0 m1 m2 m3 u0 u1 u2 u3) fun r5 =>
 (some (r5.1, r5.2.1))
def qcq : Nat → ByteArray → Int → List (Int × Int) → List (Int × Int) → Bool → List Int → Bool → List Int → Option (Int × Int)
 | 0, _, _, _, _, _, _, _, _ => none
 | k + 1, m0, m1, m2, m3, u0, u1, u2, u3 => qth k m0 m1 m2 m3 u0 u1 u2 u3
def qkL : FS := { vs := [.g [.lf .str, .lf (.int .u8), .lf (.sl (.pr (.int .i64) (.int .i64))), .lf (.sl (.pr (.int .i64) (.int .i64)))], .g [.lf .bool, .lf (.sl (.int .u32)), .lf .bool, .lf (.sl (.int .u32))]], bs := [] }
def qq5 : List FS := [{ vs := [.a (.lf (.int .i64)), .a (.lf (.int .i64))], bs := [] }]
def qss (k : Nat) : Inst := ⟨11, qkL, qq5, fun x => qcq k x.1 x.2.1 x.2.2.1 x.2.2.2.1 x.2.2.2.2.1 x.2.2.2.2.2.1 x.2.2.2.2.2.2.1 x.2.2.2.2.2.2.2⟩
theorem qyG (k : Nat) : qk (call cf k) [qja k] := qA (quO k) qT
def qjb : List SS := [{ fr := [(2, .a (.ptr 0 0 0)), (3, .a (.ptr 1 0 0)), (6, .a (.lf (.int .i64)))], mem := [(0, some (.raw [[.lf .str, .lf (.int .u8), .lf (.sl (.pr (.int .i64) (.int .i64))), .lf (.sl (.pr (.int .i64) (.int .i64)))]] 4 24 true false)), (1, some (.raw [[.lf .bool, .lf (.sl (.int .u32)), .lf .bool, .lf (.sl (.int .u32))]] 4 29 true false))], nx := 2 }]
def qnN : List OS := [⟨none, { fr := [(4, .a (.lf (.int .i64))), (5, .a (.lf (.int .i64)))], mem := [(0, some (.raw [[.lf .str, .lf (.int .u8), .lf (.sl (.pr (.int .i64) (.int .i64))), .lf (.sl (.pr (.int .i64) (.int .i64)))]] 4 24 true false)), (1, some (.raw [[.lf .bool, .lf (.sl (.int .u32)), .lf .bool, .lf (.sl (.int .u32))]] 4 29 true false))], nx := 2 }⟩]
def qnO (k : Nat) : LInst := ⟨0, qjb, qnN, fun x => qaI k k x.1 x.2.1 x.2.2.1 x.2.2.2.1 x.2.2.2.2.1 x.2.2.2.2.2.1 x.2.2.2.2.2.2.1 x.2.2.2.2.2.2.2.1 x.2.2.2.2.2.2.2.2⟩
theorem qCb (k : Nat) : qg (LOk (R := DS OS.D qnN) (fun b _ σ K => LOt Ty (kps 11) 0 b σ K []) cf (call cf k) (kps 11) Tryz.f11.ntmps k 0) 0 (lb Tryz.f11 0) :=
 qA (qA qT (qA (qA qT (qA (qA qT qT) qT)) (qA qT (qA (qA qT qT) qT)))) qT
theorem qCc (k n : Nat) (x : DS SS.D qjb) : qaI k (n + 1) x.1 x.2.1 x.2.2.1 x.2.2.2.1 x.2.2.2.2.1 x.2.2.2.2.2.1 x.2.2.2.2.2.2.1 x.2.2.2.2.2.2.2.1 x.2.2.2.2.2.2.2.2 = qD SS.enc (fun σ => qF cf (fun f a b K => COt f a b K [qja k]) (fun b _ σ K => LOt Ty (kps 11) 0 b σ K []) Tryz.f11.ntmps 0 (lb Tryz.f11 0) σ (qH Ty (kps 11 0) 0 qjb qnN fun x => qaI k n x.1 x.2.1 x.2.2.1 x.2.2.2.1 x.2.2.2.2.1 x.2.2.2.2.2.1 x.2.2.2.2.2.2.1 x.2.2.2.2.2.2.2.1 x.2.2.2.2.2.2.2.2)) qjb x := by kernel_rfl
theorem qCd (k : Nat) : qY cf (call cf k) (kps 11) Tryz.f11.ntmps k 0 0 (lb Tryz.f11 0) (qnO k) :=
 qr (c := cf) (callF := call cf k) (kp := kps 11) (nt := Tryz.f11.ntmps) (k := k) (p := 0) (b := 0) (x0 := lb Tryz.f11 0) (hs := qjb) (os := qnN) (qd (qyG k)) (qCb k) (fun n x => qaI k n x.1 x.2.1 x.2.2.1 x.2.2.2.1 x.2.2.2.2.1 x.2.2.2.2.2.1 x.2.2.2.2.2.2.1 x.2.2.2.2.2.2.2.1 x.2.2.2.2.2.2.2.2) (fun _ => rfl) (qCc k)
theorem qHl (k : Nat) : qg (LOk (R := DS FS.D qq5) (fun b _ σ K => LOt Ty (kps 11) 0 b σ K [qnO k]) cf (call cf k) (cf.keep 11) Tryz.f11.ntmps k qkL.bs.length) 0 (bd Tryz.f11) :=
 qA qT (qA qT (qw (c := cf) (callF := call cf k) (kp := kps 11) (nt := Tryz.f11.ntmps) (k := k) (p := 0) (b := 0) (x0 := lb Tryz.f11 0) (l := [qnO k]) (qA (fun _ => qCd k) qT)))
theorem qHm (k : Nat) (x : qkL.D) : qcq (k + 1) x.1 x.2.1 x.2.2.1 x.2.2.2.1 x.2.2.2.2.1 x.2.2.2.2.2.1 x.2.2.2.2.2.2.1 x.2.2.2.2.2.2.2 = qi cf (fun f a b K => COt f a b K [qja k]) (fun b _ σ K => LOt Ty (kps 11) 0 b σ K [qnO k]) 11 Tryz.f11.ntmps Tryz.f11.results.toList (bd Tryz.f11) (qkL.enc x).1 (qkL.enc x).2 (qj FS.dec qq5) := by kernel_rfl
theorem qyH : ∀ k, qf (call cf k) (qss k)
 | 0 => fun x y e => absurd (show (none : Option _) = some y from e) (by simp)
 | k + 1 => qe (c := cf) (k := k) (f := 11) (fn := Tryz.f11) (body := bd Tryz.f11) (sh := qkL) (os := qq5) rfl Tryz.func11 rfl ⟨rfl, Nat.le_of_ble_eq_true rfl⟩ (qd (qyG k)) (qHl k) (fun x => qcq (k + 1) x.1 x.2.1 x.2.2.1 x.2.2.2.1 x.2.2.2.2.1 x.2.2.2.2.2.1 x.2.2.2.2.2.2.1 x.2.2.2.2.2.2.2) (qHm k)

def qg3 (k : Nat) (rec : Nat → List Int → Int → Int → Bool → List Int → List Int → Option (Nat × List Int × Bool × List Int × List Int)) (out1 : Nat) (a : List Int) (r : Int) (i : Int) (z0 : Bool) (z1 : List Int) (outs : List Int) : Option (Nat × List Int × Bool × List Int × List Int) :=
 if ((decide (i < (9 : Int))) = true) then
 if ((decide (r > (0 : Int))) = false) then
 if ((decide ((((List.length a) : Nat) : Int) > (0 : Int))) = true) then
 if (out1 ≤ (List.length outs)) then
 if (((out1 + (List.length (List.take 1 ((IntKind.wrap .u8 (IntKind.wrap .u32 ((48 : Int) + (Int.tmod r (10 : Int))))) :: [])))) * 1) ≤ 140737488355328) then
 rec (out1 + (List.length (List.take 1 ((IntKind.wrap .u8 (IntKind.wrap .u32 ((48 : Int) + (Int.tmod r (10 : Int))))) :: [])))) a (IntKind.wrap .u32 (Int.tdiv r (10 : Int))) (IntKind.wrap .i64 (i + (1 : Int))) z0 z1 ((List.take out1 outs) ++ (List.take 1 ((IntKind.wrap .u8 (IntKind.wrap .u32 ((48 : Int) + (Int.tmod r (10 : Int))))) :: [])))
 else
 none
 else
 none
 else
 (some (out1, a, z0, z1, outs))
 else
 if (out1 ≤ (List.length outs)) then
 if (((out1 + (List.length (List.take 1 ((IntKind.wrap .u8 (IntKind.wrap .u32 ((48 : Int) + (Int.tmod r (10 : Int))))) :: [])))) * 1) ≤ 140737488355328) then
 rec (out1 + (List.length (List.take 1 ((IntKind.wrap .u8 (IntKind.wrap .u32 ((48 : Int) + (Int.tmod r (10 : Int))))) :: [])))) a (IntKind.wrap .u32 (Int.tdiv r (10 : Int))) (IntKind.wrap .i64 (i + (1 : Int))) z0 z1 ((List.take out1 outs) ++ (List.take 1 ((IntKind.wrap .u8 (IntKind.wrap .u32 ((48 : Int) + (Int.tmod r (10 : Int))))) :: [])))
 else
 none
 else
 none
 else
 (some (out1, a, z0, z1, outs))
def qck (k n : Nat) : Nat → List Int → Int → Int → Bool → List Int → List Int → Option (Nat × List Int × Bool × List Int × List Int) := Nat.rec (fun _ _ _ _ _ _ _ => none) (fun _ r => qg3 k r) n
def qg4 (k : Nat) (rec : Nat → List Int → Bool → List Int → List Int → Option (Nat × Bool × List Int × List Int)) (out1 : Nat) (a : List Int) (z0 : Bool) (z1 : List Int) (outs : List Int) : Option (Nat × Bool × List Int × List Int) :=
 if ((decide ((((List.length a) : Nat) : Int) > (0 : Int))) = true) then
 Option.bind (qeB k a (1000000000 : Int)) fun r8 =>
 Option.bind (qcF k r8.1) fun r9 =>
 Option.bind (qck k k out1 r9 r8.2 (0 : Int) z0 z1 outs) fun r10 =>
 rec r10.1 r10.2.1 r10.2.2.1 r10.2.2.2.1 r10.2.2.2.2
 else
 (some (out1, z0, z1, outs))
def qcl (k n : Nat) : Nat → List Int → Bool → List Int → List Int → Option (Nat × Bool × List Int × List Int) := Nat.rec (fun _ _ _ _ _ => none) (fun _ r => qg4 k r) n
def qg5 (k : Nat) (rec : Nat → Int → Int → Bool → List Int → List Int → Option (Nat × Bool × List Int × List Int)) (out1 : Nat) (i : Int) (j : Int) (m0 : Bool) (m1 : List Int) (outs : List Int) : Option (Nat × Bool × List Int × List Int) :=
 if ((decide (i < j)) = true) then
 if (((0 : Int) ≤ j) ∧ (j < ((out1 : Nat) : Int))) then
 Option.bind (outs)[(0 + (Int.toNat j))]? fun x =>
 if (((0 : Int) ≤ i) ∧ (i < ((out1 : Nat) : Int))) then
 Option.bind (outs)[(0 + (Int.toNat i))]? fun x1 =>
 if (((0 : Int) ≤ i) ∧ (i < ((out1 : Nat) : Int))) then
 Option.bind (outs)[(0 + (Int.toNat i))]? fun x2 =>
 if (((0 : Int) ≤ j) ∧ (j < ((out1 : Nat) : Int))) then
 Option.bind ((List.set outs (0 + (Int.toNat i)) x))[(0 + (Int.toNat j))]? fun x3 =>
 rec out1 (IntKind.wrap .i64 (i + (1 : Int))) (IntKind.wrap .i64 (j - (1 : Int))) m0 m1 (List.set (List.set outs (0 + (Int.toNat i)) x) (0 + (Int.toNat j)) x1)
 else
 none
 else
 none
 else
 none
 else
 none
 else
 (some (out1, m0, m1, outs))
def qbp (k n : Nat) : Nat → Int → Int → Bool → List Int → List Int → Option (Nat × Bool × List Int × List Int) := Nat.rec (fun _ _ _ _ _ _ => none) (fun _ r => qg5 k r) n
def qin (k : Nat) (z0 : Bool) (z1 : List Int) : Option (ByteArray × Bool × List Int) :=
 if (((((List.length z1) : Nat) : Int) == (0 : Int)) = true) then
 (some ((ByteArray.mk (List.toArray (48 :: []))), z0, z1))
 else
 Option.bind (qcl k k 0 z1 z0 z1 []) fun r8 =>
 if (r8.2.1 = true) then
 if (r8.1 ≤ (List.length r8.2.2.2)) then
 if (((r8.1 + 1) * 1) ≤ 140737488355328) then
 Option.bind (qbp k k (r8.1 + 1) (0 : Int) (IntKind.wrap .i64 ((((r8.1 + 1) : Nat) : Int) - (1 : Int))) r8.2.1 r8.2.2.1 ((List.take r8.1 r8.2.2.2) ++ (List.take 1 ((45 : Int) :: [])))) fun r9 =>
 if ((0 + r9.1) ≤ (List.length r9.2.2.2)) then
 (some ((ByteArray.mk (List.toArray (List.map (fun n => n.toNat.toUInt8) (List.take r9.1 r9.2.2.2)))), r9.2.1, r9.2.2.1))
 else
 none
 else
 none
 else
 none
 else
 Option.bind (qbp k k r8.1 (0 : Int) (IntKind.wrap .i64 (((r8.1 : Nat) : Int) - (1 : Int))) r8.2.1 r8.2.2.1 r8.2.2.2) fun r9 =>
 if ((0 + r9.1) ≤ (List.length r9.2.2.2)) then
 (some ((ByteArray.mk (List.toArray (List.map (fun n => n.toNat.toUInt8) (List.take r9.1 r9.2.2.2)))), r9.2.1, r9.2.2.1))
 else
 none
def qdC : Nat → Bool → List Int → Option (ByteArray × Bool × List Int)
 | 0, _, _ => none
 | k + 1, z0, z1 => qin k z0 z1
def qkM : FS := { vs := [.a (.ptr 0 0 0)], bs := [.raw [[.lf .bool, .lf (.sl (.int .u32))]] 2 72 true false] }
def qq6 : List FS := [{ vs := [.a (.lf .str)], bs := [.raw [[.lf .bool, .lf (.sl (.int .u32))]] 2 72 true false] }]
def qxB (k : Nat) : Inst := ⟨72, qkM, qq6, fun x => qdC k x.1 x.2⟩
theorem qq7 (k : Nat) : qk (call cf k) [qiG k, qem k] := qA (qyp k) (qA (qjU k) qT)
def qjc : List SS := [{ fr := [(0, .a (.ptr 0 0 0)), (3, .a (.smz 1)), (4, .a (.lf (.sl (.int .u32)))), (6, .a (.lf (.int .u32))), (7, .a (.lf (.int .i64)))], mem := [(0, some (.raw [[.lf .bool, .lf (.sl (.int .u32))]] 2 72 true false)), (1, some (.arr (.int .u8) 1 5 false))], nx := 2 }]
def qnP : List OS := [⟨some 2, { fr := [(0, .a (.ptr 0 0 0)), (3, .a (.smz 1)), (4, .a (.lf (.sl (.int .u32))))], mem := [(0, some (.raw [[.lf .bool, .lf (.sl (.int .u32))]] 2 72 true false)), (1, some (.arr (.int .u8) 1 5 false))], nx := 2 }⟩]
def qeW (k : Nat) : LInst := ⟨2, qjc, qnP, fun x => qck k k x.1 x.2.1 x.2.2.1 x.2.2.2.1 x.2.2.2.2.1 x.2.2.2.2.2.1 x.2.2.2.2.2.2⟩
theorem qCe (k : Nat) : qg (LOk (R := DS OS.D qnP) (fun b _ σ K => LOt Ty (kps 72) 1 b σ K []) cf (call cf k) (kps 72) Tryz.f72.ntmps k 1) 2 (lb Tryz.f72 1) :=
 qA (qA qT (qA qT qT)) (qA (qA qT qT) qT)
theorem qCf (k n : Nat) (x : DS SS.D qjc) : qck k (n + 1) x.1 x.2.1 x.2.2.1 x.2.2.2.1 x.2.2.2.2.1 x.2.2.2.2.2.1 x.2.2.2.2.2.2 = qD SS.enc (fun σ => qF cf (fun f a b K => COt f a b K [qiG k, qem k]) (fun b _ σ K => LOt Ty (kps 72) 1 b σ K []) Tryz.f72.ntmps 2 (lb Tryz.f72 1) σ (qH Ty (kps 72 2) 1 qjc qnP fun x => qck k n x.1 x.2.1 x.2.2.1 x.2.2.2.1 x.2.2.2.2.1 x.2.2.2.2.2.1 x.2.2.2.2.2.2)) qjc x := by kernel_rfl
theorem qCg (k : Nat) : qY cf (call cf k) (kps 72) Tryz.f72.ntmps k 1 2 (lb Tryz.f72 1) (qeW k) :=
 qr (c := cf) (callF := call cf k) (kp := kps 72) (nt := Tryz.f72.ntmps) (k := k) (p := 1) (b := 2) (x0 := lb Tryz.f72 1) (hs := qjc) (os := qnP) (qd (qq7 k)) (qCe k) (fun n x => qck k n x.1 x.2.1 x.2.2.1 x.2.2.2.1 x.2.2.2.2.1 x.2.2.2.2.2.1 x.2.2.2.2.2.2) (fun _ => rfl) (qCf k)
def qjd : List SS := [{ fr := [(0, .a (.ptr 0 0 0)), (3, .a (.smz 1)), (4, .a (.lf (.sl (.int .u32))))], mem := [(0, some (.raw [[.lf .bool, .lf (.sl (.int .u32))]] 2 72 true false)), (1, some (.arr (.int .u8) 1 5 false))], nx := 2 }]
def qnQ : List OS := [⟨some 0, { fr := [(0, .a (.ptr 0 0 0)), (3, .a (.smz 1))], mem := [(0, some (.raw [[.lf .bool, .lf (.sl (.int .u32))]] 2 72 true false)), (1, some (.arr (.int .u8) 1 5 false))], nx := 2 }⟩]
def qgB (k : Nat) : LInst := ⟨0, qjd, qnQ, fun x => qcl k k x.1 x.2.1 x.2.2.1 x.2.2.2.1 x.2.2.2.2⟩
theorem qCh (k : Nat) : qg (LOk (R := DS OS.D qnQ) (fun b _ σ K => LOt Ty (kps 72) 1 b σ K [qeW k]) cf (call cf k) (kps 72) Tryz.f72.ntmps k 1) 0 (lb Tryz.f72 0) :=
 qA (qA qT (qA qT qT)) (qA qT (qA qT (qA qT (qw (c := cf) (callF := call cf k) (kp := kps 72) (nt := Tryz.f72.ntmps) (k := k) (p := 1) (b := 2) (x0 := lb Tryz.f72 1) (l := [qeW k]) (qA (fun _ => qCg k) qT)))))
theorem qCi (k n : Nat) (x : DS SS.D qjd) : qcl k (n + 1) x.1 x.2.1 x.2.2.1 x.2.2.2.1 x.2.2.2.2 = qD SS.enc (fun σ => qF cf (fun f a b K => COt f a b K [qiG k, qem k]) (fun b _ σ K => LOt Ty (kps 72) 1 b σ K [qeW k]) Tryz.f72.ntmps 0 (lb Tryz.f72 0) σ (qH Ty (kps 72 0) 1 qjd qnQ fun x => qcl k n x.1 x.2.1 x.2.2.1 x.2.2.2.1 x.2.2.2.2)) qjd x := by kernel_rfl
theorem qCj (k : Nat) : qY cf (call cf k) (kps 72) Tryz.f72.ntmps k 1 0 (lb Tryz.f72 0) (qgB k) :=
 qr (c := cf) (callF := call cf k) (kp := kps 72) (nt := Tryz.f72.ntmps) (k := k) (p := 1) (b := 0) (x0 := lb Tryz.f72 0) (hs := qjd) (os := qnQ) (qd (qq7 k)) (qCh k) (fun n x => qcl k n x.1 x.2.1 x.2.2.1 x.2.2.2.1 x.2.2.2.2) (fun _ => rfl) (qCi k)
def qje : List SS := [{ fr := [(3, .a (.smz 1)), (8, .a (.lf (.int .i64))), (9, .a (.lf (.int .i64)))], mem := [(0, some (.raw [[.lf .bool, .lf (.sl (.int .u32))]] 2 72 true false)), (1, some (.arr (.int .u8) 1 5 false))], nx := 2 }]
def qnR : List OS := [⟨some 4, { fr := [(3, .a (.smz 1))], mem := [(0, some (.raw [[.lf .bool, .lf (.sl (.int .u32))]] 2 72 true false)), (1, some (.arr (.int .u8) 1 5 false))], nx := 2 }⟩]
def qjf (k : Nat) : LInst := ⟨4, qje, qnR, fun x => qbp k k x.1 x.2.1 x.2.2.1 x.2.2.2.1 x.2.2.2.2.1 x.2.2.2.2.2⟩
theorem qCk (k : Nat) : qg (LOk (R := DS OS.D qnR) (fun b _ σ K => LOt Ty (kps 72) 1 b σ K [qeW k, qgB k]) cf (call cf k) (kps 72) Tryz.f72.ntmps k 1) 4 (lb Tryz.f72 2) :=
 qA (qA qT (qA qT qT)) (qA qT qT)
theorem qCl (k n : Nat) (x : DS SS.D qje) : qbp k (n + 1) x.1 x.2.1 x.2.2.1 x.2.2.2.1 x.2.2.2.2.1 x.2.2.2.2.2 = qD SS.enc (fun σ => qF cf (fun f a b K => COt f a b K [qiG k, qem k]) (fun b _ σ K => LOt Ty (kps 72) 1 b σ K [qeW k, qgB k]) Tryz.f72.ntmps 4 (lb Tryz.f72 2) σ (qH Ty (kps 72 4) 1 qje qnR fun x => qbp k n x.1 x.2.1 x.2.2.1 x.2.2.2.1 x.2.2.2.2.1 x.2.2.2.2.2)) qje x := by kernel_rfl
theorem qCm (k : Nat) : qY cf (call cf k) (kps 72) Tryz.f72.ntmps k 1 4 (lb Tryz.f72 2) (qjf k) :=
 qr (c := cf) (callF := call cf k) (kp := kps 72) (nt := Tryz.f72.ntmps) (k := k) (p := 1) (b := 4) (x0 := lb Tryz.f72 2) (hs := qje) (os := qnR) (qd (qq7 k)) (qCk k) (fun n x => qbp k n x.1 x.2.1 x.2.2.1 x.2.2.2.1 x.2.2.2.2.1 x.2.2.2.2.2) (fun _ => rfl) (qCl k)
theorem qHn (k : Nat) : qg (LOk (R := DS FS.D qq6) (fun b _ σ K => LOt Ty (kps 72) 1 b σ K [qeW k, qgB k, qjf k]) cf (call cf k) (cf.keep 72) Tryz.f72.ntmps k qkM.bs.length) 0 (bd Tryz.f72) :=
 qA qT (qA (qA qT (qA (qA qT qT) qT)) (qA qT (qA (qA qT (qw (c := cf) (callF := call cf k) (kp := kps 72) (nt := Tryz.f72.ntmps) (k := k) (p := 1) (b := 0) (x0 := lb Tryz.f72 0) (l := [qeW k, qgB k, qjf k]) (qA (fun h => absurd (show (2 : Nat) = 0 from h) (by decide)) (qA (fun _ => qCj k) (qA (fun h => absurd (show (4 : Nat) = 0 from h) (by decide)) qT))))) (qA (qA qT (qA qT qT)) (qA (qA qT (qw (c := cf) (callF := call cf k) (kp := kps 72) (nt := Tryz.f72.ntmps) (k := k) (p := 1) (b := 4) (x0 := lb Tryz.f72 2) (l := [qeW k, qgB k, qjf k]) (qA (fun h => absurd (show (2 : Nat) = 4 from h) (by decide)) (qA (fun h => absurd (show (0 : Nat) = 4 from h) (by decide)) (qA (fun _ => qCm k) qT))))) (qA qT qT))))))
theorem qHo (k : Nat) (x : qkM.D) : qdC (k + 1) x.1 x.2 = qi cf (fun f a b K => COt f a b K [qiG k, qem k]) (fun b _ σ K => LOt Ty (kps 72) 1 b σ K [qeW k, qgB k, qjf k]) 72 Tryz.f72.ntmps Tryz.f72.results.toList (bd Tryz.f72) (qkM.enc x).1 (qkM.enc x).2 (qj FS.dec qq6) := by kernel_rfl
theorem qHp : ∀ k, qf (call cf k) (qxB k)
 | 0 => fun x y e => absurd (show (none : Option _) = some y from e) (by simp)
 | k + 1 => qe (c := cf) (k := k) (f := 72) (fn := Tryz.f72) (body := bd Tryz.f72) (sh := qkM) (os := qq6) rfl Tryz.func72 rfl ⟨rfl, Nat.le_of_ble_eq_true rfl⟩ (qd (qq7 k)) (qHn k) (fun x => qdC (k + 1) x.1 x.2) (qHo k)

def quP (k : Nat) (a0 : Bool) (a1 : List Int) : Option (ByteArray × Int) :=
 Option.bind (qbI k a0 a1) fun r6 =>
 if ((r6 != (0 : Int)) = true) then
 (some ((ByteArray.mk (List.toArray [])), r6))
 else
 Option.bind (qbm k a0 a1) fun r7 =>
 Option.bind (qdC k r7.1 r7.2) fun r8 =>
 (some (r8.1, (0 : Int)))
def qgf : Nat → Bool → List Int → Option (ByteArray × Int)
 | 0, _, _ => none
 | k + 1, a0, a1 => quP k a0 a1
def qkN : FS := { vs := [.g [.lf .bool, .lf (.sl (.int .u32))]], bs := [] }
def qq8 : List FS := [{ vs := [.a (.lf .str), .a (.lf (.int .i64))], bs := [] }]
def qxC (k : Nat) : Inst := ⟨29, qkN, qq8, fun x => qgf k x.1 x.2⟩
theorem qHq (k : Nat) : qk (call cf k) [qh8 k, qge k, qxB k] := qA (qqB k) (qA (qnl k) (qA (qHp k) qT))
theorem qHr (k : Nat) : qg (LOk (R := DS FS.D qq8) (fun b _ σ K => LOt Ty (kps 29) 0 b σ K []) cf (call cf k) (cf.keep 29) Tryz.f29.ntmps k qkN.bs.length) 0 (bd Tryz.f29) :=
 qA qT (qA (qA qT (qA qT (qA (qA qT qT) qT))) (qA qT qT))
theorem qHs (k : Nat) (x : qkN.D) : qgf (k + 1) x.1 x.2 = qi cf (fun f a b K => COt f a b K [qh8 k, qge k, qxB k]) (fun b _ σ K => LOt Ty (kps 29) 0 b σ K []) 29 Tryz.f29.ntmps Tryz.f29.results.toList (bd Tryz.f29) (qkN.enc x).1 (qkN.enc x).2 (qj FS.dec qq8) := by kernel_rfl
theorem qHt : ∀ k, qf (call cf k) (qxC k)
 | 0 => fun x y e => absurd (show (none : Option _) = some y from e) (by simp)
 | k + 1 => qe (c := cf) (k := k) (f := 29) (fn := Tryz.f29) (body := bd Tryz.f29) (sh := qkN) (os := qq8) rfl Tryz.func29 rfl ⟨rfl, Nat.le_of_ble_eq_true rfl⟩ (qd (qHq k)) (qHr k) (fun x => qgf (k + 1) x.1 x.2) (qHs k)

def qst (k : Nat) (m0 : ByteArray) (m1 : Int) (m2 : List (Int × Int)) (m3 : List (Int × Int)) : Option (Int) :=
 Option.bind (qbW k m0 m1 m2 m3) fun r8 =>
 if ((!r8) = true) then
 (some (0 : Int))
 else
 (some (((List.length m2) : Nat) : Int))
def qcv : Nat → ByteArray → Int → List (Int × Int) → List (Int × Int) → Option (Int)
 | 0, _, _, _, _ => none
 | k + 1, m0, m1, m2, m3 => qst k m0 m1 m2 m3
def qkO : FS := { vs := [.g [.lf .str, .lf (.int .u8), .lf (.sl (.pr (.int .i64) (.int .i64))), .lf (.sl (.pr (.int .i64) (.int .i64)))]], bs := [] }
def qq9 : List FS := [{ vs := [.a (.lf (.int .i64))], bs := [] }]
def qsu (k : Nat) : Inst := ⟨16, qkO, qq9, fun x => qcv k x.1 x.2.1 x.2.2.1 x.2.2.2⟩
theorem qHu (k : Nat) : qk (call cf k) [qib k] := qA (qqR k) qT
theorem qHv (k : Nat) : qg (LOk (R := DS FS.D qq9) (fun b _ σ K => LOt Ty (kps 16) 0 b σ K []) cf (call cf k) (cf.keep 16) Tryz.f16.ntmps k qkO.bs.length) 0 (bd Tryz.f16) :=
 qA qT (qA (qA qT (qA (qA qT qT) qT)) (qA qT qT))
theorem qHw (k : Nat) (x : qkO.D) : qcv (k + 1) x.1 x.2.1 x.2.2.1 x.2.2.2 = qi cf (fun f a b K => COt f a b K [qib k]) (fun b _ σ K => LOt Ty (kps 16) 0 b σ K []) 16 Tryz.f16.ntmps Tryz.f16.results.toList (bd Tryz.f16) (qkO.enc x).1 (qkO.enc x).2 (qj FS.dec qq9) := by kernel_rfl
theorem qyI : ∀ k, qf (call cf k) (qsu k)
 | 0 => fun x y e => absurd (show (none : Option _) = some y from e) (by simp)
 | k + 1 => qe (c := cf) (k := k) (f := 16) (fn := Tryz.f16) (body := bd Tryz.f16) (sh := qkO) (os := qq9) rfl Tryz.func16 rfl ⟨rfl, Nat.le_of_ble_eq_true rfl⟩ (qd (qHu k)) (qHv k) (fun x => qcv (k + 1) x.1 x.2.1 x.2.2.1 x.2.2.2) (qHw k)

def qlv (k : Nat) : Option (Bool) :=
 Option.bind (qbX k (ByteArray.mk (List.toArray (100 :: []))) (100 : Int) (List.take 2 (((1 : Int), (-(6 : Int))) :: (((1 : Int), (-(1 : Int))) :: []))) (List.take 1 (((7 : Int), (-(1 : Int))) :: [])) (1 : Int)) fun r =>
 Option.bind (qgA k (700000001 : Int)) fun r1 =>
 Option.bind (qgA k (1 : Int)) fun r2 =>
 Option.bind (qgQ k r1.1 r1.2 r2.1 r2.2) fun r3 =>
 Option.bind (qaU k (ByteArray.mk (List.toArray (100 :: []))) (100 : Int) (List.take 2 (((1 : Int), (-(6 : Int))) :: (((1 : Int), (-(1 : Int))) :: []))) (List.take 1 (((7 : Int), (-(1 : Int))) :: [])) (0 : Int) r3.1 r3.2.1 r3.2.2.1 r3.2.2.2.1) fun r4 =>
 Option.bind (qcq k (ByteArray.mk (List.toArray (100 :: []))) (100 : Int) (List.take 2 (((1 : Int), (-(6 : Int))) :: (((1 : Int), (-(1 : Int))) :: []))) (List.take 1 (((7 : Int), (-(1 : Int))) :: [])) r3.1 r3.2.1 r3.2.2.1 r3.2.2.2.1) fun r5 =>
 Option.bind (qgf k r.2.2.2.2.1 r.2.2.2.2.2.1) fun r6 =>
 if ((r.2.2.2.2.2.2.2.2 == (0 : Int)) = true) then
 if ((r4.2 == (0 : Int)) = true) then
 if ((r5.2 == (0 : Int)) = true) then
 if ((r6.2 == (0 : Int)) = true) then
 if ((r4.1 == (1 : Int)) = true) then
 if ((r5.1 == (1 : Int)) = true) then
 if (((Array.toList (ByteArray.data r6.1)) == (Array.toList (ByteArray.data (ByteArray.mk (List.toArray (45 :: (54 :: (57 :: (57 :: (57 :: (57 :: (51 :: (48 :: (48 :: [])))))))))))))) = true) then
 if (((((List.length r.2.2.2.1) : Nat) : Int) == (1 : Int)) = true) then
 Option.bind (r.2.2.2.1)[0]? fun x =>
 if ((x == (10 : Int)) = true) then
 Option.bind (qbW k (ByteArray.mk (List.toArray (100 :: []))) (100 : Int) (List.take 2 (((1 : Int), (-(6 : Int))) :: (((1 : Int), (-(1 : Int))) :: []))) (List.take 1 (((7 : Int), (-(1 : Int))) :: []))) fun r7 =>
 if (r7 = true) then
 Option.bind (qcv k (ByteArray.mk (List.toArray (100 :: []))) (100 : Int) (List.take 2 (((1 : Int), (-(6 : Int))) :: (((1 : Int), (-(1 : Int))) :: []))) (List.take 1 (((7 : Int), (-(1 : Int))) :: []))) fun r8 =>
 if ((r8 == (2 : Int)) = true) then
 Option.bind (qcv k (ByteArray.mk (List.toArray [])) (0 : Int) [] []) fun r9 =>
 (some (r9 == (0 : Int)))
 else
 (some false)
 else
 (some false)
 else
 (some false)
 else
 (some false)
 else
 (some false)
 else
 (some false)
 else
 (some false)
 else
 (some false)
 else
 (some false)
 else
 (some false)
 else
 (some false)
def qcB : Nat → Option (Bool)
 | 0 => none
 | k + 1 => qlv k
def qkP : FS := { vs := [], bs := [] }
def qra : List FS := [{ vs := [.a (.lf .bool)], bs := [] }]
def qxD (k : Nat) : Inst := ⟨5, qkP, qra, fun x => qcB k⟩
theorem qHx (k : Nat) : qk (call cf k) [qsr k, qxy k, qxA k, qja k, qss k, qxC k, qib k, qsu k] := qA (qyF k) (qA (qG9 k) (qA (qHh k) (qA (quO k) (qA (qyH k) (qA (qHt k) (qA (qqR k) (qA (qyI k) qT)))))))
theorem qHy (k : Nat) : qg (LOk (R := DS FS.D qra) (fun b _ σ K => LOt Ty (kps 5) 0 b σ K []) cf (call cf k) (cf.keep 5) Tryz.f5.ntmps k qkP.bs.length) 0 (bd Tryz.f5) :=
 qA qT (qA qT (qA qT (qA qT (qA qT (qA qT (qA qT (qA qT qT)))))))
theorem qHz (k : Nat) (x : qkP.D) : qcB (k + 1) = qi cf (fun f a b K => COt f a b K [qsr k, qxy k, qxA k, qja k, qss k, qxC k, qib k, qsu k]) (fun b _ σ K => LOt Ty (kps 5) 0 b σ K []) 5 Tryz.f5.ntmps Tryz.f5.results.toList (bd Tryz.f5) (qkP.enc x).1 (qkP.enc x).2 (qj FS.dec qra) := by kernel_rfl
theorem qHA : ∀ k, qf (call cf k) (qxD k)
 | 0 => fun x y e => absurd (show (none : Option _) = some y from e) (by simp)
 | k + 1 => qe (c := cf) (k := k) (f := 5) (fn := Tryz.f5) (body := bd Tryz.f5) (sh := qkP) (os := qra) rfl Tryz.func5 rfl ⟨rfl, Nat.le_of_ble_eq_true rfl⟩ (qd (qHx k)) (qHy k) (fun x => qcB (k + 1)) (qHz k)

def qfc (k : Nat) (m0 : ByteArray) (m1 : Int) (m2 : List (Int × Int)) (m3 : List (Int × Int)) : Option (ByteArray × Int × Nat × Nat × List (Int × Int) × List (Int × Int)) :=
 if (((0 + (List.length m2)) * 16) ≤ 140737488355328) then
 if ((0 + (List.length m2)) ≤ (List.length ((List.take 0 []) ++ m2))) then
 if ((((0 + (List.length m2)) + 1) * 16) ≤ 140737488355328) then
 if (((0 : Int) ≤ (0 : Int)) ∧ (((0 : Int) ≤ (((List.length m2) : Nat) : Int)) ∧ (((0 + (Int.toNat (((List.length m2) : Nat) : Int))) ≤ (List.length ((List.take (0 + (List.length m2)) ((List.take 0 []) ++ m2)) ++ (List.take 1 (((77 : Int), (0 : Int)) :: []))))) ∧ (((0 : Int) < (((List.length m2) : Nat) : Int)) ∨ (true = true))))) then
 if (((0 + (List.length m3)) * 16) ≤ 140737488355328) then
 if ((0 + (List.length m3)) ≤ (List.length ((List.take 0 []) ++ m3))) then
 if ((((0 + (List.length m3)) + 1) * 16) ≤ 140737488355328) then
 if (((0 : Int) ≤ (0 : Int)) ∧ (((0 : Int) ≤ (((List.length m3) : Nat) : Int)) ∧ (((0 + (Int.toNat (((List.length m3) : Nat) : Int))) ≤ (List.length ((List.take (0 + (List.length m3)) ((List.take 0 []) ++ m3)) ++ (List.take 1 (((78 : Int), (0 : Int)) :: []))))) ∧ (((0 : Int) < (((List.length m3) : Nat) : Int)) ∨ (true = true))))) then
 (some (m0, m1, (Int.toNat (((List.length m2) : Nat) : Int)), (Int.toNat (((List.length m3) : Nat) : Int)), ((List.take (0 + (List.length m2)) ((List.take 0 []) ++ m2)) ++ (List.take 1 (((77 : Int), (0 : Int)) :: []))), ((List.take (0 + (List.length m3)) ((List.take 0 []) ++ m3)) ++ (List.take 1 (((78 : Int), (0 : Int)) :: [])))))
 else
 none
 else
 none
 else
 none
 else
 none
 else
 none
 else
 none
 else
 none
 else
 none
def qc1 : Nat → ByteArray → Int → List (Int × Int) → List (Int × Int) → Option (ByteArray × Int × Nat × Nat × List (Int × Int) × List (Int × Int))
 | 0, _, _, _, _ => none
 | k + 1, m0, m1, m2, m3 => qfc k m0 m1 m2 m3
def qkQ : FS := { vs := [.g [.lf .str, .lf (.int .u8), .lf (.sl (.pr (.int .i64) (.int .i64))), .lf (.sl (.pr (.int .i64) (.int .i64)))]], bs := [] }
def qrb : List FS := [{ vs := [.g [.lf .str, .lf (.int .u8), .smz 0, .smz 1]], bs := [.arr (.pr (.int .i64) (.int .i64)) 2 48 false, .arr (.pr (.int .i64) (.int .i64)) 2 48 false] }]
def qxE (k : Nat) : Inst := ⟨6, qkQ, qrb, fun x => qc1 k x.1 x.2.1 x.2.2.1 x.2.2.2⟩
theorem qHB (k : Nat) : qk (call cf k) [] := True.intro
theorem qHC (k : Nat) : qg (LOk (R := DS FS.D qrb) (fun b _ σ K => LOt Ty (kps 6) 0 b σ K []) cf (call cf k) (cf.keep 6) Tryz.f6.ntmps k qkQ.bs.length) 0 (bd Tryz.f6) :=
 qA qT (qA qT (qA qT (qA qT qT)))
theorem qHD (k : Nat) (x : qkQ.D) : qc1 (k + 1) x.1 x.2.1 x.2.2.1 x.2.2.2 = qi cf (fun f a b K => COt f a b K []) (fun b _ σ K => LOt Ty (kps 6) 0 b σ K []) 6 Tryz.f6.ntmps Tryz.f6.results.toList (bd Tryz.f6) (qkQ.enc x).1 (qkQ.enc x).2 (qj FS.dec qrb) := by kernel_rfl
theorem qHE : ∀ k, qf (call cf k) (qxE k)
 | 0 => fun x y e => absurd (show (none : Option _) = some y from e) (by simp)
 | k + 1 => qe (c := cf) (k := k) (f := 6) (fn := Tryz.f6) (body := bd Tryz.f6) (sh := qkQ) (os := qrb) rfl Tryz.func6 rfl ⟨rfl, Nat.le_of_ble_eq_true rfl⟩ (qd (qHB k)) (qHC k) (fun x => qc1 (k + 1) x.1 x.2.1 x.2.2.1 x.2.2.2) (qHD k)

def qbf (k : Nat) (rec : ByteArray → Int → Option ((Bool) ⊕ (ByteArray))) (s : ByteArray) (i : Int) : Option ((Bool) ⊕ (ByteArray)) :=
 if ((decide (i < (((ByteArray.size s) : Nat) : Int))) = true) then
 if ((0 : Int) ≤ i) then
 Option.bind ((ByteArray.data s))[(Int.toNat i)]? fun x =>
 if ((decide ((((UInt8.toNat x) : Nat) : Int) < (97 : Int))) = false) then
 if ((decide ((((UInt8.toNat x) : Nat) : Int) > (122 : Int))) = true) then
 if ((decide ((((UInt8.toNat x) : Nat) : Int) < (48 : Int))) = false) then
 if ((decide ((((UInt8.toNat x) : Nat) : Int) > (57 : Int))) = true) then
 if (((((UInt8.toNat x) : Nat) : Int) != (95 : Int)) = true) then
 (some (Sum.inl false))
 else
 rec s (IntKind.wrap .i64 (i + (1 : Int)))
 else
 rec s (IntKind.wrap .i64 (i + (1 : Int)))
 else
 if (((((UInt8.toNat x) : Nat) : Int) != (95 : Int)) = true) then
 (some (Sum.inl false))
 else
 rec s (IntKind.wrap .i64 (i + (1 : Int)))
 else
 rec s (IntKind.wrap .i64 (i + (1 : Int)))
 else
 if ((decide ((((UInt8.toNat x) : Nat) : Int) < (48 : Int))) = false) then
 if ((decide ((((UInt8.toNat x) : Nat) : Int) > (57 : Int))) = true) then
 if (((((UInt8.toNat x) : Nat) : Int) != (95 : Int)) = true) then
 (some (Sum.inl false))
 else
 rec s (IntKind.wrap .i64 (i + (1 : Int)))
 else
 rec s (IntKind.wrap .i64 (i + (1 : Int)))
 else
 if (((((UInt8.toNat x) : Nat) : Int) != (95 : Int)) = true) then
 (some (Sum.inl false))
 else
 rec s (IntKind.wrap .i64 (i + (1 : Int)))
 else
 none
 else
 (some (Sum.inr s))
def qP (k n : Nat) : ByteArray → Int → Option ((Bool) ⊕ (ByteArray)) := Nat.rec (fun _ _ => none) (fun _ r => qbf k r) n
def qfd (k : Nat) (s : ByteArray) : Option (Bool) :=
 Option.bind (qP k k s (0 : Int)) fun r3 =>
 qc r3
 (fun r3 =>
 (some r3))
 (fun r3 =>
 if ((decide ((((ByteArray.size r3) : Nat) : Int) ≥ (1 : Int))) = true) then
 (some (decide ((((ByteArray.size r3) : Nat) : Int) ≤ (16 : Int))))
 else
 (some false))
def qc2 : Nat → ByteArray → Option (Bool)
 | 0, _ => none
 | k + 1, s => qfd k s
def qhm : FS := { vs := [.a (.lf .str)], bs := [] }
def qnS : List FS := [{ vs := [.a (.lf .bool)], bs := [] }]
def qnT (k : Nat) : Inst := ⟨46, qhm, qnS, fun x => qc2 k x⟩
theorem qvR (k : Nat) : qk (call cf k) [] := True.intro
def qjg : List SS := [{ fr := [(0, .a (.lf .str)), (3, .a (.lf (.int .i64)))], mem := [], nx := 0 }]
def qnU : List OS := [⟨none, { fr := [(2, .a (.lf .bool))], mem := [], nx := 0 }⟩, ⟨some 0, { fr := [(0, .a (.lf .str))], mem := [], nx := 0 }⟩]
def qnV (k : Nat) : LInst := ⟨0, qjg, qnU, fun x => qP k k x.1 x.2⟩
theorem qCn (k : Nat) : qg (LOk (R := DS OS.D qnU) (fun b _ σ K => LOt Ty (kps 46) 0 b σ K []) cf (call cf k) (kps 46) Tryz.f46.ntmps k 0) 0 (lb Tryz.f46 0) :=
 qA (qA qT (qA qT qT)) (qA (qA qT (qA qT (qA (qA qT qT) qT))) qT)
theorem qCo (k n : Nat) (x : DS SS.D qjg) : qP k (n + 1) x.1 x.2 = qD SS.enc (fun σ => qF cf (fun f a b K => COt f a b K []) (fun b _ σ K => LOt Ty (kps 46) 0 b σ K []) Tryz.f46.ntmps 0 (lb Tryz.f46 0) σ (qH Ty (kps 46 0) 0 qjg qnU fun x => qP k n x.1 x.2)) qjg x := by kernel_rfl
theorem qCp (k : Nat) : qY cf (call cf k) (kps 46) Tryz.f46.ntmps k 0 0 (lb Tryz.f46 0) (qnV k) :=
 qr (c := cf) (callF := call cf k) (kp := kps 46) (nt := Tryz.f46.ntmps) (k := k) (p := 0) (b := 0) (x0 := lb Tryz.f46 0) (hs := qjg) (os := qnU) (qd (qvR k)) (qCn k) (fun n x => qP k n x.1 x.2) (fun _ => rfl) (qCo k)
theorem qCq (k : Nat) : qg (LOk (R := DS FS.D qnS) (fun b _ σ K => LOt Ty (kps 46) 0 b σ K [qnV k]) cf (call cf k) (cf.keep 46) Tryz.f46.ntmps k qhm.bs.length) 0 (bd Tryz.f46) :=
 qA qT (qA (qA qT (qw (c := cf) (callF := call cf k) (kp := kps 46) (nt := Tryz.f46.ntmps) (k := k) (p := 0) (b := 0) (x0 := lb Tryz.f46 0) (l := [qnV k]) (qA (fun _ => qCp k) qT))) (qA qT qT))
theorem qCr (k : Nat) (x : qhm.D) : qc2 (k + 1) x = qi cf (fun f a b K => COt f a b K []) (fun b _ σ K => LOt Ty (kps 46) 0 b σ K [qnV k]) 46 Tryz.f46.ntmps Tryz.f46.results.toList (bd Tryz.f46) (qhm.enc x).1 (qhm.enc x).2 (qj FS.dec qnS) := by kernel_rfl
theorem qCs : ∀ k, qf (call cf k) (qnT k)
 | 0 => fun x y e => absurd (show (none : Option _) = some y from e) (by simp)
 | k + 1 => qe (c := cf) (k := k) (f := 46) (fn := Tryz.f46) (body := bd Tryz.f46) (sh := qhm) (os := qnS) rfl Tryz.func46 rfl ⟨rfl, Nat.le_of_ble_eq_true rfl⟩ (qd (qvR k)) (qCq k) (fun x => qc2 (k + 1) x) (qCr k)

def qeI (k : Nat) (n0 : Int) (n1 : Int) : Option (Bool) :=
 if ((n0 == (0 : Int)) = false) then
 if (((Int.tmod n0 (10 : Int)) == (0 : Int)) = true) then
 if ((n0 == (0 : Int)) = true) then
 (some (n1 == (0 : Int)))
 else
 (some false)
 else
 if ((decide (n0 ≤ (999999999 : Int))) = true) then
 if ((decide (n0 ≥ (-(999999999 : Int)))) = true) then
 if ((decide (n1 ≤ (9 : Int))) = true) then
 (some (decide (n1 ≥ (-(18 : Int)))))
 else
 (some false)
 else
 (some false)
 else
 (some false)
 else
 if ((n0 == (0 : Int)) = true) then
 (some (n1 == (0 : Int)))
 else
 (some false)
def qbO : Nat → Int → Int → Option (Bool)
 | 0, _, _ => none
 | k + 1, n0, n1 => qeI k n0 n1
def qhn : FS := { vs := [.g [.lf (.int .i64), .lf (.int .i64)]], bs := [] }
def qnW : List FS := [{ vs := [.a (.lf .bool)], bs := [] }]
def qnX (k : Nat) : Inst := ⟨47, qhn, qnW, fun x => qbO k x.1 x.2⟩
theorem qCt (k : Nat) : qk (call cf k) [] := True.intro
theorem qCu (k : Nat) : qg (LOk (R := DS FS.D qnW) (fun b _ σ K => LOt Ty (kps 47) 0 b σ K []) cf (call cf k) (cf.keep 47) Tryz.f47.ntmps k qhn.bs.length) 0 (bd Tryz.f47) :=
 qA qT (qA (qA qT (qA (qA qT qT) qT)) (qA qT qT))
theorem qCv (k : Nat) (x : qhn.D) : qbO (k + 1) x.1 x.2 = qi cf (fun f a b K => COt f a b K []) (fun b _ σ K => LOt Ty (kps 47) 0 b σ K []) 47 Tryz.f47.ntmps Tryz.f47.results.toList (bd Tryz.f47) (qhn.enc x).1 (qhn.enc x).2 (qj FS.dec qnW) := by kernel_rfl
theorem qCw : ∀ k, qf (call cf k) (qnX k)
 | 0 => fun x y e => absurd (show (none : Option _) = some y from e) (by simp)
 | k + 1 => qe (c := cf) (k := k) (f := 47) (fn := Tryz.f47) (body := bd Tryz.f47) (sh := qhn) (os := qnW) rfl Tryz.func47 rfl ⟨rfl, Nat.le_of_ble_eq_true rfl⟩ (qd (qCt k)) (qCu k) (fun x => qbO (k + 1) x.1 x.2) (qCv k)


end
end Go.Proofs.YtbhnafdmilfobaaGreat.Am
