/- Printed functions: each says what the typed machine says of the program -/
import Derived.Test.YtbhnafdmilfobaaGreatMP1
import Derived.KernelRfl

set_option linter.unusedVariables false
set_option maxRecDepth 100000
namespace Go.Proofs.YtbhnafdmilfobaaGreat.Am
open Go
noncomputable section

def qk7 (k : Nat) (x0 : Bool) (x1 : List Int) (y0 : Bool) (y1 : List Int) : Option (Bool × List Int × Bool × List Int) :=
 Option.bind (qbW k y0 y1 x0 x1) fun r15 =>
 (some (r15.1, r15.2, y0, y1))
def qa1 : Nat → Bool → List Int → Bool → List Int → Option (Bool × List Int × Bool × List Int)
 | 0, _, _, _, _ => none
 | k + 1, x0, x1, y0, y1 => qk7 k x0 x1 y0 y1
def qn1 : FS := { vs := [.a (.ptr 0 0 0), .a (.ptr 0 0 0), .a (.ptr 1 0 0)], bs := [.raw [[.lf .bool, .lf (.sl (.int .u32))]] 2 72 true false, .raw [[.lf .bool, .lf (.sl (.int .u32))]] 2 72 true false] }
def qtf : List FS := [{ vs := [.a (.ptr 0 0 0)], bs := [.raw [[.lf .bool, .lf (.sl (.int .u32))]] 2 72 true false, .raw [[.lf .bool, .lf (.sl (.int .u32))]] 2 72 true false] }]
def Iq4 (k : Nat) : Inst := ⟨78, qn1, qtf, fun x => qa1 k x.1 x.2.1 x.2.2.1 x.2.2.2⟩
theorem qHs (k : Nat) : qp (call cf k) [qrc k] := qA (qw5 k) qT
theorem qHt (k : Nat) : qg (LOk (R := DS FS.D qtf) (fun b _ σ K => LOt Ty (kps 78) 2 b σ K []) cf (call cf k) (cf.keep 78) Tryz.f78.ntmps k qn1.bs.length) 0 (bd Tryz.f78) :=
 qA qT (qA qT qT)
theorem qHu (k : Nat) (x : qn1.D) : qa1 (k + 1) x.1 x.2.1 x.2.2.1 x.2.2.2 = qk cf (fun f a b K => COt f a b K [qrc k]) (fun b _ σ K => LOt Ty (kps 78) 2 b σ K []) 78 Tryz.f78.ntmps Tryz.f78.results.toList (bd Tryz.f78) (qn1.enc x).1 (qn1.enc x).2 (qo FS.dec qtf) := by kernel_rfl
theorem qvL : ∀ k, qh (call cf k) (Iq4 k)
 | 0 => fun x y e => absurd (show (none : Option _) = some y from e) (by simp)
 | k + 1 => qe (c := cf) (k := k) (f := 78) (fn := Tryz.f78) (body := bd Tryz.f78) (sh := qn1) (os := qtf) rfl Tryz.func78 rfl ⟨rfl, Nat.le_of_ble_eq_true rfl⟩ (qd (qHs k)) (qHt k) (fun x => qa1 (k + 1) x.1 x.2.1 x.2.2.1 x.2.2.2) (qHu k)

def qdT (k : Nat) (num0 : Bool) (num1 : List Int) (den0 : Bool) (den1 : List Int) : Option (Bool × List Int × Bool × List Int × Bool × List Int) :=
 Option.bind (qbf k false num0 num1 den0 den1 false) fun r8 =>
 Option.bind (qcB k false r8.2.2.2.2.2.2.1 r8.2.2.2.2.2.2.2) fun r9 =>
 Option.bind (qcC k r9.1 r9.2.1) fun r10 =>
 Option.bind (qcD k r10.1 r10.2 r8.2.2.2.2.1 r8.2.2.2.2.2.1) fun r11 =>
 if ((decide (r11.1 > (0 : Int))) = false) then
 if ((r11.1 == (0 : Int)) = true) then
 Option.bind (qcE k r8.1 r8.2.1) fun r12 =>
 if (r12.1 = true) then
 Option.bind (qaJ k r8.2.2.1 r8.2.2.2.1) fun r13 =>
 Option.bind (qaI k r13.1) fun r14 =>
 Option.bind (qa1 k r12.2.1 r12.2.2 r14.1 r14.2) fun r15 =>
 (some (r13.2.1, r13.2.2, r11.2.2.2.1, r11.2.2.2.2, r15.1, r15.2.1))
 else
 (some (r8.2.2.1, r8.2.2.2.1, r11.2.2.2.1, r11.2.2.2.2, r12.2.1, r12.2.2))
 else
 (some (r8.2.2.1, r8.2.2.2.1, r11.2.2.2.1, r11.2.2.2.2, r8.1, r8.2.1))
 else
 Option.bind (qaJ k r8.2.2.1 r8.2.2.2.1) fun r12 =>
 Option.bind (qaI k r12.1) fun r13 =>
 Option.bind (qa1 k r8.1 r8.2.1 r13.1 r13.2) fun r14 =>
 (some (r12.2.1, r12.2.2, r11.2.2.2.1, r11.2.2.2.2, r14.1, r14.2.1))
def qc9 : Nat → Bool → List Int → Bool → List Int → Option (Bool × List Int × Bool × List Int × Bool × List Int)
 | 0, _, _, _, _ => none
 | k + 1, num0, num1, den0, den1 => qdT k num0 num1 den0 den1
def qjA : FS := { vs := [.a (.ptr 0 0 0), .a (.ptr 1 0 0)], bs := [.raw [[.lf .bool, .lf (.sl (.int .u32))]] 2 72 true false, .raw [[.lf .bool, .lf (.sl (.int .u32))]] 2 72 true false] }
def qpw : List FS := [{ vs := [.a (.ptr 2 0 0)], bs := [.raw [[.lf .bool, .lf (.sl (.int .u32))]] 2 72 true false, .raw [[.lf .bool, .lf (.sl (.int .u32))]] 2 72 true false, .raw [[.lf .bool, .lf (.sl (.int .u32))]] 2 72 true false] }]
def qvM (k : Nat) : Inst := ⟨100, qjA, qpw, fun x => qc9 k x.1 x.2.1 x.2.2.1 x.2.2.2⟩
theorem qD1 (k : Nat) : qp (call cf k) [qq2 k, Iq2 k, Iq3 k, Iq5 k, qvK k, qq6 k, qfW k, Iq4 k] := qA (qwU k) (qA (qHj k) (qA (qHn k) (qA (qHr k) (qA (qD0 k) (qA (qwY k) (qA (ql0 k) (qA (qvL k) qT)))))))
theorem qD2 (k : Nat) : qg (LOk (R := DS FS.D qpw) (fun b _ σ K => LOt Ty (kps 100) 2 b σ K []) cf (call cf k) (cf.keep 100) Tryz.f100.ntmps k qjA.bs.length) 0 (bd Tryz.f100) :=
 qA qT (qA qT (qA qT (qA (qA qT (qA qT (qA qT qT))) (qA qT qT))))
theorem qD3 (k : Nat) (x : qjA.D) : qc9 (k + 1) x.1 x.2.1 x.2.2.1 x.2.2.2 = qk cf (fun f a b K => COt f a b K [qq2 k, Iq2 k, Iq3 k, Iq5 k, qvK k, qq6 k, qfW k, Iq4 k]) (fun b _ σ K => LOt Ty (kps 100) 2 b σ K []) 100 Tryz.f100.ntmps Tryz.f100.results.toList (bd Tryz.f100) (qjA.enc x).1 (qjA.enc x).2 (qo FS.dec qpw) := by kernel_rfl
theorem qD4 : ∀ k, qh (call cf k) (qvM k)
 | 0 => fun x y e => absurd (show (none : Option _) = some y from e) (by simp)
 | k + 1 => qe (c := cf) (k := k) (f := 100) (fn := Tryz.f100) (body := bd Tryz.f100) (sh := qjA) (os := qpw) rfl Tryz.func100 rfl ⟨rfl, Nat.le_of_ble_eq_true rfl⟩ (qd (qD1 k)) (qD2 k) (fun x => qc9 (k + 1) x.1 x.2.1 x.2.2.1 x.2.2.2) (qD3 k)

def qb6 (k : Nat) (rec : Int → Int → Bool → List Int → Option (Int × Bool × List Int)) (u : Int) (i : Int) (z0 : Bool) (z1 : List Int) : Option (Int × Bool × List Int) :=
 if ((decide (i ≥ (0 : Int))) = true) then
 if ((0 : Int) ≤ i) then
 Option.bind (z1)[(Int.toNat i)]? fun x1 =>
 rec (IntKind.wrap .u64 (((BitVec.toNat ((BitVec.ofInt 64 (IntKind.wrap .u64 (u * (4294967296 : Int)))) ||| (BitVec.ofInt 64 (IntKind.wrap .u64 x1)))) : Nat) : Int)) (IntKind.wrap .i64 (i - (1 : Int))) z0 z1
 else
 none
 else
 (some (u, z0, z1))
def qaN (k n : Nat) : Int → Int → Bool → List Int → Option (Int × Bool × List Int) := Nat.rec (fun _ _ _ _ => none) (fun _ r => qb6 k r) n
def qc2 (k : Nat) (z0 : Bool) (z1 : List Int) : Option (Int × Bool × Bool × List Int) :=
 if ((decide ((((List.length z1) : Nat) : Int) > (2 : Int))) = true) then
 (some ((0 : Int), false, z0, z1))
 else
 Option.bind (qaN k k (0 : Int) (IntKind.wrap .i64 ((((List.length z1) : Nat) : Int) - (1 : Int))) z0 z1) fun r9 =>
 if (r9.2.1 = true) then
 (some ((IntKind.wrap .i64 ((0 : Int) - (IntKind.wrap .i64 r9.1))), (decide (r9.1 ≤ (9223372036854775808 : Int))), r9.2.1, r9.2.2))
 else
 (some ((IntKind.wrap .i64 r9.1), (decide (r9.1 < (9223372036854775808 : Int))), r9.2.1, r9.2.2))
def qaZ : Nat → Bool → List Int → Option (Int × Bool × Bool × List Int)
 | 0, _, _ => none
 | k + 1, z0, z1 => qc2 k z0 z1
def qn2 : FS := { vs := [.a (.ptr 0 0 0)], bs := [.raw [[.lf .bool, .lf (.sl (.int .u32))]] 2 72 true false] }
def qtg : List FS := [{ vs := [.a (.lf (.int .i64)), .a (.lf .bool)], bs := [.raw [[.lf .bool, .lf (.sl (.int .u32))]] 2 72 true false] }]
def Iq6 (k : Nat) : Inst := ⟨125, qn2, qtg, fun x => qaZ k x.1 x.2⟩
theorem qAk (k : Nat) : qp (call cf k) [] := True.intro
def qic : List SS := [{ fr := [(0, .a (.ptr 0 0 0)), (4, .a (.lf (.int .u64))), (5, .a (.lf (.int .i64)))], mem := [(0, some (.raw [[.lf .bool, .lf (.sl (.int .u32))]] 2 72 true false))], nx := 1 }]
def qmE : List OS := [⟨some 0, { fr := [(0, .a (.ptr 0 0 0)), (4, .a (.lf (.int .u64)))], mem := [(0, some (.raw [[.lf .bool, .lf (.sl (.int .u32))]] 2 72 true false))], nx := 1 }⟩]
def qmF (k : Nat) : LInst := ⟨0, qic, qmE, fun x => qaN k k x.1 x.2.1 x.2.2.1 x.2.2.2⟩
theorem qAl (k : Nat) : qg (LOk (R := DS OS.D qmE) (fun b _ σ K => LOt Ty (kps 125) 1 b σ K []) cf (call cf k) (kps 125) Tryz.f125.ntmps k 1) 0 (lb Tryz.f125 0) :=
 qA (qA qT (qA qT qT)) (qA qT qT)
theorem qAm (k n : Nat) (x : DS SS.D qic) : qaN k (n + 1) x.1 x.2.1 x.2.2.1 x.2.2.2 = qI SS.enc (fun σ => qJ cf (fun f a b K => COt f a b K []) (fun b _ σ K => LOt Ty (kps 125) 1 b σ K []) Tryz.f125.ntmps 0 (lb Tryz.f125 0) σ (qQ Ty (kps 125 0) 1 qic qmE fun x => qaN k n x.1 x.2.1 x.2.2.1 x.2.2.2)) qic x := by kernel_rfl
theorem qAn (k : Nat) : qae cf (call cf k) (kps 125) Tryz.f125.ntmps k 1 0 (lb Tryz.f125 0) (qmF k) :=
 qu (c := cf) (callF := call cf k) (kp := kps 125) (nt := Tryz.f125.ntmps) (k := k) (p := 1) (b := 0) (x0 := lb Tryz.f125 0) (hs := qic) (os := qmE) (qd (qAk k)) (qAl k) (fun n x => qaN k n x.1 x.2.1 x.2.2.1 x.2.2.2) (fun _ => rfl) (qAm k)
theorem qHv (k : Nat) : qg (LOk (R := DS FS.D qtg) (fun b _ σ K => LOt Ty (kps 125) 1 b σ K [qmF k]) cf (call cf k) (cf.keep 125) Tryz.f125.ntmps k qn2.bs.length) 0 (bd Tryz.f125) :=
 qA qT (qA (qA qT (qA (qA qT qT) qT)) (qA qT (qA (qA qT (qD (c := cf) (callF := call cf k) (kp := kps 125) (nt := Tryz.f125.ntmps) (k := k) (p := 1) (b := 0) (x0 := lb Tryz.f125 0) (l := [qmF k]) (qA (fun _ => qAn k) qT))) (qA (qA qT (qA (qA qT qT) qT)) (qA qT qT)))))
theorem qHw (k : Nat) (x : qn2.D) : qaZ (k + 1) x.1 x.2 = qk cf (fun f a b K => COt f a b K []) (fun b _ σ K => LOt Ty (kps 125) 1 b σ K [qmF k]) 125 Tryz.f125.ntmps Tryz.f125.results.toList (bd Tryz.f125) (qn2.enc x).1 (qn2.enc x).2 (qo FS.dec qtg) := by kernel_rfl
theorem qHx : ∀ k, qh (call cf k) (Iq6 k)
 | 0 => fun x y e => absurd (show (none : Option _) = some y from e) (by simp)
 | k + 1 => qe (c := cf) (k := k) (f := 125) (fn := Tryz.f125) (body := bd Tryz.f125) (sh := qn2) (os := qtg) rfl Tryz.func125 rfl ⟨rfl, Nat.le_of_ble_eq_true rfl⟩ (qd (qAk k)) (qHv k) (fun x => qaZ (k + 1) x.1 x.2) (qHw k)

def qfX (k : Nat) (z0 : Bool) (z1 : List Int) : Option (Int × Int × Bool × List Int) :=
 Option.bind (qaZ k z0 z1) fun r9 =>
 if ((!r9.2.1) = false) then
 if ((decide (r9.1 > (1000000000000000000 : Int))) = false) then
 if ((decide (r9.1 < (-(1000000000000000000 : Int)))) = true) then
 (some ((0 : Int), (4 : Int), r9.2.2.1, r9.2.2.2))
 else
 (some (r9.1, (0 : Int), r9.2.2.1, r9.2.2.2))
 else
 (some ((0 : Int), (4 : Int), r9.2.2.1, r9.2.2.2))
 else
 (some ((0 : Int), (4 : Int), r9.2.2.1, r9.2.2.2))
def qdu : Nat → Bool → List Int → Option (Int × Int × Bool × List Int)
 | 0, _, _ => none
 | k + 1, z0, z1 => qfX k z0 z1
def qjB : FS := { vs := [.a (.ptr 0 0 0)], bs := [.raw [[.lf .bool, .lf (.sl (.int .u32))]] 2 72 true false] }
def qpx : List FS := [{ vs := [.a (.lf (.int .i64)), .a (.lf (.int .i64))], bs := [.raw [[.lf .bool, .lf (.sl (.int .u32))]] 2 72 true false] }]
def qvN (k : Nat) : Inst := ⟨99, qjB, qpx, fun x => qdu k x.1 x.2⟩
theorem qD5 (k : Nat) : qp (call cf k) [Iq6 k] := qA (qHx k) qT
theorem qD6 (k : Nat) : qg (LOk (R := DS FS.D qpx) (fun b _ σ K => LOt Ty (kps 99) 1 b σ K []) cf (call cf k) (cf.keep 99) Tryz.f99.ntmps k qjB.bs.length) 0 (bd Tryz.f99) :=
 qA qT (qA qT (qA (qA qT (qA (qA qT qT) qT)) (qA qT qT)))
theorem qD7 (k : Nat) (x : qjB.D) : qdu (k + 1) x.1 x.2 = qk cf (fun f a b K => COt f a b K [Iq6 k]) (fun b _ σ K => LOt Ty (kps 99) 1 b σ K []) 99 Tryz.f99.ntmps Tryz.f99.results.toList (bd Tryz.f99) (qjB.enc x).1 (qjB.enc x).2 (qo FS.dec qpx) := by kernel_rfl
theorem qD8 : ∀ k, qh (call cf k) (qvN k)
 | 0 => fun x y e => absurd (show (none : Option _) = some y from e) (by simp)
 | k + 1 => qe (c := cf) (k := k) (f := 99) (fn := Tryz.f99) (body := bd Tryz.f99) (sh := qjB) (os := qpx) rfl Tryz.func99 rfl ⟨rfl, Nat.le_of_ble_eq_true rfl⟩ (qd (qD5 k)) (qD6 k) (fun x => qdu (k + 1) x.1 x.2) (qD7 k)

def qhp (k : Nat) (r0 : Bool) (r1 : List Int) (r2 : Bool) (r3 : List Int) : Option (Int × Int) :=
 Option.bind (qev k r0 r1 r2 r3) fun r5 =>
 if ((r5 != (0 : Int)) = true) then
 (some ((0 : Int), r5))
 else
 Option.bind (qbH k r0 r1) fun r6 =>
 Option.bind (qbH k r2 r3) fun r7 =>
 Option.bind (qc9 k r6.1 r6.2 r7.1 r7.2) fun r8 =>
 Option.bind (qdu k r8.2.2.2.2.1 r8.2.2.2.2.2) fun r9 =>
 (some (r9.1, r9.2.1))
def qcY : Nat → Bool → List Int → Bool → List Int → Option (Int × Int)
 | 0, _, _, _, _ => none
 | k + 1, r0, r1, r2, r3 => qhp k r0 r1 r2 r3
def qjC : FS := { vs := [.g [.lf .bool, .lf (.sl (.int .u32)), .lf .bool, .lf (.sl (.int .u32))]], bs := [] }
def qpy : List FS := [{ vs := [.a (.lf (.int .i64)), .a (.lf (.int .i64))], bs := [] }]
def qvO (k : Nat) : Inst := ⟨60, qjC, qpy, fun x => qcY k x.1 x.2.1 x.2.2.1 x.2.2.2⟩
theorem qD9 (k : Nat) : qp (call cf k) [qvH k, qhm k, qvM k, qvN k] := qA (qDN k) (qA (qq7 k) (qA (qD4 k) (qA (qD8 k) qT)))
theorem qEa (k : Nat) : qg (LOk (R := DS FS.D qpy) (fun b _ σ K => LOt Ty (kps 60) 0 b σ K []) cf (call cf k) (cf.keep 60) Tryz.f60.ntmps k qjC.bs.length) 0 (bd Tryz.f60) :=
 qA qT (qA (qA qT (qA qT (qA (qA qT qT) qT))) (qA qT qT))
theorem qEb (k : Nat) (x : qjC.D) : qcY (k + 1) x.1 x.2.1 x.2.2.1 x.2.2.2 = qk cf (fun f a b K => COt f a b K [qvH k, qhm k, qvM k, qvN k]) (fun b _ σ K => LOt Ty (kps 60) 0 b σ K []) 60 Tryz.f60.ntmps Tryz.f60.results.toList (bd Tryz.f60) (qjC.enc x).1 (qjC.enc x).2 (qo FS.dec qpy) := by kernel_rfl
theorem qEc : ∀ k, qh (call cf k) (qvO k)
 | 0 => fun x y e => absurd (show (none : Option _) = some y from e) (by simp)
 | k + 1 => qe (c := cf) (k := k) (f := 60) (fn := Tryz.f60) (body := bd Tryz.f60) (sh := qjC) (os := qpy) rfl Tryz.func60 rfl ⟨rfl, Nat.le_of_ble_eq_true rfl⟩ (qd (qD9 k)) (qEa k) (fun x => qcY (k + 1) x.1 x.2.1 x.2.2.1 x.2.2.2) (qEb k)

def qk8 (k : Nat) (x0 : Bool) (x1 : List Int) : Option (Bool × List Int) :=
 Option.bind (qaz k (!x0) x1 x0 x1) fun r5 =>
 (some (r5.1, r5.2))
def qcF : Nat → Bool → List Int → Option (Bool × List Int)
 | 0, _, _ => none
 | k + 1, x0, x1 => qk8 k x0 x1
def qjD : FS := { vs := [.a (.ptr 0 0 0), .a (.ptr 0 0 0)], bs := [.raw [[.lf .bool, .lf (.sl (.int .u32))]] 2 72 true false] }
def qpz : List FS := [{ vs := [.a (.ptr 0 0 0)], bs := [.raw [[.lf .bool, .lf (.sl (.int .u32))]] 2 72 true false] }]
def qvP (k : Nat) : Inst := ⟨109, qjD, qpz, fun x => qcF k x.1 x.2⟩
theorem qEd (k : Nat) : qp (call cf k) [qhi k] := qA (qs1 k) qT
theorem qEe (k : Nat) : qg (LOk (R := DS FS.D qpz) (fun b _ σ K => LOt Ty (kps 109) 1 b σ K []) cf (call cf k) (cf.keep 109) Tryz.f109.ntmps k qjD.bs.length) 0 (bd Tryz.f109) :=
 qA qT (qA qT qT)
theorem qEf (k : Nat) (x : qjD.D) : qcF (k + 1) x.1 x.2 = qk cf (fun f a b K => COt f a b K [qhi k]) (fun b _ σ K => LOt Ty (kps 109) 1 b σ K []) 109 Tryz.f109.ntmps Tryz.f109.results.toList (bd Tryz.f109) (qjD.enc x).1 (qjD.enc x).2 (qo FS.dec qpz) := by kernel_rfl
theorem qEg : ∀ k, qh (call cf k) (qvP k)
 | 0 => fun x y e => absurd (show (none : Option _) = some y from e) (by simp)
 | k + 1 => qe (c := cf) (k := k) (f := 109) (fn := Tryz.f109) (body := bd Tryz.f109) (sh := qjD) (os := qpz) rfl Tryz.func109 rfl ⟨rfl, Nat.le_of_ble_eq_true rfl⟩ (qd (qEd k)) (qEe k) (fun x => qcF (k + 1) x.1 x.2) (qEf k)

def qk9 (k : Nat) (z0 : Bool) (z1 : Bool) (x0 : Bool) (x1 : List Int) (x2 : Bool) (x3 : List Int) : Option (Bool × List Int × Bool × List Int × Bool × List Int × Bool × List Int) :=
 Option.bind (qbU k x0 x1 x2 x3) fun r3 =>
 Option.bind (qC k r3.1 r3.2.1 r3.2.2.1 r3.2.2.2.1) fun r4 =>
 Option.bind (qcF k r3.2.2.2.2.1 r3.2.2.2.2.2) fun r5 =>
 (some (r5.1, r5.2, r4.2.2.2.2.1, r4.2.2.2.2.2, r4.1, r4.2.1, r4.2.2.1, r4.2.2.2.1))
def qcG : Nat → Bool → Bool → Bool → List Int → Bool → List Int → Option (Bool × List Int × Bool × List Int × Bool × List Int × Bool × List Int)
 | 0, _, _, _, _, _, _ => none
 | k + 1, z0, z1, x0, x1, x2, x3 => qk9 k z0 z1 x0 x1 x2 x3
def qjE : FS := { vs := [.a (.ptr 0 0 0), .a (.ptr 1 0 0)], bs := [.raw [[.lf .bool, .snil 1 68, .lf .bool, .snil 1 68]] 4 74 true false, .raw [[.lf .bool, .lf (.sl (.int .u32)), .lf .bool, .lf (.sl (.int .u32))]] 4 74 true false] }
def qpA : List FS := [{ vs := [.a (.ptr 0 0 0)], bs := [.raw [[.lf .bool, .lf (.sl (.int .u32)), .lf .bool, .lf (.sl (.int .u32))]] 4 74 true false, .raw [[.lf .bool, .lf (.sl (.int .u32)), .lf .bool, .lf (.sl (.int .u32))]] 4 74 true false] }]
def qvQ (k : Nat) : Inst := ⟨73, qjE, qpA, fun x => qcG k x.1 x.2.1 x.2.2.1 x.2.2.2.1 x.2.2.2.2.1 x.2.2.2.2.2⟩
theorem qEh (k : Nat) : qp (call cf k) [qq5 k, qgd k, qvP k] := qA (qwX k) (qA (qmn k) (qA (qEg k) qT))
theorem qEi (k : Nat) : qg (LOk (R := DS FS.D qpA) (fun b _ σ K => LOt Ty (kps 73) 2 b σ K []) cf (call cf k) (cf.keep 73) Tryz.f73.ntmps k qjE.bs.length) 0 (bd Tryz.f73) :=
 qA qT (qA qT (qA qT (qA qT qT)))
theorem qEj (k : Nat) (x : qjE.D) : qcG (k + 1) x.1 x.2.1 x.2.2.1 x.2.2.2.1 x.2.2.2.2.1 x.2.2.2.2.2 = qk cf (fun f a b K => COt f a b K [qq5 k, qgd k, qvP k]) (fun b _ σ K => LOt Ty (kps 73) 2 b σ K []) 73 Tryz.f73.ntmps Tryz.f73.results.toList (bd Tryz.f73) (qjE.enc x).1 (qjE.enc x).2 (qo FS.dec qpA) := by kernel_rfl
theorem qEk : ∀ k, qh (call cf k) (qvQ k)
 | 0 => fun x y e => absurd (show (none : Option _) = some y from e) (by simp)
 | k + 1 => qe (c := cf) (k := k) (f := 73) (fn := Tryz.f73) (body := bd Tryz.f73) (sh := qjE) (os := qpA) rfl Tryz.func73 rfl ⟨rfl, Nat.le_of_ble_eq_true rfl⟩ (qd (qEh k)) (qEi k) (fun x => qcG (k + 1) x.1 x.2.1 x.2.2.1 x.2.2.2.1 x.2.2.2.2.1 x.2.2.2.2.2) (qEj k)

def qd3 (k : Nat) (rec : Nat → Int → Int → Int → List Int → Int → Int → List Int → Int → Int → Bool → Bool → List Int → Bool → List Int → Bool → List Int → List Int → Option (Nat × Int × Int × List Int × Int × Int × Bool × Bool × List Int × Bool × List Int × Bool × List Int × List Int)) (out1 : Nat) (i : Int) (a : Int) (carry : Int) (x : List Int) (x1 : Int) (x2 : Int) (x3 : List Int) (x4 : Int) (x5 : Int) (z : Bool) (x0 : Bool) (x11 : List Int) (x21 : Bool) (x31 : List Int) (y0 : Bool) (y1 : List Int) (outs : List Int) : Option (Nat × Int × Int × List Int × Int × Int × Bool × Bool × List Int × Bool × List Int × Bool × List Int × List Int) :=
 if ((decide (x5 < x4)) = true) then
 if ((0 : Int) ≤ x5) then
 Option.bind (x3)[(Int.toNat x5)]? fun x8 =>
 if (((0 : Int) ≤ (IntKind.wrap .i64 (i + x5))) ∧ ((IntKind.wrap .i64 (i + x5)) < ((out1 : Nat) : Int))) then
 Option.bind (outs)[(0 + (Int.toNat (IntKind.wrap .i64 (i + x5))))]? fun x9 =>
 if (((0 : Int) ≤ (IntKind.wrap .i64 (i + x5))) ∧ ((IntKind.wrap .i64 (i + x5)) < ((out1 : Nat) : Int))) then
 Option.bind (outs)[(0 + (Int.toNat (IntKind.wrap .i64 (i + x5))))]? fun x10 =>
 rec out1 i a (Int.fdiv (IntKind.wrap .u64 ((IntKind.wrap .u64 ((IntKind.wrap .u64 ((IntKind.wrap .u64 a) * (IntKind.wrap .u64 x8))) + (IntKind.wrap .u64 x9))) + carry)) (4294967296 : Int)) x x1 x2 x3 x4 (IntKind.wrap .i64 (x5 + (1 : Int))) z x0 x11 x21 x31 y0 y1 (List.set outs (0 + (Int.toNat (IntKind.wrap .i64 (i + x5)))) (IntKind.wrap .u32 (IntKind.wrap .u64 ((IntKind.wrap .u64 ((IntKind.wrap .u64 ((IntKind.wrap .u64 a) * (IntKind.wrap .u64 x8))) + (IntKind.wrap .u64 x9))) + carry))))
 else
 none
 else
 none
 else
 none
 else
 (some (out1, i, carry, x, x1, x2, z, x0, x11, x21, x31, y0, y1, outs))
def qbu (k n : Nat) : Nat → Int → Int → Int → List Int → Int → Int → List Int → Int → Int → Bool → Bool → List Int → Bool → List Int → Bool → List Int → List Int → Option (Nat × Int × Int × List Int × Int × Int × Bool × Bool × List Int × Bool × List Int × Bool × List Int × List Int) := Nat.rec (fun _ _ _ _ _ _ _ _ _ _ _ _ _ _ _ _ _ _ => none) (fun _ r => qd3 k r) n
def qd4 (k : Nat) (rec : Nat → List Int → Int → Int → Bool → Bool → List Int → Bool → List Int → Bool → List Int → List Int → Option (Nat × Bool × Bool × List Int × Bool × List Int × Bool × List Int × List Int)) (out1 : Nat) (x : List Int) (x1 : Int) (x2 : Int) (z : Bool) (x0 : Bool) (x11 : List Int) (x21 : Bool) (x3 : List Int) (y0 : Bool) (y1 : List Int) (outs : List Int) : Option (Nat × Bool × Bool × List Int × Bool × List Int × Bool × List Int × List Int) :=
 if ((decide (x2 < x1)) = true) then
 if ((0 : Int) ≤ x2) then
 Option.bind (x)[(Int.toNat x2)]? fun x7 =>
 Option.bind (qbu k k out1 x2 x7 (0 : Int) x x1 x2 y1 (((List.length y1) : Nat) : Int) (0 : Int) z x0 x11 x21 x3 y0 y1 outs) fun r5 =>
 if (((0 : Int) ≤ (IntKind.wrap .i64 (r5.2.1 + (((List.length r5.2.2.2.2.2.2.2.2.2.2.2.2.1) : Nat) : Int)))) ∧ ((IntKind.wrap .i64 (r5.2.1 + (((List.length r5.2.2.2.2.2.2.2.2.2.2.2.2.1) : Nat) : Int))) < ((r5.1 : Nat) : Int))) then
 Option.bind (r5.2.2.2.2.2.2.2.2.2.2.2.2.2)[(0 + (Int.toNat (IntKind.wrap .i64 (r5.2.1 + (((List.length r5.2.2.2.2.2.2.2.2.2.2.2.2.1) : Nat) : Int)))))]? fun x8 =>
 rec r5.1 r5.2.2.2.1 r5.2.2.2.2.1 (IntKind.wrap .i64 (r5.2.2.2.2.2.1 + (1 : Int))) r5.2.2.2.2.2.2.1 r5.2.2.2.2.2.2.2.1 r5.2.2.2.2.2.2.2.2.1 r5.2.2.2.2.2.2.2.2.2.1 r5.2.2.2.2.2.2.2.2.2.2.1 r5.2.2.2.2.2.2.2.2.2.2.2.1 r5.2.2.2.2.2.2.2.2.2.2.2.2.1 (List.set r5.2.2.2.2.2.2.2.2.2.2.2.2.2 (0 + (Int.toNat (IntKind.wrap .i64 (r5.2.1 + (((List.length r5.2.2.2.2.2.2.2.2.2.2.2.2.1) : Nat) : Int))))) (IntKind.wrap .u32 r5.2.2.1))
 else
 none
 else
 none
 else
 (some (out1, z, x0, x11, x21, x3, y0, y1, outs))
def qbv (k n : Nat) : Nat → List Int → Int → Int → Bool → Bool → List Int → Bool → List Int → Bool → List Int → List Int → Option (Nat × Bool × Bool × List Int × Bool × List Int × Bool × List Int × List Int) := Nat.rec (fun _ _ _ _ _ _ _ _ _ _ _ _ => none) (fun _ r => qd4 k r) n
def qeZ (k : Nat) (z : Bool) (x0 : Bool) (x1 : List Int) (x2 : Bool) (x3 : List Int) (y0 : Bool) (y1 : List Int) : Option (Bool × List Int × Bool × List Int × Bool × List Int × Bool × List Int) :=
 if (((0 : Int) ≤ (IntKind.wrap .i64 ((((List.length x1) : Nat) : Int) + (((List.length y1) : Nat) : Int)))) ∧ (((IntKind.wrap .i64 ((((List.length x1) : Nat) : Int) + (((List.length y1) : Nat) : Int))) ≤ (IntKind.wrap .i64 ((((List.length x1) : Nat) : Int) + (((List.length y1) : Nat) : Int)))) ∧ (((IntKind.wrap .i64 ((((List.length x1) : Nat) : Int) + (((List.length y1) : Nat) : Int))) * (4 : Int)) ≤ (140737488355328 : Int)))) then
 Option.bind (qbv k k (Int.toNat (IntKind.wrap .i64 ((((List.length x1) : Nat) : Int) + (((List.length y1) : Nat) : Int)))) x1 (((List.length x1) : Nat) : Int) (0 : Int) z x0 x1 x2 x3 y0 y1 (List.replicate (Int.toNat (IntKind.wrap .i64 ((((List.length x1) : Nat) : Int) + (((List.length y1) : Nat) : Int)))) (0 : Int))) fun r5 =>
 if ((0 + r5.1) ≤ (List.length r5.2.2.2.2.2.2.2.2)) then
 Option.bind (qap k (!(r5.2.2.1 == r5.2.2.2.2.2.2.1)) (List.take r5.1 r5.2.2.2.2.2.2.2.2) r5.2.1) fun r6 =>
 (some (r6.1, r6.2, r5.2.2.1, r5.2.2.2.1, r5.2.2.2.2.1, r5.2.2.2.2.2.1, r5.2.2.2.2.2.2.1, r5.2.2.2.2.2.2.2.1))
 else
 none
 else
 none
def qa2 : Nat → Bool → Bool → List Int → Bool → List Int → Bool → List Int → Option (Bool × List Int × Bool × List Int × Bool × List Int × Bool × List Int)
 | 0, _, _, _, _, _, _, _ => none
 | k + 1, z, x0, x1, x2, x3, y0, y1 => qeZ k z x0 x1 x2 x3 y0 y1
def qjF : FS := { vs := [.a (.ptr 0 0 0), .a (.ptr 1 0 0), .a (.ptr 2 0 0)], bs := [.raw [[.lf .bool, .snil 1 68]] 2 72 true false, .raw [[.lf .bool, .lf (.sl (.int .u32)), .lf .bool, .lf (.sl (.int .u32))]] 4 74 true false, .raw [[.lf .bool, .lf (.sl (.int .u32))]] 2 72 true false] }
def qpB : List FS := [{ vs := [.a (.ptr 0 0 0)], bs := [.raw [[.lf .bool, .lf (.sl (.int .u32))]] 2 72 true false, .raw [[.lf .bool, .lf (.sl (.int .u32)), .lf .bool, .lf (.sl (.int .u32))]] 4 74 true false, .raw [[.lf .bool, .lf (.sl (.int .u32))]] 2 72 true false] }]
def qrd (k : Nat) : Inst := ⟨75, qjF, qpB, fun x => qa2 k x.1 x.2.1 x.2.2.1 x.2.2.2.1 x.2.2.2.2.1 x.2.2.2.2.2.1 x.2.2.2.2.2.2⟩
theorem qth (k : Nat) : qp (call cf k) [qdJ k] := qA (qje k) qT
def qid : List SS := [{ fr := [(0, .a (.ptr 0 0 0)), (1, .a (.ptr 1 0 0)), (2, .a (.ptr 2 0 0)), (7, .a (.smz 3)), (8, .a (.lf (.int .i64))), (9, .a (.lf (.int .u32))), (10, .a (.lf (.int .u64))), (29, .a (.lf (.sl (.int .u32)))), (30, .a (.lf (.int .i64))), (31, .a (.lf (.int .i64))), (39, .a (.lf (.sl (.int .u32)))), (40, .a (.lf (.int .i64))), (41, .a (.lf (.int .i64)))], mem := [(0, some (.raw [[.lf .bool, .snil 1 68]] 2 72 true false)), (1, some (.raw [[.lf .bool, .lf (.sl (.int .u32)), .lf .bool, .lf (.sl (.int .u32))]] 4 74 true false)), (2, some (.raw [[.lf .bool, .lf (.sl (.int .u32))]] 2 72 true false)), (3, some (.arr (.int .u32) 1 68 false))], nx := 4 }]
def qmG : List OS := [⟨some 2, { fr := [(0, .a (.ptr 0 0 0)), (1, .a (.ptr 1 0 0)), (2, .a (.ptr 2 0 0)), (7, .a (.smz 3)), (8, .a (.lf (.int .i64))), (10, .a (.lf (.int .u64))), (29, .a (.lf (.sl (.int .u32)))), (30, .a (.lf (.int .i64))), (31, .a (.lf (.int .i64)))], mem := [(0, some (.raw [[.lf .bool, .snil 1 68]] 2 72 true false)), (1, some (.raw [[.lf .bool, .lf (.sl (.int .u32)), .lf .bool, .lf (.sl (.int .u32))]] 4 74 true false)), (2, some (.raw [[.lf .bool, .lf (.sl (.int .u32))]] 2 72 true false)), (3, some (.arr (.int .u32) 1 68 false))], nx := 4 }⟩]
def qgh (k : Nat) : LInst := ⟨2, qid, qmG, fun x => qbu k k x.1 x.2.1 x.2.2.1 x.2.2.2.1 x.2.2.2.2.1 x.2.2.2.2.2.1 x.2.2.2.2.2.2.1 x.2.2.2.2.2.2.2.1 x.2.2.2.2.2.2.2.2.1 x.2.2.2.2.2.2.2.2.2.1 x.2.2.2.2.2.2.2.2.2.2.1 x.2.2.2.2.2.2.2.2.2.2.2.1 x.2.2.2.2.2.2.2.2.2.2.2.2.1 x.2.2.2.2.2.2.2.2.2.2.2.2.2.1 x.2.2.2.2.2.2.2.2.2.2.2.2.2.2.1 x.2.2.2.2.2.2.2.2.2.2.2.2.2.2.2.1 x.2.2.2.2.2.2.2.2.2.2.2.2.2.2.2.2.1 x.2.2.2.2.2.2.2.2.2.2.2.2.2.2.2.2.2⟩
theorem qAo (k : Nat) : qg (LOk (R := DS OS.D qmG) (fun b _ σ K => LOt Ty (kps 75) 3 b σ K []) cf (call cf k) (kps 75) Tryz.f75.ntmps k 3) 2 (lb Tryz.f75 1) :=
 qA qT (qA (qA qT qT) (qA (qA qT (qA qT (qA qT qT))) qT))
theorem qAp (k n : Nat) (x : DS SS.D qid) : qbu k (n + 1) x.1 x.2.1 x.2.2.1 x.2.2.2.1 x.2.2.2.2.1 x.2.2.2.2.2.1 x.2.2.2.2.2.2.1 x.2.2.2.2.2.2.2.1 x.2.2.2.2.2.2.2.2.1 x.2.2.2.2.2.2.2.2.2.1 x.2.2.2.2.2.2.2.2.2.2.1 x.2.2.2.2.2.2.2.2.2.2.2.1 x.2.2.2.2.2.2.2.2.2.2.2.2.1 x.2.2.2.2.2.2.2.2.2.2.2.2.2.1 x.2.2.2.2.2.2.2.2.2.2.2.2.2.2.1 x.2.2.2.2.2.2.2.2.2.2.2.2.2.2.2.1 x.2.2.2.2.2.2.2.2.2.2.2.2.2.2.2.2.1 x.2.2.2.2.2.2.2.2.2.2.2.2.2.2.2.2.2 = qI SS.enc (fun σ => qJ cf (fun f a b K => COt f a b K [qdJ k]) (fun b _ σ K => LOt Ty (kps 75) 3 b σ K []) Tryz.f75.ntmps 2 (lb Tryz.f75 1) σ (qQ Ty (kps 75 2) 3 qid qmG fun x => qbu k n x.1 x.2.1 x.2.2.1 x.2.2.2.1 x.2.2.2.2.1 x.2.2.2.2.2.1 x.2.2.2.2.2.2.1 x.2.2.2.2.2.2.2.1 x.2.2.2.2.2.2.2.2.1 x.2.2.2.2.2.2.2.2.2.1 x.2.2.2.2.2.2.2.2.2.2.1 x.2.2.2.2.2.2.2.2.2.2.2.1 x.2.2.2.2.2.2.2.2.2.2.2.2.1 x.2.2.2.2.2.2.2.2.2.2.2.2.2.1 x.2.2.2.2.2.2.2.2.2.2.2.2.2.2.1 x.2.2.2.2.2.2.2.2.2.2.2.2.2.2.2.1 x.2.2.2.2.2.2.2.2.2.2.2.2.2.2.2.2.1 x.2.2.2.2.2.2.2.2.2.2.2.2.2.2.2.2.2)) qid x := by kernel_rfl
theorem qAq (k : Nat) : qae cf (call cf k) (kps 75) Tryz.f75.ntmps k 3 2 (lb Tryz.f75 1) (qgh k) :=
 qu (c := cf) (callF := call cf k) (kp := kps 75) (nt := Tryz.f75.ntmps) (k := k) (p := 3) (b := 2) (x0 := lb Tryz.f75 1) (hs := qid) (os := qmG) (qd (qth k)) (qAo k) (fun n x => qbu k n x.1 x.2.1 x.2.2.1 x.2.2.2.1 x.2.2.2.2.1 x.2.2.2.2.2.1 x.2.2.2.2.2.2.1 x.2.2.2.2.2.2.2.1 x.2.2.2.2.2.2.2.2.1 x.2.2.2.2.2.2.2.2.2.1 x.2.2.2.2.2.2.2.2.2.2.1 x.2.2.2.2.2.2.2.2.2.2.2.1 x.2.2.2.2.2.2.2.2.2.2.2.2.1 x.2.2.2.2.2.2.2.2.2.2.2.2.2.1 x.2.2.2.2.2.2.2.2.2.2.2.2.2.2.1 x.2.2.2.2.2.2.2.2.2.2.2.2.2.2.2.1 x.2.2.2.2.2.2.2.2.2.2.2.2.2.2.2.2.1 x.2.2.2.2.2.2.2.2.2.2.2.2.2.2.2.2.2) (fun _ => rfl) (qAp k)
def qie : List SS := [{ fr := [(0, .a (.ptr 0 0 0)), (1, .a (.ptr 1 0 0)), (2, .a (.ptr 2 0 0)), (7, .a (.smz 3)), (29, .a (.lf (.sl (.int .u32)))), (30, .a (.lf (.int .i64))), (31, .a (.lf (.int .i64)))], mem := [(0, some (.raw [[.lf .bool, .snil 1 68]] 2 72 true false)), (1, some (.raw [[.lf .bool, .lf (.sl (.int .u32)), .lf .bool, .lf (.sl (.int .u32))]] 4 74 true false)), (2, some (.raw [[.lf .bool, .lf (.sl (.int .u32))]] 2 72 true false)), (3, some (.arr (.int .u32) 1 68 false))], nx := 4 }]
def qmH : List OS := [⟨some 0, { fr := [(0, .a (.ptr 0 0 0)), (1, .a (.ptr 1 0 0)), (2, .a (.ptr 2 0 0)), (7, .a (.smz 3))], mem := [(0, some (.raw [[.lf .bool, .snil 1 68]] 2 72 true false)), (1, some (.raw [[.lf .bool, .lf (.sl (.int .u32)), .lf .bool, .lf (.sl (.int .u32))]] 4 74 true false)), (2, some (.raw [[.lf .bool, .lf (.sl (.int .u32))]] 2 72 true false)), (3, some (.arr (.int .u32) 1 68 false))], nx := 4 }⟩]
def qmI (k : Nat) : LInst := ⟨0, qie, qmH, fun x => qbv k k x.1 x.2.1 x.2.2.1 x.2.2.2.1 x.2.2.2.2.1 x.2.2.2.2.2.1 x.2.2.2.2.2.2.1 x.2.2.2.2.2.2.2.1 x.2.2.2.2.2.2.2.2.1 x.2.2.2.2.2.2.2.2.2.1 x.2.2.2.2.2.2.2.2.2.2.1 x.2.2.2.2.2.2.2.2.2.2.2⟩
theorem qAr (k : Nat) : qg (LOk (R := DS OS.D qmH) (fun b _ σ K => LOt Ty (kps 75) 3 b σ K [qgh k]) cf (call cf k) (kps 75) Tryz.f75.ntmps k 3) 0 (lb Tryz.f75 0) :=
 qA qT (qA (qA qT qT) (qA (qA qT (qA qT (qA (qA qT (qD (c := cf) (callF := call cf k) (kp := kps 75) (nt := Tryz.f75.ntmps) (k := k) (p := 3) (b := 2) (x0 := lb Tryz.f75 1) (l := [qgh k]) (qA (fun _ => qAq k) qT))) qT))) qT))
theorem qAs (k n : Nat) (x : DS SS.D qie) : qbv k (n + 1) x.1 x.2.1 x.2.2.1 x.2.2.2.1 x.2.2.2.2.1 x.2.2.2.2.2.1 x.2.2.2.2.2.2.1 x.2.2.2.2.2.2.2.1 x.2.2.2.2.2.2.2.2.1 x.2.2.2.2.2.2.2.2.2.1 x.2.2.2.2.2.2.2.2.2.2.1 x.2.2.2.2.2.2.2.2.2.2.2 = qI SS.enc (fun σ => qJ cf (fun f a b K => COt f a b K [qdJ k]) (fun b _ σ K => LOt Ty (kps 75) 3 b σ K [qgh k]) Tryz.f75.ntmps 0 (lb Tryz.f75 0) σ (qQ Ty (kps 75 0) 3 qie qmH fun x => qbv k n x.1 x.2.1 x.2.2.1 x.2.2.2.1 x.2.2.2.2.1 x.2.2.2.2.2.1 x.2.2.2.2.2.2.1 x.2.2.2.2.2.2.2.1 x.2.2.2.2.2.2.2.2.1 x.2.2.2.2.2.2.2.2.2.1 x.2.2.2.2.2.2.2.2.2.2.1 x.2.2.2.2.2.2.2.2.2.2.2)) qie x := by kernel_rfl
theorem qAt (k : Nat) : qae cf (call cf k) (kps 75) Tryz.f75.ntmps k 3 0 (lb Tryz.f75 0) (qmI k) :=
 qu (c := cf) (callF := call cf k) (kp := kps 75) (nt := Tryz.f75.ntmps) (k := k) (p := 3) (b := 0) (x0 := lb Tryz.f75 0) (hs := qie) (os := qmH) (qd (qth k)) (qAr k) (fun n x => qbv k n x.1 x.2.1 x.2.2.1 x.2.2.2.1 x.2.2.2.2.1 x.2.2.2.2.2.1 x.2.2.2.2.2.2.1 x.2.2.2.2.2.2.2.1 x.2.2.2.2.2.2.2.2.1 x.2.2.2.2.2.2.2.2.2.1 x.2.2.2.2.2.2.2.2.2.2.1 x.2.2.2.2.2.2.2.2.2.2.2) (fun _ => rfl) (qAs k)
theorem qEl (k : Nat) : qg (LOk (R := DS FS.D qpB) (fun b _ σ K => LOt Ty (kps 75) 3 b σ K [qgh k, qmI k]) cf (call cf k) (cf.keep 75) Tryz.f75.ntmps k qjF.bs.length) 0 (bd Tryz.f75) :=
 qA qT (qA qT (qA (qA qT (qD (c := cf) (callF := call cf k) (kp := kps 75) (nt := Tryz.f75.ntmps) (k := k) (p := 3) (b := 0) (x0 := lb Tryz.f75 0) (l := [qgh k, qmI k]) (qA (fun h => absurd (show (2 : Nat) = 0 from h) (by decide)) (qA (fun _ => qAt k) qT)))) (qA qT qT)))
theorem qEm (k : Nat) (x : qjF.D) : qa2 (k + 1) x.1 x.2.1 x.2.2.1 x.2.2.2.1 x.2.2.2.2.1 x.2.2.2.2.2.1 x.2.2.2.2.2.2 = qk cf (fun f a b K => COt f a b K [qdJ k]) (fun b _ σ K => LOt Ty (kps 75) 3 b σ K [qgh k, qmI k]) 75 Tryz.f75.ntmps Tryz.f75.results.toList (bd Tryz.f75) (qjF.enc x).1 (qjF.enc x).2 (qo FS.dec qpB) := by kernel_rfl
theorem qw6 : ∀ k, qh (call cf k) (qrd k)
 | 0 => fun x y e => absurd (show (none : Option _) = some y from e) (by simp)
 | k + 1 => qe (c := cf) (k := k) (f := 75) (fn := Tryz.f75) (body := bd Tryz.f75) (sh := qjF) (os := qpB) rfl Tryz.func75 rfl ⟨rfl, Nat.le_of_ble_eq_true rfl⟩ (qd (qth k)) (qEl k) (fun x => qa2 (k + 1) x.1 x.2.1 x.2.2.1 x.2.2.2.1 x.2.2.2.2.1 x.2.2.2.2.2.1 x.2.2.2.2.2.2) (qEm k)

def qla (k : Nat) (z0 : Bool) (z1 : Bool) (x0 : Bool) (x1 : List Int) (x2 : Bool) (x3 : List Int) (y0 : Bool) (y1 : List Int) (y2 : Bool) (y3 : List Int) : Option (Bool × List Int × Bool × List Int × Bool × List Int × Bool × List Int × Bool × List Int × Bool × List Int) :=
 Option.bind (qC k y0 y1 y2 y3) fun r4 =>
 Option.bind (qa2 k false x0 x1 x2 x3 r4.2.2.2.2.1 r4.2.2.2.2.2) fun r5 =>
 Option.bind (qC k r5.2.2.1 r5.2.2.2.1 r5.2.2.2.2.1 r5.2.2.2.2.2.1) fun r6 =>
 Option.bind (qa2 k false r4.1 r4.2.1 r4.2.2.1 r4.2.2.2.1 r6.2.2.2.2.1 r6.2.2.2.2.2) fun r7 =>
 Option.bind (qC k r6.1 r6.2.1 r6.2.2.1 r6.2.2.2.1) fun r8 =>
 Option.bind (qC k r7.2.2.1 r7.2.2.2.1 r7.2.2.2.2.1 r7.2.2.2.2.2.1) fun r9 =>
 Option.bind (qaQ k false r8.2.2.2.2.1 r8.2.2.2.2.2 r9.2.2.2.2.1 r9.2.2.2.2.2) fun r10 =>
 Option.bind (qa1 k r5.1 r5.2.1 r7.1 r7.2.1) fun r11 =>
 Option.bind (qaT k z0 z1 r11.1 r11.2.1 r10.1 r10.2.1) fun r12 =>
 (some (r12.1, r12.2.1, r12.2.2.1, r12.2.2.2.1, r8.1, r8.2.1, r8.2.2.1, r8.2.2.2.1, r9.1, r9.2.1, r9.2.2.1, r9.2.2.2.1))
def qcH : Nat → Bool → Bool → Bool → List Int → Bool → List Int → Bool → List Int → Bool → List Int → Option (Bool × List Int × Bool × List Int × Bool × List Int × Bool × List Int × Bool × List Int × Bool × List Int)
 | 0, _, _, _, _, _, _, _, _, _, _ => none
 | k + 1, z0, z1, x0, x1, x2, x3, y0, y1, y2, y3 => qla k z0 z1 x0 x1 x2 x3 y0 y1 y2 y3
def qjG : FS := { vs := [.a (.ptr 0 0 0), .a (.ptr 1 0 0), .a (.ptr 2 0 0)], bs := [.raw [[.lf .bool, .snil 1 68, .lf .bool, .snil 1 68]] 4 74 true false, .raw [[.lf .bool, .lf (.sl (.int .u32)), .lf .bool, .lf (.sl (.int .u32))]] 4 74 true false, .raw [[.lf .bool, .lf (.sl (.int .u32)), .lf .bool, .lf (.sl (.int .u32))]] 4 74 true false] }
def qpC : List FS := [{ vs := [.a (.ptr 0 0 0)], bs := [.raw [[.lf .bool, .lf (.sl (.int .u32)), .lf .bool, .lf (.sl (.int .u32))]] 4 74 true false, .raw [[.lf .bool, .lf (.sl (.int .u32)), .lf .bool, .lf (.sl (.int .u32))]] 4 74 true false, .raw [[.lf .bool, .lf (.sl (.int .u32)), .lf .bool, .lf (.sl (.int .u32))]] 4 74 true false] }]
def qvR (k : Nat) : Inst := ⟨33, qjG, qpC, fun x => qcH k x.1 x.2.1 x.2.2.1 x.2.2.2.1 x.2.2.2.2.1 x.2.2.2.2.2.1 x.2.2.2.2.2.2.1 x.2.2.2.2.2.2.2.1 x.2.2.2.2.2.2.2.2.1 x.2.2.2.2.2.2.2.2.2⟩
theorem qEn (k : Nat) : qp (call cf k) [qgd k, qrd k, Iq7 k, Iq4 k, qq4 k] := qA (qmn k) (qA (qw6 k) (qA (qvE k) (qA (qvL k) (qA (qwW k) qT))))
theorem qEo (k : Nat) : qg (LOk (R := DS FS.D qpC) (fun b _ σ K => LOt Ty (kps 33) 3 b σ K []) cf (call cf k) (cf.keep 33) Tryz.f33.ntmps k qjG.bs.length) 0 (bd Tryz.f33) :=
 qA qT (qA qT (qA qT (qA qT (qA qT (qA qT qT)))))
theorem qEp (k : Nat) (x : qjG.D) : qcH (k + 1) x.1 x.2.1 x.2.2.1 x.2.2.2.1 x.2.2.2.2.1 x.2.2.2.2.2.1 x.2.2.2.2.2.2.1 x.2.2.2.2.2.2.2.1 x.2.2.2.2.2.2.2.2.1 x.2.2.2.2.2.2.2.2.2 = qk cf (fun f a b K => COt f a b K [qgd k, qrd k, Iq7 k, Iq4 k, qq4 k]) (fun b _ σ K => LOt Ty (kps 33) 3 b σ K []) 33 Tryz.f33.ntmps Tryz.f33.results.toList (bd Tryz.f33) (qjG.enc x).1 (qjG.enc x).2 (qo FS.dec qpC) := by kernel_rfl
theorem qEq : ∀ k, qh (call cf k) (qvR k)
 | 0 => fun x y e => absurd (show (none : Option _) = some y from e) (by simp)
 | k + 1 => qe (c := cf) (k := k) (f := 33) (fn := Tryz.f33) (body := bd Tryz.f33) (sh := qjG) (os := qpC) rfl Tryz.func33 rfl ⟨rfl, Nat.le_of_ble_eq_true rfl⟩ (qd (qEn k)) (qEo k) (fun x => qcH (k + 1) x.1 x.2.1 x.2.2.1 x.2.2.2.1 x.2.2.2.2.1 x.2.2.2.2.2.1 x.2.2.2.2.2.2.1 x.2.2.2.2.2.2.2.1 x.2.2.2.2.2.2.2.2.1 x.2.2.2.2.2.2.2.2.2) (qEp k)

def qlb (k : Nat) (z0 : Bool) (z1 : Bool) (x0 : Bool) (x1 : List Int) (x2 : Bool) (x3 : List Int) (y0 : Bool) (y1 : List Int) (y2 : Bool) (y3 : List Int) : Option (Bool × List Int × Bool × List Int × Bool × List Int × Bool × List Int × Bool × List Int × Bool × List Int) :=
 Option.bind (qcG k false false y0 y1 y2 y3) fun r3 =>
 Option.bind (qcH k z0 z1 x0 x1 x2 x3 r3.1 r3.2.1 r3.2.2.1 r3.2.2.2.1) fun r4 =>
 (some (r4.1, r4.2.1, r4.2.2.1, r4.2.2.2.1, r4.2.2.2.2.1, r4.2.2.2.2.2.1, r4.2.2.2.2.2.2.1, r4.2.2.2.2.2.2.2.1, r3.2.2.2.2.1, r3.2.2.2.2.2.1, r3.2.2.2.2.2.2.1, r3.2.2.2.2.2.2.2))
def qcI : Nat → Bool → Bool → Bool → List Int → Bool → List Int → Bool → List Int → Bool → List Int → Option (Bool × List Int × Bool × List Int × Bool × List Int × Bool × List Int × Bool × List Int × Bool × List Int)
 | 0, _, _, _, _, _, _, _, _, _, _ => none
 | k + 1, z0, z1, x0, x1, x2, x3, y0, y1, y2, y3 => qlb k z0 z1 x0 x1 x2 x3 y0 y1 y2 y3
def qjH : FS := { vs := [.a (.ptr 0 0 0), .a (.ptr 1 0 0), .a (.ptr 2 0 0)], bs := [.raw [[.lf .bool, .snil 1 68, .lf .bool, .snil 1 68]] 4 74 true false, .raw [[.lf .bool, .lf (.sl (.int .u32)), .lf .bool, .lf (.sl (.int .u32))]] 4 74 true false, .raw [[.lf .bool, .lf (.sl (.int .u32)), .lf .bool, .lf (.sl (.int .u32))]] 4 74 true false] }
def qpD : List FS := [{ vs := [.a (.ptr 0 0 0)], bs := [.raw [[.lf .bool, .lf (.sl (.int .u32)), .lf .bool, .lf (.sl (.int .u32))]] 4 74 true false, .raw [[.lf .bool, .lf (.sl (.int .u32)), .lf .bool, .lf (.sl (.int .u32))]] 4 74 true false, .raw [[.lf .bool, .lf (.sl (.int .u32)), .lf .bool, .lf (.sl (.int .u32))]] 4 74 true false] }]
def qvS (k : Nat) : Inst := ⟨31, qjH, qpD, fun x => qcI k x.1 x.2.1 x.2.2.1 x.2.2.2.1 x.2.2.2.2.1 x.2.2.2.2.2.1 x.2.2.2.2.2.2.1 x.2.2.2.2.2.2.2.1 x.2.2.2.2.2.2.2.2.1 x.2.2.2.2.2.2.2.2.2⟩
theorem qEr (k : Nat) : qp (call cf k) [qvQ k, qvR k] := qA (qEk k) (qA (qEq k) qT)
theorem qEs (k : Nat) : qg (LOk (R := DS FS.D qpD) (fun b _ σ K => LOt Ty (kps 31) 3 b σ K []) cf (call cf k) (cf.keep 31) Tryz.f31.ntmps k qjH.bs.length) 0 (bd Tryz.f31) :=
 qA qT (qA qT qT)
theorem qEt (k : Nat) (x : qjH.D) : qcI (k + 1) x.1 x.2.1 x.2.2.1 x.2.2.2.1 x.2.2.2.2.1 x.2.2.2.2.2.1 x.2.2.2.2.2.2.1 x.2.2.2.2.2.2.2.1 x.2.2.2.2.2.2.2.2.1 x.2.2.2.2.2.2.2.2.2 = qk cf (fun f a b K => COt f a b K [qvQ k, qvR k]) (fun b _ σ K => LOt Ty (kps 31) 3 b σ K []) 31 Tryz.f31.ntmps Tryz.f31.results.toList (bd Tryz.f31) (qjH.enc x).1 (qjH.enc x).2 (qo FS.dec qpD) := by kernel_rfl
theorem qEu : ∀ k, qh (call cf k) (qvS k)
 | 0 => fun x y e => absurd (show (none : Option _) = some y from e) (by simp)
 | k + 1 => qe (c := cf) (k := k) (f := 31) (fn := Tryz.f31) (body := bd Tryz.f31) (sh := qjH) (os := qpD) rfl Tryz.func31 rfl ⟨rfl, Nat.le_of_ble_eq_true rfl⟩ (qd (qEr k)) (qEs k) (fun x => qcI (k + 1) x.1 x.2.1 x.2.2.1 x.2.2.2.1 x.2.2.2.2.1 x.2.2.2.2.2.1 x.2.2.2.2.2.2.1 x.2.2.2.2.2.2.2.1 x.2.2.2.2.2.2.2.2.1 x.2.2.2.2.2.2.2.2.2) (qEt k)

def qlc (k : Nat) (x0 : Bool) (x1 : List Int) (x2 : Bool) (x3 : List Int) (y0 : Bool) (y1 : List Int) (y2 : Bool) (y3 : List Int) : Option (Bool × List Int × Bool × List Int × Bool × List Int × Bool × List Int) :=
 Option.bind (qC k y0 y1 y2 y3) fun r6 =>
 Option.bind (qa2 k false x0 x1 x2 x3 r6.2.2.2.2.1 r6.2.2.2.2.2) fun r7 =>
 Option.bind (qC k r7.2.2.1 r7.2.2.2.1 r7.2.2.2.2.1 r7.2.2.2.2.2.1) fun r8 =>
 Option.bind (qa2 k false r6.1 r6.2.1 r6.2.2.1 r6.2.2.2.1 r8.2.2.2.2.1 r8.2.2.2.2.2) fun r9 =>
 Option.bind (qC k r8.1 r8.2.1 r8.2.2.1 r8.2.2.2.1) fun r10 =>
 Option.bind (qC k r9.2.2.1 r9.2.2.2.1 r9.2.2.2.2.1 r9.2.2.2.2.2.1) fun r11 =>
 Option.bind (qaQ k false r10.2.2.2.2.1 r10.2.2.2.2.2 r11.2.2.2.2.1 r11.2.2.2.2.2) fun r12 =>
 Option.bind (qa1 k r7.1 r7.2.1 r9.1 r9.2.1) fun r13 =>
 Option.bind (qbb k r10.1 r10.2.1 r10.2.2.1 r10.2.2.2.1 r13.1 r13.2.1 r12.1 r12.2.1) fun r14 =>
 (some (r14.1, r14.2.1, r14.2.2.1, r14.2.2.2.1, r11.1, r11.2.1, r11.2.2.1, r11.2.2.2.1))
def qcJ : Nat → Bool → List Int → Bool → List Int → Bool → List Int → Bool → List Int → Option (Bool × List Int × Bool × List Int × Bool × List Int × Bool × List Int)
 | 0, _, _, _, _, _, _, _, _ => none
 | k + 1, x0, x1, x2, x3, y0, y1, y2, y3 => qlc k x0 x1 x2 x3 y0 y1 y2 y3
def qjI : FS := { vs := [.a (.ptr 0 0 0), .a (.ptr 0 0 0), .a (.ptr 1 0 0)], bs := [.raw [[.lf .bool, .lf (.sl (.int .u32)), .lf .bool, .lf (.sl (.int .u32))]] 4 74 true false, .raw [[.lf .bool, .lf (.sl (.int .u32)), .lf .bool, .lf (.sl (.int .u32))]] 4 74 true false] }
def qpE : List FS := [{ vs := [.a (.ptr 0 0 0)], bs := [.raw [[.lf .bool, .lf (.sl (.int .u32)), .lf .bool, .lf (.sl (.int .u32))]] 4 74 true false, .raw [[.lf .bool, .lf (.sl (.int .u32)), .lf .bool, .lf (.sl (.int .u32))]] 4 74 true false] }]
def qvT (k : Nat) : Inst := ⟨33, qjI, qpE, fun x => qcJ k x.1 x.2.1 x.2.2.1 x.2.2.2.1 x.2.2.2.2.1 x.2.2.2.2.2.1 x.2.2.2.2.2.2.1 x.2.2.2.2.2.2.2⟩
theorem qEv (k : Nat) : qp (call cf k) [qgd k, qrd k, Iq7 k, Iq4 k, qq9 k] := qA (qmn k) (qA (qw6 k) (qA (qvE k) (qA (qvL k) (qA (qw0 k) qT))))
theorem qEw (k : Nat) : qg (LOk (R := DS FS.D qpE) (fun b _ σ K => LOt Ty (kps 33) 2 b σ K []) cf (call cf k) (cf.keep 33) Tryz.f33.ntmps k qjI.bs.length) 0 (bd Tryz.f33) :=
 qA qT (qA qT (qA qT (qA qT (qA qT (qA qT qT)))))
theorem qEx (k : Nat) (x : qjI.D) : qcJ (k + 1) x.1 x.2.1 x.2.2.1 x.2.2.2.1 x.2.2.2.2.1 x.2.2.2.2.2.1 x.2.2.2.2.2.2.1 x.2.2.2.2.2.2.2 = qk cf (fun f a b K => COt f a b K [qgd k, qrd k, Iq7 k, Iq4 k, qq9 k]) (fun b _ σ K => LOt Ty (kps 33) 2 b σ K []) 33 Tryz.f33.ntmps Tryz.f33.results.toList (bd Tryz.f33) (qjI.enc x).1 (qjI.enc x).2 (qo FS.dec qpE) := by kernel_rfl
theorem qEy : ∀ k, qh (call cf k) (qvT k)
 | 0 => fun x y e => absurd (show (none : Option _) = some y from e) (by simp)
 | k + 1 => qe (c := cf) (k := k) (f := 33) (fn := Tryz.f33) (body := bd Tryz.f33) (sh := qjI) (os := qpE) rfl Tryz.func33 rfl ⟨rfl, Nat.le_of_ble_eq_true rfl⟩ (qd (qEv k)) (qEw k) (fun x => qcJ (k + 1) x.1 x.2.1 x.2.2.1 x.2.2.2.1 x.2.2.2.2.1 x.2.2.2.2.2.1 x.2.2.2.2.2.2.1 x.2.2.2.2.2.2.2) (qEx k)

def qoK (k : Nat) (a0 : Int) (a1 : Int) (b0 : Int) (b1 : Int) (k1 : Int) (n : Int) : Option (Bool × List Int × Bool × List Int) :=
 Option.bind (qaX k a0 a1) fun r1 =>
 Option.bind (qaX k b0 b1) fun r2 =>
 Option.bind (qcI k false false r2.1 r2.2.1 r2.2.2.1 r2.2.2.2 r1.1 r1.2.1 r1.2.2.1 r1.2.2.2) fun r3 =>
 Option.bind (qbO k k1 n) fun r4 =>
 Option.bind (qaB k r3.1 r3.2.1 r3.2.2.1 r3.2.2.2.1 r4.1 r4.2.1 r4.2.2.1 r4.2.2.2) fun r5 =>
 Option.bind (qcJ k r5.1 r5.2.1 r5.2.2.1 r5.2.2.2.1 r3.2.2.2.2.2.2.2.2.1 r3.2.2.2.2.2.2.2.2.2.1 r3.2.2.2.2.2.2.2.2.2.2.1 r3.2.2.2.2.2.2.2.2.2.2.2) fun r6 =>
 (some (r6.1, r6.2.1, r6.2.2.1, r6.2.2.2.1))
def qcp : Nat → Int → Int → Int → Int → Int → Int → Option (Bool × List Int × Bool × List Int)
 | 0, _, _, _, _, _, _ => none
 | k + 1, a0, a1, b0, b1, k1, n => qoK k a0 a1 b0 b1 k1 n
def qjJ : FS := { vs := [.g [.lf (.int .i64), .lf (.int .i64)], .g [.lf (.int .i64), .lf (.int .i64)], .a (.lf (.int .i64)), .a (.lf (.int .i64))], bs := [] }
def qpF : List FS := [{ vs := [.a (.ptr 0 0 0)], bs := [.raw [[.lf .bool, .lf (.sl (.int .u32)), .lf .bool, .lf (.sl (.int .u32))]] 4 74 true false] }]
def qn3 (k : Nat) : Inst := ⟨98, qjJ, qpF, fun x => qcp k x.1 x.2.1 x.2.2.1 x.2.2.2.1 x.2.2.2.2.1 x.2.2.2.2.2⟩
theorem qEz (k : Nat) : qp (call cf k) [qfG k, qvS k, qq8 k, qra k, qvT k] := qA (qmt k) (qA (qEu k) (qA (qwZ k) (qA (qw1 k) (qA (qEy k) qT))))
theorem qEA (k : Nat) : qg (LOk (R := DS FS.D qpF) (fun b _ σ K => LOt Ty (kps 98) 0 b σ K []) cf (call cf k) (cf.keep 98) Tryz.f98.ntmps k qjJ.bs.length) 0 (bd Tryz.f98) :=
 qA qT (qA qT (qA qT (qA qT (qA qT qT))))
theorem qEB (k : Nat) (x : qjJ.D) : qcp (k + 1) x.1 x.2.1 x.2.2.1 x.2.2.2.1 x.2.2.2.2.1 x.2.2.2.2.2 = qk cf (fun f a b K => COt f a b K [qfG k, qvS k, qq8 k, qra k, qvT k]) (fun b _ σ K => LOt Ty (kps 98) 0 b σ K []) 98 Tryz.f98.ntmps Tryz.f98.results.toList (bd Tryz.f98) (qjJ.enc x).1 (qjJ.enc x).2 (qo FS.dec qpF) := by kernel_rfl
theorem qw7 : ∀ k, qh (call cf k) (qn3 k)
 | 0 => fun x y e => absurd (show (none : Option _) = some y from e) (by simp)
 | k + 1 => qe (c := cf) (k := k) (f := 98) (fn := Tryz.f98) (body := bd Tryz.f98) (sh := qjJ) (os := qpF) rfl Tryz.func98 rfl ⟨rfl, Nat.le_of_ble_eq_true rfl⟩ (qd (qEz k)) (qEA k) (fun x => qcp (k + 1) x.1 x.2.1 x.2.2.1 x.2.2.2.1 x.2.2.2.2.1 x.2.2.2.2.2) (qEB k)

def qgz (k : Nat) (w0 : Int) (w1 : List (Int × Int)) (w2 : List Int) (step : Int) : Option (Bool × List Int × Bool × List Int) :=
 Option.bind (w1)[0]? fun x =>
 Option.bind (w1)[1]? fun x1 =>
 Option.bind (w2)[0]? fun x2 =>
 if ((decide (step < x2)) = true) then
 Option.bind (qaX k x.1 x.2) fun r1 =>
 (some (r1.1, r1.2.1, r1.2.2.1, r1.2.2.2))
 else
 Option.bind (w2)[0]? fun x3 =>
 Option.bind (w2)[4]? fun x4 =>
 if (x4 = (0 : Int)) then
 none
 else
 Option.bind (w2)[1]? fun x5 =>
 if ((decide ((Int.tmod (IntKind.wrap .i64 (step - x3)) x4) < x5)) = true) then
 Option.bind (w2)[1]? fun x6 =>
 Option.bind (qcp k x.1 x.2 x1.1 x1.2 (Int.tmod (IntKind.wrap .i64 (step - x3)) x4) x6) fun r1 =>
 (some (r1.1, r1.2.1, r1.2.2.1, r1.2.2.2))
 else
 Option.bind (w2)[1]? fun x6 =>
 Option.bind (w2)[2]? fun x7 =>
 if ((decide ((Int.tmod (IntKind.wrap .i64 (step - x3)) x4) < (IntKind.wrap .i64 (x6 + x7)))) = true) then
 Option.bind (qaX k x1.1 x1.2) fun r1 =>
 (some (r1.1, r1.2.1, r1.2.2.1, r1.2.2.2))
 else
 Option.bind (w2)[1]? fun x8 =>
 Option.bind (w2)[2]? fun x9 =>
 Option.bind (w2)[3]? fun x10 =>
 if ((decide ((Int.tmod (IntKind.wrap .i64 (step - x3)) x4) < (IntKind.wrap .i64 ((IntKind.wrap .i64 (x8 + x9)) + x10)))) = true) then
 Option.bind (w2)[1]? fun x11 =>
 Option.bind (w2)[2]? fun x12 =>
 Option.bind (w2)[3]? fun x13 =>
 Option.bind (qcp k x1.1 x1.2 x.1 x.2 (IntKind.wrap .i64 ((IntKind.wrap .i64 ((Int.tmod (IntKind.wrap .i64 (step - x3)) x4) - x11)) - x12)) x13) fun r1 =>
 (some (r1.1, r1.2.1, r1.2.2.1, r1.2.2.2))
 else
 Option.bind (qaX k x.1 x.2) fun r1 =>
 (some (r1.1, r1.2.1, r1.2.2.1, r1.2.2.2))
def qdA : Nat → Int → List (Int × Int) → List Int → Int → Option (Bool × List Int × Bool × List Int)
 | 0, _, _, _, _ => none
 | k + 1, w0, w1, w2, step => qgz k w0 w1 w2 step
def qjK : FS := { vs := [.g [.lf (.int .i64), .lf (.sl (.pr (.int .i64) (.int .i64))), .lf (.sl (.int .i64))], .a (.lf (.int .i64))], bs := [] }
def qpG : List FS := [{ vs := [.a (.ptr 0 0 0)], bs := [.raw [[.lf .bool, .lf (.sl (.int .u32)), .lf .bool, .lf (.sl (.int .u32))]] 4 74 true false] }]
def qvU (k : Nat) : Inst := ⟨57, qjK, qpG, fun x => qdA k x.1 x.2.1 x.2.2.1 x.2.2.2⟩
theorem qEC (k : Nat) : qp (call cf k) [qfG k, qn3 k] := qA (qmt k) (qA (qw7 k) qT)
theorem qED (k : Nat) : qg (LOk (R := DS FS.D qpG) (fun b _ σ K => LOt Ty (kps 57) 0 b σ K []) cf (call cf k) (cf.keep 57) Tryz.f57.ntmps k qjK.bs.length) 0 (bd Tryz.f57) :=
 qA qT (qA qT (qA (qA qT (qA (qA qT qT) qT)) (qA qT (qA (qA qT (qA (qA qT qT) (qA qT (qA (qA qT qT) (qA qT (qA (qA qT qT) qT)))))) (qA qT qT)))))
theorem qEE (k : Nat) (x : qjK.D) : qdA (k + 1) x.1 x.2.1 x.2.2.1 x.2.2.2 = qk cf (fun f a b K => COt f a b K [qfG k, qn3 k]) (fun b _ σ K => LOt Ty (kps 57) 0 b σ K []) 57 Tryz.f57.ntmps Tryz.f57.results.toList (bd Tryz.f57) (qjK.enc x).1 (qjK.enc x).2 (qo FS.dec qpG) := by kernel_rfl
theorem qEF : ∀ k, qh (call cf k) (qvU k)
 | 0 => fun x y e => absurd (show (none : Option _) = some y from e) (by simp)
 | k + 1 => qe (c := cf) (k := k) (f := 57) (fn := Tryz.f57) (body := bd Tryz.f57) (sh := qjK) (os := qpG) rfl Tryz.func57 rfl ⟨rfl, Nat.le_of_ble_eq_true rfl⟩ (qd (qEC k)) (qED k) (fun x => qdA (k + 1) x.1 x.2.1 x.2.2.1 x.2.2.2) (qEE k)

def qek (k : Nat) (rec : Int → Int → Int → List (Int × Int) → List Int → Option (Int × Int × Int × List (Int × Int) × List Int)) (step : Int) (i : Int) (w0 : Int) (w1 : List (Int × Int)) (w2 : List Int) : Option (Int × Int × Int × List (Int × Int) × List Int) :=
 if ((decide (i < (((List.length w2) : Nat) : Int))) = true) then
 if ((0 : Int) ≤ i) then
 Option.bind (w2)[(Int.toNat i)]? fun x =>
 if ((decide (x ≤ step)) = true) then
 rec step (IntKind.wrap .i64 (i + (1 : Int))) w0 w1 w2
 else
 (some (step, i, w0, w1, w2))
 else
 none
 else
 (some (step, i, w0, w1, w2))
def qca (k n : Nat) : Int → Int → Int → List (Int × Int) → List Int → Option (Int × Int × Int × List (Int × Int) × List Int) := Nat.rec (fun _ _ _ _ _ => none) (fun _ r => qek k r) n
def qot (k : Nat) (w0 : Int) (w1 : List (Int × Int)) (w2 : List Int) (step : Int) : Option (Bool × List Int × Bool × List Int) :=
 Option.bind (qca k k step (0 : Int) w0 w1 w2) fun r1 =>
 if ((r1.2.1 == (0 : Int)) = true) then
 Option.bind (r1.2.2.2.1)[0]? fun x =>
 Option.bind (qaX k x.1 x.2) fun r2 =>
 (some (r2.1, r2.2.1, r2.2.2.1, r2.2.2.2))
 else
 if ((r1.2.1 == (((List.length r1.2.2.2.2) : Nat) : Int)) = true) then
 if ((0 : Int) ≤ (IntKind.wrap .i64 (r1.2.1 - (1 : Int)))) then
 Option.bind (r1.2.2.2.1)[(Int.toNat (IntKind.wrap .i64 (r1.2.1 - (1 : Int))))]? fun x =>
 Option.bind (qaX k x.1 x.2) fun r2 =>
 (some (r2.1, r2.2.1, r2.2.2.1, r2.2.2.2))
 else
 none
 else
 if ((0 : Int) ≤ (IntKind.wrap .i64 (r1.2.1 - (1 : Int)))) then
 Option.bind (r1.2.2.2.1)[(Int.toNat (IntKind.wrap .i64 (r1.2.1 - (1 : Int))))]? fun x =>
 if ((0 : Int) ≤ r1.2.1) then
 Option.bind (r1.2.2.2.1)[(Int.toNat r1.2.1)]? fun x1 =>
 if ((0 : Int) ≤ (IntKind.wrap .i64 (r1.2.1 - (1 : Int)))) then
 Option.bind (r1.2.2.2.2)[(Int.toNat (IntKind.wrap .i64 (r1.2.1 - (1 : Int))))]? fun x2 =>
 if ((0 : Int) ≤ r1.2.1) then
 Option.bind (r1.2.2.2.2)[(Int.toNat r1.2.1)]? fun x3 =>
 if ((0 : Int) ≤ (IntKind.wrap .i64 (r1.2.1 - (1 : Int)))) then
 Option.bind (r1.2.2.2.2)[(Int.toNat (IntKind.wrap .i64 (r1.2.1 - (1 : Int))))]? fun x4 =>
 Option.bind (qcp k x.1 x.2 x1.1 x1.2 (IntKind.wrap .i64 (r1.1 - x2)) (IntKind.wrap .i64 (x3 - x4))) fun r2 =>
 (some (r2.1, r2.2.1, r2.2.2.1, r2.2.2.2))
 else
 none
 else
 none
 else
 none
 else
 none
 else
 none
def qel : Nat → Int → List (Int × Int) → List Int → Int → Option (Bool × List Int × Bool × List Int)
 | 0, _, _, _, _ => none
 | k + 1, w0, w1, w2, step => qot k w0 w1 w2 step
def qgS : FS := { vs := [.g [.lf (.int .i64), .lf (.sl (.pr (.int .i64) (.int .i64))), .lf (.sl (.int .i64))], .a (.lf (.int .i64))], bs := [] }
def qmJ : List FS := [{ vs := [.a (.ptr 0 0 0)], bs := [.raw [[.lf .bool, .lf (.sl (.int .u32)), .lf .bool, .lf (.sl (.int .u32))]] 4 74 true false] }]
def qti (k : Nat) : Inst := ⟨58, qgS, qmJ, fun x => qel k x.1 x.2.1 x.2.2.1 x.2.2.2⟩
theorem qus (k : Nat) : qp (call cf k) [qfG k, qn3 k] := qA (qmt k) (qA (qw7 k) qT)
def qif : List SS := [{ fr := [(1, .a (.lf (.int .i64))), (2, .a (.ptr 0 0 0)), (5, .a (.lf (.int .i64)))], mem := [(0, some (.raw [[.lf (.int .i64), .lf (.sl (.pr (.int .i64) (.int .i64))), .lf (.sl (.int .i64))]] 3 52 true false))], nx := 1 }]
def qmK : List OS := [⟨some 0, { fr := [(1, .a (.lf (.int .i64))), (2, .a (.ptr 0 0 0)), (5, .a (.lf (.int .i64)))], mem := [(0, some (.raw [[.lf (.int .i64), .lf (.sl (.pr (.int .i64) (.int .i64))), .lf (.sl (.int .i64))]] 3 52 true false))], nx := 1 }⟩]
def qmL (k : Nat) : LInst := ⟨0, qif, qmK, fun x => qca k k x.1 x.2.1 x.2.2.1 x.2.2.2.1 x.2.2.2.2⟩
theorem qAu (k : Nat) : qg (LOk (R := DS OS.D qmK) (fun b _ σ K => LOt Ty (kps 58) 0 b σ K []) cf (call cf k) (kps 58) Tryz.f58.ntmps k 0) 0 (lb Tryz.f58 0) :=
 qA (qA qT (qA qT qT)) qT
theorem qAv (k n : Nat) (x : DS SS.D qif) : qca k (n + 1) x.1 x.2.1 x.2.2.1 x.2.2.2.1 x.2.2.2.2 = qI SS.enc (fun σ => qJ cf (fun f a b K => COt f a b K [qfG k, qn3 k]) (fun b _ σ K => LOt Ty (kps 58) 0 b σ K []) Tryz.f58.ntmps 0 (lb Tryz.f58 0) σ (qQ Ty (kps 58 0) 0 qif qmK fun x => qca k n x.1 x.2.1 x.2.2.1 x.2.2.2.1 x.2.2.2.2)) qif x := by kernel_rfl
theorem qAw (k : Nat) : qae cf (call cf k) (kps 58) Tryz.f58.ntmps k 0 0 (lb Tryz.f58 0) (qmL k) :=
 qu (c := cf) (callF := call cf k) (kp := kps 58) (nt := Tryz.f58.ntmps) (k := k) (p := 0) (b := 0) (x0 := lb Tryz.f58 0) (hs := qif) (os := qmK) (qd (qus k)) (qAu k) (fun n x => qca k n x.1 x.2.1 x.2.2.1 x.2.2.2.1 x.2.2.2.2) (fun _ => rfl) (qAv k)
theorem qAx (k : Nat) : qg (LOk (R := DS FS.D qmJ) (fun b _ σ K => LOt Ty (kps 58) 0 b σ K [qmL k]) cf (call cf k) (cf.keep 58) Tryz.f58.ntmps k qgS.bs.length) 0 (bd Tryz.f58) :=
 qA qT (qA qT (qA (qD (c := cf) (callF := call cf k) (kp := kps 58) (nt := Tryz.f58.ntmps) (k := k) (p := 0) (b := 0) (x0 := lb Tryz.f58 0) (l := [qmL k]) (qA (fun _ => qAw k) qT)) (qA (qA qT (qA qT (qA (qA qT qT) (qA qT (qA (qA qT qT) qT))))) (qA qT qT))))
theorem qAy (k : Nat) (x : qgS.D) : qel (k + 1) x.1 x.2.1 x.2.2.1 x.2.2.2 = qk cf (fun f a b K => COt f a b K [qfG k, qn3 k]) (fun b _ σ K => LOt Ty (kps 58) 0 b σ K [qmL k]) 58 Tryz.f58.ntmps Tryz.f58.results.toList (bd Tryz.f58) (qgS.enc x).1 (qgS.enc x).2 (qo FS.dec qmJ) := by kernel_rfl
theorem qAz : ∀ k, qh (call cf k) (qti k)
 | 0 => fun x y e => absurd (show (none : Option _) = some y from e) (by simp)
 | k + 1 => qe (c := cf) (k := k) (f := 58) (fn := Tryz.f58) (body := bd Tryz.f58) (sh := qgS) (os := qmJ) rfl Tryz.func58 rfl ⟨rfl, Nat.le_of_ble_eq_true rfl⟩ (qd (qus k)) (qAx k) (fun x => qel (k + 1) x.1 x.2.1 x.2.2.1 x.2.2.2) (qAy k)

def qvV (k : Nat) (w0 : Int) (w1 : List (Int × Int)) (w2 : List Int) (step : Int) : Option (Int × Int) :=
 Option.bind (qb9 k w0 w1 w2) fun r =>
 if ((!r) = true) then
 (some ((0 : Int), (40 : Int)))
 else
 if ((decide (step < (0 : Int))) = false) then
 if ((decide (step > (1000000000 : Int))) = true) then
 (some ((0 : Int), (4 : Int)))
 else
 if ((w0 == (1 : Int)) = true) then
 Option.bind (w1)[0]? fun x =>
 Option.bind (qaX k x.1 x.2) fun r1 =>
 Option.bind (qbO k (1000000000 : Int) (1 : Int)) fun r2 =>
 Option.bind (qaB k r1.1 r1.2.1 r1.2.2.1 r1.2.2.2 r2.1 r2.2.1 r2.2.2.1 r2.2.2.2) fun r3 =>
 Option.bind (qaV k r3.1 r3.2.1 r3.2.2.1 r3.2.2.2.1) fun r4 =>
 Option.bind (qcY k r4.1 r4.2.1 r4.2.2.1 r4.2.2.2.1) fun r5 =>
 (some (r5.1, r5.2))
 else
 if ((w0 == (2 : Int)) = true) then
 Option.bind (qdA k w0 w1 w2 step) fun r1 =>
 Option.bind (qbO k (1000000000 : Int) (1 : Int)) fun r2 =>
 Option.bind (qaB k r1.1 r1.2.1 r1.2.2.1 r1.2.2.2 r2.1 r2.2.1 r2.2.2.1 r2.2.2.2) fun r3 =>
 Option.bind (qaV k r3.1 r3.2.1 r3.2.2.1 r3.2.2.2.1) fun r4 =>
 Option.bind (qcY k r4.1 r4.2.1 r4.2.2.1 r4.2.2.2.1) fun r5 =>
 (some (r5.1, r5.2))
 else
 if ((w0 == (3 : Int)) = true) then
 Option.bind (qel k w0 w1 w2 step) fun r1 =>
 Option.bind (qbO k (1000000000 : Int) (1 : Int)) fun r2 =>
 Option.bind (qaB k r1.1 r1.2.1 r1.2.2.1 r1.2.2.2 r2.1 r2.2.1 r2.2.2.1 r2.2.2.2) fun r3 =>
 Option.bind (qaV k r3.1 r3.2.1 r3.2.2.1 r3.2.2.2.1) fun r4 =>
 Option.bind (qcY k r4.1 r4.2.1 r4.2.2.1 r4.2.2.2.1) fun r5 =>
 (some (r5.1, r5.2))
 else
 if ((((List.length w1) : Nat) : Int) = (0 : Int)) then
 none
 else
 if ((0 : Int) ≤ (Int.tmod step (((List.length w1) : Nat) : Int))) then
 Option.bind (w1)[(Int.toNat (Int.tmod step (((List.length w1) : Nat) : Int)))]? fun x =>
 Option.bind (qaX k x.1 x.2) fun r1 =>
 Option.bind (qbO k (1000000000 : Int) (1 : Int)) fun r2 =>
 Option.bind (qaB k r1.1 r1.2.1 r1.2.2.1 r1.2.2.2 r2.1 r2.2.1 r2.2.2.1 r2.2.2.2) fun r3 =>
 Option.bind (qaV k r3.1 r3.2.1 r3.2.2.1 r3.2.2.2.1) fun r4 =>
 Option.bind (qcY k r4.1 r4.2.1 r4.2.2.1 r4.2.2.2.1) fun r5 =>
 (some (r5.1, r5.2))
 else
 none
 else
 (some ((0 : Int), (4 : Int)))
def qdB : Nat → Int → List (Int × Int) → List Int → Int → Option (Int × Int)
 | 0, _, _, _, _ => none
 | k + 1, w0, w1, w2, step => qvV k w0 w1 w2 step
def qjL : FS := { vs := [.g [.lf (.int .i64), .lf (.sl (.pr (.int .i64) (.int .i64))), .lf (.sl (.int .i64))], .a (.lf (.int .i64))], bs := [] }
def qpH : List FS := [{ vs := [.a (.lf (.int .i64)), .a (.lf (.int .i64))], bs := [] }]
def qn4 (k : Nat) : Inst := ⟨22, qjL, qpH, fun x => qdB k x.1 x.2.1 x.2.2.1 x.2.2.2⟩
theorem qEG (k : Nat) : qp (call cf k) [qfU k, qfG k, qq8 k, qra k, qmp k, qvO k, qvU k, qti k] := qA (qoZ k) (qA (qmt k) (qA (qwZ k) (qA (qw1 k) (qA (quq k) (qA (qEc k) (qA (qEF k) (qA (qAz k) qT)))))))
theorem qEH (k : Nat) : qg (LOk (R := DS FS.D qpH) (fun b _ σ K => LOt Ty (kps 22) 0 b σ K []) cf (call cf k) (cf.keep 22) Tryz.f22.ntmps k qjL.bs.length) 0 (bd Tryz.f22) :=
 qA qT (qA (qA qT (qA (qA qT qT) qT)) (qA (qA qT (qA (qA qT qT) qT)) (qA qT (qA (qA qT (qA qT (qA qT (qA qT (qA qT (qA qT (qA qT qT))))))) (qA qT (qA qT qT))))))
theorem qEI (k : Nat) (x : qjL.D) : qdB (k + 1) x.1 x.2.1 x.2.2.1 x.2.2.2 = qk cf (fun f a b K => COt f a b K [qfU k, qfG k, qq8 k, qra k, qmp k, qvO k, qvU k, qti k]) (fun b _ σ K => LOt Ty (kps 22) 0 b σ K []) 22 Tryz.f22.ntmps Tryz.f22.results.toList (bd Tryz.f22) (qjL.enc x).1 (qjL.enc x).2 (qo FS.dec qpH) := by kernel_rfl
theorem qw8 : ∀ k, qh (call cf k) (qn4 k)
 | 0 => fun x y e => absurd (show (none : Option _) = some y from e) (by simp)
 | k + 1 => qe (c := cf) (k := k) (f := 22) (fn := Tryz.f22) (body := bd Tryz.f22) (sh := qjL) (os := qpH) rfl Tryz.func22 rfl ⟨rfl, Nat.le_of_ble_eq_true rfl⟩ (qd (qEG k)) (qEH k) (fun x => qdB (k + 1) x.1 x.2.1 x.2.2.1 x.2.2.2) (qEI k)

def qdn (k : Nat) (rec : List Int → Int → Nat → Int → List Int → Option (Nat × List Int)) (s : List Int) (at1 : Int) (l : Nat) (x : Int) (ls : List Int) : Option (Nat × List Int) :=
 if ((decide (x < (2 : Int))) = true) then
 Option.bind (s)[1]? fun x3 =>
 Option.bind (s)[1]? fun x4 =>
 Option.bind (s)[2]? fun x5 =>
 Option.bind (s)[1]? fun x6 =>
 Option.bind (s)[2]? fun x7 =>
 Option.bind (s)[3]? fun x8 =>
 if (l ≤ (List.length ls)) then
 if (((l + (List.length (List.take 4 (at1 :: ((IntKind.wrap .i64 (at1 + x3)) :: ((IntKind.wrap .i64 ((IntKind.wrap .i64 (at1 + x4)) + x5)) :: ((IntKind.wrap .i64 ((IntKind.wrap .i64 ((IntKind.wrap .i64 (at1 + x6)) + x7)) + x8)) :: []))))))) * 8) ≤ 140737488355328) then
 Option.bind (s)[4]? fun x9 =>
 rec s (IntKind.wrap .i64 (at1 + x9)) (l + (List.length (List.take 4 (at1 :: ((IntKind.wrap .i64 (at1 + x3)) :: ((IntKind.wrap .i64 ((IntKind.wrap .i64 (at1 + x4)) + x5)) :: ((IntKind.wrap .i64 ((IntKind.wrap .i64 ((IntKind.wrap .i64 (at1 + x6)) + x7)) + x8)) :: []))))))) (IntKind.wrap .i64 (x + (1 : Int))) ((List.take l ls) ++ (List.take 4 (at1 :: ((IntKind.wrap .i64 (at1 + x3)) :: ((IntKind.wrap .i64 ((IntKind.wrap .i64 (at1 + x4)) + x5)) :: ((IntKind.wrap .i64 ((IntKind.wrap .i64 ((IntKind.wrap .i64 (at1 + x6)) + x7)) + x8)) :: []))))))
 else
 none
 else
 none
 else
 (some (l, ls))
def qaO (k n : Nat) : List Int → Int → Nat → Int → List Int → Option (Nat × List Int) := Nat.rec (fun _ _ _ _ _ => none) (fun _ r => qdn k r) n
def qoL (k : Nat) (w0 : Int) (w1 : List (Int × Int)) (w2 : List Int) (step : Int) : Option (List Int) :=
 Option.bind (w2)[0]? fun x =>
 if ((decide (step > x)) = true) then
 Option.bind (w2)[4]? fun x1 =>
 if (x1 = (0 : Int)) then
 none
 else
 Option.bind (w2)[4]? fun x2 =>
 Option.bind (qaO k k w2 (IntKind.wrap .i64 (x + (IntKind.wrap .i64 ((IntKind.wrap .i64 (Int.tdiv (IntKind.wrap .i64 (step - x)) x1)) * x2)))) 0 (0 : Int) []) fun r2 =>
 if ((0 + r2.1) ≤ (List.length r2.2)) then
 (some (List.take r2.1 r2.2))
 else
 none
 else
 Option.bind (qaO k k w2 x 0 (0 : Int) []) fun r2 =>
 if ((0 + r2.1) ≤ (List.length r2.2)) then
 (some (List.take r2.1 r2.2))
 else
 none
def qdv : Nat → Int → List (Int × Int) → List Int → Int → Option (List Int)
 | 0, _, _, _, _ => none
 | k + 1, w0, w1, w2, step => qoL k w0 w1 w2 step
def qjM : FS := { vs := [.g [.lf (.int .i64), .lf (.sl (.pr (.int .i64) (.int .i64))), .lf (.sl (.int .i64))], .a (.lf (.int .i64))], bs := [] }
def qpI : List FS := [{ vs := [.a (.lf (.sl (.int .i64)))], bs := [] }]
def qre (k : Nat) : Inst := ⟨64, qjM, qpI, fun x => qdv k x.1 x.2.1 x.2.2.1 x.2.2.2⟩
theorem qw9 (k : Nat) : qp (call cf k) [] := True.intro
def qig : List SS := [{ fr := [(5, .a (.lf (.sl (.int .i64)))), (6, .a (.lf (.int .i64))), (7, .a (.smz 0)), (29, .a (.lf (.int .i64)))], mem := [(0, some (.arr (.int .i64) 1 3 false))], nx := 1 }]
def qmM : List OS := [⟨some 0, { fr := [(7, .a (.smz 0))], mem := [(0, some (.arr (.int .i64) 1 3 false))], nx := 1 }⟩]
def qmN (k : Nat) : LInst := ⟨0, qig, qmM, fun x => qaO k k x.1 x.2.1 x.2.2.1 x.2.2.2.1 x.2.2.2.2⟩
theorem qAA (k : Nat) : qg (LOk (R := DS OS.D qmM) (fun b _ σ K => LOt Ty (kps 64) 0 b σ K []) cf (call cf k) (kps 64) Tryz.f64.ntmps k 0) 0 (lb Tryz.f64 0) :=
 qA qT (qA (qA qT qT) (qA (qA qT qT) qT))
theorem qAB (k n : Nat) (x : DS SS.D qig) : qaO k (n + 1) x.1 x.2.1 x.2.2.1 x.2.2.2.1 x.2.2.2.2 = qI SS.enc (fun σ => qJ cf (fun f a b K => COt f a b K []) (fun b _ σ K => LOt Ty (kps 64) 0 b σ K []) Tryz.f64.ntmps 0 (lb Tryz.f64 0) σ (qQ Ty (kps 64 0) 0 qig qmM fun x => qaO k n x.1 x.2.1 x.2.2.1 x.2.2.2.1 x.2.2.2.2)) qig x := by kernel_rfl
theorem qAC (k : Nat) : qae cf (call cf k) (kps 64) Tryz.f64.ntmps k 0 0 (lb Tryz.f64 0) (qmN k) :=
 qu (c := cf) (callF := call cf k) (kp := kps 64) (nt := Tryz.f64.ntmps) (k := k) (p := 0) (b := 0) (x0 := lb Tryz.f64 0) (hs := qig) (os := qmM) (qd (qw9 k)) (qAA k) (fun n x => qaO k n x.1 x.2.1 x.2.2.1 x.2.2.2.1 x.2.2.2.2) (fun _ => rfl) (qAB k)
theorem qEJ (k : Nat) : qg (LOk (R := DS FS.D qpI) (fun b _ σ K => LOt Ty (kps 64) 0 b σ K [qmN k]) cf (call cf k) (cf.keep 64) Tryz.f64.ntmps k qjM.bs.length) 0 (bd Tryz.f64) :=
 qA qT (qA qT (qA qT (qA (qA qT (qA qT qT)) (qA qT (qA (qA qT (qD (c := cf) (callF := call cf k) (kp := kps 64) (nt := Tryz.f64.ntmps) (k := k) (p := 0) (b := 0) (x0 := lb Tryz.f64 0) (l := [qmN k]) (qA (fun _ => qAC k) qT))) (qA qT qT))))))
theorem qEK (k : Nat) (x : qjM.D) : qdv (k + 1) x.1 x.2.1 x.2.2.1 x.2.2.2 = qk cf (fun f a b K => COt f a b K []) (fun b _ σ K => LOt Ty (kps 64) 0 b σ K [qmN k]) 64 Tryz.f64.ntmps Tryz.f64.results.toList (bd Tryz.f64) (qjM.enc x).1 (qjM.enc x).2 (qo FS.dec qpI) := by kernel_rfl
theorem qEL : ∀ k, qh (call cf k) (qre k)
 | 0 => fun x y e => absurd (show (none : Option _) = some y from e) (by simp)
 | k + 1 => qe (c := cf) (k := k) (f := 64) (fn := Tryz.f64) (body := bd Tryz.f64) (sh := qjM) (os := qpI) rfl Tryz.func64 rfl ⟨rfl, Nat.le_of_ble_eq_true rfl⟩ (qd (qw9 k)) (qEJ k) (fun x => qdv (k + 1) x.1 x.2.1 x.2.2.1 x.2.2.2) (qEK k)

def qdU (k : Nat) (rec : Int → List Int → Int → Int → Option ((Int × Bool) ⊕ (Unit))) (step : Int) (x : List Int) (x1 : Int) (x2 : Int) : Option ((Int × Bool) ⊕ (Unit)) :=
 if ((decide (x2 < x1)) = true) then
 if ((0 : Int) ≤ x2) then
 Option.bind (x)[(Int.toNat x2)]? fun x3 =>
 if ((decide (x3 > step)) = true) then
 if ((decide (x3 ≤ (1000000000 : Int))) = true) then
 (some (Sum.inl (x3, true)))
 else
 rec step x x1 (IntKind.wrap .i64 (x2 + (1 : Int)))
 else
 rec step x x1 (IntKind.wrap .i64 (x2 + (1 : Int)))
 else
 none
 else
 (some (Sum.inr ()))
def qbw (k n : Nat) : Int → List Int → Int → Int → Option ((Int × Bool) ⊕ (Unit)) := Nat.rec (fun _ _ _ _ => none) (fun _ r => qdU k r) n
def qcK (k : Nat) (rec : Int → Nat → Int → Int → List Int → Option ((Int × Bool × List Int) ⊕ (List Int))) (step : Int) (x : Nat) (x1 : Int) (x2 : Int) (s : List Int) : Option ((Int × Bool × List Int) ⊕ (List Int)) :=
 if ((decide (x2 < x1)) = true) then
 if (((0 : Int) ≤ x2) ∧ (x2 < ((x : Nat) : Int))) then
 Option.bind (s)[(0 + (Int.toNat x2))]? fun x3 =>
 if ((decide (x3 > step)) = true) then
 if ((decide (x3 ≤ (1000000000 : Int))) = true) then
 (some (Sum.inl (x3, true, s)))
 else
 rec step x x1 (IntKind.wrap .i64 (x2 + (1 : Int))) s
 else
 rec step x x1 (IntKind.wrap .i64 (x2 + (1 : Int))) s
 else
 none
 else
 (some (Sum.inr s))
def qaU (k n : Nat) : Int → Nat → Int → Int → List Int → Option ((Int × Bool × List Int) ⊕ (List Int)) := Nat.rec (fun _ _ _ _ _ => none) (fun _ r => qcK k r) n
def qtj (k : Nat) (w0 : Int) (w1 : List (Int × Int)) (w2 : List Int) (step : Int) : Option (Int × Bool) :=
 Option.bind (qb9 k w0 w1 w2) fun r1 =>
 if ((!r1) = false) then
 if ((decide (step < (0 : Int))) = false) then
 if ((decide (step > (1000000000 : Int))) = true) then
 (some ((0 : Int), false))
 else
 if ((w0 == (2 : Int)) = true) then
 Option.bind (qdv k w0 w1 w2 step) fun r2 =>
 Option.bind (qbw k k step r2 (((List.length r2) : Nat) : Int) (0 : Int)) fun r3 =>
 qc r3
 (fun r3 =>
 (some (r3.1, r3.2)))
 (fun r3 =>
 (some ((0 : Int), false)))
 else
 if ((w0 == (3 : Int)) = true) then
 Option.bind (qbw k k step w2 (((List.length w2) : Nat) : Int) (0 : Int)) fun r2 =>
 qc r2
 (fun r2 =>
 (some (r2.1, r2.2)))
 (fun r2 =>
 (some ((0 : Int), false)))
 else
 if ((w0 == (4 : Int)) = true) then
 Option.bind (qaU k k step 1 (1 : Int) (0 : Int) ((IntKind.wrap .i64 (step + (1 : Int))) :: [])) fun r2 =>
 qc r2
 (fun r2 =>
 (some (r2.1, r2.2.1)))
 (fun r2 =>
 (some ((0 : Int), false)))
 else
 Option.bind (qaU k k step 0 (0 : Int) (0 : Int) []) fun r2 =>
 qc r2
 (fun r2 =>
 (some (r2.1, r2.2.1)))
 (fun r2 =>
 (some ((0 : Int), false)))
 else
 (some ((0 : Int), false))
 else
 (some ((0 : Int), false))
def qcZ : Nat → Int → List (Int × Int) → List Int → Int → Option (Int × Bool)
 | 0, _, _, _, _ => none
 | k + 1, w0, w1, w2, step => qtj k w0 w1 w2 step
def qjN : FS := { vs := [.g [.lf (.int .i64), .lf (.sl (.pr (.int .i64) (.int .i64))), .lf (.sl (.int .i64))], .a (.lf (.int .i64))], bs := [] }
def qpJ : List FS := [{ vs := [.a (.lf (.int .i64)), .a (.lf .bool)], bs := [] }]
def qn5 (k : Nat) : Inst := ⟨24, qjN, qpJ, fun x => qcZ k x.1 x.2.1 x.2.2.1 x.2.2.2⟩
theorem qtk (k : Nat) : qp (call cf k) [qfU k, qre k] := qA (qoZ k) (qA (qEL k) qT)
def qih : List SS := [{ fr := [(1, .a (.lf (.int .i64))), (36, .a (.lf (.sl (.int .i64)))), (37, .a (.lf (.int .i64))), (38, .a (.lf (.int .i64)))], mem := [], nx := 0 }]
def qmO : List OS := [⟨none, { fr := [(4, .a (.lf (.int .i64))), (5, .a (.lf .bool))], mem := [], nx := 0 }⟩, ⟨some 1, { fr := [], mem := [], nx := 0 }⟩]
def qgT (k : Nat) : LInst := ⟨1, qih, qmO, fun x => qbw k k x.1 x.2.1 x.2.2.1 x.2.2.2⟩
theorem qAD (k : Nat) : qg (LOk (R := DS OS.D qmO) (fun b _ σ K => LOt Ty (kps 24) 0 b σ K []) cf (call cf k) (kps 24) Tryz.f24.ntmps k 0) 1 (lb Tryz.f24 0) :=
 qA qT (qA (qA qT qT) (qA (qA qT (qA qT (qA (qA qT qT) qT))) qT))
theorem qAE (k n : Nat) (x : DS SS.D qih) : qbw k (n + 1) x.1 x.2.1 x.2.2.1 x.2.2.2 = qI SS.enc (fun σ => qJ cf (fun f a b K => COt f a b K [qfU k, qre k]) (fun b _ σ K => LOt Ty (kps 24) 0 b σ K []) Tryz.f24.ntmps 1 (lb Tryz.f24 0) σ (qQ Ty (kps 24 1) 0 qih qmO fun x => qbw k n x.1 x.2.1 x.2.2.1 x.2.2.2)) qih x := by kernel_rfl
theorem qAF (k : Nat) : qae cf (call cf k) (kps 24) Tryz.f24.ntmps k 0 1 (lb Tryz.f24 0) (qgT k) :=
 qu (c := cf) (callF := call cf k) (kp := kps 24) (nt := Tryz.f24.ntmps) (k := k) (p := 0) (b := 1) (x0 := lb Tryz.f24 0) (hs := qih) (os := qmO) (qd (qtk k)) (qAD k) (fun n x => qbw k n x.1 x.2.1 x.2.2.1 x.2.2.2) (fun _ => rfl) (qAE k)
def qii : List SS := [{ fr := [(1, .a (.lf (.int .i64))), (36, .a (.smz 0)), (37, .a (.lf (.int .i64))), (38, .a (.lf (.int .i64)))], mem := [(0, some (.arr (.int .i64) 1 3 false))], nx := 1 }]
def qmP : List OS := [⟨none, { fr := [(4, .a (.lf (.int .i64))), (5, .a (.lf .bool))], mem := [(0, some (.arr (.int .i64) 1 3 false))], nx := 1 }⟩, ⟨some 1, { fr := [], mem := [(0, some (.arr (.int .i64) 1 3 false))], nx := 1 }⟩]
def qmQ (k : Nat) : LInst := ⟨1, qii, qmP, fun x => qaU k k x.1 x.2.1 x.2.2.1 x.2.2.2.1 x.2.2.2.2⟩
theorem qAG (k : Nat) : qg (LOk (R := DS OS.D qmP) (fun b _ σ K => LOt Ty (kps 24) 0 b σ K [qgT k]) cf (call cf k) (kps 24) Tryz.f24.ntmps k 0) 1 (lb Tryz.f24 0) :=
 qA qT (qA (qA qT qT) (qA (qA qT (qA qT (qA (qA qT qT) qT))) qT))
theorem qAH (k n : Nat) (x : DS SS.D qii) : qaU k (n + 1) x.1 x.2.1 x.2.2.1 x.2.2.2.1 x.2.2.2.2 = qI SS.enc (fun σ => qJ cf (fun f a b K => COt f a b K [qfU k, qre k]) (fun b _ σ K => LOt Ty (kps 24) 0 b σ K [qgT k]) Tryz.f24.ntmps 1 (lb Tryz.f24 0) σ (qQ Ty (kps 24 1) 0 qii qmP fun x => qaU k n x.1 x.2.1 x.2.2.1 x.2.2.2.1 x.2.2.2.2)) qii x := by kernel_rfl
theorem qAI (k : Nat) : qae cf (call cf k) (kps 24) Tryz.f24.ntmps k 0 1 (lb Tryz.f24 0) (qmQ k) :=
 qu (c := cf) (callF := call cf k) (kp := kps 24) (nt := Tryz.f24.ntmps) (k := k) (p := 0) (b := 1) (x0 := lb Tryz.f24 0) (hs := qii) (os := qmP) (qd (qtk k)) (qAG k) (fun n x => qaU k n x.1 x.2.1 x.2.2.1 x.2.2.2.1 x.2.2.2.2) (fun _ => rfl) (qAH k)
theorem qEM (k : Nat) : qg (LOk (R := DS FS.D qpJ) (fun b _ σ K => LOt Ty (kps 24) 0 b σ K [qgT k, qmQ k]) cf (call cf k) (cf.keep 24) Tryz.f24.ntmps k qjN.bs.length) 0 (bd Tryz.f24) :=
 qA qT (qA (qA qT (qA (qA qT qT) qT)) (qA qT (qA (qA qT (qA qT (qA qT (qA qT (qA qT (qA qT (qA qT qT))))))) (qA (qA qT (qD (c := cf) (callF := call cf k) (kp := kps 24) (nt := Tryz.f24.ntmps) (k := k) (p := 0) (b := 1) (x0 := lb Tryz.f24 0) (l := [qgT k, qmQ k]) (qA (fun _ => qAF k) (qA (fun _ => qAI k) qT)))) (qA qT qT)))))
theorem qEN (k : Nat) (x : qjN.D) : qcZ (k + 1) x.1 x.2.1 x.2.2.1 x.2.2.2 = qk cf (fun f a b K => COt f a b K [qfU k, qre k]) (fun b _ σ K => LOt Ty (kps 24) 0 b σ K [qgT k, qmQ k]) 24 Tryz.f24.ntmps Tryz.f24.results.toList (bd Tryz.f24) (qjN.enc x).1 (qjN.enc x).2 (qo FS.dec qpJ) := by kernel_rfl
theorem qxa : ∀ k, qh (call cf k) (qn5 k)
 | 0 => fun x y e => absurd (show (none : Option _) = some y from e) (by simp)
 | k + 1 => qe (c := cf) (k := k) (f := 24) (fn := Tryz.f24) (body := bd Tryz.f24) (sh := qjN) (os := qpJ) rfl Tryz.func24 rfl ⟨rfl, Nat.le_of_ble_eq_true rfl⟩ (qd (qtk k)) (qEM k) (fun x => qcZ (k + 1) x.1 x.2.1 x.2.2.1 x.2.2.2) (qEN k)

def qkE (k : Nat) : Option (Bool) :=
 Option.bind (qdB k (3 : Int) (List.take 2 (((0 : Int), (0 : Int)) :: (((1 : Int), (0 : Int)) :: []))) (List.take 2 ((1 : Int) :: ((4 : Int) :: []))) (2 : Int)) fun r =>
 Option.bind (qcZ k (3 : Int) (List.take 2 (((0 : Int), (0 : Int)) :: (((1 : Int), (0 : Int)) :: []))) (List.take 2 ((1 : Int) :: ((4 : Int) :: []))) (1 : Int)) fun r1 =>
 if ((r.2 == (0 : Int)) = true) then
 if ((r.1 == (333333333 : Int)) = true) then
 if (r1.2 = true) then
 if ((r1.1 == (4 : Int)) = true) then
 Option.bind (qb9 k (3 : Int) (List.take 2 (((0 : Int), (0 : Int)) :: (((1 : Int), (0 : Int)) :: []))) (List.take 2 ((1 : Int) :: ((4 : Int) :: [])))) fun r2 =>
 if (r2 = true) then
 Option.bind (qb9 k (0 : Int) [] []) fun r3 =>
 (some (!r3))
 else
 (some false)
 else
 (some false)
 else
 (some false)
 else
 (some false)
 else
 (some false)
def qcj : Nat → Option (Bool)
 | 0 => none
 | k + 1 => qkE k
def qjO : FS := { vs := [], bs := [] }
def qpK : List FS := [{ vs := [.a (.lf .bool)], bs := [] }]
def qtl (k : Nat) : Inst := ⟨18, qjO, qpK, fun x => qcj k⟩
theorem qEO (k : Nat) : qp (call cf k) [qn4 k, qn5 k, qfU k] := qA (qw8 k) (qA (qxa k) (qA (qoZ k) qT))
theorem qEP (k : Nat) : qg (LOk (R := DS FS.D qpK) (fun b _ σ K => LOt Ty (kps 18) 0 b σ K []) cf (call cf k) (cf.keep 18) Tryz.f18.ntmps k qjO.bs.length) 0 (bd Tryz.f18) :=
 qA qT (qA qT (qA qT (qA qT (qA qT qT))))
theorem qEQ (k : Nat) (x : qjO.D) : qcj (k + 1) = qk cf (fun f a b K => COt f a b K [qn4 k, qn5 k, qfU k]) (fun b _ σ K => LOt Ty (kps 18) 0 b σ K []) 18 Tryz.f18.ntmps Tryz.f18.results.toList (bd Tryz.f18) (qjO.enc x).1 (qjO.enc x).2 (qo FS.dec qpK) := by kernel_rfl
theorem qER : ∀ k, qh (call cf k) (qtl k)
 | 0 => fun x y e => absurd (show (none : Option _) = some y from e) (by simp)
 | k + 1 => qe (c := cf) (k := k) (f := 18) (fn := Tryz.f18) (body := bd Tryz.f18) (sh := qjO) (os := qpK) rfl Tryz.func18 rfl ⟨rfl, Nat.le_of_ble_eq_true rfl⟩ (qd (qEO k)) (qEP k) (fun x => qcj (k + 1)) (qEQ k)

def qez (k : Nat) (n0 : Int) (n1 : Int) : Option (Bool) :=
 if ((n0 == (0 : Int)) = false) then
 if (((Int.tmod n0 (10 : Int)) == (0 : Int)) = true) then
 if ((n0 == (0 : Int)) = true) then
 (some (n1 == (0 : Int)))
 else
 (some false)
 else
 if ((decide (n0 ≤ (999999999 : Int))) = true) then
 if ((decide (n0 ≥ (-(999999999 : Int)))) = true) then
 if ((decide (n1 ≤ (9 : Int))) = true) then
 (some (decide (n1 ≥ (-(18 : Int)))))
 else
 (some false)
 else
 (some false)
 else
 (some false)
 else
 if ((n0 == (0 : Int)) = true) then
 (some (n1 == (0 : Int)))
 else
 (some false)
def qck : Nat → Int → Int → Option (Bool)
 | 0, _, _ => none
 | k + 1, n0, n1 => qez k n0 n1
def qjP : FS := { vs := [.g [.lf (.int .i64), .lf (.int .i64)]], bs := [] }
def qpL : List FS := [{ vs := [.a (.lf .bool)], bs := [] }]
def qrf (k : Nat) : Inst := ⟨47, qjP, qpL, fun x => qck k x.1 x.2⟩
theorem qES (k : Nat) : qp (call cf k) [] := True.intro
theorem qET (k : Nat) : qg (LOk (R := DS FS.D qpL) (fun b _ σ K => LOt Ty (kps 47) 0 b σ K []) cf (call cf k) (cf.keep 47) Tryz.f47.ntmps k qjP.bs.length) 0 (bd Tryz.f47) :=
 qA qT (qA (qA qT (qA (qA qT qT) qT)) (qA qT qT))
theorem qEU (k : Nat) (x : qjP.D) : qck (k + 1) x.1 x.2 = qk cf (fun f a b K => COt f a b K []) (fun b _ σ K => LOt Ty (kps 47) 0 b σ K []) 47 Tryz.f47.ntmps Tryz.f47.results.toList (bd Tryz.f47) (qjP.enc x).1 (qjP.enc x).2 (qo FS.dec qpL) := by kernel_rfl
theorem qEV : ∀ k, qh (call cf k) (qrf k)
 | 0 => fun x y e => absurd (show (none : Option _) = some y from e) (by simp)
 | k + 1 => qe (c := cf) (k := k) (f := 47) (fn := Tryz.f47) (body := bd Tryz.f47) (sh := qjP) (os := qpL) rfl Tryz.func47 rfl ⟨rfl, Nat.le_of_ble_eq_true rfl⟩ (qd (qES k)) (qET k) (fun x => qck (k + 1) x.1 x.2) (qEU k)


end
end Go.Proofs.YtbhnafdmilfobaaGreat.Am

/- Printed functions: each says what the typed machine says of the program -/
set_option linter.unusedVariables false
set_option maxRecDepth 100000
namespace Go.Proofs.YtbhnafdmilfobaaGreat.Am
open Go
noncomputable section

def qbg (k : Nat) (rec : Int → Bool → Nat → Bool → Nat → List Int → List Int → Option (Bool × Nat × Bool × Nat × List Int × List Int)) (u : Int) (x0 : Bool) (x1 : Nat) (a0 : Bool) (a1 : Nat) (m : List Int) (m1 : List Int) : Option (Bool × Nat × Bool × Nat × List Int × List Int) :=
 if ((decide (u > (0 : Int))) = true) then
 if (a1 ≤ (List.length m1)) then
 if (((a1 + (List.length (List.take 1 ((IntKind.wrap .i64 (Int.tmod u (65536 : Int))) :: [])))) * 8) ≤ 140737488355328) then
 rec (IntKind.wrap .u64 (Int.tdiv u (65536 : Int))) x0 x1 a0 (a1 + (List.length (List.take 1 ((IntKind.wrap .i64 (Int.tmod u (65536 : Int))) :: [])))) m ((List.take a1 m1) ++ (List.take 1 ((IntKind.wrap .i64 (Int.tmod u (65536 : Int))) :: [])))
 else
 none
 else
 none
 else
 (some (x0, x1, a0, a1, m, m1))
def qaf (k n : Nat) : Int → Bool → Nat → Bool → Nat → List Int → List Int → Option (Bool × Nat × Bool × Nat × List Int × List Int) := Nat.rec (fun _ _ _ _ _ _ _ => none) (fun _ r => qbg k r) n
def qdo (k : Nat) (v : Int) : Option (Bool × List Int) :=
 if ((decide (v < (0 : Int))) = true) then
 Option.bind (qaf k k (IntKind.wrap .u64 ((0 : Int) - (IntKind.wrap .u64 v))) false 0 true 0 [] []) fun r6 =>
 if ((0 + r6.2.2.2.1) ≤ (List.length r6.2.2.2.2.2)) then
 (some (r6.2.2.1, (List.take r6.2.2.2.1 r6.2.2.2.2.2)))
 else
 none
 else
 Option.bind (qaf k k (IntKind.wrap .u64 v) false 0 false 0 [] []) fun r6 =>
 if ((0 + r6.2.2.2.1) ≤ (List.length r6.2.2.2.2.2)) then
 (some (r6.2.2.1, (List.take r6.2.2.2.1 r6.2.2.2.2.2)))
 else
 none
def qaR : Nat → Int → Option (Bool × List Int)
 | 0, _ => none
 | k + 1, v => qdo k v
def qjQ : FS := { vs := [.a (.lf (.int .i64))], bs := [] }
def qpM : List FS := [{ vs := [.g [.lf .bool, .lf (.sl (.int .i64))]], bs := [] }]
def qij (k : Nat) : Inst := ⟨94, qjQ, qpM, fun x => qaR k x⟩
theorem qxb (k : Nat) : qp (call cf k) [] := True.intro
def qik : List SS := [{ fr := [(2, .a (.ptr 0 0 0)), (3, .a (.ptr 1 0 0)), (4, .a (.lf (.int .u64)))], mem := [(0, some (.raw [[.lf .bool, .smz 2]] 2 81 false false)), (1, some (.raw [[.lf .bool, .smz 3]] 2 81 false false)), (2, some (.arr (.int .i64) 1 3 false)), (3, some (.arr (.int .i64) 1 3 false))], nx := 4 }]
def qmR : List OS := [⟨some 0, { fr := [(2, .a (.ptr 0 0 0)), (3, .a (.ptr 1 0 0))], mem := [(0, some (.raw [[.lf .bool, .smz 2]] 2 81 false false)), (1, some (.raw [[.lf .bool, .smz 3]] 2 81 false false)), (2, some (.arr (.int .i64) 1 3 false)), (3, some (.arr (.int .i64) 1 3 false))], nx := 4 }⟩]
def qmS (k : Nat) : LInst := ⟨0, qik, qmR, fun x => qaf k k x.1 x.2.1 x.2.2.1 x.2.2.2.1 x.2.2.2.2.1 x.2.2.2.2.2.1 x.2.2.2.2.2.2⟩
theorem qAJ (k : Nat) : qg (LOk (R := DS OS.D qmR) (fun b _ σ K => LOt Ty (kps 94) 0 b σ K []) cf (call cf k) (kps 94) Tryz.f94.ntmps k 0) 0 (lb Tryz.f94 0) :=
 qA (qA qT (qA qT qT)) (qA qT qT)
theorem qAK (k n : Nat) (x : DS SS.D qik) : qaf k (n + 1) x.1 x.2.1 x.2.2.1 x.2.2.2.1 x.2.2.2.2.1 x.2.2.2.2.2.1 x.2.2.2.2.2.2 = qI SS.enc (fun σ => qJ cf (fun f a b K => COt f a b K []) (fun b _ σ K => LOt Ty (kps 94) 0 b σ K []) Tryz.f94.ntmps 0 (lb Tryz.f94 0) σ (qQ Ty (kps 94 0) 0 qik qmR fun x => qaf k n x.1 x.2.1 x.2.2.1 x.2.2.2.1 x.2.2.2.2.1 x.2.2.2.2.2.1 x.2.2.2.2.2.2)) qik x := by kernel_rfl
theorem qAL (k : Nat) : qae cf (call cf k) (kps 94) Tryz.f94.ntmps k 0 0 (lb Tryz.f94 0) (qmS k) :=
 qu (c := cf) (callF := call cf k) (kp := kps 94) (nt := Tryz.f94.ntmps) (k := k) (p := 0) (b := 0) (x0 := lb Tryz.f94 0) (hs := qik) (os := qmR) (qd (qxb k)) (qAJ k) (fun n x => qaf k n x.1 x.2.1 x.2.2.1 x.2.2.2.1 x.2.2.2.2.1 x.2.2.2.2.2.1 x.2.2.2.2.2.2) (fun _ => rfl) (qAK k)
theorem qEW (k : Nat) : qg (LOk (R := DS FS.D qpM) (fun b _ σ K => LOt Ty (kps 94) 0 b σ K [qmS k]) cf (call cf k) (cf.keep 94) Tryz.f94.ntmps k qjQ.bs.length) 0 (bd Tryz.f94) :=
 qA qT (qA qT (qA qT (qA (qA qT (qA (qA qT qT) qT)) (qA (qD (c := cf) (callF := call cf k) (kp := kps 94) (nt := Tryz.f94.ntmps) (k := k) (p := 0) (b := 0) (x0 := lb Tryz.f94 0) (l := [qmS k]) (qA (fun _ => qAL k) qT)) (qA qT qT)))))
theorem qEX (k : Nat) (x : qjQ.D) : qaR (k + 1) x = qk cf (fun f a b K => COt f a b K []) (fun b _ σ K => LOt Ty (kps 94) 0 b σ K [qmS k]) 94 Tryz.f94.ntmps Tryz.f94.results.toList (bd Tryz.f94) (qjQ.enc x).1 (qjQ.enc x).2 (qo FS.dec qpM) := by kernel_rfl
theorem qtm : ∀ k, qh (call cf k) (qij k)
 | 0 => fun x y e => absurd (show (none : Option _) = some y from e) (by simp)
 | k + 1 => qe (c := cf) (k := k) (f := 94) (fn := Tryz.f94) (body := bd Tryz.f94) (sh := qjQ) (os := qpM) rfl Tryz.func94 rfl ⟨rfl, Nat.le_of_ble_eq_true rfl⟩ (qd (qxb k)) (qEW k) (fun x => qaR (k + 1) x) (qEX k)

def qa3 (k : Nat) (rec : Int → Bool → Nat → Bool → Nat → List Int → List Int → Option (Bool × Nat × Bool × Nat × List Int × List Int)) (v : Int) (x0 : Bool) (x1 : Nat) (a0 : Bool) (a1 : Nat) (m : List Int) (m1 : List Int) : Option (Bool × Nat × Bool × Nat × List Int × List Int) :=
 if ((decide (v > (0 : Int))) = true) then
 if (a1 ≤ (List.length m1)) then
 if (((a1 + (List.length (List.take 1 ((Int.tmod v (65536 : Int)) :: [])))) * 8) ≤ 140737488355328) then
 rec (IntKind.wrap .i64 (Int.tdiv v (65536 : Int))) x0 x1 a0 (a1 + (List.length (List.take 1 ((Int.tmod v (65536 : Int)) :: [])))) m ((List.take a1 m1) ++ (List.take 1 ((Int.tmod v (65536 : Int)) :: [])))
 else
 none
 else
 none
 else
 (some (x0, x1, a0, a1, m, m1))
def qaa (k n : Nat) : Int → Bool → Nat → Bool → Nat → List Int → List Int → Option (Bool × Nat × Bool × Nat × List Int × List Int) := Nat.rec (fun _ _ _ _ _ _ _ => none) (fun _ r => qa3 k r) n
def qdd (k : Nat) (v : Int) : Option (Bool × List Int) :=
 if ((decide (v < (0 : Int))) = true) then
 Option.bind (qaa k k (IntKind.wrap .i64 ((0 : Int) - v)) false 0 true 0 [] []) fun r7 =>
 if ((0 + r7.2.2.2.1) ≤ (List.length r7.2.2.2.2.2)) then
 (some (r7.2.2.1, (List.take r7.2.2.2.1 r7.2.2.2.2.2)))
 else
 none
 else
 Option.bind (qaa k k v false 0 false 0 [] []) fun r7 =>
 if ((0 + r7.2.2.2.1) ≤ (List.length r7.2.2.2.2.2)) then
 (some (r7.2.2.1, (List.take r7.2.2.2.1 r7.2.2.2.2.2)))
 else
 none
def qz : Nat → Int → Option (Bool × List Int)
 | 0, _ => none
 | k + 1, v => qdd k v
def qjR : FS := { vs := [.a (.lf (.int .i64))], bs := [] }
def qpN : List FS := [{ vs := [.g [.lf .bool, .lf (.sl (.int .i64))]], bs := [] }]
def qeA (k : Nat) : Inst := ⟨92, qjR, qpN, fun x => qz k x⟩
theorem qxc (k : Nat) : qp (call cf k) [] := True.intro
def qil : List SS := [{ fr := [(0, .a (.lf (.int .i64))), (2, .a (.ptr 0 0 0)), (3, .a (.ptr 1 0 0))], mem := [(0, some (.raw [[.lf .bool, .smz 2]] 2 81 false false)), (1, some (.raw [[.lf .bool, .smz 3]] 2 81 false false)), (2, some (.arr (.int .i64) 1 3 false)), (3, some (.arr (.int .i64) 1 3 false))], nx := 4 }]
def qmT : List OS := [⟨some 0, { fr := [(2, .a (.ptr 0 0 0)), (3, .a (.ptr 1 0 0))], mem := [(0, some (.raw [[.lf .bool, .smz 2]] 2 81 false false)), (1, some (.raw [[.lf .bool, .smz 3]] 2 81 false false)), (2, some (.arr (.int .i64) 1 3 false)), (3, some (.arr (.int .i64) 1 3 false))], nx := 4 }⟩]
def qmU (k : Nat) : LInst := ⟨0, qil, qmT, fun x => qaa k k x.1 x.2.1 x.2.2.1 x.2.2.2.1 x.2.2.2.2.1 x.2.2.2.2.2.1 x.2.2.2.2.2.2⟩
theorem qAM (k : Nat) : qg (LOk (R := DS OS.D qmT) (fun b _ σ K => LOt Ty (kps 92) 0 b σ K []) cf (call cf k) (kps 92) Tryz.f92.ntmps k 0) 0 (lb Tryz.f92 0) :=
 qA (qA qT (qA qT qT)) (qA qT qT)
theorem qAN (k n : Nat) (x : DS SS.D qil) : qaa k (n + 1) x.1 x.2.1 x.2.2.1 x.2.2.2.1 x.2.2.2.2.1 x.2.2.2.2.2.1 x.2.2.2.2.2.2 = qI SS.enc (fun σ => qJ cf (fun f a b K => COt f a b K []) (fun b _ σ K => LOt Ty (kps 92) 0 b σ K []) Tryz.f92.ntmps 0 (lb Tryz.f92 0) σ (qQ Ty (kps 92 0) 0 qil qmT fun x => qaa k n x.1 x.2.1 x.2.2.1 x.2.2.2.1 x.2.2.2.2.1 x.2.2.2.2.2.1 x.2.2.2.2.2.2)) qil x := by kernel_rfl
theorem qAO (k : Nat) : qae cf (call cf k) (kps 92) Tryz.f92.ntmps k 0 0 (lb Tryz.f92 0) (qmU k) :=
 qu (c := cf) (callF := call cf k) (kp := kps 92) (nt := Tryz.f92.ntmps) (k := k) (p := 0) (b := 0) (x0 := lb Tryz.f92 0) (hs := qil) (os := qmT) (qd (qxc k)) (qAM k) (fun n x => qaa k n x.1 x.2.1 x.2.2.1 x.2.2.2.1 x.2.2.2.2.1 x.2.2.2.2.2.1 x.2.2.2.2.2.2) (fun _ => rfl) (qAN k)
theorem qEY (k : Nat) : qg (LOk (R := DS FS.D qpN) (fun b _ σ K => LOt Ty (kps 92) 0 b σ K [qmU k]) cf (call cf k) (cf.keep 92) Tryz.f92.ntmps k qjR.bs.length) 0 (bd Tryz.f92) :=
 qA qT (qA qT (qA (qA qT (qA (qA qT qT) qT)) (qA (qD (c := cf) (callF := call cf k) (kp := kps 92) (nt := Tryz.f92.ntmps) (k := k) (p := 0) (b := 0) (x0 := lb Tryz.f92 0) (l := [qmU k]) (qA (fun _ => qAO k) qT)) (qA qT qT))))
theorem qEZ (k : Nat) (x : qjR.D) : qz (k + 1) x = qk cf (fun f a b K => COt f a b K []) (fun b _ σ K => LOt Ty (kps 92) 0 b σ K [qmU k]) 92 Tryz.f92.ntmps Tryz.f92.results.toList (bd Tryz.f92) (qjR.enc x).1 (qjR.enc x).2 (qo FS.dec qpN) := by kernel_rfl
theorem qjS : ∀ k, qh (call cf k) (qeA k)
 | 0 => fun x y e => absurd (show (none : Option _) = some y from e) (by simp)
 | k + 1 => qe (c := cf) (k := k) (f := 92) (fn := Tryz.f92) (body := bd Tryz.f92) (sh := qjR) (os := qpN) rfl Tryz.func92 rfl ⟨rfl, Nat.le_of_ble_eq_true rfl⟩ (qd (qxc k)) (qEY k) (fun x => qz (k + 1) x) (qEZ k)

def qbJ (k : Nat) (rec : Nat → Int → List Int → Option (Nat × Int × List Int)) (d : Nat) (n : Int) (ds : List Int) : Option (Nat × Int × List Int) :=
 if ((decide (n > (0 : Int))) = true) then
 if (((0 : Int) ≤ (IntKind.wrap .i64 (n - (1 : Int)))) ∧ ((IntKind.wrap .i64 (n - (1 : Int))) < ((d : Nat) : Int))) then
 Option.bind (ds)[(0 + (Int.toNat (IntKind.wrap .i64 (n - (1 : Int)))))]? fun x2 =>
 if ((x2 == (0 : Int)) = true) then
 rec d (IntKind.wrap .i64 (n - (1 : Int))) ds
 else
 (some (d, n, ds))
 else
 none
 else
 (some (d, n, ds))
def qas (k n : Nat) : Nat → Int → List Int → Option (Nat × Int × List Int) := Nat.rec (fun _ _ _ => none) (fun _ r => qbJ k r) n
def qa4 (k : Nat) (d : Nat) (ds : List Int) : Option (Nat × List Int) :=
 Option.bind (qas k k d ((d : Nat) : Int) ds) fun r10 =>
 if (((0 : Int) ≤ (0 : Int)) ∧ (((0 : Int) ≤ r10.2.1) ∧ (((0 + (Int.toNat r10.2.1)) ≤ (List.length r10.2.2)) ∧ (((0 : Int) < r10.2.1) ∨ (true = true))))) then
 (some ((Int.toNat r10.2.1), r10.2.2))
 else
 none
def qG : Nat → Nat → List Int → Option (Nat × List Int)
 | 0, _, _ => none
 | k + 1, d, ds => qa4 k d ds
def qjT : FS := { vs := [.a (.smz 0)], bs := [.arr (.int .i64) 1 3 false] }
def qpO : List FS := [{ vs := [.a (.smz 0)], bs := [.arr (.int .i64) 1 3 false] }]
def qfn (k : Nat) : Inst := ⟨122, qjT, qpO, fun x => qG k x.1 x.2⟩
theorem qxd (k : Nat) : qp (call cf k) [] := True.intro
def qim : List SS := [{ fr := [(0, .a (.smz 0)), (3, .a (.lf (.int .i64)))], mem := [(0, some (.arr (.int .i64) 1 3 false))], nx := 1 }]
def qmV : List OS := [⟨some 0, { fr := [(0, .a (.smz 0)), (3, .a (.lf (.int .i64)))], mem := [(0, some (.arr (.int .i64) 1 3 false))], nx := 1 }⟩]
def qmW (k : Nat) : LInst := ⟨0, qim, qmV, fun x => qas k k x.1 x.2.1 x.2.2⟩
theorem qAP (k : Nat) : qg (LOk (R := DS OS.D qmV) (fun b _ σ K => LOt Ty (kps 122) 1 b σ K []) cf (call cf k) (kps 122) Tryz.f122.ntmps k 1) 0 (lb Tryz.f122 0) :=
 qA (qA qT (qA qT qT)) qT
theorem qAQ (k n : Nat) (x : DS SS.D qim) : qas k (n + 1) x.1 x.2.1 x.2.2 = qI SS.enc (fun σ => qJ cf (fun f a b K => COt f a b K []) (fun b _ σ K => LOt Ty (kps 122) 1 b σ K []) Tryz.f122.ntmps 0 (lb Tryz.f122 0) σ (qQ Ty (kps 122 0) 1 qim qmV fun x => qas k n x.1 x.2.1 x.2.2)) qim x := by kernel_rfl
theorem qAR (k : Nat) : qae cf (call cf k) (kps 122) Tryz.f122.ntmps k 1 0 (lb Tryz.f122 0) (qmW k) :=
 qu (c := cf) (callF := call cf k) (kp := kps 122) (nt := Tryz.f122.ntmps) (k := k) (p := 1) (b := 0) (x0 := lb Tryz.f122 0) (hs := qim) (os := qmV) (qd (qxd k)) (qAP k) (fun n x => qas k n x.1 x.2.1 x.2.2) (fun _ => rfl) (qAQ k)
theorem qE0 (k : Nat) : qg (LOk (R := DS FS.D qpO) (fun b _ σ K => LOt Ty (kps 122) 1 b σ K [qmW k]) cf (call cf k) (cf.keep 122) Tryz.f122.ntmps k qjT.bs.length) 0 (bd Tryz.f122) :=
 qA qT (qA qT (qA (qD (c := cf) (callF := call cf k) (kp := kps 122) (nt := Tryz.f122.ntmps) (k := k) (p := 1) (b := 0) (x0 := lb Tryz.f122 0) (l := [qmW k]) (qA (fun _ => qAR k) qT)) (qA qT qT)))
theorem qE1 (k : Nat) (x : qjT.D) : qG (k + 1) x.1 x.2 = qk cf (fun f a b K => COt f a b K []) (fun b _ σ K => LOt Ty (kps 122) 1 b σ K [qmW k]) 122 Tryz.f122.ntmps Tryz.f122.results.toList (bd Tryz.f122) (qjT.enc x).1 (qjT.enc x).2 (qo FS.dec qpO) := by kernel_rfl
theorem qpP : ∀ k, qh (call cf k) (qfn k)
 | 0 => fun x y e => absurd (show (none : Option _) = some y from e) (by simp)
 | k + 1 => qe (c := cf) (k := k) (f := 122) (fn := Tryz.f122) (body := bd Tryz.f122) (sh := qjT) (os := qpO) rfl Tryz.func122 rfl ⟨rfl, Nat.le_of_ble_eq_true rfl⟩ (qd (qxd k)) (qE0 k) (fun x => qG (k + 1) x.1 x.2) (qE1 k)

def qce (k : Nat) (rec : Nat → Int → Int → Int → Bool → List Int → Bool → List Int → Bool → Nat → List Int → List Int → Option (Nat × Int × Int × Bool × List Int × Bool × List Int × Bool × Nat × List Int × List Int)) (d : Nat) (i : Int) (carry : Int) (j : Int) (a0 : Bool) (a1 : List Int) (b0 : Bool) (b1 : List Int) (x0 : Bool) (x1 : Nat) (ds : List Int) (m : List Int) : Option (Nat × Int × Int × Bool × List Int × Bool × List Int × Bool × Nat × List Int × List Int) :=
 if ((decide (j < (((List.length b1) : Nat) : Int))) = true) then
 if (((0 : Int) ≤ (IntKind.wrap .i64 (i + j))) ∧ ((IntKind.wrap .i64 (i + j)) < ((d : Nat) : Int))) then
 Option.bind (ds)[(0 + (Int.toNat (IntKind.wrap .i64 (i + j))))]? fun x2 =>
 if ((0 : Int) ≤ i) then
 Option.bind (a1)[(Int.toNat i)]? fun x3 =>
 if ((0 : Int) ≤ j) then
 Option.bind (b1)[(Int.toNat j)]? fun x4 =>
 if (((0 : Int) ≤ (IntKind.wrap .i64 (i + j))) ∧ ((IntKind.wrap .i64 (i + j)) < ((d : Nat) : Int))) then
 Option.bind (ds)[(0 + (Int.toNat (IntKind.wrap .i64 (i + j))))]? fun x5 =>
 rec d i (IntKind.wrap .i64 (Int.tdiv (IntKind.wrap .i64 ((IntKind.wrap .i64 (x2 + (IntKind.wrap .i64 (x3 * x4)))) + carry)) (65536 : Int))) (IntKind.wrap .i64 (j + (1 : Int))) a0 a1 b0 b1 x0 x1 (List.set ds (0 + (Int.toNat (IntKind.wrap .i64 (i + j)))) (Int.tmod (IntKind.wrap .i64 ((IntKind.wrap .i64 (x2 + (IntKind.wrap .i64 (x3 * x4)))) + carry)) (65536 : Int))) m
 else
 none
 else
 none
 else
 none
 else
 none
 else
 (some (d, i, carry, a0, a1, b0, b1, x0, x1, ds, m))
def qaD (k n : Nat) : Nat → Int → Int → Int → Bool → List Int → Bool → List Int → Bool → Nat → List Int → List Int → Option (Nat × Int × Int × Bool × List Int × Bool × List Int × Bool × Nat × List Int × List Int) := Nat.rec (fun _ _ _ _ _ _ _ _ _ _ _ _ => none) (fun _ r => qce k r) n
def qcf (k : Nat) (rec : Nat → Int → Bool → List Int → Bool → List Int → Bool → Nat → List Int → List Int → Option (Nat × Bool × List Int × Bool × List Int × Bool × Nat × List Int × List Int)) (d : Nat) (i : Int) (a0 : Bool) (a1 : List Int) (b0 : Bool) (b1 : List Int) (x0 : Bool) (x1 : Nat) (ds : List Int) (m : List Int) : Option (Nat × Bool × List Int × Bool × List Int × Bool × Nat × List Int × List Int) :=
 if ((decide (i < (((List.length a1) : Nat) : Int))) = true) then
 Option.bind (qaD k k d i (0 : Int) (0 : Int) a0 a1 b0 b1 x0 x1 ds m) fun r9 =>
 if (((0 : Int) ≤ (IntKind.wrap .i64 (r9.2.1 + (((List.length r9.2.2.2.2.2.2.1) : Nat) : Int)))) ∧ ((IntKind.wrap .i64 (r9.2.1 + (((List.length r9.2.2.2.2.2.2.1) : Nat) : Int))) < ((r9.1 : Nat) : Int))) then
 Option.bind (r9.2.2.2.2.2.2.2.2.2.1)[(0 + (Int.toNat (IntKind.wrap .i64 (r9.2.1 + (((List.length r9.2.2.2.2.2.2.1) : Nat) : Int)))))]? fun x2 =>
 if (((0 : Int) ≤ (IntKind.wrap .i64 (r9.2.1 + (((List.length r9.2.2.2.2.2.2.1) : Nat) : Int)))) ∧ ((IntKind.wrap .i64 (r9.2.1 + (((List.length r9.2.2.2.2.2.2.1) : Nat) : Int))) < ((r9.1 : Nat) : Int))) then
 Option.bind (r9.2.2.2.2.2.2.2.2.2.1)[(0 + (Int.toNat (IntKind.wrap .i64 (r9.2.1 + (((List.length r9.2.2.2.2.2.2.1) : Nat) : Int)))))]? fun x3 =>
 rec r9.1 (IntKind.wrap .i64 (r9.2.1 + (1 : Int))) r9.2.2.2.1 r9.2.2.2.2.1 r9.2.2.2.2.2.1 r9.2.2.2.2.2.2.1 r9.2.2.2.2.2.2.2.1 r9.2.2.2.2.2.2.2.2.1 (List.set r9.2.2.2.2.2.2.2.2.2.1 (0 + (Int.toNat (IntKind.wrap .i64 (r9.2.1 + (((List.length r9.2.2.2.2.2.2.1) : Nat) : Int))))) (IntKind.wrap .i64 (x2 + r9.2.2.1))) r9.2.2.2.2.2.2.2.2.2.2
 else
 none
 else
 none
 else
 (some (d, a0, a1, b0, b1, x0, x1, ds, m))
def qaE (k n : Nat) : Nat → Int → Bool → List Int → Bool → List Int → Bool → Nat → List Int → List Int → Option (Nat × Bool × List Int × Bool × List Int × Bool × Nat × List Int × List Int) := Nat.rec (fun _ _ _ _ _ _ _ _ _ _ => none) (fun _ r => qcf k r) n
def qeB (k : Nat) (a0 : Bool) (a1 : List Int) (b0 : Bool) (b1 : List Int) : Option (Bool × List Int) :=
 if (((0 : Int) ≤ (IntKind.wrap .i64 ((((List.length a1) : Nat) : Int) + (((List.length b1) : Nat) : Int)))) ∧ (((IntKind.wrap .i64 ((((List.length a1) : Nat) : Int) + (((List.length b1) : Nat) : Int))) ≤ (IntKind.wrap .i64 ((((List.length a1) : Nat) : Int) + (((List.length b1) : Nat) : Int)))) ∧ (((IntKind.wrap .i64 ((((List.length a1) : Nat) : Int) + (((List.length b1) : Nat) : Int))) * (8 : Int)) ≤ (140737488355328 : Int)))) then
 Option.bind (qaE k k (Int.toNat (IntKind.wrap .i64 ((((List.length a1) : Nat) : Int) + (((List.length b1) : Nat) : Int)))) (0 : Int) a0 a1 b0 b1 false 0 (List.replicate (Int.toNat (IntKind.wrap .i64 ((((List.length a1) : Nat) : Int) + (((List.length b1) : Nat) : Int)))) (0 : Int)) []) fun r9 =>
 Option.bind (qG k r9.1 r9.2.2.2.2.2.2.2.1) fun r10 =>
 if ((!(r9.2.1 == r9.2.2.2.1)) = true) then
 if ((0 + r10.1) ≤ (List.length r10.2)) then
 (some ((decide (((r10.1 : Nat) : Int) > (0 : Int))), (List.take r10.1 r10.2)))
 else
 none
 else
 if ((0 + r10.1) ≤ (List.length r10.2)) then
 (some (false, (List.take r10.1 r10.2)))
 else
 none
 else
 none
def qB : Nat → Bool → List Int → Bool → List Int → Option (Bool × List Int)
 | 0, _, _, _, _ => none
 | k + 1, a0, a1, b0, b1 => qeB k a0 a1 b0 b1
def qjU : FS := { vs := [.g [.lf .bool, .lf (.sl (.int .i64))], .g [.lf .bool, .lf (.sl (.int .i64))]], bs := [] }
def qpQ : List FS := [{ vs := [.g [.lf .bool, .lf (.sl (.int .i64))]], bs := [] }]
def qdK (k : Nat) : Inst := ⟨93, qjU, qpQ, fun x => qB k x.1 x.2.1 x.2.2.1 x.2.2.2⟩
theorem qtn (k : Nat) : qp (call cf k) [qfn k] := qA (qpP k) qT
def qin : List SS := [{ fr := [(2, .a (.ptr 0 0 0)), (3, .a (.ptr 1 0 0)), (4, .a (.ptr 2 0 0)), (5, .a (.smz 3)), (6, .a (.lf (.int .i64))), (7, .a (.lf (.int .i64))), (8, .a (.lf (.int .i64)))], mem := [(0, some (.raw [[.lf .bool, .lf (.sl (.int .i64))]] 2 81 true false)), (1, some (.raw [[.lf .bool, .lf (.sl (.int .i64))]] 2 81 true false)), (2, some (.raw [[.lf .bool, .smz 4]] 2 81 false false)), (3, some (.arr (.int .i64) 1 3 false)), (4, some (.arr (.int .i64) 1 3 false))], nx := 5 }]
def qmX : List OS := [⟨some 2, { fr := [(2, .a (.ptr 0 0 0)), (3, .a (.ptr 1 0 0)), (4, .a (.ptr 2 0 0)), (5, .a (.smz 3)), (6, .a (.lf (.int .i64))), (7, .a (.lf (.int .i64)))], mem := [(0, some (.raw [[.lf .bool, .lf (.sl (.int .i64))]] 2 81 true false)), (1, some (.raw [[.lf .bool, .lf (.sl (.int .i64))]] 2 81 true false)), (2, some (.raw [[.lf .bool, .smz 4]] 2 81 false false)), (3, some (.arr (.int .i64) 1 3 false)), (4, some (.arr (.int .i64) 1 3 false))], nx := 5 }⟩]
def qgi (k : Nat) : LInst := ⟨2, qin, qmX, fun x => qaD k k x.1 x.2.1 x.2.2.1 x.2.2.2.1 x.2.2.2.2.1 x.2.2.2.2.2.1 x.2.2.2.2.2.2.1 x.2.2.2.2.2.2.2.1 x.2.2.2.2.2.2.2.2.1 x.2.2.2.2.2.2.2.2.2.1 x.2.2.2.2.2.2.2.2.2.2.1 x.2.2.2.2.2.2.2.2.2.2.2⟩
theorem qAS (k : Nat) : qg (LOk (R := DS OS.D qmX) (fun b _ σ K => LOt Ty (kps 93) 0 b σ K []) cf (call cf k) (kps 93) Tryz.f93.ntmps k 0) 2 (lb Tryz.f93 1) :=
 qA (qA qT (qA qT qT)) (qA (qA qT (qA qT qT)) qT)
theorem qAT (k n : Nat) (x : DS SS.D qin) : qaD k (n + 1) x.1 x.2.1 x.2.2.1 x.2.2.2.1 x.2.2.2.2.1 x.2.2.2.2.2.1 x.2.2.2.2.2.2.1 x.2.2.2.2.2.2.2.1 x.2.2.2.2.2.2.2.2.1 x.2.2.2.2.2.2.2.2.2.1 x.2.2.2.2.2.2.2.2.2.2.1 x.2.2.2.2.2.2.2.2.2.2.2 = qI SS.enc (fun σ => qJ cf (fun f a b K => COt f a b K [qfn k]) (fun b _ σ K => LOt Ty (kps 93) 0 b σ K []) Tryz.f93.ntmps 2 (lb Tryz.f93 1) σ (qQ Ty (kps 93 2) 0 qin qmX fun x => qaD k n x.1 x.2.1 x.2.2.1 x.2.2.2.1 x.2.2.2.2.1 x.2.2.2.2.2.1 x.2.2.2.2.2.2.1 x.2.2.2.2.2.2.2.1 x.2.2.2.2.2.2.2.2.1 x.2.2.2.2.2.2.2.2.2.1 x.2.2.2.2.2.2.2.2.2.2.1 x.2.2.2.2.2.2.2.2.2.2.2)) qin x := by kernel_rfl
theorem qAU (k : Nat) : qae cf (call cf k) (kps 93) Tryz.f93.ntmps k 0 2 (lb Tryz.f93 1) (qgi k) :=
 qu (c := cf) (callF := call cf k) (kp := kps 93) (nt := Tryz.f93.ntmps) (k := k) (p := 0) (b := 2) (x0 := lb Tryz.f93 1) (hs := qin) (os := qmX) (qd (qtn k)) (qAS k) (fun n x => qaD k n x.1 x.2.1 x.2.2.1 x.2.2.2.1 x.2.2.2.2.1 x.2.2.2.2.2.1 x.2.2.2.2.2.2.1 x.2.2.2.2.2.2.2.1 x.2.2.2.2.2.2.2.2.1 x.2.2.2.2.2.2.2.2.2.1 x.2.2.2.2.2.2.2.2.2.2.1 x.2.2.2.2.2.2.2.2.2.2.2) (fun _ => rfl) (qAT k)
def qio : List SS := [{ fr := [(2, .a (.ptr 0 0 0)), (3, .a (.ptr 1 0 0)), (4, .a (.ptr 2 0 0)), (5, .a (.smz 3)), (6, .a (.lf (.int .i64)))], mem := [(0, some (.raw [[.lf .bool, .lf (.sl (.int .i64))]] 2 81 true false)), (1, some (.raw [[.lf .bool, .lf (.sl (.int .i64))]] 2 81 true false)), (2, some (.raw [[.lf .bool, .smz 4]] 2 81 false false)), (3, some (.arr (.int .i64) 1 3 false)), (4, some (.arr (.int .i64) 1 3 false))], nx := 5 }]
def qmY : List OS := [⟨some 0, { fr := [(2, .a (.ptr 0 0 0)), (3, .a (.ptr 1 0 0)), (4, .a (.ptr 2 0 0)), (5, .a (.smz 3))], mem := [(0, some (.raw [[.lf .bool, .lf (.sl (.int .i64))]] 2 81 true false)), (1, some (.raw [[.lf .bool, .lf (.sl (.int .i64))]] 2 81 true false)), (2, some (.raw [[.lf .bool, .smz 4]] 2 81 false false)), (3, some (.arr (.int .i64) 1 3 false)), (4, some (.arr (.int .i64) 1 3 false))], nx := 5 }⟩]
def qmZ (k : Nat) : LInst := ⟨0, qio, qmY, fun x => qaE k k x.1 x.2.1 x.2.2.1 x.2.2.2.1 x.2.2.2.2.1 x.2.2.2.2.2.1 x.2.2.2.2.2.2.1 x.2.2.2.2.2.2.2.1 x.2.2.2.2.2.2.2.2.1 x.2.2.2.2.2.2.2.2.2⟩
theorem qAV (k : Nat) : qg (LOk (R := DS OS.D qmY) (fun b _ σ K => LOt Ty (kps 93) 0 b σ K [qgi k]) cf (call cf k) (kps 93) Tryz.f93.ntmps k 0) 0 (lb Tryz.f93 0) :=
 qA (qA qT (qA qT qT)) (qA (qA qT (qA (qA qT (qD (c := cf) (callF := call cf k) (kp := kps 93) (nt := Tryz.f93.ntmps) (k := k) (p := 0) (b := 2) (x0 := lb Tryz.f93 1) (l := [qgi k]) (qA (fun _ => qAU k) qT))) qT)) qT)
theorem qAW (k n : Nat) (x : DS SS.D qio) : qaE k (n + 1) x.1 x.2.1 x.2.2.1 x.2.2.2.1 x.2.2.2.2.1 x.2.2.2.2.2.1 x.2.2.2.2.2.2.1 x.2.2.2.2.2.2.2.1 x.2.2.2.2.2.2.2.2.1 x.2.2.2.2.2.2.2.2.2 = qI SS.enc (fun σ => qJ cf (fun f a b K => COt f a b K [qfn k]) (fun b _ σ K => LOt Ty (kps 93) 0 b σ K [qgi k]) Tryz.f93.ntmps 0 (lb Tryz.f93 0) σ (qQ Ty (kps 93 0) 0 qio qmY fun x => qaE k n x.1 x.2.1 x.2.2.1 x.2.2.2.1 x.2.2.2.2.1 x.2.2.2.2.2.1 x.2.2.2.2.2.2.1 x.2.2.2.2.2.2.2.1 x.2.2.2.2.2.2.2.2.1 x.2.2.2.2.2.2.2.2.2)) qio x := by kernel_rfl
theorem qAX (k : Nat) : qae cf (call cf k) (kps 93) Tryz.f93.ntmps k 0 0 (lb Tryz.f93 0) (qmZ k) :=
 qu (c := cf) (callF := call cf k) (kp := kps 93) (nt := Tryz.f93.ntmps) (k := k) (p := 0) (b := 0) (x0 := lb Tryz.f93 0) (hs := qio) (os := qmY) (qd (qtn k)) (qAV k) (fun n x => qaE k n x.1 x.2.1 x.2.2.1 x.2.2.2.1 x.2.2.2.2.1 x.2.2.2.2.2.1 x.2.2.2.2.2.2.1 x.2.2.2.2.2.2.2.1 x.2.2.2.2.2.2.2.2.1 x.2.2.2.2.2.2.2.2.2) (fun _ => rfl) (qAW k)
theorem qE2 (k : Nat) : qg (LOk (R := DS FS.D qpQ) (fun b _ σ K => LOt Ty (kps 93) 0 b σ K [qgi k, qmZ k]) cf (call cf k) (cf.keep 93) Tryz.f93.ntmps k qjU.bs.length) 0 (bd Tryz.f93) :=
 qA qT (qA qT (qA (qA qT (qD (c := cf) (callF := call cf k) (kp := kps 93) (nt := Tryz.f93.ntmps) (k := k) (p := 0) (b := 0) (x0 := lb Tryz.f93 0) (l := [qgi k, qmZ k]) (qA (fun h => absurd (show (2 : Nat) = 0 from h) (by decide)) (qA (fun _ => qAX k) qT)))) (qA qT (qA qT qT))))
theorem qE3 (k : Nat) (x : qjU.D) : qB (k + 1) x.1 x.2.1 x.2.2.1 x.2.2.2 = qk cf (fun f a b K => COt f a b K [qfn k]) (fun b _ σ K => LOt Ty (kps 93) 0 b σ K [qgi k, qmZ k]) 93 Tryz.f93.ntmps Tryz.f93.results.toList (bd Tryz.f93) (qjU.enc x).1 (qjU.enc x).2 (qo FS.dec qpQ) := by kernel_rfl
theorem qgr : ∀ k, qh (call cf k) (qdK k)
 | 0 => fun x y e => absurd (show (none : Option _) = some y from e) (by simp)
 | k + 1 => qe (c := cf) (k := k) (f := 93) (fn := Tryz.f93) (body := bd Tryz.f93) (sh := qjU) (os := qpQ) rfl Tryz.func93 rfl ⟨rfl, Nat.le_of_ble_eq_true rfl⟩ (qd (qtn k)) (qE2 k) (fun x => qB (k + 1) x.1 x.2.1 x.2.2.1 x.2.2.2) (qE3 k)

def qcg (k : Nat) (rec : Int → Int → Bool → Nat → Bool → List Int → List Int → Option (Bool × Nat × Bool × List Int × List Int)) (k1 : Int) (i : Int) (x0 : Bool) (x1 : Nat) (p0 : Bool) (p1 : List Int) (m : List Int) : Option (Bool × Nat × Bool × List Int × List Int) :=
 if ((decide (i < k1)) = true) then
 Option.bind (qz k (10 : Int)) fun r8 =>
 Option.bind (qB k p0 p1 r8.1 r8.2) fun r9 =>
 rec k1 (IntKind.wrap .i64 (i + (1 : Int))) x0 x1 r9.1 r9.2 m
 else
 (some (x0, x1, p0, p1, m))
def qam (k n : Nat) : Int → Int → Bool → Nat → Bool → List Int → List Int → Option (Bool × Nat × Bool × List Int × List Int) := Nat.rec (fun _ _ _ _ _ _ _ => none) (fun _ r => qcg k r) n
def qkF (k : Nat) (k1 : Int) : Option (Bool × List Int) :=
 Option.bind (qz k (1 : Int)) fun r7 =>
 Option.bind (qam k k k1 (0 : Int) false 0 r7.1 r7.2 []) fun r8 =>
 (some (r8.2.2.1, r8.2.2.2.1))
def qbK : Nat → Int → Option (Bool × List Int)
 | 0, _ => none
 | k + 1, k1 => qkF k k1
def qjV : FS := { vs := [.a (.lf (.int .i64))], bs := [] }
def qpR : List FS := [{ vs := [.g [.lf .bool, .lf (.sl (.int .i64))]], bs := [] }]
def qvW (k : Nat) : Inst := ⟨96, qjV, qpR, fun x => qbK k x⟩
theorem qxe (k : Nat) : qp (call cf k) [qeA k, qdK k] := qA (qjS k) (qA (qgr k) qT)
def qip : List SS := [{ fr := [(0, .a (.lf (.int .i64))), (2, .a (.ptr 0 0 0)), (3, .a (.ptr 1 0 0)), (4, .a (.lf (.int .i64)))], mem := [(0, some (.raw [[.lf .bool, .smz 2]] 2 81 false false)), (1, some (.raw [[.lf .bool, .lf (.sl (.int .i64))]] 2 81 true false)), (2, some (.arr (.int .i64) 1 3 false))], nx := 3 }]
def qm0 : List OS := [⟨some 0, { fr := [(2, .a (.ptr 0 0 0)), (3, .a (.ptr 1 0 0))], mem := [(0, some (.raw [[.lf .bool, .smz 2]] 2 81 false false)), (1, some (.raw [[.lf .bool, .lf (.sl (.int .i64))]] 2 81 true false)), (2, some (.arr (.int .i64) 1 3 false))], nx := 3 }⟩]
def qm1 (k : Nat) : LInst := ⟨0, qip, qm0, fun x => qam k k x.1 x.2.1 x.2.2.1 x.2.2.2.1 x.2.2.2.2.1 x.2.2.2.2.2.1 x.2.2.2.2.2.2⟩
theorem qAY (k : Nat) : qg (LOk (R := DS OS.D qm0) (fun b _ σ K => LOt Ty (kps 96) 0 b σ K []) cf (call cf k) (kps 96) Tryz.f96.ntmps k 0) 0 (lb Tryz.f96 0) :=
 qA (qA qT (qA qT qT)) (qA qT qT)
theorem qAZ (k n : Nat) (x : DS SS.D qip) : qam k (n + 1) x.1 x.2.1 x.2.2.1 x.2.2.2.1 x.2.2.2.2.1 x.2.2.2.2.2.1 x.2.2.2.2.2.2 = qI SS.enc (fun σ => qJ cf (fun f a b K => COt f a b K [qeA k, qdK k]) (fun b _ σ K => LOt Ty (kps 96) 0 b σ K []) Tryz.f96.ntmps 0 (lb Tryz.f96 0) σ (qQ Ty (kps 96 0) 0 qip qm0 fun x => qam k n x.1 x.2.1 x.2.2.1 x.2.2.2.1 x.2.2.2.2.1 x.2.2.2.2.2.1 x.2.2.2.2.2.2)) qip x := by kernel_rfl
theorem qA0 (k : Nat) : qae cf (call cf k) (kps 96) Tryz.f96.ntmps k 0 0 (lb Tryz.f96 0) (qm1 k) :=
 qu (c := cf) (callF := call cf k) (kp := kps 96) (nt := Tryz.f96.ntmps) (k := k) (p := 0) (b := 0) (x0 := lb Tryz.f96 0) (hs := qip) (os := qm0) (qd (qxe k)) (qAY k) (fun n x => qam k n x.1 x.2.1 x.2.2.1 x.2.2.2.1 x.2.2.2.2.1 x.2.2.2.2.2.1 x.2.2.2.2.2.2) (fun _ => rfl) (qAZ k)
theorem qE4 (k : Nat) : qg (LOk (R := DS FS.D qpR) (fun b _ σ K => LOt Ty (kps 96) 0 b σ K [qm1 k]) cf (call cf k) (cf.keep 96) Tryz.f96.ntmps k qjV.bs.length) 0 (bd Tryz.f96) :=
 qA qT (qA qT (qA (qA qT (qD (c := cf) (callF := call cf k) (kp := kps 96) (nt := Tryz.f96.ntmps) (k := k) (p := 0) (b := 0) (x0 := lb Tryz.f96 0) (l := [qm1 k]) (qA (fun _ => qA0 k) qT))) (qA qT qT)))
theorem qE5 (k : Nat) (x : qjV.D) : qbK (k + 1) x = qk cf (fun f a b K => COt f a b K [qeA k, qdK k]) (fun b _ σ K => LOt Ty (kps 96) 0 b σ K [qm1 k]) 96 Tryz.f96.ntmps Tryz.f96.results.toList (bd Tryz.f96) (qjV.enc x).1 (qjV.enc x).2 (qo FS.dec qpR) := by kernel_rfl
theorem qE6 : ∀ k, qh (call cf k) (qvW k)
 | 0 => fun x y e => absurd (show (none : Option _) = some y from e) (by simp)
 | k + 1 => qe (c := cf) (k := k) (f := 96) (fn := Tryz.f96) (body := bd Tryz.f96) (sh := qjV) (os := qpR) rfl Tryz.func96 rfl ⟨rfl, Nat.le_of_ble_eq_true rfl⟩ (qd (qxe k)) (qE4 k) (fun x => qbK (k + 1) x) (qE5 k)

def qe0 (k : Nat) (a0 : Bool) (a1 : List Int) : Option (Int) :=
 if (((((List.length a1) : Nat) : Int) == (0 : Int)) = true) then
 (some (0 : Int))
 else
 if (a0 = true) then
 (some (-(1 : Int)))
 else
 (some (1 : Int))
def qaS : Nat → Bool → List Int → Option (Int)
 | 0, _, _ => none
 | k + 1, a0, a1 => qe0 k a0 a1
def qjW : FS := { vs := [.g [.lf .bool, .lf (.sl (.int .i64))]], bs := [] }
def qpS : List FS := [{ vs := [.a (.lf (.int .i64))], bs := [] }]
def qld (k : Nat) : Inst := ⟨118, qjW, qpS, fun x => qaS k x.1 x.2⟩
theorem qE7 (k : Nat) : qp (call cf k) [] := True.intro
theorem qE8 (k : Nat) : qg (LOk (R := DS FS.D qpS) (fun b _ σ K => LOt Ty (kps 118) 0 b σ K []) cf (call cf k) (cf.keep 118) Tryz.f118.ntmps k qjW.bs.length) 0 (bd Tryz.f118) :=
 qA qT (qA (qA qT (qA (qA qT qT) qT)) (qA (qA qT (qA (qA qT qT) qT)) (qA qT qT)))
theorem qE9 (k : Nat) (x : qjW.D) : qaS (k + 1) x.1 x.2 = qk cf (fun f a b K => COt f a b K []) (fun b _ σ K => LOt Ty (kps 118) 0 b σ K []) 118 Tryz.f118.ntmps Tryz.f118.results.toList (bd Tryz.f118) (qjW.enc x).1 (qjW.enc x).2 (qo FS.dec qpS) := by kernel_rfl
theorem qto : ∀ k, qh (call cf k) (qld k)
 | 0 => fun x y e => absurd (show (none : Option _) = some y from e) (by simp)
 | k + 1 => qe (c := cf) (k := k) (f := 118) (fn := Tryz.f118) (body := bd Tryz.f118) (sh := qjW) (os := qpS) rfl Tryz.func118 rfl ⟨rfl, Nat.le_of_ble_eq_true rfl⟩ (qd (qE7 k)) (qE8 k) (fun x => qaS (k + 1) x.1 x.2) (qE9 k)

def qde (k : Nat) (a0 : Bool) (a1 : List Int) : Option (Bool × List Int) :=
 if (((((List.length a1) : Nat) : Int) == (0 : Int)) = true) then
 (some (false, []))
 else
 (some ((!a0), a1))
def qaK : Nat → Bool → List Int → Option (Bool × List Int)
 | 0, _, _ => none
 | k + 1, a0, a1 => qde k a0 a1
def qjX : FS := { vs := [.g [.lf .bool, .lf (.sl (.int .i64))]], bs := [] }
def qpT : List FS := [{ vs := [.g [.lf .bool, .lf (.sl (.int .i64))]], bs := [] }]
def qle (k : Nat) : Inst := ⟨123, qjX, qpT, fun x => qaK k x.1 x.2⟩
theorem qFa (k : Nat) : qp (call cf k) [] := True.intro
theorem qFb (k : Nat) : qg (LOk (R := DS FS.D qpT) (fun b _ σ K => LOt Ty (kps 123) 0 b σ K []) cf (call cf k) (cf.keep 123) Tryz.f123.ntmps k qjX.bs.length) 0 (bd Tryz.f123) :=
 qA qT (qA (qA qT (qA (qA qT qT) qT)) (qA qT qT))
theorem qFc (k : Nat) (x : qjX.D) : qaK (k + 1) x.1 x.2 = qk cf (fun f a b K => COt f a b K []) (fun b _ σ K => LOt Ty (kps 123) 0 b σ K []) 123 Tryz.f123.ntmps Tryz.f123.results.toList (bd Tryz.f123) (qjX.enc x).1 (qjX.enc x).2 (qo FS.dec qpT) := by kernel_rfl
theorem qtp : ∀ k, qh (call cf k) (qle k)
 | 0 => fun x y e => absurd (show (none : Option _) = some y from e) (by simp)
 | k + 1 => qe (c := cf) (k := k) (f := 123) (fn := Tryz.f123) (body := bd Tryz.f123) (sh := qjX) (os := qpT) rfl Tryz.func123 rfl ⟨rfl, Nat.le_of_ble_eq_true rfl⟩ (qd (qFa k)) (qFb k) (fun x => qaK (k + 1) x.1 x.2) (qFc k)

def qm2 (k : Nat) (a0 : Bool) (a1 : List Int) : Option (Bool × List Int) :=
 (some (false, a1))
def qaj : Nat → Bool → List Int → Option (Bool × List Int)
 | 0, _, _ => none
 | k + 1, a0, a1 => qm2 k a0 a1
def qjY : FS := { vs := [.g [.lf .bool, .lf (.sl (.int .i64))]], bs := [] }
def qpU : List FS := [{ vs := [.g [.lf .bool, .lf (.sl (.int .i64))]], bs := [] }]
def qn6 (k : Nat) : Inst := ⟨120, qjY, qpU, fun x => qaj k x.1 x.2⟩
theorem qFd (k : Nat) : qp (call cf k) [] := True.intro
theorem qFe (k : Nat) : qg (LOk (R := DS FS.D qpU) (fun b _ σ K => LOt Ty (kps 120) 0 b σ K []) cf (call cf k) (cf.keep 120) Tryz.f120.ntmps k qjY.bs.length) 0 (bd Tryz.f120) :=
 qA qT (qA qT qT)
theorem qFf (k : Nat) (x : qjY.D) : qaj (k + 1) x.1 x.2 = qk cf (fun f a b K => COt f a b K []) (fun b _ σ K => LOt Ty (kps 120) 0 b σ K []) 120 Tryz.f120.ntmps Tryz.f120.results.toList (bd Tryz.f120) (qjY.enc x).1 (qjY.enc x).2 (qo FS.dec qpU) := by kernel_rfl
theorem qxf : ∀ k, qh (call cf k) (qn6 k)
 | 0 => fun x y e => absurd (show (none : Option _) = some y from e) (by simp)
 | k + 1 => qe (c := cf) (k := k) (f := 120) (fn := Tryz.f120) (body := bd Tryz.f120) (sh := qjY) (os := qpU) rfl Tryz.func120 rfl ⟨rfl, Nat.le_of_ble_eq_true rfl⟩ (qd (qFd k)) (qFe k) (fun x => qaj (k + 1) x.1 x.2) (qFf k)

def qaF (k : Nat) (rec : List Int → List Int → Int → Option ((Int) ⊕ (Unit))) (a : List Int) (b : List Int) (i : Int) : Option ((Int) ⊕ (Unit)) :=
 if ((decide (i ≥ (0 : Int))) = true) then
 if ((0 : Int) ≤ i) then
 Option.bind (a)[(Int.toNat i)]? fun x3 =>
 if ((0 : Int) ≤ i) then
 Option.bind (b)[(Int.toNat i)]? fun x4 =>
 if ((decide (x3 < x4)) = true) then
 (some (Sum.inl (-(1 : Int))))
 else
 if ((0 : Int) ≤ i) then
 Option.bind (a)[(Int.toNat i)]? fun x5 =>
 if ((0 : Int) ≤ i) then
 Option.bind (b)[(Int.toNat i)]? fun x6 =>
 if ((decide (x5 > x6)) = true) then
 (some (Sum.inl (1 : Int)))
 else
 rec a b (IntKind.wrap .i64 (i - (1 : Int)))
 else
 none
 else
 none
 else
 none
 else
 none
 else
 (some (Sum.inr ()))
def qat (k n : Nat) : List Int → List Int → Int → Option ((Int) ⊕ (Unit)) := Nat.rec (fun _ _ _ => none) (fun _ r => qaF k r) n
def qe1 (k : Nat) (a : List Int) (b : List Int) : Option (Int) :=
 if (((((List.length a) : Nat) : Int) != (((List.length b) : Nat) : Int)) = true) then
 if ((decide ((((List.length a) : Nat) : Int) < (((List.length b) : Nat) : Int))) = true) then
 (some (-(1 : Int)))
 else
 (some (1 : Int))
 else
 Option.bind (qat k k a b (IntKind.wrap .i64 ((((List.length a) : Nat) : Int) - (1 : Int)))) fun r14 =>
 qc r14
 (fun r14 =>
 (some r14))
 (fun r14 =>
 (some (0 : Int)))
def qbX : Nat → List Int → List Int → Option (Int)
 | 0, _, _ => none
 | k + 1, a, b => qe1 k a b
def qjZ : FS := { vs := [.a (.lf (.sl (.int .i64))), .a (.lf (.sl (.int .i64)))], bs := [] }
def qpV : List FS := [{ vs := [.a (.lf (.int .i64))], bs := [] }]
def qn7 (k : Nat) : Inst := ⟨134, qjZ, qpV, fun x => qbX k x.1 x.2⟩
theorem qxg (k : Nat) : qp (call cf k) [] := True.intro
def qiq : List SS := [{ fr := [(0, .a (.lf (.sl (.int .i64)))), (1, .a (.lf (.sl (.int .i64)))), (5, .a (.lf (.int .i64)))], mem := [], nx := 0 }]
def qm3 : List OS := [⟨none, { fr := [(4, .a (.lf (.int .i64)))], mem := [], nx := 0 }⟩, ⟨some 0, { fr := [], mem := [], nx := 0 }⟩]
def qm4 (k : Nat) : LInst := ⟨0, qiq, qm3, fun x => qat k k x.1 x.2.1 x.2.2⟩
theorem qA1 (k : Nat) : qg (LOk (R := DS OS.D qm3) (fun b _ σ K => LOt Ty (kps 134) 0 b σ K []) cf (call cf k) (kps 134) Tryz.f134.ntmps k 0) 0 (lb Tryz.f134 0) :=
 qA (qA qT (qA qT qT)) (qA (qA (qA qT (qA (qA qT qT) qT)) (qA qT (qA (qA qT qT) qT))) qT)
theorem qA2 (k n : Nat) (x : DS SS.D qiq) : qat k (n + 1) x.1 x.2.1 x.2.2 = qI SS.enc (fun σ => qJ cf (fun f a b K => COt f a b K []) (fun b _ σ K => LOt Ty (kps 134) 0 b σ K []) Tryz.f134.ntmps 0 (lb Tryz.f134 0) σ (qQ Ty (kps 134 0) 0 qiq qm3 fun x => qat k n x.1 x.2.1 x.2.2)) qiq x := by kernel_rfl
theorem qA3 (k : Nat) : qae cf (call cf k) (kps 134) Tryz.f134.ntmps k 0 0 (lb Tryz.f134 0) (qm4 k) :=
 qu (c := cf) (callF := call cf k) (kp := kps 134) (nt := Tryz.f134.ntmps) (k := k) (p := 0) (b := 0) (x0 := lb Tryz.f134 0) (hs := qiq) (os := qm3) (qd (qxg k)) (qA1 k) (fun n x => qat k n x.1 x.2.1 x.2.2) (fun _ => rfl) (qA2 k)
theorem qFg (k : Nat) : qg (LOk (R := DS FS.D qpV) (fun b _ σ K => LOt Ty (kps 134) 0 b σ K [qm4 k]) cf (call cf k) (cf.keep 134) Tryz.f134.ntmps k qjZ.bs.length) 0 (bd Tryz.f134) :=
 qA qT (qA (qA qT (qA (qA (qA qT (qA (qA qT qT) qT)) (qA qT qT)) qT)) (qA (qA qT (qD (c := cf) (callF := call cf k) (kp := kps 134) (nt := Tryz.f134.ntmps) (k := k) (p := 0) (b := 0) (x0 := lb Tryz.f134 0) (l := [qm4 k]) (qA (fun _ => qA3 k) qT))) (qA qT qT)))
theorem qFh (k : Nat) (x : qjZ.D) : qbX (k + 1) x.1 x.2 = qk cf (fun f a b K => COt f a b K []) (fun b _ σ K => LOt Ty (kps 134) 0 b σ K [qm4 k]) 134 Tryz.f134.ntmps Tryz.f134.results.toList (bd Tryz.f134) (qjZ.enc x).1 (qjZ.enc x).2 (qo FS.dec qpV) := by kernel_rfl
theorem qxh : ∀ k, qh (call cf k) (qn7 k)
 | 0 => fun x y e => absurd (show (none : Option _) = some y from e) (by simp)
 | k + 1 => qe (c := cf) (k := k) (f := 134) (fn := Tryz.f134) (body := bd Tryz.f134) (sh := qjZ) (os := qpV) rfl Tryz.func134 rfl ⟨rfl, Nat.le_of_ble_eq_true rfl⟩ (qd (qxg k)) (qFg k) (fun x => qbX (k + 1) x.1 x.2) (qFh k)

def qar (k : Nat) (rec : List Int → List Int → Int → Int → Option (Int)) (r : List Int) (b : List Int) (low : Int) (high : Int) : Option (Int) :=
 if ((decide (low < high)) = true) then
 Option.bind (qz k (IntKind.wrap .i64 (Int.tdiv (IntKind.wrap .i64 ((IntKind.wrap .i64 (low + high)) + (1 : Int))) (2 : Int)))) fun r15 =>
 Option.bind (qB k false b r15.1 r15.2) fun r16 =>
 Option.bind (qbX k r16.2 r) fun r17 =>
 if ((decide (r17 ≤ (0 : Int))) = true) then
 rec r b (IntKind.wrap .i64 (Int.tdiv (IntKind.wrap .i64 ((IntKind.wrap .i64 (low + high)) + (1 : Int))) (2 : Int))) high
 else
 rec r b low (IntKind.wrap .i64 ((IntKind.wrap .i64 (Int.tdiv (IntKind.wrap .i64 ((IntKind.wrap .i64 (low + high)) + (1 : Int))) (2 : Int))) - (1 : Int)))
 else
 (some low)
def qan (k n : Nat) : List Int → List Int → Int → Int → Option (Int) := Nat.rec (fun _ _ _ _ => none) (fun _ r => qar k r) n
def qeC (k : Nat) (r : List Int) (b : List Int) : Option (Int) :=
 Option.bind (qbX k r b) fun r14 =>
 if ((decide (r14 < (0 : Int))) = true) then
 (some (0 : Int))
 else
 Option.bind (qan k k r b (0 : Int) (65535 : Int)) fun r15 =>
 (some r15)
def qbc : Nat → List Int → List Int → Option (Int)
 | 0, _, _ => none
 | k + 1, r, b => qeC k r b
def qj0 : FS := { vs := [.a (.lf (.sl (.int .i64))), .a (.lf (.sl (.int .i64)))], bs := [] }
def qpW : List FS := [{ vs := [.a (.lf (.int .i64))], bs := [] }]
def qtq (k : Nat) : Inst := ⟨136, qj0, qpW, fun x => qbc k x.1 x.2⟩
theorem qxi (k : Nat) : qp (call cf k) [qn7 k, qeA k, qdK k] := qA (qxh k) (qA (qjS k) (qA (qgr k) qT))
def qir : List SS := [{ fr := [(0, .a (.lf (.sl (.int .i64)))), (1, .a (.lf (.sl (.int .i64)))), (5, .a (.lf (.int .i64))), (6, .a (.lf (.int .i64)))], mem := [], nx := 0 }]
def qm5 : List OS := [⟨some 0, { fr := [(5, .a (.lf (.int .i64)))], mem := [], nx := 0 }⟩]
def qm6 (k : Nat) : LInst := ⟨0, qir, qm5, fun x => qan k k x.1 x.2.1 x.2.2.1 x.2.2.2⟩
theorem qA4 (k : Nat) : qg (LOk (R := DS OS.D qm5) (fun b _ σ K => LOt Ty (kps 136) 0 b σ K []) cf (call cf k) (kps 136) Tryz.f136.ntmps k 0) 0 (lb Tryz.f136 0) :=
 qA (qA qT (qA qT qT)) (qA qT (qA qT (qA qT qT)))
theorem qA5 (k n : Nat) (x : DS SS.D qir) : qan k (n + 1) x.1 x.2.1 x.2.2.1 x.2.2.2 = qI SS.enc (fun σ => qJ cf (fun f a b K => COt f a b K [qn7 k, qeA k, qdK k]) (fun b _ σ K => LOt Ty (kps 136) 0 b σ K []) Tryz.f136.ntmps 0 (lb Tryz.f136 0) σ (qQ Ty (kps 136 0) 0 qir qm5 fun x => qan k n x.1 x.2.1 x.2.2.1 x.2.2.2)) qir x := by kernel_rfl
theorem qA6 (k : Nat) : qae cf (call cf k) (kps 136) Tryz.f136.ntmps k 0 0 (lb Tryz.f136 0) (qm6 k) :=
 qu (c := cf) (callF := call cf k) (kp := kps 136) (nt := Tryz.f136.ntmps) (k := k) (p := 0) (b := 0) (x0 := lb Tryz.f136 0) (hs := qir) (os := qm5) (qd (qxi k)) (qA4 k) (fun n x => qan k n x.1 x.2.1 x.2.2.1 x.2.2.2) (fun _ => rfl) (qA5 k)
theorem qFi (k : Nat) : qg (LOk (R := DS FS.D qpW) (fun b _ σ K => LOt Ty (kps 136) 0 b σ K [qm6 k]) cf (call cf k) (cf.keep 136) Tryz.f136.ntmps k qj0.bs.length) 0 (bd Tryz.f136) :=
 qA qT (qA qT (qA (qA qT (qA (qA qT qT) qT)) (qA (qD (c := cf) (callF := call cf k) (kp := kps 136) (nt := Tryz.f136.ntmps) (k := k) (p := 0) (b := 0) (x0 := lb Tryz.f136 0) (l := [qm6 k]) (qA (fun _ => qA6 k) qT)) (qA qT qT))))
theorem qFj (k : Nat) (x : qj0.D) : qbc (k + 1) x.1 x.2 = qk cf (fun f a b K => COt f a b K [qn7 k, qeA k, qdK k]) (fun b _ σ K => LOt Ty (kps 136) 0 b σ K [qm6 k]) 136 Tryz.f136.ntmps Tryz.f136.results.toList (bd Tryz.f136) (qj0.enc x).1 (qj0.enc x).2 (qo FS.dec qpW) := by kernel_rfl
theorem qFk : ∀ k, qh (call cf k) (qtq k)
 | 0 => fun x y e => absurd (show (none : Option _) = some y from e) (by simp)
 | k + 1 => qe (c := cf) (k := k) (f := 136) (fn := Tryz.f136) (body := bd Tryz.f136) (sh := qj0) (os := qpW) rfl Tryz.func136 rfl ⟨rfl, Nat.le_of_ble_eq_true rfl⟩ (qd (qxi k)) (qFi k) (fun x => qbc (k + 1) x.1 x.2) (qFj k)

def qa5 (k : Nat) (rec : List Int → List Int → Nat → Int → Int → List Int → Option (Nat × List Int)) (a : List Int) (b : List Int) (d : Nat) (borrow : Int) (i : Int) (ds : List Int) : Option (Nat × List Int) :=
 if ((decide (i < (((List.length a) : Nat) : Int))) = true) then
 if ((0 : Int) ≤ i) then
 Option.bind (a)[(Int.toNat i)]? fun x3 =>
 if ((decide (i < (((List.length b) : Nat) : Int))) = true) then
 if ((0 : Int) ≤ i) then
 Option.bind (b)[(Int.toNat i)]? fun x4 =>
 if ((decide ((IntKind.wrap .i64 ((IntKind.wrap .i64 (x3 - borrow)) - x4)) < (0 : Int))) = true) then
 if (d ≤ (List.length ds)) then
 if (((d + (List.length (List.take 1 ((IntKind.wrap .i64 ((IntKind.wrap .i64 ((IntKind.wrap .i64 (x3 - borrow)) - x4)) + (65536 : Int))) :: [])))) * 8) ≤ 140737488355328) then
 rec a b (d + (List.length (List.take 1 ((IntKind.wrap .i64 ((IntKind.wrap .i64 ((IntKind.wrap .i64 (x3 - borrow)) - x4)) + (65536 : Int))) :: [])))) (1 : Int) (IntKind.wrap .i64 (i + (1 : Int))) ((List.take d ds) ++ (List.take 1 ((IntKind.wrap .i64 ((IntKind.wrap .i64 ((IntKind.wrap .i64 (x3 - borrow)) - x4)) + (65536 : Int))) :: [])))
 else
 none
 else
 none
 else
 if (d ≤ (List.length ds)) then
 if (((d + (List.length (List.take 1 ((IntKind.wrap .i64 ((IntKind.wrap .i64 (x3 - borrow)) - x4)) :: [])))) * 8) ≤ 140737488355328) then
 rec a b (d + (List.length (List.take 1 ((IntKind.wrap .i64 ((IntKind.wrap .i64 (x3 - borrow)) - x4)) :: [])))) (0 : Int) (IntKind.wrap .i64 (i + (1 : Int))) ((List.take d ds) ++ (List.take 1 ((IntKind.wrap .i64 ((IntKind.wrap .i64 (x3 - borrow)) - x4)) :: [])))
 else
 none
 else
 none
 else
 none
 else
 if ((decide ((IntKind.wrap .i64 (x3 - borrow)) < (0 : Int))) = true) then
 if (d ≤ (List.length ds)) then
 if (((d + (List.length (List.take 1 ((IntKind.wrap .i64 ((IntKind.wrap .i64 (x3 - borrow)) + (65536 : Int))) :: [])))) * 8) ≤ 140737488355328) then
 rec a b (d + (List.length (List.take 1 ((IntKind.wrap .i64 ((IntKind.wrap .i64 (x3 - borrow)) + (65536 : Int))) :: [])))) (1 : Int) (IntKind.wrap .i64 (i + (1 : Int))) ((List.take d ds) ++ (List.take 1 ((IntKind.wrap .i64 ((IntKind.wrap .i64 (x3 - borrow)) + (65536 : Int))) :: [])))
 else
 none
 else
 none
 else
 if (d ≤ (List.length ds)) then
 if (((d + (List.length (List.take 1 ((IntKind.wrap .i64 (x3 - borrow)) :: [])))) * 8) ≤ 140737488355328) then
 rec a b (d + (List.length (List.take 1 ((IntKind.wrap .i64 (x3 - borrow)) :: [])))) (0 : Int) (IntKind.wrap .i64 (i + (1 : Int))) ((List.take d ds) ++ (List.take 1 ((IntKind.wrap .i64 (x3 - borrow)) :: [])))
 else
 none
 else
 none
 else
 none
 else
 (some (d, ds))
def qab (k n : Nat) : List Int → List Int → Nat → Int → Int → List Int → Option (Nat × List Int) := Nat.rec (fun _ _ _ _ _ _ => none) (fun _ r => qa5 k r) n
def qeD (k : Nat) (a : List Int) (b : List Int) : Option (List Int) :=
 Option.bind (qab k k a b 0 (0 : Int) (0 : Int) []) fun r17 =>
 Option.bind (qG k r17.1 r17.2) fun r18 =>
 if ((0 + r18.1) ≤ (List.length r18.2)) then
 (some (List.take r18.1 r18.2))
 else
 none
def qaq : Nat → List Int → List Int → Option (List Int)
 | 0, _, _ => none
 | k + 1, a, b => qeD k a b
def qj1 : FS := { vs := [.a (.lf (.sl (.int .i64))), .a (.lf (.sl (.int .i64)))], bs := [] }
def qpX : List FS := [{ vs := [.a (.lf (.sl (.int .i64)))], bs := [] }]
def qn8 (k : Nat) : Inst := ⟨135, qj1, qpX, fun x => qaq k x.1 x.2⟩
theorem qxj (k : Nat) : qp (call cf k) [qfn k] := qA (qpP k) qT
def qis : List SS := [{ fr := [(0, .a (.lf (.sl (.int .i64)))), (1, .a (.lf (.sl (.int .i64)))), (5, .a (.smz 0)), (6, .a (.lf (.int .i64))), (7, .a (.lf (.int .i64)))], mem := [(0, some (.arr (.int .i64) 1 3 false))], nx := 1 }]
def qm7 : List OS := [⟨some 0, { fr := [(5, .a (.smz 0))], mem := [(0, some (.arr (.int .i64) 1 3 false))], nx := 1 }⟩]
def qm8 (k : Nat) : LInst := ⟨0, qis, qm7, fun x => qab k k x.1 x.2.1 x.2.2.1 x.2.2.2.1 x.2.2.2.2.1 x.2.2.2.2.2⟩
theorem qA7 (k : Nat) : qg (LOk (R := DS OS.D qm7) (fun b _ σ K => LOt Ty (kps 135) 0 b σ K []) cf (call cf k) (kps 135) Tryz.f135.ntmps k 0) 0 (lb Tryz.f135 0) :=
 qA (qA qT (qA qT qT)) (qA (qA qT (qA (qA qT (qA qT qT)) (qA qT (qA (qA qT (qA (qA qT qT) qT)) qT)))) qT)
theorem qA8 (k n : Nat) (x : DS SS.D qis) : qab k (n + 1) x.1 x.2.1 x.2.2.1 x.2.2.2.1 x.2.2.2.2.1 x.2.2.2.2.2 = qI SS.enc (fun σ => qJ cf (fun f a b K => COt f a b K [qfn k]) (fun b _ σ K => LOt Ty (kps 135) 0 b σ K []) Tryz.f135.ntmps 0 (lb Tryz.f135 0) σ (qQ Ty (kps 135 0) 0 qis qm7 fun x => qab k n x.1 x.2.1 x.2.2.1 x.2.2.2.1 x.2.2.2.2.1 x.2.2.2.2.2)) qis x := by kernel_rfl
theorem qA9 (k : Nat) : qae cf (call cf k) (kps 135) Tryz.f135.ntmps k 0 0 (lb Tryz.f135 0) (qm8 k) :=
 qu (c := cf) (callF := call cf k) (kp := kps 135) (nt := Tryz.f135.ntmps) (k := k) (p := 0) (b := 0) (x0 := lb Tryz.f135 0) (hs := qis) (os := qm7) (qd (qxj k)) (qA7 k) (fun n x => qab k n x.1 x.2.1 x.2.2.1 x.2.2.2.1 x.2.2.2.2.1 x.2.2.2.2.2) (fun _ => rfl) (qA8 k)
theorem qFl (k : Nat) : qg (LOk (R := DS FS.D qpX) (fun b _ σ K => LOt Ty (kps 135) 0 b σ K [qm8 k]) cf (call cf k) (cf.keep 135) Tryz.f135.ntmps k qj1.bs.length) 0 (bd Tryz.f135) :=
 qA qT (qA qT (qA qT (qA (qA qT (qD (c := cf) (callF := call cf k) (kp := kps 135) (nt := Tryz.f135.ntmps) (k := k) (p := 0) (b := 0) (x0 := lb Tryz.f135 0) (l := [qm8 k]) (qA (fun _ => qA9 k) qT))) (qA qT qT))))
theorem qFm (k : Nat) (x : qj1.D) : qaq (k + 1) x.1 x.2 = qk cf (fun f a b K => COt f a b K [qfn k]) (fun b _ σ K => LOt Ty (kps 135) 0 b σ K [qm8 k]) 135 Tryz.f135.ntmps Tryz.f135.results.toList (bd Tryz.f135) (qj1.enc x).1 (qj1.enc x).2 (qo FS.dec qpX) := by kernel_rfl
theorem qxk : ∀ k, qh (call cf k) (qn8 k)
 | 0 => fun x y e => absurd (show (none : Option _) = some y from e) (by simp)
 | k + 1 => qe (c := cf) (k := k) (f := 135) (fn := Tryz.f135) (body := bd Tryz.f135) (sh := qj1) (os := qpX) rfl Tryz.func135 rfl ⟨rfl, Nat.le_of_ble_eq_true rfl⟩ (qd (qxj k)) (qFl k) (fun x => qaq (k + 1) x.1 x.2) (qFm k)

def qH (k : Nat) (rec : ((Nat × Nat × Int × Bool × List Int × Bool × List Int × Bool × Nat × Bool × Nat × List Int × List Int × List Int × List Int) ⊕ (Nat × List Int × Int × Bool × List Int × Bool × List Int × Bool × Nat × Bool × Nat × List Int × List Int × List Int)) → Option ((Nat × Nat × Bool × List Int × Bool × List Int × Bool × Nat × Bool × Nat × List Int × List Int × List Int × List Int) ⊕ (Nat × List Int × Bool × List Int × Bool × List Int × Bool × Nat × Bool × Nat × List Int × List Int × List Int))) (x : (Nat × Nat × Int × Bool × List Int × Bool × List Int × Bool × Nat × Bool × Nat × List Int × List Int × List Int × List Int) ⊕ (Nat × List Int × Int × Bool × List Int × Bool × List Int × Bool × Nat × Bool × Nat × List Int × List Int × List Int)) : Option ((Nat × Nat × Bool × List Int × Bool × List Int × Bool × Nat × Bool × Nat × List Int × List Int × List Int × List Int) ⊕ (Nat × List Int × Bool × List Int × Bool × List Int × Bool × Nat × Bool × Nat × List Int × List Int × List Int)) :=
 qc x
 (fun x =>
 if ((decide (x.2.2.1 ≥ (0 : Int))) = true) then
 if ((0 : Int) ≤ x.2.2.1) then
 Option.bind (x.2.2.2.2.1)[(Int.toNat x.2.2.1)]? fun x2 =>
 if ((0 + x.2.1) ≤ (List.length x.2.2.2.2.2.2.2.2.2.2.2.2.1)) then
 if (((1 + (List.length (List.take x.2.1 x.2.2.2.2.2.2.2.2.2.2.2.2.1))) * 8) ≤ 140737488355328) then
 Option.bind (qG k (1 + (List.length (List.take x.2.1 x.2.2.2.2.2.2.2.2.2.2.2.2.1))) ((List.take 1 (x2 :: [])) ++ (List.take x.2.1 x.2.2.2.2.2.2.2.2.2.2.2.2.1))) fun r13 =>
 if ((0 + r13.1) ≤ (List.length r13.2)) then
 Option.bind (qbc k (List.take r13.1 r13.2) x.2.2.2.2.2.2.1) fun r14 =>
 if ((decide (r14 > (0 : Int))) = true) then
 Option.bind (qz k r14) fun r15 =>
 Option.bind (qB k false x.2.2.2.2.2.2.1 r15.1 r15.2) fun r16 =>
 if ((0 + r13.1) ≤ (List.length r13.2)) then
 Option.bind (qaq k (List.take r13.1 r13.2) r16.2) fun r17 =>
 if (((0 : Int) ≤ x.2.2.1) ∧ (x.2.2.1 < ((x.1 : Nat) : Int))) then
 Option.bind (x.2.2.2.2.2.2.2.2.2.2.2.1)[(0 + (Int.toNat x.2.2.1))]? fun x3 =>
 rec (Sum.inr (x.1, r17, (IntKind.wrap .i64 (x.2.2.1 - (1 : Int))), x.2.2.2.1, x.2.2.2.2.1, x.2.2.2.2.2.1, x.2.2.2.2.2.2.1, x.2.2.2.2.2.2.2.1, x.2.2.2.2.2.2.2.2.1, x.2.2.2.2.2.2.2.2.2.1, x.2.2.2.2.2.2.2.2.2.2.1, (List.set x.2.2.2.2.2.2.2.2.2.2.2.1 (0 + (Int.toNat x.2.2.1)) r14), x.2.2.2.2.2.2.2.2.2.2.2.2.2.1, x.2.2.2.2.2.2.2.2.2.2.2.2.2.2))
 else
 none
 else
 none
 else
 if (((0 : Int) ≤ x.2.2.1) ∧ (x.2.2.1 < ((x.1 : Nat) : Int))) then
 Option.bind (x.2.2.2.2.2.2.2.2.2.2.2.1)[(0 + (Int.toNat x.2.2.1))]? fun x3 =>
 rec (Sum.inl (x.1, r13.1, (IntKind.wrap .i64 (x.2.2.1 - (1 : Int))), x.2.2.2.1, x.2.2.2.2.1, x.2.2.2.2.2.1, x.2.2.2.2.2.2.1, x.2.2.2.2.2.2.2.1, x.2.2.2.2.2.2.2.2.1, x.2.2.2.2.2.2.2.2.2.1, x.2.2.2.2.2.2.2.2.2.2.1, (List.set x.2.2.2.2.2.2.2.2.2.2.2.1 (0 + (Int.toNat x.2.2.1)) r14), r13.2, x.2.2.2.2.2.2.2.2.2.2.2.2.2.1, x.2.2.2.2.2.2.2.2.2.2.2.2.2.2))
 else
 none
 else
 none
 else
 none
 else
 none
 else
 none
 else
 (some (Sum.inl (x.1, x.2.1, x.2.2.2.1, x.2.2.2.2.1, x.2.2.2.2.2.1, x.2.2.2.2.2.2.1, x.2.2.2.2.2.2.2.1, x.2.2.2.2.2.2.2.2.1, x.2.2.2.2.2.2.2.2.2.1, x.2.2.2.2.2.2.2.2.2.2.1, x.2.2.2.2.2.2.2.2.2.2.2.1, x.2.2.2.2.2.2.2.2.2.2.2.2.1, x.2.2.2.2.2.2.2.2.2.2.2.2.2.1, x.2.2.2.2.2.2.2.2.2.2.2.2.2.2))))
 (fun x =>
 if ((decide (x.2.2.1 ≥ (0 : Int))) = true) then
 if ((0 : Int) ≤ x.2.2.1) then
 Option.bind (x.2.2.2.2.1)[(Int.toNat x.2.2.1)]? fun x2 =>
 if (((1 + (List.length x.2.1)) * 8) ≤ 140737488355328) then
 Option.bind (qG k (1 + (List.length x.2.1)) ((List.take 1 (x2 :: [])) ++ x.2.1)) fun r13 =>
 if ((0 + r13.1) ≤ (List.length r13.2)) then
 Option.bind (qbc k (List.take r13.1 r13.2) x.2.2.2.2.2.2.1) fun r14 =>
 if ((decide (r14 > (0 : Int))) = true) then
 Option.bind (qz k r14) fun r15 =>
 Option.bind (qB k false x.2.2.2.2.2.2.1 r15.1 r15.2) fun r16 =>
 if ((0 + r13.1) ≤ (List.length r13.2)) then
 Option.bind (qaq k (List.take r13.1 r13.2) r16.2) fun r17 =>
 if (((0 : Int) ≤ x.2.2.1) ∧ (x.2.2.1 < ((x.1 : Nat) : Int))) then
 Option.bind (x.2.2.2.2.2.2.2.2.2.2.2.1)[(0 + (Int.toNat x.2.2.1))]? fun x3 =>
 rec (Sum.inr (x.1, r17, (IntKind.wrap .i64 (x.2.2.1 - (1 : Int))), x.2.2.2.1, x.2.2.2.2.1, x.2.2.2.2.2.1, x.2.2.2.2.2.2.1, x.2.2.2.2.2.2.2.1, x.2.2.2.2.2.2.2.2.1, x.2.2.2.2.2.2.2.2.2.1, x.2.2.2.2.2.2.2.2.2.2.1, (List.set x.2.2.2.2.2.2.2.2.2.2.2.1 (0 + (Int.toNat x.2.2.1)) r14), x.2.2.2.2.2.2.2.2.2.2.2.2.1, x.2.2.2.2.2.2.2.2.2.2.2.2.2))
 else
 none
 else
 none
 else
 if (((0 : Int) ≤ x.2.2.1) ∧ (x.2.2.1 < ((x.1 : Nat) : Int))) then
 Option.bind (x.2.2.2.2.2.2.2.2.2.2.2.1)[(0 + (Int.toNat x.2.2.1))]? fun x3 =>
 rec (Sum.inl (x.1, r13.1, (IntKind.wrap .i64 (x.2.2.1 - (1 : Int))), x.2.2.2.1, x.2.2.2.2.1, x.2.2.2.2.2.1, x.2.2.2.2.2.2.1, x.2.2.2.2.2.2.2.1, x.2.2.2.2.2.2.2.2.1, x.2.2.2.2.2.2.2.2.2.1, x.2.2.2.2.2.2.2.2.2.2.1, (List.set x.2.2.2.2.2.2.2.2.2.2.2.1 (0 + (Int.toNat x.2.2.1)) r14), r13.2, x.2.2.2.2.2.2.2.2.2.2.2.2.1, x.2.2.2.2.2.2.2.2.2.2.2.2.2))
 else
 none
 else
 none
 else
 none
 else
 none
 else
 (some (Sum.inr (x.1, x.2.1, x.2.2.2.1, x.2.2.2.2.1, x.2.2.2.2.2.1, x.2.2.2.2.2.2.1, x.2.2.2.2.2.2.2.1, x.2.2.2.2.2.2.2.2.1, x.2.2.2.2.2.2.2.2.2.1, x.2.2.2.2.2.2.2.2.2.2.1, x.2.2.2.2.2.2.2.2.2.2.2.1, x.2.2.2.2.2.2.2.2.2.2.2.2.1, x.2.2.2.2.2.2.2.2.2.2.2.2.2))))
def qN (k n : Nat) : ((Nat × Nat × Int × Bool × List Int × Bool × List Int × Bool × Nat × Bool × Nat × List Int × List Int × List Int × List Int) ⊕ (Nat × List Int × Int × Bool × List Int × Bool × List Int × Bool × Nat × Bool × Nat × List Int × List Int × List Int)) → Option ((Nat × Nat × Bool × List Int × Bool × List Int × Bool × Nat × Bool × Nat × List Int × List Int × List Int × List Int) ⊕ (Nat × List Int × Bool × List Int × Bool × List Int × Bool × Nat × Bool × Nat × List Int × List Int × List Int)) := Nat.rec (fun _ => none) (fun _ r => qH k r) n
def qem (k : Nat) (a0 : Bool) (a1 : List Int) (b0 : Bool) (b1 : List Int) : Option (Bool × List Int × Bool × List Int) :=
 if (((0 : Int) ≤ (((List.length a1) : Nat) : Int)) ∧ (((((List.length a1) : Nat) : Int) ≤ (((List.length a1) : Nat) : Int)) ∧ (((((List.length a1) : Nat) : Int) * (8 : Int)) ≤ (140737488355328 : Int)))) then
 Option.bind (qN k k (Sum.inl ((Int.toNat (((List.length a1) : Nat) : Int)), 0, (IntKind.wrap .i64 ((((List.length a1) : Nat) : Int) - (1 : Int))), a0, a1, b0, b1, false, 0, false, 0, (List.replicate (Int.toNat (((List.length a1) : Nat) : Int)) (0 : Int)), [], [], []))) fun r13 =>
 qc r13
 (fun r13 =>
 Option.bind (qG k r13.1 r13.2.2.2.2.2.2.2.2.2.2.1) fun r14 =>
 if ((!(r13.2.2.1 == r13.2.2.2.2.1)) = true) then
 if (r13.2.2.1 = true) then
 if ((0 + r14.1) ≤ (List.length r14.2)) then
 if ((0 + r13.2.1) ≤ (List.length r13.2.2.2.2.2.2.2.2.2.2.2.1)) then
 (some ((decide (((r14.1 : Nat) : Int) > (0 : Int))), (List.take r14.1 r14.2), (decide (((r13.2.1 : Nat) : Int) > (0 : Int))), (List.take r13.2.1 r13.2.2.2.2.2.2.2.2.2.2.2.1)))
 else
 none
 else
 none
 else
 if ((0 + r14.1) ≤ (List.length r14.2)) then
 if ((0 + r13.2.1) ≤ (List.length r13.2.2.2.2.2.2.2.2.2.2.2.1)) then
 (some ((decide (((r14.1 : Nat) : Int) > (0 : Int))), (List.take r14.1 r14.2), false, (List.take r13.2.1 r13.2.2.2.2.2.2.2.2.2.2.2.1)))
 else
 none
 else
 none
 else
 if (r13.2.2.1 = true) then
 if ((0 + r14.1) ≤ (List.length r14.2)) then
 if ((0 + r13.2.1) ≤ (List.length r13.2.2.2.2.2.2.2.2.2.2.2.1)) then
 (some (false, (List.take r14.1 r14.2), (decide (((r13.2.1 : Nat) : Int) > (0 : Int))), (List.take r13.2.1 r13.2.2.2.2.2.2.2.2.2.2.2.1)))
 else
 none
 else
 none
 else
 if ((0 + r14.1) ≤ (List.length r14.2)) then
 if ((0 + r13.2.1) ≤ (List.length r13.2.2.2.2.2.2.2.2.2.2.2.1)) then
 (some (false, (List.take r14.1 r14.2), false, (List.take r13.2.1 r13.2.2.2.2.2.2.2.2.2.2.2.1)))
 else
 none
 else
 none)
 (fun r13 =>
 Option.bind (qG k r13.1 r13.2.2.2.2.2.2.2.2.2.2.1) fun r14 =>
 if ((!(r13.2.2.1 == r13.2.2.2.2.1)) = true) then
 if (r13.2.2.1 = true) then
 if ((0 + r14.1) ≤ (List.length r14.2)) then
 (some ((decide (((r14.1 : Nat) : Int) > (0 : Int))), (List.take r14.1 r14.2), (decide ((((List.length r13.2.1) : Nat) : Int) > (0 : Int))), r13.2.1))
 else
 none
 else
 if ((0 + r14.1) ≤ (List.length r14.2)) then
 (some ((decide (((r14.1 : Nat) : Int) > (0 : Int))), (List.take r14.1 r14.2), false, r13.2.1))
 else
 none
 else
 if (r13.2.2.1 = true) then
 if ((0 + r14.1) ≤ (List.length r14.2)) then
 (some (false, (List.take r14.1 r14.2), (decide ((((List.length r13.2.1) : Nat) : Int) > (0 : Int))), r13.2.1))
 else
 none
 else
 if ((0 + r14.1) ≤ (List.length r14.2)) then
 (some (false, (List.take r14.1 r14.2), false, r13.2.1))
 else
 none)
 else
 none
def qX : Nat → Bool → List Int → Bool → List Int → Option (Bool × List Int × Bool × List Int)
 | 0, _, _, _, _ => none
 | k + 1, a0, a1, b0, b1 => qem k a0 a1 b0 b1
def qj2 : FS := { vs := [.g [.lf .bool, .lf (.sl (.int .i64))], .g [.lf .bool, .lf (.sl (.int .i64))]], bs := [] }
def qpY : List FS := [{ vs := [.g [.lf .bool, .lf (.sl (.int .i64))], .g [.lf .bool, .lf (.sl (.int .i64))]], bs := [] }]
def qit (k : Nat) : Inst := ⟨121, qj2, qpY, fun x => qX k x.1 x.2.1 x.2.2.1 x.2.2.2⟩
theorem qxl (k : Nat) : qp (call cf k) [qfn k, qtq k, qeA k, qdK k, qn8 k] := qA (qpP k) (qA (qFk k) (qA (qjS k) (qA (qgr k) (qA (qxk k) qT))))
def qiu : List SS := [{ fr := [(2, .a (.ptr 0 0 0)), (3, .a (.ptr 1 0 0)), (4, .a (.ptr 2 0 0)), (5, .a (.ptr 3 0 0)), (6, .a (.smz 4)), (7, .a (.smz 5)), (8, .a (.lf (.int .i64)))], mem := [(0, some (.raw [[.lf .bool, .lf (.sl (.int .i64))]] 2 81 true false)), (1, some (.raw [[.lf .bool, .lf (.sl (.int .i64))]] 2 81 true false)), (2, some (.raw [[.lf .bool, .smz 6]] 2 81 false false)), (3, some (.raw [[.lf .bool, .smz 7]] 2 81 false false)), (4, some (.arr (.int .i64) 1 3 false)), (5, some (.arr (.int .i64) 1 3 false)), (6, some (.arr (.int .i64) 1 3 false)), (7, some (.arr (.int .i64) 1 3 false))], nx := 8 }, { fr := [(2, .a (.ptr 0 0 0)), (3, .a (.ptr 1 0 0)), (4, .a (.ptr 2 0 0)), (5, .a (.ptr 3 0 0)), (6, .a (.smz 4)), (7, .a (.lf (.sl (.int .i64)))), (8, .a (.lf (.int .i64)))], mem := [(0, some (.raw [[.lf .bool, .lf (.sl (.int .i64))]] 2 81 true false)), (1, some (.raw [[.lf .bool, .lf (.sl (.int .i64))]] 2 81 true false)), (2, some (.raw [[.lf .bool, .smz 5]] 2 81 false false)), (3, some (.raw [[.lf .bool, .smz 6]] 2 81 false false)), (4, some (.arr (.int .i64) 1 3 false)), (5, some (.arr (.int .i64) 1 3 false)), (6, some (.arr (.int .i64) 1 3 false))], nx := 7 }]
def qm9 : List OS := [⟨some 0, { fr := [(2, .a (.ptr 0 0 0)), (3, .a (.ptr 1 0 0)), (4, .a (.ptr 2 0 0)), (5, .a (.ptr 3 0 0)), (6, .a (.smz 4)), (7, .a (.smz 5))], mem := [(0, some (.raw [[.lf .bool, .lf (.sl (.int .i64))]] 2 81 true false)), (1, some (.raw [[.lf .bool, .lf (.sl (.int .i64))]] 2 81 true false)), (2, some (.raw [[.lf .bool, .smz 6]] 2 81 false false)), (3, some (.raw [[.lf .bool, .smz 7]] 2 81 false false)), (4, some (.arr (.int .i64) 1 3 false)), (5, some (.arr (.int .i64) 1 3 false)), (6, some (.arr (.int .i64) 1 3 false)), (7, some (.arr (.int .i64) 1 3 false))], nx := 8 }⟩, ⟨some 0, { fr := [(2, .a (.ptr 0 0 0)), (3, .a (.ptr 1 0 0)), (4, .a (.ptr 2 0 0)), (5, .a (.ptr 3 0 0)), (6, .a (.smz 4)), (7, .a (.lf (.sl (.int .i64))))], mem := [(0, some (.raw [[.lf .bool, .lf (.sl (.int .i64))]] 2 81 true false)), (1, some (.raw [[.lf .bool, .lf (.sl (.int .i64))]] 2 81 true false)), (2, some (.raw [[.lf .bool, .smz 5]] 2 81 false false)), (3, some (.raw [[.lf .bool, .smz 6]] 2 81 false false)), (4, some (.arr (.int .i64) 1 3 false)), (5, some (.arr (.int .i64) 1 3 false)), (6, some (.arr (.int .i64) 1 3 false))], nx := 7 }⟩]
def qna (k : Nat) : LInst := ⟨0, qiu, qm9, fun x => qN k k x⟩
theorem qBa (k : Nat) : qg (LOk (R := DS OS.D qm9) (fun b _ σ K => LOt Ty (kps 121) 0 b σ K []) cf (call cf k) (kps 121) Tryz.f121.ntmps k 0) 0 (lb Tryz.f121 0) :=
 qA (qA qT (qA qT qT)) (qA (qA qT (qA qT (qA qT (qA (qA qT (qA qT qT)) qT)))) qT)
theorem qBb (k n : Nat) (x : DS SS.D qiu) : qN k (n + 1) x = qI SS.enc (fun σ => qJ cf (fun f a b K => COt f a b K [qfn k, qtq k, qeA k, qdK k, qn8 k]) (fun b _ σ K => LOt Ty (kps 121) 0 b σ K []) Tryz.f121.ntmps 0 (lb Tryz.f121 0) σ (qQ Ty (kps 121 0) 0 qiu qm9 fun x => qN k n x)) qiu x := by kernel_rfl
theorem qBc (k : Nat) : qae cf (call cf k) (kps 121) Tryz.f121.ntmps k 0 0 (lb Tryz.f121 0) (qna k) :=
 qu (c := cf) (callF := call cf k) (kp := kps 121) (nt := Tryz.f121.ntmps) (k := k) (p := 0) (b := 0) (x0 := lb Tryz.f121 0) (hs := qiu) (os := qm9) (qd (qxl k)) (qBa k) (fun n x => qN k n x) (fun _ => rfl) (qBb k)
theorem qFn (k : Nat) : qg (LOk (R := DS FS.D qpY) (fun b _ σ K => LOt Ty (kps 121) 0 b σ K [qna k]) cf (call cf k) (cf.keep 121) Tryz.f121.ntmps k qj2.bs.length) 0 (bd Tryz.f121) :=
 qA qT (qA qT (qA qT (qA (qA qT (qD (c := cf) (callF := call cf k) (kp := kps 121) (nt := Tryz.f121.ntmps) (k := k) (p := 0) (b := 0) (x0 := lb Tryz.f121 0) (l := [qna k]) (qA (fun _ => qBc k) qT))) (qA qT (qA qT qT)))))
theorem qFo (k : Nat) (x : qj2.D) : qX (k + 1) x.1 x.2.1 x.2.2.1 x.2.2.2 = qk cf (fun f a b K => COt f a b K [qfn k, qtq k, qeA k, qdK k, qn8 k]) (fun b _ σ K => LOt Ty (kps 121) 0 b σ K [qna k]) 121 Tryz.f121.ntmps Tryz.f121.results.toList (bd Tryz.f121) (qj2.enc x).1 (qj2.enc x).2 (qo FS.dec qpY) := by kernel_rfl
theorem qtr : ∀ k, qh (call cf k) (qit k)
 | 0 => fun x y e => absurd (show (none : Option _) = some y from e) (by simp)
 | k + 1 => qe (c := cf) (k := k) (f := 121) (fn := Tryz.f121) (body := bd Tryz.f121) (sh := qj2) (os := qpY) rfl Tryz.func121 rfl ⟨rfl, Nat.le_of_ble_eq_true rfl⟩ (qd (qxl k)) (qFn k) (fun x => qX (k + 1) x.1 x.2.1 x.2.2.1 x.2.2.2) (qFo k)

def qb7 (k : Nat) (rec : Bool → List Int → Bool → List Int → Bool → Nat → List Int → Option (Bool × List Int × Bool × List Int × Bool × Nat × List Int)) (a0 : Bool) (a1 : List Int) (b0 : Bool) (b1 : List Int) (x0 : Bool) (x1 : Nat) (m : List Int) : Option (Bool × List Int × Bool × List Int × Bool × Nat × List Int) :=
 if ((decide ((((List.length b1) : Nat) : Int) > (0 : Int))) = true) then
 Option.bind (qX k a0 a1 b0 b1) fun r13 =>
 rec b0 b1 r13.2.2.1 r13.2.2.2 x0 x1 m
 else
 (some (a0, a1, b0, b1, x0, x1, m))
def qaP (k n : Nat) : Bool → List Int → Bool → List Int → Bool → Nat → List Int → Option (Bool × List Int × Bool × List Int × Bool × Nat × List Int) := Nat.rec (fun _ _ _ _ _ _ _ => none) (fun _ r => qb7 k r) n
def qiv (k : Nat) (a0 : Bool) (a1 : List Int) (b0 : Bool) (b1 : List Int) : Option (Bool × List Int) :=
 Option.bind (qaj k a0 a1) fun r11 =>
 Option.bind (qaj k b0 b1) fun r12 =>
 Option.bind (qaP k k r11.1 r11.2 r12.1 r12.2 false 0 []) fun r13 =>
 (some (r13.1, r13.2.1))
def qbx : Nat → Bool → List Int → Bool → List Int → Option (Bool × List Int)
 | 0, _, _, _, _ => none
 | k + 1, a0, a1, b0, b1 => qiv k a0 a1 b0 b1
def qj3 : FS := { vs := [.g [.lf .bool, .lf (.sl (.int .i64))], .g [.lf .bool, .lf (.sl (.int .i64))]], bs := [] }
def qpZ : List FS := [{ vs := [.g [.lf .bool, .lf (.sl (.int .i64))]], bs := [] }]
def qvX (k : Nat) : Inst := ⟨90, qj3, qpZ, fun x => qbx k x.1 x.2.1 x.2.2.1 x.2.2.2⟩
theorem qxm (k : Nat) : qp (call cf k) [qn6 k, qit k] := qA (qxf k) (qA (qtr k) qT)
def qiw : List SS := [{ fr := [(2, .a (.ptr 0 0 0)), (3, .a (.ptr 1 0 0)), (4, .a (.ptr 2 0 0))], mem := [(0, some (.raw [[.lf .bool, .lf (.sl (.int .i64))]] 2 81 true false)), (1, some (.raw [[.lf .bool, .lf (.sl (.int .i64))]] 2 81 true false)), (2, some (.raw [[.lf .bool, .smz 3]] 2 81 false false)), (3, some (.arr (.int .i64) 1 3 false))], nx := 4 }]
def qnb : List OS := [⟨some 0, { fr := [(2, .a (.ptr 0 0 0)), (4, .a (.ptr 2 0 0))], mem := [(0, some (.raw [[.lf .bool, .lf (.sl (.int .i64))]] 2 81 true false)), (1, some (.raw [[.lf .bool, .lf (.sl (.int .i64))]] 2 81 true false)), (2, some (.raw [[.lf .bool, .smz 3]] 2 81 false false)), (3, some (.arr (.int .i64) 1 3 false))], nx := 4 }⟩]
def qnc (k : Nat) : LInst := ⟨0, qiw, qnb, fun x => qaP k k x.1 x.2.1 x.2.2.1 x.2.2.2.1 x.2.2.2.2.1 x.2.2.2.2.2.1 x.2.2.2.2.2.2⟩
theorem qBd (k : Nat) : qg (LOk (R := DS OS.D qnb) (fun b _ σ K => LOt Ty (kps 90) 0 b σ K []) cf (call cf k) (kps 90) Tryz.f90.ntmps k 0) 0 (lb Tryz.f90 0) :=
 qA (qA qT (qA qT qT)) (qA qT qT)
theorem qBe (k n : Nat) (x : DS SS.D qiw) : qaP k (n + 1) x.1 x.2.1 x.2.2.1 x.2.2.2.1 x.2.2.2.2.1 x.2.2.2.2.2.1 x.2.2.2.2.2.2 = qI SS.enc (fun σ => qJ cf (fun f a b K => COt f a b K [qn6 k, qit k]) (fun b _ σ K => LOt Ty (kps 90) 0 b σ K []) Tryz.f90.ntmps 0 (lb Tryz.f90 0) σ (qQ Ty (kps 90 0) 0 qiw qnb fun x => qaP k n x.1 x.2.1 x.2.2.1 x.2.2.2.1 x.2.2.2.2.1 x.2.2.2.2.2.1 x.2.2.2.2.2.2)) qiw x := by kernel_rfl
theorem qBf (k : Nat) : qae cf (call cf k) (kps 90) Tryz.f90.ntmps k 0 0 (lb Tryz.f90 0) (qnc k) :=
 qu (c := cf) (callF := call cf k) (kp := kps 90) (nt := Tryz.f90.ntmps) (k := k) (p := 0) (b := 0) (x0 := lb Tryz.f90 0) (hs := qiw) (os := qnb) (qd (qxm k)) (qBd k) (fun n x => qaP k n x.1 x.2.1 x.2.2.1 x.2.2.2.1 x.2.2.2.2.1 x.2.2.2.2.2.1 x.2.2.2.2.2.2) (fun _ => rfl) (qBe k)
theorem qFp (k : Nat) : qg (LOk (R := DS FS.D qpZ) (fun b _ σ K => LOt Ty (kps 90) 0 b σ K [qnc k]) cf (call cf k) (cf.keep 90) Tryz.f90.ntmps k qj3.bs.length) 0 (bd Tryz.f90) :=
 qA qT (qA qT (qA (qD (c := cf) (callF := call cf k) (kp := kps 90) (nt := Tryz.f90.ntmps) (k := k) (p := 0) (b := 0) (x0 := lb Tryz.f90 0) (l := [qnc k]) (qA (fun _ => qBf k) qT)) (qA qT qT)))
theorem qFq (k : Nat) (x : qj3.D) : qbx (k + 1) x.1 x.2.1 x.2.2.1 x.2.2.2 = qk cf (fun f a b K => COt f a b K [qn6 k, qit k]) (fun b _ σ K => LOt Ty (kps 90) 0 b σ K [qnc k]) 90 Tryz.f90.ntmps Tryz.f90.results.toList (bd Tryz.f90) (qj3.enc x).1 (qj3.enc x).2 (qo FS.dec qpZ) := by kernel_rfl
theorem qFr : ∀ k, qh (call cf k) (qvX k)
 | 0 => fun x y e => absurd (show (none : Option _) = some y from e) (by simp)
 | k + 1 => qe (c := cf) (k := k) (f := 90) (fn := Tryz.f90) (body := bd Tryz.f90) (sh := qj3) (os := qpZ) rfl Tryz.func90 rfl ⟨rfl, Nat.le_of_ble_eq_true rfl⟩ (qd (qxm k)) (qFp k) (fun x => qbx (k + 1) x.1 x.2.1 x.2.2.1 x.2.2.2) (qFq k)

def qc3 (k : Nat) (num0 : Bool) (num1 : List Int) (den0 : Bool) (den1 : List Int) : Option (Bool × List Int × Bool × List Int) :=
 Option.bind (qaS k den0 den1) fun r8 =>
 if ((decide (r8 < (0 : Int))) = true) then
 Option.bind (qaK k num0 num1) fun r9 =>
 Option.bind (qaK k den0 den1) fun r10 =>
 Option.bind (qbx k r9.1 r9.2 r10.1 r10.2) fun r11 =>
 Option.bind (qX k r9.1 r9.2 r11.1 r11.2) fun r12 =>
 Option.bind (qX k r10.1 r10.2 r11.1 r11.2) fun r13 =>
 (some (r12.1, r12.2.1, r13.1, r13.2.1))
 else
 Option.bind (qbx k num0 num1 den0 den1) fun r9 =>
 Option.bind (qX k num0 num1 r9.1 r9.2) fun r10 =>
 Option.bind (qX k den0 den1 r9.1 r9.2) fun r11 =>
 (some (r10.1, r10.2.1, r11.1, r11.2.1))
def qau : Nat → Bool → List Int → Bool → List Int → Option (Bool × List Int × Bool × List Int)
 | 0, _, _, _, _ => none
 | k + 1, num0, num1, den0, den1 => qc3 k num0 num1 den0 den1
def qj4 : FS := { vs := [.g [.lf .bool, .lf (.sl (.int .i64))], .g [.lf .bool, .lf (.sl (.int .i64))]], bs := [] }
def qp0 : List FS := [{ vs := [.g [.lf .bool, .lf (.sl (.int .i64)), .lf .bool, .lf (.sl (.int .i64))]], bs := [] }]
def qhq (k : Nat) : Inst := ⟨95, qj4, qp0, fun x => qau k x.1 x.2.1 x.2.2.1 x.2.2.2⟩
theorem qFs (k : Nat) : qp (call cf k) [qld k, qle k, qvX k, qit k] := qA (qto k) (qA (qtp k) (qA (qFr k) (qA (qtr k) qT)))
theorem qFt (k : Nat) : qg (LOk (R := DS FS.D qp0) (fun b _ σ K => LOt Ty (kps 95) 0 b σ K []) cf (call cf k) (cf.keep 95) Tryz.f95.ntmps k qj4.bs.length) 0 (bd Tryz.f95) :=
 qA qT (qA (qA qT (qA qT qT)) (qA qT (qA qT (qA qT (qA qT qT)))))
theorem qFu (k : Nat) (x : qj4.D) : qau (k + 1) x.1 x.2.1 x.2.2.1 x.2.2.2 = qk cf (fun f a b K => COt f a b K [qld k, qle k, qvX k, qit k]) (fun b _ σ K => LOt Ty (kps 95) 0 b σ K []) 95 Tryz.f95.ntmps Tryz.f95.results.toList (bd Tryz.f95) (qj4.enc x).1 (qj4.enc x).2 (qo FS.dec qp0) := by kernel_rfl
theorem qp1 : ∀ k, qh (call cf k) (qhq k)
 | 0 => fun x y e => absurd (show (none : Option _) = some y from e) (by simp)
 | k + 1 => qe (c := cf) (k := k) (f := 95) (fn := Tryz.f95) (body := bd Tryz.f95) (sh := qj4) (os := qp0) rfl Tryz.func95 rfl ⟨rfl, Nat.le_of_ble_eq_true rfl⟩ (qd (qFs k)) (qFt k) (fun x => qau (k + 1) x.1 x.2.1 x.2.2.1 x.2.2.2) (qFu k)

def qgU (k : Nat) (n0 : Int) (n1 : Int) : Option (Bool × List Int × Bool × List Int) :=
 Option.bind (qaR k n0) fun r6 =>
 if ((decide (n1 < (0 : Int))) = true) then
 Option.bind (qbK k (IntKind.wrap .i64 ((0 : Int) - n1))) fun r7 =>
 Option.bind (qau k r6.1 r6.2 r7.1 r7.2) fun r8 =>
 (some (r8.1, r8.2.1, r8.2.2.1, r8.2.2.2))
 else
 Option.bind (qbK k n1) fun r7 =>
 Option.bind (qB k r6.1 r6.2 r7.1 r7.2) fun r8 =>
 Option.bind (qz k (1 : Int)) fun r9 =>
 (some (r8.1, r8.2, r9.1, r9.2))
def qak : Nat → Int → Int → Option (Bool × List Int × Bool × List Int)
 | 0, _, _ => none
 | k + 1, n0, n1 => qgU k n0 n1
def qj5 : FS := { vs := [.g [.lf (.int .i64), .lf (.int .i64)]], bs := [] }
def qp2 : List FS := [{ vs := [.g [.lf .bool, .lf (.sl (.int .i64)), .lf .bool, .lf (.sl (.int .i64))]], bs := [] }]
def qn9 (k : Nat) : Inst := ⟨49, qj5, qp2, fun x => qak k x.1 x.2⟩
theorem qFv (k : Nat) : qp (call cf k) [qij k, qvW k, qhq k, qdK k, qeA k] := qA (qtm k) (qA (qE6 k) (qA (qp1 k) (qA (qgr k) (qA (qjS k) qT))))
theorem qFw (k : Nat) : qg (LOk (R := DS FS.D qp2) (fun b _ σ K => LOt Ty (kps 49) 0 b σ K []) cf (call cf k) (cf.keep 49) Tryz.f49.ntmps k qj5.bs.length) 0 (bd Tryz.f49) :=
 qA qT (qA qT (qA (qA qT (qA (qA qT qT) qT)) (qA qT qT)))
theorem qFx (k : Nat) (x : qj5.D) : qak (k + 1) x.1 x.2 = qk cf (fun f a b K => COt f a b K [qij k, qvW k, qhq k, qdK k, qeA k]) (fun b _ σ K => LOt Ty (kps 49) 0 b σ K []) 49 Tryz.f49.ntmps Tryz.f49.results.toList (bd Tryz.f49) (qj5.enc x).1 (qj5.enc x).2 (qo FS.dec qp2) := by kernel_rfl
theorem qxn : ∀ k, qh (call cf k) (qn9 k)
 | 0 => fun x y e => absurd (show (none : Option _) = some y from e) (by simp)
 | k + 1 => qe (c := cf) (k := k) (f := 49) (fn := Tryz.f49) (body := bd Tryz.f49) (sh := qj5) (os := qp2) rfl Tryz.func49 rfl ⟨rfl, Nat.le_of_ble_eq_true rfl⟩ (qd (qFv k)) (qFw k) (fun x => qak (k + 1) x.1 x.2) (qFx k)

def qbh (k : Nat) (rec : List Int → List Int → Nat → Int → Int → List Int → Option (Nat × List Int)) (a : List Int) (b : List Int) (d : Nat) (carry : Int) (i : Int) (ds : List Int) : Option (Nat × List Int) :=
 if ((decide (i < (((List.length a) : Nat) : Int))) = false) then
 if ((decide (i < (((List.length b) : Nat) : Int))) = false) then
 if ((decide (carry > (0 : Int))) = true) then
 if ((decide (i < (((List.length a) : Nat) : Int))) = true) then
 if ((0 : Int) ≤ i) then
 Option.bind (a)[(Int.toNat i)]? fun x3 =>
 if ((decide (i < (((List.length b) : Nat) : Int))) = true) then
 if ((0 : Int) ≤ i) then
 Option.bind (b)[(Int.toNat i)]? fun x4 =>
 if (d ≤ (List.length ds)) then
 if (((d + (List.length (List.take 1 ((Int.tmod (IntKind.wrap .i64 ((IntKind.wrap .i64 (carry + x3)) + x4)) (65536 : Int)) :: [])))) * 8) ≤ 140737488355328) then
 rec a b (d + (List.length (List.take 1 ((Int.tmod (IntKind.wrap .i64 ((IntKind.wrap .i64 (carry + x3)) + x4)) (65536 : Int)) :: [])))) (IntKind.wrap .i64 (Int.tdiv (IntKind.wrap .i64 ((IntKind.wrap .i64 (carry + x3)) + x4)) (65536 : Int))) (IntKind.wrap .i64 (i + (1 : Int))) ((List.take d ds) ++ (List.take 1 ((Int.tmod (IntKind.wrap .i64 ((IntKind.wrap .i64 (carry + x3)) + x4)) (65536 : Int)) :: [])))
 else
 none
 else
 none
 else
 none
 else
 if (d ≤ (List.length ds)) then
 if (((d + (List.length (List.take 1 ((Int.tmod (IntKind.wrap .i64 (carry + x3)) (65536 : Int)) :: [])))) * 8) ≤ 140737488355328) then
 rec a b (d + (List.length (List.take 1 ((Int.tmod (IntKind.wrap .i64 (carry + x3)) (65536 : Int)) :: [])))) (IntKind.wrap .i64 (Int.tdiv (IntKind.wrap .i64 (carry + x3)) (65536 : Int))) (IntKind.wrap .i64 (i + (1 : Int))) ((List.take d ds) ++ (List.take 1 ((Int.tmod (IntKind.wrap .i64 (carry + x3)) (65536 : Int)) :: [])))
 else
 none
 else
 none
 else
 none
 else
 if ((decide (i < (((List.length b) : Nat) : Int))) = true) then
 if ((0 : Int) ≤ i) then
 Option.bind (b)[(Int.toNat i)]? fun x3 =>
 if (d ≤ (List.length ds)) then
 if (((d + (List.length (List.take 1 ((Int.tmod (IntKind.wrap .i64 (carry + x3)) (65536 : Int)) :: [])))) * 8) ≤ 140737488355328) then
 rec a b (d + (List.length (List.take 1 ((Int.tmod (IntKind.wrap .i64 (carry + x3)) (65536 : Int)) :: [])))) (IntKind.wrap .i64 (Int.tdiv (IntKind.wrap .i64 (carry + x3)) (65536 : Int))) (IntKind.wrap .i64 (i + (1 : Int))) ((List.take d ds) ++ (List.take 1 ((Int.tmod (IntKind.wrap .i64 (carry + x3)) (65536 : Int)) :: [])))
 else
 none
 else
 none
 else
 none
 else
 if (d ≤ (List.length ds)) then
 if (((d + (List.length (List.take 1 ((Int.tmod carry (65536 : Int)) :: [])))) * 8) ≤ 140737488355328) then
 rec a b (d + (List.length (List.take 1 ((Int.tmod carry (65536 : Int)) :: [])))) (IntKind.wrap .i64 (Int.tdiv carry (65536 : Int))) (IntKind.wrap .i64 (i + (1 : Int))) ((List.take d ds) ++ (List.take 1 ((Int.tmod carry (65536 : Int)) :: [])))
 else
 none
 else
 none
 else
 (some (d, ds))
 else
 if ((decide (i < (((List.length a) : Nat) : Int))) = true) then
 if ((0 : Int) ≤ i) then
 Option.bind (a)[(Int.toNat i)]? fun x3 =>
 if ((decide (i < (((List.length b) : Nat) : Int))) = true) then
 if ((0 : Int) ≤ i) then
 Option.bind (b)[(Int.toNat i)]? fun x4 =>
 if (d ≤ (List.length ds)) then
 if (((d + (List.length (List.take 1 ((Int.tmod (IntKind.wrap .i64 ((IntKind.wrap .i64 (carry + x3)) + x4)) (65536 : Int)) :: [])))) * 8) ≤ 140737488355328) then
 rec a b (d + (List.length (List.take 1 ((Int.tmod (IntKind.wrap .i64 ((IntKind.wrap .i64 (carry + x3)) + x4)) (65536 : Int)) :: [])))) (IntKind.wrap .i64 (Int.tdiv (IntKind.wrap .i64 ((IntKind.wrap .i64 (carry + x3)) + x4)) (65536 : Int))) (IntKind.wrap .i64 (i + (1 : Int))) ((List.take d ds) ++ (List.take 1 ((Int.tmod (IntKind.wrap .i64 ((IntKind.wrap .i64 (carry + x3)) + x4)) (65536 : Int)) :: [])))
 else
 none
 else
 none
 else
 none
 else
 if (d ≤ (List.length ds)) then
 if (((d + (List.length (List.take 1 ((Int.tmod (IntKind.wrap .i64 (carry + x3)) (65536 : Int)) :: [])))) * 8) ≤ 140737488355328) then
 rec a b (d + (List.length (List.take 1 ((Int.tmod (IntKind.wrap .i64 (carry + x3)) (65536 : Int)) :: [])))) (IntKind.wrap .i64 (Int.tdiv (IntKind.wrap .i64 (carry + x3)) (65536 : Int))) (IntKind.wrap .i64 (i + (1 : Int))) ((List.take d ds) ++ (List.take 1 ((Int.tmod (IntKind.wrap .i64 (carry + x3)) (65536 : Int)) :: [])))
 else
 none
 else
 none
 else
 none
 else
 if ((decide (i < (((List.length b) : Nat) : Int))) = true) then
 if ((0 : Int) ≤ i) then
 Option.bind (b)[(Int.toNat i)]? fun x3 =>
 if (d ≤ (List.length ds)) then
 if (((d + (List.length (List.take 1 ((Int.tmod (IntKind.wrap .i64 (carry + x3)) (65536 : Int)) :: [])))) * 8) ≤ 140737488355328) then
 rec a b (d + (List.length (List.take 1 ((Int.tmod (IntKind.wrap .i64 (carry + x3)) (65536 : Int)) :: [])))) (IntKind.wrap .i64 (Int.tdiv (IntKind.wrap .i64 (carry + x3)) (65536 : Int))) (IntKind.wrap .i64 (i + (1 : Int))) ((List.take d ds) ++ (List.take 1 ((Int.tmod (IntKind.wrap .i64 (carry + x3)) (65536 : Int)) :: [])))
 else
 none
 else
 none
 else
 none
 else
 if (d ≤ (List.length ds)) then
 if (((d + (List.length (List.take 1 ((Int.tmod carry (65536 : Int)) :: [])))) * 8) ≤ 140737488355328) then
 rec a b (d + (List.length (List.take 1 ((Int.tmod carry (65536 : Int)) :: [])))) (IntKind.wrap .i64 (Int.tdiv carry (65536 : Int))) (IntKind.wrap .i64 (i + (1 : Int))) ((List.take d ds) ++ (List.take 1 ((Int.tmod carry (65536 : Int)) :: [])))
 else
 none
 else
 none
 else
 if ((decide (i < (((List.length a) : Nat) : Int))) = true) then
 if ((0 : Int) ≤ i) then
 Option.bind (a)[(Int.toNat i)]? fun x3 =>
 if ((decide (i < (((List.length b) : Nat) : Int))) = true) then
 if ((0 : Int) ≤ i) then
 Option.bind (b)[(Int.toNat i)]? fun x4 =>
 if (d ≤ (List.length ds)) then
 if (((d + (List.length (List.take 1 ((Int.tmod (IntKind.wrap .i64 ((IntKind.wrap .i64 (carry + x3)) + x4)) (65536 : Int)) :: [])))) * 8) ≤ 140737488355328) then
 rec a b (d + (List.length (List.take 1 ((Int.tmod (IntKind.wrap .i64 ((IntKind.wrap .i64 (carry + x3)) + x4)) (65536 : Int)) :: [])))) (IntKind.wrap .i64 (Int.tdiv (IntKind.wrap .i64 ((IntKind.wrap .i64 (carry + x3)) + x4)) (65536 : Int))) (IntKind.wrap .i64 (i + (1 : Int))) ((List.take d ds) ++ (List.take 1 ((Int.tmod (IntKind.wrap .i64 ((IntKind.wrap .i64 (carry + x3)) + x4)) (65536 : Int)) :: [])))
 else
 none
 else
 none
 else
 none
 else
 if (d ≤ (List.length ds)) then
 if (((d + (List.length (List.take 1 ((Int.tmod (IntKind.wrap .i64 (carry + x3)) (65536 : Int)) :: [])))) * 8) ≤ 140737488355328) then
 rec a b (d + (List.length (List.take 1 ((Int.tmod (IntKind.wrap .i64 (carry + x3)) (65536 : Int)) :: [])))) (IntKind.wrap .i64 (Int.tdiv (IntKind.wrap .i64 (carry + x3)) (65536 : Int))) (IntKind.wrap .i64 (i + (1 : Int))) ((List.take d ds) ++ (List.take 1 ((Int.tmod (IntKind.wrap .i64 (carry + x3)) (65536 : Int)) :: [])))
 else
 none
 else
 none
 else
 none
 else
 if ((decide (i < (((List.length b) : Nat) : Int))) = true) then
 if ((0 : Int) ≤ i) then
 Option.bind (b)[(Int.toNat i)]? fun x3 =>
 if (d ≤ (List.length ds)) then
 if (((d + (List.length (List.take 1 ((Int.tmod (IntKind.wrap .i64 (carry + x3)) (65536 : Int)) :: [])))) * 8) ≤ 140737488355328) then
 rec a b (d + (List.length (List.take 1 ((Int.tmod (IntKind.wrap .i64 (carry + x3)) (65536 : Int)) :: [])))) (IntKind.wrap .i64 (Int.tdiv (IntKind.wrap .i64 (carry + x3)) (65536 : Int))) (IntKind.wrap .i64 (i + (1 : Int))) ((List.take d ds) ++ (List.take 1 ((Int.tmod (IntKind.wrap .i64 (carry + x3)) (65536 : Int)) :: [])))
 else
 none
 else
 none
 else
 none
 else
 if (d ≤ (List.length ds)) then
 if (((d + (List.length (List.take 1 ((Int.tmod carry (65536 : Int)) :: [])))) * 8) ≤ 140737488355328) then
 rec a b (d + (List.length (List.take 1 ((Int.tmod carry (65536 : Int)) :: [])))) (IntKind.wrap .i64 (Int.tdiv carry (65536 : Int))) (IntKind.wrap .i64 (i + (1 : Int))) ((List.take d ds) ++ (List.take 1 ((Int.tmod carry (65536 : Int)) :: [])))
 else
 none
 else
 none
def qag (k n : Nat) : List Int → List Int → Nat → Int → Int → List Int → Option (Nat × List Int) := Nat.rec (fun _ _ _ _ _ _ => none) (fun _ r => qbh k r) n
def qe2 (k : Nat) (a : List Int) (b : List Int) : Option (List Int) :=
 Option.bind (qag k k a b 0 (0 : Int) (0 : Int) []) fun r11 =>
 Option.bind (qG k r11.1 r11.2) fun r12 =>
 if ((0 + r12.1) ≤ (List.length r12.2)) then
 (some (List.take r12.1 r12.2))
 else
 none
def qbY : Nat → List Int → List Int → Option (List Int)
 | 0, _, _ => none
 | k + 1, a, b => qe2 k a b
def qj6 : FS := { vs := [.a (.lf (.sl (.int .i64))), .a (.lf (.sl (.int .i64)))], bs := [] }
def qp3 : List FS := [{ vs := [.a (.lf (.sl (.int .i64)))], bs := [] }]
def qvY (k : Nat) : Inst := ⟨133, qj6, qp3, fun x => qbY k x.1 x.2⟩
theorem qxo (k : Nat) : qp (call cf k) [qfn k] := qA (qpP k) qT
def qix : List SS := [{ fr := [(0, .a (.lf (.sl (.int .i64)))), (1, .a (.lf (.sl (.int .i64)))), (5, .a (.smz 0)), (6, .a (.lf (.int .i64))), (7, .a (.lf (.int .i64)))], mem := [(0, some (.arr (.int .i64) 1 3 false))], nx := 1 }]
def qnd : List OS := [⟨some 0, { fr := [(5, .a (.smz 0))], mem := [(0, some (.arr (.int .i64) 1 3 false))], nx := 1 }⟩]
def qne (k : Nat) : LInst := ⟨0, qix, qnd, fun x => qag k k x.1 x.2.1 x.2.2.1 x.2.2.2.1 x.2.2.2.2.1 x.2.2.2.2.2⟩
theorem qBg (k : Nat) : qg (LOk (R := DS OS.D qnd) (fun b _ σ K => LOt Ty (kps 133) 0 b σ K []) cf (call cf k) (kps 133) Tryz.f133.ntmps k 0) 0 (lb Tryz.f133 0) :=
 qA (qA qT (qA qT qT)) (qA (qA qT (qA (qA qT (qA qT qT)) (qA (qA qT (qA qT qT)) (qA qT qT)))) qT)
theorem qBh (k n : Nat) (x : DS SS.D qix) : qag k (n + 1) x.1 x.2.1 x.2.2.1 x.2.2.2.1 x.2.2.2.2.1 x.2.2.2.2.2 = qI SS.enc (fun σ => qJ cf (fun f a b K => COt f a b K [qfn k]) (fun b _ σ K => LOt Ty (kps 133) 0 b σ K []) Tryz.f133.ntmps 0 (lb Tryz.f133 0) σ (qQ Ty (kps 133 0) 0 qix qnd fun x => qag k n x.1 x.2.1 x.2.2.1 x.2.2.2.1 x.2.2.2.2.1 x.2.2.2.2.2)) qix x := by kernel_rfl
theorem qBi (k : Nat) : qae cf (call cf k) (kps 133) Tryz.f133.ntmps k 0 0 (lb Tryz.f133 0) (qne k) :=
 qu (c := cf) (callF := call cf k) (kp := kps 133) (nt := Tryz.f133.ntmps) (k := k) (p := 0) (b := 0) (x0 := lb Tryz.f133 0) (hs := qix) (os := qnd) (qd (qxo k)) (qBg k) (fun n x => qag k n x.1 x.2.1 x.2.2.1 x.2.2.2.1 x.2.2.2.2.1 x.2.2.2.2.2) (fun _ => rfl) (qBh k)
theorem qFy (k : Nat) : qg (LOk (R := DS FS.D qp3) (fun b _ σ K => LOt Ty (kps 133) 0 b σ K [qne k]) cf (call cf k) (cf.keep 133) Tryz.f133.ntmps k qj6.bs.length) 0 (bd Tryz.f133) :=
 qA qT (qA qT (qA qT (qA (qA qT (qD (c := cf) (callF := call cf k) (kp := kps 133) (nt := Tryz.f133.ntmps) (k := k) (p := 0) (b := 0) (x0 := lb Tryz.f133 0) (l := [qne k]) (qA (fun _ => qBi k) qT))) (qA qT qT))))
theorem qFz (k : Nat) (x : qj6.D) : qbY (k + 1) x.1 x.2 = qk cf (fun f a b K => COt f a b K [qfn k]) (fun b _ σ K => LOt Ty (kps 133) 0 b σ K [qne k]) 133 Tryz.f133.ntmps Tryz.f133.results.toList (bd Tryz.f133) (qj6.enc x).1 (qj6.enc x).2 (qo FS.dec qp3) := by kernel_rfl
theorem qFA : ∀ k, qh (call cf k) (qvY k)
 | 0 => fun x y e => absurd (show (none : Option _) = some y from e) (by simp)
 | k + 1 => qe (c := cf) (k := k) (f := 133) (fn := Tryz.f133) (body := bd Tryz.f133) (sh := qj6) (os := qp3) rfl Tryz.func133 rfl ⟨rfl, Nat.le_of_ble_eq_true rfl⟩ (qd (qxo k)) (qFy k) (fun x => qbY (k + 1) x.1 x.2) (qFz k)

def qbZ (k : Nat) (a0 : Bool) (a1 : List Int) (b0 : Bool) (b1 : List Int) : Option (Bool × List Int) :=
 if ((a0 == b0) = true) then
 Option.bind (qbY k a1 b1) fun r11 =>
 if (a0 = true) then
 (some ((decide ((((List.length r11) : Nat) : Int) > (0 : Int))), r11))
 else
 (some (false, r11))
 else
 Option.bind (qbX k a1 b1) fun r11 =>
 if ((decide (r11 ≥ (0 : Int))) = true) then
 Option.bind (qaq k a1 b1) fun r12 =>
 if (a0 = true) then
 (some ((decide ((((List.length r12) : Nat) : Int) > (0 : Int))), r12))
 else
 (some (false, r12))
 else
 Option.bind (qaq k b1 a1) fun r12 =>
 (some (b0, r12))
def qaC : Nat → Bool → List Int → Bool → List Int → Option (Bool × List Int)
 | 0, _, _, _, _ => none
 | k + 1, a0, a1, b0, b1 => qbZ k a0 a1 b0 b1
def qj7 : FS := { vs := [.g [.lf .bool, .lf (.sl (.int .i64))], .g [.lf .bool, .lf (.sl (.int .i64))]], bs := [] }
def qp4 : List FS := [{ vs := [.g [.lf .bool, .lf (.sl (.int .i64))]], bs := [] }]
def qlf (k : Nat) : Inst := ⟨115, qj7, qp4, fun x => qaC k x.1 x.2.1 x.2.2.1 x.2.2.2⟩
theorem qFB (k : Nat) : qp (call cf k) [qvY k, qn7 k, qn8 k] := qA (qFA k) (qA (qxh k) (qA (qxk k) qT))
theorem qFC (k : Nat) : qg (LOk (R := DS FS.D qp4) (fun b _ σ K => LOt Ty (kps 115) 0 b σ K []) cf (call cf k) (cf.keep 115) Tryz.f115.ntmps k qj7.bs.length) 0 (bd Tryz.f115) :=
 qA qT (qA (qA qT (qA (qA qT (qA qT qT)) qT)) (qA (qA qT (qA (qA qT (qA qT qT)) qT)) (qA qT qT)))
theorem qFD (k : Nat) (x : qj7.D) : qaC (k + 1) x.1 x.2.1 x.2.2.1 x.2.2.2 = qk cf (fun f a b K => COt f a b K [qvY k, qn7 k, qn8 k]) (fun b _ σ K => LOt Ty (kps 115) 0 b σ K []) 115 Tryz.f115.ntmps Tryz.f115.results.toList (bd Tryz.f115) (qj7.enc x).1 (qj7.enc x).2 (qo FS.dec qp4) := by kernel_rfl
theorem qts : ∀ k, qh (call cf k) (qlf k)
 | 0 => fun x y e => absurd (show (none : Option _) = some y from e) (by simp)
 | k + 1 => qe (c := cf) (k := k) (f := 115) (fn := Tryz.f115) (body := bd Tryz.f115) (sh := qj7) (os := qp4) rfl Tryz.func115 rfl ⟨rfl, Nat.le_of_ble_eq_true rfl⟩ (qd (qFB k)) (qFC k) (fun x => qaC (k + 1) x.1 x.2.1 x.2.2.1 x.2.2.2) (qFD k)

def qlg (k : Nat) (a0 : Bool) (a1 : List Int) (b0 : Bool) (b1 : List Int) : Option (Bool × List Int) :=
 Option.bind (qaK k b0 b1) fun r10 =>
 Option.bind (qaC k a0 a1 r10.1 r10.2) fun r11 =>
 (some (r11.1, r11.2))
def qby : Nat → Bool → List Int → Bool → List Int → Option (Bool × List Int)
 | 0, _, _, _, _ => none
 | k + 1, a0, a1, b0, b1 => qlg k a0 a1 b0 b1
def qj8 : FS := { vs := [.g [.lf .bool, .lf (.sl (.int .i64))], .g [.lf .bool, .lf (.sl (.int .i64))]], bs := [] }
def qp5 : List FS := [{ vs := [.g [.lf .bool, .lf (.sl (.int .i64))]], bs := [] }]
def qrg (k : Nat) : Inst := ⟨119, qj8, qp5, fun x => qby k x.1 x.2.1 x.2.2.1 x.2.2.2⟩
theorem qFE (k : Nat) : qp (call cf k) [qle k, qlf k] := qA (qtp k) (qA (qts k) qT)
theorem qFF (k : Nat) : qg (LOk (R := DS FS.D qp5) (fun b _ σ K => LOt Ty (kps 119) 0 b σ K []) cf (call cf k) (cf.keep 119) Tryz.f119.ntmps k qj8.bs.length) 0 (bd Tryz.f119) :=
 qA qT (qA qT qT)
theorem qFG (k : Nat) (x : qj8.D) : qby (k + 1) x.1 x.2.1 x.2.2.1 x.2.2.2 = qk cf (fun f a b K => COt f a b K [qle k, qlf k]) (fun b _ σ K => LOt Ty (kps 119) 0 b σ K []) 119 Tryz.f119.ntmps Tryz.f119.results.toList (bd Tryz.f119) (qj8.enc x).1 (qj8.enc x).2 (qo FS.dec qp5) := by kernel_rfl
theorem qxp : ∀ k, qh (call cf k) (qrg k)
 | 0 => fun x y e => absurd (show (none : Option _) = some y from e) (by simp)
 | k + 1 => qe (c := cf) (k := k) (f := 119) (fn := Tryz.f119) (body := bd Tryz.f119) (sh := qj8) (os := qp5) rfl Tryz.func119 rfl ⟨rfl, Nat.le_of_ble_eq_true rfl⟩ (qd (qFE k)) (qFF k) (fun x => qby (k + 1) x.1 x.2.1 x.2.2.1 x.2.2.2) (qFG k)

def qlh (k : Nat) (a0 : Bool) (a1 : List Int) (b0 : Bool) (b1 : List Int) : Option (Int) :=
 Option.bind (qby k a0 a1 b0 b1) fun r10 =>
 Option.bind (qaS k r10.1 r10.2) fun r11 =>
 (some r11)
def qbz : Nat → Bool → List Int → Bool → List Int → Option (Int)
 | 0, _, _, _, _ => none
 | k + 1, a0, a1, b0, b1 => qlh k a0 a1 b0 b1
def qj9 : FS := { vs := [.g [.lf .bool, .lf (.sl (.int .i64))], .g [.lf .bool, .lf (.sl (.int .i64))]], bs := [] }
def qp6 : List FS := [{ vs := [.a (.lf (.int .i64))], bs := [] }]
def qoa (k : Nat) : Inst := ⟨89, qj9, qp6, fun x => qbz k x.1 x.2.1 x.2.2.1 x.2.2.2⟩
theorem qFH (k : Nat) : qp (call cf k) [qrg k, qld k] := qA (qxp k) (qA (qto k) qT)
theorem qFI (k : Nat) : qg (LOk (R := DS FS.D qp6) (fun b _ σ K => LOt Ty (kps 89) 0 b σ K []) cf (call cf k) (cf.keep 89) Tryz.f89.ntmps k qj9.bs.length) 0 (bd Tryz.f89) :=
 qA qT (qA qT qT)
theorem qFJ (k : Nat) (x : qj9.D) : qbz (k + 1) x.1 x.2.1 x.2.2.1 x.2.2.2 = qk cf (fun f a b K => COt f a b K [qrg k, qld k]) (fun b _ σ K => LOt Ty (kps 89) 0 b σ K []) 89 Tryz.f89.ntmps Tryz.f89.results.toList (bd Tryz.f89) (qj9.enc x).1 (qj9.enc x).2 (qo FS.dec qp6) := by kernel_rfl
theorem qxq : ∀ k, qh (call cf k) (qoa k)
 | 0 => fun x y e => absurd (show (none : Option _) = some y from e) (by simp)
 | k + 1 => qe (c := cf) (k := k) (f := 89) (fn := Tryz.f89) (body := bd Tryz.f89) (sh := qj9) (os := qp6) rfl Tryz.func89 rfl ⟨rfl, Nat.le_of_ble_eq_true rfl⟩ (qd (qFH k)) (qFI k) (fun x => qbz (k + 1) x.1 x.2.1 x.2.2.1 x.2.2.2) (qFJ k)

def qob (k : Nat) (v : Int) : Option (Bool × List Int × Bool × List Int) :=
 Option.bind (qaR k v) fun r5 =>
 Option.bind (qz k (1 : Int)) fun r6 =>
 (some (r5.1, r5.2, r6.1, r6.2))
def qbI : Nat → Int → Option (Bool × List Int × Bool × List Int)
 | 0, _ => none
 | k + 1, v => qob k v
def qka : FS := { vs := [.a (.lf (.int .i64))], bs := [] }
def qp7 : List FS := [{ vs := [.g [.lf .bool, .lf (.sl (.int .i64)), .lf .bool, .lf (.sl (.int .i64))]], bs := [] }]
def qrh (k : Nat) : Inst := ⟨80, qka, qp7, fun x => qbI k x⟩
theorem qFK (k : Nat) : qp (call cf k) [qij k, qeA k] := qA (qtm k) (qA (qjS k) qT)
theorem qFL (k : Nat) : qg (LOk (R := DS FS.D qp7) (fun b _ σ K => LOt Ty (kps 80) 0 b σ K []) cf (call cf k) (cf.keep 80) Tryz.f80.ntmps k qka.bs.length) 0 (bd Tryz.f80) :=
 qA qT (qA qT qT)
theorem qFM (k : Nat) (x : qka.D) : qbI (k + 1) x = qk cf (fun f a b K => COt f a b K [qij k, qeA k]) (fun b _ σ K => LOt Ty (kps 80) 0 b σ K []) 80 Tryz.f80.ntmps Tryz.f80.results.toList (bd Tryz.f80) (qka.enc x).1 (qka.enc x).2 (qo FS.dec qp7) := by kernel_rfl
theorem qxr : ∀ k, qh (call cf k) (qrh k)
 | 0 => fun x y e => absurd (show (none : Option _) = some y from e) (by simp)
 | k + 1 => qe (c := cf) (k := k) (f := 80) (fn := Tryz.f80) (body := bd Tryz.f80) (sh := qka) (os := qp7) rfl Tryz.func80 rfl ⟨rfl, Nat.le_of_ble_eq_true rfl⟩ (qd (qFK k)) (qFL k) (fun x => qbI (k + 1) x) (qFM k)

def qkG (k : Nat) (a0 : Bool) (a1 : List Int) (a2 : Bool) (a3 : List Int) (b0 : Bool) (b1 : List Int) (b2 : Bool) (b3 : List Int) : Option (Bool × List Int × Bool × List Int) :=
 Option.bind (qB k a0 a1 b0 b1) fun r8 =>
 Option.bind (qB k a2 a3 b2 b3) fun r9 =>
 Option.bind (qau k r8.1 r8.2 r9.1 r9.2) fun r10 =>
 (some (r10.1, r10.2.1, r10.2.2.1, r10.2.2.2))
def qbd : Nat → Bool → List Int → Bool → List Int → Bool → List Int → Bool → List Int → Option (Bool × List Int × Bool × List Int)
 | 0, _, _, _, _, _, _, _, _ => none
 | k + 1, a0, a1, a2, a3, b0, b1, b2, b3 => qkG k a0 a1 a2 a3 b0 b1 b2 b3
def qkb : FS := { vs := [.g [.lf .bool, .lf (.sl (.int .i64)), .lf .bool, .lf (.sl (.int .i64))], .g [.lf .bool, .lf (.sl (.int .i64)), .lf .bool, .lf (.sl (.int .i64))]], bs := [] }
def qp8 : List FS := [{ vs := [.g [.lf .bool, .lf (.sl (.int .i64)), .lf .bool, .lf (.sl (.int .i64))]], bs := [] }]
def qri (k : Nat) : Inst := ⟨84, qkb, qp8, fun x => qbd k x.1 x.2.1 x.2.2.1 x.2.2.2.1 x.2.2.2.2.1 x.2.2.2.2.2.1 x.2.2.2.2.2.2.1 x.2.2.2.2.2.2.2⟩
theorem qFN (k : Nat) : qp (call cf k) [qdK k, qhq k] := qA (qgr k) (qA (qp1 k) qT)
theorem qFO (k : Nat) : qg (LOk (R := DS FS.D qp8) (fun b _ σ K => LOt Ty (kps 84) 0 b σ K []) cf (call cf k) (cf.keep 84) Tryz.f84.ntmps k qkb.bs.length) 0 (bd Tryz.f84) :=
 qA qT (qA qT qT)
theorem qFP (k : Nat) (x : qkb.D) : qbd (k + 1) x.1 x.2.1 x.2.2.1 x.2.2.2.1 x.2.2.2.2.1 x.2.2.2.2.2.1 x.2.2.2.2.2.2.1 x.2.2.2.2.2.2.2 = qk cf (fun f a b K => COt f a b K [qdK k, qhq k]) (fun b _ σ K => LOt Ty (kps 84) 0 b σ K []) 84 Tryz.f84.ntmps Tryz.f84.results.toList (bd Tryz.f84) (qkb.enc x).1 (qkb.enc x).2 (qo FS.dec qp8) := by kernel_rfl
theorem qxs : ∀ k, qh (call cf k) (qri k)
 | 0 => fun x y e => absurd (show (none : Option _) = some y from e) (by simp)
 | k + 1 => qe (c := cf) (k := k) (f := 84) (fn := Tryz.f84) (body := bd Tryz.f84) (sh := qkb) (os := qp8) rfl Tryz.func84 rfl ⟨rfl, Nat.le_of_ble_eq_true rfl⟩ (qd (qFN k)) (qFO k) (fun x => qbd (k + 1) x.1 x.2.1 x.2.2.1 x.2.2.2.1 x.2.2.2.2.1 x.2.2.2.2.2.1 x.2.2.2.2.2.2.1 x.2.2.2.2.2.2.2) (qFP k)

def qhy (k : Nat) (f0 : Bool) (f1 : List Int) (f2 : Bool) (f3 : List Int) : Option (Bool × List Int × Bool × List Int) :=
 Option.bind (qbI k (1000000000 : Int)) fun r7 =>
 Option.bind (qbd k f0 f1 f2 f3 r7.1 r7.2.1 r7.2.2.1 r7.2.2.2) fun r8 =>
 (some (r8.1, r8.2.1, r8.2.2.1, r8.2.2.2))
def qbM : Nat → Bool → List Int → Bool → List Int → Option (Bool × List Int × Bool × List Int)
 | 0, _, _, _, _ => none
 | k + 1, f0, f1, f2, f3 => qhy k f0 f1 f2 f3
def qkc : FS := { vs := [.g [.lf .bool, .lf (.sl (.int .i64)), .lf .bool, .lf (.sl (.int .i64))]], bs := [] }
def qp9 : List FS := [{ vs := [.g [.lf .bool, .lf (.sl (.int .i64)), .lf .bool, .lf (.sl (.int .i64))]], bs := [] }]
def qvZ (k : Nat) : Inst := ⟨62, qkc, qp9, fun x => qbM k x.1 x.2.1 x.2.2.1 x.2.2.2⟩
theorem qFQ (k : Nat) : qp (call cf k) [qrh k, qri k] := qA (qxr k) (qA (qxs k) qT)
theorem qFR (k : Nat) : qg (LOk (R := DS FS.D qp9) (fun b _ σ K => LOt Ty (kps 62) 0 b σ K []) cf (call cf k) (cf.keep 62) Tryz.f62.ntmps k qkc.bs.length) 0 (bd Tryz.f62) :=
 qA qT (qA qT qT)
theorem qFS (k : Nat) (x : qkc.D) : qbM (k + 1) x.1 x.2.1 x.2.2.1 x.2.2.2 = qk cf (fun f a b K => COt f a b K [qrh k, qri k]) (fun b _ σ K => LOt Ty (kps 62) 0 b σ K []) 62 Tryz.f62.ntmps Tryz.f62.results.toList (bd Tryz.f62) (qkc.enc x).1 (qkc.enc x).2 (qo FS.dec qp9) := by kernel_rfl
theorem qFT : ∀ k, qh (call cf k) (qvZ k)
 | 0 => fun x y e => absurd (show (none : Option _) = some y from e) (by simp)
 | k + 1 => qe (c := cf) (k := k) (f := 62) (fn := Tryz.f62) (body := bd Tryz.f62) (sh := qkc) (os := qp9) rfl Tryz.func62 rfl ⟨rfl, Nat.le_of_ble_eq_true rfl⟩ (qd (qFQ k)) (qFR k) (fun x => qbM (k + 1) x.1 x.2.1 x.2.2.1 x.2.2.2) (qFS k)

def qli (k : Nat) (a0 : Bool) (a1 : List Int) (a2 : Bool) (a3 : List Int) (b0 : Bool) (b1 : List Int) (b2 : Bool) (b3 : List Int) : Option (Bool × List Int × Bool × List Int) :=
 Option.bind (qB k a0 a1 b2 b3) fun r8 =>
 Option.bind (qB k b0 b1 a2 a3) fun r9 =>
 Option.bind (qaC k r8.1 r8.2 r9.1 r9.2) fun r10 =>
 Option.bind (qB k a2 a3 b2 b3) fun r11 =>
 Option.bind (qau k r10.1 r10.2 r11.1 r11.2) fun r12 =>
 (some (r12.1, r12.2.1, r12.2.2.1, r12.2.2.2))
def qb0 : Nat → Bool → List Int → Bool → List Int → Bool → List Int → Bool → List Int → Option (Bool × List Int × Bool × List Int)
 | 0, _, _, _, _, _, _, _, _ => none
 | k + 1, a0, a1, a2, a3, b0, b1, b2, b3 => qli k a0 a1 a2 a3 b0 b1 b2 b3
def qkd : FS := { vs := [.g [.lf .bool, .lf (.sl (.int .i64)), .lf .bool, .lf (.sl (.int .i64))], .g [.lf .bool, .lf (.sl (.int .i64)), .lf .bool, .lf (.sl (.int .i64))]], bs := [] }
def qqa : List FS := [{ vs := [.g [.lf .bool, .lf (.sl (.int .i64)), .lf .bool, .lf (.sl (.int .i64))]], bs := [] }]
def qrj (k : Nat) : Inst := ⟨83, qkd, qqa, fun x => qb0 k x.1 x.2.1 x.2.2.1 x.2.2.2.1 x.2.2.2.2.1 x.2.2.2.2.2.1 x.2.2.2.2.2.2.1 x.2.2.2.2.2.2.2⟩
theorem qFU (k : Nat) : qp (call cf k) [qdK k, qlf k, qhq k] := qA (qgr k) (qA (qts k) (qA (qp1 k) qT))
theorem qFV (k : Nat) : qg (LOk (R := DS FS.D qqa) (fun b _ σ K => LOt Ty (kps 83) 0 b σ K []) cf (call cf k) (cf.keep 83) Tryz.f83.ntmps k qkd.bs.length) 0 (bd Tryz.f83) :=
 qA qT (qA qT qT)
theorem qFW (k : Nat) (x : qkd.D) : qb0 (k + 1) x.1 x.2.1 x.2.2.1 x.2.2.2.1 x.2.2.2.2.1 x.2.2.2.2.2.1 x.2.2.2.2.2.2.1 x.2.2.2.2.2.2.2 = qk cf (fun f a b K => COt f a b K [qdK k, qlf k, qhq k]) (fun b _ σ K => LOt Ty (kps 83) 0 b σ K []) 83 Tryz.f83.ntmps Tryz.f83.results.toList (bd Tryz.f83) (qkd.enc x).1 (qkd.enc x).2 (qo FS.dec qqa) := by kernel_rfl
theorem qxt : ∀ k, qh (call cf k) (qrj k)
 | 0 => fun x y e => absurd (show (none : Option _) = some y from e) (by simp)
 | k + 1 => qe (c := cf) (k := k) (f := 83) (fn := Tryz.f83) (body := bd Tryz.f83) (sh := qkd) (os := qqa) rfl Tryz.func83 rfl ⟨rfl, Nat.le_of_ble_eq_true rfl⟩ (qd (qFU k)) (qFV k) (fun x => qb0 (k + 1) x.1 x.2.1 x.2.2.1 x.2.2.2.1 x.2.2.2.2.1 x.2.2.2.2.2.1 x.2.2.2.2.2.2.1 x.2.2.2.2.2.2.2) (qFW k)

def qkH (k : Nat) (a0 : Bool) (a1 : List Int) (a2 : Bool) (a3 : List Int) : Option (Bool × List Int × Bool × List Int) :=
 Option.bind (qaK k a0 a1) fun r10 =>
 (some (r10.1, r10.2, a2, a3))
def qcl : Nat → Bool → List Int → Bool → List Int → Option (Bool × List Int × Bool × List Int)
 | 0, _, _, _, _ => none
 | k + 1, a0, a1, a2, a3 => qkH k a0 a1 a2 a3
def qke : FS := { vs := [.g [.lf .bool, .lf (.sl (.int .i64)), .lf .bool, .lf (.sl (.int .i64))]], bs := [] }
def qqb : List FS := [{ vs := [.g [.lf .bool, .lf (.sl (.int .i64)), .lf .bool, .lf (.sl (.int .i64))]], bs := [] }]
def qv0 (k : Nat) : Inst := ⟨114, qke, qqb, fun x => qcl k x.1 x.2.1 x.2.2.1 x.2.2.2⟩
theorem qFX (k : Nat) : qp (call cf k) [qle k] := qA (qtp k) qT
theorem qFY (k : Nat) : qg (LOk (R := DS FS.D qqb) (fun b _ σ K => LOt Ty (kps 114) 0 b σ K []) cf (call cf k) (cf.keep 114) Tryz.f114.ntmps k qke.bs.length) 0 (bd Tryz.f114) :=
 qA qT (qA qT qT)
theorem qFZ (k : Nat) (x : qke.D) : qcl (k + 1) x.1 x.2.1 x.2.2.1 x.2.2.2 = qk cf (fun f a b K => COt f a b K [qle k]) (fun b _ σ K => LOt Ty (kps 114) 0 b σ K []) 114 Tryz.f114.ntmps Tryz.f114.results.toList (bd Tryz.f114) (qke.enc x).1 (qke.enc x).2 (qo FS.dec qqb) := by kernel_rfl
theorem qF0 : ∀ k, qh (call cf k) (qv0 k)
 | 0 => fun x y e => absurd (show (none : Option _) = some y from e) (by simp)
 | k + 1 => qe (c := cf) (k := k) (f := 114) (fn := Tryz.f114) (body := bd Tryz.f114) (sh := qke) (os := qqb) rfl Tryz.func114 rfl ⟨rfl, Nat.le_of_ble_eq_true rfl⟩ (qd (qFX k)) (qFY k) (fun x => qcl (k + 1) x.1 x.2.1 x.2.2.1 x.2.2.2) (qFZ k)

def qlj (k : Nat) (a0 : Bool) (a1 : List Int) (a2 : Bool) (a3 : List Int) (b0 : Bool) (b1 : List Int) (b2 : Bool) (b3 : List Int) : Option (Bool × List Int × Bool × List Int) :=
 Option.bind (qcl k b0 b1 b2 b3) fun r10 =>
 Option.bind (qb0 k a0 a1 a2 a3 r10.1 r10.2.1 r10.2.2.1 r10.2.2.2) fun r11 =>
 (some (r11.1, r11.2.1, r11.2.2.1, r11.2.2.2))
def qcL : Nat → Bool → List Int → Bool → List Int → Bool → List Int → Bool → List Int → Option (Bool × List Int × Bool × List Int)
 | 0, _, _, _, _, _, _, _, _ => none
 | k + 1, a0, a1, a2, a3, b0, b1, b2, b3 => qlj k a0 a1 a2 a3 b0 b1 b2 b3
def qkf : FS := { vs := [.g [.lf .bool, .lf (.sl (.int .i64)), .lf .bool, .lf (.sl (.int .i64))], .g [.lf .bool, .lf (.sl (.int .i64)), .lf .bool, .lf (.sl (.int .i64))]], bs := [] }
def qqc : List FS := [{ vs := [.g [.lf .bool, .lf (.sl (.int .i64)), .lf .bool, .lf (.sl (.int .i64))]], bs := [] }]
def qv1 (k : Nat) : Inst := ⟨82, qkf, qqc, fun x => qcL k x.1 x.2.1 x.2.2.1 x.2.2.2.1 x.2.2.2.2.1 x.2.2.2.2.2.1 x.2.2.2.2.2.2.1 x.2.2.2.2.2.2.2⟩
theorem qF1 (k : Nat) : qp (call cf k) [qv0 k, qrj k] := qA (qF0 k) (qA (qxt k) qT)
theorem qF2 (k : Nat) : qg (LOk (R := DS FS.D qqc) (fun b _ σ K => LOt Ty (kps 82) 0 b σ K []) cf (call cf k) (cf.keep 82) Tryz.f82.ntmps k qkf.bs.length) 0 (bd Tryz.f82) :=
 qA qT (qA qT qT)
theorem qF3 (k : Nat) (x : qkf.D) : qcL (k + 1) x.1 x.2.1 x.2.2.1 x.2.2.2.1 x.2.2.2.2.1 x.2.2.2.2.2.1 x.2.2.2.2.2.2.1 x.2.2.2.2.2.2.2 = qk cf (fun f a b K => COt f a b K [qv0 k, qrj k]) (fun b _ σ K => LOt Ty (kps 82) 0 b σ K []) 82 Tryz.f82.ntmps Tryz.f82.results.toList (bd Tryz.f82) (qkf.enc x).1 (qkf.enc x).2 (qo FS.dec qqc) := by kernel_rfl
theorem qF4 : ∀ k, qh (call cf k) (qv1 k)
 | 0 => fun x y e => absurd (show (none : Option _) = some y from e) (by simp)
 | k + 1 => qe (c := cf) (k := k) (f := 82) (fn := Tryz.f82) (body := bd Tryz.f82) (sh := qkf) (os := qqc) rfl Tryz.func82 rfl ⟨rfl, Nat.le_of_ble_eq_true rfl⟩ (qd (qF1 k)) (qF2 k) (fun x => qcL (k + 1) x.1 x.2.1 x.2.2.1 x.2.2.2.1 x.2.2.2.2.1 x.2.2.2.2.2.1 x.2.2.2.2.2.2.1 x.2.2.2.2.2.2.2) (qF3 k)

def qct (k : Nat) (rec : List (Int × Int) → List (Int × Int) → Int → Option ((Bool) ⊕ (Unit))) (a : List (Int × Int)) (b : List (Int × Int)) (i : Int) : Option ((Bool) ⊕ (Unit)) :=
 if ((decide (i < (((List.length a) : Nat) : Int))) = true) then
 if ((0 : Int) ≤ i) then
 Option.bind (a)[(Int.toNat i)]? fun x =>
 if ((0 : Int) ≤ i) then
 Option.bind (b)[(Int.toNat i)]? fun x1 =>
 if ((x.1 == x1.1) = true) then
 if ((x.2 == x1.2) = true) then
 rec a b (IntKind.wrap .i64 (i + (1 : Int)))
 else
 (some (Sum.inl false))
 else
 (some (Sum.inl false))
 else
 none
 else
 none
 else
 (some (Sum.inr ()))
def qav (k n : Nat) : List (Int × Int) → List (Int × Int) → Int → Option ((Bool) ⊕ (Unit)) := Nat.rec (fun _ _ _ => none) (fun _ r => qct k r) n
def qlk (k : Nat) (a : List (Int × Int)) (b : List (Int × Int)) : Option (Bool) :=
 if (((((List.length a) : Nat) : Int) != (((List.length b) : Nat) : Int)) = true) then
 (some false)
 else
 Option.bind (qav k k a b (0 : Int)) fun r14 =>
 qc r14
 (fun r14 =>
 (some r14))
 (fun r14 =>
 (some true))
def qcM : Nat → List (Int × Int) → List (Int × Int) → Option (Bool)
 | 0, _, _ => none
 | k + 1, a, b => qlk k a b
def qkg : FS := { vs := [.a (.lf (.sl (.pr (.int .i64) (.int .i64)))), .a (.lf (.sl (.pr (.int .i64) (.int .i64))))], bs := [] }
def qqd : List FS := [{ vs := [.a (.lf .bool)], bs := [] }]
def qtt (k : Nat) : Inst := ⟨54, qkg, qqd, fun x => qcM k x.1 x.2⟩
theorem qxu (k : Nat) : qp (call cf k) [] := True.intro
def qiy : List SS := [{ fr := [(0, .a (.lf (.sl (.pr (.int .i64) (.int .i64))))), (1, .a (.lf (.sl (.pr (.int .i64) (.int .i64))))), (5, .a (.lf (.int .i64)))], mem := [], nx := 0 }]
def qnf : List OS := [⟨none, { fr := [(4, .a (.lf .bool))], mem := [], nx := 0 }⟩, ⟨some 0, { fr := [], mem := [], nx := 0 }⟩]
def qng (k : Nat) : LInst := ⟨0, qiy, qnf, fun x => qav k k x.1 x.2.1 x.2.2⟩
theorem qBj (k : Nat) : qg (LOk (R := DS OS.D qnf) (fun b _ σ K => LOt Ty (kps 54) 0 b σ K []) cf (call cf k) (kps 54) Tryz.f54.ntmps k 0) 0 (lb Tryz.f54 0) :=
 qA (qA qT (qA qT qT)) (qA (qA qT (qA (qA qT qT) qT)) qT)
theorem qBk (k n : Nat) (x : DS SS.D qiy) : qav k (n + 1) x.1 x.2.1 x.2.2 = qI SS.enc (fun σ => qJ cf (fun f a b K => COt f a b K []) (fun b _ σ K => LOt Ty (kps 54) 0 b σ K []) Tryz.f54.ntmps 0 (lb Tryz.f54 0) σ (qQ Ty (kps 54 0) 0 qiy qnf fun x => qav k n x.1 x.2.1 x.2.2)) qiy x := by kernel_rfl
theorem qBl (k : Nat) : qae cf (call cf k) (kps 54) Tryz.f54.ntmps k 0 0 (lb Tryz.f54 0) (qng k) :=
 qu (c := cf) (callF := call cf k) (kp := kps 54) (nt := Tryz.f54.ntmps) (k := k) (p := 0) (b := 0) (x0 := lb Tryz.f54 0) (hs := qiy) (os := qnf) (qd (qxu k)) (qBj k) (fun n x => qav k n x.1 x.2.1 x.2.2) (fun _ => rfl) (qBk k)
theorem qF5 (k : Nat) : qg (LOk (R := DS FS.D qqd) (fun b _ σ K => LOt Ty (kps 54) 0 b σ K [qng k]) cf (call cf k) (cf.keep 54) Tryz.f54.ntmps k qkg.bs.length) 0 (bd Tryz.f54) :=
 qA qT (qA (qA qT (qA (qA qT qT) qT)) (qA (qA qT (qD (c := cf) (callF := call cf k) (kp := kps 54) (nt := Tryz.f54.ntmps) (k := k) (p := 0) (b := 0) (x0 := lb Tryz.f54 0) (l := [qng k]) (qA (fun _ => qBl k) qT))) (qA qT qT)))
theorem qF6 (k : Nat) (x : qkg.D) : qcM (k + 1) x.1 x.2 = qk cf (fun f a b K => COt f a b K []) (fun b _ σ K => LOt Ty (kps 54) 0 b σ K [qng k]) 54 Tryz.f54.ntmps Tryz.f54.results.toList (bd Tryz.f54) (qkg.enc x).1 (qkg.enc x).2 (qo FS.dec qqd) := by kernel_rfl
theorem qF7 : ∀ k, qh (call cf k) (qtt k)
 | 0 => fun x y e => absurd (show (none : Option _) = some y from e) (by simp)
 | k + 1 => qe (c := cf) (k := k) (f := 54) (fn := Tryz.f54) (body := bd Tryz.f54) (sh := qkg) (os := qqd) rfl Tryz.func54 rfl ⟨rfl, Nat.le_of_ble_eq_true rfl⟩ (qd (qxu k)) (qF5 k) (fun x => qcM (k + 1) x.1 x.2) (qF6 k)


end
end Go.Proofs.YtbhnafdmilfobaaGreat.Am

/- Printed functions: each says what the typed machine says of the program -/
set_option linter.unusedVariables false
set_option maxRecDepth 100000
namespace Go.Proofs.YtbhnafdmilfobaaGreat.Am
open Go
noncomputable section

def qe3 (k : Nat) (w0 : Int) (w1 : List (Int × Int)) (w2 : List Int) : Option (Int × Nat × Nat × List (Int × Int) × List Int) :=
 if (((0 + (List.length w1)) * 16) ≤ 140737488355328) then
 if ((0 + (List.length w1)) ≤ (List.length ((List.take 0 []) ++ w1))) then
 if ((((0 + (List.length w1)) + 1) * 16) ≤ 140737488355328) then
 if (((0 : Int) ≤ (0 : Int)) ∧ (((0 : Int) ≤ (((List.length w1) : Nat) : Int)) ∧ (((0 + (Int.toNat (((List.length w1) : Nat) : Int))) ≤ (List.length ((List.take (0 + (List.length w1)) ((List.take 0 []) ++ w1)) ++ (List.take 1 (((77 : Int), (0 : Int)) :: []))))) ∧ (((0 : Int) < (((List.length w1) : Nat) : Int)) ∨ (true = true))))) then
 if (((0 + (List.length w2)) * 8) ≤ 140737488355328) then
 if ((0 + (List.length w2)) ≤ (List.length ((List.take 0 []) ++ w2))) then
 if ((((0 + (List.length w2)) + 1) * 8) ≤ 140737488355328) then
 if (((0 : Int) ≤ (0 : Int)) ∧ (((0 : Int) ≤ (((List.length w2) : Nat) : Int)) ∧ (((0 + (Int.toNat (((List.length w2) : Nat) : Int))) ≤ (List.length ((List.take (0 + (List.length w2)) ((List.take 0 []) ++ w2)) ++ (List.take 1 ((-(77 : Int)) :: []))))) ∧ (((0 : Int) < (((List.length w2) : Nat) : Int)) ∨ (true = true))))) then
 (some (w0, (Int.toNat (((List.length w1) : Nat) : Int)), (Int.toNat (((List.length w2) : Nat) : Int)), ((List.take (0 + (List.length w1)) ((List.take 0 []) ++ w1)) ++ (List.take 1 (((77 : Int), (0 : Int)) :: []))), ((List.take (0 + (List.length w2)) ((List.take 0 []) ++ w2)) ++ (List.take 1 ((-(77 : Int)) :: [])))))
 else
 none
 else
 none
 else
 none
 else
 none
 else
 none
 else
 none
 else
 none
 else
 none
def qcN : Nat → Int → List (Int × Int) → List Int → Option (Int × Nat × Nat × List (Int × Int) × List Int)
 | 0, _, _, _ => none
 | k + 1, w0, w1, w2 => qe3 k w0 w1 w2
def qkh : FS := { vs := [.g [.lf (.int .i64), .lf (.sl (.pr (.int .i64) (.int .i64))), .lf (.sl (.int .i64))]], bs := [] }
def qqe : List FS := [{ vs := [.g [.lf (.int .i64), .smz 0, .smz 1]], bs := [.arr (.pr (.int .i64) (.int .i64)) 2 48 false, .arr (.int .i64) 1 3 false] }]
def qtu (k : Nat) : Inst := ⟨19, qkh, qqe, fun x => qcN k x.1 x.2.1 x.2.2⟩
theorem qF8 (k : Nat) : qp (call cf k) [] := True.intro
theorem qF9 (k : Nat) : qg (LOk (R := DS FS.D qqe) (fun b _ σ K => LOt Ty (kps 19) 0 b σ K []) cf (call cf k) (cf.keep 19) Tryz.f19.ntmps k qkh.bs.length) 0 (bd Tryz.f19) :=
 qA qT (qA qT (qA qT (qA qT qT)))
theorem qGa (k : Nat) (x : qkh.D) : qcN (k + 1) x.1 x.2.1 x.2.2 = qk cf (fun f a b K => COt f a b K []) (fun b _ σ K => LOt Ty (kps 19) 0 b σ K []) 19 Tryz.f19.ntmps Tryz.f19.results.toList (bd Tryz.f19) (qkh.enc x).1 (qkh.enc x).2 (qo FS.dec qqe) := by kernel_rfl
theorem qGb : ∀ k, qh (call cf k) (qtu k)
 | 0 => fun x y e => absurd (show (none : Option _) = some y from e) (by simp)
 | k + 1 => qe (c := cf) (k := k) (f := 19) (fn := Tryz.f19) (body := bd Tryz.f19) (sh := qkh) (os := qqe) rfl Tryz.func19 rfl ⟨rfl, Nat.le_of_ble_eq_true rfl⟩ (qd (qF8 k)) (qF9 k) (fun x => qcN (k + 1) x.1 x.2.1 x.2.2) (qGa k)

def qaW (k : Nat) (rec : List Int → Int → Option ((Bool) ⊕ (Unit))) (l : List Int) (i : Int) : Option ((Bool) ⊕ (Unit)) :=
 if ((decide (i < (((List.length l) : Nat) : Int))) = true) then
 if ((0 : Int) ≤ (IntKind.wrap .i64 (i - (1 : Int)))) then
 Option.bind (l)[(Int.toNat (IntKind.wrap .i64 (i - (1 : Int))))]? fun x =>
 if ((0 : Int) ≤ i) then
 Option.bind (l)[(Int.toNat i)]? fun x1 =>
 if ((decide (x ≥ x1)) = true) then
 (some (Sum.inl false))
 else
 rec l (IntKind.wrap .i64 (i + (1 : Int)))
 else
 none
 else
 none
 else
 (some (Sum.inr ()))
def qO (k n : Nat) : List Int → Int → Option ((Bool) ⊕ (Unit)) := Nat.rec (fun _ _ => none) (fun _ r => qaW k r) n
def qiz (k : Nat) (l : List Int) : Option (Bool) :=
 Option.bind (qO k k l (1 : Int)) fun r5 =>
 qc r5
 (fun r5 =>
 (some r5))
 (fun r5 =>
 (some true))
def qbA : Nat → List Int → Option (Bool)
 | 0, _ => none
 | k + 1, l => qiz k l
def qki : FS := { vs := [.a (.lf (.sl (.int .i64)))], bs := [] }
def qqf : List FS := [{ vs := [.a (.lf .bool)], bs := [] }]
def qrk (k : Nat) : Inst := ⟨55, qki, qqf, fun x => qbA k x⟩
theorem qxv (k : Nat) : qp (call cf k) [] := True.intro
def qiA : List SS := [{ fr := [(0, .a (.lf (.sl (.int .i64)))), (3, .a (.lf (.int .i64)))], mem := [], nx := 0 }]
def qnh : List OS := [⟨none, { fr := [(2, .a (.lf .bool))], mem := [], nx := 0 }⟩, ⟨some 0, { fr := [], mem := [], nx := 0 }⟩]
def qni (k : Nat) : LInst := ⟨0, qiA, qnh, fun x => qO k k x.1 x.2⟩
theorem qBm (k : Nat) : qg (LOk (R := DS OS.D qnh) (fun b _ σ K => LOt Ty (kps 55) 0 b σ K []) cf (call cf k) (kps 55) Tryz.f55.ntmps k 0) 0 (lb Tryz.f55 0) :=
 qA (qA qT (qA qT qT)) (qA (qA qT (qA (qA qT qT) qT)) qT)
theorem qBn (k n : Nat) (x : DS SS.D qiA) : qO k (n + 1) x.1 x.2 = qI SS.enc (fun σ => qJ cf (fun f a b K => COt f a b K []) (fun b _ σ K => LOt Ty (kps 55) 0 b σ K []) Tryz.f55.ntmps 0 (lb Tryz.f55 0) σ (qQ Ty (kps 55 0) 0 qiA qnh fun x => qO k n x.1 x.2)) qiA x := by kernel_rfl
theorem qBo (k : Nat) : qae cf (call cf k) (kps 55) Tryz.f55.ntmps k 0 0 (lb Tryz.f55 0) (qni k) :=
 qu (c := cf) (callF := call cf k) (kp := kps 55) (nt := Tryz.f55.ntmps) (k := k) (p := 0) (b := 0) (x0 := lb Tryz.f55 0) (hs := qiA) (os := qnh) (qd (qxv k)) (qBm k) (fun n x => qO k n x.1 x.2) (fun _ => rfl) (qBn k)
theorem qGc (k : Nat) : qg (LOk (R := DS FS.D qqf) (fun b _ σ K => LOt Ty (kps 55) 0 b σ K [qni k]) cf (call cf k) (cf.keep 55) Tryz.f55.ntmps k qki.bs.length) 0 (bd Tryz.f55) :=
 qA qT (qA (qA qT (qD (c := cf) (callF := call cf k) (kp := kps 55) (nt := Tryz.f55.ntmps) (k := k) (p := 0) (b := 0) (x0 := lb Tryz.f55 0) (l := [qni k]) (qA (fun _ => qBo k) qT))) (qA qT qT))
theorem qGd (k : Nat) (x : qki.D) : qbA (k + 1) x = qk cf (fun f a b K => COt f a b K []) (fun b _ σ K => LOt Ty (kps 55) 0 b σ K [qni k]) 55 Tryz.f55.ntmps Tryz.f55.results.toList (bd Tryz.f55) (qki.enc x).1 (qki.enc x).2 (qo FS.dec qqf) := by kernel_rfl
theorem qGe : ∀ k, qh (call cf k) (qrk k)
 | 0 => fun x y e => absurd (show (none : Option _) = some y from e) (by simp)
 | k + 1 => qe (c := cf) (k := k) (f := 55) (fn := Tryz.f55) (body := bd Tryz.f55) (sh := qki) (os := qqf) rfl Tryz.func55 rfl ⟨rfl, Nat.le_of_ble_eq_true rfl⟩ (qd (qxv k)) (qGc k) (fun x => qbA (k + 1) x) (qGd k)

def qa6 (k : Nat) (rec : Int → Int → List (Int × Int) → List Int → Option ((Bool × Int × List (Int × Int) × List Int) ⊕ (Int × List (Int × Int) × List Int))) (i : Int) (w0 : Int) (w1 : List (Int × Int)) (w2 : List Int) : Option ((Bool × Int × List (Int × Int) × List Int) ⊕ (Int × List (Int × Int) × List Int)) :=
 if ((decide (i < (((List.length w1) : Nat) : Int))) = true) then
 if ((0 : Int) ≤ i) then
 Option.bind (w1)[(Int.toNat i)]? fun x =>
 Option.bind (qck k x.1 x.2) fun r3 =>
 if ((!r3) = true) then
 (some (Sum.inl (false, w0, w1, w2)))
 else
 rec (IntKind.wrap .i64 (i + (1 : Int))) w0 w1 w2
 else
 none
 else
 (some (Sum.inr (w0, w1, w2)))
def qR (k n : Nat) : Int → Int → List (Int × Int) → List Int → Option ((Bool × Int × List (Int × Int) × List Int) ⊕ (Int × List (Int × Int) × List Int)) := Nat.rec (fun _ _ _ _ => none) (fun _ r => qa6 k r) n
def qa7 (k : Nat) (rec : Int → Int → List (Int × Int) → List Int → Option ((Bool × Int × List (Int × Int) × List Int) ⊕ (Int × List (Int × Int) × List Int))) (i : Int) (w0 : Int) (w1 : List (Int × Int)) (w2 : List Int) : Option ((Bool × Int × List (Int × Int) × List Int) ⊕ (Int × List (Int × Int) × List Int)) :=
 if ((decide (i < (((List.length w2) : Nat) : Int))) = true) then
 if ((0 : Int) ≤ i) then
 Option.bind (w2)[(Int.toNat i)]? fun x =>
 if ((decide (x < (0 : Int))) = false) then
 if ((0 : Int) ≤ i) then
 Option.bind (w2)[(Int.toNat i)]? fun x1 =>
 if ((decide (x1 > (1000000000 : Int))) = true) then
 (some (Sum.inl (false, w0, w1, w2)))
 else
 rec (IntKind.wrap .i64 (i + (1 : Int))) w0 w1 w2
 else
 none
 else
 (some (Sum.inl (false, w0, w1, w2)))
 else
 none
 else
 (some (Sum.inr (w0, w1, w2)))
def qM (k n : Nat) : Int → Int → List (Int × Int) → List Int → Option ((Bool × Int × List (Int × Int) × List Int) ⊕ (Int × List (Int × Int) × List Int)) := Nat.rec (fun _ _ _ _ => none) (fun _ r => qa7 k r) n
def qeE (k : Nat) (w0 : Int) (w1 : List (Int × Int)) (w2 : List Int) : Option (Bool) :=
 Option.bind (qR k k (0 : Int) w0 w1 w2) fun r3 =>
 qc r3
 (fun r3 =>
 (some r3.1))
 (fun r3 =>
 Option.bind (qM k k (0 : Int) r3.1 r3.2.1 r3.2.2) fun r4 =>
 qc r4
 (fun r4 =>
 (some r4.1))
 (fun r4 =>
 if ((r4.1 == (1 : Int)) = true) then
 if (((((List.length r4.2.1) : Nat) : Int) == (1 : Int)) = true) then
 (some ((((List.length r4.2.2) : Nat) : Int) == (0 : Int)))
 else
 (some false)
 else
 if ((r4.1 == (2 : Int)) = true) then
 if (((((List.length r4.2.1) : Nat) : Int) == (2 : Int)) = true) then
 if (((((List.length r4.2.2) : Nat) : Int) == (5 : Int)) = true) then
 Option.bind (r4.2.2)[4]? fun x =>
 if ((decide (x > (0 : Int))) = true) then
 Option.bind (r4.2.2)[1]? fun x1 =>
 Option.bind (r4.2.2)[2]? fun x2 =>
 Option.bind (r4.2.2)[3]? fun x3 =>
 Option.bind (r4.2.2)[4]? fun x4 =>
 (some (decide ((IntKind.wrap .i64 ((IntKind.wrap .i64 (x1 + x2)) + x3)) ≤ x4)))
 else
 (some false)
 else
 (some false)
 else
 (some false)
 else
 if ((r4.1 == (3 : Int)) = true) then
 if (((((List.length r4.2.1) : Nat) : Int) == (((List.length r4.2.2) : Nat) : Int)) = true) then
 if ((decide ((((List.length r4.2.1) : Nat) : Int) ≥ (1 : Int))) = true) then
 if ((decide ((((List.length r4.2.1) : Nat) : Int) ≤ (16 : Int))) = true) then
 Option.bind (qbA k r4.2.2) fun r5 =>
 (some r5)
 else
 (some false)
 else
 (some false)
 else
 (some false)
 else
 if ((r4.1 == (4 : Int)) = true) then
 if ((decide ((((List.length r4.2.1) : Nat) : Int) ≥ (1 : Int))) = true) then
 if ((decide ((((List.length r4.2.1) : Nat) : Int) ≤ (16 : Int))) = true) then
 (some ((((List.length r4.2.2) : Nat) : Int) == (0 : Int)))
 else
 (some false)
 else
 (some false)
 else
 (some false)))
def qbe : Nat → Int → List (Int × Int) → List Int → Option (Bool)
 | 0, _, _, _ => none
 | k + 1, w0, w1, w2 => qeE k w0 w1 w2
def qkj : FS := { vs := [.g [.lf (.int .i64), .lf (.sl (.pr (.int .i64) (.int .i64))), .lf (.sl (.int .i64))]], bs := [] }
def qqg : List FS := [{ vs := [.a (.lf .bool)], bs := [] }]
def qgA (k : Nat) : Inst := ⟨21, qkj, qqg, fun x => qbe k x.1 x.2.1 x.2.2⟩
theorem qtv (k : Nat) : qp (call cf k) [qrf k, qrk k] := qA (qEV k) (qA (qGe k) qT)
def qiB : List SS := [{ fr := [(1, .a (.ptr 0 0 0)), (3, .a (.lf (.int .i64)))], mem := [(0, some (.raw [[.lf (.int .i64), .lf (.sl (.pr (.int .i64) (.int .i64))), .lf (.sl (.int .i64))]] 3 52 true false))], nx := 1 }]
def qnj : List OS := [⟨none, { fr := [(2, .a (.lf .bool))], mem := [(0, some (.raw [[.lf (.int .i64), .lf (.sl (.pr (.int .i64) (.int .i64))), .lf (.sl (.int .i64))]] 3 52 true false))], nx := 1 }⟩, ⟨some 0, { fr := [(1, .a (.ptr 0 0 0))], mem := [(0, some (.raw [[.lf (.int .i64), .lf (.sl (.pr (.int .i64) (.int .i64))), .lf (.sl (.int .i64))]] 3 52 true false))], nx := 1 }⟩]
def qgj (k : Nat) : LInst := ⟨0, qiB, qnj, fun x => qR k k x.1 x.2.1 x.2.2.1 x.2.2.2⟩
theorem qBp (k : Nat) : qg (LOk (R := DS OS.D qnj) (fun b _ σ K => LOt Ty (kps 21) 0 b σ K []) cf (call cf k) (kps 21) Tryz.f21.ntmps k 0) 0 (lb Tryz.f21 0) :=
 qA (qA qT (qA qT qT)) (qA (qA qT (qA (qA qT qT) qT)) qT)
theorem qBq (k n : Nat) (x : DS SS.D qiB) : qR k (n + 1) x.1 x.2.1 x.2.2.1 x.2.2.2 = qI SS.enc (fun σ => qJ cf (fun f a b K => COt f a b K [qrf k, qrk k]) (fun b _ σ K => LOt Ty (kps 21) 0 b σ K []) Tryz.f21.ntmps 0 (lb Tryz.f21 0) σ (qQ Ty (kps 21 0) 0 qiB qnj fun x => qR k n x.1 x.2.1 x.2.2.1 x.2.2.2)) qiB x := by kernel_rfl
theorem qBr (k : Nat) : qae cf (call cf k) (kps 21) Tryz.f21.ntmps k 0 0 (lb Tryz.f21 0) (qgj k) :=
 qu (c := cf) (callF := call cf k) (kp := kps 21) (nt := Tryz.f21.ntmps) (k := k) (p := 0) (b := 0) (x0 := lb Tryz.f21 0) (hs := qiB) (os := qnj) (qd (qtv k)) (qBp k) (fun n x => qR k n x.1 x.2.1 x.2.2.1 x.2.2.2) (fun _ => rfl) (qBq k)
def qiC : List SS := [{ fr := [(1, .a (.ptr 0 0 0)), (4, .a (.lf (.int .i64)))], mem := [(0, some (.raw [[.lf (.int .i64), .lf (.sl (.pr (.int .i64) (.int .i64))), .lf (.sl (.int .i64))]] 3 52 true false))], nx := 1 }]
def qnk : List OS := [⟨none, { fr := [(2, .a (.lf .bool))], mem := [(0, some (.raw [[.lf (.int .i64), .lf (.sl (.pr (.int .i64) (.int .i64))), .lf (.sl (.int .i64))]] 3 52 true false))], nx := 1 }⟩, ⟨some 2, { fr := [(1, .a (.ptr 0 0 0))], mem := [(0, some (.raw [[.lf (.int .i64), .lf (.sl (.pr (.int .i64) (.int .i64))), .lf (.sl (.int .i64))]] 3 52 true false))], nx := 1 }⟩]
def qiD (k : Nat) : LInst := ⟨2, qiC, qnk, fun x => qM k k x.1 x.2.1 x.2.2.1 x.2.2.2⟩
theorem qBs (k : Nat) : qg (LOk (R := DS OS.D qnk) (fun b _ σ K => LOt Ty (kps 21) 0 b σ K [qgj k]) cf (call cf k) (kps 21) Tryz.f21.ntmps k 0) 2 (lb Tryz.f21 1) :=
 qA (qA qT (qA qT qT)) (qA (qA qT (qA (qA qT qT) qT)) qT)
theorem qBt (k n : Nat) (x : DS SS.D qiC) : qM k (n + 1) x.1 x.2.1 x.2.2.1 x.2.2.2 = qI SS.enc (fun σ => qJ cf (fun f a b K => COt f a b K [qrf k, qrk k]) (fun b _ σ K => LOt Ty (kps 21) 0 b σ K [qgj k]) Tryz.f21.ntmps 2 (lb Tryz.f21 1) σ (qQ Ty (kps 21 2) 0 qiC qnk fun x => qM k n x.1 x.2.1 x.2.2.1 x.2.2.2)) qiC x := by kernel_rfl
theorem qBu (k : Nat) : qae cf (call cf k) (kps 21) Tryz.f21.ntmps k 0 2 (lb Tryz.f21 1) (qiD k) :=
 qu (c := cf) (callF := call cf k) (kp := kps 21) (nt := Tryz.f21.ntmps) (k := k) (p := 0) (b := 2) (x0 := lb Tryz.f21 1) (hs := qiC) (os := qnk) (qd (qtv k)) (qBs k) (fun n x => qM k n x.1 x.2.1 x.2.2.1 x.2.2.2) (fun _ => rfl) (qBt k)
theorem qGf (k : Nat) : qg (LOk (R := DS FS.D qqg) (fun b _ σ K => LOt Ty (kps 21) 0 b σ K [qgj k, qiD k]) cf (call cf k) (cf.keep 21) Tryz.f21.ntmps k qkj.bs.length) 0 (bd Tryz.f21) :=
 qA qT (qA (qA qT (qD (c := cf) (callF := call cf k) (kp := kps 21) (nt := Tryz.f21.ntmps) (k := k) (p := 0) (b := 0) (x0 := lb Tryz.f21 0) (l := [qgj k, qiD k]) (qA (fun _ => qBr k) (qA (fun h => absurd (show (2 : Nat) = 0 from h) (by decide)) qT)))) (qA (qA qT (qD (c := cf) (callF := call cf k) (kp := kps 21) (nt := Tryz.f21.ntmps) (k := k) (p := 0) (b := 2) (x0 := lb Tryz.f21 1) (l := [qgj k, qiD k]) (qA (fun h => absurd (show (0 : Nat) = 2 from h) (by decide)) (qA (fun _ => qBu k) qT)))) (qA qT (qA (qA qT (qA qT (qA (qA qT qT) (qA qT (qA (qA qT qT) (qA qT (qA (qA qT qT) (qA qT (qA (qA qT qT) qT))))))))) (qA qT qT)))))
theorem qGg (k : Nat) (x : qkj.D) : qbe (k + 1) x.1 x.2.1 x.2.2 = qk cf (fun f a b K => COt f a b K [qrf k, qrk k]) (fun b _ σ K => LOt Ty (kps 21) 0 b σ K [qgj k, qiD k]) 21 Tryz.f21.ntmps Tryz.f21.results.toList (bd Tryz.f21) (qkj.enc x).1 (qkj.enc x).2 (qo FS.dec qqg) := by kernel_rfl
theorem qtw : ∀ k, qh (call cf k) (qgA k)
 | 0 => fun x y e => absurd (show (none : Option _) = some y from e) (by simp)
 | k + 1 => qe (c := cf) (k := k) (f := 21) (fn := Tryz.f21) (body := bd Tryz.f21) (sh := qkj) (os := qqg) rfl Tryz.func21 rfl ⟨rfl, Nat.le_of_ble_eq_true rfl⟩ (qd (qtv k)) (qGf k) (fun x => qbe (k + 1) x.1 x.2.1 x.2.2) (qGg k)

def qll (k : Nat) (a0 : Bool) (a1 : List Int) (a2 : Bool) (a3 : List Int) (b0 : Bool) (b1 : List Int) (b2 : Bool) (b3 : List Int) : Option (Bool × List Int × Bool × List Int) :=
 Option.bind (qB k a0 a1 b2 b3) fun r10 =>
 Option.bind (qB k a2 a3 b0 b1) fun r11 =>
 Option.bind (qau k r10.1 r10.2 r11.1 r11.2) fun r12 =>
 (some (r12.1, r12.2.1, r12.2.2.1, r12.2.2.2))
def qcO : Nat → Bool → List Int → Bool → List Int → Bool → List Int → Bool → List Int → Option (Bool × List Int × Bool × List Int)
 | 0, _, _, _, _, _, _, _, _ => none
 | k + 1, a0, a1, a2, a3, b0, b1, b2, b3 => qll k a0 a1 a2 a3 b0 b1 b2 b3
def qkk : FS := { vs := [.g [.lf .bool, .lf (.sl (.int .i64)), .lf .bool, .lf (.sl (.int .i64))], .g [.lf .bool, .lf (.sl (.int .i64)), .lf .bool, .lf (.sl (.int .i64))]], bs := [] }
def qqh : List FS := [{ vs := [.g [.lf .bool, .lf (.sl (.int .i64)), .lf .bool, .lf (.sl (.int .i64))]], bs := [] }]
def qv2 (k : Nat) : Inst := ⟨129, qkk, qqh, fun x => qcO k x.1 x.2.1 x.2.2.1 x.2.2.2.1 x.2.2.2.2.1 x.2.2.2.2.2.1 x.2.2.2.2.2.2.1 x.2.2.2.2.2.2.2⟩
theorem qGh (k : Nat) : qp (call cf k) [qdK k, qhq k] := qA (qgr k) (qA (qp1 k) qT)
theorem qGi (k : Nat) : qg (LOk (R := DS FS.D qqh) (fun b _ σ K => LOt Ty (kps 129) 0 b σ K []) cf (call cf k) (cf.keep 129) Tryz.f129.ntmps k qkk.bs.length) 0 (bd Tryz.f129) :=
 qA qT (qA qT qT)
theorem qGj (k : Nat) (x : qkk.D) : qcO (k + 1) x.1 x.2.1 x.2.2.1 x.2.2.2.1 x.2.2.2.2.1 x.2.2.2.2.2.1 x.2.2.2.2.2.2.1 x.2.2.2.2.2.2.2 = qk cf (fun f a b K => COt f a b K [qdK k, qhq k]) (fun b _ σ K => LOt Ty (kps 129) 0 b σ K []) 129 Tryz.f129.ntmps Tryz.f129.results.toList (bd Tryz.f129) (qkk.enc x).1 (qkk.enc x).2 (qo FS.dec qqh) := by kernel_rfl
theorem qGk : ∀ k, qh (call cf k) (qv2 k)
 | 0 => fun x y e => absurd (show (none : Option _) = some y from e) (by simp)
 | k + 1 => qe (c := cf) (k := k) (f := 129) (fn := Tryz.f129) (body := bd Tryz.f129) (sh := qkk) (os := qqh) rfl Tryz.func129 rfl ⟨rfl, Nat.le_of_ble_eq_true rfl⟩ (qd (qGh k)) (qGi k) (fun x => qcO (k + 1) x.1 x.2.1 x.2.2.1 x.2.2.2.1 x.2.2.2.2.1 x.2.2.2.2.2.1 x.2.2.2.2.2.2.1 x.2.2.2.2.2.2.2) (qGj k)

def qlm (k : Nat) (a0 : Int) (a1 : Int) (b0 : Int) (b1 : Int) (k1 : Int) (n : Int) : Option (Bool × List Int × Bool × List Int) :=
 Option.bind (qak k a0 a1) fun r6 =>
 Option.bind (qak k b0 b1) fun r7 =>
 Option.bind (qbI k k1) fun r8 =>
 Option.bind (qbI k n) fun r9 =>
 Option.bind (qcO k r8.1 r8.2.1 r8.2.2.1 r8.2.2.2 r9.1 r9.2.1 r9.2.2.1 r9.2.2.2) fun r10 =>
 Option.bind (qbI k (1 : Int)) fun r11 =>
 Option.bind (qcL k r11.1 r11.2.1 r11.2.2.1 r11.2.2.2 r10.1 r10.2.1 r10.2.2.1 r10.2.2.2) fun r12 =>
 Option.bind (qbd k r6.1 r6.2.1 r6.2.2.1 r6.2.2.2 r12.1 r12.2.1 r12.2.2.1 r12.2.2.2) fun r13 =>
 Option.bind (qbd k r7.1 r7.2.1 r7.2.2.1 r7.2.2.2 r10.1 r10.2.1 r10.2.2.1 r10.2.2.2) fun r14 =>
 Option.bind (qb0 k r13.1 r13.2.1 r13.2.2.1 r13.2.2.2 r14.1 r14.2.1 r14.2.2.1 r14.2.2.2) fun r15 =>
 (some (r15.1, r15.2.1, r15.2.2.1, r15.2.2.2))
def qa8 : Nat → Int → Int → Int → Int → Int → Int → Option (Bool × List Int × Bool × List Int)
 | 0, _, _, _, _, _, _ => none
 | k + 1, a0, a1, b0, b1, k1, n => qlm k a0 a1 b0 b1 k1 n
def qkl : FS := { vs := [.g [.lf (.int .i64), .lf (.int .i64)], .g [.lf (.int .i64), .lf (.int .i64)], .a (.lf (.int .i64)), .a (.lf (.int .i64))], bs := [] }
def qqi : List FS := [{ vs := [.g [.lf .bool, .lf (.sl (.int .i64)), .lf .bool, .lf (.sl (.int .i64))]], bs := [] }]
def qtx (k : Nat) : Inst := ⟨103, qkl, qqi, fun x => qa8 k x.1 x.2.1 x.2.2.1 x.2.2.2.1 x.2.2.2.2.1 x.2.2.2.2.2⟩
theorem qGl (k : Nat) : qp (call cf k) [qn9 k, qrh k, qv2 k, qv1 k, qri k, qrj k] := qA (qxn k) (qA (qxr k) (qA (qGk k) (qA (qF4 k) (qA (qxs k) (qA (qxt k) qT)))))
theorem qGm (k : Nat) : qg (LOk (R := DS FS.D qqi) (fun b _ σ K => LOt Ty (kps 103) 0 b σ K []) cf (call cf k) (cf.keep 103) Tryz.f103.ntmps k qkl.bs.length) 0 (bd Tryz.f103) :=
 qA qT (qA qT (qA qT (qA qT qT)))
theorem qGn (k : Nat) (x : qkl.D) : qa8 (k + 1) x.1 x.2.1 x.2.2.1 x.2.2.2.1 x.2.2.2.2.1 x.2.2.2.2.2 = qk cf (fun f a b K => COt f a b K [qn9 k, qrh k, qv2 k, qv1 k, qri k, qrj k]) (fun b _ σ K => LOt Ty (kps 103) 0 b σ K []) 103 Tryz.f103.ntmps Tryz.f103.results.toList (bd Tryz.f103) (qkl.enc x).1 (qkl.enc x).2 (qo FS.dec qqi) := by kernel_rfl
theorem qGo : ∀ k, qh (call cf k) (qtx k)
 | 0 => fun x y e => absurd (show (none : Option _) = some y from e) (by simp)
 | k + 1 => qe (c := cf) (k := k) (f := 103) (fn := Tryz.f103) (body := bd Tryz.f103) (sh := qkl) (os := qqi) rfl Tryz.func103 rfl ⟨rfl, Nat.le_of_ble_eq_true rfl⟩ (qd (qGl k)) (qGm k) (fun x => qa8 (k + 1) x.1 x.2.1 x.2.2.1 x.2.2.2.1 x.2.2.2.2.1 x.2.2.2.2.2) (qGn k)

def qbi (k : Nat) (rec : Int → List Int → Int → Int → List (Int × Int) → List Int → Bool → Nat → Bool → Nat → List Int → List Int → Option ((Int × List (Int × Int) × List Int × Bool × List Int × Bool × List Int × List Int × List Int) ⊕ (Int × List Int × Int × List (Int × Int) × List Int × Bool × Nat × Bool × Nat × List Int × List Int))) (step : Int) (s : List Int) (i : Int) (w0 : Int) (w1 : List (Int × Int)) (w2 : List Int) (x0 : Bool) (x1 : Nat) (x2 : Bool) (x3 : Nat) (m : List Int) (m1 : List Int) : Option ((Int × List (Int × Int) × List Int × Bool × List Int × Bool × List Int × List Int × List Int) ⊕ (Int × List Int × Int × List (Int × Int) × List Int × Bool × Nat × Bool × Nat × List Int × List Int)) :=
 if ((decide (i < (((List.length s) : Nat) : Int))) = true) then
 if ((0 : Int) ≤ (IntKind.wrap .i64 (i - (1 : Int)))) then
 Option.bind (s)[(Int.toNat (IntKind.wrap .i64 (i - (1 : Int))))]? fun x4 =>
 if ((decide (step ≥ x4)) = true) then
 if ((0 : Int) ≤ i) then
 Option.bind (s)[(Int.toNat i)]? fun x5 =>
 if ((decide (step < x5)) = true) then
 if ((0 : Int) ≤ (IntKind.wrap .i64 (i - (1 : Int)))) then
 Option.bind (w1)[(Int.toNat (IntKind.wrap .i64 (i - (1 : Int))))]? fun x6 =>
 if ((0 : Int) ≤ i) then
 Option.bind (w1)[(Int.toNat i)]? fun x7 =>
 if ((0 : Int) ≤ (IntKind.wrap .i64 (i - (1 : Int)))) then
 Option.bind (s)[(Int.toNat (IntKind.wrap .i64 (i - (1 : Int))))]? fun x8 =>
 if ((0 : Int) ≤ i) then
 Option.bind (s)[(Int.toNat i)]? fun x9 =>
 if ((0 : Int) ≤ (IntKind.wrap .i64 (i - (1 : Int)))) then
 Option.bind (s)[(Int.toNat (IntKind.wrap .i64 (i - (1 : Int))))]? fun x10 =>
 Option.bind (qa8 k x6.1 x6.2 x7.1 x7.2 (IntKind.wrap .i64 (step - x8)) (IntKind.wrap .i64 (x9 - x10))) fun r6 =>
 (some (Sum.inl (w0, w1, w2, r6.1, r6.2.1, r6.2.2.1, r6.2.2.2, m, m1)))
 else
 none
 else
 none
 else
 none
 else
 none
 else
 none
 else
 rec step s (IntKind.wrap .i64 (i + (1 : Int))) w0 w1 w2 x0 x1 x2 x3 m m1
 else
 none
 else
 rec step s (IntKind.wrap .i64 (i + (1 : Int))) w0 w1 w2 x0 x1 x2 x3 m m1
 else
 none
 else
 (some (Sum.inr (step, s, w0, w1, w2, x0, x1, x2, x3, m, m1)))
def qL (k n : Nat) : Int → List Int → Int → Int → List (Int × Int) → List Int → Bool → Nat → Bool → Nat → List Int → List Int → Option ((Int × List (Int × Int) × List Int × Bool × List Int × Bool × List Int × List Int × List Int) ⊕ (Int × List Int × Int × List (Int × Int) × List Int × Bool × Nat × Bool × Nat × List Int × List Int)) := Nat.rec (fun _ _ _ _ _ _ _ _ _ _ _ _ => none) (fun _ r => qbi k r) n
def qe4 (k : Nat) (w0 : Int) (w1 : List (Int × Int)) (w2 : List Int) (step : Int) : Option (Bool × List Int × Bool × List Int) :=
 if ((w0 == (2 : Int)) = true) then
 Option.bind (w2)[0]? fun x4 =>
 if ((decide ((IntKind.wrap .i64 (step - x4)) < (0 : Int))) = true) then
 Option.bind (w1)[0]? fun x5 =>
 Option.bind (qak k x5.1 x5.2) fun r6 =>
 (some (r6.1, r6.2.1, r6.2.2.1, r6.2.2.2))
 else
 Option.bind (w2)[4]? fun x5 =>
 if (x5 = (0 : Int)) then
 none
 else
 Option.bind (w2)[1]? fun x6 =>
 Option.bind (w2)[1]? fun x7 =>
 Option.bind (w2)[2]? fun x8 =>
 Option.bind (w2)[1]? fun x9 =>
 Option.bind (w2)[2]? fun x10 =>
 Option.bind (w2)[3]? fun x11 =>
 if ((decide ((Int.tmod (IntKind.wrap .i64 (step - x4)) x5) < x6)) = true) then
 Option.bind (w1)[0]? fun x12 =>
 Option.bind (w1)[1]? fun x13 =>
 Option.bind (qa8 k x12.1 x12.2 x13.1 x13.2 (Int.tmod (IntKind.wrap .i64 (step - x4)) x5) x6) fun r6 =>
 (some (r6.1, r6.2.1, r6.2.2.1, r6.2.2.2))
 else
 if ((decide ((Int.tmod (IntKind.wrap .i64 (step - x4)) x5) < (IntKind.wrap .i64 (x7 + x8)))) = true) then
 Option.bind (w1)[1]? fun x12 =>
 Option.bind (qak k x12.1 x12.2) fun r6 =>
 (some (r6.1, r6.2.1, r6.2.2.1, r6.2.2.2))
 else
 if ((decide ((Int.tmod (IntKind.wrap .i64 (step - x4)) x5) < (IntKind.wrap .i64 ((IntKind.wrap .i64 (x9 + x10)) + x11)))) = true) then
 Option.bind (w1)[1]? fun x12 =>
 Option.bind (w1)[0]? fun x13 =>
 Option.bind (qa8 k x12.1 x12.2 x13.1 x13.2 (IntKind.wrap .i64 ((Int.tmod (IntKind.wrap .i64 (step - x4)) x5) - (IntKind.wrap .i64 (x7 + x8)))) (IntKind.wrap .i64 ((IntKind.wrap .i64 ((IntKind.wrap .i64 (x9 + x10)) + x11)) - (IntKind.wrap .i64 (x7 + x8))))) fun r6 =>
 (some (r6.1, r6.2.1, r6.2.2.1, r6.2.2.2))
 else
 Option.bind (w1)[0]? fun x12 =>
 Option.bind (qak k x12.1 x12.2) fun r6 =>
 (some (r6.1, r6.2.1, r6.2.2.1, r6.2.2.2))
 else
 if ((w0 == (3 : Int)) = true) then
 Option.bind (qL k k step w2 (1 : Int) w0 w1 w2 false 0 false 0 [] []) fun r6 =>
 qc r6
 (fun r6 =>
 (some (r6.2.2.2.1, r6.2.2.2.2.1, r6.2.2.2.2.2.1, r6.2.2.2.2.2.2.1)))
 (fun r6 =>
 Option.bind (r6.2.1)[0]? fun x4 =>
 if ((decide (r6.1 < x4)) = true) then
 Option.bind (r6.2.2.2.1)[0]? fun x5 =>
 Option.bind (qak k x5.1 x5.2) fun r7 =>
 (some (r7.1, r7.2.1, r7.2.2.1, r7.2.2.2))
 else
 if ((0 : Int) ≤ (IntKind.wrap .i64 ((((List.length r6.2.1) : Nat) : Int) - (1 : Int)))) then
 Option.bind (r6.2.2.2.1)[(Int.toNat (IntKind.wrap .i64 ((((List.length r6.2.1) : Nat) : Int) - (1 : Int))))]? fun x5 =>
 Option.bind (qak k x5.1 x5.2) fun r7 =>
 (some (r7.1, r7.2.1, r7.2.2.1, r7.2.2.2))
 else
 none)
 else
 if ((((List.length w1) : Nat) : Int) = (0 : Int)) then
 none
 else
 if ((0 : Int) ≤ (Int.tmod step (((List.length w1) : Nat) : Int))) then
 Option.bind (w1)[(Int.toNat (Int.tmod step (((List.length w1) : Nat) : Int)))]? fun x4 =>
 Option.bind (qak k x4.1 x4.2) fun r6 =>
 (some (r6.1, r6.2.1, r6.2.2.1, r6.2.2.2))
 else
 none
def qad : Nat → Int → List (Int × Int) → List Int → Int → Option (Bool × List Int × Bool × List Int)
 | 0, _, _, _, _ => none
 | k + 1, w0, w1, w2, step => qe4 k w0 w1 w2 step
def qkm : FS := { vs := [.g [.lf (.int .i64), .lf (.sl (.pr (.int .i64) (.int .i64))), .lf (.sl (.int .i64))], .a (.lf (.int .i64))], bs := [] }
def qqj : List FS := [{ vs := [.g [.lf .bool, .lf (.sl (.int .i64)), .lf .bool, .lf (.sl (.int .i64))]], bs := [] }]
def qv3 (k : Nat) : Inst := ⟨63, qkm, qqj, fun x => qad k x.1 x.2.1 x.2.2.1 x.2.2.2⟩
theorem qxw (k : Nat) : qp (call cf k) [qn9 k, qtx k] := qA (qxn k) (qA (qGo k) qT)
def qiE : List SS := [{ fr := [(1, .a (.lf (.int .i64))), (2, .a (.ptr 0 0 0)), (4, .a (.ptr 1 0 0)), (5, .a (.lf (.sl (.int .i64)))), (10, .a (.lf (.int .i64)))], mem := [(0, some (.raw [[.lf (.int .i64), .lf (.sl (.pr (.int .i64) (.int .i64))), .lf (.sl (.int .i64))]] 3 52 true false)), (1, some (.raw [[.lf .bool, .smz 2, .lf .bool, .smz 3]] 4 83 false false)), (2, some (.arr (.int .i64) 1 3 false)), (3, some (.arr (.int .i64) 1 3 false))], nx := 4 }]
def qnl : List OS := [⟨none, { fr := [(4, .a (.ptr 1 0 0))], mem := [(0, some (.raw [[.lf (.int .i64), .lf (.sl (.pr (.int .i64) (.int .i64))), .lf (.sl (.int .i64))]] 3 52 true false)), (1, some (.raw [[.lf .bool, .lf (.sl (.int .i64)), .lf .bool, .lf (.sl (.int .i64))]] 4 83 false false)), (2, some (.arr (.int .i64) 1 3 false)), (3, some (.arr (.int .i64) 1 3 false))], nx := 4 }⟩, ⟨some 1, { fr := [(1, .a (.lf (.int .i64))), (2, .a (.ptr 0 0 0)), (4, .a (.ptr 1 0 0)), (5, .a (.lf (.sl (.int .i64))))], mem := [(0, some (.raw [[.lf (.int .i64), .lf (.sl (.pr (.int .i64) (.int .i64))), .lf (.sl (.int .i64))]] 3 52 true false)), (1, some (.raw [[.lf .bool, .smz 2, .lf .bool, .smz 3]] 4 83 false false)), (2, some (.arr (.int .i64) 1 3 false)), (3, some (.arr (.int .i64) 1 3 false))], nx := 4 }⟩]
def qnm (k : Nat) : LInst := ⟨1, qiE, qnl, fun x => qL k k x.1 x.2.1 x.2.2.1 x.2.2.2.1 x.2.2.2.2.1 x.2.2.2.2.2.1 x.2.2.2.2.2.2.1 x.2.2.2.2.2.2.2.1 x.2.2.2.2.2.2.2.2.1 x.2.2.2.2.2.2.2.2.2.1 x.2.2.2.2.2.2.2.2.2.2.1 x.2.2.2.2.2.2.2.2.2.2.2⟩
theorem qBv (k : Nat) : qg (LOk (R := DS OS.D qnl) (fun b _ σ K => LOt Ty (kps 63) 0 b σ K []) cf (call cf k) (kps 63) Tryz.f63.ntmps k 0) 1 (lb Tryz.f63 0) :=
 qA (qA qT (qA qT qT)) (qA (qA qT (qA (qA qT qT) qT)) qT)
theorem qBw (k n : Nat) (x : DS SS.D qiE) : qL k (n + 1) x.1 x.2.1 x.2.2.1 x.2.2.2.1 x.2.2.2.2.1 x.2.2.2.2.2.1 x.2.2.2.2.2.2.1 x.2.2.2.2.2.2.2.1 x.2.2.2.2.2.2.2.2.1 x.2.2.2.2.2.2.2.2.2.1 x.2.2.2.2.2.2.2.2.2.2.1 x.2.2.2.2.2.2.2.2.2.2.2 = qI SS.enc (fun σ => qJ cf (fun f a b K => COt f a b K [qn9 k, qtx k]) (fun b _ σ K => LOt Ty (kps 63) 0 b σ K []) Tryz.f63.ntmps 1 (lb Tryz.f63 0) σ (qQ Ty (kps 63 1) 0 qiE qnl fun x => qL k n x.1 x.2.1 x.2.2.1 x.2.2.2.1 x.2.2.2.2.1 x.2.2.2.2.2.1 x.2.2.2.2.2.2.1 x.2.2.2.2.2.2.2.1 x.2.2.2.2.2.2.2.2.1 x.2.2.2.2.2.2.2.2.2.1 x.2.2.2.2.2.2.2.2.2.2.1 x.2.2.2.2.2.2.2.2.2.2.2)) qiE x := by kernel_rfl
theorem qBx (k : Nat) : qae cf (call cf k) (kps 63) Tryz.f63.ntmps k 0 1 (lb Tryz.f63 0) (qnm k) :=
 qu (c := cf) (callF := call cf k) (kp := kps 63) (nt := Tryz.f63.ntmps) (k := k) (p := 0) (b := 1) (x0 := lb Tryz.f63 0) (hs := qiE) (os := qnl) (qd (qxw k)) (qBv k) (fun n x => qL k n x.1 x.2.1 x.2.2.1 x.2.2.2.1 x.2.2.2.2.1 x.2.2.2.2.2.1 x.2.2.2.2.2.2.1 x.2.2.2.2.2.2.2.1 x.2.2.2.2.2.2.2.2.1 x.2.2.2.2.2.2.2.2.2.1 x.2.2.2.2.2.2.2.2.2.2.1 x.2.2.2.2.2.2.2.2.2.2.2) (fun _ => rfl) (qBw k)
theorem qGp (k : Nat) : qg (LOk (R := DS FS.D qqj) (fun b _ σ K => LOt Ty (kps 63) 0 b σ K [qnm k]) cf (call cf k) (cf.keep 63) Tryz.f63.ntmps k qkm.bs.length) 0 (bd Tryz.f63) :=
 qA qT (qA qT (qA (qA qT (qA qT (qA (qA qT (qA (qA qT (qA (qA qT qT) qT)) (qA qT (qA qT (qA (qA qT (qA (qA qT qT) qT)) (qA (qA qT (qA (qA qT qT) qT)) (qA (qA qT (qA (qA qT qT) qT)) (qA qT qT)))))))) (qA qT (qA (qA (qA qT (qD (c := cf) (callF := call cf k) (kp := kps 63) (nt := Tryz.f63.ntmps) (k := k) (p := 0) (b := 1) (x0 := lb Tryz.f63 0) (l := [qnm k]) (qA (fun _ => qBx k) qT))) (qA (qA qT (qA (qA qT qT) qT)) (qA qT qT))) qT))))) (qA qT qT)))
theorem qGq (k : Nat) (x : qkm.D) : qad (k + 1) x.1 x.2.1 x.2.2.1 x.2.2.2 = qk cf (fun f a b K => COt f a b K [qn9 k, qtx k]) (fun b _ σ K => LOt Ty (kps 63) 0 b σ K [qnm k]) 63 Tryz.f63.ntmps Tryz.f63.results.toList (bd Tryz.f63) (qkm.enc x).1 (qkm.enc x).2 (qo FS.dec qqj) := by kernel_rfl
theorem qGr : ∀ k, qh (call cf k) (qv3 k)
 | 0 => fun x y e => absurd (show (none : Option _) = some y from e) (by simp)
 | k + 1 => qe (c := cf) (k := k) (f := 63) (fn := Tryz.f63) (body := bd Tryz.f63) (sh := qkm) (os := qqj) rfl Tryz.func63 rfl ⟨rfl, Nat.le_of_ble_eq_true rfl⟩ (qd (qxw k)) (qGp k) (fun x => qad (k + 1) x.1 x.2.1 x.2.2.1 x.2.2.2) (qGq k)

def qb1 (k : Nat) (a0 : Bool) (a1 : List Int) (a2 : Bool) (a3 : List Int) : Option (Bool × List Int) :=
 Option.bind (qz k (2 : Int)) fun r8 =>
 Option.bind (qX k a0 a1 a2 a3) fun r9 =>
 Option.bind (qaj k r9.2.2.1 r9.2.2.2) fun r10 =>
 Option.bind (qB k r10.1 r10.2 r8.1 r8.2) fun r11 =>
 Option.bind (qbz k r11.1 r11.2 a2 a3) fun r12 =>
 Option.bind (qX k r9.1 r9.2.1 r8.1 r8.2) fun r13 =>
 if ((decide (r12 > (0 : Int))) = false) then
 if ((r12 == (0 : Int)) = true) then
 Option.bind (qaS k r13.2.2.1 r13.2.2.2) fun r14 =>
 if ((r14 != (0 : Int)) = true) then
 Option.bind (qaS k a0 a1) fun r15 =>
 if ((decide (r15 < (0 : Int))) = true) then
 Option.bind (qz k (1 : Int)) fun r16 =>
 Option.bind (qby k r9.1 r9.2.1 r16.1 r16.2) fun r17 =>
 (some (r17.1, r17.2))
 else
 Option.bind (qz k (1 : Int)) fun r16 =>
 Option.bind (qaC k r9.1 r9.2.1 r16.1 r16.2) fun r17 =>
 (some (r17.1, r17.2))
 else
 (some (r9.1, r9.2.1))
 else
 (some (r9.1, r9.2.1))
 else
 Option.bind (qaS k a0 a1) fun r14 =>
 if ((decide (r14 < (0 : Int))) = true) then
 Option.bind (qz k (1 : Int)) fun r15 =>
 Option.bind (qby k r9.1 r9.2.1 r15.1 r15.2) fun r16 =>
 (some (r16.1, r16.2))
 else
 Option.bind (qz k (1 : Int)) fun r15 =>
 Option.bind (qaC k r9.1 r9.2.1 r15.1 r15.2) fun r16 =>
 (some (r16.1, r16.2))
def qbB : Nat → Bool → List Int → Bool → List Int → Option (Bool × List Int)
 | 0, _, _, _, _ => none
 | k + 1, a0, a1, a2, a3 => qb1 k a0 a1 a2 a3
def qkn : FS := { vs := [.g [.lf .bool, .lf (.sl (.int .i64)), .lf .bool, .lf (.sl (.int .i64))]], bs := [] }
def qqk : List FS := [{ vs := [.g [.lf .bool, .lf (.sl (.int .i64))]], bs := [] }]
def qv4 (k : Nat) : Inst := ⟨102, qkn, qqk, fun x => qbB k x.1 x.2.1 x.2.2.1 x.2.2.2⟩
theorem qGs (k : Nat) : qp (call cf k) [qeA k, qit k, qn6 k, qdK k, qoa k, qld k, qrg k, qlf k] := qA (qjS k) (qA (qtr k) (qA (qxf k) (qA (qgr k) (qA (qxq k) (qA (qto k) (qA (qxp k) (qA (qts k) qT)))))))
theorem qGt (k : Nat) : qg (LOk (R := DS FS.D qqk) (fun b _ σ K => LOt Ty (kps 102) 0 b σ K []) cf (call cf k) (cf.keep 102) Tryz.f102.ntmps k qkn.bs.length) 0 (bd Tryz.f102) :=
 qA qT (qA qT (qA qT (qA qT (qA qT (qA qT (qA (qA qT (qA (qA (qA qT (qA (qA qT qT) qT)) (qA qT qT)) qT)) (qA qT qT)))))))
theorem qGu (k : Nat) (x : qkn.D) : qbB (k + 1) x.1 x.2.1 x.2.2.1 x.2.2.2 = qk cf (fun f a b K => COt f a b K [qeA k, qit k, qn6 k, qdK k, qoa k, qld k, qrg k, qlf k]) (fun b _ σ K => LOt Ty (kps 102) 0 b σ K []) 102 Tryz.f102.ntmps Tryz.f102.results.toList (bd Tryz.f102) (qkn.enc x).1 (qkn.enc x).2 (qo FS.dec qqk) := by kernel_rfl
theorem qGv : ∀ k, qh (call cf k) (qv4 k)
 | 0 => fun x y e => absurd (show (none : Option _) = some y from e) (by simp)
 | k + 1 => qe (c := cf) (k := k) (f := 102) (fn := Tryz.f102) (body := bd Tryz.f102) (sh := qkn) (os := qqk) rfl Tryz.func102 rfl ⟨rfl, Nat.le_of_ble_eq_true rfl⟩ (qd (qGs k)) (qGt k) (fun x => qbB (k + 1) x.1 x.2.1 x.2.2.1 x.2.2.2) (qGu k)

def qch (k : Nat) (rec : Int → Int → Bool → List Int → Option (Int × Bool × List Int)) (u : Int) (i : Int) (a0 : Bool) (a1 : List Int) : Option (Int × Bool × List Int) :=
 if ((decide (i ≥ (0 : Int))) = true) then
 if ((0 : Int) ≤ i) then
 Option.bind (a1)[(Int.toNat i)]? fun x4 =>
 rec (IntKind.wrap .u64 ((IntKind.wrap .u64 (u * (65536 : Int))) + (IntKind.wrap .u64 x4))) (IntKind.wrap .i64 (i - (1 : Int))) a0 a1
 else
 none
 else
 (some (u, a0, a1))
def qaG (k n : Nat) : Int → Int → Bool → List Int → Option (Int × Bool × List Int) := Nat.rec (fun _ _ _ _ => none) (fun _ r => qch k r) n
def qeF (k : Nat) (a0 : Bool) (a1 : List Int) : Option (Int × Bool) :=
 Option.bind (qaR k (-(9223372036854775808 : Int))) fun r9 =>
 Option.bind (qbz k a0 a1 r9.1 r9.2) fun r10 =>
 if ((decide (r10 < (0 : Int))) = false) then
 Option.bind (qaR k (9223372036854775807 : Int)) fun r11 =>
 Option.bind (qbz k a0 a1 r11.1 r11.2) fun r12 =>
 if ((decide (r12 > (0 : Int))) = true) then
 (some ((0 : Int), false))
 else
 Option.bind (qaG k k (0 : Int) (IntKind.wrap .i64 ((((List.length a1) : Nat) : Int) - (1 : Int))) a0 a1) fun r13 =>
 if (r13.2.1 = true) then
 (some ((IntKind.wrap .i64 (IntKind.wrap .u64 ((0 : Int) - r13.1))), true))
 else
 (some ((IntKind.wrap .i64 r13.1), true))
 else
 (some ((0 : Int), false))
def qcm : Nat → Bool → List Int → Option (Int × Bool)
 | 0, _, _ => none
 | k + 1, a0, a1 => qeF k a0 a1
def qko : FS := { vs := [.g [.lf .bool, .lf (.sl (.int .i64))]], bs := [] }
def qql : List FS := [{ vs := [.a (.lf (.int .i64)), .a (.lf .bool)], bs := [] }]
def qv5 (k : Nat) : Inst := ⟨101, qko, qql, fun x => qcm k x.1 x.2⟩
theorem qxx (k : Nat) : qp (call cf k) [qij k, qoa k] := qA (qtm k) (qA (qxq k) qT)
def qiF : List SS := [{ fr := [(1, .a (.ptr 0 0 0)), (4, .a (.lf (.int .u64))), (5, .a (.lf (.int .i64)))], mem := [(0, some (.raw [[.lf .bool, .lf (.sl (.int .i64))]] 2 81 true false))], nx := 1 }]
def qnn : List OS := [⟨some 0, { fr := [(1, .a (.ptr 0 0 0)), (4, .a (.lf (.int .u64)))], mem := [(0, some (.raw [[.lf .bool, .lf (.sl (.int .i64))]] 2 81 true false))], nx := 1 }⟩]
def qno (k : Nat) : LInst := ⟨0, qiF, qnn, fun x => qaG k k x.1 x.2.1 x.2.2.1 x.2.2.2⟩
theorem qBy (k : Nat) : qg (LOk (R := DS OS.D qnn) (fun b _ σ K => LOt Ty (kps 101) 0 b σ K []) cf (call cf k) (kps 101) Tryz.f101.ntmps k 0) 0 (lb Tryz.f101 0) :=
 qA (qA qT (qA qT qT)) (qA qT qT)
theorem qBz (k n : Nat) (x : DS SS.D qiF) : qaG k (n + 1) x.1 x.2.1 x.2.2.1 x.2.2.2 = qI SS.enc (fun σ => qJ cf (fun f a b K => COt f a b K [qij k, qoa k]) (fun b _ σ K => LOt Ty (kps 101) 0 b σ K []) Tryz.f101.ntmps 0 (lb Tryz.f101 0) σ (qQ Ty (kps 101 0) 0 qiF qnn fun x => qaG k n x.1 x.2.1 x.2.2.1 x.2.2.2)) qiF x := by kernel_rfl
theorem qBA (k : Nat) : qae cf (call cf k) (kps 101) Tryz.f101.ntmps k 0 0 (lb Tryz.f101 0) (qno k) :=
 qu (c := cf) (callF := call cf k) (kp := kps 101) (nt := Tryz.f101.ntmps) (k := k) (p := 0) (b := 0) (x0 := lb Tryz.f101 0) (hs := qiF) (os := qnn) (qd (qxx k)) (qBy k) (fun n x => qaG k n x.1 x.2.1 x.2.2.1 x.2.2.2) (fun _ => rfl) (qBz k)
theorem qGw (k : Nat) : qg (LOk (R := DS FS.D qql) (fun b _ σ K => LOt Ty (kps 101) 0 b σ K [qno k]) cf (call cf k) (cf.keep 101) Tryz.f101.ntmps k qko.bs.length) 0 (bd Tryz.f101) :=
 qA qT (qA (qA qT (qA (qA qT qT) qT)) (qA qT (qA (qA qT (qD (c := cf) (callF := call cf k) (kp := kps 101) (nt := Tryz.f101.ntmps) (k := k) (p := 0) (b := 0) (x0 := lb Tryz.f101 0) (l := [qno k]) (qA (fun _ => qBA k) qT))) (qA (qA qT (qA qT qT)) (qA qT qT)))))
theorem qGx (k : Nat) (x : qko.D) : qcm (k + 1) x.1 x.2 = qk cf (fun f a b K => COt f a b K [qij k, qoa k]) (fun b _ σ K => LOt Ty (kps 101) 0 b σ K [qno k]) 101 Tryz.f101.ntmps Tryz.f101.results.toList (bd Tryz.f101) (qko.enc x).1 (qko.enc x).2 (qo FS.dec qql) := by kernel_rfl
theorem qGy : ∀ k, qh (call cf k) (qv5 k)
 | 0 => fun x y e => absurd (show (none : Option _) = some y from e) (by simp)
 | k + 1 => qe (c := cf) (k := k) (f := 101) (fn := Tryz.f101) (body := bd Tryz.f101) (sh := qko) (os := qql) rfl Tryz.func101 rfl ⟨rfl, Nat.le_of_ble_eq_true rfl⟩ (qd (qxx k)) (qGw k) (fun x => qcm (k + 1) x.1 x.2) (qGx k)

def qe5 (k : Nat) (a0 : Bool) (a1 : List Int) (a2 : Bool) (a3 : List Int) : Option (Int × Int) :=
 Option.bind (qbB k a0 a1 a2 a3) fun r8 =>
 Option.bind (qcm k r8.1 r8.2) fun r9 =>
 if ((!r9.2) = false) then
 if ((decide (r9.1 > (1000000000000000000 : Int))) = false) then
 if ((decide (r9.1 < (-(1000000000000000000 : Int)))) = true) then
 (some ((0 : Int), (4 : Int)))
 else
 (some (r9.1, (0 : Int)))
 else
 (some ((0 : Int), (4 : Int)))
 else
 (some ((0 : Int), (4 : Int)))
def qcP : Nat → Bool → List Int → Bool → List Int → Option (Int × Int)
 | 0, _, _, _, _ => none
 | k + 1, a0, a1, a2, a3 => qe5 k a0 a1 a2 a3
def qkp : FS := { vs := [.g [.lf .bool, .lf (.sl (.int .i64)), .lf .bool, .lf (.sl (.int .i64))]], bs := [] }
def qqm : List FS := [{ vs := [.a (.lf (.int .i64)), .a (.lf (.int .i64))], bs := [] }]
def qv6 (k : Nat) : Inst := ⟨61, qkp, qqm, fun x => qcP k x.1 x.2.1 x.2.2.1 x.2.2.2⟩
theorem qGz (k : Nat) : qp (call cf k) [qv4 k, qv5 k] := qA (qGv k) (qA (qGy k) qT)
theorem qGA (k : Nat) : qg (LOk (R := DS FS.D qqm) (fun b _ σ K => LOt Ty (kps 61) 0 b σ K []) cf (call cf k) (cf.keep 61) Tryz.f61.ntmps k qkp.bs.length) 0 (bd Tryz.f61) :=
 qA qT (qA qT (qA (qA qT (qA (qA qT qT) qT)) (qA qT qT)))
theorem qGB (k : Nat) (x : qkp.D) : qcP (k + 1) x.1 x.2.1 x.2.2.1 x.2.2.2 = qk cf (fun f a b K => COt f a b K [qv4 k, qv5 k]) (fun b _ σ K => LOt Ty (kps 61) 0 b σ K []) 61 Tryz.f61.ntmps Tryz.f61.results.toList (bd Tryz.f61) (qkp.enc x).1 (qkp.enc x).2 (qo FS.dec qqm) := by kernel_rfl
theorem qGC : ∀ k, qh (call cf k) (qv6 k)
 | 0 => fun x y e => absurd (show (none : Option _) = some y from e) (by simp)
 | k + 1 => qe (c := cf) (k := k) (f := 61) (fn := Tryz.f61) (body := bd Tryz.f61) (sh := qkp) (os := qqm) rfl Tryz.func61 rfl ⟨rfl, Nat.le_of_ble_eq_true rfl⟩ (qd (qGz k)) (qGA k) (fun x => qcP (k + 1) x.1 x.2.1 x.2.2.1 x.2.2.2) (qGB k)

def qoc (k : Nat) (w0 : Int) (w1 : List (Int × Int)) (w2 : List Int) (step : Int) : Option (Int × Int) :=
 Option.bind (qbe k w0 w1 w2) fun r5 =>
 if ((!r5) = true) then
 (some ((0 : Int), (40 : Int)))
 else
 if ((decide (step < (0 : Int))) = false) then
 if ((decide (step > (1000000000 : Int))) = true) then
 (some ((0 : Int), (4 : Int)))
 else
 Option.bind (qad k w0 w1 w2 step) fun r6 =>
 Option.bind (qbM k r6.1 r6.2.1 r6.2.2.1 r6.2.2.2) fun r7 =>
 Option.bind (qcP k r7.1 r7.2.1 r7.2.2.1 r7.2.2.2) fun r8 =>
 (some (r8.1, r8.2))
 else
 (some ((0 : Int), (4 : Int)))
def qdm : Nat → Int → List (Int × Int) → List Int → Int → Option (Int × Int)
 | 0, _, _, _, _ => none
 | k + 1, w0, w1, w2, step => qoc k w0 w1 w2 step
def qkq : FS := { vs := [.g [.lf (.int .i64), .lf (.sl (.pr (.int .i64) (.int .i64))), .lf (.sl (.int .i64))], .a (.lf (.int .i64))], bs := [] }
def qqn : List FS := [{ vs := [.a (.lf (.int .i64)), .a (.lf (.int .i64))], bs := [] }]
def qty (k : Nat) : Inst := ⟨23, qkq, qqn, fun x => qdm k x.1 x.2.1 x.2.2.1 x.2.2.2⟩
theorem qGD (k : Nat) : qp (call cf k) [qgA k, qv3 k, qvZ k, qv6 k] := qA (qtw k) (qA (qGr k) (qA (qFT k) (qA (qGC k) qT)))
theorem qGE (k : Nat) : qg (LOk (R := DS FS.D qqn) (fun b _ σ K => LOt Ty (kps 23) 0 b σ K []) cf (call cf k) (cf.keep 23) Tryz.f23.ntmps k qkq.bs.length) 0 (bd Tryz.f23) :=
 qA qT (qA (qA qT (qA (qA qT qT) qT)) (qA (qA qT (qA (qA qT qT) qT)) (qA qT qT)))
theorem qGF (k : Nat) (x : qkq.D) : qdm (k + 1) x.1 x.2.1 x.2.2.1 x.2.2.2 = qk cf (fun f a b K => COt f a b K [qgA k, qv3 k, qvZ k, qv6 k]) (fun b _ σ K => LOt Ty (kps 23) 0 b σ K []) 23 Tryz.f23.ntmps Tryz.f23.results.toList (bd Tryz.f23) (qkq.enc x).1 (qkq.enc x).2 (qo FS.dec qqn) := by kernel_rfl
theorem qGG : ∀ k, qh (call cf k) (qty k)
 | 0 => fun x y e => absurd (show (none : Option _) = some y from e) (by simp)
 | k + 1 => qe (c := cf) (k := k) (f := 23) (fn := Tryz.f23) (body := bd Tryz.f23) (sh := qkq) (os := qqn) rfl Tryz.func23 rfl ⟨rfl, Nat.le_of_ble_eq_true rfl⟩ (qd (qGD k)) (qGE k) (fun x => qdm (k + 1) x.1 x.2.1 x.2.2.1 x.2.2.2) (qGF k)

def qaH (k : Nat) (rec : Int → Int → Int → Int → List (Int × Int) → List Int → Option (Int × Int × Int × List (Int × Int) × List Int)) (step : Int) (best : Int) (i : Int) (w0 : Int) (w1 : List (Int × Int)) (w2 : List Int) : Option (Int × Int × Int × List (Int × Int) × List Int) :=
 if ((decide (i < (((List.length w2) : Nat) : Int))) = true) then
 if ((w0 == (3 : Int)) = true) then
 if ((0 : Int) ≤ i) then
 Option.bind (w2)[(Int.toNat i)]? fun x4 =>
 if ((decide (x4 > step)) = true) then
 if ((0 : Int) ≤ i) then
 Option.bind (w2)[(Int.toNat i)]? fun x5 =>
 if ((decide (x5 < best)) = true) then
 if ((0 : Int) ≤ i) then
 Option.bind (w2)[(Int.toNat i)]? fun x6 =>
 rec step x6 (IntKind.wrap .i64 (i + (1 : Int))) w0 w1 w2
 else
 none
 else
 rec step best (IntKind.wrap .i64 (i + (1 : Int))) w0 w1 w2
 else
 none
 else
 rec step best (IntKind.wrap .i64 (i + (1 : Int))) w0 w1 w2
 else
 none
 else
 (some (step, best, w0, w1, w2))
 else
 (some (step, best, w0, w1, w2))
def qv (k n : Nat) : Int → Int → Int → Int → List (Int × Int) → List Int → Option (Int × Int × Int × List (Int × Int) × List Int) := Nat.rec (fun _ _ _ _ _ _ => none) (fun _ r => qaH k r) n
def qcu (k : Nat) (rec : Int → Int → Nat → Int → Int → List (Int × Int) → List Int → List Int → Option (Int × Int × List (Int × Int) × List Int × List Int)) (step : Int) (best : Int) (offs : Nat) (i : Int) (w0 : Int) (w1 : List (Int × Int)) (w2 : List Int) (offss : List Int) : Option (Int × Int × List (Int × Int) × List Int × List Int) :=
 if ((decide (i < ((offs : Nat) : Int))) = true) then
 Option.bind (w2)[0]? fun x10 =>
 if (((0 : Int) ≤ i) ∧ (i < ((offs : Nat) : Int))) then
 Option.bind (offss)[(0 + (Int.toNat i))]? fun x11 =>
 if ((decide ((IntKind.wrap .i64 (x10 + x11)) ≤ step)) = true) then
 Option.bind (w2)[4]? fun x12 =>
 if (x12 = (0 : Int)) then
 none
 else
 Option.bind (w2)[4]? fun x13 =>
 rec step (min best (IntKind.wrap .i64 ((IntKind.wrap .i64 (x10 + x11)) + (IntKind.wrap .i64 ((IntKind.wrap .i64 ((IntKind.wrap .i64 (Int.tdiv (IntKind.wrap .i64 (step - (IntKind.wrap .i64 (x10 + x11)))) x12)) + (1 : Int))) * x13))))) offs (IntKind.wrap .i64 (i + (1 : Int))) w0 w1 w2 offss
 else
 rec step (min best (IntKind.wrap .i64 (x10 + x11))) offs (IntKind.wrap .i64 (i + (1 : Int))) w0 w1 w2 offss
 else
 none
 else
 (some (best, w0, w1, w2, offss))
def qah (k n : Nat) : Int → Int → Nat → Int → Int → List (Int × Int) → List Int → List Int → Option (Int × Int × List (Int × Int) × List Int × List Int) := Nat.rec (fun _ _ _ _ _ _ _ _ => none) (fun _ r => qcu k r) n
def qln (k : Nat) (w0 : Int) (w1 : List (Int × Int)) (w2 : List Int) (step : Int) : Option (Int × Bool) :=
 Option.bind (qbe k w0 w1 w2) fun r7 =>
 if ((!r7) = false) then
 if ((decide (step < (0 : Int))) = false) then
 if ((decide (step > (1000000000 : Int))) = false) then
 if ((w0 == (1 : Int)) = true) then
 (some ((0 : Int), false))
 else
 if ((w0 == (4 : Int)) = true) then
 Option.bind (qv k k step (IntKind.wrap .i64 (step + (1 : Int))) (0 : Int) w0 w1 w2) fun r8 =>
 if ((r8.2.2.1 == (2 : Int)) = true) then
 Option.bind (r8.2.2.2.2)[1]? fun x4 =>
 Option.bind (r8.2.2.2.2)[1]? fun x5 =>
 Option.bind (r8.2.2.2.2)[2]? fun x6 =>
 Option.bind (r8.2.2.2.2)[1]? fun x7 =>
 Option.bind (r8.2.2.2.2)[2]? fun x8 =>
 Option.bind (r8.2.2.2.2)[3]? fun x9 =>
 Option.bind (qah k k r8.1 r8.2.1 4 (0 : Int) r8.2.2.1 r8.2.2.2.1 r8.2.2.2.2 ((0 : Int) :: (x4 :: ((IntKind.wrap .i64 (x5 + x6)) :: ((IntKind.wrap .i64 ((IntKind.wrap .i64 (x7 + x8)) + x9)) :: []))))) fun r9 =>
 if ((decide (r9.1 > (1000000000 : Int))) = true) then
 (some ((0 : Int), false))
 else
 (some (r9.1, true))
 else
 if ((decide (r8.2.1 > (1000000000 : Int))) = true) then
 (some ((0 : Int), false))
 else
 (some (r8.2.1, true))
 else
 Option.bind (qv k k step (1000000001 : Int) (0 : Int) w0 w1 w2) fun r8 =>
 if ((r8.2.2.1 == (2 : Int)) = true) then
 Option.bind (r8.2.2.2.2)[1]? fun x4 =>
 Option.bind (r8.2.2.2.2)[1]? fun x5 =>
 Option.bind (r8.2.2.2.2)[2]? fun x6 =>
 Option.bind (r8.2.2.2.2)[1]? fun x7 =>
 Option.bind (r8.2.2.2.2)[2]? fun x8 =>
 Option.bind (r8.2.2.2.2)[3]? fun x9 =>
 Option.bind (qah k k r8.1 r8.2.1 4 (0 : Int) r8.2.2.1 r8.2.2.2.1 r8.2.2.2.2 ((0 : Int) :: (x4 :: ((IntKind.wrap .i64 (x5 + x6)) :: ((IntKind.wrap .i64 ((IntKind.wrap .i64 (x7 + x8)) + x9)) :: []))))) fun r9 =>
 if ((decide (r9.1 > (1000000000 : Int))) = true) then
 (some ((0 : Int), false))
 else
 (some (r9.1, true))
 else
 if ((decide (r8.2.1 > (1000000000 : Int))) = true) then
 (some ((0 : Int), false))
 else
 (some (r8.2.1, true))
 else
 (some ((0 : Int), false))
 else
 (some ((0 : Int), false))
 else
 (some ((0 : Int), false))
def qa9 : Nat → Int → List (Int × Int) → List Int → Int → Option (Int × Bool)
 | 0, _, _, _, _ => none
 | k + 1, w0, w1, w2, step => qln k w0 w1 w2 step
def qkr : FS := { vs := [.g [.lf (.int .i64), .lf (.sl (.pr (.int .i64) (.int .i64))), .lf (.sl (.int .i64))], .a (.lf (.int .i64))], bs := [] }
def qqo : List FS := [{ vs := [.a (.lf (.int .i64)), .a (.lf .bool)], bs := [] }]
def qtz (k : Nat) : Inst := ⟨25, qkr, qqo, fun x => qa9 k x.1 x.2.1 x.2.2.1 x.2.2.2⟩
theorem qtA (k : Nat) : qp (call cf k) [qgA k] := qA (qtw k) qT
def qiG : List SS := [{ fr := [(1, .a (.lf (.int .i64))), (2, .a (.ptr 0 0 0)), (6, .a (.lf (.int .i64))), (7, .a (.lf (.int .i64)))], mem := [(0, some (.raw [[.lf (.int .i64), .lf (.sl (.pr (.int .i64) (.int .i64))), .lf (.sl (.int .i64))]] 3 52 true false))], nx := 1 }]
def qnp : List OS := [⟨some 0, { fr := [(1, .a (.lf (.int .i64))), (2, .a (.ptr 0 0 0)), (6, .a (.lf (.int .i64)))], mem := [(0, some (.raw [[.lf (.int .i64), .lf (.sl (.pr (.int .i64) (.int .i64))), .lf (.sl (.int .i64))]] 3 52 true false))], nx := 1 }⟩]
def qgk (k : Nat) : LInst := ⟨0, qiG, qnp, fun x => qv k k x.1 x.2.1 x.2.2.1 x.2.2.2.1 x.2.2.2.2.1 x.2.2.2.2.2⟩
theorem qBB (k : Nat) : qg (LOk (R := DS OS.D qnp) (fun b _ σ K => LOt Ty (kps 25) 0 b σ K []) cf (call cf k) (kps 25) Tryz.f25.ntmps k 0) 0 (lb Tryz.f25 0) :=
 qA (qA qT (qA qT qT)) (qA (qA qT (qA qT qT)) qT)
theorem qBC (k n : Nat) (x : DS SS.D qiG) : qv k (n + 1) x.1 x.2.1 x.2.2.1 x.2.2.2.1 x.2.2.2.2.1 x.2.2.2.2.2 = qI SS.enc (fun σ => qJ cf (fun f a b K => COt f a b K [qgA k]) (fun b _ σ K => LOt Ty (kps 25) 0 b σ K []) Tryz.f25.ntmps 0 (lb Tryz.f25 0) σ (qQ Ty (kps 25 0) 0 qiG qnp fun x => qv k n x.1 x.2.1 x.2.2.1 x.2.2.2.1 x.2.2.2.2.1 x.2.2.2.2.2)) qiG x := by kernel_rfl
theorem qBD (k : Nat) : qae cf (call cf k) (kps 25) Tryz.f25.ntmps k 0 0 (lb Tryz.f25 0) (qgk k) :=
 qu (c := cf) (callF := call cf k) (kp := kps 25) (nt := Tryz.f25.ntmps) (k := k) (p := 0) (b := 0) (x0 := lb Tryz.f25 0) (hs := qiG) (os := qnp) (qd (qtA k)) (qBB k) (fun n x => qv k n x.1 x.2.1 x.2.2.1 x.2.2.2.1 x.2.2.2.2.1 x.2.2.2.2.2) (fun _ => rfl) (qBC k)
def qiH : List SS := [{ fr := [(1, .a (.lf (.int .i64))), (2, .a (.ptr 0 0 0)), (6, .a (.lf (.int .i64))), (8, .a (.smz 1)), (9, .a (.lf (.int .i64)))], mem := [(0, some (.raw [[.lf (.int .i64), .lf (.sl (.pr (.int .i64) (.int .i64))), .lf (.sl (.int .i64))]] 3 52 true false)), (1, some (.arr (.int .i64) 1 3 false))], nx := 2 }]
def qnq : List OS := [⟨some 2, { fr := [(6, .a (.lf (.int .i64)))], mem := [(0, some (.raw [[.lf (.int .i64), .lf (.sl (.pr (.int .i64) (.int .i64))), .lf (.sl (.int .i64))]] 3 52 true false)), (1, some (.arr (.int .i64) 1 3 false))], nx := 2 }⟩]
def qiI (k : Nat) : LInst := ⟨2, qiH, qnq, fun x => qah k k x.1 x.2.1 x.2.2.1 x.2.2.2.1 x.2.2.2.2.1 x.2.2.2.2.2.1 x.2.2.2.2.2.2.1 x.2.2.2.2.2.2.2⟩
theorem qBE (k : Nat) : qg (LOk (R := DS OS.D qnq) (fun b _ σ K => LOt Ty (kps 25) 0 b σ K [qgk k]) cf (call cf k) (kps 25) Tryz.f25.ntmps k 0) 2 (lb Tryz.f25 1) :=
 qA (qA qT (qA qT qT)) (qA (qA qT (qA (qA qT (qA qT qT)) qT)) qT)
theorem qBF (k n : Nat) (x : DS SS.D qiH) : qah k (n + 1) x.1 x.2.1 x.2.2.1 x.2.2.2.1 x.2.2.2.2.1 x.2.2.2.2.2.1 x.2.2.2.2.2.2.1 x.2.2.2.2.2.2.2 = qI SS.enc (fun σ => qJ cf (fun f a b K => COt f a b K [qgA k]) (fun b _ σ K => LOt Ty (kps 25) 0 b σ K [qgk k]) Tryz.f25.ntmps 2 (lb Tryz.f25 1) σ (qQ Ty (kps 25 2) 0 qiH qnq fun x => qah k n x.1 x.2.1 x.2.2.1 x.2.2.2.1 x.2.2.2.2.1 x.2.2.2.2.2.1 x.2.2.2.2.2.2.1 x.2.2.2.2.2.2.2)) qiH x := by kernel_rfl
theorem qBG (k : Nat) : qae cf (call cf k) (kps 25) Tryz.f25.ntmps k 0 2 (lb Tryz.f25 1) (qiI k) :=
 qu (c := cf) (callF := call cf k) (kp := kps 25) (nt := Tryz.f25.ntmps) (k := k) (p := 0) (b := 2) (x0 := lb Tryz.f25 1) (hs := qiH) (os := qnq) (qd (qtA k)) (qBE k) (fun n x => qah k n x.1 x.2.1 x.2.2.1 x.2.2.2.1 x.2.2.2.2.1 x.2.2.2.2.2.1 x.2.2.2.2.2.2.1 x.2.2.2.2.2.2.2) (fun _ => rfl) (qBF k)
theorem qGH (k : Nat) : qg (LOk (R := DS FS.D qqo) (fun b _ σ K => LOt Ty (kps 25) 0 b σ K [qgk k, qiI k]) cf (call cf k) (cf.keep 25) Tryz.f25.ntmps k qkr.bs.length) 0 (bd Tryz.f25) :=
 qA qT (qA (qA qT (qA (qA qT qT) qT)) (qA qT (qA (qA qT (qA qT qT)) (qA (qA qT (qD (c := cf) (callF := call cf k) (kp := kps 25) (nt := Tryz.f25.ntmps) (k := k) (p := 0) (b := 0) (x0 := lb Tryz.f25 0) (l := [qgk k, qiI k]) (qA (fun _ => qBD k) (qA (fun h => absurd (show (2 : Nat) = 0 from h) (by decide)) qT)))) (qA (qA qT (qA (qA qT (qA qT (qD (c := cf) (callF := call cf k) (kp := kps 25) (nt := Tryz.f25.ntmps) (k := k) (p := 0) (b := 2) (x0 := lb Tryz.f25 1) (l := [qgk k, qiI k]) (qA (fun h => absurd (show (0 : Nat) = 2 from h) (by decide)) (qA (fun _ => qBG k) qT))))) qT)) (qA (qA qT (qA (qA qT qT) qT)) (qA qT qT)))))))
theorem qGI (k : Nat) (x : qkr.D) : qa9 (k + 1) x.1 x.2.1 x.2.2.1 x.2.2.2 = qk cf (fun f a b K => COt f a b K [qgA k]) (fun b _ σ K => LOt Ty (kps 25) 0 b σ K [qgk k, qiI k]) 25 Tryz.f25.ntmps Tryz.f25.results.toList (bd Tryz.f25) (qkr.enc x).1 (qkr.enc x).2 (qo FS.dec qqo) := by kernel_rfl
theorem qGJ : ∀ k, qh (call cf k) (qtz k)
 | 0 => fun x y e => absurd (show (none : Option _) = some y from e) (by simp)
 | k + 1 => qe (c := cf) (k := k) (f := 25) (fn := Tryz.f25) (body := bd Tryz.f25) (sh := qkr) (os := qqo) rfl Tryz.func25 rfl ⟨rfl, Nat.le_of_ble_eq_true rfl⟩ (qd (qtA k)) (qGH k) (fun x => qa9 (k + 1) x.1 x.2.1 x.2.2.1 x.2.2.2) (qGI k)

def qcv (k : Nat) (rec : Int → Int → List (Int × Int) → List Int → Int → List (Int × Int) → List Int → Option ((Bool × Int × List (Int × Int) × List Int × Int × List (Int × Int) × List Int) ⊕ (Int × List (Int × Int) × List Int × Int × List (Int × Int) × List Int))) (i : Int) (a0 : Int) (a1 : List (Int × Int)) (a2 : List Int) (b0 : Int) (b1 : List (Int × Int)) (b2 : List Int) : Option ((Bool × Int × List (Int × Int) × List Int × Int × List (Int × Int) × List Int) ⊕ (Int × List (Int × Int) × List Int × Int × List (Int × Int) × List Int)) :=
 if ((decide (i < (((List.length a2) : Nat) : Int))) = true) then
 if ((0 : Int) ≤ i) then
 Option.bind (a2)[(Int.toNat i)]? fun x =>
 if ((0 : Int) ≤ i) then
 Option.bind (b2)[(Int.toNat i)]? fun x1 =>
 if ((x != x1) = true) then
 (some (Sum.inl (false, a0, a1, a2, b0, b1, b2)))
 else
 rec (IntKind.wrap .i64 (i + (1 : Int))) a0 a1 a2 b0 b1 b2
 else
 none
 else
 none
 else
 (some (Sum.inr (a0, a1, a2, b0, b1, b2)))
def qaw (k n : Nat) : Int → Int → List (Int × Int) → List Int → Int → List (Int × Int) → List Int → Option ((Bool × Int × List (Int × Int) × List Int × Int × List (Int × Int) × List Int) ⊕ (Int × List (Int × Int) × List Int × Int × List (Int × Int) × List Int)) := Nat.rec (fun _ _ _ _ _ _ _ => none) (fun _ r => qcv k r) n
def qlo (k : Nat) (a0 : Int) (a1 : List (Int × Int)) (a2 : List Int) (b0 : Int) (b1 : List (Int × Int)) (b2 : List Int) : Option (Bool) :=
 if ((a0 != b0) = false) then
 if (((((List.length a2) : Nat) : Int) != (((List.length b2) : Nat) : Int)) = true) then
 (some false)
 else
 Option.bind (qaw k k (0 : Int) a0 a1 a2 b0 b1 b2) fun r5 =>
 qc r5
 (fun r5 =>
 (some r5.1))
 (fun r5 =>
 Option.bind (qcM k r5.2.1 r5.2.2.2.2.1) fun r6 =>
 (some r6))
 else
 (some false)
def qcQ : Nat → Int → List (Int × Int) → List Int → Int → List (Int × Int) → List Int → Option (Bool)
 | 0, _, _, _, _, _, _ => none
 | k + 1, a0, a1, a2, b0, b1, b2 => qlo k a0 a1 a2 b0 b1 b2
def qks : FS := { vs := [.g [.lf (.int .i64), .lf (.sl (.pr (.int .i64) (.int .i64))), .lf (.sl (.int .i64))], .g [.lf (.int .i64), .lf (.sl (.pr (.int .i64) (.int .i64))), .lf (.sl (.int .i64))]], bs := [] }
def qqp : List FS := [{ vs := [.a (.lf .bool)], bs := [] }]
def qv7 (k : Nat) : Inst := ⟨65, qks, qqp, fun x => qcQ k x.1 x.2.1 x.2.2.1 x.2.2.2.1 x.2.2.2.2.1 x.2.2.2.2.2⟩
theorem qxy (k : Nat) : qp (call cf k) [qtt k] := qA (qF7 k) qT
def qiJ : List SS := [{ fr := [(2, .a (.ptr 0 0 0)), (3, .a (.ptr 1 0 0)), (5, .a (.lf (.int .i64)))], mem := [(0, some (.raw [[.lf (.int .i64), .lf (.sl (.pr (.int .i64) (.int .i64))), .lf (.sl (.int .i64))]] 3 52 true false)), (1, some (.raw [[.lf (.int .i64), .lf (.sl (.pr (.int .i64) (.int .i64))), .lf (.sl (.int .i64))]] 3 52 true false))], nx := 2 }]
def qnr : List OS := [⟨none, { fr := [(4, .a (.lf .bool))], mem := [(0, some (.raw [[.lf (.int .i64), .lf (.sl (.pr (.int .i64) (.int .i64))), .lf (.sl (.int .i64))]] 3 52 true false)), (1, some (.raw [[.lf (.int .i64), .lf (.sl (.pr (.int .i64) (.int .i64))), .lf (.sl (.int .i64))]] 3 52 true false))], nx := 2 }⟩, ⟨some 0, { fr := [(2, .a (.ptr 0 0 0)), (3, .a (.ptr 1 0 0))], mem := [(0, some (.raw [[.lf (.int .i64), .lf (.sl (.pr (.int .i64) (.int .i64))), .lf (.sl (.int .i64))]] 3 52 true false)), (1, some (.raw [[.lf (.int .i64), .lf (.sl (.pr (.int .i64) (.int .i64))), .lf (.sl (.int .i64))]] 3 52 true false))], nx := 2 }⟩]
def qns (k : Nat) : LInst := ⟨0, qiJ, qnr, fun x => qaw k k x.1 x.2.1 x.2.2.1 x.2.2.2.1 x.2.2.2.2.1 x.2.2.2.2.2.1 x.2.2.2.2.2.2⟩
theorem qBH (k : Nat) : qg (LOk (R := DS OS.D qnr) (fun b _ σ K => LOt Ty (kps 65) 0 b σ K []) cf (call cf k) (kps 65) Tryz.f65.ntmps k 0) 0 (lb Tryz.f65 0) :=
 qA (qA qT (qA qT qT)) (qA (qA qT (qA (qA qT qT) qT)) qT)
theorem qBI (k n : Nat) (x : DS SS.D qiJ) : qaw k (n + 1) x.1 x.2.1 x.2.2.1 x.2.2.2.1 x.2.2.2.2.1 x.2.2.2.2.2.1 x.2.2.2.2.2.2 = qI SS.enc (fun σ => qJ cf (fun f a b K => COt f a b K [qtt k]) (fun b _ σ K => LOt Ty (kps 65) 0 b σ K []) Tryz.f65.ntmps 0 (lb Tryz.f65 0) σ (qQ Ty (kps 65 0) 0 qiJ qnr fun x => qaw k n x.1 x.2.1 x.2.2.1 x.2.2.2.1 x.2.2.2.2.1 x.2.2.2.2.2.1 x.2.2.2.2.2.2)) qiJ x := by kernel_rfl
theorem qBJ (k : Nat) : qae cf (call cf k) (kps 65) Tryz.f65.ntmps k 0 0 (lb Tryz.f65 0) (qns k) :=
 qu (c := cf) (callF := call cf k) (kp := kps 65) (nt := Tryz.f65.ntmps) (k := k) (p := 0) (b := 0) (x0 := lb Tryz.f65 0) (hs := qiJ) (os := qnr) (qd (qxy k)) (qBH k) (fun n x => qaw k n x.1 x.2.1 x.2.2.1 x.2.2.2.1 x.2.2.2.2.1 x.2.2.2.2.2.1 x.2.2.2.2.2.2) (fun _ => rfl) (qBI k)
theorem qGK (k : Nat) : qg (LOk (R := DS FS.D qqp) (fun b _ σ K => LOt Ty (kps 65) 0 b σ K [qns k]) cf (call cf k) (cf.keep 65) Tryz.f65.ntmps k qks.bs.length) 0 (bd Tryz.f65) :=
 qA qT (qA (qA qT (qA (qA qT qT) qT)) (qA (qA qT (qD (c := cf) (callF := call cf k) (kp := kps 65) (nt := Tryz.f65.ntmps) (k := k) (p := 0) (b := 0) (x0 := lb Tryz.f65 0) (l := [qns k]) (qA (fun _ => qBJ k) qT))) (qA qT qT)))
theorem qGL (k : Nat) (x : qks.D) : qcQ (k + 1) x.1 x.2.1 x.2.2.1 x.2.2.2.1 x.2.2.2.2.1 x.2.2.2.2.2 = qk cf (fun f a b K => COt f a b K [qtt k]) (fun b _ σ K => LOt Ty (kps 65) 0 b σ K [qns k]) 65 Tryz.f65.ntmps Tryz.f65.results.toList (bd Tryz.f65) (qks.enc x).1 (qks.enc x).2 (qo FS.dec qqp) := by kernel_rfl
theorem qGM : ∀ k, qh (call cf k) (qv7 k)
 | 0 => fun x y e => absurd (show (none : Option _) = some y from e) (by simp)
 | k + 1 => qe (c := cf) (k := k) (f := 65) (fn := Tryz.f65) (body := bd Tryz.f65) (sh := qks) (os := qqp) rfl Tryz.func65 rfl ⟨rfl, Nat.le_of_ble_eq_true rfl⟩ (qd (qxy k)) (qGK k) (fun x => qcQ (k + 1) x.1 x.2.1 x.2.2.1 x.2.2.2.1 x.2.2.2.2.1 x.2.2.2.2.2) (qGL k)

def qdL (k : Nat) (in0 : Int) (in1 : Nat) (in2 : Nat) (w0 : Int) (w1 : List (Int × Int)) (w2 : List Int) (m : List (Int × Int)) (m1 : List Int) : Option (Bool × List (Int × Int) × List Int) :=
 if ((0 + in1) ≤ (List.length m)) then
 if ((0 + in2) ≤ (List.length m1)) then
 Option.bind (qcQ k in0 (List.take in1 m) (List.take in2 m1) w0 w1 w2) fun r5 =>
 if (r5 = true) then
 if (((0 : Int) ≤ (0 : Int)) ∧ (((0 : Int) ≤ (IntKind.wrap .i64 ((((List.length w1) : Nat) : Int) + (1 : Int)))) ∧ (((0 + (Int.toNat (IntKind.wrap .i64 ((((List.length w1) : Nat) : Int) + (1 : Int))))) ≤ (List.length m)) ∧ (((0 : Int) < (IntKind.wrap .i64 ((((List.length w1) : Nat) : Int) + (1 : Int)))) ∨ (true = true))))) then
 if (((0 : Int) ≤ (((List.length w1) : Nat) : Int)) ∧ ((((List.length w1) : Nat) : Int) < (((Int.toNat (IntKind.wrap .i64 ((((List.length w1) : Nat) : Int) + (1 : Int)))) : Nat) : Int))) then
 Option.bind (m)[(0 + (Int.toNat (((List.length w1) : Nat) : Int)))]? fun x =>
 if ((x.1 == (77 : Int)) = true) then
 if (((0 : Int) ≤ (0 : Int)) ∧ (((0 : Int) ≤ (IntKind.wrap .i64 ((((List.length w2) : Nat) : Int) + (1 : Int)))) ∧ (((0 + (Int.toNat (IntKind.wrap .i64 ((((List.length w2) : Nat) : Int) + (1 : Int))))) ≤ (List.length m1)) ∧ (((0 : Int) < (IntKind.wrap .i64 ((((List.length w2) : Nat) : Int) + (1 : Int)))) ∨ (true = true))))) then
 if (((0 : Int) ≤ (((List.length w2) : Nat) : Int)) ∧ ((((List.length w2) : Nat) : Int) < (((Int.toNat (IntKind.wrap .i64 ((((List.length w2) : Nat) : Int) + (1 : Int)))) : Nat) : Int))) then
 Option.bind (m1)[(0 + (Int.toNat (((List.length w2) : Nat) : Int)))]? fun x1 =>
 (some ((x1 == (-(77 : Int))), m, m1))
 else
 none
 else
 none
 else
 (some (false, m, m1))
 else
 none
 else
 none
 else
 (some (false, m, m1))
 else
 none
 else
 none
def qbk : Nat → Int → Nat → Nat → Int → List (Int × Int) → List Int → List (Int × Int) → List Int → Option (Bool × List (Int × Int) × List Int)
 | 0, _, _, _, _, _, _, _, _ => none
 | k + 1, in0, in1, in2, w0, w1, w2, m, m1 => qdL k in0 in1 in2 w0 w1 w2 m m1
def qkt : FS := { vs := [.g [.lf (.int .i64), .smz 0, .smz 1], .g [.lf (.int .i64), .lf (.sl (.pr (.int .i64) (.int .i64))), .lf (.sl (.int .i64))]], bs := [.arr (.pr (.int .i64) (.int .i64)) 2 48 false, .arr (.int .i64) 1 3 false] }
def qqq : List FS := [{ vs := [.a (.lf .bool)], bs := [.arr (.pr (.int .i64) (.int .i64)) 2 48 false, .arr (.int .i64) 1 3 false] }]
def qtB (k : Nat) : Inst := ⟨26, qkt, qqq, fun x => qbk k x.1 x.2.1 x.2.2.1 x.2.2.2.1 x.2.2.2.2.1 x.2.2.2.2.2.1 x.2.2.2.2.2.2.1 x.2.2.2.2.2.2.2⟩
theorem qGN (k : Nat) : qp (call cf k) [qv7 k] := qA (qGM k) qT
theorem qGO (k : Nat) : qg (LOk (R := DS FS.D qqq) (fun b _ σ K => LOt Ty (kps 26) 2 b σ K []) cf (call cf k) (cf.keep 26) Tryz.f26.ntmps k qkt.bs.length) 0 (bd Tryz.f26) :=
 qA qT (qA qT qT)
theorem qGP (k : Nat) (x : qkt.D) : qbk (k + 1) x.1 x.2.1 x.2.2.1 x.2.2.2.1 x.2.2.2.2.1 x.2.2.2.2.2.1 x.2.2.2.2.2.2.1 x.2.2.2.2.2.2.2 = qk cf (fun f a b K => COt f a b K [qv7 k]) (fun b _ σ K => LOt Ty (kps 26) 2 b σ K []) 26 Tryz.f26.ntmps Tryz.f26.results.toList (bd Tryz.f26) (qkt.enc x).1 (qkt.enc x).2 (qo FS.dec qqq) := by kernel_rfl
theorem qGQ : ∀ k, qh (call cf k) (qtB k)
 | 0 => fun x y e => absurd (show (none : Option _) = some y from e) (by simp)
 | k + 1 => qe (c := cf) (k := k) (f := 26) (fn := Tryz.f26) (body := bd Tryz.f26) (sh := qkt) (os := qqq) rfl Tryz.func26 rfl ⟨rfl, Nat.le_of_ble_eq_true rfl⟩ (qd (qGN k)) (qGO k) (fun x => qbk (k + 1) x.1 x.2.1 x.2.2.1 x.2.2.2.1 x.2.2.2.2.1 x.2.2.2.2.2.1 x.2.2.2.2.2.2.1 x.2.2.2.2.2.2.2) (qGP k)

def qbC (k : Nat) (rec : List Int → Int → Int → Int → List (Int × Int) → List Int → Int → Nat → Nat → List (Int × Int) → List Int → Option ((Bool × Int × List (Int × Int) × List Int × Int × Nat × Nat × List (Int × Int) × List Int) ⊕ (Int × List (Int × Int) × List Int × Int × Nat × Nat × List (Int × Int) × List Int))) (x : List Int) (x1 : Int) (x2 : Int) (w0 : Int) (w1 : List (Int × Int)) (w2 : List Int) (in0 : Int) (in1 : Nat) (in2 : Nat) (m : List (Int × Int)) (m1 : List Int) : Option ((Bool × Int × List (Int × Int) × List Int × Int × Nat × Nat × List (Int × Int) × List Int) ⊕ (Int × List (Int × Int) × List Int × Int × Nat × Nat × List (Int × Int) × List Int)) :=
 if ((decide (x2 < x1)) = true) then
 if ((0 : Int) ≤ x2) then
 Option.bind (x)[(Int.toNat x2)]? fun x3 =>
 if ((0 + in1) ≤ (List.length m)) then
 if ((0 + in2) ≤ (List.length m1)) then
 Option.bind (qdB k in0 (List.take in1 m) (List.take in2 m1) x3) fun r4 =>
 Option.bind (qdm k w0 w1 w2 x3) fun r5 =>
 if ((0 + in1) ≤ (List.length m)) then
 if ((0 + in2) ≤ (List.length m1)) then
 Option.bind (qcZ k in0 (List.take in1 m) (List.take in2 m1) x3) fun r6 =>
 Option.bind (qa9 k w0 w1 w2 x3) fun r7 =>
 if ((r4.1 != r5.1) = false) then
 if ((r4.2 != r5.2) = false) then
 if ((r6.1 != r7.1) = false) then
 if ((!(r6.2 == r7.2)) = true) then
 (some (Sum.inl (false, w0, w1, w2, in0, in1, in2, m, m1)))
 else
 rec x x1 (IntKind.wrap .i64 (x2 + (1 : Int))) w0 w1 w2 in0 in1 in2 m m1
 else
 (some (Sum.inl (false, w0, w1, w2, in0, in1, in2, m, m1)))
 else
 (some (Sum.inl (false, w0, w1, w2, in0, in1, in2, m, m1)))
 else
 (some (Sum.inl (false, w0, w1, w2, in0, in1, in2, m, m1)))
 else
 none
 else
 none
 else
 none
 else
 none
 else
 none
 else
 (some (Sum.inr (w0, w1, w2, in0, in1, in2, m, m1)))
def qU (k n : Nat) : List Int → Int → Int → Int → List (Int × Int) → List Int → Int → Nat → Nat → List (Int × Int) → List Int → Option ((Bool × Int × List (Int × Int) × List Int × Int × Nat × Nat × List (Int × Int) × List Int) ⊕ (Int × List (Int × Int) × List Int × Int × Nat × Nat × List (Int × Int) × List Int)) := Nat.rec (fun _ _ _ _ _ _ _ _ _ _ _ => none) (fun _ r => qbC k r) n
def qgV (k : Nat) (w0 : Int) (w1 : List (Int × Int)) (w2 : List Int) (steps : List Int) : Option (Bool) :=
 Option.bind (qcj k) fun r =>
 if ((!r) = true) then
 (some false)
 else
 Option.bind (qcN k w0 w1 w2) fun r1 =>
 if ((0 + r1.2.1) ≤ (List.length r1.2.2.2.1)) then
 if ((0 + r1.2.2.1) ≤ (List.length r1.2.2.2.2)) then
 Option.bind (qb9 k r1.1 (List.take r1.2.1 r1.2.2.2.1) (List.take r1.2.2.1 r1.2.2.2.2)) fun r2 =>
 Option.bind (qbe k w0 w1 w2) fun r3 =>
 if ((!(r2 == r3)) = true) then
 (some false)
 else
 Option.bind (qU k k steps (((List.length steps) : Nat) : Int) (0 : Int) w0 w1 w2 r1.1 r1.2.1 r1.2.2.1 r1.2.2.2.1 r1.2.2.2.2) fun r4 =>
 qc r4
 (fun r4 =>
 (some r4.1))
 (fun r4 =>
 Option.bind (qbk k r4.2.2.2.1 r4.2.2.2.2.1 r4.2.2.2.2.2.1 r4.1 r4.2.1 r4.2.2.1 r4.2.2.2.2.2.2.1 r4.2.2.2.2.2.2.2) fun r5 =>
 (some r5.1))
 else
 none
 else
 none
def qbl : Nat → Int → List (Int × Int) → List Int → List Int → Option (Bool)
 | 0, _, _, _, _ => none
 | k + 1, w0, w1, w2, steps => qgV k w0 w1 w2 steps
def qku : FS := { vs := [.g [.lf (.int .i64), .lf (.sl (.pr (.int .i64) (.int .i64))), .lf (.sl (.int .i64))], .a (.lf (.sl (.int .i64)))], bs := [] }
def qqr : List FS := [{ vs := [.a (.lf .bool)], bs := [] }]
def qHy (k : Nat) : Inst := ⟨4, qku, qqr, fun x => qbl k x.1 x.2.1 x.2.2.1 x.2.2.2⟩
theorem qxz (k : Nat) : qp (call cf k) [qtl k, qtu k, qfU k, qgA k, qn4 k, qty k, qn5 k, qtz k, qtB k] := qA (qER k) (qA (qGb k) (qA (qoZ k) (qA (qtw k) (qA (qw8 k) (qA (qGG k) (qA (qxa k) (qA (qGJ k) (qA (qGQ k) qT))))))))
def qiK : List SS := [{ fr := [(2, .a (.ptr 0 0 0)), (5, .a (.ptr 1 0 0)), (25, .a (.lf (.sl (.int .i64)))), (26, .a (.lf (.int .i64))), (27, .a (.lf (.int .i64)))], mem := [(0, some (.raw [[.lf (.int .i64), .lf (.sl (.pr (.int .i64) (.int .i64))), .lf (.sl (.int .i64))]] 3 52 true false)), (1, some (.raw [[.lf (.int .i64), .smz 2, .smz 3]] 3 52 false false)), (2, some (.arr (.pr (.int .i64) (.int .i64)) 2 48 false)), (3, some (.arr (.int .i64) 1 3 false))], nx := 4 }]
def qnt : List OS := [⟨none, { fr := [(4, .a (.lf .bool))], mem := [(0, some (.raw [[.lf (.int .i64), .lf (.sl (.pr (.int .i64) (.int .i64))), .lf (.sl (.int .i64))]] 3 52 true false)), (1, some (.raw [[.lf (.int .i64), .smz 2, .smz 3]] 3 52 false false)), (2, some (.arr (.pr (.int .i64) (.int .i64)) 2 48 false)), (3, some (.arr (.int .i64) 1 3 false))], nx := 4 }⟩, ⟨some 0, { fr := [(2, .a (.ptr 0 0 0)), (5, .a (.ptr 1 0 0))], mem := [(0, some (.raw [[.lf (.int .i64), .lf (.sl (.pr (.int .i64) (.int .i64))), .lf (.sl (.int .i64))]] 3 52 true false)), (1, some (.raw [[.lf (.int .i64), .smz 2, .smz 3]] 3 52 false false)), (2, some (.arr (.pr (.int .i64) (.int .i64)) 2 48 false)), (3, some (.arr (.int .i64) 1 3 false))], nx := 4 }⟩]
def qnu (k : Nat) : LInst := ⟨0, qiK, qnt, fun x => qU k k x.1 x.2.1 x.2.2.1 x.2.2.2.1 x.2.2.2.2.1 x.2.2.2.2.2.1 x.2.2.2.2.2.2.1 x.2.2.2.2.2.2.2.1 x.2.2.2.2.2.2.2.2.1 x.2.2.2.2.2.2.2.2.2.1 x.2.2.2.2.2.2.2.2.2.2⟩
theorem qBK (k : Nat) : qg (LOk (R := DS OS.D qnt) (fun b _ σ K => LOt Ty (kps 4) 0 b σ K []) cf (call cf k) (kps 4) Tryz.f4.ntmps k 0) 0 (lb Tryz.f4 0) :=
 qA qT (qA (qA qT qT) (qA (qA qT (qA qT (qA qT (qA qT (qA qT (qA qT (qA (qA qT qT) qT))))))) qT))
theorem qBL (k n : Nat) (x : DS SS.D qiK) : qU k (n + 1) x.1 x.2.1 x.2.2.1 x.2.2.2.1 x.2.2.2.2.1 x.2.2.2.2.2.1 x.2.2.2.2.2.2.1 x.2.2.2.2.2.2.2.1 x.2.2.2.2.2.2.2.2.1 x.2.2.2.2.2.2.2.2.2.1 x.2.2.2.2.2.2.2.2.2.2 = qI SS.enc (fun σ => qJ cf (fun f a b K => COt f a b K [qtl k, qtu k, qfU k, qgA k, qn4 k, qty k, qn5 k, qtz k, qtB k]) (fun b _ σ K => LOt Ty (kps 4) 0 b σ K []) Tryz.f4.ntmps 0 (lb Tryz.f4 0) σ (qQ Ty (kps 4 0) 0 qiK qnt fun x => qU k n x.1 x.2.1 x.2.2.1 x.2.2.2.1 x.2.2.2.2.1 x.2.2.2.2.2.1 x.2.2.2.2.2.2.1 x.2.2.2.2.2.2.2.1 x.2.2.2.2.2.2.2.2.1 x.2.2.2.2.2.2.2.2.2.1 x.2.2.2.2.2.2.2.2.2.2)) qiK x := by kernel_rfl
theorem qBM (k : Nat) : qae cf (call cf k) (kps 4) Tryz.f4.ntmps k 0 0 (lb Tryz.f4 0) (qnu k) :=
 qu (c := cf) (callF := call cf k) (kp := kps 4) (nt := Tryz.f4.ntmps) (k := k) (p := 0) (b := 0) (x0 := lb Tryz.f4 0) (hs := qiK) (os := qnt) (qd (qxz k)) (qBK k) (fun n x => qU k n x.1 x.2.1 x.2.2.1 x.2.2.2.1 x.2.2.2.2.1 x.2.2.2.2.2.1 x.2.2.2.2.2.2.1 x.2.2.2.2.2.2.2.1 x.2.2.2.2.2.2.2.2.1 x.2.2.2.2.2.2.2.2.2.1 x.2.2.2.2.2.2.2.2.2.2) (fun _ => rfl) (qBL k)
theorem qGR (k : Nat) : qg (LOk (R := DS FS.D qqr) (fun b _ σ K => LOt Ty (kps 4) 0 b σ K [qnu k]) cf (call cf k) (cf.keep 4) Tryz.f4.ntmps k qku.bs.length) 0 (bd Tryz.f4) :=
 qA qT (qA (qA qT (qA (qA qT qT) qT)) (qA qT (qA (qA qT (qA (qA qT qT) qT)) (qA (qA qT (qD (c := cf) (callF := call cf k) (kp := kps 4) (nt := Tryz.f4.ntmps) (k := k) (p := 0) (b := 0) (x0 := lb Tryz.f4 0) (l := [qnu k]) (qA (fun _ => qBM k) qT))) (qA qT qT)))))
theorem qGS (k : Nat) (x : qku.D) : qbl (k + 1) x.1 x.2.1 x.2.2.1 x.2.2.2 = qk cf (fun f a b K => COt f a b K [qtl k, qtu k, qfU k, qgA k, qn4 k, qty k, qn5 k, qtz k, qtB k]) (fun b _ σ K => LOt Ty (kps 4) 0 b σ K [qnu k]) 4 Tryz.f4.ntmps Tryz.f4.results.toList (bd Tryz.f4) (qku.enc x).1 (qku.enc x).2 (qo FS.dec qqr) := by kernel_rfl
theorem qGT : ∀ k, qh (call cf k) (qHy k)
 | 0 => fun x y e => absurd (show (none : Option _) = some y from e) (by simp)
 | k + 1 => qe (c := cf) (k := k) (f := 4) (fn := Tryz.f4) (body := bd Tryz.f4) (sh := qku) (os := qqr) rfl Tryz.func4 rfl ⟨rfl, Nat.le_of_ble_eq_true rfl⟩ (qd (qxz k)) (qGR k) (fun x => qbl (k + 1) x.1 x.2.1 x.2.2.1 x.2.2.2) (qGS k)


end
end Go.Proofs.YtbhnafdmilfobaaGreat.Am
