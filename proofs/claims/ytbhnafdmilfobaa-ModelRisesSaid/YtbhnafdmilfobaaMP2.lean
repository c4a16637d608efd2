/- Printed functions: each says what the typed machine says of the program -/
import Derived.Test.YtbhnafdmilfobaaMP1
import Derived.KernelRfl

set_option linter.unusedVariables false
set_option maxRecDepth 100000
namespace Go.Proofs.Ytbhnafdmilfobaa.Am
open Go
noncomputable section

def qld (k : Nat) (x0 : Bool) (x1 : List Int) (y0 : Bool) (y1 : List Int) : Option (Bool × List Int × Bool × List Int) :=
 Option.bind (qcu k y0 y1 x0 x1) fun r15 =>
 (some (r15.1, r15.2, y0, y1))
def qbj : Nat → Bool → List Int → Bool → List Int → Option (Bool × List Int × Bool × List Int)
 | 0, _, _, _, _ => none
 | k + 1, x0, x1, y0, y1 => qld k x0 x1 y0 y1
def qn5 : FS := { vs := [.a (.ptr 0 0 0), .a (.ptr 0 0 0), .a (.ptr 1 0 0)], bs := [.raw [[.lf .bool, .lf (.sl (.int .u32))]] 2 98 true false, .raw [[.lf .bool, .lf (.sl (.int .u32))]] 2 98 true false] }
def qtv : List FS := [{ vs := [.a (.ptr 0 0 0)], bs := [.raw [[.lf .bool, .lf (.sl (.int .u32))]] 2 98 true false, .raw [[.lf .bool, .lf (.sl (.int .u32))]] 2 98 true false] }]
def Iq2 (k : Nat) : Inst := ⟨94, qn5, qtv, fun x => qbj k x.1 x.2.1 x.2.2.1 x.2.2.2⟩
theorem qHp (k : Nat) : qn (call cf k) [qv2 k] := qA (qDY k) qT
theorem qHq (k : Nat) : qf (LOk (R := DS FS.D qtv) (fun b _ σ K => LOt Ty (kps 94) 2 b σ K []) cf (call cf k) (cf.keep 94) Try.f94.ntmps k qn5.bs.length) 0 (bd Try.f94) :=
 qA qT (qA qT qT)
theorem qHr (k : Nat) (x : qn5.D) : qbj (k + 1) x.1 x.2.1 x.2.2.1 x.2.2.2 = qi cf (fun f a b K => COt f a b K [qv2 k]) (fun b _ σ K => LOt Ty (kps 94) 2 b σ K []) 94 Try.f94.ntmps Try.f94.results.toList (bd Try.f94) (qn5.enc x).1 (qn5.enc x).2 (qj FS.dec qtv) := by kernel_rfl
theorem qv3 : ∀ k, qh (call cf k) (Iq2 k)
 | 0 => fun x y e => absurd (show (none : Option _) = some y from e) (by simp)
 | k + 1 => qe (c := cf) (k := k) (f := 94) (fn := Try.f94) (body := bd Try.f94) (sh := qn5) (os := qtv) rfl Try.func94 rfl ⟨rfl, Nat.le_of_ble_eq_true rfl⟩ (qd (qHp k)) (qHq k) (fun x => qbj (k + 1) x.1 x.2.1 x.2.2.1 x.2.2.2) (qHr k)

def qle (k : Nat) (x0 : Bool) (x1 : List Int) : Option (Bool × List Int) :=
 Option.bind (qay k (!x0) x1 x0 x1) fun r5 =>
 (some (r5.1, r5.2))
def qcw : Nat → Bool → List Int → Option (Bool × List Int)
 | 0, _, _ => none
 | k + 1, x0, x1 => qle k x0 x1
def qn6 : FS := { vs := [.a (.ptr 0 0 0), .a (.ptr 0 0 0)], bs := [.raw [[.lf .bool, .lf (.sl (.int .u32))]] 2 98 true false] }
def qtw : List FS := [{ vs := [.a (.ptr 0 0 0)], bs := [.raw [[.lf .bool, .lf (.sl (.int .u32))]] 2 98 true false] }]
def Iq9 (k : Nat) : Inst := ⟨117, qn6, qtw, fun x => qcw k x.1 x.2⟩
theorem qHs (k : Nat) : qn (call cf k) [qht k] := qA (qtj k) qT
theorem qHt (k : Nat) : qf (LOk (R := DS FS.D qtw) (fun b _ σ K => LOt Ty (kps 117) 1 b σ K []) cf (call cf k) (cf.keep 117) Try.f117.ntmps k qn6.bs.length) 0 (bd Try.f117) :=
 qA qT (qA qT qT)
theorem qHu (k : Nat) (x : qn6.D) : qcw (k + 1) x.1 x.2 = qi cf (fun f a b K => COt f a b K [qht k]) (fun b _ σ K => LOt Ty (kps 117) 1 b σ K []) 117 Try.f117.ntmps Try.f117.results.toList (bd Try.f117) (qn6.enc x).1 (qn6.enc x).2 (qj FS.dec qtw) := by kernel_rfl
theorem qHv : ∀ k, qh (call cf k) (Iq9 k)
 | 0 => fun x y e => absurd (show (none : Option _) = some y from e) (by simp)
 | k + 1 => qe (c := cf) (k := k) (f := 117) (fn := Try.f117) (body := bd Try.f117) (sh := qn6) (os := qtw) rfl Try.func117 rfl ⟨rfl, Nat.le_of_ble_eq_true rfl⟩ (qd (qHs k)) (qHt k) (fun x => qcw (k + 1) x.1 x.2) (qHu k)

def qlf (k : Nat) (z0 : Bool) (z1 : Bool) (x0 : Bool) (x1 : List Int) (x2 : Bool) (x3 : List Int) : Option (Bool × List Int × Bool × List Int × Bool × List Int × Bool × List Int) :=
 Option.bind (qbL k x0 x1 x2 x3) fun r3 =>
 Option.bind (qo k r3.1 r3.2.1 r3.2.2.1 r3.2.2.2.1) fun r4 =>
 Option.bind (qcw k r3.2.2.2.2.1 r3.2.2.2.2.2) fun r5 =>
 (some (r5.1, r5.2, r4.2.2.2.2.1, r4.2.2.2.2.2, r4.1, r4.2.1, r4.2.2.1, r4.2.2.2.1))
def qcx : Nat → Bool → Bool → Bool → List Int → Bool → List Int → Option (Bool × List Int × Bool × List Int × Bool × List Int × Bool × List Int)
 | 0, _, _, _, _, _, _ => none
 | k + 1, z0, z1, x0, x1, x2, x3 => qlf k z0 z1 x0 x1 x2 x3
def qjM : FS := { vs := [.a (.ptr 0 0 0), .a (.ptr 1 0 0)], bs := [.raw [[.lf .bool, .snil 1 72, .lf .bool, .snil 1 72]] 4 100 true false, .raw [[.lf .bool, .lf (.sl (.int .u32)), .lf .bool, .lf (.sl (.int .u32))]] 4 100 true false] }
def qpv : List FS := [{ vs := [.a (.ptr 0 0 0)], bs := [.raw [[.lf .bool, .lf (.sl (.int .u32)), .lf .bool, .lf (.sl (.int .u32))]] 4 100 true false, .raw [[.lf .bool, .lf (.sl (.int .u32)), .lf .bool, .lf (.sl (.int .u32))]] 4 100 true false] }]
def qv4 (k : Nat) : Inst := ⟨93, qjM, qpv, fun x => qcx k x.1 x.2.1 x.2.2.1 x.2.2.2.1 x.2.2.2.2.1 x.2.2.2.2.2⟩
theorem qDZ (k : Nat) : qn (call cf k) [qq6 k, qea k, Iq9 k] := qA (qw5 k) (qA (qgv k) (qA (qHv k) qT))
theorem qD0 (k : Nat) : qf (LOk (R := DS FS.D qpv) (fun b _ σ K => LOt Ty (kps 93) 2 b σ K []) cf (call cf k) (cf.keep 93) Try.f93.ntmps k qjM.bs.length) 0 (bd Try.f93) :=
 qA qT (qA qT (qA qT (qA qT qT)))
theorem qD1 (k : Nat) (x : qjM.D) : qcx (k + 1) x.1 x.2.1 x.2.2.1 x.2.2.2.1 x.2.2.2.2.1 x.2.2.2.2.2 = qi cf (fun f a b K => COt f a b K [qq6 k, qea k, Iq9 k]) (fun b _ σ K => LOt Ty (kps 93) 2 b σ K []) 93 Try.f93.ntmps Try.f93.results.toList (bd Try.f93) (qjM.enc x).1 (qjM.enc x).2 (qj FS.dec qpv) := by kernel_rfl
theorem qD2 : ∀ k, qh (call cf k) (qv4 k)
 | 0 => fun x y e => absurd (show (none : Option _) = some y from e) (by simp)
 | k + 1 => qe (c := cf) (k := k) (f := 93) (fn := Try.f93) (body := bd Try.f93) (sh := qjM) (os := qpv) rfl Try.func93 rfl ⟨rfl, Nat.le_of_ble_eq_true rfl⟩ (qd (qDZ k)) (qD0 k) (fun x => qcx (k + 1) x.1 x.2.1 x.2.2.1 x.2.2.2.1 x.2.2.2.2.1 x.2.2.2.2.2) (qD1 k)

def qdS (k : Nat) (rec : Nat → Int → Int → Int → List Int → Int → Int → List Int → Int → Int → Bool → Bool → List Int → Bool → List Int → Bool → List Int → List Int → Option (Nat × Int × Int × List Int × Int × Int × Bool × Bool × List Int × Bool × List Int × Bool × List Int × List Int)) (out1 : Nat) (i : Int) (a : Int) (carry : Int) (x : List Int) (x1 : Int) (x2 : Int) (x3 : List Int) (x4 : Int) (x5 : Int) (z : Bool) (x0 : Bool) (x11 : List Int) (x21 : Bool) (x31 : List Int) (y0 : Bool) (y1 : List Int) (outs : List Int) : Option (Nat × Int × Int × List Int × Int × Int × Bool × Bool × List Int × Bool × List Int × Bool × List Int × List Int) :=
 if ((decide (x5 < x4)) = true) then
 if ((0 : Int) ≤ x5) then
 Option.bind (x3)[(Int.toNat x5)]? fun x8 =>
 if (((0 : Int) ≤ (IntKind.wrap .i64 (i + x5))) ∧ ((IntKind.wrap .i64 (i + x5)) < ((out1 : Nat) : Int))) then
 Option.bind (outs)[(0 + (Int.toNat (IntKind.wrap .i64 (i + x5))))]? fun x9 =>
 if (((0 : Int) ≤ (IntKind.wrap .i64 (i + x5))) ∧ ((IntKind.wrap .i64 (i + x5)) < ((out1 : Nat) : Int))) then
 Option.bind (outs)[(0 + (Int.toNat (IntKind.wrap .i64 (i + x5))))]? fun x10 =>
 rec out1 i a (Int.fdiv (IntKind.wrap .u64 ((IntKind.wrap .u64 ((IntKind.wrap .u64 ((IntKind.wrap .u64 a) * (IntKind.wrap .u64 x8))) + (IntKind.wrap .u64 x9))) + carry)) (4294967296 : Int)) x x1 x2 x3 x4 (IntKind.wrap .i64 (x5 + (1 : Int))) z x0 x11 x21 x31 y0 y1 (List.set outs (0 + (Int.toNat (IntKind.wrap .i64 (i + x5)))) (IntKind.wrap .u32 (IntKind.wrap .u64 ((IntKind.wrap .u64 ((IntKind.wrap .u64 ((IntKind.wrap .u64 a) * (IntKind.wrap .u64 x8))) + (IntKind.wrap .u64 x9))) + carry))))
 else
 none
 else
 none
 else
 none
 else
 (some (out1, i, carry, x, x1, x2, z, x0, x11, x21, x31, y0, y1, outs))
def qbk (k n : Nat) : Nat → Int → Int → Int → List Int → Int → Int → List Int → Int → Int → Bool → Bool → List Int → Bool → List Int → Bool → List Int → List Int → Option (Nat × Int × Int × List Int × Int × Int × Bool × Bool × List Int × Bool × List Int × Bool × List Int × List Int) := Nat.rec (fun _ _ _ _ _ _ _ _ _ _ _ _ _ _ _ _ _ _ => none) (fun _ r => qdS k r) n
def qdT (k : Nat) (rec : Nat → List Int → Int → Int → Bool → Bool → List Int → Bool → List Int → Bool → List Int → List Int → Option (Nat × Bool × Bool × List Int × Bool × List Int × Bool × List Int × List Int)) (out1 : Nat) (x : List Int) (x1 : Int) (x2 : Int) (z : Bool) (x0 : Bool) (x11 : List Int) (x21 : Bool) (x3 : List Int) (y0 : Bool) (y1 : List Int) (outs : List Int) : Option (Nat × Bool × Bool × List Int × Bool × List Int × Bool × List Int × List Int) :=
 if ((decide (x2 < x1)) = true) then
 if ((0 : Int) ≤ x2) then
 Option.bind (x)[(Int.toNat x2)]? fun x7 =>
 Option.bind (qbk k k out1 x2 x7 (0 : Int) x x1 x2 y1 (((List.length y1) : Nat) : Int) (0 : Int) z x0 x11 x21 x3 y0 y1 outs) fun r5 =>
 if (((0 : Int) ≤ (IntKind.wrap .i64 (r5.2.1 + (((List.length r5.2.2.2.2.2.2.2.2.2.2.2.2.1) : Nat) : Int)))) ∧ ((IntKind.wrap .i64 (r5.2.1 + (((List.length r5.2.2.2.2.2.2.2.2.2.2.2.2.1) : Nat) : Int))) < ((r5.1 : Nat) : Int))) then
 Option.bind (r5.2.2.2.2.2.2.2.2.2.2.2.2.2)[(0 + (Int.toNat (IntKind.wrap .i64 (r5.2.1 + (((List.length r5.2.2.2.2.2.2.2.2.2.2.2.2.1) : Nat) : Int)))))]? fun x8 =>
 rec r5.1 r5.2.2.2.1 r5.2.2.2.2.1 (IntKind.wrap .i64 (r5.2.2.2.2.2.1 + (1 : Int))) r5.2.2.2.2.2.2.1 r5.2.2.2.2.2.2.2.1 r5.2.2.2.2.2.2.2.2.1 r5.2.2.2.2.2.2.2.2.2.1 r5.2.2.2.2.2.2.2.2.2.2.1 r5.2.2.2.2.2.2.2.2.2.2.2.1 r5.2.2.2.2.2.2.2.2.2.2.2.2.1 (List.set r5.2.2.2.2.2.2.2.2.2.2.2.2.2 (0 + (Int.toNat (IntKind.wrap .i64 (r5.2.1 + (((List.length r5.2.2.2.2.2.2.2.2.2.2.2.2.1) : Nat) : Int))))) (IntKind.wrap .u32 r5.2.2.1))
 else
 none
 else
 none
 else
 (some (out1, z, x0, x11, x21, x3, y0, y1, outs))
def qbl (k n : Nat) : Nat → List Int → Int → Int → Bool → Bool → List Int → Bool → List Int → Bool → List Int → List Int → Option (Nat × Bool × Bool × List Int × Bool × List Int × Bool × List Int × List Int) := Nat.rec (fun _ _ _ _ _ _ _ _ _ _ _ _ => none) (fun _ r => qdT k r) n
def qeO (k : Nat) (z : Bool) (x0 : Bool) (x1 : List Int) (x2 : Bool) (x3 : List Int) (y0 : Bool) (y1 : List Int) : Option (Bool × List Int × Bool × List Int × Bool × List Int × Bool × List Int) :=
 if (((0 : Int) ≤ (IntKind.wrap .i64 ((((List.length x1) : Nat) : Int) + (((List.length y1) : Nat) : Int)))) ∧ (((IntKind.wrap .i64 ((((List.length x1) : Nat) : Int) + (((List.length y1) : Nat) : Int))) ≤ (IntKind.wrap .i64 ((((List.length x1) : Nat) : Int) + (((List.length y1) : Nat) : Int)))) ∧ (((IntKind.wrap .i64 ((((List.length x1) : Nat) : Int) + (((List.length y1) : Nat) : Int))) * (4 : Int)) ≤ (140737488355328 : Int)))) then
 Option.bind (qbl k k (Int.toNat (IntKind.wrap .i64 ((((List.length x1) : Nat) : Int) + (((List.length y1) : Nat) : Int)))) x1 (((List.length x1) : Nat) : Int) (0 : Int) z x0 x1 x2 x3 y0 y1 (List.replicate (Int.toNat (IntKind.wrap .i64 ((((List.length x1) : Nat) : Int) + (((List.length y1) : Nat) : Int)))) (0 : Int))) fun r5 =>
 if ((0 + r5.1) ≤ (List.length r5.2.2.2.2.2.2.2.2)) then
 Option.bind (qal k (!(r5.2.2.1 == r5.2.2.2.2.2.2.1)) (List.take r5.1 r5.2.2.2.2.2.2.2.2) r5.2.1) fun r6 =>
 (some (r6.1, r6.2, r5.2.2.1, r5.2.2.2.1, r5.2.2.2.2.1, r5.2.2.2.2.2.1, r5.2.2.2.2.2.2.1, r5.2.2.2.2.2.2.2.1))
 else
 none
 else
 none
def qan : Nat → Bool → Bool → List Int → Bool → List Int → Bool → List Int → Option (Bool × List Int × Bool × List Int × Bool × List Int × Bool × List Int)
 | 0, _, _, _, _, _, _, _ => none
 | k + 1, z, x0, x1, x2, x3, y0, y1 => qeO k z x0 x1 x2 x3 y0 y1
def qn7 : FS := { vs := [.a (.ptr 0 0 0), .a (.ptr 1 0 0), .a (.ptr 2 0 0)], bs := [.raw [[.lf .bool, .snil 1 72]] 2 98 true false, .raw [[.lf .bool, .lf (.sl (.int .u32)), .lf .bool, .lf (.sl (.int .u32))]] 4 100 true false, .raw [[.lf .bool, .lf (.sl (.int .u32))]] 2 98 true false] }
def qtx : List FS := [{ vs := [.a (.ptr 0 0 0)], bs := [.raw [[.lf .bool, .lf (.sl (.int .u32))]] 2 98 true false, .raw [[.lf .bool, .lf (.sl (.int .u32)), .lf .bool, .lf (.sl (.int .u32))]] 4 100 true false, .raw [[.lf .bool, .lf (.sl (.int .u32))]] 2 98 true false] }]
def Iq7 (k : Nat) : Inst := ⟨84, qn7, qtx, fun x => qan k x.1 x.2.1 x.2.2.1 x.2.2.2.1 x.2.2.2.2.1 x.2.2.2.2.2.1 x.2.2.2.2.2.2⟩
theorem qv5 (k : Nat) : qn (call cf k) [qde k] := qA (qjr k) qT
def qil : List SS := [{ fr := [(0, .a (.ptr 0 0 0)), (1, .a (.ptr 1 0 0)), (2, .a (.ptr 2 0 0)), (7, .a (.smz 3)), (8, .a (.lf (.int .i64))), (9, .a (.lf (.int .u32))), (10, .a (.lf (.int .u64))), (29, .a (.lf (.sl (.int .u32)))), (30, .a (.lf (.int .i64))), (31, .a (.lf (.int .i64))), (39, .a (.lf (.sl (.int .u32)))), (40, .a (.lf (.int .i64))), (41, .a (.lf (.int .i64)))], mem := [(0, some (.raw [[.lf .bool, .snil 1 72]] 2 98 true false)), (1, some (.raw [[.lf .bool, .lf (.sl (.int .u32)), .lf .bool, .lf (.sl (.int .u32))]] 4 100 true false)), (2, some (.raw [[.lf .bool, .lf (.sl (.int .u32))]] 2 98 true false)), (3, some (.arr (.int .u32) 1 72 false))], nx := 4 }]
def qmF : List OS := [⟨some 2, { fr := [(0, .a (.ptr 0 0 0)), (1, .a (.ptr 1 0 0)), (2, .a (.ptr 2 0 0)), (7, .a (.smz 3)), (8, .a (.lf (.int .i64))), (10, .a (.lf (.int .u64))), (29, .a (.lf (.sl (.int .u32)))), (30, .a (.lf (.int .i64))), (31, .a (.lf (.int .i64)))], mem := [(0, some (.raw [[.lf .bool, .snil 1 72]] 2 98 true false)), (1, some (.raw [[.lf .bool, .lf (.sl (.int .u32)), .lf .bool, .lf (.sl (.int .u32))]] 4 100 true false)), (2, some (.raw [[.lf .bool, .lf (.sl (.int .u32))]] 2 98 true false)), (3, some (.arr (.int .u32) 1 72 false))], nx := 4 }⟩]
def qf9 (k : Nat) : LInst := ⟨2, qil, qmF, fun x => qbk k k x.1 x.2.1 x.2.2.1 x.2.2.2.1 x.2.2.2.2.1 x.2.2.2.2.2.1 x.2.2.2.2.2.2.1 x.2.2.2.2.2.2.2.1 x.2.2.2.2.2.2.2.2.1 x.2.2.2.2.2.2.2.2.2.1 x.2.2.2.2.2.2.2.2.2.2.1 x.2.2.2.2.2.2.2.2.2.2.2.1 x.2.2.2.2.2.2.2.2.2.2.2.2.1 x.2.2.2.2.2.2.2.2.2.2.2.2.2.1 x.2.2.2.2.2.2.2.2.2.2.2.2.2.2.1 x.2.2.2.2.2.2.2.2.2.2.2.2.2.2.2.1 x.2.2.2.2.2.2.2.2.2.2.2.2.2.2.2.2.1 x.2.2.2.2.2.2.2.2.2.2.2.2.2.2.2.2.2⟩
theorem qAb (k : Nat) : qf (LOk (R := DS OS.D qmF) (fun b _ σ K => LOt Ty (kps 84) 3 b σ K []) cf (call cf k) (kps 84) Try.f84.ntmps k 3) 2 (lb Try.f84 1) :=
 qA qT (qA (qA qT qT) (qA (qA qT (qA qT (qA qT qT))) qT))
theorem qAc (k n : Nat) (x : DS SS.D qil) : qbk k (n + 1) x.1 x.2.1 x.2.2.1 x.2.2.2.1 x.2.2.2.2.1 x.2.2.2.2.2.1 x.2.2.2.2.2.2.1 x.2.2.2.2.2.2.2.1 x.2.2.2.2.2.2.2.2.1 x.2.2.2.2.2.2.2.2.2.1 x.2.2.2.2.2.2.2.2.2.2.1 x.2.2.2.2.2.2.2.2.2.2.2.1 x.2.2.2.2.2.2.2.2.2.2.2.2.1 x.2.2.2.2.2.2.2.2.2.2.2.2.2.1 x.2.2.2.2.2.2.2.2.2.2.2.2.2.2.1 x.2.2.2.2.2.2.2.2.2.2.2.2.2.2.2.1 x.2.2.2.2.2.2.2.2.2.2.2.2.2.2.2.2.1 x.2.2.2.2.2.2.2.2.2.2.2.2.2.2.2.2.2 = qE SS.enc (fun σ => qF cf (fun f a b K => COt f a b K [qde k]) (fun b _ σ K => LOt Ty (kps 84) 3 b σ K []) Try.f84.ntmps 2 (lb Try.f84 1) σ (qJ Ty (kps 84 2) 3 qil qmF fun x => qbk k n x.1 x.2.1 x.2.2.1 x.2.2.2.1 x.2.2.2.2.1 x.2.2.2.2.2.1 x.2.2.2.2.2.2.1 x.2.2.2.2.2.2.2.1 x.2.2.2.2.2.2.2.2.1 x.2.2.2.2.2.2.2.2.2.1 x.2.2.2.2.2.2.2.2.2.2.1 x.2.2.2.2.2.2.2.2.2.2.2.1 x.2.2.2.2.2.2.2.2.2.2.2.2.1 x.2.2.2.2.2.2.2.2.2.2.2.2.2.1 x.2.2.2.2.2.2.2.2.2.2.2.2.2.2.1 x.2.2.2.2.2.2.2.2.2.2.2.2.2.2.2.1 x.2.2.2.2.2.2.2.2.2.2.2.2.2.2.2.2.1 x.2.2.2.2.2.2.2.2.2.2.2.2.2.2.2.2.2)) qil x := by kernel_rfl
theorem qAd (k : Nat) : qac cf (call cf k) (kps 84) Try.f84.ntmps k 3 2 (lb Try.f84 1) (qf9 k) :=
 qr (c := cf) (callF := call cf k) (kp := kps 84) (nt := Try.f84.ntmps) (k := k) (p := 3) (b := 2) (x0 := lb Try.f84 1) (hs := qil) (os := qmF) (qd (qv5 k)) (qAb k) (fun n x => qbk k n x.1 x.2.1 x.2.2.1 x.2.2.2.1 x.2.2.2.2.1 x.2.2.2.2.2.1 x.2.2.2.2.2.2.1 x.2.2.2.2.2.2.2.1 x.2.2.2.2.2.2.2.2.1 x.2.2.2.2.2.2.2.2.2.1 x.2.2.2.2.2.2.2.2.2.2.1 x.2.2.2.2.2.2.2.2.2.2.2.1 x.2.2.2.2.2.2.2.2.2.2.2.2.1 x.2.2.2.2.2.2.2.2.2.2.2.2.2.1 x.2.2.2.2.2.2.2.2.2.2.2.2.2.2.1 x.2.2.2.2.2.2.2.2.2.2.2.2.2.2.2.1 x.2.2.2.2.2.2.2.2.2.2.2.2.2.2.2.2.1 x.2.2.2.2.2.2.2.2.2.2.2.2.2.2.2.2.2) (fun _ => rfl) (qAc k)
def qim : List SS := [{ fr := [(0, .a (.ptr 0 0 0)), (1, .a (.ptr 1 0 0)), (2, .a (.ptr 2 0 0)), (7, .a (.smz 3)), (29, .a (.lf (.sl (.int .u32)))), (30, .a (.lf (.int .i64))), (31, .a (.lf (.int .i64)))], mem := [(0, some (.raw [[.lf .bool, .snil 1 72]] 2 98 true false)), (1, some (.raw [[.lf .bool, .lf (.sl (.int .u32)), .lf .bool, .lf (.sl (.int .u32))]] 4 100 true false)), (2, some (.raw [[.lf .bool, .lf (.sl (.int .u32))]] 2 98 true false)), (3, some (.arr (.int .u32) 1 72 false))], nx := 4 }]
def qmG : List OS := [⟨some 0, { fr := [(0, .a (.ptr 0 0 0)), (1, .a (.ptr 1 0 0)), (2, .a (.ptr 2 0 0)), (7, .a (.smz 3))], mem := [(0, some (.raw [[.lf .bool, .snil 1 72]] 2 98 true false)), (1, some (.raw [[.lf .bool, .lf (.sl (.int .u32)), .lf .bool, .lf (.sl (.int .u32))]] 4 100 true false)), (2, some (.raw [[.lf .bool, .lf (.sl (.int .u32))]] 2 98 true false)), (3, some (.arr (.int .u32) 1 72 false))], nx := 4 }⟩]
def qmH (k : Nat) : LInst := ⟨0, qim, qmG, fun x => qbl k k x.1 x.2.1 x.2.2.1 x.2.2.2.1 x.2.2.2.2.1 x.2.2.2.2.2.1 x.2.2.2.2.2.2.1 x.2.2.2.2.2.2.2.1 x.2.2.2.2.2.2.2.2.1 x.2.2.2.2.2.2.2.2.2.1 x.2.2.2.2.2.2.2.2.2.2.1 x.2.2.2.2.2.2.2.2.2.2.2⟩
theorem qAe (k : Nat) : qf (LOk (R := DS OS.D qmG) (fun b _ σ K => LOt Ty (kps 84) 3 b σ K [qf9 k]) cf (call cf k) (kps 84) Try.f84.ntmps k 3) 0 (lb Try.f84 0) :=
 qA qT (qA (qA qT qT) (qA (qA qT (qA qT (qA (qA qT (qz (c := cf) (callF := call cf k) (kp := kps 84) (nt := Try.f84.ntmps) (k := k) (p := 3) (b := 2) (x0 := lb Try.f84 1) (l := [qf9 k]) (qA (fun _ => qAd k) qT))) qT))) qT))
theorem qAf (k n : Nat) (x : DS SS.D qim) : qbl k (n + 1) x.1 x.2.1 x.2.2.1 x.2.2.2.1 x.2.2.2.2.1 x.2.2.2.2.2.1 x.2.2.2.2.2.2.1 x.2.2.2.2.2.2.2.1 x.2.2.2.2.2.2.2.2.1 x.2.2.2.2.2.2.2.2.2.1 x.2.2.2.2.2.2.2.2.2.2.1 x.2.2.2.2.2.2.2.2.2.2.2 = qE SS.enc (fun σ => qF cf (fun f a b K => COt f a b K [qde k]) (fun b _ σ K => LOt Ty (kps 84) 3 b σ K [qf9 k]) Try.f84.ntmps 0 (lb Try.f84 0) σ (qJ Ty (kps 84 0) 3 qim qmG fun x => qbl k n x.1 x.2.1 x.2.2.1 x.2.2.2.1 x.2.2.2.2.1 x.2.2.2.2.2.1 x.2.2.2.2.2.2.1 x.2.2.2.2.2.2.2.1 x.2.2.2.2.2.2.2.2.1 x.2.2.2.2.2.2.2.2.2.1 x.2.2.2.2.2.2.2.2.2.2.1 x.2.2.2.2.2.2.2.2.2.2.2)) qim x := by kernel_rfl
theorem qAg (k : Nat) : qac cf (call cf k) (kps 84) Try.f84.ntmps k 3 0 (lb Try.f84 0) (qmH k) :=
 qr (c := cf) (callF := call cf k) (kp := kps 84) (nt := Try.f84.ntmps) (k := k) (p := 3) (b := 0) (x0 := lb Try.f84 0) (hs := qim) (os := qmG) (qd (qv5 k)) (qAe k) (fun n x => qbl k n x.1 x.2.1 x.2.2.1 x.2.2.2.1 x.2.2.2.2.1 x.2.2.2.2.2.1 x.2.2.2.2.2.2.1 x.2.2.2.2.2.2.2.1 x.2.2.2.2.2.2.2.2.1 x.2.2.2.2.2.2.2.2.2.1 x.2.2.2.2.2.2.2.2.2.2.1 x.2.2.2.2.2.2.2.2.2.2.2) (fun _ => rfl) (qAf k)
theorem qHw (k : Nat) : qf (LOk (R := DS FS.D qtx) (fun b _ σ K => LOt Ty (kps 84) 3 b σ K [qf9 k, qmH k]) cf (call cf k) (cf.keep 84) Try.f84.ntmps k qn7.bs.length) 0 (bd Try.f84) :=
 qA qT (qA qT (qA (qA qT (qz (c := cf) (callF := call cf k) (kp := kps 84) (nt := Try.f84.ntmps) (k := k) (p := 3) (b := 0) (x0 := lb Try.f84 0) (l := [qf9 k, qmH k]) (qA (fun h => absurd (show (2 : Nat) = 0 from h) (by decide)) (qA (fun _ => qAg k) qT)))) (qA qT qT)))
theorem qHx (k : Nat) (x : qn7.D) : qan (k + 1) x.1 x.2.1 x.2.2.1 x.2.2.2.1 x.2.2.2.2.1 x.2.2.2.2.2.1 x.2.2.2.2.2.2 = qi cf (fun f a b K => COt f a b K [qde k]) (fun b _ σ K => LOt Ty (kps 84) 3 b σ K [qf9 k, qmH k]) 84 Try.f84.ntmps Try.f84.results.toList (bd Try.f84) (qn7.enc x).1 (qn7.enc x).2 (qj FS.dec qtx) := by kernel_rfl
theorem qty : ∀ k, qh (call cf k) (Iq7 k)
 | 0 => fun x y e => absurd (show (none : Option _) = some y from e) (by simp)
 | k + 1 => qe (c := cf) (k := k) (f := 84) (fn := Try.f84) (body := bd Try.f84) (sh := qn7) (os := qtx) rfl Try.func84 rfl ⟨rfl, Nat.le_of_ble_eq_true rfl⟩ (qd (qv5 k)) (qHw k) (fun x => qan (k + 1) x.1 x.2.1 x.2.2.1 x.2.2.2.1 x.2.2.2.2.1 x.2.2.2.2.2.1 x.2.2.2.2.2.2) (qHx k)

def qlg (k : Nat) (z0 : Bool) (z1 : Bool) (x0 : Bool) (x1 : List Int) (x2 : Bool) (x3 : List Int) (y0 : Bool) (y1 : List Int) (y2 : Bool) (y3 : List Int) : Option (Bool × List Int × Bool × List Int × Bool × List Int × Bool × List Int × Bool × List Int × Bool × List Int) :=
 Option.bind (qo k y0 y1 y2 y3) fun r4 =>
 Option.bind (qan k false x0 x1 x2 x3 r4.2.2.2.2.1 r4.2.2.2.2.2) fun r5 =>
 Option.bind (qo k r5.2.2.1 r5.2.2.2.1 r5.2.2.2.2.1 r5.2.2.2.2.2.1) fun r6 =>
 Option.bind (qan k false r4.1 r4.2.1 r4.2.2.1 r4.2.2.2.1 r6.2.2.2.2.1 r6.2.2.2.2.2) fun r7 =>
 Option.bind (qo k r6.1 r6.2.1 r6.2.2.1 r6.2.2.2.1) fun r8 =>
 Option.bind (qo k r7.2.2.1 r7.2.2.2.1 r7.2.2.2.2.1 r7.2.2.2.2.2.1) fun r9 =>
 Option.bind (qam k false r8.2.2.2.2.1 r8.2.2.2.2.2 r9.2.2.2.2.1 r9.2.2.2.2.2) fun r10 =>
 Option.bind (qbj k r5.1 r5.2.1 r7.1 r7.2.1) fun r11 =>
 Option.bind (qao k z0 z1 r11.1 r11.2.1 r10.1 r10.2.1) fun r12 =>
 (some (r12.1, r12.2.1, r12.2.2.1, r12.2.2.2.1, r8.1, r8.2.1, r8.2.2.1, r8.2.2.2.1, r9.1, r9.2.1, r9.2.2.1, r9.2.2.2.1))
def qbO : Nat → Bool → Bool → Bool → List Int → Bool → List Int → Bool → List Int → Bool → List Int → Option (Bool × List Int × Bool × List Int × Bool × List Int × Bool × List Int × Bool × List Int × Bool × List Int)
 | 0, _, _, _, _, _, _, _, _, _, _ => none
 | k + 1, z0, z1, x0, x1, x2, x3, y0, y1, y2, y3 => qlg k z0 z1 x0 x1 x2 x3 y0 y1 y2 y3
def qjN : FS := { vs := [.a (.ptr 0 0 0), .a (.ptr 1 0 0), .a (.ptr 2 0 0)], bs := [.raw [[.lf .bool, .snil 1 72, .lf .bool, .snil 1 72]] 4 100 true false, .raw [[.lf .bool, .lf (.sl (.int .u32)), .lf .bool, .lf (.sl (.int .u32))]] 4 100 true false, .raw [[.lf .bool, .lf (.sl (.int .u32)), .lf .bool, .lf (.sl (.int .u32))]] 4 100 true false] }
def qpw : List FS := [{ vs := [.a (.ptr 0 0 0)], bs := [.raw [[.lf .bool, .lf (.sl (.int .u32)), .lf .bool, .lf (.sl (.int .u32))]] 4 100 true false, .raw [[.lf .bool, .lf (.sl (.int .u32)), .lf .bool, .lf (.sl (.int .u32))]] 4 100 true false, .raw [[.lf .bool, .lf (.sl (.int .u32)), .lf .bool, .lf (.sl (.int .u32))]] 4 100 true false] }]
def qra (k : Nat) : Inst := ⟨63, qjN, qpw, fun x => qbO k x.1 x.2.1 x.2.2.1 x.2.2.2.1 x.2.2.2.2.1 x.2.2.2.2.2.1 x.2.2.2.2.2.2.1 x.2.2.2.2.2.2.2.1 x.2.2.2.2.2.2.2.2.1 x.2.2.2.2.2.2.2.2.2⟩
theorem qD3 (k : Nat) : qn (call cf k) [qea k, Iq7 k, Iq4 k, Iq2 k, qhw k] := qA (qgv k) (qA (qty k) (qA (qq8 k) (qA (qv3 k) (qA (qpb k) qT))))
theorem qD4 (k : Nat) : qf (LOk (R := DS FS.D qpw) (fun b _ σ K => LOt Ty (kps 63) 3 b σ K []) cf (call cf k) (cf.keep 63) Try.f63.ntmps k qjN.bs.length) 0 (bd Try.f63) :=
 qA qT (qA qT (qA qT (qA qT (qA qT (qA qT qT)))))
theorem qD5 (k : Nat) (x : qjN.D) : qbO (k + 1) x.1 x.2.1 x.2.2.1 x.2.2.2.1 x.2.2.2.2.1 x.2.2.2.2.2.1 x.2.2.2.2.2.2.1 x.2.2.2.2.2.2.2.1 x.2.2.2.2.2.2.2.2.1 x.2.2.2.2.2.2.2.2.2 = qi cf (fun f a b K => COt f a b K [qea k, Iq7 k, Iq4 k, Iq2 k, qhw k]) (fun b _ σ K => LOt Ty (kps 63) 3 b σ K []) 63 Try.f63.ntmps Try.f63.results.toList (bd Try.f63) (qjN.enc x).1 (qjN.enc x).2 (qj FS.dec qpw) := by kernel_rfl
theorem qxa : ∀ k, qh (call cf k) (qra k)
 | 0 => fun x y e => absurd (show (none : Option _) = some y from e) (by simp)
 | k + 1 => qe (c := cf) (k := k) (f := 63) (fn := Try.f63) (body := bd Try.f63) (sh := qjN) (os := qpw) rfl Try.func63 rfl ⟨rfl, Nat.le_of_ble_eq_true rfl⟩ (qd (qD3 k)) (qD4 k) (fun x => qbO (k + 1) x.1 x.2.1 x.2.2.1 x.2.2.2.1 x.2.2.2.2.1 x.2.2.2.2.2.1 x.2.2.2.2.2.2.1 x.2.2.2.2.2.2.2.1 x.2.2.2.2.2.2.2.2.1 x.2.2.2.2.2.2.2.2.2) (qD5 k)

def qlh (k : Nat) (z0 : Bool) (z1 : Bool) (x0 : Bool) (x1 : List Int) (x2 : Bool) (x3 : List Int) (y0 : Bool) (y1 : List Int) (y2 : Bool) (y3 : List Int) : Option (Bool × List Int × Bool × List Int × Bool × List Int × Bool × List Int × Bool × List Int × Bool × List Int) :=
 Option.bind (qcx k false false y0 y1 y2 y3) fun r3 =>
 Option.bind (qbO k z0 z1 x0 x1 x2 x3 r3.1 r3.2.1 r3.2.2.1 r3.2.2.2.1) fun r4 =>
 (some (r4.1, r4.2.1, r4.2.2.1, r4.2.2.2.1, r4.2.2.2.2.1, r4.2.2.2.2.2.1, r4.2.2.2.2.2.2.1, r4.2.2.2.2.2.2.2.1, r3.2.2.2.2.1, r3.2.2.2.2.2.1, r3.2.2.2.2.2.2.1, r3.2.2.2.2.2.2.2))
def qbm : Nat → Bool → Bool → Bool → List Int → Bool → List Int → Bool → List Int → Bool → List Int → Option (Bool × List Int × Bool × List Int × Bool × List Int × Bool × List Int × Bool × List Int × Bool × List Int)
 | 0, _, _, _, _, _, _, _, _, _, _ => none
 | k + 1, z0, z1, x0, x1, x2, x3, y0, y1, y2, y3 => qlh k z0 z1 x0 x1 x2 x3 y0 y1 y2 y3
def qjO : FS := { vs := [.a (.ptr 0 0 0), .a (.ptr 1 0 0), .a (.ptr 2 0 0)], bs := [.raw [[.lf .bool, .snil 1 72, .lf .bool, .snil 1 72]] 4 100 true false, .raw [[.lf .bool, .lf (.sl (.int .u32)), .lf .bool, .lf (.sl (.int .u32))]] 4 100 true false, .raw [[.lf .bool, .lf (.sl (.int .u32)), .lf .bool, .lf (.sl (.int .u32))]] 4 100 true false] }
def qpx : List FS := [{ vs := [.a (.ptr 0 0 0)], bs := [.raw [[.lf .bool, .lf (.sl (.int .u32)), .lf .bool, .lf (.sl (.int .u32))]] 4 100 true false, .raw [[.lf .bool, .lf (.sl (.int .u32)), .lf .bool, .lf (.sl (.int .u32))]] 4 100 true false, .raw [[.lf .bool, .lf (.sl (.int .u32)), .lf .bool, .lf (.sl (.int .u32))]] 4 100 true false] }]
def qtz (k : Nat) : Inst := ⟨61, qjO, qpx, fun x => qbm k x.1 x.2.1 x.2.2.1 x.2.2.2.1 x.2.2.2.2.1 x.2.2.2.2.2.1 x.2.2.2.2.2.2.1 x.2.2.2.2.2.2.2.1 x.2.2.2.2.2.2.2.2.1 x.2.2.2.2.2.2.2.2.2⟩
theorem qD6 (k : Nat) : qn (call cf k) [qv4 k, qra k] := qA (qD2 k) (qA (qxa k) qT)
theorem qD7 (k : Nat) : qf (LOk (R := DS FS.D qpx) (fun b _ σ K => LOt Ty (kps 61) 3 b σ K []) cf (call cf k) (cf.keep 61) Try.f61.ntmps k qjO.bs.length) 0 (bd Try.f61) :=
 qA qT (qA qT qT)
theorem qD8 (k : Nat) (x : qjO.D) : qbm (k + 1) x.1 x.2.1 x.2.2.1 x.2.2.2.1 x.2.2.2.2.1 x.2.2.2.2.2.1 x.2.2.2.2.2.2.1 x.2.2.2.2.2.2.2.1 x.2.2.2.2.2.2.2.2.1 x.2.2.2.2.2.2.2.2.2 = qi cf (fun f a b K => COt f a b K [qv4 k, qra k]) (fun b _ σ K => LOt Ty (kps 61) 3 b σ K []) 61 Try.f61.ntmps Try.f61.results.toList (bd Try.f61) (qjO.enc x).1 (qjO.enc x).2 (qj FS.dec qpx) := by kernel_rfl
theorem qD9 : ∀ k, qh (call cf k) (qtz k)
 | 0 => fun x y e => absurd (show (none : Option _) = some y from e) (by simp)
 | k + 1 => qe (c := cf) (k := k) (f := 61) (fn := Try.f61) (body := bd Try.f61) (sh := qjO) (os := qpx) rfl Try.func61 rfl ⟨rfl, Nat.le_of_ble_eq_true rfl⟩ (qd (qD6 k)) (qD7 k) (fun x => qbm (k + 1) x.1 x.2.1 x.2.2.1 x.2.2.2.1 x.2.2.2.2.1 x.2.2.2.2.2.1 x.2.2.2.2.2.2.1 x.2.2.2.2.2.2.2.1 x.2.2.2.2.2.2.2.2.1 x.2.2.2.2.2.2.2.2.2) (qD8 k)

def qli (k : Nat) (x0 : Bool) (x1 : List Int) (x2 : Bool) (x3 : List Int) (y0 : Bool) (y1 : List Int) (y2 : Bool) (y3 : List Int) : Option (Bool × List Int × Bool × List Int × Bool × List Int × Bool × List Int) :=
 Option.bind (qo k y0 y1 y2 y3) fun r6 =>
 Option.bind (qan k false x0 x1 x2 x3 r6.2.2.2.2.1 r6.2.2.2.2.2) fun r7 =>
 Option.bind (qo k r7.2.2.1 r7.2.2.2.1 r7.2.2.2.2.1 r7.2.2.2.2.2.1) fun r8 =>
 Option.bind (qan k false r6.1 r6.2.1 r6.2.2.1 r6.2.2.2.1 r8.2.2.2.2.1 r8.2.2.2.2.2) fun r9 =>
 Option.bind (qo k r8.1 r8.2.1 r8.2.2.1 r8.2.2.2.1) fun r10 =>
 Option.bind (qo k r9.2.2.1 r9.2.2.2.1 r9.2.2.2.2.1 r9.2.2.2.2.2.1) fun r11 =>
 Option.bind (qam k false r10.2.2.2.2.1 r10.2.2.2.2.2 r11.2.2.2.2.1 r11.2.2.2.2.2) fun r12 =>
 Option.bind (qbj k r7.1 r7.2.1 r9.1 r9.2.1) fun r13 =>
 Option.bind (qa1 k r10.1 r10.2.1 r10.2.2.1 r10.2.2.2.1 r13.1 r13.2.1 r12.1 r12.2.1) fun r14 =>
 (some (r14.1, r14.2.1, r14.2.2.1, r14.2.2.2.1, r11.1, r11.2.1, r11.2.2.1, r11.2.2.2.1))
def qcy : Nat → Bool → List Int → Bool → List Int → Bool → List Int → Bool → List Int → Option (Bool × List Int × Bool × List Int × Bool × List Int × Bool × List Int)
 | 0, _, _, _, _, _, _, _, _ => none
 | k + 1, x0, x1, x2, x3, y0, y1, y2, y3 => qli k x0 x1 x2 x3 y0 y1 y2 y3
def qjP : FS := { vs := [.a (.ptr 0 0 0), .a (.ptr 0 0 0), .a (.ptr 1 0 0)], bs := [.raw [[.lf .bool, .lf (.sl (.int .u32)), .lf .bool, .lf (.sl (.int .u32))]] 4 100 true false, .raw [[.lf .bool, .lf (.sl (.int .u32)), .lf .bool, .lf (.sl (.int .u32))]] 4 100 true false] }
def qpy : List FS := [{ vs := [.a (.ptr 0 0 0)], bs := [.raw [[.lf .bool, .lf (.sl (.int .u32)), .lf .bool, .lf (.sl (.int .u32))]] 4 100 true false, .raw [[.lf .bool, .lf (.sl (.int .u32)), .lf .bool, .lf (.sl (.int .u32))]] 4 100 true false] }]
def qtA (k : Nat) : Inst := ⟨63, qjP, qpy, fun x => qcy k x.1 x.2.1 x.2.2.1 x.2.2.2.1 x.2.2.2.2.1 x.2.2.2.2.2.1 x.2.2.2.2.2.2.1 x.2.2.2.2.2.2.2⟩
theorem qEa (k : Nat) : qn (call cf k) [qea k, Iq7 k, Iq4 k, Iq2 k, qq9 k] := qA (qgv k) (qA (qty k) (qA (qq8 k) (qA (qv3 k) (qA (qw6 k) qT))))
theorem qEb (k : Nat) : qf (LOk (R := DS FS.D qpy) (fun b _ σ K => LOt Ty (kps 63) 2 b σ K []) cf (call cf k) (cf.keep 63) Try.f63.ntmps k qjP.bs.length) 0 (bd Try.f63) :=
 qA qT (qA qT (qA qT (qA qT (qA qT (qA qT qT)))))
theorem qEc (k : Nat) (x : qjP.D) : qcy (k + 1) x.1 x.2.1 x.2.2.1 x.2.2.2.1 x.2.2.2.2.1 x.2.2.2.2.2.1 x.2.2.2.2.2.2.1 x.2.2.2.2.2.2.2 = qi cf (fun f a b K => COt f a b K [qea k, Iq7 k, Iq4 k, Iq2 k, qq9 k]) (fun b _ σ K => LOt Ty (kps 63) 2 b σ K []) 63 Try.f63.ntmps Try.f63.results.toList (bd Try.f63) (qjP.enc x).1 (qjP.enc x).2 (qj FS.dec qpy) := by kernel_rfl
theorem qEd : ∀ k, qh (call cf k) (qtA k)
 | 0 => fun x y e => absurd (show (none : Option _) = some y from e) (by simp)
 | k + 1 => qe (c := cf) (k := k) (f := 63) (fn := Try.f63) (body := bd Try.f63) (sh := qjP) (os := qpy) rfl Try.func63 rfl ⟨rfl, Nat.le_of_ble_eq_true rfl⟩ (qd (qEa k)) (qEb k) (fun x => qcy (k + 1) x.1 x.2.1 x.2.2.1 x.2.2.2.1 x.2.2.2.2.1 x.2.2.2.2.2.1 x.2.2.2.2.2.2.1 x.2.2.2.2.2.2.2) (qEc k)

def qcz (k : Nat) (rec : List Int → Int → Int → Option ((Bool) ⊕ (Unit))) (x : List Int) (x1 : Int) (x2 : Int) : Option ((Bool) ⊕ (Unit)) :=
 if ((decide (x2 < x1)) = true) then
 if ((0 : Int) ≤ x2) then
 Option.bind (x)[(Int.toNat x2)]? fun x3 =>
 if ((decide (x3 ≥ (97 : Int))) = true) then
 if ((decide (x3 ≤ (122 : Int))) = false) then
 if ((decide (x3 ≥ (48 : Int))) = true) then
 if ((decide (x3 ≤ (57 : Int))) = false) then
 if ((!(x3 == (95 : Int))) = true) then
 (some (Sum.inl false))
 else
 rec x x1 (IntKind.wrap .i64 (x2 + (1 : Int)))
 else
 rec x x1 (IntKind.wrap .i64 (x2 + (1 : Int)))
 else
 if ((!(x3 == (95 : Int))) = true) then
 (some (Sum.inl false))
 else
 rec x x1 (IntKind.wrap .i64 (x2 + (1 : Int)))
 else
 rec x x1 (IntKind.wrap .i64 (x2 + (1 : Int)))
 else
 if ((decide (x3 ≥ (48 : Int))) = true) then
 if ((decide (x3 ≤ (57 : Int))) = false) then
 if ((!(x3 == (95 : Int))) = true) then
 (some (Sum.inl false))
 else
 rec x x1 (IntKind.wrap .i64 (x2 + (1 : Int)))
 else
 rec x x1 (IntKind.wrap .i64 (x2 + (1 : Int)))
 else
 if ((!(x3 == (95 : Int))) = true) then
 (some (Sum.inl false))
 else
 rec x x1 (IntKind.wrap .i64 (x2 + (1 : Int)))
 else
 none
 else
 (some (Sum.inr ()))
def qaF (k n : Nat) : List Int → Int → Int → Option ((Bool) ⊕ (Unit)) := Nat.rec (fun _ _ _ => none) (fun _ r => qcz k r) n
def qgH (k : Nat) (s : ByteArray) : Option (Bool) :=
 if ((decide ((((ByteArray.size s) : Nat) : Int) < (1 : Int))) = false) then
 if ((decide ((((ByteArray.size s) : Nat) : Int) > (16 : Int))) = true) then
 (some false)
 else
 Option.bind (qaF k k (List.map (fun b : UInt8 => ((UInt8.toNat b : Nat) : Int)) (Array.toList (ByteArray.data s))) (((List.length (List.map (fun b : UInt8 => ((UInt8.toNat b : Nat) : Int)) (Array.toList (ByteArray.data s)))) : Nat) : Int) (0 : Int)) fun r =>
 qc r
 (fun r =>
 (some r))
 (fun r =>
 (some true))
 else
 (some false)
def qdL : Nat → ByteArray → Option (Bool)
 | 0, _ => none
 | k + 1, s => qgH k s
def qjQ : FS := { vs := [.a (.lf .str)], bs := [] }
def qpz : List FS := [{ vs := [.a (.lf .bool)], bs := [] }]
def qn8 (k : Nat) : Inst := ⟨77, qjQ, qpz, fun x => qdL k x⟩
theorem qxb (k : Nat) : qn (call cf k) [] := True.intro
def qin : List SS := [{ fr := [(14, .a (.lf (.sl (.int .u8)))), (15, .a (.lf (.int .i64))), (16, .a (.lf (.int .i64)))], mem := [], nx := 0 }]
def qmI : List OS := [⟨none, { fr := [(2, .a (.lf .bool))], mem := [], nx := 0 }⟩, ⟨some 0, { fr := [], mem := [], nx := 0 }⟩]
def qmJ (k : Nat) : LInst := ⟨0, qin, qmI, fun x => qaF k k x.1 x.2.1 x.2.2⟩
theorem qAh (k : Nat) : qf (LOk (R := DS OS.D qmI) (fun b _ σ K => LOt Ty (kps 77) 0 b σ K []) cf (call cf k) (kps 77) Try.f77.ntmps k 0) 0 (lb Try.f77 0) :=
 qA qT (qA (qA qT qT) (qA (qA qT (qA qT (qA (qA qT qT) qT))) qT))
theorem qAi (k n : Nat) (x : DS SS.D qin) : qaF k (n + 1) x.1 x.2.1 x.2.2 = qE SS.enc (fun σ => qF cf (fun f a b K => COt f a b K []) (fun b _ σ K => LOt Ty (kps 77) 0 b σ K []) Try.f77.ntmps 0 (lb Try.f77 0) σ (qJ Ty (kps 77 0) 0 qin qmI fun x => qaF k n x.1 x.2.1 x.2.2)) qin x := by kernel_rfl
theorem qAj (k : Nat) : qac cf (call cf k) (kps 77) Try.f77.ntmps k 0 0 (lb Try.f77 0) (qmJ k) :=
 qr (c := cf) (callF := call cf k) (kp := kps 77) (nt := Try.f77.ntmps) (k := k) (p := 0) (b := 0) (x0 := lb Try.f77 0) (hs := qin) (os := qmI) (qd (qxb k)) (qAh k) (fun n x => qaF k n x.1 x.2.1 x.2.2) (fun _ => rfl) (qAi k)
theorem qEe (k : Nat) : qf (LOk (R := DS FS.D qpz) (fun b _ σ K => LOt Ty (kps 77) 0 b σ K [qmJ k]) cf (call cf k) (cf.keep 77) Try.f77.ntmps k qjQ.bs.length) 0 (bd Try.f77) :=
 qA qT (qA (qA qT (qA (qA qT qT) qT)) (qA (qA qT (qz (c := cf) (callF := call cf k) (kp := kps 77) (nt := Try.f77.ntmps) (k := k) (p := 0) (b := 0) (x0 := lb Try.f77 0) (l := [qmJ k]) (qA (fun _ => qAj k) qT))) (qA qT qT)))
theorem qEf (k : Nat) (x : qjQ.D) : qdL (k + 1) x = qi cf (fun f a b K => COt f a b K []) (fun b _ σ K => LOt Ty (kps 77) 0 b σ K [qmJ k]) 77 Try.f77.ntmps Try.f77.results.toList (bd Try.f77) (qjQ.enc x).1 (qjQ.enc x).2 (qj FS.dec qpz) := by kernel_rfl
theorem qEg : ∀ k, qh (call cf k) (qn8 k)
 | 0 => fun x y e => absurd (show (none : Option _) = some y from e) (by simp)
 | k + 1 => qe (c := cf) (k := k) (f := 77) (fn := Try.f77) (body := bd Try.f77) (sh := qjQ) (os := qpz) rfl Try.func77 rfl ⟨rfl, Nat.le_of_ble_eq_true rfl⟩ (qd (qxb k)) (qEe k) (fun x => qdL (k + 1) x) (qEf k)

def qlj (k : Nat) (z0 : Bool) (z1 : List Int) (z2 : Bool) (z3 : List Int) (y0 : Bool) (y1 : List Int) (y2 : Bool) (y3 : List Int) : Option (Int × Bool × List Int × Bool × List Int × Bool × List Int × Bool × List Int) :=
 Option.bind (qo k y0 y1 y2 y3) fun r6 =>
 Option.bind (qan k false z0 z1 z2 z3 r6.2.2.2.2.1 r6.2.2.2.2.2) fun r7 =>
 Option.bind (qo k r7.2.2.1 r7.2.2.2.1 r7.2.2.2.2.1 r7.2.2.2.2.2.1) fun r8 =>
 Option.bind (qan k false r6.1 r6.2.1 r6.2.2.1 r6.2.2.2.1 r8.2.2.2.2.1 r8.2.2.2.2.2) fun r9 =>
 Option.bind (qcv k r7.1 r7.2.1 r9.1 r9.2.1) fun r10 =>
 (some (r10.1, r8.1, r8.2.1, r8.2.2.1, r8.2.2.2.1, r9.2.2.1, r9.2.2.2.1, r9.2.2.2.2.1, r9.2.2.2.2.2.1))
def qaA : Nat → Bool → List Int → Bool → List Int → Bool → List Int → Bool → List Int → Option (Int × Bool × List Int × Bool × List Int × Bool × List Int × Bool × List Int)
 | 0, _, _, _, _, _, _, _, _ => none
 | k + 1, z0, z1, z2, z3, y0, y1, y2, y3 => qlj k z0 z1 z2 z3 y0 y1 y2 y3
def qjR : FS := { vs := [.a (.ptr 0 0 0), .a (.ptr 1 0 0)], bs := [.raw [[.lf .bool, .lf (.sl (.int .u32)), .lf .bool, .lf (.sl (.int .u32))]] 4 100 true false, .raw [[.lf .bool, .lf (.sl (.int .u32)), .lf .bool, .lf (.sl (.int .u32))]] 4 100 true false] }
def qpA : List FS := [{ vs := [.a (.lf (.int .i64))], bs := [.raw [[.lf .bool, .lf (.sl (.int .u32)), .lf .bool, .lf (.sl (.int .u32))]] 4 100 true false, .raw [[.lf .bool, .lf (.sl (.int .u32)), .lf .bool, .lf (.sl (.int .u32))]] 4 100 true false] }]
def qlk (k : Nat) : Inst := ⟨47, qjR, qpA, fun x => qaA k x.1 x.2.1 x.2.2.1 x.2.2.2.1 x.2.2.2.2.1 x.2.2.2.2.2.1 x.2.2.2.2.2.2.1 x.2.2.2.2.2.2.2⟩
theorem qEh (k : Nat) : qn (call cf k) [qea k, Iq7 k, Iq3 k] := qA (qgv k) (qA (qty k) (qA (qHo k) qT))
theorem qEi (k : Nat) : qf (LOk (R := DS FS.D qpA) (fun b _ σ K => LOt Ty (kps 47) 2 b σ K []) cf (call cf k) (cf.keep 47) Try.f47.ntmps k qjR.bs.length) 0 (bd Try.f47) :=
 qA qT (qA qT (qA qT (qA qT (qA qT qT))))
theorem qEj (k : Nat) (x : qjR.D) : qaA (k + 1) x.1 x.2.1 x.2.2.1 x.2.2.2.1 x.2.2.2.2.1 x.2.2.2.2.2.1 x.2.2.2.2.2.2.1 x.2.2.2.2.2.2.2 = qi cf (fun f a b K => COt f a b K [qea k, Iq7 k, Iq3 k]) (fun b _ σ K => LOt Ty (kps 47) 2 b σ K []) 47 Try.f47.ntmps Try.f47.results.toList (bd Try.f47) (qjR.enc x).1 (qjR.enc x).2 (qj FS.dec qpA) := by kernel_rfl
theorem qtB : ∀ k, qh (call cf k) (qlk k)
 | 0 => fun x y e => absurd (show (none : Option _) = some y from e) (by simp)
 | k + 1 => qe (c := cf) (k := k) (f := 47) (fn := Try.f47) (body := bd Try.f47) (sh := qjR) (os := qpA) rfl Try.func47 rfl ⟨rfl, Nat.le_of_ble_eq_true rfl⟩ (qd (qEh k)) (qEi k) (fun x => qaA (k + 1) x.1 x.2.1 x.2.2.1 x.2.2.2.1 x.2.2.2.2.1 x.2.2.2.2.2.1 x.2.2.2.2.2.2.1 x.2.2.2.2.2.2.2) (qEj k)

def qll (k : Nat) (a0 : Int) (a1 : Int) (b0 : Int) (b1 : Int) : Option (Int × Int) :=
 Option.bind (qc3 k a0 a1) fun r2 =>
 if ((!r2) = false) then
 Option.bind (qc3 k b0 b1) fun r3 =>
 if ((!r3) = true) then
 (some ((0 : Int), (30 : Int)))
 else
 Option.bind (qdk k a0 a1) fun r4 =>
 Option.bind (qdk k b0 b1) fun r5 =>
 Option.bind (qaA k r4.1 r4.2.1 r4.2.2.1 r4.2.2.2 r5.1 r5.2.1 r5.2.2.1 r5.2.2.2) fun r6 =>
 (some (r6.1, (0 : Int)))
 else
 (some ((0 : Int), (30 : Int)))
def qeP : Nat → Int → Int → Int → Int → Option (Int × Int)
 | 0, _, _, _, _ => none
 | k + 1, a0, a1, b0, b1 => qll k a0 a1 b0 b1
def qjS : FS := { vs := [.g [.lf (.int .i64), .lf (.int .i64)], .g [.lf (.int .i64), .lf (.int .i64)]], bs := [] }
def qpB : List FS := [{ vs := [.a (.lf (.int .i64)), .a (.lf (.int .i64))], bs := [] }]
def qn9 (k : Nat) : Inst := ⟨30, qjS, qpB, fun x => qeP k x.1 x.2.1 x.2.2.1 x.2.2.2⟩
theorem qEk (k : Nat) : qn (call cf k) [qgF k, qq5 k, qlk k] := qA (qti k) (qA (qw4 k) (qA (qtB k) qT))
theorem qEl (k : Nat) : qf (LOk (R := DS FS.D qpB) (fun b _ σ K => LOt Ty (kps 30) 0 b σ K []) cf (call cf k) (cf.keep 30) Try.f30.ntmps k qjS.bs.length) 0 (bd Try.f30) :=
 qA qT (qA (qA qT (qA (qA qT qT) qT)) (qA qT qT))
theorem qEm (k : Nat) (x : qjS.D) : qeP (k + 1) x.1 x.2.1 x.2.2.1 x.2.2.2 = qi cf (fun f a b K => COt f a b K [qgF k, qq5 k, qlk k]) (fun b _ σ K => LOt Ty (kps 30) 0 b σ K []) 30 Try.f30.ntmps Try.f30.results.toList (bd Try.f30) (qjS.enc x).1 (qjS.enc x).2 (qj FS.dec qpB) := by kernel_rfl
theorem qEn : ∀ k, qh (call cf k) (qn9 k)
 | 0 => fun x y e => absurd (show (none : Option _) = some y from e) (by simp)
 | k + 1 => qe (c := cf) (k := k) (f := 30) (fn := Try.f30) (body := bd Try.f30) (sh := qjS) (os := qpB) rfl Try.func30 rfl ⟨rfl, Nat.le_of_ble_eq_true rfl⟩ (qd (qEk k)) (qEl k) (fun x => qeP (k + 1) x.1 x.2.1 x.2.2.1 x.2.2.2) (qEm k)

def qcc (k : Nat) (rec : List (Int × Int) → List (Int × Int) → Int → List (Int × Int) → Int → Int → ByteArray → Int → List (Int × Int) → List (Int × Int) → Option ((Bool × ByteArray × Int × List (Int × Int) × List (Int × Int) × Int × Int) ⊕ (List (Int × Int) × List (Int × Int) × Int × ByteArray × Int × List (Int × Int) × List (Int × Int)))) (x0 : List (Int × Int)) (x1 : List (Int × Int)) (x : Int) (x2 : List (Int × Int)) (x3 : Int) (x4 : Int) (m0 : ByteArray) (m1 : Int) (m2 : List (Int × Int)) (m3 : List (Int × Int)) : Option ((Bool × ByteArray × Int × List (Int × Int) × List (Int × Int) × Int × Int) ⊕ (List (Int × Int) × List (Int × Int) × Int × ByteArray × Int × List (Int × Int) × List (Int × Int))) :=
 if ((decide (x4 < x3)) = true) then
 if ((0 : Int) ≤ x4) then
 Option.bind (x2)[(Int.toNat x4)]? fun x5 =>
 Option.bind (qc3 k x5.1 x5.2) fun r1 =>
 if ((!r1) = true) then
 (some (Sum.inl (false, m0, m1, m2, m3, x5.1, x5.2)))
 else
 rec x0 x1 x x2 x3 (IntKind.wrap .i64 (x4 + (1 : Int))) m0 m1 m2 m3
 else
 none
 else
 (some (Sum.inr (x0, x1, x, m0, m1, m2, m3)))
def qah (k n : Nat) : List (Int × Int) → List (Int × Int) → Int → List (Int × Int) → Int → Int → ByteArray → Int → List (Int × Int) → List (Int × Int) → Option ((Bool × ByteArray × Int × List (Int × Int) × List (Int × Int) × Int × Int) ⊕ (List (Int × Int) × List (Int × Int) × Int × ByteArray × Int × List (Int × Int) × List (Int × Int))) := Nat.rec (fun _ _ _ _ _ _ _ _ _ _ => none) (fun _ r => qcc k r) n
def qcT (k : Nat) (rec : List (Int × Int) → List (Int × Int) → Int → ByteArray → Int → List (Int × Int) → List (Int × Int) → Option ((Bool × ByteArray × Int × List (Int × Int) × List (Int × Int) × Int × Int) ⊕ (ByteArray × Int × List (Int × Int) × List (Int × Int)))) (x0 : List (Int × Int)) (x1 : List (Int × Int)) (x : Int) (m0 : ByteArray) (m1 : Int) (m2 : List (Int × Int)) (m3 : List (Int × Int)) : Option ((Bool × ByteArray × Int × List (Int × Int) × List (Int × Int) × Int × Int) ⊕ (ByteArray × Int × List (Int × Int) × List (Int × Int))) :=
 if ((decide (x < (2 : Int))) = true) then
 if (x = (0 : Int)) then
 Option.bind (qah k k x0 x1 x x0 (((List.length x0) : Nat) : Int) (0 : Int) m0 m1 m2 m3) fun r1 =>
 qc r1
 (fun r1 =>
 (some (Sum.inl (r1.1, r1.2.1, r1.2.2.1, r1.2.2.2.1, r1.2.2.2.2.1, r1.2.2.2.2.2.1, r1.2.2.2.2.2.2))))
 (fun r1 =>
 rec r1.1 r1.2.1 (IntKind.wrap .i64 (r1.2.2.1 + (1 : Int))) r1.2.2.2.1 r1.2.2.2.2.1 r1.2.2.2.2.2.1 r1.2.2.2.2.2.2)
 else
 if ((x - (1 : Int)) = (0 : Int)) then
 Option.bind (qah k k x0 x1 x x1 (((List.length x1) : Nat) : Int) (0 : Int) m0 m1 m2 m3) fun r1 =>
 qc r1
 (fun r1 =>
 (some (Sum.inl (r1.1, r1.2.1, r1.2.2.1, r1.2.2.2.1, r1.2.2.2.2.1, r1.2.2.2.2.2.1, r1.2.2.2.2.2.2))))
 (fun r1 =>
 rec r1.1 r1.2.1 (IntKind.wrap .i64 (r1.2.2.1 + (1 : Int))) r1.2.2.2.1 r1.2.2.2.2.1 r1.2.2.2.2.2.1 r1.2.2.2.2.2.2)
 else
 none
 else
 (some (Sum.inr (m0, m1, m2, m3)))
def qaa (k n : Nat) : List (Int × Int) → List (Int × Int) → Int → ByteArray → Int → List (Int × Int) → List (Int × Int) → Option ((Bool × ByteArray × Int × List (Int × Int) × List (Int × Int) × Int × Int) ⊕ (ByteArray × Int × List (Int × Int) × List (Int × Int))) := Nat.rec (fun _ _ _ _ _ _ _ => none) (fun _ r => qcT k r) n
def qa9 (k : Nat) (rec : Int → ByteArray → Int → List (Int × Int) → List (Int × Int) → Option ((Bool × ByteArray × Int × List (Int × Int) × List (Int × Int)) ⊕ (ByteArray × Int × List (Int × Int) × List (Int × Int)))) (i : Int) (m0 : ByteArray) (m1 : Int) (m2 : List (Int × Int)) (m3 : List (Int × Int)) : Option ((Bool × ByteArray × Int × List (Int × Int) × List (Int × Int)) ⊕ (ByteArray × Int × List (Int × Int) × List (Int × Int))) :=
 if ((decide (i < (((List.length m3) : Nat) : Int))) = true) then
 if ((0 : Int) ≤ (IntKind.wrap .i64 (i - (1 : Int)))) then
 Option.bind (m3)[(Int.toNat (IntKind.wrap .i64 (i - (1 : Int))))]? fun x =>
 if ((0 : Int) ≤ i) then
 Option.bind (m3)[(Int.toNat i)]? fun x1 =>
 Option.bind (qeP k x.1 x.2 x1.1 x1.2) fun r2 =>
 if ((decide (r2.1 ≥ (0 : Int))) = true) then
 (some (Sum.inl (false, m0, m1, m2, m3)))
 else
 rec (IntKind.wrap .i64 (i + (1 : Int))) m0 m1 m2 m3
 else
 none
 else
 none
 else
 (some (Sum.inr (m0, m1, m2, m3)))
def qR (k n : Nat) : Int → ByteArray → Int → List (Int × Int) → List (Int × Int) → Option ((Bool × ByteArray × Int × List (Int × Int) × List (Int × Int)) ⊕ (ByteArray × Int × List (Int × Int) × List (Int × Int))) := Nat.rec (fun _ _ _ _ _ => none) (fun _ r => qa9 k r) n
def qga (k : Nat) (m0 : ByteArray) (m1 : Int) (m2 : List (Int × Int)) (m3 : List (Int × Int)) : Option (Bool) :=
 Option.bind (qdL k m0) fun r =>
 if ((!r) = true) then
 (some false)
 else
 Option.bind (qaa k k m2 m3 (0 : Int) m0 m1 m2 m3) fun r1 =>
 qc r1
 (fun r1 =>
 (some r1.1))
 (fun r1 =>
 if ((r1.2.1 == (115 : Int)) = true) then
 if (((((List.length r1.2.2.1) : Nat) : Int) == (2 : Int)) = true) then
 (some ((((List.length r1.2.2.2) : Nat) : Int) == (1 : Int)))
 else
 (some false)
 else
 if ((r1.2.1 == (100 : Int)) = true) then
 if ((decide ((((List.length r1.2.2.1) : Nat) : Int) < (1 : Int))) = false) then
 if ((decide ((((List.length r1.2.2.1) : Nat) : Int) > (4 : Int))) = false) then
 if (((((List.length r1.2.2.2) : Nat) : Int) != (IntKind.wrap .i64 ((((List.length r1.2.2.1) : Nat) : Int) - (1 : Int)))) = true) then
 (some false)
 else
 Option.bind (qR k k (1 : Int) r1.1 r1.2.1 r1.2.2.1 r1.2.2.2) fun r2 =>
 qc r2
 (fun r2 =>
 (some r2.1))
 (fun r2 =>
 (some true))
 else
 (some false)
 else
 (some false)
 else
 (some false))
def qcP : Nat → ByteArray → Int → List (Int × Int) → List (Int × Int) → Option (Bool)
 | 0, _, _, _, _ => none
 | k + 1, m0, m1, m2, m3 => qga k m0 m1 m2 m3
def qjT : FS := { vs := [.g [.lf .str, .lf (.int .u8), .lf (.sl (.pr (.int .i64) (.int .i64))), .lf (.sl (.pr (.int .i64) (.int .i64)))]], bs := [] }
def qpC : List FS := [{ vs := [.a (.lf .bool)], bs := [] }]
def qlm (k : Nat) : Inst := ⟨37, qjT, qpC, fun x => qcP k x.1 x.2.1 x.2.2.1 x.2.2.2⟩
theorem qpD (k : Nat) : qn (call cf k) [qn8 k, qgF k, qn9 k] := qA (qEg k) (qA (qti k) (qA (qEn k) qT))
def qio : List SS := [{ fr := [(1, .a (.ptr 0 0 0)), (18, .g [.lf (.sl (.pr (.int .i64) (.int .i64))), .lf (.sl (.pr (.int .i64) (.int .i64)))]), (19, .a (.lf (.int .i64))), (22, .a (.lf (.sl (.pr (.int .i64) (.int .i64))))), (23, .a (.lf (.int .i64))), (24, .a (.lf (.int .i64)))], mem := [(0, some (.raw [[.lf .str, .lf (.int .u8), .lf (.sl (.pr (.int .i64) (.int .i64))), .lf (.sl (.pr (.int .i64) (.int .i64)))]] 4 24 true false))], nx := 1 }]
def qmK : List OS := [⟨none, { fr := [(2, .a (.lf .bool))], mem := [(0, some (.raw [[.lf .str, .lf (.int .u8), .lf (.sl (.pr (.int .i64) (.int .i64))), .lf (.sl (.pr (.int .i64) (.int .i64)))]] 4 24 true false)), (1, some (.raw [[.lf (.int .i64), .lf (.int .i64)]] 2 49 true false))], nx := 2 }⟩, ⟨some 2, { fr := [(1, .a (.ptr 0 0 0)), (18, .g [.lf (.sl (.pr (.int .i64) (.int .i64))), .lf (.sl (.pr (.int .i64) (.int .i64)))]), (19, .a (.lf (.int .i64)))], mem := [(0, some (.raw [[.lf .str, .lf (.int .u8), .lf (.sl (.pr (.int .i64) (.int .i64))), .lf (.sl (.pr (.int .i64) (.int .i64)))]] 4 24 true false))], nx := 1 }⟩]
def qeB (k : Nat) : LInst := ⟨2, qio, qmK, fun x => qah k k x.1 x.2.1 x.2.2.1 x.2.2.2.1 x.2.2.2.2.1 x.2.2.2.2.2.1 x.2.2.2.2.2.2.1 x.2.2.2.2.2.2.2.1 x.2.2.2.2.2.2.2.2.1 x.2.2.2.2.2.2.2.2.2⟩
theorem qAk (k : Nat) : qf (LOk (R := DS OS.D qmK) (fun b _ σ K => LOt Ty (kps 37) 0 b σ K []) cf (call cf k) (kps 37) Try.f37.ntmps k 0) 2 (lb Try.f37 1) :=
 qA qT (qA (qA qT qT) (qA (qA qT (qA qT (qA (qA qT qT) qT))) qT))
theorem qAl (k n : Nat) (x : DS SS.D qio) : qah k (n + 1) x.1 x.2.1 x.2.2.1 x.2.2.2.1 x.2.2.2.2.1 x.2.2.2.2.2.1 x.2.2.2.2.2.2.1 x.2.2.2.2.2.2.2.1 x.2.2.2.2.2.2.2.2.1 x.2.2.2.2.2.2.2.2.2 = qE SS.enc (fun σ => qF cf (fun f a b K => COt f a b K [qn8 k, qgF k, qn9 k]) (fun b _ σ K => LOt Ty (kps 37) 0 b σ K []) Try.f37.ntmps 2 (lb Try.f37 1) σ (qJ Ty (kps 37 2) 0 qio qmK fun x => qah k n x.1 x.2.1 x.2.2.1 x.2.2.2.1 x.2.2.2.2.1 x.2.2.2.2.2.1 x.2.2.2.2.2.2.1 x.2.2.2.2.2.2.2.1 x.2.2.2.2.2.2.2.2.1 x.2.2.2.2.2.2.2.2.2)) qio x := by kernel_rfl
theorem qAm (k : Nat) : qac cf (call cf k) (kps 37) Try.f37.ntmps k 0 2 (lb Try.f37 1) (qeB k) :=
 qr (c := cf) (callF := call cf k) (kp := kps 37) (nt := Try.f37.ntmps) (k := k) (p := 0) (b := 2) (x0 := lb Try.f37 1) (hs := qio) (os := qmK) (qd (qpD k)) (qAk k) (fun n x => qah k n x.1 x.2.1 x.2.2.1 x.2.2.2.1 x.2.2.2.2.1 x.2.2.2.2.2.1 x.2.2.2.2.2.2.1 x.2.2.2.2.2.2.2.1 x.2.2.2.2.2.2.2.2.1 x.2.2.2.2.2.2.2.2.2) (fun _ => rfl) (qAl k)
def qip : List SS := [{ fr := [(1, .a (.ptr 0 0 0)), (18, .g [.lf (.sl (.pr (.int .i64) (.int .i64))), .lf (.sl (.pr (.int .i64) (.int .i64)))]), (19, .a (.lf (.int .i64)))], mem := [(0, some (.raw [[.lf .str, .lf (.int .u8), .lf (.sl (.pr (.int .i64) (.int .i64))), .lf (.sl (.pr (.int .i64) (.int .i64)))]] 4 24 true false))], nx := 1 }]
def qmL : List OS := [⟨none, { fr := [(2, .a (.lf .bool))], mem := [(0, some (.raw [[.lf .str, .lf (.int .u8), .lf (.sl (.pr (.int .i64) (.int .i64))), .lf (.sl (.pr (.int .i64) (.int .i64)))]] 4 24 true false)), (1, some (.raw [[.lf (.int .i64), .lf (.int .i64)]] 2 49 true false))], nx := 2 }⟩, ⟨some 0, { fr := [(1, .a (.ptr 0 0 0))], mem := [(0, some (.raw [[.lf .str, .lf (.int .u8), .lf (.sl (.pr (.int .i64) (.int .i64))), .lf (.sl (.pr (.int .i64) (.int .i64)))]] 4 24 true false))], nx := 1 }⟩]
def qgb (k : Nat) : LInst := ⟨0, qip, qmL, fun x => qaa k k x.1 x.2.1 x.2.2.1 x.2.2.2.1 x.2.2.2.2.1 x.2.2.2.2.2.1 x.2.2.2.2.2.2⟩
theorem qAn (k : Nat) : qf (LOk (R := DS OS.D qmL) (fun b _ σ K => LOt Ty (kps 37) 0 b σ K [qeB k]) cf (call cf k) (kps 37) Try.f37.ntmps k 0) 0 (lb Try.f37 0) :=
 qA qT (qA (qA qT qT) (qA (qA qT (qA qT (qz (c := cf) (callF := call cf k) (kp := kps 37) (nt := Try.f37.ntmps) (k := k) (p := 0) (b := 2) (x0 := lb Try.f37 1) (l := [qeB k]) (qA (fun _ => qAm k) qT)))) qT))
theorem qAo (k n : Nat) (x : DS SS.D qip) : qaa k (n + 1) x.1 x.2.1 x.2.2.1 x.2.2.2.1 x.2.2.2.2.1 x.2.2.2.2.2.1 x.2.2.2.2.2.2 = qE SS.enc (fun σ => qF cf (fun f a b K => COt f a b K [qn8 k, qgF k, qn9 k]) (fun b _ σ K => LOt Ty (kps 37) 0 b σ K [qeB k]) Try.f37.ntmps 0 (lb Try.f37 0) σ (qJ Ty (kps 37 0) 0 qip qmL fun x => qaa k n x.1 x.2.1 x.2.2.1 x.2.2.2.1 x.2.2.2.2.1 x.2.2.2.2.2.1 x.2.2.2.2.2.2)) qip x := by kernel_rfl
theorem qAp (k : Nat) : qac cf (call cf k) (kps 37) Try.f37.ntmps k 0 0 (lb Try.f37 0) (qgb k) :=
 qr (c := cf) (callF := call cf k) (kp := kps 37) (nt := Try.f37.ntmps) (k := k) (p := 0) (b := 0) (x0 := lb Try.f37 0) (hs := qip) (os := qmL) (qd (qpD k)) (qAn k) (fun n x => qaa k n x.1 x.2.1 x.2.2.1 x.2.2.2.1 x.2.2.2.2.1 x.2.2.2.2.2.1 x.2.2.2.2.2.2) (fun _ => rfl) (qAo k)
def qiq : List SS := [{ fr := [(1, .a (.ptr 0 0 0)), (7, .a (.lf (.int .i64)))], mem := [(0, some (.raw [[.lf .str, .lf (.int .u8), .lf (.sl (.pr (.int .i64) (.int .i64))), .lf (.sl (.pr (.int .i64) (.int .i64)))]] 4 24 true false))], nx := 1 }]
def qmM : List OS := [⟨none, { fr := [(2, .a (.lf .bool))], mem := [(0, some (.raw [[.lf .str, .lf (.int .u8), .lf (.sl (.pr (.int .i64) (.int .i64))), .lf (.sl (.pr (.int .i64) (.int .i64)))]] 4 24 true false))], nx := 1 }⟩, ⟨some 5, { fr := [], mem := [(0, some (.raw [[.lf .str, .lf (.int .u8), .lf (.sl (.pr (.int .i64) (.int .i64))), .lf (.sl (.pr (.int .i64) (.int .i64)))]] 4 24 true false))], nx := 1 }⟩]
def qir (k : Nat) : LInst := ⟨5, qiq, qmM, fun x => qR k k x.1 x.2.1 x.2.2.1 x.2.2.2.1 x.2.2.2.2⟩
theorem qAq (k : Nat) : qf (LOk (R := DS OS.D qmM) (fun b _ σ K => LOt Ty (kps 37) 0 b σ K [qeB k, qgb k]) cf (call cf k) (kps 37) Try.f37.ntmps k 0) 5 (lb Try.f37 2) :=
 qA (qA qT (qA qT qT)) (qA (qA qT (qA qT (qA (qA qT qT) qT))) qT)
theorem qAr (k n : Nat) (x : DS SS.D qiq) : qR k (n + 1) x.1 x.2.1 x.2.2.1 x.2.2.2.1 x.2.2.2.2 = qE SS.enc (fun σ => qF cf (fun f a b K => COt f a b K [qn8 k, qgF k, qn9 k]) (fun b _ σ K => LOt Ty (kps 37) 0 b σ K [qeB k, qgb k]) Try.f37.ntmps 5 (lb Try.f37 2) σ (qJ Ty (kps 37 5) 0 qiq qmM fun x => qR k n x.1 x.2.1 x.2.2.1 x.2.2.2.1 x.2.2.2.2)) qiq x := by kernel_rfl
theorem qAs (k : Nat) : qac cf (call cf k) (kps 37) Try.f37.ntmps k 0 5 (lb Try.f37 2) (qir k) :=
 qr (c := cf) (callF := call cf k) (kp := kps 37) (nt := Try.f37.ntmps) (k := k) (p := 0) (b := 5) (x0 := lb Try.f37 2) (hs := qiq) (os := qmM) (qd (qpD k)) (qAq k) (fun n x => qR k n x.1 x.2.1 x.2.2.1 x.2.2.2.1 x.2.2.2.2) (fun _ => rfl) (qAr k)
theorem qEo (k : Nat) : qf (LOk (R := DS FS.D qpC) (fun b _ σ K => LOt Ty (kps 37) 0 b σ K [qeB k, qgb k, qir k]) cf (call cf k) (cf.keep 37) Try.f37.ntmps k qjT.bs.length) 0 (bd Try.f37) :=
 qA qT (qA (qA qT (qA (qA qT qT) qT)) (qA (qA qT (qz (c := cf) (callF := call cf k) (kp := kps 37) (nt := Try.f37.ntmps) (k := k) (p := 0) (b := 0) (x0 := lb Try.f37 0) (l := [qeB k, qgb k, qir k]) (qA (fun h => absurd (show (2 : Nat) = 0 from h) (by decide)) (qA (fun _ => qAp k) (qA (fun h => absurd (show (5 : Nat) = 0 from h) (by decide)) qT))))) (qA (qA qT (qA qT (qA (qA qT qT) (qA qT (qA (qA (qA qT (qA (qA qT qT) qT)) (qA (qA qT (qz (c := cf) (callF := call cf k) (kp := kps 37) (nt := Try.f37.ntmps) (k := k) (p := 0) (b := 5) (x0 := lb Try.f37 2) (l := [qeB k, qgb k, qir k]) (qA (fun h => absurd (show (2 : Nat) = 5 from h) (by decide)) (qA (fun h => absurd (show (0 : Nat) = 5 from h) (by decide)) (qA (fun _ => qAs k) qT))))) (qA qT qT))) qT))))) (qA qT qT))))
theorem qEp (k : Nat) (x : qjT.D) : qcP (k + 1) x.1 x.2.1 x.2.2.1 x.2.2.2 = qi cf (fun f a b K => COt f a b K [qn8 k, qgF k, qn9 k]) (fun b _ σ K => LOt Ty (kps 37) 0 b σ K [qeB k, qgb k, qir k]) 37 Try.f37.ntmps Try.f37.results.toList (bd Try.f37) (qjT.enc x).1 (qjT.enc x).2 (qj FS.dec qpC) := by kernel_rfl
theorem qtC : ∀ k, qh (call cf k) (qlm k)
 | 0 => fun x y e => absurd (show (none : Option _) = some y from e) (by simp)
 | k + 1 => qe (c := cf) (k := k) (f := 37) (fn := Try.f37) (body := bd Try.f37) (sh := qjT) (os := qpC) rfl Try.func37 rfl ⟨rfl, Nat.le_of_ble_eq_true rfl⟩ (qd (qpD k)) (qEo k) (fun x => qcP (k + 1) x.1 x.2.1 x.2.2.1 x.2.2.2) (qEp k)

def qrb (k : Nat) (m0 : ByteArray) (m1 : Int) (m2 : List (Int × Int)) (m3 : List (Int × Int)) (k1 : Int) : Option (Int) :=
 Option.bind (qcP k m0 m1 m2 m3) fun r =>
 if ((!r) = true) then
 (some (50 : Int))
 else
 if ((decide (k1 < (0 : Int))) = false) then
 if ((decide (k1 ≥ (((List.length m2) : Nat) : Int))) = true) then
 (some (111 : Int))
 else
 (some (0 : Int))
 else
 (some (111 : Int))
def qc9 : Nat → ByteArray → Int → List (Int × Int) → List (Int × Int) → Int → Option (Int)
 | 0, _, _, _, _, _ => none
 | k + 1, m0, m1, m2, m3, k1 => qrb k m0 m1 m2 m3 k1
def qjU : FS := { vs := [.g [.lf .str, .lf (.int .u8), .lf (.sl (.pr (.int .i64) (.int .i64))), .lf (.sl (.pr (.int .i64) (.int .i64)))], .a (.lf (.int .i64))], bs := [] }
def qpE : List FS := [{ vs := [.a (.lf (.int .i64))], bs := [] }]
def qoa (k : Nat) : Inst := ⟨44, qjU, qpE, fun x => qc9 k x.1 x.2.1 x.2.2.1 x.2.2.2.1 x.2.2.2.2⟩
theorem qEq (k : Nat) : qn (call cf k) [qlm k] := qA (qtC k) qT
theorem qEr (k : Nat) : qf (LOk (R := DS FS.D qpE) (fun b _ σ K => LOt Ty (kps 44) 0 b σ K []) cf (call cf k) (cf.keep 44) Try.f44.ntmps k qjU.bs.length) 0 (bd Try.f44) :=
 qA qT (qA (qA qT (qA (qA qT qT) qT)) (qA (qA qT (qA (qA qT qT) qT)) (qA qT qT)))
theorem qEs (k : Nat) (x : qjU.D) : qc9 (k + 1) x.1 x.2.1 x.2.2.1 x.2.2.2.1 x.2.2.2.2 = qi cf (fun f a b K => COt f a b K [qlm k]) (fun b _ σ K => LOt Ty (kps 44) 0 b σ K []) 44 Try.f44.ntmps Try.f44.results.toList (bd Try.f44) (qjU.enc x).1 (qjU.enc x).2 (qj FS.dec qpE) := by kernel_rfl
theorem qxc : ∀ k, qh (call cf k) (qoa k)
 | 0 => fun x y e => absurd (show (none : Option _) = some y from e) (by simp)
 | k + 1 => qe (c := cf) (k := k) (f := 44) (fn := Try.f44) (body := bd Try.f44) (sh := qjU) (os := qpE) rfl Try.func44 rfl ⟨rfl, Nat.le_of_ble_eq_true rfl⟩ (qd (qEq k)) (qEr k) (fun x => qc9 (k + 1) x.1 x.2.1 x.2.2.1 x.2.2.2.1 x.2.2.2.2) (qEs k)

def qrc (k : Nat) (n0 : Int) (n1 : Int) : Option (Bool × List Int × Bool × List Int) :=
 Option.bind (qek k n0 n1) fun r1 =>
 Option.bind (qbf k r1.1 r1.2.1 r1.2.2.1 r1.2.2.2.1) fun r2 =>
 (some (r2.1, r2.2.1, r2.2.2.1, r2.2.2.2))
def qaH : Nat → Int → Int → Option (Bool × List Int × Bool × List Int)
 | 0, _, _ => none
 | k + 1, n0, n1 => qrc k n0 n1
def qjV : FS := { vs := [.g [.lf (.int .i64), .lf (.int .i64)]], bs := [] }
def qpF : List FS := [{ vs := [.a (.ptr 0 0 0)], bs := [.raw [[.lf .bool, .lf (.sl (.int .u32)), .lf .bool, .lf (.sl (.int .u32))]] 4 100 true false] }]
def qob (k : Nat) : Inst := ⟨62, qjV, qpF, fun x => qaH k x.1 x.2⟩
theorem qEt (k : Nat) : qn (call cf k) [qvU k, qfc k] := qA (qDp k) (qA (qid k) qT)
theorem qEu (k : Nat) : qf (LOk (R := DS FS.D qpF) (fun b _ σ K => LOt Ty (kps 62) 0 b σ K []) cf (call cf k) (cf.keep 62) Try.f62.ntmps k qjV.bs.length) 0 (bd Try.f62) :=
 qA qT (qA qT (qA qT qT))
theorem qEv (k : Nat) (x : qjV.D) : qaH (k + 1) x.1 x.2 = qi cf (fun f a b K => COt f a b K [qvU k, qfc k]) (fun b _ σ K => LOt Ty (kps 62) 0 b σ K []) 62 Try.f62.ntmps Try.f62.results.toList (bd Try.f62) (qjV.enc x).1 (qjV.enc x).2 (qj FS.dec qpF) := by kernel_rfl
theorem qxd : ∀ k, qh (call cf k) (qob k)
 | 0 => fun x y e => absurd (show (none : Option _) = some y from e) (by simp)
 | k + 1 => qe (c := cf) (k := k) (f := 62) (fn := Try.f62) (body := bd Try.f62) (sh := qjV) (os := qpF) rfl Try.func62 rfl ⟨rfl, Nat.le_of_ble_eq_true rfl⟩ (qd (qEt k)) (qEu k) (fun x => qaH (k + 1) x.1 x.2) (qEv k)

def qln (k : Nat) (z0 : Bool) (z1 : Bool) (x0 : Bool) (x1 : List Int) (x2 : Bool) (x3 : List Int) (y0 : Bool) (y1 : List Int) (y2 : Bool) (y3 : List Int) : Option (Bool × List Int × Bool × List Int × Bool × List Int × Bool × List Int × Bool × List Int × Bool × List Int) :=
 Option.bind (qbM k false x0 x1 x2 x3 y0 y1 y2 y3) fun r6 =>
 Option.bind (qo k r6.2.2.1 r6.2.2.2.1 r6.2.2.2.2.1 r6.2.2.2.2.2.1) fun r7 =>
 Option.bind (qo k r6.2.2.2.2.2.2.1 r6.2.2.2.2.2.2.2.1 r6.2.2.2.2.2.2.2.2.1 r6.2.2.2.2.2.2.2.2.2) fun r8 =>
 Option.bind (qam k false r7.2.2.2.2.1 r7.2.2.2.2.2 r8.2.2.2.2.1 r8.2.2.2.2.2) fun r9 =>
 Option.bind (qao k z0 z1 r6.1 r6.2.1 r9.1 r9.2.1) fun r10 =>
 (some (r10.1, r10.2.1, r10.2.2.1, r10.2.2.2.1, r7.1, r7.2.1, r7.2.2.1, r7.2.2.2.1, r8.1, r8.2.1, r8.2.2.1, r8.2.2.2.1))
def qbP : Nat → Bool → Bool → Bool → List Int → Bool → List Int → Bool → List Int → Bool → List Int → Option (Bool × List Int × Bool × List Int × Bool × List Int × Bool × List Int × Bool × List Int × Bool × List Int)
 | 0, _, _, _, _, _, _, _, _, _, _ => none
 | k + 1, z0, z1, x0, x1, x2, x3, y0, y1, y2, y3 => qln k z0 z1 x0 x1 x2 x3 y0 y1 y2 y3
def qjW : FS := { vs := [.a (.ptr 0 0 0), .a (.ptr 1 0 0), .a (.ptr 2 0 0)], bs := [.raw [[.lf .bool, .snil 1 72, .lf .bool, .snil 1 72]] 4 100 true false, .raw [[.lf .bool, .lf (.sl (.int .u32)), .lf .bool, .lf (.sl (.int .u32))]] 4 100 true false, .raw [[.lf .bool, .lf (.sl (.int .u32)), .lf .bool, .lf (.sl (.int .u32))]] 4 100 true false] }
def qpG : List FS := [{ vs := [.a (.ptr 0 0 0)], bs := [.raw [[.lf .bool, .lf (.sl (.int .u32)), .lf .bool, .lf (.sl (.int .u32))]] 4 100 true false, .raw [[.lf .bool, .lf (.sl (.int .u32)), .lf .bool, .lf (.sl (.int .u32))]] 4 100 true false, .raw [[.lf .bool, .lf (.sl (.int .u32)), .lf .bool, .lf (.sl (.int .u32))]] 4 100 true false] }]
def qrd (k : Nat) : Inst := ⟨54, qjW, qpG, fun x => qbP k x.1 x.2.1 x.2.2.1 x.2.2.2.1 x.2.2.2.2.1 x.2.2.2.2.2.1 x.2.2.2.2.2.2.1 x.2.2.2.2.2.2.2.1 x.2.2.2.2.2.2.2.2.1 x.2.2.2.2.2.2.2.2.2⟩
theorem qEw (k : Nat) : qn (call cf k) [Iq6 k, qea k, Iq4 k, qhw k] := qA (qzY k) (qA (qgv k) (qA (qq8 k) (qA (qpb k) qT)))
theorem qEx (k : Nat) : qf (LOk (R := DS FS.D qpG) (fun b _ σ K => LOt Ty (kps 54) 3 b σ K []) cf (call cf k) (cf.keep 54) Try.f54.ntmps k qjW.bs.length) 0 (bd Try.f54) :=
 qA qT (qA qT (qA qT (qA qT (qA qT qT))))
theorem qEy (k : Nat) (x : qjW.D) : qbP (k + 1) x.1 x.2.1 x.2.2.1 x.2.2.2.1 x.2.2.2.2.1 x.2.2.2.2.2.1 x.2.2.2.2.2.2.1 x.2.2.2.2.2.2.2.1 x.2.2.2.2.2.2.2.2.1 x.2.2.2.2.2.2.2.2.2 = qi cf (fun f a b K => COt f a b K [Iq6 k, qea k, Iq4 k, qhw k]) (fun b _ σ K => LOt Ty (kps 54) 3 b σ K []) 54 Try.f54.ntmps Try.f54.results.toList (bd Try.f54) (qjW.enc x).1 (qjW.enc x).2 (qj FS.dec qpG) := by kernel_rfl
theorem qxe : ∀ k, qh (call cf k) (qrd k)
 | 0 => fun x y e => absurd (show (none : Option _) = some y from e) (by simp)
 | k + 1 => qe (c := cf) (k := k) (f := 54) (fn := Try.f54) (body := bd Try.f54) (sh := qjW) (os := qpG) rfl Try.func54 rfl ⟨rfl, Nat.le_of_ble_eq_true rfl⟩ (qd (qEw k)) (qEx k) (fun x => qbP (k + 1) x.1 x.2.1 x.2.2.1 x.2.2.2.1 x.2.2.2.2.1 x.2.2.2.2.2.1 x.2.2.2.2.2.2.1 x.2.2.2.2.2.2.2.1 x.2.2.2.2.2.2.2.2.1 x.2.2.2.2.2.2.2.2.2) (qEy k)

def qrT (k : Nat) (m0 : ByteArray) (m1 : Int) (m2 : List (Int × Int)) (m3 : List (Int × Int)) (k1 : Int) : Option (Bool × List Int × Bool × List Int) :=
 if ((0 : Int) ≤ k1) then
 Option.bind (m3)[(Int.toNat k1)]? fun x5 =>
 Option.bind (qaH k x5.1 x5.2) fun r4 =>
 Option.bind (qdK k (1000000000 : Int) (1 : Int)) fun r5 =>
 Option.bind (qbP k false false r4.1 r4.2.1 r4.2.2.1 r4.2.2.2 r5.1 r5.2.1 r5.2.2.1 r5.2.2.2) fun r6 =>
 (some (r6.1, r6.2.1, r6.2.2.1, r6.2.2.2.1))
 else
 none
def qbv : Nat → ByteArray → Int → List (Int × Int) → List (Int × Int) → Int → Option (Bool × List Int × Bool × List Int)
 | 0, _, _, _, _, _ => none
 | k + 1, m0, m1, m2, m3, k1 => qrT k m0 m1 m2 m3 k1
def qjX : FS := { vs := [.g [.lf .str, .lf (.int .u8), .lf (.sl (.pr (.int .i64) (.int .i64))), .lf (.sl (.pr (.int .i64) (.int .i64)))], .a (.lf (.int .i64))], bs := [] }
def qpH : List FS := [{ vs := [.a (.ptr 0 0 0)], bs := [.raw [[.lf .bool, .lf (.sl (.int .u32)), .lf .bool, .lf (.sl (.int .u32))]] 4 100 true false] }]
def qoc (k : Nat) : Inst := ⟨48, qjX, qpH, fun x => qbv k x.1 x.2.1 x.2.2.1 x.2.2.2.1 x.2.2.2.2⟩
theorem qEz (k : Nat) : qn (call cf k) [qob k, qvV k, qrd k] := qA (qxd k) (qA (qDt k) (qA (qxe k) qT))
theorem qEA (k : Nat) : qf (LOk (R := DS FS.D qpH) (fun b _ σ K => LOt Ty (kps 48) 0 b σ K []) cf (call cf k) (cf.keep 48) Try.f48.ntmps k qjX.bs.length) 0 (bd Try.f48) :=
 qA qT (qA qT qT)
theorem qEB (k : Nat) (x : qjX.D) : qbv (k + 1) x.1 x.2.1 x.2.2.1 x.2.2.2.1 x.2.2.2.2 = qi cf (fun f a b K => COt f a b K [qob k, qvV k, qrd k]) (fun b _ σ K => LOt Ty (kps 48) 0 b σ K []) 48 Try.f48.ntmps Try.f48.results.toList (bd Try.f48) (qjX.enc x).1 (qjX.enc x).2 (qj FS.dec qpH) := by kernel_rfl
theorem qxf : ∀ k, qh (call cf k) (qoc k)
 | 0 => fun x y e => absurd (show (none : Option _) = some y from e) (by simp)
 | k + 1 => qe (c := cf) (k := k) (f := 48) (fn := Try.f48) (body := bd Try.f48) (sh := qjX) (os := qpH) rfl Try.func48 rfl ⟨rfl, Nat.le_of_ble_eq_true rfl⟩ (qd (qEz k)) (qEA k) (fun x => qbv (k + 1) x.1 x.2.1 x.2.2.1 x.2.2.2.1 x.2.2.2.2) (qEB k)

def qhI (k : Nat) (rec : Nat → Int → Int → Int → Nat → Int → Int → List Int → Int → Int → Bool → Bool → Bool → Bool → List Int → List Int → List Int → Option (Nat × Int × Int × Nat × Int × Int × Bool × Bool × Bool × Bool × List Int × List Int × List Int)) (out1 : Nat) (i : Int) (a : Int) (carry : Int) (x : Nat) (x1 : Int) (x2 : Int) (x3 : List Int) (x4 : Int) (x5 : Int) (z : Bool) (x0 : Bool) (x11 : Bool) (y0 : Bool) (y1 : List Int) (outs : List Int) (s : List Int) : Option (Nat × Int × Int × Nat × Int × Int × Bool × Bool × Bool × Bool × List Int × List Int × List Int) :=
 if ((decide (x5 < x4)) = true) then
 if ((0 : Int) ≤ x5) then
 Option.bind (x3)[(Int.toNat x5)]? fun x6 =>
 if (((0 : Int) ≤ (IntKind.wrap .i64 (i + x5))) ∧ ((IntKind.wrap .i64 (i + x5)) < ((out1 : Nat) : Int))) then
 Option.bind (outs)[(0 + (Int.toNat (IntKind.wrap .i64 (i + x5))))]? fun x7 =>
 if (((0 : Int) ≤ (IntKind.wrap .i64 (i + x5))) ∧ ((IntKind.wrap .i64 (i + x5)) < ((out1 : Nat) : Int))) then
 Option.bind (outs)[(0 + (Int.toNat (IntKind.wrap .i64 (i + x5))))]? fun x8 =>
 rec out1 i a (Int.fdiv (IntKind.wrap .u64 ((IntKind.wrap .u64 ((IntKind.wrap .u64 ((IntKind.wrap .u64 a) * (IntKind.wrap .u64 x6))) + (IntKind.wrap .u64 x7))) + carry)) (4294967296 : Int)) x x1 x2 x3 x4 (IntKind.wrap .i64 (x5 + (1 : Int))) z x0 x11 y0 y1 (List.set outs (0 + (Int.toNat (IntKind.wrap .i64 (i + x5)))) (IntKind.wrap .u32 (IntKind.wrap .u64 ((IntKind.wrap .u64 ((IntKind.wrap .u64 ((IntKind.wrap .u64 a) * (IntKind.wrap .u64 x6))) + (IntKind.wrap .u64 x7))) + carry)))) s
 else
 none
 else
 none
 else
 none
 else
 (some (out1, i, carry, x, x1, x2, z, x0, x11, y0, y1, outs, s))
def qcQ (k n : Nat) : Nat → Int → Int → Int → Nat → Int → Int → List Int → Int → Int → Bool → Bool → Bool → Bool → List Int → List Int → List Int → Option (Nat × Int × Int × Nat × Int × Int × Bool × Bool × Bool × Bool × List Int × List Int × List Int) := Nat.rec (fun _ _ _ _ _ _ _ _ _ _ _ _ _ _ _ _ _ => none) (fun _ r => qhI k r) n
def qdU (k : Nat) (rec : Nat → Nat → Int → Int → Bool → Bool → Bool → Bool → List Int → List Int → List Int → Option (Nat × Bool × Bool × Bool × Bool × List Int × List Int × List Int)) (out1 : Nat) (x : Nat) (x1 : Int) (x2 : Int) (z : Bool) (x0 : Bool) (x11 : Bool) (y0 : Bool) (y1 : List Int) (outs : List Int) (s : List Int) : Option (Nat × Bool × Bool × Bool × Bool × List Int × List Int × List Int) :=
 if ((decide (x2 < x1)) = true) then
 if (((0 : Int) ≤ x2) ∧ (x2 < ((x : Nat) : Int))) then
 Option.bind (s)[(0 + (Int.toNat x2))]? fun x5 =>
 Option.bind (qcQ k k out1 x2 x5 (0 : Int) x x1 x2 y1 (((List.length y1) : Nat) : Int) (0 : Int) z x0 x11 y0 y1 outs s) fun r7 =>
 if (((0 : Int) ≤ (IntKind.wrap .i64 (r7.2.1 + (((List.length r7.2.2.2.2.2.2.2.2.2.2.1) : Nat) : Int)))) ∧ ((IntKind.wrap .i64 (r7.2.1 + (((List.length r7.2.2.2.2.2.2.2.2.2.2.1) : Nat) : Int))) < ((r7.1 : Nat) : Int))) then
 Option.bind (r7.2.2.2.2.2.2.2.2.2.2.2.1)[(0 + (Int.toNat (IntKind.wrap .i64 (r7.2.1 + (((List.length r7.2.2.2.2.2.2.2.2.2.2.1) : Nat) : Int)))))]? fun x6 =>
 rec r7.1 r7.2.2.2.1 r7.2.2.2.2.1 (IntKind.wrap .i64 (r7.2.2.2.2.2.1 + (1 : Int))) r7.2.2.2.2.2.2.1 r7.2.2.2.2.2.2.2.1 r7.2.2.2.2.2.2.2.2.1 r7.2.2.2.2.2.2.2.2.2.1 r7.2.2.2.2.2.2.2.2.2.2.1 (List.set r7.2.2.2.2.2.2.2.2.2.2.2.1 (0 + (Int.toNat (IntKind.wrap .i64 (r7.2.1 + (((List.length r7.2.2.2.2.2.2.2.2.2.2.1) : Nat) : Int))))) (IntKind.wrap .u32 r7.2.2.1)) r7.2.2.2.2.2.2.2.2.2.2.2.2
 else
 none
 else
 none
 else
 (some (out1, z, x0, x11, y0, y1, outs, s))
def qaP (k n : Nat) : Nat → Nat → Int → Int → Bool → Bool → Bool → Bool → List Int → List Int → List Int → Option (Nat × Bool × Bool × Bool × Bool × List Int × List Int × List Int) := Nat.rec (fun _ _ _ _ _ _ _ _ _ _ _ => none) (fun _ r => qdU k r) n
def qeQ (k : Nat) (z : Bool) (x0 : Bool) (x1 : Bool) (y0 : Bool) (y1 : List Int) : Option (Bool × List Int × Bool × Bool × Bool × List Int) :=
 if (((0 : Int) ≤ (IntKind.wrap .i64 ((0 : Int) + (((List.length y1) : Nat) : Int)))) ∧ (((IntKind.wrap .i64 ((0 : Int) + (((List.length y1) : Nat) : Int))) ≤ (IntKind.wrap .i64 ((0 : Int) + (((List.length y1) : Nat) : Int)))) ∧ (((IntKind.wrap .i64 ((0 : Int) + (((List.length y1) : Nat) : Int))) * (4 : Int)) ≤ (140737488355328 : Int)))) then
 Option.bind (qaP k k (Int.toNat (IntKind.wrap .i64 ((0 : Int) + (((List.length y1) : Nat) : Int)))) 0 (0 : Int) (0 : Int) z x0 x1 y0 y1 (List.replicate (Int.toNat (IntKind.wrap .i64 ((0 : Int) + (((List.length y1) : Nat) : Int)))) (0 : Int)) []) fun r7 =>
 if ((0 + r7.1) ≤ (List.length r7.2.2.2.2.2.2.1)) then
 Option.bind (qal k (!(r7.2.2.1 == r7.2.2.2.2.1)) (List.take r7.1 r7.2.2.2.2.2.2.1) r7.2.1) fun r8 =>
 (some (r8.1, r8.2, r7.2.2.1, r7.2.2.2.1, r7.2.2.2.2.1, r7.2.2.2.2.2.1))
 else
 none
 else
 none
def qcA : Nat → Bool → Bool → Bool → Bool → List Int → Option (Bool × List Int × Bool × Bool × Bool × List Int)
 | 0, _, _, _, _, _ => none
 | k + 1, z, x0, x1, y0, y1 => qeQ k z x0 x1 y0 y1
def qod : FS := { vs := [.a (.ptr 0 0 0), .a (.ptr 1 0 0), .a (.ptr 2 0 0)], bs := [.raw [[.lf .bool, .snil 1 72]] 2 98 true false, .raw [[.lf .bool, .snil 1 72, .lf .bool, .snil 1 72]] 4 100 true false, .raw [[.lf .bool, .lf (.sl (.int .u32))]] 2 98 true false] }
def qtD : List FS := [{ vs := [.a (.ptr 0 0 0)], bs := [.raw [[.lf .bool, .lf (.sl (.int .u32))]] 2 98 true false, .raw [[.lf .bool, .snil 1 72, .lf .bool, .snil 1 72]] 4 100 true false, .raw [[.lf .bool, .lf (.sl (.int .u32))]] 2 98 true false] }]
def Iq8 (k : Nat) : Inst := ⟨84, qod, qtD, fun x => qcA k x.1 x.2.1 x.2.2.1 x.2.2.2.1 x.2.2.2.2⟩
theorem qv6 (k : Nat) : qn (call cf k) [qde k] := qA (qjr k) qT
def qis : List SS := [{ fr := [(0, .a (.ptr 0 0 0)), (1, .a (.ptr 1 0 0)), (2, .a (.ptr 2 0 0)), (7, .a (.smz 3)), (8, .a (.lf (.int .i64))), (9, .a (.lf (.int .u32))), (10, .a (.lf (.int .u64))), (29, .a (.smz 4)), (30, .a (.lf (.int .i64))), (31, .a (.lf (.int .i64))), (39, .a (.lf (.sl (.int .u32)))), (40, .a (.lf (.int .i64))), (41, .a (.lf (.int .i64)))], mem := [(0, some (.raw [[.lf .bool, .snil 1 72]] 2 98 true false)), (1, some (.raw [[.lf .bool, .snil 1 72, .lf .bool, .snil 1 72]] 4 100 true false)), (2, some (.raw [[.lf .bool, .lf (.sl (.int .u32))]] 2 98 true false)), (3, some (.arr (.int .u32) 1 72 false)), (4, some (.arr (.int .u32) 1 72 false))], nx := 5 }]
def qmN : List OS := [⟨some 2, { fr := [(0, .a (.ptr 0 0 0)), (1, .a (.ptr 1 0 0)), (2, .a (.ptr 2 0 0)), (7, .a (.smz 3)), (8, .a (.lf (.int .i64))), (10, .a (.lf (.int .u64))), (29, .a (.smz 4)), (30, .a (.lf (.int .i64))), (31, .a (.lf (.int .i64)))], mem := [(0, some (.raw [[.lf .bool, .snil 1 72]] 2 98 true false)), (1, some (.raw [[.lf .bool, .snil 1 72, .lf .bool, .snil 1 72]] 4 100 true false)), (2, some (.raw [[.lf .bool, .lf (.sl (.int .u32))]] 2 98 true false)), (3, some (.arr (.int .u32) 1 72 false)), (4, some (.arr (.int .u32) 1 72 false))], nx := 5 }⟩]
def qgc (k : Nat) : LInst := ⟨2, qis, qmN, fun x => qcQ k k x.1 x.2.1 x.2.2.1 x.2.2.2.1 x.2.2.2.2.1 x.2.2.2.2.2.1 x.2.2.2.2.2.2.1 x.2.2.2.2.2.2.2.1 x.2.2.2.2.2.2.2.2.1 x.2.2.2.2.2.2.2.2.2.1 x.2.2.2.2.2.2.2.2.2.2.1 x.2.2.2.2.2.2.2.2.2.2.2.1 x.2.2.2.2.2.2.2.2.2.2.2.2.1 x.2.2.2.2.2.2.2.2.2.2.2.2.2.1 x.2.2.2.2.2.2.2.2.2.2.2.2.2.2.1 x.2.2.2.2.2.2.2.2.2.2.2.2.2.2.2.1 x.2.2.2.2.2.2.2.2.2.2.2.2.2.2.2.2⟩
theorem qAt (k : Nat) : qf (LOk (R := DS OS.D qmN) (fun b _ σ K => LOt Ty (kps 84) 3 b σ K []) cf (call cf k) (kps 84) Try.f84.ntmps k 3) 2 (lb Try.f84 1) :=
 qA qT (qA (qA qT qT) (qA (qA qT (qA qT (qA qT qT))) qT))
theorem qAu (k n : Nat) (x : DS SS.D qis) : qcQ k (n + 1) x.1 x.2.1 x.2.2.1 x.2.2.2.1 x.2.2.2.2.1 x.2.2.2.2.2.1 x.2.2.2.2.2.2.1 x.2.2.2.2.2.2.2.1 x.2.2.2.2.2.2.2.2.1 x.2.2.2.2.2.2.2.2.2.1 x.2.2.2.2.2.2.2.2.2.2.1 x.2.2.2.2.2.2.2.2.2.2.2.1 x.2.2.2.2.2.2.2.2.2.2.2.2.1 x.2.2.2.2.2.2.2.2.2.2.2.2.2.1 x.2.2.2.2.2.2.2.2.2.2.2.2.2.2.1 x.2.2.2.2.2.2.2.2.2.2.2.2.2.2.2.1 x.2.2.2.2.2.2.2.2.2.2.2.2.2.2.2.2 = qE SS.enc (fun σ => qF cf (fun f a b K => COt f a b K [qde k]) (fun b _ σ K => LOt Ty (kps 84) 3 b σ K []) Try.f84.ntmps 2 (lb Try.f84 1) σ (qJ Ty (kps 84 2) 3 qis qmN fun x => qcQ k n x.1 x.2.1 x.2.2.1 x.2.2.2.1 x.2.2.2.2.1 x.2.2.2.2.2.1 x.2.2.2.2.2.2.1 x.2.2.2.2.2.2.2.1 x.2.2.2.2.2.2.2.2.1 x.2.2.2.2.2.2.2.2.2.1 x.2.2.2.2.2.2.2.2.2.2.1 x.2.2.2.2.2.2.2.2.2.2.2.1 x.2.2.2.2.2.2.2.2.2.2.2.2.1 x.2.2.2.2.2.2.2.2.2.2.2.2.2.1 x.2.2.2.2.2.2.2.2.2.2.2.2.2.2.1 x.2.2.2.2.2.2.2.2.2.2.2.2.2.2.2.1 x.2.2.2.2.2.2.2.2.2.2.2.2.2.2.2.2)) qis x := by kernel_rfl
theorem qAv (k : Nat) : qac cf (call cf k) (kps 84) Try.f84.ntmps k 3 2 (lb Try.f84 1) (qgc k) :=
 qr (c := cf) (callF := call cf k) (kp := kps 84) (nt := Try.f84.ntmps) (k := k) (p := 3) (b := 2) (x0 := lb Try.f84 1) (hs := qis) (os := qmN) (qd (qv6 k)) (qAt k) (fun n x => qcQ k n x.1 x.2.1 x.2.2.1 x.2.2.2.1 x.2.2.2.2.1 x.2.2.2.2.2.1 x.2.2.2.2.2.2.1 x.2.2.2.2.2.2.2.1 x.2.2.2.2.2.2.2.2.1 x.2.2.2.2.2.2.2.2.2.1 x.2.2.2.2.2.2.2.2.2.2.1 x.2.2.2.2.2.2.2.2.2.2.2.1 x.2.2.2.2.2.2.2.2.2.2.2.2.1 x.2.2.2.2.2.2.2.2.2.2.2.2.2.1 x.2.2.2.2.2.2.2.2.2.2.2.2.2.2.1 x.2.2.2.2.2.2.2.2.2.2.2.2.2.2.2.1 x.2.2.2.2.2.2.2.2.2.2.2.2.2.2.2.2) (fun _ => rfl) (qAu k)
def qit : List SS := [{ fr := [(0, .a (.ptr 0 0 0)), (1, .a (.ptr 1 0 0)), (2, .a (.ptr 2 0 0)), (7, .a (.smz 3)), (29, .a (.smz 4)), (30, .a (.lf (.int .i64))), (31, .a (.lf (.int .i64)))], mem := [(0, some (.raw [[.lf .bool, .snil 1 72]] 2 98 true false)), (1, some (.raw [[.lf .bool, .snil 1 72, .lf .bool, .snil 1 72]] 4 100 true false)), (2, some (.raw [[.lf .bool, .lf (.sl (.int .u32))]] 2 98 true false)), (3, some (.arr (.int .u32) 1 72 false)), (4, some (.arr (.int .u32) 1 72 false))], nx := 5 }]
def qmO : List OS := [⟨some 0, { fr := [(0, .a (.ptr 0 0 0)), (1, .a (.ptr 1 0 0)), (2, .a (.ptr 2 0 0)), (7, .a (.smz 3))], mem := [(0, some (.raw [[.lf .bool, .snil 1 72]] 2 98 true false)), (1, some (.raw [[.lf .bool, .snil 1 72, .lf .bool, .snil 1 72]] 4 100 true false)), (2, some (.raw [[.lf .bool, .lf (.sl (.int .u32))]] 2 98 true false)), (3, some (.arr (.int .u32) 1 72 false)), (4, some (.arr (.int .u32) 1 72 false))], nx := 5 }⟩]
def qmP (k : Nat) : LInst := ⟨0, qit, qmO, fun x => qaP k k x.1 x.2.1 x.2.2.1 x.2.2.2.1 x.2.2.2.2.1 x.2.2.2.2.2.1 x.2.2.2.2.2.2.1 x.2.2.2.2.2.2.2.1 x.2.2.2.2.2.2.2.2.1 x.2.2.2.2.2.2.2.2.2.1 x.2.2.2.2.2.2.2.2.2.2⟩
theorem qAw (k : Nat) : qf (LOk (R := DS OS.D qmO) (fun b _ σ K => LOt Ty (kps 84) 3 b σ K [qgc k]) cf (call cf k) (kps 84) Try.f84.ntmps k 3) 0 (lb Try.f84 0) :=
 qA qT (qA (qA qT qT) (qA (qA qT (qA qT (qA (qA qT (qz (c := cf) (callF := call cf k) (kp := kps 84) (nt := Try.f84.ntmps) (k := k) (p := 3) (b := 2) (x0 := lb Try.f84 1) (l := [qgc k]) (qA (fun _ => qAv k) qT))) qT))) qT))
theorem qAx (k n : Nat) (x : DS SS.D qit) : qaP k (n + 1) x.1 x.2.1 x.2.2.1 x.2.2.2.1 x.2.2.2.2.1 x.2.2.2.2.2.1 x.2.2.2.2.2.2.1 x.2.2.2.2.2.2.2.1 x.2.2.2.2.2.2.2.2.1 x.2.2.2.2.2.2.2.2.2.1 x.2.2.2.2.2.2.2.2.2.2 = qE SS.enc (fun σ => qF cf (fun f a b K => COt f a b K [qde k]) (fun b _ σ K => LOt Ty (kps 84) 3 b σ K [qgc k]) Try.f84.ntmps 0 (lb Try.f84 0) σ (qJ Ty (kps 84 0) 3 qit qmO fun x => qaP k n x.1 x.2.1 x.2.2.1 x.2.2.2.1 x.2.2.2.2.1 x.2.2.2.2.2.1 x.2.2.2.2.2.2.1 x.2.2.2.2.2.2.2.1 x.2.2.2.2.2.2.2.2.1 x.2.2.2.2.2.2.2.2.2.1 x.2.2.2.2.2.2.2.2.2.2)) qit x := by kernel_rfl
theorem qAy (k : Nat) : qac cf (call cf k) (kps 84) Try.f84.ntmps k 3 0 (lb Try.f84 0) (qmP k) :=
 qr (c := cf) (callF := call cf k) (kp := kps 84) (nt := Try.f84.ntmps) (k := k) (p := 3) (b := 0) (x0 := lb Try.f84 0) (hs := qit) (os := qmO) (qd (qv6 k)) (qAw k) (fun n x => qaP k n x.1 x.2.1 x.2.2.1 x.2.2.2.1 x.2.2.2.2.1 x.2.2.2.2.2.1 x.2.2.2.2.2.2.1 x.2.2.2.2.2.2.2.1 x.2.2.2.2.2.2.2.2.1 x.2.2.2.2.2.2.2.2.2.1 x.2.2.2.2.2.2.2.2.2.2) (fun _ => rfl) (qAx k)
theorem qHy (k : Nat) : qf (LOk (R := DS FS.D qtD) (fun b _ σ K => LOt Ty (kps 84) 3 b σ K [qgc k, qmP k]) cf (call cf k) (cf.keep 84) Try.f84.ntmps k qod.bs.length) 0 (bd Try.f84) :=
 qA qT (qA qT (qA (qA qT (qz (c := cf) (callF := call cf k) (kp := kps 84) (nt := Try.f84.ntmps) (k := k) (p := 3) (b := 0) (x0 := lb Try.f84 0) (l := [qgc k, qmP k]) (qA (fun h => absurd (show (2 : Nat) = 0 from h) (by decide)) (qA (fun _ => qAy k) qT)))) (qA qT qT)))
theorem qHz (k : Nat) (x : qod.D) : qcA (k + 1) x.1 x.2.1 x.2.2.1 x.2.2.2.1 x.2.2.2.2 = qi cf (fun f a b K => COt f a b K [qde k]) (fun b _ σ K => LOt Ty (kps 84) 3 b σ K [qgc k, qmP k]) 84 Try.f84.ntmps Try.f84.results.toList (bd Try.f84) (qod.enc x).1 (qod.enc x).2 (qj FS.dec qtD) := by kernel_rfl
theorem qHA : ∀ k, qh (call cf k) (Iq8 k)
 | 0 => fun x y e => absurd (show (none : Option _) = some y from e) (by simp)
 | k + 1 => qe (c := cf) (k := k) (f := 84) (fn := Try.f84) (body := bd Try.f84) (sh := qod) (os := qtD) rfl Try.func84 rfl ⟨rfl, Nat.le_of_ble_eq_true rfl⟩ (qd (qv6 k)) (qHy k) (fun x => qcA (k + 1) x.1 x.2.1 x.2.2.1 x.2.2.2.1 x.2.2.2.2) (qHz k)

def qiu (k : Nat) (z0 : Bool) (z1 : Bool) : Option (Bool × Bool × Bool × List Int) :=
 Option.bind (qai k (1 : Int)) fun r8 =>
 (some (z0, z1, r8.1, r8.2))
def qas : Nat → Bool → Bool → Option (Bool × Bool × Bool × List Int)
 | 0, _, _ => none
 | k + 1, z0, z1 => qiu k z0 z1
def qjY : FS := { vs := [.a (.ptr 0 0 0)], bs := [.raw [[.lf .bool, .snil 1 72, .lf .bool, .snil 1 72]] 4 100 true false] }
def qpI : List FS := [{ vs := [.a (.ptr 1 0 0)], bs := [.raw [[.lf .bool, .snil 1 72, .lf .bool, .snil 1 72]] 4 100 true false, .raw [[.lf .bool, .lf (.sl (.int .u32))]] 2 98 true false] }]
def qre (k : Nat) : Inst := ⟨85, qjY, qpI, fun x => qas k x.1 x.2⟩
theorem qEC (k : Nat) : qn (call cf k) [qfb k] := qA (qjh k) qT
theorem qED (k : Nat) : qf (LOk (R := DS FS.D qpI) (fun b _ σ K => LOt Ty (kps 85) 1 b σ K []) cf (call cf k) (cf.keep 85) Try.f85.ntmps k qjY.bs.length) 0 (bd Try.f85) :=
 qA qT (qA (qA qT (qA (qA qT qT) qT)) (qA qT qT))
theorem qEE (k : Nat) (x : qjY.D) : qas (k + 1) x.1 x.2 = qi cf (fun f a b K => COt f a b K [qfb k]) (fun b _ σ K => LOt Ty (kps 85) 1 b σ K []) 85 Try.f85.ntmps Try.f85.results.toList (bd Try.f85) (qjY.enc x).1 (qjY.enc x).2 (qj FS.dec qpI) := by kernel_rfl
theorem qxg : ∀ k, qh (call cf k) (qre k)
 | 0 => fun x y e => absurd (show (none : Option _) = some y from e) (by simp)
 | k + 1 => qe (c := cf) (k := k) (f := 85) (fn := Try.f85) (body := bd Try.f85) (sh := qjY) (os := qpI) rfl Try.func85 rfl ⟨rfl, Nat.le_of_ble_eq_true rfl⟩ (qd (qEC k)) (qED k) (fun x => qas (k + 1) x.1 x.2) (qEE k)

def qlo (k : Nat) (x0 : Bool) (x1 : Bool) (y0 : Bool) (y1 : List Int) (y2 : Bool) (y3 : List Int) : Option (Bool × List Int × Bool × List Int × Bool × List Int × Bool × List Int) :=
 Option.bind (qo k y0 y1 y2 y3) fun r6 =>
 Option.bind (qcA k false x0 x1 r6.2.2.2.2.1 r6.2.2.2.2.2) fun r7 =>
 Option.bind (qas k r7.2.2.1 r7.2.2.2.1) fun r8 =>
 Option.bind (qan k false r6.1 r6.2.1 r6.2.2.1 r6.2.2.2.1 r8.2.2.1 r8.2.2.2) fun r9 =>
 Option.bind (qas k r8.1 r8.2.1) fun r10 =>
 Option.bind (qo k r9.2.2.1 r9.2.2.2.1 r9.2.2.2.2.1 r9.2.2.2.2.2.1) fun r11 =>
 Option.bind (qam k false r10.2.2.1 r10.2.2.2 r11.2.2.2.2.1 r11.2.2.2.2.2) fun r12 =>
 Option.bind (qbj k r7.1 r7.2.1 r9.1 r9.2.1) fun r13 =>
 Option.bind (qao k r10.1 r10.2.1 r13.1 r13.2.1 r12.1 r12.2.1) fun r14 =>
 (some (r14.1, r14.2.1, r14.2.2.1, r14.2.2.2.1, r11.1, r11.2.1, r11.2.2.1, r11.2.2.2.1))
def qcB : Nat → Bool → Bool → Bool → List Int → Bool → List Int → Option (Bool × List Int × Bool × List Int × Bool × List Int × Bool × List Int)
 | 0, _, _, _, _, _, _ => none
 | k + 1, x0, x1, y0, y1, y2, y3 => qlo k x0 x1 y0 y1 y2 y3
def qjZ : FS := { vs := [.a (.ptr 0 0 0), .a (.ptr 0 0 0), .a (.ptr 1 0 0)], bs := [.raw [[.lf .bool, .snil 1 72, .lf .bool, .snil 1 72]] 4 100 true false, .raw [[.lf .bool, .lf (.sl (.int .u32)), .lf .bool, .lf (.sl (.int .u32))]] 4 100 true false] }
def qpJ : List FS := [{ vs := [.a (.ptr 0 0 0)], bs := [.raw [[.lf .bool, .lf (.sl (.int .u32)), .lf .bool, .lf (.sl (.int .u32))]] 4 100 true false, .raw [[.lf .bool, .lf (.sl (.int .u32)), .lf .bool, .lf (.sl (.int .u32))]] 4 100 true false] }]
def qtE (k : Nat) : Inst := ⟨63, qjZ, qpJ, fun x => qcB k x.1 x.2.1 x.2.2.1 x.2.2.2.1 x.2.2.2.2.1 x.2.2.2.2.2⟩
theorem qEF (k : Nat) : qn (call cf k) [qea k, Iq8 k, qre k, Iq7 k, Iq4 k, Iq2 k, qhw k] := qA (qgv k) (qA (qHA k) (qA (qxg k) (qA (qty k) (qA (qq8 k) (qA (qv3 k) (qA (qpb k) qT))))))
theorem qEG (k : Nat) : qf (LOk (R := DS FS.D qpJ) (fun b _ σ K => LOt Ty (kps 63) 2 b σ K []) cf (call cf k) (cf.keep 63) Try.f63.ntmps k qjZ.bs.length) 0 (bd Try.f63) :=
 qA qT (qA qT (qA qT (qA qT (qA qT (qA qT qT)))))
theorem qEH (k : Nat) (x : qjZ.D) : qcB (k + 1) x.1 x.2.1 x.2.2.1 x.2.2.2.1 x.2.2.2.2.1 x.2.2.2.2.2 = qi cf (fun f a b K => COt f a b K [qea k, Iq8 k, qre k, Iq7 k, Iq4 k, Iq2 k, qhw k]) (fun b _ σ K => LOt Ty (kps 63) 2 b σ K []) 63 Try.f63.ntmps Try.f63.results.toList (bd Try.f63) (qjZ.enc x).1 (qjZ.enc x).2 (qj FS.dec qpJ) := by kernel_rfl
theorem qEI : ∀ k, qh (call cf k) (qtE k)
 | 0 => fun x y e => absurd (show (none : Option _) = some y from e) (by simp)
 | k + 1 => qe (c := cf) (k := k) (f := 63) (fn := Try.f63) (body := bd Try.f63) (sh := qjZ) (os := qpJ) rfl Try.func63 rfl ⟨rfl, Nat.le_of_ble_eq_true rfl⟩ (qd (qEF k)) (qEG k) (fun x => qcB (k + 1) x.1 x.2.1 x.2.2.1 x.2.2.2.1 x.2.2.2.2.1 x.2.2.2.2.2) (qEH k)

def qlp (k : Nat) (z0 : Bool) (z1 : Bool) : Option (Bool × Bool × Bool × List Int) :=
 Option.bind (qdJ k z0 []) fun r4 =>
 (some (z0, z1, r4.1, r4.2))
def qcC : Nat → Bool → Bool → Option (Bool × Bool × Bool × List Int)
 | 0, _, _ => none
 | k + 1, z0, z1 => qlp k z0 z1
def qj0 : FS := { vs := [.a (.ptr 0 0 0)], bs := [.raw [[.lf .bool, .snil 1 72, .lf .bool, .snil 1 72]] 4 100 true false] }
def qpK : List FS := [{ vs := [.a (.ptr 1 0 0)], bs := [.raw [[.lf .bool, .snil 1 72, .lf .bool, .snil 1 72]] 4 100 true false, .raw [[.lf .bool, .lf (.sl (.int .u32))]] 2 98 true false] }]
def qv7 (k : Nat) : Inst := ⟨91, qj0, qpK, fun x => qcC k x.1 x.2⟩
theorem qEJ (k : Nat) : qn (call cf k) [qhx k] := qA (qpe k) qT
theorem qEK (k : Nat) : qf (LOk (R := DS FS.D qpK) (fun b _ σ K => LOt Ty (kps 91) 1 b σ K []) cf (call cf k) (cf.keep 91) Try.f91.ntmps k qj0.bs.length) 0 (bd Try.f91) :=
 qA qT (qA qT qT)
theorem qEL (k : Nat) (x : qj0.D) : qcC (k + 1) x.1 x.2 = qi cf (fun f a b K => COt f a b K [qhx k]) (fun b _ σ K => LOt Ty (kps 91) 1 b σ K []) 91 Try.f91.ntmps Try.f91.results.toList (bd Try.f91) (qj0.enc x).1 (qj0.enc x).2 (qj FS.dec qpK) := by kernel_rfl
theorem qEM : ∀ k, qh (call cf k) (qv7 k)
 | 0 => fun x y e => absurd (show (none : Option _) = some y from e) (by simp)
 | k + 1 => qe (c := cf) (k := k) (f := 91) (fn := Try.f91) (body := bd Try.f91) (sh := qj0) (os := qpK) rfl Try.func91 rfl ⟨rfl, Nat.le_of_ble_eq_true rfl⟩ (qd (qEJ k)) (qEK k) (fun x => qcC (k + 1) x.1 x.2) (qEL k)

def qoe (k : Nat) (z0 : Bool) (z1 : Bool) : Option (Bool × List Int × Bool × List Int × Bool × Bool) :=
 Option.bind (qcC k z0 z1) fun r4 =>
 Option.bind (qaL k r4.2.2.1 r4.2.2.2) fun r5 =>
 Option.bind (qas k r4.1 r4.2.1) fun r6 =>
 Option.bind (qaL k r6.2.2.1 r6.2.2.2) fun r7 =>
 if ((0 + r5.2.1) ≤ (List.length r5.2.2.2.2)) then
 if ((0 + r7.2.1) ≤ (List.length r7.2.2.2.2)) then
 (some (r5.1, (List.take r5.2.1 r5.2.2.2.2), r7.1, (List.take r7.2.1 r7.2.2.2.2), r6.1, r6.2.1))
 else
 none
 else
 none
def qc8 : Nat → Bool → Bool → Option (Bool × List Int × Bool × List Int × Bool × Bool)
 | 0, _, _ => none
 | k + 1, z0, z1 => qoe k z0 z1
def qg2 : FS := { vs := [.a (.ptr 0 0 0)], bs := [.raw [[.lf .bool, .snil 1 72, .lf .bool, .snil 1 72]] 4 100 true false] }
def qmQ : List FS := [{ vs := [.g [.lf .bool, .lf (.sl (.int .u32)), .lf .bool, .lf (.sl (.int .u32))]], bs := [.raw [[.lf .bool, .snil 1 72, .lf .bool, .snil 1 72]] 4 100 true false] }]
def qpL (k : Nat) : Inst := ⟨57, qg2, qmQ, fun x => qc8 k x.1 x.2⟩
theorem qAz (k : Nat) : qn (call cf k) [qv7 k, qfR k, qre k] := qA (qEM k) (qA (qmq k) (qA (qxg k) qT))
theorem qAA (k : Nat) : qf (LOk (R := DS FS.D qmQ) (fun b _ σ K => LOt Ty (kps 57) 1 b σ K []) cf (call cf k) (cf.keep 57) Try.f57.ntmps k qg2.bs.length) 0 (bd Try.f57) :=
 qA qT (qA qT qT)
theorem qAB (k : Nat) (x : qg2.D) : qc8 (k + 1) x.1 x.2 = qi cf (fun f a b K => COt f a b K [qv7 k, qfR k, qre k]) (fun b _ σ K => LOt Ty (kps 57) 1 b σ K []) 57 Try.f57.ntmps Try.f57.results.toList (bd Try.f57) (qg2.enc x).1 (qg2.enc x).2 (qj FS.dec qmQ) := by kernel_rfl
theorem qAC : ∀ k, qh (call cf k) (qpL k)
 | 0 => fun x y e => absurd (show (none : Option _) = some y from e) (by simp)
 | k + 1 => qe (c := cf) (k := k) (f := 57) (fn := Try.f57) (body := bd Try.f57) (sh := qg2) (os := qmQ) rfl Try.func57 rfl ⟨rfl, Nat.le_of_ble_eq_true rfl⟩ (qd (qAz k)) (qAA k) (fun x => qc8 (k + 1) x.1 x.2) (qAB k)

def qbz (k : Nat) (rec : ((Int × Int × ByteArray × Int × List (Int × Int) × List (Int × Int) × Bool × Nat × Bool × Nat × Bool × Nat × Bool × Nat × Bool × Bool × List Int × List Int × List Int × List Int) ⊕ (Int × Int × ByteArray × Int × List (Int × Int) × List (Int × Int) × Bool × Nat × Bool × Nat × Bool × Nat × Bool × Nat × Bool × List Int × Bool × List Int × List Int × List Int × List Int × List Int)) → Option ((Int × ByteArray × Int × List (Int × Int) × List (Int × Int) × Bool × Nat × Bool × Nat × Bool × Nat × Bool × Nat × Bool × Bool × List Int × List Int × List Int × List Int) ⊕ (Int × ByteArray × Int × List (Int × Int) × List (Int × Int) × Bool × Nat × Bool × Nat × Bool × Nat × Bool × Nat × Bool × List Int × Bool × List Int × List Int × List Int × List Int × List Int))) (x : (Int × Int × ByteArray × Int × List (Int × Int) × List (Int × Int) × Bool × Nat × Bool × Nat × Bool × Nat × Bool × Nat × Bool × Bool × List Int × List Int × List Int × List Int) ⊕ (Int × Int × ByteArray × Int × List (Int × Int) × List (Int × Int) × Bool × Nat × Bool × Nat × Bool × Nat × Bool × Nat × Bool × List Int × Bool × List Int × List Int × List Int × List Int × List Int)) : Option ((Int × ByteArray × Int × List (Int × Int) × List (Int × Int) × Bool × Nat × Bool × Nat × Bool × Nat × Bool × Nat × Bool × Bool × List Int × List Int × List Int × List Int) ⊕ (Int × ByteArray × Int × List (Int × Int) × List (Int × Int) × Bool × Nat × Bool × Nat × Bool × Nat × Bool × Nat × Bool × List Int × Bool × List Int × List Int × List Int × List Int × List Int)) :=
 qc x
 (fun x =>
 if ((decide (x.2.1 < x.1)) = true) then
 if ((x.2.2.2.1 == (100 : Int)) = true) then
 if ((0 : Int) ≤ x.2.1) then
 Option.bind (x.2.2.2.2.1)[(Int.toNat x.2.1)]? fun x1 =>
 Option.bind (qaH k x1.1 x1.2) fun r1 =>
 if ((0 : Int) ≤ (IntKind.wrap .i64 (x.2.1 + (1 : Int)))) then
 Option.bind (x.2.2.2.2.1)[(Int.toNat (IntKind.wrap .i64 (x.2.1 + (1 : Int))))]? fun x2 =>
 Option.bind (qaH k x2.1 x2.2) fun r2 =>
 Option.bind (qbm k false false r1.1 r1.2.1 r1.2.2.1 r1.2.2.2 r2.1 r2.2.1 r2.2.2.1 r2.2.2.2) fun r3 =>
 Option.bind (qbv k x.2.2.1 x.2.2.2.1 x.2.2.2.2.1 x.2.2.2.2.2.1 x.2.1) fun r4 =>
 Option.bind (qbi k r3.1 r3.2.1 r3.2.2.1 r3.2.2.2.1 r4.1 r4.2.1 r4.2.2.1 r4.2.2.2) fun r5 =>
 Option.bind (qcB k x.2.2.2.2.2.2.2.2.2.2.2.2.2.2.1 x.2.2.2.2.2.2.2.2.2.2.2.2.2.2.2.1 r5.1 r5.2.1 r5.2.2.1 r5.2.2.2.1) fun r6 =>
 rec (Sum.inr (x.1, (IntKind.wrap .i64 (x.2.1 + (1 : Int))), x.2.2.1, x.2.2.2.1, x.2.2.2.2.1, x.2.2.2.2.2.1, x.2.2.2.2.2.2.1, x.2.2.2.2.2.2.2.1, x.2.2.2.2.2.2.2.2.1, x.2.2.2.2.2.2.2.2.2.1, x.2.2.2.2.2.2.2.2.2.2.1, x.2.2.2.2.2.2.2.2.2.2.2.1, x.2.2.2.2.2.2.2.2.2.2.2.2.1, x.2.2.2.2.2.2.2.2.2.2.2.2.2.1, r6.1, r6.2.1, r6.2.2.1, r6.2.2.2.1, x.2.2.2.2.2.2.2.2.2.2.2.2.2.2.2.2.1, x.2.2.2.2.2.2.2.2.2.2.2.2.2.2.2.2.2.1, x.2.2.2.2.2.2.2.2.2.2.2.2.2.2.2.2.2.2.1, x.2.2.2.2.2.2.2.2.2.2.2.2.2.2.2.2.2.2.2))
 else
 none
 else
 none
 else
 (some (Sum.inl (x.1, x.2.2.1, x.2.2.2.1, x.2.2.2.2.1, x.2.2.2.2.2.1, x.2.2.2.2.2.2.1, x.2.2.2.2.2.2.2.1, x.2.2.2.2.2.2.2.2.1, x.2.2.2.2.2.2.2.2.2.1, x.2.2.2.2.2.2.2.2.2.2.1, x.2.2.2.2.2.2.2.2.2.2.2.1, x.2.2.2.2.2.2.2.2.2.2.2.2.1, x.2.2.2.2.2.2.2.2.2.2.2.2.2.1, x.2.2.2.2.2.2.2.2.2.2.2.2.2.2.1, x.2.2.2.2.2.2.2.2.2.2.2.2.2.2.2.1, x.2.2.2.2.2.2.2.2.2.2.2.2.2.2.2.2.1, x.2.2.2.2.2.2.2.2.2.2.2.2.2.2.2.2.2.1, x.2.2.2.2.2.2.2.2.2.2.2.2.2.2.2.2.2.2.1, x.2.2.2.2.2.2.2.2.2.2.2.2.2.2.2.2.2.2.2)))
 else
 (some (Sum.inl (x.1, x.2.2.1, x.2.2.2.1, x.2.2.2.2.1, x.2.2.2.2.2.1, x.2.2.2.2.2.2.1, x.2.2.2.2.2.2.2.1, x.2.2.2.2.2.2.2.2.1, x.2.2.2.2.2.2.2.2.2.1, x.2.2.2.2.2.2.2.2.2.2.1, x.2.2.2.2.2.2.2.2.2.2.2.1, x.2.2.2.2.2.2.2.2.2.2.2.2.1, x.2.2.2.2.2.2.2.2.2.2.2.2.2.1, x.2.2.2.2.2.2.2.2.2.2.2.2.2.2.1, x.2.2.2.2.2.2.2.2.2.2.2.2.2.2.2.1, x.2.2.2.2.2.2.2.2.2.2.2.2.2.2.2.2.1, x.2.2.2.2.2.2.2.2.2.2.2.2.2.2.2.2.2.1, x.2.2.2.2.2.2.2.2.2.2.2.2.2.2.2.2.2.2.1, x.2.2.2.2.2.2.2.2.2.2.2.2.2.2.2.2.2.2.2))))
 (fun x =>
 if ((decide (x.2.1 < x.1)) = true) then
 if ((x.2.2.2.1 == (100 : Int)) = true) then
 if ((0 : Int) ≤ x.2.1) then
 Option.bind (x.2.2.2.2.1)[(Int.toNat x.2.1)]? fun x1 =>
 Option.bind (qaH k x1.1 x1.2) fun r1 =>
 if ((0 : Int) ≤ (IntKind.wrap .i64 (x.2.1 + (1 : Int)))) then
 Option.bind (x.2.2.2.2.1)[(Int.toNat (IntKind.wrap .i64 (x.2.1 + (1 : Int))))]? fun x2 =>
 Option.bind (qaH k x2.1 x2.2) fun r2 =>
 Option.bind (qbm k false false r1.1 r1.2.1 r1.2.2.1 r1.2.2.2 r2.1 r2.2.1 r2.2.2.1 r2.2.2.2) fun r3 =>
 Option.bind (qbv k x.2.2.1 x.2.2.2.1 x.2.2.2.2.1 x.2.2.2.2.2.1 x.2.1) fun r4 =>
 Option.bind (qbi k r3.1 r3.2.1 r3.2.2.1 r3.2.2.2.1 r4.1 r4.2.1 r4.2.2.1 r4.2.2.2) fun r5 =>
 Option.bind (qcy k x.2.2.2.2.2.2.2.2.2.2.2.2.2.2.1 x.2.2.2.2.2.2.2.2.2.2.2.2.2.2.2.1 x.2.2.2.2.2.2.2.2.2.2.2.2.2.2.2.2.1 x.2.2.2.2.2.2.2.2.2.2.2.2.2.2.2.2.2.1 r5.1 r5.2.1 r5.2.2.1 r5.2.2.2.1) fun r6 =>
 rec (Sum.inr (x.1, (IntKind.wrap .i64 (x.2.1 + (1 : Int))), x.2.2.1, x.2.2.2.1, x.2.2.2.2.1, x.2.2.2.2.2.1, x.2.2.2.2.2.2.1, x.2.2.2.2.2.2.2.1, x.2.2.2.2.2.2.2.2.1, x.2.2.2.2.2.2.2.2.2.1, x.2.2.2.2.2.2.2.2.2.2.1, x.2.2.2.2.2.2.2.2.2.2.2.1, x.2.2.2.2.2.2.2.2.2.2.2.2.1, x.2.2.2.2.2.2.2.2.2.2.2.2.2.1, r6.1, r6.2.1, r6.2.2.1, r6.2.2.2.1, x.2.2.2.2.2.2.2.2.2.2.2.2.2.2.2.2.2.2.1, x.2.2.2.2.2.2.2.2.2.2.2.2.2.2.2.2.2.2.2.1, x.2.2.2.2.2.2.2.2.2.2.2.2.2.2.2.2.2.2.2.2.1, x.2.2.2.2.2.2.2.2.2.2.2.2.2.2.2.2.2.2.2.2.2))
 else
 none
 else
 none
 else
 (some (Sum.inr (x.1, x.2.2.1, x.2.2.2.1, x.2.2.2.2.1, x.2.2.2.2.2.1, x.2.2.2.2.2.2.1, x.2.2.2.2.2.2.2.1, x.2.2.2.2.2.2.2.2.1, x.2.2.2.2.2.2.2.2.2.1, x.2.2.2.2.2.2.2.2.2.2.1, x.2.2.2.2.2.2.2.2.2.2.2.1, x.2.2.2.2.2.2.2.2.2.2.2.2.1, x.2.2.2.2.2.2.2.2.2.2.2.2.2.1, x.2.2.2.2.2.2.2.2.2.2.2.2.2.2.1, x.2.2.2.2.2.2.2.2.2.2.2.2.2.2.2.1, x.2.2.2.2.2.2.2.2.2.2.2.2.2.2.2.2.1, x.2.2.2.2.2.2.2.2.2.2.2.2.2.2.2.2.2.1, x.2.2.2.2.2.2.2.2.2.2.2.2.2.2.2.2.2.2.1, x.2.2.2.2.2.2.2.2.2.2.2.2.2.2.2.2.2.2.2.1, x.2.2.2.2.2.2.2.2.2.2.2.2.2.2.2.2.2.2.2.2.1, x.2.2.2.2.2.2.2.2.2.2.2.2.2.2.2.2.2.2.2.2.2)))
 else
 (some (Sum.inr (x.1, x.2.2.1, x.2.2.2.1, x.2.2.2.2.1, x.2.2.2.2.2.1, x.2.2.2.2.2.2.1, x.2.2.2.2.2.2.2.1, x.2.2.2.2.2.2.2.2.1, x.2.2.2.2.2.2.2.2.2.1, x.2.2.2.2.2.2.2.2.2.2.1, x.2.2.2.2.2.2.2.2.2.2.2.1, x.2.2.2.2.2.2.2.2.2.2.2.2.1, x.2.2.2.2.2.2.2.2.2.2.2.2.2.1, x.2.2.2.2.2.2.2.2.2.2.2.2.2.2.1, x.2.2.2.2.2.2.2.2.2.2.2.2.2.2.2.1, x.2.2.2.2.2.2.2.2.2.2.2.2.2.2.2.2.1, x.2.2.2.2.2.2.2.2.2.2.2.2.2.2.2.2.2.1, x.2.2.2.2.2.2.2.2.2.2.2.2.2.2.2.2.2.2.1, x.2.2.2.2.2.2.2.2.2.2.2.2.2.2.2.2.2.2.2.1, x.2.2.2.2.2.2.2.2.2.2.2.2.2.2.2.2.2.2.2.2.1, x.2.2.2.2.2.2.2.2.2.2.2.2.2.2.2.2.2.2.2.2.2))))
def qab (k n : Nat) : ((Int × Int × ByteArray × Int × List (Int × Int) × List (Int × Int) × Bool × Nat × Bool × Nat × Bool × Nat × Bool × Nat × Bool × Bool × List Int × List Int × List Int × List Int) ⊕ (Int × Int × ByteArray × Int × List (Int × Int) × List (Int × Int) × Bool × Nat × Bool × Nat × Bool × Nat × Bool × Nat × Bool × List Int × Bool × List Int × List Int × List Int × List Int × List Int)) → Option ((Int × ByteArray × Int × List (Int × Int) × List (Int × Int) × Bool × Nat × Bool × Nat × Bool × Nat × Bool × Nat × Bool × Bool × List Int × List Int × List Int × List Int) ⊕ (Int × ByteArray × Int × List (Int × Int) × List (Int × Int) × Bool × Nat × Bool × Nat × Bool × Nat × Bool × Nat × Bool × List Int × Bool × List Int × List Int × List Int × List Int × List Int)) := Nat.rec (fun _ => none) (fun _ r => qbz k r) n
def qrU (k : Nat) (m0 : ByteArray) (m1 : Int) (m2 : List (Int × Int)) (m3 : List (Int × Int)) (k1 : Int) : Option (Bool × List Int × Bool × List Int × Bool × List Int × Bool × List Int × Int) :=
 Option.bind (qc9 k m0 m1 m2 m3 k1) fun r =>
 if ((r != (0 : Int)) = true) then
 (some (false, [], false, [], false, [], false, [], r))
 else
 Option.bind (qab k k (Sum.inl (k1, (0 : Int), m0, m1, m2, m3, false, 0, false, 0, false, 0, false, 0, false, false, [], [], [], []))) fun r1 =>
 qc r1
 (fun r1 =>
 if ((0 : Int) ≤ r1.1) then
 Option.bind (r1.2.2.2.1)[(Int.toNat r1.1)]? fun x =>
 Option.bind (qaH k x.1 x.2) fun r2 =>
 Option.bind (qaY k r2.1 r2.2.1 r2.2.2.1 r2.2.2.2) fun r3 =>
 Option.bind (qc8 k r1.2.2.2.2.2.2.2.2.2.2.2.2.2.1 r1.2.2.2.2.2.2.2.2.2.2.2.2.2.2.1) fun r4 =>
 (some (r3.1, r3.2.1, r3.2.2.1, r3.2.2.2.1, r4.1, r4.2.1, r4.2.2.1, r4.2.2.2.1, (0 : Int)))
 else
 none)
 (fun r1 =>
 if ((0 : Int) ≤ r1.1) then
 Option.bind (r1.2.2.2.1)[(Int.toNat r1.1)]? fun x =>
 Option.bind (qaH k x.1 x.2) fun r2 =>
 Option.bind (qaY k r2.1 r2.2.1 r2.2.2.1 r2.2.2.2) fun r3 =>
 Option.bind (qaY k r1.2.2.2.2.2.2.2.2.2.2.2.2.2.1 r1.2.2.2.2.2.2.2.2.2.2.2.2.2.2.1 r1.2.2.2.2.2.2.2.2.2.2.2.2.2.2.2.1 r1.2.2.2.2.2.2.2.2.2.2.2.2.2.2.2.2.1) fun r4 =>
 (some (r3.1, r3.2.1, r3.2.2.1, r3.2.2.2.1, r4.1, r4.2.1, r4.2.2.1, r4.2.2.2.1, (0 : Int)))
 else
 none)
def qcM : Nat → ByteArray → Int → List (Int × Int) → List (Int × Int) → Int → Option (Bool × List Int × Bool × List Int × Bool × List Int × Bool × List Int × Int)
 | 0, _, _, _, _, _ => none
 | k + 1, m0, m1, m2, m3, k1 => qrU k m0 m1 m2 m3 k1
def qj1 : FS := { vs := [.g [.lf .str, .lf (.int .u8), .lf (.sl (.pr (.int .i64) (.int .i64))), .lf (.sl (.pr (.int .i64) (.int .i64)))], .a (.lf (.int .i64))], bs := [] }
def qpM : List FS := [{ vs := [.g [.lf .bool, .lf (.sl (.int .u32)), .lf .bool, .lf (.sl (.int .u32))], .g [.lf .bool, .lf (.sl (.int .u32)), .lf .bool, .lf (.sl (.int .u32))], .a (.lf (.int .i64))], bs := [] }]
def qof (k : Nat) : Inst := ⟨27, qj1, qpM, fun x => qcM k x.1 x.2.1 x.2.2.1 x.2.2.2.1 x.2.2.2.2⟩
theorem qxh (k : Nat) : qn (call cf k) [qoa k, qob k, qtz k, qoc k, qtt k, qtE k, qtA k, qgw k, qpL k] := qA (qxc k) (qA (qxd k) (qA (qD9 k) (qA (qxf k) (qA (qDA k) (qA (qEI k) (qA (qEd k) (qA (qq7 k) (qA (qAC k) qT))))))))
def qiv : List SS := [{ fr := [(1, .a (.lf (.int .i64))), (2, .a (.ptr 0 0 0)), (4, .a (.ptr 1 0 0)), (5, .a (.ptr 2 0 0)), (8, .a (.ptr 3 0 0)), (9, .a (.lf (.int .i64)))], mem := [(0, some (.raw [[.lf .str, .lf (.int .u8), .lf (.sl (.pr (.int .i64) (.int .i64))), .lf (.sl (.pr (.int .i64) (.int .i64)))]] 4 24 true false)), (1, some (.raw [[.lf .bool, .smz 4, .lf .bool, .smz 5]] 4 29 false false)), (2, some (.raw [[.lf .bool, .smz 6, .lf .bool, .smz 7]] 4 29 false false)), (3, some (.raw [[.lf .bool, .snil 1 72, .lf .bool, .snil 1 72]] 4 100 true false)), (4, some (.arr (.int .u32) 1 72 false)), (5, some (.arr (.int .u32) 1 72 false)), (6, some (.arr (.int .u32) 1 72 false)), (7, some (.arr (.int .u32) 1 72 false))], nx := 8 }, { fr := [(1, .a (.lf (.int .i64))), (2, .a (.ptr 0 0 0)), (4, .a (.ptr 1 0 0)), (5, .a (.ptr 2 0 0)), (8, .a (.ptr 3 0 0)), (9, .a (.lf (.int .i64)))], mem := [(0, some (.raw [[.lf .str, .lf (.int .u8), .lf (.sl (.pr (.int .i64) (.int .i64))), .lf (.sl (.pr (.int .i64) (.int .i64)))]] 4 24 true false)), (1, some (.raw [[.lf .bool, .smz 4, .lf .bool, .smz 5]] 4 29 false false)), (2, some (.raw [[.lf .bool, .smz 6, .lf .bool, .smz 7]] 4 29 false false)), (3, some (.raw [[.lf .bool, .lf (.sl (.int .u32)), .lf .bool, .lf (.sl (.int .u32))]] 4 100 true false)), (4, some (.arr (.int .u32) 1 72 false)), (5, some (.arr (.int .u32) 1 72 false)), (6, some (.arr (.int .u32) 1 72 false)), (7, some (.arr (.int .u32) 1 72 false))], nx := 8 }]
def qmR : List OS := [⟨some 0, { fr := [(1, .a (.lf (.int .i64))), (2, .a (.ptr 0 0 0)), (4, .a (.ptr 1 0 0)), (5, .a (.ptr 2 0 0)), (8, .a (.ptr 3 0 0))], mem := [(0, some (.raw [[.lf .str, .lf (.int .u8), .lf (.sl (.pr (.int .i64) (.int .i64))), .lf (.sl (.pr (.int .i64) (.int .i64)))]] 4 24 true false)), (1, some (.raw [[.lf .bool, .smz 4, .lf .bool, .smz 5]] 4 29 false false)), (2, some (.raw [[.lf .bool, .smz 6, .lf .bool, .smz 7]] 4 29 false false)), (3, some (.raw [[.lf .bool, .snil 1 72, .lf .bool, .snil 1 72]] 4 100 true false)), (4, some (.arr (.int .u32) 1 72 false)), (5, some (.arr (.int .u32) 1 72 false)), (6, some (.arr (.int .u32) 1 72 false)), (7, some (.arr (.int .u32) 1 72 false))], nx := 8 }⟩, ⟨some 0, { fr := [(1, .a (.lf (.int .i64))), (2, .a (.ptr 0 0 0)), (4, .a (.ptr 1 0 0)), (5, .a (.ptr 2 0 0)), (8, .a (.ptr 3 0 0))], mem := [(0, some (.raw [[.lf .str, .lf (.int .u8), .lf (.sl (.pr (.int .i64) (.int .i64))), .lf (.sl (.pr (.int .i64) (.int .i64)))]] 4 24 true false)), (1, some (.raw [[.lf .bool, .smz 4, .lf .bool, .smz 5]] 4 29 false false)), (2, some (.raw [[.lf .bool, .smz 6, .lf .bool, .smz 7]] 4 29 false false)), (3, some (.raw [[.lf .bool, .lf (.sl (.int .u32)), .lf .bool, .lf (.sl (.int .u32))]] 4 100 true false)), (4, some (.arr (.int .u32) 1 72 false)), (5, some (.arr (.int .u32) 1 72 false)), (6, some (.arr (.int .u32) 1 72 false)), (7, some (.arr (.int .u32) 1 72 false))], nx := 8 }⟩]
def qmS (k : Nat) : LInst := ⟨0, qiv, qmR, fun x => qab k k x⟩
theorem qAD (k : Nat) : qf (LOk (R := DS OS.D qmR) (fun b _ σ K => LOt Ty (kps 27) 0 b σ K []) cf (call cf k) (kps 27) Try.f27.ntmps k 0) 0 (lb Try.f27 0) :=
 qA (qA qT (qA qT qT)) (qA (qA qT qT) qT)
theorem qAE (k n : Nat) (x : DS SS.D qiv) : qab k (n + 1) x = qE SS.enc (fun σ => qF cf (fun f a b K => COt f a b K [qoa k, qob k, qtz k, qoc k, qtt k, qtE k, qtA k, qgw k, qpL k]) (fun b _ σ K => LOt Ty (kps 27) 0 b σ K []) Try.f27.ntmps 0 (lb Try.f27 0) σ (qJ Ty (kps 27 0) 0 qiv qmR fun x => qab k n x)) qiv x := by kernel_rfl
theorem qAF (k : Nat) : qac cf (call cf k) (kps 27) Try.f27.ntmps k 0 0 (lb Try.f27 0) (qmS k) :=
 qr (c := cf) (callF := call cf k) (kp := kps 27) (nt := Try.f27.ntmps) (k := k) (p := 0) (b := 0) (x0 := lb Try.f27 0) (hs := qiv) (os := qmR) (qd (qxh k)) (qAD k) (fun n x => qab k n x) (fun _ => rfl) (qAE k)
theorem qEN (k : Nat) : qf (LOk (R := DS FS.D qpM) (fun b _ σ K => LOt Ty (kps 27) 0 b σ K [qmS k]) cf (call cf k) (cf.keep 27) Try.f27.ntmps k qj1.bs.length) 0 (bd Try.f27) :=
 qA qT (qA (qA qT (qA qT (qA (qA qT qT) qT))) (qA qT (qA (qA qT (qz (c := cf) (callF := call cf k) (kp := kps 27) (nt := Try.f27.ntmps) (k := k) (p := 0) (b := 0) (x0 := lb Try.f27 0) (l := [qmS k]) (qA (fun _ => qAF k) qT))) (qA qT qT))))
theorem qEO (k : Nat) (x : qj1.D) : qcM (k + 1) x.1 x.2.1 x.2.2.1 x.2.2.2.1 x.2.2.2.2 = qi cf (fun f a b K => COt f a b K [qoa k, qob k, qtz k, qoc k, qtt k, qtE k, qtA k, qgw k, qpL k]) (fun b _ σ K => LOt Ty (kps 27) 0 b σ K [qmS k]) 27 Try.f27.ntmps Try.f27.results.toList (bd Try.f27) (qj1.enc x).1 (qj1.enc x).2 (qj FS.dec qpM) := by kernel_rfl
theorem qxi : ∀ k, qh (call cf k) (qof k)
 | 0 => fun x y e => absurd (show (none : Option _) = some y from e) (by simp)
 | k + 1 => qe (c := cf) (k := k) (f := 27) (fn := Try.f27) (body := bd Try.f27) (sh := qj1) (os := qpM) rfl Try.func27 rfl ⟨rfl, Nat.le_of_ble_eq_true rfl⟩ (qd (qxh k)) (qEN k) (fun x => qcM (k + 1) x.1 x.2.1 x.2.2.1 x.2.2.2.1 x.2.2.2.2) (qEO k)

def qv8 (k : Nat) (v : Int) : Option (Bool × List Int) :=
 Option.bind (qai k v) fun r1 =>
 Option.bind (qaL k r1.1 r1.2) fun r2 =>
 if ((0 + r2.2.1) ≤ (List.length r2.2.2.2.2)) then
 (some (r2.1, (List.take r2.2.1 r2.2.2.2.2)))
 else
 none
def qgd : Nat → Int → Option (Bool × List Int)
 | 0, _ => none
 | k + 1, v => qv8 k v
def qj2 : FS := { vs := [.a (.lf (.int .i64))], bs := [] }
def qpN : List FS := [{ vs := [.g [.lf .bool, .lf (.sl (.int .u32))]], bs := [] }]
def qv9 (k : Nat) : Inst := ⟨35, qj2, qpN, fun x => qgd k x⟩
theorem qEP (k : Nat) : qn (call cf k) [qfb k, qfR k] := qA (qjh k) (qA (qmq k) qT)
theorem qEQ (k : Nat) : qf (LOk (R := DS FS.D qpN) (fun b _ σ K => LOt Ty (kps 35) 0 b σ K []) cf (call cf k) (cf.keep 35) Try.f35.ntmps k qj2.bs.length) 0 (bd Try.f35) :=
 qA qT (qA qT qT)
theorem qER (k : Nat) (x : qj2.D) : qgd (k + 1) x = qi cf (fun f a b K => COt f a b K [qfb k, qfR k]) (fun b _ σ K => LOt Ty (kps 35) 0 b σ K []) 35 Try.f35.ntmps Try.f35.results.toList (bd Try.f35) (qj2.enc x).1 (qj2.enc x).2 (qj FS.dec qpN) := by kernel_rfl
theorem qES : ∀ k, qh (call cf k) (qv9 k)
 | 0 => fun x y e => absurd (show (none : Option _) = some y from e) (by simp)
 | k + 1 => qe (c := cf) (k := k) (f := 35) (fn := Try.f35) (body := bd Try.f35) (sh := qj2) (os := qpN) rfl Try.func35 rfl ⟨rfl, Nat.le_of_ble_eq_true rfl⟩ (qd (qEP k)) (qEQ k) (fun x => qgd (k + 1) x) (qER k)

def qfd (k : Nat) (z0 : Bool) (z1 : List Int) (z2 : Bool) (z3 : List Int) : Option (Bool × List Int × Bool × List Int × Int × Bool × List Int × Bool × List Int) :=
 Option.bind (qaY k z0 z1 z2 z3) fun r8 =>
 if ((decide ((((List.length r8.2.1) : Nat) : Int) > (72 : Int))) = false) then
 if ((decide ((((List.length r8.2.2.2.1) : Nat) : Int) > (72 : Int))) = true) then
 (some (false, [], false, [], (13 : Int), r8.2.2.2.2.1, r8.2.2.2.2.2.1, r8.2.2.2.2.2.2.1, r8.2.2.2.2.2.2.2))
 else
 (some (r8.1, r8.2.1, r8.2.2.1, r8.2.2.2.1, (0 : Int), r8.2.2.2.2.1, r8.2.2.2.2.2.1, r8.2.2.2.2.2.2.1, r8.2.2.2.2.2.2.2))
 else
 (some (false, [], false, [], (13 : Int), r8.2.2.2.2.1, r8.2.2.2.2.2.1, r8.2.2.2.2.2.2.1, r8.2.2.2.2.2.2.2))
def qbF : Nat → Bool → List Int → Bool → List Int → Option (Bool × List Int × Bool × List Int × Int × Bool × List Int × Bool × List Int)
 | 0, _, _, _, _ => none
 | k + 1, z0, z1, z2, z3 => qfd k z0 z1 z2 z3
def qj3 : FS := { vs := [.a (.ptr 0 0 0)], bs := [.raw [[.lf .bool, .lf (.sl (.int .u32)), .lf .bool, .lf (.sl (.int .u32))]] 4 100 true false] }
def qpO : List FS := [{ vs := [.g [.lf .bool, .lf (.sl (.int .u32)), .lf .bool, .lf (.sl (.int .u32))], .a (.lf (.int .i64))], bs := [.raw [[.lf .bool, .lf (.sl (.int .u32)), .lf .bool, .lf (.sl (.int .u32))]] 4 100 true false] }]
def qlq (k : Nat) : Inst := ⟨71, qj3, qpO, fun x => qbF k x.1 x.2.1 x.2.2.1 x.2.2.2⟩
theorem qET (k : Nat) : qn (call cf k) [qgw k] := qA (qq7 k) qT
theorem qEU (k : Nat) : qf (LOk (R := DS FS.D qpO) (fun b _ σ K => LOt Ty (kps 71) 1 b σ K []) cf (call cf k) (cf.keep 71) Try.f71.ntmps k qj3.bs.length) 0 (bd Try.f71) :=
 qA qT (qA qT (qA (qA qT (qA (qA qT qT) qT)) (qA qT qT)))
theorem qEV (k : Nat) (x : qj3.D) : qbF (k + 1) x.1 x.2.1 x.2.2.1 x.2.2.2 = qi cf (fun f a b K => COt f a b K [qgw k]) (fun b _ σ K => LOt Ty (kps 71) 1 b σ K []) 71 Try.f71.ntmps Try.f71.results.toList (bd Try.f71) (qj3.enc x).1 (qj3.enc x).2 (qj FS.dec qpO) := by kernel_rfl
theorem qtF : ∀ k, qh (call cf k) (qlq k)
 | 0 => fun x y e => absurd (show (none : Option _) = some y from e) (by simp)
 | k + 1 => qe (c := cf) (k := k) (f := 71) (fn := Try.f71) (body := bd Try.f71) (sh := qj3) (os := qpO) rfl Try.func71 rfl ⟨rfl, Nat.le_of_ble_eq_true rfl⟩ (qd (qET k)) (qEU k) (fun x => qbF (k + 1) x.1 x.2.1 x.2.2.1 x.2.2.2) (qEV k)

def quF (k : Nat) (num0 : Bool) (num1 : List Int) (den0 : Bool) (den1 : List Int) : Option (Bool × List Int × Bool × List Int × Int) :=
 Option.bind (qbu k num0 num1) fun r3 =>
 if ((r3 != (0 : Int)) = false) then
 Option.bind (qbu k den0 den1) fun r4 =>
 if ((r4 != (0 : Int)) = true) then
 (some (false, [], false, [], (10 : Int)))
 else
 if (((((List.length den1) : Nat) : Int) == (0 : Int)) = true) then
 (some (false, [], false, [], (11 : Int)))
 else
 Option.bind (qa8 k num0 num1) fun r5 =>
 Option.bind (qa8 k den0 den1) fun r6 =>
 Option.bind (qbt k r5.1 r5.2 r6.1 r6.2) fun r7 =>
 Option.bind (qbF k r7.2.2.2.2.1 r7.2.2.2.2.2.1 r7.2.2.2.2.2.2.1 r7.2.2.2.2.2.2.2) fun r8 =>
 (some (r8.1, r8.2.1, r8.2.2.1, r8.2.2.2.1, r8.2.2.2.2.1))
 else
 (some (false, [], false, [], (10 : Int)))
def qgx : Nat → Bool → List Int → Bool → List Int → Option (Bool × List Int × Bool × List Int × Int)
 | 0, _, _, _, _ => none
 | k + 1, num0, num1, den0, den1 => quF k num0 num1 den0 den1
def qj4 : FS := { vs := [.g [.lf .bool, .lf (.sl (.int .u32))], .g [.lf .bool, .lf (.sl (.int .u32))]], bs := [] }
def qpP : List FS := [{ vs := [.g [.lf .bool, .lf (.sl (.int .u32)), .lf .bool, .lf (.sl (.int .u32))], .a (.lf (.int .i64))], bs := [] }]
def qwa (k : Nat) : Inst := ⟨34, qj4, qpP, fun x => qgx k x.1 x.2.1 x.2.2.1 x.2.2.2⟩
theorem qEW (k : Nat) : qn (call cf k) [qhz k, qfS k, Iq0 k, qlq k] := qA (qpo k) (qA (qmt k) (qA (qtp k) (qA (qtF k) qT)))
theorem qEX (k : Nat) : qf (LOk (R := DS FS.D qpP) (fun b _ σ K => LOt Ty (kps 34) 0 b σ K []) cf (call cf k) (cf.keep 34) Try.f34.ntmps k qj4.bs.length) 0 (bd Try.f34) :=
 qA qT (qA (qA qT (qA (qA qT qT) qT)) (qA (qA qT (qA (qA qT qT) qT)) (qA qT qT)))
theorem qEY (k : Nat) (x : qj4.D) : qgx (k + 1) x.1 x.2.1 x.2.2.1 x.2.2.2 = qi cf (fun f a b K => COt f a b K [qhz k, qfS k, Iq0 k, qlq k]) (fun b _ σ K => LOt Ty (kps 34) 0 b σ K []) 34 Try.f34.ntmps Try.f34.results.toList (bd Try.f34) (qj4.enc x).1 (qj4.enc x).2 (qj FS.dec qpP) := by kernel_rfl
theorem qEZ : ∀ k, qh (call cf k) (qwa k)
 | 0 => fun x y e => absurd (show (none : Option _) = some y from e) (by simp)
 | k + 1 => qe (c := cf) (k := k) (f := 34) (fn := Try.f34) (body := bd Try.f34) (sh := qj4) (os := qpP) rfl Try.func34 rfl ⟨rfl, Nat.le_of_ble_eq_true rfl⟩ (qd (qEW k)) (qEX k) (fun x => qgx (k + 1) x.1 x.2.1 x.2.2.1 x.2.2.2) (qEY k)

def qgI (k : Nat) (m0 : ByteArray) (m1 : Int) (m2 : List (Int × Int)) (m3 : List (Int × Int)) (k1 : Int) (u0 : Bool) (u1 : List Int) (u2 : Bool) (u3 : List Int) : Option (Int × Int) :=
 Option.bind (qc9 k m0 m1 m2 m3 k1) fun r4 =>
 if ((r4 != (0 : Int)) = true) then
 (some ((0 : Int), r4))
 else
 Option.bind (qdE k u0 u1 u2 u3) fun r5 =>
 if ((r5 != (0 : Int)) = true) then
 (some ((0 : Int), r5))
 else
 Option.bind (qbf k u0 u1 u2 u3) fun r6 =>
 if ((decide (k1 > (0 : Int))) = true) then
 Option.bind (qbv k m0 m1 m2 m3 (IntKind.wrap .i64 (k1 - (1 : Int)))) fun r7 =>
 Option.bind (qaA k r6.1 r6.2.1 r6.2.2.1 r6.2.2.2 r7.1 r7.2.1 r7.2.2.1 r7.2.2.2) fun r8 =>
 if ((decide (r8.1 < (0 : Int))) = true) then
 (some ((-(1 : Int)), (0 : Int)))
 else
 if ((decide (k1 < (((List.length m3) : Nat) : Int))) = true) then
 Option.bind (qbv k m0 m1 m2 m3 k1) fun r9 =>
 Option.bind (qaA k r8.2.1 r8.2.2.1 r8.2.2.2.1 r8.2.2.2.2.1 r9.1 r9.2.1 r9.2.2.1 r9.2.2.2) fun r10 =>
 if ((decide (r10.1 > (0 : Int))) = true) then
 (some ((1 : Int), (0 : Int)))
 else
 (some ((0 : Int), (0 : Int)))
 else
 (some ((0 : Int), (0 : Int)))
 else
 if ((decide (k1 < (((List.length m3) : Nat) : Int))) = true) then
 Option.bind (qbv k m0 m1 m2 m3 k1) fun r7 =>
 Option.bind (qaA k r6.1 r6.2.1 r6.2.2.1 r6.2.2.2 r7.1 r7.2.1 r7.2.2.1 r7.2.2.2) fun r8 =>
 if ((decide (r8.1 > (0 : Int))) = true) then
 (some ((1 : Int), (0 : Int)))
 else
 (some ((0 : Int), (0 : Int)))
 else
 (some ((0 : Int), (0 : Int)))
def qdn : Nat → ByteArray → Int → List (Int × Int) → List (Int × Int) → Int → Bool → List Int → Bool → List Int → Option (Int × Int)
 | 0, _, _, _, _, _, _, _, _, _ => none
 | k + 1, m0, m1, m2, m3, k1, u0, u1, u2, u3 => qgI k m0 m1 m2 m3 k1 u0 u1 u2 u3
def qj5 : FS := { vs := [.g [.lf .str, .lf (.int .u8), .lf (.sl (.pr (.int .i64) (.int .i64))), .lf (.sl (.pr (.int .i64) (.int .i64)))], .a (.lf (.int .i64)), .g [.lf .bool, .lf (.sl (.int .u32)), .lf .bool, .lf (.sl (.int .u32))]], bs := [] }
def qpQ : List FS := [{ vs := [.a (.lf (.int .i64)), .a (.lf (.int .i64))], bs := [] }]
def qog (k : Nat) : Inst := ⟨14, qj5, qpQ, fun x => qdn k x.1 x.2.1 x.2.2.1 x.2.2.2.1 x.2.2.2.2.1 x.2.2.2.2.2.1 x.2.2.2.2.2.2.1 x.2.2.2.2.2.2.2.1 x.2.2.2.2.2.2.2.2⟩
theorem qE0 (k : Nat) : qn (call cf k) [qoa k, qn3 k, qfc k, qoc k, qlk k] := qA (qxc k) (qA (qw7 k) (qA (qid k) (qA (qxf k) (qA (qtB k) qT))))
theorem qE1 (k : Nat) : qf (LOk (R := DS FS.D qpQ) (fun b _ σ K => LOt Ty (kps 14) 0 b σ K []) cf (call cf k) (cf.keep 14) Try.f14.ntmps k qj5.bs.length) 0 (bd Try.f14) :=
 qA qT (qA (qA qT (qA qT (qA (qA qT qT) qT))) (qA (qA qT (qA qT (qA (qA qT qT) qT))) (qA qT (qA (qA qT (qA (qA qT qT) qT)) (qA (qA qT (qA (qA qT qT) qT)) (qA qT qT))))))
theorem qE2 (k : Nat) (x : qj5.D) : qdn (k + 1) x.1 x.2.1 x.2.2.1 x.2.2.2.1 x.2.2.2.2.1 x.2.2.2.2.2.1 x.2.2.2.2.2.2.1 x.2.2.2.2.2.2.2.1 x.2.2.2.2.2.2.2.2 = qi cf (fun f a b K => COt f a b K [qoa k, qn3 k, qfc k, qoc k, qlk k]) (fun b _ σ K => LOt Ty (kps 14) 0 b σ K []) 14 Try.f14.ntmps Try.f14.results.toList (bd Try.f14) (qj5.enc x).1 (qj5.enc x).2 (qj FS.dec qpQ) := by kernel_rfl
theorem qxj : ∀ k, qh (call cf k) (qog k)
 | 0 => fun x y e => absurd (show (none : Option _) = some y from e) (by simp)
 | k + 1 => qe (c := cf) (k := k) (f := 14) (fn := Try.f14) (body := bd Try.f14) (sh := qj5) (os := qpQ) rfl Try.func14 rfl ⟨rfl, Nat.le_of_ble_eq_true rfl⟩ (qd (qE0 k)) (qE1 k) (fun x => qdn (k + 1) x.1 x.2.1 x.2.2.1 x.2.2.2.1 x.2.2.2.2.1 x.2.2.2.2.2.1 x.2.2.2.2.2.2.1 x.2.2.2.2.2.2.2.1 x.2.2.2.2.2.2.2.2) (qE2 k)

def qdy (k : Nat) (rec : Int → ByteArray → Int → List (Int × Int) → List (Int × Int) → Bool → List Int → Bool → List Int → Option (Int × Int × ByteArray × Int × List (Int × Int) × List (Int × Int) × Bool × List Int × Bool × List Int)) (k1 : Int) (m0 : ByteArray) (m1 : Int) (m2 : List (Int × Int)) (m3 : List (Int × Int)) (u0 : Bool) (u1 : List Int) (u2 : Bool) (u3 : List Int) : Option (Int × Int × ByteArray × Int × List (Int × Int) × List (Int × Int) × Bool × List Int × Bool × List Int) :=
 Option.bind (qdn k m0 m1 m2 m3 k1 u0 u1 u2 u3) fun r5 =>
 if ((r5.2 != (0 : Int)) = true) then
 (some ((0 : Int), r5.2, m0, m1, m2, m3, u0, u1, u2, u3))
 else
 if ((r5.1 == (0 : Int)) = true) then
 (some (k1, (0 : Int), m0, m1, m2, m3, u0, u1, u2, u3))
 else
 rec (IntKind.wrap .i64 (k1 + (1 : Int))) m0 m1 m2 m3 u0 u1 u2 u3
def qbw (k n : Nat) : Int → ByteArray → Int → List (Int × Int) → List (Int × Int) → Bool → List Int → Bool → List Int → Option (Int × Int × ByteArray × Int × List (Int × Int) × List (Int × Int) × Bool × List Int × Bool × List Int) := Nat.rec (fun _ _ _ _ _ _ _ _ _ => none) (fun _ r => qdy k r) n
def qrV (k : Nat) (m0 : ByteArray) (m1 : Int) (m2 : List (Int × Int)) (m3 : List (Int × Int)) (u0 : Bool) (u1 : List Int) (u2 : Bool) (u3 : List Int) : Option (Int × Int) :=
 Option.bind (qbw k k (0 : Int) m0 m1 m2 m3 u0 u1 u2 u3) fun r5 =>
 (some (r5.1, r5.2.1))
def qc7 : Nat → ByteArray → Int → List (Int × Int) → List (Int × Int) → Bool → List Int → Bool → List Int → Option (Int × Int)
 | 0, _, _, _, _, _, _, _, _ => none
 | k + 1, m0, m1, m2, m3, u0, u1, u2, u3 => qrV k m0 m1 m2 m3 u0 u1 u2 u3
def qj6 : FS := { vs := [.g [.lf .str, .lf (.int .u8), .lf (.sl (.pr (.int .i64) (.int .i64))), .lf (.sl (.pr (.int .i64) (.int .i64)))], .g [.lf .bool, .lf (.sl (.int .u32)), .lf .bool, .lf (.sl (.int .u32))]], bs := [] }
def qpR : List FS := [{ vs := [.a (.lf (.int .i64)), .a (.lf (.int .i64))], bs := [] }]
def qoh (k : Nat) : Inst := ⟨15, qj6, qpR, fun x => qc7 k x.1 x.2.1 x.2.2.1 x.2.2.2.1 x.2.2.2.2.1 x.2.2.2.2.2.1 x.2.2.2.2.2.2.1 x.2.2.2.2.2.2.2⟩
theorem qxk (k : Nat) : qn (call cf k) [qog k] := qA (qxj k) qT
def qiw : List SS := [{ fr := [(2, .a (.ptr 0 0 0)), (3, .a (.ptr 1 0 0)), (6, .a (.lf (.int .i64)))], mem := [(0, some (.raw [[.lf .str, .lf (.int .u8), .lf (.sl (.pr (.int .i64) (.int .i64))), .lf (.sl (.pr (.int .i64) (.int .i64)))]] 4 24 true false)), (1, some (.raw [[.lf .bool, .lf (.sl (.int .u32)), .lf .bool, .lf (.sl (.int .u32))]] 4 29 true false))], nx := 2 }]
def qmT : List OS := [⟨none, { fr := [(4, .a (.lf (.int .i64))), (5, .a (.lf (.int .i64)))], mem := [(0, some (.raw [[.lf .str, .lf (.int .u8), .lf (.sl (.pr (.int .i64) (.int .i64))), .lf (.sl (.pr (.int .i64) (.int .i64)))]] 4 24 true false)), (1, some (.raw [[.lf .bool, .lf (.sl (.int .u32)), .lf .bool, .lf (.sl (.int .u32))]] 4 29 true false))], nx := 2 }⟩]
def qmU (k : Nat) : LInst := ⟨0, qiw, qmT, fun x => qbw k k x.1 x.2.1 x.2.2.1 x.2.2.2.1 x.2.2.2.2.1 x.2.2.2.2.2.1 x.2.2.2.2.2.2.1 x.2.2.2.2.2.2.2.1 x.2.2.2.2.2.2.2.2⟩
theorem qAG (k : Nat) : qf (LOk (R := DS OS.D qmT) (fun b _ σ K => LOt Ty (kps 15) 0 b σ K []) cf (call cf k) (kps 15) Try.f15.ntmps k 0) 0 (lb Try.f15 0) :=
 qA (qA qT (qA (qA qT (qA (qA qT qT) qT)) (qA qT (qA (qA qT qT) qT)))) qT
theorem qAH (k n : Nat) (x : DS SS.D qiw) : qbw k (n + 1) x.1 x.2.1 x.2.2.1 x.2.2.2.1 x.2.2.2.2.1 x.2.2.2.2.2.1 x.2.2.2.2.2.2.1 x.2.2.2.2.2.2.2.1 x.2.2.2.2.2.2.2.2 = qE SS.enc (fun σ => qF cf (fun f a b K => COt f a b K [qog k]) (fun b _ σ K => LOt Ty (kps 15) 0 b σ K []) Try.f15.ntmps 0 (lb Try.f15 0) σ (qJ Ty (kps 15 0) 0 qiw qmT fun x => qbw k n x.1 x.2.1 x.2.2.1 x.2.2.2.1 x.2.2.2.2.1 x.2.2.2.2.2.1 x.2.2.2.2.2.2.1 x.2.2.2.2.2.2.2.1 x.2.2.2.2.2.2.2.2)) qiw x := by kernel_rfl
theorem qAI (k : Nat) : qac cf (call cf k) (kps 15) Try.f15.ntmps k 0 0 (lb Try.f15 0) (qmU k) :=
 qr (c := cf) (callF := call cf k) (kp := kps 15) (nt := Try.f15.ntmps) (k := k) (p := 0) (b := 0) (x0 := lb Try.f15 0) (hs := qiw) (os := qmT) (qd (qxk k)) (qAG k) (fun n x => qbw k n x.1 x.2.1 x.2.2.1 x.2.2.2.1 x.2.2.2.2.1 x.2.2.2.2.2.1 x.2.2.2.2.2.2.1 x.2.2.2.2.2.2.2.1 x.2.2.2.2.2.2.2.2) (fun _ => rfl) (qAH k)
theorem qE3 (k : Nat) : qf (LOk (R := DS FS.D qpR) (fun b _ σ K => LOt Ty (kps 15) 0 b σ K [qmU k]) cf (call cf k) (cf.keep 15) Try.f15.ntmps k qj6.bs.length) 0 (bd Try.f15) :=
 qA qT (qA qT (qz (c := cf) (callF := call cf k) (kp := kps 15) (nt := Try.f15.ntmps) (k := k) (p := 0) (b := 0) (x0 := lb Try.f15 0) (l := [qmU k]) (qA (fun _ => qAI k) qT)))
theorem qE4 (k : Nat) (x : qj6.D) : qc7 (k + 1) x.1 x.2.1 x.2.2.1 x.2.2.2.1 x.2.2.2.2.1 x.2.2.2.2.2.1 x.2.2.2.2.2.2.1 x.2.2.2.2.2.2.2 = qi cf (fun f a b K => COt f a b K [qog k]) (fun b _ σ K => LOt Ty (kps 15) 0 b σ K [qmU k]) 15 Try.f15.ntmps Try.f15.results.toList (bd Try.f15) (qj6.enc x).1 (qj6.enc x).2 (qj FS.dec qpR) := by kernel_rfl
theorem qxl : ∀ k, qh (call cf k) (qoh k)
 | 0 => fun x y e => absurd (show (none : Option _) = some y from e) (by simp)
 | k + 1 => qe (c := cf) (k := k) (f := 15) (fn := Try.f15) (body := bd Try.f15) (sh := qj6) (os := qpR) rfl Try.func15 rfl ⟨rfl, Nat.le_of_ble_eq_true rfl⟩ (qd (qxk k)) (qE3 k) (fun x => qc7 (k + 1) x.1 x.2.1 x.2.2.1 x.2.2.2.1 x.2.2.2.2.1 x.2.2.2.2.2.1 x.2.2.2.2.2.2.1 x.2.2.2.2.2.2.2) (qE4 k)

def qgJ (k : Nat) (rec : Nat → List Int → Int → Int → Bool → List Int → List Int → Option (Nat × List Int × Bool × List Int × List Int)) (out1 : Nat) (a : List Int) (r : Int) (i : Int) (z0 : Bool) (z1 : List Int) (outs : List Int) : Option (Nat × List Int × Bool × List Int × List Int) :=
 if ((decide (i < (9 : Int))) = true) then
 if ((decide (r > (0 : Int))) = false) then
 if ((decide ((((List.length a) : Nat) : Int) > (0 : Int))) = true) then
 if (out1 ≤ (List.length outs)) then
 if (((out1 + (List.length (List.take 1 ((IntKind.wrap .u8 (IntKind.wrap .u32 ((48 : Int) + (Int.tmod r (10 : Int))))) :: [])))) * 1) ≤ 140737488355328) then
 rec (out1 + (List.length (List.take 1 ((IntKind.wrap .u8 (IntKind.wrap .u32 ((48 : Int) + (Int.tmod r (10 : Int))))) :: [])))) a (IntKind.wrap .u32 (Int.tdiv r (10 : Int))) (IntKind.wrap .i64 (i + (1 : Int))) z0 z1 ((List.take out1 outs) ++ (List.take 1 ((IntKind.wrap .u8 (IntKind.wrap .u32 ((48 : Int) + (Int.tmod r (10 : Int))))) :: [])))
 else
 none
 else
 none
 else
 (some (out1, a, z0, z1, outs))
 else
 if (out1 ≤ (List.length outs)) then
 if (((out1 + (List.length (List.take 1 ((IntKind.wrap .u8 (IntKind.wrap .u32 ((48 : Int) + (Int.tmod r (10 : Int))))) :: [])))) * 1) ≤ 140737488355328) then
 rec (out1 + (List.length (List.take 1 ((IntKind.wrap .u8 (IntKind.wrap .u32 ((48 : Int) + (Int.tmod r (10 : Int))))) :: [])))) a (IntKind.wrap .u32 (Int.tdiv r (10 : Int))) (IntKind.wrap .i64 (i + (1 : Int))) z0 z1 ((List.take out1 outs) ++ (List.take 1 ((IntKind.wrap .u8 (IntKind.wrap .u32 ((48 : Int) + (Int.tmod r (10 : Int))))) :: [])))
 else
 none
 else
 none
 else
 (some (out1, a, z0, z1, outs))
def qb2 (k n : Nat) : Nat → List Int → Int → Int → Bool → List Int → List Int → Option (Nat × List Int × Bool × List Int × List Int) := Nat.rec (fun _ _ _ _ _ _ _ => none) (fun _ r => qgJ k r) n
def qgK (k : Nat) (rec : Nat → List Int → Bool → List Int → List Int → Option (Nat × Bool × List Int × List Int)) (out1 : Nat) (a : List Int) (z0 : Bool) (z1 : List Int) (outs : List Int) : Option (Nat × Bool × List Int × List Int) :=
 if ((decide ((((List.length a) : Nat) : Int) > (0 : Int))) = true) then
 Option.bind (qej k a (1000000000 : Int)) fun r8 =>
 Option.bind (qcm k r8.1) fun r9 =>
 Option.bind (qb2 k k out1 r9 r8.2 (0 : Int) z0 z1 outs) fun r10 =>
 rec r10.1 r10.2.1 r10.2.2.1 r10.2.2.2.1 r10.2.2.2.2
 else
 (some (out1, z0, z1, outs))
def qb3 (k n : Nat) : Nat → List Int → Bool → List Int → List Int → Option (Nat × Bool × List Int × List Int) := Nat.rec (fun _ _ _ _ _ => none) (fun _ r => qgK k r) n
def qgL (k : Nat) (rec : Nat → Int → Int → Bool → List Int → List Int → Option (Nat × Bool × List Int × List Int)) (out1 : Nat) (i : Int) (j : Int) (m0 : Bool) (m1 : List Int) (outs : List Int) : Option (Nat × Bool × List Int × List Int) :=
 if ((decide (i < j)) = true) then
 if (((0 : Int) ≤ j) ∧ (j < ((out1 : Nat) : Int))) then
 Option.bind (outs)[(0 + (Int.toNat j))]? fun x =>
 if (((0 : Int) ≤ i) ∧ (i < ((out1 : Nat) : Int))) then
 Option.bind (outs)[(0 + (Int.toNat i))]? fun x1 =>
 if (((0 : Int) ≤ i) ∧ (i < ((out1 : Nat) : Int))) then
 Option.bind (outs)[(0 + (Int.toNat i))]? fun x2 =>
 if (((0 : Int) ≤ j) ∧ (j < ((out1 : Nat) : Int))) then
 Option.bind ((List.set outs (0 + (Int.toNat i)) x))[(0 + (Int.toNat j))]? fun x3 =>
 rec out1 (IntKind.wrap .i64 (i + (1 : Int))) (IntKind.wrap .i64 (j - (1 : Int))) m0 m1 (List.set (List.set outs (0 + (Int.toNat i)) x) (0 + (Int.toNat j)) x1)
 else
 none
 else
 none
 else
 none
 else
 none
 else
 (some (out1, m0, m1, outs))
def qba (k n : Nat) : Nat → Int → Int → Bool → List Int → List Int → Option (Nat × Bool × List Int × List Int) := Nat.rec (fun _ _ _ _ _ _ => none) (fun _ r => qgL k r) n
def qhJ (k : Nat) (z0 : Bool) (z1 : List Int) : Option (ByteArray × Bool × List Int) :=
 if (((((List.length z1) : Nat) : Int) == (0 : Int)) = true) then
 (some ((ByteArray.mk (List.toArray (48 :: []))), z0, z1))
 else
 Option.bind (qb3 k k 0 z1 z0 z1 []) fun r8 =>
 if (r8.2.1 = true) then
 if (r8.1 ≤ (List.length r8.2.2.2)) then
 if (((r8.1 + 1) * 1) ≤ 140737488355328) then
 Option.bind (qba k k (r8.1 + 1) (0 : Int) (IntKind.wrap .i64 ((((r8.1 + 1) : Nat) : Int) - (1 : Int))) r8.2.1 r8.2.2.1 ((List.take r8.1 r8.2.2.2) ++ (List.take 1 ((45 : Int) :: [])))) fun r9 =>
 if ((0 + r9.1) ≤ (List.length r9.2.2.2)) then
 (some ((ByteArray.mk (List.toArray (List.map (fun n => n.toNat.toUInt8) (List.take r9.1 r9.2.2.2)))), r9.2.1, r9.2.2.1))
 else
 none
 else
 none
 else
 none
 else
 Option.bind (qba k k r8.1 (0 : Int) (IntKind.wrap .i64 (((r8.1 : Nat) : Int) - (1 : Int))) r8.2.1 r8.2.2.1 r8.2.2.2) fun r9 =>
 if ((0 + r9.1) ≤ (List.length r9.2.2.2)) then
 (some ((ByteArray.mk (List.toArray (List.map (fun n => n.toNat.toUInt8) (List.take r9.1 r9.2.2.2)))), r9.2.1, r9.2.2.1))
 else
 none
def qdd : Nat → Bool → List Int → Option (ByteArray × Bool × List Int)
 | 0, _, _ => none
 | k + 1, z0, z1 => qhJ k z0 z1
def qj7 : FS := { vs := [.a (.ptr 0 0 0)], bs := [.raw [[.lf .bool, .lf (.sl (.int .u32))]] 2 98 true false] }
def qpS : List FS := [{ vs := [.a (.lf .str)], bs := [.raw [[.lf .bool, .lf (.sl (.int .u32))]] 2 98 true false] }]
def qwb (k : Nat) : Inst := ⟨76, qj7, qpS, fun x => qdd k x.1 x.2⟩
theorem qpT (k : Nat) : qn (call cf k) [qh1 k, qd2 k] := qA (qw0 k) (qA (qjf k) qT)
def qix : List SS := [{ fr := [(0, .a (.ptr 0 0 0)), (3, .a (.smz 1)), (4, .a (.lf (.sl (.int .u32)))), (6, .a (.lf (.int .u32))), (7, .a (.lf (.int .i64)))], mem := [(0, some (.raw [[.lf .bool, .lf (.sl (.int .u32))]] 2 98 true false)), (1, some (.arr (.int .u8) 1 5 false))], nx := 2 }]
def qmV : List OS := [⟨some 2, { fr := [(0, .a (.ptr 0 0 0)), (3, .a (.smz 1)), (4, .a (.lf (.sl (.int .u32))))], mem := [(0, some (.raw [[.lf .bool, .lf (.sl (.int .u32))]] 2 98 true false)), (1, some (.arr (.int .u8) 1 5 false))], nx := 2 }⟩]
def qeC (k : Nat) : LInst := ⟨2, qix, qmV, fun x => qb2 k k x.1 x.2.1 x.2.2.1 x.2.2.2.1 x.2.2.2.2.1 x.2.2.2.2.2.1 x.2.2.2.2.2.2⟩
theorem qAJ (k : Nat) : qf (LOk (R := DS OS.D qmV) (fun b _ σ K => LOt Ty (kps 76) 1 b σ K []) cf (call cf k) (kps 76) Try.f76.ntmps k 1) 2 (lb Try.f76 1) :=
 qA (qA qT (qA qT qT)) (qA (qA qT qT) qT)
theorem qAK (k n : Nat) (x : DS SS.D qix) : qb2 k (n + 1) x.1 x.2.1 x.2.2.1 x.2.2.2.1 x.2.2.2.2.1 x.2.2.2.2.2.1 x.2.2.2.2.2.2 = qE SS.enc (fun σ => qF cf (fun f a b K => COt f a b K [qh1 k, qd2 k]) (fun b _ σ K => LOt Ty (kps 76) 1 b σ K []) Try.f76.ntmps 2 (lb Try.f76 1) σ (qJ Ty (kps 76 2) 1 qix qmV fun x => qb2 k n x.1 x.2.1 x.2.2.1 x.2.2.2.1 x.2.2.2.2.1 x.2.2.2.2.2.1 x.2.2.2.2.2.2)) qix x := by kernel_rfl
theorem qAL (k : Nat) : qac cf (call cf k) (kps 76) Try.f76.ntmps k 1 2 (lb Try.f76 1) (qeC k) :=
 qr (c := cf) (callF := call cf k) (kp := kps 76) (nt := Try.f76.ntmps) (k := k) (p := 1) (b := 2) (x0 := lb Try.f76 1) (hs := qix) (os := qmV) (qd (qpT k)) (qAJ k) (fun n x => qb2 k n x.1 x.2.1 x.2.2.1 x.2.2.2.1 x.2.2.2.2.1 x.2.2.2.2.2.1 x.2.2.2.2.2.2) (fun _ => rfl) (qAK k)
def qiy : List SS := [{ fr := [(0, .a (.ptr 0 0 0)), (3, .a (.smz 1)), (4, .a (.lf (.sl (.int .u32))))], mem := [(0, some (.raw [[.lf .bool, .lf (.sl (.int .u32))]] 2 98 true false)), (1, some (.arr (.int .u8) 1 5 false))], nx := 2 }]
def qmW : List OS := [⟨some 0, { fr := [(0, .a (.ptr 0 0 0)), (3, .a (.smz 1))], mem := [(0, some (.raw [[.lf .bool, .lf (.sl (.int .u32))]] 2 98 true false)), (1, some (.arr (.int .u8) 1 5 false))], nx := 2 }⟩]
def qge (k : Nat) : LInst := ⟨0, qiy, qmW, fun x => qb3 k k x.1 x.2.1 x.2.2.1 x.2.2.2.1 x.2.2.2.2⟩
theorem qAM (k : Nat) : qf (LOk (R := DS OS.D qmW) (fun b _ σ K => LOt Ty (kps 76) 1 b σ K [qeC k]) cf (call cf k) (kps 76) Try.f76.ntmps k 1) 0 (lb Try.f76 0) :=
 qA (qA qT (qA qT qT)) (qA qT (qA qT (qA qT (qz (c := cf) (callF := call cf k) (kp := kps 76) (nt := Try.f76.ntmps) (k := k) (p := 1) (b := 2) (x0 := lb Try.f76 1) (l := [qeC k]) (qA (fun _ => qAL k) qT)))))
theorem qAN (k n : Nat) (x : DS SS.D qiy) : qb3 k (n + 1) x.1 x.2.1 x.2.2.1 x.2.2.2.1 x.2.2.2.2 = qE SS.enc (fun σ => qF cf (fun f a b K => COt f a b K [qh1 k, qd2 k]) (fun b _ σ K => LOt Ty (kps 76) 1 b σ K [qeC k]) Try.f76.ntmps 0 (lb Try.f76 0) σ (qJ Ty (kps 76 0) 1 qiy qmW fun x => qb3 k n x.1 x.2.1 x.2.2.1 x.2.2.2.1 x.2.2.2.2)) qiy x := by kernel_rfl
theorem qAO (k : Nat) : qac cf (call cf k) (kps 76) Try.f76.ntmps k 1 0 (lb Try.f76 0) (qge k) :=
 qr (c := cf) (callF := call cf k) (kp := kps 76) (nt := Try.f76.ntmps) (k := k) (p := 1) (b := 0) (x0 := lb Try.f76 0) (hs := qiy) (os := qmW) (qd (qpT k)) (qAM k) (fun n x => qb3 k n x.1 x.2.1 x.2.2.1 x.2.2.2.1 x.2.2.2.2) (fun _ => rfl) (qAN k)
def qiz : List SS := [{ fr := [(3, .a (.smz 1)), (8, .a (.lf (.int .i64))), (9, .a (.lf (.int .i64)))], mem := [(0, some (.raw [[.lf .bool, .lf (.sl (.int .u32))]] 2 98 true false)), (1, some (.arr (.int .u8) 1 5 false))], nx := 2 }]
def qmX : List OS := [⟨some 4, { fr := [(3, .a (.smz 1))], mem := [(0, some (.raw [[.lf .bool, .lf (.sl (.int .u32))]] 2 98 true false)), (1, some (.arr (.int .u8) 1 5 false))], nx := 2 }⟩]
def qiA (k : Nat) : LInst := ⟨4, qiz, qmX, fun x => qba k k x.1 x.2.1 x.2.2.1 x.2.2.2.1 x.2.2.2.2.1 x.2.2.2.2.2⟩
theorem qAP (k : Nat) : qf (LOk (R := DS OS.D qmX) (fun b _ σ K => LOt Ty (kps 76) 1 b σ K [qeC k, qge k]) cf (call cf k) (kps 76) Try.f76.ntmps k 1) 4 (lb Try.f76 2) :=
 qA (qA qT (qA qT qT)) (qA qT qT)
theorem qAQ (k n : Nat) (x : DS SS.D qiz) : qba k (n + 1) x.1 x.2.1 x.2.2.1 x.2.2.2.1 x.2.2.2.2.1 x.2.2.2.2.2 = qE SS.enc (fun σ => qF cf (fun f a b K => COt f a b K [qh1 k, qd2 k]) (fun b _ σ K => LOt Ty (kps 76) 1 b σ K [qeC k, qge k]) Try.f76.ntmps 4 (lb Try.f76 2) σ (qJ Ty (kps 76 4) 1 qiz qmX fun x => qba k n x.1 x.2.1 x.2.2.1 x.2.2.2.1 x.2.2.2.2.1 x.2.2.2.2.2)) qiz x := by kernel_rfl
theorem qAR (k : Nat) : qac cf (call cf k) (kps 76) Try.f76.ntmps k 1 4 (lb Try.f76 2) (qiA k) :=
 qr (c := cf) (callF := call cf k) (kp := kps 76) (nt := Try.f76.ntmps) (k := k) (p := 1) (b := 4) (x0 := lb Try.f76 2) (hs := qiz) (os := qmX) (qd (qpT k)) (qAP k) (fun n x => qba k n x.1 x.2.1 x.2.2.1 x.2.2.2.1 x.2.2.2.2.1 x.2.2.2.2.2) (fun _ => rfl) (qAQ k)
theorem qE5 (k : Nat) : qf (LOk (R := DS FS.D qpS) (fun b _ σ K => LOt Ty (kps 76) 1 b σ K [qeC k, qge k, qiA k]) cf (call cf k) (cf.keep 76) Try.f76.ntmps k qj7.bs.length) 0 (bd Try.f76) :=
 qA qT (qA (qA qT (qA (qA qT qT) qT)) (qA qT (qA (qA qT (qz (c := cf) (callF := call cf k) (kp := kps 76) (nt := Try.f76.ntmps) (k := k) (p := 1) (b := 0) (x0 := lb Try.f76 0) (l := [qeC k, qge k, qiA k]) (qA (fun h => absurd (show (2 : Nat) = 0 from h) (by decide)) (qA (fun _ => qAO k) (qA (fun h => absurd (show (4 : Nat) = 0 from h) (by decide)) qT))))) (qA (qA qT (qA qT qT)) (qA (qA qT (qz (c := cf) (callF := call cf k) (kp := kps 76) (nt := Try.f76.ntmps) (k := k) (p := 1) (b := 4) (x0 := lb Try.f76 2) (l := [qeC k, qge k, qiA k]) (qA (fun h => absurd (show (2 : Nat) = 4 from h) (by decide)) (qA (fun h => absurd (show (0 : Nat) = 4 from h) (by decide)) (qA (fun _ => qAR k) qT))))) (qA qT qT))))))
theorem qE6 (k : Nat) (x : qj7.D) : qdd (k + 1) x.1 x.2 = qi cf (fun f a b K => COt f a b K [qh1 k, qd2 k]) (fun b _ σ K => LOt Ty (kps 76) 1 b σ K [qeC k, qge k, qiA k]) 76 Try.f76.ntmps Try.f76.results.toList (bd Try.f76) (qj7.enc x).1 (qj7.enc x).2 (qj FS.dec qpS) := by kernel_rfl
theorem qE7 : ∀ k, qh (call cf k) (qwb k)
 | 0 => fun x y e => absurd (show (none : Option _) = some y from e) (by simp)
 | k + 1 => qe (c := cf) (k := k) (f := 76) (fn := Try.f76) (body := bd Try.f76) (sh := qj7) (os := qpS) rfl Try.func76 rfl ⟨rfl, Nat.le_of_ble_eq_true rfl⟩ (qd (qpT k)) (qE5 k) (fun x => qdd (k + 1) x.1 x.2) (qE6 k)

def qtG (k : Nat) (a0 : Bool) (a1 : List Int) : Option (ByteArray × Int) :=
 Option.bind (qbu k a0 a1) fun r6 =>
 if ((r6 != (0 : Int)) = true) then
 (some ((ByteArray.mk (List.toArray [])), r6))
 else
 Option.bind (qa8 k a0 a1) fun r7 =>
 Option.bind (qdd k r7.1 r7.2) fun r8 =>
 (some (r8.1, (0 : Int)))
def qfT : Nat → Bool → List Int → Option (ByteArray × Int)
 | 0, _, _ => none
 | k + 1, a0, a1 => qtG k a0 a1
def qj8 : FS := { vs := [.g [.lf .bool, .lf (.sl (.int .u32))]], bs := [] }
def qpU : List FS := [{ vs := [.a (.lf .str), .a (.lf (.int .i64))], bs := [] }]
def qwc (k : Nat) : Inst := ⟨36, qj8, qpU, fun x => qfT k x.1 x.2⟩
theorem qE8 (k : Nat) : qn (call cf k) [qhz k, qfS k, qwb k] := qA (qpo k) (qA (qmt k) (qA (qE7 k) qT))
theorem qE9 (k : Nat) : qf (LOk (R := DS FS.D qpU) (fun b _ σ K => LOt Ty (kps 36) 0 b σ K []) cf (call cf k) (cf.keep 36) Try.f36.ntmps k qj8.bs.length) 0 (bd Try.f36) :=
 qA qT (qA (qA qT (qA qT (qA (qA qT qT) qT))) (qA qT qT))
theorem qFa (k : Nat) (x : qj8.D) : qfT (k + 1) x.1 x.2 = qi cf (fun f a b K => COt f a b K [qhz k, qfS k, qwb k]) (fun b _ σ K => LOt Ty (kps 36) 0 b σ K []) 36 Try.f36.ntmps Try.f36.results.toList (bd Try.f36) (qj8.enc x).1 (qj8.enc x).2 (qj FS.dec qpU) := by kernel_rfl
theorem qFb : ∀ k, qh (call cf k) (qwc k)
 | 0 => fun x y e => absurd (show (none : Option _) = some y from e) (by simp)
 | k + 1 => qe (c := cf) (k := k) (f := 36) (fn := Try.f36) (body := bd Try.f36) (sh := qj8) (os := qpU) rfl Try.func36 rfl ⟨rfl, Nat.le_of_ble_eq_true rfl⟩ (qd (qE8 k)) (qE9 k) (fun x => qfT (k + 1) x.1 x.2) (qFa k)

def qrf (k : Nat) (m0 : ByteArray) (m1 : Int) (m2 : List (Int × Int)) (m3 : List (Int × Int)) : Option (Int) :=
 Option.bind (qcP k m0 m1 m2 m3) fun r8 =>
 if ((!r8) = true) then
 (some (0 : Int))
 else
 (some (((List.length m2) : Nat) : Int))
def qec : Nat → ByteArray → Int → List (Int × Int) → List (Int × Int) → Option (Int)
 | 0, _, _, _, _ => none
 | k + 1, m0, m1, m2, m3 => qrf k m0 m1 m2 m3
def qj9 : FS := { vs := [.g [.lf .str, .lf (.int .u8), .lf (.sl (.pr (.int .i64) (.int .i64))), .lf (.sl (.pr (.int .i64) (.int .i64)))]], bs := [] }
def qpV : List FS := [{ vs := [.a (.lf (.int .i64))], bs := [] }]
def qwd (k : Nat) : Inst := ⟨38, qj9, qpV, fun x => qec k x.1 x.2.1 x.2.2.1 x.2.2.2⟩
theorem qFc (k : Nat) : qn (call cf k) [qlm k] := qA (qtC k) qT
theorem qFd (k : Nat) : qf (LOk (R := DS FS.D qpV) (fun b _ σ K => LOt Ty (kps 38) 0 b σ K []) cf (call cf k) (cf.keep 38) Try.f38.ntmps k qj9.bs.length) 0 (bd Try.f38) :=
 qA qT (qA (qA qT (qA (qA qT qT) qT)) (qA qT qT))
theorem qFe (k : Nat) (x : qj9.D) : qec (k + 1) x.1 x.2.1 x.2.2.1 x.2.2.2 = qi cf (fun f a b K => COt f a b K [qlm k]) (fun b _ σ K => LOt Ty (kps 38) 0 b σ K []) 38 Try.f38.ntmps Try.f38.results.toList (bd Try.f38) (qj9.enc x).1 (qj9.enc x).2 (qj FS.dec qpV) := by kernel_rfl
theorem qFf : ∀ k, qh (call cf k) (qwd k)
 | 0 => fun x y e => absurd (show (none : Option _) = some y from e) (by simp)
 | k + 1 => qe (c := cf) (k := k) (f := 38) (fn := Try.f38) (body := bd Try.f38) (sh := qj9) (os := qpV) rfl Try.func38 rfl ⟨rfl, Nat.le_of_ble_eq_true rfl⟩ (qd (qFc k)) (qFd k) (fun x => qec (k + 1) x.1 x.2.1 x.2.2.1 x.2.2.2) (qFe k)

def qkM (k : Nat) : Option (Bool) :=
 Option.bind (qcM k (ByteArray.mk (List.toArray (100 :: []))) (100 : Int) (List.take 2 (((1 : Int), (-(6 : Int))) :: (((1 : Int), (-(1 : Int))) :: []))) (List.take 1 (((7 : Int), (-(1 : Int))) :: [])) (1 : Int)) fun r =>
 Option.bind (qgd k (700000001 : Int)) fun r1 =>
 Option.bind (qgd k (1 : Int)) fun r2 =>
 Option.bind (qgx k r1.1 r1.2 r2.1 r2.2) fun r3 =>
 Option.bind (qdn k (ByteArray.mk (List.toArray (100 :: []))) (100 : Int) (List.take 2 (((1 : Int), (-(6 : Int))) :: (((1 : Int), (-(1 : Int))) :: []))) (List.take 1 (((7 : Int), (-(1 : Int))) :: [])) (0 : Int) r3.1 r3.2.1 r3.2.2.1 r3.2.2.2.1) fun r4 =>
 Option.bind (qc7 k (ByteArray.mk (List.toArray (100 :: []))) (100 : Int) (List.take 2 (((1 : Int), (-(6 : Int))) :: (((1 : Int), (-(1 : Int))) :: []))) (List.take 1 (((7 : Int), (-(1 : Int))) :: [])) r3.1 r3.2.1 r3.2.2.1 r3.2.2.2.1) fun r5 =>
 Option.bind (qfT k r.2.2.2.2.1 r.2.2.2.2.2.1) fun r6 =>
 if ((r.2.2.2.2.2.2.2.2 == (0 : Int)) = true) then
 if ((r4.2 == (0 : Int)) = true) then
 if ((r5.2 == (0 : Int)) = true) then
 if ((r6.2 == (0 : Int)) = true) then
 if ((r4.1 == (1 : Int)) = true) then
 if ((r5.1 == (1 : Int)) = true) then
 if (((Array.toList (ByteArray.data r6.1)) == (Array.toList (ByteArray.data (ByteArray.mk (List.toArray (45 :: (54 :: (57 :: (57 :: (57 :: (57 :: (51 :: (48 :: (48 :: [])))))))))))))) = true) then
 if (((((List.length r.2.2.2.1) : Nat) : Int) == (1 : Int)) = true) then
 Option.bind (r.2.2.2.1)[0]? fun x =>
 if ((x == (10 : Int)) = true) then
 Option.bind (qcP k (ByteArray.mk (List.toArray (100 :: []))) (100 : Int) (List.take 2 (((1 : Int), (-(6 : Int))) :: (((1 : Int), (-(1 : Int))) :: []))) (List.take 1 (((7 : Int), (-(1 : Int))) :: []))) fun r7 =>
 if (r7 = true) then
 Option.bind (qec k (ByteArray.mk (List.toArray (100 :: []))) (100 : Int) (List.take 2 (((1 : Int), (-(6 : Int))) :: (((1 : Int), (-(1 : Int))) :: []))) (List.take 1 (((7 : Int), (-(1 : Int))) :: []))) fun r8 =>
 if ((r8 == (2 : Int)) = true) then
 Option.bind (qec k (ByteArray.mk (List.toArray [])) (0 : Int) [] []) fun r9 =>
 (some (r9 == (0 : Int)))
 else
 (some false)
 else
 (some false)
 else
 (some false)
 else
 (some false)
 else
 (some false)
 else
 (some false)
 else
 (some false)
 else
 (some false)
 else
 (some false)
 else
 (some false)
 else
 (some false)
def qch : Nat → Option (Bool)
 | 0 => none
 | k + 1 => qkM k
def qka : FS := { vs := [], bs := [] }
def qpW : List FS := [{ vs := [.a (.lf .bool)], bs := [] }]
def qtH (k : Nat) : Inst := ⟨11, qka, qpW, fun x => qch k⟩
theorem qFg (k : Nat) : qn (call cf k) [qof k, qv9 k, qwa k, qog k, qoh k, qwc k, qlm k, qwd k] := qA (qxi k) (qA (qES k) (qA (qEZ k) (qA (qxj k) (qA (qxl k) (qA (qFb k) (qA (qtC k) (qA (qFf k) qT)))))))
theorem qFh (k : Nat) : qf (LOk (R := DS FS.D qpW) (fun b _ σ K => LOt Ty (kps 11) 0 b σ K []) cf (call cf k) (cf.keep 11) Try.f11.ntmps k qka.bs.length) 0 (bd Try.f11) :=
 qA qT (qA qT (qA qT (qA qT (qA qT (qA qT (qA qT (qA qT qT)))))))
theorem qFi (k : Nat) (x : qka.D) : qch (k + 1) = qi cf (fun f a b K => COt f a b K [qof k, qv9 k, qwa k, qog k, qoh k, qwc k, qlm k, qwd k]) (fun b _ σ K => LOt Ty (kps 11) 0 b σ K []) 11 Try.f11.ntmps Try.f11.results.toList (bd Try.f11) (qka.enc x).1 (qka.enc x).2 (qj FS.dec qpW) := by kernel_rfl
theorem qFj : ∀ k, qh (call cf k) (qtH k)
 | 0 => fun x y e => absurd (show (none : Option _) = some y from e) (by simp)
 | k + 1 => qe (c := cf) (k := k) (f := 11) (fn := Try.f11) (body := bd Try.f11) (sh := qka) (os := qpW) rfl Try.func11 rfl ⟨rfl, Nat.le_of_ble_eq_true rfl⟩ (qd (qFg k)) (qFh k) (fun x => qch (k + 1)) (qFi k)

def qa3 (k : Nat) (rec : ByteArray → Int → Option ((Bool) ⊕ (ByteArray))) (s : ByteArray) (i : Int) : Option ((Bool) ⊕ (ByteArray)) :=
 if ((decide (i < (((ByteArray.size s) : Nat) : Int))) = true) then
 if ((0 : Int) ≤ i) then
 Option.bind ((ByteArray.data s))[(Int.toNat i)]? fun x =>
 if ((decide ((((UInt8.toNat x) : Nat) : Int) < (97 : Int))) = false) then
 if ((decide ((((UInt8.toNat x) : Nat) : Int) > (122 : Int))) = true) then
 if ((decide ((((UInt8.toNat x) : Nat) : Int) < (48 : Int))) = false) then
 if ((decide ((((UInt8.toNat x) : Nat) : Int) > (57 : Int))) = true) then
 if (((((UInt8.toNat x) : Nat) : Int) != (95 : Int)) = true) then
 (some (Sum.inl false))
 else
 rec s (IntKind.wrap .i64 (i + (1 : Int)))
 else
 rec s (IntKind.wrap .i64 (i + (1 : Int)))
 else
 if (((((UInt8.toNat x) : Nat) : Int) != (95 : Int)) = true) then
 (some (Sum.inl false))
 else
 rec s (IntKind.wrap .i64 (i + (1 : Int)))
 else
 rec s (IntKind.wrap .i64 (i + (1 : Int)))
 else
 if ((decide ((((UInt8.toNat x) : Nat) : Int) < (48 : Int))) = false) then
 if ((decide ((((UInt8.toNat x) : Nat) : Int) > (57 : Int))) = true) then
 if (((((UInt8.toNat x) : Nat) : Int) != (95 : Int)) = true) then
 (some (Sum.inl false))
 else
 rec s (IntKind.wrap .i64 (i + (1 : Int)))
 else
 rec s (IntKind.wrap .i64 (i + (1 : Int)))
 else
 if (((((UInt8.toNat x) : Nat) : Int) != (95 : Int)) = true) then
 (some (Sum.inl false))
 else
 rec s (IntKind.wrap .i64 (i + (1 : Int)))
 else
 none
 else
 (some (Sum.inr s))
def qO (k n : Nat) : ByteArray → Int → Option ((Bool) ⊕ (ByteArray)) := Nat.rec (fun _ _ => none) (fun _ r => qa3 k r) n
def qeR (k : Nat) (s : ByteArray) : Option (Bool) :=
 Option.bind (qO k k s (0 : Int)) fun r1 =>
 qc r1
 (fun r1 =>
 (some r1))
 (fun r1 =>
 if ((decide ((((ByteArray.size r1) : Nat) : Int) ≥ (1 : Int))) = true) then
 (some (decide ((((ByteArray.size r1) : Nat) : Int) ≤ (16 : Int))))
 else
 (some false))
def qcD : Nat → ByteArray → Option (Bool)
 | 0, _ => none
 | k + 1, s => qeR k s
def qg3 : FS := { vs := [.a (.lf .str)], bs := [] }
def qmY : List FS := [{ vs := [.a (.lf .bool)], bs := [] }]
def qmZ (k : Nat) : Inst := ⟨66, qg3, qmY, fun x => qcD k x⟩
theorem quG (k : Nat) : qn (call cf k) [] := True.intro
def qiB : List SS := [{ fr := [(0, .a (.lf .str)), (3, .a (.lf (.int .i64)))], mem := [], nx := 0 }]
def qm0 : List OS := [⟨none, { fr := [(2, .a (.lf .bool))], mem := [], nx := 0 }⟩, ⟨some 0, { fr := [(0, .a (.lf .str))], mem := [], nx := 0 }⟩]
def qm1 (k : Nat) : LInst := ⟨0, qiB, qm0, fun x => qO k k x.1 x.2⟩
theorem qAS (k : Nat) : qf (LOk (R := DS OS.D qm0) (fun b _ σ K => LOt Ty (kps 66) 0 b σ K []) cf (call cf k) (kps 66) Try.f66.ntmps k 0) 0 (lb Try.f66 0) :=
 qA (qA qT (qA qT qT)) (qA (qA qT (qA qT (qA (qA qT qT) qT))) qT)
theorem qAT (k n : Nat) (x : DS SS.D qiB) : qO k (n + 1) x.1 x.2 = qE SS.enc (fun σ => qF cf (fun f a b K => COt f a b K []) (fun b _ σ K => LOt Ty (kps 66) 0 b σ K []) Try.f66.ntmps 0 (lb Try.f66 0) σ (qJ Ty (kps 66 0) 0 qiB qm0 fun x => qO k n x.1 x.2)) qiB x := by kernel_rfl
theorem qAU (k : Nat) : qac cf (call cf k) (kps 66) Try.f66.ntmps k 0 0 (lb Try.f66 0) (qm1 k) :=
 qr (c := cf) (callF := call cf k) (kp := kps 66) (nt := Try.f66.ntmps) (k := k) (p := 0) (b := 0) (x0 := lb Try.f66 0) (hs := qiB) (os := qm0) (qd (quG k)) (qAS k) (fun n x => qO k n x.1 x.2) (fun _ => rfl) (qAT k)
theorem qAV (k : Nat) : qf (LOk (R := DS FS.D qmY) (fun b _ σ K => LOt Ty (kps 66) 0 b σ K [qm1 k]) cf (call cf k) (cf.keep 66) Try.f66.ntmps k qg3.bs.length) 0 (bd Try.f66) :=
 qA qT (qA (qA qT (qz (c := cf) (callF := call cf k) (kp := kps 66) (nt := Try.f66.ntmps) (k := k) (p := 0) (b := 0) (x0 := lb Try.f66 0) (l := [qm1 k]) (qA (fun _ => qAU k) qT))) (qA qT qT))
theorem qAW (k : Nat) (x : qg3.D) : qcD (k + 1) x = qi cf (fun f a b K => COt f a b K []) (fun b _ σ K => LOt Ty (kps 66) 0 b σ K [qm1 k]) 66 Try.f66.ntmps Try.f66.results.toList (bd Try.f66) (qg3.enc x).1 (qg3.enc x).2 (qj FS.dec qmY) := by kernel_rfl
theorem qAX : ∀ k, qh (call cf k) (qmZ k)
 | 0 => fun x y e => absurd (show (none : Option _) = some y from e) (by simp)
 | k + 1 => qe (c := cf) (k := k) (f := 66) (fn := Try.f66) (body := bd Try.f66) (sh := qg3) (os := qmY) rfl Try.func66 rfl ⟨rfl, Nat.le_of_ble_eq_true rfl⟩ (qd (quG k)) (qAV k) (fun x => qcD (k + 1) x) (qAW k)

def qep (k : Nat) (n0 : Int) (n1 : Int) : Option (Bool) :=
 if ((n0 == (0 : Int)) = false) then
 if (((Int.tmod n0 (10 : Int)) == (0 : Int)) = true) then
 if ((n0 == (0 : Int)) = true) then
 (some (n1 == (0 : Int)))
 else
 (some false)
 else
 if ((decide (n0 ≤ (999999999 : Int))) = true) then
 if ((decide (n0 ≥ (-(999999999 : Int)))) = true) then
 if ((decide (n1 ≤ (9 : Int))) = true) then
 (some (decide (n1 ≥ (-(18 : Int)))))
 else
 (some false)
 else
 (some false)
 else
 (some false)
 else
 if ((n0 == (0 : Int)) = true) then
 (some (n1 == (0 : Int)))
 else
 (some false)
def qbB : Nat → Int → Int → Option (Bool)
 | 0, _, _ => none
 | k + 1, n0, n1 => qep k n0 n1
def qkb : FS := { vs := [.g [.lf (.int .i64), .lf (.int .i64)]], bs := [] }
def qpX : List FS := [{ vs := [.a (.lf .bool)], bs := [] }]
def qrg (k : Nat) : Inst := ⟨23, qkb, qpX, fun x => qbB k x.1 x.2⟩
theorem qFk (k : Nat) : qn (call cf k) [] := True.intro
theorem qFl (k : Nat) : qf (LOk (R := DS FS.D qpX) (fun b _ σ K => LOt Ty (kps 23) 0 b σ K []) cf (call cf k) (cf.keep 23) Try.f23.ntmps k qkb.bs.length) 0 (bd Try.f23) :=
 qA qT (qA (qA qT (qA (qA qT qT) qT)) (qA qT qT))
theorem qFm (k : Nat) (x : qkb.D) : qbB (k + 1) x.1 x.2 = qi cf (fun f a b K => COt f a b K []) (fun b _ σ K => LOt Ty (kps 23) 0 b σ K []) 23 Try.f23.ntmps Try.f23.results.toList (bd Try.f23) (qkb.enc x).1 (qkb.enc x).2 (qj FS.dec qpX) := by kernel_rfl
theorem qFn : ∀ k, qh (call cf k) (qrg k)
 | 0 => fun x y e => absurd (show (none : Option _) = some y from e) (by simp)
 | k + 1 => qe (c := cf) (k := k) (f := 23) (fn := Try.f23) (body := bd Try.f23) (sh := qkb) (os := qpX) rfl Try.func23 rfl ⟨rfl, Nat.le_of_ble_eq_true rfl⟩ (qd (qFk k)) (qFl k) (fun x => qbB (k + 1) x.1 x.2) (qFm k)

def qa4 (k : Nat) (rec : Int → Bool → Nat → Bool → Nat → List Int → List Int → Option (Bool × Nat × Bool × Nat × List Int × List Int)) (u : Int) (x0 : Bool) (x1 : Nat) (a0 : Bool) (a1 : Nat) (m : List Int) (m1 : List Int) : Option (Bool × Nat × Bool × Nat × List Int × List Int) :=
 if ((decide (u > (0 : Int))) = true) then
 if (a1 ≤ (List.length m1)) then
 if (((a1 + (List.length (List.take 1 ((IntKind.wrap .i64 (Int.tmod u (65536 : Int))) :: [])))) * 8) ≤ 140737488355328) then
 rec (IntKind.wrap .u64 (Int.tdiv u (65536 : Int))) x0 x1 a0 (a1 + (List.length (List.take 1 ((IntKind.wrap .i64 (Int.tmod u (65536 : Int))) :: [])))) m ((List.take a1 m1) ++ (List.take 1 ((IntKind.wrap .i64 (Int.tmod u (65536 : Int))) :: [])))
 else
 none
 else
 none
 else
 (some (x0, x1, a0, a1, m, m1))
def qae (k n : Nat) : Int → Bool → Nat → Bool → Nat → List Int → List Int → Option (Bool × Nat × Bool × Nat × List Int × List Int) := Nat.rec (fun _ _ _ _ _ _ _ => none) (fun _ r => qa4 k r) n
def qda (k : Nat) (v : Int) : Option (Bool × List Int) :=
 if ((decide (v < (0 : Int))) = true) then
 Option.bind (qae k k (IntKind.wrap .u64 ((0 : Int) - (IntKind.wrap .u64 v))) false 0 true 0 [] []) fun r4 =>
 if ((0 + r4.2.2.2.1) ≤ (List.length r4.2.2.2.2.2)) then
 (some (r4.2.2.1, (List.take r4.2.2.2.1 r4.2.2.2.2.2)))
 else
 none
 else
 Option.bind (qae k k (IntKind.wrap .u64 v) false 0 false 0 [] []) fun r4 =>
 if ((0 + r4.2.2.2.1) ≤ (List.length r4.2.2.2.2.2)) then
 (some (r4.2.2.1, (List.take r4.2.2.2.1 r4.2.2.2.2.2)))
 else
 none
def qbQ : Nat → Int → Option (Bool × List Int)
 | 0, _ => none
 | k + 1, v => qda k v
def qkc : FS := { vs := [.a (.lf (.int .i64))], bs := [] }
def qpY : List FS := [{ vs := [.g [.lf .bool, .lf (.sl (.int .i64))]], bs := [] }]
def qwe (k : Nat) : Inst := ⟨96, qkc, qpY, fun x => qbQ k x⟩
theorem qxm (k : Nat) : qn (call cf k) [] := True.intro
def qiC : List SS := [{ fr := [(2, .a (.ptr 0 0 0)), (3, .a (.ptr 1 0 0)), (4, .a (.lf (.int .u64)))], mem := [(0, some (.raw [[.lf .bool, .smz 2]] 2 77 false false)), (1, some (.raw [[.lf .bool, .smz 3]] 2 77 false false)), (2, some (.arr (.int .i64) 1 3 false)), (3, some (.arr (.int .i64) 1 3 false))], nx := 4 }]
def qm2 : List OS := [⟨some 0, { fr := [(2, .a (.ptr 0 0 0)), (3, .a (.ptr 1 0 0))], mem := [(0, some (.raw [[.lf .bool, .smz 2]] 2 77 false false)), (1, some (.raw [[.lf .bool, .smz 3]] 2 77 false false)), (2, some (.arr (.int .i64) 1 3 false)), (3, some (.arr (.int .i64) 1 3 false))], nx := 4 }⟩]
def qm3 (k : Nat) : LInst := ⟨0, qiC, qm2, fun x => qae k k x.1 x.2.1 x.2.2.1 x.2.2.2.1 x.2.2.2.2.1 x.2.2.2.2.2.1 x.2.2.2.2.2.2⟩
theorem qAY (k : Nat) : qf (LOk (R := DS OS.D qm2) (fun b _ σ K => LOt Ty (kps 96) 0 b σ K []) cf (call cf k) (kps 96) Try.f96.ntmps k 0) 0 (lb Try.f96 0) :=
 qA (qA qT (qA qT qT)) (qA qT qT)
theorem qAZ (k n : Nat) (x : DS SS.D qiC) : qae k (n + 1) x.1 x.2.1 x.2.2.1 x.2.2.2.1 x.2.2.2.2.1 x.2.2.2.2.2.1 x.2.2.2.2.2.2 = qE SS.enc (fun σ => qF cf (fun f a b K => COt f a b K []) (fun b _ σ K => LOt Ty (kps 96) 0 b σ K []) Try.f96.ntmps 0 (lb Try.f96 0) σ (qJ Ty (kps 96 0) 0 qiC qm2 fun x => qae k n x.1 x.2.1 x.2.2.1 x.2.2.2.1 x.2.2.2.2.1 x.2.2.2.2.2.1 x.2.2.2.2.2.2)) qiC x := by kernel_rfl
theorem qA0 (k : Nat) : qac cf (call cf k) (kps 96) Try.f96.ntmps k 0 0 (lb Try.f96 0) (qm3 k) :=
 qr (c := cf) (callF := call cf k) (kp := kps 96) (nt := Try.f96.ntmps) (k := k) (p := 0) (b := 0) (x0 := lb Try.f96 0) (hs := qiC) (os := qm2) (qd (qxm k)) (qAY k) (fun n x => qae k n x.1 x.2.1 x.2.2.1 x.2.2.2.1 x.2.2.2.2.1 x.2.2.2.2.2.1 x.2.2.2.2.2.2) (fun _ => rfl) (qAZ k)
theorem qFo (k : Nat) : qf (LOk (R := DS FS.D qpY) (fun b _ σ K => LOt Ty (kps 96) 0 b σ K [qm3 k]) cf (call cf k) (cf.keep 96) Try.f96.ntmps k qkc.bs.length) 0 (bd Try.f96) :=
 qA qT (qA qT (qA qT (qA (qA qT (qA (qA qT qT) qT)) (qA (qz (c := cf) (callF := call cf k) (kp := kps 96) (nt := Try.f96.ntmps) (k := k) (p := 0) (b := 0) (x0 := lb Try.f96 0) (l := [qm3 k]) (qA (fun _ => qA0 k) qT)) (qA qT qT)))))
theorem qFp (k : Nat) (x : qkc.D) : qbQ (k + 1) x = qi cf (fun f a b K => COt f a b K []) (fun b _ σ K => LOt Ty (kps 96) 0 b σ K [qm3 k]) 96 Try.f96.ntmps Try.f96.results.toList (bd Try.f96) (qkc.enc x).1 (qkc.enc x).2 (qj FS.dec qpY) := by kernel_rfl
theorem qFq : ∀ k, qh (call cf k) (qwe k)
 | 0 => fun x y e => absurd (show (none : Option _) = some y from e) (by simp)
 | k + 1 => qe (c := cf) (k := k) (f := 96) (fn := Try.f96) (body := bd Try.f96) (sh := qkc) (os := qpY) rfl Try.func96 rfl ⟨rfl, Nat.le_of_ble_eq_true rfl⟩ (qd (qxm k)) (qFo k) (fun x => qbQ (k + 1) x) (qFp k)


end
end Go.Proofs.Ytbhnafdmilfobaa.Am
