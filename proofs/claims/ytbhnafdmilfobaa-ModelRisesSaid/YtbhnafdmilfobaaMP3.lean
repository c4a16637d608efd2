/- Printed functions: each says what the typed machine says of the program -/
import Derived.Test.YtbhnafdmilfobaaMP2
import Derived.KernelRfl

set_option linter.unusedVariables false
set_option maxRecDepth 100000
namespace Go.Proofs.Ytbhnafdmilfobaa.Am
open Go
noncomputable section

def qaS (k : Nat) (rec : Int → Bool → Nat → Bool → Nat → List Int → List Int → Option (Bool × Nat × Bool × Nat × List Int × List Int)) (v : Int) (x0 : Bool) (x1 : Nat) (a0 : Bool) (a1 : Nat) (m : List Int) (m1 : List Int) : Option (Bool × Nat × Bool × Nat × List Int × List Int) :=
 if ((decide (v > (0 : Int))) = true) then
 if (a1 ≤ (List.length m1)) then
 if (((a1 + (List.length (List.take 1 ((Int.tmod v (65536 : Int)) :: [])))) * 8) ≤ 140737488355328) then
 rec (IntKind.wrap .i64 (Int.tdiv v (65536 : Int))) x0 x1 a0 (a1 + (List.length (List.take 1 ((Int.tmod v (65536 : Int)) :: [])))) m ((List.take a1 m1) ++ (List.take 1 ((Int.tmod v (65536 : Int)) :: [])))
 else
 none
 else
 none
 else
 (some (x0, x1, a0, a1, m, m1))
def qX (k n : Nat) : Int → Bool → Nat → Bool → Nat → List Int → List Int → Option (Bool × Nat × Bool × Nat × List Int × List Int) := Nat.rec (fun _ _ _ _ _ _ _ => none) (fun _ r => qaS k r) n
def qcX (k : Nat) (v : Int) : Option (Bool × List Int) :=
 if ((decide (v < (0 : Int))) = true) then
 Option.bind (qX k k (IntKind.wrap .i64 ((0 : Int) - v)) false 0 true 0 [] []) fun r5 =>
 if ((0 + r5.2.2.2.1) ≤ (List.length r5.2.2.2.2.2)) then
 (some (r5.2.2.1, (List.take r5.2.2.2.1 r5.2.2.2.2.2)))
 else
 none
 else
 Option.bind (qX k k v false 0 false 0 [] []) fun r5 =>
 if ((0 + r5.2.2.2.1) ≤ (List.length r5.2.2.2.2.2)) then
 (some (r5.2.2.1, (List.take r5.2.2.2.1 r5.2.2.2.2.2)))
 else
 none
def qN : Nat → Int → Option (Bool × List Int)
 | 0, _ => none
 | k + 1, v => qcX k v
def qkd : FS := { vs := [.a (.lf (.int .i64))], bs := [] }
def qpZ : List FS := [{ vs := [.g [.lf .bool, .lf (.sl (.int .i64))]], bs := [] }]
def qfe (k : Nat) : Inst := ⟨43, qkd, qpZ, fun x => qN k x⟩
theorem qxn (k : Nat) : qn (call cf k) [] := True.intro
def qiD : List SS := [{ fr := [(0, .a (.lf (.int .i64))), (2, .a (.ptr 0 0 0)), (3, .a (.ptr 1 0 0))], mem := [(0, some (.raw [[.lf .bool, .smz 2]] 2 77 false false)), (1, some (.raw [[.lf .bool, .smz 3]] 2 77 false false)), (2, some (.arr (.int .i64) 1 3 false)), (3, some (.arr (.int .i64) 1 3 false))], nx := 4 }]
def qm4 : List OS := [⟨some 0, { fr := [(2, .a (.ptr 0 0 0)), (3, .a (.ptr 1 0 0))], mem := [(0, some (.raw [[.lf .bool, .smz 2]] 2 77 false false)), (1, some (.raw [[.lf .bool, .smz 3]] 2 77 false false)), (2, some (.arr (.int .i64) 1 3 false)), (3, some (.arr (.int .i64) 1 3 false))], nx := 4 }⟩]
def qm5 (k : Nat) : LInst := ⟨0, qiD, qm4, fun x => qX k k x.1 x.2.1 x.2.2.1 x.2.2.2.1 x.2.2.2.2.1 x.2.2.2.2.2.1 x.2.2.2.2.2.2⟩
theorem qA1 (k : Nat) : qf (LOk (R := DS OS.D qm4) (fun b _ σ K => LOt Ty (kps 43) 0 b σ K []) cf (call cf k) (kps 43) Try.f43.ntmps k 0) 0 (lb Try.f43 0) :=
 qA (qA qT (qA qT qT)) (qA qT qT)
theorem qA2 (k n : Nat) (x : DS SS.D qiD) : qX k (n + 1) x.1 x.2.1 x.2.2.1 x.2.2.2.1 x.2.2.2.2.1 x.2.2.2.2.2.1 x.2.2.2.2.2.2 = qE SS.enc (fun σ => qF cf (fun f a b K => COt f a b K []) (fun b _ σ K => LOt Ty (kps 43) 0 b σ K []) Try.f43.ntmps 0 (lb Try.f43 0) σ (qJ Ty (kps 43 0) 0 qiD qm4 fun x => qX k n x.1 x.2.1 x.2.2.1 x.2.2.2.1 x.2.2.2.2.1 x.2.2.2.2.2.1 x.2.2.2.2.2.2)) qiD x := by kernel_rfl
theorem qA3 (k : Nat) : qac cf (call cf k) (kps 43) Try.f43.ntmps k 0 0 (lb Try.f43 0) (qm5 k) :=
 qr (c := cf) (callF := call cf k) (kp := kps 43) (nt := Try.f43.ntmps) (k := k) (p := 0) (b := 0) (x0 := lb Try.f43 0) (hs := qiD) (os := qm4) (qd (qxn k)) (qA1 k) (fun n x => qX k n x.1 x.2.1 x.2.2.1 x.2.2.2.1 x.2.2.2.2.1 x.2.2.2.2.2.1 x.2.2.2.2.2.2) (fun _ => rfl) (qA2 k)
theorem qFr (k : Nat) : qf (LOk (R := DS FS.D qpZ) (fun b _ σ K => LOt Ty (kps 43) 0 b σ K [qm5 k]) cf (call cf k) (cf.keep 43) Try.f43.ntmps k qkd.bs.length) 0 (bd Try.f43) :=
 qA qT (qA qT (qA (qA qT (qA (qA qT qT) qT)) (qA (qz (c := cf) (callF := call cf k) (kp := kps 43) (nt := Try.f43.ntmps) (k := k) (p := 0) (b := 0) (x0 := lb Try.f43 0) (l := [qm5 k]) (qA (fun _ => qA3 k) qT)) (qA qT qT))))
theorem qFs (k : Nat) (x : qkd.D) : qN (k + 1) x = qi cf (fun f a b K => COt f a b K []) (fun b _ σ K => LOt Ty (kps 43) 0 b σ K [qm5 k]) 43 Try.f43.ntmps Try.f43.results.toList (bd Try.f43) (qkd.enc x).1 (qkd.enc x).2 (qj FS.dec qpZ) := by kernel_rfl
theorem qm6 : ∀ k, qh (call cf k) (qfe k)
 | 0 => fun x y e => absurd (show (none : Option _) = some y from e) (by simp)
 | k + 1 => qe (c := cf) (k := k) (f := 43) (fn := Try.f43) (body := bd Try.f43) (sh := qkd) (os := qpZ) rfl Try.func43 rfl ⟨rfl, Nat.le_of_ble_eq_true rfl⟩ (qd (qxn k)) (qFr k) (fun x => qN (k + 1) x) (qFs k)

def qbA (k : Nat) (rec : Nat → Int → List Int → Option (Nat × Int × List Int)) (d : Nat) (n : Int) (ds : List Int) : Option (Nat × Int × List Int) :=
 if ((decide (n > (0 : Int))) = true) then
 if (((0 : Int) ≤ (IntKind.wrap .i64 (n - (1 : Int)))) ∧ ((IntKind.wrap .i64 (n - (1 : Int))) < ((d : Nat) : Int))) then
 Option.bind (ds)[(0 + (Int.toNat (IntKind.wrap .i64 (n - (1 : Int)))))]? fun x2 =>
 if ((x2 == (0 : Int)) = true) then
 rec d (IntKind.wrap .i64 (n - (1 : Int))) ds
 else
 (some (d, n, ds))
 else
 none
 else
 (some (d, n, ds))
def qat (k n : Nat) : Nat → Int → List Int → Option (Nat × Int × List Int) := Nat.rec (fun _ _ _ => none) (fun _ r => qbA k r) n
def qaT (k : Nat) (d : Nat) (ds : List Int) : Option (Nat × List Int) :=
 Option.bind (qat k k d ((d : Nat) : Int) ds) fun r8 =>
 if (((0 : Int) ≤ (0 : Int)) ∧ (((0 : Int) ≤ r8.2.1) ∧ (((0 + (Int.toNat r8.2.1)) ≤ (List.length r8.2.2)) ∧ (((0 : Int) < r8.2.1) ∨ (true = true))))) then
 (some ((Int.toNat r8.2.1), r8.2.2))
 else
 none
def qw : Nat → Nat → List Int → Option (Nat × List Int)
 | 0, _, _ => none
 | k + 1, d, ds => qaT k d ds
def qke : FS := { vs := [.a (.smz 0)], bs := [.arr (.int .i64) 1 3 false] }
def qp0 : List FS := [{ vs := [.a (.smz 0)], bs := [.arr (.int .i64) 1 3 false] }]
def qed (k : Nat) : Inst := ⟨82, qke, qp0, fun x => qw k x.1 x.2⟩
theorem qxo (k : Nat) : qn (call cf k) [] := True.intro
def qiE : List SS := [{ fr := [(0, .a (.smz 0)), (3, .a (.lf (.int .i64)))], mem := [(0, some (.arr (.int .i64) 1 3 false))], nx := 1 }]
def qm7 : List OS := [⟨some 0, { fr := [(0, .a (.smz 0)), (3, .a (.lf (.int .i64)))], mem := [(0, some (.arr (.int .i64) 1 3 false))], nx := 1 }⟩]
def qm8 (k : Nat) : LInst := ⟨0, qiE, qm7, fun x => qat k k x.1 x.2.1 x.2.2⟩
theorem qA4 (k : Nat) : qf (LOk (R := DS OS.D qm7) (fun b _ σ K => LOt Ty (kps 82) 1 b σ K []) cf (call cf k) (kps 82) Try.f82.ntmps k 1) 0 (lb Try.f82 0) :=
 qA (qA qT (qA qT qT)) qT
theorem qA5 (k n : Nat) (x : DS SS.D qiE) : qat k (n + 1) x.1 x.2.1 x.2.2 = qE SS.enc (fun σ => qF cf (fun f a b K => COt f a b K []) (fun b _ σ K => LOt Ty (kps 82) 1 b σ K []) Try.f82.ntmps 0 (lb Try.f82 0) σ (qJ Ty (kps 82 0) 1 qiE qm7 fun x => qat k n x.1 x.2.1 x.2.2)) qiE x := by kernel_rfl
theorem qA6 (k : Nat) : qac cf (call cf k) (kps 82) Try.f82.ntmps k 1 0 (lb Try.f82 0) (qm8 k) :=
 qr (c := cf) (callF := call cf k) (kp := kps 82) (nt := Try.f82.ntmps) (k := k) (p := 1) (b := 0) (x0 := lb Try.f82 0) (hs := qiE) (os := qm7) (qd (qxo k)) (qA4 k) (fun n x => qat k n x.1 x.2.1 x.2.2) (fun _ => rfl) (qA5 k)
theorem qFt (k : Nat) : qf (LOk (R := DS FS.D qp0) (fun b _ σ K => LOt Ty (kps 82) 1 b σ K [qm8 k]) cf (call cf k) (cf.keep 82) Try.f82.ntmps k qke.bs.length) 0 (bd Try.f82) :=
 qA qT (qA qT (qA (qz (c := cf) (callF := call cf k) (kp := kps 82) (nt := Try.f82.ntmps) (k := k) (p := 1) (b := 0) (x0 := lb Try.f82 0) (l := [qm8 k]) (qA (fun _ => qA6 k) qT)) (qA qT qT)))
theorem qFu (k : Nat) (x : qke.D) : qw (k + 1) x.1 x.2 = qi cf (fun f a b K => COt f a b K []) (fun b _ σ K => LOt Ty (kps 82) 1 b σ K [qm8 k]) 82 Try.f82.ntmps Try.f82.results.toList (bd Try.f82) (qke.enc x).1 (qke.enc x).2 (qj FS.dec qp0) := by kernel_rfl
theorem qm9 : ∀ k, qh (call cf k) (qed k)
 | 0 => fun x y e => absurd (show (none : Option _) = some y from e) (by simp)
 | k + 1 => qe (c := cf) (k := k) (f := 82) (fn := Try.f82) (body := bd Try.f82) (sh := qke) (os := qp0) rfl Try.func82 rfl ⟨rfl, Nat.le_of_ble_eq_true rfl⟩ (qd (qxo k)) (qFt k) (fun x => qw (k + 1) x.1 x.2) (qFu k)

def qcd (k : Nat) (rec : Nat → Int → Int → Int → Bool → List Int → Bool → List Int → Bool → Nat → List Int → List Int → Option (Nat × Int × Int × Bool × List Int × Bool × List Int × Bool × Nat × List Int × List Int)) (d : Nat) (i : Int) (carry : Int) (j : Int) (a0 : Bool) (a1 : List Int) (b0 : Bool) (b1 : List Int) (x0 : Bool) (x1 : Nat) (ds : List Int) (m : List Int) : Option (Nat × Int × Int × Bool × List Int × Bool × List Int × Bool × Nat × List Int × List Int) :=
 if ((decide (j < (((List.length b1) : Nat) : Int))) = true) then
 if (((0 : Int) ≤ (IntKind.wrap .i64 (i + j))) ∧ ((IntKind.wrap .i64 (i + j)) < ((d : Nat) : Int))) then
 Option.bind (ds)[(0 + (Int.toNat (IntKind.wrap .i64 (i + j))))]? fun x2 =>
 if ((0 : Int) ≤ i) then
 Option.bind (a1)[(Int.toNat i)]? fun x3 =>
 if ((0 : Int) ≤ j) then
 Option.bind (b1)[(Int.toNat j)]? fun x4 =>
 if (((0 : Int) ≤ (IntKind.wrap .i64 (i + j))) ∧ ((IntKind.wrap .i64 (i + j)) < ((d : Nat) : Int))) then
 Option.bind (ds)[(0 + (Int.toNat (IntKind.wrap .i64 (i + j))))]? fun x5 =>
 rec d i (IntKind.wrap .i64 (Int.tdiv (IntKind.wrap .i64 ((IntKind.wrap .i64 (x2 + (IntKind.wrap .i64 (x3 * x4)))) + carry)) (65536 : Int))) (IntKind.wrap .i64 (j + (1 : Int))) a0 a1 b0 b1 x0 x1 (List.set ds (0 + (Int.toNat (IntKind.wrap .i64 (i + j)))) (Int.tmod (IntKind.wrap .i64 ((IntKind.wrap .i64 (x2 + (IntKind.wrap .i64 (x3 * x4)))) + carry)) (65536 : Int))) m
 else
 none
 else
 none
 else
 none
 else
 none
 else
 (some (d, i, carry, a0, a1, b0, b1, x0, x1, ds, m))
def qaC (k n : Nat) : Nat → Int → Int → Int → Bool → List Int → Bool → List Int → Bool → Nat → List Int → List Int → Option (Nat × Int × Int × Bool × List Int × Bool × List Int × Bool × Nat × List Int × List Int) := Nat.rec (fun _ _ _ _ _ _ _ _ _ _ _ _ => none) (fun _ r => qcd k r) n
def qce (k : Nat) (rec : Nat → Int → Bool → List Int → Bool → List Int → Bool → Nat → List Int → List Int → Option (Nat × Bool × List Int × Bool × List Int × Bool × Nat × List Int × List Int)) (d : Nat) (i : Int) (a0 : Bool) (a1 : List Int) (b0 : Bool) (b1 : List Int) (x0 : Bool) (x1 : Nat) (ds : List Int) (m : List Int) : Option (Nat × Bool × List Int × Bool × List Int × Bool × Nat × List Int × List Int) :=
 if ((decide (i < (((List.length a1) : Nat) : Int))) = true) then
 Option.bind (qaC k k d i (0 : Int) (0 : Int) a0 a1 b0 b1 x0 x1 ds m) fun r7 =>
 if (((0 : Int) ≤ (IntKind.wrap .i64 (r7.2.1 + (((List.length r7.2.2.2.2.2.2.1) : Nat) : Int)))) ∧ ((IntKind.wrap .i64 (r7.2.1 + (((List.length r7.2.2.2.2.2.2.1) : Nat) : Int))) < ((r7.1 : Nat) : Int))) then
 Option.bind (r7.2.2.2.2.2.2.2.2.2.1)[(0 + (Int.toNat (IntKind.wrap .i64 (r7.2.1 + (((List.length r7.2.2.2.2.2.2.1) : Nat) : Int)))))]? fun x2 =>
 if (((0 : Int) ≤ (IntKind.wrap .i64 (r7.2.1 + (((List.length r7.2.2.2.2.2.2.1) : Nat) : Int)))) ∧ ((IntKind.wrap .i64 (r7.2.1 + (((List.length r7.2.2.2.2.2.2.1) : Nat) : Int))) < ((r7.1 : Nat) : Int))) then
 Option.bind (r7.2.2.2.2.2.2.2.2.2.1)[(0 + (Int.toNat (IntKind.wrap .i64 (r7.2.1 + (((List.length r7.2.2.2.2.2.2.1) : Nat) : Int)))))]? fun x3 =>
 rec r7.1 (IntKind.wrap .i64 (r7.2.1 + (1 : Int))) r7.2.2.2.1 r7.2.2.2.2.1 r7.2.2.2.2.2.1 r7.2.2.2.2.2.2.1 r7.2.2.2.2.2.2.2.1 r7.2.2.2.2.2.2.2.2.1 (List.set r7.2.2.2.2.2.2.2.2.2.1 (0 + (Int.toNat (IntKind.wrap .i64 (r7.2.1 + (((List.length r7.2.2.2.2.2.2.1) : Nat) : Int))))) (IntKind.wrap .i64 (x2 + r7.2.2.1))) r7.2.2.2.2.2.2.2.2.2.2
 else
 none
 else
 none
 else
 (some (d, a0, a1, b0, b1, x0, x1, ds, m))
def qaD (k n : Nat) : Nat → Int → Bool → List Int → Bool → List Int → Bool → Nat → List Int → List Int → Option (Nat × Bool × List Int × Bool × List Int × Bool × Nat × List Int × List Int) := Nat.rec (fun _ _ _ _ _ _ _ _ _ _ => none) (fun _ r => qce k r) n
def qeq (k : Nat) (a0 : Bool) (a1 : List Int) (b0 : Bool) (b1 : List Int) : Option (Bool × List Int) :=
 if (((0 : Int) ≤ (IntKind.wrap .i64 ((((List.length a1) : Nat) : Int) + (((List.length b1) : Nat) : Int)))) ∧ (((IntKind.wrap .i64 ((((List.length a1) : Nat) : Int) + (((List.length b1) : Nat) : Int))) ≤ (IntKind.wrap .i64 ((((List.length a1) : Nat) : Int) + (((List.length b1) : Nat) : Int)))) ∧ (((IntKind.wrap .i64 ((((List.length a1) : Nat) : Int) + (((List.length b1) : Nat) : Int))) * (8 : Int)) ≤ (140737488355328 : Int)))) then
 Option.bind (qaD k k (Int.toNat (IntKind.wrap .i64 ((((List.length a1) : Nat) : Int) + (((List.length b1) : Nat) : Int)))) (0 : Int) a0 a1 b0 b1 false 0 (List.replicate (Int.toNat (IntKind.wrap .i64 ((((List.length a1) : Nat) : Int) + (((List.length b1) : Nat) : Int)))) (0 : Int)) []) fun r7 =>
 Option.bind (qw k r7.1 r7.2.2.2.2.2.2.2.1) fun r8 =>
 if ((!(r7.2.1 == r7.2.2.2.1)) = true) then
 if ((0 + r8.1) ≤ (List.length r8.2)) then
 (some ((decide (((r8.1 : Nat) : Int) > (0 : Int))), (List.take r8.1 r8.2)))
 else
 none
 else
 if ((0 + r8.1) ≤ (List.length r8.2)) then
 (some (false, (List.take r8.1 r8.2)))
 else
 none
 else
 none
def qS : Nat → Bool → List Int → Bool → List Int → Option (Bool × List Int)
 | 0, _, _, _, _ => none
 | k + 1, a0, a1, b0, b1 => qeq k a0 a1 b0 b1
def qkf : FS := { vs := [.g [.lf .bool, .lf (.sl (.int .i64))], .g [.lf .bool, .lf (.sl (.int .i64))]], bs := [] }
def qp1 : List FS := [{ vs := [.g [.lf .bool, .lf (.sl (.int .i64))]], bs := [] }]
def qff (k : Nat) : Inst := ⟨95, qkf, qp1, fun x => qS k x.1 x.2.1 x.2.2.1 x.2.2.2⟩
theorem qtI (k : Nat) : qn (call cf k) [qed k] := qA (qm9 k) qT
def qiF : List SS := [{ fr := [(2, .a (.ptr 0 0 0)), (3, .a (.ptr 1 0 0)), (4, .a (.ptr 2 0 0)), (5, .a (.smz 3)), (6, .a (.lf (.int .i64))), (7, .a (.lf (.int .i64))), (8, .a (.lf (.int .i64)))], mem := [(0, some (.raw [[.lf .bool, .lf (.sl (.int .i64))]] 2 77 true false)), (1, some (.raw [[.lf .bool, .lf (.sl (.int .i64))]] 2 77 true false)), (2, some (.raw [[.lf .bool, .smz 4]] 2 77 false false)), (3, some (.arr (.int .i64) 1 3 false)), (4, some (.arr (.int .i64) 1 3 false))], nx := 5 }]
def qna : List OS := [⟨some 2, { fr := [(2, .a (.ptr 0 0 0)), (3, .a (.ptr 1 0 0)), (4, .a (.ptr 2 0 0)), (5, .a (.smz 3)), (6, .a (.lf (.int .i64))), (7, .a (.lf (.int .i64)))], mem := [(0, some (.raw [[.lf .bool, .lf (.sl (.int .i64))]] 2 77 true false)), (1, some (.raw [[.lf .bool, .lf (.sl (.int .i64))]] 2 77 true false)), (2, some (.raw [[.lf .bool, .smz 4]] 2 77 false false)), (3, some (.arr (.int .i64) 1 3 false)), (4, some (.arr (.int .i64) 1 3 false))], nx := 5 }⟩]
def qgf (k : Nat) : LInst := ⟨2, qiF, qna, fun x => qaC k k x.1 x.2.1 x.2.2.1 x.2.2.2.1 x.2.2.2.2.1 x.2.2.2.2.2.1 x.2.2.2.2.2.2.1 x.2.2.2.2.2.2.2.1 x.2.2.2.2.2.2.2.2.1 x.2.2.2.2.2.2.2.2.2.1 x.2.2.2.2.2.2.2.2.2.2.1 x.2.2.2.2.2.2.2.2.2.2.2⟩
theorem qA7 (k : Nat) : qf (LOk (R := DS OS.D qna) (fun b _ σ K => LOt Ty (kps 95) 0 b σ K []) cf (call cf k) (kps 95) Try.f95.ntmps k 0) 2 (lb Try.f95 1) :=
 qA (qA qT (qA qT qT)) (qA (qA qT (qA qT qT)) qT)
theorem qA8 (k n : Nat) (x : DS SS.D qiF) : qaC k (n + 1) x.1 x.2.1 x.2.2.1 x.2.2.2.1 x.2.2.2.2.1 x.2.2.2.2.2.1 x.2.2.2.2.2.2.1 x.2.2.2.2.2.2.2.1 x.2.2.2.2.2.2.2.2.1 x.2.2.2.2.2.2.2.2.2.1 x.2.2.2.2.2.2.2.2.2.2.1 x.2.2.2.2.2.2.2.2.2.2.2 = qE SS.enc (fun σ => qF cf (fun f a b K => COt f a b K [qed k]) (fun b _ σ K => LOt Ty (kps 95) 0 b σ K []) Try.f95.ntmps 2 (lb Try.f95 1) σ (qJ Ty (kps 95 2) 0 qiF qna fun x => qaC k n x.1 x.2.1 x.2.2.1 x.2.2.2.1 x.2.2.2.2.1 x.2.2.2.2.2.1 x.2.2.2.2.2.2.1 x.2.2.2.2.2.2.2.1 x.2.2.2.2.2.2.2.2.1 x.2.2.2.2.2.2.2.2.2.1 x.2.2.2.2.2.2.2.2.2.2.1 x.2.2.2.2.2.2.2.2.2.2.2)) qiF x := by kernel_rfl
theorem qA9 (k : Nat) : qac cf (call cf k) (kps 95) Try.f95.ntmps k 0 2 (lb Try.f95 1) (qgf k) :=
 qr (c := cf) (callF := call cf k) (kp := kps 95) (nt := Try.f95.ntmps) (k := k) (p := 0) (b := 2) (x0 := lb Try.f95 1) (hs := qiF) (os := qna) (qd (qtI k)) (qA7 k) (fun n x => qaC k n x.1 x.2.1 x.2.2.1 x.2.2.2.1 x.2.2.2.2.1 x.2.2.2.2.2.1 x.2.2.2.2.2.2.1 x.2.2.2.2.2.2.2.1 x.2.2.2.2.2.2.2.2.1 x.2.2.2.2.2.2.2.2.2.1 x.2.2.2.2.2.2.2.2.2.2.1 x.2.2.2.2.2.2.2.2.2.2.2) (fun _ => rfl) (qA8 k)
def qiG : List SS := [{ fr := [(2, .a (.ptr 0 0 0)), (3, .a (.ptr 1 0 0)), (4, .a (.ptr 2 0 0)), (5, .a (.smz 3)), (6, .a (.lf (.int .i64)))], mem := [(0, some (.raw [[.lf .bool, .lf (.sl (.int .i64))]] 2 77 true false)), (1, some (.raw [[.lf .bool, .lf (.sl (.int .i64))]] 2 77 true false)), (2, some (.raw [[.lf .bool, .smz 4]] 2 77 false false)), (3, some (.arr (.int .i64) 1 3 false)), (4, some (.arr (.int .i64) 1 3 false))], nx := 5 }]
def qnb : List OS := [⟨some 0, { fr := [(2, .a (.ptr 0 0 0)), (3, .a (.ptr 1 0 0)), (4, .a (.ptr 2 0 0)), (5, .a (.smz 3))], mem := [(0, some (.raw [[.lf .bool, .lf (.sl (.int .i64))]] 2 77 true false)), (1, some (.raw [[.lf .bool, .lf (.sl (.int .i64))]] 2 77 true false)), (2, some (.raw [[.lf .bool, .smz 4]] 2 77 false false)), (3, some (.arr (.int .i64) 1 3 false)), (4, some (.arr (.int .i64) 1 3 false))], nx := 5 }⟩]
def qnc (k : Nat) : LInst := ⟨0, qiG, qnb, fun x => qaD k k x.1 x.2.1 x.2.2.1 x.2.2.2.1 x.2.2.2.2.1 x.2.2.2.2.2.1 x.2.2.2.2.2.2.1 x.2.2.2.2.2.2.2.1 x.2.2.2.2.2.2.2.2.1 x.2.2.2.2.2.2.2.2.2⟩
theorem qBa (k : Nat) : qf (LOk (R := DS OS.D qnb) (fun b _ σ K => LOt Ty (kps 95) 0 b σ K [qgf k]) cf (call cf k) (kps 95) Try.f95.ntmps k 0) 0 (lb Try.f95 0) :=
 qA (qA qT (qA qT qT)) (qA (qA qT (qA (qA qT (qz (c := cf) (callF := call cf k) (kp := kps 95) (nt := Try.f95.ntmps) (k := k) (p := 0) (b := 2) (x0 := lb Try.f95 1) (l := [qgf k]) (qA (fun _ => qA9 k) qT))) qT)) qT)
theorem qBb (k n : Nat) (x : DS SS.D qiG) : qaD k (n + 1) x.1 x.2.1 x.2.2.1 x.2.2.2.1 x.2.2.2.2.1 x.2.2.2.2.2.1 x.2.2.2.2.2.2.1 x.2.2.2.2.2.2.2.1 x.2.2.2.2.2.2.2.2.1 x.2.2.2.2.2.2.2.2.2 = qE SS.enc (fun σ => qF cf (fun f a b K => COt f a b K [qed k]) (fun b _ σ K => LOt Ty (kps 95) 0 b σ K [qgf k]) Try.f95.ntmps 0 (lb Try.f95 0) σ (qJ Ty (kps 95 0) 0 qiG qnb fun x => qaD k n x.1 x.2.1 x.2.2.1 x.2.2.2.1 x.2.2.2.2.1 x.2.2.2.2.2.1 x.2.2.2.2.2.2.1 x.2.2.2.2.2.2.2.1 x.2.2.2.2.2.2.2.2.1 x.2.2.2.2.2.2.2.2.2)) qiG x := by kernel_rfl
theorem qBc (k : Nat) : qac cf (call cf k) (kps 95) Try.f95.ntmps k 0 0 (lb Try.f95 0) (qnc k) :=
 qr (c := cf) (callF := call cf k) (kp := kps 95) (nt := Try.f95.ntmps) (k := k) (p := 0) (b := 0) (x0 := lb Try.f95 0) (hs := qiG) (os := qnb) (qd (qtI k)) (qBa k) (fun n x => qaD k n x.1 x.2.1 x.2.2.1 x.2.2.2.1 x.2.2.2.2.1 x.2.2.2.2.2.1 x.2.2.2.2.2.2.1 x.2.2.2.2.2.2.2.1 x.2.2.2.2.2.2.2.2.1 x.2.2.2.2.2.2.2.2.2) (fun _ => rfl) (qBb k)
theorem qFv (k : Nat) : qf (LOk (R := DS FS.D qp1) (fun b _ σ K => LOt Ty (kps 95) 0 b σ K [qgf k, qnc k]) cf (call cf k) (cf.keep 95) Try.f95.ntmps k qkf.bs.length) 0 (bd Try.f95) :=
 qA qT (qA qT (qA (qA qT (qz (c := cf) (callF := call cf k) (kp := kps 95) (nt := Try.f95.ntmps) (k := k) (p := 0) (b := 0) (x0 := lb Try.f95 0) (l := [qgf k, qnc k]) (qA (fun h => absurd (show (2 : Nat) = 0 from h) (by decide)) (qA (fun _ => qBc k) qT)))) (qA qT (qA qT qT))))
theorem qFw (k : Nat) (x : qkf.D) : qS (k + 1) x.1 x.2.1 x.2.2.1 x.2.2.2 = qi cf (fun f a b K => COt f a b K [qed k]) (fun b _ σ K => LOt Ty (kps 95) 0 b σ K [qgf k, qnc k]) 95 Try.f95.ntmps Try.f95.results.toList (bd Try.f95) (qkf.enc x).1 (qkf.enc x).2 (qj FS.dec qp1) := by kernel_rfl
theorem qnd : ∀ k, qh (call cf k) (qff k)
 | 0 => fun x y e => absurd (show (none : Option _) = some y from e) (by simp)
 | k + 1 => qe (c := cf) (k := k) (f := 95) (fn := Try.f95) (body := bd Try.f95) (sh := qkf) (os := qp1) rfl Try.func95 rfl ⟨rfl, Nat.le_of_ble_eq_true rfl⟩ (qd (qtI k)) (qFv k) (fun x => qS (k + 1) x.1 x.2.1 x.2.2.1 x.2.2.2) (qFw k)

def qcf (k : Nat) (rec : Int → Int → Bool → Nat → Bool → List Int → List Int → Option (Bool × Nat × Bool × List Int × List Int)) (k1 : Int) (i : Int) (x0 : Bool) (x1 : Nat) (p0 : Bool) (p1 : List Int) (m : List Int) : Option (Bool × Nat × Bool × List Int × List Int) :=
 if ((decide (i < k1)) = true) then
 Option.bind (qN k (10 : Int)) fun r6 =>
 Option.bind (qS k p0 p1 r6.1 r6.2) fun r7 =>
 rec k1 (IntKind.wrap .i64 (i + (1 : Int))) x0 x1 r7.1 r7.2 m
 else
 (some (x0, x1, p0, p1, m))
def qaj (k n : Nat) : Int → Int → Bool → Nat → Bool → List Int → List Int → Option (Bool × Nat × Bool × List Int × List Int) := Nat.rec (fun _ _ _ _ _ _ _ => none) (fun _ r => qcf k r) n
def qkN (k : Nat) (k1 : Int) : Option (Bool × List Int) :=
 Option.bind (qN k (1 : Int)) fun r5 =>
 Option.bind (qaj k k k1 (0 : Int) false 0 r5.1 r5.2 []) fun r6 =>
 (some (r6.2.2.1, r6.2.2.2.1))
def qbC : Nat → Int → Option (Bool × List Int)
 | 0, _ => none
 | k + 1, k1 => qkN k k1
def qkg : FS := { vs := [.a (.lf (.int .i64))], bs := [] }
def qp2 : List FS := [{ vs := [.g [.lf .bool, .lf (.sl (.int .i64))]], bs := [] }]
def qwf (k : Nat) : Inst := ⟨98, qkg, qp2, fun x => qbC k x⟩
theorem qxp (k : Nat) : qn (call cf k) [qfe k, qff k] := qA (qm6 k) (qA (qnd k) qT)
def qiH : List SS := [{ fr := [(0, .a (.lf (.int .i64))), (2, .a (.ptr 0 0 0)), (3, .a (.ptr 1 0 0)), (4, .a (.lf (.int .i64)))], mem := [(0, some (.raw [[.lf .bool, .smz 2]] 2 77 false false)), (1, some (.raw [[.lf .bool, .lf (.sl (.int .i64))]] 2 77 true false)), (2, some (.arr (.int .i64) 1 3 false))], nx := 3 }]
def qne : List OS := [⟨some 0, { fr := [(2, .a (.ptr 0 0 0)), (3, .a (.ptr 1 0 0))], mem := [(0, some (.raw [[.lf .bool, .smz 2]] 2 77 false false)), (1, some (.raw [[.lf .bool, .lf (.sl (.int .i64))]] 2 77 true false)), (2, some (.arr (.int .i64) 1 3 false))], nx := 3 }⟩]
def qnf (k : Nat) : LInst := ⟨0, qiH, qne, fun x => qaj k k x.1 x.2.1 x.2.2.1 x.2.2.2.1 x.2.2.2.2.1 x.2.2.2.2.2.1 x.2.2.2.2.2.2⟩
theorem qBd (k : Nat) : qf (LOk (R := DS OS.D qne) (fun b _ σ K => LOt Ty (kps 98) 0 b σ K []) cf (call cf k) (kps 98) Try.f98.ntmps k 0) 0 (lb Try.f98 0) :=
 qA (qA qT (qA qT qT)) (qA qT qT)
theorem qBe (k n : Nat) (x : DS SS.D qiH) : qaj k (n + 1) x.1 x.2.1 x.2.2.1 x.2.2.2.1 x.2.2.2.2.1 x.2.2.2.2.2.1 x.2.2.2.2.2.2 = qE SS.enc (fun σ => qF cf (fun f a b K => COt f a b K [qfe k, qff k]) (fun b _ σ K => LOt Ty (kps 98) 0 b σ K []) Try.f98.ntmps 0 (lb Try.f98 0) σ (qJ Ty (kps 98 0) 0 qiH qne fun x => qaj k n x.1 x.2.1 x.2.2.1 x.2.2.2.1 x.2.2.2.2.1 x.2.2.2.2.2.1 x.2.2.2.2.2.2)) qiH x := by kernel_rfl
theorem qBf (k : Nat) : qac cf (call cf k) (kps 98) Try.f98.ntmps k 0 0 (lb Try.f98 0) (qnf k) :=
 qr (c := cf) (callF := call cf k) (kp := kps 98) (nt := Try.f98.ntmps) (k := k) (p := 0) (b := 0) (x0 := lb Try.f98 0) (hs := qiH) (os := qne) (qd (qxp k)) (qBd k) (fun n x => qaj k n x.1 x.2.1 x.2.2.1 x.2.2.2.1 x.2.2.2.2.1 x.2.2.2.2.2.1 x.2.2.2.2.2.2) (fun _ => rfl) (qBe k)
theorem qFx (k : Nat) : qf (LOk (R := DS FS.D qp2) (fun b _ σ K => LOt Ty (kps 98) 0 b σ K [qnf k]) cf (call cf k) (cf.keep 98) Try.f98.ntmps k qkg.bs.length) 0 (bd Try.f98) :=
 qA qT (qA qT (qA (qA qT (qz (c := cf) (callF := call cf k) (kp := kps 98) (nt := Try.f98.ntmps) (k := k) (p := 0) (b := 0) (x0 := lb Try.f98 0) (l := [qnf k]) (qA (fun _ => qBf k) qT))) (qA qT qT)))
theorem qFy (k : Nat) (x : qkg.D) : qbC (k + 1) x = qi cf (fun f a b K => COt f a b K [qfe k, qff k]) (fun b _ σ K => LOt Ty (kps 98) 0 b σ K [qnf k]) 98 Try.f98.ntmps Try.f98.results.toList (bd Try.f98) (qkg.enc x).1 (qkg.enc x).2 (qj FS.dec qp2) := by kernel_rfl
theorem qFz : ∀ k, qh (call cf k) (qwf k)
 | 0 => fun x y e => absurd (show (none : Option _) = some y from e) (by simp)
 | k + 1 => qe (c := cf) (k := k) (f := 98) (fn := Try.f98) (body := bd Try.f98) (sh := qkg) (os := qp2) rfl Try.func98 rfl ⟨rfl, Nat.le_of_ble_eq_true rfl⟩ (qd (qxp k)) (qFx k) (fun x => qbC (k + 1) x) (qFy k)

def qeS (k : Nat) (a0 : Bool) (a1 : List Int) : Option (Int) :=
 if (((((List.length a1) : Nat) : Int) == (0 : Int)) = true) then
 (some (0 : Int))
 else
 if (a0 = true) then
 (some (-(1 : Int)))
 else
 (some (1 : Int))
def qbR : Nat → Bool → List Int → Option (Int)
 | 0, _, _ => none
 | k + 1, a0, a1 => qeS k a0 a1
def qkh : FS := { vs := [.g [.lf .bool, .lf (.sl (.int .i64))]], bs := [] }
def qp3 : List FS := [{ vs := [.a (.lf (.int .i64))], bs := [] }]
def qrh (k : Nat) : Inst := ⟨78, qkh, qp3, fun x => qbR k x.1 x.2⟩
theorem qFA (k : Nat) : qn (call cf k) [] := True.intro
theorem qFB (k : Nat) : qf (LOk (R := DS FS.D qp3) (fun b _ σ K => LOt Ty (kps 78) 0 b σ K []) cf (call cf k) (cf.keep 78) Try.f78.ntmps k qkh.bs.length) 0 (bd Try.f78) :=
 qA qT (qA (qA qT (qA (qA qT qT) qT)) (qA (qA qT (qA (qA qT qT) qT)) (qA qT qT)))
theorem qFC (k : Nat) (x : qkh.D) : qbR (k + 1) x.1 x.2 = qi cf (fun f a b K => COt f a b K []) (fun b _ σ K => LOt Ty (kps 78) 0 b σ K []) 78 Try.f78.ntmps Try.f78.results.toList (bd Try.f78) (qkh.enc x).1 (qkh.enc x).2 (qj FS.dec qp3) := by kernel_rfl
theorem qxq : ∀ k, qh (call cf k) (qrh k)
 | 0 => fun x y e => absurd (show (none : Option _) = some y from e) (by simp)
 | k + 1 => qe (c := cf) (k := k) (f := 78) (fn := Try.f78) (body := bd Try.f78) (sh := qkh) (os := qp3) rfl Try.func78 rfl ⟨rfl, Nat.le_of_ble_eq_true rfl⟩ (qd (qFA k)) (qFB k) (fun x => qbR (k + 1) x.1 x.2) (qFC k)

def qcY (k : Nat) (a0 : Bool) (a1 : List Int) : Option (Bool × List Int) :=
 if (((((List.length a1) : Nat) : Int) == (0 : Int)) = true) then
 (some (false, []))
 else
 (some ((!a0), a1))
def qaK : Nat → Bool → List Int → Option (Bool × List Int)
 | 0, _, _ => none
 | k + 1, a0, a1 => qcY k a0 a1
def qki : FS := { vs := [.g [.lf .bool, .lf (.sl (.int .i64))]], bs := [] }
def qp4 : List FS := [{ vs := [.g [.lf .bool, .lf (.sl (.int .i64))]], bs := [] }]
def qri (k : Nat) : Inst := ⟨105, qki, qp4, fun x => qaK k x.1 x.2⟩
theorem qFD (k : Nat) : qn (call cf k) [] := True.intro
theorem qFE (k : Nat) : qf (LOk (R := DS FS.D qp4) (fun b _ σ K => LOt Ty (kps 105) 0 b σ K []) cf (call cf k) (cf.keep 105) Try.f105.ntmps k qki.bs.length) 0 (bd Try.f105) :=
 qA qT (qA (qA qT (qA (qA qT qT) qT)) (qA qT qT))
theorem qFF (k : Nat) (x : qki.D) : qaK (k + 1) x.1 x.2 = qi cf (fun f a b K => COt f a b K []) (fun b _ σ K => LOt Ty (kps 105) 0 b σ K []) 105 Try.f105.ntmps Try.f105.results.toList (bd Try.f105) (qki.enc x).1 (qki.enc x).2 (qj FS.dec qp4) := by kernel_rfl
theorem qxr : ∀ k, qh (call cf k) (qri k)
 | 0 => fun x y e => absurd (show (none : Option _) = some y from e) (by simp)
 | k + 1 => qe (c := cf) (k := k) (f := 105) (fn := Try.f105) (body := bd Try.f105) (sh := qki) (os := qp4) rfl Try.func105 rfl ⟨rfl, Nat.le_of_ble_eq_true rfl⟩ (qd (qFD k)) (qFE k) (fun x => qaK (k + 1) x.1 x.2) (qFF k)

def qng (k : Nat) (a0 : Bool) (a1 : List Int) : Option (Bool × List Int) :=
 (some (false, a1))
def qaN : Nat → Bool → List Int → Option (Bool × List Int)
 | 0, _, _ => none
 | k + 1, a0, a1 => qng k a0 a1
def qkj : FS := { vs := [.g [.lf .bool, .lf (.sl (.int .i64))]], bs := [] }
def qp5 : List FS := [{ vs := [.g [.lf .bool, .lf (.sl (.int .i64))]], bs := [] }]
def qtJ (k : Nat) : Inst := ⟨80, qkj, qp5, fun x => qaN k x.1 x.2⟩
theorem qFG (k : Nat) : qn (call cf k) [] := True.intro
theorem qFH (k : Nat) : qf (LOk (R := DS FS.D qp5) (fun b _ σ K => LOt Ty (kps 80) 0 b σ K []) cf (call cf k) (cf.keep 80) Try.f80.ntmps k qkj.bs.length) 0 (bd Try.f80) :=
 qA qT (qA qT qT)
theorem qFI (k : Nat) (x : qkj.D) : qaN (k + 1) x.1 x.2 = qi cf (fun f a b K => COt f a b K []) (fun b _ σ K => LOt Ty (kps 80) 0 b σ K []) 80 Try.f80.ntmps Try.f80.results.toList (bd Try.f80) (qkj.enc x).1 (qkj.enc x).2 (qj FS.dec qp5) := by kernel_rfl
theorem qFJ : ∀ k, qh (call cf k) (qtJ k)
 | 0 => fun x y e => absurd (show (none : Option _) = some y from e) (by simp)
 | k + 1 => qe (c := cf) (k := k) (f := 80) (fn := Try.f80) (body := bd Try.f80) (sh := qkj) (os := qp5) rfl Try.func80 rfl ⟨rfl, Nat.le_of_ble_eq_true rfl⟩ (qd (qFG k)) (qFH k) (fun x => qaN (k + 1) x.1 x.2) (qFI k)

def qaE (k : Nat) (rec : List Int → List Int → Int → Option ((Int) ⊕ (Unit))) (a : List Int) (b : List Int) (i : Int) : Option ((Int) ⊕ (Unit)) :=
 if ((decide (i ≥ (0 : Int))) = true) then
 if ((0 : Int) ≤ i) then
 Option.bind (a)[(Int.toNat i)]? fun x3 =>
 if ((0 : Int) ≤ i) then
 Option.bind (b)[(Int.toNat i)]? fun x4 =>
 if ((decide (x3 < x4)) = true) then
 (some (Sum.inl (-(1 : Int))))
 else
 if ((0 : Int) ≤ i) then
 Option.bind (a)[(Int.toNat i)]? fun x5 =>
 if ((0 : Int) ≤ i) then
 Option.bind (b)[(Int.toNat i)]? fun x6 =>
 if ((decide (x5 > x6)) = true) then
 (some (Sum.inl (1 : Int)))
 else
 rec a b (IntKind.wrap .i64 (i - (1 : Int)))
 else
 none
 else
 none
 else
 none
 else
 none
 else
 (some (Sum.inr ()))
def qau (k n : Nat) : List Int → List Int → Int → Option ((Int) ⊕ (Unit)) := Nat.rec (fun _ _ _ => none) (fun _ r => qaE k r) n
def qeT (k : Nat) (a : List Int) (b : List Int) : Option (Int) :=
 if (((((List.length a) : Nat) : Int) != (((List.length b) : Nat) : Int)) = true) then
 if ((decide ((((List.length a) : Nat) : Int) < (((List.length b) : Nat) : Int))) = true) then
 (some (-(1 : Int)))
 else
 (some (1 : Int))
 else
 Option.bind (qau k k a b (IntKind.wrap .i64 ((((List.length a) : Nat) : Int) - (1 : Int)))) fun r12 =>
 qc r12
 (fun r12 =>
 (some r12))
 (fun r12 =>
 (some (0 : Int)))
def qbS : Nat → List Int → List Int → Option (Int)
 | 0, _, _ => none
 | k + 1, a, b => qeT k a b
def qkk : FS := { vs := [.a (.lf (.sl (.int .i64))), .a (.lf (.sl (.int .i64)))], bs := [] }
def qp6 : List FS := [{ vs := [.a (.lf (.int .i64))], bs := [] }]
def qoi (k : Nat) : Inst := ⟨120, qkk, qp6, fun x => qbS k x.1 x.2⟩
theorem qxs (k : Nat) : qn (call cf k) [] := True.intro
def qiI : List SS := [{ fr := [(0, .a (.lf (.sl (.int .i64)))), (1, .a (.lf (.sl (.int .i64)))), (5, .a (.lf (.int .i64)))], mem := [], nx := 0 }]
def qnh : List OS := [⟨none, { fr := [(4, .a (.lf (.int .i64)))], mem := [], nx := 0 }⟩, ⟨some 0, { fr := [], mem := [], nx := 0 }⟩]
def qni (k : Nat) : LInst := ⟨0, qiI, qnh, fun x => qau k k x.1 x.2.1 x.2.2⟩
theorem qBg (k : Nat) : qf (LOk (R := DS OS.D qnh) (fun b _ σ K => LOt Ty (kps 120) 0 b σ K []) cf (call cf k) (kps 120) Try.f120.ntmps k 0) 0 (lb Try.f120 0) :=
 qA (qA qT (qA qT qT)) (qA (qA (qA qT (qA (qA qT qT) qT)) (qA qT (qA (qA qT qT) qT))) qT)
theorem qBh (k n : Nat) (x : DS SS.D qiI) : qau k (n + 1) x.1 x.2.1 x.2.2 = qE SS.enc (fun σ => qF cf (fun f a b K => COt f a b K []) (fun b _ σ K => LOt Ty (kps 120) 0 b σ K []) Try.f120.ntmps 0 (lb Try.f120 0) σ (qJ Ty (kps 120 0) 0 qiI qnh fun x => qau k n x.1 x.2.1 x.2.2)) qiI x := by kernel_rfl
theorem qBi (k : Nat) : qac cf (call cf k) (kps 120) Try.f120.ntmps k 0 0 (lb Try.f120 0) (qni k) :=
 qr (c := cf) (callF := call cf k) (kp := kps 120) (nt := Try.f120.ntmps) (k := k) (p := 0) (b := 0) (x0 := lb Try.f120 0) (hs := qiI) (os := qnh) (qd (qxs k)) (qBg k) (fun n x => qau k n x.1 x.2.1 x.2.2) (fun _ => rfl) (qBh k)
theorem qFK (k : Nat) : qf (LOk (R := DS FS.D qp6) (fun b _ σ K => LOt Ty (kps 120) 0 b σ K [qni k]) cf (call cf k) (cf.keep 120) Try.f120.ntmps k qkk.bs.length) 0 (bd Try.f120) :=
 qA qT (qA (qA qT (qA (qA (qA qT (qA (qA qT qT) qT)) (qA qT qT)) qT)) (qA (qA qT (qz (c := cf) (callF := call cf k) (kp := kps 120) (nt := Try.f120.ntmps) (k := k) (p := 0) (b := 0) (x0 := lb Try.f120 0) (l := [qni k]) (qA (fun _ => qBi k) qT))) (qA qT qT)))
theorem qFL (k : Nat) (x : qkk.D) : qbS (k + 1) x.1 x.2 = qi cf (fun f a b K => COt f a b K []) (fun b _ σ K => LOt Ty (kps 120) 0 b σ K [qni k]) 120 Try.f120.ntmps Try.f120.results.toList (bd Try.f120) (qkk.enc x).1 (qkk.enc x).2 (qj FS.dec qp6) := by kernel_rfl
theorem qxt : ∀ k, qh (call cf k) (qoi k)
 | 0 => fun x y e => absurd (show (none : Option _) = some y from e) (by simp)
 | k + 1 => qe (c := cf) (k := k) (f := 120) (fn := Try.f120) (body := bd Try.f120) (sh := qkk) (os := qp6) rfl Try.func120 rfl ⟨rfl, Nat.le_of_ble_eq_true rfl⟩ (qd (qxs k)) (qFK k) (fun x => qbS (k + 1) x.1 x.2) (qFL k)

def qaq (k : Nat) (rec : List Int → List Int → Int → Int → Option (Int)) (r : List Int) (b : List Int) (low : Int) (high : Int) : Option (Int) :=
 if ((decide (low < high)) = true) then
 Option.bind (qN k (IntKind.wrap .i64 (Int.tdiv (IntKind.wrap .i64 ((IntKind.wrap .i64 (low + high)) + (1 : Int))) (2 : Int)))) fun r13 =>
 Option.bind (qS k false b r13.1 r13.2) fun r14 =>
 Option.bind (qbS k r14.2 r) fun r15 =>
 if ((decide (r15 ≤ (0 : Int))) = true) then
 rec r b (IntKind.wrap .i64 (Int.tdiv (IntKind.wrap .i64 ((IntKind.wrap .i64 (low + high)) + (1 : Int))) (2 : Int))) high
 else
 rec r b low (IntKind.wrap .i64 ((IntKind.wrap .i64 (Int.tdiv (IntKind.wrap .i64 ((IntKind.wrap .i64 (low + high)) + (1 : Int))) (2 : Int))) - (1 : Int)))
 else
 (some low)
def qak (k n : Nat) : List Int → List Int → Int → Int → Option (Int) := Nat.rec (fun _ _ _ _ => none) (fun _ r => qaq k r) n
def qer (k : Nat) (r : List Int) (b : List Int) : Option (Int) :=
 Option.bind (qbS k r b) fun r12 =>
 if ((decide (r12 < (0 : Int))) = true) then
 (some (0 : Int))
 else
 Option.bind (qak k k r b (0 : Int) (65535 : Int)) fun r13 =>
 (some r13)
def qa2 : Nat → List Int → List Int → Option (Int)
 | 0, _, _ => none
 | k + 1, r, b => qer k r b
def qkl : FS := { vs := [.a (.lf (.sl (.int .i64))), .a (.lf (.sl (.int .i64)))], bs := [] }
def qp7 : List FS := [{ vs := [.a (.lf (.int .i64))], bs := [] }]
def qtK (k : Nat) : Inst := ⟨106, qkl, qp7, fun x => qa2 k x.1 x.2⟩
theorem qxu (k : Nat) : qn (call cf k) [qoi k, qfe k, qff k] := qA (qxt k) (qA (qm6 k) (qA (qnd k) qT))
def qiJ : List SS := [{ fr := [(0, .a (.lf (.sl (.int .i64)))), (1, .a (.lf (.sl (.int .i64)))), (5, .a (.lf (.int .i64))), (6, .a (.lf (.int .i64)))], mem := [], nx := 0 }]
def qnj : List OS := [⟨some 0, { fr := [(5, .a (.lf (.int .i64)))], mem := [], nx := 0 }⟩]
def qnk (k : Nat) : LInst := ⟨0, qiJ, qnj, fun x => qak k k x.1 x.2.1 x.2.2.1 x.2.2.2⟩
theorem qBj (k : Nat) : qf (LOk (R := DS OS.D qnj) (fun b _ σ K => LOt Ty (kps 106) 0 b σ K []) cf (call cf k) (kps 106) Try.f106.ntmps k 0) 0 (lb Try.f106 0) :=
 qA (qA qT (qA qT qT)) (qA qT (qA qT (qA qT qT)))
theorem qBk (k n : Nat) (x : DS SS.D qiJ) : qak k (n + 1) x.1 x.2.1 x.2.2.1 x.2.2.2 = qE SS.enc (fun σ => qF cf (fun f a b K => COt f a b K [qoi k, qfe k, qff k]) (fun b _ σ K => LOt Ty (kps 106) 0 b σ K []) Try.f106.ntmps 0 (lb Try.f106 0) σ (qJ Ty (kps 106 0) 0 qiJ qnj fun x => qak k n x.1 x.2.1 x.2.2.1 x.2.2.2)) qiJ x := by kernel_rfl
theorem qBl (k : Nat) : qac cf (call cf k) (kps 106) Try.f106.ntmps k 0 0 (lb Try.f106 0) (qnk k) :=
 qr (c := cf) (callF := call cf k) (kp := kps 106) (nt := Try.f106.ntmps) (k := k) (p := 0) (b := 0) (x0 := lb Try.f106 0) (hs := qiJ) (os := qnj) (qd (qxu k)) (qBj k) (fun n x => qak k n x.1 x.2.1 x.2.2.1 x.2.2.2) (fun _ => rfl) (qBk k)
theorem qFM (k : Nat) : qf (LOk (R := DS FS.D qp7) (fun b _ σ K => LOt Ty (kps 106) 0 b σ K [qnk k]) cf (call cf k) (cf.keep 106) Try.f106.ntmps k qkl.bs.length) 0 (bd Try.f106) :=
 qA qT (qA qT (qA (qA qT (qA (qA qT qT) qT)) (qA (qz (c := cf) (callF := call cf k) (kp := kps 106) (nt := Try.f106.ntmps) (k := k) (p := 0) (b := 0) (x0 := lb Try.f106 0) (l := [qnk k]) (qA (fun _ => qBl k) qT)) (qA qT qT))))
theorem qFN (k : Nat) (x : qkl.D) : qa2 (k + 1) x.1 x.2 = qi cf (fun f a b K => COt f a b K [qoi k, qfe k, qff k]) (fun b _ σ K => LOt Ty (kps 106) 0 b σ K [qnk k]) 106 Try.f106.ntmps Try.f106.results.toList (bd Try.f106) (qkl.enc x).1 (qkl.enc x).2 (qj FS.dec qp7) := by kernel_rfl
theorem qFO : ∀ k, qh (call cf k) (qtK k)
 | 0 => fun x y e => absurd (show (none : Option _) = some y from e) (by simp)
 | k + 1 => qe (c := cf) (k := k) (f := 106) (fn := Try.f106) (body := bd Try.f106) (sh := qkl) (os := qp7) rfl Try.func106 rfl ⟨rfl, Nat.le_of_ble_eq_true rfl⟩ (qd (qxu k)) (qFM k) (fun x => qa2 (k + 1) x.1 x.2) (qFN k)

def qaU (k : Nat) (rec : List Int → List Int → Nat → Int → Int → List Int → Option (Nat × List Int)) (a : List Int) (b : List Int) (d : Nat) (borrow : Int) (i : Int) (ds : List Int) : Option (Nat × List Int) :=
 if ((decide (i < (((List.length a) : Nat) : Int))) = true) then
 if ((0 : Int) ≤ i) then
 Option.bind (a)[(Int.toNat i)]? fun x3 =>
 if ((decide (i < (((List.length b) : Nat) : Int))) = true) then
 if ((0 : Int) ≤ i) then
 Option.bind (b)[(Int.toNat i)]? fun x4 =>
 if ((decide ((IntKind.wrap .i64 ((IntKind.wrap .i64 (x3 - borrow)) - x4)) < (0 : Int))) = true) then
 if (d ≤ (List.length ds)) then
 if (((d + (List.length (List.take 1 ((IntKind.wrap .i64 ((IntKind.wrap .i64 ((IntKind.wrap .i64 (x3 - borrow)) - x4)) + (65536 : Int))) :: [])))) * 8) ≤ 140737488355328) then
 rec a b (d + (List.length (List.take 1 ((IntKind.wrap .i64 ((IntKind.wrap .i64 ((IntKind.wrap .i64 (x3 - borrow)) - x4)) + (65536 : Int))) :: [])))) (1 : Int) (IntKind.wrap .i64 (i + (1 : Int))) ((List.take d ds) ++ (List.take 1 ((IntKind.wrap .i64 ((IntKind.wrap .i64 ((IntKind.wrap .i64 (x3 - borrow)) - x4)) + (65536 : Int))) :: [])))
 else
 none
 else
 none
 else
 if (d ≤ (List.length ds)) then
 if (((d + (List.length (List.take 1 ((IntKind.wrap .i64 ((IntKind.wrap .i64 (x3 - borrow)) - x4)) :: [])))) * 8) ≤ 140737488355328) then
 rec a b (d + (List.length (List.take 1 ((IntKind.wrap .i64 ((IntKind.wrap .i64 (x3 - borrow)) - x4)) :: [])))) (0 : Int) (IntKind.wrap .i64 (i + (1 : Int))) ((List.take d ds) ++ (List.take 1 ((IntKind.wrap .i64 ((IntKind.wrap .i64 (x3 - borrow)) - x4)) :: [])))
 else
 none
 else
 none
 else
 none
 else
 if ((decide ((IntKind.wrap .i64 (x3 - borrow)) < (0 : Int))) = true) then
 if (d ≤ (List.length ds)) then
 if (((d + (List.length (List.take 1 ((IntKind.wrap .i64 ((IntKind.wrap .i64 (x3 - borrow)) + (65536 : Int))) :: [])))) * 8) ≤ 140737488355328) then
 rec a b (d + (List.length (List.take 1 ((IntKind.wrap .i64 ((IntKind.wrap .i64 (x3 - borrow)) + (65536 : Int))) :: [])))) (1 : Int) (IntKind.wrap .i64 (i + (1 : Int))) ((List.take d ds) ++ (List.take 1 ((IntKind.wrap .i64 ((IntKind.wrap .i64 (x3 - borrow)) + (65536 : Int))) :: [])))
 else
 none
 else
 none
 else
 if (d ≤ (List.length ds)) then
 if (((d + (List.length (List.take 1 ((IntKind.wrap .i64 (x3 - borrow)) :: [])))) * 8) ≤ 140737488355328) then
 rec a b (d + (List.length (List.take 1 ((IntKind.wrap .i64 (x3 - borrow)) :: [])))) (0 : Int) (IntKind.wrap .i64 (i + (1 : Int))) ((List.take d ds) ++ (List.take 1 ((IntKind.wrap .i64 (x3 - borrow)) :: [])))
 else
 none
 else
 none
 else
 none
 else
 (some (d, ds))
def qY (k n : Nat) : List Int → List Int → Nat → Int → Int → List Int → Option (Nat × List Int) := Nat.rec (fun _ _ _ _ _ _ => none) (fun _ r => qaU k r) n
def qes (k : Nat) (a : List Int) (b : List Int) : Option (List Int) :=
 Option.bind (qY k k a b 0 (0 : Int) (0 : Int) []) fun r15 =>
 Option.bind (qw k r15.1 r15.2) fun r16 =>
 if ((0 + r16.1) ≤ (List.length r16.2)) then
 (some (List.take r16.1 r16.2))
 else
 none
def qap : Nat → List Int → List Int → Option (List Int)
 | 0, _, _ => none
 | k + 1, a, b => qes k a b
def qkm : FS := { vs := [.a (.lf (.sl (.int .i64))), .a (.lf (.sl (.int .i64)))], bs := [] }
def qp8 : List FS := [{ vs := [.a (.lf (.sl (.int .i64)))], bs := [] }]
def qoj (k : Nat) : Inst := ⟨107, qkm, qp8, fun x => qap k x.1 x.2⟩
theorem qxv (k : Nat) : qn (call cf k) [qed k] := qA (qm9 k) qT
def qiK : List SS := [{ fr := [(0, .a (.lf (.sl (.int .i64)))), (1, .a (.lf (.sl (.int .i64)))), (5, .a (.smz 0)), (6, .a (.lf (.int .i64))), (7, .a (.lf (.int .i64)))], mem := [(0, some (.arr (.int .i64) 1 3 false))], nx := 1 }]
def qnl : List OS := [⟨some 0, { fr := [(5, .a (.smz 0))], mem := [(0, some (.arr (.int .i64) 1 3 false))], nx := 1 }⟩]
def qnm (k : Nat) : LInst := ⟨0, qiK, qnl, fun x => qY k k x.1 x.2.1 x.2.2.1 x.2.2.2.1 x.2.2.2.2.1 x.2.2.2.2.2⟩
theorem qBm (k : Nat) : qf (LOk (R := DS OS.D qnl) (fun b _ σ K => LOt Ty (kps 107) 0 b σ K []) cf (call cf k) (kps 107) Try.f107.ntmps k 0) 0 (lb Try.f107 0) :=
 qA (qA qT (qA qT qT)) (qA (qA qT (qA (qA qT (qA qT qT)) (qA qT (qA (qA qT (qA (qA qT qT) qT)) qT)))) qT)
theorem qBn (k n : Nat) (x : DS SS.D qiK) : qY k (n + 1) x.1 x.2.1 x.2.2.1 x.2.2.2.1 x.2.2.2.2.1 x.2.2.2.2.2 = qE SS.enc (fun σ => qF cf (fun f a b K => COt f a b K [qed k]) (fun b _ σ K => LOt Ty (kps 107) 0 b σ K []) Try.f107.ntmps 0 (lb Try.f107 0) σ (qJ Ty (kps 107 0) 0 qiK qnl fun x => qY k n x.1 x.2.1 x.2.2.1 x.2.2.2.1 x.2.2.2.2.1 x.2.2.2.2.2)) qiK x := by kernel_rfl
theorem qBo (k : Nat) : qac cf (call cf k) (kps 107) Try.f107.ntmps k 0 0 (lb Try.f107 0) (qnm k) :=
 qr (c := cf) (callF := call cf k) (kp := kps 107) (nt := Try.f107.ntmps) (k := k) (p := 0) (b := 0) (x0 := lb Try.f107 0) (hs := qiK) (os := qnl) (qd (qxv k)) (qBm k) (fun n x => qY k n x.1 x.2.1 x.2.2.1 x.2.2.2.1 x.2.2.2.2.1 x.2.2.2.2.2) (fun _ => rfl) (qBn k)
theorem qFP (k : Nat) : qf (LOk (R := DS FS.D qp8) (fun b _ σ K => LOt Ty (kps 107) 0 b σ K [qnm k]) cf (call cf k) (cf.keep 107) Try.f107.ntmps k qkm.bs.length) 0 (bd Try.f107) :=
 qA qT (qA qT (qA qT (qA (qA qT (qz (c := cf) (callF := call cf k) (kp := kps 107) (nt := Try.f107.ntmps) (k := k) (p := 0) (b := 0) (x0 := lb Try.f107 0) (l := [qnm k]) (qA (fun _ => qBo k) qT))) (qA qT qT))))
theorem qFQ (k : Nat) (x : qkm.D) : qap (k + 1) x.1 x.2 = qi cf (fun f a b K => COt f a b K [qed k]) (fun b _ σ K => LOt Ty (kps 107) 0 b σ K [qnm k]) 107 Try.f107.ntmps Try.f107.results.toList (bd Try.f107) (qkm.enc x).1 (qkm.enc x).2 (qj FS.dec qp8) := by kernel_rfl
theorem qxw : ∀ k, qh (call cf k) (qoj k)
 | 0 => fun x y e => absurd (show (none : Option _) = some y from e) (by simp)
 | k + 1 => qe (c := cf) (k := k) (f := 107) (fn := Try.f107) (body := bd Try.f107) (sh := qkm) (os := qp8) rfl Try.func107 rfl ⟨rfl, Nat.le_of_ble_eq_true rfl⟩ (qd (qxv k)) (qFP k) (fun x => qap (k + 1) x.1 x.2) (qFQ k)

def qD (k : Nat) (rec : ((Nat × Nat × Int × Bool × List Int × Bool × List Int × Bool × Nat × Bool × Nat × List Int × List Int × List Int × List Int) ⊕ (Nat × List Int × Int × Bool × List Int × Bool × List Int × Bool × Nat × Bool × Nat × List Int × List Int × List Int)) → Option ((Nat × Nat × Bool × List Int × Bool × List Int × Bool × Nat × Bool × Nat × List Int × List Int × List Int × List Int) ⊕ (Nat × List Int × Bool × List Int × Bool × List Int × Bool × Nat × Bool × Nat × List Int × List Int × List Int))) (x : (Nat × Nat × Int × Bool × List Int × Bool × List Int × Bool × Nat × Bool × Nat × List Int × List Int × List Int × List Int) ⊕ (Nat × List Int × Int × Bool × List Int × Bool × List Int × Bool × Nat × Bool × Nat × List Int × List Int × List Int)) : Option ((Nat × Nat × Bool × List Int × Bool × List Int × Bool × Nat × Bool × Nat × List Int × List Int × List Int × List Int) ⊕ (Nat × List Int × Bool × List Int × Bool × List Int × Bool × Nat × Bool × Nat × List Int × List Int × List Int)) :=
 qc x
 (fun x =>
 if ((decide (x.2.2.1 ≥ (0 : Int))) = true) then
 if ((0 : Int) ≤ x.2.2.1) then
 Option.bind (x.2.2.2.2.1)[(Int.toNat x.2.2.1)]? fun x2 =>
 if ((0 + x.2.1) ≤ (List.length x.2.2.2.2.2.2.2.2.2.2.2.2.1)) then
 if (((1 + (List.length (List.take x.2.1 x.2.2.2.2.2.2.2.2.2.2.2.2.1))) * 8) ≤ 140737488355328) then
 Option.bind (qw k (1 + (List.length (List.take x.2.1 x.2.2.2.2.2.2.2.2.2.2.2.2.1))) ((List.take 1 (x2 :: [])) ++ (List.take x.2.1 x.2.2.2.2.2.2.2.2.2.2.2.2.1))) fun r11 =>
 if ((0 + r11.1) ≤ (List.length r11.2)) then
 Option.bind (qa2 k (List.take r11.1 r11.2) x.2.2.2.2.2.2.1) fun r12 =>
 if ((decide (r12 > (0 : Int))) = true) then
 Option.bind (qN k r12) fun r13 =>
 Option.bind (qS k false x.2.2.2.2.2.2.1 r13.1 r13.2) fun r14 =>
 if ((0 + r11.1) ≤ (List.length r11.2)) then
 Option.bind (qap k (List.take r11.1 r11.2) r14.2) fun r15 =>
 if (((0 : Int) ≤ x.2.2.1) ∧ (x.2.2.1 < ((x.1 : Nat) : Int))) then
 Option.bind (x.2.2.2.2.2.2.2.2.2.2.2.1)[(0 + (Int.toNat x.2.2.1))]? fun x3 =>
 rec (Sum.inr (x.1, r15, (IntKind.wrap .i64 (x.2.2.1 - (1 : Int))), x.2.2.2.1, x.2.2.2.2.1, x.2.2.2.2.2.1, x.2.2.2.2.2.2.1, x.2.2.2.2.2.2.2.1, x.2.2.2.2.2.2.2.2.1, x.2.2.2.2.2.2.2.2.2.1, x.2.2.2.2.2.2.2.2.2.2.1, (List.set x.2.2.2.2.2.2.2.2.2.2.2.1 (0 + (Int.toNat x.2.2.1)) r12), x.2.2.2.2.2.2.2.2.2.2.2.2.2.1, x.2.2.2.2.2.2.2.2.2.2.2.2.2.2))
 else
 none
 else
 none
 else
 if (((0 : Int) ≤ x.2.2.1) ∧ (x.2.2.1 < ((x.1 : Nat) : Int))) then
 Option.bind (x.2.2.2.2.2.2.2.2.2.2.2.1)[(0 + (Int.toNat x.2.2.1))]? fun x3 =>
 rec (Sum.inl (x.1, r11.1, (IntKind.wrap .i64 (x.2.2.1 - (1 : Int))), x.2.2.2.1, x.2.2.2.2.1, x.2.2.2.2.2.1, x.2.2.2.2.2.2.1, x.2.2.2.2.2.2.2.1, x.2.2.2.2.2.2.2.2.1, x.2.2.2.2.2.2.2.2.2.1, x.2.2.2.2.2.2.2.2.2.2.1, (List.set x.2.2.2.2.2.2.2.2.2.2.2.1 (0 + (Int.toNat x.2.2.1)) r12), r11.2, x.2.2.2.2.2.2.2.2.2.2.2.2.2.1, x.2.2.2.2.2.2.2.2.2.2.2.2.2.2))
 else
 none
 else
 none
 else
 none
 else
 none
 else
 none
 else
 (some (Sum.inl (x.1, x.2.1, x.2.2.2.1, x.2.2.2.2.1, x.2.2.2.2.2.1, x.2.2.2.2.2.2.1, x.2.2.2.2.2.2.2.1, x.2.2.2.2.2.2.2.2.1, x.2.2.2.2.2.2.2.2.2.1, x.2.2.2.2.2.2.2.2.2.2.1, x.2.2.2.2.2.2.2.2.2.2.2.1, x.2.2.2.2.2.2.2.2.2.2.2.2.1, x.2.2.2.2.2.2.2.2.2.2.2.2.2.1, x.2.2.2.2.2.2.2.2.2.2.2.2.2.2))))
 (fun x =>
 if ((decide (x.2.2.1 ≥ (0 : Int))) = true) then
 if ((0 : Int) ≤ x.2.2.1) then
 Option.bind (x.2.2.2.2.1)[(Int.toNat x.2.2.1)]? fun x2 =>
 if (((1 + (List.length x.2.1)) * 8) ≤ 140737488355328) then
 Option.bind (qw k (1 + (List.length x.2.1)) ((List.take 1 (x2 :: [])) ++ x.2.1)) fun r11 =>
 if ((0 + r11.1) ≤ (List.length r11.2)) then
 Option.bind (qa2 k (List.take r11.1 r11.2) x.2.2.2.2.2.2.1) fun r12 =>
 if ((decide (r12 > (0 : Int))) = true) then
 Option.bind (qN k r12) fun r13 =>
 Option.bind (qS k false x.2.2.2.2.2.2.1 r13.1 r13.2) fun r14 =>
 if ((0 + r11.1) ≤ (List.length r11.2)) then
 Option.bind (qap k (List.take r11.1 r11.2) r14.2) fun r15 =>
 if (((0 : Int) ≤ x.2.2.1) ∧ (x.2.2.1 < ((x.1 : Nat) : Int))) then
 Option.bind (x.2.2.2.2.2.2.2.2.2.2.2.1)[(0 + (Int.toNat x.2.2.1))]? fun x3 =>
 rec (Sum.inr (x.1, r15, (IntKind.wrap .i64 (x.2.2.1 - (1 : Int))), x.2.2.2.1, x.2.2.2.2.1, x.2.2.2.2.2.1, x.2.2.2.2.2.2.1, x.2.2.2.2.2.2.2.1, x.2.2.2.2.2.2.2.2.1, x.2.2.2.2.2.2.2.2.2.1, x.2.2.2.2.2.2.2.2.2.2.1, (List.set x.2.2.2.2.2.2.2.2.2.2.2.1 (0 + (Int.toNat x.2.2.1)) r12), x.2.2.2.2.2.2.2.2.2.2.2.2.1, x.2.2.2.2.2.2.2.2.2.2.2.2.2))
 else
 none
 else
 none
 else
 if (((0 : Int) ≤ x.2.2.1) ∧ (x.2.2.1 < ((x.1 : Nat) : Int))) then
 Option.bind (x.2.2.2.2.2.2.2.2.2.2.2.1)[(0 + (Int.toNat x.2.2.1))]? fun x3 =>
 rec (Sum.inl (x.1, r11.1, (IntKind.wrap .i64 (x.2.2.1 - (1 : Int))), x.2.2.2.1, x.2.2.2.2.1, x.2.2.2.2.2.1, x.2.2.2.2.2.2.1, x.2.2.2.2.2.2.2.1, x.2.2.2.2.2.2.2.2.1, x.2.2.2.2.2.2.2.2.2.1, x.2.2.2.2.2.2.2.2.2.2.1, (List.set x.2.2.2.2.2.2.2.2.2.2.2.1 (0 + (Int.toNat x.2.2.1)) r12), r11.2, x.2.2.2.2.2.2.2.2.2.2.2.2.1, x.2.2.2.2.2.2.2.2.2.2.2.2.2))
 else
 none
 else
 none
 else
 none
 else
 none
 else
 (some (Sum.inr (x.1, x.2.1, x.2.2.2.1, x.2.2.2.2.1, x.2.2.2.2.2.1, x.2.2.2.2.2.2.1, x.2.2.2.2.2.2.2.1, x.2.2.2.2.2.2.2.2.1, x.2.2.2.2.2.2.2.2.2.1, x.2.2.2.2.2.2.2.2.2.2.1, x.2.2.2.2.2.2.2.2.2.2.2.1, x.2.2.2.2.2.2.2.2.2.2.2.2.1, x.2.2.2.2.2.2.2.2.2.2.2.2.2))))
def qH (k n : Nat) : ((Nat × Nat × Int × Bool × List Int × Bool × List Int × Bool × Nat × Bool × Nat × List Int × List Int × List Int × List Int) ⊕ (Nat × List Int × Int × Bool × List Int × Bool × List Int × Bool × Nat × Bool × Nat × List Int × List Int × List Int)) → Option ((Nat × Nat × Bool × List Int × Bool × List Int × Bool × Nat × Bool × Nat × List Int × List Int × List Int × List Int) ⊕ (Nat × List Int × Bool × List Int × Bool × List Int × Bool × Nat × Bool × Nat × List Int × List Int × List Int)) := Nat.rec (fun _ => none) (fun _ r => qD k r) n
def qee (k : Nat) (a0 : Bool) (a1 : List Int) (b0 : Bool) (b1 : List Int) : Option (Bool × List Int × Bool × List Int) :=
 if (((0 : Int) ≤ (((List.length a1) : Nat) : Int)) ∧ (((((List.length a1) : Nat) : Int) ≤ (((List.length a1) : Nat) : Int)) ∧ (((((List.length a1) : Nat) : Int) * (8 : Int)) ≤ (140737488355328 : Int)))) then
 Option.bind (qH k k (Sum.inl ((Int.toNat (((List.length a1) : Nat) : Int)), 0, (IntKind.wrap .i64 ((((List.length a1) : Nat) : Int) - (1 : Int))), a0, a1, b0, b1, false, 0, false, 0, (List.replicate (Int.toNat (((List.length a1) : Nat) : Int)) (0 : Int)), [], [], []))) fun r11 =>
 qc r11
 (fun r11 =>
 Option.bind (qw k r11.1 r11.2.2.2.2.2.2.2.2.2.2.1) fun r12 =>
 if ((!(r11.2.2.1 == r11.2.2.2.2.1)) = true) then
 if (r11.2.2.1 = true) then
 if ((0 + r12.1) ≤ (List.length r12.2)) then
 if ((0 + r11.2.1) ≤ (List.length r11.2.2.2.2.2.2.2.2.2.2.2.1)) then
 (some ((decide (((r12.1 : Nat) : Int) > (0 : Int))), (List.take r12.1 r12.2), (decide (((r11.2.1 : Nat) : Int) > (0 : Int))), (List.take r11.2.1 r11.2.2.2.2.2.2.2.2.2.2.2.1)))
 else
 none
 else
 none
 else
 if ((0 + r12.1) ≤ (List.length r12.2)) then
 if ((0 + r11.2.1) ≤ (List.length r11.2.2.2.2.2.2.2.2.2.2.2.1)) then
 (some ((decide (((r12.1 : Nat) : Int) > (0 : Int))), (List.take r12.1 r12.2), false, (List.take r11.2.1 r11.2.2.2.2.2.2.2.2.2.2.2.1)))
 else
 none
 else
 none
 else
 if (r11.2.2.1 = true) then
 if ((0 + r12.1) ≤ (List.length r12.2)) then
 if ((0 + r11.2.1) ≤ (List.length r11.2.2.2.2.2.2.2.2.2.2.2.1)) then
 (some (false, (List.take r12.1 r12.2), (decide (((r11.2.1 : Nat) : Int) > (0 : Int))), (List.take r11.2.1 r11.2.2.2.2.2.2.2.2.2.2.2.1)))
 else
 none
 else
 none
 else
 if ((0 + r12.1) ≤ (List.length r12.2)) then
 if ((0 + r11.2.1) ≤ (List.length r11.2.2.2.2.2.2.2.2.2.2.2.1)) then
 (some (false, (List.take r12.1 r12.2), false, (List.take r11.2.1 r11.2.2.2.2.2.2.2.2.2.2.2.1)))
 else
 none
 else
 none)
 (fun r11 =>
 Option.bind (qw k r11.1 r11.2.2.2.2.2.2.2.2.2.2.1) fun r12 =>
 if ((!(r11.2.2.1 == r11.2.2.2.2.1)) = true) then
 if (r11.2.2.1 = true) then
 if ((0 + r12.1) ≤ (List.length r12.2)) then
 (some ((decide (((r12.1 : Nat) : Int) > (0 : Int))), (List.take r12.1 r12.2), (decide ((((List.length r11.2.1) : Nat) : Int) > (0 : Int))), r11.2.1))
 else
 none
 else
 if ((0 + r12.1) ≤ (List.length r12.2)) then
 (some ((decide (((r12.1 : Nat) : Int) > (0 : Int))), (List.take r12.1 r12.2), false, r11.2.1))
 else
 none
 else
 if (r11.2.2.1 = true) then
 if ((0 + r12.1) ≤ (List.length r12.2)) then
 (some (false, (List.take r12.1 r12.2), (decide ((((List.length r11.2.1) : Nat) : Int) > (0 : Int))), r11.2.1))
 else
 none
 else
 if ((0 + r12.1) ≤ (List.length r12.2)) then
 (some (false, (List.take r12.1 r12.2), false, r11.2.1))
 else
 none)
 else
 none
def qav : Nat → Bool → List Int → Bool → List Int → Option (Bool × List Int × Bool × List Int)
 | 0, _, _, _, _ => none
 | k + 1, a0, a1, b0, b1 => qee k a0 a1 b0 b1
def qkn : FS := { vs := [.g [.lf .bool, .lf (.sl (.int .i64))], .g [.lf .bool, .lf (.sl (.int .i64))]], bs := [] }
def qp9 : List FS := [{ vs := [.g [.lf .bool, .lf (.sl (.int .i64))], .g [.lf .bool, .lf (.sl (.int .i64))]], bs := [] }]
def qok (k : Nat) : Inst := ⟨81, qkn, qp9, fun x => qav k x.1 x.2.1 x.2.2.1 x.2.2.2⟩
theorem qxx (k : Nat) : qn (call cf k) [qed k, qtK k, qfe k, qff k, qoj k] := qA (qm9 k) (qA (qFO k) (qA (qm6 k) (qA (qnd k) (qA (qxw k) qT))))
def qiL : List SS := [{ fr := [(2, .a (.ptr 0 0 0)), (3, .a (.ptr 1 0 0)), (4, .a (.ptr 2 0 0)), (5, .a (.ptr 3 0 0)), (6, .a (.smz 4)), (7, .a (.smz 5)), (8, .a (.lf (.int .i64)))], mem := [(0, some (.raw [[.lf .bool, .lf (.sl (.int .i64))]] 2 77 true false)), (1, some (.raw [[.lf .bool, .lf (.sl (.int .i64))]] 2 77 true false)), (2, some (.raw [[.lf .bool, .smz 6]] 2 77 false false)), (3, some (.raw [[.lf .bool, .smz 7]] 2 77 false false)), (4, some (.arr (.int .i64) 1 3 false)), (5, some (.arr (.int .i64) 1 3 false)), (6, some (.arr (.int .i64) 1 3 false)), (7, some (.arr (.int .i64) 1 3 false))], nx := 8 }, { fr := [(2, .a (.ptr 0 0 0)), (3, .a (.ptr 1 0 0)), (4, .a (.ptr 2 0 0)), (5, .a (.ptr 3 0 0)), (6, .a (.smz 4)), (7, .a (.lf (.sl (.int .i64)))), (8, .a (.lf (.int .i64)))], mem := [(0, some (.raw [[.lf .bool, .lf (.sl (.int .i64))]] 2 77 true false)), (1, some (.raw [[.lf .bool, .lf (.sl (.int .i64))]] 2 77 true false)), (2, some (.raw [[.lf .bool, .smz 5]] 2 77 false false)), (3, some (.raw [[.lf .bool, .smz 6]] 2 77 false false)), (4, some (.arr (.int .i64) 1 3 false)), (5, some (.arr (.int .i64) 1 3 false)), (6, some (.arr (.int .i64) 1 3 false))], nx := 7 }]
def qnn : List OS := [⟨some 0, { fr := [(2, .a (.ptr 0 0 0)), (3, .a (.ptr 1 0 0)), (4, .a (.ptr 2 0 0)), (5, .a (.ptr 3 0 0)), (6, .a (.smz 4)), (7, .a (.smz 5))], mem := [(0, some (.raw [[.lf .bool, .lf (.sl (.int .i64))]] 2 77 true false)), (1, some (.raw [[.lf .bool, .lf (.sl (.int .i64))]] 2 77 true false)), (2, some (.raw [[.lf .bool, .smz 6]] 2 77 false false)), (3, some (.raw [[.lf .bool, .smz 7]] 2 77 false false)), (4, some (.arr (.int .i64) 1 3 false)), (5, some (.arr (.int .i64) 1 3 false)), (6, some (.arr (.int .i64) 1 3 false)), (7, some (.arr (.int .i64) 1 3 false))], nx := 8 }⟩, ⟨some 0, { fr := [(2, .a (.ptr 0 0 0)), (3, .a (.ptr 1 0 0)), (4, .a (.ptr 2 0 0)), (5, .a (.ptr 3 0 0)), (6, .a (.smz 4)), (7, .a (.lf (.sl (.int .i64))))], mem := [(0, some (.raw [[.lf .bool, .lf (.sl (.int .i64))]] 2 77 true false)), (1, some (.raw [[.lf .bool, .lf (.sl (.int .i64))]] 2 77 true false)), (2, some (.raw [[.lf .bool, .smz 5]] 2 77 false false)), (3, some (.raw [[.lf .bool, .smz 6]] 2 77 false false)), (4, some (.arr (.int .i64) 1 3 false)), (5, some (.arr (.int .i64) 1 3 false)), (6, some (.arr (.int .i64) 1 3 false))], nx := 7 }⟩]
def qno (k : Nat) : LInst := ⟨0, qiL, qnn, fun x => qH k k x⟩
theorem qBp (k : Nat) : qf (LOk (R := DS OS.D qnn) (fun b _ σ K => LOt Ty (kps 81) 0 b σ K []) cf (call cf k) (kps 81) Try.f81.ntmps k 0) 0 (lb Try.f81 0) :=
 qA (qA qT (qA qT qT)) (qA (qA qT (qA qT (qA qT (qA (qA qT (qA qT qT)) qT)))) qT)
theorem qBq (k n : Nat) (x : DS SS.D qiL) : qH k (n + 1) x = qE SS.enc (fun σ => qF cf (fun f a b K => COt f a b K [qed k, qtK k, qfe k, qff k, qoj k]) (fun b _ σ K => LOt Ty (kps 81) 0 b σ K []) Try.f81.ntmps 0 (lb Try.f81 0) σ (qJ Ty (kps 81 0) 0 qiL qnn fun x => qH k n x)) qiL x := by kernel_rfl
theorem qBr (k : Nat) : qac cf (call cf k) (kps 81) Try.f81.ntmps k 0 0 (lb Try.f81 0) (qno k) :=
 qr (c := cf) (callF := call cf k) (kp := kps 81) (nt := Try.f81.ntmps) (k := k) (p := 0) (b := 0) (x0 := lb Try.f81 0) (hs := qiL) (os := qnn) (qd (qxx k)) (qBp k) (fun n x => qH k n x) (fun _ => rfl) (qBq k)
theorem qFR (k : Nat) : qf (LOk (R := DS FS.D qp9) (fun b _ σ K => LOt Ty (kps 81) 0 b σ K [qno k]) cf (call cf k) (cf.keep 81) Try.f81.ntmps k qkn.bs.length) 0 (bd Try.f81) :=
 qA qT (qA qT (qA qT (qA (qA qT (qz (c := cf) (callF := call cf k) (kp := kps 81) (nt := Try.f81.ntmps) (k := k) (p := 0) (b := 0) (x0 := lb Try.f81 0) (l := [qno k]) (qA (fun _ => qBr k) qT))) (qA qT (qA qT qT)))))
theorem qFS (k : Nat) (x : qkn.D) : qav (k + 1) x.1 x.2.1 x.2.2.1 x.2.2.2 = qi cf (fun f a b K => COt f a b K [qed k, qtK k, qfe k, qff k, qoj k]) (fun b _ σ K => LOt Ty (kps 81) 0 b σ K [qno k]) 81 Try.f81.ntmps Try.f81.results.toList (bd Try.f81) (qkn.enc x).1 (qkn.enc x).2 (qj FS.dec qp9) := by kernel_rfl
theorem qxy : ∀ k, qh (call cf k) (qok k)
 | 0 => fun x y e => absurd (show (none : Option _) = some y from e) (by simp)
 | k + 1 => qe (c := cf) (k := k) (f := 81) (fn := Try.f81) (body := bd Try.f81) (sh := qkn) (os := qp9) rfl Try.func81 rfl ⟨rfl, Nat.le_of_ble_eq_true rfl⟩ (qd (qxx k)) (qFR k) (fun x => qav (k + 1) x.1 x.2.1 x.2.2.1 x.2.2.2) (qFS k)

def qb4 (k : Nat) (rec : Bool → List Int → Bool → List Int → Bool → Nat → List Int → Option (Bool × List Int × Bool × List Int × Bool × Nat × List Int)) (a0 : Bool) (a1 : List Int) (b0 : Bool) (b1 : List Int) (x0 : Bool) (x1 : Nat) (m : List Int) : Option (Bool × List Int × Bool × List Int × Bool × Nat × List Int) :=
 if ((decide ((((List.length b1) : Nat) : Int) > (0 : Int))) = true) then
 Option.bind (qav k a0 a1 b0 b1) fun r11 =>
 rec b0 b1 r11.2.2.1 r11.2.2.2 x0 x1 m
 else
 (some (a0, a1, b0, b1, x0, x1, m))
def qaI (k n : Nat) : Bool → List Int → Bool → List Int → Bool → Nat → List Int → Option (Bool × List Int × Bool × List Int × Bool × Nat × List Int) := Nat.rec (fun _ _ _ _ _ _ _ => none) (fun _ r => qb4 k r) n
def qiM (k : Nat) (a0 : Bool) (a1 : List Int) (b0 : Bool) (b1 : List Int) : Option (Bool × List Int) :=
 Option.bind (qaN k a0 a1) fun r9 =>
 Option.bind (qaN k b0 b1) fun r10 =>
 Option.bind (qaI k k r9.1 r9.2 r10.1 r10.2 false 0 []) fun r11 =>
 (some (r11.1, r11.2.1))
def qaQ : Nat → Bool → List Int → Bool → List Int → Option (Bool × List Int)
 | 0, _, _, _, _ => none
 | k + 1, a0, a1, b0, b1 => qiM k a0 a1 b0 b1
def qko : FS := { vs := [.g [.lf .bool, .lf (.sl (.int .i64))], .g [.lf .bool, .lf (.sl (.int .i64))]], bs := [] }
def qqa : List FS := [{ vs := [.g [.lf .bool, .lf (.sl (.int .i64))]], bs := [] }]
def qrj (k : Nat) : Inst := ⟨41, qko, qqa, fun x => qaQ k x.1 x.2.1 x.2.2.1 x.2.2.2⟩
theorem qxz (k : Nat) : qn (call cf k) [qtJ k, qok k] := qA (qFJ k) (qA (qxy k) qT)
def qiN : List SS := [{ fr := [(2, .a (.ptr 0 0 0)), (3, .a (.ptr 1 0 0)), (4, .a (.ptr 2 0 0))], mem := [(0, some (.raw [[.lf .bool, .lf (.sl (.int .i64))]] 2 77 true false)), (1, some (.raw [[.lf .bool, .lf (.sl (.int .i64))]] 2 77 true false)), (2, some (.raw [[.lf .bool, .smz 3]] 2 77 false false)), (3, some (.arr (.int .i64) 1 3 false))], nx := 4 }]
def qnp : List OS := [⟨some 0, { fr := [(2, .a (.ptr 0 0 0)), (4, .a (.ptr 2 0 0))], mem := [(0, some (.raw [[.lf .bool, .lf (.sl (.int .i64))]] 2 77 true false)), (1, some (.raw [[.lf .bool, .lf (.sl (.int .i64))]] 2 77 true false)), (2, some (.raw [[.lf .bool, .smz 3]] 2 77 false false)), (3, some (.arr (.int .i64) 1 3 false))], nx := 4 }⟩]
def qnq (k : Nat) : LInst := ⟨0, qiN, qnp, fun x => qaI k k x.1 x.2.1 x.2.2.1 x.2.2.2.1 x.2.2.2.2.1 x.2.2.2.2.2.1 x.2.2.2.2.2.2⟩
theorem qBs (k : Nat) : qf (LOk (R := DS OS.D qnp) (fun b _ σ K => LOt Ty (kps 41) 0 b σ K []) cf (call cf k) (kps 41) Try.f41.ntmps k 0) 0 (lb Try.f41 0) :=
 qA (qA qT (qA qT qT)) (qA qT qT)
theorem qBt (k n : Nat) (x : DS SS.D qiN) : qaI k (n + 1) x.1 x.2.1 x.2.2.1 x.2.2.2.1 x.2.2.2.2.1 x.2.2.2.2.2.1 x.2.2.2.2.2.2 = qE SS.enc (fun σ => qF cf (fun f a b K => COt f a b K [qtJ k, qok k]) (fun b _ σ K => LOt Ty (kps 41) 0 b σ K []) Try.f41.ntmps 0 (lb Try.f41 0) σ (qJ Ty (kps 41 0) 0 qiN qnp fun x => qaI k n x.1 x.2.1 x.2.2.1 x.2.2.2.1 x.2.2.2.2.1 x.2.2.2.2.2.1 x.2.2.2.2.2.2)) qiN x := by kernel_rfl
theorem qBu (k : Nat) : qac cf (call cf k) (kps 41) Try.f41.ntmps k 0 0 (lb Try.f41 0) (qnq k) :=
 qr (c := cf) (callF := call cf k) (kp := kps 41) (nt := Try.f41.ntmps) (k := k) (p := 0) (b := 0) (x0 := lb Try.f41 0) (hs := qiN) (os := qnp) (qd (qxz k)) (qBs k) (fun n x => qaI k n x.1 x.2.1 x.2.2.1 x.2.2.2.1 x.2.2.2.2.1 x.2.2.2.2.2.1 x.2.2.2.2.2.2) (fun _ => rfl) (qBt k)
theorem qFT (k : Nat) : qf (LOk (R := DS FS.D qqa) (fun b _ σ K => LOt Ty (kps 41) 0 b σ K [qnq k]) cf (call cf k) (cf.keep 41) Try.f41.ntmps k qko.bs.length) 0 (bd Try.f41) :=
 qA qT (qA qT (qA (qz (c := cf) (callF := call cf k) (kp := kps 41) (nt := Try.f41.ntmps) (k := k) (p := 0) (b := 0) (x0 := lb Try.f41 0) (l := [qnq k]) (qA (fun _ => qBu k) qT)) (qA qT qT)))
theorem qFU (k : Nat) (x : qko.D) : qaQ (k + 1) x.1 x.2.1 x.2.2.1 x.2.2.2 = qi cf (fun f a b K => COt f a b K [qtJ k, qok k]) (fun b _ σ K => LOt Ty (kps 41) 0 b σ K [qnq k]) 41 Try.f41.ntmps Try.f41.results.toList (bd Try.f41) (qko.enc x).1 (qko.enc x).2 (qj FS.dec qqa) := by kernel_rfl
theorem qxA : ∀ k, qh (call cf k) (qrj k)
 | 0 => fun x y e => absurd (show (none : Option _) = some y from e) (by simp)
 | k + 1 => qe (c := cf) (k := k) (f := 41) (fn := Try.f41) (body := bd Try.f41) (sh := qko) (os := qqa) rfl Try.func41 rfl ⟨rfl, Nat.le_of_ble_eq_true rfl⟩ (qd (qxz k)) (qFT k) (fun x => qaQ (k + 1) x.1 x.2.1 x.2.2.1 x.2.2.2) (qFU k)

def qcR (k : Nat) (num0 : Bool) (num1 : List Int) (den0 : Bool) (den1 : List Int) : Option (Bool × List Int × Bool × List Int) :=
 Option.bind (qbR k den0 den1) fun r6 =>
 if ((decide (r6 < (0 : Int))) = true) then
 Option.bind (qaK k num0 num1) fun r7 =>
 Option.bind (qaK k den0 den1) fun r8 =>
 Option.bind (qaQ k r7.1 r7.2 r8.1 r8.2) fun r9 =>
 Option.bind (qav k r7.1 r7.2 r9.1 r9.2) fun r10 =>
 Option.bind (qav k r8.1 r8.2 r9.1 r9.2) fun r11 =>
 (some (r10.1, r10.2.1, r11.1, r11.2.1))
 else
 Option.bind (qaQ k num0 num1 den0 den1) fun r7 =>
 Option.bind (qav k num0 num1 r7.1 r7.2) fun r8 =>
 Option.bind (qav k den0 den1 r7.1 r7.2) fun r9 =>
 (some (r8.1, r8.2.1, r9.1, r9.2.1))
def qbn : Nat → Bool → List Int → Bool → List Int → Option (Bool × List Int × Bool × List Int)
 | 0, _, _, _, _ => none
 | k + 1, num0, num1, den0, den1 => qcR k num0 num1 den0 den1
def qkp : FS := { vs := [.g [.lf .bool, .lf (.sl (.int .i64))], .g [.lf .bool, .lf (.sl (.int .i64))]], bs := [] }
def qqb : List FS := [{ vs := [.g [.lf .bool, .lf (.sl (.int .i64)), .lf .bool, .lf (.sl (.int .i64))]], bs := [] }]
def qwg (k : Nat) : Inst := ⟨97, qkp, qqb, fun x => qbn k x.1 x.2.1 x.2.2.1 x.2.2.2⟩
theorem qFV (k : Nat) : qn (call cf k) [qrh k, qri k, qrj k, qok k] := qA (qxq k) (qA (qxr k) (qA (qxA k) (qA (qxy k) qT)))
theorem qFW (k : Nat) : qf (LOk (R := DS FS.D qqb) (fun b _ σ K => LOt Ty (kps 97) 0 b σ K []) cf (call cf k) (cf.keep 97) Try.f97.ntmps k qkp.bs.length) 0 (bd Try.f97) :=
 qA qT (qA (qA qT (qA qT qT)) (qA qT (qA qT (qA qT (qA qT qT)))))
theorem qFX (k : Nat) (x : qkp.D) : qbn (k + 1) x.1 x.2.1 x.2.2.1 x.2.2.2 = qi cf (fun f a b K => COt f a b K [qrh k, qri k, qrj k, qok k]) (fun b _ σ K => LOt Ty (kps 97) 0 b σ K []) 97 Try.f97.ntmps Try.f97.results.toList (bd Try.f97) (qkp.enc x).1 (qkp.enc x).2 (qj FS.dec qqb) := by kernel_rfl
theorem qFY : ∀ k, qh (call cf k) (qwg k)
 | 0 => fun x y e => absurd (show (none : Option _) = some y from e) (by simp)
 | k + 1 => qe (c := cf) (k := k) (f := 97) (fn := Try.f97) (body := bd Try.f97) (sh := qkp) (os := qqb) rfl Try.func97 rfl ⟨rfl, Nat.le_of_ble_eq_true rfl⟩ (qd (qFV k)) (qFW k) (fun x => qbn (k + 1) x.1 x.2.1 x.2.2.1 x.2.2.2) (qFX k)

def qg4 (k : Nat) (n0 : Int) (n1 : Int) : Option (Bool × List Int × Bool × List Int) :=
 Option.bind (qbQ k n0) fun r4 =>
 if ((decide (n1 < (0 : Int))) = true) then
 Option.bind (qbC k (IntKind.wrap .i64 ((0 : Int) - n1))) fun r5 =>
 Option.bind (qbn k r4.1 r4.2 r5.1 r5.2) fun r6 =>
 (some (r6.1, r6.2.1, r6.2.2.1, r6.2.2.2))
 else
 Option.bind (qbC k n1) fun r5 =>
 Option.bind (qS k r4.1 r4.2 r5.1 r5.2) fun r6 =>
 Option.bind (qN k (1 : Int)) fun r7 =>
 (some (r6.1, r6.2, r7.1, r7.2))
def qaZ : Nat → Int → Int → Option (Bool × List Int × Bool × List Int)
 | 0, _, _ => none
 | k + 1, n0, n1 => qg4 k n0 n1
def qkq : FS := { vs := [.g [.lf (.int .i64), .lf (.int .i64)]], bs := [] }
def qqc : List FS := [{ vs := [.g [.lf .bool, .lf (.sl (.int .i64)), .lf .bool, .lf (.sl (.int .i64))]], bs := [] }]
def qrk (k : Nat) : Inst := ⟨68, qkq, qqc, fun x => qaZ k x.1 x.2⟩
theorem qFZ (k : Nat) : qn (call cf k) [qwe k, qwf k, qwg k, qff k, qfe k] := qA (qFq k) (qA (qFz k) (qA (qFY k) (qA (qnd k) (qA (qm6 k) qT))))
theorem qF0 (k : Nat) : qf (LOk (R := DS FS.D qqc) (fun b _ σ K => LOt Ty (kps 68) 0 b σ K []) cf (call cf k) (cf.keep 68) Try.f68.ntmps k qkq.bs.length) 0 (bd Try.f68) :=
 qA qT (qA qT (qA (qA qT (qA (qA qT qT) qT)) (qA qT qT)))
theorem qF1 (k : Nat) (x : qkq.D) : qaZ (k + 1) x.1 x.2 = qi cf (fun f a b K => COt f a b K [qwe k, qwf k, qwg k, qff k, qfe k]) (fun b _ σ K => LOt Ty (kps 68) 0 b σ K []) 68 Try.f68.ntmps Try.f68.results.toList (bd Try.f68) (qkq.enc x).1 (qkq.enc x).2 (qj FS.dec qqc) := by kernel_rfl
theorem qF2 : ∀ k, qh (call cf k) (qrk k)
 | 0 => fun x y e => absurd (show (none : Option _) = some y from e) (by simp)
 | k + 1 => qe (c := cf) (k := k) (f := 68) (fn := Try.f68) (body := bd Try.f68) (sh := qkq) (os := qqc) rfl Try.func68 rfl ⟨rfl, Nat.le_of_ble_eq_true rfl⟩ (qd (qFZ k)) (qF0 k) (fun x => qaZ (k + 1) x.1 x.2) (qF1 k)

def qa5 (k : Nat) (rec : List Int → List Int → Nat → Int → Int → List Int → Option (Nat × List Int)) (a : List Int) (b : List Int) (d : Nat) (carry : Int) (i : Int) (ds : List Int) : Option (Nat × List Int) :=
 if ((decide (i < (((List.length a) : Nat) : Int))) = false) then
 if ((decide (i < (((List.length b) : Nat) : Int))) = false) then
 if ((decide (carry > (0 : Int))) = true) then
 if ((decide (i < (((List.length a) : Nat) : Int))) = true) then
 if ((0 : Int) ≤ i) then
 Option.bind (a)[(Int.toNat i)]? fun x3 =>
 if ((decide (i < (((List.length b) : Nat) : Int))) = true) then
 if ((0 : Int) ≤ i) then
 Option.bind (b)[(Int.toNat i)]? fun x4 =>
 if (d ≤ (List.length ds)) then
 if (((d + (List.length (List.take 1 ((Int.tmod (IntKind.wrap .i64 ((IntKind.wrap .i64 (carry + x3)) + x4)) (65536 : Int)) :: [])))) * 8) ≤ 140737488355328) then
 rec a b (d + (List.length (List.take 1 ((Int.tmod (IntKind.wrap .i64 ((IntKind.wrap .i64 (carry + x3)) + x4)) (65536 : Int)) :: [])))) (IntKind.wrap .i64 (Int.tdiv (IntKind.wrap .i64 ((IntKind.wrap .i64 (carry + x3)) + x4)) (65536 : Int))) (IntKind.wrap .i64 (i + (1 : Int))) ((List.take d ds) ++ (List.take 1 ((Int.tmod (IntKind.wrap .i64 ((IntKind.wrap .i64 (carry + x3)) + x4)) (65536 : Int)) :: [])))
 else
 none
 else
 none
 else
 none
 else
 if (d ≤ (List.length ds)) then
 if (((d + (List.length (List.take 1 ((Int.tmod (IntKind.wrap .i64 (carry + x3)) (65536 : Int)) :: [])))) * 8) ≤ 140737488355328) then
 rec a b (d + (List.length (List.take 1 ((Int.tmod (IntKind.wrap .i64 (carry + x3)) (65536 : Int)) :: [])))) (IntKind.wrap .i64 (Int.tdiv (IntKind.wrap .i64 (carry + x3)) (65536 : Int))) (IntKind.wrap .i64 (i + (1 : Int))) ((List.take d ds) ++ (List.take 1 ((Int.tmod (IntKind.wrap .i64 (carry + x3)) (65536 : Int)) :: [])))
 else
 none
 else
 none
 else
 none
 else
 if ((decide (i < (((List.length b) : Nat) : Int))) = true) then
 if ((0 : Int) ≤ i) then
 Option.bind (b)[(Int.toNat i)]? fun x3 =>
 if (d ≤ (List.length ds)) then
 if (((d + (List.length (List.take 1 ((Int.tmod (IntKind.wrap .i64 (carry + x3)) (65536 : Int)) :: [])))) * 8) ≤ 140737488355328) then
 rec a b (d + (List.length (List.take 1 ((Int.tmod (IntKind.wrap .i64 (carry + x3)) (65536 : Int)) :: [])))) (IntKind.wrap .i64 (Int.tdiv (IntKind.wrap .i64 (carry + x3)) (65536 : Int))) (IntKind.wrap .i64 (i + (1 : Int))) ((List.take d ds) ++ (List.take 1 ((Int.tmod (IntKind.wrap .i64 (carry + x3)) (65536 : Int)) :: [])))
 else
 none
 else
 none
 else
 none
 else
 if (d ≤ (List.length ds)) then
 if (((d + (List.length (List.take 1 ((Int.tmod carry (65536 : Int)) :: [])))) * 8) ≤ 140737488355328) then
 rec a b (d + (List.length (List.take 1 ((Int.tmod carry (65536 : Int)) :: [])))) (IntKind.wrap .i64 (Int.tdiv carry (65536 : Int))) (IntKind.wrap .i64 (i + (1 : Int))) ((List.take d ds) ++ (List.take 1 ((Int.tmod carry (65536 : Int)) :: [])))
 else
 none
 else
 none
 else
 (some (d, ds))
 else
 if ((decide (i < (((List.length a) : Nat) : Int))) = true) then
 if ((0 : Int) ≤ i) then
 Option.bind (a)[(Int.toNat i)]? fun x3 =>
 if ((decide (i < (((List.length b) : Nat) : Int))) = true) then
 if ((0 : Int) ≤ i) then
 Option.bind (b)[(Int.toNat i)]? fun x4 =>
 if (d ≤ (List.length ds)) then
 if (((d + (List.length (List.take 1 ((Int.tmod (IntKind.wrap .i64 ((IntKind.wrap .i64 (carry + x3)) + x4)) (65536 : Int)) :: [])))) * 8) ≤ 140737488355328) then
 rec a b (d + (List.length (List.take 1 ((Int.tmod (IntKind.wrap .i64 ((IntKind.wrap .i64 (carry + x3)) + x4)) (65536 : Int)) :: [])))) (IntKind.wrap .i64 (Int.tdiv (IntKind.wrap .i64 ((IntKind.wrap .i64 (carry + x3)) + x4)) (65536 : Int))) (IntKind.wrap .i64 (i + (1 : Int))) ((List.take d ds) ++ (List.take 1 ((Int.tmod (IntKind.wrap .i64 ((IntKind.wrap .i64 (carry + x3)) + x4)) (65536 : Int)) :: [])))
 else
 none
 else
 none
 else
 none
 else
 if (d ≤ (List.length ds)) then
 if (((d + (List.length (List.take 1 ((Int.tmod (IntKind.wrap .i64 (carry + x3)) (65536 : Int)) :: [])))) * 8) ≤ 140737488355328) then
 rec a b (d + (List.length (List.take 1 ((Int.tmod (IntKind.wrap .i64 (carry + x3)) (65536 : Int)) :: [])))) (IntKind.wrap .i64 (Int.tdiv (IntKind.wrap .i64 (carry + x3)) (65536 : Int))) (IntKind.wrap .i64 (i + (1 : Int))) ((List.take d ds) ++ (List.take 1 ((Int.tmod (IntKind.wrap .i64 (carry + x3)) (65536 : Int)) :: [])))
 else
 none
 else
 none
 else
 none
 else
 if ((decide (i < (((List.length b) : Nat) : Int))) = true) then
 if ((0 : Int) ≤ i) then
 Option.bind (b)[(Int.toNat i)]? fun x3 =>
 if (d ≤ (List.length ds)) then
 if (((d + (List.length (List.take 1 ((Int.tmod (IntKind.wrap .i64 (carry + x3)) (65536 : Int)) :: [])))) * 8) ≤ 140737488355328) then
 rec a b (d + (List.length (List.take 1 ((Int.tmod (IntKind.wrap .i64 (carry + x3)) (65536 : Int)) :: [])))) (IntKind.wrap .i64 (Int.tdiv (IntKind.wrap .i64 (carry + x3)) (65536 : Int))) (IntKind.wrap .i64 (i + (1 : Int))) ((List.take d ds) ++ (List.take 1 ((Int.tmod (IntKind.wrap .i64 (carry + x3)) (65536 : Int)) :: [])))
 else
 none
 else
 none
 else
 none
 else
 if (d ≤ (List.length ds)) then
 if (((d + (List.length (List.take 1 ((Int.tmod carry (65536 : Int)) :: [])))) * 8) ≤ 140737488355328) then
 rec a b (d + (List.length (List.take 1 ((Int.tmod carry (65536 : Int)) :: [])))) (IntKind.wrap .i64 (Int.tdiv carry (65536 : Int))) (IntKind.wrap .i64 (i + (1 : Int))) ((List.take d ds) ++ (List.take 1 ((Int.tmod carry (65536 : Int)) :: [])))
 else
 none
 else
 none
 else
 if ((decide (i < (((List.length a) : Nat) : Int))) = true) then
 if ((0 : Int) ≤ i) then
 Option.bind (a)[(Int.toNat i)]? fun x3 =>
 if ((decide (i < (((List.length b) : Nat) : Int))) = true) then
 if ((0 : Int) ≤ i) then
 Option.bind (b)[(Int.toNat i)]? fun x4 =>
 if (d ≤ (List.length ds)) then
 if (((d + (List.length (List.take 1 ((Int.tmod (IntKind.wrap .i64 ((IntKind.wrap .i64 (carry + x3)) + x4)) (65536 : Int)) :: [])))) * 8) ≤ 140737488355328) then
 rec a b (d + (List.length (List.take 1 ((Int.tmod (IntKind.wrap .i64 ((IntKind.wrap .i64 (carry + x3)) + x4)) (65536 : Int)) :: [])))) (IntKind.wrap .i64 (Int.tdiv (IntKind.wrap .i64 ((IntKind.wrap .i64 (carry + x3)) + x4)) (65536 : Int))) (IntKind.wrap .i64 (i + (1 : Int))) ((List.take d ds) ++ (List.take 1 ((Int.tmod (IntKind.wrap .i64 ((IntKind.wrap .i64 (carry + x3)) + x4)) (65536 : Int)) :: [])))
 else
 none
 else
 none
 else
 none
 else
 if (d ≤ (List.length ds)) then
 if (((d + (List.length (List.take 1 ((Int.tmod (IntKind.wrap .i64 (carry + x3)) (65536 : Int)) :: [])))) * 8) ≤ 140737488355328) then
 rec a b (d + (List.length (List.take 1 ((Int.tmod (IntKind.wrap .i64 (carry + x3)) (65536 : Int)) :: [])))) (IntKind.wrap .i64 (Int.tdiv (IntKind.wrap .i64 (carry + x3)) (65536 : Int))) (IntKind.wrap .i64 (i + (1 : Int))) ((List.take d ds) ++ (List.take 1 ((Int.tmod (IntKind.wrap .i64 (carry + x3)) (65536 : Int)) :: [])))
 else
 none
 else
 none
 else
 none
 else
 if ((decide (i < (((List.length b) : Nat) : Int))) = true) then
 if ((0 : Int) ≤ i) then
 Option.bind (b)[(Int.toNat i)]? fun x3 =>
 if (d ≤ (List.length ds)) then
 if (((d + (List.length (List.take 1 ((Int.tmod (IntKind.wrap .i64 (carry + x3)) (65536 : Int)) :: [])))) * 8) ≤ 140737488355328) then
 rec a b (d + (List.length (List.take 1 ((Int.tmod (IntKind.wrap .i64 (carry + x3)) (65536 : Int)) :: [])))) (IntKind.wrap .i64 (Int.tdiv (IntKind.wrap .i64 (carry + x3)) (65536 : Int))) (IntKind.wrap .i64 (i + (1 : Int))) ((List.take d ds) ++ (List.take 1 ((Int.tmod (IntKind.wrap .i64 (carry + x3)) (65536 : Int)) :: [])))
 else
 none
 else
 none
 else
 none
 else
 if (d ≤ (List.length ds)) then
 if (((d + (List.length (List.take 1 ((Int.tmod carry (65536 : Int)) :: [])))) * 8) ≤ 140737488355328) then
 rec a b (d + (List.length (List.take 1 ((Int.tmod carry (65536 : Int)) :: [])))) (IntKind.wrap .i64 (Int.tdiv carry (65536 : Int))) (IntKind.wrap .i64 (i + (1 : Int))) ((List.take d ds) ++ (List.take 1 ((Int.tmod carry (65536 : Int)) :: [])))
 else
 none
 else
 none
def qaf (k n : Nat) : List Int → List Int → Nat → Int → Int → List Int → Option (Nat × List Int) := Nat.rec (fun _ _ _ _ _ _ => none) (fun _ r => qa5 k r) n
def qeU (k : Nat) (a : List Int) (b : List Int) : Option (List Int) :=
 Option.bind (qaf k k a b 0 (0 : Int) (0 : Int) []) fun r9 =>
 Option.bind (qw k r9.1 r9.2) fun r10 =>
 if ((0 + r10.1) ≤ (List.length r10.2)) then
 (some (List.take r10.1 r10.2))
 else
 none
def qbT : Nat → List Int → List Int → Option (List Int)
 | 0, _, _ => none
 | k + 1, a, b => qeU k a b
def qkr : FS := { vs := [.a (.lf (.sl (.int .i64))), .a (.lf (.sl (.int .i64)))], bs := [] }
def qqd : List FS := [{ vs := [.a (.lf (.sl (.int .i64)))], bs := [] }]
def qwh (k : Nat) : Inst := ⟨119, qkr, qqd, fun x => qbT k x.1 x.2⟩
theorem qxB (k : Nat) : qn (call cf k) [qed k] := qA (qm9 k) qT
def qiO : List SS := [{ fr := [(0, .a (.lf (.sl (.int .i64)))), (1, .a (.lf (.sl (.int .i64)))), (5, .a (.smz 0)), (6, .a (.lf (.int .i64))), (7, .a (.lf (.int .i64)))], mem := [(0, some (.arr (.int .i64) 1 3 false))], nx := 1 }]
def qnr : List OS := [⟨some 0, { fr := [(5, .a (.smz 0))], mem := [(0, some (.arr (.int .i64) 1 3 false))], nx := 1 }⟩]
def qns (k : Nat) : LInst := ⟨0, qiO, qnr, fun x => qaf k k x.1 x.2.1 x.2.2.1 x.2.2.2.1 x.2.2.2.2.1 x.2.2.2.2.2⟩
theorem qBv (k : Nat) : qf (LOk (R := DS OS.D qnr) (fun b _ σ K => LOt Ty (kps 119) 0 b σ K []) cf (call cf k) (kps 119) Try.f119.ntmps k 0) 0 (lb Try.f119 0) :=
 qA (qA qT (qA qT qT)) (qA (qA qT (qA (qA qT (qA qT qT)) (qA (qA qT (qA qT qT)) (qA qT qT)))) qT)
theorem qBw (k n : Nat) (x : DS SS.D qiO) : qaf k (n + 1) x.1 x.2.1 x.2.2.1 x.2.2.2.1 x.2.2.2.2.1 x.2.2.2.2.2 = qE SS.enc (fun σ => qF cf (fun f a b K => COt f a b K [qed k]) (fun b _ σ K => LOt Ty (kps 119) 0 b σ K []) Try.f119.ntmps 0 (lb Try.f119 0) σ (qJ Ty (kps 119 0) 0 qiO qnr fun x => qaf k n x.1 x.2.1 x.2.2.1 x.2.2.2.1 x.2.2.2.2.1 x.2.2.2.2.2)) qiO x := by kernel_rfl
theorem qBx (k : Nat) : qac cf (call cf k) (kps 119) Try.f119.ntmps k 0 0 (lb Try.f119 0) (qns k) :=
 qr (c := cf) (callF := call cf k) (kp := kps 119) (nt := Try.f119.ntmps) (k := k) (p := 0) (b := 0) (x0 := lb Try.f119 0) (hs := qiO) (os := qnr) (qd (qxB k)) (qBv k) (fun n x => qaf k n x.1 x.2.1 x.2.2.1 x.2.2.2.1 x.2.2.2.2.1 x.2.2.2.2.2) (fun _ => rfl) (qBw k)
theorem qF3 (k : Nat) : qf (LOk (R := DS FS.D qqd) (fun b _ σ K => LOt Ty (kps 119) 0 b σ K [qns k]) cf (call cf k) (cf.keep 119) Try.f119.ntmps k qkr.bs.length) 0 (bd Try.f119) :=
 qA qT (qA qT (qA qT (qA (qA qT (qz (c := cf) (callF := call cf k) (kp := kps 119) (nt := Try.f119.ntmps) (k := k) (p := 0) (b := 0) (x0 := lb Try.f119 0) (l := [qns k]) (qA (fun _ => qBx k) qT))) (qA qT qT))))
theorem qF4 (k : Nat) (x : qkr.D) : qbT (k + 1) x.1 x.2 = qi cf (fun f a b K => COt f a b K [qed k]) (fun b _ σ K => LOt Ty (kps 119) 0 b σ K [qns k]) 119 Try.f119.ntmps Try.f119.results.toList (bd Try.f119) (qkr.enc x).1 (qkr.enc x).2 (qj FS.dec qqd) := by kernel_rfl
theorem qF5 : ∀ k, qh (call cf k) (qwh k)
 | 0 => fun x y e => absurd (show (none : Option _) = some y from e) (by simp)
 | k + 1 => qe (c := cf) (k := k) (f := 119) (fn := Try.f119) (body := bd Try.f119) (sh := qkr) (os := qqd) rfl Try.func119 rfl ⟨rfl, Nat.le_of_ble_eq_true rfl⟩ (qd (qxB k)) (qF3 k) (fun x => qbT (k + 1) x.1 x.2) (qF4 k)

def qbU (k : Nat) (a0 : Bool) (a1 : List Int) (b0 : Bool) (b1 : List Int) : Option (Bool × List Int) :=
 if ((a0 == b0) = true) then
 Option.bind (qbT k a1 b1) fun r9 =>
 if (a0 = true) then
 (some ((decide ((((List.length r9) : Nat) : Int) > (0 : Int))), r9))
 else
 (some (false, r9))
 else
 Option.bind (qbS k a1 b1) fun r9 =>
 if ((decide (r9 ≥ (0 : Int))) = true) then
 Option.bind (qap k a1 b1) fun r10 =>
 if (a0 = true) then
 (some ((decide ((((List.length r10) : Nat) : Int) > (0 : Int))), r10))
 else
 (some (false, r10))
 else
 Option.bind (qap k b1 a1) fun r10 =>
 (some (b0, r10))
def qbo : Nat → Bool → List Int → Bool → List Int → Option (Bool × List Int)
 | 0, _, _, _, _ => none
 | k + 1, a0, a1, b0, b1 => qbU k a0 a1 b0 b1
def qks : FS := { vs := [.g [.lf .bool, .lf (.sl (.int .i64))], .g [.lf .bool, .lf (.sl (.int .i64))]], bs := [] }
def qqe : List FS := [{ vs := [.g [.lf .bool, .lf (.sl (.int .i64))]], bs := [] }]
def qwi (k : Nat) : Inst := ⟨104, qks, qqe, fun x => qbo k x.1 x.2.1 x.2.2.1 x.2.2.2⟩
theorem qF6 (k : Nat) : qn (call cf k) [qwh k, qoi k, qoj k] := qA (qF5 k) (qA (qxt k) (qA (qxw k) qT))
theorem qF7 (k : Nat) : qf (LOk (R := DS FS.D qqe) (fun b _ σ K => LOt Ty (kps 104) 0 b σ K []) cf (call cf k) (cf.keep 104) Try.f104.ntmps k qks.bs.length) 0 (bd Try.f104) :=
 qA qT (qA (qA qT (qA (qA qT (qA qT qT)) qT)) (qA (qA qT (qA (qA qT (qA qT qT)) qT)) (qA qT qT)))
theorem qF8 (k : Nat) (x : qks.D) : qbo (k + 1) x.1 x.2.1 x.2.2.1 x.2.2.2 = qi cf (fun f a b K => COt f a b K [qwh k, qoi k, qoj k]) (fun b _ σ K => LOt Ty (kps 104) 0 b σ K []) 104 Try.f104.ntmps Try.f104.results.toList (bd Try.f104) (qks.enc x).1 (qks.enc x).2 (qj FS.dec qqe) := by kernel_rfl
theorem qF9 : ∀ k, qh (call cf k) (qwi k)
 | 0 => fun x y e => absurd (show (none : Option _) = some y from e) (by simp)
 | k + 1 => qe (c := cf) (k := k) (f := 104) (fn := Try.f104) (body := bd Try.f104) (sh := qks) (os := qqe) rfl Try.func104 rfl ⟨rfl, Nat.le_of_ble_eq_true rfl⟩ (qd (qF6 k)) (qF7 k) (fun x => qbo (k + 1) x.1 x.2.1 x.2.2.1 x.2.2.2) (qF8 k)

def qlr (k : Nat) (a0 : Bool) (a1 : List Int) (b0 : Bool) (b1 : List Int) : Option (Bool × List Int) :=
 Option.bind (qaK k b0 b1) fun r8 =>
 Option.bind (qbo k a0 a1 r8.1 r8.2) fun r9 =>
 (some (r9.1, r9.2))
def qcE : Nat → Bool → List Int → Bool → List Int → Option (Bool × List Int)
 | 0, _, _, _, _ => none
 | k + 1, a0, a1, b0, b1 => qlr k a0 a1 b0 b1
def qkt : FS := { vs := [.g [.lf .bool, .lf (.sl (.int .i64))], .g [.lf .bool, .lf (.sl (.int .i64))]], bs := [] }
def qqf : List FS := [{ vs := [.g [.lf .bool, .lf (.sl (.int .i64))]], bs := [] }]
def qwj (k : Nat) : Inst := ⟨79, qkt, qqf, fun x => qcE k x.1 x.2.1 x.2.2.1 x.2.2.2⟩
theorem qGa (k : Nat) : qn (call cf k) [qri k, qwi k] := qA (qxr k) (qA (qF9 k) qT)
theorem qGb (k : Nat) : qf (LOk (R := DS FS.D qqf) (fun b _ σ K => LOt Ty (kps 79) 0 b σ K []) cf (call cf k) (cf.keep 79) Try.f79.ntmps k qkt.bs.length) 0 (bd Try.f79) :=
 qA qT (qA qT qT)
theorem qGc (k : Nat) (x : qkt.D) : qcE (k + 1) x.1 x.2.1 x.2.2.1 x.2.2.2 = qi cf (fun f a b K => COt f a b K [qri k, qwi k]) (fun b _ σ K => LOt Ty (kps 79) 0 b σ K []) 79 Try.f79.ntmps Try.f79.results.toList (bd Try.f79) (qkt.enc x).1 (qkt.enc x).2 (qj FS.dec qqf) := by kernel_rfl
theorem qGd : ∀ k, qh (call cf k) (qwj k)
 | 0 => fun x y e => absurd (show (none : Option _) = some y from e) (by simp)
 | k + 1 => qe (c := cf) (k := k) (f := 79) (fn := Try.f79) (body := bd Try.f79) (sh := qkt) (os := qqf) rfl Try.func79 rfl ⟨rfl, Nat.le_of_ble_eq_true rfl⟩ (qd (qGa k)) (qGb k) (fun x => qcE (k + 1) x.1 x.2.1 x.2.2.1 x.2.2.2) (qGc k)

def qls (k : Nat) (a0 : Bool) (a1 : List Int) (b0 : Bool) (b1 : List Int) : Option (Int) :=
 Option.bind (qcE k a0 a1 b0 b1) fun r8 =>
 Option.bind (qbR k r8.1 r8.2) fun r9 =>
 (some r9)
def qbV : Nat → Bool → List Int → Bool → List Int → Option (Int)
 | 0, _, _, _, _ => none
 | k + 1, a0, a1, b0, b1 => qls k a0 a1 b0 b1
def qku : FS := { vs := [.g [.lf .bool, .lf (.sl (.int .i64))], .g [.lf .bool, .lf (.sl (.int .i64))]], bs := [] }
def qqg : List FS := [{ vs := [.a (.lf (.int .i64))], bs := [] }]
def qrl (k : Nat) : Inst := ⟨40, qku, qqg, fun x => qbV k x.1 x.2.1 x.2.2.1 x.2.2.2⟩
theorem qGe (k : Nat) : qn (call cf k) [qwj k, qrh k] := qA (qGd k) (qA (qxq k) qT)
theorem qGf (k : Nat) : qf (LOk (R := DS FS.D qqg) (fun b _ σ K => LOt Ty (kps 40) 0 b σ K []) cf (call cf k) (cf.keep 40) Try.f40.ntmps k qku.bs.length) 0 (bd Try.f40) :=
 qA qT (qA qT qT)
theorem qGg (k : Nat) (x : qku.D) : qbV (k + 1) x.1 x.2.1 x.2.2.1 x.2.2.2 = qi cf (fun f a b K => COt f a b K [qwj k, qrh k]) (fun b _ σ K => LOt Ty (kps 40) 0 b σ K []) 40 Try.f40.ntmps Try.f40.results.toList (bd Try.f40) (qku.enc x).1 (qku.enc x).2 (qj FS.dec qqg) := by kernel_rfl
theorem qxC : ∀ k, qh (call cf k) (qrl k)
 | 0 => fun x y e => absurd (show (none : Option _) = some y from e) (by simp)
 | k + 1 => qe (c := cf) (k := k) (f := 40) (fn := Try.f40) (body := bd Try.f40) (sh := qku) (os := qqg) rfl Try.func40 rfl ⟨rfl, Nat.le_of_ble_eq_true rfl⟩ (qd (qGe k)) (qGf k) (fun x => qbV (k + 1) x.1 x.2.1 x.2.2.1 x.2.2.2) (qGg k)

def qlt (k : Nat) (a0 : Bool) (a1 : List Int) (a2 : Bool) (a3 : List Int) (b0 : Bool) (b1 : List Int) (b2 : Bool) (b3 : List Int) : Option (Int) :=
 Option.bind (qS k a0 a1 b2 b3) fun r6 =>
 Option.bind (qS k b0 b1 a2 a3) fun r7 =>
 Option.bind (qbV k r6.1 r6.2 r7.1 r7.2) fun r8 =>
 (some r8)
def qbW : Nat → Bool → List Int → Bool → List Int → Bool → List Int → Bool → List Int → Option (Int)
 | 0, _, _, _, _, _, _, _, _ => none
 | k + 1, a0, a1, a2, a3, b0, b1, b2, b3 => qlt k a0 a1 a2 a3 b0 b1 b2 b3
def qkv : FS := { vs := [.g [.lf .bool, .lf (.sl (.int .i64)), .lf .bool, .lf (.sl (.int .i64))], .g [.lf .bool, .lf (.sl (.int .i64)), .lf .bool, .lf (.sl (.int .i64))]], bs := [] }
def qqh : List FS := [{ vs := [.a (.lf (.int .i64))], bs := [] }]
def qrm (k : Nat) : Inst := ⟨67, qkv, qqh, fun x => qbW k x.1 x.2.1 x.2.2.1 x.2.2.2.1 x.2.2.2.2.1 x.2.2.2.2.2.1 x.2.2.2.2.2.2.1 x.2.2.2.2.2.2.2⟩
theorem qGh (k : Nat) : qn (call cf k) [qff k, qrl k] := qA (qnd k) (qA (qxC k) qT)
theorem qGi (k : Nat) : qf (LOk (R := DS FS.D qqh) (fun b _ σ K => LOt Ty (kps 67) 0 b σ K []) cf (call cf k) (cf.keep 67) Try.f67.ntmps k qkv.bs.length) 0 (bd Try.f67) :=
 qA qT (qA qT qT)
theorem qGj (k : Nat) (x : qkv.D) : qbW (k + 1) x.1 x.2.1 x.2.2.1 x.2.2.2.1 x.2.2.2.2.1 x.2.2.2.2.2.1 x.2.2.2.2.2.2.1 x.2.2.2.2.2.2.2 = qi cf (fun f a b K => COt f a b K [qff k, qrl k]) (fun b _ σ K => LOt Ty (kps 67) 0 b σ K []) 67 Try.f67.ntmps Try.f67.results.toList (bd Try.f67) (qkv.enc x).1 (qkv.enc x).2 (qj FS.dec qqh) := by kernel_rfl
theorem qGk : ∀ k, qh (call cf k) (qrm k)
 | 0 => fun x y e => absurd (show (none : Option _) = some y from e) (by simp)
 | k + 1 => qe (c := cf) (k := k) (f := 67) (fn := Try.f67) (body := bd Try.f67) (sh := qkv) (os := qqh) rfl Try.func67 rfl ⟨rfl, Nat.le_of_ble_eq_true rfl⟩ (qd (qGh k)) (qGi k) (fun x => qbW (k + 1) x.1 x.2.1 x.2.2.1 x.2.2.2.1 x.2.2.2.2.1 x.2.2.2.2.2.1 x.2.2.2.2.2.2.1 x.2.2.2.2.2.2.2) (qGj k)

def qaV (k : Nat) (rec : Int → ByteArray → Int → List (Int × Int) → List (Int × Int) → Option ((Bool × ByteArray × Int × List (Int × Int) × List (Int × Int)) ⊕ (ByteArray × Int × List (Int × Int) × List (Int × Int)))) (i : Int) (m0 : ByteArray) (m1 : Int) (m2 : List (Int × Int)) (m3 : List (Int × Int)) : Option ((Bool × ByteArray × Int × List (Int × Int) × List (Int × Int)) ⊕ (ByteArray × Int × List (Int × Int) × List (Int × Int))) :=
 if ((decide (i < (((List.length m2) : Nat) : Int))) = true) then
 if ((0 : Int) ≤ i) then
 Option.bind (m2)[(Int.toNat i)]? fun x =>
 Option.bind (qbB k x.1 x.2) fun r2 =>
 if ((!r2) = true) then
 (some (Sum.inl (false, m0, m1, m2, m3)))
 else
 rec (IntKind.wrap .i64 (i + (1 : Int))) m0 m1 m2 m3
 else
 none
 else
 (some (Sum.inr (m0, m1, m2, m3)))
def qK (k n : Nat) : Int → ByteArray → Int → List (Int × Int) → List (Int × Int) → Option ((Bool × ByteArray × Int × List (Int × Int) × List (Int × Int)) ⊕ (ByteArray × Int × List (Int × Int) × List (Int × Int))) := Nat.rec (fun _ _ _ _ _ => none) (fun _ r => qaV k r) n
def qaW (k : Nat) (rec : Int → ByteArray → Int → List (Int × Int) → List (Int × Int) → Option ((Bool × ByteArray × Int × List (Int × Int) × List (Int × Int)) ⊕ (ByteArray × Int × List (Int × Int) × List (Int × Int)))) (i : Int) (m0 : ByteArray) (m1 : Int) (m2 : List (Int × Int)) (m3 : List (Int × Int)) : Option ((Bool × ByteArray × Int × List (Int × Int) × List (Int × Int)) ⊕ (ByteArray × Int × List (Int × Int) × List (Int × Int))) :=
 if ((decide (i < (((List.length m3) : Nat) : Int))) = true) then
 if ((0 : Int) ≤ i) then
 Option.bind (m3)[(Int.toNat i)]? fun x =>
 Option.bind (qbB k x.1 x.2) fun r3 =>
 if ((!r3) = true) then
 (some (Sum.inl (false, m0, m1, m2, m3)))
 else
 if ((m1 == (100 : Int)) = true) then
 if ((decide (i > (0 : Int))) = true) then
 if ((0 : Int) ≤ (IntKind.wrap .i64 (i - (1 : Int)))) then
 Option.bind (m3)[(Int.toNat (IntKind.wrap .i64 (i - (1 : Int))))]? fun x1 =>
 Option.bind (qaZ k x1.1 x1.2) fun r4 =>
 if ((0 : Int) ≤ i) then
 Option.bind (m3)[(Int.toNat i)]? fun x2 =>
 Option.bind (qaZ k x2.1 x2.2) fun r5 =>
 Option.bind (qbW k r4.1 r4.2.1 r4.2.2.1 r4.2.2.2 r5.1 r5.2.1 r5.2.2.1 r5.2.2.2) fun r6 =>
 if ((decide (r6 ≥ (0 : Int))) = true) then
 (some (Sum.inl (false, m0, m1, m2, m3)))
 else
 rec (IntKind.wrap .i64 (i + (1 : Int))) m0 m1 m2 m3
 else
 none
 else
 none
 else
 rec (IntKind.wrap .i64 (i + (1 : Int))) m0 m1 m2 m3
 else
 rec (IntKind.wrap .i64 (i + (1 : Int))) m0 m1 m2 m3
 else
 none
 else
 (some (Sum.inr (m0, m1, m2, m3)))
def qL (k n : Nat) : Int → ByteArray → Int → List (Int × Int) → List (Int × Int) → Option ((Bool × ByteArray × Int × List (Int × Int) × List (Int × Int)) ⊕ (ByteArray × Int × List (Int × Int) × List (Int × Int))) := Nat.rec (fun _ _ _ _ _ => none) (fun _ r => qaW k r) n
def qet (k : Nat) (m0 : ByteArray) (m1 : Int) (m2 : List (Int × Int)) (m3 : List (Int × Int)) : Option (Bool) :=
 Option.bind (qcD k m0) fun r1 =>
 if ((!r1) = true) then
 (some false)
 else
 Option.bind (qK k k (0 : Int) m0 m1 m2 m3) fun r2 =>
 qc r2
 (fun r2 =>
 (some r2.1))
 (fun r2 =>
 Option.bind (qL k k (0 : Int) r2.1 r2.2.1 r2.2.2.1 r2.2.2.2) fun r3 =>
 qc r3
 (fun r3 =>
 (some r3.1))
 (fun r3 =>
 if ((r3.2.1 == (115 : Int)) = true) then
 if (((((List.length r3.2.2.1) : Nat) : Int) == (2 : Int)) = true) then
 (some ((((List.length r3.2.2.2) : Nat) : Int) == (1 : Int)))
 else
 (some false)
 else
 if ((r3.2.1 == (100 : Int)) = true) then
 if ((decide ((((List.length r3.2.2.1) : Nat) : Int) ≥ (1 : Int))) = true) then
 if ((decide ((((List.length r3.2.2.1) : Nat) : Int) ≤ (4 : Int))) = true) then
 (some ((IntKind.wrap .i64 ((((List.length r3.2.2.2) : Nat) : Int) + (1 : Int))) == (((List.length r3.2.2.1) : Nat) : Int)))
 else
 (some false)
 else
 (some false)
 else
 (some false)))
def qci : Nat → ByteArray → Int → List (Int × Int) → List (Int × Int) → Option (Bool)
 | 0, _, _, _, _ => none
 | k + 1, m0, m1, m2, m3 => qet k m0 m1 m2 m3
def qg5 : FS := { vs := [.g [.lf .str, .lf (.int .u8), .lf (.sl (.pr (.int .i64) (.int .i64))), .lf (.sl (.pr (.int .i64) (.int .i64)))]], bs := [] }
def qnt : List FS := [{ vs := [.a (.lf .bool)], bs := [] }]
def qqi (k : Nat) : Inst := ⟨31, qg5, qnt, fun x => qci k x.1 x.2.1 x.2.2.1 x.2.2.2⟩
theorem qrn (k : Nat) : qn (call cf k) [qmZ k, qrg k, qrk k, qrm k] := qA (qAX k) (qA (qFn k) (qA (qF2 k) (qA (qGk k) qT)))
def qiP : List SS := [{ fr := [(1, .a (.ptr 0 0 0)), (3, .a (.lf (.int .i64)))], mem := [(0, some (.raw [[.lf .str, .lf (.int .u8), .lf (.sl (.pr (.int .i64) (.int .i64))), .lf (.sl (.pr (.int .i64) (.int .i64)))]] 4 24 true false))], nx := 1 }]
def qnu : List OS := [⟨none, { fr := [(2, .a (.lf .bool))], mem := [(0, some (.raw [[.lf .str, .lf (.int .u8), .lf (.sl (.pr (.int .i64) (.int .i64))), .lf (.sl (.pr (.int .i64) (.int .i64)))]] 4 24 true false))], nx := 1 }⟩, ⟨some 0, { fr := [(1, .a (.ptr 0 0 0))], mem := [(0, some (.raw [[.lf .str, .lf (.int .u8), .lf (.sl (.pr (.int .i64) (.int .i64))), .lf (.sl (.pr (.int .i64) (.int .i64)))]] 4 24 true false))], nx := 1 }⟩]
def qgg (k : Nat) : LInst := ⟨0, qiP, qnu, fun x => qK k k x.1 x.2.1 x.2.2.1 x.2.2.2.1 x.2.2.2.2⟩
theorem qBy (k : Nat) : qf (LOk (R := DS OS.D qnu) (fun b _ σ K => LOt Ty (kps 31) 0 b σ K []) cf (call cf k) (kps 31) Try.f31.ntmps k 0) 0 (lb Try.f31 0) :=
 qA (qA qT (qA qT qT)) (qA (qA qT (qA (qA qT qT) qT)) qT)
theorem qBz (k n : Nat) (x : DS SS.D qiP) : qK k (n + 1) x.1 x.2.1 x.2.2.1 x.2.2.2.1 x.2.2.2.2 = qE SS.enc (fun σ => qF cf (fun f a b K => COt f a b K [qmZ k, qrg k, qrk k, qrm k]) (fun b _ σ K => LOt Ty (kps 31) 0 b σ K []) Try.f31.ntmps 0 (lb Try.f31 0) σ (qJ Ty (kps 31 0) 0 qiP qnu fun x => qK k n x.1 x.2.1 x.2.2.1 x.2.2.2.1 x.2.2.2.2)) qiP x := by kernel_rfl
theorem qBA (k : Nat) : qac cf (call cf k) (kps 31) Try.f31.ntmps k 0 0 (lb Try.f31 0) (qgg k) :=
 qr (c := cf) (callF := call cf k) (kp := kps 31) (nt := Try.f31.ntmps) (k := k) (p := 0) (b := 0) (x0 := lb Try.f31 0) (hs := qiP) (os := qnu) (qd (qrn k)) (qBy k) (fun n x => qK k n x.1 x.2.1 x.2.2.1 x.2.2.2.1 x.2.2.2.2) (fun _ => rfl) (qBz k)
def qiQ : List SS := [{ fr := [(1, .a (.ptr 0 0 0)), (4, .a (.lf (.int .i64)))], mem := [(0, some (.raw [[.lf .str, .lf (.int .u8), .lf (.sl (.pr (.int .i64) (.int .i64))), .lf (.sl (.pr (.int .i64) (.int .i64)))]] 4 24 true false))], nx := 1 }]
def qnv : List OS := [⟨none, { fr := [(2, .a (.lf .bool))], mem := [(0, some (.raw [[.lf .str, .lf (.int .u8), .lf (.sl (.pr (.int .i64) (.int .i64))), .lf (.sl (.pr (.int .i64) (.int .i64)))]] 4 24 true false))], nx := 1 }⟩, ⟨some 2, { fr := [(1, .a (.ptr 0 0 0))], mem := [(0, some (.raw [[.lf .str, .lf (.int .u8), .lf (.sl (.pr (.int .i64) (.int .i64))), .lf (.sl (.pr (.int .i64) (.int .i64)))]] 4 24 true false))], nx := 1 }⟩]
def qiR (k : Nat) : LInst := ⟨2, qiQ, qnv, fun x => qL k k x.1 x.2.1 x.2.2.1 x.2.2.2.1 x.2.2.2.2⟩
theorem qBB (k : Nat) : qf (LOk (R := DS OS.D qnv) (fun b _ σ K => LOt Ty (kps 31) 0 b σ K [qgg k]) cf (call cf k) (kps 31) Try.f31.ntmps k 0) 2 (lb Try.f31 1) :=
 qA (qA qT (qA qT qT)) (qA (qA (qA qT (qA (qA qT qT) qT)) (qA qT (qA (qA qT qT) qT))) qT)
theorem qBC (k n : Nat) (x : DS SS.D qiQ) : qL k (n + 1) x.1 x.2.1 x.2.2.1 x.2.2.2.1 x.2.2.2.2 = qE SS.enc (fun σ => qF cf (fun f a b K => COt f a b K [qmZ k, qrg k, qrk k, qrm k]) (fun b _ σ K => LOt Ty (kps 31) 0 b σ K [qgg k]) Try.f31.ntmps 2 (lb Try.f31 1) σ (qJ Ty (kps 31 2) 0 qiQ qnv fun x => qL k n x.1 x.2.1 x.2.2.1 x.2.2.2.1 x.2.2.2.2)) qiQ x := by kernel_rfl
theorem qBD (k : Nat) : qac cf (call cf k) (kps 31) Try.f31.ntmps k 0 2 (lb Try.f31 1) (qiR k) :=
 qr (c := cf) (callF := call cf k) (kp := kps 31) (nt := Try.f31.ntmps) (k := k) (p := 0) (b := 2) (x0 := lb Try.f31 1) (hs := qiQ) (os := qnv) (qd (qrn k)) (qBB k) (fun n x => qL k n x.1 x.2.1 x.2.2.1 x.2.2.2.1 x.2.2.2.2) (fun _ => rfl) (qBC k)
theorem qBE (k : Nat) : qf (LOk (R := DS FS.D qnt) (fun b _ σ K => LOt Ty (kps 31) 0 b σ K [qgg k, qiR k]) cf (call cf k) (cf.keep 31) Try.f31.ntmps k qg5.bs.length) 0 (bd Try.f31) :=
 qA qT (qA (qA qT (qA (qA qT qT) qT)) (qA (qA qT (qz (c := cf) (callF := call cf k) (kp := kps 31) (nt := Try.f31.ntmps) (k := k) (p := 0) (b := 0) (x0 := lb Try.f31 0) (l := [qgg k, qiR k]) (qA (fun _ => qBA k) (qA (fun h => absurd (show (2 : Nat) = 0 from h) (by decide)) qT)))) (qA (qA qT (qz (c := cf) (callF := call cf k) (kp := kps 31) (nt := Try.f31.ntmps) (k := k) (p := 0) (b := 2) (x0 := lb Try.f31 1) (l := [qgg k, qiR k]) (qA (fun h => absurd (show (0 : Nat) = 2 from h) (by decide)) (qA (fun _ => qBD k) qT)))) (qA (qA qT (qA (qA qT qT) qT)) (qA qT qT)))))
theorem qBF (k : Nat) (x : qg5.D) : qci (k + 1) x.1 x.2.1 x.2.2.1 x.2.2.2 = qi cf (fun f a b K => COt f a b K [qmZ k, qrg k, qrk k, qrm k]) (fun b _ σ K => LOt Ty (kps 31) 0 b σ K [qgg k, qiR k]) 31 Try.f31.ntmps Try.f31.results.toList (bd Try.f31) (qg5.enc x).1 (qg5.enc x).2 (qj FS.dec qnt) := by kernel_rfl
theorem qBG : ∀ k, qh (call cf k) (qqi k)
 | 0 => fun x y e => absurd (show (none : Option _) = some y from e) (by simp)
 | k + 1 => qe (c := cf) (k := k) (f := 31) (fn := Try.f31) (body := bd Try.f31) (sh := qg5) (os := qnt) rfl Try.func31 rfl ⟨rfl, Nat.le_of_ble_eq_true rfl⟩ (qd (qrn k)) (qBE k) (fun x => qci (k + 1) x.1 x.2.1 x.2.2.1 x.2.2.2) (qBF k)

def qeu (k : Nat) (a0 : Bool) (a1 : List Int) : Option (Bool) :=
 if ((decide ((((List.length a1) : Nat) : Int) > (72 : Int))) = true) then
 (some false)
 else
 if (((((List.length a1) : Nat) : Int) == (0 : Int)) = true) then
 (some (!a0))
 else
 if ((0 : Int) ≤ (IntKind.wrap .i64 ((((List.length a1) : Nat) : Int) - (1 : Int)))) then
 Option.bind (a1)[(Int.toNat (IntKind.wrap .i64 ((((List.length a1) : Nat) : Int) - (1 : Int))))]? fun x =>
 (some (x != (0 : Int)))
 else
 none
def qbD : Nat → Bool → List Int → Option (Bool)
 | 0, _, _ => none
 | k + 1, a0, a1 => qeu k a0 a1
def qkw : FS := { vs := [.g [.lf .bool, .lf (.sl (.int .u32))]], bs := [] }
def qqj : List FS := [{ vs := [.a (.lf .bool)], bs := [] }]
def qwk (k : Nat) : Inst := ⟨39, qkw, qqj, fun x => qbD k x.1 x.2⟩
theorem qGl (k : Nat) : qn (call cf k) [] := True.intro
theorem qGm (k : Nat) : qf (LOk (R := DS FS.D qqj) (fun b _ σ K => LOt Ty (kps 39) 0 b σ K []) cf (call cf k) (cf.keep 39) Try.f39.ntmps k qkw.bs.length) 0 (bd Try.f39) :=
 qA qT (qA qT (qA (qA qT (qA (qA qT qT) qT)) (qA (qA qT (qA (qA qT qT) qT)) (qA qT qT))))
theorem qGn (k : Nat) (x : qkw.D) : qbD (k + 1) x.1 x.2 = qi cf (fun f a b K => COt f a b K []) (fun b _ σ K => LOt Ty (kps 39) 0 b σ K []) 39 Try.f39.ntmps Try.f39.results.toList (bd Try.f39) (qkw.enc x).1 (qkw.enc x).2 (qj FS.dec qqj) := by kernel_rfl
theorem qGo : ∀ k, qh (call cf k) (qwk k)
 | 0 => fun x y e => absurd (show (none : Option _) = some y from e) (by simp)
 | k + 1 => qe (c := cf) (k := k) (f := 39) (fn := Try.f39) (body := bd Try.f39) (sh := qkw) (os := qqj) rfl Try.func39 rfl ⟨rfl, Nat.le_of_ble_eq_true rfl⟩ (qd (qGl k)) (qGm k) (fun x => qbD (k + 1) x.1 x.2) (qGn k)

def qcp (k : Nat) (rec : Nat → Int → Bool → List Int → Bool → Nat → List Int → List Int → Option (Nat × Bool × List Int × Bool × Nat × List Int × List Int)) (d : Nat) (i : Int) (a0 : Bool) (a1 : List Int) (x0 : Bool) (x1 : Nat) (ds : List Int) (m : List Int) : Option (Nat × Bool × List Int × Bool × Nat × List Int × List Int) :=
 if ((decide (i < (((List.length a1) : Nat) : Int))) = true) then
 if ((0 : Int) ≤ i) then
 Option.bind (a1)[(Int.toNat i)]? fun x =>
 if ((0 : Int) ≤ i) then
 Option.bind (a1)[(Int.toNat i)]? fun x2 =>
 if (d ≤ (List.length ds)) then
 if (((d + (List.length (List.take 2 ((IntKind.wrap .i64 (Int.tmod x (65536 : Int))) :: ((IntKind.wrap .i64 (IntKind.wrap .u32 (Int.tdiv x2 (65536 : Int)))) :: []))))) * 8) ≤ 140737488355328) then
 rec (d + (List.length (List.take 2 ((IntKind.wrap .i64 (Int.tmod x (65536 : Int))) :: ((IntKind.wrap .i64 (IntKind.wrap .u32 (Int.tdiv x2 (65536 : Int)))) :: []))))) (IntKind.wrap .i64 (i + (1 : Int))) a0 a1 x0 x1 ((List.take d ds) ++ (List.take 2 ((IntKind.wrap .i64 (Int.tmod x (65536 : Int))) :: ((IntKind.wrap .i64 (IntKind.wrap .u32 (Int.tdiv x2 (65536 : Int)))) :: [])))) m
 else
 none
 else
 none
 else
 none
 else
 none
 else
 (some (d, a0, a1, x0, x1, ds, m))
def qaw (k n : Nat) : Nat → Int → Bool → List Int → Bool → Nat → List Int → List Int → Option (Nat × Bool × List Int × Bool × Nat × List Int × List Int) := Nat.rec (fun _ _ _ _ _ _ _ _ => none) (fun _ r => qcp k r) n
def qdb (k : Nat) (a0 : Bool) (a1 : List Int) : Option (Bool × List Int) :=
 Option.bind (qaw k k 0 (0 : Int) a0 a1 false 0 [] []) fun r6 =>
 Option.bind (qw k r6.1 r6.2.2.2.2.2.1) fun r7 =>
 if (r6.2.1 = true) then
 if ((0 + r7.1) ≤ (List.length r7.2)) then
 (some ((decide (((r7.1 : Nat) : Int) > (0 : Int))), (List.take r7.1 r7.2)))
 else
 none
 else
 if ((0 + r7.1) ≤ (List.length r7.2)) then
 (some (false, (List.take r7.1 r7.2)))
 else
 none
def qbp : Nat → Bool → List Int → Option (Bool × List Int)
 | 0, _, _ => none
 | k + 1, a0, a1 => qdb k a0 a1
def qkx : FS := { vs := [.g [.lf .bool, .lf (.sl (.int .u32))]], bs := [] }
def qqk : List FS := [{ vs := [.g [.lf .bool, .lf (.sl (.int .i64))]], bs := [] }]
def qwl (k : Nat) : Inst := ⟨42, qkx, qqk, fun x => qbp k x.1 x.2⟩
theorem qxD (k : Nat) : qn (call cf k) [qed k] := qA (qm9 k) qT
def qiS : List SS := [{ fr := [(1, .a (.ptr 0 0 0)), (2, .a (.ptr 1 0 0)), (3, .a (.smz 2)), (4, .a (.lf (.int .i64)))], mem := [(0, some (.raw [[.lf .bool, .lf (.sl (.int .u32))]] 2 27 true false)), (1, some (.raw [[.lf .bool, .smz 3]] 2 77 false false)), (2, some (.arr (.int .i64) 1 3 false)), (3, some (.arr (.int .i64) 1 3 false))], nx := 4 }]
def qnw : List OS := [⟨some 0, { fr := [(1, .a (.ptr 0 0 0)), (2, .a (.ptr 1 0 0)), (3, .a (.smz 2))], mem := [(0, some (.raw [[.lf .bool, .lf (.sl (.int .u32))]] 2 27 true false)), (1, some (.raw [[.lf .bool, .smz 3]] 2 77 false false)), (2, some (.arr (.int .i64) 1 3 false)), (3, some (.arr (.int .i64) 1 3 false))], nx := 4 }⟩]
def qnx (k : Nat) : LInst := ⟨0, qiS, qnw, fun x => qaw k k x.1 x.2.1 x.2.2.1 x.2.2.2.1 x.2.2.2.2.1 x.2.2.2.2.2.1 x.2.2.2.2.2.2.1 x.2.2.2.2.2.2.2⟩
theorem qBH (k : Nat) : qf (LOk (R := DS OS.D qnw) (fun b _ σ K => LOt Ty (kps 42) 0 b σ K []) cf (call cf k) (kps 42) Try.f42.ntmps k 0) 0 (lb Try.f42 0) :=
 qA (qA qT (qA qT qT)) (qA qT qT)
theorem qBI (k n : Nat) (x : DS SS.D qiS) : qaw k (n + 1) x.1 x.2.1 x.2.2.1 x.2.2.2.1 x.2.2.2.2.1 x.2.2.2.2.2.1 x.2.2.2.2.2.2.1 x.2.2.2.2.2.2.2 = qE SS.enc (fun σ => qF cf (fun f a b K => COt f a b K [qed k]) (fun b _ σ K => LOt Ty (kps 42) 0 b σ K []) Try.f42.ntmps 0 (lb Try.f42 0) σ (qJ Ty (kps 42 0) 0 qiS qnw fun x => qaw k n x.1 x.2.1 x.2.2.1 x.2.2.2.1 x.2.2.2.2.1 x.2.2.2.2.2.1 x.2.2.2.2.2.2.1 x.2.2.2.2.2.2.2)) qiS x := by kernel_rfl
theorem qBJ (k : Nat) : qac cf (call cf k) (kps 42) Try.f42.ntmps k 0 0 (lb Try.f42 0) (qnx k) :=
 qr (c := cf) (callF := call cf k) (kp := kps 42) (nt := Try.f42.ntmps) (k := k) (p := 0) (b := 0) (x0 := lb Try.f42 0) (hs := qiS) (os := qnw) (qd (qxD k)) (qBH k) (fun n x => qaw k n x.1 x.2.1 x.2.2.1 x.2.2.2.1 x.2.2.2.2.1 x.2.2.2.2.2.1 x.2.2.2.2.2.2.1 x.2.2.2.2.2.2.2) (fun _ => rfl) (qBI k)
theorem qGp (k : Nat) : qf (LOk (R := DS FS.D qqk) (fun b _ σ K => LOt Ty (kps 42) 0 b σ K [qnx k]) cf (call cf k) (cf.keep 42) Try.f42.ntmps k qkx.bs.length) 0 (bd Try.f42) :=
 qA qT (qA qT (qA (qA qT (qz (c := cf) (callF := call cf k) (kp := kps 42) (nt := Try.f42.ntmps) (k := k) (p := 0) (b := 0) (x0 := lb Try.f42 0) (l := [qnx k]) (qA (fun _ => qBJ k) qT))) (qA qT (qA qT qT))))
theorem qGq (k : Nat) (x : qkx.D) : qbp (k + 1) x.1 x.2 = qi cf (fun f a b K => COt f a b K [qed k]) (fun b _ σ K => LOt Ty (kps 42) 0 b σ K [qnx k]) 42 Try.f42.ntmps Try.f42.results.toList (bd Try.f42) (qkx.enc x).1 (qkx.enc x).2 (qj FS.dec qqk) := by kernel_rfl
theorem qGr : ∀ k, qh (call cf k) (qwl k)
 | 0 => fun x y e => absurd (show (none : Option _) = some y from e) (by simp)
 | k + 1 => qe (c := cf) (k := k) (f := 42) (fn := Try.f42) (body := bd Try.f42) (sh := qkx) (os := qqk) rfl Try.func42 rfl ⟨rfl, Nat.le_of_ble_eq_true rfl⟩ (qd (qxD k)) (qGp k) (fun x => qbp (k + 1) x.1 x.2) (qGq k)

def qev (k : Nat) (r0 : Bool) (r1 : List Int) (r2 : Bool) (r3 : List Int) : Option (Int) :=
 Option.bind (qbD k r0 r1) fun r4 =>
 if ((!r4) = false) then
 Option.bind (qbD k r2 r3) fun r5 =>
 if ((!r5) = true) then
 (some (10 : Int))
 else
 if (r2 = false) then
 if (((((List.length r3) : Nat) : Int) == (0 : Int)) = false) then
 Option.bind (qbp k r0 r1) fun r6 =>
 Option.bind (qbp k r2 r3) fun r7 =>
 Option.bind (qaQ k r6.1 r6.2 r7.1 r7.2) fun r8 =>
 Option.bind (qN k (1 : Int)) fun r9 =>
 Option.bind (qbV k r8.1 r8.2 r9.1 r9.2) fun r10 =>
 if ((r10 != (0 : Int)) = true) then
 (some (20 : Int))
 else
 (some (0 : Int))
 else
 (some (20 : Int))
 else
 (some (20 : Int))
 else
 (some (10 : Int))
def qcj : Nat → Bool → List Int → Bool → List Int → Option (Int)
 | 0, _, _, _, _ => none
 | k + 1, r0, r1, r2, r3 => qev k r0 r1 r2 r3
def qky : FS := { vs := [.g [.lf .bool, .lf (.sl (.int .u32)), .lf .bool, .lf (.sl (.int .u32))]], bs := [] }
def qql : List FS := [{ vs := [.a (.lf (.int .i64))], bs := [] }]
def qtL (k : Nat) : Inst := ⟨13, qky, qql, fun x => qcj k x.1 x.2.1 x.2.2.1 x.2.2.2⟩
theorem qGs (k : Nat) : qn (call cf k) [qwk k, qwl k, qrj k, qfe k, qrl k] := qA (qGo k) (qA (qGr k) (qA (qxA k) (qA (qm6 k) (qA (qxC k) qT))))
theorem qGt (k : Nat) : qf (LOk (R := DS FS.D qql) (fun b _ σ K => LOt Ty (kps 13) 0 b σ K []) cf (call cf k) (cf.keep 13) Try.f13.ntmps k qky.bs.length) 0 (bd Try.f13) :=
 qA qT (qA (qA qT (qA (qA qT qT) qT)) (qA (qA qT (qA (qA qT qT) qT)) (qA qT qT)))
theorem qGu (k : Nat) (x : qky.D) : qcj (k + 1) x.1 x.2.1 x.2.2.1 x.2.2.2 = qi cf (fun f a b K => COt f a b K [qwk k, qwl k, qrj k, qfe k, qrl k]) (fun b _ σ K => LOt Ty (kps 13) 0 b σ K []) 13 Try.f13.ntmps Try.f13.results.toList (bd Try.f13) (qky.enc x).1 (qky.enc x).2 (qj FS.dec qql) := by kernel_rfl
theorem qGv : ∀ k, qh (call cf k) (qtL k)
 | 0 => fun x y e => absurd (show (none : Option _) = some y from e) (by simp)
 | k + 1 => qe (c := cf) (k := k) (f := 13) (fn := Try.f13) (body := bd Try.f13) (sh := qky) (os := qql) rfl Try.func13 rfl ⟨rfl, Nat.le_of_ble_eq_true rfl⟩ (qd (qGs k)) (qGt k) (fun x => qcj (k + 1) x.1 x.2.1 x.2.2.1 x.2.2.2) (qGu k)

def qdo (k : Nat) (rec : Int → List ((Bool × List Int) × Bool × List Int) → Int → Int → Option ((Int × Bool × List Int × Bool × List Int) ⊕ (Int))) (worst : Int) (x : List ((Bool × List Int) × Bool × List Int)) (x1 : Int) (x2 : Int) : Option ((Int × Bool × List Int × Bool × List Int) ⊕ (Int)) :=
 if ((decide (x2 < x1)) = true) then
 if ((0 : Int) ≤ x2) then
 Option.bind (x)[(Int.toNat x2)]? fun x3 =>
 Option.bind (qdE k x3.1.1 x3.1.2 x3.2.1 x3.2.2) fun r4 =>
 if ((r4 == (10 : Int)) = true) then
 (some (Sum.inl ((10 : Int), x3.1.1, x3.1.2, x3.2.1, x3.2.2)))
 else
 if ((r4 == (20 : Int)) = true) then
 rec (20 : Int) x x1 (IntKind.wrap .i64 (x2 + (1 : Int)))
 else
 rec worst x x1 (IntKind.wrap .i64 (x2 + (1 : Int)))
 else
 none
 else
 (some (Sum.inr worst))
def qcN (k n : Nat) : Int → List ((Bool × List Int) × Bool × List Int) → Int → Int → Option ((Int × Bool × List Int × Bool × List Int) ⊕ (Int)) := Nat.rec (fun _ _ _ _ => none) (fun _ r => qdo k r) n
def qlu (k : Nat) (l : List ((Bool × List Int) × Bool × List Int)) : Option (Int) :=
 Option.bind (qcN k k (0 : Int) l (((List.length l) : Nat) : Int) (0 : Int)) fun r4 =>
 qc r4
 (fun r4 =>
 (some r4.1))
 (fun r4 =>
 (some r4))
def qdF : Nat → List ((Bool × List Int) × Bool × List Int) → Option (Int)
 | 0, _ => none
 | k + 1, l => qlu k l
def qkz : FS := { vs := [.a (.lf (.sl (.pr (.pr .bool (.sl (.int .u32))) (.pr .bool (.sl (.int .u32))))))], bs := [] }
def qqm : List FS := [{ vs := [.a (.lf (.int .i64))], bs := [] }]
def qlv (k : Nat) : Inst := ⟨69, qkz, qqm, fun x => qdF k x⟩
theorem qxE (k : Nat) : qn (call cf k) [qn3 k] := qA (qw7 k) qT
def qiT : List SS := [{ fr := [(3, .a (.lf (.int .i64))), (6, .a (.lf (.sl (.pr (.pr .bool (.sl (.int .u32))) (.pr .bool (.sl (.int .u32))))))), (7, .a (.lf (.int .i64))), (8, .a (.lf (.int .i64)))], mem := [], nx := 0 }]
def qny : List OS := [⟨none, { fr := [(2, .a (.lf (.int .i64)))], mem := [(0, some (.raw [[.lf .bool, .lf (.sl (.int .u32)), .lf .bool, .lf (.sl (.int .u32))]] 4 29 true false))], nx := 1 }⟩, ⟨some 0, { fr := [(3, .a (.lf (.int .i64)))], mem := [], nx := 0 }⟩]
def qnz (k : Nat) : LInst := ⟨0, qiT, qny, fun x => qcN k k x.1 x.2.1 x.2.2.1 x.2.2.2⟩
theorem qBK (k : Nat) : qf (LOk (R := DS OS.D qny) (fun b _ σ K => LOt Ty (kps 69) 0 b σ K []) cf (call cf k) (kps 69) Try.f69.ntmps k 0) 0 (lb Try.f69 0) :=
 qA qT (qA (qA qT qT) (qA (qA qT (qA qT (qA qT (qA (qA qT qT) (qA qT (qA qT qT)))))) qT))
theorem qBL (k n : Nat) (x : DS SS.D qiT) : qcN k (n + 1) x.1 x.2.1 x.2.2.1 x.2.2.2 = qE SS.enc (fun σ => qF cf (fun f a b K => COt f a b K [qn3 k]) (fun b _ σ K => LOt Ty (kps 69) 0 b σ K []) Try.f69.ntmps 0 (lb Try.f69 0) σ (qJ Ty (kps 69 0) 0 qiT qny fun x => qcN k n x.1 x.2.1 x.2.2.1 x.2.2.2)) qiT x := by kernel_rfl
theorem qBM (k : Nat) : qac cf (call cf k) (kps 69) Try.f69.ntmps k 0 0 (lb Try.f69 0) (qnz k) :=
 qr (c := cf) (callF := call cf k) (kp := kps 69) (nt := Try.f69.ntmps) (k := k) (p := 0) (b := 0) (x0 := lb Try.f69 0) (hs := qiT) (os := qny) (qd (qxE k)) (qBK k) (fun n x => qcN k n x.1 x.2.1 x.2.2.1 x.2.2.2) (fun _ => rfl) (qBL k)
theorem qGw (k : Nat) : qf (LOk (R := DS FS.D qqm) (fun b _ σ K => LOt Ty (kps 69) 0 b σ K [qnz k]) cf (call cf k) (cf.keep 69) Try.f69.ntmps k qkz.bs.length) 0 (bd Try.f69) :=
 qA qT (qA qT (qA (qA qT (qz (c := cf) (callF := call cf k) (kp := kps 69) (nt := Try.f69.ntmps) (k := k) (p := 0) (b := 0) (x0 := lb Try.f69 0) (l := [qnz k]) (qA (fun _ => qBM k) qT))) (qA qT qT)))
theorem qGx (k : Nat) (x : qkz.D) : qdF (k + 1) x = qi cf (fun f a b K => COt f a b K [qn3 k]) (fun b _ σ K => LOt Ty (kps 69) 0 b σ K [qnz k]) 69 Try.f69.ntmps Try.f69.results.toList (bd Try.f69) (qkz.enc x).1 (qkz.enc x).2 (qj FS.dec qqm) := by kernel_rfl
theorem qtM : ∀ k, qh (call cf k) (qlv k)
 | 0 => fun x y e => absurd (show (none : Option _) = some y from e) (by simp)
 | k + 1 => qe (c := cf) (k := k) (f := 69) (fn := Try.f69) (body := bd Try.f69) (sh := qkz) (os := qqm) rfl Try.func69 rfl ⟨rfl, Nat.le_of_ble_eq_true rfl⟩ (qd (qxE k)) (qGw k) (fun x => qdF (k + 1) x) (qGx k)

def qgh (k : Nat) (a0 : Bool) (a1 : List Int) (a2 : Bool) (a3 : List Int) (b0 : Bool) (b1 : List Int) (b2 : Bool) (b3 : List Int) : Option (Bool × List Int × Bool × List Int × Int) :=
 Option.bind (qdF k (List.take 2 (((a0, a1), (a2, a3)) :: (((b0, b1), (b2, b3)) :: [])))) fun r4 =>
 if ((r4 != (0 : Int)) = true) then
 (some (false, [], false, [], r4))
 else
 Option.bind (qbf k a0 a1 a2 a3) fun r5 =>
 Option.bind (qbf k b0 b1 b2 b3) fun r6 =>
 Option.bind (qbP k false false r5.1 r5.2.1 r5.2.2.1 r5.2.2.2 r6.1 r6.2.1 r6.2.2.1 r6.2.2.2) fun r7 =>
 Option.bind (qbF k r7.1 r7.2.1 r7.2.2.1 r7.2.2.2.1) fun r8 =>
 (some (r8.1, r8.2.1, r8.2.2.1, r8.2.2.2.1, r8.2.2.2.2.1))
def qdz : Nat → Bool → List Int → Bool → List Int → Bool → List Int → Bool → List Int → Option (Bool × List Int × Bool × List Int × Int)
 | 0, _, _, _, _, _, _, _, _ => none
 | k + 1, a0, a1, a2, a3, b0, b1, b2, b3 => qgh k a0 a1 a2 a3 b0 b1 b2 b3
def qkA : FS := { vs := [.g [.lf .bool, .lf (.sl (.int .u32)), .lf .bool, .lf (.sl (.int .u32))], .g [.lf .bool, .lf (.sl (.int .u32)), .lf .bool, .lf (.sl (.int .u32))], .a (.fn 54)], bs := [] }
def qqn : List FS := [{ vs := [.g [.lf .bool, .lf (.sl (.int .u32)), .lf .bool, .lf (.sl (.int .u32))], .a (.lf (.int .i64))], bs := [] }]
def qwm (k : Nat) : Inst := ⟨60, qkA, qqn, fun x => qdz k x.1 x.2.1 x.2.2.1 x.2.2.2.1 x.2.2.2.2.1 x.2.2.2.2.2.1 x.2.2.2.2.2.2.1 x.2.2.2.2.2.2.2⟩
theorem qGy (k : Nat) : qn (call cf k) [qlv k, qfc k, qrd k, qlq k] := qA (qtM k) (qA (qid k) (qA (qxe k) (qA (qtF k) qT)))
theorem qGz (k : Nat) : qf (LOk (R := DS FS.D qqn) (fun b _ σ K => LOt Ty (kps 60) 0 b σ K []) cf (call cf k) (cf.keep 60) Try.f60.ntmps k qkA.bs.length) 0 (bd Try.f60) :=
 qA qT (qA (qA qT (qA qT (qA (qA qT qT) qT))) (qA qT qT))
theorem qGA (k : Nat) (x : qkA.D) : qdz (k + 1) x.1 x.2.1 x.2.2.1 x.2.2.2.1 x.2.2.2.2.1 x.2.2.2.2.2.1 x.2.2.2.2.2.2.1 x.2.2.2.2.2.2.2 = qi cf (fun f a b K => COt f a b K [qlv k, qfc k, qrd k, qlq k]) (fun b _ σ K => LOt Ty (kps 60) 0 b σ K []) 60 Try.f60.ntmps Try.f60.results.toList (bd Try.f60) (qkA.enc x).1 (qkA.enc x).2 (qj FS.dec qqn) := by kernel_rfl
theorem qGB : ∀ k, qh (call cf k) (qwm k)
 | 0 => fun x y e => absurd (show (none : Option _) = some y from e) (by simp)
 | k + 1 => qe (c := cf) (k := k) (f := 60) (fn := Try.f60) (body := bd Try.f60) (sh := qkA) (os := qqn) rfl Try.func60 rfl ⟨rfl, Nat.le_of_ble_eq_true rfl⟩ (qd (qGy k)) (qGz k) (fun x => qdz (k + 1) x.1 x.2.1 x.2.2.1 x.2.2.2.1 x.2.2.2.2.1 x.2.2.2.2.2.1 x.2.2.2.2.2.2.1 x.2.2.2.2.2.2.2) (qGA k)

def qwn (k : Nat) (a0 : Bool) (a1 : List Int) (a2 : Bool) (a3 : List Int) (b0 : Bool) (b1 : List Int) (b2 : Bool) (b3 : List Int) : Option (Bool × List Int × Bool × List Int × Int) :=
 Option.bind (qdz k a0 a1 a2 a3 b0 b1 b2 b3) fun r4 =>
 (some (r4.1, r4.2.1, r4.2.2.1, r4.2.2.2.1, r4.2.2.2.2))
def qfp : Nat → Bool → List Int → Bool → List Int → Bool → List Int → Bool → List Int → Option (Bool × List Int × Bool × List Int × Int)
 | 0, _, _, _, _, _, _, _, _ => none
 | k + 1, a0, a1, a2, a3, b0, b1, b2, b3 => qwn k a0 a1 a2 a3 b0 b1 b2 b3
def qkB : FS := { vs := [.g [.lf .bool, .lf (.sl (.int .u32)), .lf .bool, .lf (.sl (.int .u32))], .g [.lf .bool, .lf (.sl (.int .u32)), .lf .bool, .lf (.sl (.int .u32))]], bs := [] }
def qqo : List FS := [{ vs := [.g [.lf .bool, .lf (.sl (.int .u32)), .lf .bool, .lf (.sl (.int .u32))], .a (.lf (.int .i64))], bs := [] }]
def qwo (k : Nat) : Inst := ⟨25, qkB, qqo, fun x => qfp k x.1 x.2.1 x.2.2.1 x.2.2.2.1 x.2.2.2.2.1 x.2.2.2.2.2.1 x.2.2.2.2.2.2.1 x.2.2.2.2.2.2.2⟩
theorem qGC (k : Nat) : qn (call cf k) [qwm k] := qA (qGB k) qT
theorem qGD (k : Nat) : qf (LOk (R := DS FS.D qqo) (fun b _ σ K => LOt Ty (kps 25) 0 b σ K []) cf (call cf k) (cf.keep 25) Try.f25.ntmps k qkB.bs.length) 0 (bd Try.f25) :=
 qA qT (qA qT qT)
theorem qGE (k : Nat) (x : qkB.D) : qfp (k + 1) x.1 x.2.1 x.2.2.1 x.2.2.2.1 x.2.2.2.2.1 x.2.2.2.2.2.1 x.2.2.2.2.2.2.1 x.2.2.2.2.2.2.2 = qi cf (fun f a b K => COt f a b K [qwm k]) (fun b _ σ K => LOt Ty (kps 25) 0 b σ K []) 25 Try.f25.ntmps Try.f25.results.toList (bd Try.f25) (qkB.enc x).1 (qkB.enc x).2 (qj FS.dec qqo) := by kernel_rfl
theorem qGF : ∀ k, qh (call cf k) (qwo k)
 | 0 => fun x y e => absurd (show (none : Option _) = some y from e) (by simp)
 | k + 1 => qe (c := cf) (k := k) (f := 25) (fn := Try.f25) (body := bd Try.f25) (sh := qkB) (os := qqo) rfl Try.func25 rfl ⟨rfl, Nat.le_of_ble_eq_true rfl⟩ (qd (qGC k)) (qGD k) (fun x => qfp (k + 1) x.1 x.2.1 x.2.2.1 x.2.2.2.1 x.2.2.2.2.1 x.2.2.2.2.2.1 x.2.2.2.2.2.2.1 x.2.2.2.2.2.2.2) (qGE k)

def qgi (k : Nat) (a0 : Bool) (a1 : List Int) (a2 : Bool) (a3 : List Int) (b0 : Bool) (b1 : List Int) (b2 : Bool) (b3 : List Int) : Option (Bool × List Int × Bool × List Int × Int) :=
 Option.bind (qdF k (List.take 2 (((a0, a1), (a2, a3)) :: (((b0, b1), (b2, b3)) :: [])))) fun r8 =>
 if ((r8 != (0 : Int)) = true) then
 (some (false, [], false, [], r8))
 else
 Option.bind (qbf k a0 a1 a2 a3) fun r9 =>
 Option.bind (qbf k b0 b1 b2 b3) fun r10 =>
 Option.bind (qbO k false false r9.1 r9.2.1 r9.2.2.1 r9.2.2.2 r10.1 r10.2.1 r10.2.2.1 r10.2.2.2) fun r11 =>
 Option.bind (qbF k r11.1 r11.2.1 r11.2.2.1 r11.2.2.2.1) fun r12 =>
 (some (r12.1, r12.2.1, r12.2.2.1, r12.2.2.2.1, r12.2.2.2.2.1))
def qdA : Nat → Bool → List Int → Bool → List Int → Bool → List Int → Bool → List Int → Option (Bool × List Int × Bool × List Int × Int)
 | 0, _, _, _, _, _, _, _, _ => none
 | k + 1, a0, a1, a2, a3, b0, b1, b2, b3 => qgi k a0 a1 a2 a3 b0 b1 b2 b3
def qkC : FS := { vs := [.g [.lf .bool, .lf (.sl (.int .u32)), .lf .bool, .lf (.sl (.int .u32))], .g [.lf .bool, .lf (.sl (.int .u32)), .lf .bool, .lf (.sl (.int .u32))], .a (.fn 63)], bs := [] }
def qqp : List FS := [{ vs := [.g [.lf .bool, .lf (.sl (.int .u32)), .lf .bool, .lf (.sl (.int .u32))], .a (.lf (.int .i64))], bs := [] }]
def qwp (k : Nat) : Inst := ⟨60, qkC, qqp, fun x => qdA k x.1 x.2.1 x.2.2.1 x.2.2.2.1 x.2.2.2.2.1 x.2.2.2.2.2.1 x.2.2.2.2.2.2.1 x.2.2.2.2.2.2.2⟩
theorem qGG (k : Nat) : qn (call cf k) [qlv k, qfc k, qra k, qlq k] := qA (qtM k) (qA (qid k) (qA (qxa k) (qA (qtF k) qT)))
theorem qGH (k : Nat) : qf (LOk (R := DS FS.D qqp) (fun b _ σ K => LOt Ty (kps 60) 0 b σ K []) cf (call cf k) (cf.keep 60) Try.f60.ntmps k qkC.bs.length) 0 (bd Try.f60) :=
 qA qT (qA (qA qT (qA qT (qA (qA qT qT) qT))) (qA qT qT))
theorem qGI (k : Nat) (x : qkC.D) : qdA (k + 1) x.1 x.2.1 x.2.2.1 x.2.2.2.1 x.2.2.2.2.1 x.2.2.2.2.2.1 x.2.2.2.2.2.2.1 x.2.2.2.2.2.2.2 = qi cf (fun f a b K => COt f a b K [qlv k, qfc k, qra k, qlq k]) (fun b _ σ K => LOt Ty (kps 60) 0 b σ K []) 60 Try.f60.ntmps Try.f60.results.toList (bd Try.f60) (qkC.enc x).1 (qkC.enc x).2 (qj FS.dec qqp) := by kernel_rfl
theorem qGJ : ∀ k, qh (call cf k) (qwp k)
 | 0 => fun x y e => absurd (show (none : Option _) = some y from e) (by simp)
 | k + 1 => qe (c := cf) (k := k) (f := 60) (fn := Try.f60) (body := bd Try.f60) (sh := qkC) (os := qqp) rfl Try.func60 rfl ⟨rfl, Nat.le_of_ble_eq_true rfl⟩ (qd (qGG k)) (qGH k) (fun x => qdA (k + 1) x.1 x.2.1 x.2.2.1 x.2.2.2.1 x.2.2.2.2.1 x.2.2.2.2.2.1 x.2.2.2.2.2.2.1 x.2.2.2.2.2.2.2) (qGI k)

def qwq (k : Nat) (a0 : Bool) (a1 : List Int) (a2 : Bool) (a3 : List Int) (b0 : Bool) (b1 : List Int) (b2 : Bool) (b3 : List Int) : Option (Bool × List Int × Bool × List Int × Int) :=
 Option.bind (qdA k a0 a1 a2 a3 b0 b1 b2 b3) fun r8 =>
 (some (r8.1, r8.2.1, r8.2.2.1, r8.2.2.2.1, r8.2.2.2.2))
def qfq : Nat → Bool → List Int → Bool → List Int → Bool → List Int → Bool → List Int → Option (Bool × List Int × Bool × List Int × Int)
 | 0, _, _, _, _, _, _, _, _ => none
 | k + 1, a0, a1, a2, a3, b0, b1, b2, b3 => qwq k a0 a1 a2 a3 b0 b1 b2 b3
def qkD : FS := { vs := [.g [.lf .bool, .lf (.sl (.int .u32)), .lf .bool, .lf (.sl (.int .u32))], .g [.lf .bool, .lf (.sl (.int .u32)), .lf .bool, .lf (.sl (.int .u32))]], bs := [] }
def qqq : List FS := [{ vs := [.g [.lf .bool, .lf (.sl (.int .u32)), .lf .bool, .lf (.sl (.int .u32))], .a (.lf (.int .i64))], bs := [] }]
def qwr (k : Nat) : Inst := ⟨64, qkD, qqq, fun x => qfq k x.1 x.2.1 x.2.2.1 x.2.2.2.1 x.2.2.2.2.1 x.2.2.2.2.2.1 x.2.2.2.2.2.2.1 x.2.2.2.2.2.2.2⟩
theorem qGK (k : Nat) : qn (call cf k) [qwp k] := qA (qGJ k) qT
theorem qGL (k : Nat) : qf (LOk (R := DS FS.D qqq) (fun b _ σ K => LOt Ty (kps 64) 0 b σ K []) cf (call cf k) (cf.keep 64) Try.f64.ntmps k qkD.bs.length) 0 (bd Try.f64) :=
 qA qT (qA qT qT)
theorem qGM (k : Nat) (x : qkD.D) : qfq (k + 1) x.1 x.2.1 x.2.2.1 x.2.2.2.1 x.2.2.2.2.1 x.2.2.2.2.2.1 x.2.2.2.2.2.2.1 x.2.2.2.2.2.2.2 = qi cf (fun f a b K => COt f a b K [qwp k]) (fun b _ σ K => LOt Ty (kps 64) 0 b σ K []) 64 Try.f64.ntmps Try.f64.results.toList (bd Try.f64) (qkD.enc x).1 (qkD.enc x).2 (qj FS.dec qqq) := by kernel_rfl
theorem qGN : ∀ k, qh (call cf k) (qwr k)
 | 0 => fun x y e => absurd (show (none : Option _) = some y from e) (by simp)
 | k + 1 => qe (c := cf) (k := k) (f := 64) (fn := Try.f64) (body := bd Try.f64) (sh := qkD) (os := qqq) rfl Try.func64 rfl ⟨rfl, Nat.le_of_ble_eq_true rfl⟩ (qd (qGK k)) (qGL k) (fun x => qfq (k + 1) x.1 x.2.1 x.2.2.1 x.2.2.2.1 x.2.2.2.2.1 x.2.2.2.2.2.1 x.2.2.2.2.2.2.1 x.2.2.2.2.2.2.2) (qGM k)

def qlw (k : Nat) (g0 : Bool) (g1 : List Int) (g2 : Bool) (g3 : List Int) (c0 : Bool) (c1 : List Int) (c2 : Bool) (c3 : List Int) (u0 : Bool) (u1 : List Int) (u2 : Bool) (u3 : List Int) : Option (Bool × List Int × Bool × List Int) :=
 Option.bind (qfp k g0 g1 g2 g3 u0 u1 u2 u3) fun r7 =>
 Option.bind (qfq k r7.1 r7.2.1 r7.2.2.1 r7.2.2.2.1 c0 c1 c2 c3) fun r8 =>
 (some (r8.1, r8.2.1, r8.2.2.1, r8.2.2.2.1))
def qbX : Nat → Bool → List Int → Bool → List Int → Bool → List Int → Bool → List Int → Bool → List Int → Bool → List Int → Option (Bool × List Int × Bool × List Int)
 | 0, _, _, _, _, _, _, _, _, _, _, _, _ => none
 | k + 1, g0, g1, g2, g3, c0, c1, c2, c3, u0, u1, u2, u3 => qlw k g0 g1 g2 g3 c0 c1 c2 c3 u0 u1 u2 u3
def qkE : FS := { vs := [.g [.lf .bool, .lf (.sl (.int .u32)), .lf .bool, .lf (.sl (.int .u32))], .g [.lf .bool, .lf (.sl (.int .u32)), .lf .bool, .lf (.sl (.int .u32))], .g [.lf .bool, .lf (.sl (.int .u32)), .lf .bool, .lf (.sl (.int .u32))]], bs := [] }
def qqr : List FS := [{ vs := [.g [.lf .bool, .lf (.sl (.int .u32)), .lf .bool, .lf (.sl (.int .u32))]], bs := [] }]
def qtN (k : Nat) : Inst := ⟨28, qkE, qqr, fun x => qbX k x.1 x.2.1 x.2.2.1 x.2.2.2.1 x.2.2.2.2.1 x.2.2.2.2.2.1 x.2.2.2.2.2.2.1 x.2.2.2.2.2.2.2.1 x.2.2.2.2.2.2.2.2.1 x.2.2.2.2.2.2.2.2.2.1 x.2.2.2.2.2.2.2.2.2.2.1 x.2.2.2.2.2.2.2.2.2.2.2⟩
theorem qGO (k : Nat) : qn (call cf k) [qwo k, qwr k] := qA (qGF k) (qA (qGN k) qT)
theorem qGP (k : Nat) : qf (LOk (R := DS FS.D qqr) (fun b _ σ K => LOt Ty (kps 28) 0 b σ K []) cf (call cf k) (cf.keep 28) Try.f28.ntmps k qkE.bs.length) 0 (bd Try.f28) :=
 qA qT (qA qT (qA qT (qA qT qT)))
theorem qGQ (k : Nat) (x : qkE.D) : qbX (k + 1) x.1 x.2.1 x.2.2.1 x.2.2.2.1 x.2.2.2.2.1 x.2.2.2.2.2.1 x.2.2.2.2.2.2.1 x.2.2.2.2.2.2.2.1 x.2.2.2.2.2.2.2.2.1 x.2.2.2.2.2.2.2.2.2.1 x.2.2.2.2.2.2.2.2.2.2.1 x.2.2.2.2.2.2.2.2.2.2.2 = qi cf (fun f a b K => COt f a b K [qwo k, qwr k]) (fun b _ σ K => LOt Ty (kps 28) 0 b σ K []) 28 Try.f28.ntmps Try.f28.results.toList (bd Try.f28) (qkE.enc x).1 (qkE.enc x).2 (qj FS.dec qqr) := by kernel_rfl
theorem qGR : ∀ k, qh (call cf k) (qtN k)
 | 0 => fun x y e => absurd (show (none : Option _) = some y from e) (by simp)
 | k + 1 => qe (c := cf) (k := k) (f := 28) (fn := Try.f28) (body := bd Try.f28) (sh := qkE) (os := qqr) rfl Try.func28 rfl ⟨rfl, Nat.le_of_ble_eq_true rfl⟩ (qd (qGO k)) (qGP k) (fun x => qbX (k + 1) x.1 x.2.1 x.2.2.1 x.2.2.2.1 x.2.2.2.2.1 x.2.2.2.2.2.1 x.2.2.2.2.2.2.1 x.2.2.2.2.2.2.2.1 x.2.2.2.2.2.2.2.2.1 x.2.2.2.2.2.2.2.2.2.1 x.2.2.2.2.2.2.2.2.2.2.1 x.2.2.2.2.2.2.2.2.2.2.2) (qGQ k)


end
end Go.Proofs.Ytbhnafdmilfobaa.Am

/- Printed functions: each says what the typed machine says of the program -/
set_option linter.unusedVariables false
set_option maxRecDepth 100000
namespace Go.Proofs.Ytbhnafdmilfobaa.Am
open Go
noncomputable section

def qaM (k : Nat) (rec : List ((Bool × List Int) × Bool × List Int) → Int → Int → Option ((Int) ⊕ (Int))) (l : List ((Bool × List Int) × Bool × List Int)) (e : Int) (i : Int) : Option ((Int) ⊕ (Int)) :=
 if ((decide (i < (((List.length l) : Nat) : Int))) = true) then
 if ((0 : Int) ≤ i) then
 Option.bind (l)[(Int.toNat i)]? fun x =>
 Option.bind (qcj k x.1.1 x.1.2 x.2.1 x.2.2) fun r2 =>
 if ((r2 == (10 : Int)) = true) then
 (some (Sum.inl (10 : Int)))
 else
 if ((r2 != (0 : Int)) = true) then
 rec l r2 (IntKind.wrap .i64 (i + (1 : Int)))
 else
 rec l e (IntKind.wrap .i64 (i + (1 : Int)))
 else
 none
 else
 (some (Sum.inr e))
def qad (k n : Nat) : List ((Bool × List Int) × Bool × List Int) → Int → Int → Option ((Int) ⊕ (Int)) := Nat.rec (fun _ _ _ => none) (fun _ r => qaM k r) n
def qef (k : Nat) (l : List ((Bool × List Int) × Bool × List Int)) : Option (Int) :=
 Option.bind (qad k k l (0 : Int) (0 : Int)) fun r2 =>
 qc r2
 (fun r2 =>
 (some r2))
 (fun r2 =>
 (some r2))
def qb5 : Nat → List ((Bool × List Int) × Bool × List Int) → Option (Int)
 | 0, _ => none
 | k + 1, l => qef k l
def qkF : FS := { vs := [.a (.lf (.sl (.pr (.pr .bool (.sl (.int .u32))) (.pr .bool (.sl (.int .u32))))))], bs := [] }
def qqs : List FS := [{ vs := [.a (.lf (.int .i64))], bs := [] }]
def qtO (k : Nat) : Inst := ⟨32, qkF, qqs, fun x => qb5 k x⟩
theorem qxF (k : Nat) : qn (call cf k) [qtL k] := qA (qGv k) qT
def qiU : List SS := [{ fr := [(0, .a (.lf (.sl (.pr (.pr .bool (.sl (.int .u32))) (.pr .bool (.sl (.int .u32))))))), (3, .a (.lf (.int .i64))), (4, .a (.lf (.int .i64)))], mem := [], nx := 0 }]
def qnA : List OS := [⟨none, { fr := [(2, .a (.lf (.int .i64)))], mem := [], nx := 0 }⟩, ⟨some 0, { fr := [(3, .a (.lf (.int .i64)))], mem := [], nx := 0 }⟩]
def qnB (k : Nat) : LInst := ⟨0, qiU, qnA, fun x => qad k k x.1 x.2.1 x.2.2⟩
theorem qBN (k : Nat) : qf (LOk (R := DS OS.D qnA) (fun b _ σ K => LOt Ty (kps 32) 0 b σ K []) cf (call cf k) (kps 32) Try.f32.ntmps k 0) 0 (lb Try.f32 0) :=
 qA (qA qT (qA qT qT)) (qA (qA qT (qA (qA qT (qA (qA qT qT) qT)) (qA qT (qA qT qT)))) qT)
theorem qBO (k n : Nat) (x : DS SS.D qiU) : qad k (n + 1) x.1 x.2.1 x.2.2 = qE SS.enc (fun σ => qF cf (fun f a b K => COt f a b K [qtL k]) (fun b _ σ K => LOt Ty (kps 32) 0 b σ K []) Try.f32.ntmps 0 (lb Try.f32 0) σ (qJ Ty (kps 32 0) 0 qiU qnA fun x => qad k n x.1 x.2.1 x.2.2)) qiU x := by kernel_rfl
theorem qBP (k : Nat) : qac cf (call cf k) (kps 32) Try.f32.ntmps k 0 0 (lb Try.f32 0) (qnB k) :=
 qr (c := cf) (callF := call cf k) (kp := kps 32) (nt := Try.f32.ntmps) (k := k) (p := 0) (b := 0) (x0 := lb Try.f32 0) (hs := qiU) (os := qnA) (qd (qxF k)) (qBN k) (fun n x => qad k n x.1 x.2.1 x.2.2) (fun _ => rfl) (qBO k)
theorem qGS (k : Nat) : qf (LOk (R := DS FS.D qqs) (fun b _ σ K => LOt Ty (kps 32) 0 b σ K [qnB k]) cf (call cf k) (cf.keep 32) Try.f32.ntmps k qkF.bs.length) 0 (bd Try.f32) :=
 qA qT (qA qT (qA (qA qT (qz (c := cf) (callF := call cf k) (kp := kps 32) (nt := Try.f32.ntmps) (k := k) (p := 0) (b := 0) (x0 := lb Try.f32 0) (l := [qnB k]) (qA (fun _ => qBP k) qT))) (qA qT qT)))
theorem qGT (k : Nat) (x : qkF.D) : qb5 (k + 1) x = qi cf (fun f a b K => COt f a b K [qtL k]) (fun b _ σ K => LOt Ty (kps 32) 0 b σ K [qnB k]) 32 Try.f32.ntmps Try.f32.results.toList (bd Try.f32) (qkF.enc x).1 (qkF.enc x).2 (qj FS.dec qqs) := by kernel_rfl
theorem qGU : ∀ k, qh (call cf k) (qtO k)
 | 0 => fun x y e => absurd (show (none : Option _) = some y from e) (by simp)
 | k + 1 => qe (c := cf) (k := k) (f := 32) (fn := Try.f32) (body := bd Try.f32) (sh := qkF) (os := qqs) rfl Try.func32 rfl ⟨rfl, Nat.le_of_ble_eq_true rfl⟩ (qd (qxF k)) (qGS k) (fun x => qb5 (k + 1) x) (qGT k)

def qlx (k : Nat) (a0 : Bool) (a1 : List Int) (a2 : Bool) (a3 : List Int) (b0 : Bool) (b1 : List Int) (b2 : Bool) (b3 : List Int) : Option (Int × Int) :=
 Option.bind (qdF k (List.take 2 (((a0, a1), (a2, a3)) :: (((b0, b1), (b2, b3)) :: [])))) fun r8 =>
 if ((r8 != (0 : Int)) = true) then
 (some ((0 : Int), r8))
 else
 Option.bind (qbf k a0 a1 a2 a3) fun r9 =>
 Option.bind (qbf k b0 b1 b2 b3) fun r10 =>
 Option.bind (qaA k r9.1 r9.2.1 r9.2.2.1 r9.2.2.2 r10.1 r10.2.1 r10.2.2.1 r10.2.2.2) fun r11 =>
 (some (r11.1, (0 : Int)))
def qeV : Nat → Bool → List Int → Bool → List Int → Bool → List Int → Bool → List Int → Option (Int × Int)
 | 0, _, _, _, _, _, _, _, _ => none
 | k + 1, a0, a1, a2, a3, b0, b1, b2, b3 => qlx k a0 a1 a2 a3 b0 b1 b2 b3
def qkG : FS := { vs := [.g [.lf .bool, .lf (.sl (.int .u32)), .lf .bool, .lf (.sl (.int .u32))], .g [.lf .bool, .lf (.sl (.int .u32)), .lf .bool, .lf (.sl (.int .u32))]], bs := [] }
def qqt : List FS := [{ vs := [.a (.lf (.int .i64)), .a (.lf (.int .i64))], bs := [] }]
def qtP (k : Nat) : Inst := ⟨33, qkG, qqt, fun x => qeV k x.1 x.2.1 x.2.2.1 x.2.2.2.1 x.2.2.2.2.1 x.2.2.2.2.2.1 x.2.2.2.2.2.2.1 x.2.2.2.2.2.2.2⟩
theorem qGV (k : Nat) : qn (call cf k) [qlv k, qfc k, qlk k] := qA (qtM k) (qA (qid k) (qA (qtB k) qT))
theorem qGW (k : Nat) : qf (LOk (R := DS FS.D qqt) (fun b _ σ K => LOt Ty (kps 33) 0 b σ K []) cf (call cf k) (cf.keep 33) Try.f33.ntmps k qkG.bs.length) 0 (bd Try.f33) :=
 qA qT (qA (qA qT (qA qT (qA (qA qT qT) qT))) (qA qT qT))
theorem qGX (k : Nat) (x : qkG.D) : qeV (k + 1) x.1 x.2.1 x.2.2.1 x.2.2.2.1 x.2.2.2.2.1 x.2.2.2.2.2.1 x.2.2.2.2.2.2.1 x.2.2.2.2.2.2.2 = qi cf (fun f a b K => COt f a b K [qlv k, qfc k, qlk k]) (fun b _ σ K => LOt Ty (kps 33) 0 b σ K []) 33 Try.f33.ntmps Try.f33.results.toList (bd Try.f33) (qkG.enc x).1 (qkG.enc x).2 (qj FS.dec qqt) := by kernel_rfl
theorem qGY : ∀ k, qh (call cf k) (qtP k)
 | 0 => fun x y e => absurd (show (none : Option _) = some y from e) (by simp)
 | k + 1 => qe (c := cf) (k := k) (f := 33) (fn := Try.f33) (body := bd Try.f33) (sh := qkG) (os := qqt) rfl Try.func33 rfl ⟨rfl, Nat.le_of_ble_eq_true rfl⟩ (qd (qGV k)) (qGW k) (fun x => qeV (k + 1) x.1 x.2.1 x.2.2.1 x.2.2.2.1 x.2.2.2.2.1 x.2.2.2.2.2.1 x.2.2.2.2.2.2.1 x.2.2.2.2.2.2.2) (qGX k)

def qar (k : Nat) (rec : List (Int × Int) → Int → Int → ByteArray → Int → List (Int × Int) → List (Int × Int) → Bool → List Int → Bool → List Int → Bool → List Int → Bool → List Int → Option ((Bool × ByteArray × Int × List (Int × Int) × List (Int × Int) × Bool × List Int × Bool × List Int × Bool × List Int × Bool × List Int × Int × Int) ⊕ (ByteArray × Int × List (Int × Int) × List (Int × Int) × Bool × List Int × Bool × List Int × Bool × List Int × Bool × List Int))) (x : List (Int × Int)) (x1 : Int) (x2 : Int) (m0 : ByteArray) (m1 : Int) (m2 : List (Int × Int)) (m3 : List (Int × Int)) (u0 : Bool) (u1 : List Int) (u2 : Bool) (u3 : List Int) (v0 : Bool) (v1 : List Int) (v2 : Bool) (v3 : List Int) : Option ((Bool × ByteArray × Int × List (Int × Int) × List (Int × Int) × Bool × List Int × Bool × List Int × Bool × List Int × Bool × List Int × Int × Int) ⊕ (ByteArray × Int × List (Int × Int) × List (Int × Int) × Bool × List Int × Bool × List Int × Bool × List Int × Bool × List Int)) :=
 if ((decide (x2 < x1)) = true) then
 if ((0 : Int) ≤ x2) then
 Option.bind (x)[(Int.toNat x2)]? fun x3 =>
 if ((decide (x3.1 < (0 : Int))) = true) then
 (some (Sum.inl (true, m0, m1, m2, m3, u0, u1, u2, u3, v0, v1, v2, v3, x3.1, x3.2)))
 else
 rec x x1 (IntKind.wrap .i64 (x2 + (1 : Int))) m0 m1 m2 m3 u0 u1 u2 u3 v0 v1 v2 v3
 else
 none
 else
 (some (Sum.inr (m0, m1, m2, m3, u0, u1, u2, u3, v0, v1, v2, v3)))
def qv (k n : Nat) : List (Int × Int) → Int → Int → ByteArray → Int → List (Int × Int) → List (Int × Int) → Bool → List Int → Bool → List Int → Bool → List Int → Bool → List Int → Option ((Bool × ByteArray × Int × List (Int × Int) × List (Int × Int) × Bool × List Int × Bool × List Int × Bool × List Int × Bool × List Int × Int × Int) ⊕ (ByteArray × Int × List (Int × Int) × List (Int × Int) × Bool × List Int × Bool × List Int × Bool × List Int × Bool × List Int)) := Nat.rec (fun _ _ _ _ _ _ _ _ _ _ _ _ _ _ _ => none) (fun _ r => qar k r) n
def qgM (k : Nat) (m0 : ByteArray) (m1 : Int) (m2 : List (Int × Int)) (m3 : List (Int × Int)) (u0 : Bool) (u1 : List Int) (u2 : Bool) (u3 : List Int) (v0 : Bool) (v1 : List Int) (v2 : Bool) (v3 : List Int) : Option (Bool) :=
 Option.bind (qch k) fun r =>
 if ((!r) = true) then
 (some false)
 else
 Option.bind (qci k m0 m1 m2 m3) fun r1 =>
 if ((!r1) = false) then
 if ((m1 != (100 : Int)) = false) then
 Option.bind (qb5 k (List.take 2 (((u0, u1), (u2, u3)) :: (((v0, v1), (v2, v3)) :: [])))) fun r2 =>
 if ((r2 != (0 : Int)) = false) then
 if ((decide ((IntKind.wrap .i64 ((IntKind.wrap .i64 ((IntKind.wrap .i64 ((((List.length u1) : Nat) : Int) + (((List.length u3) : Nat) : Int))) + (((List.length v1) : Nat) : Int))) + (((List.length v3) : Nat) : Int))) > (40 : Int))) = true) then
 (some true)
 else
 Option.bind (qv k k m2 (((List.length m2) : Nat) : Int) (0 : Int) m0 m1 m2 m3 u0 u1 u2 u3 v0 v1 v2 v3) fun r3 =>
 qc r3
 (fun r3 =>
 (some r3.1))
 (fun r3 =>
 Option.bind (qc7 k r3.1 r3.2.1 r3.2.2.1 r3.2.2.2.1 r3.2.2.2.2.1 r3.2.2.2.2.2.1 r3.2.2.2.2.2.2.1 r3.2.2.2.2.2.2.2.1) fun r4 =>
 Option.bind (qc7 k r3.1 r3.2.1 r3.2.2.1 r3.2.2.2.1 r3.2.2.2.2.2.2.2.2.1 r3.2.2.2.2.2.2.2.2.2.1 r3.2.2.2.2.2.2.2.2.2.2.1 r3.2.2.2.2.2.2.2.2.2.2.2) fun r5 =>
 Option.bind (qcM k r3.1 r3.2.1 r3.2.2.1 r3.2.2.2.1 r4.1) fun r6 =>
 Option.bind (qcM k r3.1 r3.2.1 r3.2.2.1 r3.2.2.2.1 r5.1) fun r7 =>
 if (((IntKind.wrap .i64 ((IntKind.wrap .i64 ((IntKind.wrap .i64 (r4.2 + r5.2)) + r6.2.2.2.2.2.2.2.2)) + r7.2.2.2.2.2.2.2.2)) != (0 : Int)) = true) then
 (some false)
 else
 Option.bind (qeV k r3.2.2.2.2.1 r3.2.2.2.2.2.1 r3.2.2.2.2.2.2.1 r3.2.2.2.2.2.2.2.1 r3.2.2.2.2.2.2.2.2.1 r3.2.2.2.2.2.2.2.2.2.1 r3.2.2.2.2.2.2.2.2.2.2.1 r3.2.2.2.2.2.2.2.2.2.2.2) fun r8 =>
 Option.bind (qbX k r6.1 r6.2.1 r6.2.2.1 r6.2.2.2.1 r6.2.2.2.2.1 r6.2.2.2.2.2.1 r6.2.2.2.2.2.2.1 r6.2.2.2.2.2.2.2.1 r3.2.2.2.2.1 r3.2.2.2.2.2.1 r3.2.2.2.2.2.2.1 r3.2.2.2.2.2.2.2.1) fun r9 =>
 Option.bind (qbX k r7.1 r7.2.1 r7.2.2.1 r7.2.2.2.1 r7.2.2.2.2.1 r7.2.2.2.2.2.1 r7.2.2.2.2.2.2.1 r7.2.2.2.2.2.2.2.1 r3.2.2.2.2.2.2.2.2.1 r3.2.2.2.2.2.2.2.2.2.1 r3.2.2.2.2.2.2.2.2.2.2.1 r3.2.2.2.2.2.2.2.2.2.2.2) fun r10 =>
 Option.bind (qeV k r9.1 r9.2.1 r9.2.2.1 r9.2.2.2 r10.1 r10.2.1 r10.2.2.1 r10.2.2.2) fun r11 =>
 if ((r11.2 == (0 : Int)) = true) then
 if ((r8.1 == (0 : Int)) = true) then
 if ((r11.1 == (0 : Int)) = false) then
 if ((decide (r8.1 < (0 : Int))) = true) then
 if ((decide (r11.1 ≤ (0 : Int))) = false) then
 if ((decide (r8.1 > (0 : Int))) = true) then
 (some (decide (r11.1 ≥ (0 : Int))))
 else
 (some false)
 else
 (some true)
 else
 if ((decide (r8.1 > (0 : Int))) = true) then
 (some (decide (r11.1 ≥ (0 : Int))))
 else
 (some false)
 else
 (some true)
 else
 if ((decide (r8.1 < (0 : Int))) = true) then
 if ((decide (r11.1 ≤ (0 : Int))) = false) then
 if ((decide (r8.1 > (0 : Int))) = true) then
 (some (decide (r11.1 ≥ (0 : Int))))
 else
 (some false)
 else
 (some true)
 else
 if ((decide (r8.1 > (0 : Int))) = true) then
 (some (decide (r11.1 ≥ (0 : Int))))
 else
 (some false)
 else
 (some false))
 else
 (some true)
 else
 (some true)
 else
 (some true)
def qa0 : Nat → ByteArray → Int → List (Int × Int) → List (Int × Int) → Bool → List Int → Bool → List Int → Bool → List Int → Bool → List Int → Option (Bool)
 | 0, _, _, _, _, _, _, _, _, _, _, _, _ => none
 | k + 1, m0, m1, m2, m3, u0, u1, u2, u3, v0, v1, v2, v3 => qgM k m0 m1 m2 m3 u0 u1 u2 u3 v0 v1 v2 v3
def qkH : FS := { vs := [.g [.lf .str, .lf (.int .u8), .lf (.sl (.pr (.int .i64) (.int .i64))), .lf (.sl (.pr (.int .i64) (.int .i64)))], .g [.lf .bool, .lf (.sl (.int .u32)), .lf .bool, .lf (.sl (.int .u32))], .g [.lf .bool, .lf (.sl (.int .u32)), .lf .bool, .lf (.sl (.int .u32))]], bs := [] }
def qqu : List FS := [{ vs := [.a (.lf .bool)], bs := [] }]
def qHB (k : Nat) : Inst := ⟨10, qkH, qqu, fun x => qa0 k x.1 x.2.1 x.2.2.1 x.2.2.2.1 x.2.2.2.2.1 x.2.2.2.2.2.1 x.2.2.2.2.2.2.1 x.2.2.2.2.2.2.2.1 x.2.2.2.2.2.2.2.2.1 x.2.2.2.2.2.2.2.2.2.1 x.2.2.2.2.2.2.2.2.2.2.1 x.2.2.2.2.2.2.2.2.2.2.2⟩
theorem qxG (k : Nat) : qn (call cf k) [qtH k, qqi k, qtO k, qoh k, qof k, qtP k, qtN k] := qA (qFj k) (qA (qBG k) (qA (qGU k) (qA (qxl k) (qA (qxi k) (qA (qGY k) (qA (qGR k) qT))))))
def qiV : List SS := [{ fr := [(3, .a (.ptr 0 0 0)), (4, .a (.ptr 1 0 0)), (5, .a (.ptr 2 0 0)), (63, .a (.lf (.sl (.pr (.int .i64) (.int .i64))))), (64, .a (.lf (.int .i64))), (65, .a (.lf (.int .i64)))], mem := [(0, some (.raw [[.lf .str, .lf (.int .u8), .lf (.sl (.pr (.int .i64) (.int .i64))), .lf (.sl (.pr (.int .i64) (.int .i64)))]] 4 24 true false)), (1, some (.raw [[.lf .bool, .lf (.sl (.int .u32)), .lf .bool, .lf (.sl (.int .u32))]] 4 29 true false)), (2, some (.raw [[.lf .bool, .lf (.sl (.int .u32)), .lf .bool, .lf (.sl (.int .u32))]] 4 29 true false))], nx := 3 }]
def qnC : List OS := [⟨none, { fr := [(6, .a (.lf .bool))], mem := [(0, some (.raw [[.lf .str, .lf (.int .u8), .lf (.sl (.pr (.int .i64) (.int .i64))), .lf (.sl (.pr (.int .i64) (.int .i64)))]] 4 24 true false)), (1, some (.raw [[.lf .bool, .lf (.sl (.int .u32)), .lf .bool, .lf (.sl (.int .u32))]] 4 29 true false)), (2, some (.raw [[.lf .bool, .lf (.sl (.int .u32)), .lf .bool, .lf (.sl (.int .u32))]] 4 29 true false)), (3, some (.raw [[.lf (.int .i64), .lf (.int .i64)]] 2 49 true false))], nx := 4 }⟩, ⟨some 0, { fr := [(3, .a (.ptr 0 0 0)), (4, .a (.ptr 1 0 0)), (5, .a (.ptr 2 0 0))], mem := [(0, some (.raw [[.lf .str, .lf (.int .u8), .lf (.sl (.pr (.int .i64) (.int .i64))), .lf (.sl (.pr (.int .i64) (.int .i64)))]] 4 24 true false)), (1, some (.raw [[.lf .bool, .lf (.sl (.int .u32)), .lf .bool, .lf (.sl (.int .u32))]] 4 29 true false)), (2, some (.raw [[.lf .bool, .lf (.sl (.int .u32)), .lf .bool, .lf (.sl (.int .u32))]] 4 29 true false))], nx := 3 }⟩]
def qnD (k : Nat) : LInst := ⟨0, qiV, qnC, fun x => qv k k x.1 x.2.1 x.2.2.1 x.2.2.2.1 x.2.2.2.2.1 x.2.2.2.2.2.1 x.2.2.2.2.2.2.1 x.2.2.2.2.2.2.2.1 x.2.2.2.2.2.2.2.2.1 x.2.2.2.2.2.2.2.2.2.1 x.2.2.2.2.2.2.2.2.2.2.1 x.2.2.2.2.2.2.2.2.2.2.2.1 x.2.2.2.2.2.2.2.2.2.2.2.2.1 x.2.2.2.2.2.2.2.2.2.2.2.2.2.1 x.2.2.2.2.2.2.2.2.2.2.2.2.2.2⟩
theorem qBQ (k : Nat) : qf (LOk (R := DS OS.D qnC) (fun b _ σ K => LOt Ty (kps 10) 0 b σ K []) cf (call cf k) (kps 10) Try.f10.ntmps k 0) 0 (lb Try.f10 0) :=
 qA qT (qA (qA qT qT) (qA (qA qT (qA qT (qA (qA qT qT) qT))) qT))
theorem qBR (k n : Nat) (x : DS SS.D qiV) : qv k (n + 1) x.1 x.2.1 x.2.2.1 x.2.2.2.1 x.2.2.2.2.1 x.2.2.2.2.2.1 x.2.2.2.2.2.2.1 x.2.2.2.2.2.2.2.1 x.2.2.2.2.2.2.2.2.1 x.2.2.2.2.2.2.2.2.2.1 x.2.2.2.2.2.2.2.2.2.2.1 x.2.2.2.2.2.2.2.2.2.2.2.1 x.2.2.2.2.2.2.2.2.2.2.2.2.1 x.2.2.2.2.2.2.2.2.2.2.2.2.2.1 x.2.2.2.2.2.2.2.2.2.2.2.2.2.2 = qE SS.enc (fun σ => qF cf (fun f a b K => COt f a b K [qtH k, qqi k, qtO k, qoh k, qof k, qtP k, qtN k]) (fun b _ σ K => LOt Ty (kps 10) 0 b σ K []) Try.f10.ntmps 0 (lb Try.f10 0) σ (qJ Ty (kps 10 0) 0 qiV qnC fun x => qv k n x.1 x.2.1 x.2.2.1 x.2.2.2.1 x.2.2.2.2.1 x.2.2.2.2.2.1 x.2.2.2.2.2.2.1 x.2.2.2.2.2.2.2.1 x.2.2.2.2.2.2.2.2.1 x.2.2.2.2.2.2.2.2.2.1 x.2.2.2.2.2.2.2.2.2.2.1 x.2.2.2.2.2.2.2.2.2.2.2.1 x.2.2.2.2.2.2.2.2.2.2.2.2.1 x.2.2.2.2.2.2.2.2.2.2.2.2.2.1 x.2.2.2.2.2.2.2.2.2.2.2.2.2.2)) qiV x := by kernel_rfl
theorem qBS (k : Nat) : qac cf (call cf k) (kps 10) Try.f10.ntmps k 0 0 (lb Try.f10 0) (qnD k) :=
 qr (c := cf) (callF := call cf k) (kp := kps 10) (nt := Try.f10.ntmps) (k := k) (p := 0) (b := 0) (x0 := lb Try.f10 0) (hs := qiV) (os := qnC) (qd (qxG k)) (qBQ k) (fun n x => qv k n x.1 x.2.1 x.2.2.1 x.2.2.2.1 x.2.2.2.2.1 x.2.2.2.2.2.1 x.2.2.2.2.2.2.1 x.2.2.2.2.2.2.2.1 x.2.2.2.2.2.2.2.2.1 x.2.2.2.2.2.2.2.2.2.1 x.2.2.2.2.2.2.2.2.2.2.1 x.2.2.2.2.2.2.2.2.2.2.2.1 x.2.2.2.2.2.2.2.2.2.2.2.2.1 x.2.2.2.2.2.2.2.2.2.2.2.2.2.1 x.2.2.2.2.2.2.2.2.2.2.2.2.2.2) (fun _ => rfl) (qBR k)
theorem qGZ (k : Nat) : qf (LOk (R := DS FS.D qqu) (fun b _ σ K => LOt Ty (kps 10) 0 b σ K [qnD k]) cf (call cf k) (cf.keep 10) Try.f10.ntmps k qkH.bs.length) 0 (bd Try.f10) :=
 qA qT (qA (qA qT (qA (qA qT qT) qT)) (qA (qA qT (qA (qA qT qT) qT)) (qA (qA qT (qz (c := cf) (callF := call cf k) (kp := kps 10) (nt := Try.f10.ntmps) (k := k) (p := 0) (b := 0) (x0 := lb Try.f10 0) (l := [qnD k]) (qA (fun _ => qBS k) qT))) (qA qT (qA qT (qA qT (qA qT (qA (qA qT (qA (qA qT qT) qT)) (qA qT (qA qT (qA qT qT)))))))))))
theorem qG0 (k : Nat) (x : qkH.D) : qa0 (k + 1) x.1 x.2.1 x.2.2.1 x.2.2.2.1 x.2.2.2.2.1 x.2.2.2.2.2.1 x.2.2.2.2.2.2.1 x.2.2.2.2.2.2.2.1 x.2.2.2.2.2.2.2.2.1 x.2.2.2.2.2.2.2.2.2.1 x.2.2.2.2.2.2.2.2.2.2.1 x.2.2.2.2.2.2.2.2.2.2.2 = qi cf (fun f a b K => COt f a b K [qtH k, qqi k, qtO k, qoh k, qof k, qtP k, qtN k]) (fun b _ σ K => LOt Ty (kps 10) 0 b σ K [qnD k]) 10 Try.f10.ntmps Try.f10.results.toList (bd Try.f10) (qkH.enc x).1 (qkH.enc x).2 (qj FS.dec qqu) := by kernel_rfl
theorem qG1 : ∀ k, qh (call cf k) (qHB k)
 | 0 => fun x y e => absurd (show (none : Option _) = some y from e) (by simp)
 | k + 1 => qe (c := cf) (k := k) (f := 10) (fn := Try.f10) (body := bd Try.f10) (sh := qkH) (os := qqu) rfl Try.func10 rfl ⟨rfl, Nat.le_of_ble_eq_true rfl⟩ (qd (qxG k)) (qGZ k) (fun x => qa0 (k + 1) x.1 x.2.1 x.2.2.1 x.2.2.2.1 x.2.2.2.2.1 x.2.2.2.2.2.1 x.2.2.2.2.2.2.1 x.2.2.2.2.2.2.2.1 x.2.2.2.2.2.2.2.2.1 x.2.2.2.2.2.2.2.2.2.1 x.2.2.2.2.2.2.2.2.2.2.1 x.2.2.2.2.2.2.2.2.2.2.2) (qG0 k)


end
end Go.Proofs.Ytbhnafdmilfobaa.Am
