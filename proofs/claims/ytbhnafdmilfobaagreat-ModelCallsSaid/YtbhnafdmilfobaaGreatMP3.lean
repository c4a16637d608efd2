/- Printed functions: each says what the typed machine says of the program -/
import Derived.Test.YtbhnafdmilfobaaGreatMP2
import Derived.KernelRfl

set_option linter.unusedVariables false
set_option maxRecDepth 100000
namespace Go.Proofs.YtbhnafdmilfobaaGreat.Am
open Go
noncomputable section

def qbg (k : Nat) (rec : Int → Bool → Nat → Bool → Nat → List Int → List Int → Option (Bool × Nat × Bool × Nat × List Int × List Int)) (u : Int) (x0 : Bool) (x1 : Nat) (a0 : Bool) (a1 : Nat) (m : List Int) (m1 : List Int) : Option (Bool × Nat × Bool × Nat × List Int × List Int) :=
 if ((decide (u > (0 : Int))) = true) then
 if (a1 ≤ (List.length m1)) then
 if (((a1 + (List.length (List.take 1 ((IntKind.wrap .i64 (Int.tmod u (65536 : Int))) :: [])))) * 8) ≤ 140737488355328) then
 rec (IntKind.wrap .u64 (Int.tdiv u (65536 : Int))) x0 x1 a0 (a1 + (List.length (List.take 1 ((IntKind.wrap .i64 (Int.tmod u (65536 : Int))) :: [])))) m ((List.take a1 m1) ++ (List.take 1 ((IntKind.wrap .i64 (Int.tmod u (65536 : Int))) :: [])))
 else
 none
 else
 none
 else
 (some (x0, x1, a0, a1, m, m1))
def qac (k n : Nat) : Int → Bool → Nat → Bool → Nat → List Int → List Int → Option (Bool × Nat × Bool × Nat × List Int × List Int) := Nat.rec (fun _ _ _ _ _ _ _ => none) (fun _ r => qbg k r) n
def qdx (k : Nat) (v : Int) : Option (Bool × List Int) :=
 if ((decide (v < (0 : Int))) = true) then
 Option.bind (qac k k (IntKind.wrap .u64 ((0 : Int) - (IntKind.wrap .u64 v))) false 0 true 0 [] []) fun r6 =>
 if ((0 + r6.2.2.2.1) ≤ (List.length r6.2.2.2.2.2)) then
 (some (r6.2.2.1, (List.take r6.2.2.2.1 r6.2.2.2.2.2)))
 else
 none
 else
 Option.bind (qac k k (IntKind.wrap .u64 v) false 0 false 0 [] []) fun r6 =>
 if ((0 + r6.2.2.2.1) ≤ (List.length r6.2.2.2.2.2)) then
 (some (r6.2.2.1, (List.take r6.2.2.2.1 r6.2.2.2.2.2)))
 else
 none
def qbB : Nat → Int → Option (Bool × List Int)
 | 0, _ => none
 | k + 1, v => qdx k v
def qkR : FS := { vs := [.a (.lf (.int .i64))], bs := [] }
def qrc : List FS := [{ vs := [.g [.lf .bool, .lf (.sl (.int .i64))]], bs := [] }]
def qsv (k : Nat) : Inst := ⟨94, qkR, qrc, fun x => qbB k x⟩
theorem qyJ (k : Nat) : qk (call cf k) [] := True.intro
def qjh : List SS := [{ fr := [(2, .a (.ptr 0 0 0)), (3, .a (.ptr 1 0 0)), (4, .a (.lf (.int .u64)))], mem := [(0, some (.raw [[.lf .bool, .smz 2]] 2 81 false false)), (1, some (.raw [[.lf .bool, .smz 3]] 2 81 false false)), (2, some (.arr (.int .i64) 1 3 false)), (3, some (.arr (.int .i64) 1 3 false))], nx := 4 }]
def qnY : List OS := [⟨some 0, { fr := [(2, .a (.ptr 0 0 0)), (3, .a (.ptr 1 0 0))], mem := [(0, some (.raw [[.lf .bool, .smz 2]] 2 81 false false)), (1, some (.raw [[.lf .bool, .smz 3]] 2 81 false false)), (2, some (.arr (.int .i64) 1 3 false)), (3, some (.arr (.int .i64) 1 3 false))], nx := 4 }⟩]
def qnZ (k : Nat) : LInst := ⟨0, qjh, qnY, fun x => qac k k x.1 x.2.1 x.2.2.1 x.2.2.2.1 x.2.2.2.2.1 x.2.2.2.2.2.1 x.2.2.2.2.2.2⟩
theorem qCx (k : Nat) : qg (LOk (R := DS OS.D qnY) (fun b _ σ K => LOt Ty (kps 94) 0 b σ K []) cf (call cf k) (kps 94) Tryz.f94.ntmps k 0) 0 (lb Tryz.f94 0) :=
 qA (qA qT (qA qT qT)) (qA qT qT)
theorem qCy (k n : Nat) (x : DS SS.D qjh) : qac k (n + 1) x.1 x.2.1 x.2.2.1 x.2.2.2.1 x.2.2.2.2.1 x.2.2.2.2.2.1 x.2.2.2.2.2.2 = qD SS.enc (fun σ => qF cf (fun f a b K => COt f a b K []) (fun b _ σ K => LOt Ty (kps 94) 0 b σ K []) Tryz.f94.ntmps 0 (lb Tryz.f94 0) σ (qH Ty (kps 94 0) 0 qjh qnY fun x => qac k n x.1 x.2.1 x.2.2.1 x.2.2.2.1 x.2.2.2.2.1 x.2.2.2.2.2.1 x.2.2.2.2.2.2)) qjh x := by kernel_rfl
theorem qCz (k : Nat) : qY cf (call cf k) (kps 94) Tryz.f94.ntmps k 0 0 (lb Tryz.f94 0) (qnZ k) :=
 qr (c := cf) (callF := call cf k) (kp := kps 94) (nt := Tryz.f94.ntmps) (k := k) (p := 0) (b := 0) (x0 := lb Tryz.f94 0) (hs := qjh) (os := qnY) (qd (qyJ k)) (qCx k) (fun n x => qac k n x.1 x.2.1 x.2.2.1 x.2.2.2.1 x.2.2.2.2.1 x.2.2.2.2.2.1 x.2.2.2.2.2.2) (fun _ => rfl) (qCy k)
theorem qHF (k : Nat) : qg (LOk (R := DS FS.D qrc) (fun b _ σ K => LOt Ty (kps 94) 0 b σ K [qnZ k]) cf (call cf k) (cf.keep 94) Tryz.f94.ntmps k qkR.bs.length) 0 (bd Tryz.f94) :=
 qA qT (qA qT (qA qT (qA (qA qT (qA (qA qT qT) qT)) (qA (qw (c := cf) (callF := call cf k) (kp := kps 94) (nt := Tryz.f94.ntmps) (k := k) (p := 0) (b := 0) (x0 := lb Tryz.f94 0) (l := [qnZ k]) (qA (fun _ => qCz k) qT)) (qA qT qT)))))
theorem qHG (k : Nat) (x : qkR.D) : qbB (k + 1) x = qi cf (fun f a b K => COt f a b K []) (fun b _ σ K => LOt Ty (kps 94) 0 b σ K [qnZ k]) 94 Tryz.f94.ntmps Tryz.f94.results.toList (bd Tryz.f94) (qkR.enc x).1 (qkR.enc x).2 (qj FS.dec qrc) := by kernel_rfl
theorem qyK : ∀ k, qf (call cf k) (qsv k)
 | 0 => fun x y e => absurd (show (none : Option _) = some y from e) (by simp)
 | k + 1 => qe (c := cf) (k := k) (f := 94) (fn := Tryz.f94) (body := bd Tryz.f94) (sh := qkR) (os := qrc) rfl Tryz.func94 rfl ⟨rfl, Nat.le_of_ble_eq_true rfl⟩ (qd (qyJ k)) (qHF k) (fun x => qbB (k + 1) x) (qHG k)

def qa1 (k : Nat) (rec : Int → Bool → Nat → Bool → Nat → List Int → List Int → Option (Bool × Nat × Bool × Nat × List Int × List Int)) (v : Int) (x0 : Bool) (x1 : Nat) (a0 : Bool) (a1 : Nat) (m : List Int) (m1 : List Int) : Option (Bool × Nat × Bool × Nat × List Int × List Int) :=
 if ((decide (v > (0 : Int))) = true) then
 if (a1 ≤ (List.length m1)) then
 if (((a1 + (List.length (List.take 1 ((Int.tmod v (65536 : Int)) :: [])))) * 8) ≤ 140737488355328) then
 rec (IntKind.wrap .i64 (Int.tdiv v (65536 : Int))) x0 x1 a0 (a1 + (List.length (List.take 1 ((Int.tmod v (65536 : Int)) :: [])))) m ((List.take a1 m1) ++ (List.take 1 ((Int.tmod v (65536 : Int)) :: [])))
 else
 none
 else
 none
 else
 (some (x0, x1, a0, a1, m, m1))
def qW (k n : Nat) : Int → Bool → Nat → Bool → Nat → List Int → List Int → Option (Bool × Nat × Bool × Nat × List Int × List Int) := Nat.rec (fun _ _ _ _ _ _ _ => none) (fun _ r => qa1 k r) n
def qdk (k : Nat) (v : Int) : Option (Bool × List Int) :=
 if ((decide (v < (0 : Int))) = true) then
 Option.bind (qW k k (IntKind.wrap .i64 ((0 : Int) - v)) false 0 true 0 [] []) fun r7 =>
 if ((0 + r7.2.2.2.1) ≤ (List.length r7.2.2.2.2.2)) then
 (some (r7.2.2.1, (List.take r7.2.2.2.1 r7.2.2.2.2.2)))
 else
 none
 else
 Option.bind (qW k k v false 0 false 0 [] []) fun r7 =>
 if ((0 + r7.2.2.2.1) ≤ (List.length r7.2.2.2.2.2)) then
 (some (r7.2.2.1, (List.take r7.2.2.2.1 r7.2.2.2.2.2)))
 else
 none
def qL : Nat → Int → Option (Bool × List Int)
 | 0, _ => none
 | k + 1, v => qdk k v
def qkS : FS := { vs := [.a (.lf (.int .i64))], bs := [] }
def qrd : List FS := [{ vs := [.g [.lf .bool, .lf (.sl (.int .i64))]], bs := [] }]
def qeJ (k : Nat) : Inst := ⟨92, qkS, qrd, fun x => qL k x⟩
theorem qyL (k : Nat) : qk (call cf k) [] := True.intro
def qji : List SS := [{ fr := [(0, .a (.lf (.int .i64))), (2, .a (.ptr 0 0 0)), (3, .a (.ptr 1 0 0))], mem := [(0, some (.raw [[.lf .bool, .smz 2]] 2 81 false false)), (1, some (.raw [[.lf .bool, .smz 3]] 2 81 false false)), (2, some (.arr (.int .i64) 1 3 false)), (3, some (.arr (.int .i64) 1 3 false))], nx := 4 }]
def qn0 : List OS := [⟨some 0, { fr := [(2, .a (.ptr 0 0 0)), (3, .a (.ptr 1 0 0))], mem := [(0, some (.raw [[.lf .bool, .smz 2]] 2 81 false false)), (1, some (.raw [[.lf .bool, .smz 3]] 2 81 false false)), (2, some (.arr (.int .i64) 1 3 false)), (3, some (.arr (.int .i64) 1 3 false))], nx := 4 }⟩]
def qn1 (k : Nat) : LInst := ⟨0, qji, qn0, fun x => qW k k x.1 x.2.1 x.2.2.1 x.2.2.2.1 x.2.2.2.2.1 x.2.2.2.2.2.1 x.2.2.2.2.2.2⟩
theorem qCA (k : Nat) : qg (LOk (R := DS OS.D qn0) (fun b _ σ K => LOt Ty (kps 92) 0 b σ K []) cf (call cf k) (kps 92) Tryz.f92.ntmps k 0) 0 (lb Tryz.f92 0) :=
 qA (qA qT (qA qT qT)) (qA qT qT)
theorem qCB (k n : Nat) (x : DS SS.D qji) : qW k (n + 1) x.1 x.2.1 x.2.2.1 x.2.2.2.1 x.2.2.2.2.1 x.2.2.2.2.2.1 x.2.2.2.2.2.2 = qD SS.enc (fun σ => qF cf (fun f a b K => COt f a b K []) (fun b _ σ K => LOt Ty (kps 92) 0 b σ K []) Tryz.f92.ntmps 0 (lb Tryz.f92 0) σ (qH Ty (kps 92 0) 0 qji qn0 fun x => qW k n x.1 x.2.1 x.2.2.1 x.2.2.2.1 x.2.2.2.2.1 x.2.2.2.2.2.1 x.2.2.2.2.2.2)) qji x := by kernel_rfl
theorem qCC (k : Nat) : qY cf (call cf k) (kps 92) Tryz.f92.ntmps k 0 0 (lb Tryz.f92 0) (qn1 k) :=
 qr (c := cf) (callF := call cf k) (kp := kps 92) (nt := Tryz.f92.ntmps) (k := k) (p := 0) (b := 0) (x0 := lb Tryz.f92 0) (hs := qji) (os := qn0) (qd (qyL k)) (qCA k) (fun n x => qW k n x.1 x.2.1 x.2.2.1 x.2.2.2.1 x.2.2.2.2.1 x.2.2.2.2.2.1 x.2.2.2.2.2.2) (fun _ => rfl) (qCB k)
theorem qHH (k : Nat) : qg (LOk (R := DS FS.D qrd) (fun b _ σ K => LOt Ty (kps 92) 0 b σ K [qn1 k]) cf (call cf k) (cf.keep 92) Tryz.f92.ntmps k qkS.bs.length) 0 (bd Tryz.f92) :=
 qA qT (qA qT (qA (qA qT (qA (qA qT qT) qT)) (qA (qw (c := cf) (callF := call cf k) (kp := kps 92) (nt := Tryz.f92.ntmps) (k := k) (p := 0) (b := 0) (x0 := lb Tryz.f92 0) (l := [qn1 k]) (qA (fun _ => qCC k) qT)) (qA qT qT))))
theorem qHI (k : Nat) (x : qkS.D) : qL (k + 1) x = qi cf (fun f a b K => COt f a b K []) (fun b _ σ K => LOt Ty (kps 92) 0 b σ K [qn1 k]) 92 Tryz.f92.ntmps Tryz.f92.results.toList (bd Tryz.f92) (qkS.enc x).1 (qkS.enc x).2 (qj FS.dec qrd) := by kernel_rfl
theorem qkT : ∀ k, qf (call cf k) (qeJ k)
 | 0 => fun x y e => absurd (show (none : Option _) = some y from e) (by simp)
 | k + 1 => qe (c := cf) (k := k) (f := 92) (fn := Tryz.f92) (body := bd Tryz.f92) (sh := qkS) (os := qrd) rfl Tryz.func92 rfl ⟨rfl, Nat.le_of_ble_eq_true rfl⟩ (qd (qyL k)) (qHH k) (fun x => qL (k + 1) x) (qHI k)

def qbN (k : Nat) (rec : Nat → Int → List Int → Option (Nat × Int × List Int)) (d : Nat) (n : Int) (ds : List Int) : Option (Nat × Int × List Int) :=
 if ((decide (n > (0 : Int))) = true) then
 if (((0 : Int) ≤ (IntKind.wrap .i64 (n - (1 : Int)))) ∧ ((IntKind.wrap .i64 (n - (1 : Int))) < ((d : Nat) : Int))) then
 Option.bind (ds)[(0 + (Int.toNat (IntKind.wrap .i64 (n - (1 : Int)))))]? fun x2 =>
 if ((x2 == (0 : Int)) = true) then
 rec d (IntKind.wrap .i64 (n - (1 : Int))) ds
 else
 (some (d, n, ds))
 else
 none
 else
 (some (d, n, ds))
def qaq (k n : Nat) : Nat → Int → List Int → Option (Nat × Int × List Int) := Nat.rec (fun _ _ _ => none) (fun _ r => qbN k r) n
def qa2 (k : Nat) (d : Nat) (ds : List Int) : Option (Nat × List Int) :=
 Option.bind (qaq k k d ((d : Nat) : Int) ds) fun r10 =>
 if (((0 : Int) ≤ (0 : Int)) ∧ (((0 : Int) ≤ r10.2.1) ∧ (((0 + (Int.toNat r10.2.1)) ≤ (List.length r10.2.2)) ∧ (((0 : Int) < r10.2.1) ∨ (true = true))))) then
 (some ((Int.toNat r10.2.1), r10.2.2))
 else
 none
def qB : Nat → Nat → List Int → Option (Nat × List Int)
 | 0, _, _ => none
 | k + 1, d, ds => qa2 k d ds
def qkU : FS := { vs := [.a (.smz 0)], bs := [.arr (.int .i64) 1 3 false] }
def qre : List FS := [{ vs := [.a (.smz 0)], bs := [.arr (.int .i64) 1 3 false] }]
def qew (k : Nat) : Inst := ⟨122, qkU, qre, fun x => qB k x.1 x.2⟩
theorem qyM (k : Nat) : qk (call cf k) [] := True.intro
def qjj : List SS := [{ fr := [(0, .a (.smz 0)), (3, .a (.lf (.int .i64)))], mem := [(0, some (.arr (.int .i64) 1 3 false))], nx := 1 }]
def qn2 : List OS := [⟨some 0, { fr := [(0, .a (.smz 0)), (3, .a (.lf (.int .i64)))], mem := [(0, some (.arr (.int .i64) 1 3 false))], nx := 1 }⟩]
def qn3 (k : Nat) : LInst := ⟨0, qjj, qn2, fun x => qaq k k x.1 x.2.1 x.2.2⟩
theorem qCD (k : Nat) : qg (LOk (R := DS OS.D qn2) (fun b _ σ K => LOt Ty (kps 122) 1 b σ K []) cf (call cf k) (kps 122) Tryz.f122.ntmps k 1) 0 (lb Tryz.f122 0) :=
 qA (qA qT (qA qT qT)) qT
theorem qCE (k n : Nat) (x : DS SS.D qjj) : qaq k (n + 1) x.1 x.2.1 x.2.2 = qD SS.enc (fun σ => qF cf (fun f a b K => COt f a b K []) (fun b _ σ K => LOt Ty (kps 122) 1 b σ K []) Tryz.f122.ntmps 0 (lb Tryz.f122 0) σ (qH Ty (kps 122 0) 1 qjj qn2 fun x => qaq k n x.1 x.2.1 x.2.2)) qjj x := by kernel_rfl
theorem qCF (k : Nat) : qY cf (call cf k) (kps 122) Tryz.f122.ntmps k 1 0 (lb Tryz.f122 0) (qn3 k) :=
 qr (c := cf) (callF := call cf k) (kp := kps 122) (nt := Tryz.f122.ntmps) (k := k) (p := 1) (b := 0) (x0 := lb Tryz.f122 0) (hs := qjj) (os := qn2) (qd (qyM k)) (qCD k) (fun n x => qaq k n x.1 x.2.1 x.2.2) (fun _ => rfl) (qCE k)
theorem qHJ (k : Nat) : qg (LOk (R := DS FS.D qre) (fun b _ σ K => LOt Ty (kps 122) 1 b σ K [qn3 k]) cf (call cf k) (cf.keep 122) Tryz.f122.ntmps k qkU.bs.length) 0 (bd Tryz.f122) :=
 qA qT (qA qT (qA (qw (c := cf) (callF := call cf k) (kp := kps 122) (nt := Tryz.f122.ntmps) (k := k) (p := 1) (b := 0) (x0 := lb Tryz.f122 0) (l := [qn3 k]) (qA (fun _ => qCF k) qT)) (qA qT qT)))
theorem qHK (k : Nat) (x : qkU.D) : qB (k + 1) x.1 x.2 = qi cf (fun f a b K => COt f a b K []) (fun b _ σ K => LOt Ty (kps 122) 1 b σ K [qn3 k]) 122 Tryz.f122.ntmps Tryz.f122.results.toList (bd Tryz.f122) (qkU.enc x).1 (qkU.enc x).2 (qj FS.dec qre) := by kernel_rfl
theorem qn4 : ∀ k, qf (call cf k) (qew k)
 | 0 => fun x y e => absurd (show (none : Option _) = some y from e) (by simp)
 | k + 1 => qe (c := cf) (k := k) (f := 122) (fn := Tryz.f122) (body := bd Tryz.f122) (sh := qkU) (os := qre) rfl Tryz.func122 rfl ⟨rfl, Nat.le_of_ble_eq_true rfl⟩ (qd (qyM k)) (qHJ k) (fun x => qB (k + 1) x.1 x.2) (qHK k)

def qcw (k : Nat) (rec : Nat → Int → Int → Int → Bool → List Int → Bool → List Int → Bool → Nat → List Int → List Int → Option (Nat × Int × Int × Bool × List Int × Bool × List Int × Bool × Nat × List Int × List Int)) (d : Nat) (i : Int) (carry : Int) (j : Int) (a0 : Bool) (a1 : List Int) (b0 : Bool) (b1 : List Int) (x0 : Bool) (x1 : Nat) (ds : List Int) (m : List Int) : Option (Nat × Int × Int × Bool × List Int × Bool × List Int × Bool × Nat × List Int × List Int) :=
 if ((decide (j < (((List.length b1) : Nat) : Int))) = true) then
 if (((0 : Int) ≤ (IntKind.wrap .i64 (i + j))) ∧ ((IntKind.wrap .i64 (i + j)) < ((d : Nat) : Int))) then
 Option.bind (ds)[(0 + (Int.toNat (IntKind.wrap .i64 (i + j))))]? fun x2 =>
 if ((0 : Int) ≤ i) then
 Option.bind (a1)[(Int.toNat i)]? fun x3 =>
 if ((0 : Int) ≤ j) then
 Option.bind (b1)[(Int.toNat j)]? fun x4 =>
 if (((0 : Int) ≤ (IntKind.wrap .i64 (i + j))) ∧ ((IntKind.wrap .i64 (i + j)) < ((d : Nat) : Int))) then
 Option.bind (ds)[(0 + (Int.toNat (IntKind.wrap .i64 (i + j))))]? fun x5 =>
 rec d i (IntKind.wrap .i64 (Int.tdiv (IntKind.wrap .i64 ((IntKind.wrap .i64 (x2 + (IntKind.wrap .i64 (x3 * x4)))) + carry)) (65536 : Int))) (IntKind.wrap .i64 (j + (1 : Int))) a0 a1 b0 b1 x0 x1 (List.set ds (0 + (Int.toNat (IntKind.wrap .i64 (i + j)))) (Int.tmod (IntKind.wrap .i64 ((IntKind.wrap .i64 (x2 + (IntKind.wrap .i64 (x3 * x4)))) + carry)) (65536 : Int))) m
 else
 none
 else
 none
 else
 none
 else
 none
 else
 (some (d, i, carry, a0, a1, b0, b1, x0, x1, ds, m))
def qaC (k n : Nat) : Nat → Int → Int → Int → Bool → List Int → Bool → List Int → Bool → Nat → List Int → List Int → Option (Nat × Int × Int × Bool × List Int × Bool × List Int × Bool × Nat × List Int × List Int) := Nat.rec (fun _ _ _ _ _ _ _ _ _ _ _ _ => none) (fun _ r => qcw k r) n
def qcx (k : Nat) (rec : Nat → Int → Bool → List Int → Bool → List Int → Bool → Nat → List Int → List Int → Option (Nat × Bool × List Int × Bool × List Int × Bool × Nat × List Int × List Int)) (d : Nat) (i : Int) (a0 : Bool) (a1 : List Int) (b0 : Bool) (b1 : List Int) (x0 : Bool) (x1 : Nat) (ds : List Int) (m : List Int) : Option (Nat × Bool × List Int × Bool × List Int × Bool × Nat × List Int × List Int) :=
 if ((decide (i < (((List.length a1) : Nat) : Int))) = true) then
 Option.bind (qaC k k d i (0 : Int) (0 : Int) a0 a1 b0 b1 x0 x1 ds m) fun r9 =>
 if (((0 : Int) ≤ (IntKind.wrap .i64 (r9.2.1 + (((List.length r9.2.2.2.2.2.2.1) : Nat) : Int)))) ∧ ((IntKind.wrap .i64 (r9.2.1 + (((List.length r9.2.2.2.2.2.2.1) : Nat) : Int))) < ((r9.1 : Nat) : Int))) then
 Option.bind (r9.2.2.2.2.2.2.2.2.2.1)[(0 + (Int.toNat (IntKind.wrap .i64 (r9.2.1 + (((List.length r9.2.2.2.2.2.2.1) : Nat) : Int)))))]? fun x2 =>
 if (((0 : Int) ≤ (IntKind.wrap .i64 (r9.2.1 + (((List.length r9.2.2.2.2.2.2.1) : Nat) : Int)))) ∧ ((IntKind.wrap .i64 (r9.2.1 + (((List.length r9.2.2.2.2.2.2.1) : Nat) : Int))) < ((r9.1 : Nat) : Int))) then
 Option.bind (r9.2.2.2.2.2.2.2.2.2.1)[(0 + (Int.toNat (IntKind.wrap .i64 (r9.2.1 + (((List.length r9.2.2.2.2.2.2.1) : Nat) : Int)))))]? fun x3 =>
 rec r9.1 (IntKind.wrap .i64 (r9.2.1 + (1 : Int))) r9.2.2.2.1 r9.2.2.2.2.1 r9.2.2.2.2.2.1 r9.2.2.2.2.2.2.1 r9.2.2.2.2.2.2.2.1 r9.2.2.2.2.2.2.2.2.1 (List.set r9.2.2.2.2.2.2.2.2.2.1 (0 + (Int.toNat (IntKind.wrap .i64 (r9.2.1 + (((List.length r9.2.2.2.2.2.2.1) : Nat) : Int))))) (IntKind.wrap .i64 (x2 + r9.2.2.1))) r9.2.2.2.2.2.2.2.2.2.2
 else
 none
 else
 none
 else
 (some (d, a0, a1, b0, b1, x0, x1, ds, m))
def qaD (k n : Nat) : Nat → Int → Bool → List Int → Bool → List Int → Bool → Nat → List Int → List Int → Option (Nat × Bool × List Int × Bool × List Int × Bool × Nat × List Int × List Int) := Nat.rec (fun _ _ _ _ _ _ _ _ _ _ => none) (fun _ r => qcx k r) n
def qeK (k : Nat) (a0 : Bool) (a1 : List Int) (b0 : Bool) (b1 : List Int) : Option (Bool × List Int) :=
 if (((0 : Int) ≤ (IntKind.wrap .i64 ((((List.length a1) : Nat) : Int) + (((List.length b1) : Nat) : Int)))) ∧ (((IntKind.wrap .i64 ((((List.length a1) : Nat) : Int) + (((List.length b1) : Nat) : Int))) ≤ (IntKind.wrap .i64 ((((List.length a1) : Nat) : Int) + (((List.length b1) : Nat) : Int)))) ∧ (((IntKind.wrap .i64 ((((List.length a1) : Nat) : Int) + (((List.length b1) : Nat) : Int))) * (8 : Int)) ≤ (140737488355328 : Int)))) then
 Option.bind (qaD k k (Int.toNat (IntKind.wrap .i64 ((((List.length a1) : Nat) : Int) + (((List.length b1) : Nat) : Int)))) (0 : Int) a0 a1 b0 b1 false 0 (List.replicate (Int.toNat (IntKind.wrap .i64 ((((List.length a1) : Nat) : Int) + (((List.length b1) : Nat) : Int)))) (0 : Int)) []) fun r9 =>
 Option.bind (qB k r9.1 r9.2.2.2.2.2.2.2.1) fun r10 =>
 if ((!(r9.2.1 == r9.2.2.2.1)) = true) then
 if ((0 + r10.1) ≤ (List.length r10.2)) then
 (some ((decide (((r10.1 : Nat) : Int) > (0 : Int))), (List.take r10.1 r10.2)))
 else
 none
 else
 if ((0 + r10.1) ≤ (List.length r10.2)) then
 (some (false, (List.take r10.1 r10.2)))
 else
 none
 else
 none
def qz : Nat → Bool → List Int → Bool → List Int → Option (Bool × List Int)
 | 0, _, _, _, _ => none
 | k + 1, a0, a1, b0, b1 => qeK k a0 a1 b0 b1
def qkV : FS := { vs := [.g [.lf .bool, .lf (.sl (.int .i64))], .g [.lf .bool, .lf (.sl (.int .i64))]], bs := [] }
def qrf : List FS := [{ vs := [.g [.lf .bool, .lf (.sl (.int .i64))]], bs := [] }]
def qec (k : Nat) : Inst := ⟨93, qkV, qrf, fun x => qz k x.1 x.2.1 x.2.2.1 x.2.2.2⟩
theorem quQ (k : Nat) : qk (call cf k) [qew k] := qA (qn4 k) qT
def qjk : List SS := [{ fr := [(2, .a (.ptr 0 0 0)), (3, .a (.ptr 1 0 0)), (4, .a (.ptr 2 0 0)), (5, .a (.smz 3)), (6, .a (.lf (.int .i64))), (7, .a (.lf (.int .i64))), (8, .a (.lf (.int .i64)))], mem := [(0, some (.raw [[.lf .bool, .lf (.sl (.int .i64))]] 2 81 true false)), (1, some (.raw [[.lf .bool, .lf (.sl (.int .i64))]] 2 81 true false)), (2, some (.raw [[.lf .bool, .smz 4]] 2 81 false false)), (3, some (.arr (.int .i64) 1 3 false)), (4, some (.arr (.int .i64) 1 3 false))], nx := 5 }]
def qn5 : List OS := [⟨some 2, { fr := [(2, .a (.ptr 0 0 0)), (3, .a (.ptr 1 0 0)), (4, .a (.ptr 2 0 0)), (5, .a (.smz 3)), (6, .a (.lf (.int .i64))), (7, .a (.lf (.int .i64)))], mem := [(0, some (.raw [[.lf .bool, .lf (.sl (.int .i64))]] 2 81 true false)), (1, some (.raw [[.lf .bool, .lf (.sl (.int .i64))]] 2 81 true false)), (2, some (.raw [[.lf .bool, .smz 4]] 2 81 false false)), (3, some (.arr (.int .i64) 1 3 false)), (4, some (.arr (.int .i64) 1 3 false))], nx := 5 }⟩]
def qgC (k : Nat) : LInst := ⟨2, qjk, qn5, fun x => qaC k k x.1 x.2.1 x.2.2.1 x.2.2.2.1 x.2.2.2.2.1 x.2.2.2.2.2.1 x.2.2.2.2.2.2.1 x.2.2.2.2.2.2.2.1 x.2.2.2.2.2.2.2.2.1 x.2.2.2.2.2.2.2.2.2.1 x.2.2.2.2.2.2.2.2.2.2.1 x.2.2.2.2.2.2.2.2.2.2.2⟩
theorem qCG (k : Nat) : qg (LOk (R := DS OS.D qn5) (fun b _ σ K => LOt Ty (kps 93) 0 b σ K []) cf (call cf k) (kps 93) Tryz.f93.ntmps k 0) 2 (lb Tryz.f93 1) :=
 qA (qA qT (qA qT qT)) (qA (qA qT (qA qT qT)) qT)
theorem qCH (k n : Nat) (x : DS SS.D qjk) : qaC k (n + 1) x.1 x.2.1 x.2.2.1 x.2.2.2.1 x.2.2.2.2.1 x.2.2.2.2.2.1 x.2.2.2.2.2.2.1 x.2.2.2.2.2.2.2.1 x.2.2.2.2.2.2.2.2.1 x.2.2.2.2.2.2.2.2.2.1 x.2.2.2.2.2.2.2.2.2.2.1 x.2.2.2.2.2.2.2.2.2.2.2 = qD SS.enc (fun σ => qF cf (fun f a b K => COt f a b K [qew k]) (fun b _ σ K => LOt Ty (kps 93) 0 b σ K []) Tryz.f93.ntmps 2 (lb Tryz.f93 1) σ (qH Ty (kps 93 2) 0 qjk qn5 fun x => qaC k n x.1 x.2.1 x.2.2.1 x.2.2.2.1 x.2.2.2.2.1 x.2.2.2.2.2.1 x.2.2.2.2.2.2.1 x.2.2.2.2.2.2.2.1 x.2.2.2.2.2.2.2.2.1 x.2.2.2.2.2.2.2.2.2.1 x.2.2.2.2.2.2.2.2.2.2.1 x.2.2.2.2.2.2.2.2.2.2.2)) qjk x := by kernel_rfl
theorem qCI (k : Nat) : qY cf (call cf k) (kps 93) Tryz.f93.ntmps k 0 2 (lb Tryz.f93 1) (qgC k) :=
 qr (c := cf) (callF := call cf k) (kp := kps 93) (nt := Tryz.f93.ntmps) (k := k) (p := 0) (b := 2) (x0 := lb Tryz.f93 1) (hs := qjk) (os := qn5) (qd (quQ k)) (qCG k) (fun n x => qaC k n x.1 x.2.1 x.2.2.1 x.2.2.2.1 x.2.2.2.2.1 x.2.2.2.2.2.1 x.2.2.2.2.2.2.1 x.2.2.2.2.2.2.2.1 x.2.2.2.2.2.2.2.2.1 x.2.2.2.2.2.2.2.2.2.1 x.2.2.2.2.2.2.2.2.2.2.1 x.2.2.2.2.2.2.2.2.2.2.2) (fun _ => rfl) (qCH k)
def qjl : List SS := [{ fr := [(2, .a (.ptr 0 0 0)), (3, .a (.ptr 1 0 0)), (4, .a (.ptr 2 0 0)), (5, .a (.smz 3)), (6, .a (.lf (.int .i64)))], mem := [(0, some (.raw [[.lf .bool, .lf (.sl (.int .i64))]] 2 81 true false)), (1, some (.raw [[.lf .bool, .lf (.sl (.int .i64))]] 2 81 true false)), (2, some (.raw [[.lf .bool, .smz 4]] 2 81 false false)), (3, some (.arr (.int .i64) 1 3 false)), (4, some (.arr (.int .i64) 1 3 false))], nx := 5 }]
def qn6 : List OS := [⟨some 0, { fr := [(2, .a (.ptr 0 0 0)), (3, .a (.ptr 1 0 0)), (4, .a (.ptr 2 0 0)), (5, .a (.smz 3))], mem := [(0, some (.raw [[.lf .bool, .lf (.sl (.int .i64))]] 2 81 true false)), (1, some (.raw [[.lf .bool, .lf (.sl (.int .i64))]] 2 81 true false)), (2, some (.raw [[.lf .bool, .smz 4]] 2 81 false false)), (3, some (.arr (.int .i64) 1 3 false)), (4, some (.arr (.int .i64) 1 3 false))], nx := 5 }⟩]
def qn7 (k : Nat) : LInst := ⟨0, qjl, qn6, fun x => qaD k k x.1 x.2.1 x.2.2.1 x.2.2.2.1 x.2.2.2.2.1 x.2.2.2.2.2.1 x.2.2.2.2.2.2.1 x.2.2.2.2.2.2.2.1 x.2.2.2.2.2.2.2.2.1 x.2.2.2.2.2.2.2.2.2⟩
theorem qCJ (k : Nat) : qg (LOk (R := DS OS.D qn6) (fun b _ σ K => LOt Ty (kps 93) 0 b σ K [qgC k]) cf (call cf k) (kps 93) Tryz.f93.ntmps k 0) 0 (lb Tryz.f93 0) :=
 qA (qA qT (qA qT qT)) (qA (qA qT (qA (qA qT (qw (c := cf) (callF := call cf k) (kp := kps 93) (nt := Tryz.f93.ntmps) (k := k) (p := 0) (b := 2) (x0 := lb Tryz.f93 1) (l := [qgC k]) (qA (fun _ => qCI k) qT))) qT)) qT)
theorem qCK (k n : Nat) (x : DS SS.D qjl) : qaD k (n + 1) x.1 x.2.1 x.2.2.1 x.2.2.2.1 x.2.2.2.2.1 x.2.2.2.2.2.1 x.2.2.2.2.2.2.1 x.2.2.2.2.2.2.2.1 x.2.2.2.2.2.2.2.2.1 x.2.2.2.2.2.2.2.2.2 = qD SS.enc (fun σ => qF cf (fun f a b K => COt f a b K [qew k]) (fun b _ σ K => LOt Ty (kps 93) 0 b σ K [qgC k]) Tryz.f93.ntmps 0 (lb Tryz.f93 0) σ (qH Ty (kps 93 0) 0 qjl qn6 fun x => qaD k n x.1 x.2.1 x.2.2.1 x.2.2.2.1 x.2.2.2.2.1 x.2.2.2.2.2.1 x.2.2.2.2.2.2.1 x.2.2.2.2.2.2.2.1 x.2.2.2.2.2.2.2.2.1 x.2.2.2.2.2.2.2.2.2)) qjl x := by kernel_rfl
theorem qCL (k : Nat) : qY cf (call cf k) (kps 93) Tryz.f93.ntmps k 0 0 (lb Tryz.f93 0) (qn7 k) :=
 qr (c := cf) (callF := call cf k) (kp := kps 93) (nt := Tryz.f93.ntmps) (k := k) (p := 0) (b := 0) (x0 := lb Tryz.f93 0) (hs := qjl) (os := qn6) (qd (quQ k)) (qCJ k) (fun n x => qaD k n x.1 x.2.1 x.2.2.1 x.2.2.2.1 x.2.2.2.2.1 x.2.2.2.2.2.1 x.2.2.2.2.2.2.1 x.2.2.2.2.2.2.2.1 x.2.2.2.2.2.2.2.2.1 x.2.2.2.2.2.2.2.2.2) (fun _ => rfl) (qCK k)
theorem qHL (k : Nat) : qg (LOk (R := DS FS.D qrf) (fun b _ σ K => LOt Ty (kps 93) 0 b σ K [qgC k, qn7 k]) cf (call cf k) (cf.keep 93) Tryz.f93.ntmps k qkV.bs.length) 0 (bd Tryz.f93) :=
 qA qT (qA qT (qA (qA qT (qw (c := cf) (callF := call cf k) (kp := kps 93) (nt := Tryz.f93.ntmps) (k := k) (p := 0) (b := 0) (x0 := lb Tryz.f93 0) (l := [qgC k, qn7 k]) (qA (fun h => absurd (show (2 : Nat) = 0 from h) (by decide)) (qA (fun _ => qCL k) qT)))) (qA qT (qA qT qT))))
theorem qHM (k : Nat) (x : qkV.D) : qz (k + 1) x.1 x.2.1 x.2.2.1 x.2.2.2 = qi cf (fun f a b K => COt f a b K [qew k]) (fun b _ σ K => LOt Ty (kps 93) 0 b σ K [qgC k, qn7 k]) 93 Tryz.f93.ntmps Tryz.f93.results.toList (bd Tryz.f93) (qkV.enc x).1 (qkV.enc x).2 (qj FS.dec qrf) := by kernel_rfl
theorem qic : ∀ k, qf (call cf k) (qec k)
 | 0 => fun x y e => absurd (show (none : Option _) = some y from e) (by simp)
 | k + 1 => qe (c := cf) (k := k) (f := 93) (fn := Tryz.f93) (body := bd Tryz.f93) (sh := qkV) (os := qrf) rfl Tryz.func93 rfl ⟨rfl, Nat.le_of_ble_eq_true rfl⟩ (qd (quQ k)) (qHL k) (fun x => qz (k + 1) x.1 x.2.1 x.2.2.1 x.2.2.2) (qHM k)

def qcy (k : Nat) (rec : Int → Int → Bool → Nat → Bool → List Int → List Int → Option (Bool × Nat × Bool × List Int × List Int)) (k1 : Int) (i : Int) (x0 : Bool) (x1 : Nat) (p0 : Bool) (p1 : List Int) (m : List Int) : Option (Bool × Nat × Bool × List Int × List Int) :=
 if ((decide (i < k1)) = true) then
 Option.bind (qL k (10 : Int)) fun r8 =>
 Option.bind (qz k p0 p1 r8.1 r8.2) fun r9 =>
 rec k1 (IntKind.wrap .i64 (i + (1 : Int))) x0 x1 r9.1 r9.2 m
 else
 (some (x0, x1, p0, p1, m))
def qah (k n : Nat) : Int → Int → Bool → Nat → Bool → List Int → List Int → Option (Bool × Nat × Bool × List Int × List Int) := Nat.rec (fun _ _ _ _ _ _ _ => none) (fun _ r => qcy k r) n
def qlw (k : Nat) (k1 : Int) : Option (Bool × List Int) :=
 Option.bind (qL k (1 : Int)) fun r7 =>
 Option.bind (qah k k k1 (0 : Int) false 0 r7.1 r7.2 []) fun r8 =>
 (some (r8.2.2.1, r8.2.2.2.1))
def qbP : Nat → Int → Option (Bool × List Int)
 | 0, _ => none
 | k + 1, k1 => qlw k k1
def qho : FS := { vs := [.a (.lf (.int .i64))], bs := [] }
def qn8 : List FS := [{ vs := [.g [.lf .bool, .lf (.sl (.int .i64))]], bs := [] }]
def quR (k : Nat) : Inst := ⟨96, qho, qn8, fun x => qbP k x⟩
theorem qvS (k : Nat) : qk (call cf k) [qeJ k, qec k] := qA (qkT k) (qA (qic k) qT)
def qjm : List SS := [{ fr := [(0, .a (.lf (.int .i64))), (2, .a (.ptr 0 0 0)), (3, .a (.ptr 1 0 0)), (4, .a (.lf (.int .i64)))], mem := [(0, some (.raw [[.lf .bool, .smz 2]] 2 81 false false)), (1, some (.raw [[.lf .bool, .lf (.sl (.int .i64))]] 2 81 true false)), (2, some (.arr (.int .i64) 1 3 false))], nx := 3 }]
def qn9 : List OS := [⟨some 0, { fr := [(2, .a (.ptr 0 0 0)), (3, .a (.ptr 1 0 0))], mem := [(0, some (.raw [[.lf .bool, .smz 2]] 2 81 false false)), (1, some (.raw [[.lf .bool, .lf (.sl (.int .i64))]] 2 81 true false)), (2, some (.arr (.int .i64) 1 3 false))], nx := 3 }⟩]
def qoa (k : Nat) : LInst := ⟨0, qjm, qn9, fun x => qah k k x.1 x.2.1 x.2.2.1 x.2.2.2.1 x.2.2.2.2.1 x.2.2.2.2.2.1 x.2.2.2.2.2.2⟩
theorem qCM (k : Nat) : qg (LOk (R := DS OS.D qn9) (fun b _ σ K => LOt Ty (kps 96) 0 b σ K []) cf (call cf k) (kps 96) Tryz.f96.ntmps k 0) 0 (lb Tryz.f96 0) :=
 qA (qA qT (qA qT qT)) (qA qT qT)
theorem qCN (k n : Nat) (x : DS SS.D qjm) : qah k (n + 1) x.1 x.2.1 x.2.2.1 x.2.2.2.1 x.2.2.2.2.1 x.2.2.2.2.2.1 x.2.2.2.2.2.2 = qD SS.enc (fun σ => qF cf (fun f a b K => COt f a b K [qeJ k, qec k]) (fun b _ σ K => LOt Ty (kps 96) 0 b σ K []) Tryz.f96.ntmps 0 (lb Tryz.f96 0) σ (qH Ty (kps 96 0) 0 qjm qn9 fun x => qah k n x.1 x.2.1 x.2.2.1 x.2.2.2.1 x.2.2.2.2.1 x.2.2.2.2.2.1 x.2.2.2.2.2.2)) qjm x := by kernel_rfl
theorem qCO (k : Nat) : qY cf (call cf k) (kps 96) Tryz.f96.ntmps k 0 0 (lb Tryz.f96 0) (qoa k) :=
 qr (c := cf) (callF := call cf k) (kp := kps 96) (nt := Tryz.f96.ntmps) (k := k) (p := 0) (b := 0) (x0 := lb Tryz.f96 0) (hs := qjm) (os := qn9) (qd (qvS k)) (qCM k) (fun n x => qah k n x.1 x.2.1 x.2.2.1 x.2.2.2.1 x.2.2.2.2.1 x.2.2.2.2.2.1 x.2.2.2.2.2.2) (fun _ => rfl) (qCN k)
theorem qCP (k : Nat) : qg (LOk (R := DS FS.D qn8) (fun b _ σ K => LOt Ty (kps 96) 0 b σ K [qoa k]) cf (call cf k) (cf.keep 96) Tryz.f96.ntmps k qho.bs.length) 0 (bd Tryz.f96) :=
 qA qT (qA qT (qA (qA qT (qw (c := cf) (callF := call cf k) (kp := kps 96) (nt := Tryz.f96.ntmps) (k := k) (p := 0) (b := 0) (x0 := lb Tryz.f96 0) (l := [qoa k]) (qA (fun _ => qCO k) qT))) (qA qT qT)))
theorem qCQ (k : Nat) (x : qho.D) : qbP (k + 1) x = qi cf (fun f a b K => COt f a b K [qeJ k, qec k]) (fun b _ σ K => LOt Ty (kps 96) 0 b σ K [qoa k]) 96 Tryz.f96.ntmps Tryz.f96.results.toList (bd Tryz.f96) (qho.enc x).1 (qho.enc x).2 (qj FS.dec qn8) := by kernel_rfl
theorem qCR : ∀ k, qf (call cf k) (quR k)
 | 0 => fun x y e => absurd (show (none : Option _) = some y from e) (by simp)
 | k + 1 => qe (c := cf) (k := k) (f := 96) (fn := Tryz.f96) (body := bd Tryz.f96) (sh := qho) (os := qn8) rfl Tryz.func96 rfl ⟨rfl, Nat.le_of_ble_eq_true rfl⟩ (qd (qvS k)) (qCP k) (fun x => qbP (k + 1) x) (qCQ k)

def qfe (k : Nat) (a0 : Bool) (a1 : List Int) : Option (Int) :=
 if (((((List.length a1) : Nat) : Int) == (0 : Int)) = true) then
 (some (0 : Int))
 else
 if (a0 = true) then
 (some (-(1 : Int)))
 else
 (some (1 : Int))
def qb5 : Nat → Bool → List Int → Option (Int)
 | 0, _, _ => none
 | k + 1, a0, a1 => qfe k a0 a1
def qkW : FS := { vs := [.g [.lf .bool, .lf (.sl (.int .i64))]], bs := [] }
def qrg : List FS := [{ vs := [.a (.lf (.int .i64))], bs := [] }]
def qsw (k : Nat) : Inst := ⟨118, qkW, qrg, fun x => qb5 k x.1 x.2⟩
theorem qHN (k : Nat) : qk (call cf k) [] := True.intro
theorem qHO (k : Nat) : qg (LOk (R := DS FS.D qrg) (fun b _ σ K => LOt Ty (kps 118) 0 b σ K []) cf (call cf k) (cf.keep 118) Tryz.f118.ntmps k qkW.bs.length) 0 (bd Tryz.f118) :=
 qA qT (qA (qA qT (qA (qA qT qT) qT)) (qA (qA qT (qA (qA qT qT) qT)) (qA qT qT)))
theorem qHP (k : Nat) (x : qkW.D) : qb5 (k + 1) x.1 x.2 = qi cf (fun f a b K => COt f a b K []) (fun b _ σ K => LOt Ty (kps 118) 0 b σ K []) 118 Tryz.f118.ntmps Tryz.f118.results.toList (bd Tryz.f118) (qkW.enc x).1 (qkW.enc x).2 (qj FS.dec qrg) := by kernel_rfl
theorem qyN : ∀ k, qf (call cf k) (qsw k)
 | 0 => fun x y e => absurd (show (none : Option _) = some y from e) (by simp)
 | k + 1 => qe (c := cf) (k := k) (f := 118) (fn := Tryz.f118) (body := bd Tryz.f118) (sh := qkW) (os := qrg) rfl Tryz.func118 rfl ⟨rfl, Nat.le_of_ble_eq_true rfl⟩ (qd (qHN k)) (qHO k) (fun x => qb5 (k + 1) x.1 x.2) (qHP k)

def qdl (k : Nat) (a0 : Bool) (a1 : List Int) : Option (Bool × List Int) :=
 if (((((List.length a1) : Nat) : Int) == (0 : Int)) = true) then
 (some (false, []))
 else
 (some ((!a0), a1))
def qaF : Nat → Bool → List Int → Option (Bool × List Int)
 | 0, _, _ => none
 | k + 1, a0, a1 => qdl k a0 a1
def qkX : FS := { vs := [.g [.lf .bool, .lf (.sl (.int .i64))]], bs := [] }
def qrh : List FS := [{ vs := [.g [.lf .bool, .lf (.sl (.int .i64))]], bs := [] }]
def ql8 (k : Nat) : Inst := ⟨123, qkX, qrh, fun x => qaF k x.1 x.2⟩
theorem qHQ (k : Nat) : qk (call cf k) [] := True.intro
theorem qHR (k : Nat) : qg (LOk (R := DS FS.D qrh) (fun b _ σ K => LOt Ty (kps 123) 0 b σ K []) cf (call cf k) (cf.keep 123) Tryz.f123.ntmps k qkX.bs.length) 0 (bd Tryz.f123) :=
 qA qT (qA (qA qT (qA (qA qT qT) qT)) (qA qT qT))
theorem qHS (k : Nat) (x : qkX.D) : qaF (k + 1) x.1 x.2 = qi cf (fun f a b K => COt f a b K []) (fun b _ σ K => LOt Ty (kps 123) 0 b σ K []) 123 Tryz.f123.ntmps Tryz.f123.results.toList (bd Tryz.f123) (qkX.enc x).1 (qkX.enc x).2 (qj FS.dec qrh) := by kernel_rfl
theorem quS : ∀ k, qf (call cf k) (ql8 k)
 | 0 => fun x y e => absurd (show (none : Option _) = some y from e) (by simp)
 | k + 1 => qe (c := cf) (k := k) (f := 123) (fn := Tryz.f123) (body := bd Tryz.f123) (sh := qkX) (os := qrh) rfl Tryz.func123 rfl ⟨rfl, Nat.le_of_ble_eq_true rfl⟩ (qd (qHQ k)) (qHR k) (fun x => qaF (k + 1) x.1 x.2) (qHS k)

def qob (k : Nat) (a0 : Bool) (a1 : List Int) : Option (Bool × List Int) :=
 (some (false, a1))
def qaV : Nat → Bool → List Int → Option (Bool × List Int)
 | 0, _, _ => none
 | k + 1, a0, a1 => qob k a0 a1
def qkY : FS := { vs := [.g [.lf .bool, .lf (.sl (.int .i64))]], bs := [] }
def qri : List FS := [{ vs := [.g [.lf .bool, .lf (.sl (.int .i64))]], bs := [] }]
def quT (k : Nat) : Inst := ⟨120, qkY, qri, fun x => qaV k x.1 x.2⟩
theorem qHT (k : Nat) : qk (call cf k) [] := True.intro
theorem qHU (k : Nat) : qg (LOk (R := DS FS.D qri) (fun b _ σ K => LOt Ty (kps 120) 0 b σ K []) cf (call cf k) (cf.keep 120) Tryz.f120.ntmps k qkY.bs.length) 0 (bd Tryz.f120) :=
 qA qT (qA qT qT)
theorem qHV (k : Nat) (x : qkY.D) : qaV (k + 1) x.1 x.2 = qi cf (fun f a b K => COt f a b K []) (fun b _ σ K => LOt Ty (kps 120) 0 b σ K []) 120 Tryz.f120.ntmps Tryz.f120.results.toList (bd Tryz.f120) (qkY.enc x).1 (qkY.enc x).2 (qj FS.dec qri) := by kernel_rfl
theorem qHW : ∀ k, qf (call cf k) (quT k)
 | 0 => fun x y e => absurd (show (none : Option _) = some y from e) (by simp)
 | k + 1 => qe (c := cf) (k := k) (f := 120) (fn := Tryz.f120) (body := bd Tryz.f120) (sh := qkY) (os := qri) rfl Tryz.func120 rfl ⟨rfl, Nat.le_of_ble_eq_true rfl⟩ (qd (qHT k)) (qHU k) (fun x => qaV (k + 1) x.1 x.2) (qHV k)

def qaE (k : Nat) (rec : List Int → List Int → Int → Option ((Int) ⊕ (Unit))) (a : List Int) (b : List Int) (i : Int) : Option ((Int) ⊕ (Unit)) :=
 if ((decide (i ≥ (0 : Int))) = true) then
 if ((0 : Int) ≤ i) then
 Option.bind (a)[(Int.toNat i)]? fun x3 =>
 if ((0 : Int) ≤ i) then
 Option.bind (b)[(Int.toNat i)]? fun x4 =>
 if ((decide (x3 < x4)) = true) then
 (some (Sum.inl (-(1 : Int))))
 else
 if ((0 : Int) ≤ i) then
 Option.bind (a)[(Int.toNat i)]? fun x5 =>
 if ((0 : Int) ≤ i) then
 Option.bind (b)[(Int.toNat i)]? fun x6 =>
 if ((decide (x5 > x6)) = true) then
 (some (Sum.inl (1 : Int)))
 else
 rec a b (IntKind.wrap .i64 (i - (1 : Int)))
 else
 none
 else
 none
 else
 none
 else
 none
 else
 (some (Sum.inr ()))
def qar (k n : Nat) : List Int → List Int → Int → Option ((Int) ⊕ (Unit)) := Nat.rec (fun _ _ _ => none) (fun _ r => qaE k r) n
def qff (k : Nat) (a : List Int) (b : List Int) : Option (Int) :=
 if (((((List.length a) : Nat) : Int) != (((List.length b) : Nat) : Int)) = true) then
 if ((decide ((((List.length a) : Nat) : Int) < (((List.length b) : Nat) : Int))) = true) then
 (some (-(1 : Int)))
 else
 (some (1 : Int))
 else
 Option.bind (qar k k a b (IntKind.wrap .i64 ((((List.length a) : Nat) : Int) - (1 : Int)))) fun r14 =>
 qc r14
 (fun r14 =>
 (some r14))
 (fun r14 =>
 (some (0 : Int)))
def qb6 : Nat → List Int → List Int → Option (Int)
 | 0, _, _ => none
 | k + 1, a, b => qff k a b
def qkZ : FS := { vs := [.a (.lf (.sl (.int .i64))), .a (.lf (.sl (.int .i64)))], bs := [] }
def qrj : List FS := [{ vs := [.a (.lf (.int .i64))], bs := [] }]
def qpp (k : Nat) : Inst := ⟨134, qkZ, qrj, fun x => qb6 k x.1 x.2⟩
theorem qyO (k : Nat) : qk (call cf k) [] := True.intro
def qjn : List SS := [{ fr := [(0, .a (.lf (.sl (.int .i64)))), (1, .a (.lf (.sl (.int .i64)))), (5, .a (.lf (.int .i64)))], mem := [], nx := 0 }]
def qoc : List OS := [⟨none, { fr := [(4, .a (.lf (.int .i64)))], mem := [], nx := 0 }⟩, ⟨some 0, { fr := [], mem := [], nx := 0 }⟩]
def qod (k : Nat) : LInst := ⟨0, qjn, qoc, fun x => qar k k x.1 x.2.1 x.2.2⟩
theorem qCS (k : Nat) : qg (LOk (R := DS OS.D qoc) (fun b _ σ K => LOt Ty (kps 134) 0 b σ K []) cf (call cf k) (kps 134) Tryz.f134.ntmps k 0) 0 (lb Tryz.f134 0) :=
 qA (qA qT (qA qT qT)) (qA (qA (qA qT (qA (qA qT qT) qT)) (qA qT (qA (qA qT qT) qT))) qT)
theorem qCT (k n : Nat) (x : DS SS.D qjn) : qar k (n + 1) x.1 x.2.1 x.2.2 = qD SS.enc (fun σ => qF cf (fun f a b K => COt f a b K []) (fun b _ σ K => LOt Ty (kps 134) 0 b σ K []) Tryz.f134.ntmps 0 (lb Tryz.f134 0) σ (qH Ty (kps 134 0) 0 qjn qoc fun x => qar k n x.1 x.2.1 x.2.2)) qjn x := by kernel_rfl
theorem qCU (k : Nat) : qY cf (call cf k) (kps 134) Tryz.f134.ntmps k 0 0 (lb Tryz.f134 0) (qod k) :=
 qr (c := cf) (callF := call cf k) (kp := kps 134) (nt := Tryz.f134.ntmps) (k := k) (p := 0) (b := 0) (x0 := lb Tryz.f134 0) (hs := qjn) (os := qoc) (qd (qyO k)) (qCS k) (fun n x => qar k n x.1 x.2.1 x.2.2) (fun _ => rfl) (qCT k)
theorem qHX (k : Nat) : qg (LOk (R := DS FS.D qrj) (fun b _ σ K => LOt Ty (kps 134) 0 b σ K [qod k]) cf (call cf k) (cf.keep 134) Tryz.f134.ntmps k qkZ.bs.length) 0 (bd Tryz.f134) :=
 qA qT (qA (qA qT (qA (qA (qA qT (qA (qA qT qT) qT)) (qA qT qT)) qT)) (qA (qA qT (qw (c := cf) (callF := call cf k) (kp := kps 134) (nt := Tryz.f134.ntmps) (k := k) (p := 0) (b := 0) (x0 := lb Tryz.f134 0) (l := [qod k]) (qA (fun _ => qCU k) qT))) (qA qT qT)))
theorem qHY (k : Nat) (x : qkZ.D) : qb6 (k + 1) x.1 x.2 = qi cf (fun f a b K => COt f a b K []) (fun b _ σ K => LOt Ty (kps 134) 0 b σ K [qod k]) 134 Tryz.f134.ntmps Tryz.f134.results.toList (bd Tryz.f134) (qkZ.enc x).1 (qkZ.enc x).2 (qj FS.dec qrj) := by kernel_rfl
theorem qyP : ∀ k, qf (call cf k) (qpp k)
 | 0 => fun x y e => absurd (show (none : Option _) = some y from e) (by simp)
 | k + 1 => qe (c := cf) (k := k) (f := 134) (fn := Tryz.f134) (body := bd Tryz.f134) (sh := qkZ) (os := qrj) rfl Tryz.func134 rfl ⟨rfl, Nat.le_of_ble_eq_true rfl⟩ (qd (qyO k)) (qHX k) (fun x => qb6 (k + 1) x.1 x.2) (qHY k)

def qao (k : Nat) (rec : List Int → List Int → Int → Int → Option (Int)) (r : List Int) (b : List Int) (low : Int) (high : Int) : Option (Int) :=
 if ((decide (low < high)) = true) then
 Option.bind (qL k (IntKind.wrap .i64 (Int.tdiv (IntKind.wrap .i64 ((IntKind.wrap .i64 (low + high)) + (1 : Int))) (2 : Int)))) fun r15 =>
 Option.bind (qz k false b r15.1 r15.2) fun r16 =>
 Option.bind (qb6 k r16.2 r) fun r17 =>
 if ((decide (r17 ≤ (0 : Int))) = true) then
 rec r b (IntKind.wrap .i64 (Int.tdiv (IntKind.wrap .i64 ((IntKind.wrap .i64 (low + high)) + (1 : Int))) (2 : Int))) high
 else
 rec r b low (IntKind.wrap .i64 ((IntKind.wrap .i64 (Int.tdiv (IntKind.wrap .i64 ((IntKind.wrap .i64 (low + high)) + (1 : Int))) (2 : Int))) - (1 : Int)))
 else
 (some low)
def qai (k n : Nat) : List Int → List Int → Int → Int → Option (Int) := Nat.rec (fun _ _ _ _ => none) (fun _ r => qao k r) n
def qeL (k : Nat) (r : List Int) (b : List Int) : Option (Int) :=
 Option.bind (qb6 k r b) fun r14 =>
 if ((decide (r14 < (0 : Int))) = true) then
 (some (0 : Int))
 else
 Option.bind (qai k k r b (0 : Int) (65535 : Int)) fun r15 =>
 (some r15)
def qbd : Nat → List Int → List Int → Option (Int)
 | 0, _, _ => none
 | k + 1, r, b => qeL k r b
def qk0 : FS := { vs := [.a (.lf (.sl (.int .i64))), .a (.lf (.sl (.int .i64)))], bs := [] }
def qrk : List FS := [{ vs := [.a (.lf (.int .i64))], bs := [] }]
def quU (k : Nat) : Inst := ⟨136, qk0, qrk, fun x => qbd k x.1 x.2⟩
theorem qyQ (k : Nat) : qk (call cf k) [qpp k, qeJ k, qec k] := qA (qyP k) (qA (qkT k) (qA (qic k) qT))
def qjo : List SS := [{ fr := [(0, .a (.lf (.sl (.int .i64)))), (1, .a (.lf (.sl (.int .i64)))), (5, .a (.lf (.int .i64))), (6, .a (.lf (.int .i64)))], mem := [], nx := 0 }]
def qoe : List OS := [⟨some 0, { fr := [(5, .a (.lf (.int .i64)))], mem := [], nx := 0 }⟩]
def qof (k : Nat) : LInst := ⟨0, qjo, qoe, fun x => qai k k x.1 x.2.1 x.2.2.1 x.2.2.2⟩
theorem qCV (k : Nat) : qg (LOk (R := DS OS.D qoe) (fun b _ σ K => LOt Ty (kps 136) 0 b σ K []) cf (call cf k) (kps 136) Tryz.f136.ntmps k 0) 0 (lb Tryz.f136 0) :=
 qA (qA qT (qA qT qT)) (qA qT (qA qT (qA qT qT)))
theorem qCW (k n : Nat) (x : DS SS.D qjo) : qai k (n + 1) x.1 x.2.1 x.2.2.1 x.2.2.2 = qD SS.enc (fun σ => qF cf (fun f a b K => COt f a b K [qpp k, qeJ k, qec k]) (fun b _ σ K => LOt Ty (kps 136) 0 b σ K []) Tryz.f136.ntmps 0 (lb Tryz.f136 0) σ (qH Ty (kps 136 0) 0 qjo qoe fun x => qai k n x.1 x.2.1 x.2.2.1 x.2.2.2)) qjo x := by kernel_rfl
theorem qCX (k : Nat) : qY cf (call cf k) (kps 136) Tryz.f136.ntmps k 0 0 (lb Tryz.f136 0) (qof k) :=
 qr (c := cf) (callF := call cf k) (kp := kps 136) (nt := Tryz.f136.ntmps) (k := k) (p := 0) (b := 0) (x0 := lb Tryz.f136 0) (hs := qjo) (os := qoe) (qd (qyQ k)) (qCV k) (fun n x => qai k n x.1 x.2.1 x.2.2.1 x.2.2.2) (fun _ => rfl) (qCW k)
theorem qHZ (k : Nat) : qg (LOk (R := DS FS.D qrk) (fun b _ σ K => LOt Ty (kps 136) 0 b σ K [qof k]) cf (call cf k) (cf.keep 136) Tryz.f136.ntmps k qk0.bs.length) 0 (bd Tryz.f136) :=
 qA qT (qA qT (qA (qA qT (qA (qA qT qT) qT)) (qA (qw (c := cf) (callF := call cf k) (kp := kps 136) (nt := Tryz.f136.ntmps) (k := k) (p := 0) (b := 0) (x0 := lb Tryz.f136 0) (l := [qof k]) (qA (fun _ => qCX k) qT)) (qA qT qT))))
theorem qH0 (k : Nat) (x : qk0.D) : qbd (k + 1) x.1 x.2 = qi cf (fun f a b K => COt f a b K [qpp k, qeJ k, qec k]) (fun b _ σ K => LOt Ty (kps 136) 0 b σ K [qof k]) 136 Tryz.f136.ntmps Tryz.f136.results.toList (bd Tryz.f136) (qk0.enc x).1 (qk0.enc x).2 (qj FS.dec qrk) := by kernel_rfl
theorem qH1 : ∀ k, qf (call cf k) (quU k)
 | 0 => fun x y e => absurd (show (none : Option _) = some y from e) (by simp)
 | k + 1 => qe (c := cf) (k := k) (f := 136) (fn := Tryz.f136) (body := bd Tryz.f136) (sh := qk0) (os := qrk) rfl Tryz.func136 rfl ⟨rfl, Nat.le_of_ble_eq_true rfl⟩ (qd (qyQ k)) (qHZ k) (fun x => qbd (k + 1) x.1 x.2) (qH0 k)

def qa3 (k : Nat) (rec : List Int → List Int → Nat → Int → Int → List Int → Option (Nat × List Int)) (a : List Int) (b : List Int) (d : Nat) (borrow : Int) (i : Int) (ds : List Int) : Option (Nat × List Int) :=
 if ((decide (i < (((List.length a) : Nat) : Int))) = true) then
 if ((0 : Int) ≤ i) then
 Option.bind (a)[(Int.toNat i)]? fun x3 =>
 if ((decide (i < (((List.length b) : Nat) : Int))) = true) then
 if ((0 : Int) ≤ i) then
 Option.bind (b)[(Int.toNat i)]? fun x4 =>
 if ((decide ((IntKind.wrap .i64 ((IntKind.wrap .i64 (x3 - borrow)) - x4)) < (0 : Int))) = true) then
 if (d ≤ (List.length ds)) then
 if (((d + (List.length (List.take 1 ((IntKind.wrap .i64 ((IntKind.wrap .i64 ((IntKind.wrap .i64 (x3 - borrow)) - x4)) + (65536 : Int))) :: [])))) * 8) ≤ 140737488355328) then
 rec a b (d + (List.length (List.take 1 ((IntKind.wrap .i64 ((IntKind.wrap .i64 ((IntKind.wrap .i64 (x3 - borrow)) - x4)) + (65536 : Int))) :: [])))) (1 : Int) (IntKind.wrap .i64 (i + (1 : Int))) ((List.take d ds) ++ (List.take 1 ((IntKind.wrap .i64 ((IntKind.wrap .i64 ((IntKind.wrap .i64 (x3 - borrow)) - x4)) + (65536 : Int))) :: [])))
 else
 none
 else
 none
 else
 if (d ≤ (List.length ds)) then
 if (((d + (List.length (List.take 1 ((IntKind.wrap .i64 ((IntKind.wrap .i64 (x3 - borrow)) - x4)) :: [])))) * 8) ≤ 140737488355328) then
 rec a b (d + (List.length (List.take 1 ((IntKind.wrap .i64 ((IntKind.wrap .i64 (x3 - borrow)) - x4)) :: [])))) (0 : Int) (IntKind.wrap .i64 (i + (1 : Int))) ((List.take d ds) ++ (List.take 1 ((IntKind.wrap .i64 ((IntKind.wrap .i64 (x3 - borrow)) - x4)) :: [])))
 else
 none
 else
 none
 else
 none
 else
 if ((decide ((IntKind.wrap .i64 (x3 - borrow)) < (0 : Int))) = true) then
 if (d ≤ (List.length ds)) then
 if (((d + (List.length (List.take 1 ((IntKind.wrap .i64 ((IntKind.wrap .i64 (x3 - borrow)) + (65536 : Int))) :: [])))) * 8) ≤ 140737488355328) then
 rec a b (d + (List.length (List.take 1 ((IntKind.wrap .i64 ((IntKind.wrap .i64 (x3 - borrow)) + (65536 : Int))) :: [])))) (1 : Int) (IntKind.wrap .i64 (i + (1 : Int))) ((List.take d ds) ++ (List.take 1 ((IntKind.wrap .i64 ((IntKind.wrap .i64 (x3 - borrow)) + (65536 : Int))) :: [])))
 else
 none
 else
 none
 else
 if (d ≤ (List.length ds)) then
 if (((d + (List.length (List.take 1 ((IntKind.wrap .i64 (x3 - borrow)) :: [])))) * 8) ≤ 140737488355328) then
 rec a b (d + (List.length (List.take 1 ((IntKind.wrap .i64 (x3 - borrow)) :: [])))) (0 : Int) (IntKind.wrap .i64 (i + (1 : Int))) ((List.take d ds) ++ (List.take 1 ((IntKind.wrap .i64 (x3 - borrow)) :: [])))
 else
 none
 else
 none
 else
 none
 else
 (some (d, ds))
def qX (k n : Nat) : List Int → List Int → Nat → Int → Int → List Int → Option (Nat × List Int) := Nat.rec (fun _ _ _ _ _ _ => none) (fun _ r => qa3 k r) n
def qeM (k : Nat) (a : List Int) (b : List Int) : Option (List Int) :=
 Option.bind (qX k k a b 0 (0 : Int) (0 : Int) []) fun r17 =>
 Option.bind (qB k r17.1 r17.2) fun r18 =>
 if ((0 + r18.1) ≤ (List.length r18.2)) then
 (some (List.take r18.1 r18.2))
 else
 none
def qan : Nat → List Int → List Int → Option (List Int)
 | 0, _, _ => none
 | k + 1, a, b => qeM k a b
def qk1 : FS := { vs := [.a (.lf (.sl (.int .i64))), .a (.lf (.sl (.int .i64)))], bs := [] }
def qrl : List FS := [{ vs := [.a (.lf (.sl (.int .i64)))], bs := [] }]
def qpq (k : Nat) : Inst := ⟨135, qk1, qrl, fun x => qan k x.1 x.2⟩
theorem qyR (k : Nat) : qk (call cf k) [qew k] := qA (qn4 k) qT
def qjp : List SS := [{ fr := [(0, .a (.lf (.sl (.int .i64)))), (1, .a (.lf (.sl (.int .i64)))), (5, .a (.smz 0)), (6, .a (.lf (.int .i64))), (7, .a (.lf (.int .i64)))], mem := [(0, some (.arr (.int .i64) 1 3 false))], nx := 1 }]
def qog : List OS := [⟨some 0, { fr := [(5, .a (.smz 0))], mem := [(0, some (.arr (.int .i64) 1 3 false))], nx := 1 }⟩]
def qoh (k : Nat) : LInst := ⟨0, qjp, qog, fun x => qX k k x.1 x.2.1 x.2.2.1 x.2.2.2.1 x.2.2.2.2.1 x.2.2.2.2.2⟩
theorem qCY (k : Nat) : qg (LOk (R := DS OS.D qog) (fun b _ σ K => LOt Ty (kps 135) 0 b σ K []) cf (call cf k) (kps 135) Tryz.f135.ntmps k 0) 0 (lb Tryz.f135 0) :=
 qA (qA qT (qA qT qT)) (qA (qA qT (qA (qA qT (qA qT qT)) (qA qT (qA (qA qT (qA (qA qT qT) qT)) qT)))) qT)
theorem qCZ (k n : Nat) (x : DS SS.D qjp) : qX k (n + 1) x.1 x.2.1 x.2.2.1 x.2.2.2.1 x.2.2.2.2.1 x.2.2.2.2.2 = qD SS.enc (fun σ => qF cf (fun f a b K => COt f a b K [qew k]) (fun b _ σ K => LOt Ty (kps 135) 0 b σ K []) Tryz.f135.ntmps 0 (lb Tryz.f135 0) σ (qH Ty (kps 135 0) 0 qjp qog fun x => qX k n x.1 x.2.1 x.2.2.1 x.2.2.2.1 x.2.2.2.2.1 x.2.2.2.2.2)) qjp x := by kernel_rfl
theorem qC0 (k : Nat) : qY cf (call cf k) (kps 135) Tryz.f135.ntmps k 0 0 (lb Tryz.f135 0) (qoh k) :=
 qr (c := cf) (callF := call cf k) (kp := kps 135) (nt := Tryz.f135.ntmps) (k := k) (p := 0) (b := 0) (x0 := lb Tryz.f135 0) (hs := qjp) (os := qog) (qd (qyR k)) (qCY k) (fun n x => qX k n x.1 x.2.1 x.2.2.1 x.2.2.2.1 x.2.2.2.2.1 x.2.2.2.2.2) (fun _ => rfl) (qCZ k)
theorem qH2 (k : Nat) : qg (LOk (R := DS FS.D qrl) (fun b _ σ K => LOt Ty (kps 135) 0 b σ K [qoh k]) cf (call cf k) (cf.keep 135) Tryz.f135.ntmps k qk1.bs.length) 0 (bd Tryz.f135) :=
 qA qT (qA qT (qA qT (qA (qA qT (qw (c := cf) (callF := call cf k) (kp := kps 135) (nt := Tryz.f135.ntmps) (k := k) (p := 0) (b := 0) (x0 := lb Tryz.f135 0) (l := [qoh k]) (qA (fun _ => qC0 k) qT))) (qA qT qT))))
theorem qH3 (k : Nat) (x : qk1.D) : qan (k + 1) x.1 x.2 = qi cf (fun f a b K => COt f a b K [qew k]) (fun b _ σ K => LOt Ty (kps 135) 0 b σ K [qoh k]) 135 Tryz.f135.ntmps Tryz.f135.results.toList (bd Tryz.f135) (qk1.enc x).1 (qk1.enc x).2 (qj FS.dec qrl) := by kernel_rfl
theorem qyS : ∀ k, qf (call cf k) (qpq k)
 | 0 => fun x y e => absurd (show (none : Option _) = some y from e) (by simp)
 | k + 1 => qe (c := cf) (k := k) (f := 135) (fn := Tryz.f135) (body := bd Tryz.f135) (sh := qk1) (os := qrl) rfl Tryz.func135 rfl ⟨rfl, Nat.le_of_ble_eq_true rfl⟩ (qd (qyR k)) (qH2 k) (fun x => qan (k + 1) x.1 x.2) (qH3 k)

def qE (k : Nat) (rec : ((Nat × Nat × Int × Bool × List Int × Bool × List Int × Bool × Nat × Bool × Nat × List Int × List Int × List Int × List Int) ⊕ (Nat × List Int × Int × Bool × List Int × Bool × List Int × Bool × Nat × Bool × Nat × List Int × List Int × List Int)) → Option ((Nat × Nat × Bool × List Int × Bool × List Int × Bool × Nat × Bool × Nat × List Int × List Int × List Int × List Int) ⊕ (Nat × List Int × Bool × List Int × Bool × List Int × Bool × Nat × Bool × Nat × List Int × List Int × List Int))) (x : (Nat × Nat × Int × Bool × List Int × Bool × List Int × Bool × Nat × Bool × Nat × List Int × List Int × List Int × List Int) ⊕ (Nat × List Int × Int × Bool × List Int × Bool × List Int × Bool × Nat × Bool × Nat × List Int × List Int × List Int)) : Option ((Nat × Nat × Bool × List Int × Bool × List Int × Bool × Nat × Bool × Nat × List Int × List Int × List Int × List Int) ⊕ (Nat × List Int × Bool × List Int × Bool × List Int × Bool × Nat × Bool × Nat × List Int × List Int × List Int)) :=
 qc x
 (fun x =>
 if ((decide (x.2.2.1 ≥ (0 : Int))) = true) then
 if ((0 : Int) ≤ x.2.2.1) then
 Option.bind (x.2.2.2.2.1)[(Int.toNat x.2.2.1)]? fun x2 =>
 if ((0 + x.2.1) ≤ (List.length x.2.2.2.2.2.2.2.2.2.2.2.2.1)) then
 if (((1 + (List.length (List.take x.2.1 x.2.2.2.2.2.2.2.2.2.2.2.2.1))) * 8) ≤ 140737488355328) then
 Option.bind (qB k (1 + (List.length (List.take x.2.1 x.2.2.2.2.2.2.2.2.2.2.2.2.1))) ((List.take 1 (x2 :: [])) ++ (List.take x.2.1 x.2.2.2.2.2.2.2.2.2.2.2.2.1))) fun r13 =>
 if ((0 + r13.1) ≤ (List.length r13.2)) then
 Option.bind (qbd k (List.take r13.1 r13.2) x.2.2.2.2.2.2.1) fun r14 =>
 if ((decide (r14 > (0 : Int))) = true) then
 Option.bind (qL k r14) fun r15 =>
 Option.bind (qz k false x.2.2.2.2.2.2.1 r15.1 r15.2) fun r16 =>
 if ((0 + r13.1) ≤ (List.length r13.2)) then
 Option.bind (qan k (List.take r13.1 r13.2) r16.2) fun r17 =>
 if (((0 : Int) ≤ x.2.2.1) ∧ (x.2.2.1 < ((x.1 : Nat) : Int))) then
 Option.bind (x.2.2.2.2.2.2.2.2.2.2.2.1)[(0 + (Int.toNat x.2.2.1))]? fun x3 =>
 rec (Sum.inr (x.1, r17, (IntKind.wrap .i64 (x.2.2.1 - (1 : Int))), x.2.2.2.1, x.2.2.2.2.1, x.2.2.2.2.2.1, x.2.2.2.2.2.2.1, x.2.2.2.2.2.2.2.1, x.2.2.2.2.2.2.2.2.1, x.2.2.2.2.2.2.2.2.2.1, x.2.2.2.2.2.2.2.2.2.2.1, (List.set x.2.2.2.2.2.2.2.2.2.2.2.1 (0 + (Int.toNat x.2.2.1)) r14), x.2.2.2.2.2.2.2.2.2.2.2.2.2.1, x.2.2.2.2.2.2.2.2.2.2.2.2.2.2))
 else
 none
 else
 none
 else
 if (((0 : Int) ≤ x.2.2.1) ∧ (x.2.2.1 < ((x.1 : Nat) : Int))) then
 Option.bind (x.2.2.2.2.2.2.2.2.2.2.2.1)[(0 + (Int.toNat x.2.2.1))]? fun x3 =>
 rec (Sum.inl (x.1, r13.1, (IntKind.wrap .i64 (x.2.2.1 - (1 : Int))), x.2.2.2.1, x.2.2.2.2.1, x.2.2.2.2.2.1, x.2.2.2.2.2.2.1, x.2.2.2.2.2.2.2.1, x.2.2.2.2.2.2.2.2.1, x.2.2.2.2.2.2.2.2.2.1, x.2.2.2.2.2.2.2.2.2.2.1, (List.set x.2.2.2.2.2.2.2.2.2.2.2.1 (0 + (Int.toNat x.2.2.1)) r14), r13.2, x.2.2.2.2.2.2.2.2.2.2.2.2.2.1, x.2.2.2.2.2.2.2.2.2.2.2.2.2.2))
 else
 none
 else
 none
 else
 none
 else
 none
 else
 none
 else
 (some (Sum.inl (x.1, x.2.1, x.2.2.2.1, x.2.2.2.2.1, x.2.2.2.2.2.1, x.2.2.2.2.2.2.1, x.2.2.2.2.2.2.2.1, x.2.2.2.2.2.2.2.2.1, x.2.2.2.2.2.2.2.2.2.1, x.2.2.2.2.2.2.2.2.2.2.1, x.2.2.2.2.2.2.2.2.2.2.2.1, x.2.2.2.2.2.2.2.2.2.2.2.2.1, x.2.2.2.2.2.2.2.2.2.2.2.2.2.1, x.2.2.2.2.2.2.2.2.2.2.2.2.2.2))))
 (fun x =>
 if ((decide (x.2.2.1 ≥ (0 : Int))) = true) then
 if ((0 : Int) ≤ x.2.2.1) then
 Option.bind (x.2.2.2.2.1)[(Int.toNat x.2.2.1)]? fun x2 =>
 if (((1 + (List.length x.2.1)) * 8) ≤ 140737488355328) then
 Option.bind (qB k (1 + (List.length x.2.1)) ((List.take 1 (x2 :: [])) ++ x.2.1)) fun r13 =>
 if ((0 + r13.1) ≤ (List.length r13.2)) then
 Option.bind (qbd k (List.take r13.1 r13.2) x.2.2.2.2.2.2.1) fun r14 =>
 if ((decide (r14 > (0 : Int))) = true) then
 Option.bind (qL k r14) fun r15 =>
 Option.bind (qz k false x.2.2.2.2.2.2.1 r15.1 r15.2) fun r16 =>
 if ((0 + r13.1) ≤ (List.length r13.2)) then
 Option.bind (qan k (List.take r13.1 r13.2) r16.2) fun r17 =>
 if (((0 : Int) ≤ x.2.2.1) ∧ (x.2.2.1 < ((x.1 : Nat) : Int))) then
 Option.bind (x.2.2.2.2.2.2.2.2.2.2.2.1)[(0 + (Int.toNat x.2.2.1))]? fun x3 =>
 rec (Sum.inr (x.1, r17, (IntKind.wrap .i64 (x.2.2.1 - (1 : Int))), x.2.2.2.1, x.2.2.2.2.1, x.2.2.2.2.2.1, x.2.2.2.2.2.2.1, x.2.2.2.2.2.2.2.1, x.2.2.2.2.2.2.2.2.1, x.2.2.2.2.2.2.2.2.2.1, x.2.2.2.2.2.2.2.2.2.2.1, (List.set x.2.2.2.2.2.2.2.2.2.2.2.1 (0 + (Int.toNat x.2.2.1)) r14), x.2.2.2.2.2.2.2.2.2.2.2.2.1, x.2.2.2.2.2.2.2.2.2.2.2.2.2))
 else
 none
 else
 none
 else
 if (((0 : Int) ≤ x.2.2.1) ∧ (x.2.2.1 < ((x.1 : Nat) : Int))) then
 Option.bind (x.2.2.2.2.2.2.2.2.2.2.2.1)[(0 + (Int.toNat x.2.2.1))]? fun x3 =>
 rec (Sum.inl (x.1, r13.1, (IntKind.wrap .i64 (x.2.2.1 - (1 : Int))), x.2.2.2.1, x.2.2.2.2.1, x.2.2.2.2.2.1, x.2.2.2.2.2.2.1, x.2.2.2.2.2.2.2.1, x.2.2.2.2.2.2.2.2.1, x.2.2.2.2.2.2.2.2.2.1, x.2.2.2.2.2.2.2.2.2.2.1, (List.set x.2.2.2.2.2.2.2.2.2.2.2.1 (0 + (Int.toNat x.2.2.1)) r14), r13.2, x.2.2.2.2.2.2.2.2.2.2.2.2.1, x.2.2.2.2.2.2.2.2.2.2.2.2.2))
 else
 none
 else
 none
 else
 none
 else
 none
 else
 (some (Sum.inr (x.1, x.2.1, x.2.2.2.1, x.2.2.2.2.1, x.2.2.2.2.2.1, x.2.2.2.2.2.2.1, x.2.2.2.2.2.2.2.1, x.2.2.2.2.2.2.2.2.1, x.2.2.2.2.2.2.2.2.2.1, x.2.2.2.2.2.2.2.2.2.2.1, x.2.2.2.2.2.2.2.2.2.2.2.1, x.2.2.2.2.2.2.2.2.2.2.2.2.1, x.2.2.2.2.2.2.2.2.2.2.2.2.2))))
def qI (k n : Nat) : ((Nat × Nat × Int × Bool × List Int × Bool × List Int × Bool × Nat × Bool × Nat × List Int × List Int × List Int × List Int) ⊕ (Nat × List Int × Int × Bool × List Int × Bool × List Int × Bool × Nat × Bool × Nat × List Int × List Int × List Int)) → Option ((Nat × Nat × Bool × List Int × Bool × List Int × Bool × Nat × Bool × Nat × List Int × List Int × List Int × List Int) ⊕ (Nat × List Int × Bool × List Int × Bool × List Int × Bool × Nat × Bool × Nat × List Int × List Int × List Int)) := Nat.rec (fun _ => none) (fun _ r => qE k r) n
def qex (k : Nat) (a0 : Bool) (a1 : List Int) (b0 : Bool) (b1 : List Int) : Option (Bool × List Int × Bool × List Int) :=
 if (((0 : Int) ≤ (((List.length a1) : Nat) : Int)) ∧ (((((List.length a1) : Nat) : Int) ≤ (((List.length a1) : Nat) : Int)) ∧ (((((List.length a1) : Nat) : Int) * (8 : Int)) ≤ (140737488355328 : Int)))) then
 Option.bind (qI k k (Sum.inl ((Int.toNat (((List.length a1) : Nat) : Int)), 0, (IntKind.wrap .i64 ((((List.length a1) : Nat) : Int) - (1 : Int))), a0, a1, b0, b1, false, 0, false, 0, (List.replicate (Int.toNat (((List.length a1) : Nat) : Int)) (0 : Int)), [], [], []))) fun r13 =>
 qc r13
 (fun r13 =>
 Option.bind (qB k r13.1 r13.2.2.2.2.2.2.2.2.2.2.1) fun r14 =>
 if ((!(r13.2.2.1 == r13.2.2.2.2.1)) = true) then
 if (r13.2.2.1 = true) then
 if ((0 + r14.1) ≤ (List.length r14.2)) then
 if ((0 + r13.2.1) ≤ (List.length r13.2.2.2.2.2.2.2.2.2.2.2.1)) then
 (some ((decide (((r14.1 : Nat) : Int) > (0 : Int))), (List.take r14.1 r14.2), (decide (((r13.2.1 : Nat) : Int) > (0 : Int))), (List.take r13.2.1 r13.2.2.2.2.2.2.2.2.2.2.2.1)))
 else
 none
 else
 none
 else
 if ((0 + r14.1) ≤ (List.length r14.2)) then
 if ((0 + r13.2.1) ≤ (List.length r13.2.2.2.2.2.2.2.2.2.2.2.1)) then
 (some ((decide (((r14.1 : Nat) : Int) > (0 : Int))), (List.take r14.1 r14.2), false, (List.take r13.2.1 r13.2.2.2.2.2.2.2.2.2.2.2.1)))
 else
 none
 else
 none
 else
 if (r13.2.2.1 = true) then
 if ((0 + r14.1) ≤ (List.length r14.2)) then
 if ((0 + r13.2.1) ≤ (List.length r13.2.2.2.2.2.2.2.2.2.2.2.1)) then
 (some (false, (List.take r14.1 r14.2), (decide (((r13.2.1 : Nat) : Int) > (0 : Int))), (List.take r13.2.1 r13.2.2.2.2.2.2.2.2.2.2.2.1)))
 else
 none
 else
 none
 else
 if ((0 + r14.1) ≤ (List.length r14.2)) then
 if ((0 + r13.2.1) ≤ (List.length r13.2.2.2.2.2.2.2.2.2.2.2.1)) then
 (some (false, (List.take r14.1 r14.2), false, (List.take r13.2.1 r13.2.2.2.2.2.2.2.2.2.2.2.1)))
 else
 none
 else
 none)
 (fun r13 =>
 Option.bind (qB k r13.1 r13.2.2.2.2.2.2.2.2.2.2.1) fun r14 =>
 if ((!(r13.2.2.1 == r13.2.2.2.2.1)) = true) then
 if (r13.2.2.1 = true) then
 if ((0 + r14.1) ≤ (List.length r14.2)) then
 (some ((decide (((r14.1 : Nat) : Int) > (0 : Int))), (List.take r14.1 r14.2), (decide ((((List.length r13.2.1) : Nat) : Int) > (0 : Int))), r13.2.1))
 else
 none
 else
 if ((0 + r14.1) ≤ (List.length r14.2)) then
 (some ((decide (((r14.1 : Nat) : Int) > (0 : Int))), (List.take r14.1 r14.2), false, r13.2.1))
 else
 none
 else
 if (r13.2.2.1 = true) then
 if ((0 + r14.1) ≤ (List.length r14.2)) then
 (some (false, (List.take r14.1 r14.2), (decide ((((List.length r13.2.1) : Nat) : Int) > (0 : Int))), r13.2.1))
 else
 none
 else
 if ((0 + r14.1) ≤ (List.length r14.2)) then
 (some (false, (List.take r14.1 r14.2), false, r13.2.1))
 else
 none)
 else
 none
def qas : Nat → Bool → List Int → Bool → List Int → Option (Bool × List Int × Bool × List Int)
 | 0, _, _, _, _ => none
 | k + 1, a0, a1, b0, b1 => qex k a0 a1 b0 b1
def qk2 : FS := { vs := [.g [.lf .bool, .lf (.sl (.int .i64))], .g [.lf .bool, .lf (.sl (.int .i64))]], bs := [] }
def qrm : List FS := [{ vs := [.g [.lf .bool, .lf (.sl (.int .i64))], .g [.lf .bool, .lf (.sl (.int .i64))]], bs := [] }]
def qpr (k : Nat) : Inst := ⟨121, qk2, qrm, fun x => qas k x.1 x.2.1 x.2.2.1 x.2.2.2⟩
theorem qyT (k : Nat) : qk (call cf k) [qew k, quU k, qeJ k, qec k, qpq k] := qA (qn4 k) (qA (qH1 k) (qA (qkT k) (qA (qic k) (qA (qyS k) qT))))
def qjq : List SS := [{ fr := [(2, .a (.ptr 0 0 0)), (3, .a (.ptr 1 0 0)), (4, .a (.ptr 2 0 0)), (5, .a (.ptr 3 0 0)), (6, .a (.smz 4)), (7, .a (.smz 5)), (8, .a (.lf (.int .i64)))], mem := [(0, some (.raw [[.lf .bool, .lf (.sl (.int .i64))]] 2 81 true false)), (1, some (.raw [[.lf .bool, .lf (.sl (.int .i64))]] 2 81 true false)), (2, some (.raw [[.lf .bool, .smz 6]] 2 81 false false)), (3, some (.raw [[.lf .bool, .smz 7]] 2 81 false false)), (4, some (.arr (.int .i64) 1 3 false)), (5, some (.arr (.int .i64) 1 3 false)), (6, some (.arr (.int .i64) 1 3 false)), (7, some (.arr (.int .i64) 1 3 false))], nx := 8 }, { fr := [(2, .a (.ptr 0 0 0)), (3, .a (.ptr 1 0 0)), (4, .a (.ptr 2 0 0)), (5, .a (.ptr 3 0 0)), (6, .a (.smz 4)), (7, .a (.lf (.sl (.int .i64)))), (8, .a (.lf (.int .i64)))], mem := [(0, some (.raw [[.lf .bool, .lf (.sl (.int .i64))]] 2 81 true false)), (1, some (.raw [[.lf .bool, .lf (.sl (.int .i64))]] 2 81 true false)), (2, some (.raw [[.lf .bool, .smz 5]] 2 81 false false)), (3, some (.raw [[.lf .bool, .smz 6]] 2 81 false false)), (4, some (.arr (.int .i64) 1 3 false)), (5, some (.arr (.int .i64) 1 3 false)), (6, some (.arr (.int .i64) 1 3 false))], nx := 7 }]
def qoi : List OS := [⟨some 0, { fr := [(2, .a (.ptr 0 0 0)), (3, .a (.ptr 1 0 0)), (4, .a (.ptr 2 0 0)), (5, .a (.ptr 3 0 0)), (6, .a (.smz 4)), (7, .a (.smz 5))], mem := [(0, some (.raw [[.lf .bool, .lf (.sl (.int .i64))]] 2 81 true false)), (1, some (.raw [[.lf .bool, .lf (.sl (.int .i64))]] 2 81 true false)), (2, some (.raw [[.lf .bool, .smz 6]] 2 81 false false)), (3, some (.raw [[.lf .bool, .smz 7]] 2 81 false false)), (4, some (.arr (.int .i64) 1 3 false)), (5, some (.arr (.int .i64) 1 3 false)), (6, some (.arr (.int .i64) 1 3 false)), (7, some (.arr (.int .i64) 1 3 false))], nx := 8 }⟩, ⟨some 0, { fr := [(2, .a (.ptr 0 0 0)), (3, .a (.ptr 1 0 0)), (4, .a (.ptr 2 0 0)), (5, .a (.ptr 3 0 0)), (6, .a (.smz 4)), (7, .a (.lf (.sl (.int .i64))))], mem := [(0, some (.raw [[.lf .bool, .lf (.sl (.int .i64))]] 2 81 true false)), (1, some (.raw [[.lf .bool, .lf (.sl (.int .i64))]] 2 81 true false)), (2, some (.raw [[.lf .bool, .smz 5]] 2 81 false false)), (3, some (.raw [[.lf .bool, .smz 6]] 2 81 false false)), (4, some (.arr (.int .i64) 1 3 false)), (5, some (.arr (.int .i64) 1 3 false)), (6, some (.arr (.int .i64) 1 3 false))], nx := 7 }⟩]
def qoj (k : Nat) : LInst := ⟨0, qjq, qoi, fun x => qI k k x⟩
theorem qC1 (k : Nat) : qg (LOk (R := DS OS.D qoi) (fun b _ σ K => LOt Ty (kps 121) 0 b σ K []) cf (call cf k) (kps 121) Tryz.f121.ntmps k 0) 0 (lb Tryz.f121 0) :=
 qA (qA qT (qA qT qT)) (qA (qA qT (qA qT (qA qT (qA (qA qT (qA qT qT)) qT)))) qT)
theorem qC2 (k n : Nat) (x : DS SS.D qjq) : qI k (n + 1) x = qD SS.enc (fun σ => qF cf (fun f a b K => COt f a b K [qew k, quU k, qeJ k, qec k, qpq k]) (fun b _ σ K => LOt Ty (kps 121) 0 b σ K []) Tryz.f121.ntmps 0 (lb Tryz.f121 0) σ (qH Ty (kps 121 0) 0 qjq qoi fun x => qI k n x)) qjq x := by kernel_rfl
theorem qC3 (k : Nat) : qY cf (call cf k) (kps 121) Tryz.f121.ntmps k 0 0 (lb Tryz.f121 0) (qoj k) :=
 qr (c := cf) (callF := call cf k) (kp := kps 121) (nt := Tryz.f121.ntmps) (k := k) (p := 0) (b := 0) (x0 := lb Tryz.f121 0) (hs := qjq) (os := qoi) (qd (qyT k)) (qC1 k) (fun n x => qI k n x) (fun _ => rfl) (qC2 k)
theorem qH4 (k : Nat) : qg (LOk (R := DS FS.D qrm) (fun b _ σ K => LOt Ty (kps 121) 0 b σ K [qoj k]) cf (call cf k) (cf.keep 121) Tryz.f121.ntmps k qk2.bs.length) 0 (bd Tryz.f121) :=
 qA qT (qA qT (qA qT (qA (qA qT (qw (c := cf) (callF := call cf k) (kp := kps 121) (nt := Tryz.f121.ntmps) (k := k) (p := 0) (b := 0) (x0 := lb Tryz.f121 0) (l := [qoj k]) (qA (fun _ => qC3 k) qT))) (qA qT (qA qT qT)))))
theorem qH5 (k : Nat) (x : qk2.D) : qas (k + 1) x.1 x.2.1 x.2.2.1 x.2.2.2 = qi cf (fun f a b K => COt f a b K [qew k, quU k, qeJ k, qec k, qpq k]) (fun b _ σ K => LOt Ty (kps 121) 0 b σ K [qoj k]) 121 Tryz.f121.ntmps Tryz.f121.results.toList (bd Tryz.f121) (qk2.enc x).1 (qk2.enc x).2 (qj FS.dec qrm) := by kernel_rfl
theorem qyU : ∀ k, qf (call cf k) (qpr k)
 | 0 => fun x y e => absurd (show (none : Option _) = some y from e) (by simp)
 | k + 1 => qe (c := cf) (k := k) (f := 121) (fn := Tryz.f121) (body := bd Tryz.f121) (sh := qk2) (os := qrm) rfl Tryz.func121 rfl ⟨rfl, Nat.le_of_ble_eq_true rfl⟩ (qd (qyT k)) (qH4 k) (fun x => qas (k + 1) x.1 x.2.1 x.2.2.1 x.2.2.2) (qH5 k)

def qcm (k : Nat) (rec : Bool → List Int → Bool → List Int → Bool → Nat → List Int → Option (Bool × List Int × Bool × List Int × Bool × Nat × List Int)) (a0 : Bool) (a1 : List Int) (b0 : Bool) (b1 : List Int) (x0 : Bool) (x1 : Nat) (m : List Int) : Option (Bool × List Int × Bool × List Int × Bool × Nat × List Int) :=
 if ((decide ((((List.length b1) : Nat) : Int) > (0 : Int))) = true) then
 Option.bind (qas k a0 a1 b0 b1) fun r13 =>
 rec b0 b1 r13.2.2.1 r13.2.2.2 x0 x1 m
 else
 (some (a0, a1, b0, b1, x0, x1, m))
def qaM (k n : Nat) : Bool → List Int → Bool → List Int → Bool → Nat → List Int → Option (Bool × List Int × Bool × List Int × Bool × Nat × List Int) := Nat.rec (fun _ _ _ _ _ _ _ => none) (fun _ r => qcm k r) n
def qjr (k : Nat) (a0 : Bool) (a1 : List Int) (b0 : Bool) (b1 : List Int) : Option (Bool × List Int) :=
 Option.bind (qaV k a0 a1) fun r11 =>
 Option.bind (qaV k b0 b1) fun r12 =>
 Option.bind (qaM k k r11.1 r11.2 r12.1 r12.2 false 0 []) fun r13 =>
 (some (r13.1, r13.2.1))
def qaZ : Nat → Bool → List Int → Bool → List Int → Option (Bool × List Int)
 | 0, _, _, _, _ => none
 | k + 1, a0, a1, b0, b1 => qjr k a0 a1 b0 b1
def qk3 : FS := { vs := [.g [.lf .bool, .lf (.sl (.int .i64))], .g [.lf .bool, .lf (.sl (.int .i64))]], bs := [] }
def qrn : List FS := [{ vs := [.g [.lf .bool, .lf (.sl (.int .i64))]], bs := [] }]
def qsx (k : Nat) : Inst := ⟨90, qk3, qrn, fun x => qaZ k x.1 x.2.1 x.2.2.1 x.2.2.2⟩
theorem qyV (k : Nat) : qk (call cf k) [quT k, qpr k] := qA (qHW k) (qA (qyU k) qT)
def qjs : List SS := [{ fr := [(2, .a (.ptr 0 0 0)), (3, .a (.ptr 1 0 0)), (4, .a (.ptr 2 0 0))], mem := [(0, some (.raw [[.lf .bool, .lf (.sl (.int .i64))]] 2 81 true false)), (1, some (.raw [[.lf .bool, .lf (.sl (.int .i64))]] 2 81 true false)), (2, some (.raw [[.lf .bool, .smz 3]] 2 81 false false)), (3, some (.arr (.int .i64) 1 3 false))], nx := 4 }]
def qok : List OS := [⟨some 0, { fr := [(2, .a (.ptr 0 0 0)), (4, .a (.ptr 2 0 0))], mem := [(0, some (.raw [[.lf .bool, .lf (.sl (.int .i64))]] 2 81 true false)), (1, some (.raw [[.lf .bool, .lf (.sl (.int .i64))]] 2 81 true false)), (2, some (.raw [[.lf .bool, .smz 3]] 2 81 false false)), (3, some (.arr (.int .i64) 1 3 false))], nx := 4 }⟩]
def qol (k : Nat) : LInst := ⟨0, qjs, qok, fun x => qaM k k x.1 x.2.1 x.2.2.1 x.2.2.2.1 x.2.2.2.2.1 x.2.2.2.2.2.1 x.2.2.2.2.2.2⟩
theorem qC4 (k : Nat) : qg (LOk (R := DS OS.D qok) (fun b _ σ K => LOt Ty (kps 90) 0 b σ K []) cf (call cf k) (kps 90) Tryz.f90.ntmps k 0) 0 (lb Tryz.f90 0) :=
 qA (qA qT (qA qT qT)) (qA qT qT)
theorem qC5 (k n : Nat) (x : DS SS.D qjs) : qaM k (n + 1) x.1 x.2.1 x.2.2.1 x.2.2.2.1 x.2.2.2.2.1 x.2.2.2.2.2.1 x.2.2.2.2.2.2 = qD SS.enc (fun σ => qF cf (fun f a b K => COt f a b K [quT k, qpr k]) (fun b _ σ K => LOt Ty (kps 90) 0 b σ K []) Tryz.f90.ntmps 0 (lb Tryz.f90 0) σ (qH Ty (kps 90 0) 0 qjs qok fun x => qaM k n x.1 x.2.1 x.2.2.1 x.2.2.2.1 x.2.2.2.2.1 x.2.2.2.2.2.1 x.2.2.2.2.2.2)) qjs x := by kernel_rfl
theorem qC6 (k : Nat) : qY cf (call cf k) (kps 90) Tryz.f90.ntmps k 0 0 (lb Tryz.f90 0) (qol k) :=
 qr (c := cf) (callF := call cf k) (kp := kps 90) (nt := Tryz.f90.ntmps) (k := k) (p := 0) (b := 0) (x0 := lb Tryz.f90 0) (hs := qjs) (os := qok) (qd (qyV k)) (qC4 k) (fun n x => qaM k n x.1 x.2.1 x.2.2.1 x.2.2.2.1 x.2.2.2.2.1 x.2.2.2.2.2.1 x.2.2.2.2.2.2) (fun _ => rfl) (qC5 k)
theorem qH6 (k : Nat) : qg (LOk (R := DS FS.D qrn) (fun b _ σ K => LOt Ty (kps 90) 0 b σ K [qol k]) cf (call cf k) (cf.keep 90) Tryz.f90.ntmps k qk3.bs.length) 0 (bd Tryz.f90) :=
 qA qT (qA qT (qA (qw (c := cf) (callF := call cf k) (kp := kps 90) (nt := Tryz.f90.ntmps) (k := k) (p := 0) (b := 0) (x0 := lb Tryz.f90 0) (l := [qol k]) (qA (fun _ => qC6 k) qT)) (qA qT qT)))
theorem qH7 (k : Nat) (x : qk3.D) : qaZ (k + 1) x.1 x.2.1 x.2.2.1 x.2.2.2 = qi cf (fun f a b K => COt f a b K [quT k, qpr k]) (fun b _ σ K => LOt Ty (kps 90) 0 b σ K [qol k]) 90 Tryz.f90.ntmps Tryz.f90.results.toList (bd Tryz.f90) (qk3.enc x).1 (qk3.enc x).2 (qj FS.dec qrn) := by kernel_rfl
theorem qyW : ∀ k, qf (call cf k) (qsx k)
 | 0 => fun x y e => absurd (show (none : Option _) = some y from e) (by simp)
 | k + 1 => qe (c := cf) (k := k) (f := 90) (fn := Tryz.f90) (body := bd Tryz.f90) (sh := qk3) (os := qrn) rfl Tryz.func90 rfl ⟨rfl, Nat.le_of_ble_eq_true rfl⟩ (qd (qyV k)) (qH6 k) (fun x => qaZ (k + 1) x.1 x.2.1 x.2.2.1 x.2.2.2) (qH7 k)

def qdf (k : Nat) (num0 : Bool) (num1 : List Int) (den0 : Bool) (den1 : List Int) : Option (Bool × List Int × Bool × List Int) :=
 Option.bind (qb5 k den0 den1) fun r8 =>
 if ((decide (r8 < (0 : Int))) = true) then
 Option.bind (qaF k num0 num1) fun r9 =>
 Option.bind (qaF k den0 den1) fun r10 =>
 Option.bind (qaZ k r9.1 r9.2 r10.1 r10.2) fun r11 =>
 Option.bind (qas k r9.1 r9.2 r11.1 r11.2) fun r12 =>
 Option.bind (qas k r10.1 r10.2 r11.1 r11.2) fun r13 =>
 (some (r12.1, r12.2.1, r13.1, r13.2.1))
 else
 Option.bind (qaZ k num0 num1 den0 den1) fun r9 =>
 Option.bind (qas k num0 num1 r9.1 r9.2) fun r10 =>
 Option.bind (qas k den0 den1 r9.1 r9.2) fun r11 =>
 (some (r10.1, r10.2.1, r11.1, r11.2.1))
def qaN : Nat → Bool → List Int → Bool → List Int → Option (Bool × List Int × Bool × List Int)
 | 0, _, _, _, _ => none
 | k + 1, num0, num1, den0, den1 => qdf k num0 num1 den0 den1
def qk4 : FS := { vs := [.g [.lf .bool, .lf (.sl (.int .i64))], .g [.lf .bool, .lf (.sl (.int .i64))]], bs := [] }
def qro : List FS := [{ vs := [.g [.lf .bool, .lf (.sl (.int .i64)), .lf .bool, .lf (.sl (.int .i64))]], bs := [] }]
def ql9 (k : Nat) : Inst := ⟨95, qk4, qro, fun x => qaN k x.1 x.2.1 x.2.2.1 x.2.2.2⟩
theorem qH8 (k : Nat) : qk (call cf k) [qsw k, ql8 k, qsx k, qpr k] := qA (qyN k) (qA (quS k) (qA (qyW k) (qA (qyU k) qT)))
theorem qH9 (k : Nat) : qg (LOk (R := DS FS.D qro) (fun b _ σ K => LOt Ty (kps 95) 0 b σ K []) cf (call cf k) (cf.keep 95) Tryz.f95.ntmps k qk4.bs.length) 0 (bd Tryz.f95) :=
 qA qT (qA (qA qT (qA qT qT)) (qA qT (qA qT (qA qT (qA qT qT)))))
theorem qIa (k : Nat) (x : qk4.D) : qaN (k + 1) x.1 x.2.1 x.2.2.1 x.2.2.2 = qi cf (fun f a b K => COt f a b K [qsw k, ql8 k, qsx k, qpr k]) (fun b _ σ K => LOt Ty (kps 95) 0 b σ K []) 95 Tryz.f95.ntmps Tryz.f95.results.toList (bd Tryz.f95) (qk4.enc x).1 (qk4.enc x).2 (qj FS.dec qro) := by kernel_rfl
theorem quV : ∀ k, qf (call cf k) (ql9 k)
 | 0 => fun x y e => absurd (show (none : Option _) = some y from e) (by simp)
 | k + 1 => qe (c := cf) (k := k) (f := 95) (fn := Tryz.f95) (body := bd Tryz.f95) (sh := qk4) (os := qro) rfl Tryz.func95 rfl ⟨rfl, Nat.le_of_ble_eq_true rfl⟩ (qd (qH8 k)) (qH9 k) (fun x => qaN (k + 1) x.1 x.2.1 x.2.2.1 x.2.2.2) (qIa k)

def qhp (k : Nat) (n0 : Int) (n1 : Int) : Option (Bool × List Int × Bool × List Int) :=
 Option.bind (qbB k n0) fun r6 =>
 if ((decide (n1 < (0 : Int))) = true) then
 Option.bind (qbP k (IntKind.wrap .i64 ((0 : Int) - n1))) fun r7 =>
 Option.bind (qaN k r6.1 r6.2 r7.1 r7.2) fun r8 =>
 (some (r8.1, r8.2.1, r8.2.2.1, r8.2.2.2))
 else
 Option.bind (qbP k n1) fun r7 =>
 Option.bind (qz k r6.1 r6.2 r7.1 r7.2) fun r8 =>
 Option.bind (qL k (1 : Int)) fun r9 =>
 (some (r8.1, r8.2, r9.1, r9.2))
def qaJ : Nat → Int → Int → Option (Bool × List Int × Bool × List Int)
 | 0, _, _ => none
 | k + 1, n0, n1 => qhp k n0 n1
def qhq : FS := { vs := [.g [.lf (.int .i64), .lf (.int .i64)]], bs := [] }
def qom : List FS := [{ vs := [.g [.lf .bool, .lf (.sl (.int .i64)), .lf .bool, .lf (.sl (.int .i64))]], bs := [] }]
def qgg (k : Nat) : Inst := ⟨49, qhq, qom, fun x => qaJ k x.1 x.2⟩
theorem qC7 (k : Nat) : qk (call cf k) [qsv k, quR k, ql9 k, qec k, qeJ k] := qA (qyK k) (qA (qCR k) (qA (quV k) (qA (qic k) (qA (qkT k) qT))))
theorem qC8 (k : Nat) : qg (LOk (R := DS FS.D qom) (fun b _ σ K => LOt Ty (kps 49) 0 b σ K []) cf (call cf k) (cf.keep 49) Tryz.f49.ntmps k qhq.bs.length) 0 (bd Tryz.f49) :=
 qA qT (qA qT (qA (qA qT (qA (qA qT qT) qT)) (qA qT qT)))
theorem qC9 (k : Nat) (x : qhq.D) : qaJ (k + 1) x.1 x.2 = qi cf (fun f a b K => COt f a b K [qsv k, quR k, ql9 k, qec k, qeJ k]) (fun b _ σ K => LOt Ty (kps 49) 0 b σ K []) 49 Tryz.f49.ntmps Tryz.f49.results.toList (bd Tryz.f49) (qhq.enc x).1 (qhq.enc x).2 (qj FS.dec qom) := by kernel_rfl
theorem qsy : ∀ k, qf (call cf k) (qgg k)
 | 0 => fun x y e => absurd (show (none : Option _) = some y from e) (by simp)
 | k + 1 => qe (c := cf) (k := k) (f := 49) (fn := Tryz.f49) (body := bd Tryz.f49) (sh := qhq) (os := qom) rfl Tryz.func49 rfl ⟨rfl, Nat.le_of_ble_eq_true rfl⟩ (qd (qC7 k)) (qC8 k) (fun x => qaJ (k + 1) x.1 x.2) (qC9 k)

def qbh (k : Nat) (rec : List Int → List Int → Nat → Int → Int → List Int → Option (Nat × List Int)) (a : List Int) (b : List Int) (d : Nat) (carry : Int) (i : Int) (ds : List Int) : Option (Nat × List Int) :=
 if ((decide (i < (((List.length a) : Nat) : Int))) = false) then
 if ((decide (i < (((List.length b) : Nat) : Int))) = false) then
 if ((decide (carry > (0 : Int))) = true) then
 if ((decide (i < (((List.length a) : Nat) : Int))) = true) then
 if ((0 : Int) ≤ i) then
 Option.bind (a)[(Int.toNat i)]? fun x3 =>
 if ((decide (i < (((List.length b) : Nat) : Int))) = true) then
 if ((0 : Int) ≤ i) then
 Option.bind (b)[(Int.toNat i)]? fun x4 =>
 if (d ≤ (List.length ds)) then
 if (((d + (List.length (List.take 1 ((Int.tmod (IntKind.wrap .i64 ((IntKind.wrap .i64 (carry + x3)) + x4)) (65536 : Int)) :: [])))) * 8) ≤ 140737488355328) then
 rec a b (d + (List.length (List.take 1 ((Int.tmod (IntKind.wrap .i64 ((IntKind.wrap .i64 (carry + x3)) + x4)) (65536 : Int)) :: [])))) (IntKind.wrap .i64 (Int.tdiv (IntKind.wrap .i64 ((IntKind.wrap .i64 (carry + x3)) + x4)) (65536 : Int))) (IntKind.wrap .i64 (i + (1 : Int))) ((List.take d ds) ++ (List.take 1 ((Int.tmod (IntKind.wrap .i64 ((IntKind.wrap .i64 (carry + x3)) + x4)) (65536 : Int)) :: [])))
 else
 none
 else
 none
 else
 none
 else
 if (d ≤ (List.length ds)) then
 if (((d + (List.length (List.take 1 ((Int.tmod (IntKind.wrap .i64 (carry + x3)) (65536 : Int)) :: [])))) * 8) ≤ 140737488355328) then
 rec a b (d + (List.length (List.take 1 ((Int.tmod (IntKind.wrap .i64 (carry + x3)) (65536 : Int)) :: [])))) (IntKind.wrap .i64 (Int.tdiv (IntKind.wrap .i64 (carry + x3)) (65536 : Int))) (IntKind.wrap .i64 (i + (1 : Int))) ((List.take d ds) ++ (List.take 1 ((Int.tmod (IntKind.wrap .i64 (carry + x3)) (65536 : Int)) :: [])))
 else
 none
 else
 none
 else
 none
 else
 if ((decide (i < (((List.length b) : Nat) : Int))) = true) then
 if ((0 : Int) ≤ i) then
 Option.bind (b)[(Int.toNat i)]? fun x3 =>
 if (d ≤ (List.length ds)) then
 if (((d + (List.length (List.take 1 ((Int.tmod (IntKind.wrap .i64 (carry + x3)) (65536 : Int)) :: [])))) * 8) ≤ 140737488355328) then
 rec a b (d + (List.length (List.take 1 ((Int.tmod (IntKind.wrap .i64 (carry + x3)) (65536 : Int)) :: [])))) (IntKind.wrap .i64 (Int.tdiv (IntKind.wrap .i64 (carry + x3)) (65536 : Int))) (IntKind.wrap .i64 (i + (1 : Int))) ((List.take d ds) ++ (List.take 1 ((Int.tmod (IntKind.wrap .i64 (carry + x3)) (65536 : Int)) :: [])))
 else
 none
 else
 none
 else
 none
 else
 if (d ≤ (List.length ds)) then
 if (((d + (List.length (List.take 1 ((Int.tmod carry (65536 : Int)) :: [])))) * 8) ≤ 140737488355328) then
 rec a b (d + (List.length (List.take 1 ((Int.tmod carry (65536 : Int)) :: [])))) (IntKind.wrap .i64 (Int.tdiv carry (65536 : Int))) (IntKind.wrap .i64 (i + (1 : Int))) ((List.take d ds) ++ (List.take 1 ((Int.tmod carry (65536 : Int)) :: [])))
 else
 none
 else
 none
 else
 (some (d, ds))
 else
 if ((decide (i < (((List.length a) : Nat) : Int))) = true) then
 if ((0 : Int) ≤ i) then
 Option.bind (a)[(Int.toNat i)]? fun x3 =>
 if ((decide (i < (((List.length b) : Nat) : Int))) = true) then
 if ((0 : Int) ≤ i) then
 Option.bind (b)[(Int.toNat i)]? fun x4 =>
 if (d ≤ (List.length ds)) then
 if (((d + (List.length (List.take 1 ((Int.tmod (IntKind.wrap .i64 ((IntKind.wrap .i64 (carry + x3)) + x4)) (65536 : Int)) :: [])))) * 8) ≤ 140737488355328) then
 rec a b (d + (List.length (List.take 1 ((Int.tmod (IntKind.wrap .i64 ((IntKind.wrap .i64 (carry + x3)) + x4)) (65536 : Int)) :: [])))) (IntKind.wrap .i64 (Int.tdiv (IntKind.wrap .i64 ((IntKind.wrap .i64 (carry + x3)) + x4)) (65536 : Int))) (IntKind.wrap .i64 (i + (1 : Int))) ((List.take d ds) ++ (List.take 1 ((Int.tmod (IntKind.wrap .i64 ((IntKind.wrap .i64 (carry + x3)) + x4)) (65536 : Int)) :: [])))
 else
 none
 else
 none
 else
 none
 else
 if (d ≤ (List.length ds)) then
 if (((d + (List.length (List.take 1 ((Int.tmod (IntKind.wrap .i64 (carry + x3)) (65536 : Int)) :: [])))) * 8) ≤ 140737488355328) then
 rec a b (d + (List.length (List.take 1 ((Int.tmod (IntKind.wrap .i64 (carry + x3)) (65536 : Int)) :: [])))) (IntKind.wrap .i64 (Int.tdiv (IntKind.wrap .i64 (carry + x3)) (65536 : Int))) (IntKind.wrap .i64 (i + (1 : Int))) ((List.take d ds) ++ (List.take 1 ((Int.tmod (IntKind.wrap .i64 (carry + x3)) (65536 : Int)) :: [])))
 else
 none
 else
 none
 else
 none
 else
 if ((decide (i < (((List.length b) : Nat) : Int))) = true) then
 if ((0 : Int) ≤ i) then
 Option.bind (b)[(Int.toNat i)]? fun x3 =>
 if (d ≤ (List.length ds)) then
 if (((d + (List.length (List.take 1 ((Int.tmod (IntKind.wrap .i64 (carry + x3)) (65536 : Int)) :: [])))) * 8) ≤ 140737488355328) then
 rec a b (d + (List.length (List.take 1 ((Int.tmod (IntKind.wrap .i64 (carry + x3)) (65536 : Int)) :: [])))) (IntKind.wrap .i64 (Int.tdiv (IntKind.wrap .i64 (carry + x3)) (65536 : Int))) (IntKind.wrap .i64 (i + (1 : Int))) ((List.take d ds) ++ (List.take 1 ((Int.tmod (IntKind.wrap .i64 (carry + x3)) (65536 : Int)) :: [])))
 else
 none
 else
 none
 else
 none
 else
 if (d ≤ (List.length ds)) then
 if (((d + (List.length (List.take 1 ((Int.tmod carry (65536 : Int)) :: [])))) * 8) ≤ 140737488355328) then
 rec a b (d + (List.length (List.take 1 ((Int.tmod carry (65536 : Int)) :: [])))) (IntKind.wrap .i64 (Int.tdiv carry (65536 : Int))) (IntKind.wrap .i64 (i + (1 : Int))) ((List.take d ds) ++ (List.take 1 ((Int.tmod carry (65536 : Int)) :: [])))
 else
 none
 else
 none
 else
 if ((decide (i < (((List.length a) : Nat) : Int))) = true) then
 if ((0 : Int) ≤ i) then
 Option.bind (a)[(Int.toNat i)]? fun x3 =>
 if ((decide (i < (((List.length b) : Nat) : Int))) = true) then
 if ((0 : Int) ≤ i) then
 Option.bind (b)[(Int.toNat i)]? fun x4 =>
 if (d ≤ (List.length ds)) then
 if (((d + (List.length (List.take 1 ((Int.tmod (IntKind.wrap .i64 ((IntKind.wrap .i64 (carry + x3)) + x4)) (65536 : Int)) :: [])))) * 8) ≤ 140737488355328) then
 rec a b (d + (List.length (List.take 1 ((Int.tmod (IntKind.wrap .i64 ((IntKind.wrap .i64 (carry + x3)) + x4)) (65536 : Int)) :: [])))) (IntKind.wrap .i64 (Int.tdiv (IntKind.wrap .i64 ((IntKind.wrap .i64 (carry + x3)) + x4)) (65536 : Int))) (IntKind.wrap .i64 (i + (1 : Int))) ((List.take d ds) ++ (List.take 1 ((Int.tmod (IntKind.wrap .i64 ((IntKind.wrap .i64 (carry + x3)) + x4)) (65536 : Int)) :: [])))
 else
 none
 else
 none
 else
 none
 else
 if (d ≤ (List.length ds)) then
 if (((d + (List.length (List.take 1 ((Int.tmod (IntKind.wrap .i64 (carry + x3)) (65536 : Int)) :: [])))) * 8) ≤ 140737488355328) then
 rec a b (d + (List.length (List.take 1 ((Int.tmod (IntKind.wrap .i64 (carry + x3)) (65536 : Int)) :: [])))) (IntKind.wrap .i64 (Int.tdiv (IntKind.wrap .i64 (carry + x3)) (65536 : Int))) (IntKind.wrap .i64 (i + (1 : Int))) ((List.take d ds) ++ (List.take 1 ((Int.tmod (IntKind.wrap .i64 (carry + x3)) (65536 : Int)) :: [])))
 else
 none
 else
 none
 else
 none
 else
 if ((decide (i < (((List.length b) : Nat) : Int))) = true) then
 if ((0 : Int) ≤ i) then
 Option.bind (b)[(Int.toNat i)]? fun x3 =>
 if (d ≤ (List.length ds)) then
 if (((d + (List.length (List.take 1 ((Int.tmod (IntKind.wrap .i64 (carry + x3)) (65536 : Int)) :: [])))) * 8) ≤ 140737488355328) then
 rec a b (d + (List.length (List.take 1 ((Int.tmod (IntKind.wrap .i64 (carry + x3)) (65536 : Int)) :: [])))) (IntKind.wrap .i64 (Int.tdiv (IntKind.wrap .i64 (carry + x3)) (65536 : Int))) (IntKind.wrap .i64 (i + (1 : Int))) ((List.take d ds) ++ (List.take 1 ((Int.tmod (IntKind.wrap .i64 (carry + x3)) (65536 : Int)) :: [])))
 else
 none
 else
 none
 else
 none
 else
 if (d ≤ (List.length ds)) then
 if (((d + (List.length (List.take 1 ((Int.tmod carry (65536 : Int)) :: [])))) * 8) ≤ 140737488355328) then
 rec a b (d + (List.length (List.take 1 ((Int.tmod carry (65536 : Int)) :: [])))) (IntKind.wrap .i64 (Int.tdiv carry (65536 : Int))) (IntKind.wrap .i64 (i + (1 : Int))) ((List.take d ds) ++ (List.take 1 ((Int.tmod carry (65536 : Int)) :: [])))
 else
 none
 else
 none
def qad (k n : Nat) : List Int → List Int → Nat → Int → Int → List Int → Option (Nat × List Int) := Nat.rec (fun _ _ _ _ _ _ => none) (fun _ r => qbh k r) n
def qfg (k : Nat) (a : List Int) (b : List Int) : Option (List Int) :=
 Option.bind (qad k k a b 0 (0 : Int) (0 : Int) []) fun r11 =>
 Option.bind (qB k r11.1 r11.2) fun r12 =>
 if ((0 + r12.1) ≤ (List.length r12.2)) then
 (some (List.take r12.1 r12.2))
 else
 none
def qb7 : Nat → List Int → List Int → Option (List Int)
 | 0, _, _ => none
 | k + 1, a, b => qfg k a b
def qk5 : FS := { vs := [.a (.lf (.sl (.int .i64))), .a (.lf (.sl (.int .i64)))], bs := [] }
def qrp : List FS := [{ vs := [.a (.lf (.sl (.int .i64)))], bs := [] }]
def qxF (k : Nat) : Inst := ⟨133, qk5, qrp, fun x => qb7 k x.1 x.2⟩
theorem qyX (k : Nat) : qk (call cf k) [qew k] := qA (qn4 k) qT
def qjt : List SS := [{ fr := [(0, .a (.lf (.sl (.int .i64)))), (1, .a (.lf (.sl (.int .i64)))), (5, .a (.smz 0)), (6, .a (.lf (.int .i64))), (7, .a (.lf (.int .i64)))], mem := [(0, some (.arr (.int .i64) 1 3 false))], nx := 1 }]
def qon : List OS := [⟨some 0, { fr := [(5, .a (.smz 0))], mem := [(0, some (.arr (.int .i64) 1 3 false))], nx := 1 }⟩]
def qoo (k : Nat) : LInst := ⟨0, qjt, qon, fun x => qad k k x.1 x.2.1 x.2.2.1 x.2.2.2.1 x.2.2.2.2.1 x.2.2.2.2.2⟩
theorem qDa (k : Nat) : qg (LOk (R := DS OS.D qon) (fun b _ σ K => LOt Ty (kps 133) 0 b σ K []) cf (call cf k) (kps 133) Tryz.f133.ntmps k 0) 0 (lb Tryz.f133 0) :=
 qA (qA qT (qA qT qT)) (qA (qA qT (qA (qA qT (qA qT qT)) (qA (qA qT (qA qT qT)) (qA qT qT)))) qT)
theorem qDb (k n : Nat) (x : DS SS.D qjt) : qad k (n + 1) x.1 x.2.1 x.2.2.1 x.2.2.2.1 x.2.2.2.2.1 x.2.2.2.2.2 = qD SS.enc (fun σ => qF cf (fun f a b K => COt f a b K [qew k]) (fun b _ σ K => LOt Ty (kps 133) 0 b σ K []) Tryz.f133.ntmps 0 (lb Tryz.f133 0) σ (qH Ty (kps 133 0) 0 qjt qon fun x => qad k n x.1 x.2.1 x.2.2.1 x.2.2.2.1 x.2.2.2.2.1 x.2.2.2.2.2)) qjt x := by kernel_rfl
theorem qDc (k : Nat) : qY cf (call cf k) (kps 133) Tryz.f133.ntmps k 0 0 (lb Tryz.f133 0) (qoo k) :=
 qr (c := cf) (callF := call cf k) (kp := kps 133) (nt := Tryz.f133.ntmps) (k := k) (p := 0) (b := 0) (x0 := lb Tryz.f133 0) (hs := qjt) (os := qon) (qd (qyX k)) (qDa k) (fun n x => qad k n x.1 x.2.1 x.2.2.1 x.2.2.2.1 x.2.2.2.2.1 x.2.2.2.2.2) (fun _ => rfl) (qDb k)
theorem qIb (k : Nat) : qg (LOk (R := DS FS.D qrp) (fun b _ σ K => LOt Ty (kps 133) 0 b σ K [qoo k]) cf (call cf k) (cf.keep 133) Tryz.f133.ntmps k qk5.bs.length) 0 (bd Tryz.f133) :=
 qA qT (qA qT (qA qT (qA (qA qT (qw (c := cf) (callF := call cf k) (kp := kps 133) (nt := Tryz.f133.ntmps) (k := k) (p := 0) (b := 0) (x0 := lb Tryz.f133 0) (l := [qoo k]) (qA (fun _ => qDc k) qT))) (qA qT qT))))
theorem qIc (k : Nat) (x : qk5.D) : qb7 (k + 1) x.1 x.2 = qi cf (fun f a b K => COt f a b K [qew k]) (fun b _ σ K => LOt Ty (kps 133) 0 b σ K [qoo k]) 133 Tryz.f133.ntmps Tryz.f133.results.toList (bd Tryz.f133) (qk5.enc x).1 (qk5.enc x).2 (qj FS.dec qrp) := by kernel_rfl
theorem qId : ∀ k, qf (call cf k) (qxF k)
 | 0 => fun x y e => absurd (show (none : Option _) = some y from e) (by simp)
 | k + 1 => qe (c := cf) (k := k) (f := 133) (fn := Tryz.f133) (body := bd Tryz.f133) (sh := qk5) (os := qrp) rfl Tryz.func133 rfl ⟨rfl, Nat.le_of_ble_eq_true rfl⟩ (qd (qyX k)) (qIb k) (fun x => qb7 (k + 1) x.1 x.2) (qIc k)

def qb8 (k : Nat) (a0 : Bool) (a1 : List Int) (b0 : Bool) (b1 : List Int) : Option (Bool × List Int) :=
 if ((a0 == b0) = true) then
 Option.bind (qb7 k a1 b1) fun r11 =>
 if (a0 = true) then
 (some ((decide ((((List.length r11) : Nat) : Int) > (0 : Int))), r11))
 else
 (some (false, r11))
 else
 Option.bind (qb6 k a1 b1) fun r11 =>
 if ((decide (r11 ≥ (0 : Int))) = true) then
 Option.bind (qan k a1 b1) fun r12 =>
 if (a0 = true) then
 (some ((decide ((((List.length r12) : Nat) : Int) > (0 : Int))), r12))
 else
 (some (false, r12))
 else
 Option.bind (qan k b1 a1) fun r12 =>
 (some (b0, r12))
def qa4 : Nat → Bool → List Int → Bool → List Int → Option (Bool × List Int)
 | 0, _, _, _, _ => none
 | k + 1, a0, a1, b0, b1 => qb8 k a0 a1 b0 b1
def qk6 : FS := { vs := [.g [.lf .bool, .lf (.sl (.int .i64))], .g [.lf .bool, .lf (.sl (.int .i64))]], bs := [] }
def qrq : List FS := [{ vs := [.g [.lf .bool, .lf (.sl (.int .i64))]], bs := [] }]
def qsz (k : Nat) : Inst := ⟨115, qk6, qrq, fun x => qa4 k x.1 x.2.1 x.2.2.1 x.2.2.2⟩
theorem qIe (k : Nat) : qk (call cf k) [qxF k, qpp k, qpq k] := qA (qId k) (qA (qyP k) (qA (qyS k) qT))
theorem qIf (k : Nat) : qg (LOk (R := DS FS.D qrq) (fun b _ σ K => LOt Ty (kps 115) 0 b σ K []) cf (call cf k) (cf.keep 115) Tryz.f115.ntmps k qk6.bs.length) 0 (bd Tryz.f115) :=
 qA qT (qA (qA qT (qA (qA qT (qA qT qT)) qT)) (qA (qA qT (qA (qA qT (qA qT qT)) qT)) (qA qT qT)))
theorem qIg (k : Nat) (x : qk6.D) : qa4 (k + 1) x.1 x.2.1 x.2.2.1 x.2.2.2 = qi cf (fun f a b K => COt f a b K [qxF k, qpp k, qpq k]) (fun b _ σ K => LOt Ty (kps 115) 0 b σ K []) 115 Tryz.f115.ntmps Tryz.f115.results.toList (bd Tryz.f115) (qk6.enc x).1 (qk6.enc x).2 (qj FS.dec qrq) := by kernel_rfl
theorem qyY : ∀ k, qf (call cf k) (qsz k)
 | 0 => fun x y e => absurd (show (none : Option _) = some y from e) (by simp)
 | k + 1 => qe (c := cf) (k := k) (f := 115) (fn := Tryz.f115) (body := bd Tryz.f115) (sh := qk6) (os := qrq) rfl Tryz.func115 rfl ⟨rfl, Nat.le_of_ble_eq_true rfl⟩ (qd (qIe k)) (qIf k) (fun x => qa4 (k + 1) x.1 x.2.1 x.2.2.1 x.2.2.2) (qIg k)

def qma (k : Nat) (a0 : Bool) (a1 : List Int) (b0 : Bool) (b1 : List Int) : Option (Bool × List Int) :=
 Option.bind (qaF k b0 b1) fun r10 =>
 Option.bind (qa4 k a0 a1 r10.1 r10.2) fun r11 =>
 (some (r11.1, r11.2))
def qc3 : Nat → Bool → List Int → Bool → List Int → Option (Bool × List Int)
 | 0, _, _, _, _ => none
 | k + 1, a0, a1, b0, b1 => qma k a0 a1 b0 b1
def qk7 : FS := { vs := [.g [.lf .bool, .lf (.sl (.int .i64))], .g [.lf .bool, .lf (.sl (.int .i64))]], bs := [] }
def qrr : List FS := [{ vs := [.g [.lf .bool, .lf (.sl (.int .i64))]], bs := [] }]
def qxG (k : Nat) : Inst := ⟨119, qk7, qrr, fun x => qc3 k x.1 x.2.1 x.2.2.1 x.2.2.2⟩
theorem qIh (k : Nat) : qk (call cf k) [ql8 k, qsz k] := qA (quS k) (qA (qyY k) qT)
theorem qIi (k : Nat) : qg (LOk (R := DS FS.D qrr) (fun b _ σ K => LOt Ty (kps 119) 0 b σ K []) cf (call cf k) (cf.keep 119) Tryz.f119.ntmps k qk7.bs.length) 0 (bd Tryz.f119) :=
 qA qT (qA qT qT)
theorem qIj (k : Nat) (x : qk7.D) : qc3 (k + 1) x.1 x.2.1 x.2.2.1 x.2.2.2 = qi cf (fun f a b K => COt f a b K [ql8 k, qsz k]) (fun b _ σ K => LOt Ty (kps 119) 0 b σ K []) 119 Tryz.f119.ntmps Tryz.f119.results.toList (bd Tryz.f119) (qk7.enc x).1 (qk7.enc x).2 (qj FS.dec qrr) := by kernel_rfl
theorem qIk : ∀ k, qf (call cf k) (qxG k)
 | 0 => fun x y e => absurd (show (none : Option _) = some y from e) (by simp)
 | k + 1 => qe (c := cf) (k := k) (f := 119) (fn := Tryz.f119) (body := bd Tryz.f119) (sh := qk7) (os := qrr) rfl Tryz.func119 rfl ⟨rfl, Nat.le_of_ble_eq_true rfl⟩ (qd (qIh k)) (qIi k) (fun x => qc3 (k + 1) x.1 x.2.1 x.2.2.1 x.2.2.2) (qIj k)

def qmb (k : Nat) (a0 : Bool) (a1 : List Int) (b0 : Bool) (b1 : List Int) : Option (Int) :=
 Option.bind (qc3 k a0 a1 b0 b1) fun r10 =>
 Option.bind (qb5 k r10.1 r10.2) fun r11 =>
 (some r11)
def qb9 : Nat → Bool → List Int → Bool → List Int → Option (Int)
 | 0, _, _, _, _ => none
 | k + 1, a0, a1, b0, b1 => qmb k a0 a1 b0 b1
def qk8 : FS := { vs := [.g [.lf .bool, .lf (.sl (.int .i64))], .g [.lf .bool, .lf (.sl (.int .i64))]], bs := [] }
def qrs : List FS := [{ vs := [.a (.lf (.int .i64))], bs := [] }]
def qsA (k : Nat) : Inst := ⟨89, qk8, qrs, fun x => qb9 k x.1 x.2.1 x.2.2.1 x.2.2.2⟩
theorem qIl (k : Nat) : qk (call cf k) [qxG k, qsw k] := qA (qIk k) (qA (qyN k) qT)
theorem qIm (k : Nat) : qg (LOk (R := DS FS.D qrs) (fun b _ σ K => LOt Ty (kps 89) 0 b σ K []) cf (call cf k) (cf.keep 89) Tryz.f89.ntmps k qk8.bs.length) 0 (bd Tryz.f89) :=
 qA qT (qA qT qT)
theorem qIn (k : Nat) (x : qk8.D) : qb9 (k + 1) x.1 x.2.1 x.2.2.1 x.2.2.2 = qi cf (fun f a b K => COt f a b K [qxG k, qsw k]) (fun b _ σ K => LOt Ty (kps 89) 0 b σ K []) 89 Tryz.f89.ntmps Tryz.f89.results.toList (bd Tryz.f89) (qk8.enc x).1 (qk8.enc x).2 (qj FS.dec qrs) := by kernel_rfl
theorem qyZ : ∀ k, qf (call cf k) (qsA k)
 | 0 => fun x y e => absurd (show (none : Option _) = some y from e) (by simp)
 | k + 1 => qe (c := cf) (k := k) (f := 89) (fn := Tryz.f89) (body := bd Tryz.f89) (sh := qk8) (os := qrs) rfl Tryz.func89 rfl ⟨rfl, Nat.le_of_ble_eq_true rfl⟩ (qd (qIl k)) (qIm k) (fun x => qb9 (k + 1) x.1 x.2.1 x.2.2.1 x.2.2.2) (qIn k)

def qmc (k : Nat) (a0 : Bool) (a1 : List Int) (a2 : Bool) (a3 : List Int) (b0 : Bool) (b1 : List Int) (b2 : Bool) (b3 : List Int) : Option (Int) :=
 Option.bind (qz k a0 a1 b2 b3) fun r8 =>
 Option.bind (qz k b0 b1 a2 a3) fun r9 =>
 Option.bind (qb9 k r8.1 r8.2 r9.1 r9.2) fun r10 =>
 (some r10)
def qaB : Nat → Bool → List Int → Bool → List Int → Bool → List Int → Bool → List Int → Option (Int)
 | 0, _, _, _, _, _, _, _, _ => none
 | k + 1, a0, a1, a2, a3, b0, b1, b2, b3 => qmc k a0 a1 a2 a3 b0 b1 b2 b3
def qk9 : FS := { vs := [.g [.lf .bool, .lf (.sl (.int .i64)), .lf .bool, .lf (.sl (.int .i64))], .g [.lf .bool, .lf (.sl (.int .i64)), .lf .bool, .lf (.sl (.int .i64))]], bs := [] }
def qrt : List FS := [{ vs := [.a (.lf (.int .i64))], bs := [] }]
def qmd (k : Nat) : Inst := ⟨48, qk9, qrt, fun x => qaB k x.1 x.2.1 x.2.2.1 x.2.2.2.1 x.2.2.2.2.1 x.2.2.2.2.2.1 x.2.2.2.2.2.2.1 x.2.2.2.2.2.2.2⟩
theorem qIo (k : Nat) : qk (call cf k) [qec k, qsA k] := qA (qic k) (qA (qyZ k) qT)
theorem qIp (k : Nat) : qg (LOk (R := DS FS.D qrt) (fun b _ σ K => LOt Ty (kps 48) 0 b σ K []) cf (call cf k) (cf.keep 48) Tryz.f48.ntmps k qk9.bs.length) 0 (bd Tryz.f48) :=
 qA qT (qA qT qT)
theorem qIq (k : Nat) (x : qk9.D) : qaB (k + 1) x.1 x.2.1 x.2.2.1 x.2.2.2.1 x.2.2.2.2.1 x.2.2.2.2.2.1 x.2.2.2.2.2.2.1 x.2.2.2.2.2.2.2 = qi cf (fun f a b K => COt f a b K [qec k, qsA k]) (fun b _ σ K => LOt Ty (kps 48) 0 b σ K []) 48 Tryz.f48.ntmps Tryz.f48.results.toList (bd Tryz.f48) (qk9.enc x).1 (qk9.enc x).2 (qj FS.dec qrt) := by kernel_rfl
theorem qy0 : ∀ k, qf (call cf k) (qmd k)
 | 0 => fun x y e => absurd (show (none : Option _) = some y from e) (by simp)
 | k + 1 => qe (c := cf) (k := k) (f := 48) (fn := Tryz.f48) (body := bd Tryz.f48) (sh := qk9) (os := qrt) rfl Tryz.func48 rfl ⟨rfl, Nat.le_of_ble_eq_true rfl⟩ (qd (qIo k)) (qIp k) (fun x => qaB (k + 1) x.1 x.2.1 x.2.2.1 x.2.2.2.1 x.2.2.2.2.1 x.2.2.2.2.2.1 x.2.2.2.2.2.2.1 x.2.2.2.2.2.2.2) (qIq k)

def qa5 (k : Nat) (rec : Int → ByteArray → Int → List (Int × Int) → List (Int × Int) → Option ((Bool × ByteArray × Int × List (Int × Int) × List (Int × Int)) ⊕ (ByteArray × Int × List (Int × Int) × List (Int × Int)))) (i : Int) (m0 : ByteArray) (m1 : Int) (m2 : List (Int × Int)) (m3 : List (Int × Int)) : Option ((Bool × ByteArray × Int × List (Int × Int) × List (Int × Int)) ⊕ (ByteArray × Int × List (Int × Int) × List (Int × Int))) :=
 if ((decide (i < (((List.length m2) : Nat) : Int))) = true) then
 if ((0 : Int) ≤ i) then
 Option.bind (m2)[(Int.toNat i)]? fun x =>
 Option.bind (qbO k x.1 x.2) fun r4 =>
 if ((!r4) = true) then
 (some (Sum.inl (false, m0, m1, m2, m3)))
 else
 rec (IntKind.wrap .i64 (i + (1 : Int))) m0 m1 m2 m3
 else
 none
 else
 (some (Sum.inr (m0, m1, m2, m3)))
def qM (k n : Nat) : Int → ByteArray → Int → List (Int × Int) → List (Int × Int) → Option ((Bool × ByteArray × Int × List (Int × Int) × List (Int × Int)) ⊕ (ByteArray × Int × List (Int × Int) × List (Int × Int))) := Nat.rec (fun _ _ _ _ _ => none) (fun _ r => qa5 k r) n
def qa6 (k : Nat) (rec : Int → ByteArray → Int → List (Int × Int) → List (Int × Int) → Option ((Bool × ByteArray × Int × List (Int × Int) × List (Int × Int)) ⊕ (ByteArray × Int × List (Int × Int) × List (Int × Int)))) (i : Int) (m0 : ByteArray) (m1 : Int) (m2 : List (Int × Int)) (m3 : List (Int × Int)) : Option ((Bool × ByteArray × Int × List (Int × Int) × List (Int × Int)) ⊕ (ByteArray × Int × List (Int × Int) × List (Int × Int))) :=
 if ((decide (i < (((List.length m3) : Nat) : Int))) = true) then
 if ((0 : Int) ≤ i) then
 Option.bind (m3)[(Int.toNat i)]? fun x =>
 Option.bind (qbO k x.1 x.2) fun r5 =>
 if ((!r5) = true) then
 (some (Sum.inl (false, m0, m1, m2, m3)))
 else
 if ((m1 == (100 : Int)) = true) then
 if ((decide (i > (0 : Int))) = true) then
 if ((0 : Int) ≤ (IntKind.wrap .i64 (i - (1 : Int)))) then
 Option.bind (m3)[(Int.toNat (IntKind.wrap .i64 (i - (1 : Int))))]? fun x1 =>
 Option.bind (qaJ k x1.1 x1.2) fun r6 =>
 if ((0 : Int) ≤ i) then
 Option.bind (m3)[(Int.toNat i)]? fun x2 =>
 Option.bind (qaJ k x2.1 x2.2) fun r7 =>
 Option.bind (qaB k r6.1 r6.2.1 r6.2.2.1 r6.2.2.2 r7.1 r7.2.1 r7.2.2.1 r7.2.2.2) fun r8 =>
 if ((decide (r8 ≥ (0 : Int))) = true) then
 (some (Sum.inl (false, m0, m1, m2, m3)))
 else
 rec (IntKind.wrap .i64 (i + (1 : Int))) m0 m1 m2 m3
 else
 none
 else
 none
 else
 rec (IntKind.wrap .i64 (i + (1 : Int))) m0 m1 m2 m3
 else
 rec (IntKind.wrap .i64 (i + (1 : Int))) m0 m1 m2 m3
 else
 none
 else
 (some (Sum.inr (m0, m1, m2, m3)))
def qN (k n : Nat) : Int → ByteArray → Int → List (Int × Int) → List (Int × Int) → Option ((Bool × ByteArray × Int × List (Int × Int) × List (Int × Int)) ⊕ (ByteArray × Int × List (Int × Int) × List (Int × Int))) := Nat.rec (fun _ _ _ _ _ => none) (fun _ r => qa6 k r) n
def qeN (k : Nat) (m0 : ByteArray) (m1 : Int) (m2 : List (Int × Int)) (m3 : List (Int × Int)) : Option (Bool) :=
 Option.bind (qc2 k m0) fun r3 =>
 if ((!r3) = true) then
 (some false)
 else
 Option.bind (qM k k (0 : Int) m0 m1 m2 m3) fun r4 =>
 qc r4
 (fun r4 =>
 (some r4.1))
 (fun r4 =>
 Option.bind (qN k k (0 : Int) r4.1 r4.2.1 r4.2.2.1 r4.2.2.2) fun r5 =>
 qc r5
 (fun r5 =>
 (some r5.1))
 (fun r5 =>
 if ((r5.2.1 == (115 : Int)) = true) then
 if (((((List.length r5.2.2.1) : Nat) : Int) == (2 : Int)) = true) then
 (some ((((List.length r5.2.2.2) : Nat) : Int) == (1 : Int)))
 else
 (some false)
 else
 if ((r5.2.1 == (100 : Int)) = true) then
 if ((decide ((((List.length r5.2.2.1) : Nat) : Int) ≥ (1 : Int))) = true) then
 if ((decide ((((List.length r5.2.2.1) : Nat) : Int) ≤ (4 : Int))) = true) then
 (some ((IntKind.wrap .i64 ((((List.length r5.2.2.2) : Nat) : Int) + (1 : Int))) == (((List.length r5.2.2.1) : Nat) : Int)))
 else
 (some false)
 else
 (some false)
 else
 (some false)))
def qaG : Nat → ByteArray → Int → List (Int × Int) → List (Int × Int) → Option (Bool)
 | 0, _, _, _, _ => none
 | k + 1, m0, m1, m2, m3 => qeN k m0 m1 m2 m3
def qhr : FS := { vs := [.g [.lf .str, .lf (.int .u8), .lf (.sl (.pr (.int .i64) (.int .i64))), .lf (.sl (.pr (.int .i64) (.int .i64)))]], bs := [] }
def qop : List FS := [{ vs := [.a (.lf .bool)], bs := [] }]
def qgR (k : Nat) : Inst := ⟨13, qhr, qop, fun x => qaG k x.1 x.2.1 x.2.2.1 x.2.2.2⟩
theorem qsB (k : Nat) : qk (call cf k) [qnT k, qnX k, qgg k, qmd k] := qA (qCs k) (qA (qCw k) (qA (qsy k) (qA (qy0 k) qT)))
def qju : List SS := [{ fr := [(1, .a (.ptr 0 0 0)), (3, .a (.lf (.int .i64)))], mem := [(0, some (.raw [[.lf .str, .lf (.int .u8), .lf (.sl (.pr (.int .i64) (.int .i64))), .lf (.sl (.pr (.int .i64) (.int .i64)))]] 4 24 true false))], nx := 1 }]
def qoq : List OS := [⟨none, { fr := [(2, .a (.lf .bool))], mem := [(0, some (.raw [[.lf .str, .lf (.int .u8), .lf (.sl (.pr (.int .i64) (.int .i64))), .lf (.sl (.pr (.int .i64) (.int .i64)))]] 4 24 true false))], nx := 1 }⟩, ⟨some 0, { fr := [(1, .a (.ptr 0 0 0))], mem := [(0, some (.raw [[.lf .str, .lf (.int .u8), .lf (.sl (.pr (.int .i64) (.int .i64))), .lf (.sl (.pr (.int .i64) (.int .i64)))]] 4 24 true false))], nx := 1 }⟩]
def qgD (k : Nat) : LInst := ⟨0, qju, qoq, fun x => qM k k x.1 x.2.1 x.2.2.1 x.2.2.2.1 x.2.2.2.2⟩
theorem qDd (k : Nat) : qg (LOk (R := DS OS.D qoq) (fun b _ σ K => LOt Ty (kps 13) 0 b σ K []) cf (call cf k) (kps 13) Tryz.f13.ntmps k 0) 0 (lb Tryz.f13 0) :=
 qA (qA qT (qA qT qT)) (qA (qA qT (qA (qA qT qT) qT)) qT)
theorem qDe (k n : Nat) (x : DS SS.D qju) : qM k (n + 1) x.1 x.2.1 x.2.2.1 x.2.2.2.1 x.2.2.2.2 = qD SS.enc (fun σ => qF cf (fun f a b K => COt f a b K [qnT k, qnX k, qgg k, qmd k]) (fun b _ σ K => LOt Ty (kps 13) 0 b σ K []) Tryz.f13.ntmps 0 (lb Tryz.f13 0) σ (qH Ty (kps 13 0) 0 qju qoq fun x => qM k n x.1 x.2.1 x.2.2.1 x.2.2.2.1 x.2.2.2.2)) qju x := by kernel_rfl
theorem qDf (k : Nat) : qY cf (call cf k) (kps 13) Tryz.f13.ntmps k 0 0 (lb Tryz.f13 0) (qgD k) :=
 qr (c := cf) (callF := call cf k) (kp := kps 13) (nt := Tryz.f13.ntmps) (k := k) (p := 0) (b := 0) (x0 := lb Tryz.f13 0) (hs := qju) (os := qoq) (qd (qsB k)) (qDd k) (fun n x => qM k n x.1 x.2.1 x.2.2.1 x.2.2.2.1 x.2.2.2.2) (fun _ => rfl) (qDe k)
def qjv : List SS := [{ fr := [(1, .a (.ptr 0 0 0)), (4, .a (.lf (.int .i64)))], mem := [(0, some (.raw [[.lf .str, .lf (.int .u8), .lf (.sl (.pr (.int .i64) (.int .i64))), .lf (.sl (.pr (.int .i64) (.int .i64)))]] 4 24 true false))], nx := 1 }]
def qor : List OS := [⟨none, { fr := [(2, .a (.lf .bool))], mem := [(0, some (.raw [[.lf .str, .lf (.int .u8), .lf (.sl (.pr (.int .i64) (.int .i64))), .lf (.sl (.pr (.int .i64) (.int .i64)))]] 4 24 true false))], nx := 1 }⟩, ⟨some 2, { fr := [(1, .a (.ptr 0 0 0))], mem := [(0, some (.raw [[.lf .str, .lf (.int .u8), .lf (.sl (.pr (.int .i64) (.int .i64))), .lf (.sl (.pr (.int .i64) (.int .i64)))]] 4 24 true false))], nx := 1 }⟩]
def qjw (k : Nat) : LInst := ⟨2, qjv, qor, fun x => qN k k x.1 x.2.1 x.2.2.1 x.2.2.2.1 x.2.2.2.2⟩
theorem qDg (k : Nat) : qg (LOk (R := DS OS.D qor) (fun b _ σ K => LOt Ty (kps 13) 0 b σ K [qgD k]) cf (call cf k) (kps 13) Tryz.f13.ntmps k 0) 2 (lb Tryz.f13 1) :=
 qA (qA qT (qA qT qT)) (qA (qA (qA qT (qA (qA qT qT) qT)) (qA qT (qA (qA qT qT) qT))) qT)
theorem qDh (k n : Nat) (x : DS SS.D qjv) : qN k (n + 1) x.1 x.2.1 x.2.2.1 x.2.2.2.1 x.2.2.2.2 = qD SS.enc (fun σ => qF cf (fun f a b K => COt f a b K [qnT k, qnX k, qgg k, qmd k]) (fun b _ σ K => LOt Ty (kps 13) 0 b σ K [qgD k]) Tryz.f13.ntmps 2 (lb Tryz.f13 1) σ (qH Ty (kps 13 2) 0 qjv qor fun x => qN k n x.1 x.2.1 x.2.2.1 x.2.2.2.1 x.2.2.2.2)) qjv x := by kernel_rfl
theorem qDi (k : Nat) : qY cf (call cf k) (kps 13) Tryz.f13.ntmps k 0 2 (lb Tryz.f13 1) (qjw k) :=
 qr (c := cf) (callF := call cf k) (kp := kps 13) (nt := Tryz.f13.ntmps) (k := k) (p := 0) (b := 2) (x0 := lb Tryz.f13 1) (hs := qjv) (os := qor) (qd (qsB k)) (qDg k) (fun n x => qN k n x.1 x.2.1 x.2.2.1 x.2.2.2.1 x.2.2.2.2) (fun _ => rfl) (qDh k)
theorem qDj (k : Nat) : qg (LOk (R := DS FS.D qop) (fun b _ σ K => LOt Ty (kps 13) 0 b σ K [qgD k, qjw k]) cf (call cf k) (cf.keep 13) Tryz.f13.ntmps k qhr.bs.length) 0 (bd Tryz.f13) :=
 qA qT (qA (qA qT (qA (qA qT qT) qT)) (qA (qA qT (qw (c := cf) (callF := call cf k) (kp := kps 13) (nt := Tryz.f13.ntmps) (k := k) (p := 0) (b := 0) (x0 := lb Tryz.f13 0) (l := [qgD k, qjw k]) (qA (fun _ => qDf k) (qA (fun h => absurd (show (2 : Nat) = 0 from h) (by decide)) qT)))) (qA (qA qT (qw (c := cf) (callF := call cf k) (kp := kps 13) (nt := Tryz.f13.ntmps) (k := k) (p := 0) (b := 2) (x0 := lb Tryz.f13 1) (l := [qgD k, qjw k]) (qA (fun h => absurd (show (0 : Nat) = 2 from h) (by decide)) (qA (fun _ => qDi k) qT)))) (qA (qA qT (qA (qA qT qT) qT)) (qA qT qT)))))
theorem qDk (k : Nat) (x : qhr.D) : qaG (k + 1) x.1 x.2.1 x.2.2.1 x.2.2.2 = qi cf (fun f a b K => COt f a b K [qnT k, qnX k, qgg k, qmd k]) (fun b _ σ K => LOt Ty (kps 13) 0 b σ K [qgD k, qjw k]) 13 Tryz.f13.ntmps Tryz.f13.results.toList (bd Tryz.f13) (qhr.enc x).1 (qhr.enc x).2 (qj FS.dec qop) := by kernel_rfl
theorem qsC : ∀ k, qf (call cf k) (qgR k)
 | 0 => fun x y e => absurd (show (none : Option _) = some y from e) (by simp)
 | k + 1 => qe (c := cf) (k := k) (f := 13) (fn := Tryz.f13) (body := bd Tryz.f13) (sh := qhr) (os := qop) rfl Tryz.func13 rfl ⟨rfl, Nat.le_of_ble_eq_true rfl⟩ (qd (qsB k)) (qDj k) (fun x => qaG (k + 1) x.1 x.2.1 x.2.2.1 x.2.2.2) (qDk k)

def qlx (k : Nat) (m0 : ByteArray) (m1 : Int) (m2 : List (Int × Int)) (m3 : List (Int × Int)) (k1 : Int) : Option (Int) :=
 Option.bind (qaG k m0 m1 m2 m3) fun r3 =>
 if ((!r3) = true) then
 (some (50 : Int))
 else
 if ((decide (k1 < (0 : Int))) = false) then
 if ((decide (k1 > (IntKind.wrap .i64 ((((List.length m2) : Nat) : Int) - (1 : Int))))) = true) then
 (some (111 : Int))
 else
 (some (0 : Int))
 else
 (some (111 : Int))
def qbQ : Nat → ByteArray → Int → List (Int × Int) → List (Int × Int) → Int → Option (Int)
 | 0, _, _, _, _, _ => none
 | k + 1, m0, m1, m2, m3, k1 => qlx k m0 m1 m2 m3 k1
def qhs : FS := { vs := [.g [.lf .str, .lf (.int .u8), .lf (.sl (.pr (.int .i64) (.int .i64))), .lf (.sl (.pr (.int .i64) (.int .i64)))], .a (.lf (.int .i64))], bs := [] }
def qos : List FS := [{ vs := [.a (.lf (.int .i64))], bs := [] }]
def qot (k : Nat) : Inst := ⟨37, qhs, qos, fun x => qbQ k x.1 x.2.1 x.2.2.1 x.2.2.2.1 x.2.2.2.2⟩
theorem qDl (k : Nat) : qk (call cf k) [qgR k] := qA (qsC k) qT
theorem qDm (k : Nat) : qg (LOk (R := DS FS.D qos) (fun b _ σ K => LOt Ty (kps 37) 0 b σ K []) cf (call cf k) (cf.keep 37) Tryz.f37.ntmps k qhs.bs.length) 0 (bd Tryz.f37) :=
 qA qT (qA (qA qT (qA (qA qT qT) qT)) (qA (qA qT (qA (qA qT qT) qT)) (qA qT qT)))
theorem qDn (k : Nat) (x : qhs.D) : qbQ (k + 1) x.1 x.2.1 x.2.2.1 x.2.2.2.1 x.2.2.2.2 = qi cf (fun f a b K => COt f a b K [qgR k]) (fun b _ σ K => LOt Ty (kps 37) 0 b σ K []) 37 Tryz.f37.ntmps Tryz.f37.results.toList (bd Tryz.f37) (qhs.enc x).1 (qhs.enc x).2 (qj FS.dec qos) := by kernel_rfl
theorem qvT : ∀ k, qf (call cf k) (qot k)
 | 0 => fun x y e => absurd (show (none : Option _) = some y from e) (by simp)
 | k + 1 => qe (c := cf) (k := k) (f := 37) (fn := Tryz.f37) (body := bd Tryz.f37) (sh := qhs) (os := qos) rfl Tryz.func37 rfl ⟨rfl, Nat.le_of_ble_eq_true rfl⟩ (qd (qDl k)) (qDm k) (fun x => qbQ (k + 1) x.1 x.2.1 x.2.2.1 x.2.2.2.1 x.2.2.2.2) (qDn k)

def qps (k : Nat) (v : Int) : Option (Bool × List Int × Bool × List Int) :=
 Option.bind (qbB k v) fun r5 =>
 Option.bind (qL k (1 : Int)) fun r6 =>
 (some (r5.1, r5.2, r6.1, r6.2))
def qcn : Nat → Int → Option (Bool × List Int × Bool × List Int)
 | 0, _ => none
 | k + 1, v => qps k v
def qla : FS := { vs := [.a (.lf (.int .i64))], bs := [] }
def qru : List FS := [{ vs := [.g [.lf .bool, .lf (.sl (.int .i64)), .lf .bool, .lf (.sl (.int .i64))]], bs := [] }]
def qsD (k : Nat) : Inst := ⟨80, qla, qru, fun x => qcn k x⟩
theorem qIr (k : Nat) : qk (call cf k) [qsv k, qeJ k] := qA (qyK k) (qA (qkT k) qT)
theorem qIs (k : Nat) : qg (LOk (R := DS FS.D qru) (fun b _ σ K => LOt Ty (kps 80) 0 b σ K []) cf (call cf k) (cf.keep 80) Tryz.f80.ntmps k qla.bs.length) 0 (bd Tryz.f80) :=
 qA qT (qA qT qT)
theorem qIt (k : Nat) (x : qla.D) : qcn (k + 1) x = qi cf (fun f a b K => COt f a b K [qsv k, qeJ k]) (fun b _ σ K => LOt Ty (kps 80) 0 b σ K []) 80 Tryz.f80.ntmps Tryz.f80.results.toList (bd Tryz.f80) (qla.enc x).1 (qla.enc x).2 (qj FS.dec qru) := by kernel_rfl
theorem qy1 : ∀ k, qf (call cf k) (qsD k)
 | 0 => fun x y e => absurd (show (none : Option _) = some y from e) (by simp)
 | k + 1 => qe (c := cf) (k := k) (f := 80) (fn := Tryz.f80) (body := bd Tryz.f80) (sh := qla) (os := qru) rfl Tryz.func80 rfl ⟨rfl, Nat.le_of_ble_eq_true rfl⟩ (qd (qIr k)) (qIs k) (fun x => qcn (k + 1) x) (qIt k)

def qly (k : Nat) (a0 : Bool) (a1 : List Int) (a2 : Bool) (a3 : List Int) (b0 : Bool) (b1 : List Int) (b2 : Bool) (b3 : List Int) : Option (Bool × List Int × Bool × List Int) :=
 Option.bind (qz k a0 a1 b0 b1) fun r8 =>
 Option.bind (qz k a2 a3 b2 b3) fun r9 =>
 Option.bind (qaN k r8.1 r8.2 r9.1 r9.2) fun r10 =>
 (some (r10.1, r10.2.1, r10.2.2.1, r10.2.2.2))
def qbe : Nat → Bool → List Int → Bool → List Int → Bool → List Int → Bool → List Int → Option (Bool × List Int × Bool × List Int)
 | 0, _, _, _, _, _, _, _, _ => none
 | k + 1, a0, a1, a2, a3, b0, b1, b2, b3 => qly k a0 a1 a2 a3 b0 b1 b2 b3
def qlb : FS := { vs := [.g [.lf .bool, .lf (.sl (.int .i64)), .lf .bool, .lf (.sl (.int .i64))], .g [.lf .bool, .lf (.sl (.int .i64)), .lf .bool, .lf (.sl (.int .i64))]], bs := [] }
def qrv : List FS := [{ vs := [.g [.lf .bool, .lf (.sl (.int .i64)), .lf .bool, .lf (.sl (.int .i64))]], bs := [] }]
def qsE (k : Nat) : Inst := ⟨84, qlb, qrv, fun x => qbe k x.1 x.2.1 x.2.2.1 x.2.2.2.1 x.2.2.2.2.1 x.2.2.2.2.2.1 x.2.2.2.2.2.2.1 x.2.2.2.2.2.2.2⟩
theorem qIu (k : Nat) : qk (call cf k) [qec k, ql9 k] := qA (qic k) (qA (quV k) qT)
theorem qIv (k : Nat) : qg (LOk (R := DS FS.D qrv) (fun b _ σ K => LOt Ty (kps 84) 0 b σ K []) cf (call cf k) (cf.keep 84) Tryz.f84.ntmps k qlb.bs.length) 0 (bd Tryz.f84) :=
 qA qT (qA qT qT)
theorem qIw (k : Nat) (x : qlb.D) : qbe (k + 1) x.1 x.2.1 x.2.2.1 x.2.2.2.1 x.2.2.2.2.1 x.2.2.2.2.2.1 x.2.2.2.2.2.2.1 x.2.2.2.2.2.2.2 = qi cf (fun f a b K => COt f a b K [qec k, ql9 k]) (fun b _ σ K => LOt Ty (kps 84) 0 b σ K []) 84 Tryz.f84.ntmps Tryz.f84.results.toList (bd Tryz.f84) (qlb.enc x).1 (qlb.enc x).2 (qj FS.dec qrv) := by kernel_rfl
theorem qy2 : ∀ k, qf (call cf k) (qsE k)
 | 0 => fun x y e => absurd (show (none : Option _) = some y from e) (by simp)
 | k + 1 => qe (c := cf) (k := k) (f := 84) (fn := Tryz.f84) (body := bd Tryz.f84) (sh := qlb) (os := qrv) rfl Tryz.func84 rfl ⟨rfl, Nat.le_of_ble_eq_true rfl⟩ (qd (qIu k)) (qIv k) (fun x => qbe (k + 1) x.1 x.2.1 x.2.2.1 x.2.2.2.1 x.2.2.2.2.1 x.2.2.2.2.2.1 x.2.2.2.2.2.2.1 x.2.2.2.2.2.2.2) (qIw k)

def qio (k : Nat) (f0 : Bool) (f1 : List Int) (f2 : Bool) (f3 : List Int) : Option (Bool × List Int × Bool × List Int) :=
 Option.bind (qcn k (1000000000 : Int)) fun r7 =>
 Option.bind (qbe k f0 f1 f2 f3 r7.1 r7.2.1 r7.2.2.1 r7.2.2.2) fun r8 =>
 (some (r8.1, r8.2.1, r8.2.2.1, r8.2.2.2))
def qbV : Nat → Bool → List Int → Bool → List Int → Option (Bool × List Int × Bool × List Int)
 | 0, _, _, _, _ => none
 | k + 1, f0, f1, f2, f3 => qio k f0 f1 f2 f3
def qht : FS := { vs := [.g [.lf .bool, .lf (.sl (.int .i64)), .lf .bool, .lf (.sl (.int .i64))]], bs := [] }
def qou : List FS := [{ vs := [.g [.lf .bool, .lf (.sl (.int .i64)), .lf .bool, .lf (.sl (.int .i64))]], bs := [] }]
def quW (k : Nat) : Inst := ⟨62, qht, qou, fun x => qbV k x.1 x.2.1 x.2.2.1 x.2.2.2⟩
theorem qDo (k : Nat) : qk (call cf k) [qsD k, qsE k] := qA (qy1 k) (qA (qy2 k) qT)
theorem qDp (k : Nat) : qg (LOk (R := DS FS.D qou) (fun b _ σ K => LOt Ty (kps 62) 0 b σ K []) cf (call cf k) (cf.keep 62) Tryz.f62.ntmps k qht.bs.length) 0 (bd Tryz.f62) :=
 qA qT (qA qT qT)
theorem qDq (k : Nat) (x : qht.D) : qbV (k + 1) x.1 x.2.1 x.2.2.1 x.2.2.2 = qi cf (fun f a b K => COt f a b K [qsD k, qsE k]) (fun b _ σ K => LOt Ty (kps 62) 0 b σ K []) 62 Tryz.f62.ntmps Tryz.f62.results.toList (bd Tryz.f62) (qht.enc x).1 (qht.enc x).2 (qj FS.dec qou) := by kernel_rfl
theorem qDr : ∀ k, qf (call cf k) (quW k)
 | 0 => fun x y e => absurd (show (none : Option _) = some y from e) (by simp)
 | k + 1 => qe (c := cf) (k := k) (f := 62) (fn := Tryz.f62) (body := bd Tryz.f62) (sh := qht) (os := qou) rfl Tryz.func62 rfl ⟨rfl, Nat.le_of_ble_eq_true rfl⟩ (qd (qDo k)) (qDp k) (fun x => qbV (k + 1) x.1 x.2.1 x.2.2.1 x.2.2.2) (qDq k)

def qme (k : Nat) (m0 : ByteArray) (m1 : Int) (m2 : List (Int × Int)) (m3 : List (Int × Int)) (k1 : Int) : Option (Bool × List Int × Bool × List Int) :=
 if ((0 : Int) ≤ k1) then
 Option.bind (m3)[(Int.toNat k1)]? fun x1 =>
 Option.bind (qaJ k x1.1 x1.2) fun r6 =>
 Option.bind (qbV k r6.1 r6.2.1 r6.2.2.1 r6.2.2.2) fun r7 =>
 (some (r7.1, r7.2.1, r7.2.2.1, r7.2.2.2))
 else
 none
def qaP : Nat → ByteArray → Int → List (Int × Int) → List (Int × Int) → Int → Option (Bool × List Int × Bool × List Int)
 | 0, _, _, _, _, _ => none
 | k + 1, m0, m1, m2, m3, k1 => qme k m0 m1 m2 m3 k1
def qhu : FS := { vs := [.g [.lf .str, .lf (.int .u8), .lf (.sl (.pr (.int .i64) (.int .i64))), .lf (.sl (.pr (.int .i64) (.int .i64)))], .a (.lf (.int .i64))], bs := [] }
def qov : List FS := [{ vs := [.g [.lf .bool, .lf (.sl (.int .i64)), .lf .bool, .lf (.sl (.int .i64))]], bs := [] }]
def qow (k : Nat) : Inst := ⟨81, qhu, qov, fun x => qaP k x.1 x.2.1 x.2.2.1 x.2.2.2.1 x.2.2.2.2⟩
theorem qDs (k : Nat) : qk (call cf k) [qgg k, quW k] := qA (qsy k) (qA (qDr k) qT)
theorem qDt (k : Nat) : qg (LOk (R := DS FS.D qov) (fun b _ σ K => LOt Ty (kps 81) 0 b σ K []) cf (call cf k) (cf.keep 81) Tryz.f81.ntmps k qhu.bs.length) 0 (bd Tryz.f81) :=
 qA qT (qA qT qT)
theorem qDu (k : Nat) (x : qhu.D) : qaP (k + 1) x.1 x.2.1 x.2.2.1 x.2.2.2.1 x.2.2.2.2 = qi cf (fun f a b K => COt f a b K [qgg k, quW k]) (fun b _ σ K => LOt Ty (kps 81) 0 b σ K []) 81 Tryz.f81.ntmps Tryz.f81.results.toList (bd Tryz.f81) (qhu.enc x).1 (qhu.enc x).2 (qj FS.dec qov) := by kernel_rfl
theorem qvU : ∀ k, qf (call cf k) (qow k)
 | 0 => fun x y e => absurd (show (none : Option _) = some y from e) (by simp)
 | k + 1 => qe (c := cf) (k := k) (f := 81) (fn := Tryz.f81) (body := bd Tryz.f81) (sh := qhu) (os := qov) rfl Tryz.func81 rfl ⟨rfl, Nat.le_of_ble_eq_true rfl⟩ (qd (qDs k)) (qDt k) (fun x => qaP (k + 1) x.1 x.2.1 x.2.2.1 x.2.2.2.1 x.2.2.2.2) (qDu k)

def qmf (k : Nat) (a0 : Bool) (a1 : List Int) (a2 : Bool) (a3 : List Int) (b0 : Bool) (b1 : List Int) (b2 : Bool) (b3 : List Int) : Option (Bool × List Int × Bool × List Int) :=
 Option.bind (qz k a0 a1 b2 b3) fun r8 =>
 Option.bind (qz k b0 b1 a2 a3) fun r9 =>
 Option.bind (qa4 k r8.1 r8.2 r9.1 r9.2) fun r10 =>
 Option.bind (qz k a2 a3 b2 b3) fun r11 =>
 Option.bind (qaN k r10.1 r10.2 r11.1 r11.2) fun r12 =>
 (some (r12.1, r12.2.1, r12.2.2.1, r12.2.2.2))
def qca : Nat → Bool → List Int → Bool → List Int → Bool → List Int → Bool → List Int → Option (Bool × List Int × Bool × List Int)
 | 0, _, _, _, _, _, _, _, _ => none
 | k + 1, a0, a1, a2, a3, b0, b1, b2, b3 => qmf k a0 a1 a2 a3 b0 b1 b2 b3
def qlc : FS := { vs := [.g [.lf .bool, .lf (.sl (.int .i64)), .lf .bool, .lf (.sl (.int .i64))], .g [.lf .bool, .lf (.sl (.int .i64)), .lf .bool, .lf (.sl (.int .i64))]], bs := [] }
def qrw : List FS := [{ vs := [.g [.lf .bool, .lf (.sl (.int .i64)), .lf .bool, .lf (.sl (.int .i64))]], bs := [] }]
def qsF (k : Nat) : Inst := ⟨83, qlc, qrw, fun x => qca k x.1 x.2.1 x.2.2.1 x.2.2.2.1 x.2.2.2.2.1 x.2.2.2.2.2.1 x.2.2.2.2.2.2.1 x.2.2.2.2.2.2.2⟩
theorem qIx (k : Nat) : qk (call cf k) [qec k, qsz k, ql9 k] := qA (qic k) (qA (qyY k) (qA (quV k) qT))
theorem qIy (k : Nat) : qg (LOk (R := DS FS.D qrw) (fun b _ σ K => LOt Ty (kps 83) 0 b σ K []) cf (call cf k) (cf.keep 83) Tryz.f83.ntmps k qlc.bs.length) 0 (bd Tryz.f83) :=
 qA qT (qA qT qT)
theorem qIz (k : Nat) (x : qlc.D) : qca (k + 1) x.1 x.2.1 x.2.2.1 x.2.2.2.1 x.2.2.2.2.1 x.2.2.2.2.2.1 x.2.2.2.2.2.2.1 x.2.2.2.2.2.2.2 = qi cf (fun f a b K => COt f a b K [qec k, qsz k, ql9 k]) (fun b _ σ K => LOt Ty (kps 83) 0 b σ K []) 83 Tryz.f83.ntmps Tryz.f83.results.toList (bd Tryz.f83) (qlc.enc x).1 (qlc.enc x).2 (qj FS.dec qrw) := by kernel_rfl
theorem qy3 : ∀ k, qf (call cf k) (qsF k)
 | 0 => fun x y e => absurd (show (none : Option _) = some y from e) (by simp)
 | k + 1 => qe (c := cf) (k := k) (f := 83) (fn := Tryz.f83) (body := bd Tryz.f83) (sh := qlc) (os := qrw) rfl Tryz.func83 rfl ⟨rfl, Nat.le_of_ble_eq_true rfl⟩ (qd (qIx k)) (qIy k) (fun x => qca (k + 1) x.1 x.2.1 x.2.2.1 x.2.2.2.1 x.2.2.2.2.1 x.2.2.2.2.2.1 x.2.2.2.2.2.2.1 x.2.2.2.2.2.2.2) (qIz k)

def qlz (k : Nat) (a0 : Bool) (a1 : List Int) (a2 : Bool) (a3 : List Int) : Option (Bool × List Int × Bool × List Int) :=
 Option.bind (qaF k a0 a1) fun r10 =>
 (some (r10.1, r10.2, a2, a3))
def qcC : Nat → Bool → List Int → Bool → List Int → Option (Bool × List Int × Bool × List Int)
 | 0, _, _, _, _ => none
 | k + 1, a0, a1, a2, a3 => qlz k a0 a1 a2 a3
def qld : FS := { vs := [.g [.lf .bool, .lf (.sl (.int .i64)), .lf .bool, .lf (.sl (.int .i64))]], bs := [] }
def qrx : List FS := [{ vs := [.g [.lf .bool, .lf (.sl (.int .i64)), .lf .bool, .lf (.sl (.int .i64))]], bs := [] }]
def qxH (k : Nat) : Inst := ⟨114, qld, qrx, fun x => qcC k x.1 x.2.1 x.2.2.1 x.2.2.2⟩
theorem qIA (k : Nat) : qk (call cf k) [ql8 k] := qA (quS k) qT
theorem qIB (k : Nat) : qg (LOk (R := DS FS.D qrx) (fun b _ σ K => LOt Ty (kps 114) 0 b σ K []) cf (call cf k) (cf.keep 114) Tryz.f114.ntmps k qld.bs.length) 0 (bd Tryz.f114) :=
 qA qT (qA qT qT)
theorem qIC (k : Nat) (x : qld.D) : qcC (k + 1) x.1 x.2.1 x.2.2.1 x.2.2.2 = qi cf (fun f a b K => COt f a b K [ql8 k]) (fun b _ σ K => LOt Ty (kps 114) 0 b σ K []) 114 Tryz.f114.ntmps Tryz.f114.results.toList (bd Tryz.f114) (qld.enc x).1 (qld.enc x).2 (qj FS.dec qrx) := by kernel_rfl
theorem qID : ∀ k, qf (call cf k) (qxH k)
 | 0 => fun x y e => absurd (show (none : Option _) = some y from e) (by simp)
 | k + 1 => qe (c := cf) (k := k) (f := 114) (fn := Tryz.f114) (body := bd Tryz.f114) (sh := qld) (os := qrx) rfl Tryz.func114 rfl ⟨rfl, Nat.le_of_ble_eq_true rfl⟩ (qd (qIA k)) (qIB k) (fun x => qcC (k + 1) x.1 x.2.1 x.2.2.1 x.2.2.2) (qIC k)

def qmg (k : Nat) (a0 : Bool) (a1 : List Int) (a2 : Bool) (a3 : List Int) (b0 : Bool) (b1 : List Int) (b2 : Bool) (b3 : List Int) : Option (Bool × List Int × Bool × List Int) :=
 Option.bind (qcC k b0 b1 b2 b3) fun r10 =>
 Option.bind (qca k a0 a1 a2 a3 r10.1 r10.2.1 r10.2.2.1 r10.2.2.2) fun r11 =>
 (some (r11.1, r11.2.1, r11.2.2.1, r11.2.2.2))
def qc4 : Nat → Bool → List Int → Bool → List Int → Bool → List Int → Bool → List Int → Option (Bool × List Int × Bool × List Int)
 | 0, _, _, _, _, _, _, _, _ => none
 | k + 1, a0, a1, a2, a3, b0, b1, b2, b3 => qmg k a0 a1 a2 a3 b0 b1 b2 b3
def qle : FS := { vs := [.g [.lf .bool, .lf (.sl (.int .i64)), .lf .bool, .lf (.sl (.int .i64))], .g [.lf .bool, .lf (.sl (.int .i64)), .lf .bool, .lf (.sl (.int .i64))]], bs := [] }
def qry : List FS := [{ vs := [.g [.lf .bool, .lf (.sl (.int .i64)), .lf .bool, .lf (.sl (.int .i64))]], bs := [] }]
def qxI (k : Nat) : Inst := ⟨82, qle, qry, fun x => qc4 k x.1 x.2.1 x.2.2.1 x.2.2.2.1 x.2.2.2.2.1 x.2.2.2.2.2.1 x.2.2.2.2.2.2.1 x.2.2.2.2.2.2.2⟩
theorem qIE (k : Nat) : qk (call cf k) [qxH k, qsF k] := qA (qID k) (qA (qy3 k) qT)
theorem qIF (k : Nat) : qg (LOk (R := DS FS.D qry) (fun b _ σ K => LOt Ty (kps 82) 0 b σ K []) cf (call cf k) (cf.keep 82) Tryz.f82.ntmps k qle.bs.length) 0 (bd Tryz.f82) :=
 qA qT (qA qT qT)
theorem qIG (k : Nat) (x : qle.D) : qc4 (k + 1) x.1 x.2.1 x.2.2.1 x.2.2.2.1 x.2.2.2.2.1 x.2.2.2.2.2.1 x.2.2.2.2.2.2.1 x.2.2.2.2.2.2.2 = qi cf (fun f a b K => COt f a b K [qxH k, qsF k]) (fun b _ σ K => LOt Ty (kps 82) 0 b σ K []) 82 Tryz.f82.ntmps Tryz.f82.results.toList (bd Tryz.f82) (qle.enc x).1 (qle.enc x).2 (qj FS.dec qry) := by kernel_rfl
theorem qIH : ∀ k, qf (call cf k) (qxI k)
 | 0 => fun x y e => absurd (show (none : Option _) = some y from e) (by simp)
 | k + 1 => qe (c := cf) (k := k) (f := 82) (fn := Tryz.f82) (body := bd Tryz.f82) (sh := qle) (os := qry) rfl Tryz.func82 rfl ⟨rfl, Nat.le_of_ble_eq_true rfl⟩ (qd (qIE k)) (qIF k) (fun x => qc4 (k + 1) x.1 x.2.1 x.2.2.1 x.2.2.2.1 x.2.2.2.2.1 x.2.2.2.2.2.1 x.2.2.2.2.2.2.1 x.2.2.2.2.2.2.2) (qIG k)

def qdy (k : Nat) (self : ByteArray → Int → List (Int × Int) → List (Int × Int) → Int → Option (Bool × List Int × Bool × List Int × Bool × List Int × Bool × List Int)) (m0 : ByteArray) (m1 : Int) (m2 : List (Int × Int)) (m3 : List (Int × Int)) (k1 : Int) : Option (Bool × List Int × Bool × List Int × Bool × List Int × Bool × List Int) :=
 if ((0 : Int) ≤ k1) then
 Option.bind (m2)[(Int.toNat k1)]? fun x =>
 Option.bind (qaJ k x.1 x.2) fun r4 =>
 if ((k1 == (0 : Int)) = false) then
 if ((m1 == (115 : Int)) = true) then
 Option.bind (qcn k (0 : Int)) fun r5 =>
 (some (r4.1, r4.2.1, r4.2.2.1, r4.2.2.2, r5.1, r5.2.1, r5.2.2.1, r5.2.2.2))
 else
 Option.bind (self m0 m1 m2 m3 (IntKind.wrap .i64 (k1 - (1 : Int)))) fun r5 =>
 Option.bind (qaP k m0 m1 m2 m3 (IntKind.wrap .i64 (k1 - (1 : Int)))) fun r6 =>
 Option.bind (qbe k r5.1 r5.2.1 r5.2.2.1 r5.2.2.2.1 r6.1 r6.2.1 r6.2.2.1 r6.2.2.2) fun r7 =>
 Option.bind (qca k r7.1 r7.2.1 r7.2.2.1 r7.2.2.2 r5.2.2.2.2.1 r5.2.2.2.2.2.1 r5.2.2.2.2.2.2.1 r5.2.2.2.2.2.2.2) fun r8 =>
 Option.bind (qbe k r4.1 r4.2.1 r4.2.2.1 r4.2.2.2 r6.1 r6.2.1 r6.2.2.1 r6.2.2.2) fun r9 =>
 Option.bind (qc4 k r8.1 r8.2.1 r8.2.2.1 r8.2.2.2 r9.1 r9.2.1 r9.2.2.1 r9.2.2.2) fun r10 =>
 (some (r4.1, r4.2.1, r4.2.2.1, r4.2.2.2, r10.1, r10.2.1, r10.2.2.1, r10.2.2.2))
 else
 Option.bind (qcn k (0 : Int)) fun r5 =>
 (some (r4.1, r4.2.1, r4.2.2.1, r4.2.2.2, r5.1, r5.2.1, r5.2.2.1, r5.2.2.2))
 else
 none
def qaQ (n : Nat) : ByteArray → Int → List (Int × Int) → List (Int × Int) → Int → Option (Bool × List Int × Bool × List Int × Bool × List Int × Bool × List Int) := Nat.rec (motive := fun _ => ByteArray → Int → List (Int × Int) → List (Int × Int) → Int → Option (Bool × List Int × Bool × List Int × Bool × List Int × Bool × List Int)) (fun _ _ _ _ _ => none) (fun k self m0 m1 m2 m3 k1 => qdy k self m0 m1 m2 m3 k1) n
def qhv : FS := { vs := [.g [.lf .str, .lf (.int .u8), .lf (.sl (.pr (.int .i64) (.int .i64))), .lf (.sl (.pr (.int .i64) (.int .i64)))], .a (.lf (.int .i64))], bs := [] }
def qox : List FS := [{ vs := [.g [.lf .bool, .lf (.sl (.int .i64)), .lf .bool, .lf (.sl (.int .i64))], .g [.lf .bool, .lf (.sl (.int .i64)), .lf .bool, .lf (.sl (.int .i64))]], bs := [] }]
def qlf (k : Nat) : Inst := ⟨38, qhv, qox, fun x => qaQ k x.1 x.2.1 x.2.2.1 x.2.2.2.1 x.2.2.2.2⟩
theorem qDv (k : Nat) (h : qf (call cf k) (qlf k)) : qk (call cf k) [qgg k, qsD k, qlf k, qow k, qsE k, qsF k, qxI k] := qA (qsy k) (qA (qy1 k) (qA h (qA (qvU k) (qA (qy2 k) (qA (qy3 k) (qA (qIH k) qT))))))
theorem qDw (k : Nat) : qg (LOk (R := DS FS.D qox) (fun b _ σ K => LOt Ty (kps 38) 0 b σ K []) cf (call cf k) (cf.keep 38) Tryz.f38.ntmps k qhv.bs.length) 0 (bd Tryz.f38) :=
 qA qT (qA qT (qA (qA qT (qA (qA qT qT) qT)) (qA qT (qA qT (qA qT qT)))))
theorem qDx (k : Nat) (x : qhv.D) : qaQ (k + 1) x.1 x.2.1 x.2.2.1 x.2.2.2.1 x.2.2.2.2 = qi cf (fun f a b K => COt f a b K [qgg k, qsD k, qlf k, qow k, qsE k, qsF k, qxI k]) (fun b _ σ K => LOt Ty (kps 38) 0 b σ K []) 38 Tryz.f38.ntmps Tryz.f38.results.toList (bd Tryz.f38) (qhv.enc x).1 (qhv.enc x).2 (qj FS.dec qox) := by kernel_rfl
theorem qvV : ∀ k, qf (call cf k) (qlf k)
 | 0 => fun x y e => absurd (show (none : Option _) = some y from e) (by simp)
 | k + 1 => qe (c := cf) (k := k) (f := 38) (fn := Tryz.f38) (body := bd Tryz.f38) (sh := qhv) (os := qox) rfl Tryz.func38 rfl ⟨rfl, Nat.le_of_ble_eq_true rfl⟩ (qd (qDv k (qvV k))) (qDw k) (fun x => qaQ (k + 1) x.1 x.2.1 x.2.2.1 x.2.2.2.1 x.2.2.2.2) (qDx k)

def qbi (k : Nat) (rec : Int → Bool → List Int → Bool → Nat → Bool → Nat → List Int → List Int → Option (Bool × List Int × Bool × Nat × Bool × Nat × List Int × List Int)) (i : Int) (a0 : Bool) (a1 : List Int) (x0 : Bool) (x1 : Nat) (out0 : Bool) (out1 : Nat) (m : List Int) (m1 : List Int) : Option (Bool × List Int × Bool × Nat × Bool × Nat × List Int × List Int) :=
 if ((decide (i < (((List.length a1) : Nat) : Int))) = true) then
 if ((0 : Int) ≤ i) then
 Option.bind (a1)[(Int.toNat i)]? fun x =>
 if ((decide ((IntKind.wrap .i64 (i + (1 : Int))) < (((List.length a1) : Nat) : Int))) = true) then
 if ((0 : Int) ≤ (IntKind.wrap .i64 (i + (1 : Int)))) then
 Option.bind (a1)[(Int.toNat (IntKind.wrap .i64 (i + (1 : Int))))]? fun x2 =>
 if (out1 ≤ (List.length m1)) then
 if (((out1 + (List.length (List.take 1 ((IntKind.wrap .u32 ((IntKind.wrap .u32 x) + (IntKind.wrap .u32 ((IntKind.wrap .u32 x2) * (65536 : Int))))) :: [])))) * 4) ≤ 140737488355328) then
 rec (IntKind.wrap .i64 (i + (2 : Int))) a0 a1 x0 x1 out0 (out1 + (List.length (List.take 1 ((IntKind.wrap .u32 ((IntKind.wrap .u32 x) + (IntKind.wrap .u32 ((IntKind.wrap .u32 x2) * (65536 : Int))))) :: [])))) m ((List.take out1 m1) ++ (List.take 1 ((IntKind.wrap .u32 ((IntKind.wrap .u32 x) + (IntKind.wrap .u32 ((IntKind.wrap .u32 x2) * (65536 : Int))))) :: [])))
 else
 none
 else
 none
 else
 none
 else
 if (out1 ≤ (List.length m1)) then
 if (((out1 + (List.length (List.take 1 ((IntKind.wrap .u32 x) :: [])))) * 4) ≤ 140737488355328) then
 rec (IntKind.wrap .i64 (i + (2 : Int))) a0 a1 x0 x1 out0 (out1 + (List.length (List.take 1 ((IntKind.wrap .u32 x) :: [])))) m ((List.take out1 m1) ++ (List.take 1 ((IntKind.wrap .u32 x) :: [])))
 else
 none
 else
 none
 else
 none
 else
 (some (a0, a1, x0, x1, out0, out1, m, m1))
def qat (k n : Nat) : Int → Bool → List Int → Bool → Nat → Bool → Nat → List Int → List Int → Option (Bool × List Int × Bool × Nat × Bool × Nat × List Int × List Int) := Nat.rec (fun _ _ _ _ _ _ _ _ _ => none) (fun _ r => qbi k r) n
def qfh (k : Nat) (a0 : Bool) (a1 : List Int) : Option (Bool × List Int) :=
 Option.bind (qat k k (0 : Int) a0 a1 false 0 a0 0 [] []) fun r5 =>
 if ((0 + r5.2.2.2.2.2.1) ≤ (List.length r5.2.2.2.2.2.2.2)) then
 (some (r5.2.2.2.2.1, (List.take r5.2.2.2.2.2.1 r5.2.2.2.2.2.2.2)))
 else
 none
def qcb : Nat → Bool → List Int → Option (Bool × List Int)
 | 0, _, _ => none
 | k + 1, a0, a1 => qfh k a0 a1
def qlg : FS := { vs := [.g [.lf .bool, .lf (.sl (.int .i64))]], bs := [] }
def qrz : List FS := [{ vs := [.g [.lf .bool, .lf (.sl (.int .u32))]], bs := [] }]
def qxJ (k : Nat) : Inst := ⟨85, qlg, qrz, fun x => qcb k x.1 x.2⟩
theorem qy4 (k : Nat) : qk (call cf k) [] := True.intro
def qjx : List SS := [{ fr := [(1, .a (.ptr 0 0 0)), (2, .a (.ptr 1 0 0)), (3, .a (.ptr 2 0 0)), (4, .a (.lf (.int .i64)))], mem := [(0, some (.raw [[.lf .bool, .lf (.sl (.int .i64))]] 2 81 true false)), (1, some (.raw [[.lf .bool, .smz 3]] 2 27 false false)), (2, some (.raw [[.lf .bool, .smz 4]] 2 27 false false)), (3, some (.arr (.int .u32) 1 68 false)), (4, some (.arr (.int .u32) 1 68 false))], nx := 5 }]
def qoy : List OS := [⟨some 0, { fr := [(2, .a (.ptr 1 0 0)), (3, .a (.ptr 2 0 0))], mem := [(0, some (.raw [[.lf .bool, .lf (.sl (.int .i64))]] 2 81 true false)), (1, some (.raw [[.lf .bool, .smz 3]] 2 27 false false)), (2, some (.raw [[.lf .bool, .smz 4]] 2 27 false false)), (3, some (.arr (.int .u32) 1 68 false)), (4, some (.arr (.int .u32) 1 68 false))], nx := 5 }⟩]
def qoz (k : Nat) : LInst := ⟨0, qjx, qoy, fun x => qat k k x.1 x.2.1 x.2.2.1 x.2.2.2.1 x.2.2.2.2.1 x.2.2.2.2.2.1 x.2.2.2.2.2.2.1 x.2.2.2.2.2.2.2.1 x.2.2.2.2.2.2.2.2⟩
theorem qDy (k : Nat) : qg (LOk (R := DS OS.D qoy) (fun b _ σ K => LOt Ty (kps 85) 0 b σ K []) cf (call cf k) (kps 85) Tryz.f85.ntmps k 0) 0 (lb Tryz.f85 0) :=
 qA (qA qT (qA qT qT)) (qA (qA qT (qA (qA qT (qA qT qT)) qT)) qT)
theorem qDz (k n : Nat) (x : DS SS.D qjx) : qat k (n + 1) x.1 x.2.1 x.2.2.1 x.2.2.2.1 x.2.2.2.2.1 x.2.2.2.2.2.1 x.2.2.2.2.2.2.1 x.2.2.2.2.2.2.2.1 x.2.2.2.2.2.2.2.2 = qD SS.enc (fun σ => qF cf (fun f a b K => COt f a b K []) (fun b _ σ K => LOt Ty (kps 85) 0 b σ K []) Tryz.f85.ntmps 0 (lb Tryz.f85 0) σ (qH Ty (kps 85 0) 0 qjx qoy fun x => qat k n x.1 x.2.1 x.2.2.1 x.2.2.2.1 x.2.2.2.2.1 x.2.2.2.2.2.1 x.2.2.2.2.2.2.1 x.2.2.2.2.2.2.2.1 x.2.2.2.2.2.2.2.2)) qjx x := by kernel_rfl
theorem qDA (k : Nat) : qY cf (call cf k) (kps 85) Tryz.f85.ntmps k 0 0 (lb Tryz.f85 0) (qoz k) :=
 qr (c := cf) (callF := call cf k) (kp := kps 85) (nt := Tryz.f85.ntmps) (k := k) (p := 0) (b := 0) (x0 := lb Tryz.f85 0) (hs := qjx) (os := qoy) (qd (qy4 k)) (qDy k) (fun n x => qat k n x.1 x.2.1 x.2.2.1 x.2.2.2.1 x.2.2.2.2.1 x.2.2.2.2.2.1 x.2.2.2.2.2.2.1 x.2.2.2.2.2.2.2.1 x.2.2.2.2.2.2.2.2) (fun _ => rfl) (qDz k)
theorem qII (k : Nat) : qg (LOk (R := DS FS.D qrz) (fun b _ σ K => LOt Ty (kps 85) 0 b σ K [qoz k]) cf (call cf k) (cf.keep 85) Tryz.f85.ntmps k qlg.bs.length) 0 (bd Tryz.f85) :=
 qA qT (qA qT (qA (qA qT (qw (c := cf) (callF := call cf k) (kp := kps 85) (nt := Tryz.f85.ntmps) (k := k) (p := 0) (b := 0) (x0 := lb Tryz.f85 0) (l := [qoz k]) (qA (fun _ => qDA k) qT))) (qA qT qT)))
theorem qIJ (k : Nat) (x : qlg.D) : qcb (k + 1) x.1 x.2 = qi cf (fun f a b K => COt f a b K []) (fun b _ σ K => LOt Ty (kps 85) 0 b σ K [qoz k]) 85 Tryz.f85.ntmps Tryz.f85.results.toList (bd Tryz.f85) (qlg.enc x).1 (qlg.enc x).2 (qj FS.dec qrz) := by kernel_rfl
theorem qIK : ∀ k, qf (call cf k) (qxJ k)
 | 0 => fun x y e => absurd (show (none : Option _) = some y from e) (by simp)
 | k + 1 => qe (c := cf) (k := k) (f := 85) (fn := Tryz.f85) (body := bd Tryz.f85) (sh := qlg) (os := qrz) rfl Tryz.func85 rfl ⟨rfl, Nat.le_of_ble_eq_true rfl⟩ (qd (qy4 k)) (qII k) (fun x => qcb (k + 1) x.1 x.2) (qIJ k)

def qmh (k : Nat) (a0 : Bool) (a1 : List Int) (a2 : Bool) (a3 : List Int) : Option (Bool × List Int × Bool × List Int) :=
 Option.bind (qcb k a0 a1) fun r5 =>
 Option.bind (qcb k a2 a3) fun r6 =>
 (some (r5.1, r5.2, r6.1, r6.2))
def qcc : Nat → Bool → List Int → Bool → List Int → Option (Bool × List Int × Bool × List Int)
 | 0, _, _, _, _ => none
 | k + 1, a0, a1, a2, a3 => qmh k a0 a1 a2 a3
def qlh : FS := { vs := [.g [.lf .bool, .lf (.sl (.int .i64)), .lf .bool, .lf (.sl (.int .i64))]], bs := [] }
def qrA : List FS := [{ vs := [.g [.lf .bool, .lf (.sl (.int .u32)), .lf .bool, .lf (.sl (.int .u32))]], bs := [] }]
def qxK (k : Nat) : Inst := ⟨39, qlh, qrA, fun x => qcc k x.1 x.2.1 x.2.2.1 x.2.2.2⟩
theorem qIL (k : Nat) : qk (call cf k) [qxJ k] := qA (qIK k) qT
theorem qIM (k : Nat) : qg (LOk (R := DS FS.D qrA) (fun b _ σ K => LOt Ty (kps 39) 0 b σ K []) cf (call cf k) (cf.keep 39) Tryz.f39.ntmps k qlh.bs.length) 0 (bd Tryz.f39) :=
 qA qT (qA qT qT)
theorem qIN (k : Nat) (x : qlh.D) : qcc (k + 1) x.1 x.2.1 x.2.2.1 x.2.2.2 = qi cf (fun f a b K => COt f a b K [qxJ k]) (fun b _ σ K => LOt Ty (kps 39) 0 b σ K []) 39 Tryz.f39.ntmps Tryz.f39.results.toList (bd Tryz.f39) (qlh.enc x).1 (qlh.enc x).2 (qj FS.dec qrA) := by kernel_rfl
theorem qIO : ∀ k, qf (call cf k) (qxK k)
 | 0 => fun x y e => absurd (show (none : Option _) = some y from e) (by simp)
 | k + 1 => qe (c := cf) (k := k) (f := 39) (fn := Tryz.f39) (body := bd Tryz.f39) (sh := qlh) (os := qrA) rfl Tryz.func39 rfl ⟨rfl, Nat.le_of_ble_eq_true rfl⟩ (qd (qIL k)) (qIM k) (fun x => qcc (k + 1) x.1 x.2.1 x.2.2.1 x.2.2.2) (qIN k)

def qmi (k : Nat) (m0 : ByteArray) (m1 : Int) (m2 : List (Int × Int)) (m3 : List (Int × Int)) (k1 : Int) : Option (Bool × List Int × Bool × List Int × Bool × List Int × Bool × List Int × Int) :=
 Option.bind (qbQ k m0 m1 m2 m3 k1) fun r3 =>
 if ((r3 != (0 : Int)) = true) then
 (some (false, [], false, [], false, [], false, [], r3))
 else
 Option.bind (qaQ k m0 m1 m2 m3 k1) fun r4 =>
 Option.bind (qcc k r4.1 r4.2.1 r4.2.2.1 r4.2.2.2.1) fun r5 =>
 Option.bind (qcc k r4.2.2.2.2.1 r4.2.2.2.2.2.1 r4.2.2.2.2.2.2.1 r4.2.2.2.2.2.2.2) fun r6 =>
 (some (r5.1, r5.2.1, r5.2.2.1, r5.2.2.2, r6.1, r6.2.1, r6.2.2.1, r6.2.2.2, (0 : Int)))
def qcd : Nat → ByteArray → Int → List (Int × Int) → List (Int × Int) → Int → Option (Bool × List Int × Bool × List Int × Bool × List Int × Bool × List Int × Int)
 | 0, _, _, _, _, _ => none
 | k + 1, m0, m1, m2, m3, k1 => qmi k m0 m1 m2 m3 k1
def qhw : FS := { vs := [.g [.lf .str, .lf (.int .u8), .lf (.sl (.pr (.int .i64) (.int .i64))), .lf (.sl (.pr (.int .i64) (.int .i64)))], .a (.lf (.int .i64))], bs := [] }
def qoA : List FS := [{ vs := [.g [.lf .bool, .lf (.sl (.int .u32)), .lf .bool, .lf (.sl (.int .u32))], .g [.lf .bool, .lf (.sl (.int .u32)), .lf .bool, .lf (.sl (.int .u32))], .a (.lf (.int .i64))], bs := [] }]
def quX (k : Nat) : Inst := ⟨8, qhw, qoA, fun x => qcd k x.1 x.2.1 x.2.2.1 x.2.2.2.1 x.2.2.2.2⟩
theorem qDB (k : Nat) : qk (call cf k) [qot k, qlf k, qxK k] := qA (qvT k) (qA (qvV k) (qA (qIO k) qT))
theorem qDC (k : Nat) : qg (LOk (R := DS FS.D qoA) (fun b _ σ K => LOt Ty (kps 8) 0 b σ K []) cf (call cf k) (cf.keep 8) Tryz.f8.ntmps k qhw.bs.length) 0 (bd Tryz.f8) :=
 qA qT (qA qT (qA (qA qT (qA (qA qT qT) qT)) (qA qT (qA qT qT))))
theorem qDD (k : Nat) (x : qhw.D) : qcd (k + 1) x.1 x.2.1 x.2.2.1 x.2.2.2.1 x.2.2.2.2 = qi cf (fun f a b K => COt f a b K [qot k, qlf k, qxK k]) (fun b _ σ K => LOt Ty (kps 8) 0 b σ K []) 8 Tryz.f8.ntmps Tryz.f8.results.toList (bd Tryz.f8) (qhw.enc x).1 (qhw.enc x).2 (qj FS.dec qoA) := by kernel_rfl
theorem qDE : ∀ k, qf (call cf k) (quX k)
 | 0 => fun x y e => absurd (show (none : Option _) = some y from e) (by simp)
 | k + 1 => qe (c := cf) (k := k) (f := 8) (fn := Tryz.f8) (body := bd Tryz.f8) (sh := qhw) (os := qoA) rfl Tryz.func8 rfl ⟨rfl, Nat.le_of_ble_eq_true rfl⟩ (qd (qDB k)) (qDC k) (fun x => qcd (k + 1) x.1 x.2.1 x.2.2.1 x.2.2.2.1 x.2.2.2.2) (qDD k)

def qeO (k : Nat) (a0 : Bool) (a1 : List Int) : Option (Bool) :=
 if ((decide ((((List.length a1) : Nat) : Int) > (72 : Int))) = true) then
 (some false)
 else
 if (((((List.length a1) : Nat) : Int) == (0 : Int)) = true) then
 (some (!a0))
 else
 if ((0 : Int) ≤ (IntKind.wrap .i64 ((((List.length a1) : Nat) : Int) - (1 : Int)))) then
 Option.bind (a1)[(Int.toNat (IntKind.wrap .i64 ((((List.length a1) : Nat) : Int) - (1 : Int))))]? fun x =>
 (some (x != (0 : Int)))
 else
 none
def qbR : Nat → Bool → List Int → Option (Bool)
 | 0, _, _ => none
 | k + 1, a0, a1 => qeO k a0 a1
def qli : FS := { vs := [.g [.lf .bool, .lf (.sl (.int .u32))]], bs := [] }
def qrB : List FS := [{ vs := [.a (.lf .bool)], bs := [] }]
def qxL (k : Nat) : Inst := ⟨88, qli, qrB, fun x => qbR k x.1 x.2⟩
theorem qIP (k : Nat) : qk (call cf k) [] := True.intro
theorem qIQ (k : Nat) : qg (LOk (R := DS FS.D qrB) (fun b _ σ K => LOt Ty (kps 88) 0 b σ K []) cf (call cf k) (cf.keep 88) Tryz.f88.ntmps k qli.bs.length) 0 (bd Tryz.f88) :=
 qA qT (qA qT (qA (qA qT (qA (qA qT qT) qT)) (qA (qA qT (qA (qA qT qT) qT)) (qA qT qT))))
theorem qIR (k : Nat) (x : qli.D) : qbR (k + 1) x.1 x.2 = qi cf (fun f a b K => COt f a b K []) (fun b _ σ K => LOt Ty (kps 88) 0 b σ K []) 88 Tryz.f88.ntmps Tryz.f88.results.toList (bd Tryz.f88) (qli.enc x).1 (qli.enc x).2 (qj FS.dec qrB) := by kernel_rfl
theorem qIS : ∀ k, qf (call cf k) (qxL k)
 | 0 => fun x y e => absurd (show (none : Option _) = some y from e) (by simp)
 | k + 1 => qe (c := cf) (k := k) (f := 88) (fn := Tryz.f88) (body := bd Tryz.f88) (sh := qli) (os := qrB) rfl Tryz.func88 rfl ⟨rfl, Nat.le_of_ble_eq_true rfl⟩ (qd (qIP k)) (qIQ k) (fun x => qbR (k + 1) x.1 x.2) (qIR k)

def qcI (k : Nat) (rec : Nat → Int → Bool → List Int → Bool → Nat → List Int → List Int → Option (Nat × Bool × List Int × Bool × Nat × List Int × List Int)) (d : Nat) (i : Int) (a0 : Bool) (a1 : List Int) (x0 : Bool) (x1 : Nat) (ds : List Int) (m : List Int) : Option (Nat × Bool × List Int × Bool × Nat × List Int × List Int) :=
 if ((decide (i < (((List.length a1) : Nat) : Int))) = true) then
 if ((0 : Int) ≤ i) then
 Option.bind (a1)[(Int.toNat i)]? fun x =>
 if ((0 : Int) ≤ i) then
 Option.bind (a1)[(Int.toNat i)]? fun x2 =>
 if (d ≤ (List.length ds)) then
 if (((d + (List.length (List.take 2 ((IntKind.wrap .i64 (Int.tmod x (65536 : Int))) :: ((IntKind.wrap .i64 (IntKind.wrap .u32 (Int.tdiv x2 (65536 : Int)))) :: []))))) * 8) ≤ 140737488355328) then
 rec (d + (List.length (List.take 2 ((IntKind.wrap .i64 (Int.tmod x (65536 : Int))) :: ((IntKind.wrap .i64 (IntKind.wrap .u32 (Int.tdiv x2 (65536 : Int)))) :: []))))) (IntKind.wrap .i64 (i + (1 : Int))) a0 a1 x0 x1 ((List.take d ds) ++ (List.take 2 ((IntKind.wrap .i64 (Int.tmod x (65536 : Int))) :: ((IntKind.wrap .i64 (IntKind.wrap .u32 (Int.tdiv x2 (65536 : Int)))) :: [])))) m
 else
 none
 else
 none
 else
 none
 else
 none
 else
 (some (d, a0, a1, x0, x1, ds, m))
def qau (k n : Nat) : Nat → Int → Bool → List Int → Bool → Nat → List Int → List Int → Option (Nat × Bool × List Int × Bool × Nat × List Int × List Int) := Nat.rec (fun _ _ _ _ _ _ _ _ => none) (fun _ r => qcI k r) n
def qdz (k : Nat) (a0 : Bool) (a1 : List Int) : Option (Bool × List Int) :=
 Option.bind (qau k k 0 (0 : Int) a0 a1 false 0 [] []) fun r8 =>
 Option.bind (qB k r8.1 r8.2.2.2.2.2.1) fun r9 =>
 if (r8.2.1 = true) then
 if ((0 + r9.1) ≤ (List.length r9.2)) then
 (some ((decide (((r9.1 : Nat) : Int) > (0 : Int))), (List.take r9.1 r9.2)))
 else
 none
 else
 if ((0 + r9.1) ≤ (List.length r9.2)) then
 (some (false, (List.take r9.1 r9.2)))
 else
 none
def qaR : Nat → Bool → List Int → Option (Bool × List Int)
 | 0, _, _ => none
 | k + 1, a0, a1 => qdz k a0 a1
def qlj : FS := { vs := [.g [.lf .bool, .lf (.sl (.int .u32))]], bs := [] }
def qrC : List FS := [{ vs := [.g [.lf .bool, .lf (.sl (.int .i64))]], bs := [] }]
def qsG (k : Nat) : Inst := ⟨91, qlj, qrC, fun x => qaR k x.1 x.2⟩
theorem qy5 (k : Nat) : qk (call cf k) [qew k] := qA (qn4 k) qT
def qjy : List SS := [{ fr := [(1, .a (.ptr 0 0 0)), (2, .a (.ptr 1 0 0)), (3, .a (.smz 2)), (4, .a (.lf (.int .i64)))], mem := [(0, some (.raw [[.lf .bool, .lf (.sl (.int .u32))]] 2 27 true false)), (1, some (.raw [[.lf .bool, .smz 3]] 2 81 false false)), (2, some (.arr (.int .i64) 1 3 false)), (3, some (.arr (.int .i64) 1 3 false))], nx := 4 }]
def qoB : List OS := [⟨some 0, { fr := [(1, .a (.ptr 0 0 0)), (2, .a (.ptr 1 0 0)), (3, .a (.smz 2))], mem := [(0, some (.raw [[.lf .bool, .lf (.sl (.int .u32))]] 2 27 true false)), (1, some (.raw [[.lf .bool, .smz 3]] 2 81 false false)), (2, some (.arr (.int .i64) 1 3 false)), (3, some (.arr (.int .i64) 1 3 false))], nx := 4 }⟩]
def qoC (k : Nat) : LInst := ⟨0, qjy, qoB, fun x => qau k k x.1 x.2.1 x.2.2.1 x.2.2.2.1 x.2.2.2.2.1 x.2.2.2.2.2.1 x.2.2.2.2.2.2.1 x.2.2.2.2.2.2.2⟩
theorem qDF (k : Nat) : qg (LOk (R := DS OS.D qoB) (fun b _ σ K => LOt Ty (kps 91) 0 b σ K []) cf (call cf k) (kps 91) Tryz.f91.ntmps k 0) 0 (lb Tryz.f91 0) :=
 qA (qA qT (qA qT qT)) (qA qT qT)
theorem qDG (k n : Nat) (x : DS SS.D qjy) : qau k (n + 1) x.1 x.2.1 x.2.2.1 x.2.2.2.1 x.2.2.2.2.1 x.2.2.2.2.2.1 x.2.2.2.2.2.2.1 x.2.2.2.2.2.2.2 = qD SS.enc (fun σ => qF cf (fun f a b K => COt f a b K [qew k]) (fun b _ σ K => LOt Ty (kps 91) 0 b σ K []) Tryz.f91.ntmps 0 (lb Tryz.f91 0) σ (qH Ty (kps 91 0) 0 qjy qoB fun x => qau k n x.1 x.2.1 x.2.2.1 x.2.2.2.1 x.2.2.2.2.1 x.2.2.2.2.2.1 x.2.2.2.2.2.2.1 x.2.2.2.2.2.2.2)) qjy x := by kernel_rfl
theorem qDH (k : Nat) : qY cf (call cf k) (kps 91) Tryz.f91.ntmps k 0 0 (lb Tryz.f91 0) (qoC k) :=
 qr (c := cf) (callF := call cf k) (kp := kps 91) (nt := Tryz.f91.ntmps) (k := k) (p := 0) (b := 0) (x0 := lb Tryz.f91 0) (hs := qjy) (os := qoB) (qd (qy5 k)) (qDF k) (fun n x => qau k n x.1 x.2.1 x.2.2.1 x.2.2.2.1 x.2.2.2.2.1 x.2.2.2.2.2.1 x.2.2.2.2.2.2.1 x.2.2.2.2.2.2.2) (fun _ => rfl) (qDG k)
theorem qIT (k : Nat) : qg (LOk (R := DS FS.D qrC) (fun b _ σ K => LOt Ty (kps 91) 0 b σ K [qoC k]) cf (call cf k) (cf.keep 91) Tryz.f91.ntmps k qlj.bs.length) 0 (bd Tryz.f91) :=
 qA qT (qA qT (qA (qA qT (qw (c := cf) (callF := call cf k) (kp := kps 91) (nt := Tryz.f91.ntmps) (k := k) (p := 0) (b := 0) (x0 := lb Tryz.f91 0) (l := [qoC k]) (qA (fun _ => qDH k) qT))) (qA qT (qA qT qT))))
theorem qIU (k : Nat) (x : qlj.D) : qaR (k + 1) x.1 x.2 = qi cf (fun f a b K => COt f a b K [qew k]) (fun b _ σ K => LOt Ty (kps 91) 0 b σ K [qoC k]) 91 Tryz.f91.ntmps Tryz.f91.results.toList (bd Tryz.f91) (qlj.enc x).1 (qlj.enc x).2 (qj FS.dec qrC) := by kernel_rfl
theorem qy6 : ∀ k, qf (call cf k) (qsG k)
 | 0 => fun x y e => absurd (show (none : Option _) = some y from e) (by simp)
 | k + 1 => qe (c := cf) (k := k) (f := 91) (fn := Tryz.f91) (body := bd Tryz.f91) (sh := qlj) (os := qrC) rfl Tryz.func91 rfl ⟨rfl, Nat.le_of_ble_eq_true rfl⟩ (qd (qy5 k)) (qIT k) (fun x => qaR (k + 1) x.1 x.2) (qIU k)

def qeP (k : Nat) (r0 : Bool) (r1 : List Int) (r2 : Bool) (r3 : List Int) : Option (Int) :=
 Option.bind (qbR k r0 r1) fun r6 =>
 if ((!r6) = false) then
 Option.bind (qbR k r2 r3) fun r7 =>
 if ((!r7) = true) then
 (some (10 : Int))
 else
 if (r2 = false) then
 if (((((List.length r3) : Nat) : Int) == (0 : Int)) = false) then
 Option.bind (qaR k r0 r1) fun r8 =>
 Option.bind (qaR k r2 r3) fun r9 =>
 Option.bind (qaZ k r8.1 r8.2 r9.1 r9.2) fun r10 =>
 Option.bind (qL k (1 : Int)) fun r11 =>
 Option.bind (qb9 k r10.1 r10.2 r11.1 r11.2) fun r12 =>
 if ((r12 != (0 : Int)) = true) then
 (some (20 : Int))
 else
 (some (0 : Int))
 else
 (some (20 : Int))
 else
 (some (20 : Int))
 else
 (some (10 : Int))
def qbS : Nat → Bool → List Int → Bool → List Int → Option (Int)
 | 0, _, _, _, _ => none
 | k + 1, r0, r1, r2, r3 => qeP k r0 r1 r2 r3
def qlk : FS := { vs := [.g [.lf .bool, .lf (.sl (.int .u32)), .lf .bool, .lf (.sl (.int .u32))]], bs := [] }
def qrD : List FS := [{ vs := [.a (.lf (.int .i64))], bs := [] }]
def qpt (k : Nat) : Inst := ⟨43, qlk, qrD, fun x => qbS k x.1 x.2.1 x.2.2.1 x.2.2.2⟩
theorem qIV (k : Nat) : qk (call cf k) [qxL k, qsG k, qsx k, qeJ k, qsA k] := qA (qIS k) (qA (qy6 k) (qA (qyW k) (qA (qkT k) (qA (qyZ k) qT))))
theorem qIW (k : Nat) : qg (LOk (R := DS FS.D qrD) (fun b _ σ K => LOt Ty (kps 43) 0 b σ K []) cf (call cf k) (cf.keep 43) Tryz.f43.ntmps k qlk.bs.length) 0 (bd Tryz.f43) :=
 qA qT (qA (qA qT (qA (qA qT qT) qT)) (qA (qA qT (qA (qA qT qT) qT)) (qA qT qT)))
theorem qIX (k : Nat) (x : qlk.D) : qbS (k + 1) x.1 x.2.1 x.2.2.1 x.2.2.2 = qi cf (fun f a b K => COt f a b K [qxL k, qsG k, qsx k, qeJ k, qsA k]) (fun b _ σ K => LOt Ty (kps 43) 0 b σ K []) 43 Tryz.f43.ntmps Tryz.f43.results.toList (bd Tryz.f43) (qlk.enc x).1 (qlk.enc x).2 (qj FS.dec qrD) := by kernel_rfl
theorem qy7 : ∀ k, qf (call cf k) (qpt k)
 | 0 => fun x y e => absurd (show (none : Option _) = some y from e) (by simp)
 | k + 1 => qe (c := cf) (k := k) (f := 43) (fn := Tryz.f43) (body := bd Tryz.f43) (sh := qlk) (os := qrD) rfl Tryz.func43 rfl ⟨rfl, Nat.le_of_ble_eq_true rfl⟩ (qd (qIV k)) (qIW k) (fun x => qbS (k + 1) x.1 x.2.1 x.2.2.1 x.2.2.2) (qIX k)

def qmj (k : Nat) (r0 : Bool) (r1 : List Int) (r2 : Bool) (r3 : List Int) : Option (Bool × List Int × Bool × List Int) :=
 Option.bind (qaR k r0 r1) fun r7 =>
 Option.bind (qaR k r2 r3) fun r8 =>
 (some (r7.1, r7.2, r8.1, r8.2))
def qbC : Nat → Bool → List Int → Bool → List Int → Option (Bool × List Int × Bool × List Int)
 | 0, _, _, _, _ => none
 | k + 1, r0, r1, r2, r3 => qmj k r0 r1 r2 r3
def qll : FS := { vs := [.g [.lf .bool, .lf (.sl (.int .u32)), .lf .bool, .lf (.sl (.int .u32))]], bs := [] }
def qrE : List FS := [{ vs := [.g [.lf .bool, .lf (.sl (.int .i64)), .lf .bool, .lf (.sl (.int .i64))]], bs := [] }]
def qpu (k : Nat) : Inst := ⟨45, qll, qrE, fun x => qbC k x.1 x.2.1 x.2.2.1 x.2.2.2⟩
theorem qIY (k : Nat) : qk (call cf k) [qsG k] := qA (qy6 k) qT
theorem qIZ (k : Nat) : qg (LOk (R := DS FS.D qrE) (fun b _ σ K => LOt Ty (kps 45) 0 b σ K []) cf (call cf k) (cf.keep 45) Tryz.f45.ntmps k qll.bs.length) 0 (bd Tryz.f45) :=
 qA qT (qA qT qT)
theorem qI0 (k : Nat) (x : qll.D) : qbC (k + 1) x.1 x.2.1 x.2.2.1 x.2.2.2 = qi cf (fun f a b K => COt f a b K [qsG k]) (fun b _ σ K => LOt Ty (kps 45) 0 b σ K []) 45 Tryz.f45.ntmps Tryz.f45.results.toList (bd Tryz.f45) (qll.enc x).1 (qll.enc x).2 (qj FS.dec qrE) := by kernel_rfl
theorem qy8 : ∀ k, qf (call cf k) (qpu k)
 | 0 => fun x y e => absurd (show (none : Option _) = some y from e) (by simp)
 | k + 1 => qe (c := cf) (k := k) (f := 45) (fn := Tryz.f45) (body := bd Tryz.f45) (sh := qll) (os := qrE) rfl Tryz.func45 rfl ⟨rfl, Nat.le_of_ble_eq_true rfl⟩ (qd (qIY k)) (qIZ k) (fun x => qbC (k + 1) x.1 x.2.1 x.2.2.1 x.2.2.2) (qI0 k)

def qfi (k : Nat) (m0 : ByteArray) (m1 : Int) (m2 : List (Int × Int)) (m3 : List (Int × Int)) (k1 : Int) (u0 : Bool) (u1 : List Int) (u2 : Bool) (u3 : List Int) : Option (Int) :=
 if ((decide (k1 > (0 : Int))) = true) then
 Option.bind (qaP k m0 m1 m2 m3 (IntKind.wrap .i64 (k1 - (1 : Int)))) fun r8 =>
 Option.bind (qaB k u0 u1 u2 u3 r8.1 r8.2.1 r8.2.2.1 r8.2.2.2) fun r9 =>
 if ((decide (r9 < (0 : Int))) = true) then
 (some (-(1 : Int)))
 else
 if ((decide (k1 < (IntKind.wrap .i64 ((((List.length m2) : Nat) : Int) - (1 : Int))))) = true) then
 Option.bind (qaP k m0 m1 m2 m3 k1) fun r10 =>
 Option.bind (qaB k u0 u1 u2 u3 r10.1 r10.2.1 r10.2.2.1 r10.2.2.2) fun r11 =>
 if ((decide (r11 > (0 : Int))) = true) then
 (some (1 : Int))
 else
 (some (0 : Int))
 else
 (some (0 : Int))
 else
 if ((decide (k1 < (IntKind.wrap .i64 ((((List.length m2) : Nat) : Int) - (1 : Int))))) = true) then
 Option.bind (qaP k m0 m1 m2 m3 k1) fun r8 =>
 Option.bind (qaB k u0 u1 u2 u3 r8.1 r8.2.1 r8.2.2.1 r8.2.2.2) fun r9 =>
 if ((decide (r9 > (0 : Int))) = true) then
 (some (1 : Int))
 else
 (some (0 : Int))
 else
 (some (0 : Int))
def qbD : Nat → ByteArray → Int → List (Int × Int) → List (Int × Int) → Int → Bool → List Int → Bool → List Int → Option (Int)
 | 0, _, _, _, _, _, _, _, _, _ => none
 | k + 1, m0, m1, m2, m3, k1, u0, u1, u2, u3 => qfi k m0 m1 m2 m3 k1 u0 u1 u2 u3
def qhx : FS := { vs := [.g [.lf .str, .lf (.int .u8), .lf (.sl (.pr (.int .i64) (.int .i64))), .lf (.sl (.pr (.int .i64) (.int .i64)))], .a (.lf (.int .i64)), .g [.lf .bool, .lf (.sl (.int .i64)), .lf .bool, .lf (.sl (.int .i64))]], bs := [] }
def qoD : List FS := [{ vs := [.a (.lf (.int .i64))], bs := [] }]
def qlm (k : Nat) : Inst := ⟨44, qhx, qoD, fun x => qbD k x.1 x.2.1 x.2.2.1 x.2.2.2.1 x.2.2.2.2.1 x.2.2.2.2.2.1 x.2.2.2.2.2.2.1 x.2.2.2.2.2.2.2.1 x.2.2.2.2.2.2.2.2⟩
theorem qDI (k : Nat) : qk (call cf k) [qow k, qmd k] := qA (qvU k) (qA (qy0 k) qT)
theorem qDJ (k : Nat) : qg (LOk (R := DS FS.D qoD) (fun b _ σ K => LOt Ty (kps 44) 0 b σ K []) cf (call cf k) (cf.keep 44) Tryz.f44.ntmps k qhx.bs.length) 0 (bd Tryz.f44) :=
 qA qT (qA (qA qT (qA (qA qT qT) qT)) (qA (qA qT (qA (qA qT qT) qT)) (qA qT qT)))
theorem qDK (k : Nat) (x : qhx.D) : qbD (k + 1) x.1 x.2.1 x.2.2.1 x.2.2.2.1 x.2.2.2.2.1 x.2.2.2.2.2.1 x.2.2.2.2.2.2.1 x.2.2.2.2.2.2.2.1 x.2.2.2.2.2.2.2.2 = qi cf (fun f a b K => COt f a b K [qow k, qmd k]) (fun b _ σ K => LOt Ty (kps 44) 0 b σ K []) 44 Tryz.f44.ntmps Tryz.f44.results.toList (bd Tryz.f44) (qhx.enc x).1 (qhx.enc x).2 (qj FS.dec qoD) := by kernel_rfl
theorem qvW : ∀ k, qf (call cf k) (qlm k)
 | 0 => fun x y e => absurd (show (none : Option _) = some y from e) (by simp)
 | k + 1 => qe (c := cf) (k := k) (f := 44) (fn := Tryz.f44) (body := bd Tryz.f44) (sh := qhx) (os := qoD) rfl Tryz.func44 rfl ⟨rfl, Nat.le_of_ble_eq_true rfl⟩ (qd (qDI k)) (qDJ k) (fun x => qbD (k + 1) x.1 x.2.1 x.2.2.1 x.2.2.2.1 x.2.2.2.2.1 x.2.2.2.2.2.1 x.2.2.2.2.2.2.1 x.2.2.2.2.2.2.2.1 x.2.2.2.2.2.2.2.2) (qDK k)

def qmk (k : Nat) (m0 : ByteArray) (m1 : Int) (m2 : List (Int × Int)) (m3 : List (Int × Int)) (k1 : Int) (u0 : Bool) (u1 : List Int) (u2 : Bool) (u3 : List Int) : Option (Int × Int) :=
 Option.bind (qbQ k m0 m1 m2 m3 k1) fun r5 =>
 if ((r5 == (0 : Int)) = true) then
 Option.bind (qbS k u0 u1 u2 u3) fun r6 =>
 if ((r6 != (0 : Int)) = true) then
 (some ((0 : Int), r6))
 else
 Option.bind (qbC k u0 u1 u2 u3) fun r7 =>
 Option.bind (qbD k m0 m1 m2 m3 k1 r7.1 r7.2.1 r7.2.2.1 r7.2.2.2) fun r8 =>
 (some (r8, (0 : Int)))
 else
 if ((r5 != (0 : Int)) = true) then
 (some ((0 : Int), r5))
 else
 Option.bind (qbC k u0 u1 u2 u3) fun r6 =>
 Option.bind (qbD k m0 m1 m2 m3 k1 r6.1 r6.2.1 r6.2.2.1 r6.2.2.2) fun r7 =>
 (some (r7, (0 : Int)))
def qaS : Nat → ByteArray → Int → List (Int × Int) → List (Int × Int) → Int → Bool → List Int → Bool → List Int → Option (Int × Int)
 | 0, _, _, _, _, _, _, _, _, _ => none
 | k + 1, m0, m1, m2, m3, k1, u0, u1, u2, u3 => qmk k m0 m1 m2 m3 k1 u0 u1 u2 u3
def qhy : FS := { vs := [.g [.lf .str, .lf (.int .u8), .lf (.sl (.pr (.int .i64) (.int .i64))), .lf (.sl (.pr (.int .i64) (.int .i64)))], .a (.lf (.int .i64)), .g [.lf .bool, .lf (.sl (.int .u32)), .lf .bool, .lf (.sl (.int .u32))]], bs := [] }
def qoE : List FS := [{ vs := [.a (.lf (.int .i64)), .a (.lf (.int .i64))], bs := [] }]
def quY (k : Nat) : Inst := ⟨10, qhy, qoE, fun x => qaS k x.1 x.2.1 x.2.2.1 x.2.2.2.1 x.2.2.2.2.1 x.2.2.2.2.2.1 x.2.2.2.2.2.2.1 x.2.2.2.2.2.2.2.1 x.2.2.2.2.2.2.2.2⟩
theorem qDL (k : Nat) : qk (call cf k) [qot k, qpt k, qpu k, qlm k] := qA (qvT k) (qA (qy7 k) (qA (qy8 k) (qA (qvW k) qT)))
theorem qDM (k : Nat) : qg (LOk (R := DS FS.D qoE) (fun b _ σ K => LOt Ty (kps 10) 0 b σ K []) cf (call cf k) (cf.keep 10) Tryz.f10.ntmps k qhy.bs.length) 0 (bd Tryz.f10) :=
 qA qT (qA qT (qA (qA qT (qA qT qT)) (qA (qA qT (qA (qA qT qT) qT)) (qA qT qT))))
theorem qDN (k : Nat) (x : qhy.D) : qaS (k + 1) x.1 x.2.1 x.2.2.1 x.2.2.2.1 x.2.2.2.2.1 x.2.2.2.2.2.1 x.2.2.2.2.2.2.1 x.2.2.2.2.2.2.2.1 x.2.2.2.2.2.2.2.2 = qi cf (fun f a b K => COt f a b K [qot k, qpt k, qpu k, qlm k]) (fun b _ σ K => LOt Ty (kps 10) 0 b σ K []) 10 Tryz.f10.ntmps Tryz.f10.results.toList (bd Tryz.f10) (qhy.enc x).1 (qhy.enc x).2 (qj FS.dec qoE) := by kernel_rfl
theorem qDO : ∀ k, qf (call cf k) (quY k)
 | 0 => fun x y e => absurd (show (none : Option _) = some y from e) (by simp)
 | k + 1 => qe (c := cf) (k := k) (f := 10) (fn := Tryz.f10) (body := bd Tryz.f10) (sh := qhy) (os := qoE) rfl Tryz.func10 rfl ⟨rfl, Nat.le_of_ble_eq_true rfl⟩ (qd (qDL k)) (qDM k) (fun x => qaS (k + 1) x.1 x.2.1 x.2.2.1 x.2.2.2.1 x.2.2.2.2.1 x.2.2.2.2.2.1 x.2.2.2.2.2.2.1 x.2.2.2.2.2.2.2.1 x.2.2.2.2.2.2.2.2) (qDN k)

def qcJ (k : Nat) (rec : Int → ByteArray → Int → List (Int × Int) → List (Int × Int) → Bool → List Int → Bool → List Int → Option (Int × ByteArray × Int × List (Int × Int) × List (Int × Int) × Bool × List Int × Bool × List Int)) (k1 : Int) (m0 : ByteArray) (m1 : Int) (m2 : List (Int × Int)) (m3 : List (Int × Int)) (u0 : Bool) (u1 : List Int) (u2 : Bool) (u3 : List Int) : Option (Int × ByteArray × Int × List (Int × Int) × List (Int × Int) × Bool × List Int × Bool × List Int) :=
 Option.bind (qbC k u0 u1 u2 u3) fun r9 =>
 Option.bind (qbD k m0 m1 m2 m3 k1 r9.1 r9.2.1 r9.2.2.1 r9.2.2.2) fun r10 =>
 if ((r10 != (0 : Int)) = true) then
 rec (IntKind.wrap .i64 (k1 + (1 : Int))) m0 m1 m2 m3 u0 u1 u2 u3
 else
 (some (k1, m0, m1, m2, m3, u0, u1, u2, u3))
def qav (k n : Nat) : Int → ByteArray → Int → List (Int × Int) → List (Int × Int) → Bool → List Int → Bool → List Int → Option (Int × ByteArray × Int × List (Int × Int) × List (Int × Int) × Bool × List Int × Bool × List Int) := Nat.rec (fun _ _ _ _ _ _ _ _ _ => none) (fun _ r => qcJ k r) n
def qml (k : Nat) (m0 : ByteArray) (m1 : Int) (m2 : List (Int × Int)) (m3 : List (Int × Int)) (u0 : Bool) (u1 : List Int) (u2 : Bool) (u3 : List Int) : Option (Int × Int) :=
 Option.bind (qaG k m0 m1 m2 m3) fun r7 =>
 if ((!r7) = true) then
 (some ((0 : Int), (50 : Int)))
 else
 Option.bind (qbS k u0 u1 u2 u3) fun r8 =>
 if ((r8 != (0 : Int)) = true) then
 (some ((0 : Int), r8))
 else
 Option.bind (qav k k (0 : Int) m0 m1 m2 m3 u0 u1 u2 u3) fun r9 =>
 (some (r9.1, (0 : Int)))
def qbE : Nat → ByteArray → Int → List (Int × Int) → List (Int × Int) → Bool → List Int → Bool → List Int → Option (Int × Int)
 | 0, _, _, _, _, _, _, _, _ => none
 | k + 1, m0, m1, m2, m3, u0, u1, u2, u3 => qml k m0 m1 m2 m3 u0 u1 u2 u3
def qhz : FS := { vs := [.g [.lf .str, .lf (.int .u8), .lf (.sl (.pr (.int .i64) (.int .i64))), .lf (.sl (.pr (.int .i64) (.int .i64)))], .g [.lf .bool, .lf (.sl (.int .u32)), .lf .bool, .lf (.sl (.int .u32))]], bs := [] }
def qoF : List FS := [{ vs := [.a (.lf (.int .i64)), .a (.lf (.int .i64))], bs := [] }]
def quZ (k : Nat) : Inst := ⟨12, qhz, qoF, fun x => qbE k x.1 x.2.1 x.2.2.1 x.2.2.2.1 x.2.2.2.2.1 x.2.2.2.2.2.1 x.2.2.2.2.2.2.1 x.2.2.2.2.2.2.2⟩
theorem qvX (k : Nat) : qk (call cf k) [qgR k, qpt k, qpu k, qlm k] := qA (qsC k) (qA (qy7 k) (qA (qy8 k) (qA (qvW k) qT)))
def qjz : List SS := [{ fr := [(2, .a (.ptr 0 0 0)), (3, .a (.ptr 1 0 0)), (7, .a (.lf (.int .i64)))], mem := [(0, some (.raw [[.lf .str, .lf (.int .u8), .lf (.sl (.pr (.int .i64) (.int .i64))), .lf (.sl (.pr (.int .i64) (.int .i64)))]] 4 24 true false)), (1, some (.raw [[.lf .bool, .lf (.sl (.int .u32)), .lf .bool, .lf (.sl (.int .u32))]] 4 29 true false))], nx := 2 }]
def qoG : List OS := [⟨some 0, { fr := [(7, .a (.lf (.int .i64)))], mem := [(0, some (.raw [[.lf .str, .lf (.int .u8), .lf (.sl (.pr (.int .i64) (.int .i64))), .lf (.sl (.pr (.int .i64) (.int .i64)))]] 4 24 true false)), (1, some (.raw [[.lf .bool, .lf (.sl (.int .u32)), .lf .bool, .lf (.sl (.int .u32))]] 4 29 true false))], nx := 2 }⟩]
def qoH (k : Nat) : LInst := ⟨0, qjz, qoG, fun x => qav k k x.1 x.2.1 x.2.2.1 x.2.2.2.1 x.2.2.2.2.1 x.2.2.2.2.2.1 x.2.2.2.2.2.2.1 x.2.2.2.2.2.2.2.1 x.2.2.2.2.2.2.2.2⟩
theorem qDP (k : Nat) : qg (LOk (R := DS OS.D qoG) (fun b _ σ K => LOt Ty (kps 12) 0 b σ K []) cf (call cf k) (kps 12) Tryz.f12.ntmps k 0) 0 (lb Tryz.f12 0) :=
 qA (qA qT (qA qT qT)) qT
theorem qDQ (k n : Nat) (x : DS SS.D qjz) : qav k (n + 1) x.1 x.2.1 x.2.2.1 x.2.2.2.1 x.2.2.2.2.1 x.2.2.2.2.2.1 x.2.2.2.2.2.2.1 x.2.2.2.2.2.2.2.1 x.2.2.2.2.2.2.2.2 = qD SS.enc (fun σ => qF cf (fun f a b K => COt f a b K [qgR k, qpt k, qpu k, qlm k]) (fun b _ σ K => LOt Ty (kps 12) 0 b σ K []) Tryz.f12.ntmps 0 (lb Tryz.f12 0) σ (qH Ty (kps 12 0) 0 qjz qoG fun x => qav k n x.1 x.2.1 x.2.2.1 x.2.2.2.1 x.2.2.2.2.1 x.2.2.2.2.2.1 x.2.2.2.2.2.2.1 x.2.2.2.2.2.2.2.1 x.2.2.2.2.2.2.2.2)) qjz x := by kernel_rfl
theorem qDR (k : Nat) : qY cf (call cf k) (kps 12) Tryz.f12.ntmps k 0 0 (lb Tryz.f12 0) (qoH k) :=
 qr (c := cf) (callF := call cf k) (kp := kps 12) (nt := Tryz.f12.ntmps) (k := k) (p := 0) (b := 0) (x0 := lb Tryz.f12 0) (hs := qjz) (os := qoG) (qd (qvX k)) (qDP k) (fun n x => qav k n x.1 x.2.1 x.2.2.1 x.2.2.2.1 x.2.2.2.2.1 x.2.2.2.2.2.1 x.2.2.2.2.2.2.1 x.2.2.2.2.2.2.2.1 x.2.2.2.2.2.2.2.2) (fun _ => rfl) (qDQ k)
theorem qDS (k : Nat) : qg (LOk (R := DS FS.D qoF) (fun b _ σ K => LOt Ty (kps 12) 0 b σ K [qoH k]) cf (call cf k) (cf.keep 12) Tryz.f12.ntmps k qhz.bs.length) 0 (bd Tryz.f12) :=
 qA qT (qA (qA qT (qA (qA qT qT) qT)) (qA qT (qA (qA qT (qA (qA qT qT) qT)) (qA qT (qA (qw (c := cf) (callF := call cf k) (kp := kps 12) (nt := Tryz.f12.ntmps) (k := k) (p := 0) (b := 0) (x0 := lb Tryz.f12 0) (l := [qoH k]) (qA (fun _ => qDR k) qT)) (qA qT qT))))))
theorem qDT (k : Nat) (x : qhz.D) : qbE (k + 1) x.1 x.2.1 x.2.2.1 x.2.2.2.1 x.2.2.2.2.1 x.2.2.2.2.2.1 x.2.2.2.2.2.2.1 x.2.2.2.2.2.2.2 = qi cf (fun f a b K => COt f a b K [qgR k, qpt k, qpu k, qlm k]) (fun b _ σ K => LOt Ty (kps 12) 0 b σ K [qoH k]) 12 Tryz.f12.ntmps Tryz.f12.results.toList (bd Tryz.f12) (qhz.enc x).1 (qhz.enc x).2 (qj FS.dec qoF) := by kernel_rfl
theorem qDU : ∀ k, qf (call cf k) (quZ k)
 | 0 => fun x y e => absurd (show (none : Option _) = some y from e) (by simp)
 | k + 1 => qe (c := cf) (k := k) (f := 12) (fn := Tryz.f12) (body := bd Tryz.f12) (sh := qhz) (os := qoF) rfl Tryz.func12 rfl ⟨rfl, Nat.le_of_ble_eq_true rfl⟩ (qd (qvX k)) (qDS k) (fun x => qbE (k + 1) x.1 x.2.1 x.2.2.1 x.2.2.2.1 x.2.2.2.2.1 x.2.2.2.2.2.1 x.2.2.2.2.2.2.1 x.2.2.2.2.2.2.2) (qDT k)

def qbj (k : Nat) (rec : Int → Bool → List Int → Bool → List Int → Option ((Bool × Bool × List Int × Bool × List Int) ⊕ (Bool × List Int × Bool × List Int))) (i : Int) (a0 : Bool) (a1 : List Int) (b0 : Bool) (b1 : List Int) : Option ((Bool × Bool × List Int × Bool × List Int) ⊕ (Bool × List Int × Bool × List Int)) :=
 if ((decide (i < (((List.length a1) : Nat) : Int))) = true) then
 if ((0 : Int) ≤ i) then
 Option.bind (a1)[(Int.toNat i)]? fun x =>
 if ((0 : Int) ≤ i) then
 Option.bind (b1)[(Int.toNat i)]? fun x1 =>
 if ((x != x1) = true) then
 (some (Sum.inl (false, a0, a1, b0, b1)))
 else
 rec (IntKind.wrap .i64 (i + (1 : Int))) a0 a1 b0 b1
 else
 none
 else
 none
 else
 (some (Sum.inr (a0, a1, b0, b1)))
def qaw (k n : Nat) : Int → Bool → List Int → Bool → List Int → Option ((Bool × Bool × List Int × Bool × List Int) ⊕ (Bool × List Int × Bool × List Int)) := Nat.rec (fun _ _ _ _ _ => none) (fun _ r => qbj k r) n
def qfj (k : Nat) (a0 : Bool) (a1 : List Int) (b0 : Bool) (b1 : List Int) : Option (Bool) :=
 if ((!(a0 == b0)) = false) then
 if (((((List.length a1) : Nat) : Int) != (((List.length b1) : Nat) : Int)) = true) then
 (some false)
 else
 Option.bind (qaw k k (0 : Int) a0 a1 b0 b1) fun r9 =>
 qc r9
 (fun r9 =>
 (some r9.1))
 (fun r9 =>
 (some true))
 else
 (some false)
def qc5 : Nat → Bool → List Int → Bool → List Int → Option (Bool)
 | 0, _, _, _, _ => none
 | k + 1, a0, a1, b0, b1 => qfj k a0 a1 b0 b1
def qln : FS := { vs := [.g [.lf .bool, .lf (.sl (.int .u32))], .g [.lf .bool, .lf (.sl (.int .u32))]], bs := [] }
def qrF : List FS := [{ vs := [.a (.lf .bool)], bs := [] }]
def qxM (k : Nat) : Inst := ⟨50, qln, qrF, fun x => qc5 k x.1 x.2.1 x.2.2.1 x.2.2.2⟩
theorem qy9 (k : Nat) : qk (call cf k) [] := True.intro
def qjA : List SS := [{ fr := [(2, .a (.ptr 0 0 0)), (3, .a (.ptr 1 0 0)), (5, .a (.lf (.int .i64)))], mem := [(0, some (.raw [[.lf .bool, .lf (.sl (.int .u32))]] 2 27 true false)), (1, some (.raw [[.lf .bool, .lf (.sl (.int .u32))]] 2 27 true false))], nx := 2 }]
def qoI : List OS := [⟨none, { fr := [(4, .a (.lf .bool))], mem := [(0, some (.raw [[.lf .bool, .lf (.sl (.int .u32))]] 2 27 true false)), (1, some (.raw [[.lf .bool, .lf (.sl (.int .u32))]] 2 27 true false))], nx := 2 }⟩, ⟨some 0, { fr := [], mem := [(0, some (.raw [[.lf .bool, .lf (.sl (.int .u32))]] 2 27 true false)), (1, some (.raw [[.lf .bool, .lf (.sl (.int .u32))]] 2 27 true false))], nx := 2 }⟩]
def qoJ (k : Nat) : LInst := ⟨0, qjA, qoI, fun x => qaw k k x.1 x.2.1 x.2.2.1 x.2.2.2.1 x.2.2.2.2⟩
theorem qDV (k : Nat) : qg (LOk (R := DS OS.D qoI) (fun b _ σ K => LOt Ty (kps 50) 0 b σ K []) cf (call cf k) (kps 50) Tryz.f50.ntmps k 0) 0 (lb Tryz.f50 0) :=
 qA (qA qT (qA qT qT)) (qA (qA qT (qA (qA qT qT) qT)) qT)
theorem qDW (k n : Nat) (x : DS SS.D qjA) : qaw k (n + 1) x.1 x.2.1 x.2.2.1 x.2.2.2.1 x.2.2.2.2 = qD SS.enc (fun σ => qF cf (fun f a b K => COt f a b K []) (fun b _ σ K => LOt Ty (kps 50) 0 b σ K []) Tryz.f50.ntmps 0 (lb Tryz.f50 0) σ (qH Ty (kps 50 0) 0 qjA qoI fun x => qaw k n x.1 x.2.1 x.2.2.1 x.2.2.2.1 x.2.2.2.2)) qjA x := by kernel_rfl
theorem qDX (k : Nat) : qY cf (call cf k) (kps 50) Tryz.f50.ntmps k 0 0 (lb Tryz.f50 0) (qoJ k) :=
 qr (c := cf) (callF := call cf k) (kp := kps 50) (nt := Tryz.f50.ntmps) (k := k) (p := 0) (b := 0) (x0 := lb Tryz.f50 0) (hs := qjA) (os := qoI) (qd (qy9 k)) (qDV k) (fun n x => qaw k n x.1 x.2.1 x.2.2.1 x.2.2.2.1 x.2.2.2.2) (fun _ => rfl) (qDW k)
theorem qI1 (k : Nat) : qg (LOk (R := DS FS.D qrF) (fun b _ σ K => LOt Ty (kps 50) 0 b σ K [qoJ k]) cf (call cf k) (cf.keep 50) Tryz.f50.ntmps k qln.bs.length) 0 (bd Tryz.f50) :=
 qA qT (qA (qA qT (qA (qA qT qT) qT)) (qA (qA qT (qw (c := cf) (callF := call cf k) (kp := kps 50) (nt := Tryz.f50.ntmps) (k := k) (p := 0) (b := 0) (x0 := lb Tryz.f50 0) (l := [qoJ k]) (qA (fun _ => qDX k) qT))) (qA qT qT)))
theorem qI2 (k : Nat) (x : qln.D) : qc5 (k + 1) x.1 x.2.1 x.2.2.1 x.2.2.2 = qi cf (fun f a b K => COt f a b K []) (fun b _ σ K => LOt Ty (kps 50) 0 b σ K [qoJ k]) 50 Tryz.f50.ntmps Tryz.f50.results.toList (bd Tryz.f50) (qln.enc x).1 (qln.enc x).2 (qj FS.dec qrF) := by kernel_rfl
theorem qI3 : ∀ k, qf (call cf k) (qxM k)
 | 0 => fun x y e => absurd (show (none : Option _) = some y from e) (by simp)
 | k + 1 => qe (c := cf) (k := k) (f := 50) (fn := Tryz.f50) (body := bd Tryz.f50) (sh := qln) (os := qrF) rfl Tryz.func50 rfl ⟨rfl, Nat.le_of_ble_eq_true rfl⟩ (qd (qy9 k)) (qI1 k) (fun x => qc5 (k + 1) x.1 x.2.1 x.2.2.1 x.2.2.2) (qI2 k)

def qmm (k : Nat) (a0 : Bool) (a1 : List Int) (a2 : Bool) (a3 : List Int) (b0 : Bool) (b1 : List Int) (b2 : Bool) (b3 : List Int) : Option (Bool) :=
 Option.bind (qc5 k a0 a1 b0 b1) fun r9 =>
 if (r9 = true) then
 Option.bind (qc5 k a2 a3 b2 b3) fun r10 =>
 (some r10)
 else
 (some false)
def qa7 : Nat → Bool → List Int → Bool → List Int → Bool → List Int → Bool → List Int → Option (Bool)
 | 0, _, _, _, _, _, _, _, _ => none
 | k + 1, a0, a1, a2, a3, b0, b1, b2, b3 => qmm k a0 a1 a2 a3 b0 b1 b2 b3
def qlo : FS := { vs := [.g [.lf .bool, .lf (.sl (.int .u32)), .lf .bool, .lf (.sl (.int .u32))], .g [.lf .bool, .lf (.sl (.int .u32)), .lf .bool, .lf (.sl (.int .u32))]], bs := [] }
def qrG : List FS := [{ vs := [.a (.lf .bool)], bs := [] }]
def qxN (k : Nat) : Inst := ⟨14, qlo, qrG, fun x => qa7 k x.1 x.2.1 x.2.2.1 x.2.2.2.1 x.2.2.2.2.1 x.2.2.2.2.2.1 x.2.2.2.2.2.2.1 x.2.2.2.2.2.2.2⟩
theorem qI4 (k : Nat) : qk (call cf k) [qxM k] := qA (qI3 k) qT
theorem qI5 (k : Nat) : qg (LOk (R := DS FS.D qrG) (fun b _ σ K => LOt Ty (kps 14) 0 b σ K []) cf (call cf k) (cf.keep 14) Tryz.f14.ntmps k qlo.bs.length) 0 (bd Tryz.f14) :=
 qA qT (qA qT qT)
theorem qI6 (k : Nat) (x : qlo.D) : qa7 (k + 1) x.1 x.2.1 x.2.2.1 x.2.2.2.1 x.2.2.2.2.1 x.2.2.2.2.2.1 x.2.2.2.2.2.2.1 x.2.2.2.2.2.2.2 = qi cf (fun f a b K => COt f a b K [qxM k]) (fun b _ σ K => LOt Ty (kps 14) 0 b σ K []) 14 Tryz.f14.ntmps Tryz.f14.results.toList (bd Tryz.f14) (qlo.enc x).1 (qlo.enc x).2 (qj FS.dec qrG) := by kernel_rfl
theorem qI7 : ∀ k, qf (call cf k) (qxN k)
 | 0 => fun x y e => absurd (show (none : Option _) = some y from e) (by simp)
 | k + 1 => qe (c := cf) (k := k) (f := 14) (fn := Tryz.f14) (body := bd Tryz.f14) (sh := qlo) (os := qrG) rfl Tryz.func14 rfl ⟨rfl, Nat.le_of_ble_eq_true rfl⟩ (qd (qI4 k)) (qI5 k) (fun x => qa7 (k + 1) x.1 x.2.1 x.2.2.1 x.2.2.2.1 x.2.2.2.2.1 x.2.2.2.2.2.1 x.2.2.2.2.2.2.1 x.2.2.2.2.2.2.2) (qI6 k)

def qcK (k : Nat) (rec : List (Int × Int) → List (Int × Int) → Int → Option ((Bool) ⊕ (Unit))) (a : List (Int × Int)) (b : List (Int × Int)) (i : Int) : Option ((Bool) ⊕ (Unit)) :=
 if ((decide (i < (((List.length a) : Nat) : Int))) = true) then
 if ((0 : Int) ≤ i) then
 Option.bind (a)[(Int.toNat i)]? fun x =>
 if ((0 : Int) ≤ i) then
 Option.bind (b)[(Int.toNat i)]? fun x1 =>
 if ((x.1 == x1.1) = true) then
 if ((x.2 == x1.2) = true) then
 rec a b (IntKind.wrap .i64 (i + (1 : Int)))
 else
 (some (Sum.inl false))
 else
 (some (Sum.inl false))
 else
 none
 else
 none
 else
 (some (Sum.inr ()))
def qax (k n : Nat) : List (Int × Int) → List (Int × Int) → Int → Option ((Bool) ⊕ (Unit)) := Nat.rec (fun _ _ _ => none) (fun _ r => qcK k r) n
def qmn (k : Nat) (a : List (Int × Int)) (b : List (Int × Int)) : Option (Bool) :=
 if (((((List.length a) : Nat) : Int) != (((List.length b) : Nat) : Int)) = true) then
 (some false)
 else
 Option.bind (qax k k a b (0 : Int)) fun r14 =>
 qc r14
 (fun r14 =>
 (some r14))
 (fun r14 =>
 (some true))
def qce : Nat → List (Int × Int) → List (Int × Int) → Option (Bool)
 | 0, _, _ => none
 | k + 1, a, b => qmn k a b
def qhA : FS := { vs := [.a (.lf (.sl (.pr (.int .i64) (.int .i64)))), .a (.lf (.sl (.pr (.int .i64) (.int .i64))))], bs := [] }
def qoK : List FS := [{ vs := [.a (.lf .bool)], bs := [] }]
def qu0 (k : Nat) : Inst := ⟨54, qhA, qoK, fun x => qce k x.1 x.2⟩
theorem qvY (k : Nat) : qk (call cf k) [] := True.intro
def qjB : List SS := [{ fr := [(0, .a (.lf (.sl (.pr (.int .i64) (.int .i64))))), (1, .a (.lf (.sl (.pr (.int .i64) (.int .i64))))), (5, .a (.lf (.int .i64)))], mem := [], nx := 0 }]
def qoL : List OS := [⟨none, { fr := [(4, .a (.lf .bool))], mem := [], nx := 0 }⟩, ⟨some 0, { fr := [], mem := [], nx := 0 }⟩]
def qoM (k : Nat) : LInst := ⟨0, qjB, qoL, fun x => qax k k x.1 x.2.1 x.2.2⟩
theorem qDY (k : Nat) : qg (LOk (R := DS OS.D qoL) (fun b _ σ K => LOt Ty (kps 54) 0 b σ K []) cf (call cf k) (kps 54) Tryz.f54.ntmps k 0) 0 (lb Tryz.f54 0) :=
 qA (qA qT (qA qT qT)) (qA (qA qT (qA (qA qT qT) qT)) qT)
theorem qDZ (k n : Nat) (x : DS SS.D qjB) : qax k (n + 1) x.1 x.2.1 x.2.2 = qD SS.enc (fun σ => qF cf (fun f a b K => COt f a b K []) (fun b _ σ K => LOt Ty (kps 54) 0 b σ K []) Tryz.f54.ntmps 0 (lb Tryz.f54 0) σ (qH Ty (kps 54 0) 0 qjB qoL fun x => qax k n x.1 x.2.1 x.2.2)) qjB x := by kernel_rfl
theorem qD0 (k : Nat) : qY cf (call cf k) (kps 54) Tryz.f54.ntmps k 0 0 (lb Tryz.f54 0) (qoM k) :=
 qr (c := cf) (callF := call cf k) (kp := kps 54) (nt := Tryz.f54.ntmps) (k := k) (p := 0) (b := 0) (x0 := lb Tryz.f54 0) (hs := qjB) (os := qoL) (qd (qvY k)) (qDY k) (fun n x => qax k n x.1 x.2.1 x.2.2) (fun _ => rfl) (qDZ k)
theorem qD1 (k : Nat) : qg (LOk (R := DS FS.D qoK) (fun b _ σ K => LOt Ty (kps 54) 0 b σ K [qoM k]) cf (call cf k) (cf.keep 54) Tryz.f54.ntmps k qhA.bs.length) 0 (bd Tryz.f54) :=
 qA qT (qA (qA qT (qA (qA qT qT) qT)) (qA (qA qT (qw (c := cf) (callF := call cf k) (kp := kps 54) (nt := Tryz.f54.ntmps) (k := k) (p := 0) (b := 0) (x0 := lb Tryz.f54 0) (l := [qoM k]) (qA (fun _ => qD0 k) qT))) (qA qT qT)))
theorem qD2 (k : Nat) (x : qhA.D) : qce (k + 1) x.1 x.2 = qi cf (fun f a b K => COt f a b K []) (fun b _ σ K => LOt Ty (kps 54) 0 b σ K [qoM k]) 54 Tryz.f54.ntmps Tryz.f54.results.toList (bd Tryz.f54) (qhA.enc x).1 (qhA.enc x).2 (qj FS.dec qoK) := by kernel_rfl
theorem qD3 : ∀ k, qf (call cf k) (qu0 k)
 | 0 => fun x y e => absurd (show (none : Option _) = some y from e) (by simp)
 | k + 1 => qe (c := cf) (k := k) (f := 54) (fn := Tryz.f54) (body := bd Tryz.f54) (sh := qhA) (os := qoK) rfl Tryz.func54 rfl ⟨rfl, Nat.le_of_ble_eq_true rfl⟩ (qd (qvY k)) (qD1 k) (fun x => qce (k + 1) x.1 x.2) (qD2 k)

def qmo (k : Nat) (a0 : ByteArray) (a1 : Int) (a2 : List (Int × Int)) (a3 : List (Int × Int)) (b0 : ByteArray) (b1 : Int) (b2 : List (Int × Int)) (b3 : List (Int × Int)) : Option (Bool) :=
 if (((Array.toList (ByteArray.data a0)) == (Array.toList (ByteArray.data b0))) = true) then
 if ((a1 == b1) = true) then
 Option.bind (qce k a2 b2) fun r14 =>
 if (r14 = true) then
 Option.bind (qce k a3 b3) fun r15 =>
 (some r15)
 else
 (some false)
 else
 (some false)
 else
 (some false)
def qcf : Nat → ByteArray → Int → List (Int × Int) → List (Int × Int) → ByteArray → Int → List (Int × Int) → List (Int × Int) → Option (Bool)
 | 0, _, _, _, _, _, _, _, _ => none
 | k + 1, a0, a1, a2, a3, b0, b1, b2, b3 => qmo k a0 a1 a2 a3 b0 b1 b2 b3
def qhB : FS := { vs := [.g [.lf .str, .lf (.int .u8), .lf (.sl (.pr (.int .i64) (.int .i64))), .lf (.sl (.pr (.int .i64) (.int .i64)))], .g [.lf .str, .lf (.int .u8), .lf (.sl (.pr (.int .i64) (.int .i64))), .lf (.sl (.pr (.int .i64) (.int .i64)))]], bs := [] }
def qoN : List FS := [{ vs := [.a (.lf .bool)], bs := [] }]
def qu1 (k : Nat) : Inst := ⟨17, qhB, qoN, fun x => qcf k x.1 x.2.1 x.2.2.1 x.2.2.2.1 x.2.2.2.2.1 x.2.2.2.2.2.1 x.2.2.2.2.2.2.1 x.2.2.2.2.2.2.2⟩
theorem qD4 (k : Nat) : qk (call cf k) [qu0 k] := qA (qD3 k) qT
theorem qD5 (k : Nat) : qg (LOk (R := DS FS.D qoN) (fun b _ σ K => LOt Ty (kps 17) 0 b σ K []) cf (call cf k) (cf.keep 17) Tryz.f17.ntmps k qhB.bs.length) 0 (bd Tryz.f17) :=
 qA qT (qA qT qT)
theorem qD6 (k : Nat) (x : qhB.D) : qcf (k + 1) x.1 x.2.1 x.2.2.1 x.2.2.2.1 x.2.2.2.2.1 x.2.2.2.2.2.1 x.2.2.2.2.2.2.1 x.2.2.2.2.2.2.2 = qi cf (fun f a b K => COt f a b K [qu0 k]) (fun b _ σ K => LOt Ty (kps 17) 0 b σ K []) 17 Tryz.f17.ntmps Tryz.f17.results.toList (bd Tryz.f17) (qhB.enc x).1 (qhB.enc x).2 (qj FS.dec qoN) := by kernel_rfl
theorem qD7 : ∀ k, qf (call cf k) (qu1 k)
 | 0 => fun x y e => absurd (show (none : Option _) = some y from e) (by simp)
 | k + 1 => qe (c := cf) (k := k) (f := 17) (fn := Tryz.f17) (body := bd Tryz.f17) (sh := qhB) (os := qoN) rfl Tryz.func17 rfl ⟨rfl, Nat.le_of_ble_eq_true rfl⟩ (qd (qD4 k)) (qD5 k) (fun x => qcf (k + 1) x.1 x.2.1 x.2.2.1 x.2.2.2.1 x.2.2.2.2.1 x.2.2.2.2.2.1 x.2.2.2.2.2.2.1 x.2.2.2.2.2.2.2) (qD6 k)

def qg6 (k : Nat) (m0 : ByteArray) (m1 : Int) (m2 : List (Int × Int)) (m3 : List (Int × Int)) (k1 : Int) (u0 : Bool) (u1 : List Int) (u2 : Bool) (u3 : List Int) : Option (Bool) :=
 Option.bind (qcB k) fun r =>
 if ((!r) = true) then
 (some false)
 else
 if ((decide ((IntKind.wrap .i64 ((((List.length u1) : Nat) : Int) + (((List.length u3) : Nat) : Int))) > (160 : Int))) = true) then
 (some true)
 else
 Option.bind (qc1 k m0 m1 m2 m3) fun r1 =>
 if ((0 + r1.2.2.1) ≤ (List.length r1.2.2.2.2.1)) then
 if ((0 + r1.2.2.2.1) ≤ (List.length r1.2.2.2.2.2)) then
 Option.bind (qbX k r1.1 r1.2.1 (List.take r1.2.2.1 r1.2.2.2.2.1) (List.take r1.2.2.2.1 r1.2.2.2.2.2) k1) fun r2 =>
 Option.bind (qcd k m0 m1 m2 m3 k1) fun r3 =>
 if ((0 + r1.2.2.1) ≤ (List.length r1.2.2.2.2.1)) then
 if ((0 + r1.2.2.2.1) ≤ (List.length r1.2.2.2.2.2)) then
 Option.bind (qaU k r1.1 r1.2.1 (List.take r1.2.2.1 r1.2.2.2.2.1) (List.take r1.2.2.2.1 r1.2.2.2.2.2) k1 u0 u1 u2 u3) fun r4 =>
 Option.bind (qaS k m0 m1 m2 m3 k1 u0 u1 u2 u3) fun r5 =>
 if ((0 + r1.2.2.1) ≤ (List.length r1.2.2.2.2.1)) then
 if ((0 + r1.2.2.2.1) ≤ (List.length r1.2.2.2.2.2)) then
 Option.bind (qcq k r1.1 r1.2.1 (List.take r1.2.2.1 r1.2.2.2.2.1) (List.take r1.2.2.2.1 r1.2.2.2.2.2) u0 u1 u2 u3) fun r6 =>
 Option.bind (qbE k m0 m1 m2 m3 u0 u1 u2 u3) fun r7 =>
 Option.bind (qaG k m0 m1 m2 m3) fun r8 =>
 if (r8 = true) then
 Option.bind (qa7 k r2.1 r2.2.1 r2.2.2.1 r2.2.2.2.1 r3.1 r3.2.1 r3.2.2.1 r3.2.2.2.1) fun r9 =>
 if ((!r9) = false) then
 Option.bind (qa7 k r2.2.2.2.2.1 r2.2.2.2.2.2.1 r2.2.2.2.2.2.2.1 r2.2.2.2.2.2.2.2.1 r3.2.2.2.2.1 r3.2.2.2.2.2.1 r3.2.2.2.2.2.2.1 r3.2.2.2.2.2.2.2.1) fun r10 =>
 if ((!r10) = false) then
 if ((r2.2.2.2.2.2.2.2.2 != r3.2.2.2.2.2.2.2.2) = false) then
 if ((r4.1 != r5.1) = false) then
 if ((r4.2 != r5.2) = false) then
 if ((r6.1 != r7.1) = false) then
 if ((r6.2 != r7.2) = false) then
 if ((0 + r1.2.2.1) ≤ (List.length r1.2.2.2.2.1)) then
 if ((0 + r1.2.2.2.1) ≤ (List.length r1.2.2.2.2.2)) then
 Option.bind (qbW k r1.1 r1.2.1 (List.take r1.2.2.1 r1.2.2.2.2.1) (List.take r1.2.2.2.1 r1.2.2.2.2.2)) fun r11 =>
 Option.bind (qaG k m0 m1 m2 m3) fun r12 =>
 if ((!(r11 == r12)) = false) then
 if ((0 + r1.2.2.1) ≤ (List.length r1.2.2.2.2.1)) then
 if ((0 + r1.2.2.2.1) ≤ (List.length r1.2.2.2.2.2)) then
 Option.bind (qcv k r1.1 r1.2.1 (List.take r1.2.2.1 r1.2.2.2.2.1) (List.take r1.2.2.2.1 r1.2.2.2.2.2)) fun r13 =>
 if ((r13 != (((List.length m2) : Nat) : Int)) = true) then
 (some false)
 else
 if ((0 + r1.2.2.1) ≤ (List.length r1.2.2.2.2.1)) then
 if ((0 + r1.2.2.2.1) ≤ (List.length r1.2.2.2.2.2)) then
 Option.bind (qcf k r1.1 r1.2.1 (List.take r1.2.2.1 r1.2.2.2.2.1) (List.take r1.2.2.2.1 r1.2.2.2.2.2) m0 m1 m2 m3) fun r14 =>
 if (r14 = true) then
 if (((0 : Int) ≤ (0 : Int)) ∧ (((0 : Int) ≤ (IntKind.wrap .i64 ((((List.length m2) : Nat) : Int) + (1 : Int)))) ∧ (((0 + (Int.toNat (IntKind.wrap .i64 ((((List.length m2) : Nat) : Int) + (1 : Int))))) ≤ (List.length r1.2.2.2.2.1)) ∧ (((0 : Int) < (IntKind.wrap .i64 ((((List.length m2) : Nat) : Int) + (1 : Int)))) ∨ (true = true))))) then
 if (((0 : Int) ≤ (((List.length m2) : Nat) : Int)) ∧ ((((List.length m2) : Nat) : Int) < (((Int.toNat (IntKind.wrap .i64 ((((List.length m2) : Nat) : Int) + (1 : Int)))) : Nat) : Int))) then
 Option.bind (r1.2.2.2.2.1)[(0 + (Int.toNat (((List.length m2) : Nat) : Int)))]? fun x =>
 if ((x.1 == (77 : Int)) = true) then
 if (((0 : Int) ≤ (0 : Int)) ∧ (((0 : Int) ≤ (IntKind.wrap .i64 ((((List.length m3) : Nat) : Int) + (1 : Int)))) ∧ (((0 + (Int.toNat (IntKind.wrap .i64 ((((List.length m3) : Nat) : Int) + (1 : Int))))) ≤ (List.length r1.2.2.2.2.2)) ∧ (((0 : Int) < (IntKind.wrap .i64 ((((List.length m3) : Nat) : Int) + (1 : Int)))) ∨ (true = true))))) then
 if (((0 : Int) ≤ (((List.length m3) : Nat) : Int)) ∧ ((((List.length m3) : Nat) : Int) < (((Int.toNat (IntKind.wrap .i64 ((((List.length m3) : Nat) : Int) + (1 : Int)))) : Nat) : Int))) then
 Option.bind (r1.2.2.2.2.2)[(0 + (Int.toNat (((List.length m3) : Nat) : Int)))]? fun x1 =>
 (some (x1.1 == (78 : Int)))
 else
 none
 else
 none
 else
 (some false)
 else
 none
 else
 none
 else
 (some false)
 else
 none
 else
 none
 else
 none
 else
 none
 else
 (some false)
 else
 none
 else
 none
 else
 (some false)
 else
 (some false)
 else
 (some false)
 else
 (some false)
 else
 (some false)
 else
 (some false)
 else
 (some false)
 else
 Option.bind (qa7 k r2.1 r2.2.1 r2.2.2.1 r2.2.2.2.1 r3.1 r3.2.1 r3.2.2.1 r3.2.2.2.1) fun r9 =>
 if ((!r9) = false) then
 Option.bind (qa7 k r2.2.2.2.2.1 r2.2.2.2.2.2.1 r2.2.2.2.2.2.2.1 r2.2.2.2.2.2.2.2.1 r3.2.2.2.2.1 r3.2.2.2.2.2.1 r3.2.2.2.2.2.2.1 r3.2.2.2.2.2.2.2.1) fun r10 =>
 if ((!r10) = false) then
 if ((r2.2.2.2.2.2.2.2.2 != r3.2.2.2.2.2.2.2.2) = false) then
 if ((r4.1 != r5.1) = false) then
 if ((r4.2 != r5.2) = false) then
 if ((r6.1 != r7.1) = false) then
 if ((r6.2 != r7.2) = false) then
 if ((0 + r1.2.2.1) ≤ (List.length r1.2.2.2.2.1)) then
 if ((0 + r1.2.2.2.1) ≤ (List.length r1.2.2.2.2.2)) then
 Option.bind (qbW k r1.1 r1.2.1 (List.take r1.2.2.1 r1.2.2.2.2.1) (List.take r1.2.2.2.1 r1.2.2.2.2.2)) fun r11 =>
 Option.bind (qaG k m0 m1 m2 m3) fun r12 =>
 if ((!(r11 == r12)) = false) then
 if ((0 + r1.2.2.1) ≤ (List.length r1.2.2.2.2.1)) then
 if ((0 + r1.2.2.2.1) ≤ (List.length r1.2.2.2.2.2)) then
 Option.bind (qcv k r1.1 r1.2.1 (List.take r1.2.2.1 r1.2.2.2.2.1) (List.take r1.2.2.2.1 r1.2.2.2.2.2)) fun r13 =>
 if ((r13 != (0 : Int)) = true) then
 (some false)
 else
 if ((0 + r1.2.2.1) ≤ (List.length r1.2.2.2.2.1)) then
 if ((0 + r1.2.2.2.1) ≤ (List.length r1.2.2.2.2.2)) then
 Option.bind (qcf k r1.1 r1.2.1 (List.take r1.2.2.1 r1.2.2.2.2.1) (List.take r1.2.2.2.1 r1.2.2.2.2.2) m0 m1 m2 m3) fun r14 =>
 if (r14 = true) then
 if (((0 : Int) ≤ (0 : Int)) ∧ (((0 : Int) ≤ (IntKind.wrap .i64 ((((List.length m2) : Nat) : Int) + (1 : Int)))) ∧ (((0 + (Int.toNat (IntKind.wrap .i64 ((((List.length m2) : Nat) : Int) + (1 : Int))))) ≤ (List.length r1.2.2.2.2.1)) ∧ (((0 : Int) < (IntKind.wrap .i64 ((((List.length m2) : Nat) : Int) + (1 : Int)))) ∨ (true = true))))) then
 if (((0 : Int) ≤ (((List.length m2) : Nat) : Int)) ∧ ((((List.length m2) : Nat) : Int) < (((Int.toNat (IntKind.wrap .i64 ((((List.length m2) : Nat) : Int) + (1 : Int)))) : Nat) : Int))) then
 Option.bind (r1.2.2.2.2.1)[(0 + (Int.toNat (((List.length m2) : Nat) : Int)))]? fun x =>
 if ((x.1 == (77 : Int)) = true) then
 if (((0 : Int) ≤ (0 : Int)) ∧ (((0 : Int) ≤ (IntKind.wrap .i64 ((((List.length m3) : Nat) : Int) + (1 : Int)))) ∧ (((0 + (Int.toNat (IntKind.wrap .i64 ((((List.length m3) : Nat) : Int) + (1 : Int))))) ≤ (List.length r1.2.2.2.2.2)) ∧ (((0 : Int) < (IntKind.wrap .i64 ((((List.length m3) : Nat) : Int) + (1 : Int)))) ∨ (true = true))))) then
 if (((0 : Int) ≤ (((List.length m3) : Nat) : Int)) ∧ ((((List.length m3) : Nat) : Int) < (((Int.toNat (IntKind.wrap .i64 ((((List.length m3) : Nat) : Int) + (1 : Int)))) : Nat) : Int))) then
 Option.bind (r1.2.2.2.2.2)[(0 + (Int.toNat (((List.length m3) : Nat) : Int)))]? fun x1 =>
 (some (x1.1 == (78 : Int)))
 else
 none
 else
 none
 else
 (some false)
 else
 none
 else
 none
 else
 (some false)
 else
 none
 else
 none
 else
 none
 else
 none
 else
 (some false)
 else
 none
 else
 none
 else
 (some false)
 else
 (some false)
 else
 (some false)
 else
 (some false)
 else
 (some false)
 else
 (some false)
 else
 (some false)
 else
 none
 else
 none
 else
 none
 else
 none
 else
 none
 else
 none
def qbb : Nat → ByteArray → Int → List (Int × Int) → List (Int × Int) → Int → Bool → List Int → Bool → List Int → Option (Bool)
 | 0, _, _, _, _, _, _, _, _, _ => none
 | k + 1, m0, m1, m2, m3, k1, u0, u1, u2, u3 => qg6 k m0 m1 m2 m3 k1 u0 u1 u2 u3
def qlp : FS := { vs := [.g [.lf .str, .lf (.int .u8), .lf (.sl (.pr (.int .i64) (.int .i64))), .lf (.sl (.pr (.int .i64) (.int .i64)))], .a (.lf (.int .i64)), .g [.lf .bool, .lf (.sl (.int .u32)), .lf .bool, .lf (.sl (.int .u32))]], bs := [] }
def qrH : List FS := [{ vs := [.a (.lf .bool)], bs := [] }]
def qJL (k : Nat) : Inst := ⟨3, qlp, qrH, fun x => qbb k x.1 x.2.1 x.2.2.1 x.2.2.2.1 x.2.2.2.2.1 x.2.2.2.2.2.1 x.2.2.2.2.2.2.1 x.2.2.2.2.2.2.2.1 x.2.2.2.2.2.2.2.2⟩
theorem qI8 (k : Nat) : qk (call cf k) [qxD k, qxE k, qsr k, quX k, qja k, quY k, qss k, quZ k, qgR k, qxN k, qib k, qsu k, qu1 k] := qA (qHA k) (qA (qHE k) (qA (qyF k) (qA (qDE k) (qA (quO k) (qA (qDO k) (qA (qyH k) (qA (qDU k) (qA (qsC k) (qA (qI7 k) (qA (qqR k) (qA (qyI k) (qA (qD7 k) qT))))))))))))
theorem qI9 (k : Nat) : qg (LOk (R := DS FS.D qrH) (fun b _ σ K => LOt Ty (kps 3) 0 b σ K []) cf (call cf k) (cf.keep 3) Tryz.f3.ntmps k qlp.bs.length) 0 (bd Tryz.f3) :=
 qA qT (qA (qA qT (qA (qA qT qT) qT)) (qA (qA qT (qA (qA qT qT) qT)) (qA qT (qA qT (qA qT (qA qT (qA qT (qA qT (qA qT (qA qT (qA (qA qT (qA qT qT)) (qA (qA qT (qA (qA qT qT) qT)) (qA qT qT)))))))))))))
theorem qJa (k : Nat) (x : qlp.D) : qbb (k + 1) x.1 x.2.1 x.2.2.1 x.2.2.2.1 x.2.2.2.2.1 x.2.2.2.2.2.1 x.2.2.2.2.2.2.1 x.2.2.2.2.2.2.2.1 x.2.2.2.2.2.2.2.2 = qi cf (fun f a b K => COt f a b K [qxD k, qxE k, qsr k, quX k, qja k, quY k, qss k, quZ k, qgR k, qxN k, qib k, qsu k, qu1 k]) (fun b _ σ K => LOt Ty (kps 3) 0 b σ K []) 3 Tryz.f3.ntmps Tryz.f3.results.toList (bd Tryz.f3) (qlp.enc x).1 (qlp.enc x).2 (qj FS.dec qrH) := by kernel_rfl
theorem qJb : ∀ k, qf (call cf k) (qJL k)
 | 0 => fun x y e => absurd (show (none : Option _) = some y from e) (by simp)
 | k + 1 => qe (c := cf) (k := k) (f := 3) (fn := Tryz.f3) (body := bd Tryz.f3) (sh := qlp) (os := qrH) rfl Tryz.func3 rfl ⟨rfl, Nat.le_of_ble_eq_true rfl⟩ (qd (qI8 k)) (qI9 k) (fun x => qbb (k + 1) x.1 x.2.1 x.2.2.1 x.2.2.2.1 x.2.2.2.2.1 x.2.2.2.2.2.1 x.2.2.2.2.2.2.1 x.2.2.2.2.2.2.2.1 x.2.2.2.2.2.2.2.2) (qJa k)


end
end Go.Proofs.YtbhnafdmilfobaaGreat.Am
