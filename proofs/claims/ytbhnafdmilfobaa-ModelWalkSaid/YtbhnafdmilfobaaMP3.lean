/- Printed functions: each says what the typed machine says of the program -/
import Derived.Test.YtbhnafdmilfobaaMP2
import Derived.KernelRfl

set_option linter.unusedVariables false
set_option maxRecDepth 100000
namespace Go.Proofs.Ytbhnafdmilfobaa.Am
open Go
noncomputable section

/-! shunt/shuntref01.Small -/
def Lshuntref01_Small_0s (k : Nat) (rec : Int → Bool → Nat → Bool → Nat → List Int → List Int → Option (Bool × Nat × Bool × Nat × List Int × List Int)) (v : Int) (x0 : Bool) (x1 : Nat) (a0 : Bool) (a1 : Nat) (m : List Int) (m1 : List Int) : Option (Bool × Nat × Bool × Nat × List Int × List Int) :=
 if ((decide (v > (0 : Int))) = true) then
 if (a1 ≤ (List.length m1)) then
 if (((a1 + (List.length (List.take 1 ((Int.tmod v (65536 : Int)) :: [])))) * 8) ≤ 140737488355328) then
 rec (IntKind.wrap .i64 (Int.tdiv v (65536 : Int))) x0 x1 a0 (a1 + (List.length (List.take 1 ((Int.tmod v (65536 : Int)) :: [])))) m ((List.take a1 m1) ++ (List.take 1 ((Int.tmod v (65536 : Int)) :: [])))
 else
 none
 else
 none
 else
 (some (x0, x1, a0, a1, m, m1))
def Lshuntref01_Small_0 (k n : Nat) : Int → Bool → Nat → Bool → Nat → List Int → List Int → Option (Bool × Nat × Bool × Nat × List Int × List Int) := Nat.rec (fun _ _ _ _ _ _ _ => none) (fun _ r => Lshuntref01_Small_0s k r) n
def bshuntref01_Small (k : Nat) (v : Int) : Option (Bool × List Int) :=
 if ((decide (v < (0 : Int))) = true) then
 Option.bind (Lshuntref01_Small_0 k k (IntKind.wrap .i64 ((0 : Int) - v)) false 0 true 0 [] []) fun r5 =>
 if ((0 + r5.2.2.2.1) ≤ (List.length r5.2.2.2.2.2)) then
 (some (r5.2.2.1, (List.take r5.2.2.2.1 r5.2.2.2.2.2)))
 else
 none
 else
 Option.bind (Lshuntref01_Small_0 k k v false 0 false 0 [] []) fun r5 =>
 if ((0 + r5.2.2.2.1) ≤ (List.length r5.2.2.2.2.2)) then
 (some (r5.2.2.1, (List.take r5.2.2.2.1 r5.2.2.2.2.2)))
 else
 none
def Fshuntref01_Small : Nat → Int → Option (Bool × List Int)
 | 0, _ => none
 | k + 1, v => bshuntref01_Small k v
def shq77 : FS := { vs := [.a (.lf (.int .i64))], bs := [] }
def rsq77 : List FS := [{ vs := [.g [.lf .bool, .lf (.sl (.int .i64))]], bs := [] }]
def Iq77 (k : Nat) : Inst := ⟨43, shq77, rsq77, fun x => Fshuntref01_Small k x⟩
theorem alq77 (k : Nat) : AllI (call cf k) [] := True.intro
def hsq136 : List SS := [{ fr := [(0, .a (.lf (.int .i64))), (2, .a (.ptr 0 0 0)), (3, .a (.ptr 1 0 0))], mem := [(0, some (.raw [[.lf .bool, .smz 2]] 2 77 false false)), (1, some (.raw [[.lf .bool, .smz 3]] 2 77 false false)), (2, some (.arr (.int .i64) 1 3 false)), (3, some (.arr (.int .i64) 1 3 false))], nx := 4 }]
def osq136 : List OS := [⟨some 0, { fr := [(2, .a (.ptr 0 0 0)), (3, .a (.ptr 1 0 0))], mem := [(0, some (.raw [[.lf .bool, .smz 2]] 2 77 false false)), (1, some (.raw [[.lf .bool, .smz 3]] 2 77 false false)), (2, some (.arr (.int .i64) 1 3 false)), (3, some (.arr (.int .i64) 1 3 false))], nx := 4 }⟩]
def LIq136 (k : Nat) : LInst := ⟨0, hsq136, osq136, fun x => Lshuntref01_Small_0 k k x.1 x.2.1 x.2.2.1 x.2.2.2.1 x.2.2.2.2.1 x.2.2.2.2.2.1 x.2.2.2.2.2.2⟩
theorem anq136 (k : Nat) : LAll (LOk (R := DS OS.D osq136) (fun b _ σ K => LOt Ty (kps 43) 0 b σ K []) cf (call cf k) (kps 43) Try.f43.ntmps k 0) 0 (lb Try.f43 0) :=
 qA (qA qT (qA qT qT)) (qA qT qT)
theorem stq136 (k n : Nat) (x : DS SS.D hsq136) : Lshuntref01_Small_0 k (n + 1) x.1 x.2.1 x.2.2.1 x.2.2.2.1 x.2.2.2.2.1 x.2.2.2.2.2.1 x.2.2.2.2.2.2 = encSK SS.enc (fun σ => run2 cf (fun f a b K => COt f a b K []) (fun b _ σ K => LOt Ty (kps 43) 0 b σ K []) Try.f43.ntmps 0 (lb Try.f43 0) σ (nextK Ty (kps 43 0) 0 hsq136 osq136 fun x => Lshuntref01_Small_0 k n x.1 x.2.1 x.2.2.1 x.2.2.2.1 x.2.2.2.2.1 x.2.2.2.2.2.1 x.2.2.2.2.2.2)) hsq136 x := by kernel_rfl
theorem loq136 (k : Nat) : LIOk cf (call cf k) (kps 43) Try.f43.ntmps k 0 0 (lb Try.f43 0) (LIq136 k) :=
 loop_ok (c := cf) (callF := call cf k) (kp := kps 43) (nt := Try.f43.ntmps) (k := k) (p := 0) (b := 0) (x0 := lb Try.f43 0) (hs := hsq136) (os := osq136) (COt_ok (alq77 k)) (anq136 k) (fun n x => Lshuntref01_Small_0 k n x.1 x.2.1 x.2.2.1 x.2.2.2.1 x.2.2.2.2.1 x.2.2.2.2.2.1 x.2.2.2.2.2.2) (fun _ => rfl) (stq136 k)
theorem anq77 (k : Nat) : LAll (LOk (R := DS FS.D rsq77) (fun b _ σ K => LOt Ty (kps 43) 0 b σ K [LIq136 k]) cf (call cf k) (cf.keep 43) Try.f43.ntmps k shq77.bs.length) 0 (bd Try.f43) :=
 qA qT (qA qT (qA (qA qT (qA (qA qT qT) qT)) (qA (LOt_ok (c := cf) (callF := call cf k) (kp := kps 43) (nt := Try.f43.ntmps) (k := k) (p := 0) (b := 0) (x0 := lb Try.f43 0) (l := [LIq136 k]) (qA (fun _ => loq136 k) qT)) (qA qT qT))))
theorem stq77 (k : Nat) (x : shq77.D) : Fshuntref01_Small (k + 1) x = body2 cf (fun f a b K => COt f a b K []) (fun b _ σ K => LOt Ty (kps 43) 0 b σ K [LIq136 k]) 43 Try.f43.ntmps Try.f43.results.toList (bd Try.f43) (shq77.enc x).1 (shq77.enc x).2 (putS FS.dec rsq77) := by kernel_rfl
theorem okq77 : ∀ k, InstOk (call cf k) (Iq77 k)
 | 0 => fun x y e => absurd (show (none : Option _) = some y from e) (by simp)
 | k + 1 => inst_ok (c := cf) (k := k) (f := 43) (fn := Try.f43) (body := bd Try.f43) (sh := shq77) (os := rsq77) rfl Try.func43 rfl ⟨rfl, Nat.le_of_ble_eq_true rfl⟩ (COt_ok (alq77 k)) (anq77 k) (fun x => Fshuntref01_Small (k + 1) x) (stq77 k)

/-! shunt/shuntref01.trim -/
def Lshuntref01_trim_mfi_0s (k : Nat) (rec : Nat → Int → List Int → Option (Nat × Int × List Int)) (d : Nat) (n : Int) (ds : List Int) : Option (Nat × Int × List Int) :=
 if ((decide (n > (0 : Int))) = true) then
 if (((0 : Int) ≤ (IntKind.wrap .i64 (n - (1 : Int)))) ∧ ((IntKind.wrap .i64 (n - (1 : Int))) < ((d : Nat) : Int))) then
 Option.bind (ds)[(0 + (Int.toNat (IntKind.wrap .i64 (n - (1 : Int)))))]? fun x2 =>
 if ((x2 == (0 : Int)) = true) then
 rec d (IntKind.wrap .i64 (n - (1 : Int))) ds
 else
 (some (d, n, ds))
 else
 none
 else
 (some (d, n, ds))
def Lshuntref01_trim_mfi_0 (k n : Nat) : Nat → Int → List Int → Option (Nat × Int × List Int) := Nat.rec (fun _ _ _ => none) (fun _ r => Lshuntref01_trim_mfi_0s k r) n
def bshuntref01_trim_mfi (k : Nat) (d : Nat) (ds : List Int) : Option (Nat × List Int) :=
 Option.bind (Lshuntref01_trim_mfi_0 k k d ((d : Nat) : Int) ds) fun r8 =>
 if (((0 : Int) ≤ (0 : Int)) ∧ (((0 : Int) ≤ r8.2.1) ∧ (((0 + (Int.toNat r8.2.1)) ≤ (List.length r8.2.2)) ∧ (((0 : Int) < r8.2.1) ∨ (true = true))))) then
 (some ((Int.toNat r8.2.1), r8.2.2))
 else
 none
def Fshuntref01_trim_mfi : Nat → Nat → List Int → Option (Nat × List Int)
 | 0, _, _ => none
 | k + 1, d, ds => bshuntref01_trim_mfi k d ds
def shq85 : FS := { vs := [.a (.smz 0)], bs := [.arr (.int .i64) 1 3 false] }
def rsq85 : List FS := [{ vs := [.a (.smz 0)], bs := [.arr (.int .i64) 1 3 false] }]
def Iq85 (k : Nat) : Inst := ⟨82, shq85, rsq85, fun x => Fshuntref01_trim_mfi k x.1 x.2⟩
theorem alq85 (k : Nat) : AllI (call cf k) [] := True.intro
def hsq145 : List SS := [{ fr := [(0, .a (.smz 0)), (3, .a (.lf (.int .i64)))], mem := [(0, some (.arr (.int .i64) 1 3 false))], nx := 1 }]
def osq145 : List OS := [⟨some 0, { fr := [(0, .a (.smz 0)), (3, .a (.lf (.int .i64)))], mem := [(0, some (.arr (.int .i64) 1 3 false))], nx := 1 }⟩]
def LIq145 (k : Nat) : LInst := ⟨0, hsq145, osq145, fun x => Lshuntref01_trim_mfi_0 k k x.1 x.2.1 x.2.2⟩
theorem anq145 (k : Nat) : LAll (LOk (R := DS OS.D osq145) (fun b _ σ K => LOt Ty (kps 82) 1 b σ K []) cf (call cf k) (kps 82) Try.f82.ntmps k 1) 0 (lb Try.f82 0) :=
 qA (qA qT (qA qT qT)) qT
theorem stq145 (k n : Nat) (x : DS SS.D hsq145) : Lshuntref01_trim_mfi_0 k (n + 1) x.1 x.2.1 x.2.2 = encSK SS.enc (fun σ => run2 cf (fun f a b K => COt f a b K []) (fun b _ σ K => LOt Ty (kps 82) 1 b σ K []) Try.f82.ntmps 0 (lb Try.f82 0) σ (nextK Ty (kps 82 0) 1 hsq145 osq145 fun x => Lshuntref01_trim_mfi_0 k n x.1 x.2.1 x.2.2)) hsq145 x := by kernel_rfl
theorem loq145 (k : Nat) : LIOk cf (call cf k) (kps 82) Try.f82.ntmps k 1 0 (lb Try.f82 0) (LIq145 k) :=
 loop_ok (c := cf) (callF := call cf k) (kp := kps 82) (nt := Try.f82.ntmps) (k := k) (p := 1) (b := 0) (x0 := lb Try.f82 0) (hs := hsq145) (os := osq145) (COt_ok (alq85 k)) (anq145 k) (fun n x => Lshuntref01_trim_mfi_0 k n x.1 x.2.1 x.2.2) (fun _ => rfl) (stq145 k)
theorem anq85 (k : Nat) : LAll (LOk (R := DS FS.D rsq85) (fun b _ σ K => LOt Ty (kps 82) 1 b σ K [LIq145 k]) cf (call cf k) (cf.keep 82) Try.f82.ntmps k shq85.bs.length) 0 (bd Try.f82) :=
 qA qT (qA qT (qA (LOt_ok (c := cf) (callF := call cf k) (kp := kps 82) (nt := Try.f82.ntmps) (k := k) (p := 1) (b := 0) (x0 := lb Try.f82 0) (l := [LIq145 k]) (qA (fun _ => loq145 k) qT)) (qA qT qT)))
theorem stq85 (k : Nat) (x : shq85.D) : Fshuntref01_trim_mfi (k + 1) x.1 x.2 = body2 cf (fun f a b K => COt f a b K []) (fun b _ σ K => LOt Ty (kps 82) 1 b σ K [LIq145 k]) 82 Try.f82.ntmps Try.f82.results.toList (bd Try.f82) (shq85.enc x).1 (shq85.enc x).2 (putS FS.dec rsq85) := by kernel_rfl
theorem okq85 : ∀ k, InstOk (call cf k) (Iq85 k)
 | 0 => fun x y e => absurd (show (none : Option _) = some y from e) (by simp)
 | k + 1 => inst_ok (c := cf) (k := k) (f := 82) (fn := Try.f82) (body := bd Try.f82) (sh := shq85) (os := rsq85) rfl Try.func82 rfl ⟨rfl, Nat.le_of_ble_eq_true rfl⟩ (COt_ok (alq85 k)) (anq85 k) (fun x => Fshuntref01_trim_mfi (k + 1) x.1 x.2) (stq85 k)

/-! shunt/shuntref01.Times -/
def Lshuntref01_Times_2s (k : Nat) (rec : Nat → Int → Int → Int → Bool → List Int → Bool → List Int → Bool → Nat → List Int → List Int → Option (Nat × Int × Int × Bool × List Int × Bool × List Int × Bool × Nat × List Int × List Int)) (d : Nat) (i : Int) (carry : Int) (j : Int) (a0 : Bool) (a1 : List Int) (b0 : Bool) (b1 : List Int) (x0 : Bool) (x1 : Nat) (ds : List Int) (m : List Int) : Option (Nat × Int × Int × Bool × List Int × Bool × List Int × Bool × Nat × List Int × List Int) :=
 if ((decide (j < (((List.length b1) : Nat) : Int))) = true) then
 if (((0 : Int) ≤ (IntKind.wrap .i64 (i + j))) ∧ ((IntKind.wrap .i64 (i + j)) < ((d : Nat) : Int))) then
 Option.bind (ds)[(0 + (Int.toNat (IntKind.wrap .i64 (i + j))))]? fun x2 =>
 if ((0 : Int) ≤ i) then
 Option.bind (a1)[(Int.toNat i)]? fun x3 =>
 if ((0 : Int) ≤ j) then
 Option.bind (b1)[(Int.toNat j)]? fun x4 =>
 if (((0 : Int) ≤ (IntKind.wrap .i64 (i + j))) ∧ ((IntKind.wrap .i64 (i + j)) < ((d : Nat) : Int))) then
 Option.bind (ds)[(0 + (Int.toNat (IntKind.wrap .i64 (i + j))))]? fun x5 =>
 rec d i (IntKind.wrap .i64 (Int.tdiv (IntKind.wrap .i64 ((IntKind.wrap .i64 (x2 + (IntKind.wrap .i64 (x3 * x4)))) + carry)) (65536 : Int))) (IntKind.wrap .i64 (j + (1 : Int))) a0 a1 b0 b1 x0 x1 (List.set ds (0 + (Int.toNat (IntKind.wrap .i64 (i + j)))) (Int.tmod (IntKind.wrap .i64 ((IntKind.wrap .i64 (x2 + (IntKind.wrap .i64 (x3 * x4)))) + carry)) (65536 : Int))) m
 else
 none
 else
 none
 else
 none
 else
 none
 else
 (some (d, i, carry, a0, a1, b0, b1, x0, x1, ds, m))
def Lshuntref01_Times_2 (k n : Nat) : Nat → Int → Int → Int → Bool → List Int → Bool → List Int → Bool → Nat → List Int → List Int → Option (Nat × Int × Int × Bool × List Int × Bool × List Int × Bool × Nat × List Int × List Int) := Nat.rec (fun _ _ _ _ _ _ _ _ _ _ _ _ => none) (fun _ r => Lshuntref01_Times_2s k r) n
def Lshuntref01_Times_0s (k : Nat) (rec : Nat → Int → Bool → List Int → Bool → List Int → Bool → Nat → List Int → List Int → Option (Nat × Bool × List Int × Bool × List Int × Bool × Nat × List Int × List Int)) (d : Nat) (i : Int) (a0 : Bool) (a1 : List Int) (b0 : Bool) (b1 : List Int) (x0 : Bool) (x1 : Nat) (ds : List Int) (m : List Int) : Option (Nat × Bool × List Int × Bool × List Int × Bool × Nat × List Int × List Int) :=
 if ((decide (i < (((List.length a1) : Nat) : Int))) = true) then
 Option.bind (Lshuntref01_Times_2 k k d i (0 : Int) (0 : Int) a0 a1 b0 b1 x0 x1 ds m) fun r7 =>
 if (((0 : Int) ≤ (IntKind.wrap .i64 (r7.2.1 + (((List.length r7.2.2.2.2.2.2.1) : Nat) : Int)))) ∧ ((IntKind.wrap .i64 (r7.2.1 + (((List.length r7.2.2.2.2.2.2.1) : Nat) : Int))) < ((r7.1 : Nat) : Int))) then
 Option.bind (r7.2.2.2.2.2.2.2.2.2.1)[(0 + (Int.toNat (IntKind.wrap .i64 (r7.2.1 + (((List.length r7.2.2.2.2.2.2.1) : Nat) : Int)))))]? fun x2 =>
 if (((0 : Int) ≤ (IntKind.wrap .i64 (r7.2.1 + (((List.length r7.2.2.2.2.2.2.1) : Nat) : Int)))) ∧ ((IntKind.wrap .i64 (r7.2.1 + (((List.length r7.2.2.2.2.2.2.1) : Nat) : Int))) < ((r7.1 : Nat) : Int))) then
 Option.bind (r7.2.2.2.2.2.2.2.2.2.1)[(0 + (Int.toNat (IntKind.wrap .i64 (r7.2.1 + (((List.length r7.2.2.2.2.2.2.1) : Nat) : Int)))))]? fun x3 =>
 rec r7.1 (IntKind.wrap .i64 (r7.2.1 + (1 : Int))) r7.2.2.2.1 r7.2.2.2.2.1 r7.2.2.2.2.2.1 r7.2.2.2.2.2.2.1 r7.2.2.2.2.2.2.2.1 r7.2.2.2.2.2.2.2.2.1 (List.set r7.2.2.2.2.2.2.2.2.2.1 (0 + (Int.toNat (IntKind.wrap .i64 (r7.2.1 + (((List.length r7.2.2.2.2.2.2.1) : Nat) : Int))))) (IntKind.wrap .i64 (x2 + r7.2.2.1))) r7.2.2.2.2.2.2.2.2.2.2
 else
 none
 else
 none
 else
 (some (d, a0, a1, b0, b1, x0, x1, ds, m))
def Lshuntref01_Times_0 (k n : Nat) : Nat → Int → Bool → List Int → Bool → List Int → Bool → Nat → List Int → List Int → Option (Nat × Bool × List Int × Bool × List Int × Bool × Nat × List Int × List Int) := Nat.rec (fun _ _ _ _ _ _ _ _ _ _ => none) (fun _ r => Lshuntref01_Times_0s k r) n
def bshuntref01_Times (k : Nat) (a0 : Bool) (a1 : List Int) (b0 : Bool) (b1 : List Int) : Option (Bool × List Int) :=
 if (((0 : Int) ≤ (IntKind.wrap .i64 ((((List.length a1) : Nat) : Int) + (((List.length b1) : Nat) : Int)))) ∧ (((IntKind.wrap .i64 ((((List.length a1) : Nat) : Int) + (((List.length b1) : Nat) : Int))) ≤ (IntKind.wrap .i64 ((((List.length a1) : Nat) : Int) + (((List.length b1) : Nat) : Int)))) ∧ (((IntKind.wrap .i64 ((((List.length a1) : Nat) : Int) + (((List.length b1) : Nat) : Int))) * (8 : Int)) ≤ (140737488355328 : Int)))) then
 Option.bind (Lshuntref01_Times_0 k k (Int.toNat (IntKind.wrap .i64 ((((List.length a1) : Nat) : Int) + (((List.length b1) : Nat) : Int)))) (0 : Int) a0 a1 b0 b1 false 0 (List.replicate (Int.toNat (IntKind.wrap .i64 ((((List.length a1) : Nat) : Int) + (((List.length b1) : Nat) : Int)))) (0 : Int)) []) fun r7 =>
 Option.bind (Fshuntref01_trim_mfi k r7.1 r7.2.2.2.2.2.2.2.1) fun r8 =>
 if ((!(r7.2.1 == r7.2.2.2.1)) = true) then
 if ((0 + r8.1) ≤ (List.length r8.2)) then
 (some ((decide (((r8.1 : Nat) : Int) > (0 : Int))), (List.take r8.1 r8.2)))
 else
 none
 else
 if ((0 + r8.1) ≤ (List.length r8.2)) then
 (some (false, (List.take r8.1 r8.2)))
 else
 none
 else
 none
def Fshuntref01_Times : Nat → Bool → List Int → Bool → List Int → Option (Bool × List Int)
 | 0, _, _, _, _ => none
 | k + 1, a0, a1, b0, b1 => bshuntref01_Times k a0 a1 b0 b1
def shq79 : FS := { vs := [.g [.lf .bool, .lf (.sl (.int .i64))], .g [.lf .bool, .lf (.sl (.int .i64))]], bs := [] }
def rsq79 : List FS := [{ vs := [.g [.lf .bool, .lf (.sl (.int .i64))]], bs := [] }]
def Iq79 (k : Nat) : Inst := ⟨95, shq79, rsq79, fun x => Fshuntref01_Times k x.1 x.2.1 x.2.2.1 x.2.2.2⟩
theorem alq79 (k : Nat) : AllI (call cf k) [Iq85 k] := qA (okq85 k) qT
def hsq139 : List SS := [{ fr := [(2, .a (.ptr 0 0 0)), (3, .a (.ptr 1 0 0)), (4, .a (.ptr 2 0 0)), (5, .a (.smz 3)), (6, .a (.lf (.int .i64))), (7, .a (.lf (.int .i64))), (8, .a (.lf (.int .i64)))], mem := [(0, some (.raw [[.lf .bool, .lf (.sl (.int .i64))]] 2 77 true false)), (1, some (.raw [[.lf .bool, .lf (.sl (.int .i64))]] 2 77 true false)), (2, some (.raw [[.lf .bool, .smz 4]] 2 77 false false)), (3, some (.arr (.int .i64) 1 3 false)), (4, some (.arr (.int .i64) 1 3 false))], nx := 5 }]
def osq139 : List OS := [⟨some 2, { fr := [(2, .a (.ptr 0 0 0)), (3, .a (.ptr 1 0 0)), (4, .a (.ptr 2 0 0)), (5, .a (.smz 3)), (6, .a (.lf (.int .i64))), (7, .a (.lf (.int .i64)))], mem := [(0, some (.raw [[.lf .bool, .lf (.sl (.int .i64))]] 2 77 true false)), (1, some (.raw [[.lf .bool, .lf (.sl (.int .i64))]] 2 77 true false)), (2, some (.raw [[.lf .bool, .smz 4]] 2 77 false false)), (3, some (.arr (.int .i64) 1 3 false)), (4, some (.arr (.int .i64) 1 3 false))], nx := 5 }⟩]
def LIq139 (k : Nat) : LInst := ⟨2, hsq139, osq139, fun x => Lshuntref01_Times_2 k k x.1 x.2.1 x.2.2.1 x.2.2.2.1 x.2.2.2.2.1 x.2.2.2.2.2.1 x.2.2.2.2.2.2.1 x.2.2.2.2.2.2.2.1 x.2.2.2.2.2.2.2.2.1 x.2.2.2.2.2.2.2.2.2.1 x.2.2.2.2.2.2.2.2.2.2.1 x.2.2.2.2.2.2.2.2.2.2.2⟩
theorem anq139 (k : Nat) : LAll (LOk (R := DS OS.D osq139) (fun b _ σ K => LOt Ty (kps 95) 0 b σ K []) cf (call cf k) (kps 95) Try.f95.ntmps k 0) 2 (lb Try.f95 1) :=
 qA (qA qT (qA qT qT)) (qA (qA qT (qA qT qT)) qT)
theorem stq139 (k n : Nat) (x : DS SS.D hsq139) : Lshuntref01_Times_2 k (n + 1) x.1 x.2.1 x.2.2.1 x.2.2.2.1 x.2.2.2.2.1 x.2.2.2.2.2.1 x.2.2.2.2.2.2.1 x.2.2.2.2.2.2.2.1 x.2.2.2.2.2.2.2.2.1 x.2.2.2.2.2.2.2.2.2.1 x.2.2.2.2.2.2.2.2.2.2.1 x.2.2.2.2.2.2.2.2.2.2.2 = encSK SS.enc (fun σ => run2 cf (fun f a b K => COt f a b K [Iq85 k]) (fun b _ σ K => LOt Ty (kps 95) 0 b σ K []) Try.f95.ntmps 2 (lb Try.f95 1) σ (nextK Ty (kps 95 2) 0 hsq139 osq139 fun x => Lshuntref01_Times_2 k n x.1 x.2.1 x.2.2.1 x.2.2.2.1 x.2.2.2.2.1 x.2.2.2.2.2.1 x.2.2.2.2.2.2.1 x.2.2.2.2.2.2.2.1 x.2.2.2.2.2.2.2.2.1 x.2.2.2.2.2.2.2.2.2.1 x.2.2.2.2.2.2.2.2.2.2.1 x.2.2.2.2.2.2.2.2.2.2.2)) hsq139 x := by kernel_rfl
theorem loq139 (k : Nat) : LIOk cf (call cf k) (kps 95) Try.f95.ntmps k 0 2 (lb Try.f95 1) (LIq139 k) :=
 loop_ok (c := cf) (callF := call cf k) (kp := kps 95) (nt := Try.f95.ntmps) (k := k) (p := 0) (b := 2) (x0 := lb Try.f95 1) (hs := hsq139) (os := osq139) (COt_ok (alq79 k)) (anq139 k) (fun n x => Lshuntref01_Times_2 k n x.1 x.2.1 x.2.2.1 x.2.2.2.1 x.2.2.2.2.1 x.2.2.2.2.2.1 x.2.2.2.2.2.2.1 x.2.2.2.2.2.2.2.1 x.2.2.2.2.2.2.2.2.1 x.2.2.2.2.2.2.2.2.2.1 x.2.2.2.2.2.2.2.2.2.2.1 x.2.2.2.2.2.2.2.2.2.2.2) (fun _ => rfl) (stq139 k)
def hsq138 : List SS := [{ fr := [(2, .a (.ptr 0 0 0)), (3, .a (.ptr 1 0 0)), (4, .a (.ptr 2 0 0)), (5, .a (.smz 3)), (6, .a (.lf (.int .i64)))], mem := [(0, some (.raw [[.lf .bool, .lf (.sl (.int .i64))]] 2 77 true false)), (1, some (.raw [[.lf .bool, .lf (.sl (.int .i64))]] 2 77 true false)), (2, some (.raw [[.lf .bool, .smz 4]] 2 77 false false)), (3, some (.arr (.int .i64) 1 3 false)), (4, some (.arr (.int .i64) 1 3 false))], nx := 5 }]
def osq138 : List OS := [⟨some 0, { fr := [(2, .a (.ptr 0 0 0)), (3, .a (.ptr 1 0 0)), (4, .a (.ptr 2 0 0)), (5, .a (.smz 3))], mem := [(0, some (.raw [[.lf .bool, .lf (.sl (.int .i64))]] 2 77 true false)), (1, some (.raw [[.lf .bool, .lf (.sl (.int .i64))]] 2 77 true false)), (2, some (.raw [[.lf .bool, .smz 4]] 2 77 false false)), (3, some (.arr (.int .i64) 1 3 false)), (4, some (.arr (.int .i64) 1 3 false))], nx := 5 }⟩]
def LIq138 (k : Nat) : LInst := ⟨0, hsq138, osq138, fun x => Lshuntref01_Times_0 k k x.1 x.2.1 x.2.2.1 x.2.2.2.1 x.2.2.2.2.1 x.2.2.2.2.2.1 x.2.2.2.2.2.2.1 x.2.2.2.2.2.2.2.1 x.2.2.2.2.2.2.2.2.1 x.2.2.2.2.2.2.2.2.2⟩
theorem anq138 (k : Nat) : LAll (LOk (R := DS OS.D osq138) (fun b _ σ K => LOt Ty (kps 95) 0 b σ K [LIq139 k]) cf (call cf k) (kps 95) Try.f95.ntmps k 0) 0 (lb Try.f95 0) :=
 qA (qA qT (qA qT qT)) (qA (qA qT (qA (qA qT (LOt_ok (c := cf) (callF := call cf k) (kp := kps 95) (nt := Try.f95.ntmps) (k := k) (p := 0) (b := 2) (x0 := lb Try.f95 1) (l := [LIq139 k]) (qA (fun _ => loq139 k) qT))) qT)) qT)
theorem stq138 (k n : Nat) (x : DS SS.D hsq138) : Lshuntref01_Times_0 k (n + 1) x.1 x.2.1 x.2.2.1 x.2.2.2.1 x.2.2.2.2.1 x.2.2.2.2.2.1 x.2.2.2.2.2.2.1 x.2.2.2.2.2.2.2.1 x.2.2.2.2.2.2.2.2.1 x.2.2.2.2.2.2.2.2.2 = encSK SS.enc (fun σ => run2 cf (fun f a b K => COt f a b K [Iq85 k]) (fun b _ σ K => LOt Ty (kps 95) 0 b σ K [LIq139 k]) Try.f95.ntmps 0 (lb Try.f95 0) σ (nextK Ty (kps 95 0) 0 hsq138 osq138 fun x => Lshuntref01_Times_0 k n x.1 x.2.1 x.2.2.1 x.2.2.2.1 x.2.2.2.2.1 x.2.2.2.2.2.1 x.2.2.2.2.2.2.1 x.2.2.2.2.2.2.2.1 x.2.2.2.2.2.2.2.2.1 x.2.2.2.2.2.2.2.2.2)) hsq138 x := by kernel_rfl
theorem loq138 (k : Nat) : LIOk cf (call cf k) (kps 95) Try.f95.ntmps k 0 0 (lb Try.f95 0) (LIq138 k) :=
 loop_ok (c := cf) (callF := call cf k) (kp := kps 95) (nt := Try.f95.ntmps) (k := k) (p := 0) (b := 0) (x0 := lb Try.f95 0) (hs := hsq138) (os := osq138) (COt_ok (alq79 k)) (anq138 k) (fun n x => Lshuntref01_Times_0 k n x.1 x.2.1 x.2.2.1 x.2.2.2.1 x.2.2.2.2.1 x.2.2.2.2.2.1 x.2.2.2.2.2.2.1 x.2.2.2.2.2.2.2.1 x.2.2.2.2.2.2.2.2.1 x.2.2.2.2.2.2.2.2.2) (fun _ => rfl) (stq138 k)
theorem anq79 (k : Nat) : LAll (LOk (R := DS FS.D rsq79) (fun b _ σ K => LOt Ty (kps 95) 0 b σ K [LIq139 k, LIq138 k]) cf (call cf k) (cf.keep 95) Try.f95.ntmps k shq79.bs.length) 0 (bd Try.f95) :=
 qA qT (qA qT (qA (qA qT (LOt_ok (c := cf) (callF := call cf k) (kp := kps 95) (nt := Try.f95.ntmps) (k := k) (p := 0) (b := 0) (x0 := lb Try.f95 0) (l := [LIq139 k, LIq138 k]) (qA (fun h => absurd (show (2 : Nat) = 0 from h) (by decide)) (qA (fun _ => loq138 k) qT)))) (qA qT (qA qT qT))))
theorem stq79 (k : Nat) (x : shq79.D) : Fshuntref01_Times (k + 1) x.1 x.2.1 x.2.2.1 x.2.2.2 = body2 cf (fun f a b K => COt f a b K [Iq85 k]) (fun b _ σ K => LOt Ty (kps 95) 0 b σ K [LIq139 k, LIq138 k]) 95 Try.f95.ntmps Try.f95.results.toList (bd Try.f95) (shq79.enc x).1 (shq79.enc x).2 (putS FS.dec rsq79) := by kernel_rfl
theorem okq79 : ∀ k, InstOk (call cf k) (Iq79 k)
 | 0 => fun x y e => absurd (show (none : Option _) = some y from e) (by simp)
 | k + 1 => inst_ok (c := cf) (k := k) (f := 95) (fn := Try.f95) (body := bd Try.f95) (sh := shq79) (os := rsq79) rfl Try.func95 rfl ⟨rfl, Nat.le_of_ble_eq_true rfl⟩ (COt_ok (alq79 k)) (anq79 k) (fun x => Fshuntref01_Times (k + 1) x.1 x.2.1 x.2.2.1 x.2.2.2) (stq79 k)

/-! shunt/shuntref03.power -/
def Lshuntref03_power_0s (k : Nat) (rec : Int → Int → Bool → Nat → Bool → List Int → List Int → Option (Bool × Nat × Bool × List Int × List Int)) (k1 : Int) (i : Int) (x0 : Bool) (x1 : Nat) (p0 : Bool) (p1 : List Int) (m : List Int) : Option (Bool × Nat × Bool × List Int × List Int) :=
 if ((decide (i < k1)) = true) then
 Option.bind (Fshuntref01_Small k (10 : Int)) fun r6 =>
 Option.bind (Fshuntref01_Times k p0 p1 r6.1 r6.2) fun r7 =>
 rec k1 (IntKind.wrap .i64 (i + (1 : Int))) x0 x1 r7.1 r7.2 m
 else
 (some (x0, x1, p0, p1, m))
def Lshuntref03_power_0 (k n : Nat) : Int → Int → Bool → Nat → Bool → List Int → List Int → Option (Bool × Nat × Bool × List Int × List Int) := Nat.rec (fun _ _ _ _ _ _ _ => none) (fun _ r => Lshuntref03_power_0s k r) n
def bshuntref03_power (k : Nat) (k1 : Int) : Option (Bool × List Int) :=
 Option.bind (Fshuntref01_Small k (1 : Int)) fun r5 =>
 Option.bind (Lshuntref03_power_0 k k k1 (0 : Int) false 0 r5.1 r5.2 []) fun r6 =>
 (some (r6.2.2.1, r6.2.2.2.1))
def Fshuntref03_power : Nat → Int → Option (Bool × List Int)
 | 0, _ => none
 | k + 1, k1 => bshuntref03_power k k1
def shq91 : FS := { vs := [.a (.lf (.int .i64))], bs := [] }
def rsq91 : List FS := [{ vs := [.g [.lf .bool, .lf (.sl (.int .i64))]], bs := [] }]
def Iq91 (k : Nat) : Inst := ⟨98, shq91, rsq91, fun x => Fshuntref03_power k x⟩
theorem alq91 (k : Nat) : AllI (call cf k) [Iq77 k, Iq79 k] := qA (okq77 k) (qA (okq79 k) qT)
def hsq146 : List SS := [{ fr := [(0, .a (.lf (.int .i64))), (2, .a (.ptr 0 0 0)), (3, .a (.ptr 1 0 0)), (4, .a (.lf (.int .i64)))], mem := [(0, some (.raw [[.lf .bool, .smz 2]] 2 77 false false)), (1, some (.raw [[.lf .bool, .lf (.sl (.int .i64))]] 2 77 true false)), (2, some (.arr (.int .i64) 1 3 false))], nx := 3 }]
def osq146 : List OS := [⟨some 0, { fr := [(2, .a (.ptr 0 0 0)), (3, .a (.ptr 1 0 0))], mem := [(0, some (.raw [[.lf .bool, .smz 2]] 2 77 false false)), (1, some (.raw [[.lf .bool, .lf (.sl (.int .i64))]] 2 77 true false)), (2, some (.arr (.int .i64) 1 3 false))], nx := 3 }⟩]
def LIq146 (k : Nat) : LInst := ⟨0, hsq146, osq146, fun x => Lshuntref03_power_0 k k x.1 x.2.1 x.2.2.1 x.2.2.2.1 x.2.2.2.2.1 x.2.2.2.2.2.1 x.2.2.2.2.2.2⟩
theorem anq146 (k : Nat) : LAll (LOk (R := DS OS.D osq146) (fun b _ σ K => LOt Ty (kps 98) 0 b σ K []) cf (call cf k) (kps 98) Try.f98.ntmps k 0) 0 (lb Try.f98 0) :=
 qA (qA qT (qA qT qT)) (qA qT qT)
theorem stq146 (k n : Nat) (x : DS SS.D hsq146) : Lshuntref03_power_0 k (n + 1) x.1 x.2.1 x.2.2.1 x.2.2.2.1 x.2.2.2.2.1 x.2.2.2.2.2.1 x.2.2.2.2.2.2 = encSK SS.enc (fun σ => run2 cf (fun f a b K => COt f a b K [Iq77 k, Iq79 k]) (fun b _ σ K => LOt Ty (kps 98) 0 b σ K []) Try.f98.ntmps 0 (lb Try.f98 0) σ (nextK Ty (kps 98 0) 0 hsq146 osq146 fun x => Lshuntref03_power_0 k n x.1 x.2.1 x.2.2.1 x.2.2.2.1 x.2.2.2.2.1 x.2.2.2.2.2.1 x.2.2.2.2.2.2)) hsq146 x := by kernel_rfl
theorem loq146 (k : Nat) : LIOk cf (call cf k) (kps 98) Try.f98.ntmps k 0 0 (lb Try.f98 0) (LIq146 k) :=
 loop_ok (c := cf) (callF := call cf k) (kp := kps 98) (nt := Try.f98.ntmps) (k := k) (p := 0) (b := 0) (x0 := lb Try.f98 0) (hs := hsq146) (os := osq146) (COt_ok (alq91 k)) (anq146 k) (fun n x => Lshuntref03_power_0 k n x.1 x.2.1 x.2.2.1 x.2.2.2.1 x.2.2.2.2.1 x.2.2.2.2.2.1 x.2.2.2.2.2.2) (fun _ => rfl) (stq146 k)
theorem anq91 (k : Nat) : LAll (LOk (R := DS FS.D rsq91) (fun b _ σ K => LOt Ty (kps 98) 0 b σ K [LIq146 k]) cf (call cf k) (cf.keep 98) Try.f98.ntmps k shq91.bs.length) 0 (bd Try.f98) :=
 qA qT (qA qT (qA (qA qT (LOt_ok (c := cf) (callF := call cf k) (kp := kps 98) (nt := Try.f98.ntmps) (k := k) (p := 0) (b := 0) (x0 := lb Try.f98 0) (l := [LIq146 k]) (qA (fun _ => loq146 k) qT))) (qA qT qT)))
theorem stq91 (k : Nat) (x : shq91.D) : Fshuntref03_power (k + 1) x = body2 cf (fun f a b K => COt f a b K [Iq77 k, Iq79 k]) (fun b _ σ K => LOt Ty (kps 98) 0 b σ K [LIq146 k]) 98 Try.f98.ntmps Try.f98.results.toList (bd Try.f98) (shq91.enc x).1 (shq91.enc x).2 (putS FS.dec rsq91) := by kernel_rfl
theorem okq91 : ∀ k, InstOk (call cf k) (Iq91 k)
 | 0 => fun x y e => absurd (show (none : Option _) = some y from e) (by simp)
 | k + 1 => inst_ok (c := cf) (k := k) (f := 98) (fn := Try.f98) (body := bd Try.f98) (sh := shq91) (os := rsq91) rfl Try.func98 rfl ⟨rfl, Nat.le_of_ble_eq_true rfl⟩ (COt_ok (alq91 k)) (anq91 k) (fun x => Fshuntref03_power (k + 1) x) (stq91 k)

/-! shunt/shuntref01.Sign -/
def bshuntref01_Sign (k : Nat) (a0 : Bool) (a1 : List Int) : Option (Int) :=
 if (((((List.length a1) : Nat) : Int) == (0 : Int)) = true) then
 (some (0 : Int))
 else
 if (a0 = true) then
 (some (-(1 : Int)))
 else
 (some (1 : Int))
def Fshuntref01_Sign : Nat → Bool → List Int → Option (Int)
 | 0, _, _ => none
 | k + 1, a0, a1 => bshuntref01_Sign k a0 a1
def shq76 : FS := { vs := [.g [.lf .bool, .lf (.sl (.int .i64))]], bs := [] }
def rsq76 : List FS := [{ vs := [.a (.lf (.int .i64))], bs := [] }]
def Iq76 (k : Nat) : Inst := ⟨78, shq76, rsq76, fun x => Fshuntref01_Sign k x.1 x.2⟩
theorem alq76 (k : Nat) : AllI (call cf k) [] := True.intro
theorem anq76 (k : Nat) : LAll (LOk (R := DS FS.D rsq76) (fun b _ σ K => LOt Ty (kps 78) 0 b σ K []) cf (call cf k) (cf.keep 78) Try.f78.ntmps k shq76.bs.length) 0 (bd Try.f78) :=
 qA qT (qA (qA qT (qA (qA qT qT) qT)) (qA (qA qT (qA (qA qT qT) qT)) (qA qT qT)))
theorem stq76 (k : Nat) (x : shq76.D) : Fshuntref01_Sign (k + 1) x.1 x.2 = body2 cf (fun f a b K => COt f a b K []) (fun b _ σ K => LOt Ty (kps 78) 0 b σ K []) 78 Try.f78.ntmps Try.f78.results.toList (bd Try.f78) (shq76.enc x).1 (shq76.enc x).2 (putS FS.dec rsq76) := by kernel_rfl
theorem okq76 : ∀ k, InstOk (call cf k) (Iq76 k)
 | 0 => fun x y e => absurd (show (none : Option _) = some y from e) (by simp)
 | k + 1 => inst_ok (c := cf) (k := k) (f := 78) (fn := Try.f78) (body := bd Try.f78) (sh := shq76) (os := rsq76) rfl Try.func78 rfl ⟨rfl, Nat.le_of_ble_eq_true rfl⟩ (COt_ok (alq76 k)) (anq76 k) (fun x => Fshuntref01_Sign (k + 1) x.1 x.2) (stq76 k)

/-! shunt/shuntref01.Minus -/
def bshuntref01_Minus (k : Nat) (a0 : Bool) (a1 : List Int) : Option (Bool × List Int) :=
 if (((((List.length a1) : Nat) : Int) == (0 : Int)) = true) then
 (some (false, []))
 else
 (some ((!a0), a1))
def Fshuntref01_Minus : Nat → Bool → List Int → Option (Bool × List Int)
 | 0, _, _ => none
 | k + 1, a0, a1 => bshuntref01_Minus k a0 a1
def shq73 : FS := { vs := [.g [.lf .bool, .lf (.sl (.int .i64))]], bs := [] }
def rsq73 : List FS := [{ vs := [.g [.lf .bool, .lf (.sl (.int .i64))]], bs := [] }]
def Iq73 (k : Nat) : Inst := ⟨105, shq73, rsq73, fun x => Fshuntref01_Minus k x.1 x.2⟩
theorem alq73 (k : Nat) : AllI (call cf k) [] := True.intro
theorem anq73 (k : Nat) : LAll (LOk (R := DS FS.D rsq73) (fun b _ σ K => LOt Ty (kps 105) 0 b σ K []) cf (call cf k) (cf.keep 105) Try.f105.ntmps k shq73.bs.length) 0 (bd Try.f105) :=
 qA qT (qA (qA qT (qA (qA qT qT) qT)) (qA qT qT))
theorem stq73 (k : Nat) (x : shq73.D) : Fshuntref01_Minus (k + 1) x.1 x.2 = body2 cf (fun f a b K => COt f a b K []) (fun b _ σ K => LOt Ty (kps 105) 0 b σ K []) 105 Try.f105.ntmps Try.f105.results.toList (bd Try.f105) (shq73.enc x).1 (shq73.enc x).2 (putS FS.dec rsq73) := by kernel_rfl
theorem okq73 : ∀ k, InstOk (call cf k) (Iq73 k)
 | 0 => fun x y e => absurd (show (none : Option _) = some y from e) (by simp)
 | k + 1 => inst_ok (c := cf) (k := k) (f := 105) (fn := Try.f105) (body := bd Try.f105) (sh := shq73) (os := rsq73) rfl Try.func105 rfl ⟨rfl, Nat.le_of_ble_eq_true rfl⟩ (COt_ok (alq73 k)) (anq73 k) (fun x => Fshuntref01_Minus (k + 1) x.1 x.2) (stq73 k)

/-! shunt/shuntref01.Abs -/
def bshuntref01_Abs (k : Nat) (a0 : Bool) (a1 : List Int) : Option (Bool × List Int) :=
 (some (false, a1))
def Fshuntref01_Abs : Nat → Bool → List Int → Option (Bool × List Int)
 | 0, _, _ => none
 | k + 1, a0, a1 => bshuntref01_Abs k a0 a1
def shq68 : FS := { vs := [.g [.lf .bool, .lf (.sl (.int .i64))]], bs := [] }
def rsq68 : List FS := [{ vs := [.g [.lf .bool, .lf (.sl (.int .i64))]], bs := [] }]
def Iq68 (k : Nat) : Inst := ⟨80, shq68, rsq68, fun x => Fshuntref01_Abs k x.1 x.2⟩
theorem alq68 (k : Nat) : AllI (call cf k) [] := True.intro
theorem anq68 (k : Nat) : LAll (LOk (R := DS FS.D rsq68) (fun b _ σ K => LOt Ty (kps 80) 0 b σ K []) cf (call cf k) (cf.keep 80) Try.f80.ntmps k shq68.bs.length) 0 (bd Try.f80) :=
 qA qT (qA qT qT)
theorem stq68 (k : Nat) (x : shq68.D) : Fshuntref01_Abs (k + 1) x.1 x.2 = body2 cf (fun f a b K => COt f a b K []) (fun b _ σ K => LOt Ty (kps 80) 0 b σ K []) 80 Try.f80.ntmps Try.f80.results.toList (bd Try.f80) (shq68.enc x).1 (shq68.enc x).2 (putS FS.dec rsq68) := by kernel_rfl
theorem okq68 : ∀ k, InstOk (call cf k) (Iq68 k)
 | 0 => fun x y e => absurd (show (none : Option _) = some y from e) (by simp)
 | k + 1 => inst_ok (c := cf) (k := k) (f := 80) (fn := Try.f80) (body := bd Try.f80) (sh := shq68) (os := rsq68) rfl Try.func80 rfl ⟨rfl, Nat.le_of_ble_eq_true rfl⟩ (COt_ok (alq68 k)) (anq68 k) (fun x => Fshuntref01_Abs (k + 1) x.1 x.2) (stq68 k)

/-! shunt/shuntref01.mags -/
def Lshuntref01_mags_0s (k : Nat) (rec : List Int → List Int → Int → Option ((Int) ⊕ (Unit))) (a : List Int) (b : List Int) (i : Int) : Option ((Int) ⊕ (Unit)) :=
 if ((decide (i ≥ (0 : Int))) = true) then
 if ((0 : Int) ≤ i) then
 Option.bind (a)[(Int.toNat i)]? fun x3 =>
 if ((0 : Int) ≤ i) then
 Option.bind (b)[(Int.toNat i)]? fun x4 =>
 if ((decide (x3 < x4)) = true) then
 (some (Sum.inl (-(1 : Int))))
 else
 if ((0 : Int) ≤ i) then
 Option.bind (a)[(Int.toNat i)]? fun x5 =>
 if ((0 : Int) ≤ i) then
 Option.bind (b)[(Int.toNat i)]? fun x6 =>
 if ((decide (x5 > x6)) = true) then
 (some (Sum.inl (1 : Int)))
 else
 rec a b (IntKind.wrap .i64 (i - (1 : Int)))
 else
 none
 else
 none
 else
 none
 else
 none
 else
 (some (Sum.inr ()))
def Lshuntref01_mags_0 (k n : Nat) : List Int → List Int → Int → Option ((Int) ⊕ (Unit)) := Nat.rec (fun _ _ _ => none) (fun _ r => Lshuntref01_mags_0s k r) n
def bshuntref01_mags (k : Nat) (a : List Int) (b : List Int) : Option (Int) :=
 if (((((List.length a) : Nat) : Int) != (((List.length b) : Nat) : Int)) = true) then
 if ((decide ((((List.length a) : Nat) : Int) < (((List.length b) : Nat) : Int))) = true) then
 (some (-(1 : Int)))
 else
 (some (1 : Int))
 else
 Option.bind (Lshuntref01_mags_0 k k a b (IntKind.wrap .i64 ((((List.length a) : Nat) : Int) - (1 : Int)))) fun r12 =>
 eitherK r12
 (fun r12 =>
 (some r12))
 (fun r12 =>
 (some (0 : Int)))
def Fshuntref01_mags : Nat → List Int → List Int → Option (Int)
 | 0, _, _ => none
 | k + 1, a, b => bshuntref01_mags k a b
def shq82 : FS := { vs := [.a (.lf (.sl (.int .i64))), .a (.lf (.sl (.int .i64)))], bs := [] }
def rsq82 : List FS := [{ vs := [.a (.lf (.int .i64))], bs := [] }]
def Iq82 (k : Nat) : Inst := ⟨120, shq82, rsq82, fun x => Fshuntref01_mags k x.1 x.2⟩
theorem alq82 (k : Nat) : AllI (call cf k) [] := True.intro
def hsq142 : List SS := [{ fr := [(0, .a (.lf (.sl (.int .i64)))), (1, .a (.lf (.sl (.int .i64)))), (5, .a (.lf (.int .i64)))], mem := [], nx := 0 }]
def osq142 : List OS := [⟨none, { fr := [(4, .a (.lf (.int .i64)))], mem := [], nx := 0 }⟩, ⟨some 0, { fr := [], mem := [], nx := 0 }⟩]
def LIq142 (k : Nat) : LInst := ⟨0, hsq142, osq142, fun x => Lshuntref01_mags_0 k k x.1 x.2.1 x.2.2⟩
theorem anq142 (k : Nat) : LAll (LOk (R := DS OS.D osq142) (fun b _ σ K => LOt Ty (kps 120) 0 b σ K []) cf (call cf k) (kps 120) Try.f120.ntmps k 0) 0 (lb Try.f120 0) :=
 qA (qA qT (qA qT qT)) (qA (qA (qA qT (qA (qA qT qT) qT)) (qA qT (qA (qA qT qT) qT))) qT)
theorem stq142 (k n : Nat) (x : DS SS.D hsq142) : Lshuntref01_mags_0 k (n + 1) x.1 x.2.1 x.2.2 = encSK SS.enc (fun σ => run2 cf (fun f a b K => COt f a b K []) (fun b _ σ K => LOt Ty (kps 120) 0 b σ K []) Try.f120.ntmps 0 (lb Try.f120 0) σ (nextK Ty (kps 120 0) 0 hsq142 osq142 fun x => Lshuntref01_mags_0 k n x.1 x.2.1 x.2.2)) hsq142 x := by kernel_rfl
theorem loq142 (k : Nat) : LIOk cf (call cf k) (kps 120) Try.f120.ntmps k 0 0 (lb Try.f120 0) (LIq142 k) :=
 loop_ok (c := cf) (callF := call cf k) (kp := kps 120) (nt := Try.f120.ntmps) (k := k) (p := 0) (b := 0) (x0 := lb Try.f120 0) (hs := hsq142) (os := osq142) (COt_ok (alq82 k)) (anq142 k) (fun n x => Lshuntref01_mags_0 k n x.1 x.2.1 x.2.2) (fun _ => rfl) (stq142 k)
theorem anq82 (k : Nat) : LAll (LOk (R := DS FS.D rsq82) (fun b _ σ K => LOt Ty (kps 120) 0 b σ K [LIq142 k]) cf (call cf k) (cf.keep 120) Try.f120.ntmps k shq82.bs.length) 0 (bd Try.f120) :=
 qA qT (qA (qA qT (qA (qA (qA qT (qA (qA qT qT) qT)) (qA qT qT)) qT)) (qA (qA qT (LOt_ok (c := cf) (callF := call cf k) (kp := kps 120) (nt := Try.f120.ntmps) (k := k) (p := 0) (b := 0) (x0 := lb Try.f120 0) (l := [LIq142 k]) (qA (fun _ => loq142 k) qT))) (qA qT qT)))
theorem stq82 (k : Nat) (x : shq82.D) : Fshuntref01_mags (k + 1) x.1 x.2 = body2 cf (fun f a b K => COt f a b K []) (fun b _ σ K => LOt Ty (kps 120) 0 b σ K [LIq142 k]) 120 Try.f120.ntmps Try.f120.results.toList (bd Try.f120) (shq82.enc x).1 (shq82.enc x).2 (putS FS.dec rsq82) := by kernel_rfl
theorem okq82 : ∀ k, InstOk (call cf k) (Iq82 k)
 | 0 => fun x y e => absurd (show (none : Option _) = some y from e) (by simp)
 | k + 1 => inst_ok (c := cf) (k := k) (f := 120) (fn := Try.f120) (body := bd Try.f120) (sh := shq82) (os := rsq82) rfl Try.func120 rfl ⟨rfl, Nat.le_of_ble_eq_true rfl⟩ (COt_ok (alq82 k)) (anq82 k) (fun x => Fshuntref01_mags (k + 1) x.1 x.2) (stq82 k)

/-! shunt/shuntref01.digit -/
def Lshuntref01_digit_0s (k : Nat) (rec : List Int → List Int → Int → Int → Option (Int)) (r : List Int) (b : List Int) (low : Int) (high : Int) : Option (Int) :=
 if ((decide (low < high)) = true) then
 Option.bind (Fshuntref01_Small k (IntKind.wrap .i64 (Int.tdiv (IntKind.wrap .i64 ((IntKind.wrap .i64 (low + high)) + (1 : Int))) (2 : Int)))) fun r13 =>
 Option.bind (Fshuntref01_Times k false b r13.1 r13.2) fun r14 =>
 Option.bind (Fshuntref01_mags k r14.2 r) fun r15 =>
 if ((decide (r15 ≤ (0 : Int))) = true) then
 rec r b (IntKind.wrap .i64 (Int.tdiv (IntKind.wrap .i64 ((IntKind.wrap .i64 (low + high)) + (1 : Int))) (2 : Int))) high
 else
 rec r b low (IntKind.wrap .i64 ((IntKind.wrap .i64 (Int.tdiv (IntKind.wrap .i64 ((IntKind.wrap .i64 (low + high)) + (1 : Int))) (2 : Int))) - (1 : Int)))
 else
 (some low)
def Lshuntref01_digit_0 (k n : Nat) : List Int → List Int → Int → Int → Option (Int) := Nat.rec (fun _ _ _ _ => none) (fun _ r => Lshuntref01_digit_0s k r) n
def bshuntref01_digit (k : Nat) (r : List Int) (b : List Int) : Option (Int) :=
 Option.bind (Fshuntref01_mags k r b) fun r12 =>
 if ((decide (r12 < (0 : Int))) = true) then
 (some (0 : Int))
 else
 Option.bind (Lshuntref01_digit_0 k k r b (0 : Int) (65535 : Int)) fun r13 =>
 (some r13)
def Fshuntref01_digit : Nat → List Int → List Int → Option (Int)
 | 0, _, _ => none
 | k + 1, r, b => bshuntref01_digit k r b
def shq81 : FS := { vs := [.a (.lf (.sl (.int .i64))), .a (.lf (.sl (.int .i64)))], bs := [] }
def rsq81 : List FS := [{ vs := [.a (.lf (.int .i64))], bs := [] }]
def Iq81 (k : Nat) : Inst := ⟨106, shq81, rsq81, fun x => Fshuntref01_digit k x.1 x.2⟩
theorem alq81 (k : Nat) : AllI (call cf k) [Iq82 k, Iq77 k, Iq79 k] := qA (okq82 k) (qA (okq77 k) (qA (okq79 k) qT))
def hsq141 : List SS := [{ fr := [(0, .a (.lf (.sl (.int .i64)))), (1, .a (.lf (.sl (.int .i64)))), (5, .a (.lf (.int .i64))), (6, .a (.lf (.int .i64)))], mem := [], nx := 0 }]
def osq141 : List OS := [⟨some 0, { fr := [(5, .a (.lf (.int .i64)))], mem := [], nx := 0 }⟩]
def LIq141 (k : Nat) : LInst := ⟨0, hsq141, osq141, fun x => Lshuntref01_digit_0 k k x.1 x.2.1 x.2.2.1 x.2.2.2⟩
theorem anq141 (k : Nat) : LAll (LOk (R := DS OS.D osq141) (fun b _ σ K => LOt Ty (kps 106) 0 b σ K []) cf (call cf k) (kps 106) Try.f106.ntmps k 0) 0 (lb Try.f106 0) :=
 qA (qA qT (qA qT qT)) (qA qT (qA qT (qA qT qT)))
theorem stq141 (k n : Nat) (x : DS SS.D hsq141) : Lshuntref01_digit_0 k (n + 1) x.1 x.2.1 x.2.2.1 x.2.2.2 = encSK SS.enc (fun σ => run2 cf (fun f a b K => COt f a b K [Iq82 k, Iq77 k, Iq79 k]) (fun b _ σ K => LOt Ty (kps 106) 0 b σ K []) Try.f106.ntmps 0 (lb Try.f106 0) σ (nextK Ty (kps 106 0) 0 hsq141 osq141 fun x => Lshuntref01_digit_0 k n x.1 x.2.1 x.2.2.1 x.2.2.2)) hsq141 x := by kernel_rfl
theorem loq141 (k : Nat) : LIOk cf (call cf k) (kps 106) Try.f106.ntmps k 0 0 (lb Try.f106 0) (LIq141 k) :=
 loop_ok (c := cf) (callF := call cf k) (kp := kps 106) (nt := Try.f106.ntmps) (k := k) (p := 0) (b := 0) (x0 := lb Try.f106 0) (hs := hsq141) (os := osq141) (COt_ok (alq81 k)) (anq141 k) (fun n x => Lshuntref01_digit_0 k n x.1 x.2.1 x.2.2.1 x.2.2.2) (fun _ => rfl) (stq141 k)
theorem anq81 (k : Nat) : LAll (LOk (R := DS FS.D rsq81) (fun b _ σ K => LOt Ty (kps 106) 0 b σ K [LIq141 k]) cf (call cf k) (cf.keep 106) Try.f106.ntmps k shq81.bs.length) 0 (bd Try.f106) :=
 qA qT (qA qT (qA (qA qT (qA (qA qT qT) qT)) (qA (LOt_ok (c := cf) (callF := call cf k) (kp := kps 106) (nt := Try.f106.ntmps) (k := k) (p := 0) (b := 0) (x0 := lb Try.f106 0) (l := [LIq141 k]) (qA (fun _ => loq141 k) qT)) (qA qT qT))))
theorem stq81 (k : Nat) (x : shq81.D) : Fshuntref01_digit (k + 1) x.1 x.2 = body2 cf (fun f a b K => COt f a b K [Iq82 k, Iq77 k, Iq79 k]) (fun b _ σ K => LOt Ty (kps 106) 0 b σ K [LIq141 k]) 106 Try.f106.ntmps Try.f106.results.toList (bd Try.f106) (shq81.enc x).1 (shq81.enc x).2 (putS FS.dec rsq81) := by kernel_rfl
theorem okq81 : ∀ k, InstOk (call cf k) (Iq81 k)
 | 0 => fun x y e => absurd (show (none : Option _) = some y from e) (by simp)
 | k + 1 => inst_ok (c := cf) (k := k) (f := 106) (fn := Try.f106) (body := bd Try.f106) (sh := shq81) (os := rsq81) rfl Try.func106 rfl ⟨rfl, Nat.le_of_ble_eq_true rfl⟩ (COt_ok (alq81 k)) (anq81 k) (fun x => Fshuntref01_digit (k + 1) x.1 x.2) (stq81 k)

/-! shunt/shuntref01.minus -/
def Lshuntref01_minus_0s (k : Nat) (rec : List Int → List Int → Nat → Int → Int → List Int → Option (Nat × List Int)) (a : List Int) (b : List Int) (d : Nat) (borrow : Int) (i : Int) (ds : List Int) : Option (Nat × List Int) :=
 if ((decide (i < (((List.length a) : Nat) : Int))) = true) then
 if ((0 : Int) ≤ i) then
 Option.bind (a)[(Int.toNat i)]? fun x3 =>
 if ((decide (i < (((List.length b) : Nat) : Int))) = true) then
 if ((0 : Int) ≤ i) then
 Option.bind (b)[(Int.toNat i)]? fun x4 =>
 if ((decide ((IntKind.wrap .i64 ((IntKind.wrap .i64 (x3 - borrow)) - x4)) < (0 : Int))) = true) then
 if (d ≤ (List.length ds)) then
 if (((d + (List.length (List.take 1 ((IntKind.wrap .i64 ((IntKind.wrap .i64 ((IntKind.wrap .i64 (x3 - borrow)) - x4)) + (65536 : Int))) :: [])))) * 8) ≤ 140737488355328) then
 rec a b (d + (List.length (List.take 1 ((IntKind.wrap .i64 ((IntKind.wrap .i64 ((IntKind.wrap .i64 (x3 - borrow)) - x4)) + (65536 : Int))) :: [])))) (1 : Int) (IntKind.wrap .i64 (i + (1 : Int))) ((List.take d ds) ++ (List.take 1 ((IntKind.wrap .i64 ((IntKind.wrap .i64 ((IntKind.wrap .i64 (x3 - borrow)) - x4)) + (65536 : Int))) :: [])))
 else
 none
 else
 none
 else
 if (d ≤ (List.length ds)) then
 if (((d + (List.length (List.take 1 ((IntKind.wrap .i64 ((IntKind.wrap .i64 (x3 - borrow)) - x4)) :: [])))) * 8) ≤ 140737488355328) then
 rec a b (d + (List.length (List.take 1 ((IntKind.wrap .i64 ((IntKind.wrap .i64 (x3 - borrow)) - x4)) :: [])))) (0 : Int) (IntKind.wrap .i64 (i + (1 : Int))) ((List.take d ds) ++ (List.take 1 ((IntKind.wrap .i64 ((IntKind.wrap .i64 (x3 - borrow)) - x4)) :: [])))
 else
 none
 else
 none
 else
 none
 else
 if ((decide ((IntKind.wrap .i64 (x3 - borrow)) < (0 : Int))) = true) then
 if (d ≤ (List.length ds)) then
 if (((d + (List.length (List.take 1 ((IntKind.wrap .i64 ((IntKind.wrap .i64 (x3 - borrow)) + (65536 : Int))) :: [])))) * 8) ≤ 140737488355328) then
 rec a b (d + (List.length (List.take 1 ((IntKind.wrap .i64 ((IntKind.wrap .i64 (x3 - borrow)) + (65536 : Int))) :: [])))) (1 : Int) (IntKind.wrap .i64 (i + (1 : Int))) ((List.take d ds) ++ (List.take 1 ((IntKind.wrap .i64 ((IntKind.wrap .i64 (x3 - borrow)) + (65536 : Int))) :: [])))
 else
 none
 else
 none
 else
 if (d ≤ (List.length ds)) then
 if (((d + (List.length (List.take 1 ((IntKind.wrap .i64 (x3 - borrow)) :: [])))) * 8) ≤ 140737488355328) then
 rec a b (d + (List.length (List.take 1 ((IntKind.wrap .i64 (x3 - borrow)) :: [])))) (0 : Int) (IntKind.wrap .i64 (i + (1 : Int))) ((List.take d ds) ++ (List.take 1 ((IntKind.wrap .i64 (x3 - borrow)) :: [])))
 else
 none
 else
 none
 else
 none
 else
 (some (d, ds))
def Lshuntref01_minus_0 (k n : Nat) : List Int → List Int → Nat → Int → Int → List Int → Option (Nat × List Int) := Nat.rec (fun _ _ _ _ _ _ => none) (fun _ r => Lshuntref01_minus_0s k r) n
def bshuntref01_minus (k : Nat) (a : List Int) (b : List Int) : Option (List Int) :=
 Option.bind (Lshuntref01_minus_0 k k a b 0 (0 : Int) (0 : Int) []) fun r15 =>
 Option.bind (Fshuntref01_trim_mfi k r15.1 r15.2) fun r16 =>
 if ((0 + r16.1) ≤ (List.length r16.2)) then
 (some (List.take r16.1 r16.2))
 else
 none
def Fshuntref01_minus : Nat → List Int → List Int → Option (List Int)
 | 0, _, _ => none
 | k + 1, a, b => bshuntref01_minus k a b
def shq83 : FS := { vs := [.a (.lf (.sl (.int .i64))), .a (.lf (.sl (.int .i64)))], bs := [] }
def rsq83 : List FS := [{ vs := [.a (.lf (.sl (.int .i64)))], bs := [] }]
def Iq83 (k : Nat) : Inst := ⟨107, shq83, rsq83, fun x => Fshuntref01_minus k x.1 x.2⟩
theorem alq83 (k : Nat) : AllI (call cf k) [Iq85 k] := qA (okq85 k) qT
def hsq143 : List SS := [{ fr := [(0, .a (.lf (.sl (.int .i64)))), (1, .a (.lf (.sl (.int .i64)))), (5, .a (.smz 0)), (6, .a (.lf (.int .i64))), (7, .a (.lf (.int .i64)))], mem := [(0, some (.arr (.int .i64) 1 3 false))], nx := 1 }]
def osq143 : List OS := [⟨some 0, { fr := [(5, .a (.smz 0))], mem := [(0, some (.arr (.int .i64) 1 3 false))], nx := 1 }⟩]
def LIq143 (k : Nat) : LInst := ⟨0, hsq143, osq143, fun x => Lshuntref01_minus_0 k k x.1 x.2.1 x.2.2.1 x.2.2.2.1 x.2.2.2.2.1 x.2.2.2.2.2⟩
theorem anq143 (k : Nat) : LAll (LOk (R := DS OS.D osq143) (fun b _ σ K => LOt Ty (kps 107) 0 b σ K []) cf (call cf k) (kps 107) Try.f107.ntmps k 0) 0 (lb Try.f107 0) :=
 qA (qA qT (qA qT qT)) (qA (qA qT (qA (qA qT (qA qT qT)) (qA qT (qA (qA qT (qA (qA qT qT) qT)) qT)))) qT)
theorem stq143 (k n : Nat) (x : DS SS.D hsq143) : Lshuntref01_minus_0 k (n + 1) x.1 x.2.1 x.2.2.1 x.2.2.2.1 x.2.2.2.2.1 x.2.2.2.2.2 = encSK SS.enc (fun σ => run2 cf (fun f a b K => COt f a b K [Iq85 k]) (fun b _ σ K => LOt Ty (kps 107) 0 b σ K []) Try.f107.ntmps 0 (lb Try.f107 0) σ (nextK Ty (kps 107 0) 0 hsq143 osq143 fun x => Lshuntref01_minus_0 k n x.1 x.2.1 x.2.2.1 x.2.2.2.1 x.2.2.2.2.1 x.2.2.2.2.2)) hsq143 x := by kernel_rfl
theorem loq143 (k : Nat) : LIOk cf (call cf k) (kps 107) Try.f107.ntmps k 0 0 (lb Try.f107 0) (LIq143 k) :=
 loop_ok (c := cf) (callF := call cf k) (kp := kps 107) (nt := Try.f107.ntmps) (k := k) (p := 0) (b := 0) (x0 := lb Try.f107 0) (hs := hsq143) (os := osq143) (COt_ok (alq83 k)) (anq143 k) (fun n x => Lshuntref01_minus_0 k n x.1 x.2.1 x.2.2.1 x.2.2.2.1 x.2.2.2.2.1 x.2.2.2.2.2) (fun _ => rfl) (stq143 k)
theorem anq83 (k : Nat) : LAll (LOk (R := DS FS.D rsq83) (fun b _ σ K => LOt Ty (kps 107) 0 b σ K [LIq143 k]) cf (call cf k) (cf.keep 107) Try.f107.ntmps k shq83.bs.length) 0 (bd Try.f107) :=
 qA qT (qA qT (qA qT (qA (qA qT (LOt_ok (c := cf) (callF := call cf k) (kp := kps 107) (nt := Try.f107.ntmps) (k := k) (p := 0) (b := 0) (x0 := lb Try.f107 0) (l := [LIq143 k]) (qA (fun _ => loq143 k) qT))) (qA qT qT))))
theorem stq83 (k : Nat) (x : shq83.D) : Fshuntref01_minus (k + 1) x.1 x.2 = body2 cf (fun f a b K => COt f a b K [Iq85 k]) (fun b _ σ K => LOt Ty (kps 107) 0 b σ K [LIq143 k]) 107 Try.f107.ntmps Try.f107.results.toList (bd Try.f107) (shq83.enc x).1 (shq83.enc x).2 (putS FS.dec rsq83) := by kernel_rfl
theorem okq83 : ∀ k, InstOk (call cf k) (Iq83 k)
 | 0 => fun x y e => absurd (show (none : Option _) = some y from e) (by simp)
 | k + 1 => inst_ok (c := cf) (k := k) (f := 107) (fn := Try.f107) (body := bd Try.f107) (sh := shq83) (os := rsq83) rfl Try.func107 rfl ⟨rfl, Nat.le_of_ble_eq_true rfl⟩ (COt_ok (alq83 k)) (anq83 k) (fun x => Fshuntref01_minus (k + 1) x.1 x.2) (stq83 k)

/-! shunt/shuntref01.Divide -/
def Lshuntref01_Divide_0s (k : Nat) (rec : ((Nat × Nat × Int × Bool × List Int × Bool × List Int × Bool × Nat × Bool × Nat × List Int × List Int × List Int × List Int) ⊕ (Nat × List Int × Int × Bool × List Int × Bool × List Int × Bool × Nat × Bool × Nat × List Int × List Int × List Int)) → Option ((Nat × Nat × Bool × List Int × Bool × List Int × Bool × Nat × Bool × Nat × List Int × List Int × List Int × List Int) ⊕ (Nat × List Int × Bool × List Int × Bool × List Int × Bool × Nat × Bool × Nat × List Int × List Int × List Int))) (x : (Nat × Nat × Int × Bool × List Int × Bool × List Int × Bool × Nat × Bool × Nat × List Int × List Int × List Int × List Int) ⊕ (Nat × List Int × Int × Bool × List Int × Bool × List Int × Bool × Nat × Bool × Nat × List Int × List Int × List Int)) : Option ((Nat × Nat × Bool × List Int × Bool × List Int × Bool × Nat × Bool × Nat × List Int × List Int × List Int × List Int) ⊕ (Nat × List Int × Bool × List Int × Bool × List Int × Bool × Nat × Bool × Nat × List Int × List Int × List Int)) :=
 eitherK x
 (fun x =>
 if ((decide (x.2.2.1 ≥ (0 : Int))) = true) then
 if ((0 : Int) ≤ x.2.2.1) then
 Option.bind (x.2.2.2.2.1)[(Int.toNat x.2.2.1)]? fun x2 =>
 if ((0 + x.2.1) ≤ (List.length x.2.2.2.2.2.2.2.2.2.2.2.2.1)) then
 if (((1 + (List.length (List.take x.2.1 x.2.2.2.2.2.2.2.2.2.2.2.2.1))) * 8) ≤ 140737488355328) then
 Option.bind (Fshuntref01_trim_mfi k (1 + (List.length (List.take x.2.1 x.2.2.2.2.2.2.2.2.2.2.2.2.1))) ((List.take 1 (x2 :: [])) ++ (List.take x.2.1 x.2.2.2.2.2.2.2.2.2.2.2.2.1))) fun r11 =>
 if ((0 + r11.1) ≤ (List.length r11.2)) then
 Option.bind (Fshuntref01_digit k (List.take r11.1 r11.2) x.2.2.2.2.2.2.1) fun r12 =>
 if ((decide (r12 > (0 : Int))) = true) then
 Option.bind (Fshuntref01_Small k r12) fun r13 =>
 Option.bind (Fshuntref01_Times k false x.2.2.2.2.2.2.1 r13.1 r13.2) fun r14 =>
 if ((0 + r11.1) ≤ (List.length r11.2)) then
 Option.bind (Fshuntref01_minus k (List.take r11.1 r11.2) r14.2) fun r15 =>
 if (((0 : Int) ≤ x.2.2.1) ∧ (x.2.2.1 < ((x.1 : Nat) : Int))) then
 Option.bind (x.2.2.2.2.2.2.2.2.2.2.2.1)[(0 + (Int.toNat x.2.2.1))]? fun x3 =>
 rec (Sum.inr (x.1, r15, (IntKind.wrap .i64 (x.2.2.1 - (1 : Int))), x.2.2.2.1, x.2.2.2.2.1, x.2.2.2.2.2.1, x.2.2.2.2.2.2.1, x.2.2.2.2.2.2.2.1, x.2.2.2.2.2.2.2.2.1, x.2.2.2.2.2.2.2.2.2.1, x.2.2.2.2.2.2.2.2.2.2.1, (List.set x.2.2.2.2.2.2.2.2.2.2.2.1 (0 + (Int.toNat x.2.2.1)) r12), x.2.2.2.2.2.2.2.2.2.2.2.2.2.1, x.2.2.2.2.2.2.2.2.2.2.2.2.2.2))
 else
 none
 else
 none
 else
 if (((0 : Int) ≤ x.2.2.1) ∧ (x.2.2.1 < ((x.1 : Nat) : Int))) then
 Option.bind (x.2.2.2.2.2.2.2.2.2.2.2.1)[(0 + (Int.toNat x.2.2.1))]? fun x3 =>
 rec (Sum.inl (x.1, r11.1, (IntKind.wrap .i64 (x.2.2.1 - (1 : Int))), x.2.2.2.1, x.2.2.2.2.1, x.2.2.2.2.2.1, x.2.2.2.2.2.2.1, x.2.2.2.2.2.2.2.1, x.2.2.2.2.2.2.2.2.1, x.2.2.2.2.2.2.2.2.2.1, x.2.2.2.2.2.2.2.2.2.2.1, (List.set x.2.2.2.2.2.2.2.2.2.2.2.1 (0 + (Int.toNat x.2.2.1)) r12), r11.2, x.2.2.2.2.2.2.2.2.2.2.2.2.2.1, x.2.2.2.2.2.2.2.2.2.2.2.2.2.2))
 else
 none
 else
 none
 else
 none
 else
 none
 else
 none
 else
 (some (Sum.inl (x.1, x.2.1, x.2.2.2.1, x.2.2.2.2.1, x.2.2.2.2.2.1, x.2.2.2.2.2.2.1, x.2.2.2.2.2.2.2.1, x.2.2.2.2.2.2.2.2.1, x.2.2.2.2.2.2.2.2.2.1, x.2.2.2.2.2.2.2.2.2.2.1, x.2.2.2.2.2.2.2.2.2.2.2.1, x.2.2.2.2.2.2.2.2.2.2.2.2.1, x.2.2.2.2.2.2.2.2.2.2.2.2.2.1, x.2.2.2.2.2.2.2.2.2.2.2.2.2.2))))
 (fun x =>
 if ((decide (x.2.2.1 ≥ (0 : Int))) = true) then
 if ((0 : Int) ≤ x.2.2.1) then
 Option.bind (x.2.2.2.2.1)[(Int.toNat x.2.2.1)]? fun x2 =>
 if (((1 + (List.length x.2.1)) * 8) ≤ 140737488355328) then
 Option.bind (Fshuntref01_trim_mfi k (1 + (List.length x.2.1)) ((List.take 1 (x2 :: [])) ++ x.2.1)) fun r11 =>
 if ((0 + r11.1) ≤ (List.length r11.2)) then
 Option.bind (Fshuntref01_digit k (List.take r11.1 r11.2) x.2.2.2.2.2.2.1) fun r12 =>
 if ((decide (r12 > (0 : Int))) = true) then
 Option.bind (Fshuntref01_Small k r12) fun r13 =>
 Option.bind (Fshuntref01_Times k false x.2.2.2.2.2.2.1 r13.1 r13.2) fun r14 =>
 if ((0 + r11.1) ≤ (List.length r11.2)) then
 Option.bind (Fshuntref01_minus k (List.take r11.1 r11.2) r14.2) fun r15 =>
 if (((0 : Int) ≤ x.2.2.1) ∧ (x.2.2.1 < ((x.1 : Nat) : Int))) then
 Option.bind (x.2.2.2.2.2.2.2.2.2.2.2.1)[(0 + (Int.toNat x.2.2.1))]? fun x3 =>
 rec (Sum.inr (x.1, r15, (IntKind.wrap .i64 (x.2.2.1 - (1 : Int))), x.2.2.2.1, x.2.2.2.2.1, x.2.2.2.2.2.1, x.2.2.2.2.2.2.1, x.2.2.2.2.2.2.2.1, x.2.2.2.2.2.2.2.2.1, x.2.2.2.2.2.2.2.2.2.1, x.2.2.2.2.2.2.2.2.2.2.1, (List.set x.2.2.2.2.2.2.2.2.2.2.2.1 (0 + (Int.toNat x.2.2.1)) r12), x.2.2.2.2.2.2.2.2.2.2.2.2.1, x.2.2.2.2.2.2.2.2.2.2.2.2.2))
 else
 none
 else
 none
 else
 if (((0 : Int) ≤ x.2.2.1) ∧ (x.2.2.1 < ((x.1 : Nat) : Int))) then
 Option.bind (x.2.2.2.2.2.2.2.2.2.2.2.1)[(0 + (Int.toNat x.2.2.1))]? fun x3 =>
 rec (Sum.inl (x.1, r11.1, (IntKind.wrap .i64 (x.2.2.1 - (1 : Int))), x.2.2.2.1, x.2.2.2.2.1, x.2.2.2.2.2.1, x.2.2.2.2.2.2.1, x.2.2.2.2.2.2.2.1, x.2.2.2.2.2.2.2.2.1, x.2.2.2.2.2.2.2.2.2.1, x.2.2.2.2.2.2.2.2.2.2.1, (List.set x.2.2.2.2.2.2.2.2.2.2.2.1 (0 + (Int.toNat x.2.2.1)) r12), r11.2, x.2.2.2.2.2.2.2.2.2.2.2.2.1, x.2.2.2.2.2.2.2.2.2.2.2.2.2))
 else
 none
 else
 none
 else
 none
 else
 none
 else
 (some (Sum.inr (x.1, x.2.1, x.2.2.2.1, x.2.2.2.2.1, x.2.2.2.2.2.1, x.2.2.2.2.2.2.1, x.2.2.2.2.2.2.2.1, x.2.2.2.2.2.2.2.2.1, x.2.2.2.2.2.2.2.2.2.1, x.2.2.2.2.2.2.2.2.2.2.1, x.2.2.2.2.2.2.2.2.2.2.2.1, x.2.2.2.2.2.2.2.2.2.2.2.2.1, x.2.2.2.2.2.2.2.2.2.2.2.2.2))))
def Lshuntref01_Divide_0 (k n : Nat) : ((Nat × Nat × Int × Bool × List Int × Bool × List Int × Bool × Nat × Bool × Nat × List Int × List Int × List Int × List Int) ⊕ (Nat × List Int × Int × Bool × List Int × Bool × List Int × Bool × Nat × Bool × Nat × List Int × List Int × List Int)) → Option ((Nat × Nat × Bool × List Int × Bool × List Int × Bool × Nat × Bool × Nat × List Int × List Int × List Int × List Int) ⊕ (Nat × List Int × Bool × List Int × Bool × List Int × Bool × Nat × Bool × Nat × List Int × List Int × List Int)) := Nat.rec (fun _ => none) (fun _ r => Lshuntref01_Divide_0s k r) n
def bshuntref01_Divide (k : Nat) (a0 : Bool) (a1 : List Int) (b0 : Bool) (b1 : List Int) : Option (Bool × List Int × Bool × List Int) :=
 if (((0 : Int) ≤ (((List.length a1) : Nat) : Int)) ∧ (((((List.length a1) : Nat) : Int) ≤ (((List.length a1) : Nat) : Int)) ∧ (((((List.length a1) : Nat) : Int) * (8 : Int)) ≤ (140737488355328 : Int)))) then
 Option.bind (Lshuntref01_Divide_0 k k (Sum.inl ((Int.toNat (((List.length a1) : Nat) : Int)), 0, (IntKind.wrap .i64 ((((List.length a1) : Nat) : Int) - (1 : Int))), a0, a1, b0, b1, false, 0, false, 0, (List.replicate (Int.toNat (((List.length a1) : Nat) : Int)) (0 : Int)), [], [], []))) fun r11 =>
 eitherK r11
 (fun r11 =>
 Option.bind (Fshuntref01_trim_mfi k r11.1 r11.2.2.2.2.2.2.2.2.2.2.1) fun r12 =>
 if ((!(r11.2.2.1 == r11.2.2.2.2.1)) = true) then
 if (r11.2.2.1 = true) then
 if ((0 + r12.1) ≤ (List.length r12.2)) then
 if ((0 + r11.2.1) ≤ (List.length r11.2.2.2.2.2.2.2.2.2.2.2.1)) then
 (some ((decide (((r12.1 : Nat) : Int) > (0 : Int))), (List.take r12.1 r12.2), (decide (((r11.2.1 : Nat) : Int) > (0 : Int))), (List.take r11.2.1 r11.2.2.2.2.2.2.2.2.2.2.2.1)))
 else
 none
 else
 none
 else
 if ((0 + r12.1) ≤ (List.length r12.2)) then
 if ((0 + r11.2.1) ≤ (List.length r11.2.2.2.2.2.2.2.2.2.2.2.1)) then
 (some ((decide (((r12.1 : Nat) : Int) > (0 : Int))), (List.take r12.1 r12.2), false, (List.take r11.2.1 r11.2.2.2.2.2.2.2.2.2.2.2.1)))
 else
 none
 else
 none
 else
 if (r11.2.2.1 = true) then
 if ((0 + r12.1) ≤ (List.length r12.2)) then
 if ((0 + r11.2.1) ≤ (List.length r11.2.2.2.2.2.2.2.2.2.2.2.1)) then
 (some (false, (List.take r12.1 r12.2), (decide (((r11.2.1 : Nat) : Int) > (0 : Int))), (List.take r11.2.1 r11.2.2.2.2.2.2.2.2.2.2.2.1)))
 else
 none
 else
 none
 else
 if ((0 + r12.1) ≤ (List.length r12.2)) then
 if ((0 + r11.2.1) ≤ (List.length r11.2.2.2.2.2.2.2.2.2.2.2.1)) then
 (some (false, (List.take r12.1 r12.2), false, (List.take r11.2.1 r11.2.2.2.2.2.2.2.2.2.2.2.1)))
 else
 none
 else
 none)
 (fun r11 =>
 Option.bind (Fshuntref01_trim_mfi k r11.1 r11.2.2.2.2.2.2.2.2.2.2.1) fun r12 =>
 if ((!(r11.2.2.1 == r11.2.2.2.2.1)) = true) then
 if (r11.2.2.1 = true) then
 if ((0 + r12.1) ≤ (List.length r12.2)) then
 (some ((decide (((r12.1 : Nat) : Int) > (0 : Int))), (List.take r12.1 r12.2), (decide ((((List.length r11.2.1) : Nat) : Int) > (0 : Int))), r11.2.1))
 else
 none
 else
 if ((0 + r12.1) ≤ (List.length r12.2)) then
 (some ((decide (((r12.1 : Nat) : Int) > (0 : Int))), (List.take r12.1 r12.2), false, r11.2.1))
 else
 none
 else
 if (r11.2.2.1 = true) then
 if ((0 + r12.1) ≤ (List.length r12.2)) then
 (some (false, (List.take r12.1 r12.2), (decide ((((List.length r11.2.1) : Nat) : Int) > (0 : Int))), r11.2.1))
 else
 none
 else
 if ((0 + r12.1) ≤ (List.length r12.2)) then
 (some (false, (List.take r12.1 r12.2), false, r11.2.1))
 else
 none)
 else
 none
def Fshuntref01_Divide : Nat → Bool → List Int → Bool → List Int → Option (Bool × List Int × Bool × List Int)
 | 0, _, _, _, _ => none
 | k + 1, a0, a1, b0, b1 => bshuntref01_Divide k a0 a1 b0 b1
def shq70 : FS := { vs := [.g [.lf .bool, .lf (.sl (.int .i64))], .g [.lf .bool, .lf (.sl (.int .i64))]], bs := [] }
def rsq70 : List FS := [{ vs := [.g [.lf .bool, .lf (.sl (.int .i64))], .g [.lf .bool, .lf (.sl (.int .i64))]], bs := [] }]
def Iq70 (k : Nat) : Inst := ⟨81, shq70, rsq70, fun x => Fshuntref01_Divide k x.1 x.2.1 x.2.2.1 x.2.2.2⟩
theorem alq70 (k : Nat) : AllI (call cf k) [Iq85 k, Iq81 k, Iq77 k, Iq79 k, Iq83 k] := qA (okq85 k) (qA (okq81 k) (qA (okq77 k) (qA (okq79 k) (qA (okq83 k) qT))))
def hsq135 : List SS := [{ fr := [(2, .a (.ptr 0 0 0)), (3, .a (.ptr 1 0 0)), (4, .a (.ptr 2 0 0)), (5, .a (.ptr 3 0 0)), (6, .a (.smz 4)), (7, .a (.smz 5)), (8, .a (.lf (.int .i64)))], mem := [(0, some (.raw [[.lf .bool, .lf (.sl (.int .i64))]] 2 77 true false)), (1, some (.raw [[.lf .bool, .lf (.sl (.int .i64))]] 2 77 true false)), (2, some (.raw [[.lf .bool, .smz 6]] 2 77 false false)), (3, some (.raw [[.lf .bool, .smz 7]] 2 77 false false)), (4, some (.arr (.int .i64) 1 3 false)), (5, some (.arr (.int .i64) 1 3 false)), (6, some (.arr (.int .i64) 1 3 false)), (7, some (.arr (.int .i64) 1 3 false))], nx := 8 }, { fr := [(2, .a (.ptr 0 0 0)), (3, .a (.ptr 1 0 0)), (4, .a (.ptr 2 0 0)), (5, .a (.ptr 3 0 0)), (6, .a (.smz 4)), (7, .a (.lf (.sl (.int .i64)))), (8, .a (.lf (.int .i64)))], mem := [(0, some (.raw [[.lf .bool, .lf (.sl (.int .i64))]] 2 77 true false)), (1, some (.raw [[.lf .bool, .lf (.sl (.int .i64))]] 2 77 true false)), (2, some (.raw [[.lf .bool, .smz 5]] 2 77 false false)), (3, some (.raw [[.lf .bool, .smz 6]] 2 77 false false)), (4, some (.arr (.int .i64) 1 3 false)), (5, some (.arr (.int .i64) 1 3 false)), (6, some (.arr (.int .i64) 1 3 false))], nx := 7 }]
def osq135 : List OS := [⟨some 0, { fr := [(2, .a (.ptr 0 0 0)), (3, .a (.ptr 1 0 0)), (4, .a (.ptr 2 0 0)), (5, .a (.ptr 3 0 0)), (6, .a (.smz 4)), (7, .a (.smz 5))], mem := [(0, some (.raw [[.lf .bool, .lf (.sl (.int .i64))]] 2 77 true false)), (1, some (.raw [[.lf .bool, .lf (.sl (.int .i64))]] 2 77 true false)), (2, some (.raw [[.lf .bool, .smz 6]] 2 77 false false)), (3, some (.raw [[.lf .bool, .smz 7]] 2 77 false false)), (4, some (.arr (.int .i64) 1 3 false)), (5, some (.arr (.int .i64) 1 3 false)), (6, some (.arr (.int .i64) 1 3 false)), (7, some (.arr (.int .i64) 1 3 false))], nx := 8 }⟩, ⟨some 0, { fr := [(2, .a (.ptr 0 0 0)), (3, .a (.ptr 1 0 0)), (4, .a (.ptr 2 0 0)), (5, .a (.ptr 3 0 0)), (6, .a (.smz 4)), (7, .a (.lf (.sl (.int .i64))))], mem := [(0, some (.raw [[.lf .bool, .lf (.sl (.int .i64))]] 2 77 true false)), (1, some (.raw [[.lf .bool, .lf (.sl (.int .i64))]] 2 77 true false)), (2, some (.raw [[.lf .bool, .smz 5]] 2 77 false false)), (3, some (.raw [[.lf .bool, .smz 6]] 2 77 false false)), (4, some (.arr (.int .i64) 1 3 false)), (5, some (.arr (.int .i64) 1 3 false)), (6, some (.arr (.int .i64) 1 3 false))], nx := 7 }⟩]
def LIq135 (k : Nat) : LInst := ⟨0, hsq135, osq135, fun x => Lshuntref01_Divide_0 k k x⟩
theorem anq135 (k : Nat) : LAll (LOk (R := DS OS.D osq135) (fun b _ σ K => LOt Ty (kps 81) 0 b σ K []) cf (call cf k) (kps 81) Try.f81.ntmps k 0) 0 (lb Try.f81 0) :=
 qA (qA qT (qA qT qT)) (qA (qA qT (qA qT (qA qT (qA (qA qT (qA qT qT)) qT)))) qT)
theorem stq135 (k n : Nat) (x : DS SS.D hsq135) : Lshuntref01_Divide_0 k (n + 1) x = encSK SS.enc (fun σ => run2 cf (fun f a b K => COt f a b K [Iq85 k, Iq81 k, Iq77 k, Iq79 k, Iq83 k]) (fun b _ σ K => LOt Ty (kps 81) 0 b σ K []) Try.f81.ntmps 0 (lb Try.f81 0) σ (nextK Ty (kps 81 0) 0 hsq135 osq135 fun x => Lshuntref01_Divide_0 k n x)) hsq135 x := by kernel_rfl
theorem loq135 (k : Nat) : LIOk cf (call cf k) (kps 81) Try.f81.ntmps k 0 0 (lb Try.f81 0) (LIq135 k) :=
 loop_ok (c := cf) (callF := call cf k) (kp := kps 81) (nt := Try.f81.ntmps) (k := k) (p := 0) (b := 0) (x0 := lb Try.f81 0) (hs := hsq135) (os := osq135) (COt_ok (alq70 k)) (anq135 k) (fun n x => Lshuntref01_Divide_0 k n x) (fun _ => rfl) (stq135 k)
theorem anq70 (k : Nat) : LAll (LOk (R := DS FS.D rsq70) (fun b _ σ K => LOt Ty (kps 81) 0 b σ K [LIq135 k]) cf (call cf k) (cf.keep 81) Try.f81.ntmps k shq70.bs.length) 0 (bd Try.f81) :=
 qA qT (qA qT (qA qT (qA (qA qT (LOt_ok (c := cf) (callF := call cf k) (kp := kps 81) (nt := Try.f81.ntmps) (k := k) (p := 0) (b := 0) (x0 := lb Try.f81 0) (l := [LIq135 k]) (qA (fun _ => loq135 k) qT))) (qA qT (qA qT qT)))))
theorem stq70 (k : Nat) (x : shq70.D) : Fshuntref01_Divide (k + 1) x.1 x.2.1 x.2.2.1 x.2.2.2 = body2 cf (fun f a b K => COt f a b K [Iq85 k, Iq81 k, Iq77 k, Iq79 k, Iq83 k]) (fun b _ σ K => LOt Ty (kps 81) 0 b σ K [LIq135 k]) 81 Try.f81.ntmps Try.f81.results.toList (bd Try.f81) (shq70.enc x).1 (shq70.enc x).2 (putS FS.dec rsq70) := by kernel_rfl
theorem okq70 : ∀ k, InstOk (call cf k) (Iq70 k)
 | 0 => fun x y e => absurd (show (none : Option _) = some y from e) (by simp)
 | k + 1 => inst_ok (c := cf) (k := k) (f := 81) (fn := Try.f81) (body := bd Try.f81) (sh := shq70) (os := rsq70) rfl Try.func81 rfl ⟨rfl, Nat.le_of_ble_eq_true rfl⟩ (COt_ok (alq70 k)) (anq70 k) (fun x => Fshuntref01_Divide (k + 1) x.1 x.2.1 x.2.2.1 x.2.2.2) (stq70 k)

/-! shunt/shuntref01.Common -/
def Lshuntref01_Common_0s (k : Nat) (rec : Bool → List Int → Bool → List Int → Bool → Nat → List Int → Option (Bool × List Int × Bool × List Int × Bool × Nat × List Int)) (a0 : Bool) (a1 : List Int) (b0 : Bool) (b1 : List Int) (x0 : Bool) (x1 : Nat) (m : List Int) : Option (Bool × List Int × Bool × List Int × Bool × Nat × List Int) :=
 if ((decide ((((List.length b1) : Nat) : Int) > (0 : Int))) = true) then
 Option.bind (Fshuntref01_Divide k a0 a1 b0 b1) fun r11 =>
 rec b0 b1 r11.2.2.1 r11.2.2.2 x0 x1 m
 else
 (some (a0, a1, b0, b1, x0, x1, m))
def Lshuntref01_Common_0 (k n : Nat) : Bool → List Int → Bool → List Int → Bool → Nat → List Int → Option (Bool × List Int × Bool × List Int × Bool × Nat × List Int) := Nat.rec (fun _ _ _ _ _ _ _ => none) (fun _ r => Lshuntref01_Common_0s k r) n
def bshuntref01_Common (k : Nat) (a0 : Bool) (a1 : List Int) (b0 : Bool) (b1 : List Int) : Option (Bool × List Int) :=
 Option.bind (Fshuntref01_Abs k a0 a1) fun r9 =>
 Option.bind (Fshuntref01_Abs k b0 b1) fun r10 =>
 Option.bind (Lshuntref01_Common_0 k k r9.1 r9.2 r10.1 r10.2 false 0 []) fun r11 =>
 (some (r11.1, r11.2.1))
def Fshuntref01_Common : Nat → Bool → List Int → Bool → List Int → Option (Bool × List Int)
 | 0, _, _, _, _ => none
 | k + 1, a0, a1, b0, b1 => bshuntref01_Common k a0 a1 b0 b1
def shq69 : FS := { vs := [.g [.lf .bool, .lf (.sl (.int .i64))], .g [.lf .bool, .lf (.sl (.int .i64))]], bs := [] }
def rsq69 : List FS := [{ vs := [.g [.lf .bool, .lf (.sl (.int .i64))]], bs := [] }]
def Iq69 (k : Nat) : Inst := ⟨41, shq69, rsq69, fun x => Fshuntref01_Common k x.1 x.2.1 x.2.2.1 x.2.2.2⟩
theorem alq69 (k : Nat) : AllI (call cf k) [Iq68 k, Iq70 k] := qA (okq68 k) (qA (okq70 k) qT)
def hsq134 : List SS := [{ fr := [(2, .a (.ptr 0 0 0)), (3, .a (.ptr 1 0 0)), (4, .a (.ptr 2 0 0))], mem := [(0, some (.raw [[.lf .bool, .lf (.sl (.int .i64))]] 2 77 true false)), (1, some (.raw [[.lf .bool, .lf (.sl (.int .i64))]] 2 77 true false)), (2, some (.raw [[.lf .bool, .smz 3]] 2 77 false false)), (3, some (.arr (.int .i64) 1 3 false))], nx := 4 }]
def osq134 : List OS := [⟨some 0, { fr := [(2, .a (.ptr 0 0 0)), (4, .a (.ptr 2 0 0))], mem := [(0, some (.raw [[.lf .bool, .lf (.sl (.int .i64))]] 2 77 true false)), (1, some (.raw [[.lf .bool, .lf (.sl (.int .i64))]] 2 77 true false)), (2, some (.raw [[.lf .bool, .smz 3]] 2 77 false false)), (3, some (.arr (.int .i64) 1 3 false))], nx := 4 }⟩]
def LIq134 (k : Nat) : LInst := ⟨0, hsq134, osq134, fun x => Lshuntref01_Common_0 k k x.1 x.2.1 x.2.2.1 x.2.2.2.1 x.2.2.2.2.1 x.2.2.2.2.2.1 x.2.2.2.2.2.2⟩
theorem anq134 (k : Nat) : LAll (LOk (R := DS OS.D osq134) (fun b _ σ K => LOt Ty (kps 41) 0 b σ K []) cf (call cf k) (kps 41) Try.f41.ntmps k 0) 0 (lb Try.f41 0) :=
 qA (qA qT (qA qT qT)) (qA qT qT)
theorem stq134 (k n : Nat) (x : DS SS.D hsq134) : Lshuntref01_Common_0 k (n + 1) x.1 x.2.1 x.2.2.1 x.2.2.2.1 x.2.2.2.2.1 x.2.2.2.2.2.1 x.2.2.2.2.2.2 = encSK SS.enc (fun σ => run2 cf (fun f a b K => COt f a b K [Iq68 k, Iq70 k]) (fun b _ σ K => LOt Ty (kps 41) 0 b σ K []) Try.f41.ntmps 0 (lb Try.f41 0) σ (nextK Ty (kps 41 0) 0 hsq134 osq134 fun x => Lshuntref01_Common_0 k n x.1 x.2.1 x.2.2.1 x.2.2.2.1 x.2.2.2.2.1 x.2.2.2.2.2.1 x.2.2.2.2.2.2)) hsq134 x := by kernel_rfl
theorem loq134 (k : Nat) : LIOk cf (call cf k) (kps 41) Try.f41.ntmps k 0 0 (lb Try.f41 0) (LIq134 k) :=
 loop_ok (c := cf) (callF := call cf k) (kp := kps 41) (nt := Try.f41.ntmps) (k := k) (p := 0) (b := 0) (x0 := lb Try.f41 0) (hs := hsq134) (os := osq134) (COt_ok (alq69 k)) (anq134 k) (fun n x => Lshuntref01_Common_0 k n x.1 x.2.1 x.2.2.1 x.2.2.2.1 x.2.2.2.2.1 x.2.2.2.2.2.1 x.2.2.2.2.2.2) (fun _ => rfl) (stq134 k)
theorem anq69 (k : Nat) : LAll (LOk (R := DS FS.D rsq69) (fun b _ σ K => LOt Ty (kps 41) 0 b σ K [LIq134 k]) cf (call cf k) (cf.keep 41) Try.f41.ntmps k shq69.bs.length) 0 (bd Try.f41) :=
 qA qT (qA qT (qA (LOt_ok (c := cf) (callF := call cf k) (kp := kps 41) (nt := Try.f41.ntmps) (k := k) (p := 0) (b := 0) (x0 := lb Try.f41 0) (l := [LIq134 k]) (qA (fun _ => loq134 k) qT)) (qA qT qT)))
theorem stq69 (k : Nat) (x : shq69.D) : Fshuntref01_Common (k + 1) x.1 x.2.1 x.2.2.1 x.2.2.2 = body2 cf (fun f a b K => COt f a b K [Iq68 k, Iq70 k]) (fun b _ σ K => LOt Ty (kps 41) 0 b σ K [LIq134 k]) 41 Try.f41.ntmps Try.f41.results.toList (bd Try.f41) (shq69.enc x).1 (shq69.enc x).2 (putS FS.dec rsq69) := by kernel_rfl
theorem okq69 : ∀ k, InstOk (call cf k) (Iq69 k)
 | 0 => fun x y e => absurd (show (none : Option _) = some y from e) (by simp)
 | k + 1 => inst_ok (c := cf) (k := k) (f := 41) (fn := Try.f41) (body := bd Try.f41) (sh := shq69) (os := rsq69) rfl Try.func41 rfl ⟨rfl, Nat.le_of_ble_eq_true rfl⟩ (COt_ok (alq69 k)) (anq69 k) (fun x => Fshuntref01_Common (k + 1) x.1 x.2.1 x.2.2.1 x.2.2.2) (stq69 k)

/-! shunt/shuntref02.Lowest -/
def bshuntref02_Lowest (k : Nat) (num0 : Bool) (num1 : List Int) (den0 : Bool) (den1 : List Int) : Option (Bool × List Int × Bool × List Int) :=
 Option.bind (Fshuntref01_Sign k den0 den1) fun r6 =>
 if ((decide (r6 < (0 : Int))) = true) then
 Option.bind (Fshuntref01_Minus k num0 num1) fun r7 =>
 Option.bind (Fshuntref01_Minus k den0 den1) fun r8 =>
 Option.bind (Fshuntref01_Common k r7.1 r7.2 r8.1 r8.2) fun r9 =>
 Option.bind (Fshuntref01_Divide k r7.1 r7.2 r9.1 r9.2) fun r10 =>
 Option.bind (Fshuntref01_Divide k r8.1 r8.2 r9.1 r9.2) fun r11 =>
 (some (r10.1, r10.2.1, r11.1, r11.2.1))
 else
 Option.bind (Fshuntref01_Common k num0 num1 den0 den1) fun r7 =>
 Option.bind (Fshuntref01_Divide k num0 num1 r7.1 r7.2) fun r8 =>
 Option.bind (Fshuntref01_Divide k den0 den1 r7.1 r7.2) fun r9 =>
 (some (r8.1, r8.2.1, r9.1, r9.2.1))
def Fshuntref02_Lowest : Nat → Bool → List Int → Bool → List Int → Option (Bool × List Int × Bool × List Int)
 | 0, _, _, _, _ => none
 | k + 1, num0, num1, den0, den1 => bshuntref02_Lowest k num0 num1 den0 den1
def shq88 : FS := { vs := [.g [.lf .bool, .lf (.sl (.int .i64))], .g [.lf .bool, .lf (.sl (.int .i64))]], bs := [] }
def rsq88 : List FS := [{ vs := [.g [.lf .bool, .lf (.sl (.int .i64)), .lf .bool, .lf (.sl (.int .i64))]], bs := [] }]
def Iq88 (k : Nat) : Inst := ⟨97, shq88, rsq88, fun x => Fshuntref02_Lowest k x.1 x.2.1 x.2.2.1 x.2.2.2⟩
theorem alq88 (k : Nat) : AllI (call cf k) [Iq76 k, Iq73 k, Iq69 k, Iq70 k] := qA (okq76 k) (qA (okq73 k) (qA (okq69 k) (qA (okq70 k) qT)))
theorem anq88 (k : Nat) : LAll (LOk (R := DS FS.D rsq88) (fun b _ σ K => LOt Ty (kps 97) 0 b σ K []) cf (call cf k) (cf.keep 97) Try.f97.ntmps k shq88.bs.length) 0 (bd Try.f97) :=
 qA qT (qA (qA qT (qA qT qT)) (qA qT (qA qT (qA qT (qA qT qT)))))
theorem stq88 (k : Nat) (x : shq88.D) : Fshuntref02_Lowest (k + 1) x.1 x.2.1 x.2.2.1 x.2.2.2 = body2 cf (fun f a b K => COt f a b K [Iq76 k, Iq73 k, Iq69 k, Iq70 k]) (fun b _ σ K => LOt Ty (kps 97) 0 b σ K []) 97 Try.f97.ntmps Try.f97.results.toList (bd Try.f97) (shq88.enc x).1 (shq88.enc x).2 (putS FS.dec rsq88) := by kernel_rfl
theorem okq88 : ∀ k, InstOk (call cf k) (Iq88 k)
 | 0 => fun x y e => absurd (show (none : Option _) = some y from e) (by simp)
 | k + 1 => inst_ok (c := cf) (k := k) (f := 97) (fn := Try.f97) (body := bd Try.f97) (sh := shq88) (os := rsq88) rfl Try.func97 rfl ⟨rfl, Nat.le_of_ble_eq_true rfl⟩ (COt_ok (alq88 k)) (anq88 k) (fun x => Fshuntref02_Lowest (k + 1) x.1 x.2.1 x.2.2.1 x.2.2.2) (stq88 k)

/-! shunt/shuntref03.Of -/
def bshuntref03_Of (k : Nat) (n0 : Int) (n1 : Int) : Option (Bool × List Int × Bool × List Int) :=
 Option.bind (Fshuntref01_Wide k n0) fun r4 =>
 if ((decide (n1 < (0 : Int))) = true) then
 Option.bind (Fshuntref03_power k (IntKind.wrap .i64 ((0 : Int) - n1))) fun r5 =>
 Option.bind (Fshuntref02_Lowest k r4.1 r4.2 r5.1 r5.2) fun r6 =>
 (some (r6.1, r6.2.1, r6.2.2.1, r6.2.2.2))
 else
 Option.bind (Fshuntref03_power k n1) fun r5 =>
 Option.bind (Fshuntref01_Times k r4.1 r4.2 r5.1 r5.2) fun r6 =>
 Option.bind (Fshuntref01_Small k (1 : Int)) fun r7 =>
 (some (r6.1, r6.2, r7.1, r7.2))
def Fshuntref03_Of : Nat → Int → Int → Option (Bool × List Int × Bool × List Int)
 | 0, _, _ => none
 | k + 1, n0, n1 => bshuntref03_Of k n0 n1
def shq89 : FS := { vs := [.g [.lf (.int .i64), .lf (.int .i64)]], bs := [] }
def rsq89 : List FS := [{ vs := [.g [.lf .bool, .lf (.sl (.int .i64)), .lf .bool, .lf (.sl (.int .i64))]], bs := [] }]
def Iq89 (k : Nat) : Inst := ⟨68, shq89, rsq89, fun x => Fshuntref03_Of k x.1 x.2⟩
theorem alq89 (k : Nat) : AllI (call cf k) [Iq80 k, Iq91 k, Iq88 k, Iq79 k, Iq77 k] := qA (okq80 k) (qA (okq91 k) (qA (okq88 k) (qA (okq79 k) (qA (okq77 k) qT))))
theorem anq89 (k : Nat) : LAll (LOk (R := DS FS.D rsq89) (fun b _ σ K => LOt Ty (kps 68) 0 b σ K []) cf (call cf k) (cf.keep 68) Try.f68.ntmps k shq89.bs.length) 0 (bd Try.f68) :=
 qA qT (qA qT (qA (qA qT (qA (qA qT qT) qT)) (qA qT qT)))
theorem stq89 (k : Nat) (x : shq89.D) : Fshuntref03_Of (k + 1) x.1 x.2 = body2 cf (fun f a b K => COt f a b K [Iq80 k, Iq91 k, Iq88 k, Iq79 k, Iq77 k]) (fun b _ σ K => LOt Ty (kps 68) 0 b σ K []) 68 Try.f68.ntmps Try.f68.results.toList (bd Try.f68) (shq89.enc x).1 (shq89.enc x).2 (putS FS.dec rsq89) := by kernel_rfl
theorem okq89 : ∀ k, InstOk (call cf k) (Iq89 k)
 | 0 => fun x y e => absurd (show (none : Option _) = some y from e) (by simp)
 | k + 1 => inst_ok (c := cf) (k := k) (f := 68) (fn := Try.f68) (body := bd Try.f68) (sh := shq89) (os := rsq89) rfl Try.func68 rfl ⟨rfl, Nat.le_of_ble_eq_true rfl⟩ (COt_ok (alq89 k)) (anq89 k) (fun x => Fshuntref03_Of (k + 1) x.1 x.2) (stq89 k)

/-! shunt/shuntref01.plus -/
def Lshuntref01_plus_0s (k : Nat) (rec : List Int → List Int → Nat → Int → Int → List Int → Option (Nat × List Int)) (a : List Int) (b : List Int) (d : Nat) (carry : Int) (i : Int) (ds : List Int) : Option (Nat × List Int) :=
 if ((decide (i < (((List.length a) : Nat) : Int))) = false) then
 if ((decide (i < (((List.length b) : Nat) : Int))) = false) then
 if ((decide (carry > (0 : Int))) = true) then
 if ((decide (i < (((List.length a) : Nat) : Int))) = true) then
 if ((0 : Int) ≤ i) then
 Option.bind (a)[(Int.toNat i)]? fun x3 =>
 if ((decide (i < (((List.length b) : Nat) : Int))) = true) then
 if ((0 : Int) ≤ i) then
 Option.bind (b)[(Int.toNat i)]? fun x4 =>
 if (d ≤ (List.length ds)) then
 if (((d + (List.length (List.take 1 ((Int.tmod (IntKind.wrap .i64 ((IntKind.wrap .i64 (carry + x3)) + x4)) (65536 : Int)) :: [])))) * 8) ≤ 140737488355328) then
 rec a b (d + (List.length (List.take 1 ((Int.tmod (IntKind.wrap .i64 ((IntKind.wrap .i64 (carry + x3)) + x4)) (65536 : Int)) :: [])))) (IntKind.wrap .i64 (Int.tdiv (IntKind.wrap .i64 ((IntKind.wrap .i64 (carry + x3)) + x4)) (65536 : Int))) (IntKind.wrap .i64 (i + (1 : Int))) ((List.take d ds) ++ (List.take 1 ((Int.tmod (IntKind.wrap .i64 ((IntKind.wrap .i64 (carry + x3)) + x4)) (65536 : Int)) :: [])))
 else
 none
 else
 none
 else
 none
 else
 if (d ≤ (List.length ds)) then
 if (((d + (List.length (List.take 1 ((Int.tmod (IntKind.wrap .i64 (carry + x3)) (65536 : Int)) :: [])))) * 8) ≤ 140737488355328) then
 rec a b (d + (List.length (List.take 1 ((Int.tmod (IntKind.wrap .i64 (carry + x3)) (65536 : Int)) :: [])))) (IntKind.wrap .i64 (Int.tdiv (IntKind.wrap .i64 (carry + x3)) (65536 : Int))) (IntKind.wrap .i64 (i + (1 : Int))) ((List.take d ds) ++ (List.take 1 ((Int.tmod (IntKind.wrap .i64 (carry + x3)) (65536 : Int)) :: [])))
 else
 none
 else
 none
 else
 none
 else
 if ((decide (i < (((List.length b) : Nat) : Int))) = true) then
 if ((0 : Int) ≤ i) then
 Option.bind (b)[(Int.toNat i)]? fun x3 =>
 if (d ≤ (List.length ds)) then
 if (((d + (List.length (List.take 1 ((Int.tmod (IntKind.wrap .i64 (carry + x3)) (65536 : Int)) :: [])))) * 8) ≤ 140737488355328) then
 rec a b (d + (List.length (List.take 1 ((Int.tmod (IntKind.wrap .i64 (carry + x3)) (65536 : Int)) :: [])))) (IntKind.wrap .i64 (Int.tdiv (IntKind.wrap .i64 (carry + x3)) (65536 : Int))) (IntKind.wrap .i64 (i + (1 : Int))) ((List.take d ds) ++ (List.take 1 ((Int.tmod (IntKind.wrap .i64 (carry + x3)) (65536 : Int)) :: [])))
 else
 none
 else
 none
 else
 none
 else
 if (d ≤ (List.length ds)) then
 if (((d + (List.length (List.take 1 ((Int.tmod carry (65536 : Int)) :: [])))) * 8) ≤ 140737488355328) then
 rec a b (d + (List.length (List.take 1 ((Int.tmod carry (65536 : Int)) :: [])))) (IntKind.wrap .i64 (Int.tdiv carry (65536 : Int))) (IntKind.wrap .i64 (i + (1 : Int))) ((List.take d ds) ++ (List.take 1 ((Int.tmod carry (65536 : Int)) :: [])))
 else
 none
 else
 none
 else
 (some (d, ds))
 else
 if ((decide (i < (((List.length a) : Nat) : Int))) = true) then
 if ((0 : Int) ≤ i) then
 Option.bind (a)[(Int.toNat i)]? fun x3 =>
 if ((decide (i < (((List.length b) : Nat) : Int))) = true) then
 if ((0 : Int) ≤ i) then
 Option.bind (b)[(Int.toNat i)]? fun x4 =>
 if (d ≤ (List.length ds)) then
 if (((d + (List.length (List.take 1 ((Int.tmod (IntKind.wrap .i64 ((IntKind.wrap .i64 (carry + x3)) + x4)) (65536 : Int)) :: [])))) * 8) ≤ 140737488355328) then
 rec a b (d + (List.length (List.take 1 ((Int.tmod (IntKind.wrap .i64 ((IntKind.wrap .i64 (carry + x3)) + x4)) (65536 : Int)) :: [])))) (IntKind.wrap .i64 (Int.tdiv (IntKind.wrap .i64 ((IntKind.wrap .i64 (carry + x3)) + x4)) (65536 : Int))) (IntKind.wrap .i64 (i + (1 : Int))) ((List.take d ds) ++ (List.take 1 ((Int.tmod (IntKind.wrap .i64 ((IntKind.wrap .i64 (carry + x3)) + x4)) (65536 : Int)) :: [])))
 else
 none
 else
 none
 else
 none
 else
 if (d ≤ (List.length ds)) then
 if (((d + (List.length (List.take 1 ((Int.tmod (IntKind.wrap .i64 (carry + x3)) (65536 : Int)) :: [])))) * 8) ≤ 140737488355328) then
 rec a b (d + (List.length (List.take 1 ((Int.tmod (IntKind.wrap .i64 (carry + x3)) (65536 : Int)) :: [])))) (IntKind.wrap .i64 (Int.tdiv (IntKind.wrap .i64 (carry + x3)) (65536 : Int))) (IntKind.wrap .i64 (i + (1 : Int))) ((List.take d ds) ++ (List.take 1 ((Int.tmod (IntKind.wrap .i64 (carry + x3)) (65536 : Int)) :: [])))
 else
 none
 else
 none
 else
 none
 else
 if ((decide (i < (((List.length b) : Nat) : Int))) = true) then
 if ((0 : Int) ≤ i) then
 Option.bind (b)[(Int.toNat i)]? fun x3 =>
 if (d ≤ (List.length ds)) then
 if (((d + (List.length (List.take 1 ((Int.tmod (IntKind.wrap .i64 (carry + x3)) (65536 : Int)) :: [])))) * 8) ≤ 140737488355328) then
 rec a b (d + (List.length (List.take 1 ((Int.tmod (IntKind.wrap .i64 (carry + x3)) (65536 : Int)) :: [])))) (IntKind.wrap .i64 (Int.tdiv (IntKind.wrap .i64 (carry + x3)) (65536 : Int))) (IntKind.wrap .i64 (i + (1 : Int))) ((List.take d ds) ++ (List.take 1 ((Int.tmod (IntKind.wrap .i64 (carry + x3)) (65536 : Int)) :: [])))
 else
 none
 else
 none
 else
 none
 else
 if (d ≤ (List.length ds)) then
 if (((d + (List.length (List.take 1 ((Int.tmod carry (65536 : Int)) :: [])))) * 8) ≤ 140737488355328) then
 rec a b (d + (List.length (List.take 1 ((Int.tmod carry (65536 : Int)) :: [])))) (IntKind.wrap .i64 (Int.tdiv carry (65536 : Int))) (IntKind.wrap .i64 (i + (1 : Int))) ((List.take d ds) ++ (List.take 1 ((Int.tmod carry (65536 : Int)) :: [])))
 else
 none
 else
 none
 else
 if ((decide (i < (((List.length a) : Nat) : Int))) = true) then
 if ((0 : Int) ≤ i) then
 Option.bind (a)[(Int.toNat i)]? fun x3 =>
 if ((decide (i < (((List.length b) : Nat) : Int))) = true) then
 if ((0 : Int) ≤ i) then
 Option.bind (b)[(Int.toNat i)]? fun x4 =>
 if (d ≤ (List.length ds)) then
 if (((d + (List.length (List.take 1 ((Int.tmod (IntKind.wrap .i64 ((IntKind.wrap .i64 (carry + x3)) + x4)) (65536 : Int)) :: [])))) * 8) ≤ 140737488355328) then
 rec a b (d + (List.length (List.take 1 ((Int.tmod (IntKind.wrap .i64 ((IntKind.wrap .i64 (carry + x3)) + x4)) (65536 : Int)) :: [])))) (IntKind.wrap .i64 (Int.tdiv (IntKind.wrap .i64 ((IntKind.wrap .i64 (carry + x3)) + x4)) (65536 : Int))) (IntKind.wrap .i64 (i + (1 : Int))) ((List.take d ds) ++ (List.take 1 ((Int.tmod (IntKind.wrap .i64 ((IntKind.wrap .i64 (carry + x3)) + x4)) (65536 : Int)) :: [])))
 else
 none
 else
 none
 else
 none
 else
 if (d ≤ (List.length ds)) then
 if (((d + (List.length (List.take 1 ((Int.tmod (IntKind.wrap .i64 (carry + x3)) (65536 : Int)) :: [])))) * 8) ≤ 140737488355328) then
 rec a b (d + (List.length (List.take 1 ((Int.tmod (IntKind.wrap .i64 (carry + x3)) (65536 : Int)) :: [])))) (IntKind.wrap .i64 (Int.tdiv (IntKind.wrap .i64 (carry + x3)) (65536 : Int))) (IntKind.wrap .i64 (i + (1 : Int))) ((List.take d ds) ++ (List.take 1 ((Int.tmod (IntKind.wrap .i64 (carry + x3)) (65536 : Int)) :: [])))
 else
 none
 else
 none
 else
 none
 else
 if ((decide (i < (((List.length b) : Nat) : Int))) = true) then
 if ((0 : Int) ≤ i) then
 Option.bind (b)[(Int.toNat i)]? fun x3 =>
 if (d ≤ (List.length ds)) then
 if (((d + (List.length (List.take 1 ((Int.tmod (IntKind.wrap .i64 (carry + x3)) (65536 : Int)) :: [])))) * 8) ≤ 140737488355328) then
 rec a b (d + (List.length (List.take 1 ((Int.tmod (IntKind.wrap .i64 (carry + x3)) (65536 : Int)) :: [])))) (IntKind.wrap .i64 (Int.tdiv (IntKind.wrap .i64 (carry + x3)) (65536 : Int))) (IntKind.wrap .i64 (i + (1 : Int))) ((List.take d ds) ++ (List.take 1 ((Int.tmod (IntKind.wrap .i64 (carry + x3)) (65536 : Int)) :: [])))
 else
 none
 else
 none
 else
 none
 else
 if (d ≤ (List.length ds)) then
 if (((d + (List.length (List.take 1 ((Int.tmod carry (65536 : Int)) :: [])))) * 8) ≤ 140737488355328) then
 rec a b (d + (List.length (List.take 1 ((Int.tmod carry (65536 : Int)) :: [])))) (IntKind.wrap .i64 (Int.tdiv carry (65536 : Int))) (IntKind.wrap .i64 (i + (1 : Int))) ((List.take d ds) ++ (List.take 1 ((Int.tmod carry (65536 : Int)) :: [])))
 else
 none
 else
 none
def Lshuntref01_plus_0 (k n : Nat) : List Int → List Int → Nat → Int → Int → List Int → Option (Nat × List Int) := Nat.rec (fun _ _ _ _ _ _ => none) (fun _ r => Lshuntref01_plus_0s k r) n
def bshuntref01_plus (k : Nat) (a : List Int) (b : List Int) : Option (List Int) :=
 Option.bind (Lshuntref01_plus_0 k k a b 0 (0 : Int) (0 : Int) []) fun r9 =>
 Option.bind (Fshuntref01_trim_mfi k r9.1 r9.2) fun r10 =>
 if ((0 + r10.1) ≤ (List.length r10.2)) then
 (some (List.take r10.1 r10.2))
 else
 none
def Fshuntref01_plus : Nat → List Int → List Int → Option (List Int)
 | 0, _, _ => none
 | k + 1, a, b => bshuntref01_plus k a b
def shq84 : FS := { vs := [.a (.lf (.sl (.int .i64))), .a (.lf (.sl (.int .i64)))], bs := [] }
def rsq84 : List FS := [{ vs := [.a (.lf (.sl (.int .i64)))], bs := [] }]
def Iq84 (k : Nat) : Inst := ⟨119, shq84, rsq84, fun x => Fshuntref01_plus k x.1 x.2⟩
theorem alq84 (k : Nat) : AllI (call cf k) [Iq85 k] := qA (okq85 k) qT
def hsq144 : List SS := [{ fr := [(0, .a (.lf (.sl (.int .i64)))), (1, .a (.lf (.sl (.int .i64)))), (5, .a (.smz 0)), (6, .a (.lf (.int .i64))), (7, .a (.lf (.int .i64)))], mem := [(0, some (.arr (.int .i64) 1 3 false))], nx := 1 }]
def osq144 : List OS := [⟨some 0, { fr := [(5, .a (.smz 0))], mem := [(0, some (.arr (.int .i64) 1 3 false))], nx := 1 }⟩]
def LIq144 (k : Nat) : LInst := ⟨0, hsq144, osq144, fun x => Lshuntref01_plus_0 k k x.1 x.2.1 x.2.2.1 x.2.2.2.1 x.2.2.2.2.1 x.2.2.2.2.2⟩
theorem anq144 (k : Nat) : LAll (LOk (R := DS OS.D osq144) (fun b _ σ K => LOt Ty (kps 119) 0 b σ K []) cf (call cf k) (kps 119) Try.f119.ntmps k 0) 0 (lb Try.f119 0) :=
 qA (qA qT (qA qT qT)) (qA (qA qT (qA (qA qT (qA qT qT)) (qA (qA qT (qA qT qT)) (qA qT qT)))) qT)
theorem stq144 (k n : Nat) (x : DS SS.D hsq144) : Lshuntref01_plus_0 k (n + 1) x.1 x.2.1 x.2.2.1 x.2.2.2.1 x.2.2.2.2.1 x.2.2.2.2.2 = encSK SS.enc (fun σ => run2 cf (fun f a b K => COt f a b K [Iq85 k]) (fun b _ σ K => LOt Ty (kps 119) 0 b σ K []) Try.f119.ntmps 0 (lb Try.f119 0) σ (nextK Ty (kps 119 0) 0 hsq144 osq144 fun x => Lshuntref01_plus_0 k n x.1 x.2.1 x.2.2.1 x.2.2.2.1 x.2.2.2.2.1 x.2.2.2.2.2)) hsq144 x := by kernel_rfl
theorem loq144 (k : Nat) : LIOk cf (call cf k) (kps 119) Try.f119.ntmps k 0 0 (lb Try.f119 0) (LIq144 k) :=
 loop_ok (c := cf) (callF := call cf k) (kp := kps 119) (nt := Try.f119.ntmps) (k := k) (p := 0) (b := 0) (x0 := lb Try.f119 0) (hs := hsq144) (os := osq144) (COt_ok (alq84 k)) (anq144 k) (fun n x => Lshuntref01_plus_0 k n x.1 x.2.1 x.2.2.1 x.2.2.2.1 x.2.2.2.2.1 x.2.2.2.2.2) (fun _ => rfl) (stq144 k)
theorem anq84 (k : Nat) : LAll (LOk (R := DS FS.D rsq84) (fun b _ σ K => LOt Ty (kps 119) 0 b σ K [LIq144 k]) cf (call cf k) (cf.keep 119) Try.f119.ntmps k shq84.bs.length) 0 (bd Try.f119) :=
 qA qT (qA qT (qA qT (qA (qA qT (LOt_ok (c := cf) (callF := call cf k) (kp := kps 119) (nt := Try.f119.ntmps) (k := k) (p := 0) (b := 0) (x0 := lb Try.f119 0) (l := [LIq144 k]) (qA (fun _ => loq144 k) qT))) (qA qT qT))))
theorem stq84 (k : Nat) (x : shq84.D) : Fshuntref01_plus (k + 1) x.1 x.2 = body2 cf (fun f a b K => COt f a b K [Iq85 k]) (fun b _ σ K => LOt Ty (kps 119) 0 b σ K [LIq144 k]) 119 Try.f119.ntmps Try.f119.results.toList (bd Try.f119) (shq84.enc x).1 (shq84.enc x).2 (putS FS.dec rsq84) := by kernel_rfl
theorem okq84 : ∀ k, InstOk (call cf k) (Iq84 k)
 | 0 => fun x y e => absurd (show (none : Option _) = some y from e) (by simp)
 | k + 1 => inst_ok (c := cf) (k := k) (f := 119) (fn := Try.f119) (body := bd Try.f119) (sh := shq84) (os := rsq84) rfl Try.func119 rfl ⟨rfl, Nat.le_of_ble_eq_true rfl⟩ (COt_ok (alq84 k)) (anq84 k) (fun x => Fshuntref01_plus (k + 1) x.1 x.2) (stq84 k)

/-! shunt/shuntref01.Plus -/
def bshuntref01_Plus (k : Nat) (a0 : Bool) (a1 : List Int) (b0 : Bool) (b1 : List Int) : Option (Bool × List Int) :=
 if ((a0 == b0) = true) then
 Option.bind (Fshuntref01_plus k a1 b1) fun r9 =>
 if (a0 = true) then
 (some ((decide ((((List.length r9) : Nat) : Int) > (0 : Int))), r9))
 else
 (some (false, r9))
 else
 Option.bind (Fshuntref01_mags k a1 b1) fun r9 =>
 if ((decide (r9 ≥ (0 : Int))) = true) then
 Option.bind (Fshuntref01_minus k a1 b1) fun r10 =>
 if (a0 = true) then
 (some ((decide ((((List.length r10) : Nat) : Int) > (0 : Int))), r10))
 else
 (some (false, r10))
 else
 Option.bind (Fshuntref01_minus k b1 a1) fun r10 =>
 (some (b0, r10))
def Fshuntref01_Plus : Nat → Bool → List Int → Bool → List Int → Option (Bool × List Int)
 | 0, _, _, _, _ => none
 | k + 1, a0, a1, b0, b1 => bshuntref01_Plus k a0 a1 b0 b1
def shq74 : FS := { vs := [.g [.lf .bool, .lf (.sl (.int .i64))], .g [.lf .bool, .lf (.sl (.int .i64))]], bs := [] }
def rsq74 : List FS := [{ vs := [.g [.lf .bool, .lf (.sl (.int .i64))]], bs := [] }]
def Iq74 (k : Nat) : Inst := ⟨104, shq74, rsq74, fun x => Fshuntref01_Plus k x.1 x.2.1 x.2.2.1 x.2.2.2⟩
theorem alq74 (k : Nat) : AllI (call cf k) [Iq84 k, Iq82 k, Iq83 k] := qA (okq84 k) (qA (okq82 k) (qA (okq83 k) qT))
theorem anq74 (k : Nat) : LAll (LOk (R := DS FS.D rsq74) (fun b _ σ K => LOt Ty (kps 104) 0 b σ K []) cf (call cf k) (cf.keep 104) Try.f104.ntmps k shq74.bs.length) 0 (bd Try.f104) :=
 qA qT (qA (qA qT (qA (qA qT (qA qT qT)) qT)) (qA (qA qT (qA (qA qT (qA qT qT)) qT)) (qA qT qT)))
theorem stq74 (k : Nat) (x : shq74.D) : Fshuntref01_Plus (k + 1) x.1 x.2.1 x.2.2.1 x.2.2.2 = body2 cf (fun f a b K => COt f a b K [Iq84 k, Iq82 k, Iq83 k]) (fun b _ σ K => LOt Ty (kps 104) 0 b σ K []) 104 Try.f104.ntmps Try.f104.results.toList (bd Try.f104) (shq74.enc x).1 (shq74.enc x).2 (putS FS.dec rsq74) := by kernel_rfl
theorem okq74 : ∀ k, InstOk (call cf k) (Iq74 k)
 | 0 => fun x y e => absurd (show (none : Option _) = some y from e) (by simp)
 | k + 1 => inst_ok (c := cf) (k := k) (f := 104) (fn := Try.f104) (body := bd Try.f104) (sh := shq74) (os := rsq74) rfl Try.func104 rfl ⟨rfl, Nat.le_of_ble_eq_true rfl⟩ (COt_ok (alq74 k)) (anq74 k) (fun x => Fshuntref01_Plus (k + 1) x.1 x.2.1 x.2.2.1 x.2.2.2) (stq74 k)

/-! shunt/shuntref01.Less -/
def bshuntref01_Less (k : Nat) (a0 : Bool) (a1 : List Int) (b0 : Bool) (b1 : List Int) : Option (Bool × List Int) :=
 Option.bind (Fshuntref01_Minus k b0 b1) fun r8 =>
 Option.bind (Fshuntref01_Plus k a0 a1 r8.1 r8.2) fun r9 =>
 (some (r9.1, r9.2))
def Fshuntref01_Less : Nat → Bool → List Int → Bool → List Int → Option (Bool × List Int)
 | 0, _, _, _, _ => none
 | k + 1, a0, a1, b0, b1 => bshuntref01_Less k a0 a1 b0 b1
def shq72 : FS := { vs := [.g [.lf .bool, .lf (.sl (.int .i64))], .g [.lf .bool, .lf (.sl (.int .i64))]], bs := [] }
def rsq72 : List FS := [{ vs := [.g [.lf .bool, .lf (.sl (.int .i64))]], bs := [] }]
def Iq72 (k : Nat) : Inst := ⟨79, shq72, rsq72, fun x => Fshuntref01_Less k x.1 x.2.1 x.2.2.1 x.2.2.2⟩
theorem alq72 (k : Nat) : AllI (call cf k) [Iq73 k, Iq74 k] := qA (okq73 k) (qA (okq74 k) qT)
theorem anq72 (k : Nat) : LAll (LOk (R := DS FS.D rsq72) (fun b _ σ K => LOt Ty (kps 79) 0 b σ K []) cf (call cf k) (cf.keep 79) Try.f79.ntmps k shq72.bs.length) 0 (bd Try.f79) :=
 qA qT (qA qT qT)
theorem stq72 (k : Nat) (x : shq72.D) : Fshuntref01_Less (k + 1) x.1 x.2.1 x.2.2.1 x.2.2.2 = body2 cf (fun f a b K => COt f a b K [Iq73 k, Iq74 k]) (fun b _ σ K => LOt Ty (kps 79) 0 b σ K []) 79 Try.f79.ntmps Try.f79.results.toList (bd Try.f79) (shq72.enc x).1 (shq72.enc x).2 (putS FS.dec rsq72) := by kernel_rfl
theorem okq72 : ∀ k, InstOk (call cf k) (Iq72 k)
 | 0 => fun x y e => absurd (show (none : Option _) = some y from e) (by simp)
 | k + 1 => inst_ok (c := cf) (k := k) (f := 79) (fn := Try.f79) (body := bd Try.f79) (sh := shq72) (os := rsq72) rfl Try.func79 rfl ⟨rfl, Nat.le_of_ble_eq_true rfl⟩ (COt_ok (alq72 k)) (anq72 k) (fun x => Fshuntref01_Less (k + 1) x.1 x.2.1 x.2.2.1 x.2.2.2) (stq72 k)

/-! shunt/shuntref01.Held -/
def bshuntref01_Held (k : Nat) (a0 : Bool) (a1 : List Int) (b0 : Bool) (b1 : List Int) : Option (Int) :=
 Option.bind (Fshuntref01_Less k a0 a1 b0 b1) fun r8 =>
 Option.bind (Fshuntref01_Sign k r8.1 r8.2) fun r9 =>
 (some r9)
def Fshuntref01_Held : Nat → Bool → List Int → Bool → List Int → Option (Int)
 | 0, _, _, _, _ => none
 | k + 1, a0, a1, b0, b1 => bshuntref01_Held k a0 a1 b0 b1
def shq71 : FS := { vs := [.g [.lf .bool, .lf (.sl (.int .i64))], .g [.lf .bool, .lf (.sl (.int .i64))]], bs := [] }
def rsq71 : List FS := [{ vs := [.a (.lf (.int .i64))], bs := [] }]
def Iq71 (k : Nat) : Inst := ⟨40, shq71, rsq71, fun x => Fshuntref01_Held k x.1 x.2.1 x.2.2.1 x.2.2.2⟩
theorem alq71 (k : Nat) : AllI (call cf k) [Iq72 k, Iq76 k] := qA (okq72 k) (qA (okq76 k) qT)
theorem anq71 (k : Nat) : LAll (LOk (R := DS FS.D rsq71) (fun b _ σ K => LOt Ty (kps 40) 0 b σ K []) cf (call cf k) (cf.keep 40) Try.f40.ntmps k shq71.bs.length) 0 (bd Try.f40) :=
 qA qT (qA qT qT)
theorem stq71 (k : Nat) (x : shq71.D) : Fshuntref01_Held (k + 1) x.1 x.2.1 x.2.2.1 x.2.2.2 = body2 cf (fun f a b K => COt f a b K [Iq72 k, Iq76 k]) (fun b _ σ K => LOt Ty (kps 40) 0 b σ K []) 40 Try.f40.ntmps Try.f40.results.toList (bd Try.f40) (shq71.enc x).1 (shq71.enc x).2 (putS FS.dec rsq71) := by kernel_rfl
theorem okq71 : ∀ k, InstOk (call cf k) (Iq71 k)
 | 0 => fun x y e => absurd (show (none : Option _) = some y from e) (by simp)
 | k + 1 => inst_ok (c := cf) (k := k) (f := 40) (fn := Try.f40) (body := bd Try.f40) (sh := shq71) (os := rsq71) rfl Try.func40 rfl ⟨rfl, Nat.le_of_ble_eq_true rfl⟩ (COt_ok (alq71 k)) (anq71 k) (fun x => Fshuntref01_Held (k + 1) x.1 x.2.1 x.2.2.1 x.2.2.2) (stq71 k)

/-! shunt/shuntref02.Held -/
def bshuntref02_Held (k : Nat) (a0 : Bool) (a1 : List Int) (a2 : Bool) (a3 : List Int) (b0 : Bool) (b1 : List Int) (b2 : Bool) (b3 : List Int) : Option (Int) :=
 Option.bind (Fshuntref01_Times k a0 a1 b2 b3) fun r6 =>
 Option.bind (Fshuntref01_Times k b0 b1 a2 a3) fun r7 =>
 Option.bind (Fshuntref01_Held k r6.1 r6.2 r7.1 r7.2) fun r8 =>
 (some r8)
def Fshuntref02_Held : Nat → Bool → List Int → Bool → List Int → Bool → List Int → Bool → List Int → Option (Int)
 | 0, _, _, _, _, _, _, _, _ => none
 | k + 1, a0, a1, a2, a3, b0, b1, b2, b3 => bshuntref02_Held k a0 a1 a2 a3 b0 b1 b2 b3
def shq87 : FS := { vs := [.g [.lf .bool, .lf (.sl (.int .i64)), .lf .bool, .lf (.sl (.int .i64))], .g [.lf .bool, .lf (.sl (.int .i64)), .lf .bool, .lf (.sl (.int .i64))]], bs := [] }
def rsq87 : List FS := [{ vs := [.a (.lf (.int .i64))], bs := [] }]
def Iq87 (k : Nat) : Inst := ⟨67, shq87, rsq87, fun x => Fshuntref02_Held k x.1 x.2.1 x.2.2.1 x.2.2.2.1 x.2.2.2.2.1 x.2.2.2.2.2.1 x.2.2.2.2.2.2.1 x.2.2.2.2.2.2.2⟩
theorem alq87 (k : Nat) : AllI (call cf k) [Iq79 k, Iq71 k] := qA (okq79 k) (qA (okq71 k) qT)
theorem anq87 (k : Nat) : LAll (LOk (R := DS FS.D rsq87) (fun b _ σ K => LOt Ty (kps 67) 0 b σ K []) cf (call cf k) (cf.keep 67) Try.f67.ntmps k shq87.bs.length) 0 (bd Try.f67) :=
 qA qT (qA qT qT)
theorem stq87 (k : Nat) (x : shq87.D) : Fshuntref02_Held (k + 1) x.1 x.2.1 x.2.2.1 x.2.2.2.1 x.2.2.2.2.1 x.2.2.2.2.2.1 x.2.2.2.2.2.2.1 x.2.2.2.2.2.2.2 = body2 cf (fun f a b K => COt f a b K [Iq79 k, Iq71 k]) (fun b _ σ K => LOt Ty (kps 67) 0 b σ K []) 67 Try.f67.ntmps Try.f67.results.toList (bd Try.f67) (shq87.enc x).1 (shq87.enc x).2 (putS FS.dec rsq87) := by kernel_rfl
theorem okq87 : ∀ k, InstOk (call cf k) (Iq87 k)
 | 0 => fun x y e => absurd (show (none : Option _) = some y from e) (by simp)
 | k + 1 => inst_ok (c := cf) (k := k) (f := 67) (fn := Try.f67) (body := bd Try.f67) (sh := shq87) (os := rsq87) rfl Try.func67 rfl ⟨rfl, Nat.le_of_ble_eq_true rfl⟩ (COt_ok (alq87 k)) (anq87 k) (fun x => Fshuntref02_Held (k + 1) x.1 x.2.1 x.2.2.1 x.2.2.2.1 x.2.2.2.2.1 x.2.2.2.2.2.1 x.2.2.2.2.2.2.1 x.2.2.2.2.2.2.2) (stq87 k)

/-! shunt/shuntref05.Valid -/
def Lshuntref05_Valid_0s (k : Nat) (rec : Int → ByteArray → Int → List (Int × Int) → List (Int × Int) → Option ((Bool × ByteArray × Int × List (Int × Int) × List (Int × Int)) ⊕ (ByteArray × Int × List (Int × Int) × List (Int × Int)))) (i : Int) (m0 : ByteArray) (m1 : Int) (m2 : List (Int × Int)) (m3 : List (Int × Int)) : Option ((Bool × ByteArray × Int × List (Int × Int) × List (Int × Int)) ⊕ (ByteArray × Int × List (Int × Int) × List (Int × Int))) :=
 if ((decide (i < (((List.length m2) : Nat) : Int))) = true) then
 if ((0 : Int) ≤ i) then
 Option.bind (m2)[(Int.toNat i)]? fun x =>
 Option.bind (Fshuntref03_Valid k x.1 x.2) fun r2 =>
 if ((!r2) = true) then
 (some (Sum.inl (false, m0, m1, m2, m3)))
 else
 rec (IntKind.wrap .i64 (i + (1 : Int))) m0 m1 m2 m3
 else
 none
 else
 (some (Sum.inr (m0, m1, m2, m3)))
def Lshuntref05_Valid_0 (k n : Nat) : Int → ByteArray → Int → List (Int × Int) → List (Int × Int) → Option ((Bool × ByteArray × Int × List (Int × Int) × List (Int × Int)) ⊕ (ByteArray × Int × List (Int × Int) × List (Int × Int))) := Nat.rec (fun _ _ _ _ _ => none) (fun _ r => Lshuntref05_Valid_0s k r) n
def Lshuntref05_Valid_2s (k : Nat) (rec : Int → ByteArray → Int → List (Int × Int) → List (Int × Int) → Option ((Bool × ByteArray × Int × List (Int × Int) × List (Int × Int)) ⊕ (ByteArray × Int × List (Int × Int) × List (Int × Int)))) (i : Int) (m0 : ByteArray) (m1 : Int) (m2 : List (Int × Int)) (m3 : List (Int × Int)) : Option ((Bool × ByteArray × Int × List (Int × Int) × List (Int × Int)) ⊕ (ByteArray × Int × List (Int × Int) × List (Int × Int))) :=
 if ((decide (i < (((List.length m3) : Nat) : Int))) = true) then
 if ((0 : Int) ≤ i) then
 Option.bind (m3)[(Int.toNat i)]? fun x =>
 Option.bind (Fshuntref03_Valid k x.1 x.2) fun r3 =>
 if ((!r3) = true) then
 (some (Sum.inl (false, m0, m1, m2, m3)))
 else
 if ((m1 == (100 : Int)) = true) then
 if ((decide (i > (0 : Int))) = true) then
 if ((0 : Int) ≤ (IntKind.wrap .i64 (i - (1 : Int)))) then
 Option.bind (m3)[(Int.toNat (IntKind.wrap .i64 (i - (1 : Int))))]? fun x1 =>
 Option.bind (Fshuntref03_Of k x1.1 x1.2) fun r4 =>
 if ((0 : Int) ≤ i) then
 Option.bind (m3)[(Int.toNat i)]? fun x2 =>
 Option.bind (Fshuntref03_Of k x2.1 x2.2) fun r5 =>
 Option.bind (Fshuntref02_Held k r4.1 r4.2.1 r4.2.2.1 r4.2.2.2 r5.1 r5.2.1 r5.2.2.1 r5.2.2.2) fun r6 =>
 if ((decide (r6 ≥ (0 : Int))) = true) then
 (some (Sum.inl (false, m0, m1, m2, m3)))
 else
 rec (IntKind.wrap .i64 (i + (1 : Int))) m0 m1 m2 m3
 else
 none
 else
 none
 else
 rec (IntKind.wrap .i64 (i + (1 : Int))) m0 m1 m2 m3
 else
 rec (IntKind.wrap .i64 (i + (1 : Int))) m0 m1 m2 m3
 else
 none
 else
 (some (Sum.inr (m0, m1, m2, m3)))
def Lshuntref05_Valid_2 (k n : Nat) : Int → ByteArray → Int → List (Int × Int) → List (Int × Int) → Option ((Bool × ByteArray × Int × List (Int × Int) × List (Int × Int)) ⊕ (ByteArray × Int × List (Int × Int) × List (Int × Int))) := Nat.rec (fun _ _ _ _ _ => none) (fun _ r => Lshuntref05_Valid_2s k r) n
def bshuntref05_Valid (k : Nat) (m0 : ByteArray) (m1 : Int) (m2 : List (Int × Int)) (m3 : List (Int × Int)) : Option (Bool) :=
 Option.bind (Fshuntref05_Name k m0) fun r1 =>
 if ((!r1) = true) then
 (some false)
 else
 Option.bind (Lshuntref05_Valid_0 k k (0 : Int) m0 m1 m2 m3) fun r2 =>
 eitherK r2
 (fun r2 =>
 (some r2.1))
 (fun r2 =>
 Option.bind (Lshuntref05_Valid_2 k k (0 : Int) r2.1 r2.2.1 r2.2.2.1 r2.2.2.2) fun r3 =>
 eitherK r3
 (fun r3 =>
 (some r3.1))
 (fun r3 =>
 if ((r3.2.1 == (115 : Int)) = true) then
 if (((((List.length r3.2.2.1) : Nat) : Int) == (2 : Int)) = true) then
 (some ((((List.length r3.2.2.2) : Nat) : Int) == (1 : Int)))
 else
 (some false)
 else
 if ((r3.2.1 == (100 : Int)) = true) then
 if ((decide ((((List.length r3.2.2.1) : Nat) : Int) ≥ (1 : Int))) = true) then
 if ((decide ((((List.length r3.2.2.1) : Nat) : Int) ≤ (4 : Int))) = true) then
 (some ((IntKind.wrap .i64 ((((List.length r3.2.2.2) : Nat) : Int) + (1 : Int))) == (((List.length r3.2.2.1) : Nat) : Int)))
 else
 (some false)
 else
 (some false)
 else
 (some false)))
def Fshuntref05_Valid : Nat → ByteArray → Int → List (Int × Int) → List (Int × Int) → Option (Bool)
 | 0, _, _, _, _ => none
 | k + 1, m0, m1, m2, m3 => bshuntref05_Valid k m0 m1 m2 m3
def shq94 : FS := { vs := [.g [.lf .str, .lf (.int .u8), .lf (.sl (.pr (.int .i64) (.int .i64))), .lf (.sl (.pr (.int .i64) (.int .i64)))]], bs := [] }
def rsq94 : List FS := [{ vs := [.a (.lf .bool)], bs := [] }]
def Iq94 (k : Nat) : Inst := ⟨31, shq94, rsq94, fun x => Fshuntref05_Valid k x.1 x.2.1 x.2.2.1 x.2.2.2⟩
theorem alq94 (k : Nat) : AllI (call cf k) [Iq93 k, Iq90 k, Iq89 k, Iq87 k] := qA (okq93 k) (qA (okq90 k) (qA (okq89 k) (qA (okq87 k) qT)))
def hsq148 : List SS := [{ fr := [(1, .a (.ptr 0 0 0)), (3, .a (.lf (.int .i64)))], mem := [(0, some (.raw [[.lf .str, .lf (.int .u8), .lf (.sl (.pr (.int .i64) (.int .i64))), .lf (.sl (.pr (.int .i64) (.int .i64)))]] 4 24 true false))], nx := 1 }]
def osq148 : List OS := [⟨none, { fr := [(2, .a (.lf .bool))], mem := [(0, some (.raw [[.lf .str, .lf (.int .u8), .lf (.sl (.pr (.int .i64) (.int .i64))), .lf (.sl (.pr (.int .i64) (.int .i64)))]] 4 24 true false))], nx := 1 }⟩, ⟨some 0, { fr := [(1, .a (.ptr 0 0 0))], mem := [(0, some (.raw [[.lf .str, .lf (.int .u8), .lf (.sl (.pr (.int .i64) (.int .i64))), .lf (.sl (.pr (.int .i64) (.int .i64)))]] 4 24 true false))], nx := 1 }⟩]
def LIq148 (k : Nat) : LInst := ⟨0, hsq148, osq148, fun x => Lshuntref05_Valid_0 k k x.1 x.2.1 x.2.2.1 x.2.2.2.1 x.2.2.2.2⟩
theorem anq148 (k : Nat) : LAll (LOk (R := DS OS.D osq148) (fun b _ σ K => LOt Ty (kps 31) 0 b σ K []) cf (call cf k) (kps 31) Try.f31.ntmps k 0) 0 (lb Try.f31 0) :=
 qA (qA qT (qA qT qT)) (qA (qA qT (qA (qA qT qT) qT)) qT)
theorem stq148 (k n : Nat) (x : DS SS.D hsq148) : Lshuntref05_Valid_0 k (n + 1) x.1 x.2.1 x.2.2.1 x.2.2.2.1 x.2.2.2.2 = encSK SS.enc (fun σ => run2 cf (fun f a b K => COt f a b K [Iq93 k, Iq90 k, Iq89 k, Iq87 k]) (fun b _ σ K => LOt Ty (kps 31) 0 b σ K []) Try.f31.ntmps 0 (lb Try.f31 0) σ (nextK Ty (kps 31 0) 0 hsq148 osq148 fun x => Lshuntref05_Valid_0 k n x.1 x.2.1 x.2.2.1 x.2.2.2.1 x.2.2.2.2)) hsq148 x := by kernel_rfl
theorem loq148 (k : Nat) : LIOk cf (call cf k) (kps 31) Try.f31.ntmps k 0 0 (lb Try.f31 0) (LIq148 k) :=
 loop_ok (c := cf) (callF := call cf k) (kp := kps 31) (nt := Try.f31.ntmps) (k := k) (p := 0) (b := 0) (x0 := lb Try.f31 0) (hs := hsq148) (os := osq148) (COt_ok (alq94 k)) (anq148 k) (fun n x => Lshuntref05_Valid_0 k n x.1 x.2.1 x.2.2.1 x.2.2.2.1 x.2.2.2.2) (fun _ => rfl) (stq148 k)
def hsq149 : List SS := [{ fr := [(1, .a (.ptr 0 0 0)), (4, .a (.lf (.int .i64)))], mem := [(0, some (.raw [[.lf .str, .lf (.int .u8), .lf (.sl (.pr (.int .i64) (.int .i64))), .lf (.sl (.pr (.int .i64) (.int .i64)))]] 4 24 true false))], nx := 1 }]
def osq149 : List OS := [⟨none, { fr := [(2, .a (.lf .bool))], mem := [(0, some (.raw [[.lf .str, .lf (.int .u8), .lf (.sl (.pr (.int .i64) (.int .i64))), .lf (.sl (.pr (.int .i64) (.int .i64)))]] 4 24 true false))], nx := 1 }⟩, ⟨some 2, { fr := [(1, .a (.ptr 0 0 0))], mem := [(0, some (.raw [[.lf .str, .lf (.int .u8), .lf (.sl (.pr (.int .i64) (.int .i64))), .lf (.sl (.pr (.int .i64) (.int .i64)))]] 4 24 true false))], nx := 1 }⟩]
def LIq149 (k : Nat) : LInst := ⟨2, hsq149, osq149, fun x => Lshuntref05_Valid_2 k k x.1 x.2.1 x.2.2.1 x.2.2.2.1 x.2.2.2.2⟩
theorem anq149 (k : Nat) : LAll (LOk (R := DS OS.D osq149) (fun b _ σ K => LOt Ty (kps 31) 0 b σ K [LIq148 k]) cf (call cf k) (kps 31) Try.f31.ntmps k 0) 2 (lb Try.f31 1) :=
 qA (qA qT (qA qT qT)) (qA (qA (qA qT (qA (qA qT qT) qT)) (qA qT (qA (qA qT qT) qT))) qT)
theorem stq149 (k n : Nat) (x : DS SS.D hsq149) : Lshuntref05_Valid_2 k (n + 1) x.1 x.2.1 x.2.2.1 x.2.2.2.1 x.2.2.2.2 = encSK SS.enc (fun σ => run2 cf (fun f a b K => COt f a b K [Iq93 k, Iq90 k, Iq89 k, Iq87 k]) (fun b _ σ K => LOt Ty (kps 31) 0 b σ K [LIq148 k]) Try.f31.ntmps 2 (lb Try.f31 1) σ (nextK Ty (kps 31 2) 0 hsq149 osq149 fun x => Lshuntref05_Valid_2 k n x.1 x.2.1 x.2.2.1 x.2.2.2.1 x.2.2.2.2)) hsq149 x := by kernel_rfl
theorem loq149 (k : Nat) : LIOk cf (call cf k) (kps 31) Try.f31.ntmps k 0 2 (lb Try.f31 1) (LIq149 k) :=
 loop_ok (c := cf) (callF := call cf k) (kp := kps 31) (nt := Try.f31.ntmps) (k := k) (p := 0) (b := 2) (x0 := lb Try.f31 1) (hs := hsq149) (os := osq149) (COt_ok (alq94 k)) (anq149 k) (fun n x => Lshuntref05_Valid_2 k n x.1 x.2.1 x.2.2.1 x.2.2.2.1 x.2.2.2.2) (fun _ => rfl) (stq149 k)
theorem anq94 (k : Nat) : LAll (LOk (R := DS FS.D rsq94) (fun b _ σ K => LOt Ty (kps 31) 0 b σ K [LIq148 k, LIq149 k]) cf (call cf k) (cf.keep 31) Try.f31.ntmps k shq94.bs.length) 0 (bd Try.f31) :=
 qA qT (qA (qA qT (qA (qA qT qT) qT)) (qA (qA qT (LOt_ok (c := cf) (callF := call cf k) (kp := kps 31) (nt := Try.f31.ntmps) (k := k) (p := 0) (b := 0) (x0 := lb Try.f31 0) (l := [LIq148 k, LIq149 k]) (qA (fun _ => loq148 k) (qA (fun h => absurd (show (2 : Nat) = 0 from h) (by decide)) qT)))) (qA (qA qT (LOt_ok (c := cf) (callF := call cf k) (kp := kps 31) (nt := Try.f31.ntmps) (k := k) (p := 0) (b := 2) (x0 := lb Try.f31 1) (l := [LIq148 k, LIq149 k]) (qA (fun h => absurd (show (0 : Nat) = 2 from h) (by decide)) (qA (fun _ => loq149 k) qT)))) (qA (qA qT (qA (qA qT qT) qT)) (qA qT qT)))))
theorem stq94 (k : Nat) (x : shq94.D) : Fshuntref05_Valid (k + 1) x.1 x.2.1 x.2.2.1 x.2.2.2 = body2 cf (fun f a b K => COt f a b K [Iq93 k, Iq90 k, Iq89 k, Iq87 k]) (fun b _ σ K => LOt Ty (kps 31) 0 b σ K [LIq148 k, LIq149 k]) 31 Try.f31.ntmps Try.f31.results.toList (bd Try.f31) (shq94.enc x).1 (shq94.enc x).2 (putS FS.dec rsq94) := by kernel_rfl
theorem okq94 : ∀ k, InstOk (call cf k) (Iq94 k)
 | 0 => fun x y e => absurd (show (none : Option _) = some y from e) (by simp)
 | k + 1 => inst_ok (c := cf) (k := k) (f := 31) (fn := Try.f31) (body := bd Try.f31) (sh := shq94) (os := rsq94) rfl Try.func31 rfl ⟨rfl, Nat.le_of_ble_eq_true rfl⟩ (COt_ok (alq94 k)) (anq94 k) (fun x => Fshuntref05_Valid (k + 1) x.1 x.2.1 x.2.2.1 x.2.2.2) (stq94 k)

/-! shunt/shuntref05.Fault -/
def bshuntref05_Fault (k : Nat) (m0 : ByteArray) (m1 : Int) (m2 : List (Int × Int)) (m3 : List (Int × Int)) (k1 : Int) : Option (Int) :=
 Option.bind (Fshuntref05_Valid k m0 m1 m2 m3) fun r1 =>
 if ((!r1) = true) then
 (some (50 : Int))
 else
 if ((decide (k1 < (0 : Int))) = false) then
 if ((decide (k1 > (IntKind.wrap .i64 ((((List.length m2) : Nat) : Int) - (1 : Int))))) = true) then
 (some (111 : Int))
 else
 (some (0 : Int))
 else
 (some (111 : Int))
def Fshuntref05_Fault : Nat → ByteArray → Int → List (Int × Int) → List (Int × Int) → Int → Option (Int)
 | 0, _, _, _, _, _ => none
 | k + 1, m0, m1, m2, m3, k1 => bshuntref05_Fault k m0 m1 m2 m3 k1
def shq92 : FS := { vs := [.g [.lf .str, .lf (.int .u8), .lf (.sl (.pr (.int .i64) (.int .i64))), .lf (.sl (.pr (.int .i64) (.int .i64)))], .a (.lf (.int .i64))], bs := [] }
def rsq92 : List FS := [{ vs := [.a (.lf (.int .i64))], bs := [] }]
def Iq92 (k : Nat) : Inst := ⟨12, shq92, rsq92, fun x => Fshuntref05_Fault k x.1 x.2.1 x.2.2.1 x.2.2.2.1 x.2.2.2.2⟩
theorem alq92 (k : Nat) : AllI (call cf k) [Iq94 k] := qA (okq94 k) qT
theorem anq92 (k : Nat) : LAll (LOk (R := DS FS.D rsq92) (fun b _ σ K => LOt Ty (kps 12) 0 b σ K []) cf (call cf k) (cf.keep 12) Try.f12.ntmps k shq92.bs.length) 0 (bd Try.f12) :=
 qA qT (qA (qA qT (qA (qA qT qT) qT)) (qA (qA qT (qA (qA qT qT) qT)) (qA qT qT)))
theorem stq92 (k : Nat) (x : shq92.D) : Fshuntref05_Fault (k + 1) x.1 x.2.1 x.2.2.1 x.2.2.2.1 x.2.2.2.2 = body2 cf (fun f a b K => COt f a b K [Iq94 k]) (fun b _ σ K => LOt Ty (kps 12) 0 b σ K []) 12 Try.f12.ntmps Try.f12.results.toList (bd Try.f12) (shq92.enc x).1 (shq92.enc x).2 (putS FS.dec rsq92) := by kernel_rfl
theorem okq92 : ∀ k, InstOk (call cf k) (Iq92 k)
 | 0 => fun x y e => absurd (show (none : Option _) = some y from e) (by simp)
 | k + 1 => inst_ok (c := cf) (k := k) (f := 12) (fn := Try.f12) (body := bd Try.f12) (sh := shq92) (os := rsq92) rfl Try.func12 rfl ⟨rfl, Nat.le_of_ble_eq_true rfl⟩ (COt_ok (alq92 k)) (anq92 k) (fun x => Fshuntref05_Fault (k + 1) x.1 x.2.1 x.2.2.1 x.2.2.2.1 x.2.2.2.2) (stq92 k)

/-! shunt/shuntref01.Right -/
def bshuntref01_Right (k : Nat) (a0 : Bool) (a1 : List Int) : Option (Bool) :=
 if ((decide ((((List.length a1) : Nat) : Int) > (72 : Int))) = true) then
 (some false)
 else
 if (((((List.length a1) : Nat) : Int) == (0 : Int)) = true) then
 (some (!a0))
 else
 if ((0 : Int) ≤ (IntKind.wrap .i64 ((((List.length a1) : Nat) : Int) - (1 : Int)))) then
 Option.bind (a1)[(Int.toNat (IntKind.wrap .i64 ((((List.length a1) : Nat) : Int) - (1 : Int))))]? fun x =>
 (some (x != (0 : Int)))
 else
 none
def Fshuntref01_Right : Nat → Bool → List Int → Option (Bool)
 | 0, _, _ => none
 | k + 1, a0, a1 => bshuntref01_Right k a0 a1
def shq75 : FS := { vs := [.g [.lf .bool, .lf (.sl (.int .u32))]], bs := [] }
def rsq75 : List FS := [{ vs := [.a (.lf .bool)], bs := [] }]
def Iq75 (k : Nat) : Inst := ⟨39, shq75, rsq75, fun x => Fshuntref01_Right k x.1 x.2⟩
theorem alq75 (k : Nat) : AllI (call cf k) [] := True.intro
theorem anq75 (k : Nat) : LAll (LOk (R := DS FS.D rsq75) (fun b _ σ K => LOt Ty (kps 39) 0 b σ K []) cf (call cf k) (cf.keep 39) Try.f39.ntmps k shq75.bs.length) 0 (bd Try.f39) :=
 qA qT (qA qT (qA (qA qT (qA (qA qT qT) qT)) (qA (qA qT (qA (qA qT qT) qT)) (qA qT qT))))
theorem stq75 (k : Nat) (x : shq75.D) : Fshuntref01_Right (k + 1) x.1 x.2 = body2 cf (fun f a b K => COt f a b K []) (fun b _ σ K => LOt Ty (kps 39) 0 b σ K []) 39 Try.f39.ntmps Try.f39.results.toList (bd Try.f39) (shq75.enc x).1 (shq75.enc x).2 (putS FS.dec rsq75) := by kernel_rfl
theorem okq75 : ∀ k, InstOk (call cf k) (Iq75 k)
 | 0 => fun x y e => absurd (show (none : Option _) = some y from e) (by simp)
 | k + 1 => inst_ok (c := cf) (k := k) (f := 39) (fn := Try.f39) (body := bd Try.f39) (sh := shq75) (os := rsq75) rfl Try.func39 rfl ⟨rfl, Nat.le_of_ble_eq_true rfl⟩ (COt_ok (alq75 k)) (anq75 k) (fun x => Fshuntref01_Right (k + 1) x.1 x.2) (stq75 k)

/-! shunt/shuntref01.Take -/
def Lshuntref01_Take_0s (k : Nat) (rec : Nat → Int → Bool → List Int → Bool → Nat → List Int → List Int → Option (Nat × Bool × List Int × Bool × Nat × List Int × List Int)) (d : Nat) (i : Int) (a0 : Bool) (a1 : List Int) (x0 : Bool) (x1 : Nat) (ds : List Int) (m : List Int) : Option (Nat × Bool × List Int × Bool × Nat × List Int × List Int) :=
 if ((decide (i < (((List.length a1) : Nat) : Int))) = true) then
 if ((0 : Int) ≤ i) then
 Option.bind (a1)[(Int.toNat i)]? fun x =>
 if ((0 : Int) ≤ i) then
 Option.bind (a1)[(Int.toNat i)]? fun x2 =>
 if (d ≤ (List.length ds)) then
 if (((d + (List.length (List.take 2 ((IntKind.wrap .i64 (Int.tmod x (65536 : Int))) :: ((IntKind.wrap .i64 (IntKind.wrap .u32 (Int.tdiv x2 (65536 : Int)))) :: []))))) * 8) ≤ 140737488355328) then
 rec (d + (List.length (List.take 2 ((IntKind.wrap .i64 (Int.tmod x (65536 : Int))) :: ((IntKind.wrap .i64 (IntKind.wrap .u32 (Int.tdiv x2 (65536 : Int)))) :: []))))) (IntKind.wrap .i64 (i + (1 : Int))) a0 a1 x0 x1 ((List.take d ds) ++ (List.take 2 ((IntKind.wrap .i64 (Int.tmod x (65536 : Int))) :: ((IntKind.wrap .i64 (IntKind.wrap .u32 (Int.tdiv x2 (65536 : Int)))) :: [])))) m
 else
 none
 else
 none
 else
 none
 else
 none
 else
 (some (d, a0, a1, x0, x1, ds, m))
def Lshuntref01_Take_0 (k n : Nat) : Nat → Int → Bool → List Int → Bool → Nat → List Int → List Int → Option (Nat × Bool × List Int × Bool × Nat × List Int × List Int) := Nat.rec (fun _ _ _ _ _ _ _ _ => none) (fun _ r => Lshuntref01_Take_0s k r) n
def bshuntref01_Take (k : Nat) (a0 : Bool) (a1 : List Int) : Option (Bool × List Int) :=
 Option.bind (Lshuntref01_Take_0 k k 0 (0 : Int) a0 a1 false 0 [] []) fun r6 =>
 Option.bind (Fshuntref01_trim_mfi k r6.1 r6.2.2.2.2.2.1) fun r7 =>
 if (r6.2.1 = true) then
 if ((0 + r7.1) ≤ (List.length r7.2)) then
 (some ((decide (((r7.1 : Nat) : Int) > (0 : Int))), (List.take r7.1 r7.2)))
 else
 none
 else
 if ((0 + r7.1) ≤ (List.length r7.2)) then
 (some (false, (List.take r7.1 r7.2)))
 else
 none
def Fshuntref01_Take : Nat → Bool → List Int → Option (Bool × List Int)
 | 0, _, _ => none
 | k + 1, a0, a1 => bshuntref01_Take k a0 a1
def shq78 : FS := { vs := [.g [.lf .bool, .lf (.sl (.int .u32))]], bs := [] }
def rsq78 : List FS := [{ vs := [.g [.lf .bool, .lf (.sl (.int .i64))]], bs := [] }]
def Iq78 (k : Nat) : Inst := ⟨42, shq78, rsq78, fun x => Fshuntref01_Take k x.1 x.2⟩
theorem alq78 (k : Nat) : AllI (call cf k) [Iq85 k] := qA (okq85 k) qT
def hsq137 : List SS := [{ fr := [(1, .a (.ptr 0 0 0)), (2, .a (.ptr 1 0 0)), (3, .a (.smz 2)), (4, .a (.lf (.int .i64)))], mem := [(0, some (.raw [[.lf .bool, .lf (.sl (.int .u32))]] 2 27 true false)), (1, some (.raw [[.lf .bool, .smz 3]] 2 77 false false)), (2, some (.arr (.int .i64) 1 3 false)), (3, some (.arr (.int .i64) 1 3 false))], nx := 4 }]
def osq137 : List OS := [⟨some 0, { fr := [(1, .a (.ptr 0 0 0)), (2, .a (.ptr 1 0 0)), (3, .a (.smz 2))], mem := [(0, some (.raw [[.lf .bool, .lf (.sl (.int .u32))]] 2 27 true false)), (1, some (.raw [[.lf .bool, .smz 3]] 2 77 false false)), (2, some (.arr (.int .i64) 1 3 false)), (3, some (.arr (.int .i64) 1 3 false))], nx := 4 }⟩]
def LIq137 (k : Nat) : LInst := ⟨0, hsq137, osq137, fun x => Lshuntref01_Take_0 k k x.1 x.2.1 x.2.2.1 x.2.2.2.1 x.2.2.2.2.1 x.2.2.2.2.2.1 x.2.2.2.2.2.2.1 x.2.2.2.2.2.2.2⟩
theorem anq137 (k : Nat) : LAll (LOk (R := DS OS.D osq137) (fun b _ σ K => LOt Ty (kps 42) 0 b σ K []) cf (call cf k) (kps 42) Try.f42.ntmps k 0) 0 (lb Try.f42 0) :=
 qA (qA qT (qA qT qT)) (qA qT qT)
theorem stq137 (k n : Nat) (x : DS SS.D hsq137) : Lshuntref01_Take_0 k (n + 1) x.1 x.2.1 x.2.2.1 x.2.2.2.1 x.2.2.2.2.1 x.2.2.2.2.2.1 x.2.2.2.2.2.2.1 x.2.2.2.2.2.2.2 = encSK SS.enc (fun σ => run2 cf (fun f a b K => COt f a b K [Iq85 k]) (fun b _ σ K => LOt Ty (kps 42) 0 b σ K []) Try.f42.ntmps 0 (lb Try.f42 0) σ (nextK Ty (kps 42 0) 0 hsq137 osq137 fun x => Lshuntref01_Take_0 k n x.1 x.2.1 x.2.2.1 x.2.2.2.1 x.2.2.2.2.1 x.2.2.2.2.2.1 x.2.2.2.2.2.2.1 x.2.2.2.2.2.2.2)) hsq137 x := by kernel_rfl
theorem loq137 (k : Nat) : LIOk cf (call cf k) (kps 42) Try.f42.ntmps k 0 0 (lb Try.f42 0) (LIq137 k) :=
 loop_ok (c := cf) (callF := call cf k) (kp := kps 42) (nt := Try.f42.ntmps) (k := k) (p := 0) (b := 0) (x0 := lb Try.f42 0) (hs := hsq137) (os := osq137) (COt_ok (alq78 k)) (anq137 k) (fun n x => Lshuntref01_Take_0 k n x.1 x.2.1 x.2.2.1 x.2.2.2.1 x.2.2.2.2.1 x.2.2.2.2.2.1 x.2.2.2.2.2.2.1 x.2.2.2.2.2.2.2) (fun _ => rfl) (stq137 k)
theorem anq78 (k : Nat) : LAll (LOk (R := DS FS.D rsq78) (fun b _ σ K => LOt Ty (kps 42) 0 b σ K [LIq137 k]) cf (call cf k) (cf.keep 42) Try.f42.ntmps k shq78.bs.length) 0 (bd Try.f42) :=
 qA qT (qA qT (qA (qA qT (LOt_ok (c := cf) (callF := call cf k) (kp := kps 42) (nt := Try.f42.ntmps) (k := k) (p := 0) (b := 0) (x0 := lb Try.f42 0) (l := [LIq137 k]) (qA (fun _ => loq137 k) qT))) (qA qT (qA qT qT))))
theorem stq78 (k : Nat) (x : shq78.D) : Fshuntref01_Take (k + 1) x.1 x.2 = body2 cf (fun f a b K => COt f a b K [Iq85 k]) (fun b _ σ K => LOt Ty (kps 42) 0 b σ K [LIq137 k]) 42 Try.f42.ntmps Try.f42.results.toList (bd Try.f42) (shq78.enc x).1 (shq78.enc x).2 (putS FS.dec rsq78) := by kernel_rfl
theorem okq78 : ∀ k, InstOk (call cf k) (Iq78 k)
 | 0 => fun x y e => absurd (show (none : Option _) = some y from e) (by simp)
 | k + 1 => inst_ok (c := cf) (k := k) (f := 42) (fn := Try.f42) (body := bd Try.f42) (sh := shq78) (os := rsq78) rfl Try.func42 rfl ⟨rfl, Nat.le_of_ble_eq_true rfl⟩ (COt_ok (alq78 k)) (anq78 k) (fun x => Fshuntref01_Take (k + 1) x.1 x.2) (stq78 k)

/-! shunt/shuntref02.Fault -/
def bshuntref02_Fault (k : Nat) (r0 : Bool) (r1 : List Int) (r2 : Bool) (r3 : List Int) : Option (Int) :=
 Option.bind (Fshuntref01_Right k r0 r1) fun r4 =>
 if ((!r4) = false) then
 Option.bind (Fshuntref01_Right k r2 r3) fun r5 =>
 if ((!r5) = true) then
 (some (10 : Int))
 else
 if (r2 = false) then
 if (((((List.length r3) : Nat) : Int) == (0 : Int)) = false) then
 Option.bind (Fshuntref01_Take k r0 r1) fun r6 =>
 Option.bind (Fshuntref01_Take k r2 r3) fun r7 =>
 Option.bind (Fshuntref01_Common k r6.1 r6.2 r7.1 r7.2) fun r8 =>
 Option.bind (Fshuntref01_Small k (1 : Int)) fun r9 =>
 Option.bind (Fshuntref01_Held k r8.1 r8.2 r9.1 r9.2) fun r10 =>
 if ((r10 != (0 : Int)) = true) then
 (some (20 : Int))
 else
 (some (0 : Int))
 else
 (some (20 : Int))
 else
 (some (20 : Int))
 else
 (some (10 : Int))
def Fshuntref02_Fault : Nat → Bool → List Int → Bool → List Int → Option (Int)
 | 0, _, _, _, _ => none
 | k + 1, r0, r1, r2, r3 => bshuntref02_Fault k r0 r1 r2 r3
def shq86 : FS := { vs := [.g [.lf .bool, .lf (.sl (.int .u32)), .lf .bool, .lf (.sl (.int .u32))]], bs := [] }
def rsq86 : List FS := [{ vs := [.a (.lf (.int .i64))], bs := [] }]
def Iq86 (k : Nat) : Inst := ⟨13, shq86, rsq86, fun x => Fshuntref02_Fault k x.1 x.2.1 x.2.2.1 x.2.2.2⟩
theorem alq86 (k : Nat) : AllI (call cf k) [Iq75 k, Iq78 k, Iq69 k, Iq77 k, Iq71 k] := qA (okq75 k) (qA (okq78 k) (qA (okq69 k) (qA (okq77 k) (qA (okq71 k) qT))))
theorem anq86 (k : Nat) : LAll (LOk (R := DS FS.D rsq86) (fun b _ σ K => LOt Ty (kps 13) 0 b σ K []) cf (call cf k) (cf.keep 13) Try.f13.ntmps k shq86.bs.length) 0 (bd Try.f13) :=
 qA qT (qA (qA qT (qA (qA qT qT) qT)) (qA (qA qT (qA (qA qT qT) qT)) (qA qT qT)))
theorem stq86 (k : Nat) (x : shq86.D) : Fshuntref02_Fault (k + 1) x.1 x.2.1 x.2.2.1 x.2.2.2 = body2 cf (fun f a b K => COt f a b K [Iq75 k, Iq78 k, Iq69 k, Iq77 k, Iq71 k]) (fun b _ σ K => LOt Ty (kps 13) 0 b σ K []) 13 Try.f13.ntmps Try.f13.results.toList (bd Try.f13) (shq86.enc x).1 (shq86.enc x).2 (putS FS.dec rsq86) := by kernel_rfl
theorem okq86 : ∀ k, InstOk (call cf k) (Iq86 k)
 | 0 => fun x y e => absurd (show (none : Option _) = some y from e) (by simp)
 | k + 1 => inst_ok (c := cf) (k := k) (f := 13) (fn := Try.f13) (body := bd Try.f13) (sh := shq86) (os := rsq86) rfl Try.func13 rfl ⟨rfl, Nat.le_of_ble_eq_true rfl⟩ (COt_ok (alq86 k)) (anq86 k) (fun x => Fshuntref02_Fault (k + 1) x.1 x.2.1 x.2.2.1 x.2.2.2) (stq86 k)

/-! shunt/shuntlaw05.ModelWalk -/
def Lshuntlaw05_ModelWalk_0s (k : Nat) (rec : Int → Int → ByteArray → Int → List (Int × Int) → List (Int × Int) → Bool → List Int → Bool → List Int → Option ((Bool × ByteArray × Int × List (Int × Int) × List (Int × Int) × Bool × List Int × Bool × List Int) ⊕ (Int × ByteArray × Int × List (Int × Int) × List (Int × Int) × Bool × List Int × Bool × List Int))) (k1 : Int) (n : Int) (m0 : ByteArray) (m1 : Int) (m2 : List (Int × Int)) (m3 : List (Int × Int)) (u0 : Bool) (u1 : List Int) (u2 : Bool) (u3 : List Int) : Option ((Bool × ByteArray × Int × List (Int × Int) × List (Int × Int) × Bool × List Int × Bool × List Int) ⊕ (Int × ByteArray × Int × List (Int × Int) × List (Int × Int) × Bool × List Int × Bool × List Int)) :=
 if ((decide (n < (4 : Int))) = true) then
 Option.bind (Fmodel_Side k m0 m1 m2 m3 k1 u0 u1 u2 u3) fun r3 =>
 if ((r3.2 != (0 : Int)) = true) then
 (some (Sum.inl (false, m0, m1, m2, m3, u0, u1, u2, u3)))
 else
 if ((r3.1 == (0 : Int)) = true) then
 (some (Sum.inr (k1, m0, m1, m2, m3, u0, u1, u2, u3)))
 else
 if ((decide ((IntKind.wrap .i64 (k1 + r3.1)) < (0 : Int))) = false) then
 if ((decide ((IntKind.wrap .i64 (k1 + r3.1)) ≥ (((List.length m2) : Nat) : Int))) = true) then
 (some (Sum.inl (false, m0, m1, m2, m3, u0, u1, u2, u3)))
 else
 rec (IntKind.wrap .i64 (k1 + r3.1)) (IntKind.wrap .i64 (n + (1 : Int))) m0 m1 m2 m3 u0 u1 u2 u3
 else
 (some (Sum.inl (false, m0, m1, m2, m3, u0, u1, u2, u3)))
 else
 (some (Sum.inr (k1, m0, m1, m2, m3, u0, u1, u2, u3)))
def Lshuntlaw05_ModelWalk_0 (k n : Nat) : Int → Int → ByteArray → Int → List (Int × Int) → List (Int × Int) → Bool → List Int → Bool → List Int → Option ((Bool × ByteArray × Int × List (Int × Int) × List (Int × Int) × Bool × List Int × Bool × List Int) ⊕ (Int × ByteArray × Int × List (Int × Int) × List (Int × Int) × Bool × List Int × Bool × List Int)) := Nat.rec (fun _ _ _ _ _ _ _ _ _ _ => none) (fun _ r => Lshuntlaw05_ModelWalk_0s k r) n
def bshuntlaw05_ModelWalk (k : Nat) (m0 : ByteArray) (m1 : Int) (m2 : List (Int × Int)) (m3 : List (Int × Int)) (k1 : Int) (u0 : Bool) (u1 : List Int) (u2 : Bool) (u3 : List Int) : Option (Bool) :=
 Option.bind (Fshuntlaw05_awake k) fun r =>
 if ((!r) = true) then
 (some false)
 else
 Option.bind (Fshuntref05_Fault k m0 m1 m2 m3 k1) fun r1 =>
 if ((r1 != (0 : Int)) = false) then
 if ((decide ((IntKind.wrap .i64 ((((List.length u1) : Nat) : Int) + (((List.length u3) : Nat) : Int))) > (160 : Int))) = false) then
 Option.bind (Fshuntref02_Fault k u0 u1 u2 u3) fun r2 =>
 if ((r2 != (0 : Int)) = true) then
 (some true)
 else
 Option.bind (Lshuntlaw05_ModelWalk_0 k k k1 (0 : Int) m0 m1 m2 m3 u0 u1 u2 u3) fun r3 =>
 eitherK r3
 (fun r3 =>
 (some r3.1))
 (fun r3 =>
 Option.bind (Fmodel_Side k r3.2.1 r3.2.2.1 r3.2.2.2.1 r3.2.2.2.2.1 r3.1 r3.2.2.2.2.2.1 r3.2.2.2.2.2.2.1 r3.2.2.2.2.2.2.2.1 r3.2.2.2.2.2.2.2.2) fun r4 =>
 Option.bind (Fmodel_Find k r3.2.1 r3.2.2.1 r3.2.2.2.1 r3.2.2.2.2.1 r3.2.2.2.2.2.1 r3.2.2.2.2.2.2.1 r3.2.2.2.2.2.2.2.1 r3.2.2.2.2.2.2.2.2) fun r5 =>
 if ((r4.2 == (0 : Int)) = true) then
 if ((r5.2 == (0 : Int)) = true) then
 if ((r4.1 == (0 : Int)) = true) then
 if ((r5.1 == r3.1) = false) then
 (some (r5.1 == (IntKind.wrap .i64 (r3.1 - (1 : Int)))))
 else
 (some true)
 else
 (some false)
 else
 (some false)
 else
 (some false))
 else
 (some true)
 else
 (some true)
def Fshuntlaw05_ModelWalk : Nat → ByteArray → Int → List (Int × Int) → List (Int × Int) → Int → Bool → List Int → Bool → List Int → Option (Bool)
 | 0, _, _, _, _, _, _, _, _, _ => none
 | k + 1, m0, m1, m2, m3, k1, u0, u1, u2, u3 => bshuntlaw05_ModelWalk k m0 m1 m2 m3 k1 u0 u1 u2 u3
def shq66 : FS := { vs := [.g [.lf .str, .lf (.int .u8), .lf (.sl (.pr (.int .i64) (.int .i64))), .lf (.sl (.pr (.int .i64) (.int .i64)))], .a (.lf (.int .i64)), .g [.lf .bool, .lf (.sl (.int .u32)), .lf .bool, .lf (.sl (.int .u32))]], bs := [] }
def rsq66 : List FS := [{ vs := [.a (.lf .bool)], bs := [] }]
def Iq66 (k : Nat) : Inst := ⟨3, shq66, rsq66, fun x => Fshuntlaw05_ModelWalk k x.1 x.2.1 x.2.2.1 x.2.2.2.1 x.2.2.2.2.1 x.2.2.2.2.2.1 x.2.2.2.2.2.2.1 x.2.2.2.2.2.2.2.1 x.2.2.2.2.2.2.2.2⟩
theorem alq66 (k : Nat) : AllI (call cf k) [Iq67 k, Iq92 k, Iq86 k, Iq54 k, Iq51 k] := qA (okq67 k) (qA (okq92 k) (qA (okq86 k) (qA (okq54 k) (qA (okq51 k) qT))))
def hsq133 : List SS := [{ fr := [(1, .a (.lf (.int .i64))), (3, .a (.ptr 0 0 0)), (5, .a (.ptr 1 0 0)), (7, .a (.lf (.int .i64)))], mem := [(0, some (.raw [[.lf .str, .lf (.int .u8), .lf (.sl (.pr (.int .i64) (.int .i64))), .lf (.sl (.pr (.int .i64) (.int .i64)))]] 4 24 true false)), (1, some (.raw [[.lf .bool, .lf (.sl (.int .u32)), .lf .bool, .lf (.sl (.int .u32))]] 4 29 true false))], nx := 2 }]
def osq133 : List OS := [⟨none, { fr := [(6, .a (.lf .bool))], mem := [(0, some (.raw [[.lf .str, .lf (.int .u8), .lf (.sl (.pr (.int .i64) (.int .i64))), .lf (.sl (.pr (.int .i64) (.int .i64)))]] 4 24 true false)), (1, some (.raw [[.lf .bool, .lf (.sl (.int .u32)), .lf .bool, .lf (.sl (.int .u32))]] 4 29 true false))], nx := 2 }⟩, ⟨some 0, { fr := [(1, .a (.lf (.int .i64))), (3, .a (.ptr 0 0 0)), (5, .a (.ptr 1 0 0))], mem := [(0, some (.raw [[.lf .str, .lf (.int .u8), .lf (.sl (.pr (.int .i64) (.int .i64))), .lf (.sl (.pr (.int .i64) (.int .i64)))]] 4 24 true false)), (1, some (.raw [[.lf .bool, .lf (.sl (.int .u32)), .lf .bool, .lf (.sl (.int .u32))]] 4 29 true false))], nx := 2 }⟩]
def LIq133 (k : Nat) : LInst := ⟨0, hsq133, osq133, fun x => Lshuntlaw05_ModelWalk_0 k k x.1 x.2.1 x.2.2.1 x.2.2.2.1 x.2.2.2.2.1 x.2.2.2.2.2.1 x.2.2.2.2.2.2.1 x.2.2.2.2.2.2.2.1 x.2.2.2.2.2.2.2.2.1 x.2.2.2.2.2.2.2.2.2⟩
theorem anq133 (k : Nat) : LAll (LOk (R := DS OS.D osq133) (fun b _ σ K => LOt Ty (kps 3) 0 b σ K []) cf (call cf k) (kps 3) Try.f3.ntmps k 0) 0 (lb Try.f3 0) :=
 qA (qA qT (qA qT qT)) (qA (qA qT (qA (qA qT (qA (qA qT qT) qT)) (qA (qA qT (qA qT qT)) (qA qT (qA qT (qA (qA qT qT) qT)))))) qT)
theorem stq133 (k n : Nat) (x : DS SS.D hsq133) : Lshuntlaw05_ModelWalk_0 k (n + 1) x.1 x.2.1 x.2.2.1 x.2.2.2.1 x.2.2.2.2.1 x.2.2.2.2.2.1 x.2.2.2.2.2.2.1 x.2.2.2.2.2.2.2.1 x.2.2.2.2.2.2.2.2.1 x.2.2.2.2.2.2.2.2.2 = encSK SS.enc (fun σ => run2 cf (fun f a b K => COt f a b K [Iq67 k, Iq92 k, Iq86 k, Iq54 k, Iq51 k]) (fun b _ σ K => LOt Ty (kps 3) 0 b σ K []) Try.f3.ntmps 0 (lb Try.f3 0) σ (nextK Ty (kps 3 0) 0 hsq133 osq133 fun x => Lshuntlaw05_ModelWalk_0 k n x.1 x.2.1 x.2.2.1 x.2.2.2.1 x.2.2.2.2.1 x.2.2.2.2.2.1 x.2.2.2.2.2.2.1 x.2.2.2.2.2.2.2.1 x.2.2.2.2.2.2.2.2.1 x.2.2.2.2.2.2.2.2.2)) hsq133 x := by kernel_rfl
theorem loq133 (k : Nat) : LIOk cf (call cf k) (kps 3) Try.f3.ntmps k 0 0 (lb Try.f3 0) (LIq133 k) :=
 loop_ok (c := cf) (callF := call cf k) (kp := kps 3) (nt := Try.f3.ntmps) (k := k) (p := 0) (b := 0) (x0 := lb Try.f3 0) (hs := hsq133) (os := osq133) (COt_ok (alq66 k)) (anq133 k) (fun n x => Lshuntlaw05_ModelWalk_0 k n x.1 x.2.1 x.2.2.1 x.2.2.2.1 x.2.2.2.2.1 x.2.2.2.2.2.1 x.2.2.2.2.2.2.1 x.2.2.2.2.2.2.2.1 x.2.2.2.2.2.2.2.2.1 x.2.2.2.2.2.2.2.2.2) (fun _ => rfl) (stq133 k)
theorem anq66 (k : Nat) : LAll (LOk (R := DS FS.D rsq66) (fun b _ σ K => LOt Ty (kps 3) 0 b σ K [LIq133 k]) cf (call cf k) (cf.keep 3) Try.f3.ntmps k shq66.bs.length) 0 (bd Try.f3) :=
 qA qT (qA (qA qT (qA (qA qT qT) qT)) (qA (qA qT (qA (qA qT qT) qT)) (qA (qA qT (LOt_ok (c := cf) (callF := call cf k) (kp := kps 3) (nt := Try.f3.ntmps) (k := k) (p := 0) (b := 0) (x0 := lb Try.f3 0) (l := [LIq133 k]) (qA (fun _ => loq133 k) qT))) (qA qT (qA qT (qA qT qT))))))
theorem stq66 (k : Nat) (x : shq66.D) : Fshuntlaw05_ModelWalk (k + 1) x.1 x.2.1 x.2.2.1 x.2.2.2.1 x.2.2.2.2.1 x.2.2.2.2.2.1 x.2.2.2.2.2.2.1 x.2.2.2.2.2.2.2.1 x.2.2.2.2.2.2.2.2 = body2 cf (fun f a b K => COt f a b K [Iq67 k, Iq92 k, Iq86 k, Iq54 k, Iq51 k]) (fun b _ σ K => LOt Ty (kps 3) 0 b σ K [LIq133 k]) 3 Try.f3.ntmps Try.f3.results.toList (bd Try.f3) (shq66.enc x).1 (shq66.enc x).2 (putS FS.dec rsq66) := by kernel_rfl
theorem okq66 : ∀ k, InstOk (call cf k) (Iq66 k)
 | 0 => fun x y e => absurd (show (none : Option _) = some y from e) (by simp)
 | k + 1 => inst_ok (c := cf) (k := k) (f := 3) (fn := Try.f3) (body := bd Try.f3) (sh := shq66) (os := rsq66) rfl Try.func3 rfl ⟨rfl, Nat.le_of_ble_eq_true rfl⟩ (COt_ok (alq66 k)) (anq66 k) (fun x => Fshuntlaw05_ModelWalk (k + 1) x.1 x.2.1 x.2.2.1 x.2.2.2.1 x.2.2.2.2.1 x.2.2.2.2.2.1 x.2.2.2.2.2.2.1 x.2.2.2.2.2.2.2.1 x.2.2.2.2.2.2.2.2) (stq66 k)


end
end Go.Proofs.Ytbhnafdmilfobaa.Am
