/- Printed functions: each says what the typed machine says of the program -/
import Derived.Test.YtbhnafdmilfobaaMP2
import Derived.KernelRfl

set_option linter.unusedVariables false
set_option maxRecDepth 100000
namespace Go.Proofs.Ytbhnafdmilfobaa.Am
open Go
noncomputable section

/-! shunt/shuntref01.Small -/
def Lshuntref01_Small_0s (k : Nat) (rec : Int → Bool → Nat → Bool → Nat → List Int → List Int → Option (Bool × Nat × Bool × Nat × List Int × List Int)) (v : Int) (x0 : Bool) (x1 : Nat) (a0 : Bool) (a1 : Nat) (m : List Int) (m1 : List Int) : Option (Bool × Nat × Bool × Nat × List Int × List Int) :=
 if ((decide (v > (0 : Int))) = true) then
 if (a1 ≤ (List.length m1)) then
 if (((a1 + (List.length (List.take 1 ((Int.tmod v (65536 : Int)) :: [])))) * 8) ≤ 140737488355328) then
 rec (IntKind.wrap .i64 (Int.tdiv v (65536 : Int))) x0 x1 a0 (a1 + (List.length (List.take 1 ((Int.tmod v (65536 : Int)) :: [])))) m ((List.take a1 m1) ++ (List.take 1 ((Int.tmod v (65536 : Int)) :: [])))
 else
 none
 else
 none
 else
 (some (x0, x1, a0, a1, m, m1))
def Lshuntref01_Small_0 (k n : Nat) : Int → Bool → Nat → Bool → Nat → List Int → List Int → Option (Bool × Nat × Bool × Nat × List Int × List Int) := Nat.rec (fun _ _ _ _ _ _ _ => none) (fun _ r => Lshuntref01_Small_0s k r) n
def bshuntref01_Small (k : Nat) (v : Int) : Option (Bool × List Int) :=
 if ((decide (v < (0 : Int))) = true) then
 Option.bind (Lshuntref01_Small_0 k k (IntKind.wrap .i64 ((0 : Int) - v)) false 0 true 0 [] []) fun r5 =>
 if ((0 + r5.2.2.2.1) ≤ (List.length r5.2.2.2.2.2)) then
 (some (r5.2.2.1, (List.take r5.2.2.2.1 r5.2.2.2.2.2)))
 else
 none
 else
 Option.bind (Lshuntref01_Small_0 k k v false 0 false 0 [] []) fun r5 =>
 if ((0 + r5.2.2.2.1) ≤ (List.length r5.2.2.2.2.2)) then
 (some (r5.2.2.1, (List.take r5.2.2.2.1 r5.2.2.2.2.2)))
 else
 none
def Fshuntref01_Small : Nat → Int → Option (Bool × List Int)
 | 0, _ => none
 | k + 1, v => bshuntref01_Small k v
def shq84 : FS := { vs := [.a (.lf (.int .i64))], bs := [] }
def rsq84 : List FS := [{ vs := [.g [.lf .bool, .lf (.sl (.int .i64))]], bs := [] }]
def Iq84 (k : Nat) : Inst := ⟨43, shq84, rsq84, fun x => Fshuntref01_Small k x⟩
theorem alq84 (k : Nat) : AllI (call cf k) [] := True.intro
def hsq143 : List SS := [{ fr := [(0, .a (.lf (.int .i64))), (2, .a (.ptr 0 0 0)), (3, .a (.ptr 1 0 0))], mem := [(0, some (.raw [[.lf .bool, .smz 2]] 2 77 false false)), (1, some (.raw [[.lf .bool, .smz 3]] 2 77 false false)), (2, some (.arr (.int .i64) 1 3 false)), (3, some (.arr (.int .i64) 1 3 false))], nx := 4 }]
def osq143 : List OS := [⟨some 0, { fr := [(2, .a (.ptr 0 0 0)), (3, .a (.ptr 1 0 0))], mem := [(0, some (.raw [[.lf .bool, .smz 2]] 2 77 false false)), (1, some (.raw [[.lf .bool, .smz 3]] 2 77 false false)), (2, some (.arr (.int .i64) 1 3 false)), (3, some (.arr (.int .i64) 1 3 false))], nx := 4 }⟩]
def LIq143 (k : Nat) : LInst := ⟨0, hsq143, osq143, fun x => Lshuntref01_Small_0 k k x.1 x.2.1 x.2.2.1 x.2.2.2.1 x.2.2.2.2.1 x.2.2.2.2.2.1 x.2.2.2.2.2.2⟩
theorem anq143 (k : Nat) : LAll (LOk (R := DS OS.D osq143) (fun b _ σ K => LOt Ty (kps 43) 0 b σ K []) cf (call cf k) (kps 43) Try.f43.ntmps k 0) 0 (lb Try.f43 0) :=
 qA (qA qT (qA qT qT)) (qA qT qT)
theorem stq143 (k n : Nat) (x : DS SS.D hsq143) : Lshuntref01_Small_0 k (n + 1) x.1 x.2.1 x.2.2.1 x.2.2.2.1 x.2.2.2.2.1 x.2.2.2.2.2.1 x.2.2.2.2.2.2 = encSK SS.enc (fun σ => run2 cf (fun f a b K => COt f a b K []) (fun b _ σ K => LOt Ty (kps 43) 0 b σ K []) Try.f43.ntmps 0 (lb Try.f43 0) σ (nextK Ty (kps 43 0) 0 hsq143 osq143 fun x => Lshuntref01_Small_0 k n x.1 x.2.1 x.2.2.1 x.2.2.2.1 x.2.2.2.2.1 x.2.2.2.2.2.1 x.2.2.2.2.2.2)) hsq143 x := by kernel_rfl
theorem loq143 (k : Nat) : LIOk cf (call cf k) (kps 43) Try.f43.ntmps k 0 0 (lb Try.f43 0) (LIq143 k) :=
 loop_ok (c := cf) (callF := call cf k) (kp := kps 43) (nt := Try.f43.ntmps) (k := k) (p := 0) (b := 0) (x0 := lb Try.f43 0) (hs := hsq143) (os := osq143) (COt_ok (alq84 k)) (anq143 k) (fun n x => Lshuntref01_Small_0 k n x.1 x.2.1 x.2.2.1 x.2.2.2.1 x.2.2.2.2.1 x.2.2.2.2.2.1 x.2.2.2.2.2.2) (fun _ => rfl) (stq143 k)
theorem anq84 (k : Nat) : LAll (LOk (R := DS FS.D rsq84) (fun b _ σ K => LOt Ty (kps 43) 0 b σ K [LIq143 k]) cf (call cf k) (cf.keep 43) Try.f43.ntmps k shq84.bs.length) 0 (bd Try.f43) :=
 qA qT (qA qT (qA (qA qT (qA (qA qT qT) qT)) (qA (LOt_ok (c := cf) (callF := call cf k) (kp := kps 43) (nt := Try.f43.ntmps) (k := k) (p := 0) (b := 0) (x0 := lb Try.f43 0) (l := [LIq143 k]) (qA (fun _ => loq143 k) qT)) (qA qT qT))))
theorem stq84 (k : Nat) (x : shq84.D) : Fshuntref01_Small (k + 1) x = body2 cf (fun f a b K => COt f a b K []) (fun b _ σ K => LOt Ty (kps 43) 0 b σ K [LIq143 k]) 43 Try.f43.ntmps Try.f43.results.toList (bd Try.f43) (shq84.enc x).1 (shq84.enc x).2 (putS FS.dec rsq84) := by kernel_rfl
theorem okq84 : ∀ k, InstOk (call cf k) (Iq84 k)
 | 0 => fun x y e => absurd (show (none : Option _) = some y from e) (by simp)
 | k + 1 => inst_ok (c := cf) (k := k) (f := 43) (fn := Try.f43) (body := bd Try.f43) (sh := shq84) (os := rsq84) rfl Try.func43 rfl ⟨rfl, Nat.le_of_ble_eq_true rfl⟩ (COt_ok (alq84 k)) (anq84 k) (fun x => Fshuntref01_Small (k + 1) x) (stq84 k)

/-! shunt/shuntref01.trim -/
def Lshuntref01_trim_mfi_0s (k : Nat) (rec : Nat → Int → List Int → Option (Nat × Int × List Int)) (d : Nat) (n : Int) (ds : List Int) : Option (Nat × Int × List Int) :=
 if ((decide (n > (0 : Int))) = true) then
 if (((0 : Int) ≤ (IntKind.wrap .i64 (n - (1 : Int)))) ∧ ((IntKind.wrap .i64 (n - (1 : Int))) < ((d : Nat) : Int))) then
 Option.bind (ds)[(0 + (Int.toNat (IntKind.wrap .i64 (n - (1 : Int)))))]? fun x2 =>
 if ((x2 == (0 : Int)) = true) then
 rec d (IntKind.wrap .i64 (n - (1 : Int))) ds
 else
 (some (d, n, ds))
 else
 none
 else
 (some (d, n, ds))
def Lshuntref01_trim_mfi_0 (k n : Nat) : Nat → Int → List Int → Option (Nat × Int × List Int) := Nat.rec (fun _ _ _ => none) (fun _ r => Lshuntref01_trim_mfi_0s k r) n
def bshuntref01_trim_mfi (k : Nat) (d : Nat) (ds : List Int) : Option (Nat × List Int) :=
 Option.bind (Lshuntref01_trim_mfi_0 k k d ((d : Nat) : Int) ds) fun r8 =>
 if (((0 : Int) ≤ (0 : Int)) ∧ (((0 : Int) ≤ r8.2.1) ∧ (((0 + (Int.toNat r8.2.1)) ≤ (List.length r8.2.2)) ∧ (((0 : Int) < r8.2.1) ∨ (true = true))))) then
 (some ((Int.toNat r8.2.1), r8.2.2))
 else
 none
def Fshuntref01_trim_mfi : Nat → Nat → List Int → Option (Nat × List Int)
 | 0, _, _ => none
 | k + 1, d, ds => bshuntref01_trim_mfi k d ds
def shq91 : FS := { vs := [.a (.smz 0)], bs := [.arr (.int .i64) 1 3 false] }
def rsq91 : List FS := [{ vs := [.a (.smz 0)], bs := [.arr (.int .i64) 1 3 false] }]
def Iq91 (k : Nat) : Inst := ⟨82, shq91, rsq91, fun x => Fshuntref01_trim_mfi k x.1 x.2⟩
theorem alq91 (k : Nat) : AllI (call cf k) [] := True.intro
def hsq151 : List SS := [{ fr := [(0, .a (.smz 0)), (3, .a (.lf (.int .i64)))], mem := [(0, some (.arr (.int .i64) 1 3 false))], nx := 1 }]
def osq151 : List OS := [⟨some 0, { fr := [(0, .a (.smz 0)), (3, .a (.lf (.int .i64)))], mem := [(0, some (.arr (.int .i64) 1 3 false))], nx := 1 }⟩]
def LIq151 (k : Nat) : LInst := ⟨0, hsq151, osq151, fun x => Lshuntref01_trim_mfi_0 k k x.1 x.2.1 x.2.2⟩
theorem anq151 (k : Nat) : LAll (LOk (R := DS OS.D osq151) (fun b _ σ K => LOt Ty (kps 82) 1 b σ K []) cf (call cf k) (kps 82) Try.f82.ntmps k 1) 0 (lb Try.f82 0) :=
 qA (qA qT (qA qT qT)) qT
theorem stq151 (k n : Nat) (x : DS SS.D hsq151) : Lshuntref01_trim_mfi_0 k (n + 1) x.1 x.2.1 x.2.2 = encSK SS.enc (fun σ => run2 cf (fun f a b K => COt f a b K []) (fun b _ σ K => LOt Ty (kps 82) 1 b σ K []) Try.f82.ntmps 0 (lb Try.f82 0) σ (nextK Ty (kps 82 0) 1 hsq151 osq151 fun x => Lshuntref01_trim_mfi_0 k n x.1 x.2.1 x.2.2)) hsq151 x := by kernel_rfl
theorem loq151 (k : Nat) : LIOk cf (call cf k) (kps 82) Try.f82.ntmps k 1 0 (lb Try.f82 0) (LIq151 k) :=
 loop_ok (c := cf) (callF := call cf k) (kp := kps 82) (nt := Try.f82.ntmps) (k := k) (p := 1) (b := 0) (x0 := lb Try.f82 0) (hs := hsq151) (os := osq151) (COt_ok (alq91 k)) (anq151 k) (fun n x => Lshuntref01_trim_mfi_0 k n x.1 x.2.1 x.2.2) (fun _ => rfl) (stq151 k)
theorem anq91 (k : Nat) : LAll (LOk (R := DS FS.D rsq91) (fun b _ σ K => LOt Ty (kps 82) 1 b σ K [LIq151 k]) cf (call cf k) (cf.keep 82) Try.f82.ntmps k shq91.bs.length) 0 (bd Try.f82) :=
 qA qT (qA qT (qA (LOt_ok (c := cf) (callF := call cf k) (kp := kps 82) (nt := Try.f82.ntmps) (k := k) (p := 1) (b := 0) (x0 := lb Try.f82 0) (l := [LIq151 k]) (qA (fun _ => loq151 k) qT)) (qA qT qT)))
theorem stq91 (k : Nat) (x : shq91.D) : Fshuntref01_trim_mfi (k + 1) x.1 x.2 = body2 cf (fun f a b K => COt f a b K []) (fun b _ σ K => LOt Ty (kps 82) 1 b σ K [LIq151 k]) 82 Try.f82.ntmps Try.f82.results.toList (bd Try.f82) (shq91.enc x).1 (shq91.enc x).2 (putS FS.dec rsq91) := by kernel_rfl
theorem okq91 : ∀ k, InstOk (call cf k) (Iq91 k)
 | 0 => fun x y e => absurd (show (none : Option _) = some y from e) (by simp)
 | k + 1 => inst_ok (c := cf) (k := k) (f := 82) (fn := Try.f82) (body := bd Try.f82) (sh := shq91) (os := rsq91) rfl Try.func82 rfl ⟨rfl, Nat.le_of_ble_eq_true rfl⟩ (COt_ok (alq91 k)) (anq91 k) (fun x => Fshuntref01_trim_mfi (k + 1) x.1 x.2) (stq91 k)

/-! shunt/shuntref01.Times -/
def Lshuntref01_Times_2s (k : Nat) (rec : Nat → Int → Int → Int → Bool → List Int → Bool → List Int → Bool → Nat → List Int → List Int → Option (Nat × Int × Int × Bool × List Int × Bool × List Int × Bool × Nat × List Int × List Int)) (d : Nat) (i : Int) (carry : Int) (j : Int) (a0 : Bool) (a1 : List Int) (b0 : Bool) (b1 : List Int) (x0 : Bool) (x1 : Nat) (ds : List Int) (m : List Int) : Option (Nat × Int × Int × Bool × List Int × Bool × List Int × Bool × Nat × List Int × List Int) :=
 if ((decide (j < (((List.length b1) : Nat) : Int))) = true) then
 if (((0 : Int) ≤ (IntKind.wrap .i64 (i + j))) ∧ ((IntKind.wrap .i64 (i + j)) < ((d : Nat) : Int))) then
 Option.bind (ds)[(0 + (Int.toNat (IntKind.wrap .i64 (i + j))))]? fun x2 =>
 if ((0 : Int) ≤ i) then
 Option.bind (a1)[(Int.toNat i)]? fun x3 =>
 if ((0 : Int) ≤ j) then
 Option.bind (b1)[(Int.toNat j)]? fun x4 =>
 if (((0 : Int) ≤ (IntKind.wrap .i64 (i + j))) ∧ ((IntKind.wrap .i64 (i + j)) < ((d : Nat) : Int))) then
 Option.bind (ds)[(0 + (Int.toNat (IntKind.wrap .i64 (i + j))))]? fun x5 =>
 rec d i (IntKind.wrap .i64 (Int.tdiv (IntKind.wrap .i64 ((IntKind.wrap .i64 (x2 + (IntKind.wrap .i64 (x3 * x4)))) + carry)) (65536 : Int))) (IntKind.wrap .i64 (j + (1 : Int))) a0 a1 b0 b1 x0 x1 (List.set ds (0 + (Int.toNat (IntKind.wrap .i64 (i + j)))) (Int.tmod (IntKind.wrap .i64 ((IntKind.wrap .i64 (x2 + (IntKind.wrap .i64 (x3 * x4)))) + carry)) (65536 : Int))) m
 else
 none
 else
 none
 else
 none
 else
 none
 else
 (some (d, i, carry, a0, a1, b0, b1, x0, x1, ds, m))
def Lshuntref01_Times_2 (k n : Nat) : Nat → Int → Int → Int → Bool → List Int → Bool → List Int → Bool → Nat → List Int → List Int → Option (Nat × Int × Int × Bool × List Int × Bool × List Int × Bool × Nat × List Int × List Int) := Nat.rec (fun _ _ _ _ _ _ _ _ _ _ _ _ => none) (fun _ r => Lshuntref01_Times_2s k r) n
def Lshuntref01_Times_0s (k : Nat) (rec : Nat → Int → Bool → List Int → Bool → List Int → Bool → Nat → List Int → List Int → Option (Nat × Bool × List Int × Bool × List Int × Bool × Nat × List Int × List Int)) (d : Nat) (i : Int) (a0 : Bool) (a1 : List Int) (b0 : Bool) (b1 : List Int) (x0 : Bool) (x1 : Nat) (ds : List Int) (m : List Int) : Option (Nat × Bool × List Int × Bool × List Int × Bool × Nat × List Int × List Int) :=
 if ((decide (i < (((List.length a1) : Nat) : Int))) = true) then
 Option.bind (Lshuntref01_Times_2 k k d i (0 : Int) (0 : Int) a0 a1 b0 b1 x0 x1 ds m) fun r7 =>
 if (((0 : Int) ≤ (IntKind.wrap .i64 (r7.2.1 + (((List.length r7.2.2.2.2.2.2.1) : Nat) : Int)))) ∧ ((IntKind.wrap .i64 (r7.2.1 + (((List.length r7.2.2.2.2.2.2.1) : Nat) : Int))) < ((r7.1 : Nat) : Int))) then
 Option.bind (r7.2.2.2.2.2.2.2.2.2.1)[(0 + (Int.toNat (IntKind.wrap .i64 (r7.2.1 + (((List.length r7.2.2.2.2.2.2.1) : Nat) : Int)))))]? fun x2 =>
 if (((0 : Int) ≤ (IntKind.wrap .i64 (r7.2.1 + (((List.length r7.2.2.2.2.2.2.1) : Nat) : Int)))) ∧ ((IntKind.wrap .i64 (r7.2.1 + (((List.length r7.2.2.2.2.2.2.1) : Nat) : Int))) < ((r7.1 : Nat) : Int))) then
 Option.bind (r7.2.2.2.2.2.2.2.2.2.1)[(0 + (Int.toNat (IntKind.wrap .i64 (r7.2.1 + (((List.length r7.2.2.2.2.2.2.1) : Nat) : Int)))))]? fun x3 =>
 rec r7.1 (IntKind.wrap .i64 (r7.2.1 + (1 : Int))) r7.2.2.2.1 r7.2.2.2.2.1 r7.2.2.2.2.2.1 r7.2.2.2.2.2.2.1 r7.2.2.2.2.2.2.2.1 r7.2.2.2.2.2.2.2.2.1 (List.set r7.2.2.2.2.2.2.2.2.2.1 (0 + (Int.toNat (IntKind.wrap .i64 (r7.2.1 + (((List.length r7.2.2.2.2.2.2.1) : Nat) : Int))))) (IntKind.wrap .i64 (x2 + r7.2.2.1))) r7.2.2.2.2.2.2.2.2.2.2
 else
 none
 else
 none
 else
 (some (d, a0, a1, b0, b1, x0, x1, ds, m))
def Lshuntref01_Times_0 (k n : Nat) : Nat → Int → Bool → List Int → Bool → List Int → Bool → Nat → List Int → List Int → Option (Nat × Bool × List Int × Bool × List Int × Bool × Nat × List Int × List Int) := Nat.rec (fun _ _ _ _ _ _ _ _ _ _ => none) (fun _ r => Lshuntref01_Times_0s k r) n
def bshuntref01_Times (k : Nat) (a0 : Bool) (a1 : List Int) (b0 : Bool) (b1 : List Int) : Option (Bool × List Int) :=
 if (((0 : Int) ≤ (IntKind.wrap .i64 ((((List.length a1) : Nat) : Int) + (((List.length b1) : Nat) : Int)))) ∧ (((IntKind.wrap .i64 ((((List.length a1) : Nat) : Int) + (((List.length b1) : Nat) : Int))) ≤ (IntKind.wrap .i64 ((((List.length a1) : Nat) : Int) + (((List.length b1) : Nat) : Int)))) ∧ (((IntKind.wrap .i64 ((((List.length a1) : Nat) : Int) + (((List.length b1) : Nat) : Int))) * (8 : Int)) ≤ (140737488355328 : Int)))) then
 Option.bind (Lshuntref01_Times_0 k k (Int.toNat (IntKind.wrap .i64 ((((List.length a1) : Nat) : Int) + (((List.length b1) : Nat) : Int)))) (0 : Int) a0 a1 b0 b1 false 0 (List.replicate (Int.toNat (IntKind.wrap .i64 ((((List.length a1) : Nat) : Int) + (((List.length b1) : Nat) : Int)))) (0 : Int)) []) fun r7 =>
 Option.bind (Fshuntref01_trim_mfi k r7.1 r7.2.2.2.2.2.2.2.1) fun r8 =>
 if ((!(r7.2.1 == r7.2.2.2.1)) = true) then
 if ((0 + r8.1) ≤ (List.length r8.2)) then
 (some ((decide (((r8.1 : Nat) : Int) > (0 : Int))), (List.take r8.1 r8.2)))
 else
 none
 else
 if ((0 + r8.1) ≤ (List.length r8.2)) then
 (some (false, (List.take r8.1 r8.2)))
 else
 none
 else
 none
def Fshuntref01_Times : Nat → Bool → List Int → Bool → List Int → Option (Bool × List Int)
 | 0, _, _, _, _ => none
 | k + 1, a0, a1, b0, b1 => bshuntref01_Times k a0 a1 b0 b1
def shq85 : FS := { vs := [.g [.lf .bool, .lf (.sl (.int .i64))], .g [.lf .bool, .lf (.sl (.int .i64))]], bs := [] }
def rsq85 : List FS := [{ vs := [.g [.lf .bool, .lf (.sl (.int .i64))]], bs := [] }]
def Iq85 (k : Nat) : Inst := ⟨95, shq85, rsq85, fun x => Fshuntref01_Times k x.1 x.2.1 x.2.2.1 x.2.2.2⟩
theorem alq85 (k : Nat) : AllI (call cf k) [Iq91 k] := qA (okq91 k) qT
def hsq145 : List SS := [{ fr := [(2, .a (.ptr 0 0 0)), (3, .a (.ptr 1 0 0)), (4, .a (.ptr 2 0 0)), (5, .a (.smz 3)), (6, .a (.lf (.int .i64))), (7, .a (.lf (.int .i64))), (8, .a (.lf (.int .i64)))], mem := [(0, some (.raw [[.lf .bool, .lf (.sl (.int .i64))]] 2 77 true false)), (1, some (.raw [[.lf .bool, .lf (.sl (.int .i64))]] 2 77 true false)), (2, some (.raw [[.lf .bool, .smz 4]] 2 77 false false)), (3, some (.arr (.int .i64) 1 3 false)), (4, some (.arr (.int .i64) 1 3 false))], nx := 5 }]
def osq145 : List OS := [⟨some 2, { fr := [(2, .a (.ptr 0 0 0)), (3, .a (.ptr 1 0 0)), (4, .a (.ptr 2 0 0)), (5, .a (.smz 3)), (6, .a (.lf (.int .i64))), (7, .a (.lf (.int .i64)))], mem := [(0, some (.raw [[.lf .bool, .lf (.sl (.int .i64))]] 2 77 true false)), (1, some (.raw [[.lf .bool, .lf (.sl (.int .i64))]] 2 77 true false)), (2, some (.raw [[.lf .bool, .smz 4]] 2 77 false false)), (3, some (.arr (.int .i64) 1 3 false)), (4, some (.arr (.int .i64) 1 3 false))], nx := 5 }⟩]
def LIq145 (k : Nat) : LInst := ⟨2, hsq145, osq145, fun x => Lshuntref01_Times_2 k k x.1 x.2.1 x.2.2.1 x.2.2.2.1 x.2.2.2.2.1 x.2.2.2.2.2.1 x.2.2.2.2.2.2.1 x.2.2.2.2.2.2.2.1 x.2.2.2.2.2.2.2.2.1 x.2.2.2.2.2.2.2.2.2.1 x.2.2.2.2.2.2.2.2.2.2.1 x.2.2.2.2.2.2.2.2.2.2.2⟩
theorem anq145 (k : Nat) : LAll (LOk (R := DS OS.D osq145) (fun b _ σ K => LOt Ty (kps 95) 0 b σ K []) cf (call cf k) (kps 95) Try.f95.ntmps k 0) 2 (lb Try.f95 1) :=
 qA (qA qT (qA qT qT)) (qA (qA qT (qA qT qT)) qT)
theorem stq145 (k n : Nat) (x : DS SS.D hsq145) : Lshuntref01_Times_2 k (n + 1) x.1 x.2.1 x.2.2.1 x.2.2.2.1 x.2.2.2.2.1 x.2.2.2.2.2.1 x.2.2.2.2.2.2.1 x.2.2.2.2.2.2.2.1 x.2.2.2.2.2.2.2.2.1 x.2.2.2.2.2.2.2.2.2.1 x.2.2.2.2.2.2.2.2.2.2.1 x.2.2.2.2.2.2.2.2.2.2.2 = encSK SS.enc (fun σ => run2 cf (fun f a b K => COt f a b K [Iq91 k]) (fun b _ σ K => LOt Ty (kps 95) 0 b σ K []) Try.f95.ntmps 2 (lb Try.f95 1) σ (nextK Ty (kps 95 2) 0 hsq145 osq145 fun x => Lshuntref01_Times_2 k n x.1 x.2.1 x.2.2.1 x.2.2.2.1 x.2.2.2.2.1 x.2.2.2.2.2.1 x.2.2.2.2.2.2.1 x.2.2.2.2.2.2.2.1 x.2.2.2.2.2.2.2.2.1 x.2.2.2.2.2.2.2.2.2.1 x.2.2.2.2.2.2.2.2.2.2.1 x.2.2.2.2.2.2.2.2.2.2.2)) hsq145 x := by kernel_rfl
theorem loq145 (k : Nat) : LIOk cf (call cf k) (kps 95) Try.f95.ntmps k 0 2 (lb Try.f95 1) (LIq145 k) :=
 loop_ok (c := cf) (callF := call cf k) (kp := kps 95) (nt := Try.f95.ntmps) (k := k) (p := 0) (b := 2) (x0 := lb Try.f95 1) (hs := hsq145) (os := osq145) (COt_ok (alq85 k)) (anq145 k) (fun n x => Lshuntref01_Times_2 k n x.1 x.2.1 x.2.2.1 x.2.2.2.1 x.2.2.2.2.1 x.2.2.2.2.2.1 x.2.2.2.2.2.2.1 x.2.2.2.2.2.2.2.1 x.2.2.2.2.2.2.2.2.1 x.2.2.2.2.2.2.2.2.2.1 x.2.2.2.2.2.2.2.2.2.2.1 x.2.2.2.2.2.2.2.2.2.2.2) (fun _ => rfl) (stq145 k)
def hsq144 : List SS := [{ fr := [(2, .a (.ptr 0 0 0)), (3, .a (.ptr 1 0 0)), (4, .a (.ptr 2 0 0)), (5, .a (.smz 3)), (6, .a (.lf (.int .i64)))], mem := [(0, some (.raw [[.lf .bool, .lf (.sl (.int .i64))]] 2 77 true false)), (1, some (.raw [[.lf .bool, .lf (.sl (.int .i64))]] 2 77 true false)), (2, some (.raw [[.lf .bool, .smz 4]] 2 77 false false)), (3, some (.arr (.int .i64) 1 3 false)), (4, some (.arr (.int .i64) 1 3 false))], nx := 5 }]
def osq144 : List OS := [⟨some 0, { fr := [(2, .a (.ptr 0 0 0)), (3, .a (.ptr 1 0 0)), (4, .a (.ptr 2 0 0)), (5, .a (.smz 3))], mem := [(0, some (.raw [[.lf .bool, .lf (.sl (.int .i64))]] 2 77 true false)), (1, some (.raw [[.lf .bool, .lf (.sl (.int .i64))]] 2 77 true false)), (2, some (.raw [[.lf .bool, .smz 4]] 2 77 false false)), (3, some (.arr (.int .i64) 1 3 false)), (4, some (.arr (.int .i64) 1 3 false))], nx := 5 }⟩]
def LIq144 (k : Nat) : LInst := ⟨0, hsq144, osq144, fun x => Lshuntref01_Times_0 k k x.1 x.2.1 x.2.2.1 x.2.2.2.1 x.2.2.2.2.1 x.2.2.2.2.2.1 x.2.2.2.2.2.2.1 x.2.2.2.2.2.2.2.1 x.2.2.2.2.2.2.2.2.1 x.2.2.2.2.2.2.2.2.2⟩
theorem anq144 (k : Nat) : LAll (LOk (R := DS OS.D osq144) (fun b _ σ K => LOt Ty (kps 95) 0 b σ K [LIq145 k]) cf (call cf k) (kps 95) Try.f95.ntmps k 0) 0 (lb Try.f95 0) :=
 qA (qA qT (qA qT qT)) (qA (qA qT (qA (qA qT (LOt_ok (c := cf) (callF := call cf k) (kp := kps 95) (nt := Try.f95.ntmps) (k := k) (p := 0) (b := 2) (x0 := lb Try.f95 1) (l := [LIq145 k]) (qA (fun _ => loq145 k) qT))) qT)) qT)
theorem stq144 (k n : Nat) (x : DS SS.D hsq144) : Lshuntref01_Times_0 k (n + 1) x.1 x.2.1 x.2.2.1 x.2.2.2.1 x.2.2.2.2.1 x.2.2.2.2.2.1 x.2.2.2.2.2.2.1 x.2.2.2.2.2.2.2.1 x.2.2.2.2.2.2.2.2.1 x.2.2.2.2.2.2.2.2.2 = encSK SS.enc (fun σ => run2 cf (fun f a b K => COt f a b K [Iq91 k]) (fun b _ σ K => LOt Ty (kps 95) 0 b σ K [LIq145 k]) Try.f95.ntmps 0 (lb Try.f95 0) σ (nextK Ty (kps 95 0) 0 hsq144 osq144 fun x => Lshuntref01_Times_0 k n x.1 x.2.1 x.2.2.1 x.2.2.2.1 x.2.2.2.2.1 x.2.2.2.2.2.1 x.2.2.2.2.2.2.1 x.2.2.2.2.2.2.2.1 x.2.2.2.2.2.2.2.2.1 x.2.2.2.2.2.2.2.2.2)) hsq144 x := by kernel_rfl
theorem loq144 (k : Nat) : LIOk cf (call cf k) (kps 95) Try.f95.ntmps k 0 0 (lb Try.f95 0) (LIq144 k) :=
 loop_ok (c := cf) (callF := call cf k) (kp := kps 95) (nt := Try.f95.ntmps) (k := k) (p := 0) (b := 0) (x0 := lb Try.f95 0) (hs := hsq144) (os := osq144) (COt_ok (alq85 k)) (anq144 k) (fun n x => Lshuntref01_Times_0 k n x.1 x.2.1 x.2.2.1 x.2.2.2.1 x.2.2.2.2.1 x.2.2.2.2.2.1 x.2.2.2.2.2.2.1 x.2.2.2.2.2.2.2.1 x.2.2.2.2.2.2.2.2.1 x.2.2.2.2.2.2.2.2.2) (fun _ => rfl) (stq144 k)
theorem anq85 (k : Nat) : LAll (LOk (R := DS FS.D rsq85) (fun b _ σ K => LOt Ty (kps 95) 0 b σ K [LIq145 k, LIq144 k]) cf (call cf k) (cf.keep 95) Try.f95.ntmps k shq85.bs.length) 0 (bd Try.f95) :=
 qA qT (qA qT (qA (qA qT (LOt_ok (c := cf) (callF := call cf k) (kp := kps 95) (nt := Try.f95.ntmps) (k := k) (p := 0) (b := 0) (x0 := lb Try.f95 0) (l := [LIq145 k, LIq144 k]) (qA (fun h => absurd (show (2 : Nat) = 0 from h) (by decide)) (qA (fun _ => loq144 k) qT)))) (qA qT (qA qT qT))))
theorem stq85 (k : Nat) (x : shq85.D) : Fshuntref01_Times (k + 1) x.1 x.2.1 x.2.2.1 x.2.2.2 = body2 cf (fun f a b K => COt f a b K [Iq91 k]) (fun b _ σ K => LOt Ty (kps 95) 0 b σ K [LIq145 k, LIq144 k]) 95 Try.f95.ntmps Try.f95.results.toList (bd Try.f95) (shq85.enc x).1 (shq85.enc x).2 (putS FS.dec rsq85) := by kernel_rfl
theorem okq85 : ∀ k, InstOk (call cf k) (Iq85 k)
 | 0 => fun x y e => absurd (show (none : Option _) = some y from e) (by simp)
 | k + 1 => inst_ok (c := cf) (k := k) (f := 95) (fn := Try.f95) (body := bd Try.f95) (sh := shq85) (os := rsq85) rfl Try.func95 rfl ⟨rfl, Nat.le_of_ble_eq_true rfl⟩ (COt_ok (alq85 k)) (anq85 k) (fun x => Fshuntref01_Times (k + 1) x.1 x.2.1 x.2.2.1 x.2.2.2) (stq85 k)

/-! shunt/shuntref03.power -/
def Lshuntref03_power_0s (k : Nat) (rec : Int → Int → Bool → Nat → Bool → List Int → List Int → Option (Bool × Nat × Bool × List Int × List Int)) (k1 : Int) (i : Int) (x0 : Bool) (x1 : Nat) (p0 : Bool) (p1 : List Int) (m : List Int) : Option (Bool × Nat × Bool × List Int × List Int) :=
 if ((decide (i < k1)) = true) then
 Option.bind (Fshuntref01_Small k (10 : Int)) fun r6 =>
 Option.bind (Fshuntref01_Times k p0 p1 r6.1 r6.2) fun r7 =>
 rec k1 (IntKind.wrap .i64 (i + (1 : Int))) x0 x1 r7.1 r7.2 m
 else
 (some (x0, x1, p0, p1, m))
def Lshuntref03_power_0 (k n : Nat) : Int → Int → Bool → Nat → Bool → List Int → List Int → Option (Bool × Nat × Bool × List Int × List Int) := Nat.rec (fun _ _ _ _ _ _ _ => none) (fun _ r => Lshuntref03_power_0s k r) n
def bshuntref03_power (k : Nat) (k1 : Int) : Option (Bool × List Int) :=
 Option.bind (Fshuntref01_Small k (1 : Int)) fun r5 =>
 Option.bind (Lshuntref03_power_0 k k k1 (0 : Int) false 0 r5.1 r5.2 []) fun r6 =>
 (some (r6.2.2.1, r6.2.2.2.1))
def Fshuntref03_power : Nat → Int → Option (Bool × List Int)
 | 0, _ => none
 | k + 1, k1 => bshuntref03_power k k1
def shq97 : FS := { vs := [.a (.lf (.int .i64))], bs := [] }
def rsq97 : List FS := [{ vs := [.g [.lf .bool, .lf (.sl (.int .i64))]], bs := [] }]
def Iq97 (k : Nat) : Inst := ⟨98, shq97, rsq97, fun x => Fshuntref03_power k x⟩
theorem alq97 (k : Nat) : AllI (call cf k) [Iq84 k, Iq85 k] := qA (okq84 k) (qA (okq85 k) qT)
def hsq152 : List SS := [{ fr := [(0, .a (.lf (.int .i64))), (2, .a (.ptr 0 0 0)), (3, .a (.ptr 1 0 0)), (4, .a (.lf (.int .i64)))], mem := [(0, some (.raw [[.lf .bool, .smz 2]] 2 77 false false)), (1, some (.raw [[.lf .bool, .lf (.sl (.int .i64))]] 2 77 true false)), (2, some (.arr (.int .i64) 1 3 false))], nx := 3 }]
def osq152 : List OS := [⟨some 0, { fr := [(2, .a (.ptr 0 0 0)), (3, .a (.ptr 1 0 0))], mem := [(0, some (.raw [[.lf .bool, .smz 2]] 2 77 false false)), (1, some (.raw [[.lf .bool, .lf (.sl (.int .i64))]] 2 77 true false)), (2, some (.arr (.int .i64) 1 3 false))], nx := 3 }⟩]
def LIq152 (k : Nat) : LInst := ⟨0, hsq152, osq152, fun x => Lshuntref03_power_0 k k x.1 x.2.1 x.2.2.1 x.2.2.2.1 x.2.2.2.2.1 x.2.2.2.2.2.1 x.2.2.2.2.2.2⟩
theorem anq152 (k : Nat) : LAll (LOk (R := DS OS.D osq152) (fun b _ σ K => LOt Ty (kps 98) 0 b σ K []) cf (call cf k) (kps 98) Try.f98.ntmps k 0) 0 (lb Try.f98 0) :=
 qA (qA qT (qA qT qT)) (qA qT qT)
theorem stq152 (k n : Nat) (x : DS SS.D hsq152) : Lshuntref03_power_0 k (n + 1) x.1 x.2.1 x.2.2.1 x.2.2.2.1 x.2.2.2.2.1 x.2.2.2.2.2.1 x.2.2.2.2.2.2 = encSK SS.enc (fun σ => run2 cf (fun f a b K => COt f a b K [Iq84 k, Iq85 k]) (fun b _ σ K => LOt Ty (kps 98) 0 b σ K []) Try.f98.ntmps 0 (lb Try.f98 0) σ (nextK Ty (kps 98 0) 0 hsq152 osq152 fun x => Lshuntref03_power_0 k n x.1 x.2.1 x.2.2.1 x.2.2.2.1 x.2.2.2.2.1 x.2.2.2.2.2.1 x.2.2.2.2.2.2)) hsq152 x := by kernel_rfl
theorem loq152 (k : Nat) : LIOk cf (call cf k) (kps 98) Try.f98.ntmps k 0 0 (lb Try.f98 0) (LIq152 k) :=
 loop_ok (c := cf) (callF := call cf k) (kp := kps 98) (nt := Try.f98.ntmps) (k := k) (p := 0) (b := 0) (x0 := lb Try.f98 0) (hs := hsq152) (os := osq152) (COt_ok (alq97 k)) (anq152 k) (fun n x => Lshuntref03_power_0 k n x.1 x.2.1 x.2.2.1 x.2.2.2.1 x.2.2.2.2.1 x.2.2.2.2.2.1 x.2.2.2.2.2.2) (fun _ => rfl) (stq152 k)
theorem anq97 (k : Nat) : LAll (LOk (R := DS FS.D rsq97) (fun b _ σ K => LOt Ty (kps 98) 0 b σ K [LIq152 k]) cf (call cf k) (cf.keep 98) Try.f98.ntmps k shq97.bs.length) 0 (bd Try.f98) :=
 qA qT (qA qT (qA (qA qT (LOt_ok (c := cf) (callF := call cf k) (kp := kps 98) (nt := Try.f98.ntmps) (k := k) (p := 0) (b := 0) (x0 := lb Try.f98 0) (l := [LIq152 k]) (qA (fun _ => loq152 k) qT))) (qA qT qT)))
theorem stq97 (k : Nat) (x : shq97.D) : Fshuntref03_power (k + 1) x = body2 cf (fun f a b K => COt f a b K [Iq84 k, Iq85 k]) (fun b _ σ K => LOt Ty (kps 98) 0 b σ K [LIq152 k]) 98 Try.f98.ntmps Try.f98.results.toList (bd Try.f98) (shq97.enc x).1 (shq97.enc x).2 (putS FS.dec rsq97) := by kernel_rfl
theorem okq97 : ∀ k, InstOk (call cf k) (Iq97 k)
 | 0 => fun x y e => absurd (show (none : Option _) = some y from e) (by simp)
 | k + 1 => inst_ok (c := cf) (k := k) (f := 98) (fn := Try.f98) (body := bd Try.f98) (sh := shq97) (os := rsq97) rfl Try.func98 rfl ⟨rfl, Nat.le_of_ble_eq_true rfl⟩ (COt_ok (alq97 k)) (anq97 k) (fun x => Fshuntref03_power (k + 1) x) (stq97 k)

/-! shunt/shuntref01.Sign -/
def bshuntref01_Sign (k : Nat) (a0 : Bool) (a1 : List Int) : Option (Int) :=
 if (((((List.length a1) : Nat) : Int) == (0 : Int)) = true) then
 (some (0 : Int))
 else
 if (a0 = true) then
 (some (-(1 : Int)))
 else
 (some (1 : Int))
def Fshuntref01_Sign : Nat → Bool → List Int → Option (Int)
 | 0, _, _ => none
 | k + 1, a0, a1 => bshuntref01_Sign k a0 a1
def shq83 : FS := { vs := [.g [.lf .bool, .lf (.sl (.int .i64))]], bs := [] }
def rsq83 : List FS := [{ vs := [.a (.lf (.int .i64))], bs := [] }]
def Iq83 (k : Nat) : Inst := ⟨78, shq83, rsq83, fun x => Fshuntref01_Sign k x.1 x.2⟩
theorem alq83 (k : Nat) : AllI (call cf k) [] := True.intro
theorem anq83 (k : Nat) : LAll (LOk (R := DS FS.D rsq83) (fun b _ σ K => LOt Ty (kps 78) 0 b σ K []) cf (call cf k) (cf.keep 78) Try.f78.ntmps k shq83.bs.length) 0 (bd Try.f78) :=
 qA qT (qA (qA qT (qA (qA qT qT) qT)) (qA (qA qT (qA (qA qT qT) qT)) (qA qT qT)))
theorem stq83 (k : Nat) (x : shq83.D) : Fshuntref01_Sign (k + 1) x.1 x.2 = body2 cf (fun f a b K => COt f a b K []) (fun b _ σ K => LOt Ty (kps 78) 0 b σ K []) 78 Try.f78.ntmps Try.f78.results.toList (bd Try.f78) (shq83.enc x).1 (shq83.enc x).2 (putS FS.dec rsq83) := by kernel_rfl
theorem okq83 : ∀ k, InstOk (call cf k) (Iq83 k)
 | 0 => fun x y e => absurd (show (none : Option _) = some y from e) (by simp)
 | k + 1 => inst_ok (c := cf) (k := k) (f := 78) (fn := Try.f78) (body := bd Try.f78) (sh := shq83) (os := rsq83) rfl Try.func78 rfl ⟨rfl, Nat.le_of_ble_eq_true rfl⟩ (COt_ok (alq83 k)) (anq83 k) (fun x => Fshuntref01_Sign (k + 1) x.1 x.2) (stq83 k)

/-! shunt/shuntref01.Minus -/
def bshuntref01_Minus (k : Nat) (a0 : Bool) (a1 : List Int) : Option (Bool × List Int) :=
 if (((((List.length a1) : Nat) : Int) == (0 : Int)) = true) then
 (some (false, []))
 else
 (some ((!a0), a1))
def Fshuntref01_Minus : Nat → Bool → List Int → Option (Bool × List Int)
 | 0, _, _ => none
 | k + 1, a0, a1 => bshuntref01_Minus k a0 a1
def shq80 : FS := { vs := [.g [.lf .bool, .lf (.sl (.int .i64))]], bs := [] }
def rsq80 : List FS := [{ vs := [.g [.lf .bool, .lf (.sl (.int .i64))]], bs := [] }]
def Iq80 (k : Nat) : Inst := ⟨105, shq80, rsq80, fun x => Fshuntref01_Minus k x.1 x.2⟩
theorem alq80 (k : Nat) : AllI (call cf k) [] := True.intro
theorem anq80 (k : Nat) : LAll (LOk (R := DS FS.D rsq80) (fun b _ σ K => LOt Ty (kps 105) 0 b σ K []) cf (call cf k) (cf.keep 105) Try.f105.ntmps k shq80.bs.length) 0 (bd Try.f105) :=
 qA qT (qA (qA qT (qA (qA qT qT) qT)) (qA qT qT))
theorem stq80 (k : Nat) (x : shq80.D) : Fshuntref01_Minus (k + 1) x.1 x.2 = body2 cf (fun f a b K => COt f a b K []) (fun b _ σ K => LOt Ty (kps 105) 0 b σ K []) 105 Try.f105.ntmps Try.f105.results.toList (bd Try.f105) (shq80.enc x).1 (shq80.enc x).2 (putS FS.dec rsq80) := by kernel_rfl
theorem okq80 : ∀ k, InstOk (call cf k) (Iq80 k)
 | 0 => fun x y e => absurd (show (none : Option _) = some y from e) (by simp)
 | k + 1 => inst_ok (c := cf) (k := k) (f := 105) (fn := Try.f105) (body := bd Try.f105) (sh := shq80) (os := rsq80) rfl Try.func105 rfl ⟨rfl, Nat.le_of_ble_eq_true rfl⟩ (COt_ok (alq80 k)) (anq80 k) (fun x => Fshuntref01_Minus (k + 1) x.1 x.2) (stq80 k)

/-! shunt/shuntref01.Abs -/
def bshuntref01_Abs (k : Nat) (a0 : Bool) (a1 : List Int) : Option (Bool × List Int) :=
 (some (false, a1))
def Fshuntref01_Abs : Nat → Bool → List Int → Option (Bool × List Int)
 | 0, _, _ => none
 | k + 1, a0, a1 => bshuntref01_Abs k a0 a1
def shq75 : FS := { vs := [.g [.lf .bool, .lf (.sl (.int .i64))]], bs := [] }
def rsq75 : List FS := [{ vs := [.g [.lf .bool, .lf (.sl (.int .i64))]], bs := [] }]
def Iq75 (k : Nat) : Inst := ⟨80, shq75, rsq75, fun x => Fshuntref01_Abs k x.1 x.2⟩
theorem alq75 (k : Nat) : AllI (call cf k) [] := True.intro
theorem anq75 (k : Nat) : LAll (LOk (R := DS FS.D rsq75) (fun b _ σ K => LOt Ty (kps 80) 0 b σ K []) cf (call cf k) (cf.keep 80) Try.f80.ntmps k shq75.bs.length) 0 (bd Try.f80) :=
 qA qT (qA qT qT)
theorem stq75 (k : Nat) (x : shq75.D) : Fshuntref01_Abs (k + 1) x.1 x.2 = body2 cf (fun f a b K => COt f a b K []) (fun b _ σ K => LOt Ty (kps 80) 0 b σ K []) 80 Try.f80.ntmps Try.f80.results.toList (bd Try.f80) (shq75.enc x).1 (shq75.enc x).2 (putS FS.dec rsq75) := by kernel_rfl
theorem okq75 : ∀ k, InstOk (call cf k) (Iq75 k)
 | 0 => fun x y e => absurd (show (none : Option _) = some y from e) (by simp)
 | k + 1 => inst_ok (c := cf) (k := k) (f := 80) (fn := Try.f80) (body := bd Try.f80) (sh := shq75) (os := rsq75) rfl Try.func80 rfl ⟨rfl, Nat.le_of_ble_eq_true rfl⟩ (COt_ok (alq75 k)) (anq75 k) (fun x => Fshuntref01_Abs (k + 1) x.1 x.2) (stq75 k)

/-! shunt/shuntref01.mags -/
def Lshuntref01_mags_0s (k : Nat) (rec : List Int → List Int → Int → Option ((Int) ⊕ (Unit))) (a : List Int) (b : List Int) (i : Int) : Option ((Int) ⊕ (Unit)) :=
 if ((decide (i ≥ (0 : Int))) = true) then
 if ((0 : Int) ≤ i) then
 Option.bind (a)[(Int.toNat i)]? fun x3 =>
 if ((0 : Int) ≤ i) then
 Option.bind (b)[(Int.toNat i)]? fun x4 =>
 if ((decide (x3 < x4)) = true) then
 (some (Sum.inl (-(1 : Int))))
 else
 if ((0 : Int) ≤ i) then
 Option.bind (a)[(Int.toNat i)]? fun x5 =>
 if ((0 : Int) ≤ i) then
 Option.bind (b)[(Int.toNat i)]? fun x6 =>
 if ((decide (x5 > x6)) = true) then
 (some (Sum.inl (1 : Int)))
 else
 rec a b (IntKind.wrap .i64 (i - (1 : Int)))
 else
 none
 else
 none
 else
 none
 else
 none
 else
 (some (Sum.inr ()))
def Lshuntref01_mags_0 (k n : Nat) : List Int → List Int → Int → Option ((Int) ⊕ (Unit)) := Nat.rec (fun _ _ _ => none) (fun _ r => Lshuntref01_mags_0s k r) n
def bshuntref01_mags (k : Nat) (a : List Int) (b : List Int) : Option (Int) :=
 if (((((List.length a) : Nat) : Int) != (((List.length b) : Nat) : Int)) = true) then
 if ((decide ((((List.length a) : Nat) : Int) < (((List.length b) : Nat) : Int))) = true) then
 (some (-(1 : Int)))
 else
 (some (1 : Int))
 else
 Option.bind (Lshuntref01_mags_0 k k a b (IntKind.wrap .i64 ((((List.length a) : Nat) : Int) - (1 : Int)))) fun r12 =>
 eitherK r12
 (fun r12 =>
 (some r12))
 (fun r12 =>
 (some (0 : Int)))
def Fshuntref01_mags : Nat → List Int → List Int → Option (Int)
 | 0, _, _ => none
 | k + 1, a, b => bshuntref01_mags k a b
def shq88 : FS := { vs := [.a (.lf (.sl (.int .i64))), .a (.lf (.sl (.int .i64)))], bs := [] }
def rsq88 : List FS := [{ vs := [.a (.lf (.int .i64))], bs := [] }]
def Iq88 (k : Nat) : Inst := ⟨120, shq88, rsq88, fun x => Fshuntref01_mags k x.1 x.2⟩
theorem alq88 (k : Nat) : AllI (call cf k) [] := True.intro
def hsq148 : List SS := [{ fr := [(0, .a (.lf (.sl (.int .i64)))), (1, .a (.lf (.sl (.int .i64)))), (5, .a (.lf (.int .i64)))], mem := [], nx := 0 }]
def osq148 : List OS := [⟨none, { fr := [(4, .a (.lf (.int .i64)))], mem := [], nx := 0 }⟩, ⟨some 0, { fr := [], mem := [], nx := 0 }⟩]
def LIq148 (k : Nat) : LInst := ⟨0, hsq148, osq148, fun x => Lshuntref01_mags_0 k k x.1 x.2.1 x.2.2⟩
theorem anq148 (k : Nat) : LAll (LOk (R := DS OS.D osq148) (fun b _ σ K => LOt Ty (kps 120) 0 b σ K []) cf (call cf k) (kps 120) Try.f120.ntmps k 0) 0 (lb Try.f120 0) :=
 qA (qA qT (qA qT qT)) (qA (qA (qA qT (qA (qA qT qT) qT)) (qA qT (qA (qA qT qT) qT))) qT)
theorem stq148 (k n : Nat) (x : DS SS.D hsq148) : Lshuntref01_mags_0 k (n + 1) x.1 x.2.1 x.2.2 = encSK SS.enc (fun σ => run2 cf (fun f a b K => COt f a b K []) (fun b _ σ K => LOt Ty (kps 120) 0 b σ K []) Try.f120.ntmps 0 (lb Try.f120 0) σ (nextK Ty (kps 120 0) 0 hsq148 osq148 fun x => Lshuntref01_mags_0 k n x.1 x.2.1 x.2.2)) hsq148 x := by kernel_rfl
theorem loq148 (k : Nat) : LIOk cf (call cf k) (kps 120) Try.f120.ntmps k 0 0 (lb Try.f120 0) (LIq148 k) :=
 loop_ok (c := cf) (callF := call cf k) (kp := kps 120) (nt := Try.f120.ntmps) (k := k) (p := 0) (b := 0) (x0 := lb Try.f120 0) (hs := hsq148) (os := osq148) (COt_ok (alq88 k)) (anq148 k) (fun n x => Lshuntref01_mags_0 k n x.1 x.2.1 x.2.2) (fun _ => rfl) (stq148 k)
theorem anq88 (k : Nat) : LAll (LOk (R := DS FS.D rsq88) (fun b _ σ K => LOt Ty (kps 120) 0 b σ K [LIq148 k]) cf (call cf k) (cf.keep 120) Try.f120.ntmps k shq88.bs.length) 0 (bd Try.f120) :=
 qA qT (qA (qA qT (qA (qA (qA qT (qA (qA qT qT) qT)) (qA qT qT)) qT)) (qA (qA qT (LOt_ok (c := cf) (callF := call cf k) (kp := kps 120) (nt := Try.f120.ntmps) (k := k) (p := 0) (b := 0) (x0 := lb Try.f120 0) (l := [LIq148 k]) (qA (fun _ => loq148 k) qT))) (qA qT qT)))
theorem stq88 (k : Nat) (x : shq88.D) : Fshuntref01_mags (k + 1) x.1 x.2 = body2 cf (fun f a b K => COt f a b K []) (fun b _ σ K => LOt Ty (kps 120) 0 b σ K [LIq148 k]) 120 Try.f120.ntmps Try.f120.results.toList (bd Try.f120) (shq88.enc x).1 (shq88.enc x).2 (putS FS.dec rsq88) := by kernel_rfl
theorem okq88 : ∀ k, InstOk (call cf k) (Iq88 k)
 | 0 => fun x y e => absurd (show (none : Option _) = some y from e) (by simp)
 | k + 1 => inst_ok (c := cf) (k := k) (f := 120) (fn := Try.f120) (body := bd Try.f120) (sh := shq88) (os := rsq88) rfl Try.func120 rfl ⟨rfl, Nat.le_of_ble_eq_true rfl⟩ (COt_ok (alq88 k)) (anq88 k) (fun x => Fshuntref01_mags (k + 1) x.1 x.2) (stq88 k)

/-! shunt/shuntref01.digit -/
def Lshuntref01_digit_0s (k : Nat) (rec : List Int → List Int → Int → Int → Option (Int)) (r : List Int) (b : List Int) (low : Int) (high : Int) : Option (Int) :=
 if ((decide (low < high)) = true) then
 Option.bind (Fshuntref01_Small k (IntKind.wrap .i64 (Int.tdiv (IntKind.wrap .i64 ((IntKind.wrap .i64 (low + high)) + (1 : Int))) (2 : Int)))) fun r13 =>
 Option.bind (Fshuntref01_Times k false b r13.1 r13.2) fun r14 =>
 Option.bind (Fshuntref01_mags k r14.2 r) fun r15 =>
 if ((decide (r15 ≤ (0 : Int))) = true) then
 rec r b (IntKind.wrap .i64 (Int.tdiv (IntKind.wrap .i64 ((IntKind.wrap .i64 (low + high)) + (1 : Int))) (2 : Int))) high
 else
 rec r b low (IntKind.wrap .i64 ((IntKind.wrap .i64 (Int.tdiv (IntKind.wrap .i64 ((IntKind.wrap .i64 (low + high)) + (1 : Int))) (2 : Int))) - (1 : Int)))
 else
 (some low)
def Lshuntref01_digit_0 (k n : Nat) : List Int → List Int → Int → Int → Option (Int) := Nat.rec (fun _ _ _ _ => none) (fun _ r => Lshuntref01_digit_0s k r) n
def bshuntref01_digit (k : Nat) (r : List Int) (b : List Int) : Option (Int) :=
 Option.bind (Fshuntref01_mags k r b) fun r12 =>
 if ((decide (r12 < (0 : Int))) = true) then
 (some (0 : Int))
 else
 Option.bind (Lshuntref01_digit_0 k k r b (0 : Int) (65535 : Int)) fun r13 =>
 (some r13)
def Fshuntref01_digit : Nat → List Int → List Int → Option (Int)
 | 0, _, _ => none
 | k + 1, r, b => bshuntref01_digit k r b
def shq87 : FS := { vs := [.a (.lf (.sl (.int .i64))), .a (.lf (.sl (.int .i64)))], bs := [] }
def rsq87 : List FS := [{ vs := [.a (.lf (.int .i64))], bs := [] }]
def Iq87 (k : Nat) : Inst := ⟨106, shq87, rsq87, fun x => Fshuntref01_digit k x.1 x.2⟩
theorem alq87 (k : Nat) : AllI (call cf k) [Iq88 k, Iq84 k, Iq85 k] := qA (okq88 k) (qA (okq84 k) (qA (okq85 k) qT))
def hsq147 : List SS := [{ fr := [(0, .a (.lf (.sl (.int .i64)))), (1, .a (.lf (.sl (.int .i64)))), (5, .a (.lf (.int .i64))), (6, .a (.lf (.int .i64)))], mem := [], nx := 0 }]
def osq147 : List OS := [⟨some 0, { fr := [(5, .a (.lf (.int .i64)))], mem := [], nx := 0 }⟩]
def LIq147 (k : Nat) : LInst := ⟨0, hsq147, osq147, fun x => Lshuntref01_digit_0 k k x.1 x.2.1 x.2.2.1 x.2.2.2⟩
theorem anq147 (k : Nat) : LAll (LOk (R := DS OS.D osq147) (fun b _ σ K => LOt Ty (kps 106) 0 b σ K []) cf (call cf k) (kps 106) Try.f106.ntmps k 0) 0 (lb Try.f106 0) :=
 qA (qA qT (qA qT qT)) (qA qT (qA qT (qA qT qT)))
theorem stq147 (k n : Nat) (x : DS SS.D hsq147) : Lshuntref01_digit_0 k (n + 1) x.1 x.2.1 x.2.2.1 x.2.2.2 = encSK SS.enc (fun σ => run2 cf (fun f a b K => COt f a b K [Iq88 k, Iq84 k, Iq85 k]) (fun b _ σ K => LOt Ty (kps 106) 0 b σ K []) Try.f106.ntmps 0 (lb Try.f106 0) σ (nextK Ty (kps 106 0) 0 hsq147 osq147 fun x => Lshuntref01_digit_0 k n x.1 x.2.1 x.2.2.1 x.2.2.2)) hsq147 x := by kernel_rfl
theorem loq147 (k : Nat) : LIOk cf (call cf k) (kps 106) Try.f106.ntmps k 0 0 (lb Try.f106 0) (LIq147 k) :=
 loop_ok (c := cf) (callF := call cf k) (kp := kps 106) (nt := Try.f106.ntmps) (k := k) (p := 0) (b := 0) (x0 := lb Try.f106 0) (hs := hsq147) (os := osq147) (COt_ok (alq87 k)) (anq147 k) (fun n x => Lshuntref01_digit_0 k n x.1 x.2.1 x.2.2.1 x.2.2.2) (fun _ => rfl) (stq147 k)
theorem anq87 (k : Nat) : LAll (LOk (R := DS FS.D rsq87) (fun b _ σ K => LOt Ty (kps 106) 0 b σ K [LIq147 k]) cf (call cf k) (cf.keep 106) Try.f106.ntmps k shq87.bs.length) 0 (bd Try.f106) :=
 qA qT (qA qT (qA (qA qT (qA (qA qT qT) qT)) (qA (LOt_ok (c := cf) (callF := call cf k) (kp := kps 106) (nt := Try.f106.ntmps) (k := k) (p := 0) (b := 0) (x0 := lb Try.f106 0) (l := [LIq147 k]) (qA (fun _ => loq147 k) qT)) (qA qT qT))))
theorem stq87 (k : Nat) (x : shq87.D) : Fshuntref01_digit (k + 1) x.1 x.2 = body2 cf (fun f a b K => COt f a b K [Iq88 k, Iq84 k, Iq85 k]) (fun b _ σ K => LOt Ty (kps 106) 0 b σ K [LIq147 k]) 106 Try.f106.ntmps Try.f106.results.toList (bd Try.f106) (shq87.enc x).1 (shq87.enc x).2 (putS FS.dec rsq87) := by kernel_rfl
theorem okq87 : ∀ k, InstOk (call cf k) (Iq87 k)
 | 0 => fun x y e => absurd (show (none : Option _) = some y from e) (by simp)
 | k + 1 => inst_ok (c := cf) (k := k) (f := 106) (fn := Try.f106) (body := bd Try.f106) (sh := shq87) (os := rsq87) rfl Try.func106 rfl ⟨rfl, Nat.le_of_ble_eq_true rfl⟩ (COt_ok (alq87 k)) (anq87 k) (fun x => Fshuntref01_digit (k + 1) x.1 x.2) (stq87 k)

/-! shunt/shuntref01.minus -/
def Lshuntref01_minus_0s (k : Nat) (rec : List Int → List Int → Nat → Int → Int → List Int → Option (Nat × List Int)) (a : List Int) (b : List Int) (d : Nat) (borrow : Int) (i : Int) (ds : List Int) : Option (Nat × List Int) :=
 if ((decide (i < (((List.length a) : Nat) : Int))) = true) then
 if ((0 : Int) ≤ i) then
 Option.bind (a)[(Int.toNat i)]? fun x3 =>
 if ((decide (i < (((List.length b) : Nat) : Int))) = true) then
 if ((0 : Int) ≤ i) then
 Option.bind (b)[(Int.toNat i)]? fun x4 =>
 if ((decide ((IntKind.wrap .i64 ((IntKind.wrap .i64 (x3 - borrow)) - x4)) < (0 : Int))) = true) then
 if (d ≤ (List.length ds)) then
 if (((d + (List.length (List.take 1 ((IntKind.wrap .i64 ((IntKind.wrap .i64 ((IntKind.wrap .i64 (x3 - borrow)) - x4)) + (65536 : Int))) :: [])))) * 8) ≤ 140737488355328) then
 rec a b (d + (List.length (List.take 1 ((IntKind.wrap .i64 ((IntKind.wrap .i64 ((IntKind.wrap .i64 (x3 - borrow)) - x4)) + (65536 : Int))) :: [])))) (1 : Int) (IntKind.wrap .i64 (i + (1 : Int))) ((List.take d ds) ++ (List.take 1 ((IntKind.wrap .i64 ((IntKind.wrap .i64 ((IntKind.wrap .i64 (x3 - borrow)) - x4)) + (65536 : Int))) :: [])))
 else
 none
 else
 none
 else
 if (d ≤ (List.length ds)) then
 if (((d + (List.length (List.take 1 ((IntKind.wrap .i64 ((IntKind.wrap .i64 (x3 - borrow)) - x4)) :: [])))) * 8) ≤ 140737488355328) then
 rec a b (d + (List.length (List.take 1 ((IntKind.wrap .i64 ((IntKind.wrap .i64 (x3 - borrow)) - x4)) :: [])))) (0 : Int) (IntKind.wrap .i64 (i + (1 : Int))) ((List.take d ds) ++ (List.take 1 ((IntKind.wrap .i64 ((IntKind.wrap .i64 (x3 - borrow)) - x4)) :: [])))
 else
 none
 else
 none
 else
 none
 else
 if ((decide ((IntKind.wrap .i64 (x3 - borrow)) < (0 : Int))) = true) then
 if (d ≤ (List.length ds)) then
 if (((d + (List.length (List.take 1 ((IntKind.wrap .i64 ((IntKind.wrap .i64 (x3 - borrow)) + (65536 : Int))) :: [])))) * 8) ≤ 140737488355328) then
 rec a b (d + (List.length (List.take 1 ((IntKind.wrap .i64 ((IntKind.wrap .i64 (x3 - borrow)) + (65536 : Int))) :: [])))) (1 : Int) (IntKind.wrap .i64 (i + (1 : Int))) ((List.take d ds) ++ (List.take 1 ((IntKind.wrap .i64 ((IntKind.wrap .i64 (x3 - borrow)) + (65536 : Int))) :: [])))
 else
 none
 else
 none
 else
 if (d ≤ (List.length ds)) then
 if (((d + (List.length (List.take 1 ((IntKind.wrap .i64 (x3 - borrow)) :: [])))) * 8) ≤ 140737488355328) then
 rec a b (d + (List.length (List.take 1 ((IntKind.wrap .i64 (x3 - borrow)) :: [])))) (0 : Int) (IntKind.wrap .i64 (i + (1 : Int))) ((List.take d ds) ++ (List.take 1 ((IntKind.wrap .i64 (x3 - borrow)) :: [])))
 else
 none
 else
 none
 else
 none
 else
 (some (d, ds))
def Lshuntref01_minus_0 (k n : Nat) : List Int → List Int → Nat → Int → Int → List Int → Option (Nat × List Int) := Nat.rec (fun _ _ _ _ _ _ => none) (fun _ r => Lshuntref01_minus_0s k r) n
def bshuntref01_minus (k : Nat) (a : List Int) (b : List Int) : Option (List Int) :=
 Option.bind (Lshuntref01_minus_0 k k a b 0 (0 : Int) (0 : Int) []) fun r15 =>
 Option.bind (Fshuntref01_trim_mfi k r15.1 r15.2) fun r16 =>
 if ((0 + r16.1) ≤ (List.length r16.2)) then
 (some (List.take r16.1 r16.2))
 else
 none
def Fshuntref01_minus : Nat → List Int → List Int → Option (List Int)
 | 0, _, _ => none
 | k + 1, a, b => bshuntref01_minus k a b
def shq89 : FS := { vs := [.a (.lf (.sl (.int .i64))), .a (.lf (.sl (.int .i64)))], bs := [] }
def rsq89 : List FS := [{ vs := [.a (.lf (.sl (.int .i64)))], bs := [] }]
def Iq89 (k : Nat) : Inst := ⟨107, shq89, rsq89, fun x => Fshuntref01_minus k x.1 x.2⟩
theorem alq89 (k : Nat) : AllI (call cf k) [Iq91 k] := qA (okq91 k) qT
def hsq149 : List SS := [{ fr := [(0, .a (.lf (.sl (.int .i64)))), (1, .a (.lf (.sl (.int .i64)))), (5, .a (.smz 0)), (6, .a (.lf (.int .i64))), (7, .a (.lf (.int .i64)))], mem := [(0, some (.arr (.int .i64) 1 3 false))], nx := 1 }]
def osq149 : List OS := [⟨some 0, { fr := [(5, .a (.smz 0))], mem := [(0, some (.arr (.int .i64) 1 3 false))], nx := 1 }⟩]
def LIq149 (k : Nat) : LInst := ⟨0, hsq149, osq149, fun x => Lshuntref01_minus_0 k k x.1 x.2.1 x.2.2.1 x.2.2.2.1 x.2.2.2.2.1 x.2.2.2.2.2⟩
theorem anq149 (k : Nat) : LAll (LOk (R := DS OS.D osq149) (fun b _ σ K => LOt Ty (kps 107) 0 b σ K []) cf (call cf k) (kps 107) Try.f107.ntmps k 0) 0 (lb Try.f107 0) :=
 qA (qA qT (qA qT qT)) (qA (qA qT (qA (qA qT (qA qT qT)) (qA qT (qA (qA qT (qA (qA qT qT) qT)) qT)))) qT)
theorem stq149 (k n : Nat) (x : DS SS.D hsq149) : Lshuntref01_minus_0 k (n + 1) x.1 x.2.1 x.2.2.1 x.2.2.2.1 x.2.2.2.2.1 x.2.2.2.2.2 = encSK SS.enc (fun σ => run2 cf (fun f a b K => COt f a b K [Iq91 k]) (fun b _ σ K => LOt Ty (kps 107) 0 b σ K []) Try.f107.ntmps 0 (lb Try.f107 0) σ (nextK Ty (kps 107 0) 0 hsq149 osq149 fun x => Lshuntref01_minus_0 k n x.1 x.2.1 x.2.2.1 x.2.2.2.1 x.2.2.2.2.1 x.2.2.2.2.2)) hsq149 x := by kernel_rfl
theorem loq149 (k : Nat) : LIOk cf (call cf k) (kps 107) Try.f107.ntmps k 0 0 (lb Try.f107 0) (LIq149 k) :=
 loop_ok (c := cf) (callF := call cf k) (kp := kps 107) (nt := Try.f107.ntmps) (k := k) (p := 0) (b := 0) (x0 := lb Try.f107 0) (hs := hsq149) (os := osq149) (COt_ok (alq89 k)) (anq149 k) (fun n x => Lshuntref01_minus_0 k n x.1 x.2.1 x.2.2.1 x.2.2.2.1 x.2.2.2.2.1 x.2.2.2.2.2) (fun _ => rfl) (stq149 k)
theorem anq89 (k : Nat) : LAll (LOk (R := DS FS.D rsq89) (fun b _ σ K => LOt Ty (kps 107) 0 b σ K [LIq149 k]) cf (call cf k) (cf.keep 107) Try.f107.ntmps k shq89.bs.length) 0 (bd Try.f107) :=
 qA qT (qA qT (qA qT (qA (qA qT (LOt_ok (c := cf) (callF := call cf k) (kp := kps 107) (nt := Try.f107.ntmps) (k := k) (p := 0) (b := 0) (x0 := lb Try.f107 0) (l := [LIq149 k]) (qA (fun _ => loq149 k) qT))) (qA qT qT))))
theorem stq89 (k : Nat) (x : shq89.D) : Fshuntref01_minus (k + 1) x.1 x.2 = body2 cf (fun f a b K => COt f a b K [Iq91 k]) (fun b _ σ K => LOt Ty (kps 107) 0 b σ K [LIq149 k]) 107 Try.f107.ntmps Try.f107.results.toList (bd Try.f107) (shq89.enc x).1 (shq89.enc x).2 (putS FS.dec rsq89) := by kernel_rfl
theorem okq89 : ∀ k, InstOk (call cf k) (Iq89 k)
 | 0 => fun x y e => absurd (show (none : Option _) = some y from e) (by simp)
 | k + 1 => inst_ok (c := cf) (k := k) (f := 107) (fn := Try.f107) (body := bd Try.f107) (sh := shq89) (os := rsq89) rfl Try.func107 rfl ⟨rfl, Nat.le_of_ble_eq_true rfl⟩ (COt_ok (alq89 k)) (anq89 k) (fun x => Fshuntref01_minus (k + 1) x.1 x.2) (stq89 k)

/-! shunt/shuntref01.Divide -/
def Lshuntref01_Divide_0s (k : Nat) (rec : ((Nat × Nat × Int × Bool × List Int × Bool × List Int × Bool × Nat × Bool × Nat × List Int × List Int × List Int × List Int) ⊕ (Nat × List Int × Int × Bool × List Int × Bool × List Int × Bool × Nat × Bool × Nat × List Int × List Int × List Int)) → Option ((Nat × Nat × Bool × List Int × Bool × List Int × Bool × Nat × Bool × Nat × List Int × List Int × List Int × List Int) ⊕ (Nat × List Int × Bool × List Int × Bool × List Int × Bool × Nat × Bool × Nat × List Int × List Int × List Int))) (x : (Nat × Nat × Int × Bool × List Int × Bool × List Int × Bool × Nat × Bool × Nat × List Int × List Int × List Int × List Int) ⊕ (Nat × List Int × Int × Bool × List Int × Bool × List Int × Bool × Nat × Bool × Nat × List Int × List Int × List Int)) : Option ((Nat × Nat × Bool × List Int × Bool × List Int × Bool × Nat × Bool × Nat × List Int × List Int × List Int × List Int) ⊕ (Nat × List Int × Bool × List Int × Bool × List Int × Bool × Nat × Bool × Nat × List Int × List Int × List Int)) :=
 eitherK x
 (fun x =>
 if ((decide (x.2.2.1 ≥ (0 : Int))) = true) then
 if ((0 : Int) ≤ x.2.2.1) then
 Option.bind (x.2.2.2.2.1)[(Int.toNat x.2.2.1)]? fun x2 =>
 if ((0 + x.2.1) ≤ (List.length x.2.2.2.2.2.2.2.2.2.2.2.2.1)) then
 if (((1 + (List.length (List.take x.2.1 x.2.2.2.2.2.2.2.2.2.2.2.2.1))) * 8) ≤ 140737488355328) then
 Option.bind (Fshuntref01_trim_mfi k (1 + (List.length (List.take x.2.1 x.2.2.2.2.2.2.2.2.2.2.2.2.1))) ((List.take 1 (x2 :: [])) ++ (List.take x.2.1 x.2.2.2.2.2.2.2.2.2.2.2.2.1))) fun r11 =>
 if ((0 + r11.1) ≤ (List.length r11.2)) then
 Option.bind (Fshuntref01_digit k (List.take r11.1 r11.2) x.2.2.2.2.2.2.1) fun r12 =>
 if ((decide (r12 > (0 : Int))) = true) then
 Option.bind (Fshuntref01_Small k r12) fun r13 =>
 Option.bind (Fshuntref01_Times k false x.2.2.2.2.2.2.1 r13.1 r13.2) fun r14 =>
 if ((0 + r11.1) ≤ (List.length r11.2)) then
 Option.bind (Fshuntref01_minus k (List.take r11.1 r11.2) r14.2) fun r15 =>
 if (((0 : Int) ≤ x.2.2.1) ∧ (x.2.2.1 < ((x.1 : Nat) : Int))) then
 Option.bind (x.2.2.2.2.2.2.2.2.2.2.2.1)[(0 + (Int.toNat x.2.2.1))]? fun x3 =>
 rec (Sum.inr (x.1, r15, (IntKind.wrap .i64 (x.2.2.1 - (1 : Int))), x.2.2.2.1, x.2.2.2.2.1, x.2.2.2.2.2.1, x.2.2.2.2.2.2.1, x.2.2.2.2.2.2.2.1, x.2.2.2.2.2.2.2.2.1, x.2.2.2.2.2.2.2.2.2.1, x.2.2.2.2.2.2.2.2.2.2.1, (List.set x.2.2.2.2.2.2.2.2.2.2.2.1 (0 + (Int.toNat x.2.2.1)) r12), x.2.2.2.2.2.2.2.2.2.2.2.2.2.1, x.2.2.2.2.2.2.2.2.2.2.2.2.2.2))
 else
 none
 else
 none
 else
 if (((0 : Int) ≤ x.2.2.1) ∧ (x.2.2.1 < ((x.1 : Nat) : Int))) then
 Option.bind (x.2.2.2.2.2.2.2.2.2.2.2.1)[(0 + (Int.toNat x.2.2.1))]? fun x3 =>
 rec (Sum.inl (x.1, r11.1, (IntKind.wrap .i64 (x.2.2.1 - (1 : Int))), x.2.2.2.1, x.2.2.2.2.1, x.2.2.2.2.2.1, x.2.2.2.2.2.2.1, x.2.2.2.2.2.2.2.1, x.2.2.2.2.2.2.2.2.1, x.2.2.2.2.2.2.2.2.2.1, x.2.2.2.2.2.2.2.2.2.2.1, (List.set x.2.2.2.2.2.2.2.2.2.2.2.1 (0 + (Int.toNat x.2.2.1)) r12), r11.2, x.2.2.2.2.2.2.2.2.2.2.2.2.2.1, x.2.2.2.2.2.2.2.2.2.2.2.2.2.2))
 else
 none
 else
 none
 else
 none
 else
 none
 else
 none
 else
 (some (Sum.inl (x.1, x.2.1, x.2.2.2.1, x.2.2.2.2.1, x.2.2.2.2.2.1, x.2.2.2.2.2.2.1, x.2.2.2.2.2.2.2.1, x.2.2.2.2.2.2.2.2.1, x.2.2.2.2.2.2.2.2.2.1, x.2.2.2.2.2.2.2.2.2.2.1, x.2.2.2.2.2.2.2.2.2.2.2.1, x.2.2.2.2.2.2.2.2.2.2.2.2.1, x.2.2.2.2.2.2.2.2.2.2.2.2.2.1, x.2.2.2.2.2.2.2.2.2.2.2.2.2.2))))
 (fun x =>
 if ((decide (x.2.2.1 ≥ (0 : Int))) = true) then
 if ((0 : Int) ≤ x.2.2.1) then
 Option.bind (x.2.2.2.2.1)[(Int.toNat x.2.2.1)]? fun x2 =>
 if (((1 + (List.length x.2.1)) * 8) ≤ 140737488355328) then
 Option.bind (Fshuntref01_trim_mfi k (1 + (List.length x.2.1)) ((List.take 1 (x2 :: [])) ++ x.2.1)) fun r11 =>
 if ((0 + r11.1) ≤ (List.length r11.2)) then
 Option.bind (Fshuntref01_digit k (List.take r11.1 r11.2) x.2.2.2.2.2.2.1) fun r12 =>
 if ((decide (r12 > (0 : Int))) = true) then
 Option.bind (Fshuntref01_Small k r12) fun r13 =>
 Option.bind (Fshuntref01_Times k false x.2.2.2.2.2.2.1 r13.1 r13.2) fun r14 =>
 if ((0 + r11.1) ≤ (List.length r11.2)) then
 Option.bind (Fshuntref01_minus k (List.take r11.1 r11.2) r14.2) fun r15 =>
 if (((0 : Int) ≤ x.2.2.1) ∧ (x.2.2.1 < ((x.1 : Nat) : Int))) then
 Option.bind (x.2.2.2.2.2.2.2.2.2.2.2.1)[(0 + (Int.toNat x.2.2.1))]? fun x3 =>
 rec (Sum.inr (x.1, r15, (IntKind.wrap .i64 (x.2.2.1 - (1 : Int))), x.2.2.2.1, x.2.2.2.2.1, x.2.2.2.2.2.1, x.2.2.2.2.2.2.1, x.2.2.2.2.2.2.2.1, x.2.2.2.2.2.2.2.2.1, x.2.2.2.2.2.2.2.2.2.1, x.2.2.2.2.2.2.2.2.2.2.1, (List.set x.2.2.2.2.2.2.2.2.2.2.2.1 (0 + (Int.toNat x.2.2.1)) r12), x.2.2.2.2.2.2.2.2.2.2.2.2.1, x.2.2.2.2.2.2.2.2.2.2.2.2.2))
 else
 none
 else
 none
 else
 if (((0 : Int) ≤ x.2.2.1) ∧ (x.2.2.1 < ((x.1 : Nat) : Int))) then
 Option.bind (x.2.2.2.2.2.2.2.2.2.2.2.1)[(0 + (Int.toNat x.2.2.1))]? fun x3 =>
 rec (Sum.inl (x.1, r11.1, (IntKind.wrap .i64 (x.2.2.1 - (1 : Int))), x.2.2.2.1, x.2.2.2.2.1, x.2.2.2.2.2.1, x.2.2.2.2.2.2.1, x.2.2.2.2.2.2.2.1, x.2.2.2.2.2.2.2.2.1, x.2.2.2.2.2.2.2.2.2.1, x.2.2.2.2.2.2.2.2.2.2.1, (List.set x.2.2.2.2.2.2.2.2.2.2.2.1 (0 + (Int.toNat x.2.2.1)) r12), r11.2, x.2.2.2.2.2.2.2.2.2.2.2.2.1, x.2.2.2.2.2.2.2.2.2.2.2.2.2))
 else
 none
 else
 none
 else
 none
 else
 none
 else
 (some (Sum.inr (x.1, x.2.1, x.2.2.2.1, x.2.2.2.2.1, x.2.2.2.2.2.1, x.2.2.2.2.2.2.1, x.2.2.2.2.2.2.2.1, x.2.2.2.2.2.2.2.2.1, x.2.2.2.2.2.2.2.2.2.1, x.2.2.2.2.2.2.2.2.2.2.1, x.2.2.2.2.2.2.2.2.2.2.2.1, x.2.2.2.2.2.2.2.2.2.2.2.2.1, x.2.2.2.2.2.2.2.2.2.2.2.2.2))))
def Lshuntref01_Divide_0 (k n : Nat) : ((Nat × Nat × Int × Bool × List Int × Bool × List Int × Bool × Nat × Bool × Nat × List Int × List Int × List Int × List Int) ⊕ (Nat × List Int × Int × Bool × List Int × Bool × List Int × Bool × Nat × Bool × Nat × List Int × List Int × List Int)) → Option ((Nat × Nat × Bool × List Int × Bool × List Int × Bool × Nat × Bool × Nat × List Int × List Int × List Int × List Int) ⊕ (Nat × List Int × Bool × List Int × Bool × List Int × Bool × Nat × Bool × Nat × List Int × List Int × List Int)) := Nat.rec (fun _ => none) (fun _ r => Lshuntref01_Divide_0s k r) n
def bshuntref01_Divide (k : Nat) (a0 : Bool) (a1 : List Int) (b0 : Bool) (b1 : List Int) : Option (Bool × List Int × Bool × List Int) :=
 if (((0 : Int) ≤ (((List.length a1) : Nat) : Int)) ∧ (((((List.length a1) : Nat) : Int) ≤ (((List.length a1) : Nat) : Int)) ∧ (((((List.length a1) : Nat) : Int) * (8 : Int)) ≤ (140737488355328 : Int)))) then
 Option.bind (Lshuntref01_Divide_0 k k (Sum.inl ((Int.toNat (((List.length a1) : Nat) : Int)), 0, (IntKind.wrap .i64 ((((List.length a1) : Nat) : Int) - (1 : Int))), a0, a1, b0, b1, false, 0, false, 0, (List.replicate (Int.toNat (((List.length a1) : Nat) : Int)) (0 : Int)), [], [], []))) fun r11 =>
 eitherK r11
 (fun r11 =>
 Option.bind (Fshuntref01_trim_mfi k r11.1 r11.2.2.2.2.2.2.2.2.2.2.1) fun r12 =>
 if ((!(r11.2.2.1 == r11.2.2.2.2.1)) = true) then
 if (r11.2.2.1 = true) then
 if ((0 + r12.1) ≤ (List.length r12.2)) then
 if ((0 + r11.2.1) ≤ (List.length r11.2.2.2.2.2.2.2.2.2.2.2.1)) then
 (some ((decide (((r12.1 : Nat) : Int) > (0 : Int))), (List.take r12.1 r12.2), (decide (((r11.2.1 : Nat) : Int) > (0 : Int))), (List.take r11.2.1 r11.2.2.2.2.2.2.2.2.2.2.2.1)))
 else
 none
 else
 none
 else
 if ((0 + r12.1) ≤ (List.length r12.2)) then
 if ((0 + r11.2.1) ≤ (List.length r11.2.2.2.2.2.2.2.2.2.2.2.1)) then
 (some ((decide (((r12.1 : Nat) : Int) > (0 : Int))), (List.take r12.1 r12.2), false, (List.take r11.2.1 r11.2.2.2.2.2.2.2.2.2.2.2.1)))
 else
 none
 else
 none
 else
 if (r11.2.2.1 = true) then
 if ((0 + r12.1) ≤ (List.length r12.2)) then
 if ((0 + r11.2.1) ≤ (List.length r11.2.2.2.2.2.2.2.2.2.2.2.1)) then
 (some (false, (List.take r12.1 r12.2), (decide (((r11.2.1 : Nat) : Int) > (0 : Int))), (List.take r11.2.1 r11.2.2.2.2.2.2.2.2.2.2.2.1)))
 else
 none
 else
 none
 else
 if ((0 + r12.1) ≤ (List.length r12.2)) then
 if ((0 + r11.2.1) ≤ (List.length r11.2.2.2.2.2.2.2.2.2.2.2.1)) then
 (some (false, (List.take r12.1 r12.2), false, (List.take r11.2.1 r11.2.2.2.2.2.2.2.2.2.2.2.1)))
 else
 none
 else
 none)
 (fun r11 =>
 Option.bind (Fshuntref01_trim_mfi k r11.1 r11.2.2.2.2.2.2.2.2.2.2.1) fun r12 =>
 if ((!(r11.2.2.1 == r11.2.2.2.2.1)) = true) then
 if (r11.2.2.1 = true) then
 if ((0 + r12.1) ≤ (List.length r12.2)) then
 (some ((decide (((r12.1 : Nat) : Int) > (0 : Int))), (List.take r12.1 r12.2), (decide ((((List.length r11.2.1) : Nat) : Int) > (0 : Int))), r11.2.1))
 else
 none
 else
 if ((0 + r12.1) ≤ (List.length r12.2)) then
 (some ((decide (((r12.1 : Nat) : Int) > (0 : Int))), (List.take r12.1 r12.2), false, r11.2.1))
 else
 none
 else
 if (r11.2.2.1 = true) then
 if ((0 + r12.1) ≤ (List.length r12.2)) then
 (some (false, (List.take r12.1 r12.2), (decide ((((List.length r11.2.1) : Nat) : Int) > (0 : Int))), r11.2.1))
 else
 none
 else
 if ((0 + r12.1) ≤ (List.length r12.2)) then
 (some (false, (List.take r12.1 r12.2), false, r11.2.1))
 else
 none)
 else
 none
def Fshuntref01_Divide : Nat → Bool → List Int → Bool → List Int → Option (Bool × List Int × Bool × List Int)
 | 0, _, _, _, _ => none
 | k + 1, a0, a1, b0, b1 => bshuntref01_Divide k a0 a1 b0 b1
def shq77 : FS := { vs := [.g [.lf .bool, .lf (.sl (.int .i64))], .g [.lf .bool, .lf (.sl (.int .i64))]], bs := [] }
def rsq77 : List FS := [{ vs := [.g [.lf .bool, .lf (.sl (.int .i64))], .g [.lf .bool, .lf (.sl (.int .i64))]], bs := [] }]
def Iq77 (k : Nat) : Inst := ⟨81, shq77, rsq77, fun x => Fshuntref01_Divide k x.1 x.2.1 x.2.2.1 x.2.2.2⟩
theorem alq77 (k : Nat) : AllI (call cf k) [Iq91 k, Iq87 k, Iq84 k, Iq85 k, Iq89 k] := qA (okq91 k) (qA (okq87 k) (qA (okq84 k) (qA (okq85 k) (qA (okq89 k) qT))))
def hsq141 : List SS := [{ fr := [(2, .a (.ptr 0 0 0)), (3, .a (.ptr 1 0 0)), (4, .a (.ptr 2 0 0)), (5, .a (.ptr 3 0 0)), (6, .a (.smz 4)), (7, .a (.smz 5)), (8, .a (.lf (.int .i64)))], mem := [(0, some (.raw [[.lf .bool, .lf (.sl (.int .i64))]] 2 77 true false)), (1, some (.raw [[.lf .bool, .lf (.sl (.int .i64))]] 2 77 true false)), (2, some (.raw [[.lf .bool, .smz 6]] 2 77 false false)), (3, some (.raw [[.lf .bool, .smz 7]] 2 77 false false)), (4, some (.arr (.int .i64) 1 3 false)), (5, some (.arr (.int .i64) 1 3 false)), (6, some (.arr (.int .i64) 1 3 false)), (7, some (.arr (.int .i64) 1 3 false))], nx := 8 }, { fr := [(2, .a (.ptr 0 0 0)), (3, .a (.ptr 1 0 0)), (4, .a (.ptr 2 0 0)), (5, .a (.ptr 3 0 0)), (6, .a (.smz 4)), (7, .a (.lf (.sl (.int .i64)))), (8, .a (.lf (.int .i64)))], mem := [(0, some (.raw [[.lf .bool, .lf (.sl (.int .i64))]] 2 77 true false)), (1, some (.raw [[.lf .bool, .lf (.sl (.int .i64))]] 2 77 true false)), (2, some (.raw [[.lf .bool, .smz 5]] 2 77 false false)), (3, some (.raw [[.lf .bool, .smz 6]] 2 77 false false)), (4, some (.arr (.int .i64) 1 3 false)), (5, some (.arr (.int .i64) 1 3 false)), (6, some (.arr (.int .i64) 1 3 false))], nx := 7 }]
def osq141 : List OS := [⟨some 0, { fr := [(2, .a (.ptr 0 0 0)), (3, .a (.ptr 1 0 0)), (4, .a (.ptr 2 0 0)), (5, .a (.ptr 3 0 0)), (6, .a (.smz 4)), (7, .a (.smz 5))], mem := [(0, some (.raw [[.lf .bool, .lf (.sl (.int .i64))]] 2 77 true false)), (1, some (.raw [[.lf .bool, .lf (.sl (.int .i64))]] 2 77 true false)), (2, some (.raw [[.lf .bool, .smz 6]] 2 77 false false)), (3, some (.raw [[.lf .bool, .smz 7]] 2 77 false false)), (4, some (.arr (.int .i64) 1 3 false)), (5, some (.arr (.int .i64) 1 3 false)), (6, some (.arr (.int .i64) 1 3 false)), (7, some (.arr (.int .i64) 1 3 false))], nx := 8 }⟩, ⟨some 0, { fr := [(2, .a (.ptr 0 0 0)), (3, .a (.ptr 1 0 0)), (4, .a (.ptr 2 0 0)), (5, .a (.ptr 3 0 0)), (6, .a (.smz 4)), (7, .a (.lf (.sl (.int .i64))))], mem := [(0, some (.raw [[.lf .bool, .lf (.sl (.int .i64))]] 2 77 true false)), (1, some (.raw [[.lf .bool, .lf (.sl (.int .i64))]] 2 77 true false)), (2, some (.raw [[.lf .bool, .smz 5]] 2 77 false false)), (3, some (.raw [[.lf .bool, .smz 6]] 2 77 false false)), (4, some (.arr (.int .i64) 1 3 false)), (5, some (.arr (.int .i64) 1 3 false)), (6, some (.arr (.int .i64) 1 3 false))], nx := 7 }⟩]
def LIq141 (k : Nat) : LInst := ⟨0, hsq141, osq141, fun x => Lshuntref01_Divide_0 k k x⟩
theorem anq141 (k : Nat) : LAll (LOk (R := DS OS.D osq141) (fun b _ σ K => LOt Ty (kps 81) 0 b σ K []) cf (call cf k) (kps 81) Try.f81.ntmps k 0) 0 (lb Try.f81 0) :=
 qA (qA qT (qA qT qT)) (qA (qA qT (qA qT (qA qT (qA (qA qT (qA qT qT)) qT)))) qT)
theorem stq141 (k n : Nat) (x : DS SS.D hsq141) : Lshuntref01_Divide_0 k (n + 1) x = encSK SS.enc (fun σ => run2 cf (fun f a b K => COt f a b K [Iq91 k, Iq87 k, Iq84 k, Iq85 k, Iq89 k]) (fun b _ σ K => LOt Ty (kps 81) 0 b σ K []) Try.f81.ntmps 0 (lb Try.f81 0) σ (nextK Ty (kps 81 0) 0 hsq141 osq141 fun x => Lshuntref01_Divide_0 k n x)) hsq141 x := by kernel_rfl
theorem loq141 (k : Nat) : LIOk cf (call cf k) (kps 81) Try.f81.ntmps k 0 0 (lb Try.f81 0) (LIq141 k) :=
 loop_ok (c := cf) (callF := call cf k) (kp := kps 81) (nt := Try.f81.ntmps) (k := k) (p := 0) (b := 0) (x0 := lb Try.f81 0) (hs := hsq141) (os := osq141) (COt_ok (alq77 k)) (anq141 k) (fun n x => Lshuntref01_Divide_0 k n x) (fun _ => rfl) (stq141 k)
theorem anq77 (k : Nat) : LAll (LOk (R := DS FS.D rsq77) (fun b _ σ K => LOt Ty (kps 81) 0 b σ K [LIq141 k]) cf (call cf k) (cf.keep 81) Try.f81.ntmps k shq77.bs.length) 0 (bd Try.f81) :=
 qA qT (qA qT (qA qT (qA (qA qT (LOt_ok (c := cf) (callF := call cf k) (kp := kps 81) (nt := Try.f81.ntmps) (k := k) (p := 0) (b := 0) (x0 := lb Try.f81 0) (l := [LIq141 k]) (qA (fun _ => loq141 k) qT))) (qA qT (qA qT qT)))))
theorem stq77 (k : Nat) (x : shq77.D) : Fshuntref01_Divide (k + 1) x.1 x.2.1 x.2.2.1 x.2.2.2 = body2 cf (fun f a b K => COt f a b K [Iq91 k, Iq87 k, Iq84 k, Iq85 k, Iq89 k]) (fun b _ σ K => LOt Ty (kps 81) 0 b σ K [LIq141 k]) 81 Try.f81.ntmps Try.f81.results.toList (bd Try.f81) (shq77.enc x).1 (shq77.enc x).2 (putS FS.dec rsq77) := by kernel_rfl
theorem okq77 : ∀ k, InstOk (call cf k) (Iq77 k)
 | 0 => fun x y e => absurd (show (none : Option _) = some y from e) (by simp)
 | k + 1 => inst_ok (c := cf) (k := k) (f := 81) (fn := Try.f81) (body := bd Try.f81) (sh := shq77) (os := rsq77) rfl Try.func81 rfl ⟨rfl, Nat.le_of_ble_eq_true rfl⟩ (COt_ok (alq77 k)) (anq77 k) (fun x => Fshuntref01_Divide (k + 1) x.1 x.2.1 x.2.2.1 x.2.2.2) (stq77 k)

/-! shunt/shuntref01.Common -/
def Lshuntref01_Common_0s (k : Nat) (rec : Bool → List Int → Bool → List Int → Bool → Nat → List Int → Option (Bool × List Int × Bool × List Int × Bool × Nat × List Int)) (a0 : Bool) (a1 : List Int) (b0 : Bool) (b1 : List Int) (x0 : Bool) (x1 : Nat) (m : List Int) : Option (Bool × List Int × Bool × List Int × Bool × Nat × List Int) :=
 if ((decide ((((List.length b1) : Nat) : Int) > (0 : Int))) = true) then
 Option.bind (Fshuntref01_Divide k a0 a1 b0 b1) fun r11 =>
 rec b0 b1 r11.2.2.1 r11.2.2.2 x0 x1 m
 else
 (some (a0, a1, b0, b1, x0, x1, m))
def Lshuntref01_Common_0 (k n : Nat) : Bool → List Int → Bool → List Int → Bool → Nat → List Int → Option (Bool × List Int × Bool × List Int × Bool × Nat × List Int) := Nat.rec (fun _ _ _ _ _ _ _ => none) (fun _ r => Lshuntref01_Common_0s k r) n
def bshuntref01_Common (k : Nat) (a0 : Bool) (a1 : List Int) (b0 : Bool) (b1 : List Int) : Option (Bool × List Int) :=
 Option.bind (Fshuntref01_Abs k a0 a1) fun r9 =>
 Option.bind (Fshuntref01_Abs k b0 b1) fun r10 =>
 Option.bind (Lshuntref01_Common_0 k k r9.1 r9.2 r10.1 r10.2 false 0 []) fun r11 =>
 (some (r11.1, r11.2.1))
def Fshuntref01_Common : Nat → Bool → List Int → Bool → List Int → Option (Bool × List Int)
 | 0, _, _, _, _ => none
 | k + 1, a0, a1, b0, b1 => bshuntref01_Common k a0 a1 b0 b1
def shq76 : FS := { vs := [.g [.lf .bool, .lf (.sl (.int .i64))], .g [.lf .bool, .lf (.sl (.int .i64))]], bs := [] }
def rsq76 : List FS := [{ vs := [.g [.lf .bool, .lf (.sl (.int .i64))]], bs := [] }]
def Iq76 (k : Nat) : Inst := ⟨41, shq76, rsq76, fun x => Fshuntref01_Common k x.1 x.2.1 x.2.2.1 x.2.2.2⟩
theorem alq76 (k : Nat) : AllI (call cf k) [Iq75 k, Iq77 k] := qA (okq75 k) (qA (okq77 k) qT)
def hsq140 : List SS := [{ fr := [(2, .a (.ptr 0 0 0)), (3, .a (.ptr 1 0 0)), (4, .a (.ptr 2 0 0))], mem := [(0, some (.raw [[.lf .bool, .lf (.sl (.int .i64))]] 2 77 true false)), (1, some (.raw [[.lf .bool, .lf (.sl (.int .i64))]] 2 77 true false)), (2, some (.raw [[.lf .bool, .smz 3]] 2 77 false false)), (3, some (.arr (.int .i64) 1 3 false))], nx := 4 }]
def osq140 : List OS := [⟨some 0, { fr := [(2, .a (.ptr 0 0 0)), (4, .a (.ptr 2 0 0))], mem := [(0, some (.raw [[.lf .bool, .lf (.sl (.int .i64))]] 2 77 true false)), (1, some (.raw [[.lf .bool, .lf (.sl (.int .i64))]] 2 77 true false)), (2, some (.raw [[.lf .bool, .smz 3]] 2 77 false false)), (3, some (.arr (.int .i64) 1 3 false))], nx := 4 }⟩]
def LIq140 (k : Nat) : LInst := ⟨0, hsq140, osq140, fun x => Lshuntref01_Common_0 k k x.1 x.2.1 x.2.2.1 x.2.2.2.1 x.2.2.2.2.1 x.2.2.2.2.2.1 x.2.2.2.2.2.2⟩
theorem anq140 (k : Nat) : LAll (LOk (R := DS OS.D osq140) (fun b _ σ K => LOt Ty (kps 41) 0 b σ K []) cf (call cf k) (kps 41) Try.f41.ntmps k 0) 0 (lb Try.f41 0) :=
 qA (qA qT (qA qT qT)) (qA qT qT)
theorem stq140 (k n : Nat) (x : DS SS.D hsq140) : Lshuntref01_Common_0 k (n + 1) x.1 x.2.1 x.2.2.1 x.2.2.2.1 x.2.2.2.2.1 x.2.2.2.2.2.1 x.2.2.2.2.2.2 = encSK SS.enc (fun σ => run2 cf (fun f a b K => COt f a b K [Iq75 k, Iq77 k]) (fun b _ σ K => LOt Ty (kps 41) 0 b σ K []) Try.f41.ntmps 0 (lb Try.f41 0) σ (nextK Ty (kps 41 0) 0 hsq140 osq140 fun x => Lshuntref01_Common_0 k n x.1 x.2.1 x.2.2.1 x.2.2.2.1 x.2.2.2.2.1 x.2.2.2.2.2.1 x.2.2.2.2.2.2)) hsq140 x := by kernel_rfl
theorem loq140 (k : Nat) : LIOk cf (call cf k) (kps 41) Try.f41.ntmps k 0 0 (lb Try.f41 0) (LIq140 k) :=
 loop_ok (c := cf) (callF := call cf k) (kp := kps 41) (nt := Try.f41.ntmps) (k := k) (p := 0) (b := 0) (x0 := lb Try.f41 0) (hs := hsq140) (os := osq140) (COt_ok (alq76 k)) (anq140 k) (fun n x => Lshuntref01_Common_0 k n x.1 x.2.1 x.2.2.1 x.2.2.2.1 x.2.2.2.2.1 x.2.2.2.2.2.1 x.2.2.2.2.2.2) (fun _ => rfl) (stq140 k)
theorem anq76 (k : Nat) : LAll (LOk (R := DS FS.D rsq76) (fun b _ σ K => LOt Ty (kps 41) 0 b σ K [LIq140 k]) cf (call cf k) (cf.keep 41) Try.f41.ntmps k shq76.bs.length) 0 (bd Try.f41) :=
 qA qT (qA qT (qA (LOt_ok (c := cf) (callF := call cf k) (kp := kps 41) (nt := Try.f41.ntmps) (k := k) (p := 0) (b := 0) (x0 := lb Try.f41 0) (l := [LIq140 k]) (qA (fun _ => loq140 k) qT)) (qA qT qT)))
theorem stq76 (k : Nat) (x : shq76.D) : Fshuntref01_Common (k + 1) x.1 x.2.1 x.2.2.1 x.2.2.2 = body2 cf (fun f a b K => COt f a b K [Iq75 k, Iq77 k]) (fun b _ σ K => LOt Ty (kps 41) 0 b σ K [LIq140 k]) 41 Try.f41.ntmps Try.f41.results.toList (bd Try.f41) (shq76.enc x).1 (shq76.enc x).2 (putS FS.dec rsq76) := by kernel_rfl
theorem okq76 : ∀ k, InstOk (call cf k) (Iq76 k)
 | 0 => fun x y e => absurd (show (none : Option _) = some y from e) (by simp)
 | k + 1 => inst_ok (c := cf) (k := k) (f := 41) (fn := Try.f41) (body := bd Try.f41) (sh := shq76) (os := rsq76) rfl Try.func41 rfl ⟨rfl, Nat.le_of_ble_eq_true rfl⟩ (COt_ok (alq76 k)) (anq76 k) (fun x => Fshuntref01_Common (k + 1) x.1 x.2.1 x.2.2.1 x.2.2.2) (stq76 k)

/-! shunt/shuntref02.Lowest -/
def bshuntref02_Lowest (k : Nat) (num0 : Bool) (num1 : List Int) (den0 : Bool) (den1 : List Int) : Option (Bool × List Int × Bool × List Int) :=
 Option.bind (Fshuntref01_Sign k den0 den1) fun r6 =>
 if ((decide (r6 < (0 : Int))) = true) then
 Option.bind (Fshuntref01_Minus k num0 num1) fun r7 =>
 Option.bind (Fshuntref01_Minus k den0 den1) fun r8 =>
 Option.bind (Fshuntref01_Common k r7.1 r7.2 r8.1 r8.2) fun r9 =>
 Option.bind (Fshuntref01_Divide k r7.1 r7.2 r9.1 r9.2) fun r10 =>
 Option.bind (Fshuntref01_Divide k r8.1 r8.2 r9.1 r9.2) fun r11 =>
 (some (r10.1, r10.2.1, r11.1, r11.2.1))
 else
 Option.bind (Fshuntref01_Common k num0 num1 den0 den1) fun r7 =>
 Option.bind (Fshuntref01_Divide k num0 num1 r7.1 r7.2) fun r8 =>
 Option.bind (Fshuntref01_Divide k den0 den1 r7.1 r7.2) fun r9 =>
 (some (r8.1, r8.2.1, r9.1, r9.2.1))
def Fshuntref02_Lowest : Nat → Bool → List Int → Bool → List Int → Option (Bool × List Int × Bool × List Int)
 | 0, _, _, _, _ => none
 | k + 1, num0, num1, den0, den1 => bshuntref02_Lowest k num0 num1 den0 den1
def shq93 : FS := { vs := [.g [.lf .bool, .lf (.sl (.int .i64))], .g [.lf .bool, .lf (.sl (.int .i64))]], bs := [] }
def rsq93 : List FS := [{ vs := [.g [.lf .bool, .lf (.sl (.int .i64)), .lf .bool, .lf (.sl (.int .i64))]], bs := [] }]
def Iq93 (k : Nat) : Inst := ⟨97, shq93, rsq93, fun x => Fshuntref02_Lowest k x.1 x.2.1 x.2.2.1 x.2.2.2⟩
theorem alq93 (k : Nat) : AllI (call cf k) [Iq83 k, Iq80 k, Iq76 k, Iq77 k] := qA (okq83 k) (qA (okq80 k) (qA (okq76 k) (qA (okq77 k) qT)))
theorem anq93 (k : Nat) : LAll (LOk (R := DS FS.D rsq93) (fun b _ σ K => LOt Ty (kps 97) 0 b σ K []) cf (call cf k) (cf.keep 97) Try.f97.ntmps k shq93.bs.length) 0 (bd Try.f97) :=
 qA qT (qA (qA qT (qA qT qT)) (qA qT (qA qT (qA qT (qA qT qT)))))
theorem stq93 (k : Nat) (x : shq93.D) : Fshuntref02_Lowest (k + 1) x.1 x.2.1 x.2.2.1 x.2.2.2 = body2 cf (fun f a b K => COt f a b K [Iq83 k, Iq80 k, Iq76 k, Iq77 k]) (fun b _ σ K => LOt Ty (kps 97) 0 b σ K []) 97 Try.f97.ntmps Try.f97.results.toList (bd Try.f97) (shq93.enc x).1 (shq93.enc x).2 (putS FS.dec rsq93) := by kernel_rfl
theorem okq93 : ∀ k, InstOk (call cf k) (Iq93 k)
 | 0 => fun x y e => absurd (show (none : Option _) = some y from e) (by simp)
 | k + 1 => inst_ok (c := cf) (k := k) (f := 97) (fn := Try.f97) (body := bd Try.f97) (sh := shq93) (os := rsq93) rfl Try.func97 rfl ⟨rfl, Nat.le_of_ble_eq_true rfl⟩ (COt_ok (alq93 k)) (anq93 k) (fun x => Fshuntref02_Lowest (k + 1) x.1 x.2.1 x.2.2.1 x.2.2.2) (stq93 k)

/-! shunt/shuntref03.Of -/
def bshuntref03_Of (k : Nat) (n0 : Int) (n1 : Int) : Option (Bool × List Int × Bool × List Int) :=
 Option.bind (Fshuntref01_Wide k n0) fun r4 =>
 if ((decide (n1 < (0 : Int))) = true) then
 Option.bind (Fshuntref03_power k (IntKind.wrap .i64 ((0 : Int) - n1))) fun r5 =>
 Option.bind (Fshuntref02_Lowest k r4.1 r4.2 r5.1 r5.2) fun r6 =>
 (some (r6.1, r6.2.1, r6.2.2.1, r6.2.2.2))
 else
 Option.bind (Fshuntref03_power k n1) fun r5 =>
 Option.bind (Fshuntref01_Times k r4.1 r4.2 r5.1 r5.2) fun r6 =>
 Option.bind (Fshuntref01_Small k (1 : Int)) fun r7 =>
 (some (r6.1, r6.2, r7.1, r7.2))
def Fshuntref03_Of : Nat → Int → Int → Option (Bool × List Int × Bool × List Int)
 | 0, _, _ => none
 | k + 1, n0, n1 => bshuntref03_Of k n0 n1
def shq95 : FS := { vs := [.g [.lf (.int .i64), .lf (.int .i64)]], bs := [] }
def rsq95 : List FS := [{ vs := [.g [.lf .bool, .lf (.sl (.int .i64)), .lf .bool, .lf (.sl (.int .i64))]], bs := [] }]
def Iq95 (k : Nat) : Inst := ⟨68, shq95, rsq95, fun x => Fshuntref03_Of k x.1 x.2⟩
theorem alq95 (k : Nat) : AllI (call cf k) [Iq86 k, Iq97 k, Iq93 k, Iq85 k, Iq84 k] := qA (okq86 k) (qA (okq97 k) (qA (okq93 k) (qA (okq85 k) (qA (okq84 k) qT))))
theorem anq95 (k : Nat) : LAll (LOk (R := DS FS.D rsq95) (fun b _ σ K => LOt Ty (kps 68) 0 b σ K []) cf (call cf k) (cf.keep 68) Try.f68.ntmps k shq95.bs.length) 0 (bd Try.f68) :=
 qA qT (qA qT (qA (qA qT (qA (qA qT qT) qT)) (qA qT qT)))
theorem stq95 (k : Nat) (x : shq95.D) : Fshuntref03_Of (k + 1) x.1 x.2 = body2 cf (fun f a b K => COt f a b K [Iq86 k, Iq97 k, Iq93 k, Iq85 k, Iq84 k]) (fun b _ σ K => LOt Ty (kps 68) 0 b σ K []) 68 Try.f68.ntmps Try.f68.results.toList (bd Try.f68) (shq95.enc x).1 (shq95.enc x).2 (putS FS.dec rsq95) := by kernel_rfl
theorem okq95 : ∀ k, InstOk (call cf k) (Iq95 k)
 | 0 => fun x y e => absurd (show (none : Option _) = some y from e) (by simp)
 | k + 1 => inst_ok (c := cf) (k := k) (f := 68) (fn := Try.f68) (body := bd Try.f68) (sh := shq95) (os := rsq95) rfl Try.func68 rfl ⟨rfl, Nat.le_of_ble_eq_true rfl⟩ (COt_ok (alq95 k)) (anq95 k) (fun x => Fshuntref03_Of (k + 1) x.1 x.2) (stq95 k)

/-! shunt/shuntref01.plus -/
def Lshuntref01_plus_0s (k : Nat) (rec : List Int → List Int → Nat → Int → Int → List Int → Option (Nat × List Int)) (a : List Int) (b : List Int) (d : Nat) (carry : Int) (i : Int) (ds : List Int) : Option (Nat × List Int) :=
 if ((decide (i < (((List.length a) : Nat) : Int))) = false) then
 if ((decide (i < (((List.length b) : Nat) : Int))) = false) then
 if ((decide (carry > (0 : Int))) = true) then
 if ((decide (i < (((List.length a) : Nat) : Int))) = true) then
 if ((0 : Int) ≤ i) then
 Option.bind (a)[(Int.toNat i)]? fun x3 =>
 if ((decide (i < (((List.length b) : Nat) : Int))) = true) then
 if ((0 : Int) ≤ i) then
 Option.bind (b)[(Int.toNat i)]? fun x4 =>
 if (d ≤ (List.length ds)) then
 if (((d + (List.length (List.take 1 ((Int.tmod (IntKind.wrap .i64 ((IntKind.wrap .i64 (carry + x3)) + x4)) (65536 : Int)) :: [])))) * 8) ≤ 140737488355328) then
 rec a b (d + (List.length (List.take 1 ((Int.tmod (IntKind.wrap .i64 ((IntKind.wrap .i64 (carry + x3)) + x4)) (65536 : Int)) :: [])))) (IntKind.wrap .i64 (Int.tdiv (IntKind.wrap .i64 ((IntKind.wrap .i64 (carry + x3)) + x4)) (65536 : Int))) (IntKind.wrap .i64 (i + (1 : Int))) ((List.take d ds) ++ (List.take 1 ((Int.tmod (IntKind.wrap .i64 ((IntKind.wrap .i64 (carry + x3)) + x4)) (65536 : Int)) :: [])))
 else
 none
 else
 none
 else
 none
 else
 if (d ≤ (List.length ds)) then
 if (((d + (List.length (List.take 1 ((Int.tmod (IntKind.wrap .i64 (carry + x3)) (65536 : Int)) :: [])))) * 8) ≤ 140737488355328) then
 rec a b (d + (List.length (List.take 1 ((Int.tmod (IntKind.wrap .i64 (carry + x3)) (65536 : Int)) :: [])))) (IntKind.wrap .i64 (Int.tdiv (IntKind.wrap .i64 (carry + x3)) (65536 : Int))) (IntKind.wrap .i64 (i + (1 : Int))) ((List.take d ds) ++ (List.take 1 ((Int.tmod (IntKind.wrap .i64 (carry + x3)) (65536 : Int)) :: [])))
 else
 none
 else
 none
 else
 none
 else
 if ((decide (i < (((List.length b) : Nat) : Int))) = true) then
 if ((0 : Int) ≤ i) then
 Option.bind (b)[(Int.toNat i)]? fun x3 =>
 if (d ≤ (List.length ds)) then
 if (((d + (List.length (List.take 1 ((Int.tmod (IntKind.wrap .i64 (carry + x3)) (65536 : Int)) :: [])))) * 8) ≤ 140737488355328) then
 rec a b (d + (List.length (List.take 1 ((Int.tmod (IntKind.wrap .i64 (carry + x3)) (65536 : Int)) :: [])))) (IntKind.wrap .i64 (Int.tdiv (IntKind.wrap .i64 (carry + x3)) (65536 : Int))) (IntKind.wrap .i64 (i + (1 : Int))) ((List.take d ds) ++ (List.take 1 ((Int.tmod (IntKind.wrap .i64 (carry + x3)) (65536 : Int)) :: [])))
 else
 none
 else
 none
 else
 none
 else
 if (d ≤ (List.length ds)) then
 if (((d + (List.length (List.take 1 ((Int.tmod carry (65536 : Int)) :: [])))) * 8) ≤ 140737488355328) then
 rec a b (d + (List.length (List.take 1 ((Int.tmod carry (65536 : Int)) :: [])))) (IntKind.wrap .i64 (Int.tdiv carry (65536 : Int))) (IntKind.wrap .i64 (i + (1 : Int))) ((List.take d ds) ++ (List.take 1 ((Int.tmod carry (65536 : Int)) :: [])))
 else
 none
 else
 none
 else
 (some (d, ds))
 else
 if ((decide (i < (((List.length a) : Nat) : Int))) = true) then
 if ((0 : Int) ≤ i) then
 Option.bind (a)[(Int.toNat i)]? fun x3 =>
 if ((decide (i < (((List.length b) : Nat) : Int))) = true) then
 if ((0 : Int) ≤ i) then
 Option.bind (b)[(Int.toNat i)]? fun x4 =>
 if (d ≤ (List.length ds)) then
 if (((d + (List.length (List.take 1 ((Int.tmod (IntKind.wrap .i64 ((IntKind.wrap .i64 (carry + x3)) + x4)) (65536 : Int)) :: [])))) * 8) ≤ 140737488355328) then
 rec a b (d + (List.length (List.take 1 ((Int.tmod (IntKind.wrap .i64 ((IntKind.wrap .i64 (carry + x3)) + x4)) (65536 : Int)) :: [])))) (IntKind.wrap .i64 (Int.tdiv (IntKind.wrap .i64 ((IntKind.wrap .i64 (carry + x3)) + x4)) (65536 : Int))) (IntKind.wrap .i64 (i + (1 : Int))) ((List.take d ds) ++ (List.take 1 ((Int.tmod (IntKind.wrap .i64 ((IntKind.wrap .i64 (carry + x3)) + x4)) (65536 : Int)) :: [])))
 else
 none
 else
 none
 else
 none
 else
 if (d ≤ (List.length ds)) then
 if (((d + (List.length (List.take 1 ((Int.tmod (IntKind.wrap .i64 (carry + x3)) (65536 : Int)) :: [])))) * 8) ≤ 140737488355328) then
 rec a b (d + (List.length (List.take 1 ((Int.tmod (IntKind.wrap .i64 (carry + x3)) (65536 : Int)) :: [])))) (IntKind.wrap .i64 (Int.tdiv (IntKind.wrap .i64 (carry + x3)) (65536 : Int))) (IntKind.wrap .i64 (i + (1 : Int))) ((List.take d ds) ++ (List.take 1 ((Int.tmod (IntKind.wrap .i64 (carry + x3)) (65536 : Int)) :: [])))
 else
 none
 else
 none
 else
 none
 else
 if ((decide (i < (((List.length b) : Nat) : Int))) = true) then
 if ((0 : Int) ≤ i) then
 Option.bind (b)[(Int.toNat i)]? fun x3 =>
 if (d ≤ (List.length ds)) then
 if (((d + (List.length (List.take 1 ((Int.tmod (IntKind.wrap .i64 (carry + x3)) (65536 : Int)) :: [])))) * 8) ≤ 140737488355328) then
 rec a b (d + (List.length (List.take 1 ((Int.tmod (IntKind.wrap .i64 (carry + x3)) (65536 : Int)) :: [])))) (IntKind.wrap .i64 (Int.tdiv (IntKind.wrap .i64 (carry + x3)) (65536 : Int))) (IntKind.wrap .i64 (i + (1 : Int))) ((List.take d ds) ++ (List.take 1 ((Int.tmod (IntKind.wrap .i64 (carry + x3)) (65536 : Int)) :: [])))
 else
 none
 else
 none
 else
 none
 else
 if (d ≤ (List.length ds)) then
 if (((d + (List.length (List.take 1 ((Int.tmod carry (65536 : Int)) :: [])))) * 8) ≤ 140737488355328) then
 rec a b (d + (List.length (List.take 1 ((Int.tmod carry (65536 : Int)) :: [])))) (IntKind.wrap .i64 (Int.tdiv carry (65536 : Int))) (IntKind.wrap .i64 (i + (1 : Int))) ((List.take d ds) ++ (List.take 1 ((Int.tmod carry (65536 : Int)) :: [])))
 else
 none
 else
 none
 else
 if ((decide (i < (((List.length a) : Nat) : Int))) = true) then
 if ((0 : Int) ≤ i) then
 Option.bind (a)[(Int.toNat i)]? fun x3 =>
 if ((decide (i < (((List.length b) : Nat) : Int))) = true) then
 if ((0 : Int) ≤ i) then
 Option.bind (b)[(Int.toNat i)]? fun x4 =>
 if (d ≤ (List.length ds)) then
 if (((d + (List.length (List.take 1 ((Int.tmod (IntKind.wrap .i64 ((IntKind.wrap .i64 (carry + x3)) + x4)) (65536 : Int)) :: [])))) * 8) ≤ 140737488355328) then
 rec a b (d + (List.length (List.take 1 ((Int.tmod (IntKind.wrap .i64 ((IntKind.wrap .i64 (carry + x3)) + x4)) (65536 : Int)) :: [])))) (IntKind.wrap .i64 (Int.tdiv (IntKind.wrap .i64 ((IntKind.wrap .i64 (carry + x3)) + x4)) (65536 : Int))) (IntKind.wrap .i64 (i + (1 : Int))) ((List.take d ds) ++ (List.take 1 ((Int.tmod (IntKind.wrap .i64 ((IntKind.wrap .i64 (carry + x3)) + x4)) (65536 : Int)) :: [])))
 else
 none
 else
 none
 else
 none
 else
 if (d ≤ (List.length ds)) then
 if (((d + (List.length (List.take 1 ((Int.tmod (IntKind.wrap .i64 (carry + x3)) (65536 : Int)) :: [])))) * 8) ≤ 140737488355328) then
 rec a b (d + (List.length (List.take 1 ((Int.tmod (IntKind.wrap .i64 (carry + x3)) (65536 : Int)) :: [])))) (IntKind.wrap .i64 (Int.tdiv (IntKind.wrap .i64 (carry + x3)) (65536 : Int))) (IntKind.wrap .i64 (i + (1 : Int))) ((List.take d ds) ++ (List.take 1 ((Int.tmod (IntKind.wrap .i64 (carry + x3)) (65536 : Int)) :: [])))
 else
 none
 else
 none
 else
 none
 else
 if ((decide (i < (((List.length b) : Nat) : Int))) = true) then
 if ((0 : Int) ≤ i) then
 Option.bind (b)[(Int.toNat i)]? fun x3 =>
 if (d ≤ (List.length ds)) then
 if (((d + (List.length (List.take 1 ((Int.tmod (IntKind.wrap .i64 (carry + x3)) (65536 : Int)) :: [])))) * 8) ≤ 140737488355328) then
 rec a b (d + (List.length (List.take 1 ((Int.tmod (IntKind.wrap .i64 (carry + x3)) (65536 : Int)) :: [])))) (IntKind.wrap .i64 (Int.tdiv (IntKind.wrap .i64 (carry + x3)) (65536 : Int))) (IntKind.wrap .i64 (i + (1 : Int))) ((List.take d ds) ++ (List.take 1 ((Int.tmod (IntKind.wrap .i64 (carry + x3)) (65536 : Int)) :: [])))
 else
 none
 else
 none
 else
 none
 else
 if (d ≤ (List.length ds)) then
 if (((d + (List.length (List.take 1 ((Int.tmod carry (65536 : Int)) :: [])))) * 8) ≤ 140737488355328) then
 rec a b (d + (List.length (List.take 1 ((Int.tmod carry (65536 : Int)) :: [])))) (IntKind.wrap .i64 (Int.tdiv carry (65536 : Int))) (IntKind.wrap .i64 (i + (1 : Int))) ((List.take d ds) ++ (List.take 1 ((Int.tmod carry (65536 : Int)) :: [])))
 else
 none
 else
 none
def Lshuntref01_plus_0 (k n : Nat) : List Int → List Int → Nat → Int → Int → List Int → Option (Nat × List Int) := Nat.rec (fun _ _ _ _ _ _ => none) (fun _ r => Lshuntref01_plus_0s k r) n
def bshuntref01_plus (k : Nat) (a : List Int) (b : List Int) : Option (List Int) :=
 Option.bind (Lshuntref01_plus_0 k k a b 0 (0 : Int) (0 : Int) []) fun r9 =>
 Option.bind (Fshuntref01_trim_mfi k r9.1 r9.2) fun r10 =>
 if ((0 + r10.1) ≤ (List.length r10.2)) then
 (some (List.take r10.1 r10.2))
 else
 none
def Fshuntref01_plus : Nat → List Int → List Int → Option (List Int)
 | 0, _, _ => none
 | k + 1, a, b => bshuntref01_plus k a b
def shq90 : FS := { vs := [.a (.lf (.sl (.int .i64))), .a (.lf (.sl (.int .i64)))], bs := [] }
def rsq90 : List FS := [{ vs := [.a (.lf (.sl (.int .i64)))], bs := [] }]
def Iq90 (k : Nat) : Inst := ⟨119, shq90, rsq90, fun x => Fshuntref01_plus k x.1 x.2⟩
theorem alq90 (k : Nat) : AllI (call cf k) [Iq91 k] := qA (okq91 k) qT
def hsq150 : List SS := [{ fr := [(0, .a (.lf (.sl (.int .i64)))), (1, .a (.lf (.sl (.int .i64)))), (5, .a (.smz 0)), (6, .a (.lf (.int .i64))), (7, .a (.lf (.int .i64)))], mem := [(0, some (.arr (.int .i64) 1 3 false))], nx := 1 }]
def osq150 : List OS := [⟨some 0, { fr := [(5, .a (.smz 0))], mem := [(0, some (.arr (.int .i64) 1 3 false))], nx := 1 }⟩]
def LIq150 (k : Nat) : LInst := ⟨0, hsq150, osq150, fun x => Lshuntref01_plus_0 k k x.1 x.2.1 x.2.2.1 x.2.2.2.1 x.2.2.2.2.1 x.2.2.2.2.2⟩
theorem anq150 (k : Nat) : LAll (LOk (R := DS OS.D osq150) (fun b _ σ K => LOt Ty (kps 119) 0 b σ K []) cf (call cf k) (kps 119) Try.f119.ntmps k 0) 0 (lb Try.f119 0) :=
 qA (qA qT (qA qT qT)) (qA (qA qT (qA (qA qT (qA qT qT)) (qA (qA qT (qA qT qT)) (qA qT qT)))) qT)
theorem stq150 (k n : Nat) (x : DS SS.D hsq150) : Lshuntref01_plus_0 k (n + 1) x.1 x.2.1 x.2.2.1 x.2.2.2.1 x.2.2.2.2.1 x.2.2.2.2.2 = encSK SS.enc (fun σ => run2 cf (fun f a b K => COt f a b K [Iq91 k]) (fun b _ σ K => LOt Ty (kps 119) 0 b σ K []) Try.f119.ntmps 0 (lb Try.f119 0) σ (nextK Ty (kps 119 0) 0 hsq150 osq150 fun x => Lshuntref01_plus_0 k n x.1 x.2.1 x.2.2.1 x.2.2.2.1 x.2.2.2.2.1 x.2.2.2.2.2)) hsq150 x := by kernel_rfl
theorem loq150 (k : Nat) : LIOk cf (call cf k) (kps 119) Try.f119.ntmps k 0 0 (lb Try.f119 0) (LIq150 k) :=
 loop_ok (c := cf) (callF := call cf k) (kp := kps 119) (nt := Try.f119.ntmps) (k := k) (p := 0) (b := 0) (x0 := lb Try.f119 0) (hs := hsq150) (os := osq150) (COt_ok (alq90 k)) (anq150 k) (fun n x => Lshuntref01_plus_0 k n x.1 x.2.1 x.2.2.1 x.2.2.2.1 x.2.2.2.2.1 x.2.2.2.2.2) (fun _ => rfl) (stq150 k)
theorem anq90 (k : Nat) : LAll (LOk (R := DS FS.D rsq90) (fun b _ σ K => LOt Ty (kps 119) 0 b σ K [LIq150 k]) cf (call cf k) (cf.keep 119) Try.f119.ntmps k shq90.bs.length) 0 (bd Try.f119) :=
 qA qT (qA qT (qA qT (qA (qA qT (LOt_ok (c := cf) (callF := call cf k) (kp := kps 119) (nt := Try.f119.ntmps) (k := k) (p := 0) (b := 0) (x0 := lb Try.f119 0) (l := [LIq150 k]) (qA (fun _ => loq150 k) qT))) (qA qT qT))))
theorem stq90 (k : Nat) (x : shq90.D) : Fshuntref01_plus (k + 1) x.1 x.2 = body2 cf (fun f a b K => COt f a b K [Iq91 k]) (fun b _ σ K => LOt Ty (kps 119) 0 b σ K [LIq150 k]) 119 Try.f119.ntmps Try.f119.results.toList (bd Try.f119) (shq90.enc x).1 (shq90.enc x).2 (putS FS.dec rsq90) := by kernel_rfl
theorem okq90 : ∀ k, InstOk (call cf k) (Iq90 k)
 | 0 => fun x y e => absurd (show (none : Option _) = some y from e) (by simp)
 | k + 1 => inst_ok (c := cf) (k := k) (f := 119) (fn := Try.f119) (body := bd Try.f119) (sh := shq90) (os := rsq90) rfl Try.func119 rfl ⟨rfl, Nat.le_of_ble_eq_true rfl⟩ (COt_ok (alq90 k)) (anq90 k) (fun x => Fshuntref01_plus (k + 1) x.1 x.2) (stq90 k)

/-! shunt/shuntref01.Plus -/
def bshuntref01_Plus (k : Nat) (a0 : Bool) (a1 : List Int) (b0 : Bool) (b1 : List Int) : Option (Bool × List Int) :=
 if ((a0 == b0) = true) then
 Option.bind (Fshuntref01_plus k a1 b1) fun r9 =>
 if (a0 = true) then
 (some ((decide ((((List.length r9) : Nat) : Int) > (0 : Int))), r9))
 else
 (some (false, r9))
 else
 Option.bind (Fshuntref01_mags k a1 b1) fun r9 =>
 if ((decide (r9 ≥ (0 : Int))) = true) then
 Option.bind (Fshuntref01_minus k a1 b1) fun r10 =>
 if (a0 = true) then
 (some ((decide ((((List.length r10) : Nat) : Int) > (0 : Int))), r10))
 else
 (some (false, r10))
 else
 Option.bind (Fshuntref01_minus k b1 a1) fun r10 =>
 (some (b0, r10))
def Fshuntref01_Plus : Nat → Bool → List Int → Bool → List Int → Option (Bool × List Int)
 | 0, _, _, _, _ => none
 | k + 1, a0, a1, b0, b1 => bshuntref01_Plus k a0 a1 b0 b1
def shq81 : FS := { vs := [.g [.lf .bool, .lf (.sl (.int .i64))], .g [.lf .bool, .lf (.sl (.int .i64))]], bs := [] }
def rsq81 : List FS := [{ vs := [.g [.lf .bool, .lf (.sl (.int .i64))]], bs := [] }]
def Iq81 (k : Nat) : Inst := ⟨104, shq81, rsq81, fun x => Fshuntref01_Plus k x.1 x.2.1 x.2.2.1 x.2.2.2⟩
theorem alq81 (k : Nat) : AllI (call cf k) [Iq90 k, Iq88 k, Iq89 k] := qA (okq90 k) (qA (okq88 k) (qA (okq89 k) qT))
theorem anq81 (k : Nat) : LAll (LOk (R := DS FS.D rsq81) (fun b _ σ K => LOt Ty (kps 104) 0 b σ K []) cf (call cf k) (cf.keep 104) Try.f104.ntmps k shq81.bs.length) 0 (bd Try.f104) :=
 qA qT (qA (qA qT (qA (qA qT (qA qT qT)) qT)) (qA (qA qT (qA (qA qT (qA qT qT)) qT)) (qA qT qT)))
theorem stq81 (k : Nat) (x : shq81.D) : Fshuntref01_Plus (k + 1) x.1 x.2.1 x.2.2.1 x.2.2.2 = body2 cf (fun f a b K => COt f a b K [Iq90 k, Iq88 k, Iq89 k]) (fun b _ σ K => LOt Ty (kps 104) 0 b σ K []) 104 Try.f104.ntmps Try.f104.results.toList (bd Try.f104) (shq81.enc x).1 (shq81.enc x).2 (putS FS.dec rsq81) := by kernel_rfl
theorem okq81 : ∀ k, InstOk (call cf k) (Iq81 k)
 | 0 => fun x y e => absurd (show (none : Option _) = some y from e) (by simp)
 | k + 1 => inst_ok (c := cf) (k := k) (f := 104) (fn := Try.f104) (body := bd Try.f104) (sh := shq81) (os := rsq81) rfl Try.func104 rfl ⟨rfl, Nat.le_of_ble_eq_true rfl⟩ (COt_ok (alq81 k)) (anq81 k) (fun x => Fshuntref01_Plus (k + 1) x.1 x.2.1 x.2.2.1 x.2.2.2) (stq81 k)

/-! shunt/shuntref01.Less -/
def bshuntref01_Less (k : Nat) (a0 : Bool) (a1 : List Int) (b0 : Bool) (b1 : List Int) : Option (Bool × List Int) :=
 Option.bind (Fshuntref01_Minus k b0 b1) fun r8 =>
 Option.bind (Fshuntref01_Plus k a0 a1 r8.1 r8.2) fun r9 =>
 (some (r9.1, r9.2))
def Fshuntref01_Less : Nat → Bool → List Int → Bool → List Int → Option (Bool × List Int)
 | 0, _, _, _, _ => none
 | k + 1, a0, a1, b0, b1 => bshuntref01_Less k a0 a1 b0 b1
def shq79 : FS := { vs := [.g [.lf .bool, .lf (.sl (.int .i64))], .g [.lf .bool, .lf (.sl (.int .i64))]], bs := [] }
def rsq79 : List FS := [{ vs := [.g [.lf .bool, .lf (.sl (.int .i64))]], bs := [] }]
def Iq79 (k : Nat) : Inst := ⟨79, shq79, rsq79, fun x => Fshuntref01_Less k x.1 x.2.1 x.2.2.1 x.2.2.2⟩
theorem alq79 (k : Nat) : AllI (call cf k) [Iq80 k, Iq81 k] := qA (okq80 k) (qA (okq81 k) qT)
theorem anq79 (k : Nat) : LAll (LOk (R := DS FS.D rsq79) (fun b _ σ K => LOt Ty (kps 79) 0 b σ K []) cf (call cf k) (cf.keep 79) Try.f79.ntmps k shq79.bs.length) 0 (bd Try.f79) :=
 qA qT (qA qT qT)
theorem stq79 (k : Nat) (x : shq79.D) : Fshuntref01_Less (k + 1) x.1 x.2.1 x.2.2.1 x.2.2.2 = body2 cf (fun f a b K => COt f a b K [Iq80 k, Iq81 k]) (fun b _ σ K => LOt Ty (kps 79) 0 b σ K []) 79 Try.f79.ntmps Try.f79.results.toList (bd Try.f79) (shq79.enc x).1 (shq79.enc x).2 (putS FS.dec rsq79) := by kernel_rfl
theorem okq79 : ∀ k, InstOk (call cf k) (Iq79 k)
 | 0 => fun x y e => absurd (show (none : Option _) = some y from e) (by simp)
 | k + 1 => inst_ok (c := cf) (k := k) (f := 79) (fn := Try.f79) (body := bd Try.f79) (sh := shq79) (os := rsq79) rfl Try.func79 rfl ⟨rfl, Nat.le_of_ble_eq_true rfl⟩ (COt_ok (alq79 k)) (anq79 k) (fun x => Fshuntref01_Less (k + 1) x.1 x.2.1 x.2.2.1 x.2.2.2) (stq79 k)

/-! shunt/shuntref01.Held -/
def bshuntref01_Held (k : Nat) (a0 : Bool) (a1 : List Int) (b0 : Bool) (b1 : List Int) : Option (Int) :=
 Option.bind (Fshuntref01_Less k a0 a1 b0 b1) fun r8 =>
 Option.bind (Fshuntref01_Sign k r8.1 r8.2) fun r9 =>
 (some r9)
def Fshuntref01_Held : Nat → Bool → List Int → Bool → List Int → Option (Int)
 | 0, _, _, _, _ => none
 | k + 1, a0, a1, b0, b1 => bshuntref01_Held k a0 a1 b0 b1
def shq78 : FS := { vs := [.g [.lf .bool, .lf (.sl (.int .i64))], .g [.lf .bool, .lf (.sl (.int .i64))]], bs := [] }
def rsq78 : List FS := [{ vs := [.a (.lf (.int .i64))], bs := [] }]
def Iq78 (k : Nat) : Inst := ⟨40, shq78, rsq78, fun x => Fshuntref01_Held k x.1 x.2.1 x.2.2.1 x.2.2.2⟩
theorem alq78 (k : Nat) : AllI (call cf k) [Iq79 k, Iq83 k] := qA (okq79 k) (qA (okq83 k) qT)
theorem anq78 (k : Nat) : LAll (LOk (R := DS FS.D rsq78) (fun b _ σ K => LOt Ty (kps 40) 0 b σ K []) cf (call cf k) (cf.keep 40) Try.f40.ntmps k shq78.bs.length) 0 (bd Try.f40) :=
 qA qT (qA qT qT)
theorem stq78 (k : Nat) (x : shq78.D) : Fshuntref01_Held (k + 1) x.1 x.2.1 x.2.2.1 x.2.2.2 = body2 cf (fun f a b K => COt f a b K [Iq79 k, Iq83 k]) (fun b _ σ K => LOt Ty (kps 40) 0 b σ K []) 40 Try.f40.ntmps Try.f40.results.toList (bd Try.f40) (shq78.enc x).1 (shq78.enc x).2 (putS FS.dec rsq78) := by kernel_rfl
theorem okq78 : ∀ k, InstOk (call cf k) (Iq78 k)
 | 0 => fun x y e => absurd (show (none : Option _) = some y from e) (by simp)
 | k + 1 => inst_ok (c := cf) (k := k) (f := 40) (fn := Try.f40) (body := bd Try.f40) (sh := shq78) (os := rsq78) rfl Try.func40 rfl ⟨rfl, Nat.le_of_ble_eq_true rfl⟩ (COt_ok (alq78 k)) (anq78 k) (fun x => Fshuntref01_Held (k + 1) x.1 x.2.1 x.2.2.1 x.2.2.2) (stq78 k)

/-! shunt/shuntref02.Held -/
def bshuntref02_Held (k : Nat) (a0 : Bool) (a1 : List Int) (a2 : Bool) (a3 : List Int) (b0 : Bool) (b1 : List Int) (b2 : Bool) (b3 : List Int) : Option (Int) :=
 Option.bind (Fshuntref01_Times k a0 a1 b2 b3) fun r6 =>
 Option.bind (Fshuntref01_Times k b0 b1 a2 a3) fun r7 =>
 Option.bind (Fshuntref01_Held k r6.1 r6.2 r7.1 r7.2) fun r8 =>
 (some r8)
def Fshuntref02_Held : Nat → Bool → List Int → Bool → List Int → Bool → List Int → Bool → List Int → Option (Int)
 | 0, _, _, _, _, _, _, _, _ => none
 | k + 1, a0, a1, a2, a3, b0, b1, b2, b3 => bshuntref02_Held k a0 a1 a2 a3 b0 b1 b2 b3
def shq92 : FS := { vs := [.g [.lf .bool, .lf (.sl (.int .i64)), .lf .bool, .lf (.sl (.int .i64))], .g [.lf .bool, .lf (.sl (.int .i64)), .lf .bool, .lf (.sl (.int .i64))]], bs := [] }
def rsq92 : List FS := [{ vs := [.a (.lf (.int .i64))], bs := [] }]
def Iq92 (k : Nat) : Inst := ⟨67, shq92, rsq92, fun x => Fshuntref02_Held k x.1 x.2.1 x.2.2.1 x.2.2.2.1 x.2.2.2.2.1 x.2.2.2.2.2.1 x.2.2.2.2.2.2.1 x.2.2.2.2.2.2.2⟩
theorem alq92 (k : Nat) : AllI (call cf k) [Iq85 k, Iq78 k] := qA (okq85 k) (qA (okq78 k) qT)
theorem anq92 (k : Nat) : LAll (LOk (R := DS FS.D rsq92) (fun b _ σ K => LOt Ty (kps 67) 0 b σ K []) cf (call cf k) (cf.keep 67) Try.f67.ntmps k shq92.bs.length) 0 (bd Try.f67) :=
 qA qT (qA qT qT)
theorem stq92 (k : Nat) (x : shq92.D) : Fshuntref02_Held (k + 1) x.1 x.2.1 x.2.2.1 x.2.2.2.1 x.2.2.2.2.1 x.2.2.2.2.2.1 x.2.2.2.2.2.2.1 x.2.2.2.2.2.2.2 = body2 cf (fun f a b K => COt f a b K [Iq85 k, Iq78 k]) (fun b _ σ K => LOt Ty (kps 67) 0 b σ K []) 67 Try.f67.ntmps Try.f67.results.toList (bd Try.f67) (shq92.enc x).1 (shq92.enc x).2 (putS FS.dec rsq92) := by kernel_rfl
theorem okq92 : ∀ k, InstOk (call cf k) (Iq92 k)
 | 0 => fun x y e => absurd (show (none : Option _) = some y from e) (by simp)
 | k + 1 => inst_ok (c := cf) (k := k) (f := 67) (fn := Try.f67) (body := bd Try.f67) (sh := shq92) (os := rsq92) rfl Try.func67 rfl ⟨rfl, Nat.le_of_ble_eq_true rfl⟩ (COt_ok (alq92 k)) (anq92 k) (fun x => Fshuntref02_Held (k + 1) x.1 x.2.1 x.2.2.1 x.2.2.2.1 x.2.2.2.2.1 x.2.2.2.2.2.1 x.2.2.2.2.2.2.1 x.2.2.2.2.2.2.2) (stq92 k)

/-! shunt/shuntref05.Valid -/
def Lshuntref05_Valid_0s (k : Nat) (rec : Int → ByteArray → Int → List (Int × Int) → List (Int × Int) → Option ((Bool × ByteArray × Int × List (Int × Int) × List (Int × Int)) ⊕ (ByteArray × Int × List (Int × Int) × List (Int × Int)))) (i : Int) (m0 : ByteArray) (m1 : Int) (m2 : List (Int × Int)) (m3 : List (Int × Int)) : Option ((Bool × ByteArray × Int × List (Int × Int) × List (Int × Int)) ⊕ (ByteArray × Int × List (Int × Int) × List (Int × Int))) :=
 if ((decide (i < (((List.length m2) : Nat) : Int))) = true) then
 if ((0 : Int) ≤ i) then
 Option.bind (m2)[(Int.toNat i)]? fun x =>
 Option.bind (Fshuntref03_Valid k x.1 x.2) fun r2 =>
 if ((!r2) = true) then
 (some (Sum.inl (false, m0, m1, m2, m3)))
 else
 rec (IntKind.wrap .i64 (i + (1 : Int))) m0 m1 m2 m3
 else
 none
 else
 (some (Sum.inr (m0, m1, m2, m3)))
def Lshuntref05_Valid_0 (k n : Nat) : Int → ByteArray → Int → List (Int × Int) → List (Int × Int) → Option ((Bool × ByteArray × Int × List (Int × Int) × List (Int × Int)) ⊕ (ByteArray × Int × List (Int × Int) × List (Int × Int))) := Nat.rec (fun _ _ _ _ _ => none) (fun _ r => Lshuntref05_Valid_0s k r) n
def Lshuntref05_Valid_2s (k : Nat) (rec : Int → ByteArray → Int → List (Int × Int) → List (Int × Int) → Option ((Bool × ByteArray × Int × List (Int × Int) × List (Int × Int)) ⊕ (ByteArray × Int × List (Int × Int) × List (Int × Int)))) (i : Int) (m0 : ByteArray) (m1 : Int) (m2 : List (Int × Int)) (m3 : List (Int × Int)) : Option ((Bool × ByteArray × Int × List (Int × Int) × List (Int × Int)) ⊕ (ByteArray × Int × List (Int × Int) × List (Int × Int))) :=
 if ((decide (i < (((List.length m3) : Nat) : Int))) = true) then
 if ((0 : Int) ≤ i) then
 Option.bind (m3)[(Int.toNat i)]? fun x =>
 Option.bind (Fshuntref03_Valid k x.1 x.2) fun r3 =>
 if ((!r3) = true) then
 (some (Sum.inl (false, m0, m1, m2, m3)))
 else
 if ((m1 == (100 : Int)) = true) then
 if ((decide (i > (0 : Int))) = true) then
 if ((0 : Int) ≤ (IntKind.wrap .i64 (i - (1 : Int)))) then
 Option.bind (m3)[(Int.toNat (IntKind.wrap .i64 (i - (1 : Int))))]? fun x1 =>
 Option.bind (Fshuntref03_Of k x1.1 x1.2) fun r4 =>
 if ((0 : Int) ≤ i) then
 Option.bind (m3)[(Int.toNat i)]? fun x2 =>
 Option.bind (Fshuntref03_Of k x2.1 x2.2) fun r5 =>
 Option.bind (Fshuntref02_Held k r4.1 r4.2.1 r4.2.2.1 r4.2.2.2 r5.1 r5.2.1 r5.2.2.1 r5.2.2.2) fun r6 =>
 if ((decide (r6 ≥ (0 : Int))) = true) then
 (some (Sum.inl (false, m0, m1, m2, m3)))
 else
 rec (IntKind.wrap .i64 (i + (1 : Int))) m0 m1 m2 m3
 else
 none
 else
 none
 else
 rec (IntKind.wrap .i64 (i + (1 : Int))) m0 m1 m2 m3
 else
 rec (IntKind.wrap .i64 (i + (1 : Int))) m0 m1 m2 m3
 else
 none
 else
 (some (Sum.inr (m0, m1, m2, m3)))
def Lshuntref05_Valid_2 (k n : Nat) : Int → ByteArray → Int → List (Int × Int) → List (Int × Int) → Option ((Bool × ByteArray × Int × List (Int × Int) × List (Int × Int)) ⊕ (ByteArray × Int × List (Int × Int) × List (Int × Int))) := Nat.rec (fun _ _ _ _ _ => none) (fun _ r => Lshuntref05_Valid_2s k r) n
def bshuntref05_Valid (k : Nat) (m0 : ByteArray) (m1 : Int) (m2 : List (Int × Int)) (m3 : List (Int × Int)) : Option (Bool) :=
 Option.bind (Fshuntref05_Name k m0) fun r1 =>
 if ((!r1) = true) then
 (some false)
 else
 Option.bind (Lshuntref05_Valid_0 k k (0 : Int) m0 m1 m2 m3) fun r2 =>
 eitherK r2
 (fun r2 =>
 (some r2.1))
 (fun r2 =>
 Option.bind (Lshuntref05_Valid_2 k k (0 : Int) r2.1 r2.2.1 r2.2.2.1 r2.2.2.2) fun r3 =>
 eitherK r3
 (fun r3 =>
 (some r3.1))
 (fun r3 =>
 if ((r3.2.1 == (115 : Int)) = true) then
 if (((((List.length r3.2.2.1) : Nat) : Int) == (2 : Int)) = true) then
 (some ((((List.length r3.2.2.2) : Nat) : Int) == (1 : Int)))
 else
 (some false)
 else
 if ((r3.2.1 == (100 : Int)) = true) then
 if ((decide ((((List.length r3.2.2.1) : Nat) : Int) ≥ (1 : Int))) = true) then
 if ((decide ((((List.length r3.2.2.1) : Nat) : Int) ≤ (4 : Int))) = true) then
 (some ((IntKind.wrap .i64 ((((List.length r3.2.2.2) : Nat) : Int) + (1 : Int))) == (((List.length r3.2.2.1) : Nat) : Int)))
 else
 (some false)
 else
 (some false)
 else
 (some false)))
def Fshuntref05_Valid : Nat → ByteArray → Int → List (Int × Int) → List (Int × Int) → Option (Bool)
 | 0, _, _, _, _ => none
 | k + 1, m0, m1, m2, m3 => bshuntref05_Valid k m0 m1 m2 m3
def shq100 : FS := { vs := [.g [.lf .str, .lf (.int .u8), .lf (.sl (.pr (.int .i64) (.int .i64))), .lf (.sl (.pr (.int .i64) (.int .i64)))]], bs := [] }
def rsq100 : List FS := [{ vs := [.a (.lf .bool)], bs := [] }]
def Iq100 (k : Nat) : Inst := ⟨31, shq100, rsq100, fun x => Fshuntref05_Valid k x.1 x.2.1 x.2.2.1 x.2.2.2⟩
theorem alq100 (k : Nat) : AllI (call cf k) [Iq99 k, Iq96 k, Iq95 k, Iq92 k] := qA (okq99 k) (qA (okq96 k) (qA (okq95 k) (qA (okq92 k) qT)))
def hsq154 : List SS := [{ fr := [(1, .a (.ptr 0 0 0)), (3, .a (.lf (.int .i64)))], mem := [(0, some (.raw [[.lf .str, .lf (.int .u8), .lf (.sl (.pr (.int .i64) (.int .i64))), .lf (.sl (.pr (.int .i64) (.int .i64)))]] 4 24 true false))], nx := 1 }]
def osq154 : List OS := [⟨none, { fr := [(2, .a (.lf .bool))], mem := [(0, some (.raw [[.lf .str, .lf (.int .u8), .lf (.sl (.pr (.int .i64) (.int .i64))), .lf (.sl (.pr (.int .i64) (.int .i64)))]] 4 24 true false))], nx := 1 }⟩, ⟨some 0, { fr := [(1, .a (.ptr 0 0 0))], mem := [(0, some (.raw [[.lf .str, .lf (.int .u8), .lf (.sl (.pr (.int .i64) (.int .i64))), .lf (.sl (.pr (.int .i64) (.int .i64)))]] 4 24 true false))], nx := 1 }⟩]
def LIq154 (k : Nat) : LInst := ⟨0, hsq154, osq154, fun x => Lshuntref05_Valid_0 k k x.1 x.2.1 x.2.2.1 x.2.2.2.1 x.2.2.2.2⟩
theorem anq154 (k : Nat) : LAll (LOk (R := DS OS.D osq154) (fun b _ σ K => LOt Ty (kps 31) 0 b σ K []) cf (call cf k) (kps 31) Try.f31.ntmps k 0) 0 (lb Try.f31 0) :=
 qA (qA qT (qA qT qT)) (qA (qA qT (qA (qA qT qT) qT)) qT)
theorem stq154 (k n : Nat) (x : DS SS.D hsq154) : Lshuntref05_Valid_0 k (n + 1) x.1 x.2.1 x.2.2.1 x.2.2.2.1 x.2.2.2.2 = encSK SS.enc (fun σ => run2 cf (fun f a b K => COt f a b K [Iq99 k, Iq96 k, Iq95 k, Iq92 k]) (fun b _ σ K => LOt Ty (kps 31) 0 b σ K []) Try.f31.ntmps 0 (lb Try.f31 0) σ (nextK Ty (kps 31 0) 0 hsq154 osq154 fun x => Lshuntref05_Valid_0 k n x.1 x.2.1 x.2.2.1 x.2.2.2.1 x.2.2.2.2)) hsq154 x := by kernel_rfl
theorem loq154 (k : Nat) : LIOk cf (call cf k) (kps 31) Try.f31.ntmps k 0 0 (lb Try.f31 0) (LIq154 k) :=
 loop_ok (c := cf) (callF := call cf k) (kp := kps 31) (nt := Try.f31.ntmps) (k := k) (p := 0) (b := 0) (x0 := lb Try.f31 0) (hs := hsq154) (os := osq154) (COt_ok (alq100 k)) (anq154 k) (fun n x => Lshuntref05_Valid_0 k n x.1 x.2.1 x.2.2.1 x.2.2.2.1 x.2.2.2.2) (fun _ => rfl) (stq154 k)
def hsq155 : List SS := [{ fr := [(1, .a (.ptr 0 0 0)), (4, .a (.lf (.int .i64)))], mem := [(0, some (.raw [[.lf .str, .lf (.int .u8), .lf (.sl (.pr (.int .i64) (.int .i64))), .lf (.sl (.pr (.int .i64) (.int .i64)))]] 4 24 true false))], nx := 1 }]
def osq155 : List OS := [⟨none, { fr := [(2, .a (.lf .bool))], mem := [(0, some (.raw [[.lf .str, .lf (.int .u8), .lf (.sl (.pr (.int .i64) (.int .i64))), .lf (.sl (.pr (.int .i64) (.int .i64)))]] 4 24 true false))], nx := 1 }⟩, ⟨some 2, { fr := [(1, .a (.ptr 0 0 0))], mem := [(0, some (.raw [[.lf .str, .lf (.int .u8), .lf (.sl (.pr (.int .i64) (.int .i64))), .lf (.sl (.pr (.int .i64) (.int .i64)))]] 4 24 true false))], nx := 1 }⟩]
def LIq155 (k : Nat) : LInst := ⟨2, hsq155, osq155, fun x => Lshuntref05_Valid_2 k k x.1 x.2.1 x.2.2.1 x.2.2.2.1 x.2.2.2.2⟩
theorem anq155 (k : Nat) : LAll (LOk (R := DS OS.D osq155) (fun b _ σ K => LOt Ty (kps 31) 0 b σ K [LIq154 k]) cf (call cf k) (kps 31) Try.f31.ntmps k 0) 2 (lb Try.f31 1) :=
 qA (qA qT (qA qT qT)) (qA (qA (qA qT (qA (qA qT qT) qT)) (qA qT (qA (qA qT qT) qT))) qT)
theorem stq155 (k n : Nat) (x : DS SS.D hsq155) : Lshuntref05_Valid_2 k (n + 1) x.1 x.2.1 x.2.2.1 x.2.2.2.1 x.2.2.2.2 = encSK SS.enc (fun σ => run2 cf (fun f a b K => COt f a b K [Iq99 k, Iq96 k, Iq95 k, Iq92 k]) (fun b _ σ K => LOt Ty (kps 31) 0 b σ K [LIq154 k]) Try.f31.ntmps 2 (lb Try.f31 1) σ (nextK Ty (kps 31 2) 0 hsq155 osq155 fun x => Lshuntref05_Valid_2 k n x.1 x.2.1 x.2.2.1 x.2.2.2.1 x.2.2.2.2)) hsq155 x := by kernel_rfl
theorem loq155 (k : Nat) : LIOk cf (call cf k) (kps 31) Try.f31.ntmps k 0 2 (lb Try.f31 1) (LIq155 k) :=
 loop_ok (c := cf) (callF := call cf k) (kp := kps 31) (nt := Try.f31.ntmps) (k := k) (p := 0) (b := 2) (x0 := lb Try.f31 1) (hs := hsq155) (os := osq155) (COt_ok (alq100 k)) (anq155 k) (fun n x => Lshuntref05_Valid_2 k n x.1 x.2.1 x.2.2.1 x.2.2.2.1 x.2.2.2.2) (fun _ => rfl) (stq155 k)
theorem anq100 (k : Nat) : LAll (LOk (R := DS FS.D rsq100) (fun b _ σ K => LOt Ty (kps 31) 0 b σ K [LIq154 k, LIq155 k]) cf (call cf k) (cf.keep 31) Try.f31.ntmps k shq100.bs.length) 0 (bd Try.f31) :=
 qA qT (qA (qA qT (qA (qA qT qT) qT)) (qA (qA qT (LOt_ok (c := cf) (callF := call cf k) (kp := kps 31) (nt := Try.f31.ntmps) (k := k) (p := 0) (b := 0) (x0 := lb Try.f31 0) (l := [LIq154 k, LIq155 k]) (qA (fun _ => loq154 k) (qA (fun h => absurd (show (2 : Nat) = 0 from h) (by decide)) qT)))) (qA (qA qT (LOt_ok (c := cf) (callF := call cf k) (kp := kps 31) (nt := Try.f31.ntmps) (k := k) (p := 0) (b := 2) (x0 := lb Try.f31 1) (l := [LIq154 k, LIq155 k]) (qA (fun h => absurd (show (0 : Nat) = 2 from h) (by decide)) (qA (fun _ => loq155 k) qT)))) (qA (qA qT (qA (qA qT qT) qT)) (qA qT qT)))))
theorem stq100 (k : Nat) (x : shq100.D) : Fshuntref05_Valid (k + 1) x.1 x.2.1 x.2.2.1 x.2.2.2 = body2 cf (fun f a b K => COt f a b K [Iq99 k, Iq96 k, Iq95 k, Iq92 k]) (fun b _ σ K => LOt Ty (kps 31) 0 b σ K [LIq154 k, LIq155 k]) 31 Try.f31.ntmps Try.f31.results.toList (bd Try.f31) (shq100.enc x).1 (shq100.enc x).2 (putS FS.dec rsq100) := by kernel_rfl
theorem okq100 : ∀ k, InstOk (call cf k) (Iq100 k)
 | 0 => fun x y e => absurd (show (none : Option _) = some y from e) (by simp)
 | k + 1 => inst_ok (c := cf) (k := k) (f := 31) (fn := Try.f31) (body := bd Try.f31) (sh := shq100) (os := rsq100) rfl Try.func31 rfl ⟨rfl, Nat.le_of_ble_eq_true rfl⟩ (COt_ok (alq100 k)) (anq100 k) (fun x => Fshuntref05_Valid (k + 1) x.1 x.2.1 x.2.2.1 x.2.2.2) (stq100 k)

/-! shunt/shuntref05.Fault -/
def bshuntref05_Fault (k : Nat) (m0 : ByteArray) (m1 : Int) (m2 : List (Int × Int)) (m3 : List (Int × Int)) (k1 : Int) : Option (Int) :=
 Option.bind (Fshuntref05_Valid k m0 m1 m2 m3) fun r1 =>
 if ((!r1) = true) then
 (some (50 : Int))
 else
 if ((decide (k1 < (0 : Int))) = false) then
 if ((decide (k1 > (IntKind.wrap .i64 ((((List.length m2) : Nat) : Int) - (1 : Int))))) = true) then
 (some (111 : Int))
 else
 (some (0 : Int))
 else
 (some (111 : Int))
def Fshuntref05_Fault : Nat → ByteArray → Int → List (Int × Int) → List (Int × Int) → Int → Option (Int)
 | 0, _, _, _, _, _ => none
 | k + 1, m0, m1, m2, m3, k1 => bshuntref05_Fault k m0 m1 m2 m3 k1
def shq98 : FS := { vs := [.g [.lf .str, .lf (.int .u8), .lf (.sl (.pr (.int .i64) (.int .i64))), .lf (.sl (.pr (.int .i64) (.int .i64)))], .a (.lf (.int .i64))], bs := [] }
def rsq98 : List FS := [{ vs := [.a (.lf (.int .i64))], bs := [] }]
def Iq98 (k : Nat) : Inst := ⟨12, shq98, rsq98, fun x => Fshuntref05_Fault k x.1 x.2.1 x.2.2.1 x.2.2.2.1 x.2.2.2.2⟩
theorem alq98 (k : Nat) : AllI (call cf k) [Iq100 k] := qA (okq100 k) qT
theorem anq98 (k : Nat) : LAll (LOk (R := DS FS.D rsq98) (fun b _ σ K => LOt Ty (kps 12) 0 b σ K []) cf (call cf k) (cf.keep 12) Try.f12.ntmps k shq98.bs.length) 0 (bd Try.f12) :=
 qA qT (qA (qA qT (qA (qA qT qT) qT)) (qA (qA qT (qA (qA qT qT) qT)) (qA qT qT)))
theorem stq98 (k : Nat) (x : shq98.D) : Fshuntref05_Fault (k + 1) x.1 x.2.1 x.2.2.1 x.2.2.2.1 x.2.2.2.2 = body2 cf (fun f a b K => COt f a b K [Iq100 k]) (fun b _ σ K => LOt Ty (kps 12) 0 b σ K []) 12 Try.f12.ntmps Try.f12.results.toList (bd Try.f12) (shq98.enc x).1 (shq98.enc x).2 (putS FS.dec rsq98) := by kernel_rfl
theorem okq98 : ∀ k, InstOk (call cf k) (Iq98 k)
 | 0 => fun x y e => absurd (show (none : Option _) = some y from e) (by simp)
 | k + 1 => inst_ok (c := cf) (k := k) (f := 12) (fn := Try.f12) (body := bd Try.f12) (sh := shq98) (os := rsq98) rfl Try.func12 rfl ⟨rfl, Nat.le_of_ble_eq_true rfl⟩ (COt_ok (alq98 k)) (anq98 k) (fun x => Fshuntref05_Fault (k + 1) x.1 x.2.1 x.2.2.1 x.2.2.2.1 x.2.2.2.2) (stq98 k)

/-! shunt/shuntlaw05.whole -/
def bshuntlaw05_whole (k : Nat) (v : Int) : Option (Bool × List Int × Bool × List Int) :=
 Option.bind (Flimb_Of k v) fun r3 =>
 Option.bind (Flimb_Of k (1 : Int)) fun r4 =>
 (some (r3.1, r3.2, r4.1, r4.2))
def Fshuntlaw05_whole : Nat → Int → Option (Bool × List Int × Bool × List Int)
 | 0, _ => none
 | k + 1, v => bshuntlaw05_whole k v
def shq74 : FS := { vs := [.a (.lf (.int .i64))], bs := [] }
def rsq74 : List FS := [{ vs := [.g [.lf .bool, .lf (.sl (.int .u32)), .lf .bool, .lf (.sl (.int .u32))]], bs := [] }]
def Iq74 (k : Nat) : Inst := ⟨26, shq74, rsq74, fun x => Fshuntlaw05_whole k x⟩
theorem alq74 (k : Nat) : AllI (call cf k) [Iq47 k] := qA (okq47 k) qT
theorem anq74 (k : Nat) : LAll (LOk (R := DS FS.D rsq74) (fun b _ σ K => LOt Ty (kps 26) 0 b σ K []) cf (call cf k) (cf.keep 26) Try.f26.ntmps k shq74.bs.length) 0 (bd Try.f26) :=
 qA qT (qA qT qT)
theorem stq74 (k : Nat) (x : shq74.D) : Fshuntlaw05_whole (k + 1) x = body2 cf (fun f a b K => COt f a b K [Iq47 k]) (fun b _ σ K => LOt Ty (kps 26) 0 b σ K []) 26 Try.f26.ntmps Try.f26.results.toList (bd Try.f26) (shq74.enc x).1 (shq74.enc x).2 (putS FS.dec rsq74) := by kernel_rfl
theorem okq74 : ∀ k, InstOk (call cf k) (Iq74 k)
 | 0 => fun x y e => absurd (show (none : Option _) = some y from e) (by simp)
 | k + 1 => inst_ok (c := cf) (k := k) (f := 26) (fn := Try.f26) (body := bd Try.f26) (sh := shq74) (os := rsq74) rfl Try.func26 rfl ⟨rfl, Nat.le_of_ble_eq_true rfl⟩ (COt_ok (alq74 k)) (anq74 k) (fun x => Fshuntlaw05_whole (k + 1) x) (stq74 k)

/-! shunt/rat.all -/
def Lrat_all_0s (k : Nat) (rec : Int → List ((Bool × List Int) × Bool × List Int) → Int → Int → Option ((Int × Bool × List Int × Bool × List Int) ⊕ (Int))) (worst : Int) (x : List ((Bool × List Int) × Bool × List Int)) (x1 : Int) (x2 : Int) : Option ((Int × Bool × List Int × Bool × List Int) ⊕ (Int)) :=
 if ((decide (x2 < x1)) = true) then
 if ((0 : Int) ≤ x2) then
 Option.bind (x)[(Int.toNat x2)]? fun x3 =>
 Option.bind (Frat_Check k x3.1.1 x3.1.2 x3.2.1 x3.2.2) fun r4 =>
 if ((r4 == (10 : Int)) = true) then
 (some (Sum.inl ((10 : Int), x3.1.1, x3.1.2, x3.2.1, x3.2.2)))
 else
 if ((r4 == (20 : Int)) = true) then
 rec (20 : Int) x x1 (IntKind.wrap .i64 (x2 + (1 : Int)))
 else
 rec worst x x1 (IntKind.wrap .i64 (x2 + (1 : Int)))
 else
 none
 else
 (some (Sum.inr worst))
def Lrat_all_0 (k n : Nat) : Int → List ((Bool × List Int) × Bool × List Int) → Int → Int → Option ((Int × Bool × List Int × Bool × List Int) ⊕ (Int)) := Nat.rec (fun _ _ _ _ => none) (fun _ r => Lrat_all_0s k r) n
def brat_all (k : Nat) (l : List ((Bool × List Int) × Bool × List Int)) : Option (Int) :=
 Option.bind (Lrat_all_0 k k (0 : Int) l (((List.length l) : Nat) : Int) (0 : Int)) fun r4 =>
 eitherK r4
 (fun r4 =>
 (some r4.1))
 (fun r4 =>
 (some r4))
def Frat_all : Nat → List ((Bool × List Int) × Bool × List Int) → Option (Int)
 | 0, _ => none
 | k + 1, l => brat_all k l
def shq67 : FS := { vs := [.a (.lf (.sl (.pr (.pr .bool (.sl (.int .u32))) (.pr .bool (.sl (.int .u32))))))], bs := [] }
def rsq67 : List FS := [{ vs := [.a (.lf (.int .i64))], bs := [] }]
def Iq67 (k : Nat) : Inst := ⟨69, shq67, rsq67, fun x => Frat_all k x⟩
theorem alq67 (k : Nat) : AllI (call cf k) [Iq64 k] := qA (okq64 k) qT
def hsq139 : List SS := [{ fr := [(3, .a (.lf (.int .i64))), (6, .a (.lf (.sl (.pr (.pr .bool (.sl (.int .u32))) (.pr .bool (.sl (.int .u32))))))), (7, .a (.lf (.int .i64))), (8, .a (.lf (.int .i64)))], mem := [], nx := 0 }]
def osq139 : List OS := [⟨none, { fr := [(2, .a (.lf (.int .i64)))], mem := [(0, some (.raw [[.lf .bool, .lf (.sl (.int .u32)), .lf .bool, .lf (.sl (.int .u32))]] 4 29 true false))], nx := 1 }⟩, ⟨some 0, { fr := [(3, .a (.lf (.int .i64)))], mem := [], nx := 0 }⟩]
def LIq139 (k : Nat) : LInst := ⟨0, hsq139, osq139, fun x => Lrat_all_0 k k x.1 x.2.1 x.2.2.1 x.2.2.2⟩
theorem anq139 (k : Nat) : LAll (LOk (R := DS OS.D osq139) (fun b _ σ K => LOt Ty (kps 69) 0 b σ K []) cf (call cf k) (kps 69) Try.f69.ntmps k 0) 0 (lb Try.f69 0) :=
 qA qT (qA (qA qT qT) (qA (qA qT (qA qT (qA qT (qA (qA qT qT) (qA qT (qA qT qT)))))) qT))
theorem stq139 (k n : Nat) (x : DS SS.D hsq139) : Lrat_all_0 k (n + 1) x.1 x.2.1 x.2.2.1 x.2.2.2 = encSK SS.enc (fun σ => run2 cf (fun f a b K => COt f a b K [Iq64 k]) (fun b _ σ K => LOt Ty (kps 69) 0 b σ K []) Try.f69.ntmps 0 (lb Try.f69 0) σ (nextK Ty (kps 69 0) 0 hsq139 osq139 fun x => Lrat_all_0 k n x.1 x.2.1 x.2.2.1 x.2.2.2)) hsq139 x := by kernel_rfl
theorem loq139 (k : Nat) : LIOk cf (call cf k) (kps 69) Try.f69.ntmps k 0 0 (lb Try.f69 0) (LIq139 k) :=
 loop_ok (c := cf) (callF := call cf k) (kp := kps 69) (nt := Try.f69.ntmps) (k := k) (p := 0) (b := 0) (x0 := lb Try.f69 0) (hs := hsq139) (os := osq139) (COt_ok (alq67 k)) (anq139 k) (fun n x => Lrat_all_0 k n x.1 x.2.1 x.2.2.1 x.2.2.2) (fun _ => rfl) (stq139 k)
theorem anq67 (k : Nat) : LAll (LOk (R := DS FS.D rsq67) (fun b _ σ K => LOt Ty (kps 69) 0 b σ K [LIq139 k]) cf (call cf k) (cf.keep 69) Try.f69.ntmps k shq67.bs.length) 0 (bd Try.f69) :=
 qA qT (qA qT (qA (qA qT (LOt_ok (c := cf) (callF := call cf k) (kp := kps 69) (nt := Try.f69.ntmps) (k := k) (p := 0) (b := 0) (x0 := lb Try.f69 0) (l := [LIq139 k]) (qA (fun _ => loq139 k) qT))) (qA qT qT)))
theorem stq67 (k : Nat) (x : shq67.D) : Frat_all (k + 1) x = body2 cf (fun f a b K => COt f a b K [Iq64 k]) (fun b _ σ K => LOt Ty (kps 69) 0 b σ K [LIq139 k]) 69 Try.f69.ntmps Try.f69.results.toList (bd Try.f69) (shq67.enc x).1 (shq67.enc x).2 (putS FS.dec rsq67) := by kernel_rfl
theorem okq67 : ∀ k, InstOk (call cf k) (Iq67 k)
 | 0 => fun x y e => absurd (show (none : Option _) = some y from e) (by simp)
 | k + 1 => inst_ok (c := cf) (k := k) (f := 69) (fn := Try.f69) (body := bd Try.f69) (sh := shq67) (os := rsq67) rfl Try.func69 rfl ⟨rfl, Nat.le_of_ble_eq_true rfl⟩ (COt_ok (alq67 k)) (anq67 k) (fun x => Frat_all (k + 1) x) (stq67 k)

/-! shunt/rat.two -/
def brat_two_ikf (k : Nat) (a0 : Bool) (a1 : List Int) (a2 : Bool) (a3 : List Int) (b0 : Bool) (b1 : List Int) (b2 : Bool) (b3 : List Int) : Option (Bool × List Int × Bool × List Int × Int) :=
 Option.bind (Frat_all k (List.take 2 (((a0, a1), (a2, a3)) :: (((b0, b1), (b2, b3)) :: [])))) fun r4 =>
 if ((r4 != (0 : Int)) = true) then
 (some (false, [], false, [], r4))
 else
 Option.bind (Fwide_Rat k a0 a1 a2 a3) fun r5 =>
 Option.bind (Fwide_Rat k b0 b1 b2 b3) fun r6 =>
 Option.bind (Fbig_Rat_Mul_cwi k false false r5.1 r5.2.1 r5.2.2.1 r5.2.2.2 r6.1 r6.2.1 r6.2.2.1 r6.2.2.2) fun r7 =>
 Option.bind (Frat_answer_plq k r7.1 r7.2.1 r7.2.2.1 r7.2.2.2.1) fun r8 =>
 (some (r8.1, r8.2.1, r8.2.2.1, r8.2.2.2.1, r8.2.2.2.2.1))
def Frat_two_ikf : Nat → Bool → List Int → Bool → List Int → Bool → List Int → Bool → List Int → Option (Bool × List Int × Bool × List Int × Int)
 | 0, _, _, _, _, _, _, _, _ => none
 | k + 1, a0, a1, a2, a3, b0, b1, b2, b3 => brat_two_ikf k a0 a1 a2 a3 b0 b1 b2 b3
def shq69 : FS := { vs := [.g [.lf .bool, .lf (.sl (.int .u32)), .lf .bool, .lf (.sl (.int .u32))], .g [.lf .bool, .lf (.sl (.int .u32)), .lf .bool, .lf (.sl (.int .u32))], .a (.fn 54)], bs := [] }
def rsq69 : List FS := [{ vs := [.g [.lf .bool, .lf (.sl (.int .u32)), .lf .bool, .lf (.sl (.int .u32))], .a (.lf (.int .i64))], bs := [] }]
def Iq69 (k : Nat) : Inst := ⟨60, shq69, rsq69, fun x => Frat_two_ikf k x.1 x.2.1 x.2.2.1 x.2.2.2.1 x.2.2.2.2.1 x.2.2.2.2.2.1 x.2.2.2.2.2.2.1 x.2.2.2.2.2.2.2⟩
theorem alq69 (k : Nat) : AllI (call cf k) [Iq67 k, Iq104 k, Iq27 k, Iq68 k] := qA (okq67 k) (qA (okq104 k) (qA (okq27 k) (qA (okq68 k) qT)))
theorem anq69 (k : Nat) : LAll (LOk (R := DS FS.D rsq69) (fun b _ σ K => LOt Ty (kps 60) 0 b σ K []) cf (call cf k) (cf.keep 60) Try.f60.ntmps k shq69.bs.length) 0 (bd Try.f60) :=
 qA qT (qA (qA qT (qA qT (qA (qA qT qT) qT))) (qA qT qT))
theorem stq69 (k : Nat) (x : shq69.D) : Frat_two_ikf (k + 1) x.1 x.2.1 x.2.2.1 x.2.2.2.1 x.2.2.2.2.1 x.2.2.2.2.2.1 x.2.2.2.2.2.2.1 x.2.2.2.2.2.2.2 = body2 cf (fun f a b K => COt f a b K [Iq67 k, Iq104 k, Iq27 k, Iq68 k]) (fun b _ σ K => LOt Ty (kps 60) 0 b σ K []) 60 Try.f60.ntmps Try.f60.results.toList (bd Try.f60) (shq69.enc x).1 (shq69.enc x).2 (putS FS.dec rsq69) := by kernel_rfl
theorem okq69 : ∀ k, InstOk (call cf k) (Iq69 k)
 | 0 => fun x y e => absurd (show (none : Option _) = some y from e) (by simp)
 | k + 1 => inst_ok (c := cf) (k := k) (f := 60) (fn := Try.f60) (body := bd Try.f60) (sh := shq69) (os := rsq69) rfl Try.func60 rfl ⟨rfl, Nat.le_of_ble_eq_true rfl⟩ (COt_ok (alq69 k)) (anq69 k) (fun x => Frat_two_ikf (k + 1) x.1 x.2.1 x.2.2.1 x.2.2.2.1 x.2.2.2.2.1 x.2.2.2.2.2.1 x.2.2.2.2.2.2.1 x.2.2.2.2.2.2.2) (stq69 k)

/-! shunt/rat.Mul -/
def brat_Mul (k : Nat) (a0 : Bool) (a1 : List Int) (a2 : Bool) (a3 : List Int) (b0 : Bool) (b1 : List Int) (b2 : Bool) (b3 : List Int) : Option (Bool × List Int × Bool × List Int × Int) :=
 Option.bind (Frat_two_ikf k a0 a1 a2 a3 b0 b1 b2 b3) fun r4 =>
 (some (r4.1, r4.2.1, r4.2.2.1, r4.2.2.2.1, r4.2.2.2.2))
def Frat_Mul : Nat → Bool → List Int → Bool → List Int → Bool → List Int → Bool → List Int → Option (Bool × List Int × Bool × List Int × Int)
 | 0, _, _, _, _, _, _, _, _ => none
 | k + 1, a0, a1, a2, a3, b0, b1, b2, b3 => brat_Mul k a0 a1 a2 a3 b0 b1 b2 b3
def shq66 : FS := { vs := [.g [.lf .bool, .lf (.sl (.int .u32)), .lf .bool, .lf (.sl (.int .u32))], .g [.lf .bool, .lf (.sl (.int .u32)), .lf .bool, .lf (.sl (.int .u32))]], bs := [] }
def rsq66 : List FS := [{ vs := [.g [.lf .bool, .lf (.sl (.int .u32)), .lf .bool, .lf (.sl (.int .u32))], .a (.lf (.int .i64))], bs := [] }]
def Iq66 (k : Nat) : Inst := ⟨25, shq66, rsq66, fun x => Frat_Mul k x.1 x.2.1 x.2.2.1 x.2.2.2.1 x.2.2.2.2.1 x.2.2.2.2.2.1 x.2.2.2.2.2.2.1 x.2.2.2.2.2.2.2⟩
theorem alq66 (k : Nat) : AllI (call cf k) [Iq69 k] := qA (okq69 k) qT
theorem anq66 (k : Nat) : LAll (LOk (R := DS FS.D rsq66) (fun b _ σ K => LOt Ty (kps 25) 0 b σ K []) cf (call cf k) (cf.keep 25) Try.f25.ntmps k shq66.bs.length) 0 (bd Try.f25) :=
 qA qT (qA qT qT)
theorem stq66 (k : Nat) (x : shq66.D) : Frat_Mul (k + 1) x.1 x.2.1 x.2.2.1 x.2.2.2.1 x.2.2.2.2.1 x.2.2.2.2.2.1 x.2.2.2.2.2.2.1 x.2.2.2.2.2.2.2 = body2 cf (fun f a b K => COt f a b K [Iq69 k]) (fun b _ σ K => LOt Ty (kps 25) 0 b σ K []) 25 Try.f25.ntmps Try.f25.results.toList (bd Try.f25) (shq66.enc x).1 (shq66.enc x).2 (putS FS.dec rsq66) := by kernel_rfl
theorem okq66 : ∀ k, InstOk (call cf k) (Iq66 k)
 | 0 => fun x y e => absurd (show (none : Option _) = some y from e) (by simp)
 | k + 1 => inst_ok (c := cf) (k := k) (f := 25) (fn := Try.f25) (body := bd Try.f25) (sh := shq66) (os := rsq66) rfl Try.func25 rfl ⟨rfl, Nat.le_of_ble_eq_true rfl⟩ (COt_ok (alq66 k)) (anq66 k) (fun x => Frat_Mul (k + 1) x.1 x.2.1 x.2.2.1 x.2.2.2.1 x.2.2.2.2.1 x.2.2.2.2.2.1 x.2.2.2.2.2.2.1 x.2.2.2.2.2.2.2) (stq66 k)

/-! shunt/rat.two -/
def brat_two_xgr (k : Nat) (a0 : Bool) (a1 : List Int) (a2 : Bool) (a3 : List Int) (b0 : Bool) (b1 : List Int) (b2 : Bool) (b3 : List Int) : Option (Bool × List Int × Bool × List Int × Int) :=
 Option.bind (Frat_all k (List.take 2 (((a0, a1), (a2, a3)) :: (((b0, b1), (b2, b3)) :: [])))) fun r8 =>
 if ((r8 != (0 : Int)) = true) then
 (some (false, [], false, [], r8))
 else
 Option.bind (Fwide_Rat k a0 a1 a2 a3) fun r9 =>
 Option.bind (Fwide_Rat k b0 b1 b2 b3) fun r10 =>
 Option.bind (Fbig_Rat_Add_cwi k false false r9.1 r9.2.1 r9.2.2.1 r9.2.2.2 r10.1 r10.2.1 r10.2.2.1 r10.2.2.2) fun r11 =>
 Option.bind (Frat_answer_plq k r11.1 r11.2.1 r11.2.2.1 r11.2.2.2.1) fun r12 =>
 (some (r12.1, r12.2.1, r12.2.2.1, r12.2.2.2.1, r12.2.2.2.2.1))
def Frat_two_xgr : Nat → Bool → List Int → Bool → List Int → Bool → List Int → Bool → List Int → Option (Bool × List Int × Bool × List Int × Int)
 | 0, _, _, _, _, _, _, _, _ => none
 | k + 1, a0, a1, a2, a3, b0, b1, b2, b3 => brat_two_xgr k a0 a1 a2 a3 b0 b1 b2 b3
def shq70 : FS := { vs := [.g [.lf .bool, .lf (.sl (.int .u32)), .lf .bool, .lf (.sl (.int .u32))], .g [.lf .bool, .lf (.sl (.int .u32)), .lf .bool, .lf (.sl (.int .u32))], .a (.fn 63)], bs := [] }
def rsq70 : List FS := [{ vs := [.g [.lf .bool, .lf (.sl (.int .u32)), .lf .bool, .lf (.sl (.int .u32))], .a (.lf (.int .i64))], bs := [] }]
def Iq70 (k : Nat) : Inst := ⟨60, shq70, rsq70, fun x => Frat_two_xgr k x.1 x.2.1 x.2.2.1 x.2.2.2.1 x.2.2.2.2.1 x.2.2.2.2.2.1 x.2.2.2.2.2.2.1 x.2.2.2.2.2.2.2⟩
theorem alq70 (k : Nat) : AllI (call cf k) [Iq67 k, Iq104 k, Iq21 k, Iq68 k] := qA (okq67 k) (qA (okq104 k) (qA (okq21 k) (qA (okq68 k) qT)))
theorem anq70 (k : Nat) : LAll (LOk (R := DS FS.D rsq70) (fun b _ σ K => LOt Ty (kps 60) 0 b σ K []) cf (call cf k) (cf.keep 60) Try.f60.ntmps k shq70.bs.length) 0 (bd Try.f60) :=
 qA qT (qA (qA qT (qA qT (qA (qA qT qT) qT))) (qA qT qT))
theorem stq70 (k : Nat) (x : shq70.D) : Frat_two_xgr (k + 1) x.1 x.2.1 x.2.2.1 x.2.2.2.1 x.2.2.2.2.1 x.2.2.2.2.2.1 x.2.2.2.2.2.2.1 x.2.2.2.2.2.2.2 = body2 cf (fun f a b K => COt f a b K [Iq67 k, Iq104 k, Iq21 k, Iq68 k]) (fun b _ σ K => LOt Ty (kps 60) 0 b σ K []) 60 Try.f60.ntmps Try.f60.results.toList (bd Try.f60) (shq70.enc x).1 (shq70.enc x).2 (putS FS.dec rsq70) := by kernel_rfl
theorem okq70 : ∀ k, InstOk (call cf k) (Iq70 k)
 | 0 => fun x y e => absurd (show (none : Option _) = some y from e) (by simp)
 | k + 1 => inst_ok (c := cf) (k := k) (f := 60) (fn := Try.f60) (body := bd Try.f60) (sh := shq70) (os := rsq70) rfl Try.func60 rfl ⟨rfl, Nat.le_of_ble_eq_true rfl⟩ (COt_ok (alq70 k)) (anq70 k) (fun x => Frat_two_xgr (k + 1) x.1 x.2.1 x.2.2.1 x.2.2.2.1 x.2.2.2.2.1 x.2.2.2.2.2.1 x.2.2.2.2.2.2.1 x.2.2.2.2.2.2.2) (stq70 k)

/-! shunt/rat.Add -/
def brat_Add (k : Nat) (a0 : Bool) (a1 : List Int) (a2 : Bool) (a3 : List Int) (b0 : Bool) (b1 : List Int) (b2 : Bool) (b3 : List Int) : Option (Bool × List Int × Bool × List Int × Int) :=
 Option.bind (Frat_two_xgr k a0 a1 a2 a3 b0 b1 b2 b3) fun r8 =>
 (some (r8.1, r8.2.1, r8.2.2.1, r8.2.2.2.1, r8.2.2.2.2))
def Frat_Add : Nat → Bool → List Int → Bool → List Int → Bool → List Int → Bool → List Int → Option (Bool × List Int × Bool × List Int × Int)
 | 0, _, _, _, _, _, _, _, _ => none
 | k + 1, a0, a1, a2, a3, b0, b1, b2, b3 => brat_Add k a0 a1 a2 a3 b0 b1 b2 b3
def shq63 : FS := { vs := [.g [.lf .bool, .lf (.sl (.int .u32)), .lf .bool, .lf (.sl (.int .u32))], .g [.lf .bool, .lf (.sl (.int .u32)), .lf .bool, .lf (.sl (.int .u32))]], bs := [] }
def rsq63 : List FS := [{ vs := [.g [.lf .bool, .lf (.sl (.int .u32)), .lf .bool, .lf (.sl (.int .u32))], .a (.lf (.int .i64))], bs := [] }]
def Iq63 (k : Nat) : Inst := ⟨64, shq63, rsq63, fun x => Frat_Add k x.1 x.2.1 x.2.2.1 x.2.2.2.1 x.2.2.2.2.1 x.2.2.2.2.2.1 x.2.2.2.2.2.2.1 x.2.2.2.2.2.2.2⟩
theorem alq63 (k : Nat) : AllI (call cf k) [Iq70 k] := qA (okq70 k) qT
theorem anq63 (k : Nat) : LAll (LOk (R := DS FS.D rsq63) (fun b _ σ K => LOt Ty (kps 64) 0 b σ K []) cf (call cf k) (cf.keep 64) Try.f64.ntmps k shq63.bs.length) 0 (bd Try.f64) :=
 qA qT (qA qT qT)
theorem stq63 (k : Nat) (x : shq63.D) : Frat_Add (k + 1) x.1 x.2.1 x.2.2.1 x.2.2.2.1 x.2.2.2.2.1 x.2.2.2.2.2.1 x.2.2.2.2.2.2.1 x.2.2.2.2.2.2.2 = body2 cf (fun f a b K => COt f a b K [Iq70 k]) (fun b _ σ K => LOt Ty (kps 64) 0 b σ K []) 64 Try.f64.ntmps Try.f64.results.toList (bd Try.f64) (shq63.enc x).1 (shq63.enc x).2 (putS FS.dec rsq63) := by kernel_rfl
theorem okq63 : ∀ k, InstOk (call cf k) (Iq63 k)
 | 0 => fun x y e => absurd (show (none : Option _) = some y from e) (by simp)
 | k + 1 => inst_ok (c := cf) (k := k) (f := 64) (fn := Try.f64) (body := bd Try.f64) (sh := shq63) (os := rsq63) rfl Try.func64 rfl ⟨rfl, Nat.le_of_ble_eq_true rfl⟩ (COt_ok (alq63 k)) (anq63 k) (fun x => Frat_Add (k + 1) x.1 x.2.1 x.2.2.1 x.2.2.2.1 x.2.2.2.2.1 x.2.2.2.2.2.1 x.2.2.2.2.2.2.1 x.2.2.2.2.2.2.2) (stq63 k)

/-! shunt/shuntlaw05.line -/
def bshuntlaw05_line (k : Nat) (g0 : Bool) (g1 : List Int) (g2 : Bool) (g3 : List Int) (c0 : Bool) (c1 : List Int) (c2 : Bool) (c3 : List Int) (u0 : Bool) (u1 : List Int) (u2 : Bool) (u3 : List Int) : Option (Bool × List Int × Bool × List Int) :=
 Option.bind (Frat_Mul k g0 g1 g2 g3 u0 u1 u2 u3) fun r7 =>
 Option.bind (Frat_Add k r7.1 r7.2.1 r7.2.2.1 r7.2.2.2.1 c0 c1 c2 c3) fun r8 =>
 (some (r8.1, r8.2.1, r8.2.2.1, r8.2.2.2.1))
def Fshuntlaw05_line : Nat → Bool → List Int → Bool → List Int → Bool → List Int → Bool → List Int → Bool → List Int → Bool → List Int → Option (Bool × List Int × Bool × List Int)
 | 0, _, _, _, _, _, _, _, _, _, _, _, _ => none
 | k + 1, g0, g1, g2, g3, c0, c1, c2, c3, u0, u1, u2, u3 => bshuntlaw05_line k g0 g1 g2 g3 c0 c1 c2 c3 u0 u1 u2 u3
def shq73 : FS := { vs := [.g [.lf .bool, .lf (.sl (.int .u32)), .lf .bool, .lf (.sl (.int .u32))], .g [.lf .bool, .lf (.sl (.int .u32)), .lf .bool, .lf (.sl (.int .u32))], .g [.lf .bool, .lf (.sl (.int .u32)), .lf .bool, .lf (.sl (.int .u32))]], bs := [] }
def rsq73 : List FS := [{ vs := [.g [.lf .bool, .lf (.sl (.int .u32)), .lf .bool, .lf (.sl (.int .u32))]], bs := [] }]
def Iq73 (k : Nat) : Inst := ⟨28, shq73, rsq73, fun x => Fshuntlaw05_line k x.1 x.2.1 x.2.2.1 x.2.2.2.1 x.2.2.2.2.1 x.2.2.2.2.2.1 x.2.2.2.2.2.2.1 x.2.2.2.2.2.2.2.1 x.2.2.2.2.2.2.2.2.1 x.2.2.2.2.2.2.2.2.2.1 x.2.2.2.2.2.2.2.2.2.2.1 x.2.2.2.2.2.2.2.2.2.2.2⟩
theorem alq73 (k : Nat) : AllI (call cf k) [Iq66 k, Iq63 k] := qA (okq66 k) (qA (okq63 k) qT)
theorem anq73 (k : Nat) : LAll (LOk (R := DS FS.D rsq73) (fun b _ σ K => LOt Ty (kps 28) 0 b σ K []) cf (call cf k) (cf.keep 28) Try.f28.ntmps k shq73.bs.length) 0 (bd Try.f28) :=
 qA qT (qA qT (qA qT (qA qT qT)))
theorem stq73 (k : Nat) (x : shq73.D) : Fshuntlaw05_line (k + 1) x.1 x.2.1 x.2.2.1 x.2.2.2.1 x.2.2.2.2.1 x.2.2.2.2.2.1 x.2.2.2.2.2.2.1 x.2.2.2.2.2.2.2.1 x.2.2.2.2.2.2.2.2.1 x.2.2.2.2.2.2.2.2.2.1 x.2.2.2.2.2.2.2.2.2.2.1 x.2.2.2.2.2.2.2.2.2.2.2 = body2 cf (fun f a b K => COt f a b K [Iq66 k, Iq63 k]) (fun b _ σ K => LOt Ty (kps 28) 0 b σ K []) 28 Try.f28.ntmps Try.f28.results.toList (bd Try.f28) (shq73.enc x).1 (shq73.enc x).2 (putS FS.dec rsq73) := by kernel_rfl
theorem okq73 : ∀ k, InstOk (call cf k) (Iq73 k)
 | 0 => fun x y e => absurd (show (none : Option _) = some y from e) (by simp)
 | k + 1 => inst_ok (c := cf) (k := k) (f := 28) (fn := Try.f28) (body := bd Try.f28) (sh := shq73) (os := rsq73) rfl Try.func28 rfl ⟨rfl, Nat.le_of_ble_eq_true rfl⟩ (COt_ok (alq73 k)) (anq73 k) (fun x => Fshuntlaw05_line (k + 1) x.1 x.2.1 x.2.2.1 x.2.2.2.1 x.2.2.2.2.1 x.2.2.2.2.2.1 x.2.2.2.2.2.2.1 x.2.2.2.2.2.2.2.1 x.2.2.2.2.2.2.2.2.1 x.2.2.2.2.2.2.2.2.2.1 x.2.2.2.2.2.2.2.2.2.2.1 x.2.2.2.2.2.2.2.2.2.2.2) (stq73 k)

/-! shunt/shuntref01.Same -/
def Lshuntref01_Same_0s (k : Nat) (rec : Int → Bool → List Int → Bool → List Int → Option ((Bool × Bool × List Int × Bool × List Int) ⊕ (Bool × List Int × Bool × List Int))) (i : Int) (a0 : Bool) (a1 : List Int) (b0 : Bool) (b1 : List Int) : Option ((Bool × Bool × List Int × Bool × List Int) ⊕ (Bool × List Int × Bool × List Int)) :=
 if ((decide (i < (((List.length a1) : Nat) : Int))) = true) then
 if ((0 : Int) ≤ i) then
 Option.bind (a1)[(Int.toNat i)]? fun x1 =>
 if ((0 : Int) ≤ i) then
 Option.bind (b1)[(Int.toNat i)]? fun x2 =>
 if ((x1 != x2) = true) then
 (some (Sum.inl (false, a0, a1, b0, b1)))
 else
 rec (IntKind.wrap .i64 (i + (1 : Int))) a0 a1 b0 b1
 else
 none
 else
 none
 else
 (some (Sum.inr (a0, a1, b0, b1)))
def Lshuntref01_Same_0 (k n : Nat) : Int → Bool → List Int → Bool → List Int → Option ((Bool × Bool × List Int × Bool × List Int) ⊕ (Bool × List Int × Bool × List Int)) := Nat.rec (fun _ _ _ _ _ => none) (fun _ r => Lshuntref01_Same_0s k r) n
def bshuntref01_Same (k : Nat) (a0 : Bool) (a1 : List Int) (b0 : Bool) (b1 : List Int) : Option (Bool) :=
 if ((!(a0 == b0)) = false) then
 if (((((List.length a1) : Nat) : Int) != (((List.length b1) : Nat) : Int)) = true) then
 (some false)
 else
 Option.bind (Lshuntref01_Same_0 k k (0 : Int) a0 a1 b0 b1) fun r11 =>
 eitherK r11
 (fun r11 =>
 (some r11.1))
 (fun r11 =>
 (some true))
 else
 (some false)
def Fshuntref01_Same : Nat → Bool → List Int → Bool → List Int → Option (Bool)
 | 0, _, _, _, _ => none
 | k + 1, a0, a1, b0, b1 => bshuntref01_Same k a0 a1 b0 b1
def shq82 : FS := { vs := [.g [.lf .bool, .lf (.sl (.int .u32))], .g [.lf .bool, .lf (.sl (.int .u32))]], bs := [] }
def rsq82 : List FS := [{ vs := [.a (.lf .bool)], bs := [] }]
def Iq82 (k : Nat) : Inst := ⟨65, shq82, rsq82, fun x => Fshuntref01_Same k x.1 x.2.1 x.2.2.1 x.2.2.2⟩
theorem alq82 (k : Nat) : AllI (call cf k) [] := True.intro
def hsq142 : List SS := [{ fr := [(2, .a (.ptr 0 0 0)), (3, .a (.ptr 1 0 0)), (5, .a (.lf (.int .i64)))], mem := [(0, some (.raw [[.lf .bool, .lf (.sl (.int .u32))]] 2 27 true false)), (1, some (.raw [[.lf .bool, .lf (.sl (.int .u32))]] 2 27 true false))], nx := 2 }]
def osq142 : List OS := [⟨none, { fr := [(4, .a (.lf .bool))], mem := [(0, some (.raw [[.lf .bool, .lf (.sl (.int .u32))]] 2 27 true false)), (1, some (.raw [[.lf .bool, .lf (.sl (.int .u32))]] 2 27 true false))], nx := 2 }⟩, ⟨some 0, { fr := [], mem := [(0, some (.raw [[.lf .bool, .lf (.sl (.int .u32))]] 2 27 true false)), (1, some (.raw [[.lf .bool, .lf (.sl (.int .u32))]] 2 27 true false))], nx := 2 }⟩]
def LIq142 (k : Nat) : LInst := ⟨0, hsq142, osq142, fun x => Lshuntref01_Same_0 k k x.1 x.2.1 x.2.2.1 x.2.2.2.1 x.2.2.2.2⟩
theorem anq142 (k : Nat) : LAll (LOk (R := DS OS.D osq142) (fun b _ σ K => LOt Ty (kps 65) 0 b σ K []) cf (call cf k) (kps 65) Try.f65.ntmps k 0) 0 (lb Try.f65 0) :=
 qA (qA qT (qA qT qT)) (qA (qA qT (qA (qA qT qT) qT)) qT)
theorem stq142 (k n : Nat) (x : DS SS.D hsq142) : Lshuntref01_Same_0 k (n + 1) x.1 x.2.1 x.2.2.1 x.2.2.2.1 x.2.2.2.2 = encSK SS.enc (fun σ => run2 cf (fun f a b K => COt f a b K []) (fun b _ σ K => LOt Ty (kps 65) 0 b σ K []) Try.f65.ntmps 0 (lb Try.f65 0) σ (nextK Ty (kps 65 0) 0 hsq142 osq142 fun x => Lshuntref01_Same_0 k n x.1 x.2.1 x.2.2.1 x.2.2.2.1 x.2.2.2.2)) hsq142 x := by kernel_rfl
theorem loq142 (k : Nat) : LIOk cf (call cf k) (kps 65) Try.f65.ntmps k 0 0 (lb Try.f65 0) (LIq142 k) :=
 loop_ok (c := cf) (callF := call cf k) (kp := kps 65) (nt := Try.f65.ntmps) (k := k) (p := 0) (b := 0) (x0 := lb Try.f65 0) (hs := hsq142) (os := osq142) (COt_ok (alq82 k)) (anq142 k) (fun n x => Lshuntref01_Same_0 k n x.1 x.2.1 x.2.2.1 x.2.2.2.1 x.2.2.2.2) (fun _ => rfl) (stq142 k)
theorem anq82 (k : Nat) : LAll (LOk (R := DS FS.D rsq82) (fun b _ σ K => LOt Ty (kps 65) 0 b σ K [LIq142 k]) cf (call cf k) (cf.keep 65) Try.f65.ntmps k shq82.bs.length) 0 (bd Try.f65) :=
 qA qT (qA (qA qT (qA (qA qT qT) qT)) (qA (qA qT (LOt_ok (c := cf) (callF := call cf k) (kp := kps 65) (nt := Try.f65.ntmps) (k := k) (p := 0) (b := 0) (x0 := lb Try.f65 0) (l := [LIq142 k]) (qA (fun _ => loq142 k) qT))) (qA qT qT)))
theorem stq82 (k : Nat) (x : shq82.D) : Fshuntref01_Same (k + 1) x.1 x.2.1 x.2.2.1 x.2.2.2 = body2 cf (fun f a b K => COt f a b K []) (fun b _ σ K => LOt Ty (kps 65) 0 b σ K [LIq142 k]) 65 Try.f65.ntmps Try.f65.results.toList (bd Try.f65) (shq82.enc x).1 (shq82.enc x).2 (putS FS.dec rsq82) := by kernel_rfl
theorem okq82 : ∀ k, InstOk (call cf k) (Iq82 k)
 | 0 => fun x y e => absurd (show (none : Option _) = some y from e) (by simp)
 | k + 1 => inst_ok (c := cf) (k := k) (f := 65) (fn := Try.f65) (body := bd Try.f65) (sh := shq82) (os := rsq82) rfl Try.func65 rfl ⟨rfl, Nat.le_of_ble_eq_true rfl⟩ (COt_ok (alq82 k)) (anq82 k) (fun x => Fshuntref01_Same (k + 1) x.1 x.2.1 x.2.2.1 x.2.2.2) (stq82 k)

/-! shunt/shuntref02.Same -/
def bshuntref02_Same (k : Nat) (a0 : Bool) (a1 : List Int) (a2 : Bool) (a3 : List Int) (b0 : Bool) (b1 : List Int) (b2 : Bool) (b3 : List Int) : Option (Bool) :=
 Option.bind (Fshuntref01_Same k a0 a1 b0 b1) fun r11 =>
 if (r11 = true) then
 Option.bind (Fshuntref01_Same k a2 a3 b2 b3) fun r12 =>
 (some r12)
 else
 (some false)
def Fshuntref02_Same : Nat → Bool → List Int → Bool → List Int → Bool → List Int → Bool → List Int → Option (Bool)
 | 0, _, _, _, _, _, _, _, _ => none
 | k + 1, a0, a1, a2, a3, b0, b1, b2, b3 => bshuntref02_Same k a0 a1 a2 a3 b0 b1 b2 b3
def shq94 : FS := { vs := [.g [.lf .bool, .lf (.sl (.int .u32)), .lf .bool, .lf (.sl (.int .u32))], .g [.lf .bool, .lf (.sl (.int .u32)), .lf .bool, .lf (.sl (.int .u32))]], bs := [] }
def rsq94 : List FS := [{ vs := [.a (.lf .bool)], bs := [] }]
def Iq94 (k : Nat) : Inst := ⟨29, shq94, rsq94, fun x => Fshuntref02_Same k x.1 x.2.1 x.2.2.1 x.2.2.2.1 x.2.2.2.2.1 x.2.2.2.2.2.1 x.2.2.2.2.2.2.1 x.2.2.2.2.2.2.2⟩
theorem alq94 (k : Nat) : AllI (call cf k) [Iq82 k] := qA (okq82 k) qT
theorem anq94 (k : Nat) : LAll (LOk (R := DS FS.D rsq94) (fun b _ σ K => LOt Ty (kps 29) 0 b σ K []) cf (call cf k) (cf.keep 29) Try.f29.ntmps k shq94.bs.length) 0 (bd Try.f29) :=
 qA qT (qA qT qT)
theorem stq94 (k : Nat) (x : shq94.D) : Fshuntref02_Same (k + 1) x.1 x.2.1 x.2.2.1 x.2.2.2.1 x.2.2.2.2.1 x.2.2.2.2.2.1 x.2.2.2.2.2.2.1 x.2.2.2.2.2.2.2 = body2 cf (fun f a b K => COt f a b K [Iq82 k]) (fun b _ σ K => LOt Ty (kps 29) 0 b σ K []) 29 Try.f29.ntmps Try.f29.results.toList (bd Try.f29) (shq94.enc x).1 (shq94.enc x).2 (putS FS.dec rsq94) := by kernel_rfl
theorem okq94 : ∀ k, InstOk (call cf k) (Iq94 k)
 | 0 => fun x y e => absurd (show (none : Option _) = some y from e) (by simp)
 | k + 1 => inst_ok (c := cf) (k := k) (f := 29) (fn := Try.f29) (body := bd Try.f29) (sh := shq94) (os := rsq94) rfl Try.func29 rfl ⟨rfl, Nat.le_of_ble_eq_true rfl⟩ (COt_ok (alq94 k)) (anq94 k) (fun x => Fshuntref02_Same (k + 1) x.1 x.2.1 x.2.2.1 x.2.2.2.1 x.2.2.2.2.1 x.2.2.2.2.2.1 x.2.2.2.2.2.2.1 x.2.2.2.2.2.2.2) (stq94 k)

/-! shunt/shuntlaw05.ModelUnbroken -/
def bshuntlaw05_ModelUnbroken (k : Nat) (m0 : ByteArray) (m1 : Int) (m2 : List (Int × Int)) (m3 : List (Int × Int)) (k1 : Int) : Option (Bool) :=
 Option.bind (Fshuntlaw05_awake k) fun r =>
 if ((!r) = true) then
 (some false)
 else
 Option.bind (Fshuntref05_Fault k m0 m1 m2 m3 k1) fun r1 =>
 if ((r1 != (0 : Int)) = false) then
 if ((m1 != (100 : Int)) = false) then
 if ((k1 == (0 : Int)) = true) then
 (some true)
 else
 if ((0 : Int) ≤ (IntKind.wrap .i64 (k1 - (1 : Int)))) then
 Option.bind (m3)[(Int.toNat (IntKind.wrap .i64 (k1 - (1 : Int))))]? fun x =>
 Option.bind (Fnum_Value k x.1 x.2) fun r2 =>
 Option.bind (Fshuntlaw05_whole k (1000000000 : Int)) fun r3 =>
 Option.bind (Frat_Mul k r2.1 r2.2.1 r2.2.2.1 r2.2.2.2.1 r3.1 r3.2.1 r3.2.2.1 r3.2.2.2) fun r4 =>
 Option.bind (Fmodel_Part k m0 m1 m2 m3 (IntKind.wrap .i64 (k1 - (1 : Int)))) fun r5 =>
 Option.bind (Fmodel_Part k m0 m1 m2 m3 k1) fun r6 =>
 if (((IntKind.wrap .i64 ((IntKind.wrap .i64 ((IntKind.wrap .i64 (r2.2.2.2.2 + r4.2.2.2.2)) + r5.2.2.2.2.2.2.2.2)) + r6.2.2.2.2.2.2.2.2)) != (0 : Int)) = true) then
 (some false)
 else
 Option.bind (Fshuntlaw05_line k r5.1 r5.2.1 r5.2.2.1 r5.2.2.2.1 r5.2.2.2.2.1 r5.2.2.2.2.2.1 r5.2.2.2.2.2.2.1 r5.2.2.2.2.2.2.2.1 r4.1 r4.2.1 r4.2.2.1 r4.2.2.2.1) fun r7 =>
 Option.bind (Fshuntlaw05_line k r6.1 r6.2.1 r6.2.2.1 r6.2.2.2.1 r6.2.2.2.2.1 r6.2.2.2.2.2.1 r6.2.2.2.2.2.2.1 r6.2.2.2.2.2.2.2.1 r4.1 r4.2.1 r4.2.2.1 r4.2.2.2.1) fun r8 =>
 Option.bind (Fmodel_Side k m0 m1 m2 m3 (IntKind.wrap .i64 (k1 - (1 : Int))) r4.1 r4.2.1 r4.2.2.1 r4.2.2.2.1) fun r9 =>
 Option.bind (Fmodel_Side k m0 m1 m2 m3 k1 r4.1 r4.2.1 r4.2.2.1 r4.2.2.2.1) fun r10 =>
 Option.bind (Fshuntref02_Same k r7.1 r7.2.1 r7.2.2.1 r7.2.2.2 r8.1 r8.2.1 r8.2.2.1 r8.2.2.2) fun r11 =>
 if (r11 = true) then
 if ((r9.2 == (0 : Int)) = true) then
 if ((r10.2 == (0 : Int)) = true) then
 if ((r9.1 == (0 : Int)) = true) then
 (some (r10.1 == (0 : Int)))
 else
 (some false)
 else
 (some false)
 else
 (some false)
 else
 (some false)
 else
 none
 else
 (some true)
 else
 (some true)
def Fshuntlaw05_ModelUnbroken : Nat → ByteArray → Int → List (Int × Int) → List (Int × Int) → Int → Option (Bool)
 | 0, _, _, _, _, _ => none
 | k + 1, m0, m1, m2, m3, k1 => bshuntlaw05_ModelUnbroken k m0 m1 m2 m3 k1
def shq71 : FS := { vs := [.g [.lf .str, .lf (.int .u8), .lf (.sl (.pr (.int .i64) (.int .i64))), .lf (.sl (.pr (.int .i64) (.int .i64)))], .a (.lf (.int .i64))], bs := [] }
def rsq71 : List FS := [{ vs := [.a (.lf .bool)], bs := [] }]
def Iq71 (k : Nat) : Inst := ⟨8, shq71, rsq71, fun x => Fshuntlaw05_ModelUnbroken k x.1 x.2.1 x.2.2.1 x.2.2.2.1 x.2.2.2.2⟩
theorem alq71 (k : Nat) : AllI (call cf k) [Iq72 k, Iq98 k, Iq61 k, Iq74 k, Iq66 k, Iq53 k, Iq73 k, Iq54 k, Iq94 k] := qA (okq72 k) (qA (okq98 k) (qA (okq61 k) (qA (okq74 k) (qA (okq66 k) (qA (okq53 k) (qA (okq73 k) (qA (okq54 k) (qA (okq94 k) qT))))))))
theorem anq71 (k : Nat) : LAll (LOk (R := DS FS.D rsq71) (fun b _ σ K => LOt Ty (kps 8) 0 b σ K []) cf (call cf k) (cf.keep 8) Try.f8.ntmps k shq71.bs.length) 0 (bd Try.f8) :=
 qA qT (qA (qA qT (qA (qA qT qT) qT)) (qA (qA qT (qA (qA qT qT) qT)) (qA qT (qA qT (qA qT (qA qT (qA (qA qT (qA (qA qT qT) qT)) (qA qT (qA qT (qA qT (qA qT qT)))))))))))
theorem stq71 (k : Nat) (x : shq71.D) : Fshuntlaw05_ModelUnbroken (k + 1) x.1 x.2.1 x.2.2.1 x.2.2.2.1 x.2.2.2.2 = body2 cf (fun f a b K => COt f a b K [Iq72 k, Iq98 k, Iq61 k, Iq74 k, Iq66 k, Iq53 k, Iq73 k, Iq54 k, Iq94 k]) (fun b _ σ K => LOt Ty (kps 8) 0 b σ K []) 8 Try.f8.ntmps Try.f8.results.toList (bd Try.f8) (shq71.enc x).1 (shq71.enc x).2 (putS FS.dec rsq71) := by kernel_rfl
theorem okq71 : ∀ k, InstOk (call cf k) (Iq71 k)
 | 0 => fun x y e => absurd (show (none : Option _) = some y from e) (by simp)
 | k + 1 => inst_ok (c := cf) (k := k) (f := 8) (fn := Try.f8) (body := bd Try.f8) (sh := shq71) (os := rsq71) rfl Try.func8 rfl ⟨rfl, Nat.le_of_ble_eq_true rfl⟩ (COt_ok (alq71 k)) (anq71 k) (fun x => Fshuntlaw05_ModelUnbroken (k + 1) x.1 x.2.1 x.2.2.1 x.2.2.2.1 x.2.2.2.2) (stq71 k)


end
end Go.Proofs.Ytbhnafdmilfobaa.Am
