/- Printed functions: each says what the typed machine says of the program -/
import Derived.Test.YtlnailgfialgnaaGreatDoorMP1
import Derived.KernelRfl

set_option linter.unusedVariables false
set_option maxRecDepth 100000
namespace Go.Proofs.YtlnailgfialgnaaGreatDoor.Am
open Go
noncomputable section

/-! shunt/model.Valid -/
def Lmodel_Valid_2s (k : Nat) (rec : List (Int × Int) → List (Int × Int) → Int → List (Int × Int) → Int → Int → ByteArray → Int → List (Int × Int) → List (Int × Int) → Option ((Bool × ByteArray × Int × List (Int × Int) × List (Int × Int) × Int × Int) ⊕ (List (Int × Int) × List (Int × Int) × Int × ByteArray × Int × List (Int × Int) × List (Int × Int)))) (x0 : List (Int × Int)) (x1 : List (Int × Int)) (x : Int) (x2 : List (Int × Int)) (x3 : Int) (x4 : Int) (m0 : ByteArray) (m1 : Int) (m2 : List (Int × Int)) (m3 : List (Int × Int)) : Option ((Bool × ByteArray × Int × List (Int × Int) × List (Int × Int) × Int × Int) ⊕ (List (Int × Int) × List (Int × Int) × Int × ByteArray × Int × List (Int × Int) × List (Int × Int))) :=
 if ((decide (x4 < x3)) = true) then
 if ((0 : Int) ≤ x4) then
 Option.bind (x2)[(Int.toNat x4)]? fun x5 =>
 Option.bind (Fnum_Valid k x5.1 x5.2) fun r8 =>
 if ((!r8) = true) then
 (some (Sum.inl (false, m0, m1, m2, m3, x5.1, x5.2)))
 else
 rec x0 x1 x x2 x3 (IntKind.wrap .i64 (x4 + (1 : Int))) m0 m1 m2 m3
 else
 none
 else
 (some (Sum.inr (x0, x1, x, m0, m1, m2, m3)))
def Lmodel_Valid_2 (k n : Nat) : List (Int × Int) → List (Int × Int) → Int → List (Int × Int) → Int → Int → ByteArray → Int → List (Int × Int) → List (Int × Int) → Option ((Bool × ByteArray × Int × List (Int × Int) × List (Int × Int) × Int × Int) ⊕ (List (Int × Int) × List (Int × Int) × Int × ByteArray × Int × List (Int × Int) × List (Int × Int))) := Nat.rec (fun _ _ _ _ _ _ _ _ _ _ => none) (fun _ r => Lmodel_Valid_2s k r) n
def Lmodel_Valid_0s (k : Nat) (rec : List (Int × Int) → List (Int × Int) → Int → ByteArray → Int → List (Int × Int) → List (Int × Int) → Option ((Bool × ByteArray × Int × List (Int × Int) × List (Int × Int) × Int × Int) ⊕ (ByteArray × Int × List (Int × Int) × List (Int × Int)))) (x0 : List (Int × Int)) (x1 : List (Int × Int)) (x : Int) (m0 : ByteArray) (m1 : Int) (m2 : List (Int × Int)) (m3 : List (Int × Int)) : Option ((Bool × ByteArray × Int × List (Int × Int) × List (Int × Int) × Int × Int) ⊕ (ByteArray × Int × List (Int × Int) × List (Int × Int))) :=
 if ((decide (x < (2 : Int))) = true) then
 if (x = (0 : Int)) then
 Option.bind (Lmodel_Valid_2 k k x0 x1 x x0 (((List.length x0) : Nat) : Int) (0 : Int) m0 m1 m2 m3) fun r8 =>
 eitherK r8
 (fun r8 =>
 (some (Sum.inl (r8.1, r8.2.1, r8.2.2.1, r8.2.2.2.1, r8.2.2.2.2.1, r8.2.2.2.2.2.1, r8.2.2.2.2.2.2))))
 (fun r8 =>
 rec r8.1 r8.2.1 (IntKind.wrap .i64 (r8.2.2.1 + (1 : Int))) r8.2.2.2.1 r8.2.2.2.2.1 r8.2.2.2.2.2.1 r8.2.2.2.2.2.2)
 else
 if ((x - (1 : Int)) = (0 : Int)) then
 Option.bind (Lmodel_Valid_2 k k x0 x1 x x1 (((List.length x1) : Nat) : Int) (0 : Int) m0 m1 m2 m3) fun r8 =>
 eitherK r8
 (fun r8 =>
 (some (Sum.inl (r8.1, r8.2.1, r8.2.2.1, r8.2.2.2.1, r8.2.2.2.2.1, r8.2.2.2.2.2.1, r8.2.2.2.2.2.2))))
 (fun r8 =>
 rec r8.1 r8.2.1 (IntKind.wrap .i64 (r8.2.2.1 + (1 : Int))) r8.2.2.2.1 r8.2.2.2.2.1 r8.2.2.2.2.2.1 r8.2.2.2.2.2.2)
 else
 none
 else
 (some (Sum.inr (m0, m1, m2, m3)))
def Lmodel_Valid_0 (k n : Nat) : List (Int × Int) → List (Int × Int) → Int → ByteArray → Int → List (Int × Int) → List (Int × Int) → Option ((Bool × ByteArray × Int × List (Int × Int) × List (Int × Int) × Int × Int) ⊕ (ByteArray × Int × List (Int × Int) × List (Int × Int))) := Nat.rec (fun _ _ _ _ _ _ _ => none) (fun _ r => Lmodel_Valid_0s k r) n
def Lmodel_Valid_5s (k : Nat) (rec : Int → ByteArray → Int → List (Int × Int) → List (Int × Int) → Option ((Bool × ByteArray × Int × List (Int × Int) × List (Int × Int)) ⊕ (ByteArray × Int × List (Int × Int) × List (Int × Int)))) (i : Int) (m0 : ByteArray) (m1 : Int) (m2 : List (Int × Int)) (m3 : List (Int × Int)) : Option ((Bool × ByteArray × Int × List (Int × Int) × List (Int × Int)) ⊕ (ByteArray × Int × List (Int × Int) × List (Int × Int))) :=
 if ((decide (i < (((List.length m3) : Nat) : Int))) = true) then
 if ((0 : Int) ≤ (IntKind.wrap .i64 (i - (1 : Int)))) then
 Option.bind (m3)[(Int.toNat (IntKind.wrap .i64 (i - (1 : Int))))]? fun x4 =>
 if ((0 : Int) ≤ i) then
 Option.bind (m3)[(Int.toNat i)]? fun x5 =>
 Option.bind (Fnum_Cmp k x4.1 x4.2 x5.1 x5.2) fun r9 =>
 if ((decide (r9.1 ≥ (0 : Int))) = true) then
 (some (Sum.inl (false, m0, m1, m2, m3)))
 else
 rec (IntKind.wrap .i64 (i + (1 : Int))) m0 m1 m2 m3
 else
 none
 else
 none
 else
 (some (Sum.inr (m0, m1, m2, m3)))
def Lmodel_Valid_5 (k n : Nat) : Int → ByteArray → Int → List (Int × Int) → List (Int × Int) → Option ((Bool × ByteArray × Int × List (Int × Int) × List (Int × Int)) ⊕ (ByteArray × Int × List (Int × Int) × List (Int × Int))) := Nat.rec (fun _ _ _ _ _ => none) (fun _ r => Lmodel_Valid_5s k r) n
def bmodel_Valid (k : Nat) (m0 : ByteArray) (m1 : Int) (m2 : List (Int × Int)) (m3 : List (Int × Int)) : Option (Bool) :=
 Option.bind (Fmodel_Name k m0) fun r7 =>
 if ((!r7) = true) then
 (some false)
 else
 Option.bind (Lmodel_Valid_0 k k m2 m3 (0 : Int) m0 m1 m2 m3) fun r8 =>
 eitherK r8
 (fun r8 =>
 (some r8.1))
 (fun r8 =>
 if ((r8.2.1 == (115 : Int)) = true) then
 if (((((List.length r8.2.2.1) : Nat) : Int) == (2 : Int)) = true) then
 (some ((((List.length r8.2.2.2) : Nat) : Int) == (1 : Int)))
 else
 (some false)
 else
 if ((r8.2.1 == (100 : Int)) = true) then
 if ((decide ((((List.length r8.2.2.1) : Nat) : Int) < (1 : Int))) = false) then
 if ((decide ((((List.length r8.2.2.1) : Nat) : Int) > (4 : Int))) = false) then
 if (((((List.length r8.2.2.2) : Nat) : Int) != (IntKind.wrap .i64 ((((List.length r8.2.2.1) : Nat) : Int) - (1 : Int)))) = true) then
 (some false)
 else
 Option.bind (Lmodel_Valid_5 k k (1 : Int) r8.1 r8.2.1 r8.2.2.1 r8.2.2.2) fun r9 =>
 eitherK r9
 (fun r9 =>
 (some r9.1))
 (fun r9 =>
 (some true))
 else
 (some false)
 else
 (some false)
 else
 (some false))
def Fmodel_Valid : Nat → ByteArray → Int → List (Int × Int) → List (Int × Int) → Option (Bool)
 | 0, _, _, _, _ => none
 | k + 1, m0, m1, m2, m3 => bmodel_Valid k m0 m1 m2 m3
def shq55 : FS := { vs := [.g [.lf .str, .lf (.int .u8), .lf (.sl (.pr (.int .i64) (.int .i64))), .lf (.sl (.pr (.int .i64) (.int .i64)))]], bs := [] }
def rsq55 : List FS := [{ vs := [.a (.lf .bool)], bs := [] }]
def Iq55 (k : Nat) : Inst := ⟨192, shq55, rsq55, fun x => Fmodel_Valid k x.1 x.2.1 x.2.2.1 x.2.2.2⟩
theorem alq55 (k : Nat) : AllI (call cf k) [Iq54 k, Iq57 k, Iq56 k] := qA (okq54 k) (qA (okq57 k) (qA (okq56 k) qT))
def hsq135 : List SS := [{ fr := [(1, .a (.ptr 0 0 0)), (18, .g [.lf (.sl (.pr (.int .i64) (.int .i64))), .lf (.sl (.pr (.int .i64) (.int .i64)))]), (19, .a (.lf (.int .i64))), (22, .a (.lf (.sl (.pr (.int .i64) (.int .i64))))), (23, .a (.lf (.int .i64))), (24, .a (.lf (.int .i64)))], mem := [(0, some (.raw [[.lf .str, .lf (.int .u8), .lf (.sl (.pr (.int .i64) (.int .i64))), .lf (.sl (.pr (.int .i64) (.int .i64)))]] 4 46 true false false))], nx := 1 }]
def osq135 : List OS := [⟨none, { fr := [(2, .a (.lf .bool))], mem := [(0, some (.raw [[.lf .str, .lf (.int .u8), .lf (.sl (.pr (.int .i64) (.int .i64))), .lf (.sl (.pr (.int .i64) (.int .i64)))]] 4 46 true false false)), (1, some (.raw [[.lf (.int .i64), .lf (.int .i64)]] 2 25 true false false))], nx := 2 }⟩, ⟨some 2, { fr := [(1, .a (.ptr 0 0 0)), (18, .g [.lf (.sl (.pr (.int .i64) (.int .i64))), .lf (.sl (.pr (.int .i64) (.int .i64)))]), (19, .a (.lf (.int .i64)))], mem := [(0, some (.raw [[.lf .str, .lf (.int .u8), .lf (.sl (.pr (.int .i64) (.int .i64))), .lf (.sl (.pr (.int .i64) (.int .i64)))]] 4 46 true false false))], nx := 1 }⟩]
def LIq135 (k : Nat) : LInst := ⟨2, hsq135, osq135, fun x => Lmodel_Valid_2 k k x.1 x.2.1 x.2.2.1 x.2.2.2.1 x.2.2.2.2.1 x.2.2.2.2.2.1 x.2.2.2.2.2.2.1 x.2.2.2.2.2.2.2.1 x.2.2.2.2.2.2.2.2.1 x.2.2.2.2.2.2.2.2.2⟩
theorem anq135 (k : Nat) : LAll (LOk (R := DS OS.D osq135) (fun b _ σ K => LOt Ty (kps 192) 0 b σ K []) cf (call cf k) (kps 192) Tryz.f192.ntmps k 0) 2 (lb Tryz.f192 1) :=
 qA qT (qA (qA qT qT) (qA (qA qT (qA qT (qA (qA qT qT) qT))) qT))
theorem stq135 (k n : Nat) (x : DS SS.D hsq135) : Lmodel_Valid_2 k (n + 1) x.1 x.2.1 x.2.2.1 x.2.2.2.1 x.2.2.2.2.1 x.2.2.2.2.2.1 x.2.2.2.2.2.2.1 x.2.2.2.2.2.2.2.1 x.2.2.2.2.2.2.2.2.1 x.2.2.2.2.2.2.2.2.2 = encSK SS.enc (fun σ => run2 cf (fun f a b K => COt f a b K [Iq54 k, Iq57 k, Iq56 k]) (fun b _ σ K => LOt Ty (kps 192) 0 b σ K []) Tryz.f192.ntmps 2 (lb Tryz.f192 1) σ (nextK Ty (kps 192 2) 0 hsq135 osq135 fun x => Lmodel_Valid_2 k n x.1 x.2.1 x.2.2.1 x.2.2.2.1 x.2.2.2.2.1 x.2.2.2.2.2.1 x.2.2.2.2.2.2.1 x.2.2.2.2.2.2.2.1 x.2.2.2.2.2.2.2.2.1 x.2.2.2.2.2.2.2.2.2)) hsq135 x := by kernel_rfl
theorem loq135 (k : Nat) : LIOk cf (call cf k) (kps 192) Tryz.f192.ntmps k 0 2 (lb Tryz.f192 1) (LIq135 k) :=
 loop_ok (c := cf) (callF := call cf k) (kp := kps 192) (nt := Tryz.f192.ntmps) (k := k) (p := 0) (b := 2) (x0 := lb Tryz.f192 1) (hs := hsq135) (os := osq135) (COt_ok (alq55 k)) (anq135 k) (fun n x => Lmodel_Valid_2 k n x.1 x.2.1 x.2.2.1 x.2.2.2.1 x.2.2.2.2.1 x.2.2.2.2.2.1 x.2.2.2.2.2.2.1 x.2.2.2.2.2.2.2.1 x.2.2.2.2.2.2.2.2.1 x.2.2.2.2.2.2.2.2.2) (fun _ => rfl) (stq135 k)
def hsq134 : List SS := [{ fr := [(1, .a (.ptr 0 0 0)), (18, .g [.lf (.sl (.pr (.int .i64) (.int .i64))), .lf (.sl (.pr (.int .i64) (.int .i64)))]), (19, .a (.lf (.int .i64)))], mem := [(0, some (.raw [[.lf .str, .lf (.int .u8), .lf (.sl (.pr (.int .i64) (.int .i64))), .lf (.sl (.pr (.int .i64) (.int .i64)))]] 4 46 true false false))], nx := 1 }]
def osq134 : List OS := [⟨none, { fr := [(2, .a (.lf .bool))], mem := [(0, some (.raw [[.lf .str, .lf (.int .u8), .lf (.sl (.pr (.int .i64) (.int .i64))), .lf (.sl (.pr (.int .i64) (.int .i64)))]] 4 46 true false false)), (1, some (.raw [[.lf (.int .i64), .lf (.int .i64)]] 2 25 true false false))], nx := 2 }⟩, ⟨some 0, { fr := [(1, .a (.ptr 0 0 0))], mem := [(0, some (.raw [[.lf .str, .lf (.int .u8), .lf (.sl (.pr (.int .i64) (.int .i64))), .lf (.sl (.pr (.int .i64) (.int .i64)))]] 4 46 true false false))], nx := 1 }⟩]
def LIq134 (k : Nat) : LInst := ⟨0, hsq134, osq134, fun x => Lmodel_Valid_0 k k x.1 x.2.1 x.2.2.1 x.2.2.2.1 x.2.2.2.2.1 x.2.2.2.2.2.1 x.2.2.2.2.2.2⟩
theorem anq134 (k : Nat) : LAll (LOk (R := DS OS.D osq134) (fun b _ σ K => LOt Ty (kps 192) 0 b σ K [LIq135 k]) cf (call cf k) (kps 192) Tryz.f192.ntmps k 0) 0 (lb Tryz.f192 0) :=
 qA qT (qA (qA qT qT) (qA (qA qT (qA qT (LOt_ok (c := cf) (callF := call cf k) (kp := kps 192) (nt := Tryz.f192.ntmps) (k := k) (p := 0) (b := 2) (x0 := lb Tryz.f192 1) (l := [LIq135 k]) (qA (fun _ => loq135 k) qT)))) qT))
theorem stq134 (k n : Nat) (x : DS SS.D hsq134) : Lmodel_Valid_0 k (n + 1) x.1 x.2.1 x.2.2.1 x.2.2.2.1 x.2.2.2.2.1 x.2.2.2.2.2.1 x.2.2.2.2.2.2 = encSK SS.enc (fun σ => run2 cf (fun f a b K => COt f a b K [Iq54 k, Iq57 k, Iq56 k]) (fun b _ σ K => LOt Ty (kps 192) 0 b σ K [LIq135 k]) Tryz.f192.ntmps 0 (lb Tryz.f192 0) σ (nextK Ty (kps 192 0) 0 hsq134 osq134 fun x => Lmodel_Valid_0 k n x.1 x.2.1 x.2.2.1 x.2.2.2.1 x.2.2.2.2.1 x.2.2.2.2.2.1 x.2.2.2.2.2.2)) hsq134 x := by kernel_rfl
theorem loq134 (k : Nat) : LIOk cf (call cf k) (kps 192) Tryz.f192.ntmps k 0 0 (lb Tryz.f192 0) (LIq134 k) :=
 loop_ok (c := cf) (callF := call cf k) (kp := kps 192) (nt := Tryz.f192.ntmps) (k := k) (p := 0) (b := 0) (x0 := lb Tryz.f192 0) (hs := hsq134) (os := osq134) (COt_ok (alq55 k)) (anq134 k) (fun n x => Lmodel_Valid_0 k n x.1 x.2.1 x.2.2.1 x.2.2.2.1 x.2.2.2.2.1 x.2.2.2.2.2.1 x.2.2.2.2.2.2) (fun _ => rfl) (stq134 k)
def hsq136 : List SS := [{ fr := [(1, .a (.ptr 0 0 0)), (7, .a (.lf (.int .i64)))], mem := [(0, some (.raw [[.lf .str, .lf (.int .u8), .lf (.sl (.pr (.int .i64) (.int .i64))), .lf (.sl (.pr (.int .i64) (.int .i64)))]] 4 46 true false false))], nx := 1 }]
def osq136 : List OS := [⟨none, { fr := [(2, .a (.lf .bool))], mem := [(0, some (.raw [[.lf .str, .lf (.int .u8), .lf (.sl (.pr (.int .i64) (.int .i64))), .lf (.sl (.pr (.int .i64) (.int .i64)))]] 4 46 true false false))], nx := 1 }⟩, ⟨some 5, { fr := [], mem := [(0, some (.raw [[.lf .str, .lf (.int .u8), .lf (.sl (.pr (.int .i64) (.int .i64))), .lf (.sl (.pr (.int .i64) (.int .i64)))]] 4 46 true false false))], nx := 1 }⟩]
def LIq136 (k : Nat) : LInst := ⟨5, hsq136, osq136, fun x => Lmodel_Valid_5 k k x.1 x.2.1 x.2.2.1 x.2.2.2.1 x.2.2.2.2⟩
theorem anq136 (k : Nat) : LAll (LOk (R := DS OS.D osq136) (fun b _ σ K => LOt Ty (kps 192) 0 b σ K [LIq135 k, LIq134 k]) cf (call cf k) (kps 192) Tryz.f192.ntmps k 0) 5 (lb Tryz.f192 2) :=
 qA (qA qT (qA qT qT)) (qA (qA qT (qA qT (qA (qA qT qT) qT))) qT)
theorem stq136 (k n : Nat) (x : DS SS.D hsq136) : Lmodel_Valid_5 k (n + 1) x.1 x.2.1 x.2.2.1 x.2.2.2.1 x.2.2.2.2 = encSK SS.enc (fun σ => run2 cf (fun f a b K => COt f a b K [Iq54 k, Iq57 k, Iq56 k]) (fun b _ σ K => LOt Ty (kps 192) 0 b σ K [LIq135 k, LIq134 k]) Tryz.f192.ntmps 5 (lb Tryz.f192 2) σ (nextK Ty (kps 192 5) 0 hsq136 osq136 fun x => Lmodel_Valid_5 k n x.1 x.2.1 x.2.2.1 x.2.2.2.1 x.2.2.2.2)) hsq136 x := by kernel_rfl
theorem loq136 (k : Nat) : LIOk cf (call cf k) (kps 192) Tryz.f192.ntmps k 0 5 (lb Tryz.f192 2) (LIq136 k) :=
 loop_ok (c := cf) (callF := call cf k) (kp := kps 192) (nt := Tryz.f192.ntmps) (k := k) (p := 0) (b := 5) (x0 := lb Tryz.f192 2) (hs := hsq136) (os := osq136) (COt_ok (alq55 k)) (anq136 k) (fun n x => Lmodel_Valid_5 k n x.1 x.2.1 x.2.2.1 x.2.2.2.1 x.2.2.2.2) (fun _ => rfl) (stq136 k)
theorem anq55 (k : Nat) : LAll (LOk (R := DS FS.D rsq55) (fun b _ σ K => LOt Ty (kps 192) 0 b σ K [LIq135 k, LIq134 k, LIq136 k]) cf (call cf k) (cf.keep 192) Tryz.f192.ntmps k shq55.bs.length) 0 (bd Tryz.f192) :=
 qA qT (qA (qA qT (qA (qA qT qT) qT)) (qA (qA qT (LOt_ok (c := cf) (callF := call cf k) (kp := kps 192) (nt := Tryz.f192.ntmps) (k := k) (p := 0) (b := 0) (x0 := lb Tryz.f192 0) (l := [LIq135 k, LIq134 k, LIq136 k]) (qA (fun h => absurd (show (2 : Nat) = 0 from h) (by decide)) (qA (fun _ => loq134 k) (qA (fun h => absurd (show (5 : Nat) = 0 from h) (by decide)) qT))))) (qA (qA qT (qA qT (qA (qA qT qT) (qA qT (qA (qA (qA qT (qA (qA qT qT) qT)) (qA (qA qT (LOt_ok (c := cf) (callF := call cf k) (kp := kps 192) (nt := Tryz.f192.ntmps) (k := k) (p := 0) (b := 5) (x0 := lb Tryz.f192 2) (l := [LIq135 k, LIq134 k, LIq136 k]) (qA (fun h => absurd (show (2 : Nat) = 5 from h) (by decide)) (qA (fun h => absurd (show (0 : Nat) = 5 from h) (by decide)) (qA (fun _ => loq136 k) qT))))) (qA qT qT))) qT))))) (qA qT qT))))
theorem stq55 (k : Nat) (x : shq55.D) : Fmodel_Valid (k + 1) x.1 x.2.1 x.2.2.1 x.2.2.2 = body2 cf (fun f a b K => COt f a b K [Iq54 k, Iq57 k, Iq56 k]) (fun b _ σ K => LOt Ty (kps 192) 0 b σ K [LIq135 k, LIq134 k, LIq136 k]) 192 Tryz.f192.ntmps Tryz.f192.results.toList (bd Tryz.f192) (shq55.enc x).1 (shq55.enc x).2 (putS FS.dec rsq55) := by kernel_rfl
theorem okq55 : ∀ k, InstOk (call cf k) (Iq55 k)
 | 0 => fun x y e => absurd (show (none : Option _) = some y from e) (by simp)
 | k + 1 => inst_ok (c := cf) (k := k) (f := 192) (fn := Tryz.f192) (body := bd Tryz.f192) (sh := shq55) (os := rsq55) rfl Tryz.func192 rfl ⟨rfl, Nat.le_of_ble_eq_true rfl⟩ (COt_ok (alq55 k)) (anq55 k) (fun x => Fmodel_Valid (k + 1) x.1 x.2.1 x.2.2.1 x.2.2.2) (stq55 k)

/-! shunt/flat.right -/
def Lflat_right_0s (k : Nat) (rec : List Int → Int → Int → List ByteArray → List (Int × ByteArray × List Int × Int × (Int × Int) × (Int × List (Int × Int) × List Int) × ByteArray × Int × List (Int × Int) × List (Int × Int)) → Int → Int → Int → Int → ByteArray → List Int → Int → Int → Int → Int → List (Int × Int) → List Int → ByteArray → Int → List (Int × Int) → List (Int × Int) → Option ((Bool × List ByteArray × List (Int × ByteArray × List Int × Int × (Int × Int) × (Int × List (Int × Int) × List Int) × ByteArray × Int × List (Int × Int) × List (Int × Int)) × Int × Int × Int × Int × ByteArray × List Int × Int × Int × Int × Int × List (Int × Int) × List Int × ByteArray × Int × List (Int × Int) × List (Int × Int)) ⊕ (List ByteArray × List (Int × ByteArray × List Int × Int × (Int × Int) × (Int × List (Int × Int) × List Int) × ByteArray × Int × List (Int × Int) × List (Int × Int)) × Int × Int × Int × Int × ByteArray × List Int × Int × Int × Int × Int × List (Int × Int) × List Int × ByteArray × Int × List (Int × Int) × List (Int × Int)))) (x : List Int) (x1 : Int) (x2 : Int) (f0 : List ByteArray) (f1 : List (Int × ByteArray × List Int × Int × (Int × Int) × (Int × List (Int × Int) × List Int) × ByteArray × Int × List (Int × Int) × List (Int × Int))) (f2 : Int) (f3 : Int) (f4 : Int) (d0 : Int) (d1 : ByteArray) (d2 : List Int) (d3 : Int) (d4 : Int) (d5 : Int) (d6 : Int) (d7 : List (Int × Int)) (d8 : List Int) (d9 : ByteArray) (d10 : Int) (d11 : List (Int × Int)) (d12 : List (Int × Int)) : Option ((Bool × List ByteArray × List (Int × ByteArray × List Int × Int × (Int × Int) × (Int × List (Int × Int) × List Int) × ByteArray × Int × List (Int × Int) × List (Int × Int)) × Int × Int × Int × Int × ByteArray × List Int × Int × Int × Int × Int × List (Int × Int) × List Int × ByteArray × Int × List (Int × Int) × List (Int × Int)) ⊕ (List ByteArray × List (Int × ByteArray × List Int × Int × (Int × Int) × (Int × List (Int × Int) × List Int) × ByteArray × Int × List (Int × Int) × List (Int × Int)) × Int × Int × Int × Int × ByteArray × List Int × Int × Int × Int × Int × List (Int × Int) × List Int × ByteArray × Int × List (Int × Int) × List (Int × Int))) :=
 if ((decide (x2 < x1)) = true) then
 if ((0 : Int) ≤ x2) then
 Option.bind (x)[(Int.toNat x2)]? fun x4 =>
 if ((decide (x4 < (0 : Int))) = false) then
 if ((decide (x4 ≥ (((List.length f0) : Nat) : Int))) = true) then
 (some (Sum.inl (false, f0, f1, f2, f3, f4, d0, d1, d2, d3, d4, d5, d6, d7, d8, d9, d10, d11, d12)))
 else
 rec x x1 (IntKind.wrap .i64 (x2 + (1 : Int))) f0 f1 f2 f3 f4 d0 d1 d2 d3 d4 d5 d6 d7 d8 d9 d10 d11 d12
 else
 (some (Sum.inl (false, f0, f1, f2, f3, f4, d0, d1, d2, d3, d4, d5, d6, d7, d8, d9, d10, d11, d12)))
 else
 none
 else
 (some (Sum.inr (f0, f1, f2, f3, f4, d0, d1, d2, d3, d4, d5, d6, d7, d8, d9, d10, d11, d12)))
def Lflat_right_0 (k n : Nat) : List Int → Int → Int → List ByteArray → List (Int × ByteArray × List Int × Int × (Int × Int) × (Int × List (Int × Int) × List Int) × ByteArray × Int × List (Int × Int) × List (Int × Int)) → Int → Int → Int → Int → ByteArray → List Int → Int → Int → Int → Int → List (Int × Int) → List Int → ByteArray → Int → List (Int × Int) → List (Int × Int) → Option ((Bool × List ByteArray × List (Int × ByteArray × List Int × Int × (Int × Int) × (Int × List (Int × Int) × List Int) × ByteArray × Int × List (Int × Int) × List (Int × Int)) × Int × Int × Int × Int × ByteArray × List Int × Int × Int × Int × Int × List (Int × Int) × List Int × ByteArray × Int × List (Int × Int) × List (Int × Int)) ⊕ (List ByteArray × List (Int × ByteArray × List Int × Int × (Int × Int) × (Int × List (Int × Int) × List Int) × ByteArray × Int × List (Int × Int) × List (Int × Int)) × Int × Int × Int × Int × ByteArray × List Int × Int × Int × Int × Int × List (Int × Int) × List Int × ByteArray × Int × List (Int × Int) × List (Int × Int))) := Nat.rec (fun _ _ _ _ _ _ _ _ _ _ _ _ _ _ _ _ _ _ _ _ _ => none) (fun _ r => Lflat_right_0s k r) n
def bflat_right (k : Nat) (f0 : List ByteArray) (f1 : List (Int × ByteArray × List Int × Int × (Int × Int) × (Int × List (Int × Int) × List Int) × ByteArray × Int × List (Int × Int) × List (Int × Int))) (f2 : Int) (f3 : Int) (f4 : Int) (d0 : Int) (d1 : ByteArray) (d2 : List Int) (d3 : Int) (d4 : Int) (d5 : Int) (d6 : Int) (d7 : List (Int × Int)) (d8 : List Int) (d9 : ByteArray) (d10 : Int) (d11 : List (Int × Int)) (d12 : List (Int × Int)) : Option (Bool) :=
 if (((mapG (.int .u8) (.int .i64) (mapS (.int .u8) (.int .i64) (mapS (.int .u8) (.int .i64) (mapS (.int .u8) (.int .i64) (mapS (.int .u8) (.int .i64) (mapS (.int .u8) (.int .i64) (mapS (.int .u8) (.int .i64) (mapS (.int .u8) (.int .i64) (mapS (.int .u8) (.int .i64) (mapS (.int .u8) (.int .i64) (mapS (.int .u8) (.int .i64) (mapS (.int .u8) (.int .i64) (mapS (.int .u8) (.int .i64) [] (114 : Int) (2 : Int)) (99 : Int) (2 : Int)) (108 : Int) (2 : Int)) (118 : Int) (2 : Int)) (105 : Int) (2 : Int)) (101 : Int) (4 : Int)) (103 : Int) (4 : Int)) (102 : Int) (2 : Int)) (104 : Int) (2 : Int)) (116 : Int) (4 : Int)) (100 : Int) (2 : Int)) (115 : Int) (4 : Int)) d0 (0 : Int)) == (0 : Int)) = false) then
 if (((((List.length d2) : Nat) : Int) != (mapG (.int .u8) (.int .i64) (mapS (.int .u8) (.int .i64) (mapS (.int .u8) (.int .i64) (mapS (.int .u8) (.int .i64) (mapS (.int .u8) (.int .i64) (mapS (.int .u8) (.int .i64) (mapS (.int .u8) (.int .i64) (mapS (.int .u8) (.int .i64) (mapS (.int .u8) (.int .i64) (mapS (.int .u8) (.int .i64) (mapS (.int .u8) (.int .i64) (mapS (.int .u8) (.int .i64) (mapS (.int .u8) (.int .i64) [] (114 : Int) (2 : Int)) (99 : Int) (2 : Int)) (108 : Int) (2 : Int)) (118 : Int) (2 : Int)) (105 : Int) (2 : Int)) (101 : Int) (4 : Int)) (103 : Int) (4 : Int)) (102 : Int) (2 : Int)) (104 : Int) (2 : Int)) (116 : Int) (4 : Int)) (100 : Int) (2 : Int)) (115 : Int) (4 : Int)) d0 (0 : Int))) = false) then
 Option.bind (Fflat_long k d1) fun r4 =>
 if ((!r4) = true) then
 (some false)
 else
 Option.bind (Lflat_right_0 k k d2 (((List.length d2) : Nat) : Int) (0 : Int) f0 f1 f2 f3 f4 d0 d1 d2 d3 d4 d5 d6 d7 d8 d9 d10 d11 d12) fun r5 =>
 eitherK r5
 (fun r5 =>
 (some r5.1))
 (fun r5 =>
 if ((r5.2.2.2.2.2.1 == (118 : Int)) = true) then
 Option.bind (Fwave_Valid k r5.2.2.2.2.2.2.2.2.2.2.2.1 r5.2.2.2.2.2.2.2.2.2.2.2.2.1 r5.2.2.2.2.2.2.2.2.2.2.2.2.2.1) fun r6 =>
 if (r6 = true) then
 if ((r5.2.2.2.2.2.2.2.2.2.1 == (0 : Int)) = true) then
 if ((r5.2.2.2.2.2.2.2.2.2.2.1 == (0 : Int)) = true) then
 Option.bind (Fflat_noModel k r5.2.2.2.2.2.2.2.2.2.2.2.2.2.2.1 r5.2.2.2.2.2.2.2.2.2.2.2.2.2.2.2.1 r5.2.2.2.2.2.2.2.2.2.2.2.2.2.2.2.2.1 r5.2.2.2.2.2.2.2.2.2.2.2.2.2.2.2.2.2) fun r7 =>
 if (r7 = true) then
 (some (r5.2.2.2.2.2.2.2.2.1 == (0 : Int)))
 else
 (some false)
 else
 (some false)
 else
 (some false)
 else
 (some false)
 else
 if ((r5.2.2.2.2.2.1 == (105 : Int)) = true) then
 Option.bind (Fwave_Valid k r5.2.2.2.2.2.2.2.2.2.2.2.1 r5.2.2.2.2.2.2.2.2.2.2.2.2.1 r5.2.2.2.2.2.2.2.2.2.2.2.2.2.1) fun r6 =>
 if (r6 = true) then
 if ((r5.2.2.2.2.2.2.2.2.2.1 == (0 : Int)) = true) then
 if ((r5.2.2.2.2.2.2.2.2.2.2.1 == (0 : Int)) = true) then
 Option.bind (Fflat_noModel k r5.2.2.2.2.2.2.2.2.2.2.2.2.2.2.1 r5.2.2.2.2.2.2.2.2.2.2.2.2.2.2.2.1 r5.2.2.2.2.2.2.2.2.2.2.2.2.2.2.2.2.1 r5.2.2.2.2.2.2.2.2.2.2.2.2.2.2.2.2.2) fun r7 =>
 if (r7 = true) then
 (some (r5.2.2.2.2.2.2.2.2.1 == (0 : Int)))
 else
 (some false)
 else
 (some false)
 else
 (some false)
 else
 (some false)
 else
 if ((r5.2.2.2.2.2.1 == (100 : Int)) = true) then
 Option.bind (Fflat_noWave k r5.2.2.2.2.2.2.2.2.2.2.2.1 r5.2.2.2.2.2.2.2.2.2.2.2.2.1 r5.2.2.2.2.2.2.2.2.2.2.2.2.2.1) fun r6 =>
 if (r6 = true) then
 if ((r5.2.2.2.2.2.2.2.2.2.1 == (0 : Int)) = true) then
 if ((r5.2.2.2.2.2.2.2.2.2.2.1 == (0 : Int)) = true) then
 Option.bind (Fmodel_Valid k r5.2.2.2.2.2.2.2.2.2.2.2.2.2.2.1 r5.2.2.2.2.2.2.2.2.2.2.2.2.2.2.2.1 r5.2.2.2.2.2.2.2.2.2.2.2.2.2.2.2.2.1 r5.2.2.2.2.2.2.2.2.2.2.2.2.2.2.2.2.2) fun r7 =>
 if (r7 = true) then
 if ((r5.2.2.2.2.2.2.2.2.2.2.2.2.2.2.2.1 == r5.2.2.2.2.2.1) = true) then
 (some (r5.2.2.2.2.2.2.2.2.1 == (0 : Int)))
 else
 (some false)
 else
 (some false)
 else
 (some false)
 else
 (some false)
 else
 (some false)
 else
 if ((r5.2.2.2.2.2.1 == (115 : Int)) = true) then
 Option.bind (Fflat_noWave k r5.2.2.2.2.2.2.2.2.2.2.2.1 r5.2.2.2.2.2.2.2.2.2.2.2.2.1 r5.2.2.2.2.2.2.2.2.2.2.2.2.2.1) fun r6 =>
 if (r6 = true) then
 if ((r5.2.2.2.2.2.2.2.2.2.1 == (0 : Int)) = true) then
 if ((r5.2.2.2.2.2.2.2.2.2.2.1 == (0 : Int)) = true) then
 Option.bind (Fmodel_Valid k r5.2.2.2.2.2.2.2.2.2.2.2.2.2.2.1 r5.2.2.2.2.2.2.2.2.2.2.2.2.2.2.2.1 r5.2.2.2.2.2.2.2.2.2.2.2.2.2.2.2.2.1 r5.2.2.2.2.2.2.2.2.2.2.2.2.2.2.2.2.2) fun r7 =>
 if (r7 = true) then
 if ((r5.2.2.2.2.2.2.2.2.2.2.2.2.2.2.2.1 == r5.2.2.2.2.2.1) = true) then
 (some (r5.2.2.2.2.2.2.2.2.1 == (0 : Int)))
 else
 (some false)
 else
 (some false)
 else
 (some false)
 else
 (some false)
 else
 (some false)
 else
 if ((r5.2.2.2.2.2.1 == (102 : Int)) = true) then
 if ((decide (r5.2.2.2.2.2.2.2.2.1 < (0 : Int))) = false) then
 if ((decide (r5.2.2.2.2.2.2.2.2.1 ≥ (((List.length r5.2.1) : Nat) : Int))) = false) then
 if ((0 : Int) ≤ r5.2.2.2.2.2.2.2.2.1) then
 Option.bind (r5.2.1)[(Int.toNat r5.2.2.2.2.2.2.2.2.1)]? fun x4 =>
 if ((x4.1 != (118 : Int)) = true) then
 (some false)
 else
 if ((r5.2.2.2.2.2.1 == (114 : Int)) = false) then
 if ((r5.2.2.2.2.2.1 == (99 : Int)) = false) then
 Option.bind (Fnum_Valid k r5.2.2.2.2.2.2.2.2.2.1 r5.2.2.2.2.2.2.2.2.2.2.1) fun r6 =>
 if (r6 = true) then
 if ((r5.2.2.2.2.2.2.2.2.2.1 != (0 : Int)) = false) then
 if ((!(r5.2.2.2.2.2.1 == (108 : Int))) = true) then
 Option.bind (Fflat_noWave k r5.2.2.2.2.2.2.2.2.2.2.2.1 r5.2.2.2.2.2.2.2.2.2.2.2.2.1 r5.2.2.2.2.2.2.2.2.2.2.2.2.2.1) fun r7 =>
 if (r7 = true) then
 Option.bind (Fflat_noModel k r5.2.2.2.2.2.2.2.2.2.2.2.2.2.2.1 r5.2.2.2.2.2.2.2.2.2.2.2.2.2.2.2.1 r5.2.2.2.2.2.2.2.2.2.2.2.2.2.2.2.2.1 r5.2.2.2.2.2.2.2.2.2.2.2.2.2.2.2.2.2) fun r8 =>
 (some r8)
 else
 (some false)
 else
 (some false)
 else
 Option.bind (Fflat_noWave k r5.2.2.2.2.2.2.2.2.2.2.2.1 r5.2.2.2.2.2.2.2.2.2.2.2.2.1 r5.2.2.2.2.2.2.2.2.2.2.2.2.2.1) fun r7 =>
 if (r7 = true) then
 Option.bind (Fflat_noModel k r5.2.2.2.2.2.2.2.2.2.2.2.2.2.2.1 r5.2.2.2.2.2.2.2.2.2.2.2.2.2.2.2.1 r5.2.2.2.2.2.2.2.2.2.2.2.2.2.2.2.2.1 r5.2.2.2.2.2.2.2.2.2.2.2.2.2.2.2.2.2) fun r8 =>
 (some r8)
 else
 (some false)
 else
 (some false)
 else
 Option.bind (Fnum_Valid k r5.2.2.2.2.2.2.2.2.2.1 r5.2.2.2.2.2.2.2.2.2.2.1) fun r6 =>
 if (r6 = true) then
 if ((r5.2.2.2.2.2.2.2.2.2.1 != (0 : Int)) = false) then
 (some false)
 else
 Option.bind (Fflat_noWave k r5.2.2.2.2.2.2.2.2.2.2.2.1 r5.2.2.2.2.2.2.2.2.2.2.2.2.1 r5.2.2.2.2.2.2.2.2.2.2.2.2.2.1) fun r7 =>
 if (r7 = true) then
 Option.bind (Fflat_noModel k r5.2.2.2.2.2.2.2.2.2.2.2.2.2.2.1 r5.2.2.2.2.2.2.2.2.2.2.2.2.2.2.2.1 r5.2.2.2.2.2.2.2.2.2.2.2.2.2.2.2.2.1 r5.2.2.2.2.2.2.2.2.2.2.2.2.2.2.2.2.2) fun r8 =>
 (some r8)
 else
 (some false)
 else
 (some false)
 else
 Option.bind (Fnum_Valid k r5.2.2.2.2.2.2.2.2.2.1 r5.2.2.2.2.2.2.2.2.2.2.1) fun r6 =>
 if (r6 = true) then
 if ((r5.2.2.2.2.2.2.2.2.2.1 != (0 : Int)) = false) then
 (some false)
 else
 Option.bind (Fflat_noWave k r5.2.2.2.2.2.2.2.2.2.2.2.1 r5.2.2.2.2.2.2.2.2.2.2.2.2.1 r5.2.2.2.2.2.2.2.2.2.2.2.2.2.1) fun r7 =>
 if (r7 = true) then
 Option.bind (Fflat_noModel k r5.2.2.2.2.2.2.2.2.2.2.2.2.2.2.1 r5.2.2.2.2.2.2.2.2.2.2.2.2.2.2.2.1 r5.2.2.2.2.2.2.2.2.2.2.2.2.2.2.2.2.1 r5.2.2.2.2.2.2.2.2.2.2.2.2.2.2.2.2.2) fun r8 =>
 (some r8)
 else
 (some false)
 else
 (some false)
 else
 none
 else
 (some false)
 else
 (some false)
 else
 if ((r5.2.2.2.2.2.1 == (104 : Int)) = true) then
 if ((decide (r5.2.2.2.2.2.2.2.2.1 < (0 : Int))) = false) then
 if ((decide (r5.2.2.2.2.2.2.2.2.1 ≥ (((List.length r5.2.1) : Nat) : Int))) = false) then
 if ((0 : Int) ≤ r5.2.2.2.2.2.2.2.2.1) then
 Option.bind (r5.2.1)[(Int.toNat r5.2.2.2.2.2.2.2.2.1)]? fun x4 =>
 if ((x4.1 != (118 : Int)) = true) then
 (some false)
 else
 if ((r5.2.2.2.2.2.1 == (114 : Int)) = false) then
 if ((r5.2.2.2.2.2.1 == (99 : Int)) = false) then
 Option.bind (Fnum_Valid k r5.2.2.2.2.2.2.2.2.2.1 r5.2.2.2.2.2.2.2.2.2.2.1) fun r6 =>
 if (r6 = true) then
 if ((r5.2.2.2.2.2.2.2.2.2.1 != (0 : Int)) = false) then
 if ((!(r5.2.2.2.2.2.1 == (108 : Int))) = true) then
 Option.bind (Fflat_noWave k r5.2.2.2.2.2.2.2.2.2.2.2.1 r5.2.2.2.2.2.2.2.2.2.2.2.2.1 r5.2.2.2.2.2.2.2.2.2.2.2.2.2.1) fun r7 =>
 if (r7 = true) then
 Option.bind (Fflat_noModel k r5.2.2.2.2.2.2.2.2.2.2.2.2.2.2.1 r5.2.2.2.2.2.2.2.2.2.2.2.2.2.2.2.1 r5.2.2.2.2.2.2.2.2.2.2.2.2.2.2.2.2.1 r5.2.2.2.2.2.2.2.2.2.2.2.2.2.2.2.2.2) fun r8 =>
 (some r8)
 else
 (some false)
 else
 (some false)
 else
 Option.bind (Fflat_noWave k r5.2.2.2.2.2.2.2.2.2.2.2.1 r5.2.2.2.2.2.2.2.2.2.2.2.2.1 r5.2.2.2.2.2.2.2.2.2.2.2.2.2.1) fun r7 =>
 if (r7 = true) then
 Option.bind (Fflat_noModel k r5.2.2.2.2.2.2.2.2.2.2.2.2.2.2.1 r5.2.2.2.2.2.2.2.2.2.2.2.2.2.2.2.1 r5.2.2.2.2.2.2.2.2.2.2.2.2.2.2.2.2.1 r5.2.2.2.2.2.2.2.2.2.2.2.2.2.2.2.2.2) fun r8 =>
 (some r8)
 else
 (some false)
 else
 (some false)
 else
 Option.bind (Fnum_Valid k r5.2.2.2.2.2.2.2.2.2.1 r5.2.2.2.2.2.2.2.2.2.2.1) fun r6 =>
 if (r6 = true) then
 if ((r5.2.2.2.2.2.2.2.2.2.1 != (0 : Int)) = false) then
 (some false)
 else
 Option.bind (Fflat_noWave k r5.2.2.2.2.2.2.2.2.2.2.2.1 r5.2.2.2.2.2.2.2.2.2.2.2.2.1 r5.2.2.2.2.2.2.2.2.2.2.2.2.2.1) fun r7 =>
 if (r7 = true) then
 Option.bind (Fflat_noModel k r5.2.2.2.2.2.2.2.2.2.2.2.2.2.2.1 r5.2.2.2.2.2.2.2.2.2.2.2.2.2.2.2.1 r5.2.2.2.2.2.2.2.2.2.2.2.2.2.2.2.2.1 r5.2.2.2.2.2.2.2.2.2.2.2.2.2.2.2.2.2) fun r8 =>
 (some r8)
 else
 (some false)
 else
 (some false)
 else
 Option.bind (Fnum_Valid k r5.2.2.2.2.2.2.2.2.2.1 r5.2.2.2.2.2.2.2.2.2.2.1) fun r6 =>
 if (r6 = true) then
 if ((r5.2.2.2.2.2.2.2.2.2.1 != (0 : Int)) = false) then
 (some false)
 else
 Option.bind (Fflat_noWave k r5.2.2.2.2.2.2.2.2.2.2.2.1 r5.2.2.2.2.2.2.2.2.2.2.2.2.1 r5.2.2.2.2.2.2.2.2.2.2.2.2.2.1) fun r7 =>
 if (r7 = true) then
 Option.bind (Fflat_noModel k r5.2.2.2.2.2.2.2.2.2.2.2.2.2.2.1 r5.2.2.2.2.2.2.2.2.2.2.2.2.2.2.2.1 r5.2.2.2.2.2.2.2.2.2.2.2.2.2.2.2.2.1 r5.2.2.2.2.2.2.2.2.2.2.2.2.2.2.2.2.2) fun r8 =>
 (some r8)
 else
 (some false)
 else
 (some false)
 else
 none
 else
 (some false)
 else
 (some false)
 else
 if ((r5.2.2.2.2.2.2.2.2.1 != (0 : Int)) = true) then
 (some false)
 else
 if ((r5.2.2.2.2.2.1 == (114 : Int)) = false) then
 if ((r5.2.2.2.2.2.1 == (99 : Int)) = false) then
 Option.bind (Fnum_Valid k r5.2.2.2.2.2.2.2.2.2.1 r5.2.2.2.2.2.2.2.2.2.2.1) fun r6 =>
 if (r6 = true) then
 if ((r5.2.2.2.2.2.2.2.2.2.1 != (0 : Int)) = false) then
 if ((!(r5.2.2.2.2.2.1 == (108 : Int))) = true) then
 Option.bind (Fflat_noWave k r5.2.2.2.2.2.2.2.2.2.2.2.1 r5.2.2.2.2.2.2.2.2.2.2.2.2.1 r5.2.2.2.2.2.2.2.2.2.2.2.2.2.1) fun r7 =>
 if (r7 = true) then
 Option.bind (Fflat_noModel k r5.2.2.2.2.2.2.2.2.2.2.2.2.2.2.1 r5.2.2.2.2.2.2.2.2.2.2.2.2.2.2.2.1 r5.2.2.2.2.2.2.2.2.2.2.2.2.2.2.2.2.1 r5.2.2.2.2.2.2.2.2.2.2.2.2.2.2.2.2.2) fun r8 =>
 (some r8)
 else
 (some false)
 else
 (some false)
 else
 Option.bind (Fflat_noWave k r5.2.2.2.2.2.2.2.2.2.2.2.1 r5.2.2.2.2.2.2.2.2.2.2.2.2.1 r5.2.2.2.2.2.2.2.2.2.2.2.2.2.1) fun r7 =>
 if (r7 = true) then
 Option.bind (Fflat_noModel k r5.2.2.2.2.2.2.2.2.2.2.2.2.2.2.1 r5.2.2.2.2.2.2.2.2.2.2.2.2.2.2.2.1 r5.2.2.2.2.2.2.2.2.2.2.2.2.2.2.2.2.1 r5.2.2.2.2.2.2.2.2.2.2.2.2.2.2.2.2.2) fun r8 =>
 (some r8)
 else
 (some false)
 else
 (some false)
 else
 Option.bind (Fnum_Valid k r5.2.2.2.2.2.2.2.2.2.1 r5.2.2.2.2.2.2.2.2.2.2.1) fun r6 =>
 if (r6 = true) then
 if ((r5.2.2.2.2.2.2.2.2.2.1 != (0 : Int)) = false) then
 (some false)
 else
 Option.bind (Fflat_noWave k r5.2.2.2.2.2.2.2.2.2.2.2.1 r5.2.2.2.2.2.2.2.2.2.2.2.2.1 r5.2.2.2.2.2.2.2.2.2.2.2.2.2.1) fun r7 =>
 if (r7 = true) then
 Option.bind (Fflat_noModel k r5.2.2.2.2.2.2.2.2.2.2.2.2.2.2.1 r5.2.2.2.2.2.2.2.2.2.2.2.2.2.2.2.1 r5.2.2.2.2.2.2.2.2.2.2.2.2.2.2.2.2.1 r5.2.2.2.2.2.2.2.2.2.2.2.2.2.2.2.2.2) fun r8 =>
 (some r8)
 else
 (some false)
 else
 (some false)
 else
 Option.bind (Fnum_Valid k r5.2.2.2.2.2.2.2.2.2.1 r5.2.2.2.2.2.2.2.2.2.2.1) fun r6 =>
 if (r6 = true) then
 if ((r5.2.2.2.2.2.2.2.2.2.1 != (0 : Int)) = false) then
 (some false)
 else
 Option.bind (Fflat_noWave k r5.2.2.2.2.2.2.2.2.2.2.2.1 r5.2.2.2.2.2.2.2.2.2.2.2.2.1 r5.2.2.2.2.2.2.2.2.2.2.2.2.2.1) fun r7 =>
 if (r7 = true) then
 Option.bind (Fflat_noModel k r5.2.2.2.2.2.2.2.2.2.2.2.2.2.2.1 r5.2.2.2.2.2.2.2.2.2.2.2.2.2.2.2.1 r5.2.2.2.2.2.2.2.2.2.2.2.2.2.2.2.2.1 r5.2.2.2.2.2.2.2.2.2.2.2.2.2.2.2.2.2) fun r8 =>
 (some r8)
 else
 (some false)
 else
 (some false))
 else
 (some false)
 else
 (some false)
def Fflat_right : Nat → List ByteArray → List (Int × ByteArray × List Int × Int × (Int × Int) × (Int × List (Int × Int) × List Int) × ByteArray × Int × List (Int × Int) × List (Int × Int)) → Int → Int → Int → Int → ByteArray → List Int → Int → Int → Int → Int → List (Int × Int) → List Int → ByteArray → Int → List (Int × Int) → List (Int × Int) → Option (Bool)
 | 0, _, _, _, _, _, _, _, _, _, _, _, _, _, _, _, _, _, _ => none
 | k + 1, f0, f1, f2, f3, f4, d0, d1, d2, d3, d4, d5, d6, d7, d8, d9, d10, d11, d12 => bflat_right k f0 f1 f2 f3 f4 d0 d1 d2 d3 d4 d5 d6 d7 d8 d9 d10 d11 d12
def shq47 : FS := { vs := [.g [.lf (.sl .str), .lf (.sl (.pr (.int .u8) (.pr .str (.pr (.sl (.int .i64)) (.pr (.int .i64) (.pr (.pr (.int .i64) (.int .i64)) (.pr (.pr (.int .i64) (.pr (.sl (.pr (.int .i64) (.int .i64))) (.sl (.int .i64)))) (.pr .str (.pr (.int .u8) (.pr (.sl (.pr (.int .i64) (.int .i64))) (.sl (.pr (.int .i64) (.int .i64))))))))))))), .lf (.int .i64), .lf (.int .i64), .lf (.int .i64)], .g [.lf (.int .u8), .lf .str, .lf (.sl (.int .i64)), .lf (.int .i64), .lf (.int .i64), .lf (.int .i64), .lf (.int .i64), .lf (.sl (.pr (.int .i64) (.int .i64))), .lf (.sl (.int .i64)), .lf .str, .lf (.int .u8), .lf (.sl (.pr (.int .i64) (.int .i64))), .lf (.sl (.pr (.int .i64) (.int .i64)))]], bs := [] }
def rsq47 : List FS := [{ vs := [.a (.lf .bool)], bs := [] }]
def Iq47 (k : Nat) : Inst := ⟨185, shq47, rsq47, fun x => Fflat_right k x.1 x.2.1 x.2.2.1 x.2.2.2.1 x.2.2.2.2.1 x.2.2.2.2.2.1 x.2.2.2.2.2.2.1 x.2.2.2.2.2.2.2.1 x.2.2.2.2.2.2.2.2.1 x.2.2.2.2.2.2.2.2.2.1 x.2.2.2.2.2.2.2.2.2.2.1 x.2.2.2.2.2.2.2.2.2.2.2.1 x.2.2.2.2.2.2.2.2.2.2.2.2.1 x.2.2.2.2.2.2.2.2.2.2.2.2.2.1 x.2.2.2.2.2.2.2.2.2.2.2.2.2.2.1 x.2.2.2.2.2.2.2.2.2.2.2.2.2.2.2.1 x.2.2.2.2.2.2.2.2.2.2.2.2.2.2.2.2.1 x.2.2.2.2.2.2.2.2.2.2.2.2.2.2.2.2.2⟩
theorem alq47 (k : Nat) : AllI (call cf k) [Iq43 k, Iq101 k, Iq45 k, Iq46 k, Iq55 k, Iq57 k] := qA (okq43 k) (qA (okq101 k) (qA (okq45 k) (qA (okq46 k) (qA (okq55 k) (qA (okq57 k) qT)))))
def hsq131 : List SS := [{ fr := [(2, .a (.ptr 0 0 0)), (3, .a (.ptr 1 0 0)), (30, .a (.lf (.sl (.int .i64)))), (31, .a (.lf (.int .i64))), (32, .a (.lf (.int .i64)))], mem := [(0, some (.raw [[.lf (.sl .str), .lf (.sl (.pr (.int .u8) (.pr .str (.pr (.sl (.int .i64)) (.pr (.int .i64) (.pr (.pr (.int .i64) (.int .i64)) (.pr (.pr (.int .i64) (.pr (.sl (.pr (.int .i64) (.int .i64))) (.sl (.int .i64)))) (.pr .str (.pr (.int .u8) (.pr (.sl (.pr (.int .i64) (.int .i64))) (.sl (.pr (.int .i64) (.int .i64))))))))))))), .lf (.int .i64), .lf (.int .i64), .lf (.int .i64)]] 5 27 true false false)), (1, some (.raw [[.lf (.int .u8), .lf .str, .lf (.sl (.int .i64)), .lf (.int .i64), .lf (.int .i64), .lf (.int .i64), .lf (.int .i64), .lf (.sl (.pr (.int .i64) (.int .i64))), .lf (.sl (.int .i64)), .lf .str, .lf (.int .u8), .lf (.sl (.pr (.int .i64) (.int .i64))), .lf (.sl (.pr (.int .i64) (.int .i64)))]] 13 48 true false false))], nx := 2 }]
def osq131 : List OS := [⟨none, { fr := [(4, .a (.lf .bool))], mem := [(0, some (.raw [[.lf (.sl .str), .lf (.sl (.pr (.int .u8) (.pr .str (.pr (.sl (.int .i64)) (.pr (.int .i64) (.pr (.pr (.int .i64) (.int .i64)) (.pr (.pr (.int .i64) (.pr (.sl (.pr (.int .i64) (.int .i64))) (.sl (.int .i64)))) (.pr .str (.pr (.int .u8) (.pr (.sl (.pr (.int .i64) (.int .i64))) (.sl (.pr (.int .i64) (.int .i64))))))))))))), .lf (.int .i64), .lf (.int .i64), .lf (.int .i64)]] 5 27 true false false)), (1, some (.raw [[.lf (.int .u8), .lf .str, .lf (.sl (.int .i64)), .lf (.int .i64), .lf (.int .i64), .lf (.int .i64), .lf (.int .i64), .lf (.sl (.pr (.int .i64) (.int .i64))), .lf (.sl (.int .i64)), .lf .str, .lf (.int .u8), .lf (.sl (.pr (.int .i64) (.int .i64))), .lf (.sl (.pr (.int .i64) (.int .i64)))]] 13 48 true false false))], nx := 2 }⟩, ⟨some 0, { fr := [(2, .a (.ptr 0 0 0)), (3, .a (.ptr 1 0 0))], mem := [(0, some (.raw [[.lf (.sl .str), .lf (.sl (.pr (.int .u8) (.pr .str (.pr (.sl (.int .i64)) (.pr (.int .i64) (.pr (.pr (.int .i64) (.int .i64)) (.pr (.pr (.int .i64) (.pr (.sl (.pr (.int .i64) (.int .i64))) (.sl (.int .i64)))) (.pr .str (.pr (.int .u8) (.pr (.sl (.pr (.int .i64) (.int .i64))) (.sl (.pr (.int .i64) (.int .i64))))))))))))), .lf (.int .i64), .lf (.int .i64), .lf (.int .i64)]] 5 27 true false false)), (1, some (.raw [[.lf (.int .u8), .lf .str, .lf (.sl (.int .i64)), .lf (.int .i64), .lf (.int .i64), .lf (.int .i64), .lf (.int .i64), .lf (.sl (.pr (.int .i64) (.int .i64))), .lf (.sl (.int .i64)), .lf .str, .lf (.int .u8), .lf (.sl (.pr (.int .i64) (.int .i64))), .lf (.sl (.pr (.int .i64) (.int .i64)))]] 13 48 true false false))], nx := 2 }⟩]
def LIq131 (k : Nat) : LInst := ⟨0, hsq131, osq131, fun x => Lflat_right_0 k k x.1 x.2.1 x.2.2.1 x.2.2.2.1 x.2.2.2.2.1 x.2.2.2.2.2.1 x.2.2.2.2.2.2.1 x.2.2.2.2.2.2.2.1 x.2.2.2.2.2.2.2.2.1 x.2.2.2.2.2.2.2.2.2.1 x.2.2.2.2.2.2.2.2.2.2.1 x.2.2.2.2.2.2.2.2.2.2.2.1 x.2.2.2.2.2.2.2.2.2.2.2.2.1 x.2.2.2.2.2.2.2.2.2.2.2.2.2.1 x.2.2.2.2.2.2.2.2.2.2.2.2.2.2.1 x.2.2.2.2.2.2.2.2.2.2.2.2.2.2.2.1 x.2.2.2.2.2.2.2.2.2.2.2.2.2.2.2.2.1 x.2.2.2.2.2.2.2.2.2.2.2.2.2.2.2.2.2.1 x.2.2.2.2.2.2.2.2.2.2.2.2.2.2.2.2.2.2.1 x.2.2.2.2.2.2.2.2.2.2.2.2.2.2.2.2.2.2.2.1 x.2.2.2.2.2.2.2.2.2.2.2.2.2.2.2.2.2.2.2.2⟩
theorem anq131 (k : Nat) : LAll (LOk (R := DS OS.D osq131) (fun b _ σ K => LOt Ty (kps 185) 0 b σ K []) cf (call cf k) (kps 185) Tryz.f185.ntmps k 0) 0 (lb Tryz.f185 0) :=
 qA qT (qA (qA qT qT) (qA (qA qT (qA qT (qA (qA qT qT) qT))) qT))
theorem stq131 (k n : Nat) (x : DS SS.D hsq131) : Lflat_right_0 k (n + 1) x.1 x.2.1 x.2.2.1 x.2.2.2.1 x.2.2.2.2.1 x.2.2.2.2.2.1 x.2.2.2.2.2.2.1 x.2.2.2.2.2.2.2.1 x.2.2.2.2.2.2.2.2.1 x.2.2.2.2.2.2.2.2.2.1 x.2.2.2.2.2.2.2.2.2.2.1 x.2.2.2.2.2.2.2.2.2.2.2.1 x.2.2.2.2.2.2.2.2.2.2.2.2.1 x.2.2.2.2.2.2.2.2.2.2.2.2.2.1 x.2.2.2.2.2.2.2.2.2.2.2.2.2.2.1 x.2.2.2.2.2.2.2.2.2.2.2.2.2.2.2.1 x.2.2.2.2.2.2.2.2.2.2.2.2.2.2.2.2.1 x.2.2.2.2.2.2.2.2.2.2.2.2.2.2.2.2.2.1 x.2.2.2.2.2.2.2.2.2.2.2.2.2.2.2.2.2.2.1 x.2.2.2.2.2.2.2.2.2.2.2.2.2.2.2.2.2.2.2.1 x.2.2.2.2.2.2.2.2.2.2.2.2.2.2.2.2.2.2.2.2 = encSK SS.enc (fun σ => run2 cf (fun f a b K => COt f a b K [Iq43 k, Iq101 k, Iq45 k, Iq46 k, Iq55 k, Iq57 k]) (fun b _ σ K => LOt Ty (kps 185) 0 b σ K []) Tryz.f185.ntmps 0 (lb Tryz.f185 0) σ (nextK Ty (kps 185 0) 0 hsq131 osq131 fun x => Lflat_right_0 k n x.1 x.2.1 x.2.2.1 x.2.2.2.1 x.2.2.2.2.1 x.2.2.2.2.2.1 x.2.2.2.2.2.2.1 x.2.2.2.2.2.2.2.1 x.2.2.2.2.2.2.2.2.1 x.2.2.2.2.2.2.2.2.2.1 x.2.2.2.2.2.2.2.2.2.2.1 x.2.2.2.2.2.2.2.2.2.2.2.1 x.2.2.2.2.2.2.2.2.2.2.2.2.1 x.2.2.2.2.2.2.2.2.2.2.2.2.2.1 x.2.2.2.2.2.2.2.2.2.2.2.2.2.2.1 x.2.2.2.2.2.2.2.2.2.2.2.2.2.2.2.1 x.2.2.2.2.2.2.2.2.2.2.2.2.2.2.2.2.1 x.2.2.2.2.2.2.2.2.2.2.2.2.2.2.2.2.2.1 x.2.2.2.2.2.2.2.2.2.2.2.2.2.2.2.2.2.2.1 x.2.2.2.2.2.2.2.2.2.2.2.2.2.2.2.2.2.2.2.1 x.2.2.2.2.2.2.2.2.2.2.2.2.2.2.2.2.2.2.2.2)) hsq131 x := by kernel_rfl
theorem loq131 (k : Nat) : LIOk cf (call cf k) (kps 185) Tryz.f185.ntmps k 0 0 (lb Tryz.f185 0) (LIq131 k) :=
 loop_ok (c := cf) (callF := call cf k) (kp := kps 185) (nt := Tryz.f185.ntmps) (k := k) (p := 0) (b := 0) (x0 := lb Tryz.f185 0) (hs := hsq131) (os := osq131) (COt_ok (alq47 k)) (anq131 k) (fun n x => Lflat_right_0 k n x.1 x.2.1 x.2.2.1 x.2.2.2.1 x.2.2.2.2.1 x.2.2.2.2.2.1 x.2.2.2.2.2.2.1 x.2.2.2.2.2.2.2.1 x.2.2.2.2.2.2.2.2.1 x.2.2.2.2.2.2.2.2.2.1 x.2.2.2.2.2.2.2.2.2.2.1 x.2.2.2.2.2.2.2.2.2.2.2.1 x.2.2.2.2.2.2.2.2.2.2.2.2.1 x.2.2.2.2.2.2.2.2.2.2.2.2.2.1 x.2.2.2.2.2.2.2.2.2.2.2.2.2.2.1 x.2.2.2.2.2.2.2.2.2.2.2.2.2.2.2.1 x.2.2.2.2.2.2.2.2.2.2.2.2.2.2.2.2.1 x.2.2.2.2.2.2.2.2.2.2.2.2.2.2.2.2.2.1 x.2.2.2.2.2.2.2.2.2.2.2.2.2.2.2.2.2.2.1 x.2.2.2.2.2.2.2.2.2.2.2.2.2.2.2.2.2.2.2.1 x.2.2.2.2.2.2.2.2.2.2.2.2.2.2.2.2.2.2.2.2) (fun _ => rfl) (stq131 k)
theorem anq47 (k : Nat) : LAll (LOk (R := DS FS.D rsq47) (fun b _ σ K => LOt Ty (kps 185) 0 b σ K [LIq131 k]) cf (call cf k) (cf.keep 185) Tryz.f185.ntmps k shq47.bs.length) 0 (bd Tryz.f185) :=
 qA qT (qA qT (qA (qA qT (qA (qA qT qT) qT)) (qA (qA qT (LOt_ok (c := cf) (callF := call cf k) (kp := kps 185) (nt := Tryz.f185.ntmps) (k := k) (p := 0) (b := 0) (x0 := lb Tryz.f185 0) (l := [LIq131 k]) (qA (fun _ => loq131 k) qT))) (qA (qA qT (qA (qA qT (qA qT qT)) (qA (qA qT qT) (qA (qA qT (qA qT qT)) (qA (qA qT qT) (qA (qA qT (qA qT qT)) (qA (qA qT (qA (qA qT qT) qT)) (qA qT (qA (qA qT qT) qT))))))))) (qA qT (qA qT qT))))))
theorem stq47 (k : Nat) (x : shq47.D) : Fflat_right (k + 1) x.1 x.2.1 x.2.2.1 x.2.2.2.1 x.2.2.2.2.1 x.2.2.2.2.2.1 x.2.2.2.2.2.2.1 x.2.2.2.2.2.2.2.1 x.2.2.2.2.2.2.2.2.1 x.2.2.2.2.2.2.2.2.2.1 x.2.2.2.2.2.2.2.2.2.2.1 x.2.2.2.2.2.2.2.2.2.2.2.1 x.2.2.2.2.2.2.2.2.2.2.2.2.1 x.2.2.2.2.2.2.2.2.2.2.2.2.2.1 x.2.2.2.2.2.2.2.2.2.2.2.2.2.2.1 x.2.2.2.2.2.2.2.2.2.2.2.2.2.2.2.1 x.2.2.2.2.2.2.2.2.2.2.2.2.2.2.2.2.1 x.2.2.2.2.2.2.2.2.2.2.2.2.2.2.2.2.2 = body2 cf (fun f a b K => COt f a b K [Iq43 k, Iq101 k, Iq45 k, Iq46 k, Iq55 k, Iq57 k]) (fun b _ σ K => LOt Ty (kps 185) 0 b σ K [LIq131 k]) 185 Tryz.f185.ntmps Tryz.f185.results.toList (bd Tryz.f185) (shq47.enc x).1 (shq47.enc x).2 (putS FS.dec rsq47) := by kernel_rfl
theorem okq47 : ∀ k, InstOk (call cf k) (Iq47 k)
 | 0 => fun x y e => absurd (show (none : Option _) = some y from e) (by simp)
 | k + 1 => inst_ok (c := cf) (k := k) (f := 185) (fn := Tryz.f185) (body := bd Tryz.f185) (sh := shq47) (os := rsq47) rfl Tryz.func185 rfl ⟨rfl, Nat.le_of_ble_eq_true rfl⟩ (COt_ok (alq47 k)) (anq47 k) (fun x => Fflat_right (k + 1) x.1 x.2.1 x.2.2.1 x.2.2.2.1 x.2.2.2.2.1 x.2.2.2.2.2.1 x.2.2.2.2.2.2.1 x.2.2.2.2.2.2.2.1 x.2.2.2.2.2.2.2.2.1 x.2.2.2.2.2.2.2.2.2.1 x.2.2.2.2.2.2.2.2.2.2.1 x.2.2.2.2.2.2.2.2.2.2.2.1 x.2.2.2.2.2.2.2.2.2.2.2.2.1 x.2.2.2.2.2.2.2.2.2.2.2.2.2.1 x.2.2.2.2.2.2.2.2.2.2.2.2.2.2.1 x.2.2.2.2.2.2.2.2.2.2.2.2.2.2.2.1 x.2.2.2.2.2.2.2.2.2.2.2.2.2.2.2.2.1 x.2.2.2.2.2.2.2.2.2.2.2.2.2.2.2.2.2) (stq47 k)

/-! strings.IndexByte -/
def bstrings_IndexByte (k : Nat) (s : ByteArray) (c : Int) : Option (Int) :=
 (some (idxB s c))
def Fstrings_IndexByte : Nat → ByteArray → Int → Option (Int)
 | 0, _, _ => none
 | k + 1, s, c => bstrings_IndexByte k s c
def shq92 : FS := { vs := [.a (.lf .str), .a (.lf (.int .u8))], bs := [] }
def rsq92 : List FS := [{ vs := [.a (.lf (.int .i64))], bs := [] }]
def Iq92 (k : Nat) : Inst := ⟨59, shq92, rsq92, fun x => Fstrings_IndexByte k x.1 x.2⟩
theorem alq92 (k : Nat) : AllI (call cf k) [] := True.intro
theorem stq92 (k : Nat) (x : shq92.D) : Fstrings_IndexByte (k + 1) x.1 x.2 = (kIndexByte) (DS FS.D rsq92) (shq92.enc x).1 (shq92.enc x).2 (putS FS.dec rsq92) := by kernel_rfl
theorem okq92 : ∀ k, InstOk (call cf k) (Iq92 k)
 | 0 => fun x y e => absurd (show (none : Option _) = some y from e) (by simp)
 | k + 1 => inst_okX (c := cf) (k := k) (f := 59) (g := gIndexByte) (G := kIndexByte) (sh := shq92) (os := rsq92) rfl (kIndexByte_at) (fun x => Fstrings_IndexByte (k + 1) x.1 x.2) (stq92 k)

/-! shunt/flat.count -/
def Lflat_count_0s (k : Nat) (rec : Int → Nat → List (Int × ByteArray × List Int × Int × (Int × Int) × (Int × List (Int × Int) × List Int) × ByteArray × Int × List (Int × Int) × List (Int × Int)) → Int → Int → List Int → Option (Int × Nat × List Int)) (n : Int) (branch : Nat) (x : List (Int × ByteArray × List Int × Int × (Int × Int) × (Int × List (Int × Int) × List Int) × ByteArray × Int × List (Int × Int) × List (Int × Int))) (x1 : Int) (x2 : Int) (branchs : List Int) : Option (Int × Nat × List Int) :=
 if ((decide (x2 < x1)) = true) then
 if ((0 : Int) ≤ x2) then
 Option.bind (x)[(Int.toNat x2)]? fun x3 =>
 Option.bind (Fstrings_IndexByte k (ByteArray.mk (List.toArray (118 :: (101 :: (104 :: (99 :: (108 :: (116 :: [])))))))) x3.1) fun r6 =>
 if ((decide (r6 ≥ (0 : Int))) = true) then
 if (branch ≤ (List.length branchs)) then
 if (((branch + (List.length (List.take 1 (n :: [])))) * 8) ≤ 140737488355328) then
 rec (IntKind.wrap .i64 (n + (1 : Int))) (branch + (List.length (List.take 1 (n :: [])))) x x1 (IntKind.wrap .i64 (x2 + (1 : Int))) ((List.take branch branchs) ++ (List.take 1 (n :: [])))
 else
 none
 else
 none
 else
 if (branch ≤ (List.length branchs)) then
 if (((branch + 1) * 8) ≤ 140737488355328) then
 rec n (branch + 1) x x1 (IntKind.wrap .i64 (x2 + (1 : Int))) ((List.take branch branchs) ++ (List.take 1 ((-(1 : Int)) :: [])))
 else
 none
 else
 none
 else
 none
 else
 (some (n, branch, branchs))
def Lflat_count_0 (k n : Nat) : Int → Nat → List (Int × ByteArray × List Int × Int × (Int × Int) × (Int × List (Int × Int) × List Int) × ByteArray × Int × List (Int × Int) × List (Int × Int)) → Int → Int → List Int → Option (Int × Nat × List Int) := Nat.rec (fun _ _ _ _ _ _ => none) (fun _ r => Lflat_count_0s k r) n
def bflat_count (k : Nat) (f0 : List ByteArray) (f1 : List (Int × ByteArray × List Int × Int × (Int × Int) × (Int × List (Int × Int) × List Int) × ByteArray × Int × List (Int × Int) × List (Int × Int))) (f2 : Int) (f3 : Int) (f4 : Int) : Option (Int × List Int) :=
 Option.bind (Lflat_count_0 k k (IntKind.wrap .i64 ((((List.length f0) : Nat) : Int) - (1 : Int))) 0 f1 (((List.length f1) : Nat) : Int) (0 : Int) []) fun r6 =>
 if ((0 + r6.2.1) ≤ (List.length r6.2.2)) then
 (some (r6.1, (List.take r6.2.1 r6.2.2)))
 else
 none
def Fflat_count : Nat → List ByteArray → List (Int × ByteArray × List Int × Int × (Int × Int) × (Int × List (Int × Int) × List Int) × ByteArray × Int × List (Int × Int) × List (Int × Int)) → Int → Int → Int → Option (Int × List Int)
 | 0, _, _, _, _, _ => none
 | k + 1, f0, f1, f2, f3, f4 => bflat_count k f0 f1 f2 f3 f4
def shq42 : FS := { vs := [.g [.lf (.sl .str), .lf (.sl (.pr (.int .u8) (.pr .str (.pr (.sl (.int .i64)) (.pr (.int .i64) (.pr (.pr (.int .i64) (.int .i64)) (.pr (.pr (.int .i64) (.pr (.sl (.pr (.int .i64) (.int .i64))) (.sl (.int .i64)))) (.pr .str (.pr (.int .u8) (.pr (.sl (.pr (.int .i64) (.int .i64))) (.sl (.pr (.int .i64) (.int .i64))))))))))))), .lf (.int .i64), .lf (.int .i64), .lf (.int .i64)]], bs := [] }
def rsq42 : List FS := [{ vs := [.a (.lf (.int .i64)), .a (.lf (.sl (.int .i64)))], bs := [] }]
def Iq42 (k : Nat) : Inst := ⟨186, shq42, rsq42, fun x => Fflat_count k x.1 x.2.1 x.2.2.1 x.2.2.2.1 x.2.2.2.2⟩
theorem alq42 (k : Nat) : AllI (call cf k) [Iq92 k] := qA (okq92 k) qT
def hsq130 : List SS := [{ fr := [(4, .a (.lf (.int .i64))), (5, .a (.smz 0)), (14, .a (.lf (.sl (.pr (.int .u8) (.pr .str (.pr (.sl (.int .i64)) (.pr (.int .i64) (.pr (.pr (.int .i64) (.int .i64)) (.pr (.pr (.int .i64) (.pr (.sl (.pr (.int .i64) (.int .i64))) (.sl (.int .i64)))) (.pr .str (.pr (.int .u8) (.pr (.sl (.pr (.int .i64) (.int .i64))) (.sl (.pr (.int .i64) (.int .i64))))))))))))))), (15, .a (.lf (.int .i64))), (16, .a (.lf (.int .i64)))], mem := [(0, some (.arr (.int .i64) 1 3 false))], nx := 1 }]
def osq130 : List OS := [⟨some 0, { fr := [(4, .a (.lf (.int .i64))), (5, .a (.smz 0))], mem := [(0, some (.arr (.int .i64) 1 3 false))], nx := 1 }⟩]
def LIq130 (k : Nat) : LInst := ⟨0, hsq130, osq130, fun x => Lflat_count_0 k k x.1 x.2.1 x.2.2.1 x.2.2.2.1 x.2.2.2.2.1 x.2.2.2.2.2⟩
theorem anq130 (k : Nat) : LAll (LOk (R := DS OS.D osq130) (fun b _ σ K => LOt Ty (kps 186) 0 b σ K []) cf (call cf k) (kps 186) Tryz.f186.ntmps k 0) 0 (lb Tryz.f186 0) :=
 qA qT (qA (qA qT qT) (qA (qA qT (qA qT (qA (qA qT (qA (qA qT qT) qT)) qT))) qT))
theorem stq130 (k n : Nat) (x : DS SS.D hsq130) : Lflat_count_0 k (n + 1) x.1 x.2.1 x.2.2.1 x.2.2.2.1 x.2.2.2.2.1 x.2.2.2.2.2 = encSK SS.enc (fun σ => run2 cf (fun f a b K => COt f a b K [Iq92 k]) (fun b _ σ K => LOt Ty (kps 186) 0 b σ K []) Tryz.f186.ntmps 0 (lb Tryz.f186 0) σ (nextK Ty (kps 186 0) 0 hsq130 osq130 fun x => Lflat_count_0 k n x.1 x.2.1 x.2.2.1 x.2.2.2.1 x.2.2.2.2.1 x.2.2.2.2.2)) hsq130 x := by kernel_rfl
theorem loq130 (k : Nat) : LIOk cf (call cf k) (kps 186) Tryz.f186.ntmps k 0 0 (lb Tryz.f186 0) (LIq130 k) :=
 loop_ok (c := cf) (callF := call cf k) (kp := kps 186) (nt := Tryz.f186.ntmps) (k := k) (p := 0) (b := 0) (x0 := lb Tryz.f186 0) (hs := hsq130) (os := osq130) (COt_ok (alq42 k)) (anq130 k) (fun n x => Lflat_count_0 k n x.1 x.2.1 x.2.2.1 x.2.2.2.1 x.2.2.2.2.1 x.2.2.2.2.2) (fun _ => rfl) (stq130 k)
theorem anq42 (k : Nat) : LAll (LOk (R := DS FS.D rsq42) (fun b _ σ K => LOt Ty (kps 186) 0 b σ K [LIq130 k]) cf (call cf k) (cf.keep 186) Tryz.f186.ntmps k shq42.bs.length) 0 (bd Tryz.f186) :=
 qA qT (qA qT (qA qT (qA (qA qT (LOt_ok (c := cf) (callF := call cf k) (kp := kps 186) (nt := Tryz.f186.ntmps) (k := k) (p := 0) (b := 0) (x0 := lb Tryz.f186 0) (l := [LIq130 k]) (qA (fun _ => loq130 k) qT))) (qA qT qT))))
theorem stq42 (k : Nat) (x : shq42.D) : Fflat_count (k + 1) x.1 x.2.1 x.2.2.1 x.2.2.2.1 x.2.2.2.2 = body2 cf (fun f a b K => COt f a b K [Iq92 k]) (fun b _ σ K => LOt Ty (kps 186) 0 b σ K [LIq130 k]) 186 Tryz.f186.ntmps Tryz.f186.results.toList (bd Tryz.f186) (shq42.enc x).1 (shq42.enc x).2 (putS FS.dec rsq42) := by kernel_rfl
theorem okq42 : ∀ k, InstOk (call cf k) (Iq42 k)
 | 0 => fun x y e => absurd (show (none : Option _) = some y from e) (by simp)
 | k + 1 => inst_ok (c := cf) (k := k) (f := 186) (fn := Tryz.f186) (body := bd Tryz.f186) (sh := shq42) (os := rsq42) rfl Tryz.func186 rfl ⟨rfl, Nat.le_of_ble_eq_true rfl⟩ (COt_ok (alq42 k)) (anq42 k) (fun x => Fflat_count (k + 1) x.1 x.2.1 x.2.2.1 x.2.2.2.1 x.2.2.2.2) (stq42 k)

/-! shunt/flat.Check -/
def Lflat_Check_0s (k : Nat) (rec : List ByteArray → Int → Int → List ByteArray → List (Int × ByteArray × List Int × Int × (Int × Int) × (Int × List (Int × Int) × List Int) × ByteArray × Int × List (Int × Int) × List (Int × Int)) → Int → Int → Int → Option ((Int × List ByteArray × List (Int × ByteArray × List Int × Int × (Int × Int) × (Int × List (Int × Int) × List Int) × ByteArray × Int × List (Int × Int) × List (Int × Int)) × Int × Int × Int) ⊕ (List ByteArray × List (Int × ByteArray × List Int × Int × (Int × Int) × (Int × List (Int × Int) × List Int) × ByteArray × Int × List (Int × Int) × List (Int × Int)) × Int × Int × Int))) (x : List ByteArray) (x1 : Int) (x2 : Int) (f0 : List ByteArray) (f1 : List (Int × ByteArray × List Int × Int × (Int × Int) × (Int × List (Int × Int) × List Int) × ByteArray × Int × List (Int × Int) × List (Int × Int))) (f2 : Int) (f3 : Int) (f4 : Int) : Option ((Int × List ByteArray × List (Int × ByteArray × List Int × Int × (Int × Int) × (Int × List (Int × Int) × List Int) × ByteArray × Int × List (Int × Int) × List (Int × Int)) × Int × Int × Int) ⊕ (List ByteArray × List (Int × ByteArray × List Int × Int × (Int × Int) × (Int × List (Int × Int) × List Int) × ByteArray × Int × List (Int × Int) × List (Int × Int)) × Int × Int × Int)) :=
 if ((decide (x2 < x1)) = true) then
 if ((0 : Int) ≤ x2) then
 Option.bind (x)[(Int.toNat x2)]? fun x3 =>
 Option.bind (Fflat_long k x3) fun r3 =>
 if ((!r3) = true) then
 (some (Sum.inl ((90 : Int), f0, f1, f2, f3, f4)))
 else
 rec x x1 (IntKind.wrap .i64 (x2 + (1 : Int))) f0 f1 f2 f3 f4
 else
 none
 else
 (some (Sum.inr (f0, f1, f2, f3, f4)))
def Lflat_Check_0 (k n : Nat) : List ByteArray → Int → Int → List ByteArray → List (Int × ByteArray × List Int × Int × (Int × Int) × (Int × List (Int × Int) × List Int) × ByteArray × Int × List (Int × Int) × List (Int × Int)) → Int → Int → Int → Option ((Int × List ByteArray × List (Int × ByteArray × List Int × Int × (Int × Int) × (Int × List (Int × Int) × List Int) × ByteArray × Int × List (Int × Int) × List (Int × Int)) × Int × Int × Int) ⊕ (List ByteArray × List (Int × ByteArray × List Int × Int × (Int × Int) × (Int × List (Int × Int) × List Int) × ByteArray × Int × List (Int × Int) × List (Int × Int)) × Int × Int × Int)) := Nat.rec (fun _ _ _ _ _ _ _ _ => none) (fun _ r => Lflat_Check_0s k r) n
def Lflat_Check_2s (k : Nat) (rec : Nat → List (Int × ByteArray × List Int × Int × (Int × Int) × (Int × List (Int × Int) × List Int) × ByteArray × Int × List (Int × Int) × List (Int × Int)) → Int → Int → List ByteArray → List (Int × ByteArray × List Int × Int × (Int × Int) × (Int × List (Int × Int) × List Int) × ByteArray × Int × List (Int × Int) × List (Int × Int)) → Int → Int → Int → List ByteArray → Option ((Int × List ByteArray × List (Int × ByteArray × List Int × Int × (Int × Int) × (Int × List (Int × Int) × List Int) × ByteArray × Int × List (Int × Int) × List (Int × Int)) × Int × Int × Int × List ByteArray × Int × ByteArray × List Int × Int × Int × Int × Int × List (Int × Int) × List Int × ByteArray × Int × List (Int × Int) × List (Int × Int)) ⊕ (Nat × List ByteArray × List (Int × ByteArray × List Int × Int × (Int × Int) × (Int × List (Int × Int) × List Int) × ByteArray × Int × List (Int × Int) × List (Int × Int)) × Int × Int × Int × List ByteArray))) (names : Nat) (x : List (Int × ByteArray × List Int × Int × (Int × Int) × (Int × List (Int × Int) × List Int) × ByteArray × Int × List (Int × Int) × List (Int × Int))) (x1 : Int) (x2 : Int) (f0 : List ByteArray) (f1 : List (Int × ByteArray × List Int × Int × (Int × Int) × (Int × List (Int × Int) × List Int) × ByteArray × Int × List (Int × Int) × List (Int × Int))) (f2 : Int) (f3 : Int) (f4 : Int) (namess : List ByteArray) : Option ((Int × List ByteArray × List (Int × ByteArray × List Int × Int × (Int × Int) × (Int × List (Int × Int) × List Int) × ByteArray × Int × List (Int × Int) × List (Int × Int)) × Int × Int × Int × List ByteArray × Int × ByteArray × List Int × Int × Int × Int × Int × List (Int × Int) × List Int × ByteArray × Int × List (Int × Int) × List (Int × Int)) ⊕ (Nat × List ByteArray × List (Int × ByteArray × List Int × Int × (Int × Int) × (Int × List (Int × Int) × List Int) × ByteArray × Int × List (Int × Int) × List (Int × Int)) × Int × Int × Int × List ByteArray)) :=
 if ((decide (x2 < x1)) = true) then
 if ((0 : Int) ≤ x2) then
 Option.bind (x)[(Int.toNat x2)]? fun x3 =>
 Option.bind (Fflat_right k f0 f1 f2 f3 f4 x3.1 x3.2.1 x3.2.2.1 x3.2.2.2.1 x3.2.2.2.2.1.1 x3.2.2.2.2.1.2 x3.2.2.2.2.2.1.1 x3.2.2.2.2.2.1.2.1 x3.2.2.2.2.2.1.2.2 x3.2.2.2.2.2.2.1 x3.2.2.2.2.2.2.2.1 x3.2.2.2.2.2.2.2.2.1 x3.2.2.2.2.2.2.2.2.2) fun r4 =>
 if ((!r4) = true) then
 (some (Sum.inl ((90 : Int), f0, f1, f2, f3, f4, namess, x3.1, x3.2.1, x3.2.2.1, x3.2.2.2.1, x3.2.2.2.2.1.1, x3.2.2.2.2.1.2, x3.2.2.2.2.2.1.1, x3.2.2.2.2.2.1.2.1, x3.2.2.2.2.2.1.2.2, x3.2.2.2.2.2.2.1, x3.2.2.2.2.2.2.2.1, x3.2.2.2.2.2.2.2.2.1, x3.2.2.2.2.2.2.2.2.2)))
 else
 if (names ≤ (List.length namess)) then
 if (((names + (List.length (List.take 1 (x3.2.1 :: [])))) * 16) ≤ 140737488355328) then
 rec (names + (List.length (List.take 1 (x3.2.1 :: [])))) x x1 (IntKind.wrap .i64 (x2 + (1 : Int))) f0 f1 f2 f3 f4 ((List.take names namess) ++ (List.take 1 (x3.2.1 :: [])))
 else
 none
 else
 none
 else
 none
 else
 (some (Sum.inr (names, f0, f1, f2, f3, f4, namess)))
def Lflat_Check_2 (k n : Nat) : Nat → List (Int × ByteArray × List Int × Int × (Int × Int) × (Int × List (Int × Int) × List Int) × ByteArray × Int × List (Int × Int) × List (Int × Int)) → Int → Int → List ByteArray → List (Int × ByteArray × List Int × Int × (Int × Int) × (Int × List (Int × Int) × List Int) × ByteArray × Int × List (Int × Int) × List (Int × Int)) → Int → Int → Int → List ByteArray → Option ((Int × List ByteArray × List (Int × ByteArray × List Int × Int × (Int × Int) × (Int × List (Int × Int) × List Int) × ByteArray × Int × List (Int × Int) × List (Int × Int)) × Int × Int × Int × List ByteArray × Int × ByteArray × List Int × Int × Int × Int × Int × List (Int × Int) × List Int × ByteArray × Int × List (Int × Int) × List (Int × Int)) ⊕ (Nat × List ByteArray × List (Int × ByteArray × List Int × Int × (Int × Int) × (Int × List (Int × Int) × List Int) × ByteArray × Int × List (Int × Int) × List (Int × Int)) × Int × Int × Int × List ByteArray)) := Nat.rec (fun _ _ _ _ _ _ _ _ _ _ => none) (fun _ r => Lflat_Check_2s k r) n
def bflat_Check (k : Nat) (f0 : List ByteArray) (f1 : List (Int × ByteArray × List Int × Int × (Int × Int) × (Int × List (Int × Int) × List Int) × ByteArray × Int × List (Int × Int) × List (Int × Int))) (f2 : Int) (f3 : Int) (f4 : Int) : Option (Int) :=
 Option.bind (Fnum_Valid k f2 f3) fun r1 =>
 if ((!r1) = false) then
 if ((decide (f2 ≤ (0 : Int))) = false) then
 if ((f4 != (1 : Int)) = true) then
 if ((f4 != (2 : Int)) = true) then
 (some (90 : Int))
 else
 if ((decide ((((List.length f0) : Nat) : Int) < (1 : Int))) = false) then
 if ((decide ((((List.length f0) : Nat) : Int) > (32 : Int))) = false) then
 Option.bind (f0)[0]? fun x =>
 if ((!((Array.toList (ByteArray.data x)) == (Array.toList (ByteArray.data (ByteArray.mk (List.toArray (48 :: []))))))) = false) then
 if ((decide ((((List.length f1) : Nat) : Int) > (64 : Int))) = false) then
 Option.bind (Fflat_twice k f0) fun r2 =>
 if (r2 = true) then
 (some (90 : Int))
 else
 Option.bind (Lflat_Check_0 k k f0 (((List.length f0) : Nat) : Int) (0 : Int) f0 f1 f2 f3 f4) fun r3 =>
 eitherK r3
 (fun r3 =>
 (some r3.1))
 (fun r3 =>
 Option.bind (Lflat_Check_2 k k 0 r3.2.1 (((List.length r3.2.1) : Nat) : Int) (0 : Int) r3.1 r3.2.1 r3.2.2.1 r3.2.2.2.1 r3.2.2.2.2 []) fun r4 =>
 eitherK r4
 (fun r4 =>
 (some r4.1))
 (fun r4 =>
 if ((0 + r4.1) ≤ (List.length r4.2.2.2.2.2.2)) then
 Option.bind (Fflat_twice k (List.take r4.1 r4.2.2.2.2.2.2)) fun r5 =>
 if (r5 = true) then
 (some (90 : Int))
 else
 Option.bind (Fflat_count k r4.2.1 r4.2.2.1 r4.2.2.2.1 r4.2.2.2.2.1 r4.2.2.2.2.2.1) fun r6 =>
 if ((decide (r6.1 > (48 : Int))) = true) then
 (some (5 : Int))
 else
 (some (0 : Int))
 else
 none))
 else
 (some (90 : Int))
 else
 (some (90 : Int))
 else
 (some (90 : Int))
 else
 (some (90 : Int))
 else
 if ((decide ((((List.length f0) : Nat) : Int) < (1 : Int))) = false) then
 if ((decide ((((List.length f0) : Nat) : Int) > (32 : Int))) = false) then
 Option.bind (f0)[0]? fun x =>
 if ((!((Array.toList (ByteArray.data x)) == (Array.toList (ByteArray.data (ByteArray.mk (List.toArray (48 :: []))))))) = false) then
 if ((decide ((((List.length f1) : Nat) : Int) > (64 : Int))) = false) then
 Option.bind (Fflat_twice k f0) fun r2 =>
 if (r2 = true) then
 (some (90 : Int))
 else
 Option.bind (Lflat_Check_0 k k f0 (((List.length f0) : Nat) : Int) (0 : Int) f0 f1 f2 f3 f4) fun r3 =>
 eitherK r3
 (fun r3 =>
 (some r3.1))
 (fun r3 =>
 Option.bind (Lflat_Check_2 k k 0 r3.2.1 (((List.length r3.2.1) : Nat) : Int) (0 : Int) r3.1 r3.2.1 r3.2.2.1 r3.2.2.2.1 r3.2.2.2.2 []) fun r4 =>
 eitherK r4
 (fun r4 =>
 (some r4.1))
 (fun r4 =>
 if ((0 + r4.1) ≤ (List.length r4.2.2.2.2.2.2)) then
 Option.bind (Fflat_twice k (List.take r4.1 r4.2.2.2.2.2.2)) fun r5 =>
 if (r5 = true) then
 (some (90 : Int))
 else
 Option.bind (Fflat_count k r4.2.1 r4.2.2.1 r4.2.2.2.1 r4.2.2.2.2.1 r4.2.2.2.2.2.1) fun r6 =>
 if ((decide (r6.1 > (48 : Int))) = true) then
 (some (5 : Int))
 else
 (some (0 : Int))
 else
 none))
 else
 (some (90 : Int))
 else
 (some (90 : Int))
 else
 (some (90 : Int))
 else
 (some (90 : Int))
 else
 (some (90 : Int))
 else
 (some (90 : Int))
def Fflat_Check : Nat → List ByteArray → List (Int × ByteArray × List Int × Int × (Int × Int) × (Int × List (Int × Int) × List Int) × ByteArray × Int × List (Int × Int) × List (Int × Int)) → Int → Int → Int → Option (Int)
 | 0, _, _, _, _, _ => none
 | k + 1, f0, f1, f2, f3, f4 => bflat_Check k f0 f1 f2 f3 f4
def shq38 : FS := { vs := [.g [.lf (.sl .str), .lf (.sl (.pr (.int .u8) (.pr .str (.pr (.sl (.int .i64)) (.pr (.int .i64) (.pr (.pr (.int .i64) (.int .i64)) (.pr (.pr (.int .i64) (.pr (.sl (.pr (.int .i64) (.int .i64))) (.sl (.int .i64)))) (.pr .str (.pr (.int .u8) (.pr (.sl (.pr (.int .i64) (.int .i64))) (.sl (.pr (.int .i64) (.int .i64))))))))))))), .lf (.int .i64), .lf (.int .i64), .lf (.int .i64)]], bs := [] }
def rsq38 : List FS := [{ vs := [.a (.lf (.int .i64))], bs := [] }]
def Iq38 (k : Nat) : Inst := ⟨120, shq38, rsq38, fun x => Fflat_Check k x.1 x.2.1 x.2.2.1 x.2.2.2.1 x.2.2.2.2⟩
theorem alq38 (k : Nat) : AllI (call cf k) [Iq57 k, Iq48 k, Iq43 k, Iq47 k, Iq42 k] := qA (okq57 k) (qA (okq48 k) (qA (okq43 k) (qA (okq47 k) (qA (okq42 k) qT))))
def hsq127 : List SS := [{ fr := [(1, .a (.ptr 0 0 0)), (59, .a (.lf (.sl .str))), (60, .a (.lf (.int .i64))), (61, .a (.lf (.int .i64)))], mem := [(0, some (.raw [[.lf (.sl .str), .lf (.sl (.pr (.int .u8) (.pr .str (.pr (.sl (.int .i64)) (.pr (.int .i64) (.pr (.pr (.int .i64) (.int .i64)) (.pr (.pr (.int .i64) (.pr (.sl (.pr (.int .i64) (.int .i64))) (.sl (.int .i64)))) (.pr .str (.pr (.int .u8) (.pr (.sl (.pr (.int .i64) (.int .i64))) (.sl (.pr (.int .i64) (.int .i64))))))))))))), .lf (.int .i64), .lf (.int .i64), .lf (.int .i64)]] 5 27 true false false))], nx := 1 }]
def osq127 : List OS := [⟨none, { fr := [(2, .a (.lf (.int .i64)))], mem := [(0, some (.raw [[.lf (.sl .str), .lf (.sl (.pr (.int .u8) (.pr .str (.pr (.sl (.int .i64)) (.pr (.int .i64) (.pr (.pr (.int .i64) (.int .i64)) (.pr (.pr (.int .i64) (.pr (.sl (.pr (.int .i64) (.int .i64))) (.sl (.int .i64)))) (.pr .str (.pr (.int .u8) (.pr (.sl (.pr (.int .i64) (.int .i64))) (.sl (.pr (.int .i64) (.int .i64))))))))))))), .lf (.int .i64), .lf (.int .i64), .lf (.int .i64)]] 5 27 true false false))], nx := 1 }⟩, ⟨some 0, { fr := [(1, .a (.ptr 0 0 0))], mem := [(0, some (.raw [[.lf (.sl .str), .lf (.sl (.pr (.int .u8) (.pr .str (.pr (.sl (.int .i64)) (.pr (.int .i64) (.pr (.pr (.int .i64) (.int .i64)) (.pr (.pr (.int .i64) (.pr (.sl (.pr (.int .i64) (.int .i64))) (.sl (.int .i64)))) (.pr .str (.pr (.int .u8) (.pr (.sl (.pr (.int .i64) (.int .i64))) (.sl (.pr (.int .i64) (.int .i64))))))))))))), .lf (.int .i64), .lf (.int .i64), .lf (.int .i64)]] 5 27 true false false))], nx := 1 }⟩]
def LIq127 (k : Nat) : LInst := ⟨0, hsq127, osq127, fun x => Lflat_Check_0 k k x.1 x.2.1 x.2.2.1 x.2.2.2.1 x.2.2.2.2.1 x.2.2.2.2.2.1 x.2.2.2.2.2.2.1 x.2.2.2.2.2.2.2⟩
theorem anq127 (k : Nat) : LAll (LOk (R := DS OS.D osq127) (fun b _ σ K => LOt Ty (kps 120) 0 b σ K []) cf (call cf k) (kps 120) Tryz.f120.ntmps k 0) 0 (lb Tryz.f120 0) :=
 qA qT (qA (qA qT qT) (qA (qA qT (qA qT (qA (qA qT qT) qT))) qT))
theorem stq127 (k n : Nat) (x : DS SS.D hsq127) : Lflat_Check_0 k (n + 1) x.1 x.2.1 x.2.2.1 x.2.2.2.1 x.2.2.2.2.1 x.2.2.2.2.2.1 x.2.2.2.2.2.2.1 x.2.2.2.2.2.2.2 = encSK SS.enc (fun σ => run2 cf (fun f a b K => COt f a b K [Iq57 k, Iq48 k, Iq43 k, Iq47 k, Iq42 k]) (fun b _ σ K => LOt Ty (kps 120) 0 b σ K []) Tryz.f120.ntmps 0 (lb Tryz.f120 0) σ (nextK Ty (kps 120 0) 0 hsq127 osq127 fun x => Lflat_Check_0 k n x.1 x.2.1 x.2.2.1 x.2.2.2.1 x.2.2.2.2.1 x.2.2.2.2.2.1 x.2.2.2.2.2.2.1 x.2.2.2.2.2.2.2)) hsq127 x := by kernel_rfl
theorem loq127 (k : Nat) : LIOk cf (call cf k) (kps 120) Tryz.f120.ntmps k 0 0 (lb Tryz.f120 0) (LIq127 k) :=
 loop_ok (c := cf) (callF := call cf k) (kp := kps 120) (nt := Tryz.f120.ntmps) (k := k) (p := 0) (b := 0) (x0 := lb Tryz.f120 0) (hs := hsq127) (os := osq127) (COt_ok (alq38 k)) (anq127 k) (fun n x => Lflat_Check_0 k n x.1 x.2.1 x.2.2.1 x.2.2.2.1 x.2.2.2.2.1 x.2.2.2.2.2.1 x.2.2.2.2.2.2.1 x.2.2.2.2.2.2.2) (fun _ => rfl) (stq127 k)
def hsq128 : List SS := [{ fr := [(1, .a (.ptr 0 0 0)), (5, .a (.smz 1)), (70, .a (.lf (.sl (.pr (.int .u8) (.pr .str (.pr (.sl (.int .i64)) (.pr (.int .i64) (.pr (.pr (.int .i64) (.int .i64)) (.pr (.pr (.int .i64) (.pr (.sl (.pr (.int .i64) (.int .i64))) (.sl (.int .i64)))) (.pr .str (.pr (.int .u8) (.pr (.sl (.pr (.int .i64) (.int .i64))) (.sl (.pr (.int .i64) (.int .i64))))))))))))))), (71, .a (.lf (.int .i64))), (72, .a (.lf (.int .i64)))], mem := [(0, some (.raw [[.lf (.sl .str), .lf (.sl (.pr (.int .u8) (.pr .str (.pr (.sl (.int .i64)) (.pr (.int .i64) (.pr (.pr (.int .i64) (.int .i64)) (.pr (.pr (.int .i64) (.pr (.sl (.pr (.int .i64) (.int .i64))) (.sl (.int .i64)))) (.pr .str (.pr (.int .u8) (.pr (.sl (.pr (.int .i64) (.int .i64))) (.sl (.pr (.int .i64) (.int .i64))))))))))))), .lf (.int .i64), .lf (.int .i64), .lf (.int .i64)]] 5 27 true false false)), (1, some (.arr .str 1 9 false))], nx := 2 }]
def osq128 : List OS := [⟨none, { fr := [(2, .a (.lf (.int .i64)))], mem := [(0, some (.raw [[.lf (.sl .str), .lf (.sl (.pr (.int .u8) (.pr .str (.pr (.sl (.int .i64)) (.pr (.int .i64) (.pr (.pr (.int .i64) (.int .i64)) (.pr (.pr (.int .i64) (.pr (.sl (.pr (.int .i64) (.int .i64))) (.sl (.int .i64)))) (.pr .str (.pr (.int .u8) (.pr (.sl (.pr (.int .i64) (.int .i64))) (.sl (.pr (.int .i64) (.int .i64))))))))))))), .lf (.int .i64), .lf (.int .i64), .lf (.int .i64)]] 5 27 true false false)), (1, some (.arr .str 1 9 false)), (2, some (.raw [[.lf (.int .u8), .lf .str, .lf (.sl (.int .i64)), .lf (.int .i64), .lf (.int .i64), .lf (.int .i64), .lf (.int .i64), .lf (.sl (.pr (.int .i64) (.int .i64))), .lf (.sl (.int .i64)), .lf .str, .lf (.int .u8), .lf (.sl (.pr (.int .i64) (.int .i64))), .lf (.sl (.pr (.int .i64) (.int .i64)))]] 13 48 true false false))], nx := 3 }⟩, ⟨some 2, { fr := [(1, .a (.ptr 0 0 0)), (5, .a (.smz 1))], mem := [(0, some (.raw [[.lf (.sl .str), .lf (.sl (.pr (.int .u8) (.pr .str (.pr (.sl (.int .i64)) (.pr (.int .i64) (.pr (.pr (.int .i64) (.int .i64)) (.pr (.pr (.int .i64) (.pr (.sl (.pr (.int .i64) (.int .i64))) (.sl (.int .i64)))) (.pr .str (.pr (.int .u8) (.pr (.sl (.pr (.int .i64) (.int .i64))) (.sl (.pr (.int .i64) (.int .i64))))))))))))), .lf (.int .i64), .lf (.int .i64), .lf (.int .i64)]] 5 27 true false false)), (1, some (.arr .str 1 9 false))], nx := 2 }⟩]
def LIq128 (k : Nat) : LInst := ⟨2, hsq128, osq128, fun x => Lflat_Check_2 k k x.1 x.2.1 x.2.2.1 x.2.2.2.1 x.2.2.2.2.1 x.2.2.2.2.2.1 x.2.2.2.2.2.2.1 x.2.2.2.2.2.2.2.1 x.2.2.2.2.2.2.2.2.1 x.2.2.2.2.2.2.2.2.2⟩
theorem anq128 (k : Nat) : LAll (LOk (R := DS OS.D osq128) (fun b _ σ K => LOt Ty (kps 120) 0 b σ K [LIq127 k]) cf (call cf k) (kps 120) Tryz.f120.ntmps k 0) 2 (lb Tryz.f120 1) :=
 qA qT (qA (qA qT qT) (qA (qA qT (qA (qA qT (qA (qA qT qT) qT)) qT)) qT))
theorem stq128 (k n : Nat) (x : DS SS.D hsq128) : Lflat_Check_2 k (n + 1) x.1 x.2.1 x.2.2.1 x.2.2.2.1 x.2.2.2.2.1 x.2.2.2.2.2.1 x.2.2.2.2.2.2.1 x.2.2.2.2.2.2.2.1 x.2.2.2.2.2.2.2.2.1 x.2.2.2.2.2.2.2.2.2 = encSK SS.enc (fun σ => run2 cf (fun f a b K => COt f a b K [Iq57 k, Iq48 k, Iq43 k, Iq47 k, Iq42 k]) (fun b _ σ K => LOt Ty (kps 120) 0 b σ K [LIq127 k]) Tryz.f120.ntmps 2 (lb Tryz.f120 1) σ (nextK Ty (kps 120 2) 0 hsq128 osq128 fun x => Lflat_Check_2 k n x.1 x.2.1 x.2.2.1 x.2.2.2.1 x.2.2.2.2.1 x.2.2.2.2.2.1 x.2.2.2.2.2.2.1 x.2.2.2.2.2.2.2.1 x.2.2.2.2.2.2.2.2.1 x.2.2.2.2.2.2.2.2.2)) hsq128 x := by kernel_rfl
theorem loq128 (k : Nat) : LIOk cf (call cf k) (kps 120) Tryz.f120.ntmps k 0 2 (lb Tryz.f120 1) (LIq128 k) :=
 loop_ok (c := cf) (callF := call cf k) (kp := kps 120) (nt := Tryz.f120.ntmps) (k := k) (p := 0) (b := 2) (x0 := lb Tryz.f120 1) (hs := hsq128) (os := osq128) (COt_ok (alq38 k)) (anq128 k) (fun n x => Lflat_Check_2 k n x.1 x.2.1 x.2.2.1 x.2.2.2.1 x.2.2.2.2.1 x.2.2.2.2.2.1 x.2.2.2.2.2.2.1 x.2.2.2.2.2.2.2.1 x.2.2.2.2.2.2.2.2.1 x.2.2.2.2.2.2.2.2.2) (fun _ => rfl) (stq128 k)
theorem anq38 (k : Nat) : LAll (LOk (R := DS FS.D rsq38) (fun b _ σ K => LOt Ty (kps 120) 0 b σ K [LIq127 k, LIq128 k]) cf (call cf k) (cf.keep 120) Tryz.f120.ntmps k shq38.bs.length) 0 (bd Tryz.f120) :=
 qA qT (qA (qA qT (qA (qA qT qT) qT)) (qA (qA qT (qA (qA qT qT) qT)) (qA (qA qT (LOt_ok (c := cf) (callF := call cf k) (kp := kps 120) (nt := Tryz.f120.ntmps) (k := k) (p := 0) (b := 0) (x0 := lb Tryz.f120 0) (l := [LIq127 k, LIq128 k]) (qA (fun _ => loq127 k) (qA (fun h => absurd (show (2 : Nat) = 0 from h) (by decide)) qT)))) (qA qT (qA (qA qT (LOt_ok (c := cf) (callF := call cf k) (kp := kps 120) (nt := Tryz.f120.ntmps) (k := k) (p := 0) (b := 2) (x0 := lb Tryz.f120 1) (l := [LIq127 k, LIq128 k]) (qA (fun h => absurd (show (0 : Nat) = 2 from h) (by decide)) (qA (fun _ => loq128 k) qT)))) (qA (qA qT (qA (qA qT qT) qT)) (qA (qA qT (qA qT (qA (qA qT qT) qT))) (qA qT qT))))))))
theorem stq38 (k : Nat) (x : shq38.D) : Fflat_Check (k + 1) x.1 x.2.1 x.2.2.1 x.2.2.2.1 x.2.2.2.2 = body2 cf (fun f a b K => COt f a b K [Iq57 k, Iq48 k, Iq43 k, Iq47 k, Iq42 k]) (fun b _ σ K => LOt Ty (kps 120) 0 b σ K [LIq127 k, LIq128 k]) 120 Tryz.f120.ntmps Tryz.f120.results.toList (bd Tryz.f120) (shq38.enc x).1 (shq38.enc x).2 (putS FS.dec rsq38) := by kernel_rfl
theorem okq38 : ∀ k, InstOk (call cf k) (Iq38 k)
 | 0 => fun x y e => absurd (show (none : Option _) = some y from e) (by simp)
 | k + 1 => inst_ok (c := cf) (k := k) (f := 120) (fn := Tryz.f120) (body := bd Tryz.f120) (sh := shq38) (os := rsq38) rfl Tryz.func120 rfl ⟨rfl, Nat.le_of_ble_eq_true rfl⟩ (COt_ok (alq38 k)) (anq38 k) (fun x => Fflat_Check (k + 1) x.1 x.2.1 x.2.2.1 x.2.2.2.1 x.2.2.2.2) (stq38 k)

/-! shunt/flat.Unknowns -/
def bflat_Unknowns (k : Nat) (f0 : List ByteArray) (f1 : List (Int × ByteArray × List Int × Int × (Int × Int) × (Int × List (Int × Int) × List Int) × ByteArray × Int × List (Int × Int) × List (Int × Int))) (f2 : Int) (f3 : Int) (f4 : Int) : Option (Int × List Int) :=
 Option.bind (Fflat_Check k f0 f1 f2 f3 f4) fun r2 =>
 if ((r2 != (0 : Int)) = true) then
 (some ((0 : Int), []))
 else
 Option.bind (Fflat_count k f0 f1 f2 f3 f4) fun r3 =>
 (some (r3.1, r3.2))
def Fflat_Unknowns : Nat → List ByteArray → List (Int × ByteArray × List Int × Int × (Int × Int) × (Int × List (Int × Int) × List Int) × ByteArray × Int × List (Int × Int) × List (Int × Int)) → Int → Int → Int → Option (Int × List Int)
 | 0, _, _, _, _, _ => none
 | k + 1, f0, f1, f2, f3, f4 => bflat_Unknowns k f0 f1 f2 f3 f4
def shq41 : FS := { vs := [.g [.lf (.sl .str), .lf (.sl (.pr (.int .u8) (.pr .str (.pr (.sl (.int .i64)) (.pr (.int .i64) (.pr (.pr (.int .i64) (.int .i64)) (.pr (.pr (.int .i64) (.pr (.sl (.pr (.int .i64) (.int .i64))) (.sl (.int .i64)))) (.pr .str (.pr (.int .u8) (.pr (.sl (.pr (.int .i64) (.int .i64))) (.sl (.pr (.int .i64) (.int .i64))))))))))))), .lf (.int .i64), .lf (.int .i64), .lf (.int .i64)]], bs := [] }
def rsq41 : List FS := [{ vs := [.a (.lf (.int .i64)), .a (.lf (.sl (.int .i64)))], bs := [] }]
def Iq41 (k : Nat) : Inst := ⟨129, shq41, rsq41, fun x => Fflat_Unknowns k x.1 x.2.1 x.2.2.1 x.2.2.2.1 x.2.2.2.2⟩
theorem alq41 (k : Nat) : AllI (call cf k) [Iq38 k, Iq42 k] := qA (okq38 k) (qA (okq42 k) qT)
theorem anq41 (k : Nat) : LAll (LOk (R := DS FS.D rsq41) (fun b _ σ K => LOt Ty (kps 129) 0 b σ K []) cf (call cf k) (cf.keep 129) Tryz.f129.ntmps k shq41.bs.length) 0 (bd Tryz.f129) :=
 qA qT (qA (qA qT (qA (qA qT qT) qT)) (qA qT qT))
theorem stq41 (k : Nat) (x : shq41.D) : Fflat_Unknowns (k + 1) x.1 x.2.1 x.2.2.1 x.2.2.2.1 x.2.2.2.2 = body2 cf (fun f a b K => COt f a b K [Iq38 k, Iq42 k]) (fun b _ σ K => LOt Ty (kps 129) 0 b σ K []) 129 Tryz.f129.ntmps Tryz.f129.results.toList (bd Tryz.f129) (shq41.enc x).1 (shq41.enc x).2 (putS FS.dec rsq41) := by kernel_rfl
theorem okq41 : ∀ k, InstOk (call cf k) (Iq41 k)
 | 0 => fun x y e => absurd (show (none : Option _) = some y from e) (by simp)
 | k + 1 => inst_ok (c := cf) (k := k) (f := 129) (fn := Tryz.f129) (body := bd Tryz.f129) (sh := shq41) (os := rsq41) rfl Tryz.func129 rfl ⟨rfl, Nat.le_of_ble_eq_true rfl⟩ (COt_ok (alq41 k)) (anq41 k) (fun x => Fflat_Unknowns (k + 1) x.1 x.2.1 x.2.2.1 x.2.2.2.1 x.2.2.2.2) (stq41 k)

/-! shunt/system.Bent -/
def Lsystem_Bent_0s (k : Nat) (rec : Nat → List (Int × ByteArray × List Int × Int × (Int × Int) × (Int × List (Int × Int) × List Int) × ByteArray × Int × List (Int × Int) × List (Int × Int)) → Int → Int → List Int → Option (Nat × List Int)) (l : Nat) (x : List (Int × ByteArray × List Int × Int × (Int × Int) × (Int × List (Int × Int) × List Int) × ByteArray × Int × List (Int × Int) × List (Int × Int))) (x1 : Int) (x2 : Int) (ls : List Int) : Option (Nat × List Int) :=
 if ((decide (x2 < x1)) = true) then
 if ((0 : Int) ≤ x2) then
 Option.bind (x)[(Int.toNat x2)]? fun x3 =>
 if ((x3.1 == (100 : Int)) = false) then
 if ((x3.1 == (115 : Int)) = true) then
 if (l ≤ (List.length ls)) then
 if (((l + (List.length (List.take 1 (x2 :: [])))) * 8) ≤ 140737488355328) then
 rec (l + (List.length (List.take 1 (x2 :: [])))) x x1 (IntKind.wrap .i64 (x2 + (1 : Int))) ((List.take l ls) ++ (List.take 1 (x2 :: [])))
 else
 none
 else
 none
 else
 rec l x x1 (IntKind.wrap .i64 (x2 + (1 : Int))) ls
 else
 if (l ≤ (List.length ls)) then
 if (((l + (List.length (List.take 1 (x2 :: [])))) * 8) ≤ 140737488355328) then
 rec (l + (List.length (List.take 1 (x2 :: [])))) x x1 (IntKind.wrap .i64 (x2 + (1 : Int))) ((List.take l ls) ++ (List.take 1 (x2 :: [])))
 else
 none
 else
 none
 else
 none
 else
 (some (l, ls))
def Lsystem_Bent_0 (k n : Nat) : Nat → List (Int × ByteArray × List Int × Int × (Int × Int) × (Int × List (Int × Int) × List Int) × ByteArray × Int × List (Int × Int) × List (Int × Int)) → Int → Int → List Int → Option (Nat × List Int) := Nat.rec (fun _ _ _ _ _ => none) (fun _ r => Lsystem_Bent_0s k r) n
def bsystem_Bent (k : Nat) (f0 : List ByteArray) (f1 : List (Int × ByteArray × List Int × Int × (Int × Int) × (Int × List (Int × Int) × List Int) × ByteArray × Int × List (Int × Int) × List (Int × Int))) (f2 : Int) (f3 : Int) (f4 : Int) : Option (List Int) :=
 Option.bind (Lsystem_Bent_0 k k 0 f1 (((List.length f1) : Nat) : Int) (0 : Int) []) fun r3 =>
 if ((0 + r3.1) ≤ (List.length r3.2)) then
 (some (List.take r3.1 r3.2))
 else
 none
def Fsystem_Bent : Nat → List ByteArray → List (Int × ByteArray × List Int × Int × (Int × Int) × (Int × List (Int × Int) × List Int) × ByteArray × Int × List (Int × Int) × List (Int × Int)) → Int → Int → Int → Option (List Int)
 | 0, _, _, _, _, _ => none
 | k + 1, f0, f1, f2, f3, f4 => bsystem_Bent k f0 f1 f2 f3 f4
def shq96 : FS := { vs := [.g [.lf (.sl .str), .lf (.sl (.pr (.int .u8) (.pr .str (.pr (.sl (.int .i64)) (.pr (.int .i64) (.pr (.pr (.int .i64) (.int .i64)) (.pr (.pr (.int .i64) (.pr (.sl (.pr (.int .i64) (.int .i64))) (.sl (.int .i64)))) (.pr .str (.pr (.int .u8) (.pr (.sl (.pr (.int .i64) (.int .i64))) (.sl (.pr (.int .i64) (.int .i64))))))))))))), .lf (.int .i64), .lf (.int .i64), .lf (.int .i64)]], bs := [] }
def rsq96 : List FS := [{ vs := [.a (.lf (.sl (.int .i64)))], bs := [] }]
def Iq96 (k : Nat) : Inst := ⟨130, shq96, rsq96, fun x => Fsystem_Bent k x.1 x.2.1 x.2.2.1 x.2.2.2.1 x.2.2.2.2⟩
theorem alq96 (k : Nat) : AllI (call cf k) [] := True.intro
def hsq153 : List SS := [{ fr := [(3, .a (.smz 0)), (7, .a (.lf (.sl (.pr (.int .u8) (.pr .str (.pr (.sl (.int .i64)) (.pr (.int .i64) (.pr (.pr (.int .i64) (.int .i64)) (.pr (.pr (.int .i64) (.pr (.sl (.pr (.int .i64) (.int .i64))) (.sl (.int .i64)))) (.pr .str (.pr (.int .u8) (.pr (.sl (.pr (.int .i64) (.int .i64))) (.sl (.pr (.int .i64) (.int .i64))))))))))))))), (8, .a (.lf (.int .i64))), (9, .a (.lf (.int .i64)))], mem := [(0, some (.arr (.int .i64) 1 3 false))], nx := 1 }]
def osq153 : List OS := [⟨some 0, { fr := [(3, .a (.smz 0))], mem := [(0, some (.arr (.int .i64) 1 3 false))], nx := 1 }⟩]
def LIq153 (k : Nat) : LInst := ⟨0, hsq153, osq153, fun x => Lsystem_Bent_0 k k x.1 x.2.1 x.2.2.1 x.2.2.2.1 x.2.2.2.2⟩
theorem anq153 (k : Nat) : LAll (LOk (R := DS OS.D osq153) (fun b _ σ K => LOt Ty (kps 130) 0 b σ K []) cf (call cf k) (kps 130) Tryz.f130.ntmps k 0) 0 (lb Tryz.f130 0) :=
 qA qT (qA (qA qT qT) (qA (qA qT (qA qT (qA qT qT))) qT))
theorem stq153 (k n : Nat) (x : DS SS.D hsq153) : Lsystem_Bent_0 k (n + 1) x.1 x.2.1 x.2.2.1 x.2.2.2.1 x.2.2.2.2 = encSK SS.enc (fun σ => run2 cf (fun f a b K => COt f a b K []) (fun b _ σ K => LOt Ty (kps 130) 0 b σ K []) Tryz.f130.ntmps 0 (lb Tryz.f130 0) σ (nextK Ty (kps 130 0) 0 hsq153 osq153 fun x => Lsystem_Bent_0 k n x.1 x.2.1 x.2.2.1 x.2.2.2.1 x.2.2.2.2)) hsq153 x := by kernel_rfl
theorem loq153 (k : Nat) : LIOk cf (call cf k) (kps 130) Tryz.f130.ntmps k 0 0 (lb Tryz.f130 0) (LIq153 k) :=
 loop_ok (c := cf) (callF := call cf k) (kp := kps 130) (nt := Tryz.f130.ntmps) (k := k) (p := 0) (b := 0) (x0 := lb Tryz.f130 0) (hs := hsq153) (os := osq153) (COt_ok (alq96 k)) (anq153 k) (fun n x => Lsystem_Bent_0 k n x.1 x.2.1 x.2.2.1 x.2.2.2.1 x.2.2.2.2) (fun _ => rfl) (stq153 k)
theorem anq96 (k : Nat) : LAll (LOk (R := DS FS.D rsq96) (fun b _ σ K => LOt Ty (kps 130) 0 b σ K [LIq153 k]) cf (call cf k) (cf.keep 130) Tryz.f130.ntmps k shq96.bs.length) 0 (bd Tryz.f130) :=
 qA qT (qA qT (qA (qA qT (LOt_ok (c := cf) (callF := call cf k) (kp := kps 130) (nt := Tryz.f130.ntmps) (k := k) (p := 0) (b := 0) (x0 := lb Tryz.f130 0) (l := [LIq153 k]) (qA (fun _ => loq153 k) qT))) (qA qT qT)))
theorem stq96 (k : Nat) (x : shq96.D) : Fsystem_Bent (k + 1) x.1 x.2.1 x.2.2.1 x.2.2.2.1 x.2.2.2.2 = body2 cf (fun f a b K => COt f a b K []) (fun b _ σ K => LOt Ty (kps 130) 0 b σ K [LIq153 k]) 130 Tryz.f130.ntmps Tryz.f130.results.toList (bd Tryz.f130) (shq96.enc x).1 (shq96.enc x).2 (putS FS.dec rsq96) := by kernel_rfl
theorem okq96 : ∀ k, InstOk (call cf k) (Iq96 k)
 | 0 => fun x y e => absurd (show (none : Option _) = some y from e) (by simp)
 | k + 1 => inst_ok (c := cf) (k := k) (f := 130) (fn := Tryz.f130) (body := bd Tryz.f130) (sh := shq96) (os := rsq96) rfl Tryz.func130 rfl ⟨rfl, Nat.le_of_ble_eq_true rfl⟩ (COt_ok (alq96 k)) (anq96 k) (fun x => Fsystem_Bent (k + 1) x.1 x.2.1 x.2.2.1 x.2.2.2.1 x.2.2.2.2) (stq96 k)

/-! shunt/tran.onGrid$1 -/
def btran_onGrid_1 (k : Nat) (v : Int) : Option (Bool) :=
 if ((decide (v > (1000000000000000000 : Int))) = false) then
 (some (decide (v < (-(1000000000000000000 : Int)))))
 else
 (some true)
def Ftran_onGrid_1 : Nat → Int → Option (Bool)
 | 0, _ => none
 | k + 1, v => btran_onGrid_1 k v
def shq99 : FS := { vs := [.a (.lf (.int .i64))], bs := [] }
def rsq99 : List FS := [{ vs := [.a (.lf .bool)], bs := [] }]
def Iq99 (k : Nat) : Inst := ⟨191, shq99, rsq99, fun x => Ftran_onGrid_1 k x⟩
theorem alq99 (k : Nat) : AllI (call cf k) [] := True.intro
theorem anq99 (k : Nat) : LAll (LOk (R := DS FS.D rsq99) (fun b _ σ K => LOt Ty (kps 191) 0 b σ K []) cf (call cf k) (cf.keep 191) Tryz.f191.ntmps k shq99.bs.length) 0 (bd Tryz.f191) :=
 qA qT (qA qT qT)
theorem stq99 (k : Nat) (x : shq99.D) : Ftran_onGrid_1 (k + 1) x = body2 cf (fun f a b K => COt f a b K []) (fun b _ σ K => LOt Ty (kps 191) 0 b σ K []) 191 Tryz.f191.ntmps Tryz.f191.results.toList (bd Tryz.f191) (shq99.enc x).1 (shq99.enc x).2 (putS FS.dec rsq99) := by kernel_rfl
theorem okq99 : ∀ k, InstOk (call cf k) (Iq99 k)
 | 0 => fun x y e => absurd (show (none : Option _) = some y from e) (by simp)
 | k + 1 => inst_ok (c := cf) (k := k) (f := 191) (fn := Tryz.f191) (body := bd Tryz.f191) (sh := shq99) (os := rsq99) rfl Tryz.func191 rfl ⟨rfl, Nat.le_of_ble_eq_true rfl⟩ (COt_ok (alq99 k)) (anq99 k) (fun x => Ftran_onGrid_1 (k + 1) x) (stq99 k)

/-! slices.IndexFunc[[]int64,int64] -/
def Lslices_IndexFunc_int64_int64__yov_0s (k : Nat) (rec : List Int → Int → Int → Option ((Int) ⊕ (Unit))) (s : List Int) (x : Int) (x1 : Int) : Option ((Int) ⊕ (Unit)) :=
 if ((decide (x1 < x)) = true) then
 if ((0 : Int) ≤ x1) then
 Option.bind (s)[(Int.toNat x1)]? fun x2 =>
 Option.bind (Ftran_onGrid_1 k x2) fun r4 =>
 if (r4 = true) then
 (some (Sum.inl x1))
 else
 rec s x (IntKind.wrap .i64 (x1 + (1 : Int)))
 else
 none
 else
 (some (Sum.inr ()))
def Lslices_IndexFunc_int64_int64__yov_0 (k n : Nat) : List Int → Int → Int → Option ((Int) ⊕ (Unit)) := Nat.rec (fun _ _ _ => none) (fun _ r => Lslices_IndexFunc_int64_int64__yov_0s k r) n
def bslices_IndexFunc_int64_int64__yov (k : Nat) (s : List Int) : Option (Int) :=
 Option.bind (Lslices_IndexFunc_int64_int64__yov_0 k k s (((List.length s) : Nat) : Int) (0 : Int)) fun r4 =>
 eitherK r4
 (fun r4 =>
 (some r4))
 (fun r4 =>
 (some (-(1 : Int))))
def Fslices_IndexFunc_int64_int64__yov : Nat → List Int → Option (Int)
 | 0, _ => none
 | k + 1, s => bslices_IndexFunc_int64_int64__yov k s
def shq83 : FS := { vs := [.a (.lf (.sl (.int .i64))), .a (.fn 191 [])], bs := [] }
def rsq83 : List FS := [{ vs := [.a (.lf (.int .i64))], bs := [] }]
def Iq83 (k : Nat) : Inst := ⟨197, shq83, rsq83, fun x => Fslices_IndexFunc_int64_int64__yov k x⟩
theorem alq83 (k : Nat) : AllI (call cf k) [Iq99 k] := qA (okq99 k) qT
def hsq145 : List SS := [{ fr := [(0, .a (.lf (.sl (.int .i64)))), (1, .a (.fn 191 [])), (7, .a (.lf (.int .i64))), (8, .a (.lf (.int .i64)))], mem := [], nx := 0 }]
def osq145 : List OS := [⟨none, { fr := [(4, .a (.lf (.int .i64)))], mem := [], nx := 0 }⟩, ⟨some 0, { fr := [], mem := [], nx := 0 }⟩]
def LIq145 (k : Nat) : LInst := ⟨0, hsq145, osq145, fun x => Lslices_IndexFunc_int64_int64__yov_0 k k x.1 x.2.1 x.2.2⟩
theorem anq145 (k : Nat) : LAll (LOk (R := DS OS.D osq145) (fun b _ σ K => LOt Ty (kps 197) 0 b σ K []) cf (call cf k) (kps 197) Tryz.f197.ntmps k 0) 0 (lb Tryz.f197 0) :=
 qA qT (qA (qA qT qT) (qA (qA qT (qA qT (qA (qA qT qT) qT))) qT))
theorem stq145 (k n : Nat) (x : DS SS.D hsq145) : Lslices_IndexFunc_int64_int64__yov_0 k (n + 1) x.1 x.2.1 x.2.2 = encSK SS.enc (fun σ => run2 cf (fun f a b K => COt f a b K [Iq99 k]) (fun b _ σ K => LOt Ty (kps 197) 0 b σ K []) Tryz.f197.ntmps 0 (lb Tryz.f197 0) σ (nextK Ty (kps 197 0) 0 hsq145 osq145 fun x => Lslices_IndexFunc_int64_int64__yov_0 k n x.1 x.2.1 x.2.2)) hsq145 x := by kernel_rfl
theorem loq145 (k : Nat) : LIOk cf (call cf k) (kps 197) Tryz.f197.ntmps k 0 0 (lb Tryz.f197 0) (LIq145 k) :=
 loop_ok (c := cf) (callF := call cf k) (kp := kps 197) (nt := Tryz.f197.ntmps) (k := k) (p := 0) (b := 0) (x0 := lb Tryz.f197 0) (hs := hsq145) (os := osq145) (COt_ok (alq83 k)) (anq145 k) (fun n x => Lslices_IndexFunc_int64_int64__yov_0 k n x.1 x.2.1 x.2.2) (fun _ => rfl) (stq145 k)
theorem anq83 (k : Nat) : LAll (LOk (R := DS FS.D rsq83) (fun b _ σ K => LOt Ty (kps 197) 0 b σ K [LIq145 k]) cf (call cf k) (cf.keep 197) Tryz.f197.ntmps k shq83.bs.length) 0 (bd Tryz.f197) :=
 qA qT (qA (qA qT (LOt_ok (c := cf) (callF := call cf k) (kp := kps 197) (nt := Tryz.f197.ntmps) (k := k) (p := 0) (b := 0) (x0 := lb Tryz.f197 0) (l := [LIq145 k]) (qA (fun _ => loq145 k) qT))) (qA qT qT))
theorem stq83 (k : Nat) (x : shq83.D) : Fslices_IndexFunc_int64_int64__yov (k + 1) x = body2 cf (fun f a b K => COt f a b K [Iq99 k]) (fun b _ σ K => LOt Ty (kps 197) 0 b σ K [LIq145 k]) 197 Tryz.f197.ntmps Tryz.f197.results.toList (bd Tryz.f197) (shq83.enc x).1 (shq83.enc x).2 (putS FS.dec rsq83) := by kernel_rfl
theorem okq83 : ∀ k, InstOk (call cf k) (Iq83 k)
 | 0 => fun x y e => absurd (show (none : Option _) = some y from e) (by simp)
 | k + 1 => inst_ok (c := cf) (k := k) (f := 197) (fn := Tryz.f197) (body := bd Tryz.f197) (sh := shq83) (os := rsq83) rfl Tryz.func197 rfl ⟨rfl, Nat.le_of_ble_eq_true rfl⟩ (COt_ok (alq83 k)) (anq83 k) (fun x => Fslices_IndexFunc_int64_int64__yov (k + 1) x) (stq83 k)

/-! slices.ContainsFunc[[]int64,int64] -/
def bslices_ContainsFunc_int64_int64__yov (k : Nat) (s : List Int) : Option (Bool) :=
 Option.bind (Fslices_IndexFunc_int64_int64__yov k s) fun r4 =>
 (some (decide (r4 ≥ (0 : Int))))
def Fslices_ContainsFunc_int64_int64__yov : Nat → List Int → Option (Bool)
 | 0, _ => none
 | k + 1, s => bslices_ContainsFunc_int64_int64__yov k s
def shq78 : FS := { vs := [.a (.lf (.sl (.int .i64))), .a (.fn 191 [])], bs := [] }
def rsq78 : List FS := [{ vs := [.a (.lf .bool)], bs := [] }]
def Iq78 (k : Nat) : Inst := ⟨139, shq78, rsq78, fun x => Fslices_ContainsFunc_int64_int64__yov k x⟩
theorem alq78 (k : Nat) : AllI (call cf k) [Iq83 k] := qA (okq83 k) qT
theorem anq78 (k : Nat) : LAll (LOk (R := DS FS.D rsq78) (fun b _ σ K => LOt Ty (kps 139) 0 b σ K []) cf (call cf k) (cf.keep 139) Tryz.f139.ntmps k shq78.bs.length) 0 (bd Tryz.f139) :=
 qA qT (qA qT qT)
theorem stq78 (k : Nat) (x : shq78.D) : Fslices_ContainsFunc_int64_int64__yov (k + 1) x = body2 cf (fun f a b K => COt f a b K [Iq83 k]) (fun b _ σ K => LOt Ty (kps 139) 0 b σ K []) 139 Tryz.f139.ntmps Tryz.f139.results.toList (bd Tryz.f139) (shq78.enc x).1 (shq78.enc x).2 (putS FS.dec rsq78) := by kernel_rfl
theorem okq78 : ∀ k, InstOk (call cf k) (Iq78 k)
 | 0 => fun x y e => absurd (show (none : Option _) = some y from e) (by simp)
 | k + 1 => inst_ok (c := cf) (k := k) (f := 139) (fn := Tryz.f139) (body := bd Tryz.f139) (sh := shq78) (os := rsq78) rfl Tryz.func139 rfl ⟨rfl, Nat.le_of_ble_eq_true rfl⟩ (COt_ok (alq78 k)) (anq78 k) (fun x => Fslices_ContainsFunc_int64_int64__yov (k + 1) x) (stq78 k)

/-! shunt/tran.onGrid -/
def btran_onGrid (k : Nat) (l : List Int) : Option (Bool) :=
 Option.bind (Fslices_ContainsFunc_int64_int64__yov k l) fun r4 =>
 (some (!r4))
def Ftran_onGrid : Nat → List Int → Option (Bool)
 | 0, _ => none
 | k + 1, l => btran_onGrid k l
def shq98 : FS := { vs := [.a (.lf (.sl (.int .i64)))], bs := [] }
def rsq98 : List FS := [{ vs := [.a (.lf .bool)], bs := [] }]
def Iq98 (k : Nat) : Inst := ⟨131, shq98, rsq98, fun x => Ftran_onGrid k x⟩
theorem alq98 (k : Nat) : AllI (call cf k) [Iq78 k] := qA (okq78 k) qT
theorem anq98 (k : Nat) : LAll (LOk (R := DS FS.D rsq98) (fun b _ σ K => LOt Ty (kps 131) 0 b σ K []) cf (call cf k) (cf.keep 131) Tryz.f131.ntmps k shq98.bs.length) 0 (bd Tryz.f131) :=
 qA qT (qA qT qT)
theorem stq98 (k : Nat) (x : shq98.D) : Ftran_onGrid (k + 1) x = body2 cf (fun f a b K => COt f a b K [Iq78 k]) (fun b _ σ K => LOt Ty (kps 131) 0 b σ K []) 131 Tryz.f131.ntmps Tryz.f131.results.toList (bd Tryz.f131) (shq98.enc x).1 (shq98.enc x).2 (putS FS.dec rsq98) := by kernel_rfl
theorem okq98 : ∀ k, InstOk (call cf k) (Iq98 k)
 | 0 => fun x y e => absurd (show (none : Option _) = some y from e) (by simp)
 | k + 1 => inst_ok (c := cf) (k := k) (f := 131) (fn := Tryz.f131) (body := bd Tryz.f131) (sh := shq98) (os := rsq98) rfl Tryz.func131 rfl ⟨rfl, Nat.le_of_ble_eq_true rfl⟩ (COt_ok (alq98 k)) (anq98 k) (fun x => Ftran_onGrid (k + 1) x) (stq98 k)

/-! shunt/model.Count -/
def bmodel_Count (k : Nat) (m0 : ByteArray) (m1 : Int) (m2 : List (Int × Int)) (m3 : List (Int × Int)) : Option (Int) :=
 Option.bind (Fmodel_Valid k m0 m1 m2 m3) fun r6 =>
 if ((!r6) = true) then
 (some (0 : Int))
 else
 (some (((List.length m2) : Nat) : Int))
def Fmodel_Count : Nat → ByteArray → Int → List (Int × Int) → List (Int × Int) → Option (Int)
 | 0, _, _, _, _ => none
 | k + 1, m0, m1, m2, m3 => bmodel_Count k m0 m1 m2 m3
def shq53 : FS := { vs := [.g [.lf .str, .lf (.int .u8), .lf (.sl (.pr (.int .i64) (.int .i64))), .lf (.sl (.pr (.int .i64) (.int .i64)))]], bs := [] }
def rsq53 : List FS := [{ vs := [.a (.lf (.int .i64))], bs := [] }]
def Iq53 (k : Nat) : Inst := ⟨132, shq53, rsq53, fun x => Fmodel_Count k x.1 x.2.1 x.2.2.1 x.2.2.2⟩
theorem alq53 (k : Nat) : AllI (call cf k) [Iq55 k] := qA (okq55 k) qT
theorem anq53 (k : Nat) : LAll (LOk (R := DS FS.D rsq53) (fun b _ σ K => LOt Ty (kps 132) 0 b σ K []) cf (call cf k) (cf.keep 132) Tryz.f132.ntmps k shq53.bs.length) 0 (bd Tryz.f132) :=
 qA qT (qA (qA qT (qA (qA qT qT) qT)) (qA qT qT))
theorem stq53 (k : Nat) (x : shq53.D) : Fmodel_Count (k + 1) x.1 x.2.1 x.2.2.1 x.2.2.2 = body2 cf (fun f a b K => COt f a b K [Iq55 k]) (fun b _ σ K => LOt Ty (kps 132) 0 b σ K []) 132 Tryz.f132.ntmps Tryz.f132.results.toList (bd Tryz.f132) (shq53.enc x).1 (shq53.enc x).2 (putS FS.dec rsq53) := by kernel_rfl
theorem okq53 : ∀ k, InstOk (call cf k) (Iq53 k)
 | 0 => fun x y e => absurd (show (none : Option _) = some y from e) (by simp)
 | k + 1 => inst_ok (c := cf) (k := k) (f := 132) (fn := Tryz.f132) (body := bd Tryz.f132) (sh := shq53) (os := rsq53) rfl Tryz.func132 rfl ⟨rfl, Nat.le_of_ble_eq_true rfl⟩ (COt_ok (alq53 k)) (anq53 k) (fun x => Fmodel_Count (k + 1) x.1 x.2.1 x.2.2.1 x.2.2.2) (stq53 k)

/-! shunt/tran.Check -/
def Ltran_Check_0s (k : Nat) (rec : List Int → Int → Int → List ByteArray → List (Int × ByteArray × List Int × Int × (Int × Int) × (Int × List (Int × Int) × List Int) × ByteArray × Int × List (Int × Int) × List (Int × Int)) → Int → Int → Int → Int → List Int → List Int → List Int → Option ((Int × List ByteArray × List (Int × ByteArray × List Int × Int × (Int × Int) × (Int × List (Int × Int) × List Int) × ByteArray × Int × List (Int × Int) × List (Int × Int)) × Int × Int × Int × Int × List Int × List Int × List Int) ⊕ (List ByteArray × List (Int × ByteArray × List Int × Int × (Int × Int) × (Int × List (Int × Int) × List Int) × ByteArray × Int × List (Int × Int) × List (Int × Int)) × Int × Int × Int × Int × List Int × List Int × List Int))) (x : List Int) (x1 : Int) (x2 : Int) (f0 : List ByteArray) (f1 : List (Int × ByteArray × List Int × Int × (Int × Int) × (Int × List (Int × Int) × List Int) × ByteArray × Int × List (Int × Int) × List (Int × Int))) (f2 : Int) (f3 : Int) (f4 : Int) (st0 : Int) (st1 : List Int) (st2 : List Int) (st3 : List Int) : Option ((Int × List ByteArray × List (Int × ByteArray × List Int × Int × (Int × Int) × (Int × List (Int × Int) × List Int) × ByteArray × Int × List (Int × Int) × List (Int × Int)) × Int × Int × Int × Int × List Int × List Int × List Int) ⊕ (List ByteArray × List (Int × ByteArray × List Int × Int × (Int × Int) × (Int × List (Int × Int) × List Int) × ByteArray × Int × List (Int × Int) × List (Int × Int)) × Int × Int × Int × Int × List Int × List Int × List Int)) :=
 if ((decide (x2 < x1)) = true) then
 if ((0 : Int) ≤ x2) then
 Option.bind (x)[(Int.toNat x2)]? fun x3 =>
 if ((0 : Int) ≤ x2) then
 Option.bind (st3)[(Int.toNat x2)]? fun x4 =>
 if ((decide (x4 < (0 : Int))) = false) then
 if ((0 : Int) ≤ x2) then
 Option.bind (st3)[(Int.toNat x2)]? fun x5 =>
 if ((0 : Int) ≤ x3) then
 Option.bind (f1)[(Int.toNat x3)]? fun x6 =>
 Option.bind (Fmodel_Count k x6.2.2.2.2.2.2.1 x6.2.2.2.2.2.2.2.1 x6.2.2.2.2.2.2.2.2.1 x6.2.2.2.2.2.2.2.2.2) fun r6 =>
 if ((decide (x5 ≥ r6)) = true) then
 (some (Sum.inl ((190 : Int), f0, f1, f2, f3, f4, st0, st1, st2, st3)))
 else
 rec x x1 (IntKind.wrap .i64 (x2 + (1 : Int))) f0 f1 f2 f3 f4 st0 st1 st2 st3
 else
 none
 else
 none
 else
 (some (Sum.inl ((190 : Int), f0, f1, f2, f3, f4, st0, st1, st2, st3)))
 else
 none
 else
 none
 else
 (some (Sum.inr (f0, f1, f2, f3, f4, st0, st1, st2, st3)))
def Ltran_Check_0 (k n : Nat) : List Int → Int → Int → List ByteArray → List (Int × ByteArray × List Int × Int × (Int × Int) × (Int × List (Int × Int) × List Int) × ByteArray × Int × List (Int × Int) × List (Int × Int)) → Int → Int → Int → Int → List Int → List Int → List Int → Option ((Int × List ByteArray × List (Int × ByteArray × List Int × Int × (Int × Int) × (Int × List (Int × Int) × List Int) × ByteArray × Int × List (Int × Int) × List (Int × Int)) × Int × Int × Int × Int × List Int × List Int × List Int) ⊕ (List ByteArray × List (Int × ByteArray × List Int × Int × (Int × Int) × (Int × List (Int × Int) × List Int) × ByteArray × Int × List (Int × Int) × List (Int × Int)) × Int × Int × Int × Int × List Int × List Int × List Int)) := Nat.rec (fun _ _ _ _ _ _ _ _ _ _ _ _ => none) (fun _ r => Ltran_Check_0s k r) n
def btran_Check (k : Nat) (f0 : List ByteArray) (f1 : List (Int × ByteArray × List Int × Int × (Int × Int) × (Int × List (Int × Int) × List Int) × ByteArray × Int × List (Int × Int) × List (Int × Int))) (f2 : Int) (f3 : Int) (f4 : Int) (st0 : Int) (st1 : List Int) (st2 : List Int) (st3 : List Int) : Option (Int) :=
 Option.bind (Fflat_Check k f0 f1 f2 f3 f4) fun r1 =>
 if ((r1 != (0 : Int)) = true) then
 (some r1)
 else
 Option.bind (Fflat_Unknowns k f0 f1 f2 f3 f4) fun r2 =>
 Option.bind (Fsystem_Bent k f0 f1 f2 f3 f4) fun r3 =>
 if ((decide (st0 < (0 : Int))) = false) then
 if ((decide (st0 > (1000000000 : Int))) = false) then
 if (((((List.length st1) : Nat) : Int) != r2.1) = false) then
 if (((((List.length st2) : Nat) : Int) != (((List.length f1) : Nat) : Int)) = false) then
 if (((((List.length st3) : Nat) : Int) != (((List.length r3) : Nat) : Int)) = false) then
 Option.bind (Ftran_onGrid k st1) fun r4 =>
 if ((!r4) = false) then
 Option.bind (Ftran_onGrid k st2) fun r5 =>
 if ((!r5) = true) then
 (some (190 : Int))
 else
 Option.bind (Ltran_Check_0 k k r3 (((List.length r3) : Nat) : Int) (0 : Int) f0 f1 f2 f3 f4 st0 st1 st2 st3) fun r6 =>
 eitherK r6
 (fun r6 =>
 (some r6.1))
 (fun r6 =>
 (some (0 : Int)))
 else
 (some (190 : Int))
 else
 (some (190 : Int))
 else
 (some (190 : Int))
 else
 (some (190 : Int))
 else
 (some (190 : Int))
 else
 (some (190 : Int))
def Ftran_Check : Nat → List ByteArray → List (Int × ByteArray × List Int × Int × (Int × Int) × (Int × List (Int × Int) × List Int) × ByteArray × Int × List (Int × Int) × List (Int × Int)) → Int → Int → Int → Int → List Int → List Int → List Int → Option (Int)
 | 0, _, _, _, _, _, _, _, _, _ => none
 | k + 1, f0, f1, f2, f3, f4, st0, st1, st2, st3 => btran_Check k f0 f1 f2 f3 f4 st0 st1 st2 st3
def shq97 : FS := { vs := [.g [.lf (.sl .str), .lf (.sl (.pr (.int .u8) (.pr .str (.pr (.sl (.int .i64)) (.pr (.int .i64) (.pr (.pr (.int .i64) (.int .i64)) (.pr (.pr (.int .i64) (.pr (.sl (.pr (.int .i64) (.int .i64))) (.sl (.int .i64)))) (.pr .str (.pr (.int .u8) (.pr (.sl (.pr (.int .i64) (.int .i64))) (.sl (.pr (.int .i64) (.int .i64))))))))))))), .lf (.int .i64), .lf (.int .i64), .lf (.int .i64)], .g [.lf (.int .i64), .lf (.sl (.int .i64)), .lf (.sl (.int .i64)), .lf (.sl (.int .i64))]], bs := [] }
def rsq97 : List FS := [{ vs := [.a (.lf (.int .i64))], bs := [] }]
def Iq97 (k : Nat) : Inst := ⟨73, shq97, rsq97, fun x => Ftran_Check k x.1 x.2.1 x.2.2.1 x.2.2.2.1 x.2.2.2.2.1 x.2.2.2.2.2.1 x.2.2.2.2.2.2.1 x.2.2.2.2.2.2.2.1 x.2.2.2.2.2.2.2.2⟩
theorem alq97 (k : Nat) : AllI (call cf k) [Iq38 k, Iq41 k, Iq96 k, Iq98 k, Iq53 k] := qA (okq38 k) (qA (okq41 k) (qA (okq96 k) (qA (okq98 k) (qA (okq53 k) qT))))
def hsq154 : List SS := [{ fr := [(2, .a (.ptr 0 0 0)), (3, .a (.ptr 1 0 0)), (67, .a (.lf (.sl (.int .i64)))), (68, .a (.lf (.int .i64))), (69, .a (.lf (.int .i64)))], mem := [(0, some (.raw [[.lf (.sl .str), .lf (.sl (.pr (.int .u8) (.pr .str (.pr (.sl (.int .i64)) (.pr (.int .i64) (.pr (.pr (.int .i64) (.int .i64)) (.pr (.pr (.int .i64) (.pr (.sl (.pr (.int .i64) (.int .i64))) (.sl (.int .i64)))) (.pr .str (.pr (.int .u8) (.pr (.sl (.pr (.int .i64) (.int .i64))) (.sl (.pr (.int .i64) (.int .i64))))))))))))), .lf (.int .i64), .lf (.int .i64), .lf (.int .i64)]] 5 27 true false false)), (1, some (.raw [[.lf (.int .i64), .lf (.sl (.int .i64)), .lf (.sl (.int .i64)), .lf (.sl (.int .i64))]] 4 53 true false false))], nx := 2 }]
def osq154 : List OS := [⟨none, { fr := [(4, .a (.lf (.int .i64)))], mem := [(0, some (.raw [[.lf (.sl .str), .lf (.sl (.pr (.int .u8) (.pr .str (.pr (.sl (.int .i64)) (.pr (.int .i64) (.pr (.pr (.int .i64) (.int .i64)) (.pr (.pr (.int .i64) (.pr (.sl (.pr (.int .i64) (.int .i64))) (.sl (.int .i64)))) (.pr .str (.pr (.int .u8) (.pr (.sl (.pr (.int .i64) (.int .i64))) (.sl (.pr (.int .i64) (.int .i64))))))))))))), .lf (.int .i64), .lf (.int .i64), .lf (.int .i64)]] 5 27 true false false)), (1, some (.raw [[.lf (.int .i64), .lf (.sl (.int .i64)), .lf (.sl (.int .i64)), .lf (.sl (.int .i64))]] 4 53 true false false))], nx := 2 }⟩, ⟨some 0, { fr := [], mem := [(0, some (.raw [[.lf (.sl .str), .lf (.sl (.pr (.int .u8) (.pr .str (.pr (.sl (.int .i64)) (.pr (.int .i64) (.pr (.pr (.int .i64) (.int .i64)) (.pr (.pr (.int .i64) (.pr (.sl (.pr (.int .i64) (.int .i64))) (.sl (.int .i64)))) (.pr .str (.pr (.int .u8) (.pr (.sl (.pr (.int .i64) (.int .i64))) (.sl (.pr (.int .i64) (.int .i64))))))))))))), .lf (.int .i64), .lf (.int .i64), .lf (.int .i64)]] 5 27 true false false)), (1, some (.raw [[.lf (.int .i64), .lf (.sl (.int .i64)), .lf (.sl (.int .i64)), .lf (.sl (.int .i64))]] 4 53 true false false))], nx := 2 }⟩]
def LIq154 (k : Nat) : LInst := ⟨0, hsq154, osq154, fun x => Ltran_Check_0 k k x.1 x.2.1 x.2.2.1 x.2.2.2.1 x.2.2.2.2.1 x.2.2.2.2.2.1 x.2.2.2.2.2.2.1 x.2.2.2.2.2.2.2.1 x.2.2.2.2.2.2.2.2.1 x.2.2.2.2.2.2.2.2.2.1 x.2.2.2.2.2.2.2.2.2.2.1 x.2.2.2.2.2.2.2.2.2.2.2⟩
theorem anq154 (k : Nat) : LAll (LOk (R := DS OS.D osq154) (fun b _ σ K => LOt Ty (kps 73) 0 b σ K []) cf (call cf k) (kps 73) Tryz.f73.ntmps k 0) 0 (lb Tryz.f73 0) :=
 qA qT (qA (qA qT qT) (qA (qA qT (qA qT (qA (qA qT qT) qT))) qT))
theorem stq154 (k n : Nat) (x : DS SS.D hsq154) : Ltran_Check_0 k (n + 1) x.1 x.2.1 x.2.2.1 x.2.2.2.1 x.2.2.2.2.1 x.2.2.2.2.2.1 x.2.2.2.2.2.2.1 x.2.2.2.2.2.2.2.1 x.2.2.2.2.2.2.2.2.1 x.2.2.2.2.2.2.2.2.2.1 x.2.2.2.2.2.2.2.2.2.2.1 x.2.2.2.2.2.2.2.2.2.2.2 = encSK SS.enc (fun σ => run2 cf (fun f a b K => COt f a b K [Iq38 k, Iq41 k, Iq96 k, Iq98 k, Iq53 k]) (fun b _ σ K => LOt Ty (kps 73) 0 b σ K []) Tryz.f73.ntmps 0 (lb Tryz.f73 0) σ (nextK Ty (kps 73 0) 0 hsq154 osq154 fun x => Ltran_Check_0 k n x.1 x.2.1 x.2.2.1 x.2.2.2.1 x.2.2.2.2.1 x.2.2.2.2.2.1 x.2.2.2.2.2.2.1 x.2.2.2.2.2.2.2.1 x.2.2.2.2.2.2.2.2.1 x.2.2.2.2.2.2.2.2.2.1 x.2.2.2.2.2.2.2.2.2.2.1 x.2.2.2.2.2.2.2.2.2.2.2)) hsq154 x := by kernel_rfl
theorem loq154 (k : Nat) : LIOk cf (call cf k) (kps 73) Tryz.f73.ntmps k 0 0 (lb Tryz.f73 0) (LIq154 k) :=
 loop_ok (c := cf) (callF := call cf k) (kp := kps 73) (nt := Tryz.f73.ntmps) (k := k) (p := 0) (b := 0) (x0 := lb Tryz.f73 0) (hs := hsq154) (os := osq154) (COt_ok (alq97 k)) (anq154 k) (fun n x => Ltran_Check_0 k n x.1 x.2.1 x.2.2.1 x.2.2.2.1 x.2.2.2.2.1 x.2.2.2.2.2.1 x.2.2.2.2.2.2.1 x.2.2.2.2.2.2.2.1 x.2.2.2.2.2.2.2.2.1 x.2.2.2.2.2.2.2.2.2.1 x.2.2.2.2.2.2.2.2.2.2.1 x.2.2.2.2.2.2.2.2.2.2.2) (fun _ => rfl) (stq154 k)
theorem anq97 (k : Nat) : LAll (LOk (R := DS FS.D rsq97) (fun b _ σ K => LOt Ty (kps 73) 0 b σ K [LIq154 k]) cf (call cf k) (cf.keep 73) Tryz.f73.ntmps k shq97.bs.length) 0 (bd Tryz.f73) :=
 qA qT (qA (qA qT (qA qT (qA (qA qT qT) qT))) (qA qT (qA qT (qA (qA qT (qA (qA qT qT) qT)) (qA (qA qT (LOt_ok (c := cf) (callF := call cf k) (kp := kps 73) (nt := Tryz.f73.ntmps) (k := k) (p := 0) (b := 0) (x0 := lb Tryz.f73 0) (l := [LIq154 k]) (qA (fun _ => loq154 k) qT))) (qA qT qT))))))
theorem stq97 (k : Nat) (x : shq97.D) : Ftran_Check (k + 1) x.1 x.2.1 x.2.2.1 x.2.2.2.1 x.2.2.2.2.1 x.2.2.2.2.2.1 x.2.2.2.2.2.2.1 x.2.2.2.2.2.2.2.1 x.2.2.2.2.2.2.2.2 = body2 cf (fun f a b K => COt f a b K [Iq38 k, Iq41 k, Iq96 k, Iq98 k, Iq53 k]) (fun b _ σ K => LOt Ty (kps 73) 0 b σ K [LIq154 k]) 73 Tryz.f73.ntmps Tryz.f73.results.toList (bd Tryz.f73) (shq97.enc x).1 (shq97.enc x).2 (putS FS.dec rsq97) := by kernel_rfl
theorem okq97 : ∀ k, InstOk (call cf k) (Iq97 k)
 | 0 => fun x y e => absurd (show (none : Option _) = some y from e) (by simp)
 | k + 1 => inst_ok (c := cf) (k := k) (f := 73) (fn := Tryz.f73) (body := bd Tryz.f73) (sh := shq97) (os := rsq97) rfl Tryz.func73 rfl ⟨rfl, Nat.le_of_ble_eq_true rfl⟩ (COt_ok (alq97 k)) (anq97 k) (fun x => Ftran_Check (k + 1) x.1 x.2.1 x.2.2.1 x.2.2.2.1 x.2.2.2.2.1 x.2.2.2.2.2.1 x.2.2.2.2.2.2.1 x.2.2.2.2.2.2.2.1 x.2.2.2.2.2.2.2.2) (stq97 k)

/-! shunt/probe.long$1 -/
def bprobe_long_1 (k : Nat) (p : ByteArray) : Option (Bool) :=
 Option.bind (Fcard_Name k p) fun r4 =>
 (some (!r4))
def Fprobe_long_1 : Nat → ByteArray → Option (Bool)
 | 0, _ => none
 | k + 1, p => bprobe_long_1 k p
def shq65 : FS := { vs := [.a (.lf .str)], bs := [] }
def rsq65 : List FS := [{ vs := [.a (.lf .bool)], bs := [] }]
def Iq65 (k : Nat) : Inst := ⟨195, shq65, rsq65, fun x => Fprobe_long_1 k x⟩
theorem alq65 (k : Nat) : AllI (call cf k) [Iq37 k] := qA (okq37 k) qT
theorem anq65 (k : Nat) : LAll (LOk (R := DS FS.D rsq65) (fun b _ σ K => LOt Ty (kps 195) 0 b σ K []) cf (call cf k) (cf.keep 195) Tryz.f195.ntmps k shq65.bs.length) 0 (bd Tryz.f195) :=
 qA qT (qA qT qT)
theorem stq65 (k : Nat) (x : shq65.D) : Fprobe_long_1 (k + 1) x = body2 cf (fun f a b K => COt f a b K [Iq37 k]) (fun b _ σ K => LOt Ty (kps 195) 0 b σ K []) 195 Tryz.f195.ntmps Tryz.f195.results.toList (bd Tryz.f195) (shq65.enc x).1 (shq65.enc x).2 (putS FS.dec rsq65) := by kernel_rfl
theorem okq65 : ∀ k, InstOk (call cf k) (Iq65 k)
 | 0 => fun x y e => absurd (show (none : Option _) = some y from e) (by simp)
 | k + 1 => inst_ok (c := cf) (k := k) (f := 195) (fn := Tryz.f195) (body := bd Tryz.f195) (sh := shq65) (os := rsq65) rfl Tryz.func195 rfl ⟨rfl, Nat.le_of_ble_eq_true rfl⟩ (COt_ok (alq65 k)) (anq65 k) (fun x => Fprobe_long_1 (k + 1) x) (stq65 k)

/-! slices.IndexFunc[[]string,string] -/
def Lslices_IndexFunc_string_string__puh_0s (k : Nat) (rec : List ByteArray → Int → Int → Option ((Int) ⊕ (Unit))) (s : List ByteArray) (x : Int) (x1 : Int) : Option ((Int) ⊕ (Unit)) :=
 if ((decide (x1 < x)) = true) then
 if ((0 : Int) ≤ x1) then
 Option.bind (s)[(Int.toNat x1)]? fun x6 =>
 Option.bind (Fprobe_long_1 k x6) fun r4 =>
 if (r4 = true) then
 (some (Sum.inl x1))
 else
 rec s x (IntKind.wrap .i64 (x1 + (1 : Int)))
 else
 none
 else
 (some (Sum.inr ()))
def Lslices_IndexFunc_string_string__puh_0 (k n : Nat) : List ByteArray → Int → Int → Option ((Int) ⊕ (Unit)) := Nat.rec (fun _ _ _ => none) (fun _ r => Lslices_IndexFunc_string_string__puh_0s k r) n
def bslices_IndexFunc_string_string__puh (k : Nat) (s : List ByteArray) : Option (Int) :=
 Option.bind (Lslices_IndexFunc_string_string__puh_0 k k s (((List.length s) : Nat) : Int) (0 : Int)) fun r4 =>
 eitherK r4
 (fun r4 =>
 (some r4))
 (fun r4 =>
 (some (-(1 : Int))))
def Fslices_IndexFunc_string_string__puh : Nat → List ByteArray → Option (Int)
 | 0, _ => none
 | k + 1, s => bslices_IndexFunc_string_string__puh k s
def shq85 : FS := { vs := [.a (.lf (.sl .str)), .a (.fn 195 [])], bs := [] }
def rsq85 : List FS := [{ vs := [.a (.lf (.int .i64))], bs := [] }]
def Iq85 (k : Nat) : Inst := ⟨194, shq85, rsq85, fun x => Fslices_IndexFunc_string_string__puh k x⟩
theorem alq85 (k : Nat) : AllI (call cf k) [Iq65 k] := qA (okq65 k) qT
def hsq147 : List SS := [{ fr := [(0, .a (.lf (.sl .str))), (1, .a (.fn 195 [])), (7, .a (.lf (.int .i64))), (8, .a (.lf (.int .i64)))], mem := [], nx := 0 }]
def osq147 : List OS := [⟨none, { fr := [(4, .a (.lf (.int .i64)))], mem := [], nx := 0 }⟩, ⟨some 0, { fr := [], mem := [], nx := 0 }⟩]
def LIq147 (k : Nat) : LInst := ⟨0, hsq147, osq147, fun x => Lslices_IndexFunc_string_string__puh_0 k k x.1 x.2.1 x.2.2⟩
theorem anq147 (k : Nat) : LAll (LOk (R := DS OS.D osq147) (fun b _ σ K => LOt Ty (kps 194) 0 b σ K []) cf (call cf k) (kps 194) Tryz.f194.ntmps k 0) 0 (lb Tryz.f194 0) :=
 qA qT (qA (qA qT qT) (qA (qA qT (qA qT (qA (qA qT qT) qT))) qT))
theorem stq147 (k n : Nat) (x : DS SS.D hsq147) : Lslices_IndexFunc_string_string__puh_0 k (n + 1) x.1 x.2.1 x.2.2 = encSK SS.enc (fun σ => run2 cf (fun f a b K => COt f a b K [Iq65 k]) (fun b _ σ K => LOt Ty (kps 194) 0 b σ K []) Tryz.f194.ntmps 0 (lb Tryz.f194 0) σ (nextK Ty (kps 194 0) 0 hsq147 osq147 fun x => Lslices_IndexFunc_string_string__puh_0 k n x.1 x.2.1 x.2.2)) hsq147 x := by kernel_rfl
theorem loq147 (k : Nat) : LIOk cf (call cf k) (kps 194) Tryz.f194.ntmps k 0 0 (lb Tryz.f194 0) (LIq147 k) :=
 loop_ok (c := cf) (callF := call cf k) (kp := kps 194) (nt := Tryz.f194.ntmps) (k := k) (p := 0) (b := 0) (x0 := lb Tryz.f194 0) (hs := hsq147) (os := osq147) (COt_ok (alq85 k)) (anq147 k) (fun n x => Lslices_IndexFunc_string_string__puh_0 k n x.1 x.2.1 x.2.2) (fun _ => rfl) (stq147 k)
theorem anq85 (k : Nat) : LAll (LOk (R := DS FS.D rsq85) (fun b _ σ K => LOt Ty (kps 194) 0 b σ K [LIq147 k]) cf (call cf k) (cf.keep 194) Tryz.f194.ntmps k shq85.bs.length) 0 (bd Tryz.f194) :=
 qA qT (qA (qA qT (LOt_ok (c := cf) (callF := call cf k) (kp := kps 194) (nt := Tryz.f194.ntmps) (k := k) (p := 0) (b := 0) (x0 := lb Tryz.f194 0) (l := [LIq147 k]) (qA (fun _ => loq147 k) qT))) (qA qT qT))
theorem stq85 (k : Nat) (x : shq85.D) : Fslices_IndexFunc_string_string__puh (k + 1) x = body2 cf (fun f a b K => COt f a b K [Iq65 k]) (fun b _ σ K => LOt Ty (kps 194) 0 b σ K [LIq147 k]) 194 Tryz.f194.ntmps Tryz.f194.results.toList (bd Tryz.f194) (shq85.enc x).1 (shq85.enc x).2 (putS FS.dec rsq85) := by kernel_rfl
theorem okq85 : ∀ k, InstOk (call cf k) (Iq85 k)
 | 0 => fun x y e => absurd (show (none : Option _) = some y from e) (by simp)
 | k + 1 => inst_ok (c := cf) (k := k) (f := 194) (fn := Tryz.f194) (body := bd Tryz.f194) (sh := shq85) (os := rsq85) rfl Tryz.func194 rfl ⟨rfl, Nat.le_of_ble_eq_true rfl⟩ (COt_ok (alq85 k)) (anq85 k) (fun x => Fslices_IndexFunc_string_string__puh (k + 1) x) (stq85 k)

/-! slices.ContainsFunc[[]string,string] -/
def bslices_ContainsFunc_string_string__puh (k : Nat) (s : List ByteArray) : Option (Bool) :=
 Option.bind (Fslices_IndexFunc_string_string__puh k s) fun r4 =>
 (some (decide (r4 ≥ (0 : Int))))
def Fslices_ContainsFunc_string_string__puh : Nat → List ByteArray → Option (Bool)
 | 0, _ => none
 | k + 1, s => bslices_ContainsFunc_string_string__puh k s
def shq80 : FS := { vs := [.a (.lf (.sl .str)), .a (.fn 195 [])], bs := [] }
def rsq80 : List FS := [{ vs := [.a (.lf .bool)], bs := [] }]
def Iq80 (k : Nat) : Inst := ⟨134, shq80, rsq80, fun x => Fslices_ContainsFunc_string_string__puh k x⟩
theorem alq80 (k : Nat) : AllI (call cf k) [Iq85 k] := qA (okq85 k) qT
theorem anq80 (k : Nat) : LAll (LOk (R := DS FS.D rsq80) (fun b _ σ K => LOt Ty (kps 134) 0 b σ K []) cf (call cf k) (cf.keep 134) Tryz.f134.ntmps k shq80.bs.length) 0 (bd Tryz.f134) :=
 qA qT (qA qT qT)
theorem stq80 (k : Nat) (x : shq80.D) : Fslices_ContainsFunc_string_string__puh (k + 1) x = body2 cf (fun f a b K => COt f a b K [Iq85 k]) (fun b _ σ K => LOt Ty (kps 134) 0 b σ K []) 134 Tryz.f134.ntmps Tryz.f134.results.toList (bd Tryz.f134) (shq80.enc x).1 (shq80.enc x).2 (putS FS.dec rsq80) := by kernel_rfl
theorem okq80 : ∀ k, InstOk (call cf k) (Iq80 k)
 | 0 => fun x y e => absurd (show (none : Option _) = some y from e) (by simp)
 | k + 1 => inst_ok (c := cf) (k := k) (f := 134) (fn := Tryz.f134) (body := bd Tryz.f134) (sh := shq80) (os := rsq80) rfl Tryz.func134 rfl ⟨rfl, Nat.le_of_ble_eq_true rfl⟩ (COt_ok (alq80 k)) (anq80 k) (fun x => Fslices_ContainsFunc_string_string__puh (k + 1) x) (stq80 k)

/-! shunt/probe.long -/
def bprobe_long (k : Nat) (s : ByteArray) : Option (Bool) :=
 Option.bind (Fstrings_Split k s (ByteArray.mk (List.toArray (46 :: [])))) fun r3 =>
 if ((decide ((((List.length r3) : Nat) : Int) ≤ (9 : Int))) = true) then
 Option.bind (Fslices_ContainsFunc_string_string__puh k r3) fun r4 =>
 (some (!r4))
 else
 (some false)
def Fprobe_long : Nat → ByteArray → Option (Bool)
 | 0, _ => none
 | k + 1, s => bprobe_long k s
def shq64 : FS := { vs := [.a (.lf .str)], bs := [] }
def rsq64 : List FS := [{ vs := [.a (.lf .bool)], bs := [] }]
def Iq64 (k : Nat) : Inst := ⟨136, shq64, rsq64, fun x => Fprobe_long k x⟩
theorem alq64 (k : Nat) : AllI (call cf k) [Iq93 k, Iq80 k] := qA (okq93 k) (qA (okq80 k) qT)
theorem anq64 (k : Nat) : LAll (LOk (R := DS FS.D rsq64) (fun b _ σ K => LOt Ty (kps 136) 0 b σ K []) cf (call cf k) (cf.keep 136) Tryz.f136.ntmps k shq64.bs.length) 0 (bd Tryz.f136) :=
 qA qT (qA qT (qA qT qT))
theorem stq64 (k : Nat) (x : shq64.D) : Fprobe_long (k + 1) x = body2 cf (fun f a b K => COt f a b K [Iq93 k, Iq80 k]) (fun b _ σ K => LOt Ty (kps 136) 0 b σ K []) 136 Tryz.f136.ntmps Tryz.f136.results.toList (bd Tryz.f136) (shq64.enc x).1 (shq64.enc x).2 (putS FS.dec rsq64) := by kernel_rfl
theorem okq64 : ∀ k, InstOk (call cf k) (Iq64 k)
 | 0 => fun x y e => absurd (show (none : Option _) = some y from e) (by simp)
 | k + 1 => inst_ok (c := cf) (k := k) (f := 136) (fn := Tryz.f136) (body := bd Tryz.f136) (sh := shq64) (os := rsq64) rfl Tryz.func136 rfl ⟨rfl, Nat.le_of_ble_eq_true rfl⟩ (COt_ok (alq64 k)) (anq64 k) (fun x => Fprobe_long (k + 1) x) (stq64 k)

/-! shunt/probe.spot$1 -/
def bprobe_spot_1 (k : Nat) (n : ByteArray) : Option (Bool) :=
 Option.bind (Fprobe_long k n) fun r3 =>
 (some (!r3))
def Fprobe_spot_1 : Nat → ByteArray → Option (Bool)
 | 0, _ => none
 | k + 1, n => bprobe_spot_1 k n
def shq69 : FS := { vs := [.a (.lf .str)], bs := [] }
def rsq69 : List FS := [{ vs := [.a (.lf .bool)], bs := [] }]
def Iq69 (k : Nat) : Inst := ⟨135, shq69, rsq69, fun x => Fprobe_spot_1 k x⟩
theorem alq69 (k : Nat) : AllI (call cf k) [Iq64 k] := qA (okq64 k) qT
theorem anq69 (k : Nat) : LAll (LOk (R := DS FS.D rsq69) (fun b _ σ K => LOt Ty (kps 135) 0 b σ K []) cf (call cf k) (cf.keep 135) Tryz.f135.ntmps k shq69.bs.length) 0 (bd Tryz.f135) :=
 qA qT (qA qT qT)
theorem stq69 (k : Nat) (x : shq69.D) : Fprobe_spot_1 (k + 1) x = body2 cf (fun f a b K => COt f a b K [Iq64 k]) (fun b _ σ K => LOt Ty (kps 135) 0 b σ K []) 135 Tryz.f135.ntmps Tryz.f135.results.toList (bd Tryz.f135) (shq69.enc x).1 (shq69.enc x).2 (putS FS.dec rsq69) := by kernel_rfl
theorem okq69 : ∀ k, InstOk (call cf k) (Iq69 k)
 | 0 => fun x y e => absurd (show (none : Option _) = some y from e) (by simp)
 | k + 1 => inst_ok (c := cf) (k := k) (f := 135) (fn := Tryz.f135) (body := bd Tryz.f135) (sh := shq69) (os := rsq69) rfl Tryz.func135 rfl ⟨rfl, Nat.le_of_ble_eq_true rfl⟩ (COt_ok (alq69 k)) (anq69 k) (fun x => Fprobe_spot_1 (k + 1) x) (stq69 k)

/-! slices.IndexFunc[[]string,string] -/
def Lslices_IndexFunc_string_string__jjg_0s (k : Nat) (rec : List ByteArray → Int → Int → Option ((Int) ⊕ (Unit))) (s : List ByteArray) (x : Int) (x1 : Int) : Option ((Int) ⊕ (Unit)) :=
 if ((decide (x1 < x)) = true) then
 if ((0 : Int) ≤ x1) then
 Option.bind (s)[(Int.toNat x1)]? fun x5 =>
 Option.bind (Fprobe_spot_1 k x5) fun r3 =>
 if (r3 = true) then
 (some (Sum.inl x1))
 else
 rec s x (IntKind.wrap .i64 (x1 + (1 : Int)))
 else
 none
 else
 (some (Sum.inr ()))
def Lslices_IndexFunc_string_string__jjg_0 (k n : Nat) : List ByteArray → Int → Int → Option ((Int) ⊕ (Unit)) := Nat.rec (fun _ _ _ => none) (fun _ r => Lslices_IndexFunc_string_string__jjg_0s k r) n
def bslices_IndexFunc_string_string__jjg (k : Nat) (s : List ByteArray) : Option (Int) :=
 Option.bind (Lslices_IndexFunc_string_string__jjg_0 k k s (((List.length s) : Nat) : Int) (0 : Int)) fun r3 =>
 eitherK r3
 (fun r3 =>
 (some r3))
 (fun r3 =>
 (some (-(1 : Int))))
def Fslices_IndexFunc_string_string__jjg : Nat → List ByteArray → Option (Int)
 | 0, _ => none
 | k + 1, s => bslices_IndexFunc_string_string__jjg k s
def shq84 : FS := { vs := [.a (.lf (.sl .str)), .a (.fn 135 [])], bs := [] }
def rsq84 : List FS := [{ vs := [.a (.lf (.int .i64))], bs := [] }]
def Iq84 (k : Nat) : Inst := ⟨194, shq84, rsq84, fun x => Fslices_IndexFunc_string_string__jjg k x⟩
theorem alq84 (k : Nat) : AllI (call cf k) [Iq69 k] := qA (okq69 k) qT
def hsq146 : List SS := [{ fr := [(0, .a (.lf (.sl .str))), (1, .a (.fn 135 [])), (7, .a (.lf (.int .i64))), (8, .a (.lf (.int .i64)))], mem := [], nx := 0 }]
def osq146 : List OS := [⟨none, { fr := [(4, .a (.lf (.int .i64)))], mem := [], nx := 0 }⟩, ⟨some 0, { fr := [], mem := [], nx := 0 }⟩]
def LIq146 (k : Nat) : LInst := ⟨0, hsq146, osq146, fun x => Lslices_IndexFunc_string_string__jjg_0 k k x.1 x.2.1 x.2.2⟩
theorem anq146 (k : Nat) : LAll (LOk (R := DS OS.D osq146) (fun b _ σ K => LOt Ty (kps 194) 0 b σ K []) cf (call cf k) (kps 194) Tryz.f194.ntmps k 0) 0 (lb Tryz.f194 0) :=
 qA qT (qA (qA qT qT) (qA (qA qT (qA qT (qA (qA qT qT) qT))) qT))
theorem stq146 (k n : Nat) (x : DS SS.D hsq146) : Lslices_IndexFunc_string_string__jjg_0 k (n + 1) x.1 x.2.1 x.2.2 = encSK SS.enc (fun σ => run2 cf (fun f a b K => COt f a b K [Iq69 k]) (fun b _ σ K => LOt Ty (kps 194) 0 b σ K []) Tryz.f194.ntmps 0 (lb Tryz.f194 0) σ (nextK Ty (kps 194 0) 0 hsq146 osq146 fun x => Lslices_IndexFunc_string_string__jjg_0 k n x.1 x.2.1 x.2.2)) hsq146 x := by kernel_rfl
theorem loq146 (k : Nat) : LIOk cf (call cf k) (kps 194) Tryz.f194.ntmps k 0 0 (lb Tryz.f194 0) (LIq146 k) :=
 loop_ok (c := cf) (callF := call cf k) (kp := kps 194) (nt := Tryz.f194.ntmps) (k := k) (p := 0) (b := 0) (x0 := lb Tryz.f194 0) (hs := hsq146) (os := osq146) (COt_ok (alq84 k)) (anq146 k) (fun n x => Lslices_IndexFunc_string_string__jjg_0 k n x.1 x.2.1 x.2.2) (fun _ => rfl) (stq146 k)
theorem anq84 (k : Nat) : LAll (LOk (R := DS FS.D rsq84) (fun b _ σ K => LOt Ty (kps 194) 0 b σ K [LIq146 k]) cf (call cf k) (cf.keep 194) Tryz.f194.ntmps k shq84.bs.length) 0 (bd Tryz.f194) :=
 qA qT (qA (qA qT (LOt_ok (c := cf) (callF := call cf k) (kp := kps 194) (nt := Tryz.f194.ntmps) (k := k) (p := 0) (b := 0) (x0 := lb Tryz.f194 0) (l := [LIq146 k]) (qA (fun _ => loq146 k) qT))) (qA qT qT))
theorem stq84 (k : Nat) (x : shq84.D) : Fslices_IndexFunc_string_string__jjg (k + 1) x = body2 cf (fun f a b K => COt f a b K [Iq69 k]) (fun b _ σ K => LOt Ty (kps 194) 0 b σ K [LIq146 k]) 194 Tryz.f194.ntmps Tryz.f194.results.toList (bd Tryz.f194) (shq84.enc x).1 (shq84.enc x).2 (putS FS.dec rsq84) := by kernel_rfl
theorem okq84 : ∀ k, InstOk (call cf k) (Iq84 k)
 | 0 => fun x y e => absurd (show (none : Option _) = some y from e) (by simp)
 | k + 1 => inst_ok (c := cf) (k := k) (f := 194) (fn := Tryz.f194) (body := bd Tryz.f194) (sh := shq84) (os := rsq84) rfl Tryz.func194 rfl ⟨rfl, Nat.le_of_ble_eq_true rfl⟩ (COt_ok (alq84 k)) (anq84 k) (fun x => Fslices_IndexFunc_string_string__jjg (k + 1) x) (stq84 k)

/-! slices.ContainsFunc[[]string,string] -/
def bslices_ContainsFunc_string_string__jjg (k : Nat) (s : List ByteArray) : Option (Bool) :=
 Option.bind (Fslices_IndexFunc_string_string__jjg k s) fun r3 =>
 (some (decide (r3 ≥ (0 : Int))))
def Fslices_ContainsFunc_string_string__jjg : Nat → List ByteArray → Option (Bool)
 | 0, _ => none
 | k + 1, s => bslices_ContainsFunc_string_string__jjg k s
def shq79 : FS := { vs := [.a (.lf (.sl .str)), .a (.fn 135 [])], bs := [] }
def rsq79 : List FS := [{ vs := [.a (.lf .bool)], bs := [] }]
def Iq79 (k : Nat) : Inst := ⟨134, shq79, rsq79, fun x => Fslices_ContainsFunc_string_string__jjg k x⟩
theorem alq79 (k : Nat) : AllI (call cf k) [Iq84 k] := qA (okq84 k) qT
theorem anq79 (k : Nat) : LAll (LOk (R := DS FS.D rsq79) (fun b _ σ K => LOt Ty (kps 134) 0 b σ K []) cf (call cf k) (cf.keep 134) Tryz.f134.ntmps k shq79.bs.length) 0 (bd Tryz.f134) :=
 qA qT (qA qT qT)
theorem stq79 (k : Nat) (x : shq79.D) : Fslices_ContainsFunc_string_string__jjg (k + 1) x = body2 cf (fun f a b K => COt f a b K [Iq84 k]) (fun b _ σ K => LOt Ty (kps 134) 0 b σ K []) 134 Tryz.f134.ntmps Tryz.f134.results.toList (bd Tryz.f134) (shq79.enc x).1 (shq79.enc x).2 (putS FS.dec rsq79) := by kernel_rfl
theorem okq79 : ∀ k, InstOk (call cf k) (Iq79 k)
 | 0 => fun x y e => absurd (show (none : Option _) = some y from e) (by simp)
 | k + 1 => inst_ok (c := cf) (k := k) (f := 134) (fn := Tryz.f134) (body := bd Tryz.f134) (sh := shq79) (os := rsq79) rfl Tryz.func134 rfl ⟨rfl, Nat.le_of_ble_eq_true rfl⟩ (COt_ok (alq79 k)) (anq79 k) (fun x => Fslices_ContainsFunc_string_string__jjg (k + 1) x) (stq79 k)

/-! shunt/probe.spot -/
def bprobe_spot (k : Nat) (text : ByteArray) : Option (Int × List ByteArray × Bool) :=
 if ((decide ((((ByteArray.size text) : Nat) : Int) < (4 : Int))) = false) then
 Option.bind ((ByteArray.data text))[0]? fun x =>
 if (((((UInt8.toNat x) : Nat) : Int) != (118 : Int)) = true) then
 Option.bind ((ByteArray.data text))[0]? fun x1 =>
 if (((((UInt8.toNat x1) : Nat) : Int) != (105 : Int)) = false) then
 Option.bind ((ByteArray.data text))[1]? fun x2 =>
 if (((((UInt8.toNat x2) : Nat) : Int) != (40 : Int)) = false) then
 if ((0 : Int) ≤ (IntKind.wrap .i64 ((((ByteArray.size text) : Nat) : Int) - (1 : Int)))) then
 Option.bind ((ByteArray.data text))[(Int.toNat (IntKind.wrap .i64 ((((ByteArray.size text) : Nat) : Int) - (1 : Int))))]? fun x3 =>
 if (((((UInt8.toNat x3) : Nat) : Int) != (41 : Int)) = true) then
 (some ((0 : Int), [], false))
 else
 if (((0 : Int) ≤ (2 : Int)) ∧ (((2 : Int) ≤ (IntKind.wrap .i64 ((((ByteArray.size text) : Nat) : Int) - (1 : Int)))) ∧ ((IntKind.wrap .i64 ((((ByteArray.size text) : Nat) : Int) - (1 : Int))) ≤ (((ByteArray.size text) : Nat) : Int)))) then
 Option.bind (Fstrings_Split k (ByteArray.extract text 2 (Int.toNat (IntKind.wrap .i64 ((((ByteArray.size text) : Nat) : Int) - (1 : Int))))) (ByteArray.mk (List.toArray (44 :: [])))) fun r2 =>
 if ((decide ((((List.length r2) : Nat) : Int) > (2 : Int))) = false) then
 Option.bind ((ByteArray.data text))[0]? fun x4 =>
 if (((((UInt8.toNat x4) : Nat) : Int) == (105 : Int)) = true) then
 if (((((List.length r2) : Nat) : Int) != (1 : Int)) = false) then
 Option.bind (Fslices_ContainsFunc_string_string__jjg k r2) fun r3 =>
 if (r3 = true) then
 (some ((0 : Int), [], false))
 else
 Option.bind ((ByteArray.data text))[0]? fun x5 =>
 (some ((((UInt8.toNat x5) : Nat) : Int), r2, true))
 else
 (some ((0 : Int), [], false))
 else
 Option.bind (Fslices_ContainsFunc_string_string__jjg k r2) fun r3 =>
 if (r3 = true) then
 (some ((0 : Int), [], false))
 else
 Option.bind ((ByteArray.data text))[0]? fun x5 =>
 (some ((((UInt8.toNat x5) : Nat) : Int), r2, true))
 else
 (some ((0 : Int), [], false))
 else
 none
 else
 none
 else
 (some ((0 : Int), [], false))
 else
 (some ((0 : Int), [], false))
 else
 Option.bind ((ByteArray.data text))[1]? fun x1 =>
 if (((((UInt8.toNat x1) : Nat) : Int) != (40 : Int)) = false) then
 if ((0 : Int) ≤ (IntKind.wrap .i64 ((((ByteArray.size text) : Nat) : Int) - (1 : Int)))) then
 Option.bind ((ByteArray.data text))[(Int.toNat (IntKind.wrap .i64 ((((ByteArray.size text) : Nat) : Int) - (1 : Int))))]? fun x2 =>
 if (((((UInt8.toNat x2) : Nat) : Int) != (41 : Int)) = true) then
 (some ((0 : Int), [], false))
 else
 if (((0 : Int) ≤ (2 : Int)) ∧ (((2 : Int) ≤ (IntKind.wrap .i64 ((((ByteArray.size text) : Nat) : Int) - (1 : Int)))) ∧ ((IntKind.wrap .i64 ((((ByteArray.size text) : Nat) : Int) - (1 : Int))) ≤ (((ByteArray.size text) : Nat) : Int)))) then
 Option.bind (Fstrings_Split k (ByteArray.extract text 2 (Int.toNat (IntKind.wrap .i64 ((((ByteArray.size text) : Nat) : Int) - (1 : Int))))) (ByteArray.mk (List.toArray (44 :: [])))) fun r2 =>
 if ((decide ((((List.length r2) : Nat) : Int) > (2 : Int))) = false) then
 Option.bind ((ByteArray.data text))[0]? fun x3 =>
 if (((((UInt8.toNat x3) : Nat) : Int) == (105 : Int)) = true) then
 if (((((List.length r2) : Nat) : Int) != (1 : Int)) = false) then
 Option.bind (Fslices_ContainsFunc_string_string__jjg k r2) fun r3 =>
 if (r3 = true) then
 (some ((0 : Int), [], false))
 else
 Option.bind ((ByteArray.data text))[0]? fun x4 =>
 (some ((((UInt8.toNat x4) : Nat) : Int), r2, true))
 else
 (some ((0 : Int), [], false))
 else
 Option.bind (Fslices_ContainsFunc_string_string__jjg k r2) fun r3 =>
 if (r3 = true) then
 (some ((0 : Int), [], false))
 else
 Option.bind ((ByteArray.data text))[0]? fun x4 =>
 (some ((((UInt8.toNat x4) : Nat) : Int), r2, true))
 else
 (some ((0 : Int), [], false))
 else
 none
 else
 none
 else
 (some ((0 : Int), [], false))
 else
 (some ((0 : Int), [], false))
def Fprobe_spot : Nat → ByteArray → Option (Int × List ByteArray × Bool)
 | 0, _ => none
 | k + 1, text => bprobe_spot k text
def shq68 : FS := { vs := [.a (.lf .str)], bs := [] }
def rsq68 : List FS := [{ vs := [.a (.lf (.int .u8)), .a (.lf (.sl .str)), .a (.lf .bool)], bs := [] }]
def Iq68 (k : Nat) : Inst := ⟨74, shq68, rsq68, fun x => Fprobe_spot k x⟩
theorem alq68 (k : Nat) : AllI (call cf k) [Iq93 k, Iq79 k] := qA (okq93 k) (qA (okq79 k) qT)
theorem anq68 (k : Nat) : LAll (LOk (R := DS FS.D rsq68) (fun b _ σ K => LOt Ty (kps 74) 0 b σ K []) cf (call cf k) (cf.keep 74) Tryz.f74.ntmps k shq68.bs.length) 0 (bd Tryz.f74) :=
 qA qT (qA (qA qT (qA (qA qT qT) qT)) (qA qT (qA (qA qT (qA (qA qT qT) qT)) (qA qT qT))))
theorem stq68 (k : Nat) (x : shq68.D) : Fprobe_spot (k + 1) x = body2 cf (fun f a b K => COt f a b K [Iq93 k, Iq79 k]) (fun b _ σ K => LOt Ty (kps 74) 0 b σ K []) 74 Tryz.f74.ntmps Tryz.f74.results.toList (bd Tryz.f74) (shq68.enc x).1 (shq68.enc x).2 (putS FS.dec rsq68) := by kernel_rfl
theorem okq68 : ∀ k, InstOk (call cf k) (Iq68 k)
 | 0 => fun x y e => absurd (show (none : Option _) = some y from e) (by simp)
 | k + 1 => inst_ok (c := cf) (k := k) (f := 74) (fn := Tryz.f74) (body := bd Tryz.f74) (sh := shq68) (os := rsq68) rfl Tryz.func74 rfl ⟨rfl, Nat.le_of_ble_eq_true rfl⟩ (COt_ok (alq68 k)) (anq68 k) (fun x => Fprobe_spot (k + 1) x) (stq68 k)

/-! shunt/flat.Dev -/
def Lflat_Dev_0s (k : Nat) (rec : ByteArray → List (Int × ByteArray × List Int × Int × (Int × Int) × (Int × List (Int × Int) × List Int) × ByteArray × Int × List (Int × Int) × List (Int × Int)) → Int → Int → Option ((Int × Int × Int × ByteArray × List Int × Int × Int × Int × Int × List (Int × Int) × List Int × ByteArray × Int × List (Int × Int) × List (Int × Int)) ⊕ (Unit))) (name : ByteArray) (x : List (Int × ByteArray × List Int × Int × (Int × Int) × (Int × List (Int × Int) × List Int) × ByteArray × Int × List (Int × Int) × List (Int × Int))) (x1 : Int) (x2 : Int) : Option ((Int × Int × Int × ByteArray × List Int × Int × Int × Int × Int × List (Int × Int) × List Int × ByteArray × Int × List (Int × Int) × List (Int × Int)) ⊕ (Unit)) :=
 if ((decide (x2 < x1)) = true) then
 if ((0 : Int) ≤ x2) then
 Option.bind (x)[(Int.toNat x2)]? fun x3 =>
 if (((Array.toList (ByteArray.data x3.2.1)) == (Array.toList (ByteArray.data name))) = true) then
 (some (Sum.inl (x2, (0 : Int), x3.1, x3.2.1, x3.2.2.1, x3.2.2.2.1, x3.2.2.2.2.1.1, x3.2.2.2.2.1.2, x3.2.2.2.2.2.1.1, x3.2.2.2.2.2.1.2.1, x3.2.2.2.2.2.1.2.2, x3.2.2.2.2.2.2.1, x3.2.2.2.2.2.2.2.1, x3.2.2.2.2.2.2.2.2.1, x3.2.2.2.2.2.2.2.2.2)))
 else
 rec name x x1 (IntKind.wrap .i64 (x2 + (1 : Int)))
 else
 none
 else
 (some (Sum.inr ()))
def Lflat_Dev_0 (k n : Nat) : ByteArray → List (Int × ByteArray × List Int × Int × (Int × Int) × (Int × List (Int × Int) × List Int) × ByteArray × Int × List (Int × Int) × List (Int × Int)) → Int → Int → Option ((Int × Int × Int × ByteArray × List Int × Int × Int × Int × Int × List (Int × Int) × List Int × ByteArray × Int × List (Int × Int) × List (Int × Int)) ⊕ (Unit)) := Nat.rec (fun _ _ _ _ => none) (fun _ r => Lflat_Dev_0s k r) n
def bflat_Dev (k : Nat) (f0 : List ByteArray) (f1 : List (Int × ByteArray × List Int × Int × (Int × Int) × (Int × List (Int × Int) × List Int) × ByteArray × Int × List (Int × Int) × List (Int × Int))) (f2 : Int) (f3 : Int) (f4 : Int) (name : ByteArray) : Option (Int × Int) :=
 Option.bind (Lflat_Dev_0 k k name f1 (((List.length f1) : Nat) : Int) (0 : Int)) fun r3 =>
 eitherK r3
 (fun r3 =>
 (some (r3.1, r3.2.1)))
 (fun r3 =>
 (some ((0 : Int), (6 : Int))))
def Fflat_Dev : Nat → List ByteArray → List (Int × ByteArray × List Int × Int × (Int × Int) × (Int × List (Int × Int) × List Int) × ByteArray × Int × List (Int × Int) × List (Int × Int)) → Int → Int → Int → ByteArray → Option (Int × Int)
 | 0, _, _, _, _, _, _ => none
 | k + 1, f0, f1, f2, f3, f4, name => bflat_Dev k f0 f1 f2 f3 f4 name
def shq39 : FS := { vs := [.g [.lf (.sl .str), .lf (.sl (.pr (.int .u8) (.pr .str (.pr (.sl (.int .i64)) (.pr (.int .i64) (.pr (.pr (.int .i64) (.int .i64)) (.pr (.pr (.int .i64) (.pr (.sl (.pr (.int .i64) (.int .i64))) (.sl (.int .i64)))) (.pr .str (.pr (.int .u8) (.pr (.sl (.pr (.int .i64) (.int .i64))) (.sl (.pr (.int .i64) (.int .i64))))))))))))), .lf (.int .i64), .lf (.int .i64), .lf (.int .i64)], .a (.lf .str)], bs := [] }
def rsq39 : List FS := [{ vs := [.a (.lf (.int .i64)), .a (.lf (.int .i64))], bs := [] }]
def Iq39 (k : Nat) : Inst := ⟨75, shq39, rsq39, fun x => Fflat_Dev k x.1 x.2.1 x.2.2.1 x.2.2.2.1 x.2.2.2.2.1 x.2.2.2.2.2⟩
theorem alq39 (k : Nat) : AllI (call cf k) [] := True.intro
def hsq129 : List SS := [{ fr := [(1, .a (.lf .str)), (9, .a (.lf (.sl (.pr (.int .u8) (.pr .str (.pr (.sl (.int .i64)) (.pr (.int .i64) (.pr (.pr (.int .i64) (.int .i64)) (.pr (.pr (.int .i64) (.pr (.sl (.pr (.int .i64) (.int .i64))) (.sl (.int .i64)))) (.pr .str (.pr (.int .u8) (.pr (.sl (.pr (.int .i64) (.int .i64))) (.sl (.pr (.int .i64) (.int .i64))))))))))))))), (10, .a (.lf (.int .i64))), (11, .a (.lf (.int .i64)))], mem := [], nx := 0 }]
def osq129 : List OS := [⟨none, { fr := [(4, .a (.lf (.int .i64))), (5, .a (.lf (.int .i64)))], mem := [(0, some (.raw [[.lf (.int .u8), .lf .str, .lf (.sl (.int .i64)), .lf (.int .i64), .lf (.int .i64), .lf (.int .i64), .lf (.int .i64), .lf (.sl (.pr (.int .i64) (.int .i64))), .lf (.sl (.int .i64)), .lf .str, .lf (.int .u8), .lf (.sl (.pr (.int .i64) (.int .i64))), .lf (.sl (.pr (.int .i64) (.int .i64)))]] 13 48 true false false))], nx := 1 }⟩, ⟨some 0, { fr := [], mem := [], nx := 0 }⟩]
def LIq129 (k : Nat) : LInst := ⟨0, hsq129, osq129, fun x => Lflat_Dev_0 k k x.1 x.2.1 x.2.2.1 x.2.2.2⟩
theorem anq129 (k : Nat) : LAll (LOk (R := DS OS.D osq129) (fun b _ σ K => LOt Ty (kps 75) 0 b σ K []) cf (call cf k) (kps 75) Tryz.f75.ntmps k 0) 0 (lb Tryz.f75 0) :=
 qA qT (qA (qA qT qT) (qA (qA qT (qA qT (qA (qA qT qT) qT))) qT))
theorem stq129 (k n : Nat) (x : DS SS.D hsq129) : Lflat_Dev_0 k (n + 1) x.1 x.2.1 x.2.2.1 x.2.2.2 = encSK SS.enc (fun σ => run2 cf (fun f a b K => COt f a b K []) (fun b _ σ K => LOt Ty (kps 75) 0 b σ K []) Tryz.f75.ntmps 0 (lb Tryz.f75 0) σ (nextK Ty (kps 75 0) 0 hsq129 osq129 fun x => Lflat_Dev_0 k n x.1 x.2.1 x.2.2.1 x.2.2.2)) hsq129 x := by kernel_rfl
theorem loq129 (k : Nat) : LIOk cf (call cf k) (kps 75) Tryz.f75.ntmps k 0 0 (lb Tryz.f75 0) (LIq129 k) :=
 loop_ok (c := cf) (callF := call cf k) (kp := kps 75) (nt := Tryz.f75.ntmps) (k := k) (p := 0) (b := 0) (x0 := lb Tryz.f75 0) (hs := hsq129) (os := osq129) (COt_ok (alq39 k)) (anq129 k) (fun n x => Lflat_Dev_0 k n x.1 x.2.1 x.2.2.1 x.2.2.2) (fun _ => rfl) (stq129 k)
theorem anq39 (k : Nat) : LAll (LOk (R := DS FS.D rsq39) (fun b _ σ K => LOt Ty (kps 75) 0 b σ K [LIq129 k]) cf (call cf k) (cf.keep 75) Tryz.f75.ntmps k shq39.bs.length) 0 (bd Tryz.f75) :=
 qA qT (qA (qA qT (LOt_ok (c := cf) (callF := call cf k) (kp := kps 75) (nt := Tryz.f75.ntmps) (k := k) (p := 0) (b := 0) (x0 := lb Tryz.f75 0) (l := [LIq129 k]) (qA (fun _ => loq129 k) qT))) (qA qT qT))
theorem stq39 (k : Nat) (x : shq39.D) : Fflat_Dev (k + 1) x.1 x.2.1 x.2.2.1 x.2.2.2.1 x.2.2.2.2.1 x.2.2.2.2.2 = body2 cf (fun f a b K => COt f a b K []) (fun b _ σ K => LOt Ty (kps 75) 0 b σ K [LIq129 k]) 75 Tryz.f75.ntmps Tryz.f75.results.toList (bd Tryz.f75) (shq39.enc x).1 (shq39.enc x).2 (putS FS.dec rsq39) := by kernel_rfl
theorem okq39 : ∀ k, InstOk (call cf k) (Iq39 k)
 | 0 => fun x y e => absurd (show (none : Option _) = some y from e) (by simp)
 | k + 1 => inst_ok (c := cf) (k := k) (f := 75) (fn := Tryz.f75) (body := bd Tryz.f75) (sh := shq39) (os := rsq39) rfl Tryz.func75 rfl ⟨rfl, Nat.le_of_ble_eq_true rfl⟩ (COt_ok (alq39 k)) (anq39 k) (fun x => Fflat_Dev (k + 1) x.1 x.2.1 x.2.2.1 x.2.2.2.1 x.2.2.2.2.1 x.2.2.2.2.2) (stq39 k)

/-! slices.Index[[]string,string] -/
def Lslices_Index_string_string__0s (k : Nat) (rec : List ByteArray → ByteArray → Int → Int → Option ((Int) ⊕ (Unit))) (s : List ByteArray) (v : ByteArray) (x : Int) (x1 : Int) : Option ((Int) ⊕ (Unit)) :=
 if ((decide (x1 < x)) = true) then
 if ((0 : Int) ≤ x1) then
 Option.bind (s)[(Int.toNat x1)]? fun x4 =>
 if (((Array.toList (ByteArray.data v)) == (Array.toList (ByteArray.data x4))) = true) then
 (some (Sum.inl x1))
 else
 rec s v x (IntKind.wrap .i64 (x1 + (1 : Int)))
 else
 none
 else
 (some (Sum.inr ()))
def Lslices_Index_string_string__0 (k n : Nat) : List ByteArray → ByteArray → Int → Int → Option ((Int) ⊕ (Unit)) := Nat.rec (fun _ _ _ _ => none) (fun _ r => Lslices_Index_string_string__0s k r) n
def bslices_Index_string_string_ (k : Nat) (s : List ByteArray) (v : ByteArray) : Option (Int) :=
 Option.bind (Lslices_Index_string_string__0 k k s v (((List.length s) : Nat) : Int) (0 : Int)) fun r3 =>
 eitherK r3
 (fun r3 =>
 (some r3))
 (fun r3 =>
 (some (-(1 : Int))))
def Fslices_Index_string_string_ : Nat → List ByteArray → ByteArray → Option (Int)
 | 0, _, _ => none
 | k + 1, s, v => bslices_Index_string_string_ k s v
def shq87 : FS := { vs := [.a (.lf (.sl .str)), .a (.lf .str)], bs := [] }
def rsq87 : List FS := [{ vs := [.a (.lf (.int .i64))], bs := [] }]
def Iq87 (k : Nat) : Inst := ⟨137, shq87, rsq87, fun x => Fslices_Index_string_string_ k x.1 x.2⟩
theorem alq87 (k : Nat) : AllI (call cf k) [] := True.intro
def hsq149 : List SS := [{ fr := [(0, .a (.lf (.sl .str))), (1, .a (.lf .str)), (7, .a (.lf (.int .i64))), (8, .a (.lf (.int .i64)))], mem := [], nx := 0 }]
def osq149 : List OS := [⟨none, { fr := [(4, .a (.lf (.int .i64)))], mem := [], nx := 0 }⟩, ⟨some 0, { fr := [], mem := [], nx := 0 }⟩]
def LIq149 (k : Nat) : LInst := ⟨0, hsq149, osq149, fun x => Lslices_Index_string_string__0 k k x.1 x.2.1 x.2.2.1 x.2.2.2⟩
theorem anq149 (k : Nat) : LAll (LOk (R := DS OS.D osq149) (fun b _ σ K => LOt Ty (kps 137) 0 b σ K []) cf (call cf k) (kps 137) Tryz.f137.ntmps k 0) 0 (lb Tryz.f137 0) :=
 qA qT (qA (qA qT qT) (qA (qA qT (qA qT (qA (qA qT qT) qT))) qT))
theorem stq149 (k n : Nat) (x : DS SS.D hsq149) : Lslices_Index_string_string__0 k (n + 1) x.1 x.2.1 x.2.2.1 x.2.2.2 = encSK SS.enc (fun σ => run2 cf (fun f a b K => COt f a b K []) (fun b _ σ K => LOt Ty (kps 137) 0 b σ K []) Tryz.f137.ntmps 0 (lb Tryz.f137 0) σ (nextK Ty (kps 137 0) 0 hsq149 osq149 fun x => Lslices_Index_string_string__0 k n x.1 x.2.1 x.2.2.1 x.2.2.2)) hsq149 x := by kernel_rfl
theorem loq149 (k : Nat) : LIOk cf (call cf k) (kps 137) Tryz.f137.ntmps k 0 0 (lb Tryz.f137 0) (LIq149 k) :=
 loop_ok (c := cf) (callF := call cf k) (kp := kps 137) (nt := Tryz.f137.ntmps) (k := k) (p := 0) (b := 0) (x0 := lb Tryz.f137 0) (hs := hsq149) (os := osq149) (COt_ok (alq87 k)) (anq149 k) (fun n x => Lslices_Index_string_string__0 k n x.1 x.2.1 x.2.2.1 x.2.2.2) (fun _ => rfl) (stq149 k)
theorem anq87 (k : Nat) : LAll (LOk (R := DS FS.D rsq87) (fun b _ σ K => LOt Ty (kps 137) 0 b σ K [LIq149 k]) cf (call cf k) (cf.keep 137) Tryz.f137.ntmps k shq87.bs.length) 0 (bd Tryz.f137) :=
 qA qT (qA (qA qT (LOt_ok (c := cf) (callF := call cf k) (kp := kps 137) (nt := Tryz.f137.ntmps) (k := k) (p := 0) (b := 0) (x0 := lb Tryz.f137 0) (l := [LIq149 k]) (qA (fun _ => loq149 k) qT))) (qA qT qT))
theorem stq87 (k : Nat) (x : shq87.D) : Fslices_Index_string_string_ (k + 1) x.1 x.2 = body2 cf (fun f a b K => COt f a b K []) (fun b _ σ K => LOt Ty (kps 137) 0 b σ K [LIq149 k]) 137 Tryz.f137.ntmps Tryz.f137.results.toList (bd Tryz.f137) (shq87.enc x).1 (shq87.enc x).2 (putS FS.dec rsq87) := by kernel_rfl
theorem okq87 : ∀ k, InstOk (call cf k) (Iq87 k)
 | 0 => fun x y e => absurd (show (none : Option _) = some y from e) (by simp)
 | k + 1 => inst_ok (c := cf) (k := k) (f := 137) (fn := Tryz.f137) (body := bd Tryz.f137) (sh := shq87) (os := rsq87) rfl Tryz.func137 rfl ⟨rfl, Nat.le_of_ble_eq_true rfl⟩ (COt_ok (alq87 k)) (anq87 k) (fun x => Fslices_Index_string_string_ (k + 1) x.1 x.2) (stq87 k)

/-! shunt/flat.Node -/
def bflat_Node (k : Nat) (f0 : List ByteArray) (f1 : List (Int × ByteArray × List Int × Int × (Int × Int) × (Int × List (Int × Int) × List Int) × ByteArray × Int × List (Int × Int) × List (Int × Int))) (f2 : Int) (f3 : Int) (f4 : Int) (name : ByteArray) : Option (Int × Int) :=
 Option.bind (Fslices_Index_string_string_ k f0 name) fun r3 =>
 if ((decide (r3 < (0 : Int))) = true) then
 (some ((0 : Int), (6 : Int)))
 else
 (some (r3, (0 : Int)))
def Fflat_Node : Nat → List ByteArray → List (Int × ByteArray × List Int × Int × (Int × Int) × (Int × List (Int × Int) × List Int) × ByteArray × Int × List (Int × Int) × List (Int × Int)) → Int → Int → Int → ByteArray → Option (Int × Int)
 | 0, _, _, _, _, _, _ => none
 | k + 1, f0, f1, f2, f3, f4, name => bflat_Node k f0 f1 f2 f3 f4 name
def shq40 : FS := { vs := [.g [.lf (.sl .str), .lf (.sl (.pr (.int .u8) (.pr .str (.pr (.sl (.int .i64)) (.pr (.int .i64) (.pr (.pr (.int .i64) (.int .i64)) (.pr (.pr (.int .i64) (.pr (.sl (.pr (.int .i64) (.int .i64))) (.sl (.int .i64)))) (.pr .str (.pr (.int .u8) (.pr (.sl (.pr (.int .i64) (.int .i64))) (.sl (.pr (.int .i64) (.int .i64))))))))))))), .lf (.int .i64), .lf (.int .i64), .lf (.int .i64)], .a (.lf .str)], bs := [] }
def rsq40 : List FS := [{ vs := [.a (.lf (.int .i64)), .a (.lf (.int .i64))], bs := [] }]
def Iq40 (k : Nat) : Inst := ⟨76, shq40, rsq40, fun x => Fflat_Node k x.1 x.2.1 x.2.2.1 x.2.2.2.1 x.2.2.2.2.1 x.2.2.2.2.2⟩
theorem alq40 (k : Nat) : AllI (call cf k) [Iq87 k] := qA (okq87 k) qT
theorem anq40 (k : Nat) : LAll (LOk (R := DS FS.D rsq40) (fun b _ σ K => LOt Ty (kps 76) 0 b σ K []) cf (call cf k) (cf.keep 76) Tryz.f76.ntmps k shq40.bs.length) 0 (bd Tryz.f76) :=
 qA qT (qA qT (qA (qA qT (qA (qA qT qT) qT)) (qA qT qT)))
theorem stq40 (k : Nat) (x : shq40.D) : Fflat_Node (k + 1) x.1 x.2.1 x.2.2.1 x.2.2.2.1 x.2.2.2.2.1 x.2.2.2.2.2 = body2 cf (fun f a b K => COt f a b K [Iq87 k]) (fun b _ σ K => LOt Ty (kps 76) 0 b σ K []) 76 Tryz.f76.ntmps Tryz.f76.results.toList (bd Tryz.f76) (shq40.enc x).1 (shq40.enc x).2 (putS FS.dec rsq40) := by kernel_rfl
theorem okq40 : ∀ k, InstOk (call cf k) (Iq40 k)
 | 0 => fun x y e => absurd (show (none : Option _) = some y from e) (by simp)
 | k + 1 => inst_ok (c := cf) (k := k) (f := 76) (fn := Tryz.f76) (body := bd Tryz.f76) (sh := shq40) (os := rsq40) rfl Tryz.func76 rfl ⟨rfl, Nat.le_of_ble_eq_true rfl⟩ (COt_ok (alq40 k)) (anq40 k) (fun x => Fflat_Node (k + 1) x.1 x.2.1 x.2.2.1 x.2.2.2.1 x.2.2.2.2.1 x.2.2.2.2.2) (stq40 k)

/-! shunt/probe.Read -/
def Lprobe_Read_0s (k : Nat) (rec : Int → Int → List ByteArray → Int → Int → List ByteArray → List (Int × ByteArray × List Int × Int × (Int × Int) × (Int × List (Int × Int) × List Int) × ByteArray × Int × List (Int × Int) × List (Int × Int)) → Int → Int → Int → Int → List Int → List Int → List Int → Option ((Int × Int × List ByteArray × List (Int × ByteArray × List Int × Int × (Int × Int) × (Int × List (Int × Int) × List Int) × ByteArray × Int × List (Int × Int) × List (Int × Int)) × Int × Int × Int × Int × List Int × List Int × List Int) ⊕ (Int × List ByteArray × List (Int × ByteArray × List Int × Int × (Int × Int) × (Int × List (Int × Int) × List Int) × ByteArray × Int × List (Int × Int) × List (Int × Int)) × Int × Int × Int × Int × List Int × List Int × List Int))) (v : Int) (sign : Int) (x : List ByteArray) (x1 : Int) (x2 : Int) (f0 : List ByteArray) (f1 : List (Int × ByteArray × List Int × Int × (Int × Int) × (Int × List (Int × Int) × List Int) × ByteArray × Int × List (Int × Int) × List (Int × Int))) (f2 : Int) (f3 : Int) (f4 : Int) (st0 : Int) (st1 : List Int) (st2 : List Int) (st3 : List Int) : Option ((Int × Int × List ByteArray × List (Int × ByteArray × List Int × Int × (Int × Int) × (Int × List (Int × Int) × List Int) × ByteArray × Int × List (Int × Int) × List (Int × Int)) × Int × Int × Int × Int × List Int × List Int × List Int) ⊕ (Int × List ByteArray × List (Int × ByteArray × List Int × Int × (Int × Int) × (Int × List (Int × Int) × List Int) × ByteArray × Int × List (Int × Int) × List (Int × Int)) × Int × Int × Int × Int × List Int × List Int × List Int)) :=
 if ((decide (x2 < x1)) = true) then
 if ((0 : Int) ≤ x2) then
 Option.bind (x)[(Int.toNat x2)]? fun x3 =>
 Option.bind (Fflat_Node k f0 f1 f2 f3 f4 x3) fun r3 =>
 if ((r3.2 != (0 : Int)) = true) then
 (some (Sum.inl ((0 : Int), r3.2, f0, f1, f2, f3, f4, st0, st1, st2, st3)))
 else
 if ((decide (r3.1 > (0 : Int))) = true) then
 if ((0 : Int) ≤ (IntKind.wrap .i64 (r3.1 - (1 : Int)))) then
 Option.bind (st1)[(Int.toNat (IntKind.wrap .i64 (r3.1 - (1 : Int))))]? fun x4 =>
 rec (IntKind.wrap .i64 (v + (IntKind.wrap .i64 (sign * x4)))) (-(1 : Int)) x x1 (IntKind.wrap .i64 (x2 + (1 : Int))) f0 f1 f2 f3 f4 st0 st1 st2 st3
 else
 none
 else
 rec v (-(1 : Int)) x x1 (IntKind.wrap .i64 (x2 + (1 : Int))) f0 f1 f2 f3 f4 st0 st1 st2 st3
 else
 none
 else
 (some (Sum.inr (v, f0, f1, f2, f3, f4, st0, st1, st2, st3)))
def Lprobe_Read_0 (k n : Nat) : Int → Int → List ByteArray → Int → Int → List ByteArray → List (Int × ByteArray × List Int × Int × (Int × Int) × (Int × List (Int × Int) × List Int) × ByteArray × Int × List (Int × Int) × List (Int × Int)) → Int → Int → Int → Int → List Int → List Int → List Int → Option ((Int × Int × List ByteArray × List (Int × ByteArray × List Int × Int × (Int × Int) × (Int × List (Int × Int) × List Int) × ByteArray × Int × List (Int × Int) × List (Int × Int)) × Int × Int × Int × Int × List Int × List Int × List Int) ⊕ (Int × List ByteArray × List (Int × ByteArray × List Int × Int × (Int × Int) × (Int × List (Int × Int) × List Int) × ByteArray × Int × List (Int × Int) × List (Int × Int)) × Int × Int × Int × Int × List Int × List Int × List Int)) := Nat.rec (fun _ _ _ _ _ _ _ _ _ _ _ _ _ _ => none) (fun _ r => Lprobe_Read_0s k r) n
def bprobe_Read (k : Nat) (f0 : List ByteArray) (f1 : List (Int × ByteArray × List Int × Int × (Int × Int) × (Int × List (Int × Int) × List Int) × ByteArray × Int × List (Int × Int) × List (Int × Int))) (f2 : Int) (f3 : Int) (f4 : Int) (st0 : Int) (st1 : List Int) (st2 : List Int) (st3 : List Int) (text : ByteArray) : Option (Int × Int) :=
 Option.bind (Ftran_Check k f0 f1 f2 f3 f4 st0 st1 st2 st3) fun r1 =>
 if ((r1 != (0 : Int)) = true) then
 (some ((0 : Int), r1))
 else
 Option.bind (Fprobe_spot k text) fun r2 =>
 if ((!r2.2.2) = true) then
 (some ((0 : Int), (3 : Int)))
 else
 if ((r2.1 == (105 : Int)) = true) then
 Option.bind (r2.2.1)[0]? fun x =>
 Option.bind (Fflat_Dev k f0 f1 f2 f3 f4 x) fun r3 =>
 if ((r3.2 != (0 : Int)) = true) then
 (some ((0 : Int), r3.2))
 else
 if ((0 : Int) ≤ r3.1) then
 Option.bind (st2)[(Int.toNat r3.1)]? fun x1 =>
 (some (x1, (0 : Int)))
 else
 none
 else
 Option.bind (Lprobe_Read_0 k k (0 : Int) (1 : Int) r2.2.1 (((List.length r2.2.1) : Nat) : Int) (0 : Int) f0 f1 f2 f3 f4 st0 st1 st2 st3) fun r3 =>
 eitherK r3
 (fun r3 =>
 (some (r3.1, r3.2.1)))
 (fun r3 =>
 (some (r3.1, (0 : Int))))
def Fprobe_Read : Nat → List ByteArray → List (Int × ByteArray × List Int × Int × (Int × Int) × (Int × List (Int × Int) × List Int) × ByteArray × Int × List (Int × Int) × List (Int × Int)) → Int → Int → Int → Int → List Int → List Int → List Int → ByteArray → Option (Int × Int)
 | 0, _, _, _, _, _, _, _, _, _, _ => none
 | k + 1, f0, f1, f2, f3, f4, st0, st1, st2, st3, text => bprobe_Read k f0 f1 f2 f3 f4 st0 st1 st2 st3 text
def shq60 : FS := { vs := [.g [.lf (.sl .str), .lf (.sl (.pr (.int .u8) (.pr .str (.pr (.sl (.int .i64)) (.pr (.int .i64) (.pr (.pr (.int .i64) (.int .i64)) (.pr (.pr (.int .i64) (.pr (.sl (.pr (.int .i64) (.int .i64))) (.sl (.int .i64)))) (.pr .str (.pr (.int .u8) (.pr (.sl (.pr (.int .i64) (.int .i64))) (.sl (.pr (.int .i64) (.int .i64))))))))))))), .lf (.int .i64), .lf (.int .i64), .lf (.int .i64)], .g [.lf (.int .i64), .lf (.sl (.int .i64)), .lf (.sl (.int .i64)), .lf (.sl (.int .i64))], .a (.lf .str)], bs := [] }
def rsq60 : List FS := [{ vs := [.a (.lf (.int .i64)), .a (.lf (.int .i64))], bs := [] }]
def Iq60 (k : Nat) : Inst := ⟨27, shq60, rsq60, fun x => Fprobe_Read k x.1 x.2.1 x.2.2.1 x.2.2.2.1 x.2.2.2.2.1 x.2.2.2.2.2.1 x.2.2.2.2.2.2.1 x.2.2.2.2.2.2.2.1 x.2.2.2.2.2.2.2.2.1 x.2.2.2.2.2.2.2.2.2⟩
theorem alq60 (k : Nat) : AllI (call cf k) [Iq97 k, Iq68 k, Iq39 k, Iq40 k] := qA (okq97 k) (qA (okq68 k) (qA (okq39 k) (qA (okq40 k) qT)))
def hsq138 : List SS := [{ fr := [(3, .a (.ptr 0 0 0)), (4, .a (.ptr 1 0 0)), (14, .a (.lf (.int .i64))), (15, .a (.lf (.int .i64))), (52, .a (.lf (.sl .str))), (53, .a (.lf (.int .i64))), (54, .a (.lf (.int .i64)))], mem := [(0, some (.raw [[.lf (.sl .str), .lf (.sl (.pr (.int .u8) (.pr .str (.pr (.sl (.int .i64)) (.pr (.int .i64) (.pr (.pr (.int .i64) (.int .i64)) (.pr (.pr (.int .i64) (.pr (.sl (.pr (.int .i64) (.int .i64))) (.sl (.int .i64)))) (.pr .str (.pr (.int .u8) (.pr (.sl (.pr (.int .i64) (.int .i64))) (.sl (.pr (.int .i64) (.int .i64))))))))))))), .lf (.int .i64), .lf (.int .i64), .lf (.int .i64)]] 5 27 true false false)), (1, some (.raw [[.lf (.int .i64), .lf (.sl (.int .i64)), .lf (.sl (.int .i64)), .lf (.sl (.int .i64))]] 4 53 true false false))], nx := 2 }]
def osq138 : List OS := [⟨none, { fr := [(6, .a (.lf (.int .i64))), (7, .a (.lf (.int .i64)))], mem := [(0, some (.raw [[.lf (.sl .str), .lf (.sl (.pr (.int .u8) (.pr .str (.pr (.sl (.int .i64)) (.pr (.int .i64) (.pr (.pr (.int .i64) (.int .i64)) (.pr (.pr (.int .i64) (.pr (.sl (.pr (.int .i64) (.int .i64))) (.sl (.int .i64)))) (.pr .str (.pr (.int .u8) (.pr (.sl (.pr (.int .i64) (.int .i64))) (.sl (.pr (.int .i64) (.int .i64))))))))))))), .lf (.int .i64), .lf (.int .i64), .lf (.int .i64)]] 5 27 true false false)), (1, some (.raw [[.lf (.int .i64), .lf (.sl (.int .i64)), .lf (.sl (.int .i64)), .lf (.sl (.int .i64))]] 4 53 true false false))], nx := 2 }⟩, ⟨some 0, { fr := [(14, .a (.lf (.int .i64)))], mem := [(0, some (.raw [[.lf (.sl .str), .lf (.sl (.pr (.int .u8) (.pr .str (.pr (.sl (.int .i64)) (.pr (.int .i64) (.pr (.pr (.int .i64) (.int .i64)) (.pr (.pr (.int .i64) (.pr (.sl (.pr (.int .i64) (.int .i64))) (.sl (.int .i64)))) (.pr .str (.pr (.int .u8) (.pr (.sl (.pr (.int .i64) (.int .i64))) (.sl (.pr (.int .i64) (.int .i64))))))))))))), .lf (.int .i64), .lf (.int .i64), .lf (.int .i64)]] 5 27 true false false)), (1, some (.raw [[.lf (.int .i64), .lf (.sl (.int .i64)), .lf (.sl (.int .i64)), .lf (.sl (.int .i64))]] 4 53 true false false))], nx := 2 }⟩]
def LIq138 (k : Nat) : LInst := ⟨0, hsq138, osq138, fun x => Lprobe_Read_0 k k x.1 x.2.1 x.2.2.1 x.2.2.2.1 x.2.2.2.2.1 x.2.2.2.2.2.1 x.2.2.2.2.2.2.1 x.2.2.2.2.2.2.2.1 x.2.2.2.2.2.2.2.2.1 x.2.2.2.2.2.2.2.2.2.1 x.2.2.2.2.2.2.2.2.2.2.1 x.2.2.2.2.2.2.2.2.2.2.2.1 x.2.2.2.2.2.2.2.2.2.2.2.2.1 x.2.2.2.2.2.2.2.2.2.2.2.2.2⟩
theorem anq138 (k : Nat) : LAll (LOk (R := DS OS.D osq138) (fun b _ σ K => LOt Ty (kps 27) 0 b σ K []) cf (call cf k) (kps 27) Tryz.f27.ntmps k 0) 0 (lb Tryz.f27 0) :=
 qA qT (qA (qA qT qT) (qA (qA qT (qA qT (qA (qA qT (qA (qA qT qT) qT)) (qA (qA qT (qA qT qT)) qT)))) qT))
theorem stq138 (k n : Nat) (x : DS SS.D hsq138) : Lprobe_Read_0 k (n + 1) x.1 x.2.1 x.2.2.1 x.2.2.2.1 x.2.2.2.2.1 x.2.2.2.2.2.1 x.2.2.2.2.2.2.1 x.2.2.2.2.2.2.2.1 x.2.2.2.2.2.2.2.2.1 x.2.2.2.2.2.2.2.2.2.1 x.2.2.2.2.2.2.2.2.2.2.1 x.2.2.2.2.2.2.2.2.2.2.2.1 x.2.2.2.2.2.2.2.2.2.2.2.2.1 x.2.2.2.2.2.2.2.2.2.2.2.2.2 = encSK SS.enc (fun σ => run2 cf (fun f a b K => COt f a b K [Iq97 k, Iq68 k, Iq39 k, Iq40 k]) (fun b _ σ K => LOt Ty (kps 27) 0 b σ K []) Tryz.f27.ntmps 0 (lb Tryz.f27 0) σ (nextK Ty (kps 27 0) 0 hsq138 osq138 fun x => Lprobe_Read_0 k n x.1 x.2.1 x.2.2.1 x.2.2.2.1 x.2.2.2.2.1 x.2.2.2.2.2.1 x.2.2.2.2.2.2.1 x.2.2.2.2.2.2.2.1 x.2.2.2.2.2.2.2.2.1 x.2.2.2.2.2.2.2.2.2.1 x.2.2.2.2.2.2.2.2.2.2.1 x.2.2.2.2.2.2.2.2.2.2.2.1 x.2.2.2.2.2.2.2.2.2.2.2.2.1 x.2.2.2.2.2.2.2.2.2.2.2.2.2)) hsq138 x := by kernel_rfl
theorem loq138 (k : Nat) : LIOk cf (call cf k) (kps 27) Tryz.f27.ntmps k 0 0 (lb Tryz.f27 0) (LIq138 k) :=
 loop_ok (c := cf) (callF := call cf k) (kp := kps 27) (nt := Tryz.f27.ntmps) (k := k) (p := 0) (b := 0) (x0 := lb Tryz.f27 0) (hs := hsq138) (os := osq138) (COt_ok (alq60 k)) (anq138 k) (fun n x => Lprobe_Read_0 k n x.1 x.2.1 x.2.2.1 x.2.2.2.1 x.2.2.2.2.1 x.2.2.2.2.2.1 x.2.2.2.2.2.2.1 x.2.2.2.2.2.2.2.1 x.2.2.2.2.2.2.2.2.1 x.2.2.2.2.2.2.2.2.2.1 x.2.2.2.2.2.2.2.2.2.2.1 x.2.2.2.2.2.2.2.2.2.2.2.1 x.2.2.2.2.2.2.2.2.2.2.2.2.1 x.2.2.2.2.2.2.2.2.2.2.2.2.2) (fun _ => rfl) (stq138 k)
theorem anq60 (k : Nat) : LAll (LOk (R := DS FS.D rsq60) (fun b _ σ K => LOt Ty (kps 27) 0 b σ K [LIq138 k]) cf (call cf k) (cf.keep 27) Tryz.f27.ntmps k shq60.bs.length) 0 (bd Tryz.f27) :=
 qA qT (qA (qA qT (qA qT (qA (qA qT qT) qT))) (qA qT (qA (qA qT (qA (qA qT qT) qT)) (qA (qA qT (qA (qA qT (qA (qA qT (qA (qA qT qT) qT)) (qA qT qT))) qT)) (qA qT (qA (qA qT (LOt_ok (c := cf) (callF := call cf k) (kp := kps 27) (nt := Tryz.f27.ntmps) (k := k) (p := 0) (b := 0) (x0 := lb Tryz.f27 0) (l := [LIq138 k]) (qA (fun _ => loq138 k) qT))) (qA qT qT)))))))
theorem stq60 (k : Nat) (x : shq60.D) : Fprobe_Read (k + 1) x.1 x.2.1 x.2.2.1 x.2.2.2.1 x.2.2.2.2.1 x.2.2.2.2.2.1 x.2.2.2.2.2.2.1 x.2.2.2.2.2.2.2.1 x.2.2.2.2.2.2.2.2.1 x.2.2.2.2.2.2.2.2.2 = body2 cf (fun f a b K => COt f a b K [Iq97 k, Iq68 k, Iq39 k, Iq40 k]) (fun b _ σ K => LOt Ty (kps 27) 0 b σ K [LIq138 k]) 27 Tryz.f27.ntmps Tryz.f27.results.toList (bd Tryz.f27) (shq60.enc x).1 (shq60.enc x).2 (putS FS.dec rsq60) := by kernel_rfl
theorem okq60 : ∀ k, InstOk (call cf k) (Iq60 k)
 | 0 => fun x y e => absurd (show (none : Option _) = some y from e) (by simp)
 | k + 1 => inst_ok (c := cf) (k := k) (f := 27) (fn := Tryz.f27) (body := bd Tryz.f27) (sh := shq60) (os := rsq60) rfl Tryz.func27 rfl ⟨rfl, Nat.le_of_ble_eq_true rfl⟩ (COt_ok (alq60 k)) (anq60 k) (fun x => Fprobe_Read (k + 1) x.1 x.2.1 x.2.2.1 x.2.2.2.1 x.2.2.2.2.1 x.2.2.2.2.2.1 x.2.2.2.2.2.2.1 x.2.2.2.2.2.2.2.1 x.2.2.2.2.2.2.2.2.1 x.2.2.2.2.2.2.2.2.2) (stq60 k)

/-! shunt/probe.outside -/
def bprobe_outside (k : Nat) (v : Int) : Option (Bool) :=
 if ((decide (v > (2000000000000000000 : Int))) = false) then
 (some (decide (v < (-(2000000000000000000 : Int)))))
 else
 (some true)
def Fprobe_outside : Nat → Int → Option (Bool)
 | 0, _ => none
 | k + 1, v => bprobe_outside k v
def shq67 : FS := { vs := [.a (.lf (.int .i64))], bs := [] }
def rsq67 : List FS := [{ vs := [.a (.lf .bool)], bs := [] }]
def Iq67 (k : Nat) : Inst := ⟨95, shq67, rsq67, fun x => Fprobe_outside k x⟩
theorem alq67 (k : Nat) : AllI (call cf k) [] := True.intro
theorem anq67 (k : Nat) : LAll (LOk (R := DS FS.D rsq67) (fun b _ σ K => LOt Ty (kps 95) 0 b σ K []) cf (call cf k) (cf.keep 95) Tryz.f95.ntmps k shq67.bs.length) 0 (bd Tryz.f95) :=
 qA qT (qA qT qT)
theorem stq67 (k : Nat) (x : shq67.D) : Fprobe_outside (k + 1) x = body2 cf (fun f a b K => COt f a b K []) (fun b _ σ K => LOt Ty (kps 95) 0 b σ K []) 95 Tryz.f95.ntmps Tryz.f95.results.toList (bd Tryz.f95) (shq67.enc x).1 (shq67.enc x).2 (putS FS.dec rsq67) := by kernel_rfl
theorem okq67 : ∀ k, InstOk (call cf k) (Iq67 k)
 | 0 => fun x y e => absurd (show (none : Option _) = some y from e) (by simp)
 | k + 1 => inst_ok (c := cf) (k := k) (f := 95) (fn := Tryz.f95) (body := bd Tryz.f95) (sh := shq67) (os := rsq67) rfl Tryz.func95 rfl ⟨rfl, Nat.le_of_ble_eq_true rfl⟩ (COt_ok (alq67 k)) (anq67 k) (fun x => Fprobe_outside (k + 1) x) (stq67 k)

/-! slices.IndexFunc[[]int64,int64] -/
def Lslices_IndexFunc_int64_int64__xcv_0s (k : Nat) (rec : List Int → Int → Int → Option ((Int) ⊕ (Unit))) (s : List Int) (x : Int) (x1 : Int) : Option ((Int) ⊕ (Unit)) :=
 if ((decide (x1 < x)) = true) then
 if ((0 : Int) ≤ x1) then
 Option.bind (s)[(Int.toNat x1)]? fun x2 =>
 Option.bind (Fprobe_outside k x2) fun r5 =>
 if (r5 = true) then
 (some (Sum.inl x1))
 else
 rec s x (IntKind.wrap .i64 (x1 + (1 : Int)))
 else
 none
 else
 (some (Sum.inr ()))
def Lslices_IndexFunc_int64_int64__xcv_0 (k n : Nat) : List Int → Int → Int → Option ((Int) ⊕ (Unit)) := Nat.rec (fun _ _ _ => none) (fun _ r => Lslices_IndexFunc_int64_int64__xcv_0s k r) n
def bslices_IndexFunc_int64_int64__xcv (k : Nat) (s : List Int) : Option (Int) :=
 Option.bind (Lslices_IndexFunc_int64_int64__xcv_0 k k s (((List.length s) : Nat) : Int) (0 : Int)) fun r5 =>
 eitherK r5
 (fun r5 =>
 (some r5))
 (fun r5 =>
 (some (-(1 : Int))))
def Fslices_IndexFunc_int64_int64__xcv : Nat → List Int → Option (Int)
 | 0, _ => none
 | k + 1, s => bslices_IndexFunc_int64_int64__xcv k s
def shq82 : FS := { vs := [.a (.lf (.sl (.int .i64))), .a (.fn 95 [])], bs := [] }
def rsq82 : List FS := [{ vs := [.a (.lf (.int .i64))], bs := [] }]
def Iq82 (k : Nat) : Inst := ⟨197, shq82, rsq82, fun x => Fslices_IndexFunc_int64_int64__xcv k x⟩
theorem alq82 (k : Nat) : AllI (call cf k) [Iq67 k] := qA (okq67 k) qT
def hsq144 : List SS := [{ fr := [(0, .a (.lf (.sl (.int .i64)))), (1, .a (.fn 95 [])), (7, .a (.lf (.int .i64))), (8, .a (.lf (.int .i64)))], mem := [], nx := 0 }]
def osq144 : List OS := [⟨none, { fr := [(4, .a (.lf (.int .i64)))], mem := [], nx := 0 }⟩, ⟨some 0, { fr := [], mem := [], nx := 0 }⟩]
def LIq144 (k : Nat) : LInst := ⟨0, hsq144, osq144, fun x => Lslices_IndexFunc_int64_int64__xcv_0 k k x.1 x.2.1 x.2.2⟩
theorem anq144 (k : Nat) : LAll (LOk (R := DS OS.D osq144) (fun b _ σ K => LOt Ty (kps 197) 0 b σ K []) cf (call cf k) (kps 197) Tryz.f197.ntmps k 0) 0 (lb Tryz.f197 0) :=
 qA qT (qA (qA qT qT) (qA (qA qT (qA qT (qA (qA qT qT) qT))) qT))
theorem stq144 (k n : Nat) (x : DS SS.D hsq144) : Lslices_IndexFunc_int64_int64__xcv_0 k (n + 1) x.1 x.2.1 x.2.2 = encSK SS.enc (fun σ => run2 cf (fun f a b K => COt f a b K [Iq67 k]) (fun b _ σ K => LOt Ty (kps 197) 0 b σ K []) Tryz.f197.ntmps 0 (lb Tryz.f197 0) σ (nextK Ty (kps 197 0) 0 hsq144 osq144 fun x => Lslices_IndexFunc_int64_int64__xcv_0 k n x.1 x.2.1 x.2.2)) hsq144 x := by kernel_rfl
theorem loq144 (k : Nat) : LIOk cf (call cf k) (kps 197) Tryz.f197.ntmps k 0 0 (lb Tryz.f197 0) (LIq144 k) :=
 loop_ok (c := cf) (callF := call cf k) (kp := kps 197) (nt := Tryz.f197.ntmps) (k := k) (p := 0) (b := 0) (x0 := lb Tryz.f197 0) (hs := hsq144) (os := osq144) (COt_ok (alq82 k)) (anq144 k) (fun n x => Lslices_IndexFunc_int64_int64__xcv_0 k n x.1 x.2.1 x.2.2) (fun _ => rfl) (stq144 k)
theorem anq82 (k : Nat) : LAll (LOk (R := DS FS.D rsq82) (fun b _ σ K => LOt Ty (kps 197) 0 b σ K [LIq144 k]) cf (call cf k) (cf.keep 197) Tryz.f197.ntmps k shq82.bs.length) 0 (bd Tryz.f197) :=
 qA qT (qA (qA qT (LOt_ok (c := cf) (callF := call cf k) (kp := kps 197) (nt := Tryz.f197.ntmps) (k := k) (p := 0) (b := 0) (x0 := lb Tryz.f197 0) (l := [LIq144 k]) (qA (fun _ => loq144 k) qT))) (qA qT qT))
theorem stq82 (k : Nat) (x : shq82.D) : Fslices_IndexFunc_int64_int64__xcv (k + 1) x = body2 cf (fun f a b K => COt f a b K [Iq67 k]) (fun b _ σ K => LOt Ty (kps 197) 0 b σ K [LIq144 k]) 197 Tryz.f197.ntmps Tryz.f197.results.toList (bd Tryz.f197) (shq82.enc x).1 (shq82.enc x).2 (putS FS.dec rsq82) := by kernel_rfl
theorem okq82 : ∀ k, InstOk (call cf k) (Iq82 k)
 | 0 => fun x y e => absurd (show (none : Option _) = some y from e) (by simp)
 | k + 1 => inst_ok (c := cf) (k := k) (f := 197) (fn := Tryz.f197) (body := bd Tryz.f197) (sh := shq82) (os := rsq82) rfl Tryz.func197 rfl ⟨rfl, Nat.le_of_ble_eq_true rfl⟩ (COt_ok (alq82 k)) (anq82 k) (fun x => Fslices_IndexFunc_int64_int64__xcv (k + 1) x) (stq82 k)

/-! slices.ContainsFunc[[]int64,int64] -/
def bslices_ContainsFunc_int64_int64__xcv (k : Nat) (s : List Int) : Option (Bool) :=
 Option.bind (Fslices_IndexFunc_int64_int64__xcv k s) fun r5 =>
 (some (decide (r5 ≥ (0 : Int))))
def Fslices_ContainsFunc_int64_int64__xcv : Nat → List Int → Option (Bool)
 | 0, _ => none
 | k + 1, s => bslices_ContainsFunc_int64_int64__xcv k s
def shq77 : FS := { vs := [.a (.lf (.sl (.int .i64))), .a (.fn 95 [])], bs := [] }
def rsq77 : List FS := [{ vs := [.a (.lf .bool)], bs := [] }]
def Iq77 (k : Nat) : Inst := ⟨139, shq77, rsq77, fun x => Fslices_ContainsFunc_int64_int64__xcv k x⟩
theorem alq77 (k : Nat) : AllI (call cf k) [Iq82 k] := qA (okq82 k) qT
theorem anq77 (k : Nat) : LAll (LOk (R := DS FS.D rsq77) (fun b _ σ K => LOt Ty (kps 139) 0 b σ K []) cf (call cf k) (cf.keep 139) Tryz.f139.ntmps k shq77.bs.length) 0 (bd Tryz.f139) :=
 qA qT (qA qT qT)
theorem stq77 (k : Nat) (x : shq77.D) : Fslices_ContainsFunc_int64_int64__xcv (k + 1) x = body2 cf (fun f a b K => COt f a b K [Iq82 k]) (fun b _ σ K => LOt Ty (kps 139) 0 b σ K []) 139 Tryz.f139.ntmps Tryz.f139.results.toList (bd Tryz.f139) (shq77.enc x).1 (shq77.enc x).2 (putS FS.dec rsq77) := by kernel_rfl
theorem okq77 : ∀ k, InstOk (call cf k) (Iq77 k)
 | 0 => fun x y e => absurd (show (none : Option _) = some y from e) (by simp)
 | k + 1 => inst_ok (c := cf) (k := k) (f := 139) (fn := Tryz.f139) (body := bd Tryz.f139) (sh := shq77) (os := rsq77) rfl Tryz.func139 rfl ⟨rfl, Nat.le_of_ble_eq_true rfl⟩ (COt_ok (alq77 k)) (anq77 k) (fun x => Fslices_ContainsFunc_int64_int64__xcv (k + 1) x) (stq77 k)

/-! shunt/probe.look -/
def bprobe_look (k : Nat) (row : List Int) : Option (Int) :=
 Option.bind (Fslices_ContainsFunc_int64_int64__xcv k row) fun r5 =>
 if (r5 = true) then
 (some (4 : Int))
 else
 if (((((List.length row) : Nat) : Int) == (0 : Int)) = true) then
 (some (6 : Int))
 else
 (some (0 : Int))
def Fprobe_look : Nat → List Int → Option (Int)
 | 0, _ => none
 | k + 1, row => bprobe_look k row
def shq66 : FS := { vs := [.a (.lf (.sl (.int .i64)))], bs := [] }
def rsq66 : List FS := [{ vs := [.a (.lf (.int .i64))], bs := [] }]
def Iq66 (k : Nat) : Inst := ⟨83, shq66, rsq66, fun x => Fprobe_look k x⟩
theorem alq66 (k : Nat) : AllI (call cf k) [Iq77 k] := qA (okq77 k) qT
theorem anq66 (k : Nat) : LAll (LOk (R := DS FS.D rsq66) (fun b _ σ K => LOt Ty (kps 83) 0 b σ K []) cf (call cf k) (cf.keep 83) Tryz.f83.ntmps k shq66.bs.length) 0 (bd Tryz.f83) :=
 qA qT (qA (qA qT (qA (qA qT qT) qT)) (qA (qA qT (qA (qA qT qT) qT)) (qA qT qT)))
theorem stq66 (k : Nat) (x : shq66.D) : Fprobe_look (k + 1) x = body2 cf (fun f a b K => COt f a b K [Iq77 k]) (fun b _ σ K => LOt Ty (kps 83) 0 b σ K []) 83 Tryz.f83.ntmps Tryz.f83.results.toList (bd Tryz.f83) (shq66.enc x).1 (shq66.enc x).2 (putS FS.dec rsq66) := by kernel_rfl
theorem okq66 : ∀ k, InstOk (call cf k) (Iq66 k)
 | 0 => fun x y e => absurd (show (none : Option _) = some y from e) (by simp)
 | k + 1 => inst_ok (c := cf) (k := k) (f := 83) (fn := Tryz.f83) (body := bd Tryz.f83) (sh := shq66) (os := rsq66) rfl Tryz.func83 rfl ⟨rfl, Nat.le_of_ble_eq_true rfl⟩ (COt_ok (alq66 k)) (anq66 k) (fun x => Fprobe_look (k + 1) x) (stq66 k)

/-! shunt/probe.Rise -/
def Lprobe_Rise_0s (k : Nat) (rec : List Int → Int → Int → Int → Option ((Int × Int) ⊕ (Unit))) (row : List Int) (level : Int) (nth : Int) (i : Int) : Option ((Int × Int) ⊕ (Unit)) :=
 if ((decide (i < (((List.length row) : Nat) : Int))) = true) then
 if ((0 : Int) ≤ (IntKind.wrap .i64 (i - (1 : Int)))) then
 Option.bind (row)[(Int.toNat (IntKind.wrap .i64 (i - (1 : Int))))]? fun x =>
 if ((decide (x < level)) = true) then
 if ((0 : Int) ≤ i) then
 Option.bind (row)[(Int.toNat i)]? fun x1 =>
 if ((decide (x1 ≥ level)) = true) then
 if (((IntKind.wrap .i64 (nth - (1 : Int))) == (0 : Int)) = true) then
 (some (Sum.inl (i, (0 : Int))))
 else
 rec row level (IntKind.wrap .i64 (nth - (1 : Int))) (IntKind.wrap .i64 (i + (1 : Int)))
 else
 rec row level nth (IntKind.wrap .i64 (i + (1 : Int)))
 else
 none
 else
 rec row level nth (IntKind.wrap .i64 (i + (1 : Int)))
 else
 none
 else
 (some (Sum.inr ()))
def Lprobe_Rise_0 (k n : Nat) : List Int → Int → Int → Int → Option ((Int × Int) ⊕ (Unit)) := Nat.rec (fun _ _ _ _ => none) (fun _ r => Lprobe_Rise_0s k r) n
def bprobe_Rise (k : Nat) (row : List Int) (level : Int) (nth : Int) : Option (Int × Int) :=
 if ((decide (nth < (1 : Int))) = true) then
 (some ((0 : Int), (1 : Int)))
 else
 Option.bind (Fprobe_outside k level) fun r4 =>
 if (r4 = false) then
 Option.bind (Fprobe_look k row) fun r5 =>
 if ((r5 == (4 : Int)) = true) then
 (some ((0 : Int), (4 : Int)))
 else
 Option.bind (Lprobe_Rise_0 k k row level nth (1 : Int)) fun r6 =>
 eitherK r6
 (fun r6 =>
 (some (r6.1, r6.2)))
 (fun r6 =>
 (some ((0 : Int), (6 : Int))))
 else
 (some ((0 : Int), (4 : Int)))
def Fprobe_Rise : Nat → List Int → Int → Int → Option (Int × Int)
 | 0, _, _, _ => none
 | k + 1, row, level, nth => bprobe_Rise k row level nth
def shq61 : FS := { vs := [.a (.lf (.sl (.int .i64))), .a (.lf (.int .i64)), .a (.lf (.int .i64))], bs := [] }
def rsq61 : List FS := [{ vs := [.a (.lf (.int .i64)), .a (.lf (.int .i64))], bs := [] }]
def Iq61 (k : Nat) : Inst := ⟨34, shq61, rsq61, fun x => Fprobe_Rise k x.1 x.2.1 x.2.2⟩
theorem alq61 (k : Nat) : AllI (call cf k) [Iq67 k, Iq66 k] := qA (okq67 k) (qA (okq66 k) qT)
def hsq139 : List SS := [{ fr := [(0, .a (.lf (.sl (.int .i64)))), (1, .a (.lf (.int .i64))), (2, .a (.lf (.int .i64))), (8, .a (.lf (.int .i64)))], mem := [], nx := 0 }]
def osq139 : List OS := [⟨none, { fr := [(6, .a (.lf (.int .i64))), (7, .a (.lf (.int .i64)))], mem := [], nx := 0 }⟩, ⟨some 0, { fr := [], mem := [], nx := 0 }⟩]
def LIq139 (k : Nat) : LInst := ⟨0, hsq139, osq139, fun x => Lprobe_Rise_0 k k x.1 x.2.1 x.2.2.1 x.2.2.2⟩
theorem anq139 (k : Nat) : LAll (LOk (R := DS OS.D osq139) (fun b _ σ K => LOt Ty (kps 34) 0 b σ K []) cf (call cf k) (kps 34) Tryz.f34.ntmps k 0) 0 (lb Tryz.f34 0) :=
 qA (qA qT (qA qT qT)) (qA (qA qT (qA (qA qT (qA qT (qA (qA qT qT) qT))) qT)) qT)
theorem stq139 (k n : Nat) (x : DS SS.D hsq139) : Lprobe_Rise_0 k (n + 1) x.1 x.2.1 x.2.2.1 x.2.2.2 = encSK SS.enc (fun σ => run2 cf (fun f a b K => COt f a b K [Iq67 k, Iq66 k]) (fun b _ σ K => LOt Ty (kps 34) 0 b σ K []) Tryz.f34.ntmps 0 (lb Tryz.f34 0) σ (nextK Ty (kps 34 0) 0 hsq139 osq139 fun x => Lprobe_Rise_0 k n x.1 x.2.1 x.2.2.1 x.2.2.2)) hsq139 x := by kernel_rfl
theorem loq139 (k : Nat) : LIOk cf (call cf k) (kps 34) Tryz.f34.ntmps k 0 0 (lb Tryz.f34 0) (LIq139 k) :=
 loop_ok (c := cf) (callF := call cf k) (kp := kps 34) (nt := Tryz.f34.ntmps) (k := k) (p := 0) (b := 0) (x0 := lb Tryz.f34 0) (hs := hsq139) (os := osq139) (COt_ok (alq61 k)) (anq139 k) (fun n x => Lprobe_Rise_0 k n x.1 x.2.1 x.2.2.1 x.2.2.2) (fun _ => rfl) (stq139 k)
theorem anq61 (k : Nat) : LAll (LOk (R := DS FS.D rsq61) (fun b _ σ K => LOt Ty (kps 34) 0 b σ K [LIq139 k]) cf (call cf k) (cf.keep 34) Tryz.f34.ntmps k shq61.bs.length) 0 (bd Tryz.f34) :=
 qA qT (qA (qA qT (qA (qA qT qT) qT)) (qA (qA qT (qA (qA qT qT) qT)) (qA (qA qT (LOt_ok (c := cf) (callF := call cf k) (kp := kps 34) (nt := Tryz.f34.ntmps) (k := k) (p := 0) (b := 0) (x0 := lb Tryz.f34 0) (l := [LIq139 k]) (qA (fun _ => loq139 k) qT))) (qA qT qT))))
theorem stq61 (k : Nat) (x : shq61.D) : Fprobe_Rise (k + 1) x.1 x.2.1 x.2.2 = body2 cf (fun f a b K => COt f a b K [Iq67 k, Iq66 k]) (fun b _ σ K => LOt Ty (kps 34) 0 b σ K [LIq139 k]) 34 Tryz.f34.ntmps Tryz.f34.results.toList (bd Tryz.f34) (shq61.enc x).1 (shq61.enc x).2 (putS FS.dec rsq61) := by kernel_rfl
theorem okq61 : ∀ k, InstOk (call cf k) (Iq61 k)
 | 0 => fun x y e => absurd (show (none : Option _) = some y from e) (by simp)
 | k + 1 => inst_ok (c := cf) (k := k) (f := 34) (fn := Tryz.f34) (body := bd Tryz.f34) (sh := shq61) (os := rsq61) rfl Tryz.func34 rfl ⟨rfl, Nat.le_of_ble_eq_true rfl⟩ (COt_ok (alq61 k)) (anq61 k) (fun x => Fprobe_Rise (k + 1) x.1 x.2.1 x.2.2) (stq61 k)

/-! shunt/probe.Settle -/
def Lprobe_Settle_0s (k : Nat) (rec : List Int → Int → Int → Int → Option (List Int × Int)) (row : List Int) (level : Int) (band : Int) (at1 : Int) : Option (List Int × Int) :=
 if ((decide (at1 > (0 : Int))) = true) then
 if ((0 : Int) ≤ (IntKind.wrap .i64 (at1 - (1 : Int)))) then
 Option.bind (row)[(Int.toNat (IntKind.wrap .i64 (at1 - (1 : Int))))]? fun x =>
 if ((decide ((IntKind.wrap .i64 (x - level)) ≤ band)) = true) then
 if ((0 : Int) ≤ (IntKind.wrap .i64 (at1 - (1 : Int)))) then
 Option.bind (row)[(Int.toNat (IntKind.wrap .i64 (at1 - (1 : Int))))]? fun x1 =>
 if ((decide ((IntKind.wrap .i64 (level - x1)) ≤ band)) = true) then
 rec row level band (IntKind.wrap .i64 (at1 - (1 : Int)))
 else
 (some (row, at1))
 else
 none
 else
 (some (row, at1))
 else
 none
 else
 (some (row, at1))
def Lprobe_Settle_0 (k n : Nat) : List Int → Int → Int → Int → Option (List Int × Int) := Nat.rec (fun _ _ _ _ => none) (fun _ r => Lprobe_Settle_0s k r) n
def bprobe_Settle (k : Nat) (row : List Int) (level : Int) (band : Int) : Option (Int × Int) :=
 if ((decide (band < (0 : Int))) = true) then
 (some ((0 : Int), (1 : Int)))
 else
 Option.bind (Fprobe_outside k level) fun r5 =>
 if (r5 = false) then
 Option.bind (Fprobe_look k row) fun r6 =>
 if ((r6 == (4 : Int)) = true) then
 (some ((0 : Int), (4 : Int)))
 else
 Option.bind (Lprobe_Settle_0 k k row level band (((List.length row) : Nat) : Int)) fun r7 =>
 if ((r7.2 == (((List.length r7.1) : Nat) : Int)) = true) then
 (some ((0 : Int), (6 : Int)))
 else
 (some (r7.2, (0 : Int)))
 else
 (some ((0 : Int), (4 : Int)))
def Fprobe_Settle : Nat → List Int → Int → Int → Option (Int × Int)
 | 0, _, _, _ => none
 | k + 1, row, level, band => bprobe_Settle k row level band
def shq62 : FS := { vs := [.a (.lf (.sl (.int .i64))), .a (.lf (.int .i64)), .a (.lf (.int .i64))], bs := [] }
def rsq62 : List FS := [{ vs := [.a (.lf (.int .i64)), .a (.lf (.int .i64))], bs := [] }]
def Iq62 (k : Nat) : Inst := ⟨36, shq62, rsq62, fun x => Fprobe_Settle k x.1 x.2.1 x.2.2⟩
theorem alq62 (k : Nat) : AllI (call cf k) [Iq67 k, Iq66 k] := qA (okq67 k) (qA (okq66 k) qT)
def hsq140 : List SS := [{ fr := [(0, .a (.lf (.sl (.int .i64)))), (1, .a (.lf (.int .i64))), (2, .a (.lf (.int .i64))), (8, .a (.lf (.int .i64)))], mem := [], nx := 0 }]
def osq140 : List OS := [⟨some 0, { fr := [(0, .a (.lf (.sl (.int .i64)))), (8, .a (.lf (.int .i64)))], mem := [], nx := 0 }⟩]
def LIq140 (k : Nat) : LInst := ⟨0, hsq140, osq140, fun x => Lprobe_Settle_0 k k x.1 x.2.1 x.2.2.1 x.2.2.2⟩
theorem anq140 (k : Nat) : LAll (LOk (R := DS OS.D osq140) (fun b _ σ K => LOt Ty (kps 36) 0 b σ K []) cf (call cf k) (kps 36) Tryz.f36.ntmps k 0) 0 (lb Tryz.f36 0) :=
 qA (qA qT (qA qT qT)) qT
theorem stq140 (k n : Nat) (x : DS SS.D hsq140) : Lprobe_Settle_0 k (n + 1) x.1 x.2.1 x.2.2.1 x.2.2.2 = encSK SS.enc (fun σ => run2 cf (fun f a b K => COt f a b K [Iq67 k, Iq66 k]) (fun b _ σ K => LOt Ty (kps 36) 0 b σ K []) Tryz.f36.ntmps 0 (lb Tryz.f36 0) σ (nextK Ty (kps 36 0) 0 hsq140 osq140 fun x => Lprobe_Settle_0 k n x.1 x.2.1 x.2.2.1 x.2.2.2)) hsq140 x := by kernel_rfl
theorem loq140 (k : Nat) : LIOk cf (call cf k) (kps 36) Tryz.f36.ntmps k 0 0 (lb Tryz.f36 0) (LIq140 k) :=
 loop_ok (c := cf) (callF := call cf k) (kp := kps 36) (nt := Tryz.f36.ntmps) (k := k) (p := 0) (b := 0) (x0 := lb Tryz.f36 0) (hs := hsq140) (os := osq140) (COt_ok (alq62 k)) (anq140 k) (fun n x => Lprobe_Settle_0 k n x.1 x.2.1 x.2.2.1 x.2.2.2) (fun _ => rfl) (stq140 k)
theorem anq62 (k : Nat) : LAll (LOk (R := DS FS.D rsq62) (fun b _ σ K => LOt Ty (kps 36) 0 b σ K [LIq140 k]) cf (call cf k) (cf.keep 36) Tryz.f36.ntmps k shq62.bs.length) 0 (bd Tryz.f36) :=
 qA qT (qA (qA qT (qA (qA qT qT) qT)) (qA (qA qT (qA (qA qT qT) qT)) (qA qT (qA (LOt_ok (c := cf) (callF := call cf k) (kp := kps 36) (nt := Tryz.f36.ntmps) (k := k) (p := 0) (b := 0) (x0 := lb Tryz.f36 0) (l := [LIq140 k]) (qA (fun _ => loq140 k) qT)) (qA (qA qT (qA (qA qT qT) qT)) (qA qT qT))))))
theorem stq62 (k : Nat) (x : shq62.D) : Fprobe_Settle (k + 1) x.1 x.2.1 x.2.2 = body2 cf (fun f a b K => COt f a b K [Iq67 k, Iq66 k]) (fun b _ σ K => LOt Ty (kps 36) 0 b σ K [LIq140 k]) 36 Tryz.f36.ntmps Tryz.f36.results.toList (bd Tryz.f36) (shq62.enc x).1 (shq62.enc x).2 (putS FS.dec rsq62) := by kernel_rfl
theorem okq62 : ∀ k, InstOk (call cf k) (Iq62 k)
 | 0 => fun x y e => absurd (show (none : Option _) = some y from e) (by simp)
 | k + 1 => inst_ok (c := cf) (k := k) (f := 36) (fn := Tryz.f36) (body := bd Tryz.f36) (sh := shq62) (os := rsq62) rfl Tryz.func36 rfl ⟨rfl, Nat.le_of_ble_eq_true rfl⟩ (COt_ok (alq62 k)) (anq62 k) (fun x => Fprobe_Settle (k + 1) x.1 x.2.1 x.2.2) (stq62 k)

/-! slices.Min[[]int64,int64] -/
def Lslices_Min_int64_int64__0s (k : Nat) (rec : List Int → Int → Int → Option (Int)) (x : List Int) (m : Int) (i : Int) : Option (Int) :=
 if ((decide (i < (((List.length x) : Nat) : Int))) = true) then
 if ((0 : Int) ≤ i) then
 Option.bind (x)[(Int.toNat i)]? fun x2 =>
 rec x (min m x2) (IntKind.wrap .i64 (i + (1 : Int)))
 else
 none
 else
 (some m)
def Lslices_Min_int64_int64__0 (k n : Nat) : List Int → Int → Int → Option (Int) := Nat.rec (fun _ _ _ => none) (fun _ r => Lslices_Min_int64_int64__0s k r) n
def bslices_Min_int64_int64_ (k : Nat) (x : List Int) : Option (Int) :=
 if ((decide ((((List.length x) : Nat) : Int) < (1 : Int))) = true) then
 none
 else
 Option.bind (x)[0]? fun x1 =>
 Option.bind (Lslices_Min_int64_int64__0 k k x x1 (1 : Int)) fun r7 =>
 (some r7)
def Fslices_Min_int64_int64_ : Nat → List Int → Option (Int)
 | 0, _ => none
 | k + 1, x => bslices_Min_int64_int64_ k x
def shq89 : FS := { vs := [.a (.lf (.sl (.int .i64)))], bs := [] }
def rsq89 : List FS := [{ vs := [.a (.lf (.int .i64))], bs := [] }]
def Iq89 (k : Nat) : Inst := ⟨84, shq89, rsq89, fun x => Fslices_Min_int64_int64_ k x⟩
theorem alq89 (k : Nat) : AllI (call cf k) [] := True.intro
def hsq151 : List SS := [{ fr := [(0, .a (.lf (.sl (.int .i64)))), (3, .a (.lf (.int .i64))), (4, .a (.lf (.int .i64)))], mem := [], nx := 0 }]
def osq151 : List OS := [⟨some 0, { fr := [(3, .a (.lf (.int .i64)))], mem := [], nx := 0 }⟩]
def LIq151 (k : Nat) : LInst := ⟨0, hsq151, osq151, fun x => Lslices_Min_int64_int64__0 k k x.1 x.2.1 x.2.2⟩
theorem anq151 (k : Nat) : LAll (LOk (R := DS OS.D osq151) (fun b _ σ K => LOt Ty (kps 84) 0 b σ K []) cf (call cf k) (kps 84) Tryz.f84.ntmps k 0) 0 (lb Tryz.f84 0) :=
 qA (qA qT (qA qT qT)) (qA qT qT)
theorem stq151 (k n : Nat) (x : DS SS.D hsq151) : Lslices_Min_int64_int64__0 k (n + 1) x.1 x.2.1 x.2.2 = encSK SS.enc (fun σ => run2 cf (fun f a b K => COt f a b K []) (fun b _ σ K => LOt Ty (kps 84) 0 b σ K []) Tryz.f84.ntmps 0 (lb Tryz.f84 0) σ (nextK Ty (kps 84 0) 0 hsq151 osq151 fun x => Lslices_Min_int64_int64__0 k n x.1 x.2.1 x.2.2)) hsq151 x := by kernel_rfl
theorem loq151 (k : Nat) : LIOk cf (call cf k) (kps 84) Tryz.f84.ntmps k 0 0 (lb Tryz.f84 0) (LIq151 k) :=
 loop_ok (c := cf) (callF := call cf k) (kp := kps 84) (nt := Tryz.f84.ntmps) (k := k) (p := 0) (b := 0) (x0 := lb Tryz.f84 0) (hs := hsq151) (os := osq151) (COt_ok (alq89 k)) (anq151 k) (fun n x => Lslices_Min_int64_int64__0 k n x.1 x.2.1 x.2.2) (fun _ => rfl) (stq151 k)
theorem anq89 (k : Nat) : LAll (LOk (R := DS FS.D rsq89) (fun b _ σ K => LOt Ty (kps 84) 0 b σ K [LIq151 k]) cf (call cf k) (cf.keep 84) Tryz.f84.ntmps k shq89.bs.length) 0 (bd Tryz.f84) :=
 qA qT (qA (qA qT (qA qT qT)) (qA qT (qA (qA qT (LOt_ok (c := cf) (callF := call cf k) (kp := kps 84) (nt := Tryz.f84.ntmps) (k := k) (p := 0) (b := 0) (x0 := lb Tryz.f84 0) (l := [LIq151 k]) (qA (fun _ => loq151 k) qT))) (qA qT qT))))
theorem stq89 (k : Nat) (x : shq89.D) : Fslices_Min_int64_int64_ (k + 1) x = body2 cf (fun f a b K => COt f a b K []) (fun b _ σ K => LOt Ty (kps 84) 0 b σ K [LIq151 k]) 84 Tryz.f84.ntmps Tryz.f84.results.toList (bd Tryz.f84) (shq89.enc x).1 (shq89.enc x).2 (putS FS.dec rsq89) := by kernel_rfl
theorem okq89 : ∀ k, InstOk (call cf k) (Iq89 k)
 | 0 => fun x y e => absurd (show (none : Option _) = some y from e) (by simp)
 | k + 1 => inst_ok (c := cf) (k := k) (f := 84) (fn := Tryz.f84) (body := bd Tryz.f84) (sh := shq89) (os := rsq89) rfl Tryz.func84 rfl ⟨rfl, Nat.le_of_ble_eq_true rfl⟩ (COt_ok (alq89 k)) (anq89 k) (fun x => Fslices_Min_int64_int64_ (k + 1) x) (stq89 k)

/-! slices.Max[[]int64,int64] -/
def Lslices_Max_int64_int64__0s (k : Nat) (rec : List Int → Int → Int → Option (Int)) (x : List Int) (m : Int) (i : Int) : Option (Int) :=
 if ((decide (i < (((List.length x) : Nat) : Int))) = true) then
 if ((0 : Int) ≤ i) then
 Option.bind (x)[(Int.toNat i)]? fun x2 =>
 rec x (max m x2) (IntKind.wrap .i64 (i + (1 : Int)))
 else
 none
 else
 (some m)
def Lslices_Max_int64_int64__0 (k n : Nat) : List Int → Int → Int → Option (Int) := Nat.rec (fun _ _ _ => none) (fun _ r => Lslices_Max_int64_int64__0s k r) n
def bslices_Max_int64_int64_ (k : Nat) (x : List Int) : Option (Int) :=
 if ((decide ((((List.length x) : Nat) : Int) < (1 : Int))) = true) then
 none
 else
 Option.bind (x)[0]? fun x1 =>
 Option.bind (Lslices_Max_int64_int64__0 k k x x1 (1 : Int)) fun r8 =>
 (some r8)
def Fslices_Max_int64_int64_ : Nat → List Int → Option (Int)
 | 0, _ => none
 | k + 1, x => bslices_Max_int64_int64_ k x
def shq88 : FS := { vs := [.a (.lf (.sl (.int .i64)))], bs := [] }
def rsq88 : List FS := [{ vs := [.a (.lf (.int .i64))], bs := [] }]
def Iq88 (k : Nat) : Inst := ⟨85, shq88, rsq88, fun x => Fslices_Max_int64_int64_ k x⟩
theorem alq88 (k : Nat) : AllI (call cf k) [] := True.intro
def hsq150 : List SS := [{ fr := [(0, .a (.lf (.sl (.int .i64)))), (3, .a (.lf (.int .i64))), (4, .a (.lf (.int .i64)))], mem := [], nx := 0 }]
def osq150 : List OS := [⟨some 0, { fr := [(3, .a (.lf (.int .i64)))], mem := [], nx := 0 }⟩]
def LIq150 (k : Nat) : LInst := ⟨0, hsq150, osq150, fun x => Lslices_Max_int64_int64__0 k k x.1 x.2.1 x.2.2⟩
theorem anq150 (k : Nat) : LAll (LOk (R := DS OS.D osq150) (fun b _ σ K => LOt Ty (kps 85) 0 b σ K []) cf (call cf k) (kps 85) Tryz.f85.ntmps k 0) 0 (lb Tryz.f85 0) :=
 qA (qA qT (qA qT qT)) (qA qT qT)
theorem stq150 (k n : Nat) (x : DS SS.D hsq150) : Lslices_Max_int64_int64__0 k (n + 1) x.1 x.2.1 x.2.2 = encSK SS.enc (fun σ => run2 cf (fun f a b K => COt f a b K []) (fun b _ σ K => LOt Ty (kps 85) 0 b σ K []) Tryz.f85.ntmps 0 (lb Tryz.f85 0) σ (nextK Ty (kps 85 0) 0 hsq150 osq150 fun x => Lslices_Max_int64_int64__0 k n x.1 x.2.1 x.2.2)) hsq150 x := by kernel_rfl
theorem loq150 (k : Nat) : LIOk cf (call cf k) (kps 85) Tryz.f85.ntmps k 0 0 (lb Tryz.f85 0) (LIq150 k) :=
 loop_ok (c := cf) (callF := call cf k) (kp := kps 85) (nt := Tryz.f85.ntmps) (k := k) (p := 0) (b := 0) (x0 := lb Tryz.f85 0) (hs := hsq150) (os := osq150) (COt_ok (alq88 k)) (anq150 k) (fun n x => Lslices_Max_int64_int64__0 k n x.1 x.2.1 x.2.2) (fun _ => rfl) (stq150 k)
theorem anq88 (k : Nat) : LAll (LOk (R := DS FS.D rsq88) (fun b _ σ K => LOt Ty (kps 85) 0 b σ K [LIq150 k]) cf (call cf k) (cf.keep 85) Tryz.f85.ntmps k shq88.bs.length) 0 (bd Tryz.f85) :=
 qA qT (qA (qA qT (qA qT qT)) (qA qT (qA (qA qT (LOt_ok (c := cf) (callF := call cf k) (kp := kps 85) (nt := Tryz.f85.ntmps) (k := k) (p := 0) (b := 0) (x0 := lb Tryz.f85 0) (l := [LIq150 k]) (qA (fun _ => loq150 k) qT))) (qA qT qT))))
theorem stq88 (k : Nat) (x : shq88.D) : Fslices_Max_int64_int64_ (k + 1) x = body2 cf (fun f a b K => COt f a b K []) (fun b _ σ K => LOt Ty (kps 85) 0 b σ K [LIq150 k]) 85 Tryz.f85.ntmps Tryz.f85.results.toList (bd Tryz.f85) (shq88.enc x).1 (shq88.enc x).2 (putS FS.dec rsq88) := by kernel_rfl
theorem okq88 : ∀ k, InstOk (call cf k) (Iq88 k)
 | 0 => fun x y e => absurd (show (none : Option _) = some y from e) (by simp)
 | k + 1 => inst_ok (c := cf) (k := k) (f := 85) (fn := Tryz.f85) (body := bd Tryz.f85) (sh := shq88) (os := rsq88) rfl Tryz.func85 rfl ⟨rfl, Nat.le_of_ble_eq_true rfl⟩ (COt_ok (alq88 k)) (anq88 k) (fun x => Fslices_Max_int64_int64_ (k + 1) x) (stq88 k)

/-! shunt/probe.Span -/
def bprobe_Span (k : Nat) (row : List Int) : Option (Int × Int × Int) :=
 Option.bind (Fprobe_look k row) fun r6 =>
 if ((r6 != (0 : Int)) = true) then
 (some ((0 : Int), (0 : Int), r6))
 else
 Option.bind (Fslices_Min_int64_int64_ k row) fun r7 =>
 Option.bind (Fslices_Max_int64_int64_ k row) fun r8 =>
 (some (r7, r8, (0 : Int)))
def Fprobe_Span : Nat → List Int → Option (Int × Int × Int)
 | 0, _ => none
 | k + 1, row => bprobe_Span k row
def shq63 : FS := { vs := [.a (.lf (.sl (.int .i64)))], bs := [] }
def rsq63 : List FS := [{ vs := [.a (.lf (.int .i64)), .a (.lf (.int .i64)), .a (.lf (.int .i64))], bs := [] }]
def Iq63 (k : Nat) : Inst := ⟨30, shq63, rsq63, fun x => Fprobe_Span k x⟩
theorem alq63 (k : Nat) : AllI (call cf k) [Iq66 k, Iq89 k, Iq88 k] := qA (okq66 k) (qA (okq89 k) (qA (okq88 k) qT))
theorem anq63 (k : Nat) : LAll (LOk (R := DS FS.D rsq63) (fun b _ σ K => LOt Ty (kps 30) 0 b σ K []) cf (call cf k) (cf.keep 30) Tryz.f30.ntmps k shq63.bs.length) 0 (bd Tryz.f30) :=
 qA qT (qA (qA qT (qA qT (qA (qA qT qT) qT))) (qA qT qT))
theorem stq63 (k : Nat) (x : shq63.D) : Fprobe_Span (k + 1) x = body2 cf (fun f a b K => COt f a b K [Iq66 k, Iq89 k, Iq88 k]) (fun b _ σ K => LOt Ty (kps 30) 0 b σ K []) 30 Tryz.f30.ntmps Tryz.f30.results.toList (bd Tryz.f30) (shq63.enc x).1 (shq63.enc x).2 (putS FS.dec rsq63) := by kernel_rfl
theorem okq63 : ∀ k, InstOk (call cf k) (Iq63 k)
 | 0 => fun x y e => absurd (show (none : Option _) = some y from e) (by simp)
 | k + 1 => inst_ok (c := cf) (k := k) (f := 30) (fn := Tryz.f30) (body := bd Tryz.f30) (sh := shq63) (os := rsq63) rfl Tryz.func30 rfl ⟨rfl, Nat.le_of_ble_eq_true rfl⟩ (COt_ok (alq63 k)) (anq63 k) (fun x => Fprobe_Span (k + 1) x) (stq63 k)

/-! shunt/shuntlaw20.awake -/
def bshuntlaw20_awake (k : Nat) : Option (Bool) :=
 Option.bind (Fshuntlaw20_circuit k) fun r =>
 Option.bind (Fprobe_Read k r.1 r.2.1 r.2.2.1 r.2.2.2.1 r.2.2.2.2 (0 : Int) (List.take 2 ((7 : Int) :: ((3 : Int) :: []))) (List.take 1 ((4 : Int) :: [])) [] (ByteArray.mk (List.toArray (118 :: (40 :: (97 :: (44 :: (120 :: (49 :: (46 :: (98 :: (41 :: [])))))))))))) fun r1 =>
 Option.bind (Fshuntlaw20_circuit k) fun r2 =>
 Option.bind (Fprobe_Read k r2.1 r2.2.1 r2.2.2.1 r2.2.2.2.1 r2.2.2.2.2 (0 : Int) (List.take 2 ((7 : Int) :: ((3 : Int) :: []))) (List.take 1 ((4 : Int) :: [])) [] (ByteArray.mk (List.toArray (105 :: (40 :: (120 :: (49 :: (46 :: (114 :: (49 :: (41 :: []))))))))))) fun r3 =>
 Option.bind (Fprobe_Rise k (List.take 4 ((0 : Int) :: ((5 : Int) :: ((2 : Int) :: ((5 : Int) :: []))))) (5 : Int) (2 : Int)) fun r4 =>
 Option.bind (Fprobe_Settle k (List.take 4 ((0 : Int) :: ((9 : Int) :: ((10 : Int) :: ((11 : Int) :: []))))) (10 : Int) (1 : Int)) fun r5 =>
 Option.bind (Fprobe_Span k (List.take 3 ((3 : Int) :: ((1 : Int) :: ((2 : Int) :: []))))) fun r6 =>
 if ((r1.2 == (0 : Int)) = true) then
 if ((r3.2 == (0 : Int)) = true) then
 if ((r4.2 == (0 : Int)) = true) then
 if ((r5.2 == (0 : Int)) = true) then
 if ((r6.2.2 == (0 : Int)) = true) then
 if ((r1.1 == (4 : Int)) = true) then
 if ((r3.1 == (4 : Int)) = true) then
 if ((r4.1 == (3 : Int)) = true) then
 if ((r5.1 == (1 : Int)) = true) then
 if ((r6.1 == (1 : Int)) = true) then
 (some (r6.2.1 == (3 : Int)))
 else
 (some false)
 else
 (some false)
 else
 (some false)
 else
 (some false)
 else
 (some false)
 else
 (some false)
 else
 (some false)
 else
 (some false)
 else
 (some false)
 else
 (some false)
def Fshuntlaw20_awake : Nat → Option (Bool)
 | 0 => none
 | k + 1 => bshuntlaw20_awake k
def shq74 : FS := { vs := [], bs := [] }
def rsq74 : List FS := [{ vs := [.a (.lf .bool)], bs := [] }]
def Iq74 (k : Nat) : Inst := ⟨25, shq74, rsq74, fun x => Fshuntlaw20_awake k⟩
theorem alq74 (k : Nat) : AllI (call cf k) [Iq75 k, Iq60 k, Iq61 k, Iq62 k, Iq63 k] := qA (okq75 k) (qA (okq60 k) (qA (okq61 k) (qA (okq62 k) (qA (okq63 k) qT))))
theorem anq74 (k : Nat) : LAll (LOk (R := DS FS.D rsq74) (fun b _ σ K => LOt Ty (kps 25) 0 b σ K []) cf (call cf k) (cf.keep 25) Tryz.f25.ntmps k shq74.bs.length) 0 (bd Tryz.f25) :=
 qA qT (qA qT (qA qT (qA qT (qA qT (qA qT (qA qT (qA qT qT)))))))
theorem stq74 (k : Nat) (x : shq74.D) : Fshuntlaw20_awake (k + 1) = body2 cf (fun f a b K => COt f a b K [Iq75 k, Iq60 k, Iq61 k, Iq62 k, Iq63 k]) (fun b _ σ K => LOt Ty (kps 25) 0 b σ K []) 25 Tryz.f25.ntmps Tryz.f25.results.toList (bd Tryz.f25) (shq74.enc x).1 (shq74.enc x).2 (putS FS.dec rsq74) := by kernel_rfl
theorem okq74 : ∀ k, InstOk (call cf k) (Iq74 k)
 | 0 => fun x y e => absurd (show (none : Option _) = some y from e) (by simp)
 | k + 1 => inst_ok (c := cf) (k := k) (f := 25) (fn := Tryz.f25) (body := bd Tryz.f25) (sh := shq74) (os := rsq74) rfl Tryz.func25 rfl ⟨rfl, Nat.le_of_ble_eq_true rfl⟩ (COt_ok (alq74 k)) (anq74 k) (fun x => Fshuntlaw20_awake (k + 1)) (stq74 k)

/-! shunt/shuntref20.Outside -/
def Lshuntref20_Outside_0s (k : Nat) (rec : List Int → Int → Option ((Bool) ⊕ (Unit))) (l : List Int) (i : Int) : Option ((Bool) ⊕ (Unit)) :=
 if ((decide (i < (((List.length l) : Nat) : Int))) = true) then
 if ((0 : Int) ≤ i) then
 Option.bind (l)[(Int.toNat i)]? fun x =>
 if ((decide (x > (2000000000000000000 : Int))) = false) then
 if ((0 : Int) ≤ i) then
 Option.bind (l)[(Int.toNat i)]? fun x1 =>
 if ((decide (x1 < (-(2000000000000000000 : Int)))) = true) then
 (some (Sum.inl true))
 else
 rec l (IntKind.wrap .i64 (i + (1 : Int)))
 else
 none
 else
 (some (Sum.inl true))
 else
 none
 else
 (some (Sum.inr ()))
def Lshuntref20_Outside_0 (k n : Nat) : List Int → Int → Option ((Bool) ⊕ (Unit)) := Nat.rec (fun _ _ => none) (fun _ r => Lshuntref20_Outside_0s k r) n
def bshuntref20_Outside (k : Nat) (l : List Int) : Option (Bool) :=
 Option.bind (Lshuntref20_Outside_0 k k l (0 : Int)) fun r1 =>
 eitherK r1
 (fun r1 =>
 (some r1))
 (fun r1 =>
 (some false))
def Fshuntref20_Outside : Nat → List Int → Option (Bool)
 | 0, _ => none
 | k + 1, l => bshuntref20_Outside k l
def shq76 : FS := { vs := [.a (.lf (.sl (.int .i64)))], bs := [] }
def rsq76 : List FS := [{ vs := [.a (.lf .bool)], bs := [] }]
def Iq76 (k : Nat) : Inst := ⟨40, shq76, rsq76, fun x => Fshuntref20_Outside k x⟩
theorem alq76 (k : Nat) : AllI (call cf k) [] := True.intro
def hsq143 : List SS := [{ fr := [(0, .a (.lf (.sl (.int .i64)))), (3, .a (.lf (.int .i64)))], mem := [], nx := 0 }]
def osq143 : List OS := [⟨none, { fr := [(2, .a (.lf .bool))], mem := [], nx := 0 }⟩, ⟨some 0, { fr := [], mem := [], nx := 0 }⟩]
def LIq143 (k : Nat) : LInst := ⟨0, hsq143, osq143, fun x => Lshuntref20_Outside_0 k k x.1 x.2⟩
theorem anq143 (k : Nat) : LAll (LOk (R := DS OS.D osq143) (fun b _ σ K => LOt Ty (kps 40) 0 b σ K []) cf (call cf k) (kps 40) Tryz.f40.ntmps k 0) 0 (lb Tryz.f40 0) :=
 qA (qA qT (qA qT qT)) (qA (qA qT (qA (qA qT qT) qT)) qT)
theorem stq143 (k n : Nat) (x : DS SS.D hsq143) : Lshuntref20_Outside_0 k (n + 1) x.1 x.2 = encSK SS.enc (fun σ => run2 cf (fun f a b K => COt f a b K []) (fun b _ σ K => LOt Ty (kps 40) 0 b σ K []) Tryz.f40.ntmps 0 (lb Tryz.f40 0) σ (nextK Ty (kps 40 0) 0 hsq143 osq143 fun x => Lshuntref20_Outside_0 k n x.1 x.2)) hsq143 x := by kernel_rfl
theorem loq143 (k : Nat) : LIOk cf (call cf k) (kps 40) Tryz.f40.ntmps k 0 0 (lb Tryz.f40 0) (LIq143 k) :=
 loop_ok (c := cf) (callF := call cf k) (kp := kps 40) (nt := Tryz.f40.ntmps) (k := k) (p := 0) (b := 0) (x0 := lb Tryz.f40 0) (hs := hsq143) (os := osq143) (COt_ok (alq76 k)) (anq143 k) (fun n x => Lshuntref20_Outside_0 k n x.1 x.2) (fun _ => rfl) (stq143 k)
theorem anq76 (k : Nat) : LAll (LOk (R := DS FS.D rsq76) (fun b _ σ K => LOt Ty (kps 40) 0 b σ K [LIq143 k]) cf (call cf k) (cf.keep 40) Tryz.f40.ntmps k shq76.bs.length) 0 (bd Tryz.f40) :=
 qA qT (qA (qA qT (LOt_ok (c := cf) (callF := call cf k) (kp := kps 40) (nt := Tryz.f40.ntmps) (k := k) (p := 0) (b := 0) (x0 := lb Tryz.f40 0) (l := [LIq143 k]) (qA (fun _ => loq143 k) qT))) (qA qT qT))
theorem stq76 (k : Nat) (x : shq76.D) : Fshuntref20_Outside (k + 1) x = body2 cf (fun f a b K => COt f a b K []) (fun b _ σ K => LOt Ty (kps 40) 0 b σ K [LIq143 k]) 40 Tryz.f40.ntmps Tryz.f40.results.toList (bd Tryz.f40) (shq76.enc x).1 (shq76.enc x).2 (putS FS.dec rsq76) := by kernel_rfl
theorem okq76 : ∀ k, InstOk (call cf k) (Iq76 k)
 | 0 => fun x y e => absurd (show (none : Option _) = some y from e) (by simp)
 | k + 1 => inst_ok (c := cf) (k := k) (f := 40) (fn := Tryz.f40) (body := bd Tryz.f40) (sh := shq76) (os := rsq76) rfl Tryz.func40 rfl ⟨rfl, Nat.le_of_ble_eq_true rfl⟩ (COt_ok (alq76 k)) (anq76 k) (fun x => Fshuntref20_Outside (k + 1) x) (stq76 k)

/-! shunt/big.add -/
def Lbig_add_0s (k : Nat) (rec : List Int → List Int → Nat → Int → Int → Int → List Int → Option (List Int × Nat × Int × List Int)) (a : List Int) (b : List Int) (out1 : Nat) (carry : Int) (x : Int) (x1 : Int) (outs : List Int) : Option (List Int × Nat × Int × List Int) :=
 if ((decide (x1 < x)) = true) then
 if ((0 : Int) ≤ x1) then
 Option.bind (a)[(Int.toNat x1)]? fun x5 =>
 if ((decide (x1 < (((List.length b) : Nat) : Int))) = true) then
 if ((0 : Int) ≤ x1) then
 Option.bind (b)[(Int.toNat x1)]? fun x6 =>
 if (((0 : Int) ≤ x1) ∧ (x1 < ((out1 : Nat) : Int))) then
 Option.bind (outs)[(0 + (Int.toNat x1))]? fun x7 =>
 rec a b out1 (Int.fdiv (IntKind.wrap .u64 ((IntKind.wrap .u64 ((IntKind.wrap .u64 x5) + carry)) + (IntKind.wrap .u64 x6))) (4294967296 : Int)) x (IntKind.wrap .i64 (x1 + (1 : Int))) (List.set outs (0 + (Int.toNat x1)) (IntKind.wrap .u32 (IntKind.wrap .u64 ((IntKind.wrap .u64 ((IntKind.wrap .u64 x5) + carry)) + (IntKind.wrap .u64 x6)))))
 else
 none
 else
 none
 else
 if (((0 : Int) ≤ x1) ∧ (x1 < ((out1 : Nat) : Int))) then
 Option.bind (outs)[(0 + (Int.toNat x1))]? fun x6 =>
 rec a b out1 (Int.fdiv (IntKind.wrap .u64 ((IntKind.wrap .u64 x5) + carry)) (4294967296 : Int)) x (IntKind.wrap .i64 (x1 + (1 : Int))) (List.set outs (0 + (Int.toNat x1)) (IntKind.wrap .u32 (IntKind.wrap .u64 ((IntKind.wrap .u64 x5) + carry))))
 else
 none
 else
 none
 else
 (some (a, out1, carry, outs))
def Lbig_add_0 (k n : Nat) : List Int → List Int → Nat → Int → Int → Int → List Int → Option (List Int × Nat × Int × List Int) := Nat.rec (fun _ _ _ _ _ _ _ => none) (fun _ r => Lbig_add_0s k r) n
def bbig_add (k : Nat) (a : List Int) (b : List Int) : Option (List Int) :=
 if ((decide ((((List.length a) : Nat) : Int) < (((List.length b) : Nat) : Int))) = true) then
 if (((0 : Int) ≤ (IntKind.wrap .i64 ((((List.length b) : Nat) : Int) + (1 : Int)))) ∧ (((IntKind.wrap .i64 ((((List.length b) : Nat) : Int) + (1 : Int))) ≤ (IntKind.wrap .i64 ((((List.length b) : Nat) : Int) + (1 : Int)))) ∧ (((IntKind.wrap .i64 ((((List.length b) : Nat) : Int) + (1 : Int))) * (4 : Int)) ≤ (140737488355328 : Int)))) then
 Option.bind (Lbig_add_0 k k b a (Int.toNat (IntKind.wrap .i64 ((((List.length b) : Nat) : Int) + (1 : Int)))) (0 : Int) (((List.length b) : Nat) : Int) (0 : Int) (List.replicate (Int.toNat (IntKind.wrap .i64 ((((List.length b) : Nat) : Int) + (1 : Int)))) (0 : Int))) fun r5 =>
 if (((0 : Int) ≤ (((List.length r5.1) : Nat) : Int)) ∧ ((((List.length r5.1) : Nat) : Int) < ((r5.2.1 : Nat) : Int))) then
 Option.bind (r5.2.2.2)[(0 + (Int.toNat (((List.length r5.1) : Nat) : Int)))]? fun x5 =>
 if ((0 + r5.2.1) ≤ (List.length (List.set r5.2.2.2 (0 + (Int.toNat (((List.length r5.1) : Nat) : Int))) (IntKind.wrap .u32 r5.2.2.1)))) then
 (some (List.take r5.2.1 (List.set r5.2.2.2 (0 + (Int.toNat (((List.length r5.1) : Nat) : Int))) (IntKind.wrap .u32 r5.2.2.1))))
 else
 none
 else
 none
 else
 none
 else
 if (((0 : Int) ≤ (IntKind.wrap .i64 ((((List.length a) : Nat) : Int) + (1 : Int)))) ∧ (((IntKind.wrap .i64 ((((List.length a) : Nat) : Int) + (1 : Int))) ≤ (IntKind.wrap .i64 ((((List.length a) : Nat) : Int) + (1 : Int)))) ∧ (((IntKind.wrap .i64 ((((List.length a) : Nat) : Int) + (1 : Int))) * (4 : Int)) ≤ (140737488355328 : Int)))) then
 Option.bind (Lbig_add_0 k k a b (Int.toNat (IntKind.wrap .i64 ((((List.length a) : Nat) : Int) + (1 : Int)))) (0 : Int) (((List.length a) : Nat) : Int) (0 : Int) (List.replicate (Int.toNat (IntKind.wrap .i64 ((((List.length a) : Nat) : Int) + (1 : Int)))) (0 : Int))) fun r5 =>
 if (((0 : Int) ≤ (((List.length r5.1) : Nat) : Int)) ∧ ((((List.length r5.1) : Nat) : Int) < ((r5.2.1 : Nat) : Int))) then
 Option.bind (r5.2.2.2)[(0 + (Int.toNat (((List.length r5.1) : Nat) : Int)))]? fun x5 =>
 if ((0 + r5.2.1) ≤ (List.length (List.set r5.2.2.2 (0 + (Int.toNat (((List.length r5.1) : Nat) : Int))) (IntKind.wrap .u32 r5.2.2.1)))) then
 (some (List.take r5.2.1 (List.set r5.2.2.2 (0 + (Int.toNat (((List.length r5.1) : Nat) : Int))) (IntKind.wrap .u32 r5.2.2.1))))
 else
 none
 else
 none
 else
 none
def Fbig_add : Nat → List Int → List Int → Option (List Int)
 | 0, _, _ => none
 | k + 1, a, b => bbig_add k a b
def shq28 : FS := { vs := [.a (.lf (.sl (.int .u32))), .a (.lf (.sl (.int .u32)))], bs := [] }
def rsq28 : List FS := [{ vs := [.a (.lf (.sl (.int .u32)))], bs := [] }]
def Iq28 (k : Nat) : Inst := ⟨199, shq28, rsq28, fun x => Fbig_add k x.1 x.2⟩
theorem alq28 (k : Nat) : AllI (call cf k) [] := True.intro
def hsq115 : List SS := [{ fr := [(0, .a (.lf (.sl (.int .u32)))), (1, .a (.lf (.sl (.int .u32)))), (5, .a (.smz 0)), (6, .a (.lf (.int .u64))), (21, .a (.lf (.int .i64))), (22, .a (.lf (.int .i64)))], mem := [(0, some (.arr (.int .u32) 1 106 false))], nx := 1 }]
def osq115 : List OS := [⟨some 0, { fr := [(0, .a (.lf (.sl (.int .u32)))), (5, .a (.smz 0)), (6, .a (.lf (.int .u64)))], mem := [(0, some (.arr (.int .u32) 1 106 false))], nx := 1 }⟩]
def LIq115 (k : Nat) : LInst := ⟨0, hsq115, osq115, fun x => Lbig_add_0 k k x.1 x.2.1 x.2.2.1 x.2.2.2.1 x.2.2.2.2.1 x.2.2.2.2.2.1 x.2.2.2.2.2.2⟩
theorem anq115 (k : Nat) : LAll (LOk (R := DS OS.D osq115) (fun b _ σ K => LOt Ty (kps 199) 0 b σ K []) cf (call cf k) (kps 199) Tryz.f199.ntmps k 0) 0 (lb Tryz.f199 0) :=
 qA qT (qA (qA qT qT) (qA (qA qT (qA qT (qA (qA qT (qA qT qT)) (qA qT qT)))) qT))
theorem stq115 (k n : Nat) (x : DS SS.D hsq115) : Lbig_add_0 k (n + 1) x.1 x.2.1 x.2.2.1 x.2.2.2.1 x.2.2.2.2.1 x.2.2.2.2.2.1 x.2.2.2.2.2.2 = encSK SS.enc (fun σ => run2 cf (fun f a b K => COt f a b K []) (fun b _ σ K => LOt Ty (kps 199) 0 b σ K []) Tryz.f199.ntmps 0 (lb Tryz.f199 0) σ (nextK Ty (kps 199 0) 0 hsq115 osq115 fun x => Lbig_add_0 k n x.1 x.2.1 x.2.2.1 x.2.2.2.1 x.2.2.2.2.1 x.2.2.2.2.2.1 x.2.2.2.2.2.2)) hsq115 x := by kernel_rfl
theorem loq115 (k : Nat) : LIOk cf (call cf k) (kps 199) Tryz.f199.ntmps k 0 0 (lb Tryz.f199 0) (LIq115 k) :=
 loop_ok (c := cf) (callF := call cf k) (kp := kps 199) (nt := Tryz.f199.ntmps) (k := k) (p := 0) (b := 0) (x0 := lb Tryz.f199 0) (hs := hsq115) (os := osq115) (COt_ok (alq28 k)) (anq115 k) (fun n x => Lbig_add_0 k n x.1 x.2.1 x.2.2.1 x.2.2.2.1 x.2.2.2.2.1 x.2.2.2.2.2.1 x.2.2.2.2.2.2) (fun _ => rfl) (stq115 k)
theorem anq28 (k : Nat) : LAll (LOk (R := DS FS.D rsq28) (fun b _ σ K => LOt Ty (kps 199) 0 b σ K [LIq115 k]) cf (call cf k) (cf.keep 199) Tryz.f199.ntmps k shq28.bs.length) 0 (bd Tryz.f199) :=
 qA qT (qA (qA qT (qA qT qT)) (qA qT (qA qT (qA (qA qT (LOt_ok (c := cf) (callF := call cf k) (kp := kps 199) (nt := Tryz.f199.ntmps) (k := k) (p := 0) (b := 0) (x0 := lb Tryz.f199 0) (l := [LIq115 k]) (qA (fun _ => loq115 k) qT))) (qA qT (qA qT qT))))))
theorem stq28 (k : Nat) (x : shq28.D) : Fbig_add (k + 1) x.1 x.2 = body2 cf (fun f a b K => COt f a b K []) (fun b _ σ K => LOt Ty (kps 199) 0 b σ K [LIq115 k]) 199 Tryz.f199.ntmps Tryz.f199.results.toList (bd Tryz.f199) (shq28.enc x).1 (shq28.enc x).2 (putS FS.dec rsq28) := by kernel_rfl
theorem okq28 : ∀ k, InstOk (call cf k) (Iq28 k)
 | 0 => fun x y e => absurd (show (none : Option _) = some y from e) (by simp)
 | k + 1 => inst_ok (c := cf) (k := k) (f := 199) (fn := Tryz.f199) (body := bd Tryz.f199) (sh := shq28) (os := rsq28) rfl Tryz.func199 rfl ⟨rfl, Nat.le_of_ble_eq_true rfl⟩ (COt_ok (alq28 k)) (anq28 k) (fun x => Fbig_add (k + 1) x.1 x.2) (stq28 k)


end
end Go.Proofs.YtlnailgfialgnaaGreatDoor.Am
