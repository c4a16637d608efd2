/- Printed functions: each says what the typed machine says of the program -/
import Derived.Test.YtlnailgfialgnaaGreatDoorMP1
import Derived.KernelRfl

set_option linter.unusedVariables false
set_option maxRecDepth 100000
namespace Go.Proofs.YtlnailgfialgnaaGreatDoor.Am
open Go
noncomputable section

def qm9 (k : Nat) (rec : List (Int × Int) → List (Int × Int) → Int → List (Int × Int) → Int → Int → ByteArray → Int → List (Int × Int) → List (Int × Int) → Option ((Bool × ByteArray × Int × List (Int × Int) × List (Int × Int) × Int × Int) ⊕ (List (Int × Int) × List (Int × Int) × Int × ByteArray × Int × List (Int × Int) × List (Int × Int)))) (x0 : List (Int × Int)) (x1 : List (Int × Int)) (x : Int) (x2 : List (Int × Int)) (x3 : Int) (x4 : Int) (m0 : ByteArray) (m1 : Int) (m2 : List (Int × Int)) (m3 : List (Int × Int)) : Option ((Bool × ByteArray × Int × List (Int × Int) × List (Int × Int) × Int × Int) ⊕ (List (Int × Int) × List (Int × Int) × Int × ByteArray × Int × List (Int × Int) × List (Int × Int))) :=
 if ((decide (x4 < x3)) = true) then
 if ((0 : Int) ≤ x4) then
 Option.bind (x2)[(Int.toNat x4)]? fun x5 =>
 Option.bind (qaH k x5.1 x5.2) fun r8 =>
 if ((!r8) = true) then
 (some (Sum.inl (false, m0, m1, m2, m3, x5.1, x5.2)))
 else
 rec x0 x1 x x2 x3 (IntKind.wrap .i64 (x4 + (1 : Int))) m0 m1 m2 m3
 else
 none
 else
 (some (Sum.inr (x0, x1, x, m0, m1, m2, m3)))
def qcY (k n : Nat) : List (Int × Int) → List (Int × Int) → Int → List (Int × Int) → Int → Int → ByteArray → Int → List (Int × Int) → List (Int × Int) → Option ((Bool × ByteArray × Int × List (Int × Int) × List (Int × Int) × Int × Int) ⊕ (List (Int × Int) × List (Int × Int) × Int × ByteArray × Int × List (Int × Int) × List (Int × Int))) := Nat.rec (fun _ _ _ _ _ _ _ _ _ _ => none) (fun _ r => qm9 k r) n
def qna (k : Nat) (rec : List (Int × Int) → List (Int × Int) → Int → ByteArray → Int → List (Int × Int) → List (Int × Int) → Option ((Bool × ByteArray × Int × List (Int × Int) × List (Int × Int) × Int × Int) ⊕ (ByteArray × Int × List (Int × Int) × List (Int × Int)))) (x0 : List (Int × Int)) (x1 : List (Int × Int)) (x : Int) (m0 : ByteArray) (m1 : Int) (m2 : List (Int × Int)) (m3 : List (Int × Int)) : Option ((Bool × ByteArray × Int × List (Int × Int) × List (Int × Int) × Int × Int) ⊕ (ByteArray × Int × List (Int × Int) × List (Int × Int))) :=
 if ((decide (x < (2 : Int))) = true) then
 if (x = (0 : Int)) then
 Option.bind (qcY k k x0 x1 x x0 (((List.length x0) : Nat) : Int) (0 : Int) m0 m1 m2 m3) fun r8 =>
 qc r8
 (fun r8 =>
 (some (Sum.inl (r8.1, r8.2.1, r8.2.2.1, r8.2.2.2.1, r8.2.2.2.2.1, r8.2.2.2.2.2.1, r8.2.2.2.2.2.2))))
 (fun r8 =>
 rec r8.1 r8.2.1 (IntKind.wrap .i64 (r8.2.2.1 + (1 : Int))) r8.2.2.2.1 r8.2.2.2.2.1 r8.2.2.2.2.2.1 r8.2.2.2.2.2.2)
 else
 if ((x - (1 : Int)) = (0 : Int)) then
 Option.bind (qcY k k x0 x1 x x1 (((List.length x1) : Nat) : Int) (0 : Int) m0 m1 m2 m3) fun r8 =>
 qc r8
 (fun r8 =>
 (some (Sum.inl (r8.1, r8.2.1, r8.2.2.1, r8.2.2.2.1, r8.2.2.2.2.1, r8.2.2.2.2.2.1, r8.2.2.2.2.2.2))))
 (fun r8 =>
 rec r8.1 r8.2.1 (IntKind.wrap .i64 (r8.2.2.1 + (1 : Int))) r8.2.2.2.1 r8.2.2.2.2.1 r8.2.2.2.2.2.1 r8.2.2.2.2.2.2)
 else
 none
 else
 (some (Sum.inr (m0, m1, m2, m3)))
def qdy (k n : Nat) : List (Int × Int) → List (Int × Int) → Int → ByteArray → Int → List (Int × Int) → List (Int × Int) → Option ((Bool × ByteArray × Int × List (Int × Int) × List (Int × Int) × Int × Int) ⊕ (ByteArray × Int × List (Int × Int) × List (Int × Int))) := Nat.rec (fun _ _ _ _ _ _ _ => none) (fun _ r => qna k r) n
def qnb (k : Nat) (rec : Int → ByteArray → Int → List (Int × Int) → List (Int × Int) → Option ((Bool × ByteArray × Int × List (Int × Int) × List (Int × Int)) ⊕ (ByteArray × Int × List (Int × Int) × List (Int × Int)))) (i : Int) (m0 : ByteArray) (m1 : Int) (m2 : List (Int × Int)) (m3 : List (Int × Int)) : Option ((Bool × ByteArray × Int × List (Int × Int) × List (Int × Int)) ⊕ (ByteArray × Int × List (Int × Int) × List (Int × Int))) :=
 if ((decide (i < (((List.length m3) : Nat) : Int))) = true) then
 if ((0 : Int) ≤ (IntKind.wrap .i64 (i - (1 : Int)))) then
 Option.bind (m3)[(Int.toNat (IntKind.wrap .i64 (i - (1 : Int))))]? fun x4 =>
 if ((0 : Int) ≤ i) then
 Option.bind (m3)[(Int.toNat i)]? fun x5 =>
 Option.bind (qhZ k x4.1 x4.2 x5.1 x5.2) fun r9 =>
 if ((decide (r9.1 ≥ (0 : Int))) = true) then
 (some (Sum.inl (false, m0, m1, m2, m3)))
 else
 rec (IntKind.wrap .i64 (i + (1 : Int))) m0 m1 m2 m3
 else
 none
 else
 none
 else
 (some (Sum.inr (m0, m1, m2, m3)))
def qdz (k n : Nat) : Int → ByteArray → Int → List (Int × Int) → List (Int × Int) → Option ((Bool × ByteArray × Int × List (Int × Int) × List (Int × Int)) ⊕ (ByteArray × Int × List (Int × Int) × List (Int × Int))) := Nat.rec (fun _ _ _ _ _ => none) (fun _ r => qnb k r) n
def qsV (k : Nat) (m0 : ByteArray) (m1 : Int) (m2 : List (Int × Int)) (m3 : List (Int × Int)) : Option (Bool) :=
 Option.bind (qeR k m0) fun r7 =>
 if ((!r7) = true) then
 (some false)
 else
 Option.bind (qdy k k m2 m3 (0 : Int) m0 m1 m2 m3) fun r8 =>
 qc r8
 (fun r8 =>
 (some r8.1))
 (fun r8 =>
 if ((r8.2.1 == (115 : Int)) = true) then
 if (((((List.length r8.2.2.1) : Nat) : Int) == (2 : Int)) = true) then
 (some ((((List.length r8.2.2.2) : Nat) : Int) == (1 : Int)))
 else
 (some false)
 else
 if ((r8.2.1 == (100 : Int)) = true) then
 if ((decide ((((List.length r8.2.2.1) : Nat) : Int) < (1 : Int))) = false) then
 if ((decide ((((List.length r8.2.2.1) : Nat) : Int) > (4 : Int))) = false) then
 if (((((List.length r8.2.2.2) : Nat) : Int) != (IntKind.wrap .i64 ((((List.length r8.2.2.1) : Nat) : Int) - (1 : Int)))) = true) then
 (some false)
 else
 Option.bind (qdz k k (1 : Int) r8.1 r8.2.1 r8.2.2.1 r8.2.2.2) fun r9 =>
 qc r9
 (fun r9 =>
 (some r9.1))
 (fun r9 =>
 (some true))
 else
 (some false)
 else
 (some false)
 else
 (some false))
def qdA : Nat → ByteArray → Int → List (Int × Int) → List (Int × Int) → Option (Bool)
 | 0, _, _, _, _ => none
 | k + 1, m0, m1, m2, m3 => qsV k m0 m1 m2 m3
def qkp : FS := { vs := [.g [.lf .str, .lf (.int .u8), .lf (.sl (.pr (.int .i64) (.int .i64))), .lf (.sl (.pr (.int .i64) (.int .i64)))]], bs := [] }
def qqO : List FS := [{ vs := [.a (.lf .bool)], bs := [] }]
def qpk (k : Nat) : Inst := ⟨192, qkp, qqO, fun x => qdA k x.1 x.2.1 x.2.2.1 x.2.2.2⟩
theorem qqP (k : Nat) : qp (call cf k) [qip k, qdv k, qpj k] := qA (qzc k) (qA (qmr k) (qA (qHs k) qT))
def qiN : List SS := [{ fr := [(1, .a (.ptr 0 0 0)), (18, .g [.lf (.sl (.pr (.int .i64) (.int .i64))), .lf (.sl (.pr (.int .i64) (.int .i64)))]), (19, .a (.lf (.int .i64))), (22, .a (.lf (.sl (.pr (.int .i64) (.int .i64))))), (23, .a (.lf (.int .i64))), (24, .a (.lf (.int .i64)))], mem := [(0, some (.raw [[.lf .str, .lf (.int .u8), .lf (.sl (.pr (.int .i64) (.int .i64))), .lf (.sl (.pr (.int .i64) (.int .i64)))]] 4 46 true false false))], nx := 1 }]
def qnc : List OS := [⟨none, { fr := [(2, .a (.lf .bool))], mem := [(0, some (.raw [[.lf .str, .lf (.int .u8), .lf (.sl (.pr (.int .i64) (.int .i64))), .lf (.sl (.pr (.int .i64) (.int .i64)))]] 4 46 true false false)), (1, some (.raw [[.lf (.int .i64), .lf (.int .i64)]] 2 25 true false false))], nx := 2 }⟩, ⟨some 2, { fr := [(1, .a (.ptr 0 0 0)), (18, .g [.lf (.sl (.pr (.int .i64) (.int .i64))), .lf (.sl (.pr (.int .i64) (.int .i64)))]), (19, .a (.lf (.int .i64)))], mem := [(0, some (.raw [[.lf .str, .lf (.int .u8), .lf (.sl (.pr (.int .i64) (.int .i64))), .lf (.sl (.pr (.int .i64) (.int .i64)))]] 4 46 true false false))], nx := 1 }⟩]
def qeV (k : Nat) : LInst := ⟨2, qiN, qnc, fun x => qcY k k x.1 x.2.1 x.2.2.1 x.2.2.2.1 x.2.2.2.2.1 x.2.2.2.2.2.1 x.2.2.2.2.2.2.1 x.2.2.2.2.2.2.2.1 x.2.2.2.2.2.2.2.2.1 x.2.2.2.2.2.2.2.2.2⟩
theorem qCK (k : Nat) : qg (LOk (R := DS OS.D qnc) (fun b _ σ K => LOt Ty (kps 192) 0 b σ K []) cf (call cf k) (kps 192) Tryz.f192.ntmps k 0) 2 (lb Tryz.f192 1) :=
 qA qT (qA (qA qT qT) (qA (qA qT (qA qT (qA (qA qT qT) qT))) qT))
theorem qCL (k n : Nat) (x : DS SS.D qiN) : qcY k (n + 1) x.1 x.2.1 x.2.2.1 x.2.2.2.1 x.2.2.2.2.1 x.2.2.2.2.2.1 x.2.2.2.2.2.2.1 x.2.2.2.2.2.2.2.1 x.2.2.2.2.2.2.2.2.1 x.2.2.2.2.2.2.2.2.2 = qu SS.enc (fun σ => qx cf (fun f a b K => COt f a b K [qip k, qdv k, qpj k]) (fun b _ σ K => LOt Ty (kps 192) 0 b σ K []) Tryz.f192.ntmps 2 (lb Tryz.f192 1) σ (qw Ty (kps 192 2) 0 qiN qnc fun x => qcY k n x.1 x.2.1 x.2.2.1 x.2.2.2.1 x.2.2.2.2.1 x.2.2.2.2.2.1 x.2.2.2.2.2.2.1 x.2.2.2.2.2.2.2.1 x.2.2.2.2.2.2.2.2.1 x.2.2.2.2.2.2.2.2.2)) qiN x := by kernel_rfl
theorem qCM (k : Nat) : qL cf (call cf k) (kps 192) Tryz.f192.ntmps k 0 2 (lb Tryz.f192 1) (qeV k) :=
 qq (c := cf) (callF := call cf k) (kp := kps 192) (nt := Tryz.f192.ntmps) (k := k) (p := 0) (b := 2) (x0 := lb Tryz.f192 1) (hs := qiN) (os := qnc) (qd (qqP k)) (qCK k) (fun n x => qcY k n x.1 x.2.1 x.2.2.1 x.2.2.2.1 x.2.2.2.2.1 x.2.2.2.2.2.1 x.2.2.2.2.2.2.1 x.2.2.2.2.2.2.2.1 x.2.2.2.2.2.2.2.2.1 x.2.2.2.2.2.2.2.2.2) (fun _ => rfl) (qCL k)
def qiO : List SS := [{ fr := [(1, .a (.ptr 0 0 0)), (18, .g [.lf (.sl (.pr (.int .i64) (.int .i64))), .lf (.sl (.pr (.int .i64) (.int .i64)))]), (19, .a (.lf (.int .i64)))], mem := [(0, some (.raw [[.lf .str, .lf (.int .u8), .lf (.sl (.pr (.int .i64) (.int .i64))), .lf (.sl (.pr (.int .i64) (.int .i64)))]] 4 46 true false false))], nx := 1 }]
def qnd : List OS := [⟨none, { fr := [(2, .a (.lf .bool))], mem := [(0, some (.raw [[.lf .str, .lf (.int .u8), .lf (.sl (.pr (.int .i64) (.int .i64))), .lf (.sl (.pr (.int .i64) (.int .i64)))]] 4 46 true false false)), (1, some (.raw [[.lf (.int .i64), .lf (.int .i64)]] 2 25 true false false))], nx := 2 }⟩, ⟨some 0, { fr := [(1, .a (.ptr 0 0 0))], mem := [(0, some (.raw [[.lf .str, .lf (.int .u8), .lf (.sl (.pr (.int .i64) (.int .i64))), .lf (.sl (.pr (.int .i64) (.int .i64)))]] 4 46 true false false))], nx := 1 }⟩]
def qgJ (k : Nat) : LInst := ⟨0, qiO, qnd, fun x => qdy k k x.1 x.2.1 x.2.2.1 x.2.2.2.1 x.2.2.2.2.1 x.2.2.2.2.2.1 x.2.2.2.2.2.2⟩
theorem qCN (k : Nat) : qg (LOk (R := DS OS.D qnd) (fun b _ σ K => LOt Ty (kps 192) 0 b σ K [qeV k]) cf (call cf k) (kps 192) Tryz.f192.ntmps k 0) 0 (lb Tryz.f192 0) :=
 qA qT (qA (qA qT qT) (qA (qA qT (qA qT (qt (c := cf) (callF := call cf k) (kp := kps 192) (nt := Tryz.f192.ntmps) (k := k) (p := 0) (b := 2) (x0 := lb Tryz.f192 1) (l := [qeV k]) (qA (fun _ => qCM k) qT)))) qT))
theorem qCO (k n : Nat) (x : DS SS.D qiO) : qdy k (n + 1) x.1 x.2.1 x.2.2.1 x.2.2.2.1 x.2.2.2.2.1 x.2.2.2.2.2.1 x.2.2.2.2.2.2 = qu SS.enc (fun σ => qx cf (fun f a b K => COt f a b K [qip k, qdv k, qpj k]) (fun b _ σ K => LOt Ty (kps 192) 0 b σ K [qeV k]) Tryz.f192.ntmps 0 (lb Tryz.f192 0) σ (qw Ty (kps 192 0) 0 qiO qnd fun x => qdy k n x.1 x.2.1 x.2.2.1 x.2.2.2.1 x.2.2.2.2.1 x.2.2.2.2.2.1 x.2.2.2.2.2.2)) qiO x := by kernel_rfl
theorem qCP (k : Nat) : qL cf (call cf k) (kps 192) Tryz.f192.ntmps k 0 0 (lb Tryz.f192 0) (qgJ k) :=
 qq (c := cf) (callF := call cf k) (kp := kps 192) (nt := Tryz.f192.ntmps) (k := k) (p := 0) (b := 0) (x0 := lb Tryz.f192 0) (hs := qiO) (os := qnd) (qd (qqP k)) (qCN k) (fun n x => qdy k n x.1 x.2.1 x.2.2.1 x.2.2.2.1 x.2.2.2.2.1 x.2.2.2.2.2.1 x.2.2.2.2.2.2) (fun _ => rfl) (qCO k)
def qiP : List SS := [{ fr := [(1, .a (.ptr 0 0 0)), (7, .a (.lf (.int .i64)))], mem := [(0, some (.raw [[.lf .str, .lf (.int .u8), .lf (.sl (.pr (.int .i64) (.int .i64))), .lf (.sl (.pr (.int .i64) (.int .i64)))]] 4 46 true false false))], nx := 1 }]
def qne : List OS := [⟨none, { fr := [(2, .a (.lf .bool))], mem := [(0, some (.raw [[.lf .str, .lf (.int .u8), .lf (.sl (.pr (.int .i64) (.int .i64))), .lf (.sl (.pr (.int .i64) (.int .i64)))]] 4 46 true false false))], nx := 1 }⟩, ⟨some 5, { fr := [], mem := [(0, some (.raw [[.lf .str, .lf (.int .u8), .lf (.sl (.pr (.int .i64) (.int .i64))), .lf (.sl (.pr (.int .i64) (.int .i64)))]] 4 46 true false false))], nx := 1 }⟩]
def qiQ (k : Nat) : LInst := ⟨5, qiP, qne, fun x => qdz k k x.1 x.2.1 x.2.2.1 x.2.2.2.1 x.2.2.2.2⟩
theorem qCQ (k : Nat) : qg (LOk (R := DS OS.D qne) (fun b _ σ K => LOt Ty (kps 192) 0 b σ K [qeV k, qgJ k]) cf (call cf k) (kps 192) Tryz.f192.ntmps k 0) 5 (lb Tryz.f192 2) :=
 qA (qA qT (qA qT qT)) (qA (qA qT (qA qT (qA (qA qT qT) qT))) qT)
theorem qCR (k n : Nat) (x : DS SS.D qiP) : qdz k (n + 1) x.1 x.2.1 x.2.2.1 x.2.2.2.1 x.2.2.2.2 = qu SS.enc (fun σ => qx cf (fun f a b K => COt f a b K [qip k, qdv k, qpj k]) (fun b _ σ K => LOt Ty (kps 192) 0 b σ K [qeV k, qgJ k]) Tryz.f192.ntmps 5 (lb Tryz.f192 2) σ (qw Ty (kps 192 5) 0 qiP qne fun x => qdz k n x.1 x.2.1 x.2.2.1 x.2.2.2.1 x.2.2.2.2)) qiP x := by kernel_rfl
theorem qCS (k : Nat) : qL cf (call cf k) (kps 192) Tryz.f192.ntmps k 0 5 (lb Tryz.f192 2) (qiQ k) :=
 qq (c := cf) (callF := call cf k) (kp := kps 192) (nt := Tryz.f192.ntmps) (k := k) (p := 0) (b := 5) (x0 := lb Tryz.f192 2) (hs := qiP) (os := qne) (qd (qqP k)) (qCQ k) (fun n x => qdz k n x.1 x.2.1 x.2.2.1 x.2.2.2.1 x.2.2.2.2) (fun _ => rfl) (qCR k)
theorem qHt (k : Nat) : qg (LOk (R := DS FS.D qqO) (fun b _ σ K => LOt Ty (kps 192) 0 b σ K [qeV k, qgJ k, qiQ k]) cf (call cf k) (cf.keep 192) Tryz.f192.ntmps k qkp.bs.length) 0 (bd Tryz.f192) :=
 qA qT (qA (qA qT (qA (qA qT qT) qT)) (qA (qA qT (qt (c := cf) (callF := call cf k) (kp := kps 192) (nt := Tryz.f192.ntmps) (k := k) (p := 0) (b := 0) (x0 := lb Tryz.f192 0) (l := [qeV k, qgJ k, qiQ k]) (qA (fun h => absurd (show (2 : Nat) = 0 from h) (by decide)) (qA (fun _ => qCP k) (qA (fun h => absurd (show (5 : Nat) = 0 from h) (by decide)) qT))))) (qA (qA qT (qA qT (qA (qA qT qT) (qA qT (qA (qA (qA qT (qA (qA qT qT) qT)) (qA (qA qT (qt (c := cf) (callF := call cf k) (kp := kps 192) (nt := Tryz.f192.ntmps) (k := k) (p := 0) (b := 5) (x0 := lb Tryz.f192 2) (l := [qeV k, qgJ k, qiQ k]) (qA (fun h => absurd (show (2 : Nat) = 5 from h) (by decide)) (qA (fun h => absurd (show (0 : Nat) = 5 from h) (by decide)) (qA (fun _ => qCS k) qT))))) (qA qT qT))) qT))))) (qA qT qT))))
theorem qHu (k : Nat) (x : qkp.D) : qdA (k + 1) x.1 x.2.1 x.2.2.1 x.2.2.2 = qi cf (fun f a b K => COt f a b K [qip k, qdv k, qpj k]) (fun b _ σ K => LOt Ty (kps 192) 0 b σ K [qeV k, qgJ k, qiQ k]) 192 Tryz.f192.ntmps Tryz.f192.results.toList (bd Tryz.f192) (qkp.enc x).1 (qkp.enc x).2 (qk FS.dec qqO) := by kernel_rfl
theorem qzn : ∀ k, qh (call cf k) (qpk k)
 | 0 => fun x y e => absurd (show (none : Option _) = some y from e) (by simp)
 | k + 1 => qe (c := cf) (k := k) (f := 192) (fn := Tryz.f192) (body := bd Tryz.f192) (sh := qkp) (os := qqO) rfl Tryz.func192 rfl ⟨rfl, Nat.le_of_ble_eq_true rfl⟩ (qd (qqP k)) (qHt k) (fun x => qdA (k + 1) x.1 x.2.1 x.2.2.1 x.2.2.2) (qHu k)

def qpl (k : Nat) (rec : List Int → Int → Int → List ByteArray → List (Int × ByteArray × List Int × Int × (Int × Int) × (Int × List (Int × Int) × List Int) × ByteArray × Int × List (Int × Int) × List (Int × Int)) → Int → Int → Int → Int → ByteArray → List Int → Int → Int → Int → Int → List (Int × Int) → List Int → ByteArray → Int → List (Int × Int) → List (Int × Int) → Option ((Bool × List ByteArray × List (Int × ByteArray × List Int × Int × (Int × Int) × (Int × List (Int × Int) × List Int) × ByteArray × Int × List (Int × Int) × List (Int × Int)) × Int × Int × Int × Int × ByteArray × List Int × Int × Int × Int × Int × List (Int × Int) × List Int × ByteArray × Int × List (Int × Int) × List (Int × Int)) ⊕ (List ByteArray × List (Int × ByteArray × List Int × Int × (Int × Int) × (Int × List (Int × Int) × List Int) × ByteArray × Int × List (Int × Int) × List (Int × Int)) × Int × Int × Int × Int × ByteArray × List Int × Int × Int × Int × Int × List (Int × Int) × List Int × ByteArray × Int × List (Int × Int) × List (Int × Int)))) (x : List Int) (x1 : Int) (x2 : Int) (f0 : List ByteArray) (f1 : List (Int × ByteArray × List Int × Int × (Int × Int) × (Int × List (Int × Int) × List Int) × ByteArray × Int × List (Int × Int) × List (Int × Int))) (f2 : Int) (f3 : Int) (f4 : Int) (d0 : Int) (d1 : ByteArray) (d2 : List Int) (d3 : Int) (d4 : Int) (d5 : Int) (d6 : Int) (d7 : List (Int × Int)) (d8 : List Int) (d9 : ByteArray) (d10 : Int) (d11 : List (Int × Int)) (d12 : List (Int × Int)) : Option ((Bool × List ByteArray × List (Int × ByteArray × List Int × Int × (Int × Int) × (Int × List (Int × Int) × List Int) × ByteArray × Int × List (Int × Int) × List (Int × Int)) × Int × Int × Int × Int × ByteArray × List Int × Int × Int × Int × Int × List (Int × Int) × List Int × ByteArray × Int × List (Int × Int) × List (Int × Int)) ⊕ (List ByteArray × List (Int × ByteArray × List Int × Int × (Int × Int) × (Int × List (Int × Int) × List Int) × ByteArray × Int × List (Int × Int) × List (Int × Int)) × Int × Int × Int × Int × ByteArray × List Int × Int × Int × Int × Int × List (Int × Int) × List Int × ByteArray × Int × List (Int × Int) × List (Int × Int))) :=
 if ((decide (x2 < x1)) = true) then
 if ((0 : Int) ≤ x2) then
 Option.bind (x)[(Int.toNat x2)]? fun x4 =>
 if ((decide (x4 < (0 : Int))) = false) then
 if ((decide (x4 ≥ (((List.length f0) : Nat) : Int))) = true) then
 (some (Sum.inl (false, f0, f1, f2, f3, f4, d0, d1, d2, d3, d4, d5, d6, d7, d8, d9, d10, d11, d12)))
 else
 rec x x1 (IntKind.wrap .i64 (x2 + (1 : Int))) f0 f1 f2 f3 f4 d0 d1 d2 d3 d4 d5 d6 d7 d8 d9 d10 d11 d12
 else
 (some (Sum.inl (false, f0, f1, f2, f3, f4, d0, d1, d2, d3, d4, d5, d6, d7, d8, d9, d10, d11, d12)))
 else
 none
 else
 (some (Sum.inr (f0, f1, f2, f3, f4, d0, d1, d2, d3, d4, d5, d6, d7, d8, d9, d10, d11, d12)))
def qdS (k n : Nat) : List Int → Int → Int → List ByteArray → List (Int × ByteArray × List Int × Int × (Int × Int) × (Int × List (Int × Int) × List Int) × ByteArray × Int × List (Int × Int) × List (Int × Int)) → Int → Int → Int → Int → ByteArray → List Int → Int → Int → Int → Int → List (Int × Int) → List Int → ByteArray → Int → List (Int × Int) → List (Int × Int) → Option ((Bool × List ByteArray × List (Int × ByteArray × List Int × Int × (Int × Int) × (Int × List (Int × Int) × List Int) × ByteArray × Int × List (Int × Int) × List (Int × Int)) × Int × Int × Int × Int × ByteArray × List Int × Int × Int × Int × Int × List (Int × Int) × List Int × ByteArray × Int × List (Int × Int) × List (Int × Int)) ⊕ (List ByteArray × List (Int × ByteArray × List Int × Int × (Int × Int) × (Int × List (Int × Int) × List Int) × ByteArray × Int × List (Int × Int) × List (Int × Int)) × Int × Int × Int × Int × ByteArray × List Int × Int × Int × Int × Int × List (Int × Int) × List Int × ByteArray × Int × List (Int × Int) × List (Int × Int))) := Nat.rec (fun _ _ _ _ _ _ _ _ _ _ _ _ _ _ _ _ _ _ _ _ _ => none) (fun _ r => qpl k r) n
def qtK (k : Nat) (f0 : List ByteArray) (f1 : List (Int × ByteArray × List Int × Int × (Int × Int) × (Int × List (Int × Int) × List Int) × ByteArray × Int × List (Int × Int) × List (Int × Int))) (f2 : Int) (f3 : Int) (f4 : Int) (d0 : Int) (d1 : ByteArray) (d2 : List Int) (d3 : Int) (d4 : Int) (d5 : Int) (d6 : Int) (d7 : List (Int × Int)) (d8 : List Int) (d9 : ByteArray) (d10 : Int) (d11 : List (Int × Int)) (d12 : List (Int × Int)) : Option (Bool) :=
 if (((qsn (.int .u8) (.int .i64) (qce (.int .u8) (.int .i64) (qce (.int .u8) (.int .i64) (qce (.int .u8) (.int .i64) (qce (.int .u8) (.int .i64) (qce (.int .u8) (.int .i64) (qce (.int .u8) (.int .i64) (qce (.int .u8) (.int .i64) (qce (.int .u8) (.int .i64) (qce (.int .u8) (.int .i64) (qce (.int .u8) (.int .i64) (qce (.int .u8) (.int .i64) (qce (.int .u8) (.int .i64) [] (114 : Int) (2 : Int)) (99 : Int) (2 : Int)) (108 : Int) (2 : Int)) (118 : Int) (2 : Int)) (105 : Int) (2 : Int)) (101 : Int) (4 : Int)) (103 : Int) (4 : Int)) (102 : Int) (2 : Int)) (104 : Int) (2 : Int)) (116 : Int) (4 : Int)) (100 : Int) (2 : Int)) (115 : Int) (4 : Int)) d0 (0 : Int)) == (0 : Int)) = false) then
 if (((((List.length d2) : Nat) : Int) != (qsn (.int .u8) (.int .i64) (qce (.int .u8) (.int .i64) (qce (.int .u8) (.int .i64) (qce (.int .u8) (.int .i64) (qce (.int .u8) (.int .i64) (qce (.int .u8) (.int .i64) (qce (.int .u8) (.int .i64) (qce (.int .u8) (.int .i64) (qce (.int .u8) (.int .i64) (qce (.int .u8) (.int .i64) (qce (.int .u8) (.int .i64) (qce (.int .u8) (.int .i64) (qce (.int .u8) (.int .i64) [] (114 : Int) (2 : Int)) (99 : Int) (2 : Int)) (108 : Int) (2 : Int)) (118 : Int) (2 : Int)) (105 : Int) (2 : Int)) (101 : Int) (4 : Int)) (103 : Int) (4 : Int)) (102 : Int) (2 : Int)) (104 : Int) (2 : Int)) (116 : Int) (4 : Int)) (100 : Int) (2 : Int)) (115 : Int) (4 : Int)) d0 (0 : Int))) = false) then
 Option.bind (qfG k d1) fun r4 =>
 if ((!r4) = true) then
 (some false)
 else
 Option.bind (qdS k k d2 (((List.length d2) : Nat) : Int) (0 : Int) f0 f1 f2 f3 f4 d0 d1 d2 d3 d4 d5 d6 d7 d8 d9 d10 d11 d12) fun r5 =>
 qc r5
 (fun r5 =>
 (some r5.1))
 (fun r5 =>
 if ((r5.2.2.2.2.2.1 == (118 : Int)) = true) then
 Option.bind (qeS k r5.2.2.2.2.2.2.2.2.2.2.2.1 r5.2.2.2.2.2.2.2.2.2.2.2.2.1 r5.2.2.2.2.2.2.2.2.2.2.2.2.2.1) fun r6 =>
 if (r6 = true) then
 if ((r5.2.2.2.2.2.2.2.2.2.1 == (0 : Int)) = true) then
 if ((r5.2.2.2.2.2.2.2.2.2.2.1 == (0 : Int)) = true) then
 Option.bind (qY k r5.2.2.2.2.2.2.2.2.2.2.2.2.2.2.1 r5.2.2.2.2.2.2.2.2.2.2.2.2.2.2.2.1 r5.2.2.2.2.2.2.2.2.2.2.2.2.2.2.2.2.1 r5.2.2.2.2.2.2.2.2.2.2.2.2.2.2.2.2.2) fun r7 =>
 if (r7 = true) then
 (some (r5.2.2.2.2.2.2.2.2.1 == (0 : Int)))
 else
 (some false)
 else
 (some false)
 else
 (some false)
 else
 (some false)
 else
 if ((r5.2.2.2.2.2.1 == (105 : Int)) = true) then
 Option.bind (qeS k r5.2.2.2.2.2.2.2.2.2.2.2.1 r5.2.2.2.2.2.2.2.2.2.2.2.2.1 r5.2.2.2.2.2.2.2.2.2.2.2.2.2.1) fun r6 =>
 if (r6 = true) then
 if ((r5.2.2.2.2.2.2.2.2.2.1 == (0 : Int)) = true) then
 if ((r5.2.2.2.2.2.2.2.2.2.2.1 == (0 : Int)) = true) then
 Option.bind (qY k r5.2.2.2.2.2.2.2.2.2.2.2.2.2.2.1 r5.2.2.2.2.2.2.2.2.2.2.2.2.2.2.2.1 r5.2.2.2.2.2.2.2.2.2.2.2.2.2.2.2.2.1 r5.2.2.2.2.2.2.2.2.2.2.2.2.2.2.2.2.2) fun r7 =>
 if (r7 = true) then
 (some (r5.2.2.2.2.2.2.2.2.1 == (0 : Int)))
 else
 (some false)
 else
 (some false)
 else
 (some false)
 else
 (some false)
 else
 if ((r5.2.2.2.2.2.1 == (100 : Int)) = true) then
 Option.bind (qag k r5.2.2.2.2.2.2.2.2.2.2.2.1 r5.2.2.2.2.2.2.2.2.2.2.2.2.1 r5.2.2.2.2.2.2.2.2.2.2.2.2.2.1) fun r6 =>
 if (r6 = true) then
 if ((r5.2.2.2.2.2.2.2.2.2.1 == (0 : Int)) = true) then
 if ((r5.2.2.2.2.2.2.2.2.2.2.1 == (0 : Int)) = true) then
 Option.bind (qdA k r5.2.2.2.2.2.2.2.2.2.2.2.2.2.2.1 r5.2.2.2.2.2.2.2.2.2.2.2.2.2.2.2.1 r5.2.2.2.2.2.2.2.2.2.2.2.2.2.2.2.2.1 r5.2.2.2.2.2.2.2.2.2.2.2.2.2.2.2.2.2) fun r7 =>
 if (r7 = true) then
 if ((r5.2.2.2.2.2.2.2.2.2.2.2.2.2.2.2.1 == r5.2.2.2.2.2.1) = true) then
 (some (r5.2.2.2.2.2.2.2.2.1 == (0 : Int)))
 else
 (some false)
 else
 (some false)
 else
 (some false)
 else
 (some false)
 else
 (some false)
 else
 if ((r5.2.2.2.2.2.1 == (115 : Int)) = true) then
 Option.bind (qag k r5.2.2.2.2.2.2.2.2.2.2.2.1 r5.2.2.2.2.2.2.2.2.2.2.2.2.1 r5.2.2.2.2.2.2.2.2.2.2.2.2.2.1) fun r6 =>
 if (r6 = true) then
 if ((r5.2.2.2.2.2.2.2.2.2.1 == (0 : Int)) = true) then
 if ((r5.2.2.2.2.2.2.2.2.2.2.1 == (0 : Int)) = true) then
 Option.bind (qdA k r5.2.2.2.2.2.2.2.2.2.2.2.2.2.2.1 r5.2.2.2.2.2.2.2.2.2.2.2.2.2.2.2.1 r5.2.2.2.2.2.2.2.2.2.2.2.2.2.2.2.2.1 r5.2.2.2.2.2.2.2.2.2.2.2.2.2.2.2.2.2) fun r7 =>
 if (r7 = true) then
 if ((r5.2.2.2.2.2.2.2.2.2.2.2.2.2.2.2.1 == r5.2.2.2.2.2.1) = true) then
 (some (r5.2.2.2.2.2.2.2.2.1 == (0 : Int)))
 else
 (some false)
 else
 (some false)
 else
 (some false)
 else
 (some false)
 else
 (some false)
 else
 if ((r5.2.2.2.2.2.1 == (102 : Int)) = true) then
 if ((decide (r5.2.2.2.2.2.2.2.2.1 < (0 : Int))) = false) then
 if ((decide (r5.2.2.2.2.2.2.2.2.1 ≥ (((List.length r5.2.1) : Nat) : Int))) = false) then
 if ((0 : Int) ≤ r5.2.2.2.2.2.2.2.2.1) then
 Option.bind (r5.2.1)[(Int.toNat r5.2.2.2.2.2.2.2.2.1)]? fun x4 =>
 if ((x4.1 != (118 : Int)) = true) then
 (some false)
 else
 if ((r5.2.2.2.2.2.1 == (114 : Int)) = false) then
 if ((r5.2.2.2.2.2.1 == (99 : Int)) = false) then
 Option.bind (qaH k r5.2.2.2.2.2.2.2.2.2.1 r5.2.2.2.2.2.2.2.2.2.2.1) fun r6 =>
 if (r6 = true) then
 if ((r5.2.2.2.2.2.2.2.2.2.1 != (0 : Int)) = false) then
 if ((!(r5.2.2.2.2.2.1 == (108 : Int))) = true) then
 Option.bind (qag k r5.2.2.2.2.2.2.2.2.2.2.2.1 r5.2.2.2.2.2.2.2.2.2.2.2.2.1 r5.2.2.2.2.2.2.2.2.2.2.2.2.2.1) fun r7 =>
 if (r7 = true) then
 Option.bind (qY k r5.2.2.2.2.2.2.2.2.2.2.2.2.2.2.1 r5.2.2.2.2.2.2.2.2.2.2.2.2.2.2.2.1 r5.2.2.2.2.2.2.2.2.2.2.2.2.2.2.2.2.1 r5.2.2.2.2.2.2.2.2.2.2.2.2.2.2.2.2.2) fun r8 =>
 (some r8)
 else
 (some false)
 else
 (some false)
 else
 Option.bind (qag k r5.2.2.2.2.2.2.2.2.2.2.2.1 r5.2.2.2.2.2.2.2.2.2.2.2.2.1 r5.2.2.2.2.2.2.2.2.2.2.2.2.2.1) fun r7 =>
 if (r7 = true) then
 Option.bind (qY k r5.2.2.2.2.2.2.2.2.2.2.2.2.2.2.1 r5.2.2.2.2.2.2.2.2.2.2.2.2.2.2.2.1 r5.2.2.2.2.2.2.2.2.2.2.2.2.2.2.2.2.1 r5.2.2.2.2.2.2.2.2.2.2.2.2.2.2.2.2.2) fun r8 =>
 (some r8)
 else
 (some false)
 else
 (some false)
 else
 Option.bind (qaH k r5.2.2.2.2.2.2.2.2.2.1 r5.2.2.2.2.2.2.2.2.2.2.1) fun r6 =>
 if (r6 = true) then
 if ((r5.2.2.2.2.2.2.2.2.2.1 != (0 : Int)) = false) then
 (some false)
 else
 Option.bind (qag k r5.2.2.2.2.2.2.2.2.2.2.2.1 r5.2.2.2.2.2.2.2.2.2.2.2.2.1 r5.2.2.2.2.2.2.2.2.2.2.2.2.2.1) fun r7 =>
 if (r7 = true) then
 Option.bind (qY k r5.2.2.2.2.2.2.2.2.2.2.2.2.2.2.1 r5.2.2.2.2.2.2.2.2.2.2.2.2.2.2.2.1 r5.2.2.2.2.2.2.2.2.2.2.2.2.2.2.2.2.1 r5.2.2.2.2.2.2.2.2.2.2.2.2.2.2.2.2.2) fun r8 =>
 (some r8)
 else
 (some false)
 else
 (some false)
 else
 Option.bind (qaH k r5.2.2.2.2.2.2.2.2.2.1 r5.2.2.2.2.2.2.2.2.2.2.1) fun r6 =>
 if (r6 = true) then
 if ((r5.2.2.2.2.2.2.2.2.2.1 != (0 : Int)) = false) then
 (some false)
 else
 Option.bind (qag k r5.2.2.2.2.2.2.2.2.2.2.2.1 r5.2.2.2.2.2.2.2.2.2.2.2.2.1 r5.2.2.2.2.2.2.2.2.2.2.2.2.2.1) fun r7 =>
 if (r7 = true) then
 Option.bind (qY k r5.2.2.2.2.2.2.2.2.2.2.2.2.2.2.1 r5.2.2.2.2.2.2.2.2.2.2.2.2.2.2.2.1 r5.2.2.2.2.2.2.2.2.2.2.2.2.2.2.2.2.1 r5.2.2.2.2.2.2.2.2.2.2.2.2.2.2.2.2.2) fun r8 =>
 (some r8)
 else
 (some false)
 else
 (some false)
 else
 none
 else
 (some false)
 else
 (some false)
 else
 if ((r5.2.2.2.2.2.1 == (104 : Int)) = true) then
 if ((decide (r5.2.2.2.2.2.2.2.2.1 < (0 : Int))) = false) then
 if ((decide (r5.2.2.2.2.2.2.2.2.1 ≥ (((List.length r5.2.1) : Nat) : Int))) = false) then
 if ((0 : Int) ≤ r5.2.2.2.2.2.2.2.2.1) then
 Option.bind (r5.2.1)[(Int.toNat r5.2.2.2.2.2.2.2.2.1)]? fun x4 =>
 if ((x4.1 != (118 : Int)) = true) then
 (some false)
 else
 if ((r5.2.2.2.2.2.1 == (114 : Int)) = false) then
 if ((r5.2.2.2.2.2.1 == (99 : Int)) = false) then
 Option.bind (qaH k r5.2.2.2.2.2.2.2.2.2.1 r5.2.2.2.2.2.2.2.2.2.2.1) fun r6 =>
 if (r6 = true) then
 if ((r5.2.2.2.2.2.2.2.2.2.1 != (0 : Int)) = false) then
 if ((!(r5.2.2.2.2.2.1 == (108 : Int))) = true) then
 Option.bind (qag k r5.2.2.2.2.2.2.2.2.2.2.2.1 r5.2.2.2.2.2.2.2.2.2.2.2.2.1 r5.2.2.2.2.2.2.2.2.2.2.2.2.2.1) fun r7 =>
 if (r7 = true) then
 Option.bind (qY k r5.2.2.2.2.2.2.2.2.2.2.2.2.2.2.1 r5.2.2.2.2.2.2.2.2.2.2.2.2.2.2.2.1 r5.2.2.2.2.2.2.2.2.2.2.2.2.2.2.2.2.1 r5.2.2.2.2.2.2.2.2.2.2.2.2.2.2.2.2.2) fun r8 =>
 (some r8)
 else
 (some false)
 else
 (some false)
 else
 Option.bind (qag k r5.2.2.2.2.2.2.2.2.2.2.2.1 r5.2.2.2.2.2.2.2.2.2.2.2.2.1 r5.2.2.2.2.2.2.2.2.2.2.2.2.2.1) fun r7 =>
 if (r7 = true) then
 Option.bind (qY k r5.2.2.2.2.2.2.2.2.2.2.2.2.2.2.1 r5.2.2.2.2.2.2.2.2.2.2.2.2.2.2.2.1 r5.2.2.2.2.2.2.2.2.2.2.2.2.2.2.2.2.1 r5.2.2.2.2.2.2.2.2.2.2.2.2.2.2.2.2.2) fun r8 =>
 (some r8)
 else
 (some false)
 else
 (some false)
 else
 Option.bind (qaH k r5.2.2.2.2.2.2.2.2.2.1 r5.2.2.2.2.2.2.2.2.2.2.1) fun r6 =>
 if (r6 = true) then
 if ((r5.2.2.2.2.2.2.2.2.2.1 != (0 : Int)) = false) then
 (some false)
 else
 Option.bind (qag k r5.2.2.2.2.2.2.2.2.2.2.2.1 r5.2.2.2.2.2.2.2.2.2.2.2.2.1 r5.2.2.2.2.2.2.2.2.2.2.2.2.2.1) fun r7 =>
 if (r7 = true) then
 Option.bind (qY k r5.2.2.2.2.2.2.2.2.2.2.2.2.2.2.1 r5.2.2.2.2.2.2.2.2.2.2.2.2.2.2.2.1 r5.2.2.2.2.2.2.2.2.2.2.2.2.2.2.2.2.1 r5.2.2.2.2.2.2.2.2.2.2.2.2.2.2.2.2.2) fun r8 =>
 (some r8)
 else
 (some false)
 else
 (some false)
 else
 Option.bind (qaH k r5.2.2.2.2.2.2.2.2.2.1 r5.2.2.2.2.2.2.2.2.2.2.1) fun r6 =>
 if (r6 = true) then
 if ((r5.2.2.2.2.2.2.2.2.2.1 != (0 : Int)) = false) then
 (some false)
 else
 Option.bind (qag k r5.2.2.2.2.2.2.2.2.2.2.2.1 r5.2.2.2.2.2.2.2.2.2.2.2.2.1 r5.2.2.2.2.2.2.2.2.2.2.2.2.2.1) fun r7 =>
 if (r7 = true) then
 Option.bind (qY k r5.2.2.2.2.2.2.2.2.2.2.2.2.2.2.1 r5.2.2.2.2.2.2.2.2.2.2.2.2.2.2.2.1 r5.2.2.2.2.2.2.2.2.2.2.2.2.2.2.2.2.1 r5.2.2.2.2.2.2.2.2.2.2.2.2.2.2.2.2.2) fun r8 =>
 (some r8)
 else
 (some false)
 else
 (some false)
 else
 none
 else
 (some false)
 else
 (some false)
 else
 if ((r5.2.2.2.2.2.2.2.2.1 != (0 : Int)) = true) then
 (some false)
 else
 if ((r5.2.2.2.2.2.1 == (114 : Int)) = false) then
 if ((r5.2.2.2.2.2.1 == (99 : Int)) = false) then
 Option.bind (qaH k r5.2.2.2.2.2.2.2.2.2.1 r5.2.2.2.2.2.2.2.2.2.2.1) fun r6 =>
 if (r6 = true) then
 if ((r5.2.2.2.2.2.2.2.2.2.1 != (0 : Int)) = false) then
 if ((!(r5.2.2.2.2.2.1 == (108 : Int))) = true) then
 Option.bind (qag k r5.2.2.2.2.2.2.2.2.2.2.2.1 r5.2.2.2.2.2.2.2.2.2.2.2.2.1 r5.2.2.2.2.2.2.2.2.2.2.2.2.2.1) fun r7 =>
 if (r7 = true) then
 Option.bind (qY k r5.2.2.2.2.2.2.2.2.2.2.2.2.2.2.1 r5.2.2.2.2.2.2.2.2.2.2.2.2.2.2.2.1 r5.2.2.2.2.2.2.2.2.2.2.2.2.2.2.2.2.1 r5.2.2.2.2.2.2.2.2.2.2.2.2.2.2.2.2.2) fun r8 =>
 (some r8)
 else
 (some false)
 else
 (some false)
 else
 Option.bind (qag k r5.2.2.2.2.2.2.2.2.2.2.2.1 r5.2.2.2.2.2.2.2.2.2.2.2.2.1 r5.2.2.2.2.2.2.2.2.2.2.2.2.2.1) fun r7 =>
 if (r7 = true) then
 Option.bind (qY k r5.2.2.2.2.2.2.2.2.2.2.2.2.2.2.1 r5.2.2.2.2.2.2.2.2.2.2.2.2.2.2.2.1 r5.2.2.2.2.2.2.2.2.2.2.2.2.2.2.2.2.1 r5.2.2.2.2.2.2.2.2.2.2.2.2.2.2.2.2.2) fun r8 =>
 (some r8)
 else
 (some false)
 else
 (some false)
 else
 Option.bind (qaH k r5.2.2.2.2.2.2.2.2.2.1 r5.2.2.2.2.2.2.2.2.2.2.1) fun r6 =>
 if (r6 = true) then
 if ((r5.2.2.2.2.2.2.2.2.2.1 != (0 : Int)) = false) then
 (some false)
 else
 Option.bind (qag k r5.2.2.2.2.2.2.2.2.2.2.2.1 r5.2.2.2.2.2.2.2.2.2.2.2.2.1 r5.2.2.2.2.2.2.2.2.2.2.2.2.2.1) fun r7 =>
 if (r7 = true) then
 Option.bind (qY k r5.2.2.2.2.2.2.2.2.2.2.2.2.2.2.1 r5.2.2.2.2.2.2.2.2.2.2.2.2.2.2.2.1 r5.2.2.2.2.2.2.2.2.2.2.2.2.2.2.2.2.1 r5.2.2.2.2.2.2.2.2.2.2.2.2.2.2.2.2.2) fun r8 =>
 (some r8)
 else
 (some false)
 else
 (some false)
 else
 Option.bind (qaH k r5.2.2.2.2.2.2.2.2.2.1 r5.2.2.2.2.2.2.2.2.2.2.1) fun r6 =>
 if (r6 = true) then
 if ((r5.2.2.2.2.2.2.2.2.2.1 != (0 : Int)) = false) then
 (some false)
 else
 Option.bind (qag k r5.2.2.2.2.2.2.2.2.2.2.2.1 r5.2.2.2.2.2.2.2.2.2.2.2.2.1 r5.2.2.2.2.2.2.2.2.2.2.2.2.2.1) fun r7 =>
 if (r7 = true) then
 Option.bind (qY k r5.2.2.2.2.2.2.2.2.2.2.2.2.2.2.1 r5.2.2.2.2.2.2.2.2.2.2.2.2.2.2.2.1 r5.2.2.2.2.2.2.2.2.2.2.2.2.2.2.2.2.1 r5.2.2.2.2.2.2.2.2.2.2.2.2.2.2.2.2.2) fun r8 =>
 (some r8)
 else
 (some false)
 else
 (some false))
 else
 (some false)
 else
 (some false)
def qf2 : Nat → List ByteArray → List (Int × ByteArray × List Int × Int × (Int × Int) × (Int × List (Int × Int) × List Int) × ByteArray × Int × List (Int × Int) × List (Int × Int)) → Int → Int → Int → Int → ByteArray → List Int → Int → Int → Int → Int → List (Int × Int) → List Int → ByteArray → Int → List (Int × Int) → List (Int × Int) → Option (Bool)
 | 0, _, _, _, _, _, _, _, _, _, _, _, _, _, _, _, _, _, _ => none
 | k + 1, f0, f1, f2, f3, f4, d0, d1, d2, d3, d4, d5, d6, d7, d8, d9, d10, d11, d12 => qtK k f0 f1 f2 f3 f4 d0 d1 d2 d3 d4 d5 d6 d7 d8 d9 d10 d11 d12
def qkq : FS := { vs := [.g [.lf (.sl .str), .lf (.sl (.pr (.int .u8) (.pr .str (.pr (.sl (.int .i64)) (.pr (.int .i64) (.pr (.pr (.int .i64) (.int .i64)) (.pr (.pr (.int .i64) (.pr (.sl (.pr (.int .i64) (.int .i64))) (.sl (.int .i64)))) (.pr .str (.pr (.int .u8) (.pr (.sl (.pr (.int .i64) (.int .i64))) (.sl (.pr (.int .i64) (.int .i64))))))))))))), .lf (.int .i64), .lf (.int .i64), .lf (.int .i64)], .g [.lf (.int .u8), .lf .str, .lf (.sl (.int .i64)), .lf (.int .i64), .lf (.int .i64), .lf (.int .i64), .lf (.int .i64), .lf (.sl (.pr (.int .i64) (.int .i64))), .lf (.sl (.int .i64)), .lf .str, .lf (.int .u8), .lf (.sl (.pr (.int .i64) (.int .i64))), .lf (.sl (.pr (.int .i64) (.int .i64)))]], bs := [] }
def qqQ : List FS := [{ vs := [.a (.lf .bool)], bs := [] }]
def qsW (k : Nat) : Inst := ⟨185, qkq, qqQ, fun x => qf2 k x.1 x.2.1 x.2.2.1 x.2.2.2.1 x.2.2.2.2.1 x.2.2.2.2.2.1 x.2.2.2.2.2.2.1 x.2.2.2.2.2.2.2.1 x.2.2.2.2.2.2.2.2.1 x.2.2.2.2.2.2.2.2.2.1 x.2.2.2.2.2.2.2.2.2.2.1 x.2.2.2.2.2.2.2.2.2.2.2.1 x.2.2.2.2.2.2.2.2.2.2.2.2.1 x.2.2.2.2.2.2.2.2.2.2.2.2.2.1 x.2.2.2.2.2.2.2.2.2.2.2.2.2.2.1 x.2.2.2.2.2.2.2.2.2.2.2.2.2.2.2.1 x.2.2.2.2.2.2.2.2.2.2.2.2.2.2.2.2.1 x.2.2.2.2.2.2.2.2.2.2.2.2.2.2.2.2.2⟩
theorem qzo (k : Nat) : qp (call cf k) [qis k, qqr k, qva k, qvb k, qpk k, qdv k] := qA (qze k) (qA (qBX k) (qA (qGv k) (qA (qGz k) (qA (qzn k) (qA (qmr k) qT)))))
def qiR : List SS := [{ fr := [(2, .a (.ptr 0 0 0)), (3, .a (.ptr 1 0 0)), (30, .a (.lf (.sl (.int .i64)))), (31, .a (.lf (.int .i64))), (32, .a (.lf (.int .i64)))], mem := [(0, some (.raw [[.lf (.sl .str), .lf (.sl (.pr (.int .u8) (.pr .str (.pr (.sl (.int .i64)) (.pr (.int .i64) (.pr (.pr (.int .i64) (.int .i64)) (.pr (.pr (.int .i64) (.pr (.sl (.pr (.int .i64) (.int .i64))) (.sl (.int .i64)))) (.pr .str (.pr (.int .u8) (.pr (.sl (.pr (.int .i64) (.int .i64))) (.sl (.pr (.int .i64) (.int .i64))))))))))))), .lf (.int .i64), .lf (.int .i64), .lf (.int .i64)]] 5 27 true false false)), (1, some (.raw [[.lf (.int .u8), .lf .str, .lf (.sl (.int .i64)), .lf (.int .i64), .lf (.int .i64), .lf (.int .i64), .lf (.int .i64), .lf (.sl (.pr (.int .i64) (.int .i64))), .lf (.sl (.int .i64)), .lf .str, .lf (.int .u8), .lf (.sl (.pr (.int .i64) (.int .i64))), .lf (.sl (.pr (.int .i64) (.int .i64)))]] 13 48 true false false))], nx := 2 }]
def qnf : List OS := [⟨none, { fr := [(4, .a (.lf .bool))], mem := [(0, some (.raw [[.lf (.sl .str), .lf (.sl (.pr (.int .u8) (.pr .str (.pr (.sl (.int .i64)) (.pr (.int .i64) (.pr (.pr (.int .i64) (.int .i64)) (.pr (.pr (.int .i64) (.pr (.sl (.pr (.int .i64) (.int .i64))) (.sl (.int .i64)))) (.pr .str (.pr (.int .u8) (.pr (.sl (.pr (.int .i64) (.int .i64))) (.sl (.pr (.int .i64) (.int .i64))))))))))))), .lf (.int .i64), .lf (.int .i64), .lf (.int .i64)]] 5 27 true false false)), (1, some (.raw [[.lf (.int .u8), .lf .str, .lf (.sl (.int .i64)), .lf (.int .i64), .lf (.int .i64), .lf (.int .i64), .lf (.int .i64), .lf (.sl (.pr (.int .i64) (.int .i64))), .lf (.sl (.int .i64)), .lf .str, .lf (.int .u8), .lf (.sl (.pr (.int .i64) (.int .i64))), .lf (.sl (.pr (.int .i64) (.int .i64)))]] 13 48 true false false))], nx := 2 }⟩, ⟨some 0, { fr := [(2, .a (.ptr 0 0 0)), (3, .a (.ptr 1 0 0))], mem := [(0, some (.raw [[.lf (.sl .str), .lf (.sl (.pr (.int .u8) (.pr .str (.pr (.sl (.int .i64)) (.pr (.int .i64) (.pr (.pr (.int .i64) (.int .i64)) (.pr (.pr (.int .i64) (.pr (.sl (.pr (.int .i64) (.int .i64))) (.sl (.int .i64)))) (.pr .str (.pr (.int .u8) (.pr (.sl (.pr (.int .i64) (.int .i64))) (.sl (.pr (.int .i64) (.int .i64))))))))))))), .lf (.int .i64), .lf (.int .i64), .lf (.int .i64)]] 5 27 true false false)), (1, some (.raw [[.lf (.int .u8), .lf .str, .lf (.sl (.int .i64)), .lf (.int .i64), .lf (.int .i64), .lf (.int .i64), .lf (.int .i64), .lf (.sl (.pr (.int .i64) (.int .i64))), .lf (.sl (.int .i64)), .lf .str, .lf (.int .u8), .lf (.sl (.pr (.int .i64) (.int .i64))), .lf (.sl (.pr (.int .i64) (.int .i64)))]] 13 48 true false false))], nx := 2 }⟩]
def qng (k : Nat) : LInst := ⟨0, qiR, qnf, fun x => qdS k k x.1 x.2.1 x.2.2.1 x.2.2.2.1 x.2.2.2.2.1 x.2.2.2.2.2.1 x.2.2.2.2.2.2.1 x.2.2.2.2.2.2.2.1 x.2.2.2.2.2.2.2.2.1 x.2.2.2.2.2.2.2.2.2.1 x.2.2.2.2.2.2.2.2.2.2.1 x.2.2.2.2.2.2.2.2.2.2.2.1 x.2.2.2.2.2.2.2.2.2.2.2.2.1 x.2.2.2.2.2.2.2.2.2.2.2.2.2.1 x.2.2.2.2.2.2.2.2.2.2.2.2.2.2.1 x.2.2.2.2.2.2.2.2.2.2.2.2.2.2.2.1 x.2.2.2.2.2.2.2.2.2.2.2.2.2.2.2.2.1 x.2.2.2.2.2.2.2.2.2.2.2.2.2.2.2.2.2.1 x.2.2.2.2.2.2.2.2.2.2.2.2.2.2.2.2.2.2.1 x.2.2.2.2.2.2.2.2.2.2.2.2.2.2.2.2.2.2.2.1 x.2.2.2.2.2.2.2.2.2.2.2.2.2.2.2.2.2.2.2.2⟩
theorem qCT (k : Nat) : qg (LOk (R := DS OS.D qnf) (fun b _ σ K => LOt Ty (kps 185) 0 b σ K []) cf (call cf k) (kps 185) Tryz.f185.ntmps k 0) 0 (lb Tryz.f185 0) :=
 qA qT (qA (qA qT qT) (qA (qA qT (qA qT (qA (qA qT qT) qT))) qT))
theorem qCU (k n : Nat) (x : DS SS.D qiR) : qdS k (n + 1) x.1 x.2.1 x.2.2.1 x.2.2.2.1 x.2.2.2.2.1 x.2.2.2.2.2.1 x.2.2.2.2.2.2.1 x.2.2.2.2.2.2.2.1 x.2.2.2.2.2.2.2.2.1 x.2.2.2.2.2.2.2.2.2.1 x.2.2.2.2.2.2.2.2.2.2.1 x.2.2.2.2.2.2.2.2.2.2.2.1 x.2.2.2.2.2.2.2.2.2.2.2.2.1 x.2.2.2.2.2.2.2.2.2.2.2.2.2.1 x.2.2.2.2.2.2.2.2.2.2.2.2.2.2.1 x.2.2.2.2.2.2.2.2.2.2.2.2.2.2.2.1 x.2.2.2.2.2.2.2.2.2.2.2.2.2.2.2.2.1 x.2.2.2.2.2.2.2.2.2.2.2.2.2.2.2.2.2.1 x.2.2.2.2.2.2.2.2.2.2.2.2.2.2.2.2.2.2.1 x.2.2.2.2.2.2.2.2.2.2.2.2.2.2.2.2.2.2.2.1 x.2.2.2.2.2.2.2.2.2.2.2.2.2.2.2.2.2.2.2.2 = qu SS.enc (fun σ => qx cf (fun f a b K => COt f a b K [qis k, qqr k, qva k, qvb k, qpk k, qdv k]) (fun b _ σ K => LOt Ty (kps 185) 0 b σ K []) Tryz.f185.ntmps 0 (lb Tryz.f185 0) σ (qw Ty (kps 185 0) 0 qiR qnf fun x => qdS k n x.1 x.2.1 x.2.2.1 x.2.2.2.1 x.2.2.2.2.1 x.2.2.2.2.2.1 x.2.2.2.2.2.2.1 x.2.2.2.2.2.2.2.1 x.2.2.2.2.2.2.2.2.1 x.2.2.2.2.2.2.2.2.2.1 x.2.2.2.2.2.2.2.2.2.2.1 x.2.2.2.2.2.2.2.2.2.2.2.1 x.2.2.2.2.2.2.2.2.2.2.2.2.1 x.2.2.2.2.2.2.2.2.2.2.2.2.2.1 x.2.2.2.2.2.2.2.2.2.2.2.2.2.2.1 x.2.2.2.2.2.2.2.2.2.2.2.2.2.2.2.1 x.2.2.2.2.2.2.2.2.2.2.2.2.2.2.2.2.1 x.2.2.2.2.2.2.2.2.2.2.2.2.2.2.2.2.2.1 x.2.2.2.2.2.2.2.2.2.2.2.2.2.2.2.2.2.2.1 x.2.2.2.2.2.2.2.2.2.2.2.2.2.2.2.2.2.2.2.1 x.2.2.2.2.2.2.2.2.2.2.2.2.2.2.2.2.2.2.2.2)) qiR x := by kernel_rfl
theorem qCV (k : Nat) : qL cf (call cf k) (kps 185) Tryz.f185.ntmps k 0 0 (lb Tryz.f185 0) (qng k) :=
 qq (c := cf) (callF := call cf k) (kp := kps 185) (nt := Tryz.f185.ntmps) (k := k) (p := 0) (b := 0) (x0 := lb Tryz.f185 0) (hs := qiR) (os := qnf) (qd (qzo k)) (qCT k) (fun n x => qdS k n x.1 x.2.1 x.2.2.1 x.2.2.2.1 x.2.2.2.2.1 x.2.2.2.2.2.1 x.2.2.2.2.2.2.1 x.2.2.2.2.2.2.2.1 x.2.2.2.2.2.2.2.2.1 x.2.2.2.2.2.2.2.2.2.1 x.2.2.2.2.2.2.2.2.2.2.1 x.2.2.2.2.2.2.2.2.2.2.2.1 x.2.2.2.2.2.2.2.2.2.2.2.2.1 x.2.2.2.2.2.2.2.2.2.2.2.2.2.1 x.2.2.2.2.2.2.2.2.2.2.2.2.2.2.1 x.2.2.2.2.2.2.2.2.2.2.2.2.2.2.2.1 x.2.2.2.2.2.2.2.2.2.2.2.2.2.2.2.2.1 x.2.2.2.2.2.2.2.2.2.2.2.2.2.2.2.2.2.1 x.2.2.2.2.2.2.2.2.2.2.2.2.2.2.2.2.2.2.1 x.2.2.2.2.2.2.2.2.2.2.2.2.2.2.2.2.2.2.2.1 x.2.2.2.2.2.2.2.2.2.2.2.2.2.2.2.2.2.2.2.2) (fun _ => rfl) (qCU k)
theorem qHv (k : Nat) : qg (LOk (R := DS FS.D qqQ) (fun b _ σ K => LOt Ty (kps 185) 0 b σ K [qng k]) cf (call cf k) (cf.keep 185) Tryz.f185.ntmps k qkq.bs.length) 0 (bd Tryz.f185) :=
 qA qT (qA qT (qA (qA qT (qA (qA qT qT) qT)) (qA (qA qT (qt (c := cf) (callF := call cf k) (kp := kps 185) (nt := Tryz.f185.ntmps) (k := k) (p := 0) (b := 0) (x0 := lb Tryz.f185 0) (l := [qng k]) (qA (fun _ => qCV k) qT))) (qA (qA qT (qA (qA qT (qA qT qT)) (qA (qA qT qT) (qA (qA qT (qA qT qT)) (qA (qA qT qT) (qA (qA qT (qA qT qT)) (qA (qA qT (qA (qA qT qT) qT)) (qA qT (qA (qA qT qT) qT))))))))) (qA qT (qA qT qT))))))
theorem qHw (k : Nat) (x : qkq.D) : qf2 (k + 1) x.1 x.2.1 x.2.2.1 x.2.2.2.1 x.2.2.2.2.1 x.2.2.2.2.2.1 x.2.2.2.2.2.2.1 x.2.2.2.2.2.2.2.1 x.2.2.2.2.2.2.2.2.1 x.2.2.2.2.2.2.2.2.2.1 x.2.2.2.2.2.2.2.2.2.2.1 x.2.2.2.2.2.2.2.2.2.2.2.1 x.2.2.2.2.2.2.2.2.2.2.2.2.1 x.2.2.2.2.2.2.2.2.2.2.2.2.2.1 x.2.2.2.2.2.2.2.2.2.2.2.2.2.2.1 x.2.2.2.2.2.2.2.2.2.2.2.2.2.2.2.1 x.2.2.2.2.2.2.2.2.2.2.2.2.2.2.2.2.1 x.2.2.2.2.2.2.2.2.2.2.2.2.2.2.2.2.2 = qi cf (fun f a b K => COt f a b K [qis k, qqr k, qva k, qvb k, qpk k, qdv k]) (fun b _ σ K => LOt Ty (kps 185) 0 b σ K [qng k]) 185 Tryz.f185.ntmps Tryz.f185.results.toList (bd Tryz.f185) (qkq.enc x).1 (qkq.enc x).2 (qk FS.dec qqQ) := by kernel_rfl
theorem qHx : ∀ k, qh (call cf k) (qsW k)
 | 0 => fun x y e => absurd (show (none : Option _) = some y from e) (by simp)
 | k + 1 => qe (c := cf) (k := k) (f := 185) (fn := Tryz.f185) (body := bd Tryz.f185) (sh := qkq) (os := qqQ) rfl Tryz.func185 rfl ⟨rfl, Nat.le_of_ble_eq_true rfl⟩ (qd (qzo k)) (qHv k) (fun x => qf2 (k + 1) x.1 x.2.1 x.2.2.1 x.2.2.2.1 x.2.2.2.2.1 x.2.2.2.2.2.1 x.2.2.2.2.2.2.1 x.2.2.2.2.2.2.2.1 x.2.2.2.2.2.2.2.2.1 x.2.2.2.2.2.2.2.2.2.1 x.2.2.2.2.2.2.2.2.2.2.1 x.2.2.2.2.2.2.2.2.2.2.2.1 x.2.2.2.2.2.2.2.2.2.2.2.2.1 x.2.2.2.2.2.2.2.2.2.2.2.2.2.1 x.2.2.2.2.2.2.2.2.2.2.2.2.2.2.1 x.2.2.2.2.2.2.2.2.2.2.2.2.2.2.2.1 x.2.2.2.2.2.2.2.2.2.2.2.2.2.2.2.2.1 x.2.2.2.2.2.2.2.2.2.2.2.2.2.2.2.2.2) (qHw k)

def qiS (k : Nat) (s : ByteArray) (c : Int) : Option (Int) :=
 (some (qfD s c))
def qdi : Nat → ByteArray → Int → Option (Int)
 | 0, _, _ => none
 | k + 1, s, c => qiS k s c
def qiT : FS := { vs := [.a (.lf .str), .a (.lf (.int .u8))], bs := [] }
def qnh : List FS := [{ vs := [.a (.lf (.int .i64))], bs := [] }]
def qqR (k : Nat) : Inst := ⟨59, qiT, qnh, fun x => qdi k x.1 x.2⟩
theorem qLr (k : Nat) : qp (call cf k) [] := True.intro
theorem qCW (k : Nat) (x : qiT.D) : qdi (k + 1) x.1 x.2 = (qgq) (DS FS.D qnh) (qiT.enc x).1 (qiT.enc x).2 (qk FS.dec qnh) := by kernel_rfl
theorem qCX : ∀ k, qh (call cf k) (qqR k)
 | 0 => fun x y e => absurd (show (none : Option _) = some y from e) (by simp)
 | k + 1 => qlF (c := cf) (k := k) (f := 59) (g := qeB) (G := qgq) (sh := qiT) (os := qnh) rfl (qpU) (fun x => qdi (k + 1) x.1 x.2) (qCW k)

def qpm (k : Nat) (rec : Int → Nat → List (Int × ByteArray × List Int × Int × (Int × Int) × (Int × List (Int × Int) × List Int) × ByteArray × Int × List (Int × Int) × List (Int × Int)) → Int → Int → List Int → Option (Int × Nat × List Int)) (n : Int) (branch : Nat) (x : List (Int × ByteArray × List Int × Int × (Int × Int) × (Int × List (Int × Int) × List Int) × ByteArray × Int × List (Int × Int) × List (Int × Int))) (x1 : Int) (x2 : Int) (branchs : List Int) : Option (Int × Nat × List Int) :=
 if ((decide (x2 < x1)) = true) then
 if ((0 : Int) ≤ x2) then
 Option.bind (x)[(Int.toNat x2)]? fun x3 =>
 Option.bind (qdi k (ByteArray.mk (List.toArray (118 :: (101 :: (104 :: (99 :: (108 :: (116 :: [])))))))) x3.1) fun r6 =>
 if ((decide (r6 ≥ (0 : Int))) = true) then
 if (branch ≤ (List.length branchs)) then
 if (((branch + (List.length (List.take 1 (n :: [])))) * 8) ≤ 140737488355328) then
 rec (IntKind.wrap .i64 (n + (1 : Int))) (branch + (List.length (List.take 1 (n :: [])))) x x1 (IntKind.wrap .i64 (x2 + (1 : Int))) ((List.take branch branchs) ++ (List.take 1 (n :: [])))
 else
 none
 else
 none
 else
 if (branch ≤ (List.length branchs)) then
 if (((branch + 1) * 8) ≤ 140737488355328) then
 rec n (branch + 1) x x1 (IntKind.wrap .i64 (x2 + (1 : Int))) ((List.take branch branchs) ++ (List.take 1 ((-(1 : Int)) :: [])))
 else
 none
 else
 none
 else
 none
 else
 (some (n, branch, branchs))
def qdT (k n : Nat) : Int → Nat → List (Int × ByteArray × List Int × Int × (Int × Int) × (Int × List (Int × Int) × List Int) × ByteArray × Int × List (Int × Int) × List (Int × Int)) → Int → Int → List Int → Option (Int × Nat × List Int) := Nat.rec (fun _ _ _ _ _ _ => none) (fun _ r => qpm k r) n
def qtL (k : Nat) (f0 : List ByteArray) (f1 : List (Int × ByteArray × List Int × Int × (Int × Int) × (Int × List (Int × Int) × List Int) × ByteArray × Int × List (Int × Int) × List (Int × Int))) (f2 : Int) (f3 : Int) (f4 : Int) : Option (Int × List Int) :=
 Option.bind (qdT k k (IntKind.wrap .i64 ((((List.length f0) : Nat) : Int) - (1 : Int))) 0 f1 (((List.length f1) : Nat) : Int) (0 : Int) []) fun r6 =>
 if ((0 + r6.2.1) ≤ (List.length r6.2.2)) then
 (some (r6.1, (List.take r6.2.1 r6.2.2)))
 else
 none
def qd1 : Nat → List ByteArray → List (Int × ByteArray × List Int × Int × (Int × Int) × (Int × List (Int × Int) × List Int) × ByteArray × Int × List (Int × Int) × List (Int × Int)) → Int → Int → Int → Option (Int × List Int)
 | 0, _, _, _, _, _ => none
 | k + 1, f0, f1, f2, f3, f4 => qtL k f0 f1 f2 f3 f4
def qkr : FS := { vs := [.g [.lf (.sl .str), .lf (.sl (.pr (.int .u8) (.pr .str (.pr (.sl (.int .i64)) (.pr (.int .i64) (.pr (.pr (.int .i64) (.int .i64)) (.pr (.pr (.int .i64) (.pr (.sl (.pr (.int .i64) (.int .i64))) (.sl (.int .i64)))) (.pr .str (.pr (.int .u8) (.pr (.sl (.pr (.int .i64) (.int .i64))) (.sl (.pr (.int .i64) (.int .i64))))))))))))), .lf (.int .i64), .lf (.int .i64), .lf (.int .i64)]], bs := [] }
def qqS : List FS := [{ vs := [.a (.lf (.int .i64)), .a (.lf (.sl (.int .i64)))], bs := [] }]
def qlR (k : Nat) : Inst := ⟨186, qkr, qqS, fun x => qd1 k x.1 x.2.1 x.2.2.1 x.2.2.2.1 x.2.2.2.2⟩
theorem qzp (k : Nat) : qp (call cf k) [qqR k] := qA (qCX k) qT
def qiU : List SS := [{ fr := [(4, .a (.lf (.int .i64))), (5, .a (.smz 0)), (14, .a (.lf (.sl (.pr (.int .u8) (.pr .str (.pr (.sl (.int .i64)) (.pr (.int .i64) (.pr (.pr (.int .i64) (.int .i64)) (.pr (.pr (.int .i64) (.pr (.sl (.pr (.int .i64) (.int .i64))) (.sl (.int .i64)))) (.pr .str (.pr (.int .u8) (.pr (.sl (.pr (.int .i64) (.int .i64))) (.sl (.pr (.int .i64) (.int .i64))))))))))))))), (15, .a (.lf (.int .i64))), (16, .a (.lf (.int .i64)))], mem := [(0, some (.arr (.int .i64) 1 3 false))], nx := 1 }]
def qni : List OS := [⟨some 0, { fr := [(4, .a (.lf (.int .i64))), (5, .a (.smz 0))], mem := [(0, some (.arr (.int .i64) 1 3 false))], nx := 1 }⟩]
def qnj (k : Nat) : LInst := ⟨0, qiU, qni, fun x => qdT k k x.1 x.2.1 x.2.2.1 x.2.2.2.1 x.2.2.2.2.1 x.2.2.2.2.2⟩
theorem qCY (k : Nat) : qg (LOk (R := DS OS.D qni) (fun b _ σ K => LOt Ty (kps 186) 0 b σ K []) cf (call cf k) (kps 186) Tryz.f186.ntmps k 0) 0 (lb Tryz.f186 0) :=
 qA qT (qA (qA qT qT) (qA (qA qT (qA qT (qA (qA qT (qA (qA qT qT) qT)) qT))) qT))
theorem qCZ (k n : Nat) (x : DS SS.D qiU) : qdT k (n + 1) x.1 x.2.1 x.2.2.1 x.2.2.2.1 x.2.2.2.2.1 x.2.2.2.2.2 = qu SS.enc (fun σ => qx cf (fun f a b K => COt f a b K [qqR k]) (fun b _ σ K => LOt Ty (kps 186) 0 b σ K []) Tryz.f186.ntmps 0 (lb Tryz.f186 0) σ (qw Ty (kps 186 0) 0 qiU qni fun x => qdT k n x.1 x.2.1 x.2.2.1 x.2.2.2.1 x.2.2.2.2.1 x.2.2.2.2.2)) qiU x := by kernel_rfl
theorem qC0 (k : Nat) : qL cf (call cf k) (kps 186) Tryz.f186.ntmps k 0 0 (lb Tryz.f186 0) (qnj k) :=
 qq (c := cf) (callF := call cf k) (kp := kps 186) (nt := Tryz.f186.ntmps) (k := k) (p := 0) (b := 0) (x0 := lb Tryz.f186 0) (hs := qiU) (os := qni) (qd (qzp k)) (qCY k) (fun n x => qdT k n x.1 x.2.1 x.2.2.1 x.2.2.2.1 x.2.2.2.2.1 x.2.2.2.2.2) (fun _ => rfl) (qCZ k)
theorem qHy (k : Nat) : qg (LOk (R := DS FS.D qqS) (fun b _ σ K => LOt Ty (kps 186) 0 b σ K [qnj k]) cf (call cf k) (cf.keep 186) Tryz.f186.ntmps k qkr.bs.length) 0 (bd Tryz.f186) :=
 qA qT (qA qT (qA qT (qA (qA qT (qt (c := cf) (callF := call cf k) (kp := kps 186) (nt := Tryz.f186.ntmps) (k := k) (p := 0) (b := 0) (x0 := lb Tryz.f186 0) (l := [qnj k]) (qA (fun _ => qC0 k) qT))) (qA qT qT))))
theorem qHz (k : Nat) (x : qkr.D) : qd1 (k + 1) x.1 x.2.1 x.2.2.1 x.2.2.2.1 x.2.2.2.2 = qi cf (fun f a b K => COt f a b K [qqR k]) (fun b _ σ K => LOt Ty (kps 186) 0 b σ K [qnj k]) 186 Tryz.f186.ntmps Tryz.f186.results.toList (bd Tryz.f186) (qkr.enc x).1 (qkr.enc x).2 (qk FS.dec qqS) := by kernel_rfl
theorem qzq : ∀ k, qh (call cf k) (qlR k)
 | 0 => fun x y e => absurd (show (none : Option _) = some y from e) (by simp)
 | k + 1 => qe (c := cf) (k := k) (f := 186) (fn := Tryz.f186) (body := bd Tryz.f186) (sh := qkr) (os := qqS) rfl Tryz.func186 rfl ⟨rfl, Nat.le_of_ble_eq_true rfl⟩ (qd (qzp k)) (qHy k) (fun x => qd1 (k + 1) x.1 x.2.1 x.2.2.1 x.2.2.2.1 x.2.2.2.2) (qHz k)

def qpn (k : Nat) (rec : List ByteArray → Int → Int → List ByteArray → List (Int × ByteArray × List Int × Int × (Int × Int) × (Int × List (Int × Int) × List Int) × ByteArray × Int × List (Int × Int) × List (Int × Int)) → Int → Int → Int → Option ((Int × List ByteArray × List (Int × ByteArray × List Int × Int × (Int × Int) × (Int × List (Int × Int) × List Int) × ByteArray × Int × List (Int × Int) × List (Int × Int)) × Int × Int × Int) ⊕ (List ByteArray × List (Int × ByteArray × List Int × Int × (Int × Int) × (Int × List (Int × Int) × List Int) × ByteArray × Int × List (Int × Int) × List (Int × Int)) × Int × Int × Int))) (x : List ByteArray) (x1 : Int) (x2 : Int) (f0 : List ByteArray) (f1 : List (Int × ByteArray × List Int × Int × (Int × Int) × (Int × List (Int × Int) × List Int) × ByteArray × Int × List (Int × Int) × List (Int × Int))) (f2 : Int) (f3 : Int) (f4 : Int) : Option ((Int × List ByteArray × List (Int × ByteArray × List Int × Int × (Int × Int) × (Int × List (Int × Int) × List Int) × ByteArray × Int × List (Int × Int) × List (Int × Int)) × Int × Int × Int) ⊕ (List ByteArray × List (Int × ByteArray × List Int × Int × (Int × Int) × (Int × List (Int × Int) × List Int) × ByteArray × Int × List (Int × Int) × List (Int × Int)) × Int × Int × Int)) :=
 if ((decide (x2 < x1)) = true) then
 if ((0 : Int) ≤ x2) then
 Option.bind (x)[(Int.toNat x2)]? fun x3 =>
 Option.bind (qfG k x3) fun r3 =>
 if ((!r3) = true) then
 (some (Sum.inl ((90 : Int), f0, f1, f2, f3, f4)))
 else
 rec x x1 (IntKind.wrap .i64 (x2 + (1 : Int))) f0 f1 f2 f3 f4
 else
 none
 else
 (some (Sum.inr (f0, f1, f2, f3, f4)))
def qdc (k n : Nat) : List ByteArray → Int → Int → List ByteArray → List (Int × ByteArray × List Int × Int × (Int × Int) × (Int × List (Int × Int) × List Int) × ByteArray × Int × List (Int × Int) × List (Int × Int)) → Int → Int → Int → Option ((Int × List ByteArray × List (Int × ByteArray × List Int × Int × (Int × Int) × (Int × List (Int × Int) × List Int) × ByteArray × Int × List (Int × Int) × List (Int × Int)) × Int × Int × Int) ⊕ (List ByteArray × List (Int × ByteArray × List Int × Int × (Int × Int) × (Int × List (Int × Int) × List Int) × ByteArray × Int × List (Int × Int) × List (Int × Int)) × Int × Int × Int)) := Nat.rec (fun _ _ _ _ _ _ _ _ => none) (fun _ r => qpn k r) n
def qpo (k : Nat) (rec : Nat → List (Int × ByteArray × List Int × Int × (Int × Int) × (Int × List (Int × Int) × List Int) × ByteArray × Int × List (Int × Int) × List (Int × Int)) → Int → Int → List ByteArray → List (Int × ByteArray × List Int × Int × (Int × Int) × (Int × List (Int × Int) × List Int) × ByteArray × Int × List (Int × Int) × List (Int × Int)) → Int → Int → Int → List ByteArray → Option ((Int × List ByteArray × List (Int × ByteArray × List Int × Int × (Int × Int) × (Int × List (Int × Int) × List Int) × ByteArray × Int × List (Int × Int) × List (Int × Int)) × Int × Int × Int × List ByteArray × Int × ByteArray × List Int × Int × Int × Int × Int × List (Int × Int) × List Int × ByteArray × Int × List (Int × Int) × List (Int × Int)) ⊕ (Nat × List ByteArray × List (Int × ByteArray × List Int × Int × (Int × Int) × (Int × List (Int × Int) × List Int) × ByteArray × Int × List (Int × Int) × List (Int × Int)) × Int × Int × Int × List ByteArray))) (qdg : Nat) (x : List (Int × ByteArray × List Int × Int × (Int × Int) × (Int × List (Int × Int) × List Int) × ByteArray × Int × List (Int × Int) × List (Int × Int))) (x1 : Int) (x2 : Int) (f0 : List ByteArray) (f1 : List (Int × ByteArray × List Int × Int × (Int × Int) × (Int × List (Int × Int) × List Int) × ByteArray × Int × List (Int × Int) × List (Int × Int))) (f2 : Int) (f3 : Int) (f4 : Int) (namess : List ByteArray) : Option ((Int × List ByteArray × List (Int × ByteArray × List Int × Int × (Int × Int) × (Int × List (Int × Int) × List Int) × ByteArray × Int × List (Int × Int) × List (Int × Int)) × Int × Int × Int × List ByteArray × Int × ByteArray × List Int × Int × Int × Int × Int × List (Int × Int) × List Int × ByteArray × Int × List (Int × Int) × List (Int × Int)) ⊕ (Nat × List ByteArray × List (Int × ByteArray × List Int × Int × (Int × Int) × (Int × List (Int × Int) × List Int) × ByteArray × Int × List (Int × Int) × List (Int × Int)) × Int × Int × Int × List ByteArray)) :=
 if ((decide (x2 < x1)) = true) then
 if ((0 : Int) ≤ x2) then
 Option.bind (x)[(Int.toNat x2)]? fun x3 =>
 Option.bind (qf2 k f0 f1 f2 f3 f4 x3.1 x3.2.1 x3.2.2.1 x3.2.2.2.1 x3.2.2.2.2.1.1 x3.2.2.2.2.1.2 x3.2.2.2.2.2.1.1 x3.2.2.2.2.2.1.2.1 x3.2.2.2.2.2.1.2.2 x3.2.2.2.2.2.2.1 x3.2.2.2.2.2.2.2.1 x3.2.2.2.2.2.2.2.2.1 x3.2.2.2.2.2.2.2.2.2) fun r4 =>
 if ((!r4) = true) then
 (some (Sum.inl ((90 : Int), f0, f1, f2, f3, f4, namess, x3.1, x3.2.1, x3.2.2.1, x3.2.2.2.1, x3.2.2.2.2.1.1, x3.2.2.2.2.1.2, x3.2.2.2.2.2.1.1, x3.2.2.2.2.2.1.2.1, x3.2.2.2.2.2.1.2.2, x3.2.2.2.2.2.2.1, x3.2.2.2.2.2.2.2.1, x3.2.2.2.2.2.2.2.2.1, x3.2.2.2.2.2.2.2.2.2)))
 else
 if (qdg ≤ (List.length namess)) then
 if (((qdg + (List.length (List.take 1 (x3.2.1 :: [])))) * 16) ≤ 140737488355328) then
 rec (qdg + (List.length (List.take 1 (x3.2.1 :: [])))) x x1 (IntKind.wrap .i64 (x2 + (1 : Int))) f0 f1 f2 f3 f4 ((List.take qdg namess) ++ (List.take 1 (x3.2.1 :: [])))
 else
 none
 else
 none
 else
 none
 else
 (some (Sum.inr (qdg, f0, f1, f2, f3, f4, namess)))
def qdd (k n : Nat) : Nat → List (Int × ByteArray × List Int × Int × (Int × Int) × (Int × List (Int × Int) × List Int) × ByteArray × Int × List (Int × Int) × List (Int × Int)) → Int → Int → List ByteArray → List (Int × ByteArray × List Int × Int × (Int × Int) × (Int × List (Int × Int) × List Int) × ByteArray × Int × List (Int × Int) × List (Int × Int)) → Int → Int → Int → List ByteArray → Option ((Int × List ByteArray × List (Int × ByteArray × List Int × Int × (Int × Int) × (Int × List (Int × Int) × List Int) × ByteArray × Int × List (Int × Int) × List (Int × Int)) × Int × Int × Int × List ByteArray × Int × ByteArray × List Int × Int × Int × Int × Int × List (Int × Int) × List Int × ByteArray × Int × List (Int × Int) × List (Int × Int)) ⊕ (Nat × List ByteArray × List (Int × ByteArray × List Int × Int × (Int × Int) × (Int × List (Int × Int) × List Int) × ByteArray × Int × List (Int × Int) × List (Int × Int)) × Int × Int × Int × List ByteArray)) := Nat.rec (fun _ _ _ _ _ _ _ _ _ _ => none) (fun _ r => qpo k r) n
def qtM (k : Nat) (f0 : List ByteArray) (f1 : List (Int × ByteArray × List Int × Int × (Int × Int) × (Int × List (Int × Int) × List Int) × ByteArray × Int × List (Int × Int) × List (Int × Int))) (f2 : Int) (f3 : Int) (f4 : Int) : Option (Int) :=
 Option.bind (qaH k f2 f3) fun r1 =>
 if ((!r1) = false) then
 if ((decide (f2 ≤ (0 : Int))) = false) then
 if ((f4 != (1 : Int)) = true) then
 if ((f4 != (2 : Int)) = true) then
 (some (90 : Int))
 else
 if ((decide ((((List.length f0) : Nat) : Int) < (1 : Int))) = false) then
 if ((decide ((((List.length f0) : Nat) : Int) > (32 : Int))) = false) then
 Option.bind (f0)[0]? fun x =>
 if ((!((Array.toList (ByteArray.data x)) == (Array.toList (ByteArray.data (ByteArray.mk (List.toArray (48 :: []))))))) = false) then
 if ((decide ((((List.length f1) : Nat) : Int) > (64 : Int))) = false) then
 Option.bind (qdk k f0) fun r2 =>
 if (r2 = true) then
 (some (90 : Int))
 else
 Option.bind (qdc k k f0 (((List.length f0) : Nat) : Int) (0 : Int) f0 f1 f2 f3 f4) fun r3 =>
 qc r3
 (fun r3 =>
 (some r3.1))
 (fun r3 =>
 Option.bind (qdd k k 0 r3.2.1 (((List.length r3.2.1) : Nat) : Int) (0 : Int) r3.1 r3.2.1 r3.2.2.1 r3.2.2.2.1 r3.2.2.2.2 []) fun r4 =>
 qc r4
 (fun r4 =>
 (some r4.1))
 (fun r4 =>
 if ((0 + r4.1) ≤ (List.length r4.2.2.2.2.2.2)) then
 Option.bind (qdk k (List.take r4.1 r4.2.2.2.2.2.2)) fun r5 =>
 if (r5 = true) then
 (some (90 : Int))
 else
 Option.bind (qd1 k r4.2.1 r4.2.2.1 r4.2.2.2.1 r4.2.2.2.2.1 r4.2.2.2.2.2.1) fun r6 =>
 if ((decide (r6.1 > (48 : Int))) = true) then
 (some (5 : Int))
 else
 (some (0 : Int))
 else
 none))
 else
 (some (90 : Int))
 else
 (some (90 : Int))
 else
 (some (90 : Int))
 else
 (some (90 : Int))
 else
 if ((decide ((((List.length f0) : Nat) : Int) < (1 : Int))) = false) then
 if ((decide ((((List.length f0) : Nat) : Int) > (32 : Int))) = false) then
 Option.bind (f0)[0]? fun x =>
 if ((!((Array.toList (ByteArray.data x)) == (Array.toList (ByteArray.data (ByteArray.mk (List.toArray (48 :: []))))))) = false) then
 if ((decide ((((List.length f1) : Nat) : Int) > (64 : Int))) = false) then
 Option.bind (qdk k f0) fun r2 =>
 if (r2 = true) then
 (some (90 : Int))
 else
 Option.bind (qdc k k f0 (((List.length f0) : Nat) : Int) (0 : Int) f0 f1 f2 f3 f4) fun r3 =>
 qc r3
 (fun r3 =>
 (some r3.1))
 (fun r3 =>
 Option.bind (qdd k k 0 r3.2.1 (((List.length r3.2.1) : Nat) : Int) (0 : Int) r3.1 r3.2.1 r3.2.2.1 r3.2.2.2.1 r3.2.2.2.2 []) fun r4 =>
 qc r4
 (fun r4 =>
 (some r4.1))
 (fun r4 =>
 if ((0 + r4.1) ≤ (List.length r4.2.2.2.2.2.2)) then
 Option.bind (qdk k (List.take r4.1 r4.2.2.2.2.2.2)) fun r5 =>
 if (r5 = true) then
 (some (90 : Int))
 else
 Option.bind (qd1 k r4.2.1 r4.2.2.1 r4.2.2.2.1 r4.2.2.2.2.1 r4.2.2.2.2.2.1) fun r6 =>
 if ((decide (r6.1 > (48 : Int))) = true) then
 (some (5 : Int))
 else
 (some (0 : Int))
 else
 none))
 else
 (some (90 : Int))
 else
 (some (90 : Int))
 else
 (some (90 : Int))
 else
 (some (90 : Int))
 else
 (some (90 : Int))
 else
 (some (90 : Int))
def qdm : Nat → List ByteArray → List (Int × ByteArray × List Int × Int × (Int × Int) × (Int × List (Int × Int) × List Int) × ByteArray × Int × List (Int × Int) × List (Int × Int)) → Int → Int → Int → Option (Int)
 | 0, _, _, _, _, _ => none
 | k + 1, f0, f1, f2, f3, f4 => qtM k f0 f1 f2 f3 f4
def qks : FS := { vs := [.g [.lf (.sl .str), .lf (.sl (.pr (.int .u8) (.pr .str (.pr (.sl (.int .i64)) (.pr (.int .i64) (.pr (.pr (.int .i64) (.int .i64)) (.pr (.pr (.int .i64) (.pr (.sl (.pr (.int .i64) (.int .i64))) (.sl (.int .i64)))) (.pr .str (.pr (.int .u8) (.pr (.sl (.pr (.int .i64) (.int .i64))) (.sl (.pr (.int .i64) (.int .i64))))))))))))), .lf (.int .i64), .lf (.int .i64), .lf (.int .i64)]], bs := [] }
def qqT : List FS := [{ vs := [.a (.lf (.int .i64))], bs := [] }]
def qpp (k : Nat) : Inst := ⟨120, qks, qqT, fun x => qdm k x.1 x.2.1 x.2.2.1 x.2.2.2.1 x.2.2.2.2⟩
theorem qvi (k : Nat) : qp (call cf k) [qdv k, qsN k, qis k, qsW k, qlR k] := qA (qmr k) (qA (qGb k) (qA (qze k) (qA (qHx k) (qA (qzq k) qT))))
def qiV : List SS := [{ fr := [(1, .a (.ptr 0 0 0)), (59, .a (.lf (.sl .str))), (60, .a (.lf (.int .i64))), (61, .a (.lf (.int .i64)))], mem := [(0, some (.raw [[.lf (.sl .str), .lf (.sl (.pr (.int .u8) (.pr .str (.pr (.sl (.int .i64)) (.pr (.int .i64) (.pr (.pr (.int .i64) (.int .i64)) (.pr (.pr (.int .i64) (.pr (.sl (.pr (.int .i64) (.int .i64))) (.sl (.int .i64)))) (.pr .str (.pr (.int .u8) (.pr (.sl (.pr (.int .i64) (.int .i64))) (.sl (.pr (.int .i64) (.int .i64))))))))))))), .lf (.int .i64), .lf (.int .i64), .lf (.int .i64)]] 5 27 true false false))], nx := 1 }]
def qnk : List OS := [⟨none, { fr := [(2, .a (.lf (.int .i64)))], mem := [(0, some (.raw [[.lf (.sl .str), .lf (.sl (.pr (.int .u8) (.pr .str (.pr (.sl (.int .i64)) (.pr (.int .i64) (.pr (.pr (.int .i64) (.int .i64)) (.pr (.pr (.int .i64) (.pr (.sl (.pr (.int .i64) (.int .i64))) (.sl (.int .i64)))) (.pr .str (.pr (.int .u8) (.pr (.sl (.pr (.int .i64) (.int .i64))) (.sl (.pr (.int .i64) (.int .i64))))))))))))), .lf (.int .i64), .lf (.int .i64), .lf (.int .i64)]] 5 27 true false false))], nx := 1 }⟩, ⟨some 0, { fr := [(1, .a (.ptr 0 0 0))], mem := [(0, some (.raw [[.lf (.sl .str), .lf (.sl (.pr (.int .u8) (.pr .str (.pr (.sl (.int .i64)) (.pr (.int .i64) (.pr (.pr (.int .i64) (.int .i64)) (.pr (.pr (.int .i64) (.pr (.sl (.pr (.int .i64) (.int .i64))) (.sl (.int .i64)))) (.pr .str (.pr (.int .u8) (.pr (.sl (.pr (.int .i64) (.int .i64))) (.sl (.pr (.int .i64) (.int .i64))))))))))))), .lf (.int .i64), .lf (.int .i64), .lf (.int .i64)]] 5 27 true false false))], nx := 1 }⟩]
def qgK (k : Nat) : LInst := ⟨0, qiV, qnk, fun x => qdc k k x.1 x.2.1 x.2.2.1 x.2.2.2.1 x.2.2.2.2.1 x.2.2.2.2.2.1 x.2.2.2.2.2.2.1 x.2.2.2.2.2.2.2⟩
theorem qC1 (k : Nat) : qg (LOk (R := DS OS.D qnk) (fun b _ σ K => LOt Ty (kps 120) 0 b σ K []) cf (call cf k) (kps 120) Tryz.f120.ntmps k 0) 0 (lb Tryz.f120 0) :=
 qA qT (qA (qA qT qT) (qA (qA qT (qA qT (qA (qA qT qT) qT))) qT))
theorem qC2 (k n : Nat) (x : DS SS.D qiV) : qdc k (n + 1) x.1 x.2.1 x.2.2.1 x.2.2.2.1 x.2.2.2.2.1 x.2.2.2.2.2.1 x.2.2.2.2.2.2.1 x.2.2.2.2.2.2.2 = qu SS.enc (fun σ => qx cf (fun f a b K => COt f a b K [qdv k, qsN k, qis k, qsW k, qlR k]) (fun b _ σ K => LOt Ty (kps 120) 0 b σ K []) Tryz.f120.ntmps 0 (lb Tryz.f120 0) σ (qw Ty (kps 120 0) 0 qiV qnk fun x => qdc k n x.1 x.2.1 x.2.2.1 x.2.2.2.1 x.2.2.2.2.1 x.2.2.2.2.2.1 x.2.2.2.2.2.2.1 x.2.2.2.2.2.2.2)) qiV x := by kernel_rfl
theorem qC3 (k : Nat) : qL cf (call cf k) (kps 120) Tryz.f120.ntmps k 0 0 (lb Tryz.f120 0) (qgK k) :=
 qq (c := cf) (callF := call cf k) (kp := kps 120) (nt := Tryz.f120.ntmps) (k := k) (p := 0) (b := 0) (x0 := lb Tryz.f120 0) (hs := qiV) (os := qnk) (qd (qvi k)) (qC1 k) (fun n x => qdc k n x.1 x.2.1 x.2.2.1 x.2.2.2.1 x.2.2.2.2.1 x.2.2.2.2.2.1 x.2.2.2.2.2.2.1 x.2.2.2.2.2.2.2) (fun _ => rfl) (qC2 k)
def qiW : List SS := [{ fr := [(1, .a (.ptr 0 0 0)), (5, .a (.smz 1)), (70, .a (.lf (.sl (.pr (.int .u8) (.pr .str (.pr (.sl (.int .i64)) (.pr (.int .i64) (.pr (.pr (.int .i64) (.int .i64)) (.pr (.pr (.int .i64) (.pr (.sl (.pr (.int .i64) (.int .i64))) (.sl (.int .i64)))) (.pr .str (.pr (.int .u8) (.pr (.sl (.pr (.int .i64) (.int .i64))) (.sl (.pr (.int .i64) (.int .i64))))))))))))))), (71, .a (.lf (.int .i64))), (72, .a (.lf (.int .i64)))], mem := [(0, some (.raw [[.lf (.sl .str), .lf (.sl (.pr (.int .u8) (.pr .str (.pr (.sl (.int .i64)) (.pr (.int .i64) (.pr (.pr (.int .i64) (.int .i64)) (.pr (.pr (.int .i64) (.pr (.sl (.pr (.int .i64) (.int .i64))) (.sl (.int .i64)))) (.pr .str (.pr (.int .u8) (.pr (.sl (.pr (.int .i64) (.int .i64))) (.sl (.pr (.int .i64) (.int .i64))))))))))))), .lf (.int .i64), .lf (.int .i64), .lf (.int .i64)]] 5 27 true false false)), (1, some (.arr .str 1 9 false))], nx := 2 }]
def qnl : List OS := [⟨none, { fr := [(2, .a (.lf (.int .i64)))], mem := [(0, some (.raw [[.lf (.sl .str), .lf (.sl (.pr (.int .u8) (.pr .str (.pr (.sl (.int .i64)) (.pr (.int .i64) (.pr (.pr (.int .i64) (.int .i64)) (.pr (.pr (.int .i64) (.pr (.sl (.pr (.int .i64) (.int .i64))) (.sl (.int .i64)))) (.pr .str (.pr (.int .u8) (.pr (.sl (.pr (.int .i64) (.int .i64))) (.sl (.pr (.int .i64) (.int .i64))))))))))))), .lf (.int .i64), .lf (.int .i64), .lf (.int .i64)]] 5 27 true false false)), (1, some (.arr .str 1 9 false)), (2, some (.raw [[.lf (.int .u8), .lf .str, .lf (.sl (.int .i64)), .lf (.int .i64), .lf (.int .i64), .lf (.int .i64), .lf (.int .i64), .lf (.sl (.pr (.int .i64) (.int .i64))), .lf (.sl (.int .i64)), .lf .str, .lf (.int .u8), .lf (.sl (.pr (.int .i64) (.int .i64))), .lf (.sl (.pr (.int .i64) (.int .i64)))]] 13 48 true false false))], nx := 3 }⟩, ⟨some 2, { fr := [(1, .a (.ptr 0 0 0)), (5, .a (.smz 1))], mem := [(0, some (.raw [[.lf (.sl .str), .lf (.sl (.pr (.int .u8) (.pr .str (.pr (.sl (.int .i64)) (.pr (.int .i64) (.pr (.pr (.int .i64) (.int .i64)) (.pr (.pr (.int .i64) (.pr (.sl (.pr (.int .i64) (.int .i64))) (.sl (.int .i64)))) (.pr .str (.pr (.int .u8) (.pr (.sl (.pr (.int .i64) (.int .i64))) (.sl (.pr (.int .i64) (.int .i64))))))))))))), .lf (.int .i64), .lf (.int .i64), .lf (.int .i64)]] 5 27 true false false)), (1, some (.arr .str 1 9 false))], nx := 2 }⟩]
def qiX (k : Nat) : LInst := ⟨2, qiW, qnl, fun x => qdd k k x.1 x.2.1 x.2.2.1 x.2.2.2.1 x.2.2.2.2.1 x.2.2.2.2.2.1 x.2.2.2.2.2.2.1 x.2.2.2.2.2.2.2.1 x.2.2.2.2.2.2.2.2.1 x.2.2.2.2.2.2.2.2.2⟩
theorem qC4 (k : Nat) : qg (LOk (R := DS OS.D qnl) (fun b _ σ K => LOt Ty (kps 120) 0 b σ K [qgK k]) cf (call cf k) (kps 120) Tryz.f120.ntmps k 0) 2 (lb Tryz.f120 1) :=
 qA qT (qA (qA qT qT) (qA (qA qT (qA (qA qT (qA (qA qT qT) qT)) qT)) qT))
theorem qC5 (k n : Nat) (x : DS SS.D qiW) : qdd k (n + 1) x.1 x.2.1 x.2.2.1 x.2.2.2.1 x.2.2.2.2.1 x.2.2.2.2.2.1 x.2.2.2.2.2.2.1 x.2.2.2.2.2.2.2.1 x.2.2.2.2.2.2.2.2.1 x.2.2.2.2.2.2.2.2.2 = qu SS.enc (fun σ => qx cf (fun f a b K => COt f a b K [qdv k, qsN k, qis k, qsW k, qlR k]) (fun b _ σ K => LOt Ty (kps 120) 0 b σ K [qgK k]) Tryz.f120.ntmps 2 (lb Tryz.f120 1) σ (qw Ty (kps 120 2) 0 qiW qnl fun x => qdd k n x.1 x.2.1 x.2.2.1 x.2.2.2.1 x.2.2.2.2.1 x.2.2.2.2.2.1 x.2.2.2.2.2.2.1 x.2.2.2.2.2.2.2.1 x.2.2.2.2.2.2.2.2.1 x.2.2.2.2.2.2.2.2.2)) qiW x := by kernel_rfl
theorem qC6 (k : Nat) : qL cf (call cf k) (kps 120) Tryz.f120.ntmps k 0 2 (lb Tryz.f120 1) (qiX k) :=
 qq (c := cf) (callF := call cf k) (kp := kps 120) (nt := Tryz.f120.ntmps) (k := k) (p := 0) (b := 2) (x0 := lb Tryz.f120 1) (hs := qiW) (os := qnl) (qd (qvi k)) (qC4 k) (fun n x => qdd k n x.1 x.2.1 x.2.2.1 x.2.2.2.1 x.2.2.2.2.1 x.2.2.2.2.2.1 x.2.2.2.2.2.2.1 x.2.2.2.2.2.2.2.1 x.2.2.2.2.2.2.2.2.1 x.2.2.2.2.2.2.2.2.2) (fun _ => rfl) (qC5 k)
theorem qHA (k : Nat) : qg (LOk (R := DS FS.D qqT) (fun b _ σ K => LOt Ty (kps 120) 0 b σ K [qgK k, qiX k]) cf (call cf k) (cf.keep 120) Tryz.f120.ntmps k qks.bs.length) 0 (bd Tryz.f120) :=
 qA qT (qA (qA qT (qA (qA qT qT) qT)) (qA (qA qT (qA (qA qT qT) qT)) (qA (qA qT (qt (c := cf) (callF := call cf k) (kp := kps 120) (nt := Tryz.f120.ntmps) (k := k) (p := 0) (b := 0) (x0 := lb Tryz.f120 0) (l := [qgK k, qiX k]) (qA (fun _ => qC3 k) (qA (fun h => absurd (show (2 : Nat) = 0 from h) (by decide)) qT)))) (qA qT (qA (qA qT (qt (c := cf) (callF := call cf k) (kp := kps 120) (nt := Tryz.f120.ntmps) (k := k) (p := 0) (b := 2) (x0 := lb Tryz.f120 1) (l := [qgK k, qiX k]) (qA (fun h => absurd (show (0 : Nat) = 2 from h) (by decide)) (qA (fun _ => qC6 k) qT)))) (qA (qA qT (qA (qA qT qT) qT)) (qA (qA qT (qA qT (qA (qA qT qT) qT))) (qA qT qT))))))))
theorem qHB (k : Nat) (x : qks.D) : qdm (k + 1) x.1 x.2.1 x.2.2.1 x.2.2.2.1 x.2.2.2.2 = qi cf (fun f a b K => COt f a b K [qdv k, qsN k, qis k, qsW k, qlR k]) (fun b _ σ K => LOt Ty (kps 120) 0 b σ K [qgK k, qiX k]) 120 Tryz.f120.ntmps Tryz.f120.results.toList (bd Tryz.f120) (qks.enc x).1 (qks.enc x).2 (qk FS.dec qqT) := by kernel_rfl
theorem qzr : ∀ k, qh (call cf k) (qpp k)
 | 0 => fun x y e => absurd (show (none : Option _) = some y from e) (by simp)
 | k + 1 => qe (c := cf) (k := k) (f := 120) (fn := Tryz.f120) (body := bd Tryz.f120) (sh := qks) (os := qqT) rfl Tryz.func120 rfl ⟨rfl, Nat.le_of_ble_eq_true rfl⟩ (qd (qvi k)) (qHA k) (fun x => qdm (k + 1) x.1 x.2.1 x.2.2.1 x.2.2.2.1 x.2.2.2.2) (qHB k)

def qpq (k : Nat) (f0 : List ByteArray) (f1 : List (Int × ByteArray × List Int × Int × (Int × Int) × (Int × List (Int × Int) × List Int) × ByteArray × Int × List (Int × Int) × List (Int × Int))) (f2 : Int) (f3 : Int) (f4 : Int) : Option (Int × List Int) :=
 Option.bind (qdm k f0 f1 f2 f3 f4) fun r2 =>
 if ((r2 != (0 : Int)) = true) then
 (some ((0 : Int), []))
 else
 Option.bind (qd1 k f0 f1 f2 f3 f4) fun r3 =>
 (some (r3.1, r3.2))
def qeE : Nat → List ByteArray → List (Int × ByteArray × List Int × Int × (Int × Int) × (Int × List (Int × Int) × List Int) × ByteArray × Int × List (Int × Int) × List (Int × Int)) → Int → Int → Int → Option (Int × List Int)
 | 0, _, _, _, _, _ => none
 | k + 1, f0, f1, f2, f3, f4 => qpq k f0 f1 f2 f3 f4
def qkt : FS := { vs := [.g [.lf (.sl .str), .lf (.sl (.pr (.int .u8) (.pr .str (.pr (.sl (.int .i64)) (.pr (.int .i64) (.pr (.pr (.int .i64) (.int .i64)) (.pr (.pr (.int .i64) (.pr (.sl (.pr (.int .i64) (.int .i64))) (.sl (.int .i64)))) (.pr .str (.pr (.int .u8) (.pr (.sl (.pr (.int .i64) (.int .i64))) (.sl (.pr (.int .i64) (.int .i64))))))))))))), .lf (.int .i64), .lf (.int .i64), .lf (.int .i64)]], bs := [] }
def qqU : List FS := [{ vs := [.a (.lf (.int .i64)), .a (.lf (.sl (.int .i64)))], bs := [] }]
def qvj (k : Nat) : Inst := ⟨129, qkt, qqU, fun x => qeE k x.1 x.2.1 x.2.2.1 x.2.2.2.1 x.2.2.2.2⟩
theorem qHC (k : Nat) : qp (call cf k) [qpp k, qlR k] := qA (qzr k) (qA (qzq k) qT)
theorem qHD (k : Nat) : qg (LOk (R := DS FS.D qqU) (fun b _ σ K => LOt Ty (kps 129) 0 b σ K []) cf (call cf k) (cf.keep 129) Tryz.f129.ntmps k qkt.bs.length) 0 (bd Tryz.f129) :=
 qA qT (qA (qA qT (qA (qA qT qT) qT)) (qA qT qT))
theorem qHE (k : Nat) (x : qkt.D) : qeE (k + 1) x.1 x.2.1 x.2.2.1 x.2.2.2.1 x.2.2.2.2 = qi cf (fun f a b K => COt f a b K [qpp k, qlR k]) (fun b _ σ K => LOt Ty (kps 129) 0 b σ K []) 129 Tryz.f129.ntmps Tryz.f129.results.toList (bd Tryz.f129) (qkt.enc x).1 (qkt.enc x).2 (qk FS.dec qqU) := by kernel_rfl
theorem qHF : ∀ k, qh (call cf k) (qvj k)
 | 0 => fun x y e => absurd (show (none : Option _) = some y from e) (by simp)
 | k + 1 => qe (c := cf) (k := k) (f := 129) (fn := Tryz.f129) (body := bd Tryz.f129) (sh := qkt) (os := qqU) rfl Tryz.func129 rfl ⟨rfl, Nat.le_of_ble_eq_true rfl⟩ (qd (qHC k)) (qHD k) (fun x => qeE (k + 1) x.1 x.2.1 x.2.2.1 x.2.2.2.1 x.2.2.2.2) (qHE k)

def qnm (k : Nat) (rec : Nat → List (Int × ByteArray × List Int × Int × (Int × Int) × (Int × List (Int × Int) × List Int) × ByteArray × Int × List (Int × Int) × List (Int × Int)) → Int → Int → List Int → Option (Nat × List Int)) (l : Nat) (x : List (Int × ByteArray × List Int × Int × (Int × Int) × (Int × List (Int × Int) × List Int) × ByteArray × Int × List (Int × Int) × List (Int × Int))) (x1 : Int) (x2 : Int) (ls : List Int) : Option (Nat × List Int) :=
 if ((decide (x2 < x1)) = true) then
 if ((0 : Int) ≤ x2) then
 Option.bind (x)[(Int.toNat x2)]? fun x3 =>
 if ((x3.1 == (100 : Int)) = false) then
 if ((x3.1 == (115 : Int)) = true) then
 if (l ≤ (List.length ls)) then
 if (((l + (List.length (List.take 1 (x2 :: [])))) * 8) ≤ 140737488355328) then
 rec (l + (List.length (List.take 1 (x2 :: [])))) x x1 (IntKind.wrap .i64 (x2 + (1 : Int))) ((List.take l ls) ++ (List.take 1 (x2 :: [])))
 else
 none
 else
 none
 else
 rec l x x1 (IntKind.wrap .i64 (x2 + (1 : Int))) ls
 else
 if (l ≤ (List.length ls)) then
 if (((l + (List.length (List.take 1 (x2 :: [])))) * 8) ≤ 140737488355328) then
 rec (l + (List.length (List.take 1 (x2 :: [])))) x x1 (IntKind.wrap .i64 (x2 + (1 : Int))) ((List.take l ls) ++ (List.take 1 (x2 :: [])))
 else
 none
 else
 none
 else
 none
 else
 (some (l, ls))
def qdB (k n : Nat) : Nat → List (Int × ByteArray × List Int × Int × (Int × Int) × (Int × List (Int × Int) × List Int) × ByteArray × Int × List (Int × Int) × List (Int × Int)) → Int → Int → List Int → Option (Nat × List Int) := Nat.rec (fun _ _ _ _ _ => none) (fun _ r => qnm k r) n
def qsX (k : Nat) (f0 : List ByteArray) (f1 : List (Int × ByteArray × List Int × Int × (Int × Int) × (Int × List (Int × Int) × List Int) × ByteArray × Int × List (Int × Int) × List (Int × Int))) (f2 : Int) (f3 : Int) (f4 : Int) : Option (List Int) :=
 Option.bind (qdB k k 0 f1 (((List.length f1) : Nat) : Int) (0 : Int) []) fun r3 =>
 if ((0 + r3.1) ≤ (List.length r3.2)) then
 (some (List.take r3.1 r3.2))
 else
 none
def qfJ : Nat → List ByteArray → List (Int × ByteArray × List Int × Int × (Int × Int) × (Int × List (Int × Int) × List Int) × ByteArray × Int × List (Int × Int) × List (Int × Int)) → Int → Int → Int → Option (List Int)
 | 0, _, _, _, _, _ => none
 | k + 1, f0, f1, f2, f3, f4 => qsX k f0 f1 f2 f3 f4
def qhl : FS := { vs := [.g [.lf (.sl .str), .lf (.sl (.pr (.int .u8) (.pr .str (.pr (.sl (.int .i64)) (.pr (.int .i64) (.pr (.pr (.int .i64) (.int .i64)) (.pr (.pr (.int .i64) (.pr (.sl (.pr (.int .i64) (.int .i64))) (.sl (.int .i64)))) (.pr .str (.pr (.int .u8) (.pr (.sl (.pr (.int .i64) (.int .i64))) (.sl (.pr (.int .i64) (.int .i64))))))))))))), .lf (.int .i64), .lf (.int .i64), .lf (.int .i64)]], bs := [] }
def qnn : List FS := [{ vs := [.a (.lf (.sl (.int .i64)))], bs := [] }]
def qqV (k : Nat) : Inst := ⟨130, qhl, qnn, fun x => qfJ k x.1 x.2.1 x.2.2.1 x.2.2.2.1 x.2.2.2.2⟩
theorem qwF (k : Nat) : qp (call cf k) [] := True.intro
def qiY : List SS := [{ fr := [(3, .a (.smz 0)), (7, .a (.lf (.sl (.pr (.int .u8) (.pr .str (.pr (.sl (.int .i64)) (.pr (.int .i64) (.pr (.pr (.int .i64) (.int .i64)) (.pr (.pr (.int .i64) (.pr (.sl (.pr (.int .i64) (.int .i64))) (.sl (.int .i64)))) (.pr .str (.pr (.int .u8) (.pr (.sl (.pr (.int .i64) (.int .i64))) (.sl (.pr (.int .i64) (.int .i64))))))))))))))), (8, .a (.lf (.int .i64))), (9, .a (.lf (.int .i64)))], mem := [(0, some (.arr (.int .i64) 1 3 false))], nx := 1 }]
def qno : List OS := [⟨some 0, { fr := [(3, .a (.smz 0))], mem := [(0, some (.arr (.int .i64) 1 3 false))], nx := 1 }⟩]
def qnp (k : Nat) : LInst := ⟨0, qiY, qno, fun x => qdB k k x.1 x.2.1 x.2.2.1 x.2.2.2.1 x.2.2.2.2⟩
theorem qC7 (k : Nat) : qg (LOk (R := DS OS.D qno) (fun b _ σ K => LOt Ty (kps 130) 0 b σ K []) cf (call cf k) (kps 130) Tryz.f130.ntmps k 0) 0 (lb Tryz.f130 0) :=
 qA qT (qA (qA qT qT) (qA (qA qT (qA qT (qA qT qT))) qT))
theorem qC8 (k n : Nat) (x : DS SS.D qiY) : qdB k (n + 1) x.1 x.2.1 x.2.2.1 x.2.2.2.1 x.2.2.2.2 = qu SS.enc (fun σ => qx cf (fun f a b K => COt f a b K []) (fun b _ σ K => LOt Ty (kps 130) 0 b σ K []) Tryz.f130.ntmps 0 (lb Tryz.f130 0) σ (qw Ty (kps 130 0) 0 qiY qno fun x => qdB k n x.1 x.2.1 x.2.2.1 x.2.2.2.1 x.2.2.2.2)) qiY x := by kernel_rfl
theorem qC9 (k : Nat) : qL cf (call cf k) (kps 130) Tryz.f130.ntmps k 0 0 (lb Tryz.f130 0) (qnp k) :=
 qq (c := cf) (callF := call cf k) (kp := kps 130) (nt := Tryz.f130.ntmps) (k := k) (p := 0) (b := 0) (x0 := lb Tryz.f130 0) (hs := qiY) (os := qno) (qd (qwF k)) (qC7 k) (fun n x => qdB k n x.1 x.2.1 x.2.2.1 x.2.2.2.1 x.2.2.2.2) (fun _ => rfl) (qC8 k)
theorem qDa (k : Nat) : qg (LOk (R := DS FS.D qnn) (fun b _ σ K => LOt Ty (kps 130) 0 b σ K [qnp k]) cf (call cf k) (cf.keep 130) Tryz.f130.ntmps k qhl.bs.length) 0 (bd Tryz.f130) :=
 qA qT (qA qT (qA (qA qT (qt (c := cf) (callF := call cf k) (kp := kps 130) (nt := Tryz.f130.ntmps) (k := k) (p := 0) (b := 0) (x0 := lb Tryz.f130 0) (l := [qnp k]) (qA (fun _ => qC9 k) qT))) (qA qT qT)))
theorem qDb (k : Nat) (x : qhl.D) : qfJ (k + 1) x.1 x.2.1 x.2.2.1 x.2.2.2.1 x.2.2.2.2 = qi cf (fun f a b K => COt f a b K []) (fun b _ σ K => LOt Ty (kps 130) 0 b σ K [qnp k]) 130 Tryz.f130.ntmps Tryz.f130.results.toList (bd Tryz.f130) (qhl.enc x).1 (qhl.enc x).2 (qk FS.dec qnn) := by kernel_rfl
theorem qDc : ∀ k, qh (call cf k) (qqV k)
 | 0 => fun x y e => absurd (show (none : Option _) = some y from e) (by simp)
 | k + 1 => qe (c := cf) (k := k) (f := 130) (fn := Tryz.f130) (body := bd Tryz.f130) (sh := qhl) (os := qnn) rfl Tryz.func130 rfl ⟨rfl, Nat.le_of_ble_eq_true rfl⟩ (qd (qwF k)) (qDa k) (fun x => qfJ (k + 1) x.1 x.2.1 x.2.2.1 x.2.2.2.1 x.2.2.2.2) (qDb k)

def qpr (k : Nat) (v : Int) : Option (Bool) :=
 if ((decide (v > (1000000000000000000 : Int))) = false) then
 (some (decide (v < (-(1000000000000000000 : Int)))))
 else
 (some true)
def qeF : Nat → Int → Option (Bool)
 | 0, _ => none
 | k + 1, v => qpr k v
def qhm : FS := { vs := [.a (.lf (.int .i64))], bs := [] }
def qnq : List FS := [{ vs := [.a (.lf .bool)], bs := [] }]
def qqW (k : Nat) : Inst := ⟨191, qhm, qnq, fun x => qeF k x⟩
theorem qDd (k : Nat) : qp (call cf k) [] := True.intro
theorem qDe (k : Nat) : qg (LOk (R := DS FS.D qnq) (fun b _ σ K => LOt Ty (kps 191) 0 b σ K []) cf (call cf k) (cf.keep 191) Tryz.f191.ntmps k qhm.bs.length) 0 (bd Tryz.f191) :=
 qA qT (qA qT qT)
theorem qDf (k : Nat) (x : qhm.D) : qeF (k + 1) x = qi cf (fun f a b K => COt f a b K []) (fun b _ σ K => LOt Ty (kps 191) 0 b σ K []) 191 Tryz.f191.ntmps Tryz.f191.results.toList (bd Tryz.f191) (qhm.enc x).1 (qhm.enc x).2 (qk FS.dec qnq) := by kernel_rfl
theorem qDg : ∀ k, qh (call cf k) (qqW k)
 | 0 => fun x y e => absurd (show (none : Option _) = some y from e) (by simp)
 | k + 1 => qe (c := cf) (k := k) (f := 191) (fn := Tryz.f191) (body := bd Tryz.f191) (sh := qhm) (os := qnq) rfl Tryz.func191 rfl ⟨rfl, Nat.le_of_ble_eq_true rfl⟩ (qd (qDd k)) (qDe k) (fun x => qeF (k + 1) x) (qDf k)

def qd7 (k : Nat) (rec : List Int → Int → Int → Option ((Int) ⊕ (Unit))) (s : List Int) (x : Int) (x1 : Int) : Option ((Int) ⊕ (Unit)) :=
 if ((decide (x1 < x)) = true) then
 if ((0 : Int) ≤ x1) then
 Option.bind (s)[(Int.toNat x1)]? fun x2 =>
 Option.bind (qeF k x2) fun r4 =>
 if (r4 = true) then
 (some (Sum.inl x1))
 else
 rec s x (IntKind.wrap .i64 (x1 + (1 : Int)))
 else
 none
 else
 (some (Sum.inr ()))
def qah (k n : Nat) : List Int → Int → Int → Option ((Int) ⊕ (Unit)) := Nat.rec (fun _ _ _ => none) (fun _ r => qd7 k r) n
def qeJ (k : Nat) (s : List Int) : Option (Int) :=
 Option.bind (qah k k s (((List.length s) : Nat) : Int) (0 : Int)) fun r4 =>
 qc r4
 (fun r4 =>
 (some r4))
 (fun r4 =>
 (some (-(1 : Int))))
def qaR : Nat → List Int → Option (Int)
 | 0, _ => none
 | k + 1, s => qeJ k s
def qhn : FS := { vs := [.a (.lf (.sl (.int .i64))), .a (.fn 191 [])], bs := [] }
def qnr : List FS := [{ vs := [.a (.lf (.int .i64))], bs := [] }]
def qvk (k : Nat) : Inst := ⟨197, qhn, qnr, fun x => qaR k x⟩
theorem qwG (k : Nat) : qp (call cf k) [qqW k] := qA (qDg k) qT
def qiZ : List SS := [{ fr := [(0, .a (.lf (.sl (.int .i64)))), (1, .a (.fn 191 [])), (7, .a (.lf (.int .i64))), (8, .a (.lf (.int .i64)))], mem := [], nx := 0 }]
def qns : List OS := [⟨none, { fr := [(4, .a (.lf (.int .i64)))], mem := [], nx := 0 }⟩, ⟨some 0, { fr := [], mem := [], nx := 0 }⟩]
def qnt (k : Nat) : LInst := ⟨0, qiZ, qns, fun x => qah k k x.1 x.2.1 x.2.2⟩
theorem qDh (k : Nat) : qg (LOk (R := DS OS.D qns) (fun b _ σ K => LOt Ty (kps 197) 0 b σ K []) cf (call cf k) (kps 197) Tryz.f197.ntmps k 0) 0 (lb Tryz.f197 0) :=
 qA qT (qA (qA qT qT) (qA (qA qT (qA qT (qA (qA qT qT) qT))) qT))
theorem qDi (k n : Nat) (x : DS SS.D qiZ) : qah k (n + 1) x.1 x.2.1 x.2.2 = qu SS.enc (fun σ => qx cf (fun f a b K => COt f a b K [qqW k]) (fun b _ σ K => LOt Ty (kps 197) 0 b σ K []) Tryz.f197.ntmps 0 (lb Tryz.f197 0) σ (qw Ty (kps 197 0) 0 qiZ qns fun x => qah k n x.1 x.2.1 x.2.2)) qiZ x := by kernel_rfl
theorem qDj (k : Nat) : qL cf (call cf k) (kps 197) Tryz.f197.ntmps k 0 0 (lb Tryz.f197 0) (qnt k) :=
 qq (c := cf) (callF := call cf k) (kp := kps 197) (nt := Tryz.f197.ntmps) (k := k) (p := 0) (b := 0) (x0 := lb Tryz.f197 0) (hs := qiZ) (os := qns) (qd (qwG k)) (qDh k) (fun n x => qah k n x.1 x.2.1 x.2.2) (fun _ => rfl) (qDi k)
theorem qDk (k : Nat) : qg (LOk (R := DS FS.D qnr) (fun b _ σ K => LOt Ty (kps 197) 0 b σ K [qnt k]) cf (call cf k) (cf.keep 197) Tryz.f197.ntmps k qhn.bs.length) 0 (bd Tryz.f197) :=
 qA qT (qA (qA qT (qt (c := cf) (callF := call cf k) (kp := kps 197) (nt := Tryz.f197.ntmps) (k := k) (p := 0) (b := 0) (x0 := lb Tryz.f197 0) (l := [qnt k]) (qA (fun _ => qDj k) qT))) (qA qT qT))
theorem qDl (k : Nat) (x : qhn.D) : qaR (k + 1) x = qi cf (fun f a b K => COt f a b K [qqW k]) (fun b _ σ K => LOt Ty (kps 197) 0 b σ K [qnt k]) 197 Tryz.f197.ntmps Tryz.f197.results.toList (bd Tryz.f197) (qhn.enc x).1 (qhn.enc x).2 (qk FS.dec qnr) := by kernel_rfl
theorem qDm : ∀ k, qh (call cf k) (qvk k)
 | 0 => fun x y e => absurd (show (none : Option _) = some y from e) (by simp)
 | k + 1 => qe (c := cf) (k := k) (f := 197) (fn := Tryz.f197) (body := bd Tryz.f197) (sh := qhn) (os := qnr) rfl Tryz.func197 rfl ⟨rfl, Nat.le_of_ble_eq_true rfl⟩ (qd (qwG k)) (qDk k) (fun x => qaR (k + 1) x) (qDl k)

def qd8 (k : Nat) (s : List Int) : Option (Bool) :=
 Option.bind (qaR k s) fun r4 =>
 (some (decide (r4 ≥ (0 : Int))))
def qaF : Nat → List Int → Option (Bool)
 | 0, _ => none
 | k + 1, s => qd8 k s
def qku : FS := { vs := [.a (.lf (.sl (.int .i64))), .a (.fn 191 [])], bs := [] }
def qqX : List FS := [{ vs := [.a (.lf .bool)], bs := [] }]
def qx8 (k : Nat) : Inst := ⟨139, qku, qqX, fun x => qaF k x⟩
theorem qHG (k : Nat) : qp (call cf k) [qvk k] := qA (qDm k) qT
theorem qHH (k : Nat) : qg (LOk (R := DS FS.D qqX) (fun b _ σ K => LOt Ty (kps 139) 0 b σ K []) cf (call cf k) (cf.keep 139) Tryz.f139.ntmps k qku.bs.length) 0 (bd Tryz.f139) :=
 qA qT (qA qT qT)
theorem qHI (k : Nat) (x : qku.D) : qaF (k + 1) x = qi cf (fun f a b K => COt f a b K [qvk k]) (fun b _ σ K => LOt Ty (kps 139) 0 b σ K []) 139 Tryz.f139.ntmps Tryz.f139.results.toList (bd Tryz.f139) (qku.enc x).1 (qku.enc x).2 (qk FS.dec qqX) := by kernel_rfl
theorem qHJ : ∀ k, qh (call cf k) (qx8 k)
 | 0 => fun x y e => absurd (show (none : Option _) = some y from e) (by simp)
 | k + 1 => qe (c := cf) (k := k) (f := 139) (fn := Tryz.f139) (body := bd Tryz.f139) (sh := qku) (os := qqX) rfl Tryz.func139 rfl ⟨rfl, Nat.le_of_ble_eq_true rfl⟩ (qd (qHG k)) (qHH k) (fun x => qaF (k + 1) x) (qHI k)

def qsY (k : Nat) (l : List Int) : Option (Bool) :=
 Option.bind (qaF k l) fun r4 =>
 (some (!r4))
def qeo : Nat → List Int → Option (Bool)
 | 0, _ => none
 | k + 1, l => qsY k l
def qho : FS := { vs := [.a (.lf (.sl (.int .i64)))], bs := [] }
def qnu : List FS := [{ vs := [.a (.lf .bool)], bs := [] }]
def qqY (k : Nat) : Inst := ⟨131, qho, qnu, fun x => qeo k x⟩
theorem qDn (k : Nat) : qp (call cf k) [qx8 k] := qA (qHJ k) qT
theorem qDo (k : Nat) : qg (LOk (R := DS FS.D qnu) (fun b _ σ K => LOt Ty (kps 131) 0 b σ K []) cf (call cf k) (cf.keep 131) Tryz.f131.ntmps k qho.bs.length) 0 (bd Tryz.f131) :=
 qA qT (qA qT qT)
theorem qDp (k : Nat) (x : qho.D) : qeo (k + 1) x = qi cf (fun f a b K => COt f a b K [qx8 k]) (fun b _ σ K => LOt Ty (kps 131) 0 b σ K []) 131 Tryz.f131.ntmps Tryz.f131.results.toList (bd Tryz.f131) (qho.enc x).1 (qho.enc x).2 (qk FS.dec qnu) := by kernel_rfl
theorem qDq : ∀ k, qh (call cf k) (qqY k)
 | 0 => fun x y e => absurd (show (none : Option _) = some y from e) (by simp)
 | k + 1 => qe (c := cf) (k := k) (f := 131) (fn := Tryz.f131) (body := bd Tryz.f131) (sh := qho) (os := qnu) rfl Tryz.func131 rfl ⟨rfl, Nat.le_of_ble_eq_true rfl⟩ (qd (qDn k)) (qDo k) (fun x => qeo (k + 1) x) (qDp k)

def qsZ (k : Nat) (m0 : ByteArray) (m1 : Int) (m2 : List (Int × Int)) (m3 : List (Int × Int)) : Option (Int) :=
 Option.bind (qdA k m0 m1 m2 m3) fun r6 =>
 if ((!r6) = true) then
 (some (0 : Int))
 else
 (some (((List.length m2) : Nat) : Int))
def qfK : Nat → ByteArray → Int → List (Int × Int) → List (Int × Int) → Option (Int)
 | 0, _, _, _, _ => none
 | k + 1, m0, m1, m2, m3 => qsZ k m0 m1 m2 m3
def qkv : FS := { vs := [.g [.lf .str, .lf (.int .u8), .lf (.sl (.pr (.int .i64) (.int .i64))), .lf (.sl (.pr (.int .i64) (.int .i64)))]], bs := [] }
def qqZ : List FS := [{ vs := [.a (.lf (.int .i64))], bs := [] }]
def qvl (k : Nat) : Inst := ⟨132, qkv, qqZ, fun x => qfK k x.1 x.2.1 x.2.2.1 x.2.2.2⟩
theorem qHK (k : Nat) : qp (call cf k) [qpk k] := qA (qzn k) qT
theorem qHL (k : Nat) : qg (LOk (R := DS FS.D qqZ) (fun b _ σ K => LOt Ty (kps 132) 0 b σ K []) cf (call cf k) (cf.keep 132) Tryz.f132.ntmps k qkv.bs.length) 0 (bd Tryz.f132) :=
 qA qT (qA (qA qT (qA (qA qT qT) qT)) (qA qT qT))
theorem qHM (k : Nat) (x : qkv.D) : qfK (k + 1) x.1 x.2.1 x.2.2.1 x.2.2.2 = qi cf (fun f a b K => COt f a b K [qpk k]) (fun b _ σ K => LOt Ty (kps 132) 0 b σ K []) 132 Tryz.f132.ntmps Tryz.f132.results.toList (bd Tryz.f132) (qkv.enc x).1 (qkv.enc x).2 (qk FS.dec qqZ) := by kernel_rfl
theorem qHN : ∀ k, qh (call cf k) (qvl k)
 | 0 => fun x y e => absurd (show (none : Option _) = some y from e) (by simp)
 | k + 1 => qe (c := cf) (k := k) (f := 132) (fn := Tryz.f132) (body := bd Tryz.f132) (sh := qkv) (os := qqZ) rfl Tryz.func132 rfl ⟨rfl, Nat.le_of_ble_eq_true rfl⟩ (qd (qHK k)) (qHL k) (fun x => qfK (k + 1) x.1 x.2.1 x.2.2.1 x.2.2.2) (qHM k)

def qps (k : Nat) (rec : List Int → Int → Int → List ByteArray → List (Int × ByteArray × List Int × Int × (Int × Int) × (Int × List (Int × Int) × List Int) × ByteArray × Int × List (Int × Int) × List (Int × Int)) → Int → Int → Int → Int → List Int → List Int → List Int → Option ((Int × List ByteArray × List (Int × ByteArray × List Int × Int × (Int × Int) × (Int × List (Int × Int) × List Int) × ByteArray × Int × List (Int × Int) × List (Int × Int)) × Int × Int × Int × Int × List Int × List Int × List Int) ⊕ (List ByteArray × List (Int × ByteArray × List Int × Int × (Int × Int) × (Int × List (Int × Int) × List Int) × ByteArray × Int × List (Int × Int) × List (Int × Int)) × Int × Int × Int × Int × List Int × List Int × List Int))) (x : List Int) (x1 : Int) (x2 : Int) (f0 : List ByteArray) (f1 : List (Int × ByteArray × List Int × Int × (Int × Int) × (Int × List (Int × Int) × List Int) × ByteArray × Int × List (Int × Int) × List (Int × Int))) (f2 : Int) (f3 : Int) (f4 : Int) (st0 : Int) (st1 : List Int) (st2 : List Int) (st3 : List Int) : Option ((Int × List ByteArray × List (Int × ByteArray × List Int × Int × (Int × Int) × (Int × List (Int × Int) × List Int) × ByteArray × Int × List (Int × Int) × List (Int × Int)) × Int × Int × Int × Int × List Int × List Int × List Int) ⊕ (List ByteArray × List (Int × ByteArray × List Int × Int × (Int × Int) × (Int × List (Int × Int) × List Int) × ByteArray × Int × List (Int × Int) × List (Int × Int)) × Int × Int × Int × Int × List Int × List Int × List Int)) :=
 if ((decide (x2 < x1)) = true) then
 if ((0 : Int) ≤ x2) then
 Option.bind (x)[(Int.toNat x2)]? fun x3 =>
 if ((0 : Int) ≤ x2) then
 Option.bind (st3)[(Int.toNat x2)]? fun x4 =>
 if ((decide (x4 < (0 : Int))) = false) then
 if ((0 : Int) ≤ x2) then
 Option.bind (st3)[(Int.toNat x2)]? fun x5 =>
 if ((0 : Int) ≤ x3) then
 Option.bind (f1)[(Int.toNat x3)]? fun x6 =>
 Option.bind (qfK k x6.2.2.2.2.2.2.1 x6.2.2.2.2.2.2.2.1 x6.2.2.2.2.2.2.2.2.1 x6.2.2.2.2.2.2.2.2.2) fun r6 =>
 if ((decide (x5 ≥ r6)) = true) then
 (some (Sum.inl ((190 : Int), f0, f1, f2, f3, f4, st0, st1, st2, st3)))
 else
 rec x x1 (IntKind.wrap .i64 (x2 + (1 : Int))) f0 f1 f2 f3 f4 st0 st1 st2 st3
 else
 none
 else
 none
 else
 (some (Sum.inl ((190 : Int), f0, f1, f2, f3, f4, st0, st1, st2, st3)))
 else
 none
 else
 none
 else
 (some (Sum.inr (f0, f1, f2, f3, f4, st0, st1, st2, st3)))
def qdU (k n : Nat) : List Int → Int → Int → List ByteArray → List (Int × ByteArray × List Int × Int × (Int × Int) × (Int × List (Int × Int) × List Int) × ByteArray × Int × List (Int × Int) × List (Int × Int)) → Int → Int → Int → Int → List Int → List Int → List Int → Option ((Int × List ByteArray × List (Int × ByteArray × List Int × Int × (Int × Int) × (Int × List (Int × Int) × List Int) × ByteArray × Int × List (Int × Int) × List (Int × Int)) × Int × Int × Int × Int × List Int × List Int × List Int) ⊕ (List ByteArray × List (Int × ByteArray × List Int × Int × (Int × Int) × (Int × List (Int × Int) × List Int) × ByteArray × Int × List (Int × Int) × List (Int × Int)) × Int × Int × Int × Int × List Int × List Int × List Int)) := Nat.rec (fun _ _ _ _ _ _ _ _ _ _ _ _ => none) (fun _ r => qps k r) n
def qtN (k : Nat) (f0 : List ByteArray) (f1 : List (Int × ByteArray × List Int × Int × (Int × Int) × (Int × List (Int × Int) × List Int) × ByteArray × Int × List (Int × Int) × List (Int × Int))) (f2 : Int) (f3 : Int) (f4 : Int) (st0 : Int) (st1 : List Int) (st2 : List Int) (st3 : List Int) : Option (Int) :=
 Option.bind (qdm k f0 f1 f2 f3 f4) fun r1 =>
 if ((r1 != (0 : Int)) = true) then
 (some r1)
 else
 Option.bind (qeE k f0 f1 f2 f3 f4) fun r2 =>
 Option.bind (qfJ k f0 f1 f2 f3 f4) fun r3 =>
 if ((decide (st0 < (0 : Int))) = false) then
 if ((decide (st0 > (1000000000 : Int))) = false) then
 if (((((List.length st1) : Nat) : Int) != r2.1) = false) then
 if (((((List.length st2) : Nat) : Int) != (((List.length f1) : Nat) : Int)) = false) then
 if (((((List.length st3) : Nat) : Int) != (((List.length r3) : Nat) : Int)) = false) then
 Option.bind (qeo k st1) fun r4 =>
 if ((!r4) = false) then
 Option.bind (qeo k st2) fun r5 =>
 if ((!r5) = true) then
 (some (190 : Int))
 else
 Option.bind (qdU k k r3 (((List.length r3) : Nat) : Int) (0 : Int) f0 f1 f2 f3 f4 st0 st1 st2 st3) fun r6 =>
 qc r6
 (fun r6 =>
 (some r6.1))
 (fun r6 =>
 (some (0 : Int)))
 else
 (some (190 : Int))
 else
 (some (190 : Int))
 else
 (some (190 : Int))
 else
 (some (190 : Int))
 else
 (some (190 : Int))
 else
 (some (190 : Int))
def qf3 : Nat → List ByteArray → List (Int × ByteArray × List Int × Int × (Int × Int) × (Int × List (Int × Int) × List Int) × ByteArray × Int × List (Int × Int) × List (Int × Int)) → Int → Int → Int → Int → List Int → List Int → List Int → Option (Int)
 | 0, _, _, _, _, _, _, _, _, _ => none
 | k + 1, f0, f1, f2, f3, f4, st0, st1, st2, st3 => qtN k f0 f1 f2 f3 f4 st0 st1 st2 st3
def qhp : FS := { vs := [.g [.lf (.sl .str), .lf (.sl (.pr (.int .u8) (.pr .str (.pr (.sl (.int .i64)) (.pr (.int .i64) (.pr (.pr (.int .i64) (.int .i64)) (.pr (.pr (.int .i64) (.pr (.sl (.pr (.int .i64) (.int .i64))) (.sl (.int .i64)))) (.pr .str (.pr (.int .u8) (.pr (.sl (.pr (.int .i64) (.int .i64))) (.sl (.pr (.int .i64) (.int .i64))))))))))))), .lf (.int .i64), .lf (.int .i64), .lf (.int .i64)], .g [.lf (.int .i64), .lf (.sl (.int .i64)), .lf (.sl (.int .i64)), .lf (.sl (.int .i64))]], bs := [] }
def qnv : List FS := [{ vs := [.a (.lf (.int .i64))], bs := [] }]
def qq0 (k : Nat) : Inst := ⟨73, qhp, qnv, fun x => qf3 k x.1 x.2.1 x.2.2.1 x.2.2.2.1 x.2.2.2.2.1 x.2.2.2.2.2.1 x.2.2.2.2.2.2.1 x.2.2.2.2.2.2.2.1 x.2.2.2.2.2.2.2.2⟩
theorem qwH (k : Nat) : qp (call cf k) [qpp k, qvj k, qqV k, qqY k, qvl k] := qA (qzr k) (qA (qHF k) (qA (qDc k) (qA (qDq k) (qA (qHN k) qT))))
def qi0 : List SS := [{ fr := [(2, .a (.ptr 0 0 0)), (3, .a (.ptr 1 0 0)), (67, .a (.lf (.sl (.int .i64)))), (68, .a (.lf (.int .i64))), (69, .a (.lf (.int .i64)))], mem := [(0, some (.raw [[.lf (.sl .str), .lf (.sl (.pr (.int .u8) (.pr .str (.pr (.sl (.int .i64)) (.pr (.int .i64) (.pr (.pr (.int .i64) (.int .i64)) (.pr (.pr (.int .i64) (.pr (.sl (.pr (.int .i64) (.int .i64))) (.sl (.int .i64)))) (.pr .str (.pr (.int .u8) (.pr (.sl (.pr (.int .i64) (.int .i64))) (.sl (.pr (.int .i64) (.int .i64))))))))))))), .lf (.int .i64), .lf (.int .i64), .lf (.int .i64)]] 5 27 true false false)), (1, some (.raw [[.lf (.int .i64), .lf (.sl (.int .i64)), .lf (.sl (.int .i64)), .lf (.sl (.int .i64))]] 4 53 true false false))], nx := 2 }]
def qnw : List OS := [⟨none, { fr := [(4, .a (.lf (.int .i64)))], mem := [(0, some (.raw [[.lf (.sl .str), .lf (.sl (.pr (.int .u8) (.pr .str (.pr (.sl (.int .i64)) (.pr (.int .i64) (.pr (.pr (.int .i64) (.int .i64)) (.pr (.pr (.int .i64) (.pr (.sl (.pr (.int .i64) (.int .i64))) (.sl (.int .i64)))) (.pr .str (.pr (.int .u8) (.pr (.sl (.pr (.int .i64) (.int .i64))) (.sl (.pr (.int .i64) (.int .i64))))))))))))), .lf (.int .i64), .lf (.int .i64), .lf (.int .i64)]] 5 27 true false false)), (1, some (.raw [[.lf (.int .i64), .lf (.sl (.int .i64)), .lf (.sl (.int .i64)), .lf (.sl (.int .i64))]] 4 53 true false false))], nx := 2 }⟩, ⟨some 0, { fr := [], mem := [(0, some (.raw [[.lf (.sl .str), .lf (.sl (.pr (.int .u8) (.pr .str (.pr (.sl (.int .i64)) (.pr (.int .i64) (.pr (.pr (.int .i64) (.int .i64)) (.pr (.pr (.int .i64) (.pr (.sl (.pr (.int .i64) (.int .i64))) (.sl (.int .i64)))) (.pr .str (.pr (.int .u8) (.pr (.sl (.pr (.int .i64) (.int .i64))) (.sl (.pr (.int .i64) (.int .i64))))))))))))), .lf (.int .i64), .lf (.int .i64), .lf (.int .i64)]] 5 27 true false false)), (1, some (.raw [[.lf (.int .i64), .lf (.sl (.int .i64)), .lf (.sl (.int .i64)), .lf (.sl (.int .i64))]] 4 53 true false false))], nx := 2 }⟩]
def qnx (k : Nat) : LInst := ⟨0, qi0, qnw, fun x => qdU k k x.1 x.2.1 x.2.2.1 x.2.2.2.1 x.2.2.2.2.1 x.2.2.2.2.2.1 x.2.2.2.2.2.2.1 x.2.2.2.2.2.2.2.1 x.2.2.2.2.2.2.2.2.1 x.2.2.2.2.2.2.2.2.2.1 x.2.2.2.2.2.2.2.2.2.2.1 x.2.2.2.2.2.2.2.2.2.2.2⟩
theorem qDr (k : Nat) : qg (LOk (R := DS OS.D qnw) (fun b _ σ K => LOt Ty (kps 73) 0 b σ K []) cf (call cf k) (kps 73) Tryz.f73.ntmps k 0) 0 (lb Tryz.f73 0) :=
 qA qT (qA (qA qT qT) (qA (qA qT (qA qT (qA (qA qT qT) qT))) qT))
theorem qDs (k n : Nat) (x : DS SS.D qi0) : qdU k (n + 1) x.1 x.2.1 x.2.2.1 x.2.2.2.1 x.2.2.2.2.1 x.2.2.2.2.2.1 x.2.2.2.2.2.2.1 x.2.2.2.2.2.2.2.1 x.2.2.2.2.2.2.2.2.1 x.2.2.2.2.2.2.2.2.2.1 x.2.2.2.2.2.2.2.2.2.2.1 x.2.2.2.2.2.2.2.2.2.2.2 = qu SS.enc (fun σ => qx cf (fun f a b K => COt f a b K [qpp k, qvj k, qqV k, qqY k, qvl k]) (fun b _ σ K => LOt Ty (kps 73) 0 b σ K []) Tryz.f73.ntmps 0 (lb Tryz.f73 0) σ (qw Ty (kps 73 0) 0 qi0 qnw fun x => qdU k n x.1 x.2.1 x.2.2.1 x.2.2.2.1 x.2.2.2.2.1 x.2.2.2.2.2.1 x.2.2.2.2.2.2.1 x.2.2.2.2.2.2.2.1 x.2.2.2.2.2.2.2.2.1 x.2.2.2.2.2.2.2.2.2.1 x.2.2.2.2.2.2.2.2.2.2.1 x.2.2.2.2.2.2.2.2.2.2.2)) qi0 x := by kernel_rfl
theorem qDt (k : Nat) : qL cf (call cf k) (kps 73) Tryz.f73.ntmps k 0 0 (lb Tryz.f73 0) (qnx k) :=
 qq (c := cf) (callF := call cf k) (kp := kps 73) (nt := Tryz.f73.ntmps) (k := k) (p := 0) (b := 0) (x0 := lb Tryz.f73 0) (hs := qi0) (os := qnw) (qd (qwH k)) (qDr k) (fun n x => qdU k n x.1 x.2.1 x.2.2.1 x.2.2.2.1 x.2.2.2.2.1 x.2.2.2.2.2.1 x.2.2.2.2.2.2.1 x.2.2.2.2.2.2.2.1 x.2.2.2.2.2.2.2.2.1 x.2.2.2.2.2.2.2.2.2.1 x.2.2.2.2.2.2.2.2.2.2.1 x.2.2.2.2.2.2.2.2.2.2.2) (fun _ => rfl) (qDs k)
theorem qDu (k : Nat) : qg (LOk (R := DS FS.D qnv) (fun b _ σ K => LOt Ty (kps 73) 0 b σ K [qnx k]) cf (call cf k) (cf.keep 73) Tryz.f73.ntmps k qhp.bs.length) 0 (bd Tryz.f73) :=
 qA qT (qA (qA qT (qA qT (qA (qA qT qT) qT))) (qA qT (qA qT (qA (qA qT (qA (qA qT qT) qT)) (qA (qA qT (qt (c := cf) (callF := call cf k) (kp := kps 73) (nt := Tryz.f73.ntmps) (k := k) (p := 0) (b := 0) (x0 := lb Tryz.f73 0) (l := [qnx k]) (qA (fun _ => qDt k) qT))) (qA qT qT))))))
theorem qDv (k : Nat) (x : qhp.D) : qf3 (k + 1) x.1 x.2.1 x.2.2.1 x.2.2.2.1 x.2.2.2.2.1 x.2.2.2.2.2.1 x.2.2.2.2.2.2.1 x.2.2.2.2.2.2.2.1 x.2.2.2.2.2.2.2.2 = qi cf (fun f a b K => COt f a b K [qpp k, qvj k, qqV k, qqY k, qvl k]) (fun b _ σ K => LOt Ty (kps 73) 0 b σ K [qnx k]) 73 Tryz.f73.ntmps Tryz.f73.results.toList (bd Tryz.f73) (qhp.enc x).1 (qhp.enc x).2 (qk FS.dec qnv) := by kernel_rfl
theorem qDw : ∀ k, qh (call cf k) (qq0 k)
 | 0 => fun x y e => absurd (show (none : Option _) = some y from e) (by simp)
 | k + 1 => qe (c := cf) (k := k) (f := 73) (fn := Tryz.f73) (body := bd Tryz.f73) (sh := qhp) (os := qnv) rfl Tryz.func73 rfl ⟨rfl, Nat.le_of_ble_eq_true rfl⟩ (qd (qwH k)) (qDu k) (fun x => qf3 (k + 1) x.1 x.2.1 x.2.2.1 x.2.2.2.1 x.2.2.2.2.1 x.2.2.2.2.2.1 x.2.2.2.2.2.2.1 x.2.2.2.2.2.2.2.1 x.2.2.2.2.2.2.2.2) (qDv k)

def qpX (k : Nat) (p : ByteArray) : Option (Bool) :=
 Option.bind (qfE k p) fun r4 =>
 (some (!r4))
def qe4 : Nat → ByteArray → Option (Bool)
 | 0, _ => none
 | k + 1, p => qpX k p
def qkw : FS := { vs := [.a (.lf .str)], bs := [] }
def qq1 : List FS := [{ vs := [.a (.lf .bool)], bs := [] }]
def qvm (k : Nat) : Inst := ⟨195, qkw, qq1, fun x => qe4 k x⟩
theorem qHO (k : Nat) : qp (call cf k) [qsP k] := qA (qzd k) qT
theorem qHP (k : Nat) : qg (LOk (R := DS FS.D qq1) (fun b _ σ K => LOt Ty (kps 195) 0 b σ K []) cf (call cf k) (cf.keep 195) Tryz.f195.ntmps k qkw.bs.length) 0 (bd Tryz.f195) :=
 qA qT (qA qT qT)
theorem qHQ (k : Nat) (x : qkw.D) : qe4 (k + 1) x = qi cf (fun f a b K => COt f a b K [qsP k]) (fun b _ σ K => LOt Ty (kps 195) 0 b σ K []) 195 Tryz.f195.ntmps Tryz.f195.results.toList (bd Tryz.f195) (qkw.enc x).1 (qkw.enc x).2 (qk FS.dec qq1) := by kernel_rfl
theorem qHR : ∀ k, qh (call cf k) (qvm k)
 | 0 => fun x y e => absurd (show (none : Option _) = some y from e) (by simp)
 | k + 1 => qe (c := cf) (k := k) (f := 195) (fn := Tryz.f195) (body := bd Tryz.f195) (sh := qkw) (os := qq1) rfl Tryz.func195 rfl ⟨rfl, Nat.le_of_ble_eq_true rfl⟩ (qd (qHO k)) (qHP k) (fun x => qe4 (k + 1) x) (qHQ k)

def qdV (k : Nat) (rec : List ByteArray → Int → Int → Option ((Int) ⊕ (Unit))) (s : List ByteArray) (x : Int) (x1 : Int) : Option ((Int) ⊕ (Unit)) :=
 if ((decide (x1 < x)) = true) then
 if ((0 : Int) ≤ x1) then
 Option.bind (s)[(Int.toNat x1)]? fun x6 =>
 Option.bind (qe4 k x6) fun r4 =>
 if (r4 = true) then
 (some (Sum.inl x1))
 else
 rec s x (IntKind.wrap .i64 (x1 + (1 : Int)))
 else
 none
 else
 (some (Sum.inr ()))
def qab (k n : Nat) : List ByteArray → Int → Int → Option ((Int) ⊕ (Unit)) := Nat.rec (fun _ _ _ => none) (fun _ r => qdV k r) n
def qep (k : Nat) (s : List ByteArray) : Option (Int) :=
 Option.bind (qab k k s (((List.length s) : Nat) : Int) (0 : Int)) fun r4 =>
 qc r4
 (fun r4 =>
 (some r4))
 (fun r4 =>
 (some (-(1 : Int))))
def qaK : Nat → List ByteArray → Option (Int)
 | 0, _ => none
 | k + 1, s => qep k s
def qhq : FS := { vs := [.a (.lf (.sl .str)), .a (.fn 195 [])], bs := [] }
def qny : List FS := [{ vs := [.a (.lf (.int .i64))], bs := [] }]
def qvn (k : Nat) : Inst := ⟨194, qhq, qny, fun x => qaK k x⟩
theorem qwI (k : Nat) : qp (call cf k) [qvm k] := qA (qHR k) qT
def qi1 : List SS := [{ fr := [(0, .a (.lf (.sl .str))), (1, .a (.fn 195 [])), (7, .a (.lf (.int .i64))), (8, .a (.lf (.int .i64)))], mem := [], nx := 0 }]
def qnz : List OS := [⟨none, { fr := [(4, .a (.lf (.int .i64)))], mem := [], nx := 0 }⟩, ⟨some 0, { fr := [], mem := [], nx := 0 }⟩]
def qnA (k : Nat) : LInst := ⟨0, qi1, qnz, fun x => qab k k x.1 x.2.1 x.2.2⟩
theorem qDx (k : Nat) : qg (LOk (R := DS OS.D qnz) (fun b _ σ K => LOt Ty (kps 194) 0 b σ K []) cf (call cf k) (kps 194) Tryz.f194.ntmps k 0) 0 (lb Tryz.f194 0) :=
 qA qT (qA (qA qT qT) (qA (qA qT (qA qT (qA (qA qT qT) qT))) qT))
theorem qDy (k n : Nat) (x : DS SS.D qi1) : qab k (n + 1) x.1 x.2.1 x.2.2 = qu SS.enc (fun σ => qx cf (fun f a b K => COt f a b K [qvm k]) (fun b _ σ K => LOt Ty (kps 194) 0 b σ K []) Tryz.f194.ntmps 0 (lb Tryz.f194 0) σ (qw Ty (kps 194 0) 0 qi1 qnz fun x => qab k n x.1 x.2.1 x.2.2)) qi1 x := by kernel_rfl
theorem qDz (k : Nat) : qL cf (call cf k) (kps 194) Tryz.f194.ntmps k 0 0 (lb Tryz.f194 0) (qnA k) :=
 qq (c := cf) (callF := call cf k) (kp := kps 194) (nt := Tryz.f194.ntmps) (k := k) (p := 0) (b := 0) (x0 := lb Tryz.f194 0) (hs := qi1) (os := qnz) (qd (qwI k)) (qDx k) (fun n x => qab k n x.1 x.2.1 x.2.2) (fun _ => rfl) (qDy k)
theorem qDA (k : Nat) : qg (LOk (R := DS FS.D qny) (fun b _ σ K => LOt Ty (kps 194) 0 b σ K [qnA k]) cf (call cf k) (cf.keep 194) Tryz.f194.ntmps k qhq.bs.length) 0 (bd Tryz.f194) :=
 qA qT (qA (qA qT (qt (c := cf) (callF := call cf k) (kp := kps 194) (nt := Tryz.f194.ntmps) (k := k) (p := 0) (b := 0) (x0 := lb Tryz.f194 0) (l := [qnA k]) (qA (fun _ => qDz k) qT))) (qA qT qT))
theorem qDB (k : Nat) (x : qhq.D) : qaK (k + 1) x = qi cf (fun f a b K => COt f a b K [qvm k]) (fun b _ σ K => LOt Ty (kps 194) 0 b σ K [qnA k]) 194 Tryz.f194.ntmps Tryz.f194.results.toList (bd Tryz.f194) (qhq.enc x).1 (qhq.enc x).2 (qk FS.dec qny) := by kernel_rfl
theorem qDC : ∀ k, qh (call cf k) (qvn k)
 | 0 => fun x y e => absurd (show (none : Option _) = some y from e) (by simp)
 | k + 1 => qe (c := cf) (k := k) (f := 194) (fn := Tryz.f194) (body := bd Tryz.f194) (sh := qhq) (os := qny) rfl Tryz.func194 rfl ⟨rfl, Nat.le_of_ble_eq_true rfl⟩ (qd (qwI k)) (qDA k) (fun x => qaK (k + 1) x) (qDB k)

def qdW (k : Nat) (s : List ByteArray) : Option (Bool) :=
 Option.bind (qaK k s) fun r4 =>
 (some (decide (r4 ≥ (0 : Int))))
def qax : Nat → List ByteArray → Option (Bool)
 | 0, _ => none
 | k + 1, s => qdW k s
def qkx : FS := { vs := [.a (.lf (.sl .str)), .a (.fn 195 [])], bs := [] }
def qq2 : List FS := [{ vs := [.a (.lf .bool)], bs := [] }]
def qx9 (k : Nat) : Inst := ⟨134, qkx, qq2, fun x => qax k x⟩
theorem qHS (k : Nat) : qp (call cf k) [qvn k] := qA (qDC k) qT
theorem qHT (k : Nat) : qg (LOk (R := DS FS.D qq2) (fun b _ σ K => LOt Ty (kps 134) 0 b σ K []) cf (call cf k) (cf.keep 134) Tryz.f134.ntmps k qkx.bs.length) 0 (bd Tryz.f134) :=
 qA qT (qA qT qT)
theorem qHU (k : Nat) (x : qkx.D) : qax (k + 1) x = qi cf (fun f a b K => COt f a b K [qvn k]) (fun b _ σ K => LOt Ty (kps 134) 0 b σ K []) 134 Tryz.f134.ntmps Tryz.f134.results.toList (bd Tryz.f134) (qkx.enc x).1 (qkx.enc x).2 (qk FS.dec qq2) := by kernel_rfl
theorem qHV : ∀ k, qh (call cf k) (qx9 k)
 | 0 => fun x y e => absurd (show (none : Option _) = some y from e) (by simp)
 | k + 1 => qe (c := cf) (k := k) (f := 134) (fn := Tryz.f134) (body := bd Tryz.f134) (sh := qkx) (os := qq2) rfl Tryz.func134 rfl ⟨rfl, Nat.le_of_ble_eq_true rfl⟩ (qd (qHS k)) (qHT k) (fun x => qax (k + 1) x) (qHU k)

def qtO (k : Nat) (s : ByteArray) : Option (Bool) :=
 Option.bind (qck k s (ByteArray.mk (List.toArray (46 :: [])))) fun r3 =>
 if ((decide ((((List.length r3) : Nat) : Int) ≤ (9 : Int))) = true) then
 Option.bind (qax k r3) fun r4 =>
 (some (!r4))
 else
 (some false)
def qf4 : Nat → ByteArray → Option (Bool)
 | 0, _ => none
 | k + 1, s => qtO k s
def qky : FS := { vs := [.a (.lf .str)], bs := [] }
def qq3 : List FS := [{ vs := [.a (.lf .bool)], bs := [] }]
def qya (k : Nat) : Inst := ⟨136, qky, qq3, fun x => qf4 k x⟩
theorem qHW (k : Nat) : qp (call cf k) [qhU k, qx9 k] := qA (qsO k) (qA (qHV k) qT)
theorem qHX (k : Nat) : qg (LOk (R := DS FS.D qq3) (fun b _ σ K => LOt Ty (kps 136) 0 b σ K []) cf (call cf k) (cf.keep 136) Tryz.f136.ntmps k qky.bs.length) 0 (bd Tryz.f136) :=
 qA qT (qA qT (qA qT qT))
theorem qHY (k : Nat) (x : qky.D) : qf4 (k + 1) x = qi cf (fun f a b K => COt f a b K [qhU k, qx9 k]) (fun b _ σ K => LOt Ty (kps 136) 0 b σ K []) 136 Tryz.f136.ntmps Tryz.f136.results.toList (bd Tryz.f136) (qky.enc x).1 (qky.enc x).2 (qk FS.dec qq3) := by kernel_rfl
theorem qHZ : ∀ k, qh (call cf k) (qya k)
 | 0 => fun x y e => absurd (show (none : Option _) = some y from e) (by simp)
 | k + 1 => qe (c := cf) (k := k) (f := 136) (fn := Tryz.f136) (body := bd Tryz.f136) (sh := qky) (os := qq3) rfl Tryz.func136 rfl ⟨rfl, Nat.le_of_ble_eq_true rfl⟩ (qd (qHW k)) (qHX k) (fun x => qf4 (k + 1) x) (qHY k)

def qpY (k : Nat) (n : ByteArray) : Option (Bool) :=
 Option.bind (qf4 k n) fun r3 =>
 (some (!r3))
def qe5 : Nat → ByteArray → Option (Bool)
 | 0, _ => none
 | k + 1, n => qpY k n
def qkz : FS := { vs := [.a (.lf .str)], bs := [] }
def qq4 : List FS := [{ vs := [.a (.lf .bool)], bs := [] }]
def qvo (k : Nat) : Inst := ⟨135, qkz, qq4, fun x => qe5 k x⟩
theorem qH0 (k : Nat) : qp (call cf k) [qya k] := qA (qHZ k) qT
theorem qH1 (k : Nat) : qg (LOk (R := DS FS.D qq4) (fun b _ σ K => LOt Ty (kps 135) 0 b σ K []) cf (call cf k) (cf.keep 135) Tryz.f135.ntmps k qkz.bs.length) 0 (bd Tryz.f135) :=
 qA qT (qA qT qT)
theorem qH2 (k : Nat) (x : qkz.D) : qe5 (k + 1) x = qi cf (fun f a b K => COt f a b K [qya k]) (fun b _ σ K => LOt Ty (kps 135) 0 b σ K []) 135 Tryz.f135.ntmps Tryz.f135.results.toList (bd Tryz.f135) (qkz.enc x).1 (qkz.enc x).2 (qk FS.dec qq4) := by kernel_rfl
theorem qH3 : ∀ k, qh (call cf k) (qvo k)
 | 0 => fun x y e => absurd (show (none : Option _) = some y from e) (by simp)
 | k + 1 => qe (c := cf) (k := k) (f := 135) (fn := Tryz.f135) (body := bd Tryz.f135) (sh := qkz) (os := qq4) rfl Tryz.func135 rfl ⟨rfl, Nat.le_of_ble_eq_true rfl⟩ (qd (qH0 k)) (qH1 k) (fun x => qe5 (k + 1) x) (qH2 k)

def qdX (k : Nat) (rec : List ByteArray → Int → Int → Option ((Int) ⊕ (Unit))) (s : List ByteArray) (x : Int) (x1 : Int) : Option ((Int) ⊕ (Unit)) :=
 if ((decide (x1 < x)) = true) then
 if ((0 : Int) ≤ x1) then
 Option.bind (s)[(Int.toNat x1)]? fun x5 =>
 Option.bind (qe5 k x5) fun r3 =>
 if (r3 = true) then
 (some (Sum.inl x1))
 else
 rec s x (IntKind.wrap .i64 (x1 + (1 : Int)))
 else
 none
 else
 (some (Sum.inr ()))
def qac (k n : Nat) : List ByteArray → Int → Int → Option ((Int) ⊕ (Unit)) := Nat.rec (fun _ _ _ => none) (fun _ r => qdX k r) n
def qeq (k : Nat) (s : List ByteArray) : Option (Int) :=
 Option.bind (qac k k s (((List.length s) : Nat) : Int) (0 : Int)) fun r3 =>
 qc r3
 (fun r3 =>
 (some r3))
 (fun r3 =>
 (some (-(1 : Int))))
def qaL : Nat → List ByteArray → Option (Int)
 | 0, _ => none
 | k + 1, s => qeq k s
def qhr : FS := { vs := [.a (.lf (.sl .str)), .a (.fn 135 [])], bs := [] }
def qnB : List FS := [{ vs := [.a (.lf (.int .i64))], bs := [] }]
def qvp (k : Nat) : Inst := ⟨194, qhr, qnB, fun x => qaL k x⟩
theorem qwJ (k : Nat) : qp (call cf k) [qvo k] := qA (qH3 k) qT
def qi2 : List SS := [{ fr := [(0, .a (.lf (.sl .str))), (1, .a (.fn 135 [])), (7, .a (.lf (.int .i64))), (8, .a (.lf (.int .i64)))], mem := [], nx := 0 }]
def qnC : List OS := [⟨none, { fr := [(4, .a (.lf (.int .i64)))], mem := [], nx := 0 }⟩, ⟨some 0, { fr := [], mem := [], nx := 0 }⟩]
def qnD (k : Nat) : LInst := ⟨0, qi2, qnC, fun x => qac k k x.1 x.2.1 x.2.2⟩
theorem qDD (k : Nat) : qg (LOk (R := DS OS.D qnC) (fun b _ σ K => LOt Ty (kps 194) 0 b σ K []) cf (call cf k) (kps 194) Tryz.f194.ntmps k 0) 0 (lb Tryz.f194 0) :=
 qA qT (qA (qA qT qT) (qA (qA qT (qA qT (qA (qA qT qT) qT))) qT))
theorem qDE (k n : Nat) (x : DS SS.D qi2) : qac k (n + 1) x.1 x.2.1 x.2.2 = qu SS.enc (fun σ => qx cf (fun f a b K => COt f a b K [qvo k]) (fun b _ σ K => LOt Ty (kps 194) 0 b σ K []) Tryz.f194.ntmps 0 (lb Tryz.f194 0) σ (qw Ty (kps 194 0) 0 qi2 qnC fun x => qac k n x.1 x.2.1 x.2.2)) qi2 x := by kernel_rfl
theorem qDF (k : Nat) : qL cf (call cf k) (kps 194) Tryz.f194.ntmps k 0 0 (lb Tryz.f194 0) (qnD k) :=
 qq (c := cf) (callF := call cf k) (kp := kps 194) (nt := Tryz.f194.ntmps) (k := k) (p := 0) (b := 0) (x0 := lb Tryz.f194 0) (hs := qi2) (os := qnC) (qd (qwJ k)) (qDD k) (fun n x => qac k n x.1 x.2.1 x.2.2) (fun _ => rfl) (qDE k)
theorem qDG (k : Nat) : qg (LOk (R := DS FS.D qnB) (fun b _ σ K => LOt Ty (kps 194) 0 b σ K [qnD k]) cf (call cf k) (cf.keep 194) Tryz.f194.ntmps k qhr.bs.length) 0 (bd Tryz.f194) :=
 qA qT (qA (qA qT (qt (c := cf) (callF := call cf k) (kp := kps 194) (nt := Tryz.f194.ntmps) (k := k) (p := 0) (b := 0) (x0 := lb Tryz.f194 0) (l := [qnD k]) (qA (fun _ => qDF k) qT))) (qA qT qT))
theorem qDH (k : Nat) (x : qhr.D) : qaL (k + 1) x = qi cf (fun f a b K => COt f a b K [qvo k]) (fun b _ σ K => LOt Ty (kps 194) 0 b σ K [qnD k]) 194 Tryz.f194.ntmps Tryz.f194.results.toList (bd Tryz.f194) (qhr.enc x).1 (qhr.enc x).2 (qk FS.dec qnB) := by kernel_rfl
theorem qDI : ∀ k, qh (call cf k) (qvp k)
 | 0 => fun x y e => absurd (show (none : Option _) = some y from e) (by simp)
 | k + 1 => qe (c := cf) (k := k) (f := 194) (fn := Tryz.f194) (body := bd Tryz.f194) (sh := qhr) (os := qnB) rfl Tryz.func194 rfl ⟨rfl, Nat.le_of_ble_eq_true rfl⟩ (qd (qwJ k)) (qDG k) (fun x => qaL (k + 1) x) (qDH k)

def qdY (k : Nat) (s : List ByteArray) : Option (Bool) :=
 Option.bind (qaL k s) fun r3 =>
 (some (decide (r3 ≥ (0 : Int))))
def qB : Nat → List ByteArray → Option (Bool)
 | 0, _ => none
 | k + 1, s => qdY k s
def qkA : FS := { vs := [.a (.lf (.sl .str)), .a (.fn 135 [])], bs := [] }
def qq5 : List FS := [{ vs := [.a (.lf .bool)], bs := [] }]
def qyb (k : Nat) : Inst := ⟨134, qkA, qq5, fun x => qB k x⟩
theorem qH4 (k : Nat) : qp (call cf k) [qvp k] := qA (qDI k) qT
theorem qH5 (k : Nat) : qg (LOk (R := DS FS.D qq5) (fun b _ σ K => LOt Ty (kps 134) 0 b σ K []) cf (call cf k) (cf.keep 134) Tryz.f134.ntmps k qkA.bs.length) 0 (bd Tryz.f134) :=
 qA qT (qA qT qT)
theorem qH6 (k : Nat) (x : qkA.D) : qB (k + 1) x = qi cf (fun f a b K => COt f a b K [qvp k]) (fun b _ σ K => LOt Ty (kps 134) 0 b σ K []) 134 Tryz.f134.ntmps Tryz.f134.results.toList (bd Tryz.f134) (qkA.enc x).1 (qkA.enc x).2 (qk FS.dec qq5) := by kernel_rfl
theorem qH7 : ∀ k, qh (call cf k) (qyb k)
 | 0 => fun x y e => absurd (show (none : Option _) = some y from e) (by simp)
 | k + 1 => qe (c := cf) (k := k) (f := 134) (fn := Tryz.f134) (body := bd Tryz.f134) (sh := qkA) (os := qq5) rfl Tryz.func134 rfl ⟨rfl, Nat.le_of_ble_eq_true rfl⟩ (qd (qH4 k)) (qH5 k) (fun x => qB (k + 1) x) (qH6 k)

def qtP (k : Nat) (text : ByteArray) : Option (Int × List ByteArray × Bool) :=
 if ((decide ((((ByteArray.size text) : Nat) : Int) < (4 : Int))) = false) then
 Option.bind ((ByteArray.data text))[0]? fun x =>
 if (((((UInt8.toNat x) : Nat) : Int) != (118 : Int)) = true) then
 Option.bind ((ByteArray.data text))[0]? fun x1 =>
 if (((((UInt8.toNat x1) : Nat) : Int) != (105 : Int)) = false) then
 Option.bind ((ByteArray.data text))[1]? fun x2 =>
 if (((((UInt8.toNat x2) : Nat) : Int) != (40 : Int)) = false) then
 if ((0 : Int) ≤ (IntKind.wrap .i64 ((((ByteArray.size text) : Nat) : Int) - (1 : Int)))) then
 Option.bind ((ByteArray.data text))[(Int.toNat (IntKind.wrap .i64 ((((ByteArray.size text) : Nat) : Int) - (1 : Int))))]? fun x3 =>
 if (((((UInt8.toNat x3) : Nat) : Int) != (41 : Int)) = true) then
 (some ((0 : Int), [], false))
 else
 if (((0 : Int) ≤ (2 : Int)) ∧ (((2 : Int) ≤ (IntKind.wrap .i64 ((((ByteArray.size text) : Nat) : Int) - (1 : Int)))) ∧ ((IntKind.wrap .i64 ((((ByteArray.size text) : Nat) : Int) - (1 : Int))) ≤ (((ByteArray.size text) : Nat) : Int)))) then
 Option.bind (qck k (ByteArray.extract text 2 (Int.toNat (IntKind.wrap .i64 ((((ByteArray.size text) : Nat) : Int) - (1 : Int))))) (ByteArray.mk (List.toArray (44 :: [])))) fun r2 =>
 if ((decide ((((List.length r2) : Nat) : Int) > (2 : Int))) = false) then
 Option.bind ((ByteArray.data text))[0]? fun x4 =>
 if (((((UInt8.toNat x4) : Nat) : Int) == (105 : Int)) = true) then
 if (((((List.length r2) : Nat) : Int) != (1 : Int)) = false) then
 Option.bind (qB k r2) fun r3 =>
 if (r3 = true) then
 (some ((0 : Int), [], false))
 else
 Option.bind ((ByteArray.data text))[0]? fun x5 =>
 (some ((((UInt8.toNat x5) : Nat) : Int), r2, true))
 else
 (some ((0 : Int), [], false))
 else
 Option.bind (qB k r2) fun r3 =>
 if (r3 = true) then
 (some ((0 : Int), [], false))
 else
 Option.bind ((ByteArray.data text))[0]? fun x5 =>
 (some ((((UInt8.toNat x5) : Nat) : Int), r2, true))
 else
 (some ((0 : Int), [], false))
 else
 none
 else
 none
 else
 (some ((0 : Int), [], false))
 else
 (some ((0 : Int), [], false))
 else
 Option.bind ((ByteArray.data text))[1]? fun x1 =>
 if (((((UInt8.toNat x1) : Nat) : Int) != (40 : Int)) = false) then
 if ((0 : Int) ≤ (IntKind.wrap .i64 ((((ByteArray.size text) : Nat) : Int) - (1 : Int)))) then
 Option.bind ((ByteArray.data text))[(Int.toNat (IntKind.wrap .i64 ((((ByteArray.size text) : Nat) : Int) - (1 : Int))))]? fun x2 =>
 if (((((UInt8.toNat x2) : Nat) : Int) != (41 : Int)) = true) then
 (some ((0 : Int), [], false))
 else
 if (((0 : Int) ≤ (2 : Int)) ∧ (((2 : Int) ≤ (IntKind.wrap .i64 ((((ByteArray.size text) : Nat) : Int) - (1 : Int)))) ∧ ((IntKind.wrap .i64 ((((ByteArray.size text) : Nat) : Int) - (1 : Int))) ≤ (((ByteArray.size text) : Nat) : Int)))) then
 Option.bind (qck k (ByteArray.extract text 2 (Int.toNat (IntKind.wrap .i64 ((((ByteArray.size text) : Nat) : Int) - (1 : Int))))) (ByteArray.mk (List.toArray (44 :: [])))) fun r2 =>
 if ((decide ((((List.length r2) : Nat) : Int) > (2 : Int))) = false) then
 Option.bind ((ByteArray.data text))[0]? fun x3 =>
 if (((((UInt8.toNat x3) : Nat) : Int) == (105 : Int)) = true) then
 if (((((List.length r2) : Nat) : Int) != (1 : Int)) = false) then
 Option.bind (qB k r2) fun r3 =>
 if (r3 = true) then
 (some ((0 : Int), [], false))
 else
 Option.bind ((ByteArray.data text))[0]? fun x4 =>
 (some ((((UInt8.toNat x4) : Nat) : Int), r2, true))
 else
 (some ((0 : Int), [], false))
 else
 Option.bind (qB k r2) fun r3 =>
 if (r3 = true) then
 (some ((0 : Int), [], false))
 else
 Option.bind ((ByteArray.data text))[0]? fun x4 =>
 (some ((((UInt8.toNat x4) : Nat) : Int), r2, true))
 else
 (some ((0 : Int), [], false))
 else
 none
 else
 none
 else
 (some ((0 : Int), [], false))
 else
 (some ((0 : Int), [], false))
def qf5 : Nat → ByteArray → Option (Int × List ByteArray × Bool)
 | 0, _ => none
 | k + 1, text => qtP k text
def qkB : FS := { vs := [.a (.lf .str)], bs := [] }
def qq6 : List FS := [{ vs := [.a (.lf (.int .u8)), .a (.lf (.sl .str)), .a (.lf .bool)], bs := [] }]
def qvq (k : Nat) : Inst := ⟨74, qkB, qq6, fun x => qf5 k x⟩
theorem qH8 (k : Nat) : qp (call cf k) [qhU k, qyb k] := qA (qsO k) (qA (qH7 k) qT)
theorem qH9 (k : Nat) : qg (LOk (R := DS FS.D qq6) (fun b _ σ K => LOt Ty (kps 74) 0 b σ K []) cf (call cf k) (cf.keep 74) Tryz.f74.ntmps k qkB.bs.length) 0 (bd Tryz.f74) :=
 qA qT (qA (qA qT (qA (qA qT qT) qT)) (qA qT (qA (qA qT (qA (qA qT qT) qT)) (qA qT qT))))
theorem qIa (k : Nat) (x : qkB.D) : qf5 (k + 1) x = qi cf (fun f a b K => COt f a b K [qhU k, qyb k]) (fun b _ σ K => LOt Ty (kps 74) 0 b σ K []) 74 Tryz.f74.ntmps Tryz.f74.results.toList (bd Tryz.f74) (qkB.enc x).1 (qkB.enc x).2 (qk FS.dec qq6) := by kernel_rfl
theorem qIb : ∀ k, qh (call cf k) (qvq k)
 | 0 => fun x y e => absurd (show (none : Option _) = some y from e) (by simp)
 | k + 1 => qe (c := cf) (k := k) (f := 74) (fn := Tryz.f74) (body := bd Tryz.f74) (sh := qkB) (os := qq6) rfl Tryz.func74 rfl ⟨rfl, Nat.le_of_ble_eq_true rfl⟩ (qd (qH8 k)) (qH9 k) (fun x => qf5 (k + 1) x) (qIa k)

def qs0 (k : Nat) (rec : ByteArray → List (Int × ByteArray × List Int × Int × (Int × Int) × (Int × List (Int × Int) × List Int) × ByteArray × Int × List (Int × Int) × List (Int × Int)) → Int → Int → Option ((Int × Int × Int × ByteArray × List Int × Int × Int × Int × Int × List (Int × Int) × List Int × ByteArray × Int × List (Int × Int) × List (Int × Int)) ⊕ (Unit))) (name : ByteArray) (x : List (Int × ByteArray × List Int × Int × (Int × Int) × (Int × List (Int × Int) × List Int) × ByteArray × Int × List (Int × Int) × List (Int × Int))) (x1 : Int) (x2 : Int) : Option ((Int × Int × Int × ByteArray × List Int × Int × Int × Int × Int × List (Int × Int) × List Int × ByteArray × Int × List (Int × Int) × List (Int × Int)) ⊕ (Unit)) :=
 if ((decide (x2 < x1)) = true) then
 if ((0 : Int) ≤ x2) then
 Option.bind (x)[(Int.toNat x2)]? fun x3 =>
 if (((Array.toList (ByteArray.data x3.2.1)) == (Array.toList (ByteArray.data name))) = true) then
 (some (Sum.inl (x2, (0 : Int), x3.1, x3.2.1, x3.2.2.1, x3.2.2.2.1, x3.2.2.2.2.1.1, x3.2.2.2.2.1.2, x3.2.2.2.2.2.1.1, x3.2.2.2.2.2.1.2.1, x3.2.2.2.2.2.1.2.2, x3.2.2.2.2.2.2.1, x3.2.2.2.2.2.2.2.1, x3.2.2.2.2.2.2.2.2.1, x3.2.2.2.2.2.2.2.2.2)))
 else
 rec name x x1 (IntKind.wrap .i64 (x2 + (1 : Int)))
 else
 none
 else
 (some (Sum.inr ()))
def qeW (k n : Nat) : ByteArray → List (Int × ByteArray × List Int × Int × (Int × Int) × (Int × List (Int × Int) × List Int) × ByteArray × Int × List (Int × Int) × List (Int × Int)) → Int → Int → Option ((Int × Int × Int × ByteArray × List Int × Int × Int × Int × Int × List (Int × Int) × List Int × ByteArray × Int × List (Int × Int) × List (Int × Int)) ⊕ (Unit)) := Nat.rec (fun _ _ _ _ => none) (fun _ r => qs0 k r) n
def qwK (k : Nat) (f0 : List ByteArray) (f1 : List (Int × ByteArray × List Int × Int × (Int × Int) × (Int × List (Int × Int) × List Int) × ByteArray × Int × List (Int × Int) × List (Int × Int))) (f2 : Int) (f3 : Int) (f4 : Int) (name : ByteArray) : Option (Int × Int) :=
 Option.bind (qeW k k name f1 (((List.length f1) : Nat) : Int) (0 : Int)) fun r3 =>
 qc r3
 (fun r3 =>
 (some (r3.1, r3.2.1)))
 (fun r3 =>
 (some ((0 : Int), (6 : Int))))
def qgX : Nat → List ByteArray → List (Int × ByteArray × List Int × Int × (Int × Int) × (Int × List (Int × Int) × List Int) × ByteArray × Int × List (Int × Int) × List (Int × Int)) → Int → Int → Int → ByteArray → Option (Int × Int)
 | 0, _, _, _, _, _, _ => none
 | k + 1, f0, f1, f2, f3, f4, name => qwK k f0 f1 f2 f3 f4 name
def qkC : FS := { vs := [.g [.lf (.sl .str), .lf (.sl (.pr (.int .u8) (.pr .str (.pr (.sl (.int .i64)) (.pr (.int .i64) (.pr (.pr (.int .i64) (.int .i64)) (.pr (.pr (.int .i64) (.pr (.sl (.pr (.int .i64) (.int .i64))) (.sl (.int .i64)))) (.pr .str (.pr (.int .u8) (.pr (.sl (.pr (.int .i64) (.int .i64))) (.sl (.pr (.int .i64) (.int .i64))))))))))))), .lf (.int .i64), .lf (.int .i64), .lf (.int .i64)], .a (.lf .str)], bs := [] }
def qq7 : List FS := [{ vs := [.a (.lf (.int .i64)), .a (.lf (.int .i64))], bs := [] }]
def qvr (k : Nat) : Inst := ⟨75, qkC, qq7, fun x => qgX k x.1 x.2.1 x.2.2.1 x.2.2.2.1 x.2.2.2.2.1 x.2.2.2.2.2⟩
theorem qzs (k : Nat) : qp (call cf k) [] := True.intro
def qi3 : List SS := [{ fr := [(1, .a (.lf .str)), (9, .a (.lf (.sl (.pr (.int .u8) (.pr .str (.pr (.sl (.int .i64)) (.pr (.int .i64) (.pr (.pr (.int .i64) (.int .i64)) (.pr (.pr (.int .i64) (.pr (.sl (.pr (.int .i64) (.int .i64))) (.sl (.int .i64)))) (.pr .str (.pr (.int .u8) (.pr (.sl (.pr (.int .i64) (.int .i64))) (.sl (.pr (.int .i64) (.int .i64))))))))))))))), (10, .a (.lf (.int .i64))), (11, .a (.lf (.int .i64)))], mem := [], nx := 0 }]
def qnE : List OS := [⟨none, { fr := [(4, .a (.lf (.int .i64))), (5, .a (.lf (.int .i64)))], mem := [(0, some (.raw [[.lf (.int .u8), .lf .str, .lf (.sl (.int .i64)), .lf (.int .i64), .lf (.int .i64), .lf (.int .i64), .lf (.int .i64), .lf (.sl (.pr (.int .i64) (.int .i64))), .lf (.sl (.int .i64)), .lf .str, .lf (.int .u8), .lf (.sl (.pr (.int .i64) (.int .i64))), .lf (.sl (.pr (.int .i64) (.int .i64)))]] 13 48 true false false))], nx := 1 }⟩, ⟨some 0, { fr := [], mem := [], nx := 0 }⟩]
def qnF (k : Nat) : LInst := ⟨0, qi3, qnE, fun x => qeW k k x.1 x.2.1 x.2.2.1 x.2.2.2⟩
theorem qDJ (k : Nat) : qg (LOk (R := DS OS.D qnE) (fun b _ σ K => LOt Ty (kps 75) 0 b σ K []) cf (call cf k) (kps 75) Tryz.f75.ntmps k 0) 0 (lb Tryz.f75 0) :=
 qA qT (qA (qA qT qT) (qA (qA qT (qA qT (qA (qA qT qT) qT))) qT))
theorem qDK (k n : Nat) (x : DS SS.D qi3) : qeW k (n + 1) x.1 x.2.1 x.2.2.1 x.2.2.2 = qu SS.enc (fun σ => qx cf (fun f a b K => COt f a b K []) (fun b _ σ K => LOt Ty (kps 75) 0 b σ K []) Tryz.f75.ntmps 0 (lb Tryz.f75 0) σ (qw Ty (kps 75 0) 0 qi3 qnE fun x => qeW k n x.1 x.2.1 x.2.2.1 x.2.2.2)) qi3 x := by kernel_rfl
theorem qDL (k : Nat) : qL cf (call cf k) (kps 75) Tryz.f75.ntmps k 0 0 (lb Tryz.f75 0) (qnF k) :=
 qq (c := cf) (callF := call cf k) (kp := kps 75) (nt := Tryz.f75.ntmps) (k := k) (p := 0) (b := 0) (x0 := lb Tryz.f75 0) (hs := qi3) (os := qnE) (qd (qzs k)) (qDJ k) (fun n x => qeW k n x.1 x.2.1 x.2.2.1 x.2.2.2) (fun _ => rfl) (qDK k)
theorem qIc (k : Nat) : qg (LOk (R := DS FS.D qq7) (fun b _ σ K => LOt Ty (kps 75) 0 b σ K [qnF k]) cf (call cf k) (cf.keep 75) Tryz.f75.ntmps k qkC.bs.length) 0 (bd Tryz.f75) :=
 qA qT (qA (qA qT (qt (c := cf) (callF := call cf k) (kp := kps 75) (nt := Tryz.f75.ntmps) (k := k) (p := 0) (b := 0) (x0 := lb Tryz.f75 0) (l := [qnF k]) (qA (fun _ => qDL k) qT))) (qA qT qT))
theorem qId (k : Nat) (x : qkC.D) : qgX (k + 1) x.1 x.2.1 x.2.2.1 x.2.2.2.1 x.2.2.2.2.1 x.2.2.2.2.2 = qi cf (fun f a b K => COt f a b K []) (fun b _ σ K => LOt Ty (kps 75) 0 b σ K [qnF k]) 75 Tryz.f75.ntmps Tryz.f75.results.toList (bd Tryz.f75) (qkC.enc x).1 (qkC.enc x).2 (qk FS.dec qq7) := by kernel_rfl
theorem qIe : ∀ k, qh (call cf k) (qvr k)
 | 0 => fun x y e => absurd (show (none : Option _) = some y from e) (by simp)
 | k + 1 => qe (c := cf) (k := k) (f := 75) (fn := Tryz.f75) (body := bd Tryz.f75) (sh := qkC) (os := qq7) rfl Tryz.func75 rfl ⟨rfl, Nat.le_of_ble_eq_true rfl⟩ (qd (qzs k)) (qIc k) (fun x => qgX (k + 1) x.1 x.2.1 x.2.2.1 x.2.2.2.1 x.2.2.2.2.1 x.2.2.2.2.2) (qId k)

def qfr (k : Nat) (rec : List ByteArray → ByteArray → Int → Int → Option ((Int) ⊕ (Unit))) (s : List ByteArray) (v : ByteArray) (x : Int) (x1 : Int) : Option ((Int) ⊕ (Unit)) :=
 if ((decide (x1 < x)) = true) then
 if ((0 : Int) ≤ x1) then
 Option.bind (s)[(Int.toNat x1)]? fun x4 =>
 if (((Array.toList (ByteArray.data v)) == (Array.toList (ByteArray.data x4))) = true) then
 (some (Sum.inl x1))
 else
 rec s v x (IntKind.wrap .i64 (x1 + (1 : Int)))
 else
 none
 else
 (some (Sum.inr ()))
def qaM (k n : Nat) : List ByteArray → ByteArray → Int → Int → Option ((Int) ⊕ (Unit)) := Nat.rec (fun _ _ _ _ => none) (fun _ r => qfr k r) n
def qfT (k : Nat) (s : List ByteArray) (v : ByteArray) : Option (Int) :=
 Option.bind (qaM k k s v (((List.length s) : Nat) : Int) (0 : Int)) fun r3 =>
 qc r3
 (fun r3 =>
 (some r3))
 (fun r3 =>
 (some (-(1 : Int))))
def qby : Nat → List ByteArray → ByteArray → Option (Int)
 | 0, _, _ => none
 | k + 1, s, v => qfT k s v
def qhs : FS := { vs := [.a (.lf (.sl .str)), .a (.lf .str)], bs := [] }
def qnG : List FS := [{ vs := [.a (.lf (.int .i64))], bs := [] }]
def qvs (k : Nat) : Inst := ⟨137, qhs, qnG, fun x => qby k x.1 x.2⟩
theorem qwL (k : Nat) : qp (call cf k) [] := True.intro
def qi4 : List SS := [{ fr := [(0, .a (.lf (.sl .str))), (1, .a (.lf .str)), (7, .a (.lf (.int .i64))), (8, .a (.lf (.int .i64)))], mem := [], nx := 0 }]
def qnH : List OS := [⟨none, { fr := [(4, .a (.lf (.int .i64)))], mem := [], nx := 0 }⟩, ⟨some 0, { fr := [], mem := [], nx := 0 }⟩]
def qnI (k : Nat) : LInst := ⟨0, qi4, qnH, fun x => qaM k k x.1 x.2.1 x.2.2.1 x.2.2.2⟩
theorem qDM (k : Nat) : qg (LOk (R := DS OS.D qnH) (fun b _ σ K => LOt Ty (kps 137) 0 b σ K []) cf (call cf k) (kps 137) Tryz.f137.ntmps k 0) 0 (lb Tryz.f137 0) :=
 qA qT (qA (qA qT qT) (qA (qA qT (qA qT (qA (qA qT qT) qT))) qT))
theorem qDN (k n : Nat) (x : DS SS.D qi4) : qaM k (n + 1) x.1 x.2.1 x.2.2.1 x.2.2.2 = qu SS.enc (fun σ => qx cf (fun f a b K => COt f a b K []) (fun b _ σ K => LOt Ty (kps 137) 0 b σ K []) Tryz.f137.ntmps 0 (lb Tryz.f137 0) σ (qw Ty (kps 137 0) 0 qi4 qnH fun x => qaM k n x.1 x.2.1 x.2.2.1 x.2.2.2)) qi4 x := by kernel_rfl
theorem qDO (k : Nat) : qL cf (call cf k) (kps 137) Tryz.f137.ntmps k 0 0 (lb Tryz.f137 0) (qnI k) :=
 qq (c := cf) (callF := call cf k) (kp := kps 137) (nt := Tryz.f137.ntmps) (k := k) (p := 0) (b := 0) (x0 := lb Tryz.f137 0) (hs := qi4) (os := qnH) (qd (qwL k)) (qDM k) (fun n x => qaM k n x.1 x.2.1 x.2.2.1 x.2.2.2) (fun _ => rfl) (qDN k)
theorem qDP (k : Nat) : qg (LOk (R := DS FS.D qnG) (fun b _ σ K => LOt Ty (kps 137) 0 b σ K [qnI k]) cf (call cf k) (cf.keep 137) Tryz.f137.ntmps k qhs.bs.length) 0 (bd Tryz.f137) :=
 qA qT (qA (qA qT (qt (c := cf) (callF := call cf k) (kp := kps 137) (nt := Tryz.f137.ntmps) (k := k) (p := 0) (b := 0) (x0 := lb Tryz.f137 0) (l := [qnI k]) (qA (fun _ => qDO k) qT))) (qA qT qT))
theorem qDQ (k : Nat) (x : qhs.D) : qby (k + 1) x.1 x.2 = qi cf (fun f a b K => COt f a b K []) (fun b _ σ K => LOt Ty (kps 137) 0 b σ K [qnI k]) 137 Tryz.f137.ntmps Tryz.f137.results.toList (bd Tryz.f137) (qhs.enc x).1 (qhs.enc x).2 (qk FS.dec qnG) := by kernel_rfl
theorem qDR : ∀ k, qh (call cf k) (qvs k)
 | 0 => fun x y e => absurd (show (none : Option _) = some y from e) (by simp)
 | k + 1 => qe (c := cf) (k := k) (f := 137) (fn := Tryz.f137) (body := bd Tryz.f137) (sh := qhs) (os := qnG) rfl Tryz.func137 rfl ⟨rfl, Nat.le_of_ble_eq_true rfl⟩ (qd (qwL k)) (qDP k) (fun x => qby (k + 1) x.1 x.2) (qDQ k)

def qvt (k : Nat) (f0 : List ByteArray) (f1 : List (Int × ByteArray × List Int × Int × (Int × Int) × (Int × List (Int × Int) × List Int) × ByteArray × Int × List (Int × Int) × List (Int × Int))) (f2 : Int) (f3 : Int) (f4 : Int) (name : ByteArray) : Option (Int × Int) :=
 Option.bind (qby k f0 name) fun r3 =>
 if ((decide (r3 < (0 : Int))) = true) then
 (some ((0 : Int), (6 : Int)))
 else
 (some (r3, (0 : Int)))
def qgr : Nat → List ByteArray → List (Int × ByteArray × List Int × Int × (Int × Int) × (Int × List (Int × Int) × List Int) × ByteArray × Int × List (Int × Int) × List (Int × Int)) → Int → Int → Int → ByteArray → Option (Int × Int)
 | 0, _, _, _, _, _, _ => none
 | k + 1, f0, f1, f2, f3, f4, name => qvt k f0 f1 f2 f3 f4 name
def qkD : FS := { vs := [.g [.lf (.sl .str), .lf (.sl (.pr (.int .u8) (.pr .str (.pr (.sl (.int .i64)) (.pr (.int .i64) (.pr (.pr (.int .i64) (.int .i64)) (.pr (.pr (.int .i64) (.pr (.sl (.pr (.int .i64) (.int .i64))) (.sl (.int .i64)))) (.pr .str (.pr (.int .u8) (.pr (.sl (.pr (.int .i64) (.int .i64))) (.sl (.pr (.int .i64) (.int .i64))))))))))))), .lf (.int .i64), .lf (.int .i64), .lf (.int .i64)], .a (.lf .str)], bs := [] }
def qq8 : List FS := [{ vs := [.a (.lf (.int .i64)), .a (.lf (.int .i64))], bs := [] }]
def qvu (k : Nat) : Inst := ⟨76, qkD, qq8, fun x => qgr k x.1 x.2.1 x.2.2.1 x.2.2.2.1 x.2.2.2.2.1 x.2.2.2.2.2⟩
theorem qIf (k : Nat) : qp (call cf k) [qvs k] := qA (qDR k) qT
theorem qIg (k : Nat) : qg (LOk (R := DS FS.D qq8) (fun b _ σ K => LOt Ty (kps 76) 0 b σ K []) cf (call cf k) (cf.keep 76) Tryz.f76.ntmps k qkD.bs.length) 0 (bd Tryz.f76) :=
 qA qT (qA qT (qA (qA qT (qA (qA qT qT) qT)) (qA qT qT)))
theorem qIh (k : Nat) (x : qkD.D) : qgr (k + 1) x.1 x.2.1 x.2.2.1 x.2.2.2.1 x.2.2.2.2.1 x.2.2.2.2.2 = qi cf (fun f a b K => COt f a b K [qvs k]) (fun b _ σ K => LOt Ty (kps 76) 0 b σ K []) 76 Tryz.f76.ntmps Tryz.f76.results.toList (bd Tryz.f76) (qkD.enc x).1 (qkD.enc x).2 (qk FS.dec qq8) := by kernel_rfl
theorem qIi : ∀ k, qh (call cf k) (qvu k)
 | 0 => fun x y e => absurd (show (none : Option _) = some y from e) (by simp)
 | k + 1 => qe (c := cf) (k := k) (f := 76) (fn := Tryz.f76) (body := bd Tryz.f76) (sh := qkD) (os := qq8) rfl Tryz.func76 rfl ⟨rfl, Nat.le_of_ble_eq_true rfl⟩ (qd (qIf k)) (qIg k) (fun x => qgr (k + 1) x.1 x.2.1 x.2.2.1 x.2.2.2.1 x.2.2.2.2.1 x.2.2.2.2.2) (qIh k)

def qpt (k : Nat) (rec : Int → Int → List ByteArray → Int → Int → List ByteArray → List (Int × ByteArray × List Int × Int × (Int × Int) × (Int × List (Int × Int) × List Int) × ByteArray × Int × List (Int × Int) × List (Int × Int)) → Int → Int → Int → Int → List Int → List Int → List Int → Option ((Int × Int × List ByteArray × List (Int × ByteArray × List Int × Int × (Int × Int) × (Int × List (Int × Int) × List Int) × ByteArray × Int × List (Int × Int) × List (Int × Int)) × Int × Int × Int × Int × List Int × List Int × List Int) ⊕ (Int × List ByteArray × List (Int × ByteArray × List Int × Int × (Int × Int) × (Int × List (Int × Int) × List Int) × ByteArray × Int × List (Int × Int) × List (Int × Int)) × Int × Int × Int × Int × List Int × List Int × List Int))) (v : Int) (sign : Int) (x : List ByteArray) (x1 : Int) (x2 : Int) (f0 : List ByteArray) (f1 : List (Int × ByteArray × List Int × Int × (Int × Int) × (Int × List (Int × Int) × List Int) × ByteArray × Int × List (Int × Int) × List (Int × Int))) (f2 : Int) (f3 : Int) (f4 : Int) (st0 : Int) (st1 : List Int) (st2 : List Int) (st3 : List Int) : Option ((Int × Int × List ByteArray × List (Int × ByteArray × List Int × Int × (Int × Int) × (Int × List (Int × Int) × List Int) × ByteArray × Int × List (Int × Int) × List (Int × Int)) × Int × Int × Int × Int × List Int × List Int × List Int) ⊕ (Int × List ByteArray × List (Int × ByteArray × List Int × Int × (Int × Int) × (Int × List (Int × Int) × List Int) × ByteArray × Int × List (Int × Int) × List (Int × Int)) × Int × Int × Int × Int × List Int × List Int × List Int)) :=
 if ((decide (x2 < x1)) = true) then
 if ((0 : Int) ≤ x2) then
 Option.bind (x)[(Int.toNat x2)]? fun x3 =>
 Option.bind (qgr k f0 f1 f2 f3 f4 x3) fun r3 =>
 if ((r3.2 != (0 : Int)) = true) then
 (some (Sum.inl ((0 : Int), r3.2, f0, f1, f2, f3, f4, st0, st1, st2, st3)))
 else
 if ((decide (r3.1 > (0 : Int))) = true) then
 if ((0 : Int) ≤ (IntKind.wrap .i64 (r3.1 - (1 : Int)))) then
 Option.bind (st1)[(Int.toNat (IntKind.wrap .i64 (r3.1 - (1 : Int))))]? fun x4 =>
 rec (IntKind.wrap .i64 (v + (IntKind.wrap .i64 (sign * x4)))) (-(1 : Int)) x x1 (IntKind.wrap .i64 (x2 + (1 : Int))) f0 f1 f2 f3 f4 st0 st1 st2 st3
 else
 none
 else
 rec v (-(1 : Int)) x x1 (IntKind.wrap .i64 (x2 + (1 : Int))) f0 f1 f2 f3 f4 st0 st1 st2 st3
 else
 none
 else
 (some (Sum.inr (v, f0, f1, f2, f3, f4, st0, st1, st2, st3)))
def qdZ (k n : Nat) : Int → Int → List ByteArray → Int → Int → List ByteArray → List (Int × ByteArray × List Int × Int × (Int × Int) × (Int × List (Int × Int) × List Int) × ByteArray × Int × List (Int × Int) × List (Int × Int)) → Int → Int → Int → Int → List Int → List Int → List Int → Option ((Int × Int × List ByteArray × List (Int × ByteArray × List Int × Int × (Int × Int) × (Int × List (Int × Int) × List Int) × ByteArray × Int × List (Int × Int) × List (Int × Int)) × Int × Int × Int × Int × List Int × List Int × List Int) ⊕ (Int × List ByteArray × List (Int × ByteArray × List Int × Int × (Int × Int) × (Int × List (Int × Int) × List Int) × ByteArray × Int × List (Int × Int) × List (Int × Int)) × Int × Int × Int × Int × List Int × List Int × List Int)) := Nat.rec (fun _ _ _ _ _ _ _ _ _ _ _ _ _ _ => none) (fun _ r => qpt k r) n
def qtQ (k : Nat) (f0 : List ByteArray) (f1 : List (Int × ByteArray × List Int × Int × (Int × Int) × (Int × List (Int × Int) × List Int) × ByteArray × Int × List (Int × Int) × List (Int × Int))) (f2 : Int) (f3 : Int) (f4 : Int) (st0 : Int) (st1 : List Int) (st2 : List Int) (st3 : List Int) (text : ByteArray) : Option (Int × Int) :=
 Option.bind (qf3 k f0 f1 f2 f3 f4 st0 st1 st2 st3) fun r1 =>
 if ((r1 != (0 : Int)) = true) then
 (some ((0 : Int), r1))
 else
 Option.bind (qf5 k text) fun r2 =>
 if ((!r2.2.2) = true) then
 (some ((0 : Int), (3 : Int)))
 else
 if ((r2.1 == (105 : Int)) = true) then
 Option.bind (r2.2.1)[0]? fun x =>
 Option.bind (qgX k f0 f1 f2 f3 f4 x) fun r3 =>
 if ((r3.2 != (0 : Int)) = true) then
 (some ((0 : Int), r3.2))
 else
 if ((0 : Int) ≤ r3.1) then
 Option.bind (st2)[(Int.toNat r3.1)]? fun x1 =>
 (some (x1, (0 : Int)))
 else
 none
 else
 Option.bind (qdZ k k (0 : Int) (1 : Int) r2.2.1 (((List.length r2.2.1) : Nat) : Int) (0 : Int) f0 f1 f2 f3 f4 st0 st1 st2 st3) fun r3 =>
 qc r3
 (fun r3 =>
 (some (r3.1, r3.2.1)))
 (fun r3 =>
 (some (r3.1, (0 : Int))))
def qeX : Nat → List ByteArray → List (Int × ByteArray × List Int × Int × (Int × Int) × (Int × List (Int × Int) × List Int) × ByteArray × Int × List (Int × Int) × List (Int × Int)) → Int → Int → Int → Int → List Int → List Int → List Int → ByteArray → Option (Int × Int)
 | 0, _, _, _, _, _, _, _, _, _, _ => none
 | k + 1, f0, f1, f2, f3, f4, st0, st1, st2, st3, text => qtQ k f0 f1 f2 f3 f4 st0 st1 st2 st3 text
def qkE : FS := { vs := [.g [.lf (.sl .str), .lf (.sl (.pr (.int .u8) (.pr .str (.pr (.sl (.int .i64)) (.pr (.int .i64) (.pr (.pr (.int .i64) (.int .i64)) (.pr (.pr (.int .i64) (.pr (.sl (.pr (.int .i64) (.int .i64))) (.sl (.int .i64)))) (.pr .str (.pr (.int .u8) (.pr (.sl (.pr (.int .i64) (.int .i64))) (.sl (.pr (.int .i64) (.int .i64))))))))))))), .lf (.int .i64), .lf (.int .i64), .lf (.int .i64)], .g [.lf (.int .i64), .lf (.sl (.int .i64)), .lf (.sl (.int .i64)), .lf (.sl (.int .i64))], .a (.lf .str)], bs := [] }
def qq9 : List FS := [{ vs := [.a (.lf (.int .i64)), .a (.lf (.int .i64))], bs := [] }]
def qyc (k : Nat) : Inst := ⟨27, qkE, qq9, fun x => qeX k x.1 x.2.1 x.2.2.1 x.2.2.2.1 x.2.2.2.2.1 x.2.2.2.2.2.1 x.2.2.2.2.2.2.1 x.2.2.2.2.2.2.2.1 x.2.2.2.2.2.2.2.2.1 x.2.2.2.2.2.2.2.2.2⟩
theorem qzt (k : Nat) : qp (call cf k) [qq0 k, qvq k, qvr k, qvu k] := qA (qDw k) (qA (qIb k) (qA (qIe k) (qA (qIi k) qT)))
def qi5 : List SS := [{ fr := [(3, .a (.ptr 0 0 0)), (4, .a (.ptr 1 0 0)), (14, .a (.lf (.int .i64))), (15, .a (.lf (.int .i64))), (52, .a (.lf (.sl .str))), (53, .a (.lf (.int .i64))), (54, .a (.lf (.int .i64)))], mem := [(0, some (.raw [[.lf (.sl .str), .lf (.sl (.pr (.int .u8) (.pr .str (.pr (.sl (.int .i64)) (.pr (.int .i64) (.pr (.pr (.int .i64) (.int .i64)) (.pr (.pr (.int .i64) (.pr (.sl (.pr (.int .i64) (.int .i64))) (.sl (.int .i64)))) (.pr .str (.pr (.int .u8) (.pr (.sl (.pr (.int .i64) (.int .i64))) (.sl (.pr (.int .i64) (.int .i64))))))))))))), .lf (.int .i64), .lf (.int .i64), .lf (.int .i64)]] 5 27 true false false)), (1, some (.raw [[.lf (.int .i64), .lf (.sl (.int .i64)), .lf (.sl (.int .i64)), .lf (.sl (.int .i64))]] 4 53 true false false))], nx := 2 }]
def qnJ : List OS := [⟨none, { fr := [(6, .a (.lf (.int .i64))), (7, .a (.lf (.int .i64)))], mem := [(0, some (.raw [[.lf (.sl .str), .lf (.sl (.pr (.int .u8) (.pr .str (.pr (.sl (.int .i64)) (.pr (.int .i64) (.pr (.pr (.int .i64) (.int .i64)) (.pr (.pr (.int .i64) (.pr (.sl (.pr (.int .i64) (.int .i64))) (.sl (.int .i64)))) (.pr .str (.pr (.int .u8) (.pr (.sl (.pr (.int .i64) (.int .i64))) (.sl (.pr (.int .i64) (.int .i64))))))))))))), .lf (.int .i64), .lf (.int .i64), .lf (.int .i64)]] 5 27 true false false)), (1, some (.raw [[.lf (.int .i64), .lf (.sl (.int .i64)), .lf (.sl (.int .i64)), .lf (.sl (.int .i64))]] 4 53 true false false))], nx := 2 }⟩, ⟨some 0, { fr := [(14, .a (.lf (.int .i64)))], mem := [(0, some (.raw [[.lf (.sl .str), .lf (.sl (.pr (.int .u8) (.pr .str (.pr (.sl (.int .i64)) (.pr (.int .i64) (.pr (.pr (.int .i64) (.int .i64)) (.pr (.pr (.int .i64) (.pr (.sl (.pr (.int .i64) (.int .i64))) (.sl (.int .i64)))) (.pr .str (.pr (.int .u8) (.pr (.sl (.pr (.int .i64) (.int .i64))) (.sl (.pr (.int .i64) (.int .i64))))))))))))), .lf (.int .i64), .lf (.int .i64), .lf (.int .i64)]] 5 27 true false false)), (1, some (.raw [[.lf (.int .i64), .lf (.sl (.int .i64)), .lf (.sl (.int .i64)), .lf (.sl (.int .i64))]] 4 53 true false false))], nx := 2 }⟩]
def qnK (k : Nat) : LInst := ⟨0, qi5, qnJ, fun x => qdZ k k x.1 x.2.1 x.2.2.1 x.2.2.2.1 x.2.2.2.2.1 x.2.2.2.2.2.1 x.2.2.2.2.2.2.1 x.2.2.2.2.2.2.2.1 x.2.2.2.2.2.2.2.2.1 x.2.2.2.2.2.2.2.2.2.1 x.2.2.2.2.2.2.2.2.2.2.1 x.2.2.2.2.2.2.2.2.2.2.2.1 x.2.2.2.2.2.2.2.2.2.2.2.2.1 x.2.2.2.2.2.2.2.2.2.2.2.2.2⟩
theorem qDS (k : Nat) : qg (LOk (R := DS OS.D qnJ) (fun b _ σ K => LOt Ty (kps 27) 0 b σ K []) cf (call cf k) (kps 27) Tryz.f27.ntmps k 0) 0 (lb Tryz.f27 0) :=
 qA qT (qA (qA qT qT) (qA (qA qT (qA qT (qA (qA qT (qA (qA qT qT) qT)) (qA (qA qT (qA qT qT)) qT)))) qT))
theorem qDT (k n : Nat) (x : DS SS.D qi5) : qdZ k (n + 1) x.1 x.2.1 x.2.2.1 x.2.2.2.1 x.2.2.2.2.1 x.2.2.2.2.2.1 x.2.2.2.2.2.2.1 x.2.2.2.2.2.2.2.1 x.2.2.2.2.2.2.2.2.1 x.2.2.2.2.2.2.2.2.2.1 x.2.2.2.2.2.2.2.2.2.2.1 x.2.2.2.2.2.2.2.2.2.2.2.1 x.2.2.2.2.2.2.2.2.2.2.2.2.1 x.2.2.2.2.2.2.2.2.2.2.2.2.2 = qu SS.enc (fun σ => qx cf (fun f a b K => COt f a b K [qq0 k, qvq k, qvr k, qvu k]) (fun b _ σ K => LOt Ty (kps 27) 0 b σ K []) Tryz.f27.ntmps 0 (lb Tryz.f27 0) σ (qw Ty (kps 27 0) 0 qi5 qnJ fun x => qdZ k n x.1 x.2.1 x.2.2.1 x.2.2.2.1 x.2.2.2.2.1 x.2.2.2.2.2.1 x.2.2.2.2.2.2.1 x.2.2.2.2.2.2.2.1 x.2.2.2.2.2.2.2.2.1 x.2.2.2.2.2.2.2.2.2.1 x.2.2.2.2.2.2.2.2.2.2.1 x.2.2.2.2.2.2.2.2.2.2.2.1 x.2.2.2.2.2.2.2.2.2.2.2.2.1 x.2.2.2.2.2.2.2.2.2.2.2.2.2)) qi5 x := by kernel_rfl
theorem qDU (k : Nat) : qL cf (call cf k) (kps 27) Tryz.f27.ntmps k 0 0 (lb Tryz.f27 0) (qnK k) :=
 qq (c := cf) (callF := call cf k) (kp := kps 27) (nt := Tryz.f27.ntmps) (k := k) (p := 0) (b := 0) (x0 := lb Tryz.f27 0) (hs := qi5) (os := qnJ) (qd (qzt k)) (qDS k) (fun n x => qdZ k n x.1 x.2.1 x.2.2.1 x.2.2.2.1 x.2.2.2.2.1 x.2.2.2.2.2.1 x.2.2.2.2.2.2.1 x.2.2.2.2.2.2.2.1 x.2.2.2.2.2.2.2.2.1 x.2.2.2.2.2.2.2.2.2.1 x.2.2.2.2.2.2.2.2.2.2.1 x.2.2.2.2.2.2.2.2.2.2.2.1 x.2.2.2.2.2.2.2.2.2.2.2.2.1 x.2.2.2.2.2.2.2.2.2.2.2.2.2) (fun _ => rfl) (qDT k)
theorem qIj (k : Nat) : qg (LOk (R := DS FS.D qq9) (fun b _ σ K => LOt Ty (kps 27) 0 b σ K [qnK k]) cf (call cf k) (cf.keep 27) Tryz.f27.ntmps k qkE.bs.length) 0 (bd Tryz.f27) :=
 qA qT (qA (qA qT (qA qT (qA (qA qT qT) qT))) (qA qT (qA (qA qT (qA (qA qT qT) qT)) (qA (qA qT (qA (qA qT (qA (qA qT (qA (qA qT qT) qT)) (qA qT qT))) qT)) (qA qT (qA (qA qT (qt (c := cf) (callF := call cf k) (kp := kps 27) (nt := Tryz.f27.ntmps) (k := k) (p := 0) (b := 0) (x0 := lb Tryz.f27 0) (l := [qnK k]) (qA (fun _ => qDU k) qT))) (qA qT qT)))))))
theorem qIk (k : Nat) (x : qkE.D) : qeX (k + 1) x.1 x.2.1 x.2.2.1 x.2.2.2.1 x.2.2.2.2.1 x.2.2.2.2.2.1 x.2.2.2.2.2.2.1 x.2.2.2.2.2.2.2.1 x.2.2.2.2.2.2.2.2.1 x.2.2.2.2.2.2.2.2.2 = qi cf (fun f a b K => COt f a b K [qq0 k, qvq k, qvr k, qvu k]) (fun b _ σ K => LOt Ty (kps 27) 0 b σ K [qnK k]) 27 Tryz.f27.ntmps Tryz.f27.results.toList (bd Tryz.f27) (qkE.enc x).1 (qkE.enc x).2 (qk FS.dec qq9) := by kernel_rfl
theorem qIl : ∀ k, qh (call cf k) (qyc k)
 | 0 => fun x y e => absurd (show (none : Option _) = some y from e) (by simp)
 | k + 1 => qe (c := cf) (k := k) (f := 27) (fn := Tryz.f27) (body := bd Tryz.f27) (sh := qkE) (os := qq9) rfl Tryz.func27 rfl ⟨rfl, Nat.le_of_ble_eq_true rfl⟩ (qd (qzt k)) (qIj k) (fun x => qeX (k + 1) x.1 x.2.1 x.2.2.1 x.2.2.2.1 x.2.2.2.2.1 x.2.2.2.2.2.1 x.2.2.2.2.2.2.1 x.2.2.2.2.2.2.2.1 x.2.2.2.2.2.2.2.2.1 x.2.2.2.2.2.2.2.2.2) (qIk k)

def qfU (k : Nat) (v : Int) : Option (Bool) :=
 if ((decide (v > (2000000000000000000 : Int))) = false) then
 (some (decide (v < (-(2000000000000000000 : Int)))))
 else
 (some true)
def qbz : Nat → Int → Option (Bool)
 | 0, _ => none
 | k + 1, v => qfU k v
def qkF : FS := { vs := [.a (.lf (.int .i64))], bs := [] }
def qra : List FS := [{ vs := [.a (.lf .bool)], bs := [] }]
def qg2 (k : Nat) : Inst := ⟨95, qkF, qra, fun x => qbz k x⟩
theorem qIm (k : Nat) : qp (call cf k) [] := True.intro
theorem qIn (k : Nat) : qg (LOk (R := DS FS.D qra) (fun b _ σ K => LOt Ty (kps 95) 0 b σ K []) cf (call cf k) (cf.keep 95) Tryz.f95.ntmps k qkF.bs.length) 0 (bd Tryz.f95) :=
 qA qT (qA qT qT)
theorem qIo (k : Nat) (x : qkF.D) : qbz (k + 1) x = qi cf (fun f a b K => COt f a b K []) (fun b _ σ K => LOt Ty (kps 95) 0 b σ K []) 95 Tryz.f95.ntmps Tryz.f95.results.toList (bd Tryz.f95) (qkF.enc x).1 (qkF.enc x).2 (qk FS.dec qra) := by kernel_rfl
theorem qvv : ∀ k, qh (call cf k) (qg2 k)
 | 0 => fun x y e => absurd (show (none : Option _) = some y from e) (by simp)
 | k + 1 => qe (c := cf) (k := k) (f := 95) (fn := Tryz.f95) (body := bd Tryz.f95) (sh := qkF) (os := qra) rfl Tryz.func95 rfl ⟨rfl, Nat.le_of_ble_eq_true rfl⟩ (qd (qIm k)) (qIn k) (fun x => qbz (k + 1) x) (qIo k)

def qd9 (k : Nat) (rec : List Int → Int → Int → Option ((Int) ⊕ (Unit))) (s : List Int) (x : Int) (x1 : Int) : Option ((Int) ⊕ (Unit)) :=
 if ((decide (x1 < x)) = true) then
 if ((0 : Int) ≤ x1) then
 Option.bind (s)[(Int.toNat x1)]? fun x2 =>
 Option.bind (qbz k x2) fun r5 =>
 if (r5 = true) then
 (some (Sum.inl x1))
 else
 rec s x (IntKind.wrap .i64 (x1 + (1 : Int)))
 else
 none
 else
 (some (Sum.inr ()))
def qR (k n : Nat) : List Int → Int → Int → Option ((Int) ⊕ (Unit)) := Nat.rec (fun _ _ _ => none) (fun _ r => qd9 k r) n
def qbC (k : Nat) (s : List Int) : Option (Int) :=
 Option.bind (qR k k s (((List.length s) : Nat) : Int) (0 : Int)) fun r5 =>
 qc r5
 (fun r5 =>
 (some r5))
 (fun r5 =>
 (some (-(1 : Int))))
def qV : Nat → List Int → Option (Int)
 | 0, _ => none
 | k + 1, s => qbC k s
def qkG : FS := { vs := [.a (.lf (.sl (.int .i64))), .a (.fn 95 [])], bs := [] }
def qrb : List FS := [{ vs := [.a (.lf (.int .i64))], bs := [] }]
def qyd (k : Nat) : Inst := ⟨197, qkG, qrb, fun x => qV k x⟩
theorem qzu (k : Nat) : qp (call cf k) [qg2 k] := qA (qvv k) qT
def qi6 : List SS := [{ fr := [(0, .a (.lf (.sl (.int .i64)))), (1, .a (.fn 95 [])), (7, .a (.lf (.int .i64))), (8, .a (.lf (.int .i64)))], mem := [], nx := 0 }]
def qnL : List OS := [⟨none, { fr := [(4, .a (.lf (.int .i64)))], mem := [], nx := 0 }⟩, ⟨some 0, { fr := [], mem := [], nx := 0 }⟩]
def qnM (k : Nat) : LInst := ⟨0, qi6, qnL, fun x => qR k k x.1 x.2.1 x.2.2⟩
theorem qDV (k : Nat) : qg (LOk (R := DS OS.D qnL) (fun b _ σ K => LOt Ty (kps 197) 0 b σ K []) cf (call cf k) (kps 197) Tryz.f197.ntmps k 0) 0 (lb Tryz.f197 0) :=
 qA qT (qA (qA qT qT) (qA (qA qT (qA qT (qA (qA qT qT) qT))) qT))
theorem qDW (k n : Nat) (x : DS SS.D qi6) : qR k (n + 1) x.1 x.2.1 x.2.2 = qu SS.enc (fun σ => qx cf (fun f a b K => COt f a b K [qg2 k]) (fun b _ σ K => LOt Ty (kps 197) 0 b σ K []) Tryz.f197.ntmps 0 (lb Tryz.f197 0) σ (qw Ty (kps 197 0) 0 qi6 qnL fun x => qR k n x.1 x.2.1 x.2.2)) qi6 x := by kernel_rfl
theorem qDX (k : Nat) : qL cf (call cf k) (kps 197) Tryz.f197.ntmps k 0 0 (lb Tryz.f197 0) (qnM k) :=
 qq (c := cf) (callF := call cf k) (kp := kps 197) (nt := Tryz.f197.ntmps) (k := k) (p := 0) (b := 0) (x0 := lb Tryz.f197 0) (hs := qi6) (os := qnL) (qd (qzu k)) (qDV k) (fun n x => qR k n x.1 x.2.1 x.2.2) (fun _ => rfl) (qDW k)
theorem qIp (k : Nat) : qg (LOk (R := DS FS.D qrb) (fun b _ σ K => LOt Ty (kps 197) 0 b σ K [qnM k]) cf (call cf k) (cf.keep 197) Tryz.f197.ntmps k qkG.bs.length) 0 (bd Tryz.f197) :=
 qA qT (qA (qA qT (qt (c := cf) (callF := call cf k) (kp := kps 197) (nt := Tryz.f197.ntmps) (k := k) (p := 0) (b := 0) (x0 := lb Tryz.f197 0) (l := [qnM k]) (qA (fun _ => qDX k) qT))) (qA qT qT))
theorem qIq (k : Nat) (x : qkG.D) : qV (k + 1) x = qi cf (fun f a b K => COt f a b K [qg2 k]) (fun b _ σ K => LOt Ty (kps 197) 0 b σ K [qnM k]) 197 Tryz.f197.ntmps Tryz.f197.results.toList (bd Tryz.f197) (qkG.enc x).1 (qkG.enc x).2 (qk FS.dec qrb) := by kernel_rfl
theorem qIr : ∀ k, qh (call cf k) (qyd k)
 | 0 => fun x y e => absurd (show (none : Option _) = some y from e) (by simp)
 | k + 1 => qe (c := cf) (k := k) (f := 197) (fn := Tryz.f197) (body := bd Tryz.f197) (sh := qkG) (os := qrb) rfl Tryz.func197 rfl ⟨rfl, Nat.le_of_ble_eq_true rfl⟩ (qd (qzu k)) (qIp k) (fun x => qV (k + 1) x) (qIq k)

def qbl (k : Nat) (s : List Int) : Option (Bool) :=
 Option.bind (qV k s) fun r5 =>
 (some (decide (r5 ≥ (0 : Int))))
def qQ : Nat → List Int → Option (Bool)
 | 0, _ => none
 | k + 1, s => qbl k s
def qkH : FS := { vs := [.a (.lf (.sl (.int .i64))), .a (.fn 95 [])], bs := [] }
def qrc : List FS := [{ vs := [.a (.lf .bool)], bs := [] }]
def qye (k : Nat) : Inst := ⟨139, qkH, qrc, fun x => qQ k x⟩
theorem qIs (k : Nat) : qp (call cf k) [qyd k] := qA (qIr k) qT
theorem qIt (k : Nat) : qg (LOk (R := DS FS.D qrc) (fun b _ σ K => LOt Ty (kps 139) 0 b σ K []) cf (call cf k) (cf.keep 139) Tryz.f139.ntmps k qkH.bs.length) 0 (bd Tryz.f139) :=
 qA qT (qA qT qT)
theorem qIu (k : Nat) (x : qkH.D) : qQ (k + 1) x = qi cf (fun f a b K => COt f a b K [qyd k]) (fun b _ σ K => LOt Ty (kps 139) 0 b σ K []) 139 Tryz.f139.ntmps Tryz.f139.results.toList (bd Tryz.f139) (qkH.enc x).1 (qkH.enc x).2 (qk FS.dec qrc) := by kernel_rfl
theorem qIv : ∀ k, qh (call cf k) (qye k)
 | 0 => fun x y e => absurd (show (none : Option _) = some y from e) (by simp)
 | k + 1 => qe (c := cf) (k := k) (f := 139) (fn := Tryz.f139) (body := bd Tryz.f139) (sh := qkH) (os := qrc) rfl Tryz.func139 rfl ⟨rfl, Nat.le_of_ble_eq_true rfl⟩ (qd (qIs k)) (qIt k) (fun x => qQ (k + 1) x) (qIu k)

def qg3 (k : Nat) (row : List Int) : Option (Int) :=
 Option.bind (qQ k row) fun r5 =>
 if (r5 = true) then
 (some (4 : Int))
 else
 if (((((List.length row) : Nat) : Int) == (0 : Int)) = true) then
 (some (6 : Int))
 else
 (some (0 : Int))
def qcB : Nat → List Int → Option (Int)
 | 0, _ => none
 | k + 1, row => qg3 k row
def qkI : FS := { vs := [.a (.lf (.sl (.int .i64)))], bs := [] }
def qrd : List FS := [{ vs := [.a (.lf (.int .i64))], bs := [] }]
def qgi (k : Nat) : Inst := ⟨83, qkI, qrd, fun x => qcB k x⟩
theorem qIw (k : Nat) : qp (call cf k) [qye k] := qA (qIv k) qT
theorem qIx (k : Nat) : qg (LOk (R := DS FS.D qrd) (fun b _ σ K => LOt Ty (kps 83) 0 b σ K []) cf (call cf k) (cf.keep 83) Tryz.f83.ntmps k qkI.bs.length) 0 (bd Tryz.f83) :=
 qA qT (qA (qA qT (qA (qA qT qT) qT)) (qA (qA qT (qA (qA qT qT) qT)) (qA qT qT)))
theorem qIy (k : Nat) (x : qkI.D) : qcB (k + 1) x = qi cf (fun f a b K => COt f a b K [qye k]) (fun b _ σ K => LOt Ty (kps 83) 0 b σ K []) 83 Tryz.f83.ntmps Tryz.f83.results.toList (bd Tryz.f83) (qkI.enc x).1 (qkI.enc x).2 (qk FS.dec qrd) := by kernel_rfl
theorem qre : ∀ k, qh (call cf k) (qgi k)
 | 0 => fun x y e => absurd (show (none : Option _) = some y from e) (by simp)
 | k + 1 => qe (c := cf) (k := k) (f := 83) (fn := Tryz.f83) (body := bd Tryz.f83) (sh := qkI) (os := qrd) rfl Tryz.func83 rfl ⟨rfl, Nat.le_of_ble_eq_true rfl⟩ (qd (qIw k)) (qIx k) (fun x => qcB (k + 1) x) (qIy k)

def qcl (k : Nat) (rec : List Int → Int → Int → Int → Option ((Int × Int) ⊕ (Unit))) (row : List Int) (level : Int) (nth : Int) (i : Int) : Option ((Int × Int) ⊕ (Unit)) :=
 if ((decide (i < (((List.length row) : Nat) : Int))) = true) then
 if ((0 : Int) ≤ (IntKind.wrap .i64 (i - (1 : Int)))) then
 Option.bind (row)[(Int.toNat (IntKind.wrap .i64 (i - (1 : Int))))]? fun x =>
 if ((decide (x < level)) = true) then
 if ((0 : Int) ≤ i) then
 Option.bind (row)[(Int.toNat i)]? fun x1 =>
 if ((decide (x1 ≥ level)) = true) then
 if (((IntKind.wrap .i64 (nth - (1 : Int))) == (0 : Int)) = true) then
 (some (Sum.inl (i, (0 : Int))))
 else
 rec row level (IntKind.wrap .i64 (nth - (1 : Int))) (IntKind.wrap .i64 (i + (1 : Int)))
 else
 rec row level nth (IntKind.wrap .i64 (i + (1 : Int)))
 else
 none
 else
 rec row level nth (IntKind.wrap .i64 (i + (1 : Int)))
 else
 none
 else
 (some (Sum.inr ()))
def qay (k n : Nat) : List Int → Int → Int → Int → Option ((Int × Int) ⊕ (Unit)) := Nat.rec (fun _ _ _ _ => none) (fun _ r => qcl k r) n
def qg4 (k : Nat) (row : List Int) (level : Int) (nth : Int) : Option (Int × Int) :=
 if ((decide (nth < (1 : Int))) = true) then
 (some ((0 : Int), (1 : Int)))
 else
 Option.bind (qbz k level) fun r4 =>
 if (r4 = false) then
 Option.bind (qcB k row) fun r5 =>
 if ((r5 == (4 : Int)) = true) then
 (some ((0 : Int), (4 : Int)))
 else
 Option.bind (qay k k row level nth (1 : Int)) fun r6 =>
 qc r6
 (fun r6 =>
 (some (r6.1, r6.2)))
 (fun r6 =>
 (some ((0 : Int), (6 : Int))))
 else
 (some ((0 : Int), (4 : Int)))
def qcW : Nat → List Int → Int → Int → Option (Int × Int)
 | 0, _, _, _ => none
 | k + 1, row, level, nth => qg4 k row level nth
def qkJ : FS := { vs := [.a (.lf (.sl (.int .i64))), .a (.lf (.int .i64)), .a (.lf (.int .i64))], bs := [] }
def qrf : List FS := [{ vs := [.a (.lf (.int .i64)), .a (.lf (.int .i64))], bs := [] }]
def qs1 (k : Nat) : Inst := ⟨34, qkJ, qrf, fun x => qcW k x.1 x.2.1 x.2.2⟩
theorem qzv (k : Nat) : qp (call cf k) [qg2 k, qgi k] := qA (qvv k) (qA (qre k) qT)
def qi7 : List SS := [{ fr := [(0, .a (.lf (.sl (.int .i64)))), (1, .a (.lf (.int .i64))), (2, .a (.lf (.int .i64))), (8, .a (.lf (.int .i64)))], mem := [], nx := 0 }]
def qnN : List OS := [⟨none, { fr := [(6, .a (.lf (.int .i64))), (7, .a (.lf (.int .i64)))], mem := [], nx := 0 }⟩, ⟨some 0, { fr := [], mem := [], nx := 0 }⟩]
def qnO (k : Nat) : LInst := ⟨0, qi7, qnN, fun x => qay k k x.1 x.2.1 x.2.2.1 x.2.2.2⟩
theorem qDY (k : Nat) : qg (LOk (R := DS OS.D qnN) (fun b _ σ K => LOt Ty (kps 34) 0 b σ K []) cf (call cf k) (kps 34) Tryz.f34.ntmps k 0) 0 (lb Tryz.f34 0) :=
 qA (qA qT (qA qT qT)) (qA (qA qT (qA (qA qT (qA qT (qA (qA qT qT) qT))) qT)) qT)
theorem qDZ (k n : Nat) (x : DS SS.D qi7) : qay k (n + 1) x.1 x.2.1 x.2.2.1 x.2.2.2 = qu SS.enc (fun σ => qx cf (fun f a b K => COt f a b K [qg2 k, qgi k]) (fun b _ σ K => LOt Ty (kps 34) 0 b σ K []) Tryz.f34.ntmps 0 (lb Tryz.f34 0) σ (qw Ty (kps 34 0) 0 qi7 qnN fun x => qay k n x.1 x.2.1 x.2.2.1 x.2.2.2)) qi7 x := by kernel_rfl
theorem qD0 (k : Nat) : qL cf (call cf k) (kps 34) Tryz.f34.ntmps k 0 0 (lb Tryz.f34 0) (qnO k) :=
 qq (c := cf) (callF := call cf k) (kp := kps 34) (nt := Tryz.f34.ntmps) (k := k) (p := 0) (b := 0) (x0 := lb Tryz.f34 0) (hs := qi7) (os := qnN) (qd (qzv k)) (qDY k) (fun n x => qay k n x.1 x.2.1 x.2.2.1 x.2.2.2) (fun _ => rfl) (qDZ k)
theorem qIz (k : Nat) : qg (LOk (R := DS FS.D qrf) (fun b _ σ K => LOt Ty (kps 34) 0 b σ K [qnO k]) cf (call cf k) (cf.keep 34) Tryz.f34.ntmps k qkJ.bs.length) 0 (bd Tryz.f34) :=
 qA qT (qA (qA qT (qA (qA qT qT) qT)) (qA (qA qT (qA (qA qT qT) qT)) (qA (qA qT (qt (c := cf) (callF := call cf k) (kp := kps 34) (nt := Tryz.f34.ntmps) (k := k) (p := 0) (b := 0) (x0 := lb Tryz.f34 0) (l := [qnO k]) (qA (fun _ => qD0 k) qT))) (qA qT qT))))
theorem qIA (k : Nat) (x : qkJ.D) : qcW (k + 1) x.1 x.2.1 x.2.2 = qi cf (fun f a b K => COt f a b K [qg2 k, qgi k]) (fun b _ σ K => LOt Ty (kps 34) 0 b σ K [qnO k]) 34 Tryz.f34.ntmps Tryz.f34.results.toList (bd Tryz.f34) (qkJ.enc x).1 (qkJ.enc x).2 (qk FS.dec qrf) := by kernel_rfl
theorem qzw : ∀ k, qh (call cf k) (qs1 k)
 | 0 => fun x y e => absurd (show (none : Option _) = some y from e) (by simp)
 | k + 1 => qe (c := cf) (k := k) (f := 34) (fn := Tryz.f34) (body := bd Tryz.f34) (sh := qkJ) (os := qrf) rfl Tryz.func34 rfl ⟨rfl, Nat.le_of_ble_eq_true rfl⟩ (qd (qzv k)) (qIz k) (fun x => qcW (k + 1) x.1 x.2.1 x.2.2) (qIA k)

def qbL (k : Nat) (rec : List Int → Int → Int → Int → Option (List Int × Int)) (row : List Int) (level : Int) (band : Int) (at1 : Int) : Option (List Int × Int) :=
 if ((decide (at1 > (0 : Int))) = true) then
 if ((0 : Int) ≤ (IntKind.wrap .i64 (at1 - (1 : Int)))) then
 Option.bind (row)[(Int.toNat (IntKind.wrap .i64 (at1 - (1 : Int))))]? fun x =>
 if ((decide ((IntKind.wrap .i64 (x - level)) ≤ band)) = true) then
 if ((0 : Int) ≤ (IntKind.wrap .i64 (at1 - (1 : Int)))) then
 Option.bind (row)[(Int.toNat (IntKind.wrap .i64 (at1 - (1 : Int))))]? fun x1 =>
 if ((decide ((IntKind.wrap .i64 (level - x1)) ≤ band)) = true) then
 rec row level band (IntKind.wrap .i64 (at1 - (1 : Int)))
 else
 (some (row, at1))
 else
 none
 else
 (some (row, at1))
 else
 none
 else
 (some (row, at1))
def qaz (k n : Nat) : List Int → Int → Int → Int → Option (List Int × Int) := Nat.rec (fun _ _ _ _ => none) (fun _ r => qbL k r) n
def qgj (k : Nat) (row : List Int) (level : Int) (band : Int) : Option (Int × Int) :=
 if ((decide (band < (0 : Int))) = true) then
 (some ((0 : Int), (1 : Int)))
 else
 Option.bind (qbz k level) fun r5 =>
 if (r5 = false) then
 Option.bind (qcB k row) fun r6 =>
 if ((r6 == (4 : Int)) = true) then
 (some ((0 : Int), (4 : Int)))
 else
 Option.bind (qaz k k row level band (((List.length row) : Nat) : Int)) fun r7 =>
 if ((r7.2 == (((List.length r7.1) : Nat) : Int)) = true) then
 (some ((0 : Int), (6 : Int)))
 else
 (some (r7.2, (0 : Int)))
 else
 (some ((0 : Int), (4 : Int)))
def qcd : Nat → List Int → Int → Int → Option (Int × Int)
 | 0, _, _, _ => none
 | k + 1, row, level, band => qgj k row level band
def qkK : FS := { vs := [.a (.lf (.sl (.int .i64))), .a (.lf (.int .i64)), .a (.lf (.int .i64))], bs := [] }
def qrg : List FS := [{ vs := [.a (.lf (.int .i64)), .a (.lf (.int .i64))], bs := [] }]
def qs2 (k : Nat) : Inst := ⟨36, qkK, qrg, fun x => qcd k x.1 x.2.1 x.2.2⟩
theorem qzx (k : Nat) : qp (call cf k) [qg2 k, qgi k] := qA (qvv k) (qA (qre k) qT)
def qi8 : List SS := [{ fr := [(0, .a (.lf (.sl (.int .i64)))), (1, .a (.lf (.int .i64))), (2, .a (.lf (.int .i64))), (8, .a (.lf (.int .i64)))], mem := [], nx := 0 }]
def qnP : List OS := [⟨some 0, { fr := [(0, .a (.lf (.sl (.int .i64)))), (8, .a (.lf (.int .i64)))], mem := [], nx := 0 }⟩]
def qnQ (k : Nat) : LInst := ⟨0, qi8, qnP, fun x => qaz k k x.1 x.2.1 x.2.2.1 x.2.2.2⟩
theorem qD1 (k : Nat) : qg (LOk (R := DS OS.D qnP) (fun b _ σ K => LOt Ty (kps 36) 0 b σ K []) cf (call cf k) (kps 36) Tryz.f36.ntmps k 0) 0 (lb Tryz.f36 0) :=
 qA (qA qT (qA qT qT)) qT
theorem qD2 (k n : Nat) (x : DS SS.D qi8) : qaz k (n + 1) x.1 x.2.1 x.2.2.1 x.2.2.2 = qu SS.enc (fun σ => qx cf (fun f a b K => COt f a b K [qg2 k, qgi k]) (fun b _ σ K => LOt Ty (kps 36) 0 b σ K []) Tryz.f36.ntmps 0 (lb Tryz.f36 0) σ (qw Ty (kps 36 0) 0 qi8 qnP fun x => qaz k n x.1 x.2.1 x.2.2.1 x.2.2.2)) qi8 x := by kernel_rfl
theorem qD3 (k : Nat) : qL cf (call cf k) (kps 36) Tryz.f36.ntmps k 0 0 (lb Tryz.f36 0) (qnQ k) :=
 qq (c := cf) (callF := call cf k) (kp := kps 36) (nt := Tryz.f36.ntmps) (k := k) (p := 0) (b := 0) (x0 := lb Tryz.f36 0) (hs := qi8) (os := qnP) (qd (qzx k)) (qD1 k) (fun n x => qaz k n x.1 x.2.1 x.2.2.1 x.2.2.2) (fun _ => rfl) (qD2 k)
theorem qIB (k : Nat) : qg (LOk (R := DS FS.D qrg) (fun b _ σ K => LOt Ty (kps 36) 0 b σ K [qnQ k]) cf (call cf k) (cf.keep 36) Tryz.f36.ntmps k qkK.bs.length) 0 (bd Tryz.f36) :=
 qA qT (qA (qA qT (qA (qA qT qT) qT)) (qA (qA qT (qA (qA qT qT) qT)) (qA qT (qA (qt (c := cf) (callF := call cf k) (kp := kps 36) (nt := Tryz.f36.ntmps) (k := k) (p := 0) (b := 0) (x0 := lb Tryz.f36 0) (l := [qnQ k]) (qA (fun _ => qD3 k) qT)) (qA (qA qT (qA (qA qT qT) qT)) (qA qT qT))))))
theorem qIC (k : Nat) (x : qkK.D) : qcd (k + 1) x.1 x.2.1 x.2.2 = qi cf (fun f a b K => COt f a b K [qg2 k, qgi k]) (fun b _ σ K => LOt Ty (kps 36) 0 b σ K [qnQ k]) 36 Tryz.f36.ntmps Tryz.f36.results.toList (bd Tryz.f36) (qkK.enc x).1 (qkK.enc x).2 (qk FS.dec qrg) := by kernel_rfl
theorem qzy : ∀ k, qh (call cf k) (qs2 k)
 | 0 => fun x y e => absurd (show (none : Option _) = some y from e) (by simp)
 | k + 1 => qe (c := cf) (k := k) (f := 36) (fn := Tryz.f36) (body := bd Tryz.f36) (sh := qkK) (os := qrg) rfl Tryz.func36 rfl ⟨rfl, Nat.le_of_ble_eq_true rfl⟩ (qd (qzx k)) (qIB k) (fun x => qcd (k + 1) x.1 x.2.1 x.2.2) (qIC k)

def qaY (k : Nat) (rec : List Int → Int → Int → Option (Int)) (x : List Int) (m : Int) (i : Int) : Option (Int) :=
 if ((decide (i < (((List.length x) : Nat) : Int))) = true) then
 if ((0 : Int) ≤ i) then
 Option.bind (x)[(Int.toNat i)]? fun x2 =>
 rec x (min m x2) (IntKind.wrap .i64 (i + (1 : Int)))
 else
 none
 else
 (some m)
def qI (k n : Nat) : List Int → Int → Int → Option (Int) := Nat.rec (fun _ _ _ => none) (fun _ r => qaY k r) n
def qc3 (k : Nat) (x : List Int) : Option (Int) :=
 if ((decide ((((List.length x) : Nat) : Int) < (1 : Int))) = true) then
 none
 else
 Option.bind (x)[0]? fun x1 =>
 Option.bind (qI k k x x1 (1 : Int)) fun r7 =>
 (some r7)
def qbp : Nat → List Int → Option (Int)
 | 0, _ => none
 | k + 1, x => qc3 k x
def qht : FS := { vs := [.a (.lf (.sl (.int .i64)))], bs := [] }
def qnR : List FS := [{ vs := [.a (.lf (.int .i64))], bs := [] }]
def qvw (k : Nat) : Inst := ⟨84, qht, qnR, fun x => qbp k x⟩
theorem qwM (k : Nat) : qp (call cf k) [] := True.intro
def qi9 : List SS := [{ fr := [(0, .a (.lf (.sl (.int .i64)))), (3, .a (.lf (.int .i64))), (4, .a (.lf (.int .i64)))], mem := [], nx := 0 }]
def qnS : List OS := [⟨some 0, { fr := [(3, .a (.lf (.int .i64)))], mem := [], nx := 0 }⟩]
def qnT (k : Nat) : LInst := ⟨0, qi9, qnS, fun x => qI k k x.1 x.2.1 x.2.2⟩
theorem qD4 (k : Nat) : qg (LOk (R := DS OS.D qnS) (fun b _ σ K => LOt Ty (kps 84) 0 b σ K []) cf (call cf k) (kps 84) Tryz.f84.ntmps k 0) 0 (lb Tryz.f84 0) :=
 qA (qA qT (qA qT qT)) (qA qT qT)
theorem qD5 (k n : Nat) (x : DS SS.D qi9) : qI k (n + 1) x.1 x.2.1 x.2.2 = qu SS.enc (fun σ => qx cf (fun f a b K => COt f a b K []) (fun b _ σ K => LOt Ty (kps 84) 0 b σ K []) Tryz.f84.ntmps 0 (lb Tryz.f84 0) σ (qw Ty (kps 84 0) 0 qi9 qnS fun x => qI k n x.1 x.2.1 x.2.2)) qi9 x := by kernel_rfl
theorem qD6 (k : Nat) : qL cf (call cf k) (kps 84) Tryz.f84.ntmps k 0 0 (lb Tryz.f84 0) (qnT k) :=
 qq (c := cf) (callF := call cf k) (kp := kps 84) (nt := Tryz.f84.ntmps) (k := k) (p := 0) (b := 0) (x0 := lb Tryz.f84 0) (hs := qi9) (os := qnS) (qd (qwM k)) (qD4 k) (fun n x => qI k n x.1 x.2.1 x.2.2) (fun _ => rfl) (qD5 k)
theorem qD7 (k : Nat) : qg (LOk (R := DS FS.D qnR) (fun b _ σ K => LOt Ty (kps 84) 0 b σ K [qnT k]) cf (call cf k) (cf.keep 84) Tryz.f84.ntmps k qht.bs.length) 0 (bd Tryz.f84) :=
 qA qT (qA (qA qT (qA qT qT)) (qA qT (qA (qA qT (qt (c := cf) (callF := call cf k) (kp := kps 84) (nt := Tryz.f84.ntmps) (k := k) (p := 0) (b := 0) (x0 := lb Tryz.f84 0) (l := [qnT k]) (qA (fun _ => qD6 k) qT))) (qA qT qT))))
theorem qD8 (k : Nat) (x : qht.D) : qbp (k + 1) x = qi cf (fun f a b K => COt f a b K []) (fun b _ σ K => LOt Ty (kps 84) 0 b σ K [qnT k]) 84 Tryz.f84.ntmps Tryz.f84.results.toList (bd Tryz.f84) (qht.enc x).1 (qht.enc x).2 (qk FS.dec qnR) := by kernel_rfl
theorem qD9 : ∀ k, qh (call cf k) (qvw k)
 | 0 => fun x y e => absurd (show (none : Option _) = some y from e) (by simp)
 | k + 1 => qe (c := cf) (k := k) (f := 84) (fn := Tryz.f84) (body := bd Tryz.f84) (sh := qht) (os := qnR) rfl Tryz.func84 rfl ⟨rfl, Nat.le_of_ble_eq_true rfl⟩ (qd (qwM k)) (qD7 k) (fun x => qbp (k + 1) x) (qD8 k)

def qaZ (k : Nat) (rec : List Int → Int → Int → Option (Int)) (x : List Int) (m : Int) (i : Int) : Option (Int) :=
 if ((decide (i < (((List.length x) : Nat) : Int))) = true) then
 if ((0 : Int) ≤ i) then
 Option.bind (x)[(Int.toNat i)]? fun x2 =>
 rec x (max m x2) (IntKind.wrap .i64 (i + (1 : Int)))
 else
 none
 else
 (some m)
def qJ (k n : Nat) : List Int → Int → Int → Option (Int) := Nat.rec (fun _ _ _ => none) (fun _ r => qaZ k r) n
def qc4 (k : Nat) (x : List Int) : Option (Int) :=
 if ((decide ((((List.length x) : Nat) : Int) < (1 : Int))) = true) then
 none
 else
 Option.bind (x)[0]? fun x1 =>
 Option.bind (qJ k k x x1 (1 : Int)) fun r8 =>
 (some r8)
def qbq : Nat → List Int → Option (Int)
 | 0, _ => none
 | k + 1, x => qc4 k x
def qhu : FS := { vs := [.a (.lf (.sl (.int .i64)))], bs := [] }
def qnU : List FS := [{ vs := [.a (.lf (.int .i64))], bs := [] }]
def qvx (k : Nat) : Inst := ⟨85, qhu, qnU, fun x => qbq k x⟩
theorem qwN (k : Nat) : qp (call cf k) [] := True.intro
def qja : List SS := [{ fr := [(0, .a (.lf (.sl (.int .i64)))), (3, .a (.lf (.int .i64))), (4, .a (.lf (.int .i64)))], mem := [], nx := 0 }]
def qnV : List OS := [⟨some 0, { fr := [(3, .a (.lf (.int .i64)))], mem := [], nx := 0 }⟩]
def qnW (k : Nat) : LInst := ⟨0, qja, qnV, fun x => qJ k k x.1 x.2.1 x.2.2⟩
theorem qEa (k : Nat) : qg (LOk (R := DS OS.D qnV) (fun b _ σ K => LOt Ty (kps 85) 0 b σ K []) cf (call cf k) (kps 85) Tryz.f85.ntmps k 0) 0 (lb Tryz.f85 0) :=
 qA (qA qT (qA qT qT)) (qA qT qT)
theorem qEb (k n : Nat) (x : DS SS.D qja) : qJ k (n + 1) x.1 x.2.1 x.2.2 = qu SS.enc (fun σ => qx cf (fun f a b K => COt f a b K []) (fun b _ σ K => LOt Ty (kps 85) 0 b σ K []) Tryz.f85.ntmps 0 (lb Tryz.f85 0) σ (qw Ty (kps 85 0) 0 qja qnV fun x => qJ k n x.1 x.2.1 x.2.2)) qja x := by kernel_rfl
theorem qEc (k : Nat) : qL cf (call cf k) (kps 85) Tryz.f85.ntmps k 0 0 (lb Tryz.f85 0) (qnW k) :=
 qq (c := cf) (callF := call cf k) (kp := kps 85) (nt := Tryz.f85.ntmps) (k := k) (p := 0) (b := 0) (x0 := lb Tryz.f85 0) (hs := qja) (os := qnV) (qd (qwN k)) (qEa k) (fun n x => qJ k n x.1 x.2.1 x.2.2) (fun _ => rfl) (qEb k)
theorem qEd (k : Nat) : qg (LOk (R := DS FS.D qnU) (fun b _ σ K => LOt Ty (kps 85) 0 b σ K [qnW k]) cf (call cf k) (cf.keep 85) Tryz.f85.ntmps k qhu.bs.length) 0 (bd Tryz.f85) :=
 qA qT (qA (qA qT (qA qT qT)) (qA qT (qA (qA qT (qt (c := cf) (callF := call cf k) (kp := kps 85) (nt := Tryz.f85.ntmps) (k := k) (p := 0) (b := 0) (x0 := lb Tryz.f85 0) (l := [qnW k]) (qA (fun _ => qEc k) qT))) (qA qT qT))))
theorem qEe (k : Nat) (x : qhu.D) : qbq (k + 1) x = qi cf (fun f a b K => COt f a b K []) (fun b _ σ K => LOt Ty (kps 85) 0 b σ K [qnW k]) 85 Tryz.f85.ntmps Tryz.f85.results.toList (bd Tryz.f85) (qhu.enc x).1 (qhu.enc x).2 (qk FS.dec qnU) := by kernel_rfl
theorem qEf : ∀ k, qh (call cf k) (qvx k)
 | 0 => fun x y e => absurd (show (none : Option _) = some y from e) (by simp)
 | k + 1 => qe (c := cf) (k := k) (f := 85) (fn := Tryz.f85) (body := bd Tryz.f85) (sh := qhu) (os := qnU) rfl Tryz.func85 rfl ⟨rfl, Nat.le_of_ble_eq_true rfl⟩ (qd (qwN k)) (qEd k) (fun x => qbq (k + 1) x) (qEe k)

def qg5 (k : Nat) (row : List Int) : Option (Int × Int × Int) :=
 Option.bind (qcB k row) fun r6 =>
 if ((r6 != (0 : Int)) = true) then
 (some ((0 : Int), (0 : Int), r6))
 else
 Option.bind (qbp k row) fun r7 =>
 Option.bind (qbq k row) fun r8 =>
 (some (r7, r8, (0 : Int)))
def qdn : Nat → List Int → Option (Int × Int × Int)
 | 0, _ => none
 | k + 1, row => qg5 k row
def qkL : FS := { vs := [.a (.lf (.sl (.int .i64)))], bs := [] }
def qrh : List FS := [{ vs := [.a (.lf (.int .i64)), .a (.lf (.int .i64)), .a (.lf (.int .i64))], bs := [] }]
def qs3 (k : Nat) : Inst := ⟨30, qkL, qrh, fun x => qdn k x⟩
theorem qID (k : Nat) : qp (call cf k) [qgi k, qvw k, qvx k] := qA (qre k) (qA (qD9 k) (qA (qEf k) qT))
theorem qIE (k : Nat) : qg (LOk (R := DS FS.D qrh) (fun b _ σ K => LOt Ty (kps 30) 0 b σ K []) cf (call cf k) (cf.keep 30) Tryz.f30.ntmps k qkL.bs.length) 0 (bd Tryz.f30) :=
 qA qT (qA (qA qT (qA qT (qA (qA qT qT) qT))) (qA qT qT))
theorem qIF (k : Nat) (x : qkL.D) : qdn (k + 1) x = qi cf (fun f a b K => COt f a b K [qgi k, qvw k, qvx k]) (fun b _ σ K => LOt Ty (kps 30) 0 b σ K []) 30 Tryz.f30.ntmps Tryz.f30.results.toList (bd Tryz.f30) (qkL.enc x).1 (qkL.enc x).2 (qk FS.dec qrh) := by kernel_rfl
theorem qzz : ∀ k, qh (call cf k) (qs3 k)
 | 0 => fun x y e => absurd (show (none : Option _) = some y from e) (by simp)
 | k + 1 => qe (c := cf) (k := k) (f := 30) (fn := Tryz.f30) (body := bd Tryz.f30) (sh := qkL) (os := qrh) rfl Tryz.func30 rfl ⟨rfl, Nat.le_of_ble_eq_true rfl⟩ (qd (qID k)) (qIE k) (fun x => qdn (k + 1) x) (qIF k)

def qlr (k : Nat) : Option (Bool) :=
 Option.bind (qci k) fun r =>
 Option.bind (qeX k r.1 r.2.1 r.2.2.1 r.2.2.2.1 r.2.2.2.2 (0 : Int) (List.take 2 ((7 : Int) :: ((3 : Int) :: []))) (List.take 1 ((4 : Int) :: [])) [] (ByteArray.mk (List.toArray (118 :: (40 :: (97 :: (44 :: (120 :: (49 :: (46 :: (98 :: (41 :: [])))))))))))) fun r1 =>
 Option.bind (qci k) fun r2 =>
 Option.bind (qeX k r2.1 r2.2.1 r2.2.2.1 r2.2.2.2.1 r2.2.2.2.2 (0 : Int) (List.take 2 ((7 : Int) :: ((3 : Int) :: []))) (List.take 1 ((4 : Int) :: [])) [] (ByteArray.mk (List.toArray (105 :: (40 :: (120 :: (49 :: (46 :: (114 :: (49 :: (41 :: []))))))))))) fun r3 =>
 Option.bind (qcW k (List.take 4 ((0 : Int) :: ((5 : Int) :: ((2 : Int) :: ((5 : Int) :: []))))) (5 : Int) (2 : Int)) fun r4 =>
 Option.bind (qcd k (List.take 4 ((0 : Int) :: ((9 : Int) :: ((10 : Int) :: ((11 : Int) :: []))))) (10 : Int) (1 : Int)) fun r5 =>
 Option.bind (qdn k (List.take 3 ((3 : Int) :: ((1 : Int) :: ((2 : Int) :: []))))) fun r6 =>
 if ((r1.2 == (0 : Int)) = true) then
 if ((r3.2 == (0 : Int)) = true) then
 if ((r4.2 == (0 : Int)) = true) then
 if ((r5.2 == (0 : Int)) = true) then
 if ((r6.2.2 == (0 : Int)) = true) then
 if ((r1.1 == (4 : Int)) = true) then
 if ((r3.1 == (4 : Int)) = true) then
 if ((r4.1 == (3 : Int)) = true) then
 if ((r5.1 == (1 : Int)) = true) then
 if ((r6.1 == (1 : Int)) = true) then
 (some (r6.2.1 == (3 : Int)))
 else
 (some false)
 else
 (some false)
 else
 (some false)
 else
 (some false)
 else
 (some false)
 else
 (some false)
 else
 (some false)
 else
 (some false)
 else
 (some false)
 else
 (some false)
def qcO : Nat → Option (Bool)
 | 0 => none
 | k + 1 => qlr k
def qkM : FS := { vs := [], bs := [] }
def qri : List FS := [{ vs := [.a (.lf .bool)], bs := [] }]
def qyf (k : Nat) : Inst := ⟨25, qkM, qri, fun x => qcO k⟩
theorem qIG (k : Nat) : qp (call cf k) [qxV k, qyc k, qs1 k, qs2 k, qs3 k] := qA (qF5 k) (qA (qIl k) (qA (qzw k) (qA (qzy k) (qA (qzz k) qT))))
theorem qIH (k : Nat) : qg (LOk (R := DS FS.D qri) (fun b _ σ K => LOt Ty (kps 25) 0 b σ K []) cf (call cf k) (cf.keep 25) Tryz.f25.ntmps k qkM.bs.length) 0 (bd Tryz.f25) :=
 qA qT (qA qT (qA qT (qA qT (qA qT (qA qT (qA qT (qA qT qT)))))))
theorem qII (k : Nat) (x : qkM.D) : qcO (k + 1) = qi cf (fun f a b K => COt f a b K [qxV k, qyc k, qs1 k, qs2 k, qs3 k]) (fun b _ σ K => LOt Ty (kps 25) 0 b σ K []) 25 Tryz.f25.ntmps Tryz.f25.results.toList (bd Tryz.f25) (qkM.enc x).1 (qkM.enc x).2 (qk FS.dec qri) := by kernel_rfl
theorem qIJ : ∀ k, qh (call cf k) (qyf k)
 | 0 => fun x y e => absurd (show (none : Option _) = some y from e) (by simp)
 | k + 1 => qe (c := cf) (k := k) (f := 25) (fn := Tryz.f25) (body := bd Tryz.f25) (sh := qkM) (os := qri) rfl Tryz.func25 rfl ⟨rfl, Nat.le_of_ble_eq_true rfl⟩ (qd (qIG k)) (qIH k) (fun x => qcO (k + 1)) (qII k)

def qaP (k : Nat) (rec : List Int → Int → Option ((Bool) ⊕ (Unit))) (l : List Int) (i : Int) : Option ((Bool) ⊕ (Unit)) :=
 if ((decide (i < (((List.length l) : Nat) : Int))) = true) then
 if ((0 : Int) ≤ i) then
 Option.bind (l)[(Int.toNat i)]? fun x =>
 if ((decide (x > (2000000000000000000 : Int))) = false) then
 if ((0 : Int) ≤ i) then
 Option.bind (l)[(Int.toNat i)]? fun x1 =>
 if ((decide (x1 < (-(2000000000000000000 : Int)))) = true) then
 (some (Sum.inl true))
 else
 rec l (IntKind.wrap .i64 (i + (1 : Int)))
 else
 none
 else
 (some (Sum.inl true))
 else
 none
 else
 (some (Sum.inr ()))
def qD (k n : Nat) : List Int → Int → Option ((Bool) ⊕ (Unit)) := Nat.rec (fun _ _ => none) (fun _ r => qaP k r) n
def qd5 (k : Nat) (l : List Int) : Option (Bool) :=
 Option.bind (qD k k l (0 : Int)) fun r1 =>
 qc r1
 (fun r1 =>
 (some r1))
 (fun r1 =>
 (some false))
def qS : Nat → List Int → Option (Bool)
 | 0, _ => none
 | k + 1, l => qd5 k l
def qkN : FS := { vs := [.a (.lf (.sl (.int .i64)))], bs := [] }
def qrj : List FS := [{ vs := [.a (.lf .bool)], bs := [] }]
def qfV (k : Nat) : Inst := ⟨40, qkN, qrj, fun x => qS k x⟩
theorem qzA (k : Nat) : qp (call cf k) [] := True.intro
def qjb : List SS := [{ fr := [(0, .a (.lf (.sl (.int .i64)))), (3, .a (.lf (.int .i64)))], mem := [], nx := 0 }]
def qnX : List OS := [⟨none, { fr := [(2, .a (.lf .bool))], mem := [], nx := 0 }⟩, ⟨some 0, { fr := [], mem := [], nx := 0 }⟩]
def qnY (k : Nat) : LInst := ⟨0, qjb, qnX, fun x => qD k k x.1 x.2⟩
theorem qEg (k : Nat) : qg (LOk (R := DS OS.D qnX) (fun b _ σ K => LOt Ty (kps 40) 0 b σ K []) cf (call cf k) (kps 40) Tryz.f40.ntmps k 0) 0 (lb Tryz.f40 0) :=
 qA (qA qT (qA qT qT)) (qA (qA qT (qA (qA qT qT) qT)) qT)
theorem qEh (k n : Nat) (x : DS SS.D qjb) : qD k (n + 1) x.1 x.2 = qu SS.enc (fun σ => qx cf (fun f a b K => COt f a b K []) (fun b _ σ K => LOt Ty (kps 40) 0 b σ K []) Tryz.f40.ntmps 0 (lb Tryz.f40 0) σ (qw Ty (kps 40 0) 0 qjb qnX fun x => qD k n x.1 x.2)) qjb x := by kernel_rfl
theorem qEi (k : Nat) : qL cf (call cf k) (kps 40) Tryz.f40.ntmps k 0 0 (lb Tryz.f40 0) (qnY k) :=
 qq (c := cf) (callF := call cf k) (kp := kps 40) (nt := Tryz.f40.ntmps) (k := k) (p := 0) (b := 0) (x0 := lb Tryz.f40 0) (hs := qjb) (os := qnX) (qd (qzA k)) (qEg k) (fun n x => qD k n x.1 x.2) (fun _ => rfl) (qEh k)
theorem qIK (k : Nat) : qg (LOk (R := DS FS.D qrj) (fun b _ σ K => LOt Ty (kps 40) 0 b σ K [qnY k]) cf (call cf k) (cf.keep 40) Tryz.f40.ntmps k qkN.bs.length) 0 (bd Tryz.f40) :=
 qA qT (qA (qA qT (qt (c := cf) (callF := call cf k) (kp := kps 40) (nt := Tryz.f40.ntmps) (k := k) (p := 0) (b := 0) (x0 := lb Tryz.f40 0) (l := [qnY k]) (qA (fun _ => qEi k) qT))) (qA qT qT))
theorem qIL (k : Nat) (x : qkN.D) : qS (k + 1) x = qi cf (fun f a b K => COt f a b K []) (fun b _ σ K => LOt Ty (kps 40) 0 b σ K [qnY k]) 40 Tryz.f40.ntmps Tryz.f40.results.toList (bd Tryz.f40) (qkN.enc x).1 (qkN.enc x).2 (qk FS.dec qrj) := by kernel_rfl
theorem qrk : ∀ k, qh (call cf k) (qfV k)
 | 0 => fun x y e => absurd (show (none : Option _) = some y from e) (by simp)
 | k + 1 => qe (c := cf) (k := k) (f := 40) (fn := Tryz.f40) (body := bd Tryz.f40) (sh := qkN) (os := qrj) rfl Tryz.func40 rfl ⟨rfl, Nat.le_of_ble_eq_true rfl⟩ (qd (qzA k)) (qIK k) (fun x => qS (k + 1) x) (qIL k)

def qeY (k : Nat) (rec : List Int → List Int → Nat → Int → Int → Int → List Int → Option (List Int × Nat × Int × List Int)) (a : List Int) (b : List Int) (out1 : Nat) (carry : Int) (x : Int) (x1 : Int) (outs : List Int) : Option (List Int × Nat × Int × List Int) :=
 if ((decide (x1 < x)) = true) then
 if ((0 : Int) ≤ x1) then
 Option.bind (a)[(Int.toNat x1)]? fun x5 =>
 if ((decide (x1 < (((List.length b) : Nat) : Int))) = true) then
 if ((0 : Int) ≤ x1) then
 Option.bind (b)[(Int.toNat x1)]? fun x6 =>
 if (((0 : Int) ≤ x1) ∧ (x1 < ((out1 : Nat) : Int))) then
 Option.bind (outs)[(0 + (Int.toNat x1))]? fun x7 =>
 rec a b out1 (Int.fdiv (IntKind.wrap .u64 ((IntKind.wrap .u64 ((IntKind.wrap .u64 x5) + carry)) + (IntKind.wrap .u64 x6))) (4294967296 : Int)) x (IntKind.wrap .i64 (x1 + (1 : Int))) (List.set outs (0 + (Int.toNat x1)) (IntKind.wrap .u32 (IntKind.wrap .u64 ((IntKind.wrap .u64 ((IntKind.wrap .u64 x5) + carry)) + (IntKind.wrap .u64 x6)))))
 else
 none
 else
 none
 else
 if (((0 : Int) ≤ x1) ∧ (x1 < ((out1 : Nat) : Int))) then
 Option.bind (outs)[(0 + (Int.toNat x1))]? fun x6 =>
 rec a b out1 (Int.fdiv (IntKind.wrap .u64 ((IntKind.wrap .u64 x5) + carry)) (4294967296 : Int)) x (IntKind.wrap .i64 (x1 + (1 : Int))) (List.set outs (0 + (Int.toNat x1)) (IntKind.wrap .u32 (IntKind.wrap .u64 ((IntKind.wrap .u64 x5) + carry))))
 else
 none
 else
 none
 else
 (some (a, out1, carry, outs))
def qb5 (k n : Nat) : List Int → List Int → Nat → Int → Int → Int → List Int → Option (List Int × Nat × Int × List Int) := Nat.rec (fun _ _ _ _ _ _ _ => none) (fun _ r => qeY k r) n
def qgL (k : Nat) (a : List Int) (b : List Int) : Option (List Int) :=
 if ((decide ((((List.length a) : Nat) : Int) < (((List.length b) : Nat) : Int))) = true) then
 if (((0 : Int) ≤ (IntKind.wrap .i64 ((((List.length b) : Nat) : Int) + (1 : Int)))) ∧ (((IntKind.wrap .i64 ((((List.length b) : Nat) : Int) + (1 : Int))) ≤ (IntKind.wrap .i64 ((((List.length b) : Nat) : Int) + (1 : Int)))) ∧ (((IntKind.wrap .i64 ((((List.length b) : Nat) : Int) + (1 : Int))) * (4 : Int)) ≤ (140737488355328 : Int)))) then
 Option.bind (qb5 k k b a (Int.toNat (IntKind.wrap .i64 ((((List.length b) : Nat) : Int) + (1 : Int)))) (0 : Int) (((List.length b) : Nat) : Int) (0 : Int) (List.replicate (Int.toNat (IntKind.wrap .i64 ((((List.length b) : Nat) : Int) + (1 : Int)))) (0 : Int))) fun r5 =>
 if (((0 : Int) ≤ (((List.length r5.1) : Nat) : Int)) ∧ ((((List.length r5.1) : Nat) : Int) < ((r5.2.1 : Nat) : Int))) then
 Option.bind (r5.2.2.2)[(0 + (Int.toNat (((List.length r5.1) : Nat) : Int)))]? fun x5 =>
 if ((0 + r5.2.1) ≤ (List.length (List.set r5.2.2.2 (0 + (Int.toNat (((List.length r5.1) : Nat) : Int))) (IntKind.wrap .u32 r5.2.2.1)))) then
 (some (List.take r5.2.1 (List.set r5.2.2.2 (0 + (Int.toNat (((List.length r5.1) : Nat) : Int))) (IntKind.wrap .u32 r5.2.2.1))))
 else
 none
 else
 none
 else
 none
 else
 if (((0 : Int) ≤ (IntKind.wrap .i64 ((((List.length a) : Nat) : Int) + (1 : Int)))) ∧ (((IntKind.wrap .i64 ((((List.length a) : Nat) : Int) + (1 : Int))) ≤ (IntKind.wrap .i64 ((((List.length a) : Nat) : Int) + (1 : Int)))) ∧ (((IntKind.wrap .i64 ((((List.length a) : Nat) : Int) + (1 : Int))) * (4 : Int)) ≤ (140737488355328 : Int)))) then
 Option.bind (qb5 k k a b (Int.toNat (IntKind.wrap .i64 ((((List.length a) : Nat) : Int) + (1 : Int)))) (0 : Int) (((List.length a) : Nat) : Int) (0 : Int) (List.replicate (Int.toNat (IntKind.wrap .i64 ((((List.length a) : Nat) : Int) + (1 : Int)))) (0 : Int))) fun r5 =>
 if (((0 : Int) ≤ (((List.length r5.1) : Nat) : Int)) ∧ ((((List.length r5.1) : Nat) : Int) < ((r5.2.1 : Nat) : Int))) then
 Option.bind (r5.2.2.2)[(0 + (Int.toNat (((List.length r5.1) : Nat) : Int)))]? fun x5 =>
 if ((0 + r5.2.1) ≤ (List.length (List.set r5.2.2.2 (0 + (Int.toNat (((List.length r5.1) : Nat) : Int))) (IntKind.wrap .u32 r5.2.2.1)))) then
 (some (List.take r5.2.1 (List.set r5.2.2.2 (0 + (Int.toNat (((List.length r5.1) : Nat) : Int))) (IntKind.wrap .u32 r5.2.2.1))))
 else
 none
 else
 none
 else
 none
def qfc : Nat → List Int → List Int → Option (List Int)
 | 0, _, _ => none
 | k + 1, a, b => qgL k a b
def qkO : FS := { vs := [.a (.lf (.sl (.int .u32))), .a (.lf (.sl (.int .u32)))], bs := [] }
def qrl : List FS := [{ vs := [.a (.lf (.sl (.int .u32)))], bs := [] }]
def qs4 (k : Nat) : Inst := ⟨199, qkO, qrl, fun x => qfc k x.1 x.2⟩
theorem qzB (k : Nat) : qp (call cf k) [] := True.intro
def qjc : List SS := [{ fr := [(0, .a (.lf (.sl (.int .u32)))), (1, .a (.lf (.sl (.int .u32)))), (5, .a (.smz 0)), (6, .a (.lf (.int .u64))), (21, .a (.lf (.int .i64))), (22, .a (.lf (.int .i64)))], mem := [(0, some (.arr (.int .u32) 1 106 false))], nx := 1 }]
def qnZ : List OS := [⟨some 0, { fr := [(0, .a (.lf (.sl (.int .u32)))), (5, .a (.smz 0)), (6, .a (.lf (.int .u64)))], mem := [(0, some (.arr (.int .u32) 1 106 false))], nx := 1 }⟩]
def qn0 (k : Nat) : LInst := ⟨0, qjc, qnZ, fun x => qb5 k k x.1 x.2.1 x.2.2.1 x.2.2.2.1 x.2.2.2.2.1 x.2.2.2.2.2.1 x.2.2.2.2.2.2⟩
theorem qEj (k : Nat) : qg (LOk (R := DS OS.D qnZ) (fun b _ σ K => LOt Ty (kps 199) 0 b σ K []) cf (call cf k) (kps 199) Tryz.f199.ntmps k 0) 0 (lb Tryz.f199 0) :=
 qA qT (qA (qA qT qT) (qA (qA qT (qA qT (qA (qA qT (qA qT qT)) (qA qT qT)))) qT))
theorem qEk (k n : Nat) (x : DS SS.D qjc) : qb5 k (n + 1) x.1 x.2.1 x.2.2.1 x.2.2.2.1 x.2.2.2.2.1 x.2.2.2.2.2.1 x.2.2.2.2.2.2 = qu SS.enc (fun σ => qx cf (fun f a b K => COt f a b K []) (fun b _ σ K => LOt Ty (kps 199) 0 b σ K []) Tryz.f199.ntmps 0 (lb Tryz.f199 0) σ (qw Ty (kps 199 0) 0 qjc qnZ fun x => qb5 k n x.1 x.2.1 x.2.2.1 x.2.2.2.1 x.2.2.2.2.1 x.2.2.2.2.2.1 x.2.2.2.2.2.2)) qjc x := by kernel_rfl
theorem qEl (k : Nat) : qL cf (call cf k) (kps 199) Tryz.f199.ntmps k 0 0 (lb Tryz.f199 0) (qn0 k) :=
 qq (c := cf) (callF := call cf k) (kp := kps 199) (nt := Tryz.f199.ntmps) (k := k) (p := 0) (b := 0) (x0 := lb Tryz.f199 0) (hs := qjc) (os := qnZ) (qd (qzB k)) (qEj k) (fun n x => qb5 k n x.1 x.2.1 x.2.2.1 x.2.2.2.1 x.2.2.2.2.1 x.2.2.2.2.2.1 x.2.2.2.2.2.2) (fun _ => rfl) (qEk k)
theorem qIM (k : Nat) : qg (LOk (R := DS FS.D qrl) (fun b _ σ K => LOt Ty (kps 199) 0 b σ K [qn0 k]) cf (call cf k) (cf.keep 199) Tryz.f199.ntmps k qkO.bs.length) 0 (bd Tryz.f199) :=
 qA qT (qA (qA qT (qA qT qT)) (qA qT (qA qT (qA (qA qT (qt (c := cf) (callF := call cf k) (kp := kps 199) (nt := Tryz.f199.ntmps) (k := k) (p := 0) (b := 0) (x0 := lb Tryz.f199 0) (l := [qn0 k]) (qA (fun _ => qEl k) qT))) (qA qT (qA qT qT))))))
theorem qIN (k : Nat) (x : qkO.D) : qfc (k + 1) x.1 x.2 = qi cf (fun f a b K => COt f a b K []) (fun b _ σ K => LOt Ty (kps 199) 0 b σ K [qn0 k]) 199 Tryz.f199.ntmps Tryz.f199.results.toList (bd Tryz.f199) (qkO.enc x).1 (qkO.enc x).2 (qk FS.dec qrl) := by kernel_rfl
theorem qzC : ∀ k, qh (call cf k) (qs4 k)
 | 0 => fun x y e => absurd (show (none : Option _) = some y from e) (by simp)
 | k + 1 => qe (c := cf) (k := k) (f := 199) (fn := Tryz.f199) (body := bd Tryz.f199) (sh := qkO) (os := qrl) rfl Tryz.func199 rfl ⟨rfl, Nat.le_of_ble_eq_true rfl⟩ (qd (qzB k)) (qIM k) (fun x => qfc (k + 1) x.1 x.2) (qIN k)


end
end Go.Proofs.YtlnailgfialgnaaGreatDoor.Am
