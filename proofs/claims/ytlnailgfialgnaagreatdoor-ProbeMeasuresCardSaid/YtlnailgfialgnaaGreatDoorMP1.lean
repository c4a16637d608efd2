/- Printed functions: each says what the typed machine says of the program -/
import Derived.Test.YtlnailgfialgnaaGreatDoorMA3
import Derived.KernelRfl

set_option linter.unusedVariables false
set_option maxRecDepth 100000
namespace Go.Proofs.YtlnailgfialgnaaGreatDoor.Am
theorem qT : True := True.intro
theorem qA {a b : Prop} (h : a) (k : b) : a ∧ b := And.intro h k
open Go
noncomputable section

def qeg (k : Nat) (rec : List Int → Int → Option (List Int × Int)) (w : List Int) (n : Int) : Option (List Int × Int) :=
 if ((decide (n > (0 : Int))) = true) then
 if ((0 : Int) ≤ (IntKind.wrap .i64 (n - (1 : Int)))) then
 Option.bind (w)[(Int.toNat (IntKind.wrap .i64 (n - (1 : Int))))]? fun x =>
 if ((x == (0 : Int)) = true) then
 rec w (IntKind.wrap .i64 (n - (1 : Int)))
 else
 (some (w, n))
 else
 none
 else
 (some (w, n))
def qcU (k n : Nat) : List Int → Int → Option (List Int × Int) := Nat.rec (fun _ _ => none) (fun _ r => qeg k r) n
def qij (k : Nat) (w : List Int) : Option (List Int) :=
 Option.bind (qcU k k w (((List.length w) : Nat) : Int)) fun r1 =>
 if (((0 : Int) ≤ (0 : Int)) ∧ (((0 : Int) ≤ r1.2) ∧ (r1.2 ≤ (((List.length r1.1) : Nat) : Int)))) then
 (some (List.take (Int.toNat r1.2) r1.1))
 else
 none
def qbV : Nat → List Int → Option (List Int)
 | 0, _ => none
 | k + 1, w => qij k w
def qjU : FS := { vs := [.a (.lf (.sl (.int .u32)))], bs := [] }
def qqe : List FS := [{ vs := [.a (.lf (.sl (.int .u32)))], bs := [] }]
def qe9 (k : Nat) : Inst := ⟨141, qjU, qqe, fun x => qbV k x⟩
theorem qy9 (k : Nat) : qp (call cf k) [] := True.intro
def qik : List SS := [{ fr := [(0, .a (.lf (.sl (.int .u32)))), (3, .a (.lf (.int .i64)))], mem := [], nx := 0 }]
def qmp : List OS := [⟨some 0, { fr := [(0, .a (.lf (.sl (.int .u32)))), (3, .a (.lf (.int .i64)))], mem := [], nx := 0 }⟩]
def qmq (k : Nat) : LInst := ⟨0, qik, qmp, fun x => qcU k k x.1 x.2⟩
theorem qBc (k : Nat) : qg (LOk (R := DS OS.D qmp) (fun b _ σ K => LOt Ty (kps 141) 0 b σ K []) cf (call cf k) (kps 141) Tryz.f141.ntmps k 0) 0 (lb Tryz.f141 0) :=
 qA (qA qT (qA qT qT)) qT
theorem qBd (k n : Nat) (x : DS SS.D qik) : qcU k (n + 1) x.1 x.2 = qu SS.enc (fun σ => qx cf (fun f a b K => COt f a b K []) (fun b _ σ K => LOt Ty (kps 141) 0 b σ K []) Tryz.f141.ntmps 0 (lb Tryz.f141 0) σ (qw Ty (kps 141 0) 0 qik qmp fun x => qcU k n x.1 x.2)) qik x := by kernel_rfl
theorem qBe (k : Nat) : qL cf (call cf k) (kps 141) Tryz.f141.ntmps k 0 0 (lb Tryz.f141 0) (qmq k) :=
 qq (c := cf) (callF := call cf k) (kp := kps 141) (nt := Tryz.f141.ntmps) (k := k) (p := 0) (b := 0) (x0 := lb Tryz.f141 0) (hs := qik) (os := qmp) (qd (qy9 k)) (qBc k) (fun n x => qcU k n x.1 x.2) (fun _ => rfl) (qBd k)
theorem qFX (k : Nat) : qg (LOk (R := DS FS.D qqe) (fun b _ σ K => LOt Ty (kps 141) 0 b σ K [qmq k]) cf (call cf k) (cf.keep 141) Tryz.f141.ntmps k qjU.bs.length) 0 (bd Tryz.f141) :=
 qA qT (qA qT (qA (qt (c := cf) (callF := call cf k) (kp := kps 141) (nt := Tryz.f141.ntmps) (k := k) (p := 0) (b := 0) (x0 := lb Tryz.f141 0) (l := [qmq k]) (qA (fun _ => qBe k) qT)) (qA qT qT)))
theorem qFY (k : Nat) (x : qjU.D) : qbV (k + 1) x = qi cf (fun f a b K => COt f a b K []) (fun b _ σ K => LOt Ty (kps 141) 0 b σ K [qmq k]) 141 Tryz.f141.ntmps Tryz.f141.results.toList (bd Tryz.f141) (qjU.enc x).1 (qjU.enc x).2 (qk FS.dec qqe) := by kernel_rfl
theorem qjV : ∀ k, qh (call cf k) (qe9 k)
 | 0 => fun x y e => absurd (show (none : Option _) = some y from e) (by simp)
 | k + 1 => qe (c := cf) (k := k) (f := 141) (fn := Tryz.f141) (body := bd Tryz.f141) (sh := qjU) (os := qqe) rfl Tryz.func141 rfl ⟨rfl, Nat.le_of_ble_eq_true rfl⟩ (qd (qy9 k)) (qFX k) (fun x => qbV (k + 1) x) (qFY k)

def qfa (k : Nat) (neg : Bool) (w : List Int) (z : Bool) : Option (Bool × List Int) :=
 Option.bind (qbV k w) fun r1 =>
 if (neg = true) then
 (some ((decide ((((List.length r1) : Nat) : Int) > (0 : Int))), r1))
 else
 (some (false, r1))
def qG : Nat → Bool → List Int → Bool → Option (Bool × List Int)
 | 0, _, _, _ => none
 | k + 1, neg, w, z => qfa k neg w z
def qjW : FS := { vs := [.a (.ptr 0 0 0), .a (.lf .bool), .a (.lf (.sl (.int .u32)))], bs := [.raw [[.lf .bool, .snil 1 106]] 2 147 true false false] }
def qqf : List FS := [{ vs := [.a (.ptr 0 0 0)], bs := [.raw [[.lf .bool, .lf (.sl (.int .u32))]] 2 147 true false false] }]
def qeh (k : Nat) : Inst := ⟨198, qjW, qqf, fun x => qG k x.1 x.2.1 x.2.2⟩
theorem qFZ (k : Nat) : qp (call cf k) [qe9 k] := qA (qjV k) qT
theorem qF0 (k : Nat) : qg (LOk (R := DS FS.D qqf) (fun b _ σ K => LOt Ty (kps 198) 1 b σ K []) cf (call cf k) (cf.keep 198) Tryz.f198.ntmps k qjW.bs.length) 0 (bd Tryz.f198) :=
 qA qT (qA qT (qA qT (qA qT qT)))
theorem qF1 (k : Nat) (x : qjW.D) : qG (k + 1) x.1 x.2.1 x.2.2 = qi cf (fun f a b K => COt f a b K [qe9 k]) (fun b _ σ K => LOt Ty (kps 198) 1 b σ K []) 198 Tryz.f198.ntmps Tryz.f198.results.toList (bd Tryz.f198) (qjW.enc x).1 (qjW.enc x).2 (qk FS.dec qqf) := by kernel_rfl
theorem qjX : ∀ k, qh (call cf k) (qeh k)
 | 0 => fun x y e => absurd (show (none : Option _) = some y from e) (by simp)
 | k + 1 => qe (c := cf) (k := k) (f := 198) (fn := Tryz.f198) (body := bd Tryz.f198) (sh := qjW) (os := qqf) rfl Tryz.func198 rfl ⟨rfl, Nat.le_of_ble_eq_true rfl⟩ (qd (qFZ k)) (qF0 k) (fun x => qG (k + 1) x.1 x.2.1 x.2.2) (qF1 k)

def qh1 (k : Nat) : Option (List ByteArray × List (Int × ByteArray × List Int × Int × (Int × Int) × (Int × List (Int × Int) × List Int) × ByteArray × Int × List (Int × Int) × List (Int × Int)) × Int × Int × Int) :=
 (some ((List.take 3 ((ByteArray.mk (List.toArray (48 :: []))) :: ((ByteArray.mk (List.toArray (97 :: []))) :: ((ByteArray.mk (List.toArray (120 :: (49 :: (46 :: (98 :: [])))))) :: [])))), (List.take 1 (((114 : Int), ((ByteArray.mk (List.toArray (120 :: (49 :: (46 :: (114 :: (49 :: []))))))), ((List.take 2 ((1 : Int) :: ((2 : Int) :: []))), ((0 : Int), (((1 : Int), (0 : Int)), (((0 : Int), (([] : List (Int × Int)), ([] : List Int))), ((ByteArray.mk (List.toArray [])), ((0 : Int), (([] : List (Int × Int)), ([] : List (Int × Int))))))))))) :: [])), (1 : Int), (0 : Int), (1 : Int)))
def qci : Nat → Option (List ByteArray × List (Int × ByteArray × List Int × Int × (Int × Int) × (Int × List (Int × Int) × List Int) × ByteArray × Int × List (Int × Int) × List (Int × Int)) × Int × Int × Int)
 | 0 => none
 | k + 1 => qh1 k
def qjY : FS := { vs := [], bs := [] }
def qqg : List FS := [{ vs := [.g [.lf (.sl .str), .lf (.sl (.pr (.int .u8) (.pr .str (.pr (.sl (.int .i64)) (.pr (.int .i64) (.pr (.pr (.int .i64) (.int .i64)) (.pr (.pr (.int .i64) (.pr (.sl (.pr (.int .i64) (.int .i64))) (.sl (.int .i64)))) (.pr .str (.pr (.int .u8) (.pr (.sl (.pr (.int .i64) (.int .i64))) (.sl (.pr (.int .i64) (.int .i64))))))))))))), .lf (.int .i64), .lf (.int .i64), .lf (.int .i64)]], bs := [] }]
def qxV (k : Nat) : Inst := ⟨72, qjY, qqg, fun x => qci k⟩
theorem qF2 (k : Nat) : qp (call cf k) [] := True.intro
theorem qF3 (k : Nat) : qg (LOk (R := DS FS.D qqg) (fun b _ σ K => LOt Ty (kps 72) 0 b σ K []) cf (call cf k) (cf.keep 72) Tryz.f72.ntmps k qjY.bs.length) 0 (bd Tryz.f72) :=
 qA qT (qA qT qT)
theorem qF4 (k : Nat) (x : qjY.D) : qci (k + 1) = qi cf (fun f a b K => COt f a b K []) (fun b _ σ K => LOt Ty (kps 72) 0 b σ K []) 72 Tryz.f72.ntmps Tryz.f72.results.toList (bd Tryz.f72) (qjY.enc x).1 (qjY.enc x).2 (qk FS.dec qqg) := by kernel_rfl
theorem qF5 : ∀ k, qh (call cf k) (qxV k)
 | 0 => fun x y e => absurd (show (none : Option _) = some y from e) (by simp)
 | k + 1 => qe (c := cf) (k := k) (f := 72) (fn := Tryz.f72) (body := bd Tryz.f72) (sh := qjY) (os := qqg) rfl Tryz.func72 rfl ⟨rfl, Nat.le_of_ble_eq_true rfl⟩ (qd (qF2 k)) (qF3 k) (fun x => qci (k + 1)) (qF4 k)

def qu3 (k : Nat) (n0 : Int) (n1 : Int) : Option (Bool) :=
 if ((n0 == (0 : Int)) = true) then
 (some (n1 == (0 : Int)))
 else
 if ((decide (n0 ≥ (-(999999999 : Int)))) = true) then
 if ((decide (n0 ≤ (999999999 : Int))) = true) then
 if (((Int.tmod n0 (10 : Int)) != (0 : Int)) = true) then
 if ((decide (n1 ≥ (-(18 : Int)))) = true) then
 (some (decide (n1 ≤ (9 : Int))))
 else
 (some false)
 else
 (some false)
 else
 (some false)
 else
 (some false)
def qaH : Nat → Int → Int → Option (Bool)
 | 0, _, _ => none
 | k + 1, n0, n1 => qu3 k n0 n1
def qjZ : FS := { vs := [.g [.lf (.int .i64), .lf (.int .i64)]], bs := [] }
def qqh : List FS := [{ vs := [.a (.lf .bool)], bs := [] }]
def qdv (k : Nat) : Inst := ⟨118, qjZ, qqh, fun x => qaH k x.1 x.2⟩
theorem qF6 (k : Nat) : qp (call cf k) [] := True.intro
theorem qF7 (k : Nat) : qg (LOk (R := DS FS.D qqh) (fun b _ σ K => LOt Ty (kps 118) 0 b σ K []) cf (call cf k) (cf.keep 118) Tryz.f118.ntmps k qjZ.bs.length) 0 (bd Tryz.f118) :=
 qA qT (qA (qA qT (qA (qA qT qT) qT)) (qA qT qT))
theorem qF8 (k : Nat) (x : qjZ.D) : qaH (k + 1) x.1 x.2 = qi cf (fun f a b K => COt f a b K []) (fun b _ σ K => LOt Ty (kps 118) 0 b σ K []) 118 Tryz.f118.ntmps Tryz.f118.results.toList (bd Tryz.f118) (qjZ.enc x).1 (qjZ.enc x).2 (qk FS.dec qqh) := by kernel_rfl
theorem qmr : ∀ k, qh (call cf k) (qdv k)
 | 0 => fun x y e => absurd (show (none : Option _) = some y from e) (by simp)
 | k + 1 => qe (c := cf) (k := k) (f := 118) (fn := Tryz.f118) (body := bd Tryz.f118) (sh := qjZ) (os := qqh) rfl Tryz.func118 rfl ⟨rfl, Nat.le_of_ble_eq_true rfl⟩ (qd (qF6 k)) (qF7 k) (fun x => qaH (k + 1) x.1 x.2) (qF8 k)

def qo5 (k : Nat) (rec : List ByteArray → List ByteArray → Int → Int → List (ByteArray × Int) → Option (List ByteArray × List (ByteArray × Int))) (l : List ByteArray) (x : List ByteArray) (x1 : Int) (x2 : Int) (seens : List (ByteArray × Int)) : Option (List ByteArray × List (ByteArray × Int)) :=
 if ((decide (x2 < x1)) = true) then
 if ((0 : Int) ≤ x2) then
 Option.bind (x)[(Int.toNat x2)]? fun x3 =>
 rec l x x1 (IntKind.wrap .i64 (x2 + (1 : Int))) (qce .str (.int .i64) seens x3 (IntKind.wrap .i64 ((qsn .str (.int .i64) seens x3 (0 : Int)) + (1 : Int))))
 else
 none
 else
 (some (l, seens))
def qdJ (k n : Nat) : List ByteArray → List ByteArray → Int → Int → List (ByteArray × Int) → Option (List ByteArray × List (ByteArray × Int)) := Nat.rec (fun _ _ _ _ _ => none) (fun _ r => qo5 k r) n
def qtG (k : Nat) (l : List ByteArray) : Option (Bool) :=
 Option.bind (qdJ k k l l (((List.length l) : Nat) : Int) (0 : Int) []) fun r2 =>
 (some ((((List.length r2.2) : Nat) : Int) != (((List.length r2.1) : Nat) : Int)))
def qdk : Nat → List ByteArray → Option (Bool)
 | 0, _ => none
 | k + 1, l => qtG k l
def qj0 : FS := { vs := [.a (.lf (.sl .str))], bs := [] }
def qqi : List FS := [{ vs := [.a (.lf .bool)], bs := [] }]
def qsN (k : Nat) : Inst := ⟨183, qj0, qqi, fun x => qdk k x⟩
theorem qza (k : Nat) : qp (call cf k) [] := True.intro
def qil : List SS := [{ fr := [(0, .a (.lf (.sl .str))), (3, .a (.mp 0)), (7, .a (.lf (.sl .str))), (8, .a (.lf (.int .i64))), (9, .a (.lf (.int .i64)))], mem := [(0, some (.map .str (.int .i64) 261 false))], nx := 1 }]
def qms : List OS := [⟨some 0, { fr := [(0, .a (.lf (.sl .str))), (3, .a (.mp 0))], mem := [(0, some (.map .str (.int .i64) 261 false))], nx := 1 }⟩]
def qmt (k : Nat) : LInst := ⟨0, qil, qms, fun x => qdJ k k x.1 x.2.1 x.2.2.1 x.2.2.2.1 x.2.2.2.2⟩
theorem qBf (k : Nat) : qg (LOk (R := DS OS.D qms) (fun b _ σ K => LOt Ty (kps 183) 0 b σ K []) cf (call cf k) (kps 183) Tryz.f183.ntmps k 0) 0 (lb Tryz.f183 0) :=
 qA qT (qA (qA qT qT) (qA (qA qT qT) qT))
theorem qBg (k n : Nat) (x : DS SS.D qil) : qdJ k (n + 1) x.1 x.2.1 x.2.2.1 x.2.2.2.1 x.2.2.2.2 = qu SS.enc (fun σ => qx cf (fun f a b K => COt f a b K []) (fun b _ σ K => LOt Ty (kps 183) 0 b σ K []) Tryz.f183.ntmps 0 (lb Tryz.f183 0) σ (qw Ty (kps 183 0) 0 qil qms fun x => qdJ k n x.1 x.2.1 x.2.2.1 x.2.2.2.1 x.2.2.2.2)) qil x := by kernel_rfl
theorem qBh (k : Nat) : qL cf (call cf k) (kps 183) Tryz.f183.ntmps k 0 0 (lb Tryz.f183 0) (qmt k) :=
 qq (c := cf) (callF := call cf k) (kp := kps 183) (nt := Tryz.f183.ntmps) (k := k) (p := 0) (b := 0) (x0 := lb Tryz.f183 0) (hs := qil) (os := qms) (qd (qza k)) (qBf k) (fun n x => qdJ k n x.1 x.2.1 x.2.2.1 x.2.2.2.1 x.2.2.2.2) (fun _ => rfl) (qBg k)
theorem qF9 (k : Nat) : qg (LOk (R := DS FS.D qqi) (fun b _ σ K => LOt Ty (kps 183) 0 b σ K [qmt k]) cf (call cf k) (cf.keep 183) Tryz.f183.ntmps k qj0.bs.length) 0 (bd Tryz.f183) :=
 qA qT (qA qT (qA (qA qT (qt (c := cf) (callF := call cf k) (kp := kps 183) (nt := Tryz.f183.ntmps) (k := k) (p := 0) (b := 0) (x0 := lb Tryz.f183 0) (l := [qmt k]) (qA (fun _ => qBh k) qT))) (qA qT qT)))
theorem qGa (k : Nat) (x : qj0.D) : qdk (k + 1) x = qi cf (fun f a b K => COt f a b K []) (fun b _ σ K => LOt Ty (kps 183) 0 b σ K [qmt k]) 183 Tryz.f183.ntmps Tryz.f183.results.toList (bd Tryz.f183) (qj0.enc x).1 (qj0.enc x).2 (qk FS.dec qqi) := by kernel_rfl
theorem qGb : ∀ k, qh (call cf k) (qsN k)
 | 0 => fun x y e => absurd (show (none : Option _) = some y from e) (by simp)
 | k + 1 => qe (c := cf) (k := k) (f := 183) (fn := Tryz.f183) (body := bd Tryz.f183) (sh := qj0) (os := qqi) rfl Tryz.func183 rfl ⟨rfl, Nat.le_of_ble_eq_true rfl⟩ (qd (qza k)) (qF9 k) (fun x => qdk (k + 1) x) (qGa k)

def qfq (k : Nat) (s : ByteArray) : Option (Empty) :=
 none
def qba : Nat → ByteArray → Option (Empty)
 | 0, _ => none
 | k + 1, s => qfq k s
def qhd : FS := { vs := [.a (.lf .str)], bs := [] }
def qmu : List FS := []
def qu4 (k : Nat) : Inst := ⟨237, qhd, qmu, fun x => qba k x⟩
theorem qBi (k : Nat) : qp (call cf k) [] := True.intro
theorem qBj (k : Nat) : qg (LOk (R := DS FS.D qmu) (fun b _ σ K => LOt Ty (kps 237) 0 b σ K []) cf (call cf k) (cf.keep 237) Tryz.f237.ntmps k qhd.bs.length) 0 (bd Tryz.f237) :=
 qA qT (qA (qA qT (qt (c := cf) (callF := call cf k) (kp := kps 237) (nt := Tryz.f237.ntmps) (k := k) (p := 0) (b := 0) (x0 := lb Tryz.f237 0) (l := []) qT)) (qA qT qT))
theorem qBk (k : Nat) (x : qhd.D) : qba (k + 1) x = qi cf (fun f a b K => COt f a b K []) (fun b _ σ K => LOt Ty (kps 237) 0 b σ K []) 237 Tryz.f237.ntmps Tryz.f237.results.toList (bd Tryz.f237) (qhd.enc x).1 (qhd.enc x).2 (qk FS.dec qmu) := by kernel_rfl
theorem qBl : ∀ k, qh (call cf k) (qu4 k)
 | 0 => fun x y e => absurd (show (none : Option _) = some y from e) (by simp)
 | k + 1 => qe (c := cf) (k := k) (f := 237) (fn := Tryz.f237) (body := bd Tryz.f237) (sh := qhd) (os := qmu) rfl Tryz.func237 rfl ⟨rfl, Nat.le_of_ble_eq_true rfl⟩ (qd (qBi k)) (qBj k) (fun x => qba (k + 1) x) (qBk k)

def qlH (k : Nat) (s : ByteArray) (n : Int) : Option (Empty) :=
 Option.bind (qba k s) fun r3 =>
 nomatch r3
def qdE : Nat → ByteArray → Int → Option (Empty)
 | 0, _, _ => none
 | k + 1, s, n => qlH k s n
def qhe : FS := { vs := [.a (.lf .str), .a (.lf (.int .i64))], bs := [] }
def qmv : List FS := []
def qqj (k : Nat) : Inst := ⟨228, qhe, qmv, fun x => qdE k x.1 x.2⟩
theorem qBm (k : Nat) : qp (call cf k) [qu4 k] := qA (qBl k) qT
theorem qBn (k : Nat) : qg (LOk (R := DS FS.D qmv) (fun b _ σ K => LOt Ty (kps 228) 0 b σ K []) cf (call cf k) (cf.keep 228) Tryz.f228.ntmps k qhe.bs.length) 0 (bd Tryz.f228) :=
 qA qT (qA qT (qA (qA qT (qA qT qT)) (qA qT (qA (qA qT (qt (c := cf) (callF := call cf k) (kp := kps 228) (nt := Tryz.f228.ntmps) (k := k) (p := 0) (b := 0) (x0 := lb Tryz.f228 0) (l := []) qT)) (qA (qA qT (qA qT qT)) (qA qT qT))))))
theorem qBo (k : Nat) (x : qhe.D) : qdE (k + 1) x.1 x.2 = qi cf (fun f a b K => COt f a b K [qu4 k]) (fun b _ σ K => LOt Ty (kps 228) 0 b σ K []) 228 Tryz.f228.ntmps Tryz.f228.results.toList (bd Tryz.f228) (qhe.enc x).1 (qhe.enc x).2 (qk FS.dec qmv) := by kernel_rfl
theorem qBp : ∀ k, qh (call cf k) (qqj k)
 | 0 => fun x y e => absurd (show (none : Option _) = some y from e) (by simp)
 | k + 1 => qe (c := cf) (k := k) (f := 228) (fn := Tryz.f228) (body := bd Tryz.f228) (sh := qhe) (os := qmv) rfl Tryz.func228 rfl ⟨rfl, Nat.le_of_ble_eq_true rfl⟩ (qd (qBm k)) (qBn k) (fun x => qdE (k + 1) x.1 x.2) (qBo k)

def qo6 (k : Nat) (s : ByteArray) (substr : ByteArray) : Option (Int) :=
 if ((List.length (Array.toList (ByteArray.data substr))) = 1) then
 (some (qxP s substr))
 else
 none
def qeC : Nat → ByteArray → ByteArray → Option (Int)
 | 0, _, _ => none
 | k + 1, s, substr => qo6 k s substr
def qim : FS := { vs := [.a (.lf .str), .a (.lf .str)], bs := [] }
def qmw : List FS := [{ vs := [.a (.lf (.int .i64))], bs := [] }]
def qqk (k : Nat) : Inst := ⟨229, qim, qmw, fun x => qeC k x.1 x.2⟩
theorem qLp (k : Nat) : qp (call cf k) [] := True.intro
theorem qBq (k : Nat) (x : qim.D) : qeC (k + 1) x.1 x.2 = (qjT) (DS FS.D qmw) (qim.enc x).1 (qim.enc x).2 (qk FS.dec qmw) := by kernel_rfl
theorem qBr : ∀ k, qh (call cf k) (qqk k)
 | 0 => fun x y e => absurd (show (none : Option _) = some y from e) (by simp)
 | k + 1 => qlF (c := cf) (k := k) (f := 229) (g := qgv) (G := qjT) (sh := qim) (os := qmw) rfl (qu2) (fun x => qeC (k + 1) x.1 x.2) (qBq k)

def qo7 (k : Nat) (s : ByteArray) (substr : ByteArray) : Option (Int) :=
 if ((List.length (Array.toList (ByteArray.data substr))) = 1) then
 (some (qxO s substr))
 else
 none
def qeD : Nat → ByteArray → ByteArray → Option (Int)
 | 0, _, _ => none
 | k + 1, s, substr => qo7 k s substr
def qin : FS := { vs := [.a (.lf .str), .a (.lf .str)], bs := [] }
def qmx : List FS := [{ vs := [.a (.lf (.int .i64))], bs := [] }]
def qql (k : Nat) : Inst := ⟨230, qin, qmx, fun x => qeD k x.1 x.2⟩
theorem qLq (k : Nat) : qp (call cf k) [] := True.intro
theorem qBs (k : Nat) (x : qin.D) : qeD (k + 1) x.1 x.2 = (qjS) (DS FS.D qmx) (qin.enc x).1 (qin.enc x).2 (qk FS.dec qmx) := by kernel_rfl
theorem qBt : ∀ k, qh (call cf k) (qql k)
 | 0 => fun x y e => absurd (show (none : Option _) = some y from e) (by simp)
 | k + 1 => qlF (c := cf) (k := k) (f := 230) (g := qgu) (G := qjS) (sh := qin) (os := qmx) rfl (qu1) (fun x => qeD (k + 1) x.1 x.2) (qBs k)

def qhT (k : Nat) (rec : ByteArray → ByteArray → Int → Int → Nat → Int → List ByteArray → Option (ByteArray × Nat × Int × List ByteArray)) (s : ByteArray) (sep : ByteArray) (sepSave : Int) (n : Int) (a : Nat) (i : Int) (as1 : List ByteArray) : Option (ByteArray × Nat × Int × List ByteArray) :=
 if ((decide (i < n)) = true) then
 Option.bind (qeD k s sep) fun r4 =>
 if ((decide (r4 < (0 : Int))) = true) then
 (some (s, a, i, as1))
 else
 if (((0 : Int) ≤ (0 : Int)) ∧ (((0 : Int) ≤ (IntKind.wrap .i64 (r4 + sepSave))) ∧ ((IntKind.wrap .i64 (r4 + sepSave)) ≤ (((ByteArray.size s) : Nat) : Int)))) then
 if (((0 : Int) ≤ i) ∧ (i < ((a : Nat) : Int))) then
 Option.bind (as1)[(0 + (Int.toNat i))]? fun x4 =>
 if (((0 : Int) ≤ (IntKind.wrap .i64 (r4 + (((ByteArray.size sep) : Nat) : Int)))) ∧ (((IntKind.wrap .i64 (r4 + (((ByteArray.size sep) : Nat) : Int))) ≤ (((ByteArray.size s) : Nat) : Int)) ∧ ((((ByteArray.size s) : Nat) : Int) ≤ (((ByteArray.size s) : Nat) : Int)))) then
 rec (ByteArray.extract s (Int.toNat (IntKind.wrap .i64 (r4 + (((ByteArray.size sep) : Nat) : Int)))) (Int.toNat (((ByteArray.size s) : Nat) : Int))) sep sepSave n a (IntKind.wrap .i64 (i + (1 : Int))) (List.set as1 (0 + (Int.toNat i)) (ByteArray.extract s 0 (Int.toNat (IntKind.wrap .i64 (r4 + sepSave)))))
 else
 none
 else
 none
 else
 none
 else
 (some (s, a, i, as1))
def qbF (k n : Nat) : ByteArray → ByteArray → Int → Int → Nat → Int → List ByteArray → Option (ByteArray × Nat × Int × List ByteArray) := Nat.rec (fun _ _ _ _ _ _ _ => none) (fun _ r => qhT k r) n
def qlq (k : Nat) (s : ByteArray) (sep : ByteArray) (sepSave : Int) (n : Int) : Option (List ByteArray) :=
 if ((n == (0 : Int)) = true) then
 (some [])
 else
 if (((Array.toList (ByteArray.data sep)) == (Array.toList (ByteArray.data (ByteArray.mk (List.toArray []))))) = true) then
 Option.bind (qdE k s n) fun r3 =>
 nomatch r3
 else
 if ((decide (n < (0 : Int))) = true) then
 Option.bind (qeC k s sep) fun r3 =>
 if (((0 : Int) ≤ (min (IntKind.wrap .i64 (r3 + (1 : Int))) (IntKind.wrap .i64 ((((ByteArray.size s) : Nat) : Int) + (1 : Int))))) ∧ (((min (IntKind.wrap .i64 (r3 + (1 : Int))) (IntKind.wrap .i64 ((((ByteArray.size s) : Nat) : Int) + (1 : Int)))) ≤ (min (IntKind.wrap .i64 (r3 + (1 : Int))) (IntKind.wrap .i64 ((((ByteArray.size s) : Nat) : Int) + (1 : Int))))) ∧ (((min (IntKind.wrap .i64 (r3 + (1 : Int))) (IntKind.wrap .i64 ((((ByteArray.size s) : Nat) : Int) + (1 : Int)))) * (16 : Int)) ≤ (140737488355328 : Int)))) then
 Option.bind (qbF k k s sep sepSave (IntKind.wrap .i64 ((min (IntKind.wrap .i64 (r3 + (1 : Int))) (IntKind.wrap .i64 ((((ByteArray.size s) : Nat) : Int) + (1 : Int)))) - (1 : Int))) (Int.toNat (min (IntKind.wrap .i64 (r3 + (1 : Int))) (IntKind.wrap .i64 ((((ByteArray.size s) : Nat) : Int) + (1 : Int))))) (0 : Int) (List.replicate (Int.toNat (min (IntKind.wrap .i64 (r3 + (1 : Int))) (IntKind.wrap .i64 ((((ByteArray.size s) : Nat) : Int) + (1 : Int))))) (ByteArray.mk (List.toArray [])))) fun r4 =>
 if (((0 : Int) ≤ r4.2.2.1) ∧ (r4.2.2.1 < ((r4.2.1 : Nat) : Int))) then
 Option.bind (r4.2.2.2)[(0 + (Int.toNat r4.2.2.1))]? fun x4 =>
 if (((0 : Int) ≤ (0 : Int)) ∧ (((0 : Int) ≤ (IntKind.wrap .i64 (r4.2.2.1 + (1 : Int)))) ∧ (((0 + (Int.toNat (IntKind.wrap .i64 (r4.2.2.1 + (1 : Int))))) ≤ (List.length (List.set r4.2.2.2 (0 + (Int.toNat r4.2.2.1)) r4.1))) ∧ (((0 : Int) < (IntKind.wrap .i64 (r4.2.2.1 + (1 : Int)))) ∨ (true = true))))) then
 if ((0 + (Int.toNat (IntKind.wrap .i64 (r4.2.2.1 + (1 : Int))))) ≤ (List.length (List.set r4.2.2.2 (0 + (Int.toNat r4.2.2.1)) r4.1))) then
 (some (List.take (Int.toNat (IntKind.wrap .i64 (r4.2.2.1 + (1 : Int)))) (List.set r4.2.2.2 (0 + (Int.toNat r4.2.2.1)) r4.1)))
 else
 none
 else
 none
 else
 none
 else
 none
 else
 if (((0 : Int) ≤ (min n (IntKind.wrap .i64 ((((ByteArray.size s) : Nat) : Int) + (1 : Int))))) ∧ (((min n (IntKind.wrap .i64 ((((ByteArray.size s) : Nat) : Int) + (1 : Int)))) ≤ (min n (IntKind.wrap .i64 ((((ByteArray.size s) : Nat) : Int) + (1 : Int))))) ∧ (((min n (IntKind.wrap .i64 ((((ByteArray.size s) : Nat) : Int) + (1 : Int)))) * (16 : Int)) ≤ (140737488355328 : Int)))) then
 Option.bind (qbF k k s sep sepSave (IntKind.wrap .i64 ((min n (IntKind.wrap .i64 ((((ByteArray.size s) : Nat) : Int) + (1 : Int)))) - (1 : Int))) (Int.toNat (min n (IntKind.wrap .i64 ((((ByteArray.size s) : Nat) : Int) + (1 : Int))))) (0 : Int) (List.replicate (Int.toNat (min n (IntKind.wrap .i64 ((((ByteArray.size s) : Nat) : Int) + (1 : Int))))) (ByteArray.mk (List.toArray [])))) fun r3 =>
 if (((0 : Int) ≤ r3.2.2.1) ∧ (r3.2.2.1 < ((r3.2.1 : Nat) : Int))) then
 Option.bind (r3.2.2.2)[(0 + (Int.toNat r3.2.2.1))]? fun x4 =>
 if (((0 : Int) ≤ (0 : Int)) ∧ (((0 : Int) ≤ (IntKind.wrap .i64 (r3.2.2.1 + (1 : Int)))) ∧ (((0 + (Int.toNat (IntKind.wrap .i64 (r3.2.2.1 + (1 : Int))))) ≤ (List.length (List.set r3.2.2.2 (0 + (Int.toNat r3.2.2.1)) r3.1))) ∧ (((0 : Int) < (IntKind.wrap .i64 (r3.2.2.1 + (1 : Int)))) ∨ (true = true))))) then
 if ((0 + (Int.toNat (IntKind.wrap .i64 (r3.2.2.1 + (1 : Int))))) ≤ (List.length (List.set r3.2.2.2 (0 + (Int.toNat r3.2.2.1)) r3.1))) then
 (some (List.take (Int.toNat (IntKind.wrap .i64 (r3.2.2.1 + (1 : Int)))) (List.set r3.2.2.2 (0 + (Int.toNat r3.2.2.1)) r3.1)))
 else
 none
 else
 none
 else
 none
 else
 none
def qdq : Nat → ByteArray → ByteArray → Int → Int → Option (List ByteArray)
 | 0, _, _, _, _ => none
 | k + 1, s, sep, sepSave, n => qlq k s sep sepSave n
def qhf : FS := { vs := [.a (.lf .str), .a (.lf .str), .a (.lf (.int .i64)), .a (.lf (.int .i64))], bs := [] }
def qmy : List FS := [{ vs := [.a (.lf (.sl .str))], bs := [] }]
def qu5 (k : Nat) : Inst := ⟨193, qhf, qmy, fun x => qdq k x.1 x.2.1 x.2.2.1 x.2.2.2⟩
theorem qwC (k : Nat) : qp (call cf k) [qqj k, qqk k, qql k] := qA (qBp k) (qA (qBr k) (qA (qBt k) qT))
def qio : List SS := [{ fr := [(0, .a (.lf .str)), (1, .a (.lf .str)), (2, .a (.lf (.int .i64))), (3, .a (.lf (.int .i64))), (9, .a (.smz 0)), (10, .a (.lf (.int .i64)))], mem := [(0, some (.arr .str 1 9 false))], nx := 1 }]
def qmz : List OS := [⟨some 0, { fr := [(0, .a (.lf .str)), (9, .a (.smz 0)), (10, .a (.lf (.int .i64)))], mem := [(0, some (.arr .str 1 9 false))], nx := 1 }⟩]
def qmA (k : Nat) : LInst := ⟨0, qio, qmz, fun x => qbF k k x.1 x.2.1 x.2.2.1 x.2.2.2.1 x.2.2.2.2.1 x.2.2.2.2.2.1 x.2.2.2.2.2.2⟩
theorem qBu (k : Nat) : qg (LOk (R := DS OS.D qmz) (fun b _ σ K => LOt Ty (kps 193) 0 b σ K []) cf (call cf k) (kps 193) Tryz.f193.ntmps k 0) 0 (lb Tryz.f193 0) :=
 qA (qA qT (qA qT qT)) (qA qT (qA (qA qT (qA qT qT)) (qA qT (qA qT qT))))
theorem qBv (k n : Nat) (x : DS SS.D qio) : qbF k (n + 1) x.1 x.2.1 x.2.2.1 x.2.2.2.1 x.2.2.2.2.1 x.2.2.2.2.2.1 x.2.2.2.2.2.2 = qu SS.enc (fun σ => qx cf (fun f a b K => COt f a b K [qqj k, qqk k, qql k]) (fun b _ σ K => LOt Ty (kps 193) 0 b σ K []) Tryz.f193.ntmps 0 (lb Tryz.f193 0) σ (qw Ty (kps 193 0) 0 qio qmz fun x => qbF k n x.1 x.2.1 x.2.2.1 x.2.2.2.1 x.2.2.2.2.1 x.2.2.2.2.2.1 x.2.2.2.2.2.2)) qio x := by kernel_rfl
theorem qBw (k : Nat) : qL cf (call cf k) (kps 193) Tryz.f193.ntmps k 0 0 (lb Tryz.f193 0) (qmA k) :=
 qq (c := cf) (callF := call cf k) (kp := kps 193) (nt := Tryz.f193.ntmps) (k := k) (p := 0) (b := 0) (x0 := lb Tryz.f193 0) (hs := qio) (os := qmz) (qd (qwC k)) (qBu k) (fun n x => qbF k n x.1 x.2.1 x.2.2.1 x.2.2.2.1 x.2.2.2.2.1 x.2.2.2.2.2.1 x.2.2.2.2.2.2) (fun _ => rfl) (qBv k)
theorem qBx (k : Nat) : qg (LOk (R := DS FS.D qmy) (fun b _ σ K => LOt Ty (kps 193) 0 b σ K [qmA k]) cf (call cf k) (cf.keep 193) Tryz.f193.ntmps k qhf.bs.length) 0 (bd Tryz.f193) :=
 qA qT (qA (qA qT (qA (qA qT qT) qT)) (qA (qA qT (qA (qA qT qT) qT)) (qA (qA qT (qA qT qT)) (qA qT (qA qT (qA qT (qA qT (qA (qt (c := cf) (callF := call cf k) (kp := kps 193) (nt := Tryz.f193.ntmps) (k := k) (p := 0) (b := 0) (x0 := lb Tryz.f193 0) (l := [qmA k]) (qA (fun _ => qBw k) qT)) (qA qT (qA qT qT))))))))))
theorem qBy (k : Nat) (x : qhf.D) : qdq (k + 1) x.1 x.2.1 x.2.2.1 x.2.2.2 = qi cf (fun f a b K => COt f a b K [qqj k, qqk k, qql k]) (fun b _ σ K => LOt Ty (kps 193) 0 b σ K [qmA k]) 193 Tryz.f193.ntmps Tryz.f193.results.toList (bd Tryz.f193) (qhf.enc x).1 (qhf.enc x).2 (qk FS.dec qmy) := by kernel_rfl
theorem qBz : ∀ k, qh (call cf k) (qu5 k)
 | 0 => fun x y e => absurd (show (none : Option _) = some y from e) (by simp)
 | k + 1 => qe (c := cf) (k := k) (f := 193) (fn := Tryz.f193) (body := bd Tryz.f193) (sh := qhf) (os := qmy) rfl Tryz.func193 rfl ⟨rfl, Nat.le_of_ble_eq_true rfl⟩ (qd (qwC k)) (qBx k) (fun x => qdq (k + 1) x.1 x.2.1 x.2.2.1 x.2.2.2) (qBy k)

def qo8 (k : Nat) (s : ByteArray) (sep : ByteArray) : Option (List ByteArray) :=
 Option.bind (qdq k s sep (0 : Int) (-(1 : Int))) fun r3 =>
 (some r3)
def qck : Nat → ByteArray → ByteArray → Option (List ByteArray)
 | 0, _, _ => none
 | k + 1, s, sep => qo8 k s sep
def qhg : FS := { vs := [.a (.lf .str), .a (.lf .str)], bs := [] }
def qmB : List FS := [{ vs := [.a (.lf (.sl .str))], bs := [] }]
def qhU (k : Nat) : Inst := ⟨133, qhg, qmB, fun x => qck k x.1 x.2⟩
theorem qBA (k : Nat) : qp (call cf k) [qu5 k] := qA (qBz k) qT
theorem qBB (k : Nat) : qg (LOk (R := DS FS.D qmB) (fun b _ σ K => LOt Ty (kps 133) 0 b σ K []) cf (call cf k) (cf.keep 133) Tryz.f133.ntmps k qhg.bs.length) 0 (bd Tryz.f133) :=
 qA qT (qA qT qT)
theorem qBC (k : Nat) (x : qhg.D) : qck (k + 1) x.1 x.2 = qi cf (fun f a b K => COt f a b K [qu5 k]) (fun b _ σ K => LOt Ty (kps 133) 0 b σ K []) 133 Tryz.f133.ntmps Tryz.f133.results.toList (bd Tryz.f133) (qhg.enc x).1 (qhg.enc x).2 (qk FS.dec qmB) := by kernel_rfl
theorem qsO : ∀ k, qh (call cf k) (qhU k)
 | 0 => fun x y e => absurd (show (none : Option _) = some y from e) (by simp)
 | k + 1 => qe (c := cf) (k := k) (f := 133) (fn := Tryz.f133) (body := bd Tryz.f133) (sh := qhg) (os := qmB) rfl Tryz.func133 rfl ⟨rfl, Nat.le_of_ble_eq_true rfl⟩ (qd (qBA k)) (qBB k) (fun x => qck (k + 1) x.1 x.2) (qBC k)

def qo9 (k : Nat) (rec : List Int → Int → Int → Option ((Bool) ⊕ (Unit))) (x : List Int) (x1 : Int) (x2 : Int) : Option ((Bool) ⊕ (Unit)) :=
 if ((decide (x2 < x1)) = true) then
 if ((0 : Int) ≤ x2) then
 Option.bind (x)[(Int.toNat x2)]? fun x5 =>
 if ((decide (x5 ≥ (97 : Int))) = true) then
 if ((decide (x5 ≤ (122 : Int))) = false) then
 if ((decide (x5 ≥ (48 : Int))) = true) then
 if ((decide (x5 ≤ (57 : Int))) = false) then
 if ((!(x5 == (95 : Int))) = true) then
 (some (Sum.inl false))
 else
 rec x x1 (IntKind.wrap .i64 (x2 + (1 : Int)))
 else
 rec x x1 (IntKind.wrap .i64 (x2 + (1 : Int)))
 else
 if ((!(x5 == (95 : Int))) = true) then
 (some (Sum.inl false))
 else
 rec x x1 (IntKind.wrap .i64 (x2 + (1 : Int)))
 else
 rec x x1 (IntKind.wrap .i64 (x2 + (1 : Int)))
 else
 if ((decide (x5 ≥ (48 : Int))) = true) then
 if ((decide (x5 ≤ (57 : Int))) = false) then
 if ((!(x5 == (95 : Int))) = true) then
 (some (Sum.inl false))
 else
 rec x x1 (IntKind.wrap .i64 (x2 + (1 : Int)))
 else
 rec x x1 (IntKind.wrap .i64 (x2 + (1 : Int)))
 else
 if ((!(x5 == (95 : Int))) = true) then
 (some (Sum.inl false))
 else
 rec x x1 (IntKind.wrap .i64 (x2 + (1 : Int)))
 else
 none
 else
 (some (Sum.inr ()))
def qdK (k n : Nat) : List Int → Int → Int → Option ((Bool) ⊕ (Unit)) := Nat.rec (fun _ _ _ => none) (fun _ r => qo9 k r) n
def qtH (k : Nat) (s : ByteArray) : Option (Bool) :=
 if ((decide ((((ByteArray.size s) : Nat) : Int) < (1 : Int))) = false) then
 if ((decide ((((ByteArray.size s) : Nat) : Int) > (16 : Int))) = true) then
 (some false)
 else
 Option.bind (qdK k k (List.map (fun b : UInt8 => ((UInt8.toNat b : Nat) : Int)) (Array.toList (ByteArray.data s))) (((List.length (List.map (fun b : UInt8 => ((UInt8.toNat b : Nat) : Int)) (Array.toList (ByteArray.data s)))) : Nat) : Int) (0 : Int)) fun r4 =>
 qc r4
 (fun r4 =>
 (some r4))
 (fun r4 =>
 (some true))
 else
 (some false)
def qeR : Nat → ByteArray → Option (Bool)
 | 0, _ => none
 | k + 1, s => qtH k s
def qj1 : FS := { vs := [.a (.lf .str)], bs := [] }
def qqm : List FS := [{ vs := [.a (.lf .bool)], bs := [] }]
def qip (k : Nat) : Inst := ⟨226, qj1, qqm, fun x => qeR k x⟩
theorem qzb (k : Nat) : qp (call cf k) [] := True.intro
def qiq : List SS := [{ fr := [(14, .a (.lf (.sl (.int .u8)))), (15, .a (.lf (.int .i64))), (16, .a (.lf (.int .i64)))], mem := [], nx := 0 }]
def qmC : List OS := [⟨none, { fr := [(2, .a (.lf .bool))], mem := [], nx := 0 }⟩, ⟨some 0, { fr := [], mem := [], nx := 0 }⟩]
def qmD (k : Nat) : LInst := ⟨0, qiq, qmC, fun x => qdK k k x.1 x.2.1 x.2.2⟩
theorem qBD (k : Nat) : qg (LOk (R := DS OS.D qmC) (fun b _ σ K => LOt Ty (kps 226) 0 b σ K []) cf (call cf k) (kps 226) Tryz.f226.ntmps k 0) 0 (lb Tryz.f226 0) :=
 qA qT (qA (qA qT qT) (qA (qA qT (qA qT (qA (qA qT qT) qT))) qT))
theorem qBE (k n : Nat) (x : DS SS.D qiq) : qdK k (n + 1) x.1 x.2.1 x.2.2 = qu SS.enc (fun σ => qx cf (fun f a b K => COt f a b K []) (fun b _ σ K => LOt Ty (kps 226) 0 b σ K []) Tryz.f226.ntmps 0 (lb Tryz.f226 0) σ (qw Ty (kps 226 0) 0 qiq qmC fun x => qdK k n x.1 x.2.1 x.2.2)) qiq x := by kernel_rfl
theorem qBF (k : Nat) : qL cf (call cf k) (kps 226) Tryz.f226.ntmps k 0 0 (lb Tryz.f226 0) (qmD k) :=
 qq (c := cf) (callF := call cf k) (kp := kps 226) (nt := Tryz.f226.ntmps) (k := k) (p := 0) (b := 0) (x0 := lb Tryz.f226 0) (hs := qiq) (os := qmC) (qd (qzb k)) (qBD k) (fun n x => qdK k n x.1 x.2.1 x.2.2) (fun _ => rfl) (qBE k)
theorem qGc (k : Nat) : qg (LOk (R := DS FS.D qqm) (fun b _ σ K => LOt Ty (kps 226) 0 b σ K [qmD k]) cf (call cf k) (cf.keep 226) Tryz.f226.ntmps k qj1.bs.length) 0 (bd Tryz.f226) :=
 qA qT (qA (qA qT (qA (qA qT qT) qT)) (qA (qA qT (qt (c := cf) (callF := call cf k) (kp := kps 226) (nt := Tryz.f226.ntmps) (k := k) (p := 0) (b := 0) (x0 := lb Tryz.f226 0) (l := [qmD k]) (qA (fun _ => qBF k) qT))) (qA qT qT)))
theorem qGd (k : Nat) (x : qj1.D) : qeR (k + 1) x = qi cf (fun f a b K => COt f a b K []) (fun b _ σ K => LOt Ty (kps 226) 0 b σ K [qmD k]) 226 Tryz.f226.ntmps Tryz.f226.results.toList (bd Tryz.f226) (qj1.enc x).1 (qj1.enc x).2 (qk FS.dec qqm) := by kernel_rfl
theorem qzc : ∀ k, qh (call cf k) (qip k)
 | 0 => fun x y e => absurd (show (none : Option _) = some y from e) (by simp)
 | k + 1 => qe (c := cf) (k := k) (f := 226) (fn := Tryz.f226) (body := bd Tryz.f226) (sh := qj1) (os := qqm) rfl Tryz.func226 rfl ⟨rfl, Nat.le_of_ble_eq_true rfl⟩ (qd (qzb k)) (qGc k) (fun x => qeR (k + 1) x) (qGd k)

def qu6 (k : Nat) (s : ByteArray) : Option (Bool) :=
 Option.bind (qeR k s) fun r4 =>
 (some r4)
def qfE : Nat → ByteArray → Option (Bool)
 | 0, _ => none
 | k + 1, s => qu6 k s
def qj2 : FS := { vs := [.a (.lf .str)], bs := [] }
def qqn : List FS := [{ vs := [.a (.lf .bool)], bs := [] }]
def qsP (k : Nat) : Inst := ⟨196, qj2, qqn, fun x => qfE k x⟩
theorem qGe (k : Nat) : qp (call cf k) [qip k] := qA (qzc k) qT
theorem qGf (k : Nat) : qg (LOk (R := DS FS.D qqn) (fun b _ σ K => LOt Ty (kps 196) 0 b σ K []) cf (call cf k) (cf.keep 196) Tryz.f196.ntmps k qj2.bs.length) 0 (bd Tryz.f196) :=
 qA qT (qA qT qT)
theorem qGg (k : Nat) (x : qj2.D) : qfE (k + 1) x = qi cf (fun f a b K => COt f a b K [qip k]) (fun b _ σ K => LOt Ty (kps 196) 0 b σ K []) 196 Tryz.f196.ntmps Tryz.f196.results.toList (bd Tryz.f196) (qj2.enc x).1 (qj2.enc x).2 (qk FS.dec qqn) := by kernel_rfl
theorem qzd : ∀ k, qh (call cf k) (qsP k)
 | 0 => fun x y e => absurd (show (none : Option _) = some y from e) (by simp)
 | k + 1 => qe (c := cf) (k := k) (f := 196) (fn := Tryz.f196) (body := bd Tryz.f196) (sh := qj2) (os := qqn) rfl Tryz.func196 rfl ⟨rfl, Nat.le_of_ble_eq_true rfl⟩ (qd (qGe k)) (qGf k) (fun x => qfE (k + 1) x) (qGg k)

def qsQ (k : Nat) (p : ByteArray) : Option (Bool) :=
 Option.bind (qfE k p) fun r4 =>
 (some (!r4))
def qfF : Nat → ByteArray → Option (Bool)
 | 0, _ => none
 | k + 1, p => qsQ k p
def qj3 : FS := { vs := [.a (.lf .str)], bs := [] }
def qqo : List FS := [{ vs := [.a (.lf .bool)], bs := [] }]
def qu7 (k : Nat) : Inst := ⟨221, qj3, qqo, fun x => qfF k x⟩
theorem qGh (k : Nat) : qp (call cf k) [qsP k] := qA (qzd k) qT
theorem qGi (k : Nat) : qg (LOk (R := DS FS.D qqo) (fun b _ σ K => LOt Ty (kps 221) 0 b σ K []) cf (call cf k) (cf.keep 221) Tryz.f221.ntmps k qj3.bs.length) 0 (bd Tryz.f221) :=
 qA qT (qA qT qT)
theorem qGj (k : Nat) (x : qj3.D) : qfF (k + 1) x = qi cf (fun f a b K => COt f a b K [qsP k]) (fun b _ σ K => LOt Ty (kps 221) 0 b σ K []) 221 Tryz.f221.ntmps Tryz.f221.results.toList (bd Tryz.f221) (qj3.enc x).1 (qj3.enc x).2 (qk FS.dec qqo) := by kernel_rfl
theorem qGk : ∀ k, qh (call cf k) (qu7 k)
 | 0 => fun x y e => absurd (show (none : Option _) = some y from e) (by simp)
 | k + 1 => qe (c := cf) (k := k) (f := 221) (fn := Tryz.f221) (body := bd Tryz.f221) (sh := qj3) (os := qqo) rfl Tryz.func221 rfl ⟨rfl, Nat.le_of_ble_eq_true rfl⟩ (qd (qGh k)) (qGi k) (fun x => qfF (k + 1) x) (qGj k)

def qdL (k : Nat) (rec : List ByteArray → Int → Int → Option ((Int) ⊕ (Unit))) (s : List ByteArray) (x : Int) (x1 : Int) : Option ((Int) ⊕ (Unit)) :=
 if ((decide (x1 < x)) = true) then
 if ((0 : Int) ≤ x1) then
 Option.bind (s)[(Int.toNat x1)]? fun x4 =>
 Option.bind (qfF k x4) fun r4 =>
 if (r4 = true) then
 (some (Sum.inl x1))
 else
 rec s x (IntKind.wrap .i64 (x1 + (1 : Int)))
 else
 none
 else
 (some (Sum.inr ()))
def qaa (k n : Nat) : List ByteArray → Int → Int → Option ((Int) ⊕ (Unit)) := Nat.rec (fun _ _ _ => none) (fun _ r => qdL k r) n
def qei (k : Nat) (s : List ByteArray) : Option (Int) :=
 Option.bind (qaa k k s (((List.length s) : Nat) : Int) (0 : Int)) fun r4 =>
 qc r4
 (fun r4 =>
 (some r4))
 (fun r4 =>
 (some (-(1 : Int))))
def qaI : Nat → List ByteArray → Option (Int)
 | 0, _ => none
 | k + 1, s => qei k s
def qhh : FS := { vs := [.a (.lf (.sl .str)), .a (.fn 221 [])], bs := [] }
def qmE : List FS := [{ vs := [.a (.lf (.int .i64))], bs := [] }]
def qu8 (k : Nat) : Inst := ⟨194, qhh, qmE, fun x => qaI k x⟩
theorem qwD (k : Nat) : qp (call cf k) [qu7 k] := qA (qGk k) qT
def qir : List SS := [{ fr := [(0, .a (.lf (.sl .str))), (1, .a (.fn 221 [])), (7, .a (.lf (.int .i64))), (8, .a (.lf (.int .i64)))], mem := [], nx := 0 }]
def qmF : List OS := [⟨none, { fr := [(4, .a (.lf (.int .i64)))], mem := [], nx := 0 }⟩, ⟨some 0, { fr := [], mem := [], nx := 0 }⟩]
def qmG (k : Nat) : LInst := ⟨0, qir, qmF, fun x => qaa k k x.1 x.2.1 x.2.2⟩
theorem qBG (k : Nat) : qg (LOk (R := DS OS.D qmF) (fun b _ σ K => LOt Ty (kps 194) 0 b σ K []) cf (call cf k) (kps 194) Tryz.f194.ntmps k 0) 0 (lb Tryz.f194 0) :=
 qA qT (qA (qA qT qT) (qA (qA qT (qA qT (qA (qA qT qT) qT))) qT))
theorem qBH (k n : Nat) (x : DS SS.D qir) : qaa k (n + 1) x.1 x.2.1 x.2.2 = qu SS.enc (fun σ => qx cf (fun f a b K => COt f a b K [qu7 k]) (fun b _ σ K => LOt Ty (kps 194) 0 b σ K []) Tryz.f194.ntmps 0 (lb Tryz.f194 0) σ (qw Ty (kps 194 0) 0 qir qmF fun x => qaa k n x.1 x.2.1 x.2.2)) qir x := by kernel_rfl
theorem qBI (k : Nat) : qL cf (call cf k) (kps 194) Tryz.f194.ntmps k 0 0 (lb Tryz.f194 0) (qmG k) :=
 qq (c := cf) (callF := call cf k) (kp := kps 194) (nt := Tryz.f194.ntmps) (k := k) (p := 0) (b := 0) (x0 := lb Tryz.f194 0) (hs := qir) (os := qmF) (qd (qwD k)) (qBG k) (fun n x => qaa k n x.1 x.2.1 x.2.2) (fun _ => rfl) (qBH k)
theorem qBJ (k : Nat) : qg (LOk (R := DS FS.D qmE) (fun b _ σ K => LOt Ty (kps 194) 0 b σ K [qmG k]) cf (call cf k) (cf.keep 194) Tryz.f194.ntmps k qhh.bs.length) 0 (bd Tryz.f194) :=
 qA qT (qA (qA qT (qt (c := cf) (callF := call cf k) (kp := kps 194) (nt := Tryz.f194.ntmps) (k := k) (p := 0) (b := 0) (x0 := lb Tryz.f194 0) (l := [qmG k]) (qA (fun _ => qBI k) qT))) (qA qT qT))
theorem qBK (k : Nat) (x : qhh.D) : qaI (k + 1) x = qi cf (fun f a b K => COt f a b K [qu7 k]) (fun b _ σ K => LOt Ty (kps 194) 0 b σ K [qmG k]) 194 Tryz.f194.ntmps Tryz.f194.results.toList (bd Tryz.f194) (qhh.enc x).1 (qhh.enc x).2 (qk FS.dec qmE) := by kernel_rfl
theorem qBL : ∀ k, qh (call cf k) (qu8 k)
 | 0 => fun x y e => absurd (show (none : Option _) = some y from e) (by simp)
 | k + 1 => qe (c := cf) (k := k) (f := 194) (fn := Tryz.f194) (body := bd Tryz.f194) (sh := qhh) (os := qmE) rfl Tryz.func194 rfl ⟨rfl, Nat.le_of_ble_eq_true rfl⟩ (qd (qwD k)) (qBJ k) (fun x => qaI (k + 1) x) (qBK k)

def qdM (k : Nat) (s : List ByteArray) : Option (Bool) :=
 Option.bind (qaI k s) fun r4 =>
 (some (decide (r4 ≥ (0 : Int))))
def qaw : Nat → List ByteArray → Option (Bool)
 | 0, _ => none
 | k + 1, s => qdM k s
def qj4 : FS := { vs := [.a (.lf (.sl .str)), .a (.fn 221 [])], bs := [] }
def qqp : List FS := [{ vs := [.a (.lf .bool)], bs := [] }]
def qxW (k : Nat) : Inst := ⟨134, qj4, qqp, fun x => qaw k x⟩
theorem qGl (k : Nat) : qp (call cf k) [qu8 k] := qA (qBL k) qT
theorem qGm (k : Nat) : qg (LOk (R := DS FS.D qqp) (fun b _ σ K => LOt Ty (kps 134) 0 b σ K []) cf (call cf k) (cf.keep 134) Tryz.f134.ntmps k qj4.bs.length) 0 (bd Tryz.f134) :=
 qA qT (qA qT qT)
theorem qGn (k : Nat) (x : qj4.D) : qaw (k + 1) x = qi cf (fun f a b K => COt f a b K [qu8 k]) (fun b _ σ K => LOt Ty (kps 134) 0 b σ K []) 134 Tryz.f134.ntmps Tryz.f134.results.toList (bd Tryz.f134) (qj4.enc x).1 (qj4.enc x).2 (qk FS.dec qqp) := by kernel_rfl
theorem qGo : ∀ k, qh (call cf k) (qxW k)
 | 0 => fun x y e => absurd (show (none : Option _) = some y from e) (by simp)
 | k + 1 => qe (c := cf) (k := k) (f := 134) (fn := Tryz.f134) (body := bd Tryz.f134) (sh := qj4) (os := qqp) rfl Tryz.func134 rfl ⟨rfl, Nat.le_of_ble_eq_true rfl⟩ (qd (qGl k)) (qGm k) (fun x => qaw (k + 1) x) (qGn k)

def qu9 (k : Nat) (s : ByteArray) : Option (Bool) :=
 Option.bind (qck k s (ByteArray.mk (List.toArray (46 :: [])))) fun r3 =>
 if ((decide ((((List.length r3) : Nat) : Int) ≤ (9 : Int))) = true) then
 Option.bind (qaw k r3) fun r4 =>
 (some (!r4))
 else
 (some false)
def qfG : Nat → ByteArray → Option (Bool)
 | 0, _ => none
 | k + 1, s => qu9 k s
def qj5 : FS := { vs := [.a (.lf .str)], bs := [] }
def qqq : List FS := [{ vs := [.a (.lf .bool)], bs := [] }]
def qis (k : Nat) : Inst := ⟨184, qj5, qqq, fun x => qfG k x⟩
theorem qGp (k : Nat) : qp (call cf k) [qhU k, qxW k] := qA (qsO k) (qA (qGo k) qT)
theorem qGq (k : Nat) : qg (LOk (R := DS FS.D qqq) (fun b _ σ K => LOt Ty (kps 184) 0 b σ K []) cf (call cf k) (cf.keep 184) Tryz.f184.ntmps k qj5.bs.length) 0 (bd Tryz.f184) :=
 qA qT (qA qT (qA qT qT))
theorem qGr (k : Nat) (x : qj5.D) : qfG (k + 1) x = qi cf (fun f a b K => COt f a b K [qhU k, qxW k]) (fun b _ σ K => LOt Ty (kps 184) 0 b σ K []) 184 Tryz.f184.ntmps Tryz.f184.results.toList (bd Tryz.f184) (qj5.enc x).1 (qj5.enc x).2 (qk FS.dec qqq) := by kernel_rfl
theorem qze : ∀ k, qh (call cf k) (qis k)
 | 0 => fun x y e => absurd (show (none : Option _) = some y from e) (by simp)
 | k + 1 => qe (c := cf) (k := k) (f := 184) (fn := Tryz.f184) (body := bd Tryz.f184) (sh := qj5) (os := qqq) rfl Tryz.func184 rfl ⟨rfl, Nat.le_of_ble_eq_true rfl⟩ (qd (qGp k)) (qGq k) (fun x => qfG (k + 1) x) (qGr k)

def qpa (k : Nat) (rec : List (Int × Int) → Int → Int → Int → List (Int × Int) → List Int → Option ((Bool × Int × List (Int × Int) × List Int × Int × Int) ⊕ (Int × List (Int × Int) × List Int))) (x : List (Int × Int)) (x1 : Int) (x2 : Int) (w0 : Int) (w1 : List (Int × Int)) (w2 : List Int) : Option ((Bool × Int × List (Int × Int) × List Int × Int × Int) ⊕ (Int × List (Int × Int) × List Int)) :=
 if ((decide (x2 < x1)) = true) then
 if ((0 : Int) ≤ x2) then
 Option.bind (x)[(Int.toNat x2)]? fun x4 =>
 Option.bind (qaH k x4.1 x4.2) fun r6 =>
 if ((!r6) = true) then
 (some (Sum.inl (false, w0, w1, w2, x4.1, x4.2)))
 else
 rec x x1 (IntKind.wrap .i64 (x2 + (1 : Int))) w0 w1 w2
 else
 none
 else
 (some (Sum.inr (w0, w1, w2)))
def qdN (k n : Nat) : List (Int × Int) → Int → Int → Int → List (Int × Int) → List Int → Option ((Bool × Int × List (Int × Int) × List Int × Int × Int) ⊕ (Int × List (Int × Int) × List Int)) := Nat.rec (fun _ _ _ _ _ _ => none) (fun _ r => qpa k r) n
def qpb (k : Nat) (rec : List Int → Int → Int → Int → List (Int × Int) → List Int → Option ((Bool × Int × List (Int × Int) × List Int) ⊕ (Int × List (Int × Int) × List Int))) (x : List Int) (x1 : Int) (x2 : Int) (w0 : Int) (w1 : List (Int × Int)) (w2 : List Int) : Option ((Bool × Int × List (Int × Int) × List Int) ⊕ (Int × List (Int × Int) × List Int)) :=
 if ((decide (x2 < x1)) = true) then
 if ((0 : Int) ≤ x2) then
 Option.bind (x)[(Int.toNat x2)]? fun x4 =>
 if ((decide (x4 < (0 : Int))) = false) then
 if ((decide (x4 > (1000000000 : Int))) = true) then
 (some (Sum.inl (false, w0, w1, w2)))
 else
 rec x x1 (IntKind.wrap .i64 (x2 + (1 : Int))) w0 w1 w2
 else
 (some (Sum.inl (false, w0, w1, w2)))
 else
 none
 else
 (some (Sum.inr (w0, w1, w2)))
def qdO (k n : Nat) : List Int → Int → Int → Int → List (Int × Int) → List Int → Option ((Bool × Int × List (Int × Int) × List Int) ⊕ (Int × List (Int × Int) × List Int)) := Nat.rec (fun _ _ _ _ _ _ => none) (fun _ r => qpb k r) n
def qpc (k : Nat) (rec : Int → Int → List (Int × Int) → List Int → Option ((Bool × Int × List (Int × Int) × List Int) ⊕ (Int × List (Int × Int) × List Int))) (i : Int) (w0 : Int) (w1 : List (Int × Int)) (w2 : List Int) : Option ((Bool × Int × List (Int × Int) × List Int) ⊕ (Int × List (Int × Int) × List Int)) :=
 if ((decide (i < (((List.length w2) : Nat) : Int))) = true) then
 if ((0 : Int) ≤ i) then
 Option.bind (w2)[(Int.toNat i)]? fun x4 =>
 if ((0 : Int) ≤ (IntKind.wrap .i64 (i - (1 : Int)))) then
 Option.bind (w2)[(Int.toNat (IntKind.wrap .i64 (i - (1 : Int))))]? fun x5 =>
 if ((decide (x4 ≤ x5)) = true) then
 (some (Sum.inl (false, w0, w1, w2)))
 else
 rec (IntKind.wrap .i64 (i + (1 : Int))) w0 w1 w2
 else
 none
 else
 none
 else
 (some (Sum.inr (w0, w1, w2)))
def qdP (k n : Nat) : Int → Int → List (Int × Int) → List Int → Option ((Bool × Int × List (Int × Int) × List Int) ⊕ (Int × List (Int × Int) × List Int)) := Nat.rec (fun _ _ _ _ => none) (fun _ r => qpc k r) n
def qtI (k : Nat) (w0 : Int) (w1 : List (Int × Int)) (w2 : List Int) : Option (Bool) :=
 Option.bind (qdN k k w1 (((List.length w1) : Nat) : Int) (0 : Int) w0 w1 w2) fun r6 =>
 qc r6
 (fun r6 =>
 (some r6.1))
 (fun r6 =>
 Option.bind (qdO k k r6.2.2 (((List.length r6.2.2) : Nat) : Int) (0 : Int) r6.1 r6.2.1 r6.2.2) fun r7 =>
 qc r7
 (fun r7 =>
 (some r7.1))
 (fun r7 =>
 if ((r7.1 == (1 : Int)) = true) then
 if (((((List.length r7.2.1) : Nat) : Int) == (1 : Int)) = true) then
 (some ((((List.length r7.2.2) : Nat) : Int) == (0 : Int)))
 else
 (some false)
 else
 if ((r7.1 == (2 : Int)) = true) then
 if (((((List.length r7.2.1) : Nat) : Int) == (2 : Int)) = true) then
 if (((((List.length r7.2.2) : Nat) : Int) == (5 : Int)) = true) then
 Option.bind (r7.2.2)[4]? fun x4 =>
 if ((decide (x4 ≥ (1 : Int))) = true) then
 Option.bind (r7.2.2)[1]? fun x5 =>
 Option.bind (r7.2.2)[2]? fun x6 =>
 Option.bind (r7.2.2)[3]? fun x7 =>
 Option.bind (r7.2.2)[4]? fun x8 =>
 (some (decide ((IntKind.wrap .i64 ((IntKind.wrap .i64 (x5 + x6)) + x7)) ≤ x8)))
 else
 (some false)
 else
 (some false)
 else
 (some false)
 else
 if ((r7.1 == (3 : Int)) = true) then
 Option.bind (qdP k k (1 : Int) r7.1 r7.2.1 r7.2.2) fun r8 =>
 qc r8
 (fun r8 =>
 (some r8.1))
 (fun r8 =>
 if (((((List.length r8.2.1) : Nat) : Int) == (((List.length r8.2.2) : Nat) : Int)) = true) then
 if ((decide ((((List.length r8.2.1) : Nat) : Int) ≥ (1 : Int))) = true) then
 (some (decide ((((List.length r8.2.1) : Nat) : Int) ≤ (16 : Int))))
 else
 (some false)
 else
 (some false))
 else
 if ((r7.1 == (4 : Int)) = true) then
 if ((decide ((((List.length r7.2.1) : Nat) : Int) ≥ (1 : Int))) = true) then
 if ((decide ((((List.length r7.2.1) : Nat) : Int) ≤ (16 : Int))) = true) then
 (some ((((List.length r7.2.2) : Nat) : Int) == (0 : Int)))
 else
 (some false)
 else
 (some false)
 else
 (some false)))
def qeS : Nat → Int → List (Int × Int) → List Int → Option (Bool)
 | 0, _, _, _ => none
 | k + 1, w0, w1, w2 => qtI k w0 w1 w2
def qhi : FS := { vs := [.g [.lf (.int .i64), .lf (.sl (.pr (.int .i64) (.int .i64))), .lf (.sl (.int .i64))]], bs := [] }
def qmH : List FS := [{ vs := [.a (.lf .bool)], bs := [] }]
def qqr (k : Nat) : Inst := ⟨222, qhi, qmH, fun x => qeS k x.1 x.2.1 x.2.2⟩
theorem qmI (k : Nat) : qp (call cf k) [qdv k] := qA (qmr k) qT
def qit : List SS := [{ fr := [(1, .a (.ptr 0 0 0)), (9, .a (.lf (.sl (.pr (.int .i64) (.int .i64))))), (10, .a (.lf (.int .i64))), (11, .a (.lf (.int .i64)))], mem := [(0, some (.raw [[.lf (.int .i64), .lf (.sl (.pr (.int .i64) (.int .i64))), .lf (.sl (.int .i64))]] 3 44 true false false))], nx := 1 }]
def qmJ : List OS := [⟨none, { fr := [(2, .a (.lf .bool))], mem := [(0, some (.raw [[.lf (.int .i64), .lf (.sl (.pr (.int .i64) (.int .i64))), .lf (.sl (.int .i64))]] 3 44 true false false)), (1, some (.raw [[.lf (.int .i64), .lf (.int .i64)]] 2 25 true false false))], nx := 2 }⟩, ⟨some 0, { fr := [(1, .a (.ptr 0 0 0))], mem := [(0, some (.raw [[.lf (.int .i64), .lf (.sl (.pr (.int .i64) (.int .i64))), .lf (.sl (.int .i64))]] 3 44 true false false))], nx := 1 }⟩]
def qeT (k : Nat) : LInst := ⟨0, qit, qmJ, fun x => qdN k k x.1 x.2.1 x.2.2.1 x.2.2.2.1 x.2.2.2.2.1 x.2.2.2.2.2⟩
theorem qBM (k : Nat) : qg (LOk (R := DS OS.D qmJ) (fun b _ σ K => LOt Ty (kps 222) 0 b σ K []) cf (call cf k) (kps 222) Tryz.f222.ntmps k 0) 0 (lb Tryz.f222 0) :=
 qA qT (qA (qA qT qT) (qA (qA qT (qA qT (qA (qA qT qT) qT))) qT))
theorem qBN (k n : Nat) (x : DS SS.D qit) : qdN k (n + 1) x.1 x.2.1 x.2.2.1 x.2.2.2.1 x.2.2.2.2.1 x.2.2.2.2.2 = qu SS.enc (fun σ => qx cf (fun f a b K => COt f a b K [qdv k]) (fun b _ σ K => LOt Ty (kps 222) 0 b σ K []) Tryz.f222.ntmps 0 (lb Tryz.f222 0) σ (qw Ty (kps 222 0) 0 qit qmJ fun x => qdN k n x.1 x.2.1 x.2.2.1 x.2.2.2.1 x.2.2.2.2.1 x.2.2.2.2.2)) qit x := by kernel_rfl
theorem qBO (k : Nat) : qL cf (call cf k) (kps 222) Tryz.f222.ntmps k 0 0 (lb Tryz.f222 0) (qeT k) :=
 qq (c := cf) (callF := call cf k) (kp := kps 222) (nt := Tryz.f222.ntmps) (k := k) (p := 0) (b := 0) (x0 := lb Tryz.f222 0) (hs := qit) (os := qmJ) (qd (qmI k)) (qBM k) (fun n x => qdN k n x.1 x.2.1 x.2.2.1 x.2.2.2.1 x.2.2.2.2.1 x.2.2.2.2.2) (fun _ => rfl) (qBN k)
def qiu : List SS := [{ fr := [(1, .a (.ptr 0 0 0)), (20, .a (.lf (.sl (.int .i64)))), (21, .a (.lf (.int .i64))), (22, .a (.lf (.int .i64)))], mem := [(0, some (.raw [[.lf (.int .i64), .lf (.sl (.pr (.int .i64) (.int .i64))), .lf (.sl (.int .i64))]] 3 44 true false false))], nx := 1 }]
def qmK : List OS := [⟨none, { fr := [(2, .a (.lf .bool))], mem := [(0, some (.raw [[.lf (.int .i64), .lf (.sl (.pr (.int .i64) (.int .i64))), .lf (.sl (.int .i64))]] 3 44 true false false))], nx := 1 }⟩, ⟨some 2, { fr := [(1, .a (.ptr 0 0 0))], mem := [(0, some (.raw [[.lf (.int .i64), .lf (.sl (.pr (.int .i64) (.int .i64))), .lf (.sl (.int .i64))]] 3 44 true false false))], nx := 1 }⟩]
def qgc (k : Nat) : LInst := ⟨2, qiu, qmK, fun x => qdO k k x.1 x.2.1 x.2.2.1 x.2.2.2.1 x.2.2.2.2.1 x.2.2.2.2.2⟩
theorem qBP (k : Nat) : qg (LOk (R := DS OS.D qmK) (fun b _ σ K => LOt Ty (kps 222) 0 b σ K [qeT k]) cf (call cf k) (kps 222) Tryz.f222.ntmps k 0) 2 (lb Tryz.f222 1) :=
 qA qT (qA (qA qT qT) (qA (qA qT (qA qT (qA (qA qT qT) qT))) qT))
theorem qBQ (k n : Nat) (x : DS SS.D qiu) : qdO k (n + 1) x.1 x.2.1 x.2.2.1 x.2.2.2.1 x.2.2.2.2.1 x.2.2.2.2.2 = qu SS.enc (fun σ => qx cf (fun f a b K => COt f a b K [qdv k]) (fun b _ σ K => LOt Ty (kps 222) 0 b σ K [qeT k]) Tryz.f222.ntmps 2 (lb Tryz.f222 1) σ (qw Ty (kps 222 2) 0 qiu qmK fun x => qdO k n x.1 x.2.1 x.2.2.1 x.2.2.2.1 x.2.2.2.2.1 x.2.2.2.2.2)) qiu x := by kernel_rfl
theorem qBR (k : Nat) : qL cf (call cf k) (kps 222) Tryz.f222.ntmps k 0 2 (lb Tryz.f222 1) (qgc k) :=
 qq (c := cf) (callF := call cf k) (kp := kps 222) (nt := Tryz.f222.ntmps) (k := k) (p := 0) (b := 2) (x0 := lb Tryz.f222 1) (hs := qiu) (os := qmK) (qd (qmI k)) (qBP k) (fun n x => qdO k n x.1 x.2.1 x.2.2.1 x.2.2.2.1 x.2.2.2.2.1 x.2.2.2.2.2) (fun _ => rfl) (qBQ k)
def qiv : List SS := [{ fr := [(1, .a (.ptr 0 0 0)), (7, .a (.lf (.int .i64)))], mem := [(0, some (.raw [[.lf (.int .i64), .lf (.sl (.pr (.int .i64) (.int .i64))), .lf (.sl (.int .i64))]] 3 44 true false false))], nx := 1 }]
def qmL : List OS := [⟨none, { fr := [(2, .a (.lf .bool))], mem := [(0, some (.raw [[.lf (.int .i64), .lf (.sl (.pr (.int .i64) (.int .i64))), .lf (.sl (.int .i64))]] 3 44 true false false))], nx := 1 }⟩, ⟨some 5, { fr := [(1, .a (.ptr 0 0 0))], mem := [(0, some (.raw [[.lf (.int .i64), .lf (.sl (.pr (.int .i64) (.int .i64))), .lf (.sl (.int .i64))]] 3 44 true false false))], nx := 1 }⟩]
def qhj (k : Nat) : LInst := ⟨5, qiv, qmL, fun x => qdP k k x.1 x.2.1 x.2.2.1 x.2.2.2⟩
theorem qBS (k : Nat) : qg (LOk (R := DS OS.D qmL) (fun b _ σ K => LOt Ty (kps 222) 0 b σ K [qeT k, qgc k]) cf (call cf k) (kps 222) Tryz.f222.ntmps k 0) 5 (lb Tryz.f222 2) :=
 qA (qA qT (qA qT qT)) (qA (qA qT (qA (qA qT qT) qT)) qT)
theorem qBT (k n : Nat) (x : DS SS.D qiv) : qdP k (n + 1) x.1 x.2.1 x.2.2.1 x.2.2.2 = qu SS.enc (fun σ => qx cf (fun f a b K => COt f a b K [qdv k]) (fun b _ σ K => LOt Ty (kps 222) 0 b σ K [qeT k, qgc k]) Tryz.f222.ntmps 5 (lb Tryz.f222 2) σ (qw Ty (kps 222 5) 0 qiv qmL fun x => qdP k n x.1 x.2.1 x.2.2.1 x.2.2.2)) qiv x := by kernel_rfl
theorem qBU (k : Nat) : qL cf (call cf k) (kps 222) Tryz.f222.ntmps k 0 5 (lb Tryz.f222 2) (qhj k) :=
 qq (c := cf) (callF := call cf k) (kp := kps 222) (nt := Tryz.f222.ntmps) (k := k) (p := 0) (b := 5) (x0 := lb Tryz.f222 2) (hs := qiv) (os := qmL) (qd (qmI k)) (qBS k) (fun n x => qdP k n x.1 x.2.1 x.2.2.1 x.2.2.2) (fun _ => rfl) (qBT k)
theorem qBV (k : Nat) : qg (LOk (R := DS FS.D qmH) (fun b _ σ K => LOt Ty (kps 222) 0 b σ K [qeT k, qgc k, qhj k]) cf (call cf k) (cf.keep 222) Tryz.f222.ntmps k qhi.bs.length) 0 (bd Tryz.f222) :=
 qA qT (qA (qA qT (qt (c := cf) (callF := call cf k) (kp := kps 222) (nt := Tryz.f222.ntmps) (k := k) (p := 0) (b := 0) (x0 := lb Tryz.f222 0) (l := [qeT k, qgc k, qhj k]) (qA (fun _ => qBO k) (qA (fun h => absurd (show (2 : Nat) = 0 from h) (by decide)) (qA (fun h => absurd (show (5 : Nat) = 0 from h) (by decide)) qT))))) (qA (qA qT (qt (c := cf) (callF := call cf k) (kp := kps 222) (nt := Tryz.f222.ntmps) (k := k) (p := 0) (b := 2) (x0 := lb Tryz.f222 1) (l := [qeT k, qgc k, qhj k]) (qA (fun h => absurd (show (0 : Nat) = 2 from h) (by decide)) (qA (fun _ => qBR k) (qA (fun h => absurd (show (5 : Nat) = 2 from h) (by decide)) qT))))) (qA (qA qT (qA qT (qA (qA qT qT) (qA qT (qA (qA qT qT) (qA qT (qA (qA (qA qT (qt (c := cf) (callF := call cf k) (kp := kps 222) (nt := Tryz.f222.ntmps) (k := k) (p := 0) (b := 5) (x0 := lb Tryz.f222 2) (l := [qeT k, qgc k, qhj k]) (qA (fun h => absurd (show (0 : Nat) = 5 from h) (by decide)) (qA (fun h => absurd (show (2 : Nat) = 5 from h) (by decide)) (qA (fun _ => qBU k) qT))))) (qA qT qT)) (qA qT (qA (qA qT qT) qT))))))))) (qA qT qT))))
theorem qBW (k : Nat) (x : qhi.D) : qeS (k + 1) x.1 x.2.1 x.2.2 = qi cf (fun f a b K => COt f a b K [qdv k]) (fun b _ σ K => LOt Ty (kps 222) 0 b σ K [qeT k, qgc k, qhj k]) 222 Tryz.f222.ntmps Tryz.f222.results.toList (bd Tryz.f222) (qhi.enc x).1 (qhi.enc x).2 (qk FS.dec qmH) := by kernel_rfl
theorem qBX : ∀ k, qh (call cf k) (qqr k)
 | 0 => fun x y e => absurd (show (none : Option _) = some y from e) (by simp)
 | k + 1 => qe (c := cf) (k := k) (f := 222) (fn := Tryz.f222) (body := bd Tryz.f222) (sh := qhi) (os := qmH) rfl Tryz.func222 rfl ⟨rfl, Nat.le_of_ble_eq_true rfl⟩ (qd (qmI k)) (qBV k) (fun x => qeS (k + 1) x.1 x.2.1 x.2.2) (qBW k)

def qpV (k : Nat) (m0 : ByteArray) (m1 : Int) (m2 : List (Int × Int)) (m3 : List (Int × Int)) : Option (Bool) :=
 if (((Array.toList (ByteArray.data m0)) == (Array.toList (ByteArray.data (ByteArray.mk (List.toArray []))))) = true) then
 if ((m1 == (0 : Int)) = true) then
 (some ((IntKind.wrap .i64 ((((List.length m2) : Nat) : Int) + (((List.length m3) : Nat) : Int))) == (0 : Int)))
 else
 (some false)
 else
 (some false)
def qY : Nat → ByteArray → Int → List (Int × Int) → List (Int × Int) → Option (Bool)
 | 0, _, _, _, _ => none
 | k + 1, m0, m1, m2, m3 => qpV k m0 m1 m2 m3
def qj6 : FS := { vs := [.g [.lf .str, .lf (.int .u8), .lf (.sl (.pr (.int .i64) (.int .i64))), .lf (.sl (.pr (.int .i64) (.int .i64)))]], bs := [] }
def qqs : List FS := [{ vs := [.a (.lf .bool)], bs := [] }]
def qva (k : Nat) : Inst := ⟨223, qj6, qqs, fun x => qY k x.1 x.2.1 x.2.2.1 x.2.2.2⟩
theorem qGs (k : Nat) : qp (call cf k) [] := True.intro
theorem qGt (k : Nat) : qg (LOk (R := DS FS.D qqs) (fun b _ σ K => LOt Ty (kps 223) 0 b σ K []) cf (call cf k) (cf.keep 223) Tryz.f223.ntmps k qj6.bs.length) 0 (bd Tryz.f223) :=
 qA qT (qA qT qT)
theorem qGu (k : Nat) (x : qj6.D) : qY (k + 1) x.1 x.2.1 x.2.2.1 x.2.2.2 = qi cf (fun f a b K => COt f a b K []) (fun b _ σ K => LOt Ty (kps 223) 0 b σ K []) 223 Tryz.f223.ntmps Tryz.f223.results.toList (bd Tryz.f223) (qj6.enc x).1 (qj6.enc x).2 (qk FS.dec qqs) := by kernel_rfl
theorem qGv : ∀ k, qh (call cf k) (qva k)
 | 0 => fun x y e => absurd (show (none : Option _) = some y from e) (by simp)
 | k + 1 => qe (c := cf) (k := k) (f := 223) (fn := Tryz.f223) (body := bd Tryz.f223) (sh := qj6) (os := qqs) rfl Tryz.func223 rfl ⟨rfl, Nat.le_of_ble_eq_true rfl⟩ (qd (qGs k)) (qGt k) (fun x => qY (k + 1) x.1 x.2.1 x.2.2.1 x.2.2.2) (qGu k)

def qsR (k : Nat) (w0 : Int) (w1 : List (Int × Int)) (w2 : List Int) : Option (Bool) :=
 if ((w0 == (0 : Int)) = true) then
 (some ((IntKind.wrap .i64 ((((List.length w1) : Nat) : Int) + (((List.length w2) : Nat) : Int))) == (0 : Int)))
 else
 (some false)
def qag : Nat → Int → List (Int × Int) → List Int → Option (Bool)
 | 0, _, _, _ => none
 | k + 1, w0, w1, w2 => qsR k w0 w1 w2
def qj7 : FS := { vs := [.g [.lf (.int .i64), .lf (.sl (.pr (.int .i64) (.int .i64))), .lf (.sl (.int .i64))]], bs := [] }
def qqt : List FS := [{ vs := [.a (.lf .bool)], bs := [] }]
def qvb (k : Nat) : Inst := ⟨224, qj7, qqt, fun x => qag k x.1 x.2.1 x.2.2⟩
theorem qGw (k : Nat) : qp (call cf k) [] := True.intro
theorem qGx (k : Nat) : qg (LOk (R := DS FS.D qqt) (fun b _ σ K => LOt Ty (kps 224) 0 b σ K []) cf (call cf k) (cf.keep 224) Tryz.f224.ntmps k qj7.bs.length) 0 (bd Tryz.f224) :=
 qA qT (qA qT qT)
theorem qGy (k : Nat) (x : qj7.D) : qag (k + 1) x.1 x.2.1 x.2.2 = qi cf (fun f a b K => COt f a b K []) (fun b _ σ K => LOt Ty (kps 224) 0 b σ K []) 224 Tryz.f224.ntmps Tryz.f224.results.toList (bd Tryz.f224) (qj7.enc x).1 (qj7.enc x).2 (qk FS.dec qqt) := by kernel_rfl
theorem qGz : ∀ k, qh (call cf k) (qvb k)
 | 0 => fun x y e => absurd (show (none : Option _) = some y from e) (by simp)
 | k + 1 => qe (c := cf) (k := k) (f := 224) (fn := Tryz.f224) (body := bd Tryz.f224) (sh := qj7) (os := qqt) rfl Tryz.func224 rfl ⟨rfl, Nat.le_of_ble_eq_true rfl⟩ (qd (qGw k)) (qGx k) (fun x => qag (k + 1) x.1 x.2.1 x.2.2) (qGy k)

def qeU (k : Nat) (v : Int) : Option (Bool × List Int) :=
 if ((decide (v < (0 : Int))) = true) then
 Option.bind (qbV k (List.take 2 ((IntKind.wrap .u32 (IntKind.wrap .u64 ((0 : Int) - (IntKind.wrap .u64 v)))) :: ((IntKind.wrap .u32 (Int.fdiv (IntKind.wrap .u64 ((0 : Int) - (IntKind.wrap .u64 v))) (4294967296 : Int))) :: [])))) fun r11 =>
 (some ((decide (v < (0 : Int))), r11))
 else
 Option.bind (qbV k (List.take 2 ((IntKind.wrap .u32 (IntKind.wrap .u64 v)) :: ((IntKind.wrap .u32 (Int.fdiv (IntKind.wrap .u64 v) (4294967296 : Int))) :: [])))) fun r11 =>
 (some ((decide (v < (0 : Int))), r11))
def qaq : Nat → Int → Option (Bool × List Int)
 | 0, _ => none
 | k + 1, v => qeU k v
def qj8 : FS := { vs := [.a (.lf (.int .i64))], bs := [] }
def qqu : List FS := [{ vs := [.a (.ptr 0 0 0)], bs := [.raw [[.lf .bool, .lf (.sl (.int .u32))]] 2 147 true false false] }]
def qgD (k : Nat) : Inst := ⟨87, qj8, qqu, fun x => qaq k x⟩
theorem qGA (k : Nat) : qp (call cf k) [qe9 k] := qA (qjV k) qT
theorem qGB (k : Nat) : qg (LOk (R := DS FS.D qqu) (fun b _ σ K => LOt Ty (kps 87) 0 b σ K []) cf (call cf k) (cf.keep 87) Tryz.f87.ntmps k qj8.bs.length) 0 (bd Tryz.f87) :=
 qA qT (qA qT (qA (qA qT (qA qT qT)) (qA qT qT)))
theorem qGC (k : Nat) (x : qj8.D) : qaq (k + 1) x = qi cf (fun f a b K => COt f a b K [qe9 k]) (fun b _ σ K => LOt Ty (kps 87) 0 b σ K []) 87 Tryz.f87.ntmps Tryz.f87.results.toList (bd Tryz.f87) (qj8.enc x).1 (qj8.enc x).2 (qk FS.dec qqu) := by kernel_rfl
theorem qqv : ∀ k, qh (call cf k) (qgD k)
 | 0 => fun x y e => absurd (show (none : Option _) = some y from e) (by simp)
 | k + 1 => qe (c := cf) (k := k) (f := 87) (fn := Tryz.f87) (body := bd Tryz.f87) (sh := qj8) (os := qqu) rfl Tryz.func87 rfl ⟨rfl, Nat.le_of_ble_eq_true rfl⟩ (qd (qGA k)) (qGB k) (fun x => qaq (k + 1) x) (qGC k)

def qfb (k : Nat) (neg : Bool) (w : List Int) (z0 : Bool) (z1 : List Int) : Option (Bool × List Int) :=
 Option.bind (qbV k w) fun r14 =>
 if (neg = true) then
 (some ((decide ((((List.length r14) : Nat) : Int) > (0 : Int))), r14))
 else
 (some (false, r14))
def qaO : Nat → Bool → List Int → Bool → List Int → Option (Bool × List Int)
 | 0, _, _, _, _ => none
 | k + 1, neg, w, z0, z1 => qfb k neg w z0 z1
def qj9 : FS := { vs := [.a (.ptr 0 0 0), .a (.lf .bool), .a (.lf (.sl (.int .u32)))], bs := [.raw [[.lf .bool, .lf (.sl (.int .u32))]] 2 147 true false false] }
def qqw : List FS := [{ vs := [.a (.ptr 0 0 0)], bs := [.raw [[.lf .bool, .lf (.sl (.int .u32))]] 2 147 true false false] }]
def qlI (k : Nat) : Inst := ⟨198, qj9, qqw, fun x => qaO k x.1 x.2.1 x.2.2.1 x.2.2.2⟩
theorem qGD (k : Nat) : qp (call cf k) [qe9 k] := qA (qjV k) qT
theorem qGE (k : Nat) : qg (LOk (R := DS FS.D qqw) (fun b _ σ K => LOt Ty (kps 198) 1 b σ K []) cf (call cf k) (cf.keep 198) Tryz.f198.ntmps k qj9.bs.length) 0 (bd Tryz.f198) :=
 qA qT (qA qT (qA qT (qA qT qT)))
theorem qGF (k : Nat) (x : qj9.D) : qaO (k + 1) x.1 x.2.1 x.2.2.1 x.2.2.2 = qi cf (fun f a b K => COt f a b K [qe9 k]) (fun b _ σ K => LOt Ty (kps 198) 1 b σ K []) 198 Tryz.f198.ntmps Tryz.f198.results.toList (bd Tryz.f198) (qj9.enc x).1 (qj9.enc x).2 (qk FS.dec qqw) := by kernel_rfl
theorem qzf : ∀ k, qh (call cf k) (qlI k)
 | 0 => fun x y e => absurd (show (none : Option _) = some y from e) (by simp)
 | k + 1 => qe (c := cf) (k := k) (f := 198) (fn := Tryz.f198) (body := bd Tryz.f198) (sh := qj9) (os := qqw) rfl Tryz.func198 rfl ⟨rfl, Nat.le_of_ble_eq_true rfl⟩ (qd (qGD k)) (qGE k) (fun x => qaO (k + 1) x.1 x.2.1 x.2.2.1 x.2.2.2) (qGF k)

def qh2 (k : Nat) (rec : Nat → Int → Int → Int → List Int → Int → Int → List Int → Int → Int → Bool → List Int → Bool → List Int → List Int → Option (Nat × Int × Int × List Int × Int × Int × Bool × List Int × Bool × List Int × List Int)) (out1 : Nat) (i : Int) (a : Int) (carry : Int) (x : List Int) (x1 : Int) (x2 : Int) (x3 : List Int) (x4 : Int) (x5 : Int) (x0 : Bool) (x11 : List Int) (y0 : Bool) (y1 : List Int) (outs : List Int) : Option (Nat × Int × Int × List Int × Int × Int × Bool × List Int × Bool × List Int × List Int) :=
 if ((decide (x5 < x4)) = true) then
 if ((0 : Int) ≤ x5) then
 Option.bind (x3)[(Int.toNat x5)]? fun x7 =>
 if (((0 : Int) ≤ (IntKind.wrap .i64 (i + x5))) ∧ ((IntKind.wrap .i64 (i + x5)) < ((out1 : Nat) : Int))) then
 Option.bind (outs)[(0 + (Int.toNat (IntKind.wrap .i64 (i + x5))))]? fun x8 =>
 if (((0 : Int) ≤ (IntKind.wrap .i64 (i + x5))) ∧ ((IntKind.wrap .i64 (i + x5)) < ((out1 : Nat) : Int))) then
 Option.bind (outs)[(0 + (Int.toNat (IntKind.wrap .i64 (i + x5))))]? fun x9 =>
 rec out1 i a (Int.fdiv (IntKind.wrap .u64 ((IntKind.wrap .u64 ((IntKind.wrap .u64 ((IntKind.wrap .u64 a) * (IntKind.wrap .u64 x7))) + (IntKind.wrap .u64 x8))) + carry)) (4294967296 : Int)) x x1 x2 x3 x4 (IntKind.wrap .i64 (x5 + (1 : Int))) x0 x11 y0 y1 (List.set outs (0 + (Int.toNat (IntKind.wrap .i64 (i + x5)))) (IntKind.wrap .u32 (IntKind.wrap .u64 ((IntKind.wrap .u64 ((IntKind.wrap .u64 ((IntKind.wrap .u64 a) * (IntKind.wrap .u64 x7))) + (IntKind.wrap .u64 x8))) + carry))))
 else
 none
 else
 none
 else
 none
 else
 (some (out1, i, carry, x, x1, x2, x0, x11, y0, y1, outs))
def qcD (k n : Nat) : Nat → Int → Int → Int → List Int → Int → Int → List Int → Int → Int → Bool → List Int → Bool → List Int → List Int → Option (Nat × Int × Int × List Int × Int × Int × Bool × List Int × Bool × List Int × List Int) := Nat.rec (fun _ _ _ _ _ _ _ _ _ _ _ _ _ _ _ => none) (fun _ r => qh2 k r) n
def qh3 (k : Nat) (rec : Nat → List Int → Int → Int → Bool → List Int → Bool → List Int → List Int → Option (Nat × Bool × List Int × Bool × List Int × List Int)) (out1 : Nat) (x : List Int) (x1 : Int) (x2 : Int) (x0 : Bool) (x11 : List Int) (y0 : Bool) (y1 : List Int) (outs : List Int) : Option (Nat × Bool × List Int × Bool × List Int × List Int) :=
 if ((decide (x2 < x1)) = true) then
 if ((0 : Int) ≤ x2) then
 Option.bind (x)[(Int.toNat x2)]? fun x6 =>
 Option.bind (qcD k k out1 x2 x6 (0 : Int) x x1 x2 y1 (((List.length y1) : Nat) : Int) (0 : Int) x0 x11 y0 y1 outs) fun r13 =>
 if (((0 : Int) ≤ (IntKind.wrap .i64 (r13.2.1 + (((List.length r13.2.2.2.2.2.2.2.2.2.1) : Nat) : Int)))) ∧ ((IntKind.wrap .i64 (r13.2.1 + (((List.length r13.2.2.2.2.2.2.2.2.2.1) : Nat) : Int))) < ((r13.1 : Nat) : Int))) then
 Option.bind (r13.2.2.2.2.2.2.2.2.2.2)[(0 + (Int.toNat (IntKind.wrap .i64 (r13.2.1 + (((List.length r13.2.2.2.2.2.2.2.2.2.1) : Nat) : Int)))))]? fun x7 =>
 rec r13.1 r13.2.2.2.1 r13.2.2.2.2.1 (IntKind.wrap .i64 (r13.2.2.2.2.2.1 + (1 : Int))) r13.2.2.2.2.2.2.1 r13.2.2.2.2.2.2.2.1 r13.2.2.2.2.2.2.2.2.1 r13.2.2.2.2.2.2.2.2.2.1 (List.set r13.2.2.2.2.2.2.2.2.2.2 (0 + (Int.toNat (IntKind.wrap .i64 (r13.2.1 + (((List.length r13.2.2.2.2.2.2.2.2.2.1) : Nat) : Int))))) (IntKind.wrap .u32 r13.2.2.1))
 else
 none
 else
 none
 else
 (some (out1, x0, x11, y0, y1, outs))
def qcE (k n : Nat) : Nat → List Int → Int → Int → Bool → List Int → Bool → List Int → List Int → Option (Nat × Bool × List Int × Bool × List Int × List Int) := Nat.rec (fun _ _ _ _ _ _ _ _ _ => none) (fun _ r => qh3 k r) n
def qlJ (k : Nat) (x0 : Bool) (x1 : List Int) (y0 : Bool) (y1 : List Int) : Option (Bool × List Int × Bool × List Int) :=
 if (((0 : Int) ≤ (IntKind.wrap .i64 ((((List.length x1) : Nat) : Int) + (((List.length y1) : Nat) : Int)))) ∧ (((IntKind.wrap .i64 ((((List.length x1) : Nat) : Int) + (((List.length y1) : Nat) : Int))) ≤ (IntKind.wrap .i64 ((((List.length x1) : Nat) : Int) + (((List.length y1) : Nat) : Int)))) ∧ (((IntKind.wrap .i64 ((((List.length x1) : Nat) : Int) + (((List.length y1) : Nat) : Int))) * (4 : Int)) ≤ (140737488355328 : Int)))) then
 Option.bind (qcE k k (Int.toNat (IntKind.wrap .i64 ((((List.length x1) : Nat) : Int) + (((List.length y1) : Nat) : Int)))) x1 (((List.length x1) : Nat) : Int) (0 : Int) x0 x1 y0 y1 (List.replicate (Int.toNat (IntKind.wrap .i64 ((((List.length x1) : Nat) : Int) + (((List.length y1) : Nat) : Int)))) (0 : Int))) fun r13 =>
 if ((0 + r13.1) ≤ (List.length r13.2.2.2.2.2)) then
 Option.bind (qaO k (!(r13.2.1 == r13.2.2.2.1)) (List.take r13.1 r13.2.2.2.2.2) r13.2.1 r13.2.2.1) fun r14 =>
 (some (r14.1, r14.2, r13.2.2.2.1, r13.2.2.2.2.1))
 else
 none
 else
 none
def qc1 : Nat → Bool → List Int → Bool → List Int → Option (Bool × List Int × Bool × List Int)
 | 0, _, _, _, _ => none
 | k + 1, x0, x1, y0, y1 => qlJ k x0 x1 y0 y1
def qpd : FS := { vs := [.a (.ptr 0 0 0), .a (.ptr 0 0 0), .a (.ptr 1 0 0)], bs := [.raw [[.lf .bool, .lf (.sl (.int .u32))]] 2 147 true false false, .raw [[.lf .bool, .lf (.sl (.int .u32))]] 2 147 true false false] }
def qvc : List FS := [{ vs := [.a (.ptr 0 0 0)], bs := [.raw [[.lf .bool, .lf (.sl (.int .u32))]] 2 147 true false false, .raw [[.lf .bool, .lf (.sl (.int .u32))]] 2 147 true false false] }]
def Iq7 (k : Nat) : Inst := ⟨155, qpd, qvc, fun x => qc1 k x.1 x.2.1 x.2.2.1 x.2.2.2⟩
theorem qxX (k : Nat) : qp (call cf k) [qlI k] := qA (qzf k) qT
def qiw : List SS := [{ fr := [(0, .a (.ptr 0 0 0)), (1, .a (.ptr 0 0 0)), (2, .a (.ptr 1 0 0)), (7, .a (.smz 2)), (8, .a (.lf (.int .i64))), (9, .a (.lf (.int .u32))), (10, .a (.lf (.int .u64))), (29, .a (.lf (.sl (.int .u32)))), (30, .a (.lf (.int .i64))), (31, .a (.lf (.int .i64))), (39, .a (.lf (.sl (.int .u32)))), (40, .a (.lf (.int .i64))), (41, .a (.lf (.int .i64)))], mem := [(0, some (.raw [[.lf .bool, .lf (.sl (.int .u32))]] 2 147 true false false)), (1, some (.raw [[.lf .bool, .lf (.sl (.int .u32))]] 2 147 true false false)), (2, some (.arr (.int .u32) 1 106 false))], nx := 3 }]
def qmM : List OS := [⟨some 2, { fr := [(0, .a (.ptr 0 0 0)), (1, .a (.ptr 0 0 0)), (2, .a (.ptr 1 0 0)), (7, .a (.smz 2)), (8, .a (.lf (.int .i64))), (10, .a (.lf (.int .u64))), (29, .a (.lf (.sl (.int .u32)))), (30, .a (.lf (.int .i64))), (31, .a (.lf (.int .i64)))], mem := [(0, some (.raw [[.lf .bool, .lf (.sl (.int .u32))]] 2 147 true false false)), (1, some (.raw [[.lf .bool, .lf (.sl (.int .u32))]] 2 147 true false false)), (2, some (.arr (.int .u32) 1 106 false))], nx := 3 }⟩]
def qgE (k : Nat) : LInst := ⟨2, qiw, qmM, fun x => qcD k k x.1 x.2.1 x.2.2.1 x.2.2.2.1 x.2.2.2.2.1 x.2.2.2.2.2.1 x.2.2.2.2.2.2.1 x.2.2.2.2.2.2.2.1 x.2.2.2.2.2.2.2.2.1 x.2.2.2.2.2.2.2.2.2.1 x.2.2.2.2.2.2.2.2.2.2.1 x.2.2.2.2.2.2.2.2.2.2.2.1 x.2.2.2.2.2.2.2.2.2.2.2.2.1 x.2.2.2.2.2.2.2.2.2.2.2.2.2.1 x.2.2.2.2.2.2.2.2.2.2.2.2.2.2⟩
theorem qBY (k : Nat) : qg (LOk (R := DS OS.D qmM) (fun b _ σ K => LOt Ty (kps 155) 2 b σ K []) cf (call cf k) (kps 155) Tryz.f155.ntmps k 2) 2 (lb Tryz.f155 1) :=
 qA qT (qA (qA qT qT) (qA (qA qT (qA qT (qA qT qT))) qT))
theorem qBZ (k n : Nat) (x : DS SS.D qiw) : qcD k (n + 1) x.1 x.2.1 x.2.2.1 x.2.2.2.1 x.2.2.2.2.1 x.2.2.2.2.2.1 x.2.2.2.2.2.2.1 x.2.2.2.2.2.2.2.1 x.2.2.2.2.2.2.2.2.1 x.2.2.2.2.2.2.2.2.2.1 x.2.2.2.2.2.2.2.2.2.2.1 x.2.2.2.2.2.2.2.2.2.2.2.1 x.2.2.2.2.2.2.2.2.2.2.2.2.1 x.2.2.2.2.2.2.2.2.2.2.2.2.2.1 x.2.2.2.2.2.2.2.2.2.2.2.2.2.2 = qu SS.enc (fun σ => qx cf (fun f a b K => COt f a b K [qlI k]) (fun b _ σ K => LOt Ty (kps 155) 2 b σ K []) Tryz.f155.ntmps 2 (lb Tryz.f155 1) σ (qw Ty (kps 155 2) 2 qiw qmM fun x => qcD k n x.1 x.2.1 x.2.2.1 x.2.2.2.1 x.2.2.2.2.1 x.2.2.2.2.2.1 x.2.2.2.2.2.2.1 x.2.2.2.2.2.2.2.1 x.2.2.2.2.2.2.2.2.1 x.2.2.2.2.2.2.2.2.2.1 x.2.2.2.2.2.2.2.2.2.2.1 x.2.2.2.2.2.2.2.2.2.2.2.1 x.2.2.2.2.2.2.2.2.2.2.2.2.1 x.2.2.2.2.2.2.2.2.2.2.2.2.2.1 x.2.2.2.2.2.2.2.2.2.2.2.2.2.2)) qiw x := by kernel_rfl
theorem qB0 (k : Nat) : qL cf (call cf k) (kps 155) Tryz.f155.ntmps k 2 2 (lb Tryz.f155 1) (qgE k) :=
 qq (c := cf) (callF := call cf k) (kp := kps 155) (nt := Tryz.f155.ntmps) (k := k) (p := 2) (b := 2) (x0 := lb Tryz.f155 1) (hs := qiw) (os := qmM) (qd (qxX k)) (qBY k) (fun n x => qcD k n x.1 x.2.1 x.2.2.1 x.2.2.2.1 x.2.2.2.2.1 x.2.2.2.2.2.1 x.2.2.2.2.2.2.1 x.2.2.2.2.2.2.2.1 x.2.2.2.2.2.2.2.2.1 x.2.2.2.2.2.2.2.2.2.1 x.2.2.2.2.2.2.2.2.2.2.1 x.2.2.2.2.2.2.2.2.2.2.2.1 x.2.2.2.2.2.2.2.2.2.2.2.2.1 x.2.2.2.2.2.2.2.2.2.2.2.2.2.1 x.2.2.2.2.2.2.2.2.2.2.2.2.2.2) (fun _ => rfl) (qBZ k)
def qix : List SS := [{ fr := [(0, .a (.ptr 0 0 0)), (1, .a (.ptr 0 0 0)), (2, .a (.ptr 1 0 0)), (7, .a (.smz 2)), (29, .a (.lf (.sl (.int .u32)))), (30, .a (.lf (.int .i64))), (31, .a (.lf (.int .i64)))], mem := [(0, some (.raw [[.lf .bool, .lf (.sl (.int .u32))]] 2 147 true false false)), (1, some (.raw [[.lf .bool, .lf (.sl (.int .u32))]] 2 147 true false false)), (2, some (.arr (.int .u32) 1 106 false))], nx := 3 }]
def qmN : List OS := [⟨some 0, { fr := [(0, .a (.ptr 0 0 0)), (1, .a (.ptr 0 0 0)), (2, .a (.ptr 1 0 0)), (7, .a (.smz 2))], mem := [(0, some (.raw [[.lf .bool, .lf (.sl (.int .u32))]] 2 147 true false false)), (1, some (.raw [[.lf .bool, .lf (.sl (.int .u32))]] 2 147 true false false)), (2, some (.arr (.int .u32) 1 106 false))], nx := 3 }⟩]
def qmO (k : Nat) : LInst := ⟨0, qix, qmN, fun x => qcE k k x.1 x.2.1 x.2.2.1 x.2.2.2.1 x.2.2.2.2.1 x.2.2.2.2.2.1 x.2.2.2.2.2.2.1 x.2.2.2.2.2.2.2.1 x.2.2.2.2.2.2.2.2⟩
theorem qB1 (k : Nat) : qg (LOk (R := DS OS.D qmN) (fun b _ σ K => LOt Ty (kps 155) 2 b σ K [qgE k]) cf (call cf k) (kps 155) Tryz.f155.ntmps k 2) 0 (lb Tryz.f155 0) :=
 qA qT (qA (qA qT qT) (qA (qA qT (qA qT (qA (qA qT (qt (c := cf) (callF := call cf k) (kp := kps 155) (nt := Tryz.f155.ntmps) (k := k) (p := 2) (b := 2) (x0 := lb Tryz.f155 1) (l := [qgE k]) (qA (fun _ => qB0 k) qT))) qT))) qT))
theorem qB2 (k n : Nat) (x : DS SS.D qix) : qcE k (n + 1) x.1 x.2.1 x.2.2.1 x.2.2.2.1 x.2.2.2.2.1 x.2.2.2.2.2.1 x.2.2.2.2.2.2.1 x.2.2.2.2.2.2.2.1 x.2.2.2.2.2.2.2.2 = qu SS.enc (fun σ => qx cf (fun f a b K => COt f a b K [qlI k]) (fun b _ σ K => LOt Ty (kps 155) 2 b σ K [qgE k]) Tryz.f155.ntmps 0 (lb Tryz.f155 0) σ (qw Ty (kps 155 0) 2 qix qmN fun x => qcE k n x.1 x.2.1 x.2.2.1 x.2.2.2.1 x.2.2.2.2.1 x.2.2.2.2.2.1 x.2.2.2.2.2.2.1 x.2.2.2.2.2.2.2.1 x.2.2.2.2.2.2.2.2)) qix x := by kernel_rfl
theorem qB3 (k : Nat) : qL cf (call cf k) (kps 155) Tryz.f155.ntmps k 2 0 (lb Tryz.f155 0) (qmO k) :=
 qq (c := cf) (callF := call cf k) (kp := kps 155) (nt := Tryz.f155.ntmps) (k := k) (p := 2) (b := 0) (x0 := lb Tryz.f155 0) (hs := qix) (os := qmN) (qd (qxX k)) (qB1 k) (fun n x => qcE k n x.1 x.2.1 x.2.2.1 x.2.2.2.1 x.2.2.2.2.1 x.2.2.2.2.2.1 x.2.2.2.2.2.2.1 x.2.2.2.2.2.2.2.1 x.2.2.2.2.2.2.2.2) (fun _ => rfl) (qB2 k)
theorem qKL (k : Nat) : qg (LOk (R := DS FS.D qvc) (fun b _ σ K => LOt Ty (kps 155) 2 b σ K [qgE k, qmO k]) cf (call cf k) (cf.keep 155) Tryz.f155.ntmps k qpd.bs.length) 0 (bd Tryz.f155) :=
 qA qT (qA qT (qA (qA qT (qt (c := cf) (callF := call cf k) (kp := kps 155) (nt := Tryz.f155.ntmps) (k := k) (p := 2) (b := 0) (x0 := lb Tryz.f155 0) (l := [qgE k, qmO k]) (qA (fun h => absurd (show (2 : Nat) = 0 from h) (by decide)) (qA (fun _ => qB3 k) qT)))) (qA qT qT)))
theorem qKM (k : Nat) (x : qpd.D) : qc1 (k + 1) x.1 x.2.1 x.2.2.1 x.2.2.2 = qi cf (fun f a b K => COt f a b K [qlI k]) (fun b _ σ K => LOt Ty (kps 155) 2 b σ K [qgE k, qmO k]) 155 Tryz.f155.ntmps Tryz.f155.results.toList (bd Tryz.f155) (qpd.enc x).1 (qpd.enc x).2 (qk FS.dec qvc) := by kernel_rfl
theorem qB4 : ∀ k, qh (call cf k) (Iq7 k)
 | 0 => fun x y e => absurd (show (none : Option _) = some y from e) (by simp)
 | k + 1 => qe (c := cf) (k := k) (f := 155) (fn := Tryz.f155) (body := bd Tryz.f155) (sh := qpd) (os := qvc) rfl Tryz.func155 rfl ⟨rfl, Nat.le_of_ble_eq_true rfl⟩ (qd (qxX k)) (qKL k) (fun x => qc1 (k + 1) x.1 x.2.1 x.2.2.1 x.2.2.2) (qKM k)

def qtJ (k : Nat) (rec : Int → Int → Bool → List Int → Bool → List Int → Option (Bool × List Int × Bool × List Int)) (x : Int) (x1 : Int) (z0 : Bool) (z1 : List Int) (ten0 : Bool) (ten1 : List Int) : Option (Bool × List Int × Bool × List Int) :=
 if ((decide (x1 < x)) = true) then
 Option.bind (qc1 k z0 z1 ten0 ten1) fun r13 =>
 rec x (IntKind.wrap .i64 (x1 + (1 : Int))) r13.1 r13.2.1 r13.2.2.1 r13.2.2.2
 else
 (some (z0, z1, ten0, ten1))
def qfH (k n : Nat) : Int → Int → Bool → List Int → Bool → List Int → Option (Bool × List Int × Bool × List Int) := Nat.rec (fun _ _ _ _ _ _ => none) (fun _ r => qtJ k r) n
def qxY (k : Nat) (k1 : Int) : Option (Bool × List Int) :=
 Option.bind (qaq k (1 : Int)) fun r11 =>
 Option.bind (qaq k (10 : Int)) fun r12 =>
 Option.bind (qfH k k k1 (0 : Int) r11.1 r11.2 r12.1 r12.2) fun r13 =>
 (some (r13.1, r13.2.1))
def qhV : Nat → Int → Option (Bool × List Int)
 | 0, _ => none
 | k + 1, k1 => qxY k k1
def qka : FS := { vs := [.a (.lf (.int .i64))], bs := [] }
def qqx : List FS := [{ vs := [.a (.ptr 0 0 0)], bs := [.raw [[.lf .bool, .lf (.sl (.int .u32))]] 2 147 true false false] }]
def qxZ (k : Nat) : Inst := ⟨234, qka, qqx, fun x => qhV k x⟩
theorem qzg (k : Nat) : qp (call cf k) [qgD k, Iq7 k] := qA (qqv k) (qA (qB4 k) qT)
def qiy : List SS := [{ fr := [(3, .a (.ptr 0 0 0)), (4, .a (.ptr 1 0 0)), (7, .a (.lf (.int .i64))), (8, .a (.lf (.int .i64)))], mem := [(0, some (.raw [[.lf .bool, .lf (.sl (.int .u32))]] 2 147 true false false)), (1, some (.raw [[.lf .bool, .lf (.sl (.int .u32))]] 2 147 true false false))], nx := 2 }]
def qmP : List OS := [⟨some 0, { fr := [(3, .a (.ptr 0 0 0))], mem := [(0, some (.raw [[.lf .bool, .lf (.sl (.int .u32))]] 2 147 true false false)), (1, some (.raw [[.lf .bool, .lf (.sl (.int .u32))]] 2 147 true false false))], nx := 2 }⟩]
def qmQ (k : Nat) : LInst := ⟨0, qiy, qmP, fun x => qfH k k x.1 x.2.1 x.2.2.1 x.2.2.2.1 x.2.2.2.2.1 x.2.2.2.2.2⟩
theorem qB5 (k : Nat) : qg (LOk (R := DS OS.D qmP) (fun b _ σ K => LOt Ty (kps 234) 0 b σ K []) cf (call cf k) (kps 234) Tryz.f234.ntmps k 0) 0 (lb Tryz.f234 0) :=
 qA qT (qA (qA qT qT) (qA qT qT))
theorem qB6 (k n : Nat) (x : DS SS.D qiy) : qfH k (n + 1) x.1 x.2.1 x.2.2.1 x.2.2.2.1 x.2.2.2.2.1 x.2.2.2.2.2 = qu SS.enc (fun σ => qx cf (fun f a b K => COt f a b K [qgD k, Iq7 k]) (fun b _ σ K => LOt Ty (kps 234) 0 b σ K []) Tryz.f234.ntmps 0 (lb Tryz.f234 0) σ (qw Ty (kps 234 0) 0 qiy qmP fun x => qfH k n x.1 x.2.1 x.2.2.1 x.2.2.2.1 x.2.2.2.2.1 x.2.2.2.2.2)) qiy x := by kernel_rfl
theorem qB7 (k : Nat) : qL cf (call cf k) (kps 234) Tryz.f234.ntmps k 0 0 (lb Tryz.f234 0) (qmQ k) :=
 qq (c := cf) (callF := call cf k) (kp := kps 234) (nt := Tryz.f234.ntmps) (k := k) (p := 0) (b := 0) (x0 := lb Tryz.f234 0) (hs := qiy) (os := qmP) (qd (qzg k)) (qB5 k) (fun n x => qfH k n x.1 x.2.1 x.2.2.1 x.2.2.2.1 x.2.2.2.2.1 x.2.2.2.2.2) (fun _ => rfl) (qB6 k)
theorem qGG (k : Nat) : qg (LOk (R := DS FS.D qqx) (fun b _ σ K => LOt Ty (kps 234) 0 b σ K [qmQ k]) cf (call cf k) (cf.keep 234) Tryz.f234.ntmps k qka.bs.length) 0 (bd Tryz.f234) :=
 qA qT (qA qT (qA (qA qT (qt (c := cf) (callF := call cf k) (kp := kps 234) (nt := Tryz.f234.ntmps) (k := k) (p := 0) (b := 0) (x0 := lb Tryz.f234 0) (l := [qmQ k]) (qA (fun _ => qB7 k) qT))) (qA qT qT)))
theorem qGH (k : Nat) (x : qka.D) : qhV (k + 1) x = qi cf (fun f a b K => COt f a b K [qgD k, Iq7 k]) (fun b _ σ K => LOt Ty (kps 234) 0 b σ K [qmQ k]) 234 Tryz.f234.ntmps Tryz.f234.results.toList (bd Tryz.f234) (qka.enc x).1 (qka.enc x).2 (qk FS.dec qqx) := by kernel_rfl
theorem qGI : ∀ k, qh (call cf k) (qxZ k)
 | 0 => fun x y e => absurd (show (none : Option _) = some y from e) (by simp)
 | k + 1 => qe (c := cf) (k := k) (f := 234) (fn := Tryz.f234) (body := bd Tryz.f234) (sh := qka) (os := qqx) rfl Tryz.func234 rfl ⟨rfl, Nat.le_of_ble_eq_true rfl⟩ (qd (qzg k)) (qGG k) (fun x => qhV (k + 1) x) (qGH k)

def qcx (k : Nat) (rec : List Int → List Int → Int → Option ((Int) ⊕ (Unit))) (a : List Int) (b : List Int) (i : Int) : Option ((Int) ⊕ (Unit)) :=
 if ((decide (i ≥ (0 : Int))) = true) then
 if ((0 : Int) ≤ i) then
 Option.bind (a)[(Int.toNat i)]? fun x6 =>
 if ((0 : Int) ≤ i) then
 Option.bind (b)[(Int.toNat i)]? fun x7 =>
 if ((x6 != x7) = true) then
 if ((0 : Int) ≤ i) then
 Option.bind (a)[(Int.toNat i)]? fun x8 =>
 if ((0 : Int) ≤ i) then
 Option.bind (b)[(Int.toNat i)]? fun x9 =>
 if ((decide (x8 < x9)) = true) then
 (some (Sum.inl (-(1 : Int))))
 else
 (some (Sum.inl (1 : Int)))
 else
 none
 else
 none
 else
 rec a b (IntKind.wrap .i64 (i - (1 : Int)))
 else
 none
 else
 none
 else
 (some (Sum.inr ()))
def qcy (k n : Nat) : List Int → List Int → Int → Option ((Int) ⊕ (Unit)) := Nat.rec (fun _ _ _ => none) (fun _ r => qcx k r) n
def qlK (k : Nat) (a : List Int) (b : List Int) : Option (Int) :=
 if (((((List.length a) : Nat) : Int) != (((List.length b) : Nat) : Int)) = true) then
 if ((decide ((((List.length a) : Nat) : Int) < (((List.length b) : Nat) : Int))) = true) then
 (some (-(1 : Int)))
 else
 (some (1 : Int))
 else
 Option.bind (qcy k k a b (IntKind.wrap .i64 ((((List.length a) : Nat) : Int) - (1 : Int)))) fun r13 =>
 qc r13
 (fun r13 =>
 (some r13))
 (fun r13 =>
 (some (0 : Int)))
def qdF : Nat → List Int → List Int → Option (Int)
 | 0, _, _ => none
 | k + 1, a, b => qlK k a b
def qkb : FS := { vs := [.a (.lf (.sl (.int .u32))), .a (.lf (.sl (.int .u32)))], bs := [] }
def qqy : List FS := [{ vs := [.a (.lf (.int .i64))], bs := [] }]
def qhW (k : Nat) : Inst := ⟨200, qkb, qqy, fun x => qdF k x.1 x.2⟩
theorem qzh (k : Nat) : qp (call cf k) [] := True.intro
def qiz : List SS := [{ fr := [(0, .a (.lf (.sl (.int .u32)))), (1, .a (.lf (.sl (.int .u32)))), (5, .a (.lf (.int .i64)))], mem := [], nx := 0 }]
def qmR : List OS := [⟨none, { fr := [(4, .a (.lf (.int .i64)))], mem := [], nx := 0 }⟩, ⟨some 0, { fr := [], mem := [], nx := 0 }⟩]
def qmS (k : Nat) : LInst := ⟨0, qiz, qmR, fun x => qcy k k x.1 x.2.1 x.2.2⟩
theorem qB8 (k : Nat) : qg (LOk (R := DS OS.D qmR) (fun b _ σ K => LOt Ty (kps 200) 0 b σ K []) cf (call cf k) (kps 200) Tryz.f200.ntmps k 0) 0 (lb Tryz.f200 0) :=
 qA (qA qT (qA qT qT)) (qA (qA qT (qA (qA (qA qT (qA (qA qT qT) qT)) (qA qT qT)) qT)) qT)
theorem qB9 (k n : Nat) (x : DS SS.D qiz) : qcy k (n + 1) x.1 x.2.1 x.2.2 = qu SS.enc (fun σ => qx cf (fun f a b K => COt f a b K []) (fun b _ σ K => LOt Ty (kps 200) 0 b σ K []) Tryz.f200.ntmps 0 (lb Tryz.f200 0) σ (qw Ty (kps 200 0) 0 qiz qmR fun x => qcy k n x.1 x.2.1 x.2.2)) qiz x := by kernel_rfl
theorem qCa (k : Nat) : qL cf (call cf k) (kps 200) Tryz.f200.ntmps k 0 0 (lb Tryz.f200 0) (qmS k) :=
 qq (c := cf) (callF := call cf k) (kp := kps 200) (nt := Tryz.f200.ntmps) (k := k) (p := 0) (b := 0) (x0 := lb Tryz.f200 0) (hs := qiz) (os := qmR) (qd (qzh k)) (qB8 k) (fun n x => qcy k n x.1 x.2.1 x.2.2) (fun _ => rfl) (qB9 k)
theorem qGJ (k : Nat) : qg (LOk (R := DS FS.D qqy) (fun b _ σ K => LOt Ty (kps 200) 0 b σ K [qmS k]) cf (call cf k) (cf.keep 200) Tryz.f200.ntmps k qkb.bs.length) 0 (bd Tryz.f200) :=
 qA qT (qA (qA qT (qA (qA (qA qT (qA (qA qT qT) qT)) (qA qT qT)) qT)) (qA (qA qT (qt (c := cf) (callF := call cf k) (kp := kps 200) (nt := Tryz.f200.ntmps) (k := k) (p := 0) (b := 0) (x0 := lb Tryz.f200 0) (l := [qmS k]) (qA (fun _ => qCa k) qT))) (qA qT qT)))
theorem qGK (k : Nat) (x : qkb.D) : qdF (k + 1) x.1 x.2 = qi cf (fun f a b K => COt f a b K []) (fun b _ σ K => LOt Ty (kps 200) 0 b σ K [qmS k]) 200 Tryz.f200.ntmps Tryz.f200.results.toList (bd Tryz.f200) (qkb.enc x).1 (qkb.enc x).2 (qk FS.dec qqy) := by kernel_rfl
theorem qqz : ∀ k, qh (call cf k) (qhW k)
 | 0 => fun x y e => absurd (show (none : Option _) = some y from e) (by simp)
 | k + 1 => qe (c := cf) (k := k) (f := 200) (fn := Tryz.f200) (body := bd Tryz.f200) (sh := qkb) (os := qqy) rfl Tryz.func200 rfl ⟨rfl, Nat.le_of_ble_eq_true rfl⟩ (qd (qzh k)) (qGJ k) (fun x => qdF (k + 1) x.1 x.2) (qGK k)

def qdQ (k : Nat) (rec : List Int → Int → Nat → Int → Int → List Int → Option (Nat × Int × List Int)) (a : List Int) (d : Int) (q : Nat) (r : Int) (i : Int) (qs : List Int) : Option (Nat × Int × List Int) :=
 if ((decide (i ≥ (0 : Int))) = true) then
 if ((0 : Int) ≤ i) then
 Option.bind (a)[(Int.toNat i)]? fun x7 =>
 if ((IntKind.wrap .u64 d) = (0 : Int)) then
 none
 else
 if (((0 : Int) ≤ i) ∧ (i < ((q : Nat) : Int))) then
 Option.bind (qs)[(0 + (Int.toNat i))]? fun x8 =>
 if ((IntKind.wrap .u64 d) = (0 : Int)) then
 none
 else
 rec a d q (Int.tmod (IntKind.wrap .u64 (((BitVec.toNat ((BitVec.ofInt 64 (IntKind.wrap .u64 (r * (4294967296 : Int)))) ||| (BitVec.ofInt 64 (IntKind.wrap .u64 x7)))) : Nat) : Int)) (IntKind.wrap .u64 d)) (IntKind.wrap .i64 (i - (1 : Int))) (List.set qs (0 + (Int.toNat i)) (IntKind.wrap .u32 (IntKind.wrap .u64 (Int.tdiv (IntKind.wrap .u64 (((BitVec.toNat ((BitVec.ofInt 64 (IntKind.wrap .u64 (r * (4294967296 : Int)))) ||| (BitVec.ofInt 64 (IntKind.wrap .u64 x7)))) : Nat) : Int)) (IntKind.wrap .u64 d)))))
 else
 none
 else
 none
 else
 (some (q, r, qs))
def qb3 (k n : Nat) : List Int → Int → Nat → Int → Int → List Int → Option (Nat × Int × List Int) := Nat.rec (fun _ _ _ _ _ _ => none) (fun _ r => qdQ k r) n
def qhX (k : Nat) (a : List Int) (d : Int) : Option (List Int × Int) :=
 if (((0 : Int) ≤ (((List.length a) : Nat) : Int)) ∧ (((((List.length a) : Nat) : Int) ≤ (((List.length a) : Nat) : Int)) ∧ (((((List.length a) : Nat) : Int) * (4 : Int)) ≤ (140737488355328 : Int)))) then
 Option.bind (qb3 k k a d (Int.toNat (((List.length a) : Nat) : Int)) (0 : Int) (IntKind.wrap .i64 ((((List.length a) : Nat) : Int) - (1 : Int))) (List.replicate (Int.toNat (((List.length a) : Nat) : Int)) (0 : Int))) fun r14 =>
 if ((0 + r14.1) ≤ (List.length r14.2.2)) then
 (some ((List.take r14.1 r14.2.2), (IntKind.wrap .u32 r14.2.1)))
 else
 none
 else
 none
def qfI : Nat → List Int → Int → Option (List Int × Int)
 | 0, _, _ => none
 | k + 1, a, d => qhX k a d
def qkc : FS := { vs := [.a (.lf (.sl (.int .u32))), .a (.lf (.int .u32))], bs := [] }
def qqA : List FS := [{ vs := [.a (.lf (.sl (.int .u32))), .a (.lf (.int .u32))], bs := [] }]
def qx0 (k : Nat) : Inst := ⟨241, qkc, qqA, fun x => qfI k x.1 x.2⟩
theorem qzi (k : Nat) : qp (call cf k) [] := True.intro
def qiA : List SS := [{ fr := [(0, .a (.lf (.sl (.int .u32)))), (1, .a (.lf (.int .u32))), (6, .a (.smz 0)), (7, .a (.lf (.int .u64))), (8, .a (.lf (.int .i64)))], mem := [(0, some (.arr (.int .u32) 1 106 false))], nx := 1 }]
def qmT : List OS := [⟨some 0, { fr := [(6, .a (.smz 0)), (7, .a (.lf (.int .u64)))], mem := [(0, some (.arr (.int .u32) 1 106 false))], nx := 1 }⟩]
def qmU (k : Nat) : LInst := ⟨0, qiA, qmT, fun x => qb3 k k x.1 x.2.1 x.2.2.1 x.2.2.2.1 x.2.2.2.2.1 x.2.2.2.2.2⟩
theorem qCb (k : Nat) : qg (LOk (R := DS OS.D qmT) (fun b _ σ K => LOt Ty (kps 241) 0 b σ K []) cf (call cf k) (kps 241) Tryz.f241.ntmps k 0) 0 (lb Tryz.f241 0) :=
 qA (qA qT (qA qT qT)) (qA (qA qT (qA qT qT)) qT)
theorem qCc (k n : Nat) (x : DS SS.D qiA) : qb3 k (n + 1) x.1 x.2.1 x.2.2.1 x.2.2.2.1 x.2.2.2.2.1 x.2.2.2.2.2 = qu SS.enc (fun σ => qx cf (fun f a b K => COt f a b K []) (fun b _ σ K => LOt Ty (kps 241) 0 b σ K []) Tryz.f241.ntmps 0 (lb Tryz.f241 0) σ (qw Ty (kps 241 0) 0 qiA qmT fun x => qb3 k n x.1 x.2.1 x.2.2.1 x.2.2.2.1 x.2.2.2.2.1 x.2.2.2.2.2)) qiA x := by kernel_rfl
theorem qCd (k : Nat) : qL cf (call cf k) (kps 241) Tryz.f241.ntmps k 0 0 (lb Tryz.f241 0) (qmU k) :=
 qq (c := cf) (callF := call cf k) (kp := kps 241) (nt := Tryz.f241.ntmps) (k := k) (p := 0) (b := 0) (x0 := lb Tryz.f241 0) (hs := qiA) (os := qmT) (qd (qzi k)) (qCb k) (fun n x => qb3 k n x.1 x.2.1 x.2.2.1 x.2.2.2.1 x.2.2.2.2.1 x.2.2.2.2.2) (fun _ => rfl) (qCc k)
theorem qGL (k : Nat) : qg (LOk (R := DS FS.D qqA) (fun b _ σ K => LOt Ty (kps 241) 0 b σ K [qmU k]) cf (call cf k) (cf.keep 241) Tryz.f241.ntmps k qkc.bs.length) 0 (bd Tryz.f241) :=
 qA qT (qA qT (qA qT (qA (qA qT (qt (c := cf) (callF := call cf k) (kp := kps 241) (nt := Tryz.f241.ntmps) (k := k) (p := 0) (b := 0) (x0 := lb Tryz.f241 0) (l := [qmU k]) (qA (fun _ => qCd k) qT))) (qA qT qT))))
theorem qGM (k : Nat) (x : qkc.D) : qfI (k + 1) x.1 x.2 = qi cf (fun f a b K => COt f a b K []) (fun b _ σ K => LOt Ty (kps 241) 0 b σ K [qmU k]) 241 Tryz.f241.ntmps Tryz.f241.results.toList (bd Tryz.f241) (qkc.enc x).1 (qkc.enc x).2 (qk FS.dec qqA) := by kernel_rfl
theorem qGN : ∀ k, qh (call cf k) (qx0 k)
 | 0 => fun x y e => absurd (show (none : Option _) = some y from e) (by simp)
 | k + 1 => qe (c := cf) (k := k) (f := 241) (fn := Tryz.f241) (body := bd Tryz.f241) (sh := qkc) (os := qqA) rfl Tryz.func241 rfl ⟨rfl, Nat.le_of_ble_eq_true rfl⟩ (qd (qzi k)) (qGL k) (fun x => qfI (k + 1) x.1 x.2) (qGM k)

def qdR (k : Nat) (rec : Int → Nat → List Int → Int → Int → List Int → Option (Nat × List Int)) (bits : Int) (out1 : Nat) (x : List Int) (x1 : Int) (x2 : Int) (outs : List Int) : Option (Nat × List Int) :=
 if ((decide (x2 < x1)) = true) then
 if ((0 : Int) ≤ x2) then
 Option.bind (x)[(Int.toNat x2)]? fun x6 =>
 if (bits < (0 : Int)) then
 none
 else
 if (((0 : Int) ≤ x2) ∧ (x2 < ((out1 : Nat) : Int))) then
 Option.bind (outs)[(0 + (Int.toNat x2))]? fun x7 =>
 if (((0 : Int) ≤ x2) ∧ (x2 < ((out1 : Nat) : Int))) then
 Option.bind (outs)[(0 + (Int.toNat x2))]? fun x8 =>
 if (((0 : Int) ≤ (IntKind.wrap .i64 (x2 + (1 : Int)))) ∧ ((IntKind.wrap .i64 (x2 + (1 : Int))) < ((out1 : Nat) : Int))) then
 Option.bind ((List.set outs (0 + (Int.toNat x2)) (IntKind.wrap .u32 (((BitVec.toNat ((BitVec.ofInt 32 x7) ||| (BitVec.ofInt 32 (IntKind.wrap .u32 (IntKind.wrap .u64 ((IntKind.wrap .u64 x6) * ((2 : Int) ^ (min (Int.toNat bits) 64)))))))) : Nat) : Int))))[(0 + (Int.toNat (IntKind.wrap .i64 (x2 + (1 : Int)))))]? fun x9 =>
 rec bits out1 x x1 (IntKind.wrap .i64 (x2 + (1 : Int))) (List.set (List.set outs (0 + (Int.toNat x2)) (IntKind.wrap .u32 (((BitVec.toNat ((BitVec.ofInt 32 x7) ||| (BitVec.ofInt 32 (IntKind.wrap .u32 (IntKind.wrap .u64 ((IntKind.wrap .u64 x6) * ((2 : Int) ^ (min (Int.toNat bits) 64)))))))) : Nat) : Int))) (0 + (Int.toNat (IntKind.wrap .i64 (x2 + (1 : Int))))) (IntKind.wrap .u32 (Int.fdiv (IntKind.wrap .u64 ((IntKind.wrap .u64 x6) * ((2 : Int) ^ (min (Int.toNat bits) 64)))) (4294967296 : Int))))
 else
 none
 else
 none
 else
 none
 else
 none
 else
 (some (out1, outs))
def qb4 (k n : Nat) : Int → Nat → List Int → Int → Int → List Int → Option (Nat × List Int) := Nat.rec (fun _ _ _ _ _ _ => none) (fun _ r => qdR k r) n
def qhY (k : Nat) (a : List Int) (bits : Int) : Option (Nat × List Int) :=
 if (((0 : Int) ≤ (IntKind.wrap .i64 ((((List.length a) : Nat) : Int) + (1 : Int)))) ∧ (((IntKind.wrap .i64 ((((List.length a) : Nat) : Int) + (1 : Int))) ≤ (IntKind.wrap .i64 ((((List.length a) : Nat) : Int) + (1 : Int)))) ∧ (((IntKind.wrap .i64 ((((List.length a) : Nat) : Int) + (1 : Int))) * (4 : Int)) ≤ (140737488355328 : Int)))) then
 Option.bind (qb4 k k bits (Int.toNat (IntKind.wrap .i64 ((((List.length a) : Nat) : Int) + (1 : Int)))) a (((List.length a) : Nat) : Int) (0 : Int) (List.replicate (Int.toNat (IntKind.wrap .i64 ((((List.length a) : Nat) : Int) + (1 : Int)))) (0 : Int))) fun r15 =>
 (some (r15.1, r15.2))
 else
 none
def qdG : Nat → List Int → Int → Option (Nat × List Int)
 | 0, _, _ => none
 | k + 1, a, bits => qhY k a bits
def qkd : FS := { vs := [.a (.lf (.sl (.int .u32))), .a (.lf (.int .u64))], bs := [] }
def qqB : List FS := [{ vs := [.a (.smz 0)], bs := [.arr (.int .u32) 1 106 false] }]
def qlL (k : Nat) : Inst := ⟨247, qkd, qqB, fun x => qdG k x.1 x.2⟩
theorem qzj (k : Nat) : qp (call cf k) [] := True.intro
def qiB : List SS := [{ fr := [(1, .a (.lf (.int .u64))), (5, .a (.smz 0)), (13, .a (.lf (.sl (.int .u32)))), (14, .a (.lf (.int .i64))), (15, .a (.lf (.int .i64)))], mem := [(0, some (.arr (.int .u32) 1 106 false))], nx := 1 }]
def qmV : List OS := [⟨some 0, { fr := [(5, .a (.smz 0))], mem := [(0, some (.arr (.int .u32) 1 106 false))], nx := 1 }⟩]
def qmW (k : Nat) : LInst := ⟨0, qiB, qmV, fun x => qb4 k k x.1 x.2.1 x.2.2.1 x.2.2.2.1 x.2.2.2.2.1 x.2.2.2.2.2⟩
theorem qCe (k : Nat) : qg (LOk (R := DS OS.D qmV) (fun b _ σ K => LOt Ty (kps 247) 0 b σ K []) cf (call cf k) (kps 247) Tryz.f247.ntmps k 0) 0 (lb Tryz.f247 0) :=
 qA qT (qA (qA qT qT) (qA (qA qT (qA qT (qA qT qT))) qT))
theorem qCf (k n : Nat) (x : DS SS.D qiB) : qb4 k (n + 1) x.1 x.2.1 x.2.2.1 x.2.2.2.1 x.2.2.2.2.1 x.2.2.2.2.2 = qu SS.enc (fun σ => qx cf (fun f a b K => COt f a b K []) (fun b _ σ K => LOt Ty (kps 247) 0 b σ K []) Tryz.f247.ntmps 0 (lb Tryz.f247 0) σ (qw Ty (kps 247 0) 0 qiB qmV fun x => qb4 k n x.1 x.2.1 x.2.2.1 x.2.2.2.1 x.2.2.2.2.1 x.2.2.2.2.2)) qiB x := by kernel_rfl
theorem qCg (k : Nat) : qL cf (call cf k) (kps 247) Tryz.f247.ntmps k 0 0 (lb Tryz.f247 0) (qmW k) :=
 qq (c := cf) (callF := call cf k) (kp := kps 247) (nt := Tryz.f247.ntmps) (k := k) (p := 0) (b := 0) (x0 := lb Tryz.f247 0) (hs := qiB) (os := qmV) (qd (qzj k)) (qCe k) (fun n x => qb4 k n x.1 x.2.1 x.2.2.1 x.2.2.2.1 x.2.2.2.2.1 x.2.2.2.2.2) (fun _ => rfl) (qCf k)
theorem qGO (k : Nat) : qg (LOk (R := DS FS.D qqB) (fun b _ σ K => LOt Ty (kps 247) 0 b σ K [qmW k]) cf (call cf k) (cf.keep 247) Tryz.f247.ntmps k qkd.bs.length) 0 (bd Tryz.f247) :=
 qA qT (qA qT (qA (qA qT (qt (c := cf) (callF := call cf k) (kp := kps 247) (nt := Tryz.f247.ntmps) (k := k) (p := 0) (b := 0) (x0 := lb Tryz.f247 0) (l := [qmW k]) (qA (fun _ => qCg k) qT))) (qA qT qT)))
theorem qGP (k : Nat) (x : qkd.D) : qdG (k + 1) x.1 x.2 = qi cf (fun f a b K => COt f a b K []) (fun b _ σ K => LOt Ty (kps 247) 0 b σ K [qmW k]) 247 Tryz.f247.ntmps Tryz.f247.results.toList (bd Tryz.f247) (qkd.enc x).1 (qkd.enc x).2 (qk FS.dec qqB) := by kernel_rfl
theorem qGQ : ∀ k, qh (call cf k) (qlL k)
 | 0 => fun x y e => absurd (show (none : Option _) = some y from e) (by simp)
 | k + 1 => qe (c := cf) (k := k) (f := 247) (fn := Tryz.f247) (body := bd Tryz.f247) (sh := qkd) (os := qqB) rfl Tryz.func247 rfl ⟨rfl, Nat.le_of_ble_eq_true rfl⟩ (qd (qzj k)) (qGO k) (fun x => qdG (k + 1) x.1 x.2) (qGP k)

def qaA (k : Nat) (rec : Nat → Nat → Nat → Int → Int → Int → Int → Int → List Int → List Int → Option (Nat × Nat × Nat × Int × Int × List Int × List Int)) (u0 : Nat) (u1 : Nat) (v : Nat) (d : Int) (carry : Int) (borrow : Int) (x : Int) (x1 : Int) (us : List Int) (vs : List Int) : Option (Nat × Nat × Nat × Int × Int × List Int × List Int) :=
 if ((decide (x1 < x)) = true) then
 if ((decide (x1 < ((v : Nat) : Int))) = true) then
 if (((0 : Int) ≤ x1) ∧ (x1 < ((v : Nat) : Int))) then
 Option.bind (vs)[(0 + (Int.toNat x1))]? fun x10 =>
 if (((0 : Int) ≤ x1) ∧ (x1 < ((u1 : Nat) : Int))) then
 Option.bind (us)[(u0 + (Int.toNat x1))]? fun x11 =>
 if ((decide ((IntKind.wrap .u64 x11) < (IntKind.wrap .u64 ((IntKind.wrap .u64 (((BitVec.toNat ((BitVec.ofInt 64 (IntKind.wrap .u64 (carry + (IntKind.wrap .u64 (d * (IntKind.wrap .u64 x10)))))) &&& (BitVec.ofInt 64 (4294967295 : Int)))) : Nat) : Int)) + borrow)))) = true) then
 if (((0 : Int) ≤ x1) ∧ (x1 < ((u1 : Nat) : Int))) then
 Option.bind (us)[(u0 + (Int.toNat x1))]? fun x12 =>
 if (((0 : Int) ≤ x1) ∧ (x1 < ((u1 : Nat) : Int))) then
 Option.bind (us)[(u0 + (Int.toNat x1))]? fun x13 =>
 rec u0 u1 v d (Int.fdiv (IntKind.wrap .u64 (carry + (IntKind.wrap .u64 (d * (IntKind.wrap .u64 x10))))) (4294967296 : Int)) (1 : Int) x (IntKind.wrap .i64 (x1 + (1 : Int))) (List.set us (u0 + (Int.toNat x1)) (IntKind.wrap .u32 (IntKind.wrap .u64 ((IntKind.wrap .u64 x12) - (IntKind.wrap .u64 ((IntKind.wrap .u64 (((BitVec.toNat ((BitVec.ofInt 64 (IntKind.wrap .u64 (carry + (IntKind.wrap .u64 (d * (IntKind.wrap .u64 x10)))))) &&& (BitVec.ofInt 64 (4294967295 : Int)))) : Nat) : Int)) + borrow)))))) vs
 else
 none
 else
 none
 else
 if (((0 : Int) ≤ x1) ∧ (x1 < ((u1 : Nat) : Int))) then
 Option.bind (us)[(u0 + (Int.toNat x1))]? fun x12 =>
 if (((0 : Int) ≤ x1) ∧ (x1 < ((u1 : Nat) : Int))) then
 Option.bind (us)[(u0 + (Int.toNat x1))]? fun x13 =>
 rec u0 u1 v d (Int.fdiv (IntKind.wrap .u64 (carry + (IntKind.wrap .u64 (d * (IntKind.wrap .u64 x10))))) (4294967296 : Int)) (0 : Int) x (IntKind.wrap .i64 (x1 + (1 : Int))) (List.set us (u0 + (Int.toNat x1)) (IntKind.wrap .u32 (IntKind.wrap .u64 ((IntKind.wrap .u64 x12) - (IntKind.wrap .u64 ((IntKind.wrap .u64 (((BitVec.toNat ((BitVec.ofInt 64 (IntKind.wrap .u64 (carry + (IntKind.wrap .u64 (d * (IntKind.wrap .u64 x10)))))) &&& (BitVec.ofInt 64 (4294967295 : Int)))) : Nat) : Int)) + borrow)))))) vs
 else
 none
 else
 none
 else
 none
 else
 none
 else
 if (((0 : Int) ≤ x1) ∧ (x1 < ((u1 : Nat) : Int))) then
 Option.bind (us)[(u0 + (Int.toNat x1))]? fun x10 =>
 if ((decide ((IntKind.wrap .u64 x10) < (IntKind.wrap .u64 ((IntKind.wrap .u64 (((BitVec.toNat ((BitVec.ofInt 64 carry) &&& (BitVec.ofInt 64 (4294967295 : Int)))) : Nat) : Int)) + borrow)))) = true) then
 if (((0 : Int) ≤ x1) ∧ (x1 < ((u1 : Nat) : Int))) then
 Option.bind (us)[(u0 + (Int.toNat x1))]? fun x11 =>
 if (((0 : Int) ≤ x1) ∧ (x1 < ((u1 : Nat) : Int))) then
 Option.bind (us)[(u0 + (Int.toNat x1))]? fun x12 =>
 rec u0 u1 v d (Int.fdiv carry (4294967296 : Int)) (1 : Int) x (IntKind.wrap .i64 (x1 + (1 : Int))) (List.set us (u0 + (Int.toNat x1)) (IntKind.wrap .u32 (IntKind.wrap .u64 ((IntKind.wrap .u64 x11) - (IntKind.wrap .u64 ((IntKind.wrap .u64 (((BitVec.toNat ((BitVec.ofInt 64 carry) &&& (BitVec.ofInt 64 (4294967295 : Int)))) : Nat) : Int)) + borrow)))))) vs
 else
 none
 else
 none
 else
 if (((0 : Int) ≤ x1) ∧ (x1 < ((u1 : Nat) : Int))) then
 Option.bind (us)[(u0 + (Int.toNat x1))]? fun x11 =>
 if (((0 : Int) ≤ x1) ∧ (x1 < ((u1 : Nat) : Int))) then
 Option.bind (us)[(u0 + (Int.toNat x1))]? fun x12 =>
 rec u0 u1 v d (Int.fdiv carry (4294967296 : Int)) (0 : Int) x (IntKind.wrap .i64 (x1 + (1 : Int))) (List.set us (u0 + (Int.toNat x1)) (IntKind.wrap .u32 (IntKind.wrap .u64 ((IntKind.wrap .u64 x11) - (IntKind.wrap .u64 ((IntKind.wrap .u64 (((BitVec.toNat ((BitVec.ofInt 64 carry) &&& (BitVec.ofInt 64 (4294967295 : Int)))) : Nat) : Int)) + borrow)))))) vs
 else
 none
 else
 none
 else
 none
 else
 (some (u0, u1, v, d, borrow, us, vs))
def qak (k n : Nat) : Nat → Nat → Nat → Int → Int → Int → Int → Int → List Int → List Int → Option (Nat × Nat × Nat × Int × Int × List Int × List Int) := Nat.rec (fun _ _ _ _ _ _ _ _ _ _ => none) (fun _ r => qaA k r) n
def qbK (k : Nat) (rec : Nat → Nat → Nat → Int → Int → Int → Int → List Int → List Int → Option (Int × List Int × List Int)) (u0 : Nat) (u1 : Nat) (v : Nat) (d : Int) (carry : Int) (x : Int) (x1 : Int) (us : List Int) (vs : List Int) : Option (Int × List Int × List Int) :=
 if ((decide (x1 < x)) = true) then
 if (((0 : Int) ≤ x1) ∧ (x1 < ((u1 : Nat) : Int))) then
 Option.bind (us)[(u0 + (Int.toNat x1))]? fun x10 =>
 if ((decide (x1 < ((v : Nat) : Int))) = true) then
 if (((0 : Int) ≤ x1) ∧ (x1 < ((v : Nat) : Int))) then
 Option.bind (vs)[(0 + (Int.toNat x1))]? fun x11 =>
 if (((0 : Int) ≤ x1) ∧ (x1 < ((u1 : Nat) : Int))) then
 Option.bind (us)[(u0 + (Int.toNat x1))]? fun x12 =>
 rec u0 u1 v d (Int.fdiv (IntKind.wrap .u64 ((IntKind.wrap .u64 ((IntKind.wrap .u64 x10) + carry)) + (IntKind.wrap .u64 x11))) (4294967296 : Int)) x (IntKind.wrap .i64 (x1 + (1 : Int))) (List.set us (u0 + (Int.toNat x1)) (IntKind.wrap .u32 (IntKind.wrap .u64 ((IntKind.wrap .u64 ((IntKind.wrap .u64 x10) + carry)) + (IntKind.wrap .u64 x11))))) vs
 else
 none
 else
 none
 else
 if (((0 : Int) ≤ x1) ∧ (x1 < ((u1 : Nat) : Int))) then
 Option.bind (us)[(u0 + (Int.toNat x1))]? fun x11 =>
 rec u0 u1 v d (Int.fdiv (IntKind.wrap .u64 ((IntKind.wrap .u64 x10) + carry)) (4294967296 : Int)) x (IntKind.wrap .i64 (x1 + (1 : Int))) (List.set us (u0 + (Int.toNat x1)) (IntKind.wrap .u32 (IntKind.wrap .u64 ((IntKind.wrap .u64 x10) + carry)))) vs
 else
 none
 else
 none
 else
 (some (d, us, vs))
def qaJ (k n : Nat) : Nat → Nat → Nat → Int → Int → Int → Int → List Int → List Int → Option (Int × List Int × List Int) := Nat.rec (fun _ _ _ _ _ _ _ _ _ => none) (fun _ r => qbK k r) n
def qe3 (k : Nat) (u0 : Nat) (u1 : Nat) (v : Nat) (d : Int) (us : List Int) (vs : List Int) : Option (Int × List Int × List Int) :=
 Option.bind (qak k k u0 u1 v d (0 : Int) (0 : Int) ((u1 : Nat) : Int) (0 : Int) us vs) fun r18 =>
 if ((r18.2.2.2.2.1 == (0 : Int)) = true) then
 (some ((IntKind.wrap .u32 r18.2.2.2.1), r18.2.2.2.2.2.1, r18.2.2.2.2.2.2))
 else
 Option.bind (qaJ k k r18.1 r18.2.1 r18.2.2.1 r18.2.2.2.1 (0 : Int) ((r18.2.1 : Nat) : Int) (0 : Int) r18.2.2.2.2.2.1 r18.2.2.2.2.2.2) fun r19 =>
 (some ((IntKind.wrap .u32 (IntKind.wrap .u64 (r19.1 - (1 : Int)))), r19.2.1, r19.2.2))
def qdb : Nat → Nat → Nat → Nat → Int → List Int → List Int → Option (Int × List Int × List Int)
 | 0, _, _, _, _, _, _ => none
 | k + 1, u0, u1, v, d, us, vs => qe3 k u0 u1 v d us vs
def qke : FS := { vs := [.a (.sms 0), .a (.smz 1), .a (.lf (.int .u64))], bs := [.arr (.int .u32) 1 106 false, .arr (.int .u32) 1 106 false] }
def qqC : List FS := [{ vs := [.a (.lf (.int .u32))], bs := [.arr (.int .u32) 1 106 false, .arr (.int .u32) 1 106 false] }]
def qlM (k : Nat) : Inst := ⟨248, qke, qqC, fun x => qdb k x.1 x.2.1 x.2.2.1 x.2.2.2.1 x.2.2.2.2.1 x.2.2.2.2.2⟩
theorem qvd (k : Nat) : qp (call cf k) [] := True.intro
def qiC : List SS := [{ fr := [(0, .a (.sms 0)), (1, .a (.smz 1)), (2, .a (.lf (.int .u64))), (7, .a (.lf (.int .u64))), (8, .a (.lf (.int .u64))), (14, .a (.lf (.int .i64))), (15, .a (.lf (.int .i64)))], mem := [(0, some (.arr (.int .u32) 1 106 false)), (1, some (.arr (.int .u32) 1 106 false))], nx := 2 }]
def qmX : List OS := [⟨some 0, { fr := [(0, .a (.sms 0)), (1, .a (.smz 1)), (2, .a (.lf (.int .u64))), (8, .a (.lf (.int .u64)))], mem := [(0, some (.arr (.int .u32) 1 106 false)), (1, some (.arr (.int .u32) 1 106 false))], nx := 2 }⟩]
def qgF (k : Nat) : LInst := ⟨0, qiC, qmX, fun x => qak k k x.1 x.2.1 x.2.2.1 x.2.2.2.1 x.2.2.2.2.1 x.2.2.2.2.2.1 x.2.2.2.2.2.2.1 x.2.2.2.2.2.2.2.1 x.2.2.2.2.2.2.2.2.1 x.2.2.2.2.2.2.2.2.2⟩
theorem qCh (k : Nat) : qg (LOk (R := DS OS.D qmX) (fun b _ σ K => LOt Ty (kps 248) 2 b σ K []) cf (call cf k) (kps 248) Tryz.f248.ntmps k 2) 0 (lb Tryz.f248 0) :=
 qA qT (qA (qA qT qT) (qA (qA qT (qA (qA qT (qA qT qT)) (qA qT (qA qT (qA (qA qT (qA qT qT)) (qA qT qT)))))) qT))
theorem qCi (k n : Nat) (x : DS SS.D qiC) : qak k (n + 1) x.1 x.2.1 x.2.2.1 x.2.2.2.1 x.2.2.2.2.1 x.2.2.2.2.2.1 x.2.2.2.2.2.2.1 x.2.2.2.2.2.2.2.1 x.2.2.2.2.2.2.2.2.1 x.2.2.2.2.2.2.2.2.2 = qu SS.enc (fun σ => qx cf (fun f a b K => COt f a b K []) (fun b _ σ K => LOt Ty (kps 248) 2 b σ K []) Tryz.f248.ntmps 0 (lb Tryz.f248 0) σ (qw Ty (kps 248 0) 2 qiC qmX fun x => qak k n x.1 x.2.1 x.2.2.1 x.2.2.2.1 x.2.2.2.2.1 x.2.2.2.2.2.1 x.2.2.2.2.2.2.1 x.2.2.2.2.2.2.2.1 x.2.2.2.2.2.2.2.2.1 x.2.2.2.2.2.2.2.2.2)) qiC x := by kernel_rfl
theorem qCj (k : Nat) : qL cf (call cf k) (kps 248) Tryz.f248.ntmps k 2 0 (lb Tryz.f248 0) (qgF k) :=
 qq (c := cf) (callF := call cf k) (kp := kps 248) (nt := Tryz.f248.ntmps) (k := k) (p := 2) (b := 0) (x0 := lb Tryz.f248 0) (hs := qiC) (os := qmX) (qd (qvd k)) (qCh k) (fun n x => qak k n x.1 x.2.1 x.2.2.1 x.2.2.2.1 x.2.2.2.2.1 x.2.2.2.2.2.1 x.2.2.2.2.2.2.1 x.2.2.2.2.2.2.2.1 x.2.2.2.2.2.2.2.2.1 x.2.2.2.2.2.2.2.2.2) (fun _ => rfl) (qCi k)
def qiD : List SS := [{ fr := [(0, .a (.sms 0)), (1, .a (.smz 1)), (2, .a (.lf (.int .u64))), (7, .a (.lf (.int .u64))), (61, .a (.lf (.int .i64))), (62, .a (.lf (.int .i64)))], mem := [(0, some (.arr (.int .u32) 1 106 false)), (1, some (.arr (.int .u32) 1 106 false))], nx := 2 }]
def qmY : List OS := [⟨some 2, { fr := [(2, .a (.lf (.int .u64)))], mem := [(0, some (.arr (.int .u32) 1 106 false)), (1, some (.arr (.int .u32) 1 106 false))], nx := 2 }⟩]
def qiE (k : Nat) : LInst := ⟨2, qiD, qmY, fun x => qaJ k k x.1 x.2.1 x.2.2.1 x.2.2.2.1 x.2.2.2.2.1 x.2.2.2.2.2.1 x.2.2.2.2.2.2.1 x.2.2.2.2.2.2.2.1 x.2.2.2.2.2.2.2.2⟩
theorem qCk (k : Nat) : qg (LOk (R := DS OS.D qmY) (fun b _ σ K => LOt Ty (kps 248) 2 b σ K [qgF k]) cf (call cf k) (kps 248) Tryz.f248.ntmps k 2) 2 (lb Tryz.f248 1) :=
 qA qT (qA (qA qT qT) (qA (qA qT (qA qT (qA (qA qT (qA qT qT)) (qA qT qT)))) qT))
theorem qCl (k n : Nat) (x : DS SS.D qiD) : qaJ k (n + 1) x.1 x.2.1 x.2.2.1 x.2.2.2.1 x.2.2.2.2.1 x.2.2.2.2.2.1 x.2.2.2.2.2.2.1 x.2.2.2.2.2.2.2.1 x.2.2.2.2.2.2.2.2 = qu SS.enc (fun σ => qx cf (fun f a b K => COt f a b K []) (fun b _ σ K => LOt Ty (kps 248) 2 b σ K [qgF k]) Tryz.f248.ntmps 2 (lb Tryz.f248 1) σ (qw Ty (kps 248 2) 2 qiD qmY fun x => qaJ k n x.1 x.2.1 x.2.2.1 x.2.2.2.1 x.2.2.2.2.1 x.2.2.2.2.2.1 x.2.2.2.2.2.2.1 x.2.2.2.2.2.2.2.1 x.2.2.2.2.2.2.2.2)) qiD x := by kernel_rfl
theorem qCm (k : Nat) : qL cf (call cf k) (kps 248) Tryz.f248.ntmps k 2 2 (lb Tryz.f248 1) (qiE k) :=
 qq (c := cf) (callF := call cf k) (kp := kps 248) (nt := Tryz.f248.ntmps) (k := k) (p := 2) (b := 2) (x0 := lb Tryz.f248 1) (hs := qiD) (os := qmY) (qd (qvd k)) (qCk k) (fun n x => qaJ k n x.1 x.2.1 x.2.2.1 x.2.2.2.1 x.2.2.2.2.1 x.2.2.2.2.2.1 x.2.2.2.2.2.2.1 x.2.2.2.2.2.2.2.1 x.2.2.2.2.2.2.2.2) (fun _ => rfl) (qCl k)
theorem qGR (k : Nat) : qg (LOk (R := DS FS.D qqC) (fun b _ σ K => LOt Ty (kps 248) 2 b σ K [qgF k, qiE k]) cf (call cf k) (cf.keep 248) Tryz.f248.ntmps k qke.bs.length) 0 (bd Tryz.f248) :=
 qA qT (qA qT (qA (qA qT (qt (c := cf) (callF := call cf k) (kp := kps 248) (nt := Tryz.f248.ntmps) (k := k) (p := 2) (b := 0) (x0 := lb Tryz.f248 0) (l := [qgF k, qiE k]) (qA (fun _ => qCj k) (qA (fun h => absurd (show (2 : Nat) = 0 from h) (by decide)) qT)))) (qA (qA qT (qA (qA qT qT) qT)) (qA qT (qA (qA qT (qt (c := cf) (callF := call cf k) (kp := kps 248) (nt := Tryz.f248.ntmps) (k := k) (p := 2) (b := 2) (x0 := lb Tryz.f248 1) (l := [qgF k, qiE k]) (qA (fun h => absurd (show (0 : Nat) = 2 from h) (by decide)) (qA (fun _ => qCm k) qT)))) (qA qT qT))))))
theorem qGS (k : Nat) (x : qke.D) : qdb (k + 1) x.1 x.2.1 x.2.2.1 x.2.2.2.1 x.2.2.2.2.1 x.2.2.2.2.2 = qi cf (fun f a b K => COt f a b K []) (fun b _ σ K => LOt Ty (kps 248) 2 b σ K [qgF k, qiE k]) 248 Tryz.f248.ntmps Tryz.f248.results.toList (bd Tryz.f248) (qke.enc x).1 (qke.enc x).2 (qk FS.dec qqC) := by kernel_rfl
theorem qGT : ∀ k, qh (call cf k) (qlM k)
 | 0 => fun x y e => absurd (show (none : Option _) = some y from e) (by simp)
 | k + 1 => qe (c := cf) (k := k) (f := 248) (fn := Tryz.f248) (body := bd Tryz.f248) (sh := qke) (os := qqC) rfl Tryz.func248 rfl ⟨rfl, Nat.le_of_ble_eq_true rfl⟩ (qd (qvd k)) (qGR k) (fun x => qdb (k + 1) x.1 x.2.1 x.2.2.1 x.2.2.2.1 x.2.2.2.2.1 x.2.2.2.2.2) (qGS k)

def qej (k : Nat) (rec : List Int → List Int → Int → Option (List Int × List Int × Int)) (a : List Int) (b : List Int) (bits : Int) : Option (List Int × List Int × Int) :=
 if ((0 : Int) ≤ (IntKind.wrap .i64 ((((List.length b) : Nat) : Int) - (1 : Int)))) then
 Option.bind (b)[(Int.toNat (IntKind.wrap .i64 ((((List.length b) : Nat) : Int) - (1 : Int))))]? fun x6 =>
 if (bits < (0 : Int)) then
 none
 else
 if (((Int.fdiv (IntKind.wrap .u32 (x6 * ((2 : Int) ^ (min (Int.toNat bits) 32)))) (2147483648 : Int)) == (0 : Int)) = true) then
 rec a b (IntKind.wrap .u64 (bits + (1 : Int)))
 else
 (some (a, b, bits))
 else
 none
def qcz (k n : Nat) : List Int → List Int → Int → Option (List Int × List Int × Int) := Nat.rec (fun _ _ _ => none) (fun _ r => qej k r) n
def qbo (k : Nat) (rec : Nat → Int → Int → Nat → Nat → Int → Int → Int → List Int → List Int → List Int → Option (Nat × Int × Int × Nat × Nat × Int × Int × List Int × List Int × List Int)) (q : Nat) (bits : Int) (n : Int) (u : Nat) (v : Nat) (j : Int) (d : Int) (rest : Int) (qs : List Int) (us : List Int) (vs : List Int) : Option (Nat × Int × Int × Nat × Nat × Int × Int × List Int × List Int × List Int) :=
 if ((decide (d > (4294967295 : Int))) = false) then
 if ((decide (rest ≤ (4294967295 : Int))) = true) then
 if (((0 : Int) ≤ (IntKind.wrap .i64 (n - (2 : Int)))) ∧ ((IntKind.wrap .i64 (n - (2 : Int))) < ((v : Nat) : Int))) then
 Option.bind (vs)[(0 + (Int.toNat (IntKind.wrap .i64 (n - (2 : Int)))))]? fun x10 =>
 if (((0 : Int) ≤ (IntKind.wrap .i64 ((IntKind.wrap .i64 (j + n)) - (2 : Int)))) ∧ ((IntKind.wrap .i64 ((IntKind.wrap .i64 (j + n)) - (2 : Int))) < ((u : Nat) : Int))) then
 Option.bind (us)[(0 + (Int.toNat (IntKind.wrap .i64 ((IntKind.wrap .i64 (j + n)) - (2 : Int)))))]? fun x11 =>
 if ((decide ((IntKind.wrap .u64 (d * (IntKind.wrap .u64 x10))) > (IntKind.wrap .u64 (((BitVec.toNat ((BitVec.ofInt 64 (IntKind.wrap .u64 (rest * (4294967296 : Int)))) ||| (BitVec.ofInt 64 (IntKind.wrap .u64 x11)))) : Nat) : Int)))) = true) then
 if (((0 : Int) ≤ (IntKind.wrap .i64 (n - (1 : Int)))) ∧ ((IntKind.wrap .i64 (n - (1 : Int))) < ((v : Nat) : Int))) then
 Option.bind (vs)[(0 + (Int.toNat (IntKind.wrap .i64 (n - (1 : Int)))))]? fun x12 =>
 if ((decide ((IntKind.wrap .u64 (rest + (IntKind.wrap .u64 x12))) > (4294967295 : Int))) = true) then
 (some (q, bits, n, u, v, j, (IntKind.wrap .u64 (d - (1 : Int))), qs, us, vs))
 else
 rec q bits n u v j (IntKind.wrap .u64 (d - (1 : Int))) (IntKind.wrap .u64 (rest + (IntKind.wrap .u64 x12))) qs us vs
 else
 none
 else
 (some (q, bits, n, u, v, j, d, qs, us, vs))
 else
 none
 else
 none
 else
 (some (q, bits, n, u, v, j, d, qs, us, vs))
 else
 if (((0 : Int) ≤ (IntKind.wrap .i64 (n - (1 : Int)))) ∧ ((IntKind.wrap .i64 (n - (1 : Int))) < ((v : Nat) : Int))) then
 Option.bind (vs)[(0 + (Int.toNat (IntKind.wrap .i64 (n - (1 : Int)))))]? fun x10 =>
 if ((decide ((IntKind.wrap .u64 (rest + (IntKind.wrap .u64 x10))) > (4294967295 : Int))) = true) then
 (some (q, bits, n, u, v, j, (IntKind.wrap .u64 (d - (1 : Int))), qs, us, vs))
 else
 rec q bits n u v j (IntKind.wrap .u64 (d - (1 : Int))) (IntKind.wrap .u64 (rest + (IntKind.wrap .u64 x10))) qs us vs
 else
 none
def qbv (k n : Nat) : Nat → Int → Int → Nat → Nat → Int → Int → Int → List Int → List Int → List Int → Option (Nat × Int × Int × Nat × Nat × Int × Int × List Int × List Int × List Int) := Nat.rec (fun _ _ _ _ _ _ _ _ _ _ _ => none) (fun _ r => qbo k r) n
def qek (k : Nat) (rec : Nat → Int → Int → Nat → Nat → Int → List Int → List Int → List Int → Option (Nat × Int × Int × Nat × List Int × List Int × List Int)) (q : Nat) (bits : Int) (n : Int) (u : Nat) (v : Nat) (j : Int) (qs : List Int) (us : List Int) (vs : List Int) : Option (Nat × Int × Int × Nat × List Int × List Int × List Int) :=
 if ((decide (j ≥ (0 : Int))) = true) then
 if (((0 : Int) ≤ (IntKind.wrap .i64 (j + n))) ∧ ((IntKind.wrap .i64 (j + n)) < ((u : Nat) : Int))) then
 Option.bind (us)[(0 + (Int.toNat (IntKind.wrap .i64 (j + n))))]? fun x6 =>
 if (((0 : Int) ≤ (IntKind.wrap .i64 ((IntKind.wrap .i64 (j + n)) - (1 : Int)))) ∧ ((IntKind.wrap .i64 ((IntKind.wrap .i64 (j + n)) - (1 : Int))) < ((u : Nat) : Int))) then
 Option.bind (us)[(0 + (Int.toNat (IntKind.wrap .i64 ((IntKind.wrap .i64 (j + n)) - (1 : Int)))))]? fun x7 =>
 if (((0 : Int) ≤ (IntKind.wrap .i64 (n - (1 : Int)))) ∧ ((IntKind.wrap .i64 (n - (1 : Int))) < ((v : Nat) : Int))) then
 Option.bind (vs)[(0 + (Int.toNat (IntKind.wrap .i64 (n - (1 : Int)))))]? fun x8 =>
 if ((IntKind.wrap .u64 x8) = (0 : Int)) then
 none
 else
 if (((0 : Int) ≤ (IntKind.wrap .i64 (n - (1 : Int)))) ∧ ((IntKind.wrap .i64 (n - (1 : Int))) < ((v : Nat) : Int))) then
 Option.bind (vs)[(0 + (Int.toNat (IntKind.wrap .i64 (n - (1 : Int)))))]? fun x9 =>
 if ((IntKind.wrap .u64 x9) = (0 : Int)) then
 none
 else
 Option.bind (qbv k k q bits n u v j (IntKind.wrap .u64 (Int.tdiv (IntKind.wrap .u64 (((BitVec.toNat ((BitVec.ofInt 64 (IntKind.wrap .u64 ((IntKind.wrap .u64 x6) * (4294967296 : Int)))) ||| (BitVec.ofInt 64 (IntKind.wrap .u64 x7)))) : Nat) : Int)) (IntKind.wrap .u64 x8))) (Int.tmod (IntKind.wrap .u64 (((BitVec.toNat ((BitVec.ofInt 64 (IntKind.wrap .u64 ((IntKind.wrap .u64 x6) * (4294967296 : Int)))) ||| (BitVec.ofInt 64 (IntKind.wrap .u64 x7)))) : Nat) : Int)) (IntKind.wrap .u64 x9)) qs us vs) fun r17 =>
 if (((0 : Int) ≤ r17.2.2.2.2.2.1) ∧ ((r17.2.2.2.2.2.1 ≤ (IntKind.wrap .i64 ((IntKind.wrap .i64 (r17.2.2.2.2.2.1 + r17.2.2.1)) + (1 : Int)))) ∧ (((0 + (Int.toNat (IntKind.wrap .i64 ((IntKind.wrap .i64 (r17.2.2.2.2.2.1 + r17.2.2.1)) + (1 : Int))))) ≤ (List.length r17.2.2.2.2.2.2.2.2.1)) ∧ ((r17.2.2.2.2.2.1 < (IntKind.wrap .i64 ((IntKind.wrap .i64 (r17.2.2.2.2.2.1 + r17.2.2.1)) + (1 : Int)))) ∨ (false = true))))) then
 Option.bind (qdb k (0 + (Int.toNat r17.2.2.2.2.2.1)) ((Int.toNat (IntKind.wrap .i64 ((IntKind.wrap .i64 (r17.2.2.2.2.2.1 + r17.2.2.1)) + (1 : Int)))) - (Int.toNat r17.2.2.2.2.2.1)) r17.2.2.2.2.1 r17.2.2.2.2.2.2.1 r17.2.2.2.2.2.2.2.2.1 r17.2.2.2.2.2.2.2.2.2) fun r18 =>
 if (((0 : Int) ≤ r17.2.2.2.2.2.1) ∧ (r17.2.2.2.2.2.1 < ((r17.1 : Nat) : Int))) then
 Option.bind (r17.2.2.2.2.2.2.2.1)[(0 + (Int.toNat r17.2.2.2.2.2.1))]? fun x10 =>
 rec r17.1 r17.2.1 r17.2.2.1 r17.2.2.2.1 r17.2.2.2.2.1 (IntKind.wrap .i64 (r17.2.2.2.2.2.1 - (1 : Int))) (List.set r17.2.2.2.2.2.2.2.1 (0 + (Int.toNat r17.2.2.2.2.2.1)) r18.1) r18.2.1 r18.2.2
 else
 none
 else
 none
 else
 none
 else
 none
 else
 none
 else
 none
 else
 (some (q, bits, n, u, qs, us, vs))
def qcV (k n : Nat) : Nat → Int → Int → Nat → Nat → Int → List Int → List Int → List Int → Option (Nat × Int × Int × Nat × List Int × List Int × List Int) := Nat.rec (fun _ _ _ _ _ _ _ _ _ => none) (fun _ r => qek k r) n
def qel (k : Nat) (rec : Nat → Nat → Int → Nat → Int → Int → List Int → List Int → List Int → Option (Nat × Nat × List Int × List Int × List Int)) (q : Nat) (r : Nat) (bits : Int) (u : Nat) (x : Int) (x1 : Int) (qs : List Int) (rs : List Int) (us : List Int) : Option (Nat × Nat × List Int × List Int × List Int) :=
 if ((decide (x1 < x)) = true) then
 if (((0 : Int) ≤ x1) ∧ (x1 < ((u : Nat) : Int))) then
 Option.bind (us)[(0 + (Int.toNat x1))]? fun x6 =>
 if (bits < (0 : Int)) then
 none
 else
 if (((0 : Int) ≤ (IntKind.wrap .i64 (x1 + (1 : Int)))) ∧ ((IntKind.wrap .i64 (x1 + (1 : Int))) < ((u : Nat) : Int))) then
 Option.bind (us)[(0 + (Int.toNat (IntKind.wrap .i64 (x1 + (1 : Int)))))]? fun x7 =>
 if ((IntKind.wrap .u64 ((32 : Int) - bits)) < (0 : Int)) then
 none
 else
 if (((0 : Int) ≤ x1) ∧ (x1 < ((r : Nat) : Int))) then
 Option.bind (rs)[(0 + (Int.toNat x1))]? fun x8 =>
 rec q r bits u x (IntKind.wrap .i64 (x1 + (1 : Int))) qs (List.set rs (0 + (Int.toNat x1)) (IntKind.wrap .u32 (((BitVec.toNat ((BitVec.ofInt 32 (Int.fdiv x6 ((2 : Int) ^ (min (Int.toNat bits) 32)))) ||| (BitVec.ofInt 32 (IntKind.wrap .u32 (IntKind.wrap .u64 ((IntKind.wrap .u64 x7) * ((2 : Int) ^ (min (Int.toNat (IntKind.wrap .u64 ((32 : Int) - bits))) 64)))))))) : Nat) : Int))) us
 else
 none
 else
 none
 else
 none
 else
 (some (q, r, qs, rs, us))
def qcA (k n : Nat) : Nat → Nat → Int → Nat → Int → Int → List Int → List Int → List Int → Option (Nat × Nat × List Int × List Int × List Int) := Nat.rec (fun _ _ _ _ _ _ _ _ _ => none) (fun _ r => qel k r) n
def qiF (k : Nat) (a : List Int) (b : List Int) : Option (List Int × List Int) :=
 Option.bind (qcz k k a b (0 : Int)) fun r14 =>
 Option.bind (qdG k r14.1 r14.2.2) fun r15 =>
 Option.bind (qdG k r14.2.1 r14.2.2) fun r16 =>
 if (((0 : Int) ≤ (0 : Int)) ∧ (((0 : Int) ≤ (((List.length r14.2.1) : Nat) : Int)) ∧ (((0 + (Int.toNat (((List.length r14.2.1) : Nat) : Int))) ≤ (List.length r16.2)) ∧ (((0 : Int) < (((List.length r14.2.1) : Nat) : Int)) ∨ (true = true))))) then
 if (((0 : Int) ≤ (IntKind.wrap .i64 (((r15.1 : Nat) : Int) - (((List.length r14.2.1) : Nat) : Int)))) ∧ (((IntKind.wrap .i64 (((r15.1 : Nat) : Int) - (((List.length r14.2.1) : Nat) : Int))) ≤ (IntKind.wrap .i64 (((r15.1 : Nat) : Int) - (((List.length r14.2.1) : Nat) : Int)))) ∧ (((IntKind.wrap .i64 (((r15.1 : Nat) : Int) - (((List.length r14.2.1) : Nat) : Int))) * (4 : Int)) ≤ (140737488355328 : Int)))) then
 Option.bind (qcV k k (Int.toNat (IntKind.wrap .i64 (((r15.1 : Nat) : Int) - (((List.length r14.2.1) : Nat) : Int)))) r14.2.2 (((List.length r14.2.1) : Nat) : Int) r15.1 (Int.toNat (((List.length r14.2.1) : Nat) : Int)) (IntKind.wrap .i64 ((IntKind.wrap .i64 (((r15.1 : Nat) : Int) - (((List.length r14.2.1) : Nat) : Int))) - (1 : Int))) (List.replicate (Int.toNat (IntKind.wrap .i64 (((r15.1 : Nat) : Int) - (((List.length r14.2.1) : Nat) : Int)))) (0 : Int)) r15.2 r16.2) fun r17 =>
 if (((0 : Int) ≤ r17.2.2.1) ∧ ((r17.2.2.1 ≤ r17.2.2.1) ∧ ((r17.2.2.1 * (4 : Int)) ≤ (140737488355328 : Int)))) then
 Option.bind (qcA k k r17.1 (Int.toNat r17.2.2.1) r17.2.1 r17.2.2.2.1 r17.2.2.1 (0 : Int) r17.2.2.2.2.1 (List.replicate (Int.toNat r17.2.2.1) (0 : Int)) r17.2.2.2.2.2.1) fun r18 =>
 if ((0 + r18.1) ≤ (List.length r18.2.2.1)) then
 if ((0 + r18.2.1) ≤ (List.length r18.2.2.2.1)) then
 (some ((List.take r18.1 r18.2.2.1), (List.take r18.2.1 r18.2.2.2.1)))
 else
 none
 else
 none
 else
 none
 else
 none
 else
 none
def qfo : Nat → List Int → List Int → Option (List Int × List Int)
 | 0, _, _ => none
 | k + 1, a, b => qiF k a b
def qkf : FS := { vs := [.a (.lf (.sl (.int .u32))), .a (.lf (.sl (.int .u32)))], bs := [] }
def qqD : List FS := [{ vs := [.a (.lf (.sl (.int .u32))), .a (.lf (.sl (.int .u32)))], bs := [] }]
def qx1 (k : Nat) : Inst := ⟨242, qkf, qqD, fun x => qfo k x.1 x.2⟩
theorem qmZ (k : Nat) : qp (call cf k) [qlL k, qlM k] := qA (qGQ k) (qA (qGT k) qT)
def qiG : List SS := [{ fr := [(0, .a (.lf (.sl (.int .u32)))), (1, .a (.lf (.sl (.int .u32)))), (6, .a (.lf (.int .u64)))], mem := [], nx := 0 }]
def qm0 : List OS := [⟨some 0, { fr := [(0, .a (.lf (.sl (.int .u32)))), (1, .a (.lf (.sl (.int .u32)))), (6, .a (.lf (.int .u64)))], mem := [], nx := 0 }⟩]
def qdw (k : Nat) : LInst := ⟨0, qiG, qm0, fun x => qcz k k x.1 x.2.1 x.2.2⟩
theorem qCn (k : Nat) : qg (LOk (R := DS OS.D qm0) (fun b _ σ K => LOt Ty (kps 242) 0 b σ K []) cf (call cf k) (kps 242) Tryz.f242.ntmps k 0) 0 (lb Tryz.f242 0) :=
 qA (qA qT (qA qT qT)) qT
theorem qCo (k n : Nat) (x : DS SS.D qiG) : qcz k (n + 1) x.1 x.2.1 x.2.2 = qu SS.enc (fun σ => qx cf (fun f a b K => COt f a b K [qlL k, qlM k]) (fun b _ σ K => LOt Ty (kps 242) 0 b σ K []) Tryz.f242.ntmps 0 (lb Tryz.f242 0) σ (qw Ty (kps 242 0) 0 qiG qm0 fun x => qcz k n x.1 x.2.1 x.2.2)) qiG x := by kernel_rfl
theorem qCp (k : Nat) : qL cf (call cf k) (kps 242) Tryz.f242.ntmps k 0 0 (lb Tryz.f242 0) (qdw k) :=
 qq (c := cf) (callF := call cf k) (kp := kps 242) (nt := Tryz.f242.ntmps) (k := k) (p := 0) (b := 0) (x0 := lb Tryz.f242 0) (hs := qiG) (os := qm0) (qd (qmZ k)) (qCn k) (fun n x => qcz k n x.1 x.2.1 x.2.2) (fun _ => rfl) (qCo k)
def qiH : List SS := [{ fr := [(4, .a (.smz 0)), (6, .a (.lf (.int .u64))), (7, .a (.lf (.int .i64))), (8, .a (.smz 1)), (9, .a (.smz 2)), (10, .a (.lf (.int .i64))), (12, .a (.lf (.int .u64))), (13, .a (.lf (.int .u64)))], mem := [(0, some (.arr (.int .u32) 1 106 false)), (1, some (.arr (.int .u32) 1 106 false)), (2, some (.arr (.int .u32) 1 106 false))], nx := 3 }]
def qm1 : List OS := [⟨some 4, { fr := [(4, .a (.smz 0)), (6, .a (.lf (.int .u64))), (7, .a (.lf (.int .i64))), (8, .a (.smz 1)), (9, .a (.smz 2)), (10, .a (.lf (.int .i64))), (12, .a (.lf (.int .u64)))], mem := [(0, some (.arr (.int .u32) 1 106 false)), (1, some (.arr (.int .u32) 1 106 false)), (2, some (.arr (.int .u32) 1 106 false))], nx := 3 }⟩]
def qem (k : Nat) : LInst := ⟨4, qiH, qm1, fun x => qbv k k x.1 x.2.1 x.2.2.1 x.2.2.2.1 x.2.2.2.2.1 x.2.2.2.2.2.1 x.2.2.2.2.2.2.1 x.2.2.2.2.2.2.2.1 x.2.2.2.2.2.2.2.2.1 x.2.2.2.2.2.2.2.2.2.1 x.2.2.2.2.2.2.2.2.2.2⟩
theorem qCq (k : Nat) : qg (LOk (R := DS OS.D qm1) (fun b _ σ K => LOt Ty (kps 242) 0 b σ K [qdw k]) cf (call cf k) (kps 242) Tryz.f242.ntmps k 0) 4 (lb Tryz.f242 2) :=
 qA (qA qT (qA qT qT)) (qA qT (qA qT (qA qT (qA qT qT))))
theorem qCr (k n : Nat) (x : DS SS.D qiH) : qbv k (n + 1) x.1 x.2.1 x.2.2.1 x.2.2.2.1 x.2.2.2.2.1 x.2.2.2.2.2.1 x.2.2.2.2.2.2.1 x.2.2.2.2.2.2.2.1 x.2.2.2.2.2.2.2.2.1 x.2.2.2.2.2.2.2.2.2.1 x.2.2.2.2.2.2.2.2.2.2 = qu SS.enc (fun σ => qx cf (fun f a b K => COt f a b K [qlL k, qlM k]) (fun b _ σ K => LOt Ty (kps 242) 0 b σ K [qdw k]) Tryz.f242.ntmps 4 (lb Tryz.f242 2) σ (qw Ty (kps 242 4) 0 qiH qm1 fun x => qbv k n x.1 x.2.1 x.2.2.1 x.2.2.2.1 x.2.2.2.2.1 x.2.2.2.2.2.1 x.2.2.2.2.2.2.1 x.2.2.2.2.2.2.2.1 x.2.2.2.2.2.2.2.2.1 x.2.2.2.2.2.2.2.2.2.1 x.2.2.2.2.2.2.2.2.2.2)) qiH x := by kernel_rfl
theorem qCs (k : Nat) : qL cf (call cf k) (kps 242) Tryz.f242.ntmps k 0 4 (lb Tryz.f242 2) (qem k) :=
 qq (c := cf) (callF := call cf k) (kp := kps 242) (nt := Tryz.f242.ntmps) (k := k) (p := 0) (b := 4) (x0 := lb Tryz.f242 2) (hs := qiH) (os := qm1) (qd (qmZ k)) (qCq k) (fun n x => qbv k n x.1 x.2.1 x.2.2.1 x.2.2.2.1 x.2.2.2.2.1 x.2.2.2.2.2.1 x.2.2.2.2.2.2.1 x.2.2.2.2.2.2.2.1 x.2.2.2.2.2.2.2.2.1 x.2.2.2.2.2.2.2.2.2.1 x.2.2.2.2.2.2.2.2.2.2) (fun _ => rfl) (qCr k)
def qiI : List SS := [{ fr := [(4, .a (.smz 0)), (6, .a (.lf (.int .u64))), (7, .a (.lf (.int .i64))), (8, .a (.smz 1)), (9, .a (.smz 2)), (10, .a (.lf (.int .i64)))], mem := [(0, some (.arr (.int .u32) 1 106 false)), (1, some (.arr (.int .u32) 1 106 false)), (2, some (.arr (.int .u32) 1 106 false))], nx := 3 }]
def qm2 : List OS := [⟨some 2, { fr := [(4, .a (.smz 0)), (6, .a (.lf (.int .u64))), (7, .a (.lf (.int .i64))), (8, .a (.smz 1))], mem := [(0, some (.arr (.int .u32) 1 106 false)), (1, some (.arr (.int .u32) 1 106 false)), (2, some (.arr (.int .u32) 1 106 false))], nx := 3 }⟩]
def qgd (k : Nat) : LInst := ⟨2, qiI, qm2, fun x => qcV k k x.1 x.2.1 x.2.2.1 x.2.2.2.1 x.2.2.2.2.1 x.2.2.2.2.2.1 x.2.2.2.2.2.2.1 x.2.2.2.2.2.2.2.1 x.2.2.2.2.2.2.2.2⟩
theorem qCt (k : Nat) : qg (LOk (R := DS OS.D qm2) (fun b _ σ K => LOt Ty (kps 242) 0 b σ K [qdw k, qem k]) cf (call cf k) (kps 242) Tryz.f242.ntmps k 0) 2 (lb Tryz.f242 1) :=
 qA (qA qT (qA qT qT)) (qA (qA qT (qA qT (qA (qt (c := cf) (callF := call cf k) (kp := kps 242) (nt := Tryz.f242.ntmps) (k := k) (p := 0) (b := 4) (x0 := lb Tryz.f242 2) (l := [qdw k, qem k]) (qA (fun h => absurd (show (0 : Nat) = 4 from h) (by decide)) (qA (fun _ => qCs k) qT))) qT))) qT)
theorem qCu (k n : Nat) (x : DS SS.D qiI) : qcV k (n + 1) x.1 x.2.1 x.2.2.1 x.2.2.2.1 x.2.2.2.2.1 x.2.2.2.2.2.1 x.2.2.2.2.2.2.1 x.2.2.2.2.2.2.2.1 x.2.2.2.2.2.2.2.2 = qu SS.enc (fun σ => qx cf (fun f a b K => COt f a b K [qlL k, qlM k]) (fun b _ σ K => LOt Ty (kps 242) 0 b σ K [qdw k, qem k]) Tryz.f242.ntmps 2 (lb Tryz.f242 1) σ (qw Ty (kps 242 2) 0 qiI qm2 fun x => qcV k n x.1 x.2.1 x.2.2.1 x.2.2.2.1 x.2.2.2.2.1 x.2.2.2.2.2.1 x.2.2.2.2.2.2.1 x.2.2.2.2.2.2.2.1 x.2.2.2.2.2.2.2.2)) qiI x := by kernel_rfl
theorem qCv (k : Nat) : qL cf (call cf k) (kps 242) Tryz.f242.ntmps k 0 2 (lb Tryz.f242 1) (qgd k) :=
 qq (c := cf) (callF := call cf k) (kp := kps 242) (nt := Tryz.f242.ntmps) (k := k) (p := 0) (b := 2) (x0 := lb Tryz.f242 1) (hs := qiI) (os := qm2) (qd (qmZ k)) (qCt k) (fun n x => qcV k n x.1 x.2.1 x.2.2.1 x.2.2.2.1 x.2.2.2.2.1 x.2.2.2.2.2.1 x.2.2.2.2.2.2.1 x.2.2.2.2.2.2.2.1 x.2.2.2.2.2.2.2.2) (fun _ => rfl) (qCu k)
def qiJ : List SS := [{ fr := [(4, .a (.smz 0)), (5, .a (.smz 1)), (6, .a (.lf (.int .u64))), (8, .a (.smz 2)), (139, .a (.lf (.int .i64))), (140, .a (.lf (.int .i64)))], mem := [(0, some (.arr (.int .u32) 1 106 false)), (1, some (.arr (.int .u32) 1 106 false)), (2, some (.arr (.int .u32) 1 106 false))], nx := 3 }]
def qm3 : List OS := [⟨some 6, { fr := [(4, .a (.smz 0)), (5, .a (.smz 1))], mem := [(0, some (.arr (.int .u32) 1 106 false)), (1, some (.arr (.int .u32) 1 106 false)), (2, some (.arr (.int .u32) 1 106 false))], nx := 3 }⟩]
def qhk (k : Nat) : LInst := ⟨6, qiJ, qm3, fun x => qcA k k x.1 x.2.1 x.2.2.1 x.2.2.2.1 x.2.2.2.2.1 x.2.2.2.2.2.1 x.2.2.2.2.2.2.1 x.2.2.2.2.2.2.2.1 x.2.2.2.2.2.2.2.2⟩
theorem qCw (k : Nat) : qg (LOk (R := DS OS.D qm3) (fun b _ σ K => LOt Ty (kps 242) 0 b σ K [qdw k, qem k, qgd k]) cf (call cf k) (kps 242) Tryz.f242.ntmps k 0) 6 (lb Tryz.f242 3) :=
 qA qT (qA (qA qT qT) (qA (qA qT qT) qT))
theorem qCx (k n : Nat) (x : DS SS.D qiJ) : qcA k (n + 1) x.1 x.2.1 x.2.2.1 x.2.2.2.1 x.2.2.2.2.1 x.2.2.2.2.2.1 x.2.2.2.2.2.2.1 x.2.2.2.2.2.2.2.1 x.2.2.2.2.2.2.2.2 = qu SS.enc (fun σ => qx cf (fun f a b K => COt f a b K [qlL k, qlM k]) (fun b _ σ K => LOt Ty (kps 242) 0 b σ K [qdw k, qem k, qgd k]) Tryz.f242.ntmps 6 (lb Tryz.f242 3) σ (qw Ty (kps 242 6) 0 qiJ qm3 fun x => qcA k n x.1 x.2.1 x.2.2.1 x.2.2.2.1 x.2.2.2.2.1 x.2.2.2.2.2.1 x.2.2.2.2.2.2.1 x.2.2.2.2.2.2.2.1 x.2.2.2.2.2.2.2.2)) qiJ x := by kernel_rfl
theorem qCy (k : Nat) : qL cf (call cf k) (kps 242) Tryz.f242.ntmps k 0 6 (lb Tryz.f242 3) (qhk k) :=
 qq (c := cf) (callF := call cf k) (kp := kps 242) (nt := Tryz.f242.ntmps) (k := k) (p := 0) (b := 6) (x0 := lb Tryz.f242 3) (hs := qiJ) (os := qm3) (qd (qmZ k)) (qCw k) (fun n x => qcA k n x.1 x.2.1 x.2.2.1 x.2.2.2.1 x.2.2.2.2.1 x.2.2.2.2.2.1 x.2.2.2.2.2.2.1 x.2.2.2.2.2.2.2.1 x.2.2.2.2.2.2.2.2) (fun _ => rfl) (qCx k)
theorem qGU (k : Nat) : qg (LOk (R := DS FS.D qqD) (fun b _ σ K => LOt Ty (kps 242) 0 b σ K [qdw k, qem k, qgd k, qhk k]) cf (call cf k) (cf.keep 242) Tryz.f242.ntmps k qkf.bs.length) 0 (bd Tryz.f242) :=
 qA qT (qA qT (qA (qt (c := cf) (callF := call cf k) (kp := kps 242) (nt := Tryz.f242.ntmps) (k := k) (p := 0) (b := 0) (x0 := lb Tryz.f242 0) (l := [qdw k, qem k, qgd k, qhk k]) (qA (fun _ => qCp k) (qA (fun h => absurd (show (4 : Nat) = 0 from h) (by decide)) (qA (fun h => absurd (show (2 : Nat) = 0 from h) (by decide)) (qA (fun h => absurd (show (6 : Nat) = 0 from h) (by decide)) qT))))) (qA qT (qA qT (qA qT (qA (qA qT (qt (c := cf) (callF := call cf k) (kp := kps 242) (nt := Tryz.f242.ntmps) (k := k) (p := 0) (b := 2) (x0 := lb Tryz.f242 1) (l := [qdw k, qem k, qgd k, qhk k]) (qA (fun h => absurd (show (0 : Nat) = 2 from h) (by decide)) (qA (fun h => absurd (show (4 : Nat) = 2 from h) (by decide)) (qA (fun _ => qCv k) (qA (fun h => absurd (show (6 : Nat) = 2 from h) (by decide)) qT)))))) (qA qT (qA (qA qT (qt (c := cf) (callF := call cf k) (kp := kps 242) (nt := Tryz.f242.ntmps) (k := k) (p := 0) (b := 6) (x0 := lb Tryz.f242 3) (l := [qdw k, qem k, qgd k, qhk k]) (qA (fun h => absurd (show (0 : Nat) = 6 from h) (by decide)) (qA (fun h => absurd (show (4 : Nat) = 6 from h) (by decide)) (qA (fun h => absurd (show (2 : Nat) = 6 from h) (by decide)) (qA (fun _ => qCy k) qT)))))) (qA qT qT)))))))))
theorem qGV (k : Nat) (x : qkf.D) : qfo (k + 1) x.1 x.2 = qi cf (fun f a b K => COt f a b K [qlL k, qlM k]) (fun b _ σ K => LOt Ty (kps 242) 0 b σ K [qdw k, qem k, qgd k, qhk k]) 242 Tryz.f242.ntmps Tryz.f242.results.toList (bd Tryz.f242) (qkf.enc x).1 (qkf.enc x).2 (qk FS.dec qqD) := by kernel_rfl
theorem qGW : ∀ k, qh (call cf k) (qx1 k)
 | 0 => fun x y e => absurd (show (none : Option _) = some y from e) (by simp)
 | k + 1 => qe (c := cf) (k := k) (f := 242) (fn := Tryz.f242) (body := bd Tryz.f242) (sh := qkf) (os := qqD) rfl Tryz.func242 rfl ⟨rfl, Nat.le_of_ble_eq_true rfl⟩ (qd (qmZ k)) (qGU k) (fun x => qfo (k + 1) x.1 x.2) (qGV k)

def qdl (k : Nat) (a : List Int) (b : List Int) : Option (List Int × List Int) :=
 Option.bind (qdF k a b) fun r13 =>
 if ((decide (r13 < (0 : Int))) = true) then
 (some ([], a))
 else
 if (((((List.length b) : Nat) : Int) == (1 : Int)) = true) then
 Option.bind (b)[0]? fun x6 =>
 Option.bind (qfI k a x6) fun r14 =>
 (some (r14.1, (List.take 1 (r14.2 :: []))))
 else
 Option.bind (qfo k a b) fun r14 =>
 (some (r14.1, r14.2))
def qbw : Nat → List Int → List Int → Option (List Int × List Int)
 | 0, _, _ => none
 | k + 1, a, b => qdl k a b
def qkg : FS := { vs := [.a (.lf (.sl (.int .u32))), .a (.lf (.sl (.int .u32)))], bs := [] }
def qqE : List FS := [{ vs := [.a (.lf (.sl (.int .u32))), .a (.lf (.sl (.int .u32)))], bs := [] }]
def qgG (k : Nat) : Inst := ⟨231, qkg, qqE, fun x => qbw k x.1 x.2⟩
theorem qGX (k : Nat) : qp (call cf k) [qhW k, qx0 k, qx1 k] := qA (qqz k) (qA (qGN k) (qA (qGW k) qT))
theorem qGY (k : Nat) : qg (LOk (R := DS FS.D qqE) (fun b _ σ K => LOt Ty (kps 231) 0 b σ K []) cf (call cf k) (cf.keep 231) Tryz.f231.ntmps k qkg.bs.length) 0 (bd Tryz.f231) :=
 qA qT (qA (qA qT (qA (qA qT qT) (qA qT (qA (qA qT (qA qT qT)) qT)))) (qA qT qT))
theorem qGZ (k : Nat) (x : qkg.D) : qbw (k + 1) x.1 x.2 = qi cf (fun f a b K => COt f a b K [qhW k, qx0 k, qx1 k]) (fun b _ σ K => LOt Ty (kps 231) 0 b σ K []) 231 Tryz.f231.ntmps Tryz.f231.results.toList (bd Tryz.f231) (qkg.enc x).1 (qkg.enc x).2 (qk FS.dec qqE) := by kernel_rfl
theorem qqF : ∀ k, qh (call cf k) (qgG k)
 | 0 => fun x y e => absurd (show (none : Option _) = some y from e) (by simp)
 | k + 1 => qe (c := cf) (k := k) (f := 231) (fn := Tryz.f231) (body := bd Tryz.f231) (sh := qkg) (os := qqE) rfl Tryz.func231 rfl ⟨rfl, Nat.le_of_ble_eq_true rfl⟩ (qd (qGX k)) (qGY k) (fun x => qbw (k + 1) x.1 x.2) (qGZ k)

def qdh (k : Nat) (rec : List Int → List Int → Bool → List Int → Bool → List Int → Option (List Int × Bool × List Int × Bool × List Int)) (a : List Int) (b : List Int) (m0 : Bool) (m1 : List Int) (m01 : Bool) (m11 : List Int) : Option (List Int × Bool × List Int × Bool × List Int) :=
 if ((decide ((((List.length b) : Nat) : Int) > (0 : Int))) = true) then
 Option.bind (qbw k a b) fun r13 =>
 if (((0 + (List.length r13.2)) * 4) ≤ 140737488355328) then
 if ((0 + (0 + (List.length r13.2))) ≤ (List.length ((List.take 0 []) ++ r13.2))) then
 Option.bind (qbV k (List.take (0 + (List.length r13.2)) ((List.take 0 []) ++ r13.2))) fun r14 =>
 rec b r14 m0 m1 m01 m11
 else
 none
 else
 none
 else
 (some (a, m0, m1, m01, m11))
def qbW (k n : Nat) : List Int → List Int → Bool → List Int → Bool → List Int → Option (List Int × Bool × List Int × Bool × List Int) := Nat.rec (fun _ _ _ _ _ _ => none) (fun _ r => qdh k r) n
def qgH (k : Nat) (x0 : Bool) (x1 : List Int) (y0 : Bool) (y1 : List Int) : Option (Bool × List Int × Bool × List Int × Bool × List Int) :=
 Option.bind (qbW k k x1 y1 x0 x1 y0 y1) fun r13 =>
 Option.bind (qG k false r13.1 false) fun r14 =>
 (some (r13.2.1, r13.2.2.1, r13.2.2.2.1, r13.2.2.2.2, r14.1, r14.2))
def qdx : Nat → Bool → List Int → Bool → List Int → Option (Bool × List Int × Bool × List Int × Bool × List Int)
 | 0, _, _, _, _ => none
 | k + 1, x0, x1, y0, y1 => qgH k x0 x1 y0 y1
def qpe : FS := { vs := [.a (.ptr 0 0 0), .a (.ptr 1 0 0)], bs := [.raw [[.lf .bool, .lf (.sl (.int .u32))]] 2 147 true false false, .raw [[.lf .bool, .lf (.sl (.int .u32))]] 2 147 true false false] }
def qve : List FS := [{ vs := [.a (.ptr 2 0 0)], bs := [.raw [[.lf .bool, .lf (.sl (.int .u32))]] 2 147 true false false, .raw [[.lf .bool, .lf (.sl (.int .u32))]] 2 147 true false false, .raw [[.lf .bool, .lf (.sl (.int .u32))]] 2 147 true false false] }]
def Iq2 (k : Nat) : Inst := ⟨203, qpe, qve, fun x => qdx k x.1 x.2.1 x.2.2.1 x.2.2.2⟩
theorem qCz (k : Nat) : qp (call cf k) [qgG k, qe9 k, qeh k] := qA (qqF k) (qA (qjV k) (qA (qjX k) qT))
def qiK : List SS := [{ fr := [(5, .a (.lf (.sl (.int .u32)))), (6, .a (.lf (.sl (.int .u32))))], mem := [(0, some (.raw [[.lf .bool, .lf (.sl (.int .u32))]] 2 147 true false false)), (1, some (.raw [[.lf .bool, .lf (.sl (.int .u32))]] 2 147 true false false))], nx := 2 }]
def qm4 : List OS := [⟨some 0, { fr := [(5, .a (.lf (.sl (.int .u32))))], mem := [(0, some (.raw [[.lf .bool, .lf (.sl (.int .u32))]] 2 147 true false false)), (1, some (.raw [[.lf .bool, .lf (.sl (.int .u32))]] 2 147 true false false))], nx := 2 }⟩]
def qm5 (k : Nat) : LInst := ⟨0, qiK, qm4, fun x => qbW k k x.1 x.2.1 x.2.2.1 x.2.2.2.1 x.2.2.2.2.1 x.2.2.2.2.2⟩
theorem qCA (k : Nat) : qg (LOk (R := DS OS.D qm4) (fun b _ σ K => LOt Ty (kps 203) 2 b σ K []) cf (call cf k) (kps 203) Tryz.f203.ntmps k 2) 0 (lb Tryz.f203 0) :=
 qA (qA qT (qA qT qT)) (qA qT qT)
theorem qCB (k n : Nat) (x : DS SS.D qiK) : qbW k (n + 1) x.1 x.2.1 x.2.2.1 x.2.2.2.1 x.2.2.2.2.1 x.2.2.2.2.2 = qu SS.enc (fun σ => qx cf (fun f a b K => COt f a b K [qgG k, qe9 k, qeh k]) (fun b _ σ K => LOt Ty (kps 203) 2 b σ K []) Tryz.f203.ntmps 0 (lb Tryz.f203 0) σ (qw Ty (kps 203 0) 2 qiK qm4 fun x => qbW k n x.1 x.2.1 x.2.2.1 x.2.2.2.1 x.2.2.2.2.1 x.2.2.2.2.2)) qiK x := by kernel_rfl
theorem qCC (k : Nat) : qL cf (call cf k) (kps 203) Tryz.f203.ntmps k 2 0 (lb Tryz.f203 0) (qm5 k) :=
 qq (c := cf) (callF := call cf k) (kp := kps 203) (nt := Tryz.f203.ntmps) (k := k) (p := 2) (b := 0) (x0 := lb Tryz.f203 0) (hs := qiK) (os := qm4) (qd (qCz k)) (qCA k) (fun n x => qbW k n x.1 x.2.1 x.2.2.1 x.2.2.2.1 x.2.2.2.2.1 x.2.2.2.2.2) (fun _ => rfl) (qCB k)
theorem qKN (k : Nat) : qg (LOk (R := DS FS.D qve) (fun b _ σ K => LOt Ty (kps 203) 2 b σ K [qm5 k]) cf (call cf k) (cf.keep 203) Tryz.f203.ntmps k qpe.bs.length) 0 (bd Tryz.f203) :=
 qA qT (qA qT (qA (qt (c := cf) (callF := call cf k) (kp := kps 203) (nt := Tryz.f203.ntmps) (k := k) (p := 2) (b := 0) (x0 := lb Tryz.f203 0) (l := [qm5 k]) (qA (fun _ => qCC k) qT)) (qA qT qT)))
theorem qKO (k : Nat) (x : qpe.D) : qdx (k + 1) x.1 x.2.1 x.2.2.1 x.2.2.2 = qi cf (fun f a b K => COt f a b K [qgG k, qe9 k, qeh k]) (fun b _ σ K => LOt Ty (kps 203) 2 b σ K [qm5 k]) 203 Tryz.f203.ntmps Tryz.f203.results.toList (bd Tryz.f203) (qpe.enc x).1 (qpe.enc x).2 (qk FS.dec qve) := by kernel_rfl
theorem qKP : ∀ k, qh (call cf k) (Iq2 k)
 | 0 => fun x y e => absurd (show (none : Option _) = some y from e) (by simp)
 | k + 1 => qe (c := cf) (k := k) (f := 203) (fn := Tryz.f203) (body := bd Tryz.f203) (sh := qpe) (os := qve) rfl Tryz.func203 rfl ⟨rfl, Nat.le_of_ble_eq_true rfl⟩ (qd (qCz k)) (qKN k) (fun x => qdx (k + 1) x.1 x.2.1 x.2.2.1 x.2.2.2) (qKO k)

def qd4 (k : Nat) (z : Bool) (x0 : Bool) (x1 : List Int) (y0 : Bool) (y1 : List Int) (r : Bool) : Option (Bool × List Int × Bool × List Int × Bool × List Int × Bool × List Int) :=
 Option.bind (qbw k x1 y1) fun r14 =>
 Option.bind (qG k x0 r14.2 r) fun r15 =>
 Option.bind (qG k (!(x0 == y0)) r14.1 z) fun r16 =>
 (some (r16.1, r16.2, x0, x1, y0, y1, r15.1, r15.2))
def qbG : Nat → Bool → Bool → List Int → Bool → List Int → Bool → Option (Bool × List Int × Bool × List Int × Bool × List Int × Bool × List Int)
 | 0, _, _, _, _, _, _ => none
 | k + 1, z, x0, x1, y0, y1, r => qd4 k z x0 x1 y0 y1 r
def qkh : FS := { vs := [.a (.ptr 0 0 0), .a (.ptr 1 0 0), .a (.ptr 2 0 0), .a (.ptr 3 0 0)], bs := [.raw [[.lf .bool, .snil 1 106]] 2 147 true false false, .raw [[.lf .bool, .lf (.sl (.int .u32))]] 2 147 true false false, .raw [[.lf .bool, .lf (.sl (.int .u32))]] 2 147 true false false, .raw [[.lf .bool, .snil 1 106]] 2 147 true false false] }
def qqG : List FS := [{ vs := [.a (.ptr 0 0 0), .a (.ptr 3 0 0)], bs := [.raw [[.lf .bool, .lf (.sl (.int .u32))]] 2 147 true false false, .raw [[.lf .bool, .lf (.sl (.int .u32))]] 2 147 true false false, .raw [[.lf .bool, .lf (.sl (.int .u32))]] 2 147 true false false, .raw [[.lf .bool, .lf (.sl (.int .u32))]] 2 147 true false false] }]
def qx2 (k : Nat) : Inst := ⟨232, qkh, qqG, fun x => qbG k x.1 x.2.1 x.2.2.1 x.2.2.2.1 x.2.2.2.2.1 x.2.2.2.2.2⟩
theorem qG0 (k : Nat) : qp (call cf k) [qgG k, qeh k] := qA (qqF k) (qA (qjX k) qT)
theorem qG1 (k : Nat) : qg (LOk (R := DS FS.D qqG) (fun b _ σ K => LOt Ty (kps 232) 4 b σ K []) cf (call cf k) (cf.keep 232) Tryz.f232.ntmps k qkh.bs.length) 0 (bd Tryz.f232) :=
 qA qT (qA qT (qA qT (qA qT (qA qT qT))))
theorem qG2 (k : Nat) (x : qkh.D) : qbG (k + 1) x.1 x.2.1 x.2.2.1 x.2.2.2.1 x.2.2.2.2.1 x.2.2.2.2.2 = qi cf (fun f a b K => COt f a b K [qgG k, qeh k]) (fun b _ σ K => LOt Ty (kps 232) 4 b σ K []) 232 Tryz.f232.ntmps Tryz.f232.results.toList (bd Tryz.f232) (qkh.enc x).1 (qkh.enc x).2 (qk FS.dec qqG) := by kernel_rfl
theorem qG3 : ∀ k, qh (call cf k) (qx2 k)
 | 0 => fun x y e => absurd (show (none : Option _) = some y from e) (by simp)
 | k + 1 => qe (c := cf) (k := k) (f := 232) (fn := Tryz.f232) (body := bd Tryz.f232) (sh := qkh) (os := qqG) rfl Tryz.func232 rfl ⟨rfl, Nat.le_of_ble_eq_true rfl⟩ (qd (qG0 k)) (qG1 k) (fun x => qbG (k + 1) x.1 x.2.1 x.2.2.1 x.2.2.2.1 x.2.2.2.2.1 x.2.2.2.2.2) (qG2 k)

def qlN (k : Nat) (z : Bool) (x0 : Bool) (x1 : List Int) (y0 : Bool) (y1 : List Int) : Option (Bool × List Int × Bool × List Int × Bool × List Int) :=
 Option.bind (qbG k z x0 x1 y0 y1 false) fun r14 =>
 (some (r14.1, r14.2.1, r14.2.2.1, r14.2.2.2.1, r14.2.2.2.2.1, r14.2.2.2.2.2.1))
def qaB : Nat → Bool → Bool → List Int → Bool → List Int → Option (Bool × List Int × Bool × List Int × Bool × List Int)
 | 0, _, _, _, _, _ => none
 | k + 1, z, x0, x1, y0, y1 => qlN k z x0 x1 y0 y1
def qki : FS := { vs := [.a (.ptr 0 0 0), .a (.ptr 1 0 0), .a (.ptr 2 0 0)], bs := [.raw [[.lf .bool, .snil 1 106]] 2 147 true false false, .raw [[.lf .bool, .lf (.sl (.int .u32))]] 2 147 true false false, .raw [[.lf .bool, .lf (.sl (.int .u32))]] 2 147 true false false] }
def qqH : List FS := [{ vs := [.a (.ptr 0 0 0)], bs := [.raw [[.lf .bool, .lf (.sl (.int .u32))]] 2 147 true false false, .raw [[.lf .bool, .lf (.sl (.int .u32))]] 2 147 true false false, .raw [[.lf .bool, .lf (.sl (.int .u32))]] 2 147 true false false] }]
def qsS (k : Nat) : Inst := ⟨204, qki, qqH, fun x => qaB k x.1 x.2.1 x.2.2.1 x.2.2.2.1 x.2.2.2.2⟩
theorem qG4 (k : Nat) : qp (call cf k) [qx2 k] := qA (qG3 k) qT
theorem qG5 (k : Nat) : qg (LOk (R := DS FS.D qqH) (fun b _ σ K => LOt Ty (kps 204) 3 b σ K []) cf (call cf k) (cf.keep 204) Tryz.f204.ntmps k qki.bs.length) 0 (bd Tryz.f204) :=
 qA qT (qA qT (qA qT qT))
theorem qG6 (k : Nat) (x : qki.D) : qaB (k + 1) x.1 x.2.1 x.2.2.1 x.2.2.2.1 x.2.2.2.2 = qi cf (fun f a b K => COt f a b K [qx2 k]) (fun b _ σ K => LOt Ty (kps 204) 3 b σ K []) 204 Tryz.f204.ntmps Tryz.f204.results.toList (bd Tryz.f204) (qki.enc x).1 (qki.enc x).2 (qk FS.dec qqH) := by kernel_rfl
theorem qzk : ∀ k, qh (call cf k) (qsS k)
 | 0 => fun x y e => absurd (show (none : Option _) = some y from e) (by simp)
 | k + 1 => qe (c := cf) (k := k) (f := 204) (fn := Tryz.f204) (body := bd Tryz.f204) (sh := qki) (os := qqH) rfl Tryz.func204 rfl ⟨rfl, Nat.le_of_ble_eq_true rfl⟩ (qd (qG4 k)) (qG5 k) (fun x => qaB (k + 1) x.1 x.2.1 x.2.2.1 x.2.2.2.1 x.2.2.2.2) (qG6 k)

def qcN (k : Nat) (z0 : Bool) (z1 : Bool) (n0 : Bool) (n1 : List Int) (d0 : Bool) (d1 : List Int) : Option (Bool × List Int × Bool × List Int × Bool × List Int × Bool × List Int) :=
 Option.bind (qdx k n0 n1 d0 d1) fun r13 =>
 if (r13.2.2.1 = true) then
 Option.bind (qaB k false r13.1 r13.2.1 true r13.2.2.2.2.2) fun r14 =>
 Option.bind (qaB k false r13.2.2.1 r13.2.2.2.1 r14.2.2.2.2.1 r14.2.2.2.2.2) fun r15 =>
 (some (r14.1, r14.2.1, r15.1, r15.2.1, r14.2.2.1, r14.2.2.2.1, r15.2.2.1, r15.2.2.2.1))
 else
 Option.bind (qaB k false r13.1 r13.2.1 r13.2.2.2.2.1 r13.2.2.2.2.2) fun r14 =>
 Option.bind (qaB k false r13.2.2.1 r13.2.2.2.1 r14.2.2.2.2.1 r14.2.2.2.2.2) fun r15 =>
 (some (r14.1, r14.2.1, r15.1, r15.2.1, r14.2.2.1, r14.2.2.2.1, r15.2.2.1, r15.2.2.2.1))
def qbB : Nat → Bool → Bool → Bool → List Int → Bool → List Int → Option (Bool × List Int × Bool × List Int × Bool × List Int × Bool × List Int)
 | 0, _, _, _, _, _, _ => none
 | k + 1, z0, z1, n0, n1, d0, d1 => qcN k z0 z1 n0 n1 d0 d1
def qkj : FS := { vs := [.a (.ptr 0 0 0), .a (.ptr 1 0 0), .a (.ptr 2 0 0)], bs := [.raw [[.lf .bool, .snil 1 106, .lf .bool, .snil 1 106]] 4 180 true false false, .raw [[.lf .bool, .lf (.sl (.int .u32))]] 2 147 true false false, .raw [[.lf .bool, .lf (.sl (.int .u32))]] 2 147 true false false] }
def qqI : List FS := [{ vs := [.a (.ptr 0 0 0)], bs := [.raw [[.lf .bool, .lf (.sl (.int .u32)), .lf .bool, .lf (.sl (.int .u32))]] 4 180 true false false, .raw [[.lf .bool, .lf (.sl (.int .u32))]] 2 147 true false false, .raw [[.lf .bool, .lf (.sl (.int .u32))]] 2 147 true false false] }]
def qx3 (k : Nat) : Inst := ⟨144, qkj, qqI, fun x => qbB k x.1 x.2.1 x.2.2.1 x.2.2.2.1 x.2.2.2.2.1 x.2.2.2.2.2⟩
theorem qG7 (k : Nat) : qp (call cf k) [Iq2 k, qsS k] := qA (qKP k) (qA (qzk k) qT)
theorem qG8 (k : Nat) : qg (LOk (R := DS FS.D qqI) (fun b _ σ K => LOt Ty (kps 144) 3 b σ K []) cf (call cf k) (cf.keep 144) Tryz.f144.ntmps k qkj.bs.length) 0 (bd Tryz.f144) :=
 qA qT (qA qT (qA (qA qT (qA qT qT)) (qA qT (qA qT (qA qT (qA qT (qA qT qT)))))))
theorem qG9 (k : Nat) (x : qkj.D) : qbB (k + 1) x.1 x.2.1 x.2.2.1 x.2.2.2.1 x.2.2.2.2.1 x.2.2.2.2.2 = qi cf (fun f a b K => COt f a b K [Iq2 k, qsS k]) (fun b _ σ K => LOt Ty (kps 144) 3 b σ K []) 144 Tryz.f144.ntmps Tryz.f144.results.toList (bd Tryz.f144) (qkj.enc x).1 (qkj.enc x).2 (qk FS.dec qqI) := by kernel_rfl
theorem qHa : ∀ k, qh (call cf k) (qx3 k)
 | 0 => fun x y e => absurd (show (none : Option _) = some y from e) (by simp)
 | k + 1 => qe (c := cf) (k := k) (f := 144) (fn := Tryz.f144) (body := bd Tryz.f144) (sh := qkj) (os := qqI) rfl Tryz.func144 rfl ⟨rfl, Nat.le_of_ble_eq_true rfl⟩ (qd (qG7 k)) (qG8 k) (fun x => qbB (k + 1) x.1 x.2.1 x.2.2.1 x.2.2.2.1 x.2.2.2.2.1 x.2.2.2.2.2) (qG9 k)

def qpW (k : Nat) (n0 : Bool) (n1 : List Int) (d0 : Bool) (d1 : List Int) : Option (Bool × List Int × Bool × List Int × Bool × List Int × Bool × List Int) :=
 Option.bind (qbB k false false n0 n1 d0 d1) fun r13 =>
 (some (r13.2.2.2.2.1, r13.2.2.2.2.2.1, r13.2.2.2.2.2.2.1, r13.2.2.2.2.2.2.2, r13.1, r13.2.1, r13.2.2.1, r13.2.2.2.1))
def qcc : Nat → Bool → List Int → Bool → List Int → Option (Bool × List Int × Bool × List Int × Bool × List Int × Bool × List Int)
 | 0, _, _, _, _ => none
 | k + 1, n0, n1, d0, d1 => qpW k n0 n1 d0 d1
def qpf : FS := { vs := [.a (.ptr 0 0 0), .a (.ptr 1 0 0)], bs := [.raw [[.lf .bool, .lf (.sl (.int .u32))]] 2 147 true false false, .raw [[.lf .bool, .lf (.sl (.int .u32))]] 2 147 true false false] }
def qvf : List FS := [{ vs := [.a (.ptr 2 0 0)], bs := [.raw [[.lf .bool, .lf (.sl (.int .u32))]] 2 147 true false false, .raw [[.lf .bool, .lf (.sl (.int .u32))]] 2 147 true false false, .raw [[.lf .bool, .lf (.sl (.int .u32)), .lf .bool, .lf (.sl (.int .u32))]] 4 180 true false false] }]
def Iq0 (k : Nat) : Inst := ⟨89, qpf, qvf, fun x => qcc k x.1 x.2.1 x.2.2.1 x.2.2.2⟩
theorem qKQ (k : Nat) : qp (call cf k) [qx3 k] := qA (qHa k) qT
theorem qKR (k : Nat) : qg (LOk (R := DS FS.D qvf) (fun b _ σ K => LOt Ty (kps 89) 2 b σ K []) cf (call cf k) (cf.keep 89) Tryz.f89.ntmps k qpf.bs.length) 0 (bd Tryz.f89) :=
 qA qT (qA qT qT)
theorem qKS (k : Nat) (x : qpf.D) : qcc (k + 1) x.1 x.2.1 x.2.2.1 x.2.2.2 = qi cf (fun f a b K => COt f a b K [qx3 k]) (fun b _ σ K => LOt Ty (kps 89) 2 b σ K []) 89 Tryz.f89.ntmps Tryz.f89.results.toList (bd Tryz.f89) (qpf.enc x).1 (qpf.enc x).2 (qk FS.dec qvf) := by kernel_rfl
theorem qCD : ∀ k, qh (call cf k) (Iq0 k)
 | 0 => fun x y e => absurd (show (none : Option _) = some y from e) (by simp)
 | k + 1 => qe (c := cf) (k := k) (f := 89) (fn := Tryz.f89) (body := bd Tryz.f89) (sh := qpf) (os := qvf) rfl Tryz.func89 rfl ⟨rfl, Nat.le_of_ble_eq_true rfl⟩ (qd (qKQ k)) (qKR k) (fun x => qcc (k + 1) x.1 x.2.1 x.2.2.1 x.2.2.2) (qKS k)

def qwE (k : Nat) (n0 : Int) (n1 : Int) : Option (Bool × List Int × Bool × List Int) :=
 Option.bind (qhV k (max n1 (IntKind.wrap .i64 ((0 : Int) - n1)))) fun r11 =>
 if ((decide (n1 < (0 : Int))) = true) then
 Option.bind (qaq k n0) fun r12 =>
 Option.bind (qcc k r12.1 r12.2 r11.1 r11.2) fun r13 =>
 (some (r13.2.2.2.2.1, r13.2.2.2.2.2.1, r13.2.2.2.2.2.2.1, r13.2.2.2.2.2.2.2))
 else
 Option.bind (qaq k n0) fun r12 =>
 Option.bind (qc1 k r11.1 r11.2 r12.1 r12.2) fun r13 =>
 Option.bind (qaq k (1 : Int)) fun r14 =>
 Option.bind (qcc k r13.1 r13.2.1 r14.1 r14.2) fun r15 =>
 (some (r15.2.2.2.2.1, r15.2.2.2.2.2.1, r15.2.2.2.2.2.2.1, r15.2.2.2.2.2.2.2))
def qge : Nat → Int → Int → Option (Bool × List Int × Bool × List Int)
 | 0, _, _ => none
 | k + 1, n0, n1 => qwE k n0 n1
def qkk : FS := { vs := [.g [.lf (.int .i64), .lf (.int .i64)]], bs := [] }
def qqJ : List FS := [{ vs := [.a (.ptr 0 0 0)], bs := [.raw [[.lf .bool, .lf (.sl (.int .u32)), .lf .bool, .lf (.sl (.int .u32))]] 4 180 true false false] }]
def qx4 (k : Nat) : Inst := ⟨214, qkk, qqJ, fun x => qge k x.1 x.2⟩
theorem qHb (k : Nat) : qp (call cf k) [qxZ k, qgD k, Iq0 k, Iq7 k] := qA (qGI k) (qA (qqv k) (qA (qCD k) (qA (qB4 k) qT)))
theorem qHc (k : Nat) : qg (LOk (R := DS FS.D qqJ) (fun b _ σ K => LOt Ty (kps 214) 0 b σ K []) cf (call cf k) (cf.keep 214) Tryz.f214.ntmps k qkk.bs.length) 0 (bd Tryz.f214) :=
 qA qT (qA qT (qA (qA qT (qA (qA qT qT) qT)) (qA qT qT)))
theorem qHd (k : Nat) (x : qkk.D) : qge (k + 1) x.1 x.2 = qi cf (fun f a b K => COt f a b K [qxZ k, qgD k, Iq0 k, Iq7 k]) (fun b _ σ K => LOt Ty (kps 214) 0 b σ K []) 214 Tryz.f214.ntmps Tryz.f214.results.toList (bd Tryz.f214) (qkk.enc x).1 (qkk.enc x).2 (qk FS.dec qqJ) := by kernel_rfl
theorem qHe : ∀ k, qh (call cf k) (qx4 k)
 | 0 => fun x y e => absurd (show (none : Option _) = some y from e) (by simp)
 | k + 1 => qe (c := cf) (k := k) (f := 214) (fn := Tryz.f214) (body := bd Tryz.f214) (sh := qkk) (os := qqJ) rfl Tryz.func214 rfl ⟨rfl, Nat.le_of_ble_eq_true rfl⟩ (qd (qHb k)) (qHc k) (fun x => qge (k + 1) x.1 x.2) (qHd k)

def qpg (k : Nat) (neg : Bool) (w : List Int) : Option (Bool × List Int) :=
 if (((0 + (List.length w)) * 4) ≤ 140737488355328) then
 if ((0 + (0 + (List.length w))) ≤ (List.length ((List.take 0 []) ++ w))) then
 Option.bind (qbV k (List.take (0 + (List.length w)) ((List.take 0 []) ++ w))) fun r13 =>
 if (neg = true) then
 (some ((decide ((((List.length r13) : Nat) : Int) > (0 : Int))), r13))
 else
 (some (false, r13))
 else
 none
 else
 none
def qfp : Nat → Bool → List Int → Option (Bool × List Int)
 | 0, _, _ => none
 | k + 1, neg, w => qpg k neg w
def qkl : FS := { vs := [.a (.lf .bool), .a (.lf (.sl (.int .u32)))], bs := [] }
def qqK : List FS := [{ vs := [.a (.ptr 0 0 0)], bs := [.raw [[.lf .bool, .lf (.sl (.int .u32))]] 2 147 true false false] }]
def qsT (k : Nat) : Inst := ⟨202, qkl, qqK, fun x => qfp k x.1 x.2⟩
theorem qHf (k : Nat) : qp (call cf k) [qe9 k] := qA (qjV k) qT
theorem qHg (k : Nat) : qg (LOk (R := DS FS.D qqK) (fun b _ σ K => LOt Ty (kps 202) 0 b σ K []) cf (call cf k) (cf.keep 202) Tryz.f202.ntmps k qkl.bs.length) 0 (bd Tryz.f202) :=
 qA qT (qA qT (qA qT (qA qT qT)))
theorem qHh (k : Nat) (x : qkl.D) : qfp (k + 1) x.1 x.2 = qi cf (fun f a b K => COt f a b K [qe9 k]) (fun b _ σ K => LOt Ty (kps 202) 0 b σ K []) 202 Tryz.f202.ntmps Tryz.f202.results.toList (bd Tryz.f202) (qkl.enc x).1 (qkl.enc x).2 (qk FS.dec qqK) := by kernel_rfl
theorem qzl : ∀ k, qh (call cf k) (qsT k)
 | 0 => fun x y e => absurd (show (none : Option _) = some y from e) (by simp)
 | k + 1 => qe (c := cf) (k := k) (f := 202) (fn := Tryz.f202) (body := bd Tryz.f202) (sh := qkl) (os := qqK) rfl Tryz.func202 rfl ⟨rfl, Nat.le_of_ble_eq_true rfl⟩ (qd (qHf k)) (qHg k) (fun x => qfp (k + 1) x.1 x.2) (qHh k)

def qen (k : Nat) (z0 : Bool) (z1 : List Int) (z2 : Bool) (z3 : List Int) : Option (Bool × List Int × Bool × List Int × Bool × List Int) :=
 if (((((List.length z3) : Nat) : Int) == (0 : Int)) = true) then
 Option.bind (qaq k (1 : Int)) fun r13 =>
 (some (z0, z1, z2, z3, r13.1, r13.2))
 else
 Option.bind (qfp k false z3) fun r13 =>
 (some (z0, z1, z2, z3, r13.1, r13.2))
def qaX : Nat → Bool → List Int → Bool → List Int → Option (Bool × List Int × Bool × List Int × Bool × List Int)
 | 0, _, _, _, _ => none
 | k + 1, z0, z1, z2, z3 => qen k z0 z1 z2 z3
def qkm : FS := { vs := [.a (.ptr 0 0 0)], bs := [.raw [[.lf .bool, .lf (.sl (.int .u32)), .lf .bool, .lf (.sl (.int .u32))]] 4 180 true false false] }
def qqL : List FS := [{ vs := [.a (.ptr 1 0 0)], bs := [.raw [[.lf .bool, .lf (.sl (.int .u32)), .lf .bool, .lf (.sl (.int .u32))]] 4 180 true false false, .raw [[.lf .bool, .lf (.sl (.int .u32))]] 2 147 true false false] }]
def qsU (k : Nat) : Inst := ⟨143, qkm, qqL, fun x => qaX k x.1 x.2.1 x.2.2.1 x.2.2.2⟩
theorem qHi (k : Nat) : qp (call cf k) [qgD k, qsT k] := qA (qqv k) (qA (qzl k) qT)
theorem qHj (k : Nat) : qg (LOk (R := DS FS.D qqL) (fun b _ σ K => LOt Ty (kps 143) 1 b σ K []) cf (call cf k) (cf.keep 143) Tryz.f143.ntmps k qkm.bs.length) 0 (bd Tryz.f143) :=
 qA qT (qA (qA qT (qA (qA qT qT) qT)) (qA qT qT))
theorem qHk (k : Nat) (x : qkm.D) : qaX (k + 1) x.1 x.2.1 x.2.2.1 x.2.2.2 = qi cf (fun f a b K => COt f a b K [qgD k, qsT k]) (fun b _ σ K => LOt Ty (kps 143) 1 b σ K []) 143 Tryz.f143.ntmps Tryz.f143.results.toList (bd Tryz.f143) (qkm.enc x).1 (qkm.enc x).2 (qk FS.dec qqL) := by kernel_rfl
theorem qzm : ∀ k, qh (call cf k) (qsU k)
 | 0 => fun x y e => absurd (show (none : Option _) = some y from e) (by simp)
 | k + 1 => qe (c := cf) (k := k) (f := 143) (fn := Tryz.f143) (body := bd Tryz.f143) (sh := qkm) (os := qqL) rfl Tryz.func143 rfl ⟨rfl, Nat.le_of_ble_eq_true rfl⟩ (qd (qHi k)) (qHj k) (fun x => qaX (k + 1) x.1 x.2.1 x.2.2.1 x.2.2.2) (qHk k)

def qh4 (k : Nat) (rec : Nat → Int → Int → Int → List Int → Int → Int → List Int → Int → Int → Bool → Bool → List Int → Bool → List Int → Bool → List Int → List Int → Option (Nat × Int × Int × List Int × Int × Int × Bool × Bool × List Int × Bool × List Int × Bool × List Int × List Int)) (out1 : Nat) (i : Int) (a : Int) (carry : Int) (x : List Int) (x1 : Int) (x2 : Int) (x3 : List Int) (x4 : Int) (x5 : Int) (z : Bool) (x0 : Bool) (x11 : List Int) (x21 : Bool) (x31 : List Int) (y0 : Bool) (y1 : List Int) (outs : List Int) : Option (Nat × Int × Int × List Int × Int × Int × Bool × Bool × List Int × Bool × List Int × Bool × List Int × List Int) :=
 if ((decide (x5 < x4)) = true) then
 if ((0 : Int) ≤ x5) then
 Option.bind (x3)[(Int.toNat x5)]? fun x7 =>
 if (((0 : Int) ≤ (IntKind.wrap .i64 (i + x5))) ∧ ((IntKind.wrap .i64 (i + x5)) < ((out1 : Nat) : Int))) then
 Option.bind (outs)[(0 + (Int.toNat (IntKind.wrap .i64 (i + x5))))]? fun x8 =>
 if (((0 : Int) ≤ (IntKind.wrap .i64 (i + x5))) ∧ ((IntKind.wrap .i64 (i + x5)) < ((out1 : Nat) : Int))) then
 Option.bind (outs)[(0 + (Int.toNat (IntKind.wrap .i64 (i + x5))))]? fun x9 =>
 rec out1 i a (Int.fdiv (IntKind.wrap .u64 ((IntKind.wrap .u64 ((IntKind.wrap .u64 ((IntKind.wrap .u64 a) * (IntKind.wrap .u64 x7))) + (IntKind.wrap .u64 x8))) + carry)) (4294967296 : Int)) x x1 x2 x3 x4 (IntKind.wrap .i64 (x5 + (1 : Int))) z x0 x11 x21 x31 y0 y1 (List.set outs (0 + (Int.toNat (IntKind.wrap .i64 (i + x5)))) (IntKind.wrap .u32 (IntKind.wrap .u64 ((IntKind.wrap .u64 ((IntKind.wrap .u64 ((IntKind.wrap .u64 a) * (IntKind.wrap .u64 x7))) + (IntKind.wrap .u64 x8))) + carry))))
 else
 none
 else
 none
 else
 none
 else
 (some (out1, i, carry, x, x1, x2, z, x0, x11, x21, x31, y0, y1, outs))
def qcF (k n : Nat) : Nat → Int → Int → Int → List Int → Int → Int → List Int → Int → Int → Bool → Bool → List Int → Bool → List Int → Bool → List Int → List Int → Option (Nat × Int × Int × List Int × Int × Int × Bool × Bool × List Int × Bool × List Int × Bool × List Int × List Int) := Nat.rec (fun _ _ _ _ _ _ _ _ _ _ _ _ _ _ _ _ _ _ => none) (fun _ r => qh4 k r) n
def qh5 (k : Nat) (rec : Nat → List Int → Int → Int → Bool → Bool → List Int → Bool → List Int → Bool → List Int → List Int → Option (Nat × Bool × Bool × List Int × Bool × List Int × Bool × List Int × List Int)) (out1 : Nat) (x : List Int) (x1 : Int) (x2 : Int) (z : Bool) (x0 : Bool) (x11 : List Int) (x21 : Bool) (x3 : List Int) (y0 : Bool) (y1 : List Int) (outs : List Int) : Option (Nat × Bool × Bool × List Int × Bool × List Int × Bool × List Int × List Int) :=
 if ((decide (x2 < x1)) = true) then
 if ((0 : Int) ≤ x2) then
 Option.bind (x)[(Int.toNat x2)]? fun x6 =>
 Option.bind (qcF k k out1 x2 x6 (0 : Int) x x1 x2 y1 (((List.length y1) : Nat) : Int) (0 : Int) z x0 x11 x21 x3 y0 y1 outs) fun r14 =>
 if (((0 : Int) ≤ (IntKind.wrap .i64 (r14.2.1 + (((List.length r14.2.2.2.2.2.2.2.2.2.2.2.2.1) : Nat) : Int)))) ∧ ((IntKind.wrap .i64 (r14.2.1 + (((List.length r14.2.2.2.2.2.2.2.2.2.2.2.2.1) : Nat) : Int))) < ((r14.1 : Nat) : Int))) then
 Option.bind (r14.2.2.2.2.2.2.2.2.2.2.2.2.2)[(0 + (Int.toNat (IntKind.wrap .i64 (r14.2.1 + (((List.length r14.2.2.2.2.2.2.2.2.2.2.2.2.1) : Nat) : Int)))))]? fun x7 =>
 rec r14.1 r14.2.2.2.1 r14.2.2.2.2.1 (IntKind.wrap .i64 (r14.2.2.2.2.2.1 + (1 : Int))) r14.2.2.2.2.2.2.1 r14.2.2.2.2.2.2.2.1 r14.2.2.2.2.2.2.2.2.1 r14.2.2.2.2.2.2.2.2.2.1 r14.2.2.2.2.2.2.2.2.2.2.1 r14.2.2.2.2.2.2.2.2.2.2.2.1 r14.2.2.2.2.2.2.2.2.2.2.2.2.1 (List.set r14.2.2.2.2.2.2.2.2.2.2.2.2.2 (0 + (Int.toNat (IntKind.wrap .i64 (r14.2.1 + (((List.length r14.2.2.2.2.2.2.2.2.2.2.2.2.1) : Nat) : Int))))) (IntKind.wrap .u32 r14.2.2.1))
 else
 none
 else
 none
 else
 (some (out1, z, x0, x11, x21, x3, y0, y1, outs))
def qcG (k n : Nat) : Nat → List Int → Int → Int → Bool → Bool → List Int → Bool → List Int → Bool → List Int → List Int → Option (Nat × Bool × Bool × List Int × Bool × List Int × Bool × List Int × List Int) := Nat.rec (fun _ _ _ _ _ _ _ _ _ _ _ _ => none) (fun _ r => qh5 k r) n
def qlO (k : Nat) (z : Bool) (x0 : Bool) (x1 : List Int) (x2 : Bool) (x3 : List Int) (y0 : Bool) (y1 : List Int) : Option (Bool × List Int × Bool × List Int × Bool × List Int × Bool × List Int) :=
 if (((0 : Int) ≤ (IntKind.wrap .i64 ((((List.length x1) : Nat) : Int) + (((List.length y1) : Nat) : Int)))) ∧ (((IntKind.wrap .i64 ((((List.length x1) : Nat) : Int) + (((List.length y1) : Nat) : Int))) ≤ (IntKind.wrap .i64 ((((List.length x1) : Nat) : Int) + (((List.length y1) : Nat) : Int)))) ∧ (((IntKind.wrap .i64 ((((List.length x1) : Nat) : Int) + (((List.length y1) : Nat) : Int))) * (4 : Int)) ≤ (140737488355328 : Int)))) then
 Option.bind (qcG k k (Int.toNat (IntKind.wrap .i64 ((((List.length x1) : Nat) : Int) + (((List.length y1) : Nat) : Int)))) x1 (((List.length x1) : Nat) : Int) (0 : Int) z x0 x1 x2 x3 y0 y1 (List.replicate (Int.toNat (IntKind.wrap .i64 ((((List.length x1) : Nat) : Int) + (((List.length y1) : Nat) : Int)))) (0 : Int))) fun r14 =>
 if ((0 + r14.1) ≤ (List.length r14.2.2.2.2.2.2.2.2)) then
 Option.bind (qG k (!(r14.2.2.1 == r14.2.2.2.2.2.2.1)) (List.take r14.1 r14.2.2.2.2.2.2.2.2) r14.2.1) fun r15 =>
 (some (r15.1, r15.2, r14.2.2.1, r14.2.2.2.1, r14.2.2.2.2.1, r14.2.2.2.2.2.1, r14.2.2.2.2.2.2.1, r14.2.2.2.2.2.2.2.1))
 else
 none
 else
 none
def qc2 : Nat → Bool → Bool → List Int → Bool → List Int → Bool → List Int → Option (Bool × List Int × Bool × List Int × Bool × List Int × Bool × List Int)
 | 0, _, _, _, _, _, _, _ => none
 | k + 1, z, x0, x1, x2, x3, y0, y1 => qlO k z x0 x1 x2 x3 y0 y1
def qph : FS := { vs := [.a (.ptr 0 0 0), .a (.ptr 1 0 0), .a (.ptr 2 0 0)], bs := [.raw [[.lf .bool, .snil 1 106]] 2 147 true false false, .raw [[.lf .bool, .lf (.sl (.int .u32)), .lf .bool, .lf (.sl (.int .u32))]] 4 180 true false false, .raw [[.lf .bool, .lf (.sl (.int .u32))]] 2 147 true false false] }
def qvg : List FS := [{ vs := [.a (.ptr 0 0 0)], bs := [.raw [[.lf .bool, .lf (.sl (.int .u32))]] 2 147 true false false, .raw [[.lf .bool, .lf (.sl (.int .u32)), .lf .bool, .lf (.sl (.int .u32))]] 4 180 true false false, .raw [[.lf .bool, .lf (.sl (.int .u32))]] 2 147 true false false] }]
def Iq8 (k : Nat) : Inst := ⟨155, qph, qvg, fun x => qc2 k x.1 x.2.1 x.2.2.1 x.2.2.2.1 x.2.2.2.2.1 x.2.2.2.2.2.1 x.2.2.2.2.2.2⟩
theorem qx5 (k : Nat) : qp (call cf k) [qeh k] := qA (qjX k) qT
def qiL : List SS := [{ fr := [(0, .a (.ptr 0 0 0)), (1, .a (.ptr 1 0 0)), (2, .a (.ptr 2 0 0)), (7, .a (.smz 3)), (8, .a (.lf (.int .i64))), (9, .a (.lf (.int .u32))), (10, .a (.lf (.int .u64))), (29, .a (.lf (.sl (.int .u32)))), (30, .a (.lf (.int .i64))), (31, .a (.lf (.int .i64))), (39, .a (.lf (.sl (.int .u32)))), (40, .a (.lf (.int .i64))), (41, .a (.lf (.int .i64)))], mem := [(0, some (.raw [[.lf .bool, .snil 1 106]] 2 147 true false false)), (1, some (.raw [[.lf .bool, .lf (.sl (.int .u32)), .lf .bool, .lf (.sl (.int .u32))]] 4 180 true false false)), (2, some (.raw [[.lf .bool, .lf (.sl (.int .u32))]] 2 147 true false false)), (3, some (.arr (.int .u32) 1 106 false))], nx := 4 }]
def qm6 : List OS := [⟨some 2, { fr := [(0, .a (.ptr 0 0 0)), (1, .a (.ptr 1 0 0)), (2, .a (.ptr 2 0 0)), (7, .a (.smz 3)), (8, .a (.lf (.int .i64))), (10, .a (.lf (.int .u64))), (29, .a (.lf (.sl (.int .u32)))), (30, .a (.lf (.int .i64))), (31, .a (.lf (.int .i64)))], mem := [(0, some (.raw [[.lf .bool, .snil 1 106]] 2 147 true false false)), (1, some (.raw [[.lf .bool, .lf (.sl (.int .u32)), .lf .bool, .lf (.sl (.int .u32))]] 4 180 true false false)), (2, some (.raw [[.lf .bool, .lf (.sl (.int .u32))]] 2 147 true false false)), (3, some (.arr (.int .u32) 1 106 false))], nx := 4 }⟩]
def qgI (k : Nat) : LInst := ⟨2, qiL, qm6, fun x => qcF k k x.1 x.2.1 x.2.2.1 x.2.2.2.1 x.2.2.2.2.1 x.2.2.2.2.2.1 x.2.2.2.2.2.2.1 x.2.2.2.2.2.2.2.1 x.2.2.2.2.2.2.2.2.1 x.2.2.2.2.2.2.2.2.2.1 x.2.2.2.2.2.2.2.2.2.2.1 x.2.2.2.2.2.2.2.2.2.2.2.1 x.2.2.2.2.2.2.2.2.2.2.2.2.1 x.2.2.2.2.2.2.2.2.2.2.2.2.2.1 x.2.2.2.2.2.2.2.2.2.2.2.2.2.2.1 x.2.2.2.2.2.2.2.2.2.2.2.2.2.2.2.1 x.2.2.2.2.2.2.2.2.2.2.2.2.2.2.2.2.1 x.2.2.2.2.2.2.2.2.2.2.2.2.2.2.2.2.2⟩
theorem qCE (k : Nat) : qg (LOk (R := DS OS.D qm6) (fun b _ σ K => LOt Ty (kps 155) 3 b σ K []) cf (call cf k) (kps 155) Tryz.f155.ntmps k 3) 2 (lb Tryz.f155 1) :=
 qA qT (qA (qA qT qT) (qA (qA qT (qA qT (qA qT qT))) qT))
theorem qCF (k n : Nat) (x : DS SS.D qiL) : qcF k (n + 1) x.1 x.2.1 x.2.2.1 x.2.2.2.1 x.2.2.2.2.1 x.2.2.2.2.2.1 x.2.2.2.2.2.2.1 x.2.2.2.2.2.2.2.1 x.2.2.2.2.2.2.2.2.1 x.2.2.2.2.2.2.2.2.2.1 x.2.2.2.2.2.2.2.2.2.2.1 x.2.2.2.2.2.2.2.2.2.2.2.1 x.2.2.2.2.2.2.2.2.2.2.2.2.1 x.2.2.2.2.2.2.2.2.2.2.2.2.2.1 x.2.2.2.2.2.2.2.2.2.2.2.2.2.2.1 x.2.2.2.2.2.2.2.2.2.2.2.2.2.2.2.1 x.2.2.2.2.2.2.2.2.2.2.2.2.2.2.2.2.1 x.2.2.2.2.2.2.2.2.2.2.2.2.2.2.2.2.2 = qu SS.enc (fun σ => qx cf (fun f a b K => COt f a b K [qeh k]) (fun b _ σ K => LOt Ty (kps 155) 3 b σ K []) Tryz.f155.ntmps 2 (lb Tryz.f155 1) σ (qw Ty (kps 155 2) 3 qiL qm6 fun x => qcF k n x.1 x.2.1 x.2.2.1 x.2.2.2.1 x.2.2.2.2.1 x.2.2.2.2.2.1 x.2.2.2.2.2.2.1 x.2.2.2.2.2.2.2.1 x.2.2.2.2.2.2.2.2.1 x.2.2.2.2.2.2.2.2.2.1 x.2.2.2.2.2.2.2.2.2.2.1 x.2.2.2.2.2.2.2.2.2.2.2.1 x.2.2.2.2.2.2.2.2.2.2.2.2.1 x.2.2.2.2.2.2.2.2.2.2.2.2.2.1 x.2.2.2.2.2.2.2.2.2.2.2.2.2.2.1 x.2.2.2.2.2.2.2.2.2.2.2.2.2.2.2.1 x.2.2.2.2.2.2.2.2.2.2.2.2.2.2.2.2.1 x.2.2.2.2.2.2.2.2.2.2.2.2.2.2.2.2.2)) qiL x := by kernel_rfl
theorem qCG (k : Nat) : qL cf (call cf k) (kps 155) Tryz.f155.ntmps k 3 2 (lb Tryz.f155 1) (qgI k) :=
 qq (c := cf) (callF := call cf k) (kp := kps 155) (nt := Tryz.f155.ntmps) (k := k) (p := 3) (b := 2) (x0 := lb Tryz.f155 1) (hs := qiL) (os := qm6) (qd (qx5 k)) (qCE k) (fun n x => qcF k n x.1 x.2.1 x.2.2.1 x.2.2.2.1 x.2.2.2.2.1 x.2.2.2.2.2.1 x.2.2.2.2.2.2.1 x.2.2.2.2.2.2.2.1 x.2.2.2.2.2.2.2.2.1 x.2.2.2.2.2.2.2.2.2.1 x.2.2.2.2.2.2.2.2.2.2.1 x.2.2.2.2.2.2.2.2.2.2.2.1 x.2.2.2.2.2.2.2.2.2.2.2.2.1 x.2.2.2.2.2.2.2.2.2.2.2.2.2.1 x.2.2.2.2.2.2.2.2.2.2.2.2.2.2.1 x.2.2.2.2.2.2.2.2.2.2.2.2.2.2.2.1 x.2.2.2.2.2.2.2.2.2.2.2.2.2.2.2.2.1 x.2.2.2.2.2.2.2.2.2.2.2.2.2.2.2.2.2) (fun _ => rfl) (qCF k)
def qiM : List SS := [{ fr := [(0, .a (.ptr 0 0 0)), (1, .a (.ptr 1 0 0)), (2, .a (.ptr 2 0 0)), (7, .a (.smz 3)), (29, .a (.lf (.sl (.int .u32)))), (30, .a (.lf (.int .i64))), (31, .a (.lf (.int .i64)))], mem := [(0, some (.raw [[.lf .bool, .snil 1 106]] 2 147 true false false)), (1, some (.raw [[.lf .bool, .lf (.sl (.int .u32)), .lf .bool, .lf (.sl (.int .u32))]] 4 180 true false false)), (2, some (.raw [[.lf .bool, .lf (.sl (.int .u32))]] 2 147 true false false)), (3, some (.arr (.int .u32) 1 106 false))], nx := 4 }]
def qm7 : List OS := [⟨some 0, { fr := [(0, .a (.ptr 0 0 0)), (1, .a (.ptr 1 0 0)), (2, .a (.ptr 2 0 0)), (7, .a (.smz 3))], mem := [(0, some (.raw [[.lf .bool, .snil 1 106]] 2 147 true false false)), (1, some (.raw [[.lf .bool, .lf (.sl (.int .u32)), .lf .bool, .lf (.sl (.int .u32))]] 4 180 true false false)), (2, some (.raw [[.lf .bool, .lf (.sl (.int .u32))]] 2 147 true false false)), (3, some (.arr (.int .u32) 1 106 false))], nx := 4 }⟩]
def qm8 (k : Nat) : LInst := ⟨0, qiM, qm7, fun x => qcG k k x.1 x.2.1 x.2.2.1 x.2.2.2.1 x.2.2.2.2.1 x.2.2.2.2.2.1 x.2.2.2.2.2.2.1 x.2.2.2.2.2.2.2.1 x.2.2.2.2.2.2.2.2.1 x.2.2.2.2.2.2.2.2.2.1 x.2.2.2.2.2.2.2.2.2.2.1 x.2.2.2.2.2.2.2.2.2.2.2⟩
theorem qCH (k : Nat) : qg (LOk (R := DS OS.D qm7) (fun b _ σ K => LOt Ty (kps 155) 3 b σ K [qgI k]) cf (call cf k) (kps 155) Tryz.f155.ntmps k 3) 0 (lb Tryz.f155 0) :=
 qA qT (qA (qA qT qT) (qA (qA qT (qA qT (qA (qA qT (qt (c := cf) (callF := call cf k) (kp := kps 155) (nt := Tryz.f155.ntmps) (k := k) (p := 3) (b := 2) (x0 := lb Tryz.f155 1) (l := [qgI k]) (qA (fun _ => qCG k) qT))) qT))) qT))
theorem qCI (k n : Nat) (x : DS SS.D qiM) : qcG k (n + 1) x.1 x.2.1 x.2.2.1 x.2.2.2.1 x.2.2.2.2.1 x.2.2.2.2.2.1 x.2.2.2.2.2.2.1 x.2.2.2.2.2.2.2.1 x.2.2.2.2.2.2.2.2.1 x.2.2.2.2.2.2.2.2.2.1 x.2.2.2.2.2.2.2.2.2.2.1 x.2.2.2.2.2.2.2.2.2.2.2 = qu SS.enc (fun σ => qx cf (fun f a b K => COt f a b K [qeh k]) (fun b _ σ K => LOt Ty (kps 155) 3 b σ K [qgI k]) Tryz.f155.ntmps 0 (lb Tryz.f155 0) σ (qw Ty (kps 155 0) 3 qiM qm7 fun x => qcG k n x.1 x.2.1 x.2.2.1 x.2.2.2.1 x.2.2.2.2.1 x.2.2.2.2.2.1 x.2.2.2.2.2.2.1 x.2.2.2.2.2.2.2.1 x.2.2.2.2.2.2.2.2.1 x.2.2.2.2.2.2.2.2.2.1 x.2.2.2.2.2.2.2.2.2.2.1 x.2.2.2.2.2.2.2.2.2.2.2)) qiM x := by kernel_rfl
theorem qCJ (k : Nat) : qL cf (call cf k) (kps 155) Tryz.f155.ntmps k 3 0 (lb Tryz.f155 0) (qm8 k) :=
 qq (c := cf) (callF := call cf k) (kp := kps 155) (nt := Tryz.f155.ntmps) (k := k) (p := 3) (b := 0) (x0 := lb Tryz.f155 0) (hs := qiM) (os := qm7) (qd (qx5 k)) (qCH k) (fun n x => qcG k n x.1 x.2.1 x.2.2.1 x.2.2.2.1 x.2.2.2.2.1 x.2.2.2.2.2.1 x.2.2.2.2.2.2.1 x.2.2.2.2.2.2.2.1 x.2.2.2.2.2.2.2.2.1 x.2.2.2.2.2.2.2.2.2.1 x.2.2.2.2.2.2.2.2.2.2.1 x.2.2.2.2.2.2.2.2.2.2.2) (fun _ => rfl) (qCI k)
theorem qKT (k : Nat) : qg (LOk (R := DS FS.D qvg) (fun b _ σ K => LOt Ty (kps 155) 3 b σ K [qgI k, qm8 k]) cf (call cf k) (cf.keep 155) Tryz.f155.ntmps k qph.bs.length) 0 (bd Tryz.f155) :=
 qA qT (qA qT (qA (qA qT (qt (c := cf) (callF := call cf k) (kp := kps 155) (nt := Tryz.f155.ntmps) (k := k) (p := 3) (b := 0) (x0 := lb Tryz.f155 0) (l := [qgI k, qm8 k]) (qA (fun h => absurd (show (2 : Nat) = 0 from h) (by decide)) (qA (fun _ => qCJ k) qT)))) (qA qT qT)))
theorem qKU (k : Nat) (x : qph.D) : qc2 (k + 1) x.1 x.2.1 x.2.2.1 x.2.2.2.1 x.2.2.2.2.1 x.2.2.2.2.2.1 x.2.2.2.2.2.2 = qi cf (fun f a b K => COt f a b K [qeh k]) (fun b _ σ K => LOt Ty (kps 155) 3 b σ K [qgI k, qm8 k]) 155 Tryz.f155.ntmps Tryz.f155.results.toList (bd Tryz.f155) (qph.enc x).1 (qph.enc x).2 (qk FS.dec qvg) := by kernel_rfl
theorem qKV : ∀ k, qh (call cf k) (Iq8 k)
 | 0 => fun x y e => absurd (show (none : Option _) = some y from e) (by simp)
 | k + 1 => qe (c := cf) (k := k) (f := 155) (fn := Tryz.f155) (body := bd Tryz.f155) (sh := qph) (os := qvg) rfl Tryz.func155 rfl ⟨rfl, Nat.le_of_ble_eq_true rfl⟩ (qd (qx5 k)) (qKT k) (fun x => qc2 (k + 1) x.1 x.2.1 x.2.2.1 x.2.2.2.1 x.2.2.2.2.1 x.2.2.2.2.2.1 x.2.2.2.2.2.2) (qKU k)

def qlP (k : Nat) (z0 : Bool) (z1 : List Int) (y0 : Bool) (y1 : List Int) : Option (Int × Bool × List Int × Bool × List Int) :=
 if ((!(z0 == y0)) = true) then
 if (z0 = true) then
 (some ((-(1 : Int)), z0, z1, y0, y1))
 else
 (some ((1 : Int), z0, z1, y0, y1))
 else
 Option.bind (qdF k z1 y1) fun r17 =>
 if (z0 = true) then
 (some ((IntKind.wrap .i64 ((0 : Int) - r17)), z0, z1, y0, y1))
 else
 (some (r17, z0, z1, y0, y1))
def qdH : Nat → Bool → List Int → Bool → List Int → Option (Int × Bool × List Int × Bool × List Int)
 | 0, _, _, _, _ => none
 | k + 1, z0, z1, y0, y1 => qlP k z0 z1 y0 y1
def qpi : FS := { vs := [.a (.ptr 0 0 0), .a (.ptr 1 0 0)], bs := [.raw [[.lf .bool, .lf (.sl (.int .u32))]] 2 147 true false false, .raw [[.lf .bool, .lf (.sl (.int .u32))]] 2 147 true false false] }
def qvh : List FS := [{ vs := [.a (.lf (.int .i64))], bs := [.raw [[.lf .bool, .lf (.sl (.int .u32))]] 2 147 true false false, .raw [[.lf .bool, .lf (.sl (.int .u32))]] 2 147 true false false] }]
def Iq6 (k : Nat) : Inst := ⟨156, qpi, qvh, fun x => qdH k x.1 x.2.1 x.2.2.1 x.2.2.2⟩
theorem qKW (k : Nat) : qp (call cf k) [qhW k] := qA (qqz k) qT
theorem qKX (k : Nat) : qg (LOk (R := DS FS.D qvh) (fun b _ σ K => LOt Ty (kps 156) 2 b σ K []) cf (call cf k) (cf.keep 156) Tryz.f156.ntmps k qpi.bs.length) 0 (bd Tryz.f156) :=
 qA qT (qA (qA qT (qA (qA (qA qT (qA (qA qT qT) qT)) (qA qT qT)) qT)) (qA qT (qA (qA qT (qA (qA qT qT) qT)) (qA qT qT))))
theorem qKY (k : Nat) (x : qpi.D) : qdH (k + 1) x.1 x.2.1 x.2.2.1 x.2.2.2 = qi cf (fun f a b K => COt f a b K [qhW k]) (fun b _ σ K => LOt Ty (kps 156) 2 b σ K []) 156 Tryz.f156.ntmps Tryz.f156.results.toList (bd Tryz.f156) (qpi.enc x).1 (qpi.enc x).2 (qk FS.dec qvh) := by kernel_rfl
theorem qKZ : ∀ k, qh (call cf k) (Iq6 k)
 | 0 => fun x y e => absurd (show (none : Option _) = some y from e) (by simp)
 | k + 1 => qe (c := cf) (k := k) (f := 156) (fn := Tryz.f156) (body := bd Tryz.f156) (sh := qpi) (os := qvh) rfl Tryz.func156 rfl ⟨rfl, Nat.le_of_ble_eq_true rfl⟩ (qd (qKW k)) (qKX k) (fun x => qdH (k + 1) x.1 x.2.1 x.2.2.1 x.2.2.2) (qKY k)

def qlQ (k : Nat) (z0 : Bool) (z1 : List Int) (z2 : Bool) (z3 : List Int) (y0 : Bool) (y1 : List Int) (y2 : Bool) (y3 : List Int) : Option (Int × Bool × List Int × Bool × List Int × Bool × List Int × Bool × List Int) :=
 Option.bind (qaX k y0 y1 y2 y3) fun r13 =>
 Option.bind (qc2 k false z0 z1 z2 z3 r13.2.2.2.2.1 r13.2.2.2.2.2) fun r14 =>
 Option.bind (qaX k r14.2.2.1 r14.2.2.2.1 r14.2.2.2.2.1 r14.2.2.2.2.2.1) fun r15 =>
 Option.bind (qc2 k false r13.1 r13.2.1 r13.2.2.1 r13.2.2.2.1 r15.2.2.2.2.1 r15.2.2.2.2.2) fun r16 =>
 Option.bind (qdH k r14.1 r14.2.1 r16.1 r16.2.1) fun r17 =>
 (some (r17.1, r15.1, r15.2.1, r15.2.2.1, r15.2.2.2.1, r16.2.2.1, r16.2.2.2.1, r16.2.2.2.2.1, r16.2.2.2.2.2.1))
def qdI : Nat → Bool → List Int → Bool → List Int → Bool → List Int → Bool → List Int → Option (Int × Bool × List Int × Bool × List Int × Bool × List Int × Bool × List Int)
 | 0, _, _, _, _, _, _, _, _ => none
 | k + 1, z0, z1, z2, z3, y0, y1, y2, y3 => qlQ k z0 z1 z2 z3 y0 y1 y2 y3
def qkn : FS := { vs := [.a (.ptr 0 0 0), .a (.ptr 1 0 0)], bs := [.raw [[.lf .bool, .lf (.sl (.int .u32)), .lf .bool, .lf (.sl (.int .u32))]] 4 180 true false false, .raw [[.lf .bool, .lf (.sl (.int .u32)), .lf .bool, .lf (.sl (.int .u32))]] 4 180 true false false] }
def qqM : List FS := [{ vs := [.a (.lf (.int .i64))], bs := [.raw [[.lf .bool, .lf (.sl (.int .u32)), .lf .bool, .lf (.sl (.int .u32))]] 4 180 true false false, .raw [[.lf .bool, .lf (.sl (.int .u32)), .lf .bool, .lf (.sl (.int .u32))]] 4 180 true false false] }]
def qx6 (k : Nat) : Inst := ⟨100, qkn, qqM, fun x => qdI k x.1 x.2.1 x.2.2.1 x.2.2.2.1 x.2.2.2.2.1 x.2.2.2.2.2.1 x.2.2.2.2.2.2.1 x.2.2.2.2.2.2.2⟩
theorem qHl (k : Nat) : qp (call cf k) [qsU k, Iq8 k, Iq6 k] := qA (qzm k) (qA (qKV k) (qA (qKZ k) qT))
theorem qHm (k : Nat) : qg (LOk (R := DS FS.D qqM) (fun b _ σ K => LOt Ty (kps 100) 2 b σ K []) cf (call cf k) (cf.keep 100) Tryz.f100.ntmps k qkn.bs.length) 0 (bd Tryz.f100) :=
 qA qT (qA qT (qA qT (qA qT (qA qT qT))))
theorem qHn (k : Nat) (x : qkn.D) : qdI (k + 1) x.1 x.2.1 x.2.2.1 x.2.2.2.1 x.2.2.2.2.1 x.2.2.2.2.2.1 x.2.2.2.2.2.2.1 x.2.2.2.2.2.2.2 = qi cf (fun f a b K => COt f a b K [qsU k, Iq8 k, Iq6 k]) (fun b _ σ K => LOt Ty (kps 100) 2 b σ K []) 100 Tryz.f100.ntmps Tryz.f100.results.toList (bd Tryz.f100) (qkn.enc x).1 (qkn.enc x).2 (qk FS.dec qqM) := by kernel_rfl
theorem qHo : ∀ k, qh (call cf k) (qx6 k)
 | 0 => fun x y e => absurd (show (none : Option _) = some y from e) (by simp)
 | k + 1 => qe (c := cf) (k := k) (f := 100) (fn := Tryz.f100) (body := bd Tryz.f100) (sh := qkn) (os := qqM) rfl Tryz.func100 rfl ⟨rfl, Nat.le_of_ble_eq_true rfl⟩ (qd (qHl k)) (qHm k) (fun x => qdI (k + 1) x.1 x.2.1 x.2.2.1 x.2.2.2.1 x.2.2.2.2.1 x.2.2.2.2.2.1 x.2.2.2.2.2.2.1 x.2.2.2.2.2.2.2) (qHn k)

def qx7 (k : Nat) (a0 : Int) (a1 : Int) (b0 : Int) (b1 : Int) : Option (Int × Int) :=
 Option.bind (qaH k a0 a1) fun r9 =>
 if ((!r9) = false) then
 Option.bind (qaH k b0 b1) fun r10 =>
 if ((!r10) = true) then
 (some ((0 : Int), (30 : Int)))
 else
 Option.bind (qge k a0 a1) fun r11 =>
 Option.bind (qge k b0 b1) fun r12 =>
 Option.bind (qdI k r11.1 r11.2.1 r11.2.2.1 r11.2.2.2 r12.1 r12.2.1 r12.2.2.1 r12.2.2.2) fun r13 =>
 (some (r13.1, (0 : Int)))
 else
 (some ((0 : Int), (30 : Int)))
def qhZ : Nat → Int → Int → Int → Int → Option (Int × Int)
 | 0, _, _, _, _ => none
 | k + 1, a0, a1, b0, b1 => qx7 k a0 a1 b0 b1
def qko : FS := { vs := [.g [.lf (.int .i64), .lf (.int .i64)], .g [.lf (.int .i64), .lf (.int .i64)]], bs := [] }
def qqN : List FS := [{ vs := [.a (.lf (.int .i64)), .a (.lf (.int .i64))], bs := [] }]
def qpj (k : Nat) : Inst := ⟨227, qko, qqN, fun x => qhZ k x.1 x.2.1 x.2.2.1 x.2.2.2⟩
theorem qHp (k : Nat) : qp (call cf k) [qdv k, qx4 k, qx6 k] := qA (qmr k) (qA (qHe k) (qA (qHo k) qT))
theorem qHq (k : Nat) : qg (LOk (R := DS FS.D qqN) (fun b _ σ K => LOt Ty (kps 227) 0 b σ K []) cf (call cf k) (cf.keep 227) Tryz.f227.ntmps k qko.bs.length) 0 (bd Tryz.f227) :=
 qA qT (qA (qA qT (qA (qA qT qT) qT)) (qA qT qT))
theorem qHr (k : Nat) (x : qko.D) : qhZ (k + 1) x.1 x.2.1 x.2.2.1 x.2.2.2 = qi cf (fun f a b K => COt f a b K [qdv k, qx4 k, qx6 k]) (fun b _ σ K => LOt Ty (kps 227) 0 b σ K []) 227 Tryz.f227.ntmps Tryz.f227.results.toList (bd Tryz.f227) (qko.enc x).1 (qko.enc x).2 (qk FS.dec qqN) := by kernel_rfl
theorem qHs : ∀ k, qh (call cf k) (qpj k)
 | 0 => fun x y e => absurd (show (none : Option _) = some y from e) (by simp)
 | k + 1 => qe (c := cf) (k := k) (f := 227) (fn := Tryz.f227) (body := bd Tryz.f227) (sh := qko) (os := qqN) rfl Tryz.func227 rfl ⟨rfl, Nat.le_of_ble_eq_true rfl⟩ (qd (qHp k)) (qHq k) (fun x => qhZ (k + 1) x.1 x.2.1 x.2.2.1 x.2.2.2) (qHr k)


end
end Go.Proofs.YtlnailgfialgnaaGreatDoor.Am
