/- Printed functions: each says what the typed machine says of the program -/
import Derived.Test.YtbhnafdmilfobaaGreatMA3
import Derived.KernelRfl

set_option linter.unusedVariables false
set_option maxRecDepth 100000
namespace Go.Proofs.YtbhnafdmilfobaaGreat.Am
theorem qT : True := True.intro
theorem qA {a b : Prop} (h : a) (k : b) : a ∧ b := And.intro h k
open Go
noncomputable section

def qhh (k : Nat) (n0 : Int) (n1 : Int) : Option (Bool) :=
 if ((n0 == (0 : Int)) = true) then
 (some (n1 == (0 : Int)))
 else
 if ((decide (n0 ≥ (-(999999999 : Int)))) = true) then
 if ((decide (n0 ≤ (999999999 : Int))) = true) then
 if (((Int.tmod n0 (10 : Int)) != (0 : Int)) = true) then
 if ((decide (n1 ≥ (-(18 : Int)))) = true) then
 (some (decide (n1 ≤ (9 : Int))))
 else
 (some false)
 else
 (some false)
 else
 (some false)
 else
 (some false)
def qdP : Nat → Int → Int → Option (Bool)
 | 0, _, _ => none
 | k + 1, n0, n1 => qhh k n0 n1
def qi1 : FS := { vs := [.g [.lf (.int .i64), .lf (.int .i64)]], bs := [] }
def qoW : List FS := [{ vs := [.a (.lf .bool)], bs := [] }]
def qhK (k : Nat) : Inst := ⟨52, qi1, qoW, fun x => qdP k x.1 x.2⟩
theorem qCj (k : Nat) : qp (call cf k) [] := True.intro
theorem qCk (k : Nat) : qg (LOk (R := DS FS.D qoW) (fun b _ σ K => LOt Ty (kps 52) 0 b σ K []) cf (call cf k) (cf.keep 52) Tryz.f52.ntmps k qi1.bs.length) 0 (bd Tryz.f52) :=
 qA qT (qA (qA qT (qA (qA qT qT) qT)) (qA qT qT))
theorem qCl (k : Nat) (x : qi1.D) : qdP (k + 1) x.1 x.2 = qk cf (fun f a b K => COt f a b K []) (fun b _ σ K => LOt Ty (kps 52) 0 b σ K []) 52 Tryz.f52.ntmps Tryz.f52.results.toList (bd Tryz.f52) (qi1.enc x).1 (qi1.enc x).2 (qo FS.dec qoW) := by kernel_rfl
theorem qwN : ∀ k, qh (call cf k) (qhK k)
 | 0 => fun x y e => absurd (show (none : Option _) = some y from e) (by simp)
 | k + 1 => qe (c := cf) (k := k) (f := 52) (fn := Tryz.f52) (body := bd Tryz.f52) (sh := qi1) (os := qoW) rfl Tryz.func52 rfl ⟨rfl, Nat.le_of_ble_eq_true rfl⟩ (qd (qCj k)) (qCk k) (fun x => qdP (k + 1) x.1 x.2) (qCl k)

def qcy (k : Nat) (rec : List (Int × Int) → Int → Int → Int → List (Int × Int) → List Int → Option ((Bool × Int × List (Int × Int) × List Int × Int × Int) ⊕ (Int × List (Int × Int) × List Int))) (x : List (Int × Int)) (x1 : Int) (x2 : Int) (w0 : Int) (w1 : List (Int × Int)) (w2 : List Int) : Option ((Bool × Int × List (Int × Int) × List Int × Int × Int) ⊕ (Int × List (Int × Int) × List Int)) :=
 if ((decide (x2 < x1)) = true) then
 if ((0 : Int) ≤ x2) then
 Option.bind (x)[(Int.toNat x2)]? fun x3 =>
 Option.bind (qdP k x3.1 x3.2) fun r =>
 if ((!r) = true) then
 (some (Sum.inl (false, w0, w1, w2, x3.1, x3.2)))
 else
 rec x x1 (IntKind.wrap .i64 (x2 + (1 : Int))) w0 w1 w2
 else
 none
 else
 (some (Sum.inr (w0, w1, w2)))
def qaL (k n : Nat) : List (Int × Int) → Int → Int → Int → List (Int × Int) → List Int → Option ((Bool × Int × List (Int × Int) × List Int × Int × Int) ⊕ (Int × List (Int × Int) × List Int)) := Nat.rec (fun _ _ _ _ _ _ => none) (fun _ r => qcy k r) n
def qcz (k : Nat) (rec : List Int → Int → Int → Int → List (Int × Int) → List Int → Option ((Bool × Int × List (Int × Int) × List Int) ⊕ (Int × List (Int × Int) × List Int))) (x : List Int) (x1 : Int) (x2 : Int) (w0 : Int) (w1 : List (Int × Int)) (w2 : List Int) : Option ((Bool × Int × List (Int × Int) × List Int) ⊕ (Int × List (Int × Int) × List Int)) :=
 if ((decide (x2 < x1)) = true) then
 if ((0 : Int) ≤ x2) then
 Option.bind (x)[(Int.toNat x2)]? fun x3 =>
 if ((decide (x3 < (0 : Int))) = false) then
 if ((decide (x3 > (1000000000 : Int))) = true) then
 (some (Sum.inl (false, w0, w1, w2)))
 else
 rec x x1 (IntKind.wrap .i64 (x2 + (1 : Int))) w0 w1 w2
 else
 (some (Sum.inl (false, w0, w1, w2)))
 else
 none
 else
 (some (Sum.inr (w0, w1, w2)))
def qax (k n : Nat) : List Int → Int → Int → Int → List (Int × Int) → List Int → Option ((Bool × Int × List (Int × Int) × List Int) ⊕ (Int × List (Int × Int) × List Int)) := Nat.rec (fun _ _ _ _ _ _ => none) (fun _ r => qcz k r) n
def qbG (k : Nat) (rec : Int → Int → List (Int × Int) → List Int → Option ((Bool × Int × List (Int × Int) × List Int) ⊕ (Int × List (Int × Int) × List Int))) (i : Int) (w0 : Int) (w1 : List (Int × Int)) (w2 : List Int) : Option ((Bool × Int × List (Int × Int) × List Int) ⊕ (Int × List (Int × Int) × List Int)) :=
 if ((decide (i < (((List.length w2) : Nat) : Int))) = true) then
 if ((0 : Int) ≤ i) then
 Option.bind (w2)[(Int.toNat i)]? fun x =>
 if ((0 : Int) ≤ (IntKind.wrap .i64 (i - (1 : Int)))) then
 Option.bind (w2)[(Int.toNat (IntKind.wrap .i64 (i - (1 : Int))))]? fun x1 =>
 if ((decide (x ≤ x1)) = true) then
 (some (Sum.inl (false, w0, w1, w2)))
 else
 rec (IntKind.wrap .i64 (i + (1 : Int))) w0 w1 w2
 else
 none
 else
 none
 else
 (some (Sum.inr (w0, w1, w2)))
def qao (k n : Nat) : Int → Int → List (Int × Int) → List Int → Option ((Bool × Int × List (Int × Int) × List Int) ⊕ (Int × List (Int × Int) × List Int)) := Nat.rec (fun _ _ _ _ => none) (fun _ r => qbG k r) n
def qgx (k : Nat) (w0 : Int) (w1 : List (Int × Int)) (w2 : List Int) : Option (Bool) :=
 Option.bind (qaL k k w1 (((List.length w1) : Nat) : Int) (0 : Int) w0 w1 w2) fun r =>
 qc r
 (fun r =>
 (some r.1))
 (fun r =>
 Option.bind (qax k k r.2.2 (((List.length r.2.2) : Nat) : Int) (0 : Int) r.1 r.2.1 r.2.2) fun r1 =>
 qc r1
 (fun r1 =>
 (some r1.1))
 (fun r1 =>
 if ((r1.1 == (1 : Int)) = true) then
 if (((((List.length r1.2.1) : Nat) : Int) == (1 : Int)) = true) then
 (some ((((List.length r1.2.2) : Nat) : Int) == (0 : Int)))
 else
 (some false)
 else
 if ((r1.1 == (2 : Int)) = true) then
 if (((((List.length r1.2.1) : Nat) : Int) == (2 : Int)) = true) then
 if (((((List.length r1.2.2) : Nat) : Int) == (5 : Int)) = true) then
 Option.bind (r1.2.2)[4]? fun x =>
 if ((decide (x ≥ (1 : Int))) = true) then
 Option.bind (r1.2.2)[1]? fun x1 =>
 Option.bind (r1.2.2)[2]? fun x2 =>
 Option.bind (r1.2.2)[3]? fun x3 =>
 Option.bind (r1.2.2)[4]? fun x4 =>
 (some (decide ((IntKind.wrap .i64 ((IntKind.wrap .i64 (x1 + x2)) + x3)) ≤ x4)))
 else
 (some false)
 else
 (some false)
 else
 (some false)
 else
 if ((r1.1 == (3 : Int)) = true) then
 Option.bind (qao k k (1 : Int) r1.1 r1.2.1 r1.2.2) fun r2 =>
 qc r2
 (fun r2 =>
 (some r2.1))
 (fun r2 =>
 if (((((List.length r2.2.1) : Nat) : Int) == (((List.length r2.2.2) : Nat) : Int)) = true) then
 if ((decide ((((List.length r2.2.1) : Nat) : Int) ≥ (1 : Int))) = true) then
 (some (decide ((((List.length r2.2.1) : Nat) : Int) ≤ (16 : Int))))
 else
 (some false)
 else
 (some false))
 else
 if ((r1.1 == (4 : Int)) = true) then
 if ((decide ((((List.length r1.2.1) : Nat) : Int) ≥ (1 : Int))) = true) then
 if ((decide ((((List.length r1.2.1) : Nat) : Int) ≤ (16 : Int))) = true) then
 (some ((((List.length r1.2.2) : Nat) : Int) == (0 : Int)))
 else
 (some false)
 else
 (some false)
 else
 (some false)))
def qb9 : Nat → Int → List (Int × Int) → List Int → Option (Bool)
 | 0, _, _, _ => none
 | k + 1, w0, w1, w2 => qgx k w0 w1 w2
def qi2 : FS := { vs := [.g [.lf (.int .i64), .lf (.sl (.pr (.int .i64) (.int .i64))), .lf (.sl (.int .i64))]], bs := [] }
def qoX : List FS := [{ vs := [.a (.lf .bool)], bs := [] }]
def qfU (k : Nat) : Inst := ⟨20, qi2, qoX, fun x => qb9 k x.1 x.2.1 x.2.2⟩
theorem qoY (k : Nat) : qp (call cf k) [qhK k] := qA (qwN k) qT
def qhL : List SS := [{ fr := [(1, .a (.ptr 0 0 0)), (9, .a (.lf (.sl (.pr (.int .i64) (.int .i64))))), (10, .a (.lf (.int .i64))), (11, .a (.lf (.int .i64)))], mem := [(0, some (.raw [[.lf (.int .i64), .lf (.sl (.pr (.int .i64) (.int .i64))), .lf (.sl (.int .i64))]] 3 52 true false))], nx := 1 }]
def qlU : List OS := [⟨none, { fr := [(2, .a (.lf .bool))], mem := [(0, some (.raw [[.lf (.int .i64), .lf (.sl (.pr (.int .i64) (.int .i64))), .lf (.sl (.int .i64))]] 3 52 true false)), (1, some (.raw [[.lf (.int .i64), .lf (.int .i64)]] 2 48 true false))], nx := 2 }⟩, ⟨some 0, { fr := [(1, .a (.ptr 0 0 0))], mem := [(0, some (.raw [[.lf (.int .i64), .lf (.sl (.pr (.int .i64) (.int .i64))), .lf (.sl (.int .i64))]] 3 52 true false))], nx := 1 }⟩]
def qeH (k : Nat) : LInst := ⟨0, qhL, qlU, fun x => qaL k k x.1 x.2.1 x.2.2.1 x.2.2.2.1 x.2.2.2.2.1 x.2.2.2.2.2⟩
theorem qyV (k : Nat) : qg (LOk (R := DS OS.D qlU) (fun b _ σ K => LOt Ty (kps 20) 0 b σ K []) cf (call cf k) (kps 20) Tryz.f20.ntmps k 0) 0 (lb Tryz.f20 0) :=
 qA qT (qA (qA qT qT) (qA (qA qT (qA qT (qA (qA qT qT) qT))) qT))
theorem qyW (k n : Nat) (x : DS SS.D qhL) : qaL k (n + 1) x.1 x.2.1 x.2.2.1 x.2.2.2.1 x.2.2.2.2.1 x.2.2.2.2.2 = qI SS.enc (fun σ => qJ cf (fun f a b K => COt f a b K [qhK k]) (fun b _ σ K => LOt Ty (kps 20) 0 b σ K []) Tryz.f20.ntmps 0 (lb Tryz.f20 0) σ (qQ Ty (kps 20 0) 0 qhL qlU fun x => qaL k n x.1 x.2.1 x.2.2.1 x.2.2.2.1 x.2.2.2.2.1 x.2.2.2.2.2)) qhL x := by kernel_rfl
theorem qyX (k : Nat) : qae cf (call cf k) (kps 20) Tryz.f20.ntmps k 0 0 (lb Tryz.f20 0) (qeH k) :=
 qu (c := cf) (callF := call cf k) (kp := kps 20) (nt := Tryz.f20.ntmps) (k := k) (p := 0) (b := 0) (x0 := lb Tryz.f20 0) (hs := qhL) (os := qlU) (qd (qoY k)) (qyV k) (fun n x => qaL k n x.1 x.2.1 x.2.2.1 x.2.2.2.1 x.2.2.2.2.1 x.2.2.2.2.2) (fun _ => rfl) (qyW k)
def qhM : List SS := [{ fr := [(1, .a (.ptr 0 0 0)), (20, .a (.lf (.sl (.int .i64)))), (21, .a (.lf (.int .i64))), (22, .a (.lf (.int .i64)))], mem := [(0, some (.raw [[.lf (.int .i64), .lf (.sl (.pr (.int .i64) (.int .i64))), .lf (.sl (.int .i64))]] 3 52 true false))], nx := 1 }]
def qlV : List OS := [⟨none, { fr := [(2, .a (.lf .bool))], mem := [(0, some (.raw [[.lf (.int .i64), .lf (.sl (.pr (.int .i64) (.int .i64))), .lf (.sl (.int .i64))]] 3 52 true false))], nx := 1 }⟩, ⟨some 2, { fr := [(1, .a (.ptr 0 0 0))], mem := [(0, some (.raw [[.lf (.int .i64), .lf (.sl (.pr (.int .i64) (.int .i64))), .lf (.sl (.int .i64))]] 3 52 true false))], nx := 1 }⟩]
def qfM (k : Nat) : LInst := ⟨2, qhM, qlV, fun x => qax k k x.1 x.2.1 x.2.2.1 x.2.2.2.1 x.2.2.2.2.1 x.2.2.2.2.2⟩
theorem qyY (k : Nat) : qg (LOk (R := DS OS.D qlV) (fun b _ σ K => LOt Ty (kps 20) 0 b σ K [qeH k]) cf (call cf k) (kps 20) Tryz.f20.ntmps k 0) 2 (lb Tryz.f20 1) :=
 qA qT (qA (qA qT qT) (qA (qA qT (qA qT (qA (qA qT qT) qT))) qT))
theorem qyZ (k n : Nat) (x : DS SS.D qhM) : qax k (n + 1) x.1 x.2.1 x.2.2.1 x.2.2.2.1 x.2.2.2.2.1 x.2.2.2.2.2 = qI SS.enc (fun σ => qJ cf (fun f a b K => COt f a b K [qhK k]) (fun b _ σ K => LOt Ty (kps 20) 0 b σ K [qeH k]) Tryz.f20.ntmps 2 (lb Tryz.f20 1) σ (qQ Ty (kps 20 2) 0 qhM qlV fun x => qax k n x.1 x.2.1 x.2.2.1 x.2.2.2.1 x.2.2.2.2.1 x.2.2.2.2.2)) qhM x := by kernel_rfl
theorem qy0 (k : Nat) : qae cf (call cf k) (kps 20) Tryz.f20.ntmps k 0 2 (lb Tryz.f20 1) (qfM k) :=
 qu (c := cf) (callF := call cf k) (kp := kps 20) (nt := Tryz.f20.ntmps) (k := k) (p := 0) (b := 2) (x0 := lb Tryz.f20 1) (hs := qhM) (os := qlV) (qd (qoY k)) (qyY k) (fun n x => qax k n x.1 x.2.1 x.2.2.1 x.2.2.2.1 x.2.2.2.2.1 x.2.2.2.2.2) (fun _ => rfl) (qyZ k)
def qhN : List SS := [{ fr := [(1, .a (.ptr 0 0 0)), (7, .a (.lf (.int .i64)))], mem := [(0, some (.raw [[.lf (.int .i64), .lf (.sl (.pr (.int .i64) (.int .i64))), .lf (.sl (.int .i64))]] 3 52 true false))], nx := 1 }]
def qlW : List OS := [⟨none, { fr := [(2, .a (.lf .bool))], mem := [(0, some (.raw [[.lf (.int .i64), .lf (.sl (.pr (.int .i64) (.int .i64))), .lf (.sl (.int .i64))]] 3 52 true false))], nx := 1 }⟩, ⟨some 5, { fr := [(1, .a (.ptr 0 0 0))], mem := [(0, some (.raw [[.lf (.int .i64), .lf (.sl (.pr (.int .i64) (.int .i64))), .lf (.sl (.int .i64))]] 3 52 true false))], nx := 1 }⟩]
def qgL (k : Nat) : LInst := ⟨5, qhN, qlW, fun x => qao k k x.1 x.2.1 x.2.2.1 x.2.2.2⟩
theorem qy1 (k : Nat) : qg (LOk (R := DS OS.D qlW) (fun b _ σ K => LOt Ty (kps 20) 0 b σ K [qeH k, qfM k]) cf (call cf k) (kps 20) Tryz.f20.ntmps k 0) 5 (lb Tryz.f20 2) :=
 qA (qA qT (qA qT qT)) (qA (qA qT (qA (qA qT qT) qT)) qT)
theorem qy2 (k n : Nat) (x : DS SS.D qhN) : qao k (n + 1) x.1 x.2.1 x.2.2.1 x.2.2.2 = qI SS.enc (fun σ => qJ cf (fun f a b K => COt f a b K [qhK k]) (fun b _ σ K => LOt Ty (kps 20) 0 b σ K [qeH k, qfM k]) Tryz.f20.ntmps 5 (lb Tryz.f20 2) σ (qQ Ty (kps 20 5) 0 qhN qlW fun x => qao k n x.1 x.2.1 x.2.2.1 x.2.2.2)) qhN x := by kernel_rfl
theorem qy3 (k : Nat) : qae cf (call cf k) (kps 20) Tryz.f20.ntmps k 0 5 (lb Tryz.f20 2) (qgL k) :=
 qu (c := cf) (callF := call cf k) (kp := kps 20) (nt := Tryz.f20.ntmps) (k := k) (p := 0) (b := 5) (x0 := lb Tryz.f20 2) (hs := qhN) (os := qlW) (qd (qoY k)) (qy1 k) (fun n x => qao k n x.1 x.2.1 x.2.2.1 x.2.2.2) (fun _ => rfl) (qy2 k)
theorem qCm (k : Nat) : qg (LOk (R := DS FS.D qoX) (fun b _ σ K => LOt Ty (kps 20) 0 b σ K [qeH k, qfM k, qgL k]) cf (call cf k) (cf.keep 20) Tryz.f20.ntmps k qi2.bs.length) 0 (bd Tryz.f20) :=
 qA qT (qA (qA qT (qD (c := cf) (callF := call cf k) (kp := kps 20) (nt := Tryz.f20.ntmps) (k := k) (p := 0) (b := 0) (x0 := lb Tryz.f20 0) (l := [qeH k, qfM k, qgL k]) (qA (fun _ => qyX k) (qA (fun h => absurd (show (2 : Nat) = 0 from h) (by decide)) (qA (fun h => absurd (show (5 : Nat) = 0 from h) (by decide)) qT))))) (qA (qA qT (qD (c := cf) (callF := call cf k) (kp := kps 20) (nt := Tryz.f20.ntmps) (k := k) (p := 0) (b := 2) (x0 := lb Tryz.f20 1) (l := [qeH k, qfM k, qgL k]) (qA (fun h => absurd (show (0 : Nat) = 2 from h) (by decide)) (qA (fun _ => qy0 k) (qA (fun h => absurd (show (5 : Nat) = 2 from h) (by decide)) qT))))) (qA (qA qT (qA qT (qA (qA qT qT) (qA qT (qA (qA qT qT) (qA qT (qA (qA (qA qT (qD (c := cf) (callF := call cf k) (kp := kps 20) (nt := Tryz.f20.ntmps) (k := k) (p := 0) (b := 5) (x0 := lb Tryz.f20 2) (l := [qeH k, qfM k, qgL k]) (qA (fun h => absurd (show (0 : Nat) = 5 from h) (by decide)) (qA (fun h => absurd (show (2 : Nat) = 5 from h) (by decide)) (qA (fun _ => qy3 k) qT))))) (qA qT qT)) (qA qT (qA (qA qT qT) qT))))))))) (qA qT qT))))
theorem qCn (k : Nat) (x : qi2.D) : qb9 (k + 1) x.1 x.2.1 x.2.2 = qk cf (fun f a b K => COt f a b K [qhK k]) (fun b _ σ K => LOt Ty (kps 20) 0 b σ K [qeH k, qfM k, qgL k]) 20 Tryz.f20.ntmps Tryz.f20.results.toList (bd Tryz.f20) (qi2.enc x).1 (qi2.enc x).2 (qo FS.dec qoX) := by kernel_rfl
theorem qoZ : ∀ k, qh (call cf k) (qfU k)
 | 0 => fun x y e => absurd (show (none : Option _) = some y from e) (by simp)
 | k + 1 => qe (c := cf) (k := k) (f := 20) (fn := Tryz.f20) (body := bd Tryz.f20) (sh := qi2) (os := qoX) rfl Tryz.func20 rfl ⟨rfl, Nat.le_of_ble_eq_true rfl⟩ (qd (qoY k)) (qCm k) (fun x => qb9 (k + 1) x.1 x.2.1 x.2.2) (qCn k)

def qea (k : Nat) (rec : List Int → Int → Option (List Int × Int)) (w : List Int) (n : Int) : Option (List Int × Int) :=
 if ((decide (n > (0 : Int))) = true) then
 if ((0 : Int) ≤ (IntKind.wrap .i64 (n - (1 : Int)))) then
 Option.bind (w)[(Int.toNat (IntKind.wrap .i64 (n - (1 : Int))))]? fun x1 =>
 if ((x1 == (0 : Int)) = true) then
 rec w (IntKind.wrap .i64 (n - (1 : Int)))
 else
 (some (w, n))
 else
 none
 else
 (some (w, n))
def qdk (k n : Nat) : List Int → Int → Option (List Int × Int) := Nat.rec (fun _ _ => none) (fun _ r => qea k r) n
def qhO (k : Nat) (w : List Int) : Option (List Int) :=
 Option.bind (qdk k k w (((List.length w) : Nat) : Int)) fun r2 =>
 if (((0 : Int) ≤ (0 : Int)) ∧ (((0 : Int) ≤ r2.2) ∧ (r2.2 ≤ (((List.length r2.1) : Nat) : Int)))) then
 (some (List.take (Int.toNat r2.2) r2.1))
 else
 none
def qc0 : Nat → List Int → Option (List Int)
 | 0, _ => none
 | k + 1, w => qhO k w
def qi3 : FS := { vs := [.a (.lf (.sl (.int .u32)))], bs := [] }
def qo0 : List FS := [{ vs := [.a (.lf (.sl (.int .u32)))], bs := [] }]
def qfV (k : Nat) : Inst := ⟨107, qi3, qo0, fun x => qc0 k x⟩
theorem qwO (k : Nat) : qp (call cf k) [] := True.intro
def qhP : List SS := [{ fr := [(0, .a (.lf (.sl (.int .u32)))), (3, .a (.lf (.int .i64)))], mem := [], nx := 0 }]
def qlX : List OS := [⟨some 0, { fr := [(0, .a (.lf (.sl (.int .u32)))), (3, .a (.lf (.int .i64)))], mem := [], nx := 0 }⟩]
def qlY (k : Nat) : LInst := ⟨0, qhP, qlX, fun x => qdk k k x.1 x.2⟩
theorem qy4 (k : Nat) : qg (LOk (R := DS OS.D qlX) (fun b _ σ K => LOt Ty (kps 107) 0 b σ K []) cf (call cf k) (kps 107) Tryz.f107.ntmps k 0) 0 (lb Tryz.f107 0) :=
 qA (qA qT (qA qT qT)) qT
theorem qy5 (k n : Nat) (x : DS SS.D qhP) : qdk k (n + 1) x.1 x.2 = qI SS.enc (fun σ => qJ cf (fun f a b K => COt f a b K []) (fun b _ σ K => LOt Ty (kps 107) 0 b σ K []) Tryz.f107.ntmps 0 (lb Tryz.f107 0) σ (qQ Ty (kps 107 0) 0 qhP qlX fun x => qdk k n x.1 x.2)) qhP x := by kernel_rfl
theorem qy6 (k : Nat) : qae cf (call cf k) (kps 107) Tryz.f107.ntmps k 0 0 (lb Tryz.f107 0) (qlY k) :=
 qu (c := cf) (callF := call cf k) (kp := kps 107) (nt := Tryz.f107.ntmps) (k := k) (p := 0) (b := 0) (x0 := lb Tryz.f107 0) (hs := qhP) (os := qlX) (qd (qwO k)) (qy4 k) (fun n x => qdk k n x.1 x.2) (fun _ => rfl) (qy5 k)
theorem qCo (k : Nat) : qg (LOk (R := DS FS.D qo0) (fun b _ σ K => LOt Ty (kps 107) 0 b σ K [qlY k]) cf (call cf k) (cf.keep 107) Tryz.f107.ntmps k qi3.bs.length) 0 (bd Tryz.f107) :=
 qA qT (qA qT (qA (qD (c := cf) (callF := call cf k) (kp := kps 107) (nt := Tryz.f107.ntmps) (k := k) (p := 0) (b := 0) (x0 := lb Tryz.f107 0) (l := [qlY k]) (qA (fun _ => qy6 k) qT)) (qA qT qT)))
theorem qCp (k : Nat) (x : qi3.D) : qc0 (k + 1) x = qk cf (fun f a b K => COt f a b K []) (fun b _ σ K => LOt Ty (kps 107) 0 b σ K [qlY k]) 107 Tryz.f107.ntmps Tryz.f107.results.toList (bd Tryz.f107) (qi3.enc x).1 (qi3.enc x).2 (qo FS.dec qo0) := by kernel_rfl
theorem qlZ : ∀ k, qh (call cf k) (qfV k)
 | 0 => fun x y e => absurd (show (none : Option _) = some y from e) (by simp)
 | k + 1 => qe (c := cf) (k := k) (f := 107) (fn := Tryz.f107) (body := bd Tryz.f107) (sh := qi3) (os := qo0) rfl Tryz.func107 rfl ⟨rfl, Nat.le_of_ble_eq_true rfl⟩ (qd (qwO k)) (qCo k) (fun x => qc0 (k + 1) x) (qCp k)

def qeI (k : Nat) (v : Int) : Option (Bool × List Int) :=
 if ((decide (v < (0 : Int))) = true) then
 Option.bind (qc0 k (List.take 2 ((IntKind.wrap .u32 (IntKind.wrap .u64 ((0 : Int) - (IntKind.wrap .u64 v)))) :: ((IntKind.wrap .u32 (Int.fdiv (IntKind.wrap .u64 ((0 : Int) - (IntKind.wrap .u64 v))) (4294967296 : Int))) :: [])))) fun r2 =>
 (some ((decide (v < (0 : Int))), r2))
 else
 Option.bind (qc0 k (List.take 2 ((IntKind.wrap .u32 (IntKind.wrap .u64 v)) :: ((IntKind.wrap .u32 (Int.fdiv (IntKind.wrap .u64 v) (4294967296 : Int))) :: [])))) fun r2 =>
 (some ((decide (v < (0 : Int))), r2))
def qaI : Nat → Int → Option (Bool × List Int)
 | 0, _ => none
 | k + 1, v => qeI k v
def qi4 : FS := { vs := [.a (.lf (.int .i64))], bs := [] }
def qo1 : List FS := [{ vs := [.a (.ptr 0 0 0)], bs := [.raw [[.lf .bool, .lf (.sl (.int .u32))]] 2 72 true false] }]
def qfW (k : Nat) : Inst := ⟨71, qi4, qo1, fun x => qaI k x⟩
theorem qCq (k : Nat) : qp (call cf k) [qfV k] := qA (qlZ k) qT
theorem qCr (k : Nat) : qg (LOk (R := DS FS.D qo1) (fun b _ σ K => LOt Ty (kps 71) 0 b σ K []) cf (call cf k) (cf.keep 71) Tryz.f71.ntmps k qi4.bs.length) 0 (bd Tryz.f71) :=
 qA qT (qA qT (qA (qA qT (qA qT qT)) (qA qT qT)))
theorem qCs (k : Nat) (x : qi4.D) : qaI (k + 1) x = qk cf (fun f a b K => COt f a b K [qfV k]) (fun b _ σ K => LOt Ty (kps 71) 0 b σ K []) 71 Tryz.f71.ntmps Tryz.f71.results.toList (bd Tryz.f71) (qi4.enc x).1 (qi4.enc x).2 (qo FS.dec qo1) := by kernel_rfl
theorem ql0 : ∀ k, qh (call cf k) (qfW k)
 | 0 => fun x y e => absurd (show (none : Option _) = some y from e) (by simp)
 | k + 1 => qe (c := cf) (k := k) (f := 71) (fn := Tryz.f71) (body := bd Tryz.f71) (sh := qi4) (os := qo1) rfl Tryz.func71 rfl ⟨rfl, Nat.le_of_ble_eq_true rfl⟩ (qd (qCq k)) (qCr k) (fun x => qaI (k + 1) x) (qCs k)

def qeT (k : Nat) (neg : Bool) (w : List Int) (z0 : Bool) (z1 : List Int) : Option (Bool × List Int) :=
 Option.bind (qc0 k w) fun r5 =>
 if (neg = true) then
 (some ((decide ((((List.length r5) : Nat) : Int) > (0 : Int))), r5))
 else
 (some (false, r5))
def qaz : Nat → Bool → List Int → Bool → List Int → Option (Bool × List Int)
 | 0, _, _, _, _ => none
 | k + 1, neg, w, z0, z1 => qeT k neg w z0 z1
def qi5 : FS := { vs := [.a (.ptr 0 0 0), .a (.lf .bool), .a (.lf (.sl (.int .u32)))], bs := [.raw [[.lf .bool, .lf (.sl (.int .u32))]] 2 72 true false] }
def qo2 : List FS := [{ vs := [.a (.ptr 0 0 0)], bs := [.raw [[.lf .bool, .lf (.sl (.int .u32))]] 2 72 true false] }]
def qhi (k : Nat) : Inst := ⟨110, qi5, qo2, fun x => qaz k x.1 x.2.1 x.2.2.1 x.2.2.2⟩
theorem qCt (k : Nat) : qp (call cf k) [qfV k] := qA (qlZ k) qT
theorem qCu (k : Nat) : qg (LOk (R := DS FS.D qo2) (fun b _ σ K => LOt Ty (kps 110) 1 b σ K []) cf (call cf k) (cf.keep 110) Tryz.f110.ntmps k qi5.bs.length) 0 (bd Tryz.f110) :=
 qA qT (qA qT (qA qT (qA qT qT)))
theorem qCv (k : Nat) (x : qi5.D) : qaz (k + 1) x.1 x.2.1 x.2.2.1 x.2.2.2 = qk cf (fun f a b K => COt f a b K [qfV k]) (fun b _ σ K => LOt Ty (kps 110) 1 b σ K []) 110 Tryz.f110.ntmps Tryz.f110.results.toList (bd Tryz.f110) (qi5.enc x).1 (qi5.enc x).2 (qo FS.dec qo2) := by kernel_rfl
theorem qs1 : ∀ k, qh (call cf k) (qhi k)
 | 0 => fun x y e => absurd (show (none : Option _) = some y from e) (by simp)
 | k + 1 => qe (c := cf) (k := k) (f := 110) (fn := Tryz.f110) (body := bd Tryz.f110) (sh := qi5) (os := qo2) rfl Tryz.func110 rfl ⟨rfl, Nat.le_of_ble_eq_true rfl⟩ (qd (qCt k)) (qCu k) (fun x => qaz (k + 1) x.1 x.2.1 x.2.2.1 x.2.2.2) (qCv k)

def qdY (k : Nat) (rec : Nat → Int → Int → Int → List Int → Int → Int → List Int → Int → Int → Bool → List Int → Bool → List Int → List Int → Option (Nat × Int × Int × List Int × Int × Int × Bool × List Int × Bool × List Int × List Int)) (out1 : Nat) (i : Int) (a : Int) (carry : Int) (x : List Int) (x1 : Int) (x2 : Int) (x3 : List Int) (x4 : Int) (x5 : Int) (x0 : Bool) (x11 : List Int) (y0 : Bool) (y1 : List Int) (outs : List Int) : Option (Nat × Int × Int × List Int × Int × Int × Bool × List Int × Bool × List Int × List Int) :=
 if ((decide (x5 < x4)) = true) then
 if ((0 : Int) ≤ x5) then
 Option.bind (x3)[(Int.toNat x5)]? fun x6 =>
 if (((0 : Int) ≤ (IntKind.wrap .i64 (i + x5))) ∧ ((IntKind.wrap .i64 (i + x5)) < ((out1 : Nat) : Int))) then
 Option.bind (outs)[(0 + (Int.toNat (IntKind.wrap .i64 (i + x5))))]? fun x7 =>
 if (((0 : Int) ≤ (IntKind.wrap .i64 (i + x5))) ∧ ((IntKind.wrap .i64 (i + x5)) < ((out1 : Nat) : Int))) then
 Option.bind (outs)[(0 + (Int.toNat (IntKind.wrap .i64 (i + x5))))]? fun x8 =>
 rec out1 i a (Int.fdiv (IntKind.wrap .u64 ((IntKind.wrap .u64 ((IntKind.wrap .u64 ((IntKind.wrap .u64 a) * (IntKind.wrap .u64 x6))) + (IntKind.wrap .u64 x7))) + carry)) (4294967296 : Int)) x x1 x2 x3 x4 (IntKind.wrap .i64 (x5 + (1 : Int))) x0 x11 y0 y1 (List.set outs (0 + (Int.toNat (IntKind.wrap .i64 (i + x5)))) (IntKind.wrap .u32 (IntKind.wrap .u64 ((IntKind.wrap .u64 ((IntKind.wrap .u64 ((IntKind.wrap .u64 a) * (IntKind.wrap .u64 x6))) + (IntKind.wrap .u64 x7))) + carry))))
 else
 none
 else
 none
 else
 none
 else
 (some (out1, i, carry, x, x1, x2, x0, x11, y0, y1, outs))
def qbq (k n : Nat) : Nat → Int → Int → Int → List Int → Int → Int → List Int → Int → Int → Bool → List Int → Bool → List Int → List Int → Option (Nat × Int × Int × List Int × Int × Int × Bool × List Int × Bool × List Int × List Int) := Nat.rec (fun _ _ _ _ _ _ _ _ _ _ _ _ _ _ _ => none) (fun _ r => qdY k r) n
def qdZ (k : Nat) (rec : Nat → List Int → Int → Int → Bool → List Int → Bool → List Int → List Int → Option (Nat × Bool × List Int × Bool × List Int × List Int)) (out1 : Nat) (x : List Int) (x1 : Int) (x2 : Int) (x0 : Bool) (x11 : List Int) (y0 : Bool) (y1 : List Int) (outs : List Int) : Option (Nat × Bool × List Int × Bool × List Int × List Int) :=
 if ((decide (x2 < x1)) = true) then
 if ((0 : Int) ≤ x2) then
 Option.bind (x)[(Int.toNat x2)]? fun x3 =>
 Option.bind (qbq k k out1 x2 x3 (0 : Int) x x1 x2 y1 (((List.length y1) : Nat) : Int) (0 : Int) x0 x11 y0 y1 outs) fun r4 =>
 if (((0 : Int) ≤ (IntKind.wrap .i64 (r4.2.1 + (((List.length r4.2.2.2.2.2.2.2.2.2.1) : Nat) : Int)))) ∧ ((IntKind.wrap .i64 (r4.2.1 + (((List.length r4.2.2.2.2.2.2.2.2.2.1) : Nat) : Int))) < ((r4.1 : Nat) : Int))) then
 Option.bind (r4.2.2.2.2.2.2.2.2.2.2)[(0 + (Int.toNat (IntKind.wrap .i64 (r4.2.1 + (((List.length r4.2.2.2.2.2.2.2.2.2.1) : Nat) : Int)))))]? fun x4 =>
 rec r4.1 r4.2.2.2.1 r4.2.2.2.2.1 (IntKind.wrap .i64 (r4.2.2.2.2.2.1 + (1 : Int))) r4.2.2.2.2.2.2.1 r4.2.2.2.2.2.2.2.1 r4.2.2.2.2.2.2.2.2.1 r4.2.2.2.2.2.2.2.2.2.1 (List.set r4.2.2.2.2.2.2.2.2.2.2 (0 + (Int.toNat (IntKind.wrap .i64 (r4.2.1 + (((List.length r4.2.2.2.2.2.2.2.2.2.1) : Nat) : Int))))) (IntKind.wrap .u32 r4.2.2.1))
 else
 none
 else
 none
 else
 (some (out1, x0, x11, y0, y1, outs))
def qaY (k n : Nat) : Nat → List Int → Int → Int → Bool → List Int → Bool → List Int → List Int → Option (Nat × Bool × List Int × Bool × List Int × List Int) := Nat.rec (fun _ _ _ _ _ _ _ _ _ => none) (fun _ r => qdZ k r) n
def qeU (k : Nat) (x0 : Bool) (x1 : List Int) (y0 : Bool) (y1 : List Int) : Option (Bool × List Int × Bool × List Int) :=
 if (((0 : Int) ≤ (IntKind.wrap .i64 ((((List.length x1) : Nat) : Int) + (((List.length y1) : Nat) : Int)))) ∧ (((IntKind.wrap .i64 ((((List.length x1) : Nat) : Int) + (((List.length y1) : Nat) : Int))) ≤ (IntKind.wrap .i64 ((((List.length x1) : Nat) : Int) + (((List.length y1) : Nat) : Int)))) ∧ (((IntKind.wrap .i64 ((((List.length x1) : Nat) : Int) + (((List.length y1) : Nat) : Int))) * (4 : Int)) ≤ (140737488355328 : Int)))) then
 Option.bind (qaY k k (Int.toNat (IntKind.wrap .i64 ((((List.length x1) : Nat) : Int) + (((List.length y1) : Nat) : Int)))) x1 (((List.length x1) : Nat) : Int) (0 : Int) x0 x1 y0 y1 (List.replicate (Int.toNat (IntKind.wrap .i64 ((((List.length x1) : Nat) : Int) + (((List.length y1) : Nat) : Int)))) (0 : Int))) fun r4 =>
 if ((0 + r4.1) ≤ (List.length r4.2.2.2.2.2)) then
 Option.bind (qaz k (!(r4.2.1 == r4.2.2.2.1)) (List.take r4.1 r4.2.2.2.2.2) r4.2.1 r4.2.2.1) fun r5 =>
 (some (r5.1, r5.2, r4.2.2.2.1, r4.2.2.2.2.1))
 else
 none
 else
 none
def qbS : Nat → Bool → List Int → Bool → List Int → Option (Bool × List Int × Bool × List Int)
 | 0, _, _, _, _ => none
 | k + 1, x0, x1, y0, y1 => qeU k x0 x1 y0 y1
def qnR : FS := { vs := [.a (.ptr 0 0 0), .a (.ptr 0 0 0), .a (.ptr 1 0 0)], bs := [.raw [[.lf .bool, .lf (.sl (.int .u32))]] 2 72 true false, .raw [[.lf .bool, .lf (.sl (.int .u32))]] 2 72 true false] }
def qs2 : List FS := [{ vs := [.a (.ptr 0 0 0)], bs := [.raw [[.lf .bool, .lf (.sl (.int .u32))]] 2 72 true false, .raw [[.lf .bool, .lf (.sl (.int .u32))]] 2 72 true false] }]
def Iq8 (k : Nat) : Inst := ⟨75, qnR, qs2, fun x => qbS k x.1 x.2.1 x.2.2.1 x.2.2.2⟩
theorem qvs (k : Nat) : qp (call cf k) [qhi k] := qA (qs1 k) qT
def qhQ : List SS := [{ fr := [(0, .a (.ptr 0 0 0)), (1, .a (.ptr 0 0 0)), (2, .a (.ptr 1 0 0)), (7, .a (.smz 2)), (8, .a (.lf (.int .i64))), (9, .a (.lf (.int .u32))), (10, .a (.lf (.int .u64))), (29, .a (.lf (.sl (.int .u32)))), (30, .a (.lf (.int .i64))), (31, .a (.lf (.int .i64))), (39, .a (.lf (.sl (.int .u32)))), (40, .a (.lf (.int .i64))), (41, .a (.lf (.int .i64)))], mem := [(0, some (.raw [[.lf .bool, .lf (.sl (.int .u32))]] 2 72 true false)), (1, some (.raw [[.lf .bool, .lf (.sl (.int .u32))]] 2 72 true false)), (2, some (.arr (.int .u32) 1 68 false))], nx := 3 }]
def ql1 : List OS := [⟨some 2, { fr := [(0, .a (.ptr 0 0 0)), (1, .a (.ptr 0 0 0)), (2, .a (.ptr 1 0 0)), (7, .a (.smz 2)), (8, .a (.lf (.int .i64))), (10, .a (.lf (.int .u64))), (29, .a (.lf (.sl (.int .u32)))), (30, .a (.lf (.int .i64))), (31, .a (.lf (.int .i64)))], mem := [(0, some (.raw [[.lf .bool, .lf (.sl (.int .u32))]] 2 72 true false)), (1, some (.raw [[.lf .bool, .lf (.sl (.int .u32))]] 2 72 true false)), (2, some (.arr (.int .u32) 1 68 false))], nx := 3 }⟩]
def qga (k : Nat) : LInst := ⟨2, qhQ, ql1, fun x => qbq k k x.1 x.2.1 x.2.2.1 x.2.2.2.1 x.2.2.2.2.1 x.2.2.2.2.2.1 x.2.2.2.2.2.2.1 x.2.2.2.2.2.2.2.1 x.2.2.2.2.2.2.2.2.1 x.2.2.2.2.2.2.2.2.2.1 x.2.2.2.2.2.2.2.2.2.2.1 x.2.2.2.2.2.2.2.2.2.2.2.1 x.2.2.2.2.2.2.2.2.2.2.2.2.1 x.2.2.2.2.2.2.2.2.2.2.2.2.2.1 x.2.2.2.2.2.2.2.2.2.2.2.2.2.2⟩
theorem qy7 (k : Nat) : qg (LOk (R := DS OS.D ql1) (fun b _ σ K => LOt Ty (kps 75) 2 b σ K []) cf (call cf k) (kps 75) Tryz.f75.ntmps k 2) 2 (lb Tryz.f75 1) :=
 qA qT (qA (qA qT qT) (qA (qA qT (qA qT (qA qT qT))) qT))
theorem qy8 (k n : Nat) (x : DS SS.D qhQ) : qbq k (n + 1) x.1 x.2.1 x.2.2.1 x.2.2.2.1 x.2.2.2.2.1 x.2.2.2.2.2.1 x.2.2.2.2.2.2.1 x.2.2.2.2.2.2.2.1 x.2.2.2.2.2.2.2.2.1 x.2.2.2.2.2.2.2.2.2.1 x.2.2.2.2.2.2.2.2.2.2.1 x.2.2.2.2.2.2.2.2.2.2.2.1 x.2.2.2.2.2.2.2.2.2.2.2.2.1 x.2.2.2.2.2.2.2.2.2.2.2.2.2.1 x.2.2.2.2.2.2.2.2.2.2.2.2.2.2 = qI SS.enc (fun σ => qJ cf (fun f a b K => COt f a b K [qhi k]) (fun b _ σ K => LOt Ty (kps 75) 2 b σ K []) Tryz.f75.ntmps 2 (lb Tryz.f75 1) σ (qQ Ty (kps 75 2) 2 qhQ ql1 fun x => qbq k n x.1 x.2.1 x.2.2.1 x.2.2.2.1 x.2.2.2.2.1 x.2.2.2.2.2.1 x.2.2.2.2.2.2.1 x.2.2.2.2.2.2.2.1 x.2.2.2.2.2.2.2.2.1 x.2.2.2.2.2.2.2.2.2.1 x.2.2.2.2.2.2.2.2.2.2.1 x.2.2.2.2.2.2.2.2.2.2.2.1 x.2.2.2.2.2.2.2.2.2.2.2.2.1 x.2.2.2.2.2.2.2.2.2.2.2.2.2.1 x.2.2.2.2.2.2.2.2.2.2.2.2.2.2)) qhQ x := by kernel_rfl
theorem qy9 (k : Nat) : qae cf (call cf k) (kps 75) Tryz.f75.ntmps k 2 2 (lb Tryz.f75 1) (qga k) :=
 qu (c := cf) (callF := call cf k) (kp := kps 75) (nt := Tryz.f75.ntmps) (k := k) (p := 2) (b := 2) (x0 := lb Tryz.f75 1) (hs := qhQ) (os := ql1) (qd (qvs k)) (qy7 k) (fun n x => qbq k n x.1 x.2.1 x.2.2.1 x.2.2.2.1 x.2.2.2.2.1 x.2.2.2.2.2.1 x.2.2.2.2.2.2.1 x.2.2.2.2.2.2.2.1 x.2.2.2.2.2.2.2.2.1 x.2.2.2.2.2.2.2.2.2.1 x.2.2.2.2.2.2.2.2.2.2.1 x.2.2.2.2.2.2.2.2.2.2.2.1 x.2.2.2.2.2.2.2.2.2.2.2.2.1 x.2.2.2.2.2.2.2.2.2.2.2.2.2.1 x.2.2.2.2.2.2.2.2.2.2.2.2.2.2) (fun _ => rfl) (qy8 k)
def qhR : List SS := [{ fr := [(0, .a (.ptr 0 0 0)), (1, .a (.ptr 0 0 0)), (2, .a (.ptr 1 0 0)), (7, .a (.smz 2)), (29, .a (.lf (.sl (.int .u32)))), (30, .a (.lf (.int .i64))), (31, .a (.lf (.int .i64)))], mem := [(0, some (.raw [[.lf .bool, .lf (.sl (.int .u32))]] 2 72 true false)), (1, some (.raw [[.lf .bool, .lf (.sl (.int .u32))]] 2 72 true false)), (2, some (.arr (.int .u32) 1 68 false))], nx := 3 }]
def ql2 : List OS := [⟨some 0, { fr := [(0, .a (.ptr 0 0 0)), (1, .a (.ptr 0 0 0)), (2, .a (.ptr 1 0 0)), (7, .a (.smz 2))], mem := [(0, some (.raw [[.lf .bool, .lf (.sl (.int .u32))]] 2 72 true false)), (1, some (.raw [[.lf .bool, .lf (.sl (.int .u32))]] 2 72 true false)), (2, some (.arr (.int .u32) 1 68 false))], nx := 3 }⟩]
def ql3 (k : Nat) : LInst := ⟨0, qhR, ql2, fun x => qaY k k x.1 x.2.1 x.2.2.1 x.2.2.2.1 x.2.2.2.2.1 x.2.2.2.2.2.1 x.2.2.2.2.2.2.1 x.2.2.2.2.2.2.2.1 x.2.2.2.2.2.2.2.2⟩
theorem qza (k : Nat) : qg (LOk (R := DS OS.D ql2) (fun b _ σ K => LOt Ty (kps 75) 2 b σ K [qga k]) cf (call cf k) (kps 75) Tryz.f75.ntmps k 2) 0 (lb Tryz.f75 0) :=
 qA qT (qA (qA qT qT) (qA (qA qT (qA qT (qA (qA qT (qD (c := cf) (callF := call cf k) (kp := kps 75) (nt := Tryz.f75.ntmps) (k := k) (p := 2) (b := 2) (x0 := lb Tryz.f75 1) (l := [qga k]) (qA (fun _ => qy9 k) qT))) qT))) qT))
theorem qzb (k n : Nat) (x : DS SS.D qhR) : qaY k (n + 1) x.1 x.2.1 x.2.2.1 x.2.2.2.1 x.2.2.2.2.1 x.2.2.2.2.2.1 x.2.2.2.2.2.2.1 x.2.2.2.2.2.2.2.1 x.2.2.2.2.2.2.2.2 = qI SS.enc (fun σ => qJ cf (fun f a b K => COt f a b K [qhi k]) (fun b _ σ K => LOt Ty (kps 75) 2 b σ K [qga k]) Tryz.f75.ntmps 0 (lb Tryz.f75 0) σ (qQ Ty (kps 75 0) 2 qhR ql2 fun x => qaY k n x.1 x.2.1 x.2.2.1 x.2.2.2.1 x.2.2.2.2.1 x.2.2.2.2.2.1 x.2.2.2.2.2.2.1 x.2.2.2.2.2.2.2.1 x.2.2.2.2.2.2.2.2)) qhR x := by kernel_rfl
theorem qzc (k : Nat) : qae cf (call cf k) (kps 75) Tryz.f75.ntmps k 2 0 (lb Tryz.f75 0) (ql3 k) :=
 qu (c := cf) (callF := call cf k) (kp := kps 75) (nt := Tryz.f75.ntmps) (k := k) (p := 2) (b := 0) (x0 := lb Tryz.f75 0) (hs := qhR) (os := ql2) (qd (qvs k)) (qza k) (fun n x => qaY k n x.1 x.2.1 x.2.2.1 x.2.2.2.1 x.2.2.2.2.1 x.2.2.2.2.2.1 x.2.2.2.2.2.2.1 x.2.2.2.2.2.2.2.1 x.2.2.2.2.2.2.2.2) (fun _ => rfl) (qzb k)
theorem qG4 (k : Nat) : qg (LOk (R := DS FS.D qs2) (fun b _ σ K => LOt Ty (kps 75) 2 b σ K [qga k, ql3 k]) cf (call cf k) (cf.keep 75) Tryz.f75.ntmps k qnR.bs.length) 0 (bd Tryz.f75) :=
 qA qT (qA qT (qA (qA qT (qD (c := cf) (callF := call cf k) (kp := kps 75) (nt := Tryz.f75.ntmps) (k := k) (p := 2) (b := 0) (x0 := lb Tryz.f75 0) (l := [qga k, ql3 k]) (qA (fun h => absurd (show (2 : Nat) = 0 from h) (by decide)) (qA (fun _ => qzc k) qT)))) (qA qT qT)))
theorem qG5 (k : Nat) (x : qnR.D) : qbS (k + 1) x.1 x.2.1 x.2.2.1 x.2.2.2 = qk cf (fun f a b K => COt f a b K [qhi k]) (fun b _ σ K => LOt Ty (kps 75) 2 b σ K [qga k, ql3 k]) 75 Tryz.f75.ntmps Tryz.f75.results.toList (bd Tryz.f75) (qnR.enc x).1 (qnR.enc x).2 (qo FS.dec qs2) := by kernel_rfl
theorem qzd : ∀ k, qh (call cf k) (Iq8 k)
 | 0 => fun x y e => absurd (show (none : Option _) = some y from e) (by simp)
 | k + 1 => qe (c := cf) (k := k) (f := 75) (fn := Tryz.f75) (body := bd Tryz.f75) (sh := qnR) (os := qs2) rfl Tryz.func75 rfl ⟨rfl, Nat.le_of_ble_eq_true rfl⟩ (qd (qvs k)) (qG4 k) (fun x => qbS (k + 1) x.1 x.2.1 x.2.2.1 x.2.2.2) (qG5 k)

def qeJ (k : Nat) (rec : Int → Int → Bool → List Int → Bool → List Int → Option (Bool × List Int × Bool × List Int)) (x : Int) (x1 : Int) (z0 : Bool) (z1 : List Int) (ten0 : Bool) (ten1 : List Int) : Option (Bool × List Int × Bool × List Int) :=
 if ((decide (x1 < x)) = true) then
 Option.bind (qbS k z0 z1 ten0 ten1) fun r4 =>
 rec x (IntKind.wrap .i64 (x1 + (1 : Int))) r4.1 r4.2.1 r4.2.2.1 r4.2.2.2
 else
 (some (z0, z1, ten0, ten1))
def qcR (k n : Nat) : Int → Int → Bool → List Int → Bool → List Int → Option (Bool × List Int × Bool × List Int) := Nat.rec (fun _ _ _ _ _ _ => none) (fun _ r => qeJ k r) n
def qvt (k : Nat) (k1 : Int) : Option (Bool × List Int) :=
 Option.bind (qaI k (1 : Int)) fun r2 =>
 Option.bind (qaI k (10 : Int)) fun r3 =>
 Option.bind (qcR k k k1 (0 : Int) r2.1 r2.2 r3.1 r3.2) fun r4 =>
 (some (r4.1, r4.2.1))
def qfw : Nat → Int → Option (Bool × List Int)
 | 0, _ => none
 | k + 1, k1 => qvt k k1
def qi6 : FS := { vs := [.a (.lf (.int .i64))], bs := [] }
def qo3 : List FS := [{ vs := [.a (.ptr 0 0 0)], bs := [.raw [[.lf .bool, .lf (.sl (.int .u32))]] 2 72 true false] }]
def qvu (k : Nat) : Inst := ⟨124, qi6, qo3, fun x => qfw k x⟩
theorem qwP (k : Nat) : qp (call cf k) [qfW k, Iq8 k] := qA (ql0 k) (qA (qzd k) qT)
def qhS : List SS := [{ fr := [(3, .a (.ptr 0 0 0)), (4, .a (.ptr 1 0 0)), (7, .a (.lf (.int .i64))), (8, .a (.lf (.int .i64)))], mem := [(0, some (.raw [[.lf .bool, .lf (.sl (.int .u32))]] 2 72 true false)), (1, some (.raw [[.lf .bool, .lf (.sl (.int .u32))]] 2 72 true false))], nx := 2 }]
def ql4 : List OS := [⟨some 0, { fr := [(3, .a (.ptr 0 0 0))], mem := [(0, some (.raw [[.lf .bool, .lf (.sl (.int .u32))]] 2 72 true false)), (1, some (.raw [[.lf .bool, .lf (.sl (.int .u32))]] 2 72 true false))], nx := 2 }⟩]
def ql5 (k : Nat) : LInst := ⟨0, qhS, ql4, fun x => qcR k k x.1 x.2.1 x.2.2.1 x.2.2.2.1 x.2.2.2.2.1 x.2.2.2.2.2⟩
theorem qze (k : Nat) : qg (LOk (R := DS OS.D ql4) (fun b _ σ K => LOt Ty (kps 124) 0 b σ K []) cf (call cf k) (kps 124) Tryz.f124.ntmps k 0) 0 (lb Tryz.f124 0) :=
 qA qT (qA (qA qT qT) (qA qT qT))
theorem qzf (k n : Nat) (x : DS SS.D qhS) : qcR k (n + 1) x.1 x.2.1 x.2.2.1 x.2.2.2.1 x.2.2.2.2.1 x.2.2.2.2.2 = qI SS.enc (fun σ => qJ cf (fun f a b K => COt f a b K [qfW k, Iq8 k]) (fun b _ σ K => LOt Ty (kps 124) 0 b σ K []) Tryz.f124.ntmps 0 (lb Tryz.f124 0) σ (qQ Ty (kps 124 0) 0 qhS ql4 fun x => qcR k n x.1 x.2.1 x.2.2.1 x.2.2.2.1 x.2.2.2.2.1 x.2.2.2.2.2)) qhS x := by kernel_rfl
theorem qzg (k : Nat) : qae cf (call cf k) (kps 124) Tryz.f124.ntmps k 0 0 (lb Tryz.f124 0) (ql5 k) :=
 qu (c := cf) (callF := call cf k) (kp := kps 124) (nt := Tryz.f124.ntmps) (k := k) (p := 0) (b := 0) (x0 := lb Tryz.f124 0) (hs := qhS) (os := ql4) (qd (qwP k)) (qze k) (fun n x => qcR k n x.1 x.2.1 x.2.2.1 x.2.2.2.1 x.2.2.2.2.1 x.2.2.2.2.2) (fun _ => rfl) (qzf k)
theorem qCw (k : Nat) : qg (LOk (R := DS FS.D qo3) (fun b _ σ K => LOt Ty (kps 124) 0 b σ K [ql5 k]) cf (call cf k) (cf.keep 124) Tryz.f124.ntmps k qi6.bs.length) 0 (bd Tryz.f124) :=
 qA qT (qA qT (qA (qA qT (qD (c := cf) (callF := call cf k) (kp := kps 124) (nt := Tryz.f124.ntmps) (k := k) (p := 0) (b := 0) (x0 := lb Tryz.f124 0) (l := [ql5 k]) (qA (fun _ => qzg k) qT))) (qA qT qT)))
theorem qCx (k : Nat) (x : qi6.D) : qfw (k + 1) x = qk cf (fun f a b K => COt f a b K [qfW k, Iq8 k]) (fun b _ σ K => LOt Ty (kps 124) 0 b σ K [ql5 k]) 124 Tryz.f124.ntmps Tryz.f124.results.toList (bd Tryz.f124) (qi6.enc x).1 (qi6.enc x).2 (qo FS.dec qo3) := by kernel_rfl
theorem qCy : ∀ k, qh (call cf k) (qvu k)
 | 0 => fun x y e => absurd (show (none : Option _) = some y from e) (by simp)
 | k + 1 => qe (c := cf) (k := k) (f := 124) (fn := Tryz.f124) (body := bd Tryz.f124) (sh := qi6) (os := qo3) rfl Tryz.func124 rfl ⟨rfl, Nat.le_of_ble_eq_true rfl⟩ (qd (qwP k)) (qCw k) (fun x => qfw (k + 1) x) (qCx k)

def qcS (k : Nat) (rec : List Int → List Int → Int → Option ((Int) ⊕ (Unit))) (a : List Int) (b : List Int) (i : Int) : Option ((Int) ⊕ (Unit)) :=
 if ((decide (i ≥ (0 : Int))) = true) then
 if ((0 : Int) ≤ i) then
 Option.bind (a)[(Int.toNat i)]? fun x2 =>
 if ((0 : Int) ≤ i) then
 Option.bind (b)[(Int.toNat i)]? fun x3 =>
 if ((x2 != x3) = true) then
 if ((0 : Int) ≤ i) then
 Option.bind (a)[(Int.toNat i)]? fun x4 =>
 if ((0 : Int) ≤ i) then
 Option.bind (b)[(Int.toNat i)]? fun x5 =>
 if ((decide (x4 < x5)) = true) then
 (some (Sum.inl (-(1 : Int))))
 else
 (some (Sum.inl (1 : Int)))
 else
 none
 else
 none
 else
 rec a b (IntKind.wrap .i64 (i - (1 : Int)))
 else
 none
 else
 none
 else
 (some (Sum.inr ()))
def qcT (k n : Nat) : List Int → List Int → Int → Option ((Int) ⊕ (Unit)) := Nat.rec (fun _ _ _ => none) (fun _ r => qcS k r) n
def qkV (k : Nat) (a : List Int) (b : List Int) : Option (Int) :=
 if (((((List.length a) : Nat) : Int) != (((List.length b) : Nat) : Int)) = true) then
 if ((decide ((((List.length a) : Nat) : Int) < (((List.length b) : Nat) : Int))) = true) then
 (some (-(1 : Int)))
 else
 (some (1 : Int))
 else
 Option.bind (qcT k k a b (IntKind.wrap .i64 ((((List.length a) : Nat) : Int) - (1 : Int)))) fun r4 =>
 qc r4
 (fun r4 =>
 (some r4))
 (fun r4 =>
 (some (0 : Int)))
def qeb : Nat → List Int → List Int → Option (Int)
 | 0, _, _ => none
 | k + 1, a, b => qkV k a b
def qi7 : FS := { vs := [.a (.lf (.sl (.int .u32))), .a (.lf (.sl (.int .u32)))], bs := [] }
def qo4 : List FS := [{ vs := [.a (.lf (.int .i64))], bs := [] }]
def qkW (k : Nat) : Inst := ⟨117, qi7, qo4, fun x => qeb k x.1 x.2⟩
theorem qwQ (k : Nat) : qp (call cf k) [] := True.intro
def qhT : List SS := [{ fr := [(0, .a (.lf (.sl (.int .u32)))), (1, .a (.lf (.sl (.int .u32)))), (5, .a (.lf (.int .i64)))], mem := [], nx := 0 }]
def ql6 : List OS := [⟨none, { fr := [(4, .a (.lf (.int .i64)))], mem := [], nx := 0 }⟩, ⟨some 0, { fr := [], mem := [], nx := 0 }⟩]
def ql7 (k : Nat) : LInst := ⟨0, qhT, ql6, fun x => qcT k k x.1 x.2.1 x.2.2⟩
theorem qzh (k : Nat) : qg (LOk (R := DS OS.D ql6) (fun b _ σ K => LOt Ty (kps 117) 0 b σ K []) cf (call cf k) (kps 117) Tryz.f117.ntmps k 0) 0 (lb Tryz.f117 0) :=
 qA (qA qT (qA qT qT)) (qA (qA qT (qA (qA (qA qT (qA (qA qT qT) qT)) (qA qT qT)) qT)) qT)
theorem qzi (k n : Nat) (x : DS SS.D qhT) : qcT k (n + 1) x.1 x.2.1 x.2.2 = qI SS.enc (fun σ => qJ cf (fun f a b K => COt f a b K []) (fun b _ σ K => LOt Ty (kps 117) 0 b σ K []) Tryz.f117.ntmps 0 (lb Tryz.f117 0) σ (qQ Ty (kps 117 0) 0 qhT ql6 fun x => qcT k n x.1 x.2.1 x.2.2)) qhT x := by kernel_rfl
theorem qzj (k : Nat) : qae cf (call cf k) (kps 117) Tryz.f117.ntmps k 0 0 (lb Tryz.f117 0) (ql7 k) :=
 qu (c := cf) (callF := call cf k) (kp := kps 117) (nt := Tryz.f117.ntmps) (k := k) (p := 0) (b := 0) (x0 := lb Tryz.f117 0) (hs := qhT) (os := ql6) (qd (qwQ k)) (qzh k) (fun n x => qcT k n x.1 x.2.1 x.2.2) (fun _ => rfl) (qzi k)
theorem qCz (k : Nat) : qg (LOk (R := DS FS.D qo4) (fun b _ σ K => LOt Ty (kps 117) 0 b σ K [ql7 k]) cf (call cf k) (cf.keep 117) Tryz.f117.ntmps k qi7.bs.length) 0 (bd Tryz.f117) :=
 qA qT (qA (qA qT (qA (qA (qA qT (qA (qA qT qT) qT)) (qA qT qT)) qT)) (qA (qA qT (qD (c := cf) (callF := call cf k) (kp := kps 117) (nt := Tryz.f117.ntmps) (k := k) (p := 0) (b := 0) (x0 := lb Tryz.f117 0) (l := [ql7 k]) (qA (fun _ => qzj k) qT))) (qA qT qT)))
theorem qCA (k : Nat) (x : qi7.D) : qeb (k + 1) x.1 x.2 = qk cf (fun f a b K => COt f a b K []) (fun b _ σ K => LOt Ty (kps 117) 0 b σ K [ql7 k]) 117 Tryz.f117.ntmps Tryz.f117.results.toList (bd Tryz.f117) (qi7.enc x).1 (qi7.enc x).2 (qo FS.dec qo4) := by kernel_rfl
theorem qs3 : ∀ k, qh (call cf k) (qkW k)
 | 0 => fun x y e => absurd (show (none : Option _) = some y from e) (by simp)
 | k + 1 => qe (c := cf) (k := k) (f := 117) (fn := Tryz.f117) (body := bd Tryz.f117) (sh := qi7) (os := qo4) rfl Tryz.func117 rfl ⟨rfl, Nat.le_of_ble_eq_true rfl⟩ (qd (qwQ k)) (qCz k) (fun x => qeb (k + 1) x.1 x.2) (qCA k)

def qdR (k : Nat) (rec : List Int → Int → Nat → Int → Int → List Int → Option (Nat × Int × List Int)) (a : List Int) (d : Int) (q : Nat) (r : Int) (i : Int) (qs : List Int) : Option (Nat × Int × List Int) :=
 if ((decide (i ≥ (0 : Int))) = true) then
 if ((0 : Int) ≤ i) then
 Option.bind (a)[(Int.toNat i)]? fun x3 =>
 if ((IntKind.wrap .u64 d) = (0 : Int)) then
 none
 else
 if (((0 : Int) ≤ i) ∧ (i < ((q : Nat) : Int))) then
 Option.bind (qs)[(0 + (Int.toNat i))]? fun x4 =>
 if ((IntKind.wrap .u64 d) = (0 : Int)) then
 none
 else
 rec a d q (Int.tmod (IntKind.wrap .u64 (((BitVec.toNat ((BitVec.ofInt 64 (IntKind.wrap .u64 (r * (4294967296 : Int)))) ||| (BitVec.ofInt 64 (IntKind.wrap .u64 x3)))) : Nat) : Int)) (IntKind.wrap .u64 d)) (IntKind.wrap .i64 (i - (1 : Int))) (List.set qs (0 + (Int.toNat i)) (IntKind.wrap .u32 (IntKind.wrap .u64 (Int.tdiv (IntKind.wrap .u64 (((BitVec.toNat ((BitVec.ofInt 64 (IntKind.wrap .u64 (r * (4294967296 : Int)))) ||| (BitVec.ofInt 64 (IntKind.wrap .u64 x3)))) : Nat) : Int)) (IntKind.wrap .u64 d)))))
 else
 none
 else
 none
 else
 (some (q, r, qs))
def qcb (k n : Nat) : List Int → Int → Nat → Int → Int → List Int → Option (Nat × Int × List Int) := Nat.rec (fun _ _ _ _ _ _ => none) (fun _ r => qdR k r) n
def qhj (k : Nat) (a : List Int) (d : Int) : Option (List Int × Int) :=
 if (((0 : Int) ≤ (((List.length a) : Nat) : Int)) ∧ (((((List.length a) : Nat) : Int) ≤ (((List.length a) : Nat) : Int)) ∧ (((((List.length a) : Nat) : Int) * (4 : Int)) ≤ (140737488355328 : Int)))) then
 Option.bind (qcb k k a d (Int.toNat (((List.length a) : Nat) : Int)) (0 : Int) (IntKind.wrap .i64 ((((List.length a) : Nat) : Int) - (1 : Int))) (List.replicate (Int.toNat (((List.length a) : Nat) : Int)) (0 : Int))) fun r5 =>
 if ((0 + r5.1) ≤ (List.length r5.2.2)) then
 (some ((List.take r5.1 r5.2.2), (IntKind.wrap .u32 r5.2.1)))
 else
 none
 else
 none
def qfm : Nat → List Int → Int → Option (List Int × Int)
 | 0, _, _ => none
 | k + 1, a, d => qhj k a d
def qi8 : FS := { vs := [.a (.lf (.sl (.int .u32))), .a (.lf (.int .u32))], bs := [] }
def qo5 : List FS := [{ vs := [.a (.lf (.sl (.int .u32))), .a (.lf (.int .u32))], bs := [] }]
def qvv (k : Nat) : Inst := ⟨108, qi8, qo5, fun x => qfm k x.1 x.2⟩
theorem qwR (k : Nat) : qp (call cf k) [] := True.intro
def qhU : List SS := [{ fr := [(0, .a (.lf (.sl (.int .u32)))), (1, .a (.lf (.int .u32))), (6, .a (.smz 0)), (7, .a (.lf (.int .u64))), (8, .a (.lf (.int .i64)))], mem := [(0, some (.arr (.int .u32) 1 68 false))], nx := 1 }]
def ql8 : List OS := [⟨some 0, { fr := [(6, .a (.smz 0)), (7, .a (.lf (.int .u64)))], mem := [(0, some (.arr (.int .u32) 1 68 false))], nx := 1 }⟩]
def ql9 (k : Nat) : LInst := ⟨0, qhU, ql8, fun x => qcb k k x.1 x.2.1 x.2.2.1 x.2.2.2.1 x.2.2.2.2.1 x.2.2.2.2.2⟩
theorem qzk (k : Nat) : qg (LOk (R := DS OS.D ql8) (fun b _ σ K => LOt Ty (kps 108) 0 b σ K []) cf (call cf k) (kps 108) Tryz.f108.ntmps k 0) 0 (lb Tryz.f108 0) :=
 qA (qA qT (qA qT qT)) (qA (qA qT (qA qT qT)) qT)
theorem qzl (k n : Nat) (x : DS SS.D qhU) : qcb k (n + 1) x.1 x.2.1 x.2.2.1 x.2.2.2.1 x.2.2.2.2.1 x.2.2.2.2.2 = qI SS.enc (fun σ => qJ cf (fun f a b K => COt f a b K []) (fun b _ σ K => LOt Ty (kps 108) 0 b σ K []) Tryz.f108.ntmps 0 (lb Tryz.f108 0) σ (qQ Ty (kps 108 0) 0 qhU ql8 fun x => qcb k n x.1 x.2.1 x.2.2.1 x.2.2.2.1 x.2.2.2.2.1 x.2.2.2.2.2)) qhU x := by kernel_rfl
theorem qzm (k : Nat) : qae cf (call cf k) (kps 108) Tryz.f108.ntmps k 0 0 (lb Tryz.f108 0) (ql9 k) :=
 qu (c := cf) (callF := call cf k) (kp := kps 108) (nt := Tryz.f108.ntmps) (k := k) (p := 0) (b := 0) (x0 := lb Tryz.f108 0) (hs := qhU) (os := ql8) (qd (qwR k)) (qzk k) (fun n x => qcb k n x.1 x.2.1 x.2.2.1 x.2.2.2.1 x.2.2.2.2.1 x.2.2.2.2.2) (fun _ => rfl) (qzl k)
theorem qCB (k : Nat) : qg (LOk (R := DS FS.D qo5) (fun b _ σ K => LOt Ty (kps 108) 0 b σ K [ql9 k]) cf (call cf k) (cf.keep 108) Tryz.f108.ntmps k qi8.bs.length) 0 (bd Tryz.f108) :=
 qA qT (qA qT (qA qT (qA (qA qT (qD (c := cf) (callF := call cf k) (kp := kps 108) (nt := Tryz.f108.ntmps) (k := k) (p := 0) (b := 0) (x0 := lb Tryz.f108 0) (l := [ql9 k]) (qA (fun _ => qzm k) qT))) (qA qT qT))))
theorem qCC (k : Nat) (x : qi8.D) : qfm (k + 1) x.1 x.2 = qk cf (fun f a b K => COt f a b K []) (fun b _ σ K => LOt Ty (kps 108) 0 b σ K [ql9 k]) 108 Tryz.f108.ntmps Tryz.f108.results.toList (bd Tryz.f108) (qi8.enc x).1 (qi8.enc x).2 (qo FS.dec qo5) := by kernel_rfl
theorem qCD : ∀ k, qh (call cf k) (qvv k)
 | 0 => fun x y e => absurd (show (none : Option _) = some y from e) (by simp)
 | k + 1 => qe (c := cf) (k := k) (f := 108) (fn := Tryz.f108) (body := bd Tryz.f108) (sh := qi8) (os := qo5) rfl Tryz.func108 rfl ⟨rfl, Nat.le_of_ble_eq_true rfl⟩ (qd (qwR k)) (qCB k) (fun x => qfm (k + 1) x.1 x.2) (qCC k)

def qdS (k : Nat) (rec : Int → Nat → List Int → Int → Int → List Int → Option (Nat × List Int)) (bits : Int) (out1 : Nat) (x : List Int) (x1 : Int) (x2 : Int) (outs : List Int) : Option (Nat × List Int) :=
 if ((decide (x2 < x1)) = true) then
 if ((0 : Int) ≤ x2) then
 Option.bind (x)[(Int.toNat x2)]? fun x3 =>
 if (bits < (0 : Int)) then
 none
 else
 if (((0 : Int) ≤ x2) ∧ (x2 < ((out1 : Nat) : Int))) then
 Option.bind (outs)[(0 + (Int.toNat x2))]? fun x4 =>
 if (((0 : Int) ≤ x2) ∧ (x2 < ((out1 : Nat) : Int))) then
 Option.bind (outs)[(0 + (Int.toNat x2))]? fun x5 =>
 if (((0 : Int) ≤ (IntKind.wrap .i64 (x2 + (1 : Int)))) ∧ ((IntKind.wrap .i64 (x2 + (1 : Int))) < ((out1 : Nat) : Int))) then
 Option.bind ((List.set outs (0 + (Int.toNat x2)) (IntKind.wrap .u32 (((BitVec.toNat ((BitVec.ofInt 32 x4) ||| (BitVec.ofInt 32 (IntKind.wrap .u32 (IntKind.wrap .u64 ((IntKind.wrap .u64 x3) * ((2 : Int) ^ (min (Int.toNat bits) 64)))))))) : Nat) : Int))))[(0 + (Int.toNat (IntKind.wrap .i64 (x2 + (1 : Int)))))]? fun x6 =>
 rec bits out1 x x1 (IntKind.wrap .i64 (x2 + (1 : Int))) (List.set (List.set outs (0 + (Int.toNat x2)) (IntKind.wrap .u32 (((BitVec.toNat ((BitVec.ofInt 32 x4) ||| (BitVec.ofInt 32 (IntKind.wrap .u32 (IntKind.wrap .u64 ((IntKind.wrap .u64 x3) * ((2 : Int) ^ (min (Int.toNat bits) 64)))))))) : Nat) : Int))) (0 + (Int.toNat (IntKind.wrap .i64 (x2 + (1 : Int))))) (IntKind.wrap .u32 (Int.fdiv (IntKind.wrap .u64 ((IntKind.wrap .u64 x3) * ((2 : Int) ^ (min (Int.toNat bits) 64)))) (4294967296 : Int))))
 else
 none
 else
 none
 else
 none
 else
 none
 else
 (some (out1, outs))
def qcc (k n : Nat) : Int → Nat → List Int → Int → Int → List Int → Option (Nat × List Int) := Nat.rec (fun _ _ _ _ _ _ => none) (fun _ r => qdS k r) n
def qhk (k : Nat) (a : List Int) (bits : Int) : Option (Nat × List Int) :=
 if (((0 : Int) ≤ (IntKind.wrap .i64 ((((List.length a) : Nat) : Int) + (1 : Int)))) ∧ (((IntKind.wrap .i64 ((((List.length a) : Nat) : Int) + (1 : Int))) ≤ (IntKind.wrap .i64 ((((List.length a) : Nat) : Int) + (1 : Int)))) ∧ (((IntKind.wrap .i64 ((((List.length a) : Nat) : Int) + (1 : Int))) * (4 : Int)) ≤ (140737488355328 : Int)))) then
 Option.bind (qcc k k bits (Int.toNat (IntKind.wrap .i64 ((((List.length a) : Nat) : Int) + (1 : Int)))) a (((List.length a) : Nat) : Int) (0 : Int) (List.replicate (Int.toNat (IntKind.wrap .i64 ((((List.length a) : Nat) : Int) + (1 : Int)))) (0 : Int))) fun r6 =>
 (some (r6.1, r6.2))
 else
 none
def qdQ : Nat → List Int → Int → Option (Nat × List Int)
 | 0, _, _ => none
 | k + 1, a, bits => qhk k a bits
def qi9 : FS := { vs := [.a (.lf (.sl (.int .u32))), .a (.lf (.int .u64))], bs := [] }
def qo6 : List FS := [{ vs := [.a (.smz 0)], bs := [.arr (.int .u32) 1 68 false] }]
def qkX (k : Nat) : Inst := ⟨138, qi9, qo6, fun x => qdQ k x.1 x.2⟩
theorem qwS (k : Nat) : qp (call cf k) [] := True.intro
def qhV : List SS := [{ fr := [(1, .a (.lf (.int .u64))), (5, .a (.smz 0)), (13, .a (.lf (.sl (.int .u32)))), (14, .a (.lf (.int .i64))), (15, .a (.lf (.int .i64)))], mem := [(0, some (.arr (.int .u32) 1 68 false))], nx := 1 }]
def qma : List OS := [⟨some 0, { fr := [(5, .a (.smz 0))], mem := [(0, some (.arr (.int .u32) 1 68 false))], nx := 1 }⟩]
def qmb (k : Nat) : LInst := ⟨0, qhV, qma, fun x => qcc k k x.1 x.2.1 x.2.2.1 x.2.2.2.1 x.2.2.2.2.1 x.2.2.2.2.2⟩
theorem qzn (k : Nat) : qg (LOk (R := DS OS.D qma) (fun b _ σ K => LOt Ty (kps 138) 0 b σ K []) cf (call cf k) (kps 138) Tryz.f138.ntmps k 0) 0 (lb Tryz.f138 0) :=
 qA qT (qA (qA qT qT) (qA (qA qT (qA qT (qA qT qT))) qT))
theorem qzo (k n : Nat) (x : DS SS.D qhV) : qcc k (n + 1) x.1 x.2.1 x.2.2.1 x.2.2.2.1 x.2.2.2.2.1 x.2.2.2.2.2 = qI SS.enc (fun σ => qJ cf (fun f a b K => COt f a b K []) (fun b _ σ K => LOt Ty (kps 138) 0 b σ K []) Tryz.f138.ntmps 0 (lb Tryz.f138 0) σ (qQ Ty (kps 138 0) 0 qhV qma fun x => qcc k n x.1 x.2.1 x.2.2.1 x.2.2.2.1 x.2.2.2.2.1 x.2.2.2.2.2)) qhV x := by kernel_rfl
theorem qzp (k : Nat) : qae cf (call cf k) (kps 138) Tryz.f138.ntmps k 0 0 (lb Tryz.f138 0) (qmb k) :=
 qu (c := cf) (callF := call cf k) (kp := kps 138) (nt := Tryz.f138.ntmps) (k := k) (p := 0) (b := 0) (x0 := lb Tryz.f138 0) (hs := qhV) (os := qma) (qd (qwS k)) (qzn k) (fun n x => qcc k n x.1 x.2.1 x.2.2.1 x.2.2.2.1 x.2.2.2.2.1 x.2.2.2.2.2) (fun _ => rfl) (qzo k)
theorem qCE (k : Nat) : qg (LOk (R := DS FS.D qo6) (fun b _ σ K => LOt Ty (kps 138) 0 b σ K [qmb k]) cf (call cf k) (cf.keep 138) Tryz.f138.ntmps k qi9.bs.length) 0 (bd Tryz.f138) :=
 qA qT (qA qT (qA (qA qT (qD (c := cf) (callF := call cf k) (kp := kps 138) (nt := Tryz.f138.ntmps) (k := k) (p := 0) (b := 0) (x0 := lb Tryz.f138 0) (l := [qmb k]) (qA (fun _ => qzp k) qT))) (qA qT qT)))
theorem qCF (k : Nat) (x : qi9.D) : qdQ (k + 1) x.1 x.2 = qk cf (fun f a b K => COt f a b K []) (fun b _ σ K => LOt Ty (kps 138) 0 b σ K [qmb k]) 138 Tryz.f138.ntmps Tryz.f138.results.toList (bd Tryz.f138) (qi9.enc x).1 (qi9.enc x).2 (qo FS.dec qo6) := by kernel_rfl
theorem qCG : ∀ k, qh (call cf k) (qkX k)
 | 0 => fun x y e => absurd (show (none : Option _) = some y from e) (by simp)
 | k + 1 => qe (c := cf) (k := k) (f := 138) (fn := Tryz.f138) (body := bd Tryz.f138) (sh := qi9) (os := qo6) rfl Tryz.func138 rfl ⟨rfl, Nat.le_of_ble_eq_true rfl⟩ (qd (qwS k)) (qCE k) (fun x => qdQ (k + 1) x.1 x.2) (qCF k)

def qaA (k : Nat) (rec : Nat → Nat → Nat → Int → Int → Int → Int → Int → List Int → List Int → Option (Nat × Nat × Nat × Int × Int × List Int × List Int)) (u0 : Nat) (u1 : Nat) (v : Nat) (d : Int) (carry : Int) (borrow : Int) (x : Int) (x1 : Int) (us : List Int) (vs : List Int) : Option (Nat × Nat × Nat × Int × Int × List Int × List Int) :=
 if ((decide (x1 < x)) = true) then
 if ((decide (x1 < ((v : Nat) : Int))) = true) then
 if (((0 : Int) ≤ x1) ∧ (x1 < ((v : Nat) : Int))) then
 Option.bind (vs)[(0 + (Int.toNat x1))]? fun x6 =>
 if (((0 : Int) ≤ x1) ∧ (x1 < ((u1 : Nat) : Int))) then
 Option.bind (us)[(u0 + (Int.toNat x1))]? fun x7 =>
 if ((decide ((IntKind.wrap .u64 x7) < (IntKind.wrap .u64 ((IntKind.wrap .u64 (((BitVec.toNat ((BitVec.ofInt 64 (IntKind.wrap .u64 (carry + (IntKind.wrap .u64 (d * (IntKind.wrap .u64 x6)))))) &&& (BitVec.ofInt 64 (4294967295 : Int)))) : Nat) : Int)) + borrow)))) = true) then
 if (((0 : Int) ≤ x1) ∧ (x1 < ((u1 : Nat) : Int))) then
 Option.bind (us)[(u0 + (Int.toNat x1))]? fun x8 =>
 if (((0 : Int) ≤ x1) ∧ (x1 < ((u1 : Nat) : Int))) then
 Option.bind (us)[(u0 + (Int.toNat x1))]? fun x9 =>
 rec u0 u1 v d (Int.fdiv (IntKind.wrap .u64 (carry + (IntKind.wrap .u64 (d * (IntKind.wrap .u64 x6))))) (4294967296 : Int)) (1 : Int) x (IntKind.wrap .i64 (x1 + (1 : Int))) (List.set us (u0 + (Int.toNat x1)) (IntKind.wrap .u32 (IntKind.wrap .u64 ((IntKind.wrap .u64 x8) - (IntKind.wrap .u64 ((IntKind.wrap .u64 (((BitVec.toNat ((BitVec.ofInt 64 (IntKind.wrap .u64 (carry + (IntKind.wrap .u64 (d * (IntKind.wrap .u64 x6)))))) &&& (BitVec.ofInt 64 (4294967295 : Int)))) : Nat) : Int)) + borrow)))))) vs
 else
 none
 else
 none
 else
 if (((0 : Int) ≤ x1) ∧ (x1 < ((u1 : Nat) : Int))) then
 Option.bind (us)[(u0 + (Int.toNat x1))]? fun x8 =>
 if (((0 : Int) ≤ x1) ∧ (x1 < ((u1 : Nat) : Int))) then
 Option.bind (us)[(u0 + (Int.toNat x1))]? fun x9 =>
 rec u0 u1 v d (Int.fdiv (IntKind.wrap .u64 (carry + (IntKind.wrap .u64 (d * (IntKind.wrap .u64 x6))))) (4294967296 : Int)) (0 : Int) x (IntKind.wrap .i64 (x1 + (1 : Int))) (List.set us (u0 + (Int.toNat x1)) (IntKind.wrap .u32 (IntKind.wrap .u64 ((IntKind.wrap .u64 x8) - (IntKind.wrap .u64 ((IntKind.wrap .u64 (((BitVec.toNat ((BitVec.ofInt 64 (IntKind.wrap .u64 (carry + (IntKind.wrap .u64 (d * (IntKind.wrap .u64 x6)))))) &&& (BitVec.ofInt 64 (4294967295 : Int)))) : Nat) : Int)) + borrow)))))) vs
 else
 none
 else
 none
 else
 none
 else
 none
 else
 if (((0 : Int) ≤ x1) ∧ (x1 < ((u1 : Nat) : Int))) then
 Option.bind (us)[(u0 + (Int.toNat x1))]? fun x6 =>
 if ((decide ((IntKind.wrap .u64 x6) < (IntKind.wrap .u64 ((IntKind.wrap .u64 (((BitVec.toNat ((BitVec.ofInt 64 carry) &&& (BitVec.ofInt 64 (4294967295 : Int)))) : Nat) : Int)) + borrow)))) = true) then
 if (((0 : Int) ≤ x1) ∧ (x1 < ((u1 : Nat) : Int))) then
 Option.bind (us)[(u0 + (Int.toNat x1))]? fun x7 =>
 if (((0 : Int) ≤ x1) ∧ (x1 < ((u1 : Nat) : Int))) then
 Option.bind (us)[(u0 + (Int.toNat x1))]? fun x8 =>
 rec u0 u1 v d (Int.fdiv carry (4294967296 : Int)) (1 : Int) x (IntKind.wrap .i64 (x1 + (1 : Int))) (List.set us (u0 + (Int.toNat x1)) (IntKind.wrap .u32 (IntKind.wrap .u64 ((IntKind.wrap .u64 x7) - (IntKind.wrap .u64 ((IntKind.wrap .u64 (((BitVec.toNat ((BitVec.ofInt 64 carry) &&& (BitVec.ofInt 64 (4294967295 : Int)))) : Nat) : Int)) + borrow)))))) vs
 else
 none
 else
 none
 else
 if (((0 : Int) ≤ x1) ∧ (x1 < ((u1 : Nat) : Int))) then
 Option.bind (us)[(u0 + (Int.toNat x1))]? fun x7 =>
 if (((0 : Int) ≤ x1) ∧ (x1 < ((u1 : Nat) : Int))) then
 Option.bind (us)[(u0 + (Int.toNat x1))]? fun x8 =>
 rec u0 u1 v d (Int.fdiv carry (4294967296 : Int)) (0 : Int) x (IntKind.wrap .i64 (x1 + (1 : Int))) (List.set us (u0 + (Int.toNat x1)) (IntKind.wrap .u32 (IntKind.wrap .u64 ((IntKind.wrap .u64 x7) - (IntKind.wrap .u64 ((IntKind.wrap .u64 (((BitVec.toNat ((BitVec.ofInt 64 carry) &&& (BitVec.ofInt 64 (4294967295 : Int)))) : Nat) : Int)) + borrow)))))) vs
 else
 none
 else
 none
 else
 none
 else
 (some (u0, u1, v, d, borrow, us, vs))
def qai (k n : Nat) : Nat → Nat → Nat → Int → Int → Int → Int → Int → List Int → List Int → Option (Nat × Nat × Nat × Int × Int × List Int × List Int) := Nat.rec (fun _ _ _ _ _ _ _ _ _ _ => none) (fun _ r => qaA k r) n
def qbT (k : Nat) (rec : Nat → Nat → Nat → Int → Int → Int → Int → List Int → List Int → Option (Int × List Int × List Int)) (u0 : Nat) (u1 : Nat) (v : Nat) (d : Int) (carry : Int) (x : Int) (x1 : Int) (us : List Int) (vs : List Int) : Option (Int × List Int × List Int) :=
 if ((decide (x1 < x)) = true) then
 if (((0 : Int) ≤ x1) ∧ (x1 < ((u1 : Nat) : Int))) then
 Option.bind (us)[(u0 + (Int.toNat x1))]? fun x6 =>
 if ((decide (x1 < ((v : Nat) : Int))) = true) then
 if (((0 : Int) ≤ x1) ∧ (x1 < ((v : Nat) : Int))) then
 Option.bind (vs)[(0 + (Int.toNat x1))]? fun x7 =>
 if (((0 : Int) ≤ x1) ∧ (x1 < ((u1 : Nat) : Int))) then
 Option.bind (us)[(u0 + (Int.toNat x1))]? fun x8 =>
 rec u0 u1 v d (Int.fdiv (IntKind.wrap .u64 ((IntKind.wrap .u64 ((IntKind.wrap .u64 x6) + carry)) + (IntKind.wrap .u64 x7))) (4294967296 : Int)) x (IntKind.wrap .i64 (x1 + (1 : Int))) (List.set us (u0 + (Int.toNat x1)) (IntKind.wrap .u32 (IntKind.wrap .u64 ((IntKind.wrap .u64 ((IntKind.wrap .u64 x6) + carry)) + (IntKind.wrap .u64 x7))))) vs
 else
 none
 else
 none
 else
 if (((0 : Int) ≤ x1) ∧ (x1 < ((u1 : Nat) : Int))) then
 Option.bind (us)[(u0 + (Int.toNat x1))]? fun x7 =>
 rec u0 u1 v d (Int.fdiv (IntKind.wrap .u64 ((IntKind.wrap .u64 x6) + carry)) (4294967296 : Int)) x (IntKind.wrap .i64 (x1 + (1 : Int))) (List.set us (u0 + (Int.toNat x1)) (IntKind.wrap .u32 (IntKind.wrap .u64 ((IntKind.wrap .u64 x6) + carry)))) vs
 else
 none
 else
 none
 else
 (some (d, us, vs))
def qaM (k n : Nat) : Nat → Nat → Nat → Int → Int → Int → Int → List Int → List Int → Option (Int × List Int × List Int) := Nat.rec (fun _ _ _ _ _ _ _ _ _ => none) (fun _ r => qbT k r) n
def qeO (k : Nat) (u0 : Nat) (u1 : Nat) (v : Nat) (d : Int) (us : List Int) (vs : List Int) : Option (Int × List Int × List Int) :=
 Option.bind (qai k k u0 u1 v d (0 : Int) (0 : Int) ((u1 : Nat) : Int) (0 : Int) us vs) fun r9 =>
 if ((r9.2.2.2.2.1 == (0 : Int)) = true) then
 (some ((IntKind.wrap .u32 r9.2.2.2.1), r9.2.2.2.2.2.1, r9.2.2.2.2.2.2))
 else
 Option.bind (qaM k k r9.1 r9.2.1 r9.2.2.1 r9.2.2.2.1 (0 : Int) ((r9.2.1 : Nat) : Int) (0 : Int) r9.2.2.2.2.2.1 r9.2.2.2.2.2.2) fun r10 =>
 (some ((IntKind.wrap .u32 (IntKind.wrap .u64 (r10.1 - (1 : Int)))), r10.2.1, r10.2.2))
def qdt : Nat → Nat → Nat → Nat → Int → List Int → List Int → Option (Int × List Int × List Int)
 | 0, _, _, _, _, _, _ => none
 | k + 1, u0, u1, v, d, us, vs => qeO k u0 u1 v d us vs
def qja : FS := { vs := [.a (.sms 0), .a (.smz 1), .a (.lf (.int .u64))], bs := [.arr (.int .u32) 1 68 false, .arr (.int .u32) 1 68 false] }
def qo7 : List FS := [{ vs := [.a (.lf (.int .u32))], bs := [.arr (.int .u32) 1 68 false, .arr (.int .u32) 1 68 false] }]
def qkY (k : Nat) : Inst := ⟨139, qja, qo7, fun x => qdt k x.1 x.2.1 x.2.2.1 x.2.2.2.1 x.2.2.2.2.1 x.2.2.2.2.2⟩
theorem qs4 (k : Nat) : qp (call cf k) [] := True.intro
def qhW : List SS := [{ fr := [(0, .a (.sms 0)), (1, .a (.smz 1)), (2, .a (.lf (.int .u64))), (7, .a (.lf (.int .u64))), (8, .a (.lf (.int .u64))), (14, .a (.lf (.int .i64))), (15, .a (.lf (.int .i64)))], mem := [(0, some (.arr (.int .u32) 1 68 false)), (1, some (.arr (.int .u32) 1 68 false))], nx := 2 }]
def qmc : List OS := [⟨some 0, { fr := [(0, .a (.sms 0)), (1, .a (.smz 1)), (2, .a (.lf (.int .u64))), (8, .a (.lf (.int .u64)))], mem := [(0, some (.arr (.int .u32) 1 68 false)), (1, some (.arr (.int .u32) 1 68 false))], nx := 2 }⟩]
def qgb (k : Nat) : LInst := ⟨0, qhW, qmc, fun x => qai k k x.1 x.2.1 x.2.2.1 x.2.2.2.1 x.2.2.2.2.1 x.2.2.2.2.2.1 x.2.2.2.2.2.2.1 x.2.2.2.2.2.2.2.1 x.2.2.2.2.2.2.2.2.1 x.2.2.2.2.2.2.2.2.2⟩
theorem qzq (k : Nat) : qg (LOk (R := DS OS.D qmc) (fun b _ σ K => LOt Ty (kps 139) 2 b σ K []) cf (call cf k) (kps 139) Tryz.f139.ntmps k 2) 0 (lb Tryz.f139 0) :=
 qA qT (qA (qA qT qT) (qA (qA qT (qA (qA qT (qA qT qT)) (qA qT (qA qT (qA (qA qT (qA qT qT)) (qA qT qT)))))) qT))
theorem qzr (k n : Nat) (x : DS SS.D qhW) : qai k (n + 1) x.1 x.2.1 x.2.2.1 x.2.2.2.1 x.2.2.2.2.1 x.2.2.2.2.2.1 x.2.2.2.2.2.2.1 x.2.2.2.2.2.2.2.1 x.2.2.2.2.2.2.2.2.1 x.2.2.2.2.2.2.2.2.2 = qI SS.enc (fun σ => qJ cf (fun f a b K => COt f a b K []) (fun b _ σ K => LOt Ty (kps 139) 2 b σ K []) Tryz.f139.ntmps 0 (lb Tryz.f139 0) σ (qQ Ty (kps 139 0) 2 qhW qmc fun x => qai k n x.1 x.2.1 x.2.2.1 x.2.2.2.1 x.2.2.2.2.1 x.2.2.2.2.2.1 x.2.2.2.2.2.2.1 x.2.2.2.2.2.2.2.1 x.2.2.2.2.2.2.2.2.1 x.2.2.2.2.2.2.2.2.2)) qhW x := by kernel_rfl
theorem qzs (k : Nat) : qae cf (call cf k) (kps 139) Tryz.f139.ntmps k 2 0 (lb Tryz.f139 0) (qgb k) :=
 qu (c := cf) (callF := call cf k) (kp := kps 139) (nt := Tryz.f139.ntmps) (k := k) (p := 2) (b := 0) (x0 := lb Tryz.f139 0) (hs := qhW) (os := qmc) (qd (qs4 k)) (qzq k) (fun n x => qai k n x.1 x.2.1 x.2.2.1 x.2.2.2.1 x.2.2.2.2.1 x.2.2.2.2.2.1 x.2.2.2.2.2.2.1 x.2.2.2.2.2.2.2.1 x.2.2.2.2.2.2.2.2.1 x.2.2.2.2.2.2.2.2.2) (fun _ => rfl) (qzr k)
def qhX : List SS := [{ fr := [(0, .a (.sms 0)), (1, .a (.smz 1)), (2, .a (.lf (.int .u64))), (7, .a (.lf (.int .u64))), (61, .a (.lf (.int .i64))), (62, .a (.lf (.int .i64)))], mem := [(0, some (.arr (.int .u32) 1 68 false)), (1, some (.arr (.int .u32) 1 68 false))], nx := 2 }]
def qmd : List OS := [⟨some 2, { fr := [(2, .a (.lf (.int .u64)))], mem := [(0, some (.arr (.int .u32) 1 68 false)), (1, some (.arr (.int .u32) 1 68 false))], nx := 2 }⟩]
def qhY (k : Nat) : LInst := ⟨2, qhX, qmd, fun x => qaM k k x.1 x.2.1 x.2.2.1 x.2.2.2.1 x.2.2.2.2.1 x.2.2.2.2.2.1 x.2.2.2.2.2.2.1 x.2.2.2.2.2.2.2.1 x.2.2.2.2.2.2.2.2⟩
theorem qzt (k : Nat) : qg (LOk (R := DS OS.D qmd) (fun b _ σ K => LOt Ty (kps 139) 2 b σ K [qgb k]) cf (call cf k) (kps 139) Tryz.f139.ntmps k 2) 2 (lb Tryz.f139 1) :=
 qA qT (qA (qA qT qT) (qA (qA qT (qA qT (qA (qA qT (qA qT qT)) (qA qT qT)))) qT))
theorem qzu (k n : Nat) (x : DS SS.D qhX) : qaM k (n + 1) x.1 x.2.1 x.2.2.1 x.2.2.2.1 x.2.2.2.2.1 x.2.2.2.2.2.1 x.2.2.2.2.2.2.1 x.2.2.2.2.2.2.2.1 x.2.2.2.2.2.2.2.2 = qI SS.enc (fun σ => qJ cf (fun f a b K => COt f a b K []) (fun b _ σ K => LOt Ty (kps 139) 2 b σ K [qgb k]) Tryz.f139.ntmps 2 (lb Tryz.f139 1) σ (qQ Ty (kps 139 2) 2 qhX qmd fun x => qaM k n x.1 x.2.1 x.2.2.1 x.2.2.2.1 x.2.2.2.2.1 x.2.2.2.2.2.1 x.2.2.2.2.2.2.1 x.2.2.2.2.2.2.2.1 x.2.2.2.2.2.2.2.2)) qhX x := by kernel_rfl
theorem qzv (k : Nat) : qae cf (call cf k) (kps 139) Tryz.f139.ntmps k 2 2 (lb Tryz.f139 1) (qhY k) :=
 qu (c := cf) (callF := call cf k) (kp := kps 139) (nt := Tryz.f139.ntmps) (k := k) (p := 2) (b := 2) (x0 := lb Tryz.f139 1) (hs := qhX) (os := qmd) (qd (qs4 k)) (qzt k) (fun n x => qaM k n x.1 x.2.1 x.2.2.1 x.2.2.2.1 x.2.2.2.2.1 x.2.2.2.2.2.1 x.2.2.2.2.2.2.1 x.2.2.2.2.2.2.2.1 x.2.2.2.2.2.2.2.2) (fun _ => rfl) (qzu k)
theorem qCH (k : Nat) : qg (LOk (R := DS FS.D qo7) (fun b _ σ K => LOt Ty (kps 139) 2 b σ K [qgb k, qhY k]) cf (call cf k) (cf.keep 139) Tryz.f139.ntmps k qja.bs.length) 0 (bd Tryz.f139) :=
 qA qT (qA qT (qA (qA qT (qD (c := cf) (callF := call cf k) (kp := kps 139) (nt := Tryz.f139.ntmps) (k := k) (p := 2) (b := 0) (x0 := lb Tryz.f139 0) (l := [qgb k, qhY k]) (qA (fun _ => qzs k) (qA (fun h => absurd (show (2 : Nat) = 0 from h) (by decide)) qT)))) (qA (qA qT (qA (qA qT qT) qT)) (qA qT (qA (qA qT (qD (c := cf) (callF := call cf k) (kp := kps 139) (nt := Tryz.f139.ntmps) (k := k) (p := 2) (b := 2) (x0 := lb Tryz.f139 1) (l := [qgb k, qhY k]) (qA (fun h => absurd (show (0 : Nat) = 2 from h) (by decide)) (qA (fun _ => qzv k) qT)))) (qA qT qT))))))
theorem qCI (k : Nat) (x : qja.D) : qdt (k + 1) x.1 x.2.1 x.2.2.1 x.2.2.2.1 x.2.2.2.2.1 x.2.2.2.2.2 = qk cf (fun f a b K => COt f a b K []) (fun b _ σ K => LOt Ty (kps 139) 2 b σ K [qgb k, qhY k]) 139 Tryz.f139.ntmps Tryz.f139.results.toList (bd Tryz.f139) (qja.enc x).1 (qja.enc x).2 (qo FS.dec qo7) := by kernel_rfl
theorem qCJ : ∀ k, qh (call cf k) (qkY k)
 | 0 => fun x y e => absurd (show (none : Option _) = some y from e) (by simp)
 | k + 1 => qe (c := cf) (k := k) (f := 139) (fn := Tryz.f139) (body := bd Tryz.f139) (sh := qja) (os := qo7) rfl Tryz.func139 rfl ⟨rfl, Nat.le_of_ble_eq_true rfl⟩ (qd (qs4 k)) (qCH k) (fun x => qdt (k + 1) x.1 x.2.1 x.2.2.1 x.2.2.2.1 x.2.2.2.2.1 x.2.2.2.2.2) (qCI k)

def qec (k : Nat) (rec : List Int → List Int → Int → Option (List Int × List Int × Int)) (a : List Int) (b : List Int) (bits : Int) : Option (List Int × List Int × Int) :=
 if ((0 : Int) ≤ (IntKind.wrap .i64 ((((List.length b) : Nat) : Int) - (1 : Int)))) then
 Option.bind (b)[(Int.toNat (IntKind.wrap .i64 ((((List.length b) : Nat) : Int) - (1 : Int))))]? fun x2 =>
 if (bits < (0 : Int)) then
 none
 else
 if (((Int.fdiv (IntKind.wrap .u32 (x2 * ((2 : Int) ^ (min (Int.toNat bits) 32)))) (2147483648 : Int)) == (0 : Int)) = true) then
 rec a b (IntKind.wrap .u64 (bits + (1 : Int)))
 else
 (some (a, b, bits))
 else
 none
def qcU (k n : Nat) : List Int → List Int → Int → Option (List Int × List Int × Int) := Nat.rec (fun _ _ _ => none) (fun _ r => qec k r) n
def qbr (k : Nat) (rec : Nat → Int → Int → Nat → Nat → Int → Int → Int → List Int → List Int → List Int → Option (Nat × Int × Int × Nat × Nat × Int × Int × List Int × List Int × List Int)) (q : Nat) (bits : Int) (n : Int) (u : Nat) (v : Nat) (j : Int) (d : Int) (rest : Int) (qs : List Int) (us : List Int) (vs : List Int) : Option (Nat × Int × Int × Nat × Nat × Int × Int × List Int × List Int × List Int) :=
 if ((decide (d > (4294967295 : Int))) = false) then
 if ((decide (rest ≤ (4294967295 : Int))) = true) then
 if (((0 : Int) ≤ (IntKind.wrap .i64 (n - (2 : Int)))) ∧ ((IntKind.wrap .i64 (n - (2 : Int))) < ((v : Nat) : Int))) then
 Option.bind (vs)[(0 + (Int.toNat (IntKind.wrap .i64 (n - (2 : Int)))))]? fun x6 =>
 if (((0 : Int) ≤ (IntKind.wrap .i64 ((IntKind.wrap .i64 (j + n)) - (2 : Int)))) ∧ ((IntKind.wrap .i64 ((IntKind.wrap .i64 (j + n)) - (2 : Int))) < ((u : Nat) : Int))) then
 Option.bind (us)[(0 + (Int.toNat (IntKind.wrap .i64 ((IntKind.wrap .i64 (j + n)) - (2 : Int)))))]? fun x7 =>
 if ((decide ((IntKind.wrap .u64 (d * (IntKind.wrap .u64 x6))) > (IntKind.wrap .u64 (((BitVec.toNat ((BitVec.ofInt 64 (IntKind.wrap .u64 (rest * (4294967296 : Int)))) ||| (BitVec.ofInt 64 (IntKind.wrap .u64 x7)))) : Nat) : Int)))) = true) then
 if (((0 : Int) ≤ (IntKind.wrap .i64 (n - (1 : Int)))) ∧ ((IntKind.wrap .i64 (n - (1 : Int))) < ((v : Nat) : Int))) then
 Option.bind (vs)[(0 + (Int.toNat (IntKind.wrap .i64 (n - (1 : Int)))))]? fun x8 =>
 if ((decide ((IntKind.wrap .u64 (rest + (IntKind.wrap .u64 x8))) > (4294967295 : Int))) = true) then
 (some (q, bits, n, u, v, j, (IntKind.wrap .u64 (d - (1 : Int))), qs, us, vs))
 else
 rec q bits n u v j (IntKind.wrap .u64 (d - (1 : Int))) (IntKind.wrap .u64 (rest + (IntKind.wrap .u64 x8))) qs us vs
 else
 none
 else
 (some (q, bits, n, u, v, j, d, qs, us, vs))
 else
 none
 else
 none
 else
 (some (q, bits, n, u, v, j, d, qs, us, vs))
 else
 if (((0 : Int) ≤ (IntKind.wrap .i64 (n - (1 : Int)))) ∧ ((IntKind.wrap .i64 (n - (1 : Int))) < ((v : Nat) : Int))) then
 Option.bind (vs)[(0 + (Int.toNat (IntKind.wrap .i64 (n - (1 : Int)))))]? fun x6 =>
 if ((decide ((IntKind.wrap .u64 (rest + (IntKind.wrap .u64 x6))) > (4294967295 : Int))) = true) then
 (some (q, bits, n, u, v, j, (IntKind.wrap .u64 (d - (1 : Int))), qs, us, vs))
 else
 rec q bits n u v j (IntKind.wrap .u64 (d - (1 : Int))) (IntKind.wrap .u64 (rest + (IntKind.wrap .u64 x6))) qs us vs
 else
 none
def qbD (k n : Nat) : Nat → Int → Int → Nat → Nat → Int → Int → Int → List Int → List Int → List Int → Option (Nat × Int × Int × Nat × Nat × Int × Int × List Int × List Int × List Int) := Nat.rec (fun _ _ _ _ _ _ _ _ _ _ _ => none) (fun _ r => qbr k r) n
def qed (k : Nat) (rec : Nat → Int → Int → Nat → Nat → Int → List Int → List Int → List Int → Option (Nat × Int × Int × Nat × List Int × List Int × List Int)) (q : Nat) (bits : Int) (n : Int) (u : Nat) (v : Nat) (j : Int) (qs : List Int) (us : List Int) (vs : List Int) : Option (Nat × Int × Int × Nat × List Int × List Int × List Int) :=
 if ((decide (j ≥ (0 : Int))) = true) then
 if (((0 : Int) ≤ (IntKind.wrap .i64 (j + n))) ∧ ((IntKind.wrap .i64 (j + n)) < ((u : Nat) : Int))) then
 Option.bind (us)[(0 + (Int.toNat (IntKind.wrap .i64 (j + n))))]? fun x2 =>
 if (((0 : Int) ≤ (IntKind.wrap .i64 ((IntKind.wrap .i64 (j + n)) - (1 : Int)))) ∧ ((IntKind.wrap .i64 ((IntKind.wrap .i64 (j + n)) - (1 : Int))) < ((u : Nat) : Int))) then
 Option.bind (us)[(0 + (Int.toNat (IntKind.wrap .i64 ((IntKind.wrap .i64 (j + n)) - (1 : Int)))))]? fun x3 =>
 if (((0 : Int) ≤ (IntKind.wrap .i64 (n - (1 : Int)))) ∧ ((IntKind.wrap .i64 (n - (1 : Int))) < ((v : Nat) : Int))) then
 Option.bind (vs)[(0 + (Int.toNat (IntKind.wrap .i64 (n - (1 : Int)))))]? fun x4 =>
 if ((IntKind.wrap .u64 x4) = (0 : Int)) then
 none
 else
 if (((0 : Int) ≤ (IntKind.wrap .i64 (n - (1 : Int)))) ∧ ((IntKind.wrap .i64 (n - (1 : Int))) < ((v : Nat) : Int))) then
 Option.bind (vs)[(0 + (Int.toNat (IntKind.wrap .i64 (n - (1 : Int)))))]? fun x5 =>
 if ((IntKind.wrap .u64 x5) = (0 : Int)) then
 none
 else
 Option.bind (qbD k k q bits n u v j (IntKind.wrap .u64 (Int.tdiv (IntKind.wrap .u64 (((BitVec.toNat ((BitVec.ofInt 64 (IntKind.wrap .u64 ((IntKind.wrap .u64 x2) * (4294967296 : Int)))) ||| (BitVec.ofInt 64 (IntKind.wrap .u64 x3)))) : Nat) : Int)) (IntKind.wrap .u64 x4))) (Int.tmod (IntKind.wrap .u64 (((BitVec.toNat ((BitVec.ofInt 64 (IntKind.wrap .u64 ((IntKind.wrap .u64 x2) * (4294967296 : Int)))) ||| (BitVec.ofInt 64 (IntKind.wrap .u64 x3)))) : Nat) : Int)) (IntKind.wrap .u64 x5)) qs us vs) fun r8 =>
 if (((0 : Int) ≤ r8.2.2.2.2.2.1) ∧ ((r8.2.2.2.2.2.1 ≤ (IntKind.wrap .i64 ((IntKind.wrap .i64 (r8.2.2.2.2.2.1 + r8.2.2.1)) + (1 : Int)))) ∧ (((0 + (Int.toNat (IntKind.wrap .i64 ((IntKind.wrap .i64 (r8.2.2.2.2.2.1 + r8.2.2.1)) + (1 : Int))))) ≤ (List.length r8.2.2.2.2.2.2.2.2.1)) ∧ ((r8.2.2.2.2.2.1 < (IntKind.wrap .i64 ((IntKind.wrap .i64 (r8.2.2.2.2.2.1 + r8.2.2.1)) + (1 : Int)))) ∨ (false = true))))) then
 Option.bind (qdt k (0 + (Int.toNat r8.2.2.2.2.2.1)) ((Int.toNat (IntKind.wrap .i64 ((IntKind.wrap .i64 (r8.2.2.2.2.2.1 + r8.2.2.1)) + (1 : Int)))) - (Int.toNat r8.2.2.2.2.2.1)) r8.2.2.2.2.1 r8.2.2.2.2.2.2.1 r8.2.2.2.2.2.2.2.2.1 r8.2.2.2.2.2.2.2.2.2) fun r9 =>
 if (((0 : Int) ≤ r8.2.2.2.2.2.1) ∧ (r8.2.2.2.2.2.1 < ((r8.1 : Nat) : Int))) then
 Option.bind (r8.2.2.2.2.2.2.2.1)[(0 + (Int.toNat r8.2.2.2.2.2.1))]? fun x6 =>
 rec r8.1 r8.2.1 r8.2.2.1 r8.2.2.2.1 r8.2.2.2.2.1 (IntKind.wrap .i64 (r8.2.2.2.2.2.1 - (1 : Int))) (List.set r8.2.2.2.2.2.2.2.1 (0 + (Int.toNat r8.2.2.2.2.2.1)) r9.1) r9.2.1 r9.2.2
 else
 none
 else
 none
 else
 none
 else
 none
 else
 none
 else
 none
 else
 (some (q, bits, n, u, qs, us, vs))
def qdl (k n : Nat) : Nat → Int → Int → Nat → Nat → Int → List Int → List Int → List Int → Option (Nat × Int × Int × Nat × List Int × List Int × List Int) := Nat.rec (fun _ _ _ _ _ _ _ _ _ => none) (fun _ r => qed k r) n
def qee (k : Nat) (rec : Nat → Nat → Int → Nat → Int → Int → List Int → List Int → List Int → Option (Nat × Nat × List Int × List Int × List Int)) (q : Nat) (r : Nat) (bits : Int) (u : Nat) (x : Int) (x1 : Int) (qs : List Int) (rs : List Int) (us : List Int) : Option (Nat × Nat × List Int × List Int × List Int) :=
 if ((decide (x1 < x)) = true) then
 if (((0 : Int) ≤ x1) ∧ (x1 < ((u : Nat) : Int))) then
 Option.bind (us)[(0 + (Int.toNat x1))]? fun x2 =>
 if (bits < (0 : Int)) then
 none
 else
 if (((0 : Int) ≤ (IntKind.wrap .i64 (x1 + (1 : Int)))) ∧ ((IntKind.wrap .i64 (x1 + (1 : Int))) < ((u : Nat) : Int))) then
 Option.bind (us)[(0 + (Int.toNat (IntKind.wrap .i64 (x1 + (1 : Int)))))]? fun x3 =>
 if ((IntKind.wrap .u64 ((32 : Int) - bits)) < (0 : Int)) then
 none
 else
 if (((0 : Int) ≤ x1) ∧ (x1 < ((r : Nat) : Int))) then
 Option.bind (rs)[(0 + (Int.toNat x1))]? fun x4 =>
 rec q r bits u x (IntKind.wrap .i64 (x1 + (1 : Int))) qs (List.set rs (0 + (Int.toNat x1)) (IntKind.wrap .u32 (((BitVec.toNat ((BitVec.ofInt 32 (Int.fdiv x2 ((2 : Int) ^ (min (Int.toNat bits) 32)))) ||| (BitVec.ofInt 32 (IntKind.wrap .u32 (IntKind.wrap .u64 ((IntKind.wrap .u64 x3) * ((2 : Int) ^ (min (Int.toNat (IntKind.wrap .u64 ((32 : Int) - bits))) 64)))))))) : Nat) : Int))) us
 else
 none
 else
 none
 else
 none
 else
 (some (q, r, qs, rs, us))
def qcV (k n : Nat) : Nat → Nat → Int → Nat → Int → Int → List Int → List Int → List Int → Option (Nat × Nat × List Int × List Int × List Int) := Nat.rec (fun _ _ _ _ _ _ _ _ _ => none) (fun _ r => qee k r) n
def qhZ (k : Nat) (a : List Int) (b : List Int) : Option (List Int × List Int) :=
 Option.bind (qcU k k a b (0 : Int)) fun r5 =>
 Option.bind (qdQ k r5.1 r5.2.2) fun r6 =>
 Option.bind (qdQ k r5.2.1 r5.2.2) fun r7 =>
 if (((0 : Int) ≤ (0 : Int)) ∧ (((0 : Int) ≤ (((List.length r5.2.1) : Nat) : Int)) ∧ (((0 + (Int.toNat (((List.length r5.2.1) : Nat) : Int))) ≤ (List.length r7.2)) ∧ (((0 : Int) < (((List.length r5.2.1) : Nat) : Int)) ∨ (true = true))))) then
 if (((0 : Int) ≤ (IntKind.wrap .i64 (((r6.1 : Nat) : Int) - (((List.length r5.2.1) : Nat) : Int)))) ∧ (((IntKind.wrap .i64 (((r6.1 : Nat) : Int) - (((List.length r5.2.1) : Nat) : Int))) ≤ (IntKind.wrap .i64 (((r6.1 : Nat) : Int) - (((List.length r5.2.1) : Nat) : Int)))) ∧ (((IntKind.wrap .i64 (((r6.1 : Nat) : Int) - (((List.length r5.2.1) : Nat) : Int))) * (4 : Int)) ≤ (140737488355328 : Int)))) then
 Option.bind (qdl k k (Int.toNat (IntKind.wrap .i64 (((r6.1 : Nat) : Int) - (((List.length r5.2.1) : Nat) : Int)))) r5.2.2 (((List.length r5.2.1) : Nat) : Int) r6.1 (Int.toNat (((List.length r5.2.1) : Nat) : Int)) (IntKind.wrap .i64 ((IntKind.wrap .i64 (((r6.1 : Nat) : Int) - (((List.length r5.2.1) : Nat) : Int))) - (1 : Int))) (List.replicate (Int.toNat (IntKind.wrap .i64 (((r6.1 : Nat) : Int) - (((List.length r5.2.1) : Nat) : Int)))) (0 : Int)) r6.2 r7.2) fun r8 =>
 if (((0 : Int) ≤ r8.2.2.1) ∧ ((r8.2.2.1 ≤ r8.2.2.1) ∧ ((r8.2.2.1 * (4 : Int)) ≤ (140737488355328 : Int)))) then
 Option.bind (qcV k k r8.1 (Int.toNat r8.2.2.1) r8.2.1 r8.2.2.2.1 r8.2.2.1 (0 : Int) r8.2.2.2.2.1 (List.replicate (Int.toNat r8.2.2.1) (0 : Int)) r8.2.2.2.2.2.1) fun r9 =>
 if ((0 + r9.1) ≤ (List.length r9.2.2.1)) then
 if ((0 + r9.2.1) ≤ (List.length r9.2.2.2.1)) then
 (some ((List.take r9.1 r9.2.2.1), (List.take r9.2.1 r9.2.2.2.1)))
 else
 none
 else
 none
 else
 none
 else
 none
 else
 none
def qfa : Nat → List Int → List Int → Option (List Int × List Int)
 | 0, _, _ => none
 | k + 1, a, b => qhZ k a b
def qjb : FS := { vs := [.a (.lf (.sl (.int .u32))), .a (.lf (.sl (.int .u32)))], bs := [] }
def qo8 : List FS := [{ vs := [.a (.lf (.sl (.int .u32))), .a (.lf (.sl (.int .u32)))], bs := [] }]
def qvw (k : Nat) : Inst := ⟨137, qjb, qo8, fun x => qfa k x.1 x.2⟩
theorem qme (k : Nat) : qp (call cf k) [qkX k, qkY k] := qA (qCG k) (qA (qCJ k) qT)
def qh0 : List SS := [{ fr := [(0, .a (.lf (.sl (.int .u32)))), (1, .a (.lf (.sl (.int .u32)))), (6, .a (.lf (.int .u64)))], mem := [], nx := 0 }]
def qmf : List OS := [⟨some 0, { fr := [(0, .a (.lf (.sl (.int .u32)))), (1, .a (.lf (.sl (.int .u32)))), (6, .a (.lf (.int .u64)))], mem := [], nx := 0 }⟩]
def qdI (k : Nat) : LInst := ⟨0, qh0, qmf, fun x => qcU k k x.1 x.2.1 x.2.2⟩
theorem qzw (k : Nat) : qg (LOk (R := DS OS.D qmf) (fun b _ σ K => LOt Ty (kps 137) 0 b σ K []) cf (call cf k) (kps 137) Tryz.f137.ntmps k 0) 0 (lb Tryz.f137 0) :=
 qA (qA qT (qA qT qT)) qT
theorem qzx (k n : Nat) (x : DS SS.D qh0) : qcU k (n + 1) x.1 x.2.1 x.2.2 = qI SS.enc (fun σ => qJ cf (fun f a b K => COt f a b K [qkX k, qkY k]) (fun b _ σ K => LOt Ty (kps 137) 0 b σ K []) Tryz.f137.ntmps 0 (lb Tryz.f137 0) σ (qQ Ty (kps 137 0) 0 qh0 qmf fun x => qcU k n x.1 x.2.1 x.2.2)) qh0 x := by kernel_rfl
theorem qzy (k : Nat) : qae cf (call cf k) (kps 137) Tryz.f137.ntmps k 0 0 (lb Tryz.f137 0) (qdI k) :=
 qu (c := cf) (callF := call cf k) (kp := kps 137) (nt := Tryz.f137.ntmps) (k := k) (p := 0) (b := 0) (x0 := lb Tryz.f137 0) (hs := qh0) (os := qmf) (qd (qme k)) (qzw k) (fun n x => qcU k n x.1 x.2.1 x.2.2) (fun _ => rfl) (qzx k)
def qh1 : List SS := [{ fr := [(4, .a (.smz 0)), (6, .a (.lf (.int .u64))), (7, .a (.lf (.int .i64))), (8, .a (.smz 1)), (9, .a (.smz 2)), (10, .a (.lf (.int .i64))), (12, .a (.lf (.int .u64))), (13, .a (.lf (.int .u64)))], mem := [(0, some (.arr (.int .u32) 1 68 false)), (1, some (.arr (.int .u32) 1 68 false)), (2, some (.arr (.int .u32) 1 68 false))], nx := 3 }]
def qmg : List OS := [⟨some 4, { fr := [(4, .a (.smz 0)), (6, .a (.lf (.int .u64))), (7, .a (.lf (.int .i64))), (8, .a (.smz 1)), (9, .a (.smz 2)), (10, .a (.lf (.int .i64))), (12, .a (.lf (.int .u64)))], mem := [(0, some (.arr (.int .u32) 1 68 false)), (1, some (.arr (.int .u32) 1 68 false)), (2, some (.arr (.int .u32) 1 68 false))], nx := 3 }⟩]
def qef (k : Nat) : LInst := ⟨4, qh1, qmg, fun x => qbD k k x.1 x.2.1 x.2.2.1 x.2.2.2.1 x.2.2.2.2.1 x.2.2.2.2.2.1 x.2.2.2.2.2.2.1 x.2.2.2.2.2.2.2.1 x.2.2.2.2.2.2.2.2.1 x.2.2.2.2.2.2.2.2.2.1 x.2.2.2.2.2.2.2.2.2.2⟩
theorem qzz (k : Nat) : qg (LOk (R := DS OS.D qmg) (fun b _ σ K => LOt Ty (kps 137) 0 b σ K [qdI k]) cf (call cf k) (kps 137) Tryz.f137.ntmps k 0) 4 (lb Tryz.f137 2) :=
 qA (qA qT (qA qT qT)) (qA qT (qA qT (qA qT (qA qT qT))))
theorem qzA (k n : Nat) (x : DS SS.D qh1) : qbD k (n + 1) x.1 x.2.1 x.2.2.1 x.2.2.2.1 x.2.2.2.2.1 x.2.2.2.2.2.1 x.2.2.2.2.2.2.1 x.2.2.2.2.2.2.2.1 x.2.2.2.2.2.2.2.2.1 x.2.2.2.2.2.2.2.2.2.1 x.2.2.2.2.2.2.2.2.2.2 = qI SS.enc (fun σ => qJ cf (fun f a b K => COt f a b K [qkX k, qkY k]) (fun b _ σ K => LOt Ty (kps 137) 0 b σ K [qdI k]) Tryz.f137.ntmps 4 (lb Tryz.f137 2) σ (qQ Ty (kps 137 4) 0 qh1 qmg fun x => qbD k n x.1 x.2.1 x.2.2.1 x.2.2.2.1 x.2.2.2.2.1 x.2.2.2.2.2.1 x.2.2.2.2.2.2.1 x.2.2.2.2.2.2.2.1 x.2.2.2.2.2.2.2.2.1 x.2.2.2.2.2.2.2.2.2.1 x.2.2.2.2.2.2.2.2.2.2)) qh1 x := by kernel_rfl
theorem qzB (k : Nat) : qae cf (call cf k) (kps 137) Tryz.f137.ntmps k 0 4 (lb Tryz.f137 2) (qef k) :=
 qu (c := cf) (callF := call cf k) (kp := kps 137) (nt := Tryz.f137.ntmps) (k := k) (p := 0) (b := 4) (x0 := lb Tryz.f137 2) (hs := qh1) (os := qmg) (qd (qme k)) (qzz k) (fun n x => qbD k n x.1 x.2.1 x.2.2.1 x.2.2.2.1 x.2.2.2.2.1 x.2.2.2.2.2.1 x.2.2.2.2.2.2.1 x.2.2.2.2.2.2.2.1 x.2.2.2.2.2.2.2.2.1 x.2.2.2.2.2.2.2.2.2.1 x.2.2.2.2.2.2.2.2.2.2) (fun _ => rfl) (qzA k)
def qh2 : List SS := [{ fr := [(4, .a (.smz 0)), (6, .a (.lf (.int .u64))), (7, .a (.lf (.int .i64))), (8, .a (.smz 1)), (9, .a (.smz 2)), (10, .a (.lf (.int .i64)))], mem := [(0, some (.arr (.int .u32) 1 68 false)), (1, some (.arr (.int .u32) 1 68 false)), (2, some (.arr (.int .u32) 1 68 false))], nx := 3 }]
def qmh : List OS := [⟨some 2, { fr := [(4, .a (.smz 0)), (6, .a (.lf (.int .u64))), (7, .a (.lf (.int .i64))), (8, .a (.smz 1))], mem := [(0, some (.arr (.int .u32) 1 68 false)), (1, some (.arr (.int .u32) 1 68 false)), (2, some (.arr (.int .u32) 1 68 false))], nx := 3 }⟩]
def qfN (k : Nat) : LInst := ⟨2, qh2, qmh, fun x => qdl k k x.1 x.2.1 x.2.2.1 x.2.2.2.1 x.2.2.2.2.1 x.2.2.2.2.2.1 x.2.2.2.2.2.2.1 x.2.2.2.2.2.2.2.1 x.2.2.2.2.2.2.2.2⟩
theorem qzC (k : Nat) : qg (LOk (R := DS OS.D qmh) (fun b _ σ K => LOt Ty (kps 137) 0 b σ K [qdI k, qef k]) cf (call cf k) (kps 137) Tryz.f137.ntmps k 0) 2 (lb Tryz.f137 1) :=
 qA (qA qT (qA qT qT)) (qA (qA qT (qA qT (qA (qD (c := cf) (callF := call cf k) (kp := kps 137) (nt := Tryz.f137.ntmps) (k := k) (p := 0) (b := 4) (x0 := lb Tryz.f137 2) (l := [qdI k, qef k]) (qA (fun h => absurd (show (0 : Nat) = 4 from h) (by decide)) (qA (fun _ => qzB k) qT))) qT))) qT)
theorem qzD (k n : Nat) (x : DS SS.D qh2) : qdl k (n + 1) x.1 x.2.1 x.2.2.1 x.2.2.2.1 x.2.2.2.2.1 x.2.2.2.2.2.1 x.2.2.2.2.2.2.1 x.2.2.2.2.2.2.2.1 x.2.2.2.2.2.2.2.2 = qI SS.enc (fun σ => qJ cf (fun f a b K => COt f a b K [qkX k, qkY k]) (fun b _ σ K => LOt Ty (kps 137) 0 b σ K [qdI k, qef k]) Tryz.f137.ntmps 2 (lb Tryz.f137 1) σ (qQ Ty (kps 137 2) 0 qh2 qmh fun x => qdl k n x.1 x.2.1 x.2.2.1 x.2.2.2.1 x.2.2.2.2.1 x.2.2.2.2.2.1 x.2.2.2.2.2.2.1 x.2.2.2.2.2.2.2.1 x.2.2.2.2.2.2.2.2)) qh2 x := by kernel_rfl
theorem qzE (k : Nat) : qae cf (call cf k) (kps 137) Tryz.f137.ntmps k 0 2 (lb Tryz.f137 1) (qfN k) :=
 qu (c := cf) (callF := call cf k) (kp := kps 137) (nt := Tryz.f137.ntmps) (k := k) (p := 0) (b := 2) (x0 := lb Tryz.f137 1) (hs := qh2) (os := qmh) (qd (qme k)) (qzC k) (fun n x => qdl k n x.1 x.2.1 x.2.2.1 x.2.2.2.1 x.2.2.2.2.1 x.2.2.2.2.2.1 x.2.2.2.2.2.2.1 x.2.2.2.2.2.2.2.1 x.2.2.2.2.2.2.2.2) (fun _ => rfl) (qzD k)
def qh3 : List SS := [{ fr := [(4, .a (.smz 0)), (5, .a (.smz 1)), (6, .a (.lf (.int .u64))), (8, .a (.smz 2)), (139, .a (.lf (.int .i64))), (140, .a (.lf (.int .i64)))], mem := [(0, some (.arr (.int .u32) 1 68 false)), (1, some (.arr (.int .u32) 1 68 false)), (2, some (.arr (.int .u32) 1 68 false))], nx := 3 }]
def qmi : List OS := [⟨some 6, { fr := [(4, .a (.smz 0)), (5, .a (.smz 1))], mem := [(0, some (.arr (.int .u32) 1 68 false)), (1, some (.arr (.int .u32) 1 68 false)), (2, some (.arr (.int .u32) 1 68 false))], nx := 3 }⟩]
def qgM (k : Nat) : LInst := ⟨6, qh3, qmi, fun x => qcV k k x.1 x.2.1 x.2.2.1 x.2.2.2.1 x.2.2.2.2.1 x.2.2.2.2.2.1 x.2.2.2.2.2.2.1 x.2.2.2.2.2.2.2.1 x.2.2.2.2.2.2.2.2⟩
theorem qzF (k : Nat) : qg (LOk (R := DS OS.D qmi) (fun b _ σ K => LOt Ty (kps 137) 0 b σ K [qdI k, qef k, qfN k]) cf (call cf k) (kps 137) Tryz.f137.ntmps k 0) 6 (lb Tryz.f137 3) :=
 qA qT (qA (qA qT qT) (qA (qA qT qT) qT))
theorem qzG (k n : Nat) (x : DS SS.D qh3) : qcV k (n + 1) x.1 x.2.1 x.2.2.1 x.2.2.2.1 x.2.2.2.2.1 x.2.2.2.2.2.1 x.2.2.2.2.2.2.1 x.2.2.2.2.2.2.2.1 x.2.2.2.2.2.2.2.2 = qI SS.enc (fun σ => qJ cf (fun f a b K => COt f a b K [qkX k, qkY k]) (fun b _ σ K => LOt Ty (kps 137) 0 b σ K [qdI k, qef k, qfN k]) Tryz.f137.ntmps 6 (lb Tryz.f137 3) σ (qQ Ty (kps 137 6) 0 qh3 qmi fun x => qcV k n x.1 x.2.1 x.2.2.1 x.2.2.2.1 x.2.2.2.2.1 x.2.2.2.2.2.1 x.2.2.2.2.2.2.1 x.2.2.2.2.2.2.2.1 x.2.2.2.2.2.2.2.2)) qh3 x := by kernel_rfl
theorem qzH (k : Nat) : qae cf (call cf k) (kps 137) Tryz.f137.ntmps k 0 6 (lb Tryz.f137 3) (qgM k) :=
 qu (c := cf) (callF := call cf k) (kp := kps 137) (nt := Tryz.f137.ntmps) (k := k) (p := 0) (b := 6) (x0 := lb Tryz.f137 3) (hs := qh3) (os := qmi) (qd (qme k)) (qzF k) (fun n x => qcV k n x.1 x.2.1 x.2.2.1 x.2.2.2.1 x.2.2.2.2.1 x.2.2.2.2.2.1 x.2.2.2.2.2.2.1 x.2.2.2.2.2.2.2.1 x.2.2.2.2.2.2.2.2) (fun _ => rfl) (qzG k)
theorem qCK (k : Nat) : qg (LOk (R := DS FS.D qo8) (fun b _ σ K => LOt Ty (kps 137) 0 b σ K [qdI k, qef k, qfN k, qgM k]) cf (call cf k) (cf.keep 137) Tryz.f137.ntmps k qjb.bs.length) 0 (bd Tryz.f137) :=
 qA qT (qA qT (qA (qD (c := cf) (callF := call cf k) (kp := kps 137) (nt := Tryz.f137.ntmps) (k := k) (p := 0) (b := 0) (x0 := lb Tryz.f137 0) (l := [qdI k, qef k, qfN k, qgM k]) (qA (fun _ => qzy k) (qA (fun h => absurd (show (4 : Nat) = 0 from h) (by decide)) (qA (fun h => absurd (show (2 : Nat) = 0 from h) (by decide)) (qA (fun h => absurd (show (6 : Nat) = 0 from h) (by decide)) qT))))) (qA qT (qA qT (qA qT (qA (qA qT (qD (c := cf) (callF := call cf k) (kp := kps 137) (nt := Tryz.f137.ntmps) (k := k) (p := 0) (b := 2) (x0 := lb Tryz.f137 1) (l := [qdI k, qef k, qfN k, qgM k]) (qA (fun h => absurd (show (0 : Nat) = 2 from h) (by decide)) (qA (fun h => absurd (show (4 : Nat) = 2 from h) (by decide)) (qA (fun _ => qzE k) (qA (fun h => absurd (show (6 : Nat) = 2 from h) (by decide)) qT)))))) (qA qT (qA (qA qT (qD (c := cf) (callF := call cf k) (kp := kps 137) (nt := Tryz.f137.ntmps) (k := k) (p := 0) (b := 6) (x0 := lb Tryz.f137 3) (l := [qdI k, qef k, qfN k, qgM k]) (qA (fun h => absurd (show (0 : Nat) = 6 from h) (by decide)) (qA (fun h => absurd (show (4 : Nat) = 6 from h) (by decide)) (qA (fun h => absurd (show (2 : Nat) = 6 from h) (by decide)) (qA (fun _ => qzH k) qT)))))) (qA qT qT)))))))))
theorem qCL (k : Nat) (x : qjb.D) : qfa (k + 1) x.1 x.2 = qk cf (fun f a b K => COt f a b K [qkX k, qkY k]) (fun b _ σ K => LOt Ty (kps 137) 0 b σ K [qdI k, qef k, qfN k, qgM k]) 137 Tryz.f137.ntmps Tryz.f137.results.toList (bd Tryz.f137) (qjb.enc x).1 (qjb.enc x).2 (qo FS.dec qo8) := by kernel_rfl
theorem qCM : ∀ k, qh (call cf k) (qvw k)
 | 0 => fun x y e => absurd (show (none : Option _) = some y from e) (by simp)
 | k + 1 => qe (c := cf) (k := k) (f := 137) (fn := Tryz.f137) (body := bd Tryz.f137) (sh := qjb) (os := qo8) rfl Tryz.func137 rfl ⟨rfl, Nat.le_of_ble_eq_true rfl⟩ (qd (qme k)) (qCK k) (fun x => qfa (k + 1) x.1 x.2) (qCL k)

def qdz (k : Nat) (a : List Int) (b : List Int) : Option (List Int × List Int) :=
 Option.bind (qeb k a b) fun r4 =>
 if ((decide (r4 < (0 : Int))) = true) then
 (some ([], a))
 else
 if (((((List.length b) : Nat) : Int) == (1 : Int)) = true) then
 Option.bind (b)[0]? fun x2 =>
 Option.bind (qfm k a x2) fun r5 =>
 (some (r5.1, (List.take 1 (r5.2 :: []))))
 else
 Option.bind (qfa k a b) fun r5 =>
 (some (r5.1, r5.2))
def qcW : Nat → List Int → List Int → Option (List Int × List Int)
 | 0, _, _ => none
 | k + 1, a, b => qdz k a b
def qjc : FS := { vs := [.a (.lf (.sl (.int .u32))), .a (.lf (.sl (.int .u32)))], bs := [] }
def qo9 : List FS := [{ vs := [.a (.lf (.sl (.int .u32))), .a (.lf (.sl (.int .u32)))], bs := [] }]
def qnS (k : Nat) : Inst := ⟨130, qjc, qo9, fun x => qcW k x.1 x.2⟩
theorem qCN (k : Nat) : qp (call cf k) [qkW k, qvv k, qvw k] := qA (qs3 k) (qA (qCD k) (qA (qCM k) qT))
theorem qCO (k : Nat) : qg (LOk (R := DS FS.D qo9) (fun b _ σ K => LOt Ty (kps 130) 0 b σ K []) cf (call cf k) (cf.keep 130) Tryz.f130.ntmps k qjc.bs.length) 0 (bd Tryz.f130) :=
 qA qT (qA (qA qT (qA (qA qT qT) (qA qT (qA (qA qT (qA qT qT)) qT)))) (qA qT qT))
theorem qCP (k : Nat) (x : qjc.D) : qcW (k + 1) x.1 x.2 = qk cf (fun f a b K => COt f a b K [qkW k, qvv k, qvw k]) (fun b _ σ K => LOt Ty (kps 130) 0 b σ K []) 130 Tryz.f130.ntmps Tryz.f130.results.toList (bd Tryz.f130) (qjc.enc x).1 (qjc.enc x).2 (qo FS.dec qo9) := by kernel_rfl
theorem qwT : ∀ k, qh (call cf k) (qnS k)
 | 0 => fun x y e => absurd (show (none : Option _) = some y from e) (by simp)
 | k + 1 => qe (c := cf) (k := k) (f := 130) (fn := Tryz.f130) (body := bd Tryz.f130) (sh := qjc) (os := qo9) rfl Tryz.func130 rfl ⟨rfl, Nat.le_of_ble_eq_true rfl⟩ (qd (qCN k)) (qCO k) (fun x => qcW (k + 1) x.1 x.2) (qCP k)

def qeV (k : Nat) (neg : Bool) (w : List Int) (z : Bool) : Option (Bool × List Int) :=
 Option.bind (qc0 k w) fun r5 =>
 if (neg = true) then
 (some ((decide ((((List.length r5) : Nat) : Int) > (0 : Int))), r5))
 else
 (some (false, r5))
def qap : Nat → Bool → List Int → Bool → Option (Bool × List Int)
 | 0, _, _, _ => none
 | k + 1, neg, w, z => qeV k neg w z
def qjd : FS := { vs := [.a (.ptr 0 0 0), .a (.lf .bool), .a (.lf (.sl (.int .u32)))], bs := [.raw [[.lf .bool, .snil 1 68]] 2 72 true false] }
def qpa : List FS := [{ vs := [.a (.ptr 0 0 0)], bs := [.raw [[.lf .bool, .lf (.sl (.int .u32))]] 2 72 true false] }]
def qdJ (k : Nat) : Inst := ⟨110, qjd, qpa, fun x => qap k x.1 x.2.1 x.2.2⟩
theorem qCQ (k : Nat) : qp (call cf k) [qfV k] := qA (qlZ k) qT
theorem qCR (k : Nat) : qg (LOk (R := DS FS.D qpa) (fun b _ σ K => LOt Ty (kps 110) 1 b σ K []) cf (call cf k) (cf.keep 110) Tryz.f110.ntmps k qjd.bs.length) 0 (bd Tryz.f110) :=
 qA qT (qA qT (qA qT (qA qT qT)))
theorem qCS (k : Nat) (x : qjd.D) : qap (k + 1) x.1 x.2.1 x.2.2 = qk cf (fun f a b K => COt f a b K [qfV k]) (fun b _ σ K => LOt Ty (kps 110) 1 b σ K []) 110 Tryz.f110.ntmps Tryz.f110.results.toList (bd Tryz.f110) (qjd.enc x).1 (qjd.enc x).2 (qo FS.dec qpa) := by kernel_rfl
theorem qje : ∀ k, qh (call cf k) (qdJ k)
 | 0 => fun x y e => absurd (show (none : Option _) = some y from e) (by simp)
 | k + 1 => qe (c := cf) (k := k) (f := 110) (fn := Tryz.f110) (body := bd Tryz.f110) (sh := qjd) (os := qpa) rfl Tryz.func110 rfl ⟨rfl, Nat.le_of_ble_eq_true rfl⟩ (qd (qCQ k)) (qCR k) (fun x => qap (k + 1) x.1 x.2.1 x.2.2) (qCS k)

def qdy (k : Nat) (rec : List Int → List Int → Bool → List Int → Bool → List Int → Option (List Int × Bool × List Int × Bool × List Int)) (a : List Int) (b : List Int) (m0 : Bool) (m1 : List Int) (m01 : Bool) (m11 : List Int) : Option (List Int × Bool × List Int × Bool × List Int) :=
 if ((decide ((((List.length b) : Nat) : Int) > (0 : Int))) = true) then
 Option.bind (qcW k a b) fun r4 =>
 if (((0 + (List.length r4.2)) * 4) ≤ 140737488355328) then
 if ((0 + (0 + (List.length r4.2))) ≤ (List.length ((List.take 0 []) ++ r4.2))) then
 Option.bind (qc0 k (List.take (0 + (List.length r4.2)) ((List.take 0 []) ++ r4.2))) fun r5 =>
 rec b r5 m0 m1 m01 m11
 else
 none
 else
 none
 else
 (some (a, m0, m1, m01, m11))
def qb3 (k n : Nat) : List Int → List Int → Bool → List Int → Bool → List Int → Option (List Int × Bool × List Int × Bool × List Int) := Nat.rec (fun _ _ _ _ _ _ => none) (fun _ r => qdy k r) n
def qgc (k : Nat) (x0 : Bool) (x1 : List Int) (y0 : Bool) (y1 : List Int) : Option (Bool × List Int × Bool × List Int × Bool × List Int) :=
 Option.bind (qb3 k k x1 y1 x0 x1 y0 y1) fun r4 =>
 Option.bind (qap k false r4.1 false) fun r5 =>
 (some (r4.2.1, r4.2.2.1, r4.2.2.2.1, r4.2.2.2.2, r5.1, r5.2))
def qc1 : Nat → Bool → List Int → Bool → List Int → Option (Bool × List Int × Bool × List Int × Bool × List Int)
 | 0, _, _, _, _ => none
 | k + 1, x0, x1, y0, y1 => qgc k x0 x1 y0 y1
def qnT : FS := { vs := [.a (.ptr 0 0 0), .a (.ptr 1 0 0)], bs := [.raw [[.lf .bool, .lf (.sl (.int .u32))]] 2 72 true false, .raw [[.lf .bool, .lf (.sl (.int .u32))]] 2 72 true false] }
def qs5 : List FS := [{ vs := [.a (.ptr 2 0 0)], bs := [.raw [[.lf .bool, .lf (.sl (.int .u32))]] 2 72 true false, .raw [[.lf .bool, .lf (.sl (.int .u32))]] 2 72 true false, .raw [[.lf .bool, .lf (.sl (.int .u32))]] 2 72 true false] }]
def Iq1 (k : Nat) : Inst := ⟨111, qnT, qs5, fun x => qc1 k x.1 x.2.1 x.2.2.1 x.2.2.2⟩
theorem qzI (k : Nat) : qp (call cf k) [qnS k, qfV k, qdJ k] := qA (qwT k) (qA (qlZ k) (qA (qje k) qT))
def qh4 : List SS := [{ fr := [(5, .a (.lf (.sl (.int .u32)))), (6, .a (.lf (.sl (.int .u32))))], mem := [(0, some (.raw [[.lf .bool, .lf (.sl (.int .u32))]] 2 72 true false)), (1, some (.raw [[.lf .bool, .lf (.sl (.int .u32))]] 2 72 true false))], nx := 2 }]
def qmj : List OS := [⟨some 0, { fr := [(5, .a (.lf (.sl (.int .u32))))], mem := [(0, some (.raw [[.lf .bool, .lf (.sl (.int .u32))]] 2 72 true false)), (1, some (.raw [[.lf .bool, .lf (.sl (.int .u32))]] 2 72 true false))], nx := 2 }⟩]
def qmk (k : Nat) : LInst := ⟨0, qh4, qmj, fun x => qb3 k k x.1 x.2.1 x.2.2.1 x.2.2.2.1 x.2.2.2.2.1 x.2.2.2.2.2⟩
theorem qzJ (k : Nat) : qg (LOk (R := DS OS.D qmj) (fun b _ σ K => LOt Ty (kps 111) 2 b σ K []) cf (call cf k) (kps 111) Tryz.f111.ntmps k 2) 0 (lb Tryz.f111 0) :=
 qA (qA qT (qA qT qT)) (qA qT qT)
theorem qzK (k n : Nat) (x : DS SS.D qh4) : qb3 k (n + 1) x.1 x.2.1 x.2.2.1 x.2.2.2.1 x.2.2.2.2.1 x.2.2.2.2.2 = qI SS.enc (fun σ => qJ cf (fun f a b K => COt f a b K [qnS k, qfV k, qdJ k]) (fun b _ σ K => LOt Ty (kps 111) 2 b σ K []) Tryz.f111.ntmps 0 (lb Tryz.f111 0) σ (qQ Ty (kps 111 0) 2 qh4 qmj fun x => qb3 k n x.1 x.2.1 x.2.2.1 x.2.2.2.1 x.2.2.2.2.1 x.2.2.2.2.2)) qh4 x := by kernel_rfl
theorem qzL (k : Nat) : qae cf (call cf k) (kps 111) Tryz.f111.ntmps k 2 0 (lb Tryz.f111 0) (qmk k) :=
 qu (c := cf) (callF := call cf k) (kp := kps 111) (nt := Tryz.f111.ntmps) (k := k) (p := 2) (b := 0) (x0 := lb Tryz.f111 0) (hs := qh4) (os := qmj) (qd (qzI k)) (qzJ k) (fun n x => qb3 k n x.1 x.2.1 x.2.2.1 x.2.2.2.1 x.2.2.2.2.1 x.2.2.2.2.2) (fun _ => rfl) (qzK k)
theorem qG6 (k : Nat) : qg (LOk (R := DS FS.D qs5) (fun b _ σ K => LOt Ty (kps 111) 2 b σ K [qmk k]) cf (call cf k) (cf.keep 111) Tryz.f111.ntmps k qnT.bs.length) 0 (bd Tryz.f111) :=
 qA qT (qA qT (qA (qD (c := cf) (callF := call cf k) (kp := kps 111) (nt := Tryz.f111.ntmps) (k := k) (p := 2) (b := 0) (x0 := lb Tryz.f111 0) (l := [qmk k]) (qA (fun _ => qzL k) qT)) (qA qT qT)))
theorem qG7 (k : Nat) (x : qnT.D) : qc1 (k + 1) x.1 x.2.1 x.2.2.1 x.2.2.2 = qk cf (fun f a b K => COt f a b K [qnS k, qfV k, qdJ k]) (fun b _ σ K => LOt Ty (kps 111) 2 b σ K [qmk k]) 111 Tryz.f111.ntmps Tryz.f111.results.toList (bd Tryz.f111) (qnT.enc x).1 (qnT.enc x).2 (qo FS.dec qs5) := by kernel_rfl
theorem qvx : ∀ k, qh (call cf k) (Iq1 k)
 | 0 => fun x y e => absurd (show (none : Option _) = some y from e) (by simp)
 | k + 1 => qe (c := cf) (k := k) (f := 111) (fn := Tryz.f111) (body := bd Tryz.f111) (sh := qnT) (os := qs5) rfl Tryz.func111 rfl ⟨rfl, Nat.le_of_ble_eq_true rfl⟩ (qd (qzI k)) (qG6 k) (fun x => qc1 (k + 1) x.1 x.2.1 x.2.2.1 x.2.2.2) (qG7 k)

def qd0 (k : Nat) (z : Bool) (x0 : Bool) (x1 : List Int) (y0 : Bool) (y1 : List Int) (r : Bool) : Option (Bool × List Int × Bool × List Int × Bool × List Int × Bool × List Int) :=
 Option.bind (qcW k x1 y1) fun r5 =>
 Option.bind (qap k x0 r5.2 r) fun r6 =>
 Option.bind (qap k (!(x0 == y0)) r5.1 z) fun r7 =>
 (some (r7.1, r7.2, x0, x1, y0, y1, r6.1, r6.2))
def qbf : Nat → Bool → Bool → List Int → Bool → List Int → Bool → Option (Bool × List Int × Bool × List Int × Bool × List Int × Bool × List Int)
 | 0, _, _, _, _, _, _ => none
 | k + 1, z, x0, x1, y0, y1, r => qd0 k z x0 x1 y0 y1 r
def qjf : FS := { vs := [.a (.ptr 0 0 0), .a (.ptr 1 0 0), .a (.ptr 2 0 0), .a (.ptr 3 0 0)], bs := [.raw [[.lf .bool, .snil 1 68]] 2 72 true false, .raw [[.lf .bool, .lf (.sl (.int .u32))]] 2 72 true false, .raw [[.lf .bool, .lf (.sl (.int .u32))]] 2 72 true false, .raw [[.lf .bool, .snil 1 68]] 2 72 true false] }
def qpb : List FS := [{ vs := [.a (.ptr 0 0 0), .a (.ptr 3 0 0)], bs := [.raw [[.lf .bool, .lf (.sl (.int .u32))]] 2 72 true false, .raw [[.lf .bool, .lf (.sl (.int .u32))]] 2 72 true false, .raw [[.lf .bool, .lf (.sl (.int .u32))]] 2 72 true false, .raw [[.lf .bool, .lf (.sl (.int .u32))]] 2 72 true false] }]
def qq2 (k : Nat) : Inst := ⟨126, qjf, qpb, fun x => qbf k x.1 x.2.1 x.2.2.1 x.2.2.2.1 x.2.2.2.2.1 x.2.2.2.2.2⟩
theorem qCT (k : Nat) : qp (call cf k) [qnS k, qdJ k] := qA (qwT k) (qA (qje k) qT)
theorem qCU (k : Nat) : qg (LOk (R := DS FS.D qpb) (fun b _ σ K => LOt Ty (kps 126) 4 b σ K []) cf (call cf k) (cf.keep 126) Tryz.f126.ntmps k qjf.bs.length) 0 (bd Tryz.f126) :=
 qA qT (qA qT (qA qT (qA qT (qA qT qT))))
theorem qCV (k : Nat) (x : qjf.D) : qbf (k + 1) x.1 x.2.1 x.2.2.1 x.2.2.2.1 x.2.2.2.2.1 x.2.2.2.2.2 = qk cf (fun f a b K => COt f a b K [qnS k, qdJ k]) (fun b _ σ K => LOt Ty (kps 126) 4 b σ K []) 126 Tryz.f126.ntmps Tryz.f126.results.toList (bd Tryz.f126) (qjf.enc x).1 (qjf.enc x).2 (qo FS.dec qpb) := by kernel_rfl
theorem qwU : ∀ k, qh (call cf k) (qq2 k)
 | 0 => fun x y e => absurd (show (none : Option _) = some y from e) (by simp)
 | k + 1 => qe (c := cf) (k := k) (f := 126) (fn := Tryz.f126) (body := bd Tryz.f126) (sh := qjf) (os := qpb) rfl Tryz.func126 rfl ⟨rfl, Nat.le_of_ble_eq_true rfl⟩ (qd (qCT k)) (qCU k) (fun x => qbf (k + 1) x.1 x.2.1 x.2.2.1 x.2.2.2.1 x.2.2.2.2.1 x.2.2.2.2.2) (qCV k)

def qkZ (k : Nat) (z : Bool) (x0 : Bool) (x1 : List Int) (y0 : Bool) (y1 : List Int) : Option (Bool × List Int × Bool × List Int × Bool × List Int) :=
 Option.bind (qbf k z x0 x1 y0 y1 false) fun r5 =>
 (some (r5.1, r5.2.1, r5.2.2.1, r5.2.2.2.1, r5.2.2.2.2.1, r5.2.2.2.2.2.1))
def qac : Nat → Bool → Bool → List Int → Bool → List Int → Option (Bool × List Int × Bool × List Int × Bool × List Int)
 | 0, _, _, _, _, _ => none
 | k + 1, z, x0, x1, y0, y1 => qkZ k z x0 x1 y0 y1
def qjg : FS := { vs := [.a (.ptr 0 0 0), .a (.ptr 1 0 0), .a (.ptr 2 0 0)], bs := [.raw [[.lf .bool, .snil 1 68]] 2 72 true false, .raw [[.lf .bool, .lf (.sl (.int .u32))]] 2 72 true false, .raw [[.lf .bool, .lf (.sl (.int .u32))]] 2 72 true false] }
def qpc : List FS := [{ vs := [.a (.ptr 0 0 0)], bs := [.raw [[.lf .bool, .lf (.sl (.int .u32))]] 2 72 true false, .raw [[.lf .bool, .lf (.sl (.int .u32))]] 2 72 true false, .raw [[.lf .bool, .lf (.sl (.int .u32))]] 2 72 true false] }]
def qq3 (k : Nat) : Inst := ⟨112, qjg, qpc, fun x => qac k x.1 x.2.1 x.2.2.1 x.2.2.2.1 x.2.2.2.2⟩
theorem qCW (k : Nat) : qp (call cf k) [qq2 k] := qA (qwU k) qT
theorem qCX (k : Nat) : qg (LOk (R := DS FS.D qpc) (fun b _ σ K => LOt Ty (kps 112) 3 b σ K []) cf (call cf k) (cf.keep 112) Tryz.f112.ntmps k qjg.bs.length) 0 (bd Tryz.f112) :=
 qA qT (qA qT (qA qT qT))
theorem qCY (k : Nat) (x : qjg.D) : qac (k + 1) x.1 x.2.1 x.2.2.1 x.2.2.2.1 x.2.2.2.2 = qk cf (fun f a b K => COt f a b K [qq2 k]) (fun b _ σ K => LOt Ty (kps 112) 3 b σ K []) 112 Tryz.f112.ntmps Tryz.f112.results.toList (bd Tryz.f112) (qjg.enc x).1 (qjg.enc x).2 (qo FS.dec qpc) := by kernel_rfl
theorem qwV : ∀ k, qh (call cf k) (qq3 k)
 | 0 => fun x y e => absurd (show (none : Option _) = some y from e) (by simp)
 | k + 1 => qe (c := cf) (k := k) (f := 112) (fn := Tryz.f112) (body := bd Tryz.f112) (sh := qjg) (os := qpc) rfl Tryz.func112 rfl ⟨rfl, Nat.le_of_ble_eq_true rfl⟩ (qd (qCW k)) (qCX k) (fun x => qac (k + 1) x.1 x.2.1 x.2.2.1 x.2.2.2.1 x.2.2.2.2) (qCY k)

def qdb (k : Nat) (z0 : Bool) (z1 : Bool) (n0 : Bool) (n1 : List Int) (d0 : Bool) (d1 : List Int) : Option (Bool × List Int × Bool × List Int × Bool × List Int × Bool × List Int) :=
 Option.bind (qc1 k n0 n1 d0 d1) fun r4 =>
 if (r4.2.2.1 = true) then
 Option.bind (qac k false r4.1 r4.2.1 true r4.2.2.2.2.2) fun r5 =>
 Option.bind (qac k false r4.2.2.1 r4.2.2.2.1 r5.2.2.2.2.1 r5.2.2.2.2.2) fun r6 =>
 (some (r5.1, r5.2.1, r6.1, r6.2.1, r5.2.2.1, r5.2.2.2.1, r6.2.2.1, r6.2.2.2.1))
 else
 Option.bind (qac k false r4.1 r4.2.1 r4.2.2.2.2.1 r4.2.2.2.2.2) fun r5 =>
 Option.bind (qac k false r4.2.2.1 r4.2.2.2.1 r5.2.2.2.2.1 r5.2.2.2.2.2) fun r6 =>
 (some (r5.1, r5.2.1, r6.1, r6.2.1, r5.2.2.1, r5.2.2.2.1, r6.2.2.1, r6.2.2.2.1))
def qaT : Nat → Bool → Bool → Bool → List Int → Bool → List Int → Option (Bool × List Int × Bool × List Int × Bool × List Int × Bool × List Int)
 | 0, _, _, _, _, _, _ => none
 | k + 1, z0, z1, n0, n1, d0, d1 => qdb k z0 z1 n0 n1 d0 d1
def qjh : FS := { vs := [.a (.ptr 0 0 0), .a (.ptr 1 0 0), .a (.ptr 2 0 0)], bs := [.raw [[.lf .bool, .snil 1 68, .lf .bool, .snil 1 68]] 4 74 true false, .raw [[.lf .bool, .lf (.sl (.int .u32))]] 2 72 true false, .raw [[.lf .bool, .lf (.sl (.int .u32))]] 2 72 true false] }
def qpd : List FS := [{ vs := [.a (.ptr 0 0 0)], bs := [.raw [[.lf .bool, .lf (.sl (.int .u32)), .lf .bool, .lf (.sl (.int .u32))]] 4 74 true false, .raw [[.lf .bool, .lf (.sl (.int .u32))]] 2 72 true false, .raw [[.lf .bool, .lf (.sl (.int .u32))]] 2 72 true false] }]
def qq4 (k : Nat) : Inst := ⟨77, qjh, qpd, fun x => qaT k x.1 x.2.1 x.2.2.1 x.2.2.2.1 x.2.2.2.2.1 x.2.2.2.2.2⟩
theorem qCZ (k : Nat) : qp (call cf k) [Iq1 k, qq3 k] := qA (qvx k) (qA (qwV k) qT)
theorem qC0 (k : Nat) : qg (LOk (R := DS FS.D qpd) (fun b _ σ K => LOt Ty (kps 77) 3 b σ K []) cf (call cf k) (cf.keep 77) Tryz.f77.ntmps k qjh.bs.length) 0 (bd Tryz.f77) :=
 qA qT (qA qT (qA (qA qT (qA qT qT)) (qA qT (qA qT (qA qT (qA qT (qA qT qT)))))))
theorem qC1 (k : Nat) (x : qjh.D) : qaT (k + 1) x.1 x.2.1 x.2.2.1 x.2.2.2.1 x.2.2.2.2.1 x.2.2.2.2.2 = qk cf (fun f a b K => COt f a b K [Iq1 k, qq3 k]) (fun b _ σ K => LOt Ty (kps 77) 3 b σ K []) 77 Tryz.f77.ntmps Tryz.f77.results.toList (bd Tryz.f77) (qjh.enc x).1 (qjh.enc x).2 (qo FS.dec qpd) := by kernel_rfl
theorem qwW : ∀ k, qh (call cf k) (qq4 k)
 | 0 => fun x y e => absurd (show (none : Option _) = some y from e) (by simp)
 | k + 1 => qe (c := cf) (k := k) (f := 77) (fn := Tryz.f77) (body := bd Tryz.f77) (sh := qjh) (os := qpd) rfl Tryz.func77 rfl ⟨rfl, Nat.le_of_ble_eq_true rfl⟩ (qd (qCZ k)) (qC0 k) (fun x => qaT (k + 1) x.1 x.2.1 x.2.2.1 x.2.2.2.1 x.2.2.2.2.1 x.2.2.2.2.2) (qC1 k)

def qoJ (k : Nat) (n0 : Bool) (n1 : List Int) (d0 : Bool) (d1 : List Int) : Option (Bool × List Int × Bool × List Int × Bool × List Int × Bool × List Int) :=
 Option.bind (qaT k false false n0 n1 d0 d1) fun r4 =>
 (some (r4.2.2.2.2.1, r4.2.2.2.2.2.1, r4.2.2.2.2.2.2.1, r4.2.2.2.2.2.2.2, r4.1, r4.2.1, r4.2.2.1, r4.2.2.2.1))
def qbP : Nat → Bool → List Int → Bool → List Int → Option (Bool × List Int × Bool × List Int × Bool × List Int × Bool × List Int)
 | 0, _, _, _, _ => none
 | k + 1, n0, n1, d0, d1 => qoJ k n0 n1 d0 d1
def qnU : FS := { vs := [.a (.ptr 0 0 0), .a (.ptr 1 0 0)], bs := [.raw [[.lf .bool, .lf (.sl (.int .u32))]] 2 72 true false, .raw [[.lf .bool, .lf (.sl (.int .u32))]] 2 72 true false] }
def qs6 : List FS := [{ vs := [.a (.ptr 2 0 0)], bs := [.raw [[.lf .bool, .lf (.sl (.int .u32))]] 2 72 true false, .raw [[.lf .bool, .lf (.sl (.int .u32))]] 2 72 true false, .raw [[.lf .bool, .lf (.sl (.int .u32)), .lf .bool, .lf (.sl (.int .u32))]] 4 74 true false] }]
def Iq0 (k : Nat) : Inst := ⟨68, qnU, qs6, fun x => qbP k x.1 x.2.1 x.2.2.1 x.2.2.2⟩
theorem qG8 (k : Nat) : qp (call cf k) [qq4 k] := qA (qwW k) qT
theorem qG9 (k : Nat) : qg (LOk (R := DS FS.D qs6) (fun b _ σ K => LOt Ty (kps 68) 2 b σ K []) cf (call cf k) (cf.keep 68) Tryz.f68.ntmps k qnU.bs.length) 0 (bd Tryz.f68) :=
 qA qT (qA qT qT)
theorem qHa (k : Nat) (x : qnU.D) : qbP (k + 1) x.1 x.2.1 x.2.2.1 x.2.2.2 = qk cf (fun f a b K => COt f a b K [qq4 k]) (fun b _ σ K => LOt Ty (kps 68) 2 b σ K []) 68 Tryz.f68.ntmps Tryz.f68.results.toList (bd Tryz.f68) (qnU.enc x).1 (qnU.enc x).2 (qo FS.dec qs6) := by kernel_rfl
theorem qvy : ∀ k, qh (call cf k) (Iq0 k)
 | 0 => fun x y e => absurd (show (none : Option _) = some y from e) (by simp)
 | k + 1 => qe (c := cf) (k := k) (f := 68) (fn := Tryz.f68) (body := bd Tryz.f68) (sh := qnU) (os := qs6) rfl Tryz.func68 rfl ⟨rfl, Nat.le_of_ble_eq_true rfl⟩ (qd (qG8 k)) (qG9 k) (fun x => qbP (k + 1) x.1 x.2.1 x.2.2.1 x.2.2.2) (qHa k)

def qfO (k : Nat) (n0 : Int) (n1 : Int) : Option (Bool × List Int × Bool × List Int) :=
 Option.bind (qfw k (max n1 (IntKind.wrap .i64 ((0 : Int) - n1)))) fun r2 =>
 if ((decide (n1 < (0 : Int))) = true) then
 Option.bind (qaI k n0) fun r3 =>
 Option.bind (qbP k r3.1 r3.2 r2.1 r2.2) fun r4 =>
 (some (r4.2.2.2.2.1, r4.2.2.2.2.2.1, r4.2.2.2.2.2.2.1, r4.2.2.2.2.2.2.2))
 else
 Option.bind (qaI k n0) fun r3 =>
 Option.bind (qbS k r2.1 r2.2 r3.1 r3.2) fun r4 =>
 Option.bind (qaI k (1 : Int)) fun r5 =>
 Option.bind (qbP k r4.1 r4.2.1 r5.1 r5.2) fun r6 =>
 (some (r6.2.2.2.2.1, r6.2.2.2.2.2.1, r6.2.2.2.2.2.2.1, r6.2.2.2.2.2.2.2))
def qeg : Nat → Int → Int → Option (Bool × List Int × Bool × List Int)
 | 0, _, _ => none
 | k + 1, n0, n1 => qfO k n0 n1
def qji : FS := { vs := [.g [.lf (.int .i64), .lf (.int .i64)]], bs := [] }
def qpe : List FS := [{ vs := [.a (.ptr 0 0 0)], bs := [.raw [[.lf .bool, .lf (.sl (.int .u32)), .lf .bool, .lf (.sl (.int .u32))]] 4 74 true false] }]
def qvz (k : Nat) : Inst := ⟨97, qji, qpe, fun x => qeg k x.1 x.2⟩
theorem qC2 (k : Nat) : qp (call cf k) [qvu k, qfW k, Iq0 k, Iq8 k] := qA (qCy k) (qA (ql0 k) (qA (qvy k) (qA (qzd k) qT)))
theorem qC3 (k : Nat) : qg (LOk (R := DS FS.D qpe) (fun b _ σ K => LOt Ty (kps 97) 0 b σ K []) cf (call cf k) (cf.keep 97) Tryz.f97.ntmps k qji.bs.length) 0 (bd Tryz.f97) :=
 qA qT (qA qT (qA (qA qT (qA (qA qT qT) qT)) (qA qT qT)))
theorem qC4 (k : Nat) (x : qji.D) : qeg (k + 1) x.1 x.2 = qk cf (fun f a b K => COt f a b K [qvu k, qfW k, Iq0 k, Iq8 k]) (fun b _ σ K => LOt Ty (kps 97) 0 b σ K []) 97 Tryz.f97.ntmps Tryz.f97.results.toList (bd Tryz.f97) (qji.enc x).1 (qji.enc x).2 (qo FS.dec qpe) := by kernel_rfl
theorem qC5 : ∀ k, qh (call cf k) (qvz k)
 | 0 => fun x y e => absurd (show (none : Option _) = some y from e) (by simp)
 | k + 1 => qe (c := cf) (k := k) (f := 97) (fn := Tryz.f97) (body := bd Tryz.f97) (sh := qji) (os := qpe) rfl Tryz.func97 rfl ⟨rfl, Nat.le_of_ble_eq_true rfl⟩ (qd (qC2 k)) (qC3 k) (fun x => qeg (k + 1) x.1 x.2) (qC4 k)

def qnV (k : Nat) (neg : Bool) (w : List Int) : Option (Bool × List Int) :=
 if (((0 + (List.length w)) * 4) ≤ 140737488355328) then
 if ((0 + (0 + (List.length w))) ≤ (List.length ((List.take 0 []) ++ w))) then
 Option.bind (qc0 k (List.take (0 + (List.length w)) ((List.take 0 []) ++ w))) fun r3 =>
 if (neg = true) then
 (some ((decide ((((List.length r3) : Nat) : Int) > (0 : Int))), r3))
 else
 (some (false, r3))
 else
 none
 else
 none
def qes : Nat → Bool → List Int → Option (Bool × List Int)
 | 0, _, _ => none
 | k + 1, neg, w => qnV k neg w
def qjj : FS := { vs := [.a (.lf .bool), .a (.lf (.sl (.int .u32)))], bs := [] }
def qpf : List FS := [{ vs := [.a (.ptr 0 0 0)], bs := [.raw [[.lf .bool, .lf (.sl (.int .u32))]] 2 72 true false] }]
def qk0 (k : Nat) : Inst := ⟨104, qjj, qpf, fun x => qes k x.1 x.2⟩
theorem qC6 (k : Nat) : qp (call cf k) [qfV k] := qA (qlZ k) qT
theorem qC7 (k : Nat) : qg (LOk (R := DS FS.D qpf) (fun b _ σ K => LOt Ty (kps 104) 0 b σ K []) cf (call cf k) (cf.keep 104) Tryz.f104.ntmps k qjj.bs.length) 0 (bd Tryz.f104) :=
 qA qT (qA qT (qA qT (qA qT qT)))
theorem qC8 (k : Nat) (x : qjj.D) : qes (k + 1) x.1 x.2 = qk cf (fun f a b K => COt f a b K [qfV k]) (fun b _ σ K => LOt Ty (kps 104) 0 b σ K []) 104 Tryz.f104.ntmps Tryz.f104.results.toList (bd Tryz.f104) (qjj.enc x).1 (qjj.enc x).2 (qo FS.dec qpf) := by kernel_rfl
theorem qs7 : ∀ k, qh (call cf k) (qk0 k)
 | 0 => fun x y e => absurd (show (none : Option _) = some y from e) (by simp)
 | k + 1 => qe (c := cf) (k := k) (f := 104) (fn := Tryz.f104) (body := bd Tryz.f104) (sh := qjj) (os := qpf) rfl Tryz.func104 rfl ⟨rfl, Nat.le_of_ble_eq_true rfl⟩ (qd (qC6 k)) (qC7 k) (fun x => qes (k + 1) x.1 x.2) (qC8 k)

def qk1 (k : Nat) (z0 : Bool) (z1 : List Int) (z2 : Bool) (z3 : List Int) : Option (Bool × List Int × Bool × List Int × Bool × List Int) :=
 Option.bind (qes k z0 z1) fun r3 =>
 (some (z0, z1, z2, z3, r3.1, r3.2))
def qbU : Nat → Bool → List Int → Bool → List Int → Option (Bool × List Int × Bool × List Int × Bool × List Int)
 | 0, _, _, _, _ => none
 | k + 1, z0, z1, z2, z3 => qk1 k z0 z1 z2 z3
def qjk : FS := { vs := [.a (.ptr 0 0 0)], bs := [.raw [[.lf .bool, .lf (.sl (.int .u32)), .lf .bool, .lf (.sl (.int .u32))]] 4 74 true false] }
def qpg : List FS := [{ vs := [.a (.ptr 1 0 0)], bs := [.raw [[.lf .bool, .lf (.sl (.int .u32)), .lf .bool, .lf (.sl (.int .u32))]] 4 74 true false, .raw [[.lf .bool, .lf (.sl (.int .u32))]] 2 72 true false] }]
def qq5 (k : Nat) : Inst := ⟨79, qjk, qpg, fun x => qbU k x.1 x.2.1 x.2.2.1 x.2.2.2⟩
theorem qC9 (k : Nat) : qp (call cf k) [qk0 k] := qA (qs7 k) qT
theorem qDa (k : Nat) : qg (LOk (R := DS FS.D qpg) (fun b _ σ K => LOt Ty (kps 79) 1 b σ K []) cf (call cf k) (cf.keep 79) Tryz.f79.ntmps k qjk.bs.length) 0 (bd Tryz.f79) :=
 qA qT (qA qT qT)
theorem qDb (k : Nat) (x : qjk.D) : qbU (k + 1) x.1 x.2.1 x.2.2.1 x.2.2.2 = qk cf (fun f a b K => COt f a b K [qk0 k]) (fun b _ σ K => LOt Ty (kps 79) 1 b σ K []) 79 Tryz.f79.ntmps Tryz.f79.results.toList (bd Tryz.f79) (qjk.enc x).1 (qjk.enc x).2 (qo FS.dec qpg) := by kernel_rfl
theorem qwX : ∀ k, qh (call cf k) (qq5 k)
 | 0 => fun x y e => absurd (show (none : Option _) = some y from e) (by simp)
 | k + 1 => qe (c := cf) (k := k) (f := 79) (fn := Tryz.f79) (body := bd Tryz.f79) (sh := qjk) (os := qpg) rfl Tryz.func79 rfl ⟨rfl, Nat.le_of_ble_eq_true rfl⟩ (qd (qC9 k)) (qDa k) (fun x => qbU (k + 1) x.1 x.2.1 x.2.2.1 x.2.2.2) (qDb k)

def qdc (k : Nat) (z0 : Bool) (z1 : List Int) : Option (Int × Bool × List Int) :=
 if (((((List.length z1) : Nat) : Int) == (0 : Int)) = true) then
 (some ((0 : Int), z0, z1))
 else
 if (z0 = true) then
 (some ((-(1 : Int)), z0, z1))
 else
 (some ((1 : Int), z0, z1))
def qaJ : Nat → Bool → List Int → Option (Int × Bool × List Int)
 | 0, _, _ => none
 | k + 1, z0, z1 => qdc k z0 z1
def qjl : FS := { vs := [.a (.ptr 0 0 0)], bs := [.raw [[.lf .bool, .lf (.sl (.int .u32))]] 2 72 true false] }
def qph : List FS := [{ vs := [.a (.lf (.int .i64))], bs := [.raw [[.lf .bool, .lf (.sl (.int .u32))]] 2 72 true false] }]
def qq6 (k : Nat) : Inst := ⟨105, qjl, qph, fun x => qaJ k x.1 x.2⟩
theorem qDc (k : Nat) : qp (call cf k) [] := True.intro
theorem qDd (k : Nat) : qg (LOk (R := DS FS.D qph) (fun b _ σ K => LOt Ty (kps 105) 1 b σ K []) cf (call cf k) (cf.keep 105) Tryz.f105.ntmps k qjl.bs.length) 0 (bd Tryz.f105) :=
 qA qT (qA (qA qT (qA (qA qT qT) (qA qT (qA (qA qT qT) qT)))) (qA qT qT))
theorem qDe (k : Nat) (x : qjl.D) : qaJ (k + 1) x.1 x.2 = qk cf (fun f a b K => COt f a b K []) (fun b _ σ K => LOt Ty (kps 105) 1 b σ K []) 105 Tryz.f105.ntmps Tryz.f105.results.toList (bd Tryz.f105) (qjl.enc x).1 (qjl.enc x).2 (qo FS.dec qph) := by kernel_rfl
theorem qwY : ∀ k, qh (call cf k) (qq6 k)
 | 0 => fun x y e => absurd (show (none : Option _) = some y from e) (by simp)
 | k + 1 => qe (c := cf) (k := k) (f := 105) (fn := Tryz.f105) (body := bd Tryz.f105) (sh := qjl) (os := qph) rfl Tryz.func105 rfl ⟨rfl, Nat.le_of_ble_eq_true rfl⟩ (qd (qDc k)) (qDd k) (fun x => qaJ (k + 1) x.1 x.2) (qDe k)

def qeh (k : Nat) (z0 : Bool) (z1 : List Int) : Option (Nat × Bool × List Int × List Int) :=
 if (((0 + (List.length z1)) * 4) ≤ 140737488355328) then
 (some ((0 + (List.length z1)), z0, z1, ((List.take 0 []) ++ z1)))
 else
 none
def qb4 : Nat → Bool → List Int → Option (Nat × Bool × List Int × List Int)
 | 0, _, _ => none
 | k + 1, z0, z1 => qeh k z0 z1
def qjm : FS := { vs := [.a (.ptr 0 0 0)], bs := [.raw [[.lf .bool, .lf (.sl (.int .u32))]] 2 72 true false] }
def qpi : List FS := [{ vs := [.a (.smz 1)], bs := [.raw [[.lf .bool, .lf (.sl (.int .u32))]] 2 72 true false, .arr (.int .u32) 1 68 false] }]
def qvA (k : Nat) : Inst := ⟨106, qjm, qpi, fun x => qb4 k x.1 x.2⟩
theorem qDf (k : Nat) : qp (call cf k) [] := True.intro
theorem qDg (k : Nat) : qg (LOk (R := DS FS.D qpi) (fun b _ σ K => LOt Ty (kps 106) 1 b σ K []) cf (call cf k) (cf.keep 106) Tryz.f106.ntmps k qjm.bs.length) 0 (bd Tryz.f106) :=
 qA qT (qA qT qT)
theorem qDh (k : Nat) (x : qjm.D) : qb4 (k + 1) x.1 x.2 = qk cf (fun f a b K => COt f a b K []) (fun b _ σ K => LOt Ty (kps 106) 1 b σ K []) 106 Tryz.f106.ntmps Tryz.f106.results.toList (bd Tryz.f106) (qjm.enc x).1 (qjm.enc x).2 (qo FS.dec qpi) := by kernel_rfl
theorem qDi : ∀ k, qh (call cf k) (qvA k)
 | 0 => fun x y e => absurd (show (none : Option _) = some y from e) (by simp)
 | k + 1 => qe (c := cf) (k := k) (f := 106) (fn := Tryz.f106) (body := bd Tryz.f106) (sh := qjm) (os := qpi) rfl Tryz.func106 rfl ⟨rfl, Nat.le_of_ble_eq_true rfl⟩ (qd (qDf k)) (qDg k) (fun x => qb4 (k + 1) x.1 x.2) (qDh k)

def qfx (k : Nat) (z0 : Bool) (z1 : List Int) : Option (Bool × Nat × Bool × List Int × List Int) :=
 Option.bind (qaJ k z0 z1) fun r4 =>
 Option.bind (qb4 k r4.2.1 r4.2.2) fun r5 =>
 (some ((decide (r4.1 < (0 : Int))), r5.1, r5.2.1, r5.2.2.1, r5.2.2.2))
def qb5 : Nat → Bool → List Int → Option (Bool × Nat × Bool × List Int × List Int)
 | 0, _, _ => none
 | k + 1, z0, z1 => qfx k z0 z1
def qgN : FS := { vs := [.a (.ptr 0 0 0)], bs := [.raw [[.lf .bool, .lf (.sl (.int .u32))]] 2 72 true false] }
def qml : List FS := [{ vs := [.g [.lf .bool, .smz 1]], bs := [.raw [[.lf .bool, .lf (.sl (.int .u32))]] 2 72 true false, .arr (.int .u32) 1 68 false] }]
def qmm (k : Nat) : Inst := ⟨70, qgN, qml, fun x => qb5 k x.1 x.2⟩
theorem qzM (k : Nat) : qp (call cf k) [qq6 k, qvA k] := qA (qwY k) (qA (qDi k) qT)
theorem qzN (k : Nat) : qg (LOk (R := DS FS.D qml) (fun b _ σ K => LOt Ty (kps 70) 1 b σ K []) cf (call cf k) (cf.keep 70) Tryz.f70.ntmps k qgN.bs.length) 0 (bd Tryz.f70) :=
 qA qT (qA qT qT)
theorem qzO (k : Nat) (x : qgN.D) : qb5 (k + 1) x.1 x.2 = qk cf (fun f a b K => COt f a b K [qq6 k, qvA k]) (fun b _ σ K => LOt Ty (kps 70) 1 b σ K []) 70 Tryz.f70.ntmps Tryz.f70.results.toList (bd Tryz.f70) (qgN.enc x).1 (qgN.enc x).2 (qo FS.dec qml) := by kernel_rfl
theorem qup : ∀ k, qh (call cf k) (qmm k)
 | 0 => fun x y e => absurd (show (none : Option _) = some y from e) (by simp)
 | k + 1 => qe (c := cf) (k := k) (f := 70) (fn := Tryz.f70) (body := bd Tryz.f70) (sh := qgN) (os := qml) rfl Tryz.func70 rfl ⟨rfl, Nat.le_of_ble_eq_true rfl⟩ (qd (qzM k)) (qzN k) (fun x => qb5 (k + 1) x.1 x.2) (qzO k)

def qei (k : Nat) (z0 : Bool) (z1 : List Int) (z2 : Bool) (z3 : List Int) : Option (Bool × List Int × Bool × List Int × Bool × List Int) :=
 if (((((List.length z3) : Nat) : Int) == (0 : Int)) = true) then
 Option.bind (qaI k (1 : Int)) fun r5 =>
 (some (z0, z1, z2, z3, r5.1, r5.2))
 else
 Option.bind (qes k false z3) fun r5 =>
 (some (z0, z1, z2, z3, r5.1, r5.2))
def qC : Nat → Bool → List Int → Bool → List Int → Option (Bool × List Int × Bool × List Int × Bool × List Int)
 | 0, _, _, _, _ => none
 | k + 1, z0, z1, z2, z3 => qei k z0 z1 z2 z3
def qjn : FS := { vs := [.a (.ptr 0 0 0)], bs := [.raw [[.lf .bool, .lf (.sl (.int .u32)), .lf .bool, .lf (.sl (.int .u32))]] 4 74 true false] }
def qpj : List FS := [{ vs := [.a (.ptr 1 0 0)], bs := [.raw [[.lf .bool, .lf (.sl (.int .u32)), .lf .bool, .lf (.sl (.int .u32))]] 4 74 true false, .raw [[.lf .bool, .lf (.sl (.int .u32))]] 2 72 true false] }]
def qgd (k : Nat) : Inst := ⟨76, qjn, qpj, fun x => qC k x.1 x.2.1 x.2.2.1 x.2.2.2⟩
theorem qDj (k : Nat) : qp (call cf k) [qfW k, qk0 k] := qA (ql0 k) (qA (qs7 k) qT)
theorem qDk (k : Nat) : qg (LOk (R := DS FS.D qpj) (fun b _ σ K => LOt Ty (kps 76) 1 b σ K []) cf (call cf k) (cf.keep 76) Tryz.f76.ntmps k qjn.bs.length) 0 (bd Tryz.f76) :=
 qA qT (qA (qA qT (qA (qA qT qT) qT)) (qA qT qT))
theorem qDl (k : Nat) (x : qjn.D) : qC (k + 1) x.1 x.2.1 x.2.2.1 x.2.2.2 = qk cf (fun f a b K => COt f a b K [qfW k, qk0 k]) (fun b _ σ K => LOt Ty (kps 76) 1 b σ K []) 76 Tryz.f76.ntmps Tryz.f76.results.toList (bd Tryz.f76) (qjn.enc x).1 (qjn.enc x).2 (qo FS.dec qpj) := by kernel_rfl
theorem qmn : ∀ k, qh (call cf k) (qgd k)
 | 0 => fun x y e => absurd (show (none : Option _) = some y from e) (by simp)
 | k + 1 => qe (c := cf) (k := k) (f := 76) (fn := Tryz.f76) (body := bd Tryz.f76) (sh := qjn) (os := qpj) rfl Tryz.func76 rfl ⟨rfl, Nat.le_of_ble_eq_true rfl⟩ (qd (qDj k)) (qDk k) (fun x => qC (k + 1) x.1 x.2.1 x.2.2.1 x.2.2.2) (qDl k)

def qfy (k : Nat) (z0 : Bool) (z1 : List Int) (z2 : Bool) (z3 : List Int) : Option (Bool × List Int × Bool × List Int × Bool × List Int × Bool × List Int) :=
 Option.bind (qbU k z0 z1 z2 z3) fun r3 =>
 Option.bind (qb5 k r3.2.2.2.2.1 r3.2.2.2.2.2) fun r4 =>
 Option.bind (qC k r3.1 r3.2.1 r3.2.2.1 r3.2.2.2.1) fun r5 =>
 Option.bind (qb5 k r5.2.2.2.2.1 r5.2.2.2.2.2) fun r6 =>
 if ((0 + r4.2.1) ≤ (List.length r4.2.2.2.2)) then
 if ((0 + r6.2.1) ≤ (List.length r6.2.2.2.2)) then
 (some (r4.1, (List.take r4.2.1 r4.2.2.2.2), r6.1, (List.take r6.2.1 r6.2.2.2.2), r5.1, r5.2.1, r5.2.2.1, r5.2.2.2.1))
 else
 none
 else
 none
def qaV : Nat → Bool → List Int → Bool → List Int → Option (Bool × List Int × Bool × List Int × Bool × List Int × Bool × List Int)
 | 0, _, _, _, _ => none
 | k + 1, z0, z1, z2, z3 => qfy k z0 z1 z2 z3
def qgO : FS := { vs := [.a (.ptr 0 0 0)], bs := [.raw [[.lf .bool, .lf (.sl (.int .u32)), .lf .bool, .lf (.sl (.int .u32))]] 4 74 true false] }
def qmo : List FS := [{ vs := [.g [.lf .bool, .lf (.sl (.int .u32)), .lf .bool, .lf (.sl (.int .u32))]], bs := [.raw [[.lf .bool, .lf (.sl (.int .u32)), .lf .bool, .lf (.sl (.int .u32))]] 4 74 true false] }]
def qmp (k : Nat) : Inst := ⟨36, qgO, qmo, fun x => qaV k x.1 x.2.1 x.2.2.1 x.2.2.2⟩
theorem qzP (k : Nat) : qp (call cf k) [qq5 k, qmm k, qgd k] := qA (qwX k) (qA (qup k) (qA (qmn k) qT))
theorem qzQ (k : Nat) : qg (LOk (R := DS FS.D qmo) (fun b _ σ K => LOt Ty (kps 36) 1 b σ K []) cf (call cf k) (cf.keep 36) Tryz.f36.ntmps k qgO.bs.length) 0 (bd Tryz.f36) :=
 qA qT (qA qT qT)
theorem qzR (k : Nat) (x : qgO.D) : qaV (k + 1) x.1 x.2.1 x.2.2.1 x.2.2.2 = qk cf (fun f a b K => COt f a b K [qq5 k, qmm k, qgd k]) (fun b _ σ K => LOt Ty (kps 36) 1 b σ K []) 36 Tryz.f36.ntmps Tryz.f36.results.toList (bd Tryz.f36) (qgO.enc x).1 (qgO.enc x).2 (qo FS.dec qmo) := by kernel_rfl
theorem quq : ∀ k, qh (call cf k) (qmp k)
 | 0 => fun x y e => absurd (show (none : Option _) = some y from e) (by simp)
 | k + 1 => qe (c := cf) (k := k) (f := 36) (fn := Tryz.f36) (body := bd Tryz.f36) (sh := qgO) (os := qmo) rfl Tryz.func36 rfl ⟨rfl, Nat.le_of_ble_eq_true rfl⟩ (qd (qzP k)) (qzQ k) (fun x => qaV (k + 1) x.1 x.2.1 x.2.2.1 x.2.2.2) (qzR k)

def qhl (k : Nat) (n0 : Int) (n1 : Int) : Option (Bool × List Int × Bool × List Int × Int) :=
 Option.bind (qdP k n0 n1) fun r1 =>
 if ((!r1) = true) then
 (some (false, [], false, [], (30 : Int)))
 else
 Option.bind (qeg k n0 n1) fun r2 =>
 Option.bind (qaV k r2.1 r2.2.1 r2.2.2.1 r2.2.2.2) fun r3 =>
 (some (r3.1, r3.2.1, r3.2.2.1, r3.2.2.2.1, (0 : Int)))
def qet : Nat → Int → Int → Option (Bool × List Int × Bool × List Int × Int)
 | 0, _, _ => none
 | k + 1, n0, n1 => qhl k n0 n1
def qjo : FS := { vs := [.g [.lf (.int .i64), .lf (.int .i64)]], bs := [] }
def qpk : List FS := [{ vs := [.g [.lf .bool, .lf (.sl (.int .u32)), .lf .bool, .lf (.sl (.int .u32))], .a (.lf (.int .i64))], bs := [] }]
def qvB (k : Nat) : Inst := ⟨74, qjo, qpk, fun x => qet k x.1 x.2⟩
theorem qDm (k : Nat) : qp (call cf k) [qhK k, qvz k, qmp k] := qA (qwN k) (qA (qC5 k) (qA (quq k) qT))
theorem qDn (k : Nat) : qg (LOk (R := DS FS.D qpk) (fun b _ σ K => LOt Ty (kps 74) 0 b σ K []) cf (call cf k) (cf.keep 74) Tryz.f74.ntmps k qjo.bs.length) 0 (bd Tryz.f74) :=
 qA qT (qA (qA qT (qA (qA qT qT) qT)) (qA qT qT))
theorem qDo (k : Nat) (x : qjo.D) : qet (k + 1) x.1 x.2 = qk cf (fun f a b K => COt f a b K [qhK k, qvz k, qmp k]) (fun b _ σ K => LOt Ty (kps 74) 0 b σ K []) 74 Tryz.f74.ntmps Tryz.f74.results.toList (bd Tryz.f74) (qjo.enc x).1 (qjo.enc x).2 (qo FS.dec qpk) := by kernel_rfl
theorem qDp : ∀ k, qh (call cf k) (qvB k)
 | 0 => fun x y e => absurd (show (none : Option _) = some y from e) (by simp)
 | k + 1 => qe (c := cf) (k := k) (f := 74) (fn := Tryz.f74) (body := bd Tryz.f74) (sh := qjo) (os := qpk) rfl Tryz.func74 rfl ⟨rfl, Nat.le_of_ble_eq_true rfl⟩ (qd (qDm k)) (qDn k) (fun x => qet (k + 1) x.1 x.2) (qDo k)

def qs8 (k : Nat) (a0 : Bool) (a1 : List Int) : Option (Bool × List Int) :=
 Option.bind (qes k a0 a1) fun r4 =>
 (some (r4.1, r4.2))
def qbH : Nat → Bool → List Int → Option (Bool × List Int)
 | 0, _, _ => none
 | k + 1, a0, a1 => qs8 k a0 a1
def qgP : FS := { vs := [.g [.lf .bool, .lf (.sl (.int .u32))]], bs := [] }
def qmq : List FS := [{ vs := [.a (.ptr 0 0 0)], bs := [.raw [[.lf .bool, .lf (.sl (.int .u32))]] 2 72 true false] }]
def qhm (k : Nat) : Inst := ⟨69, qgP, qmq, fun x => qbH k x.1 x.2⟩
theorem qzS (k : Nat) : qp (call cf k) [qk0 k] := qA (qs7 k) qT
theorem qzT (k : Nat) : qg (LOk (R := DS FS.D qmq) (fun b _ σ K => LOt Ty (kps 69) 0 b σ K []) cf (call cf k) (cf.keep 69) Tryz.f69.ntmps k qgP.bs.length) 0 (bd Tryz.f69) :=
 qA qT (qA qT qT)
theorem qzU (k : Nat) (x : qgP.D) : qbH (k + 1) x.1 x.2 = qk cf (fun f a b K => COt f a b K [qk0 k]) (fun b _ σ K => LOt Ty (kps 69) 0 b σ K []) 69 Tryz.f69.ntmps Tryz.f69.results.toList (bd Tryz.f69) (qgP.enc x).1 (qgP.enc x).2 (qo FS.dec qmq) := by kernel_rfl
theorem qq7 : ∀ k, qh (call cf k) (qhm k)
 | 0 => fun x y e => absurd (show (none : Option _) = some y from e) (by simp)
 | k + 1 => qe (c := cf) (k := k) (f := 69) (fn := Tryz.f69) (body := bd Tryz.f69) (sh := qgP) (os := qmq) rfl Tryz.func69 rfl ⟨rfl, Nat.le_of_ble_eq_true rfl⟩ (qd (qzS k)) (qzT k) (fun x => qbH (k + 1) x.1 x.2) (qzU k)

def qur (k : Nat) (r0 : Bool) (r1 : List Int) (r2 : Bool) (r3 : List Int) : Option (Bool × List Int × Bool × List Int) :=
 Option.bind (qbH k r0 r1) fun r4 =>
 Option.bind (qbH k r2 r3) fun r5 =>
 Option.bind (qbP k r4.1 r4.2 r5.1 r5.2) fun r6 =>
 (some (r6.2.2.2.2.1, r6.2.2.2.2.2.1, r6.2.2.2.2.2.2.1, r6.2.2.2.2.2.2.2))
def qfb : Nat → Bool → List Int → Bool → List Int → Option (Bool × List Int × Bool × List Int)
 | 0, _, _, _, _ => none
 | k + 1, r0, r1, r2, r3 => qur k r0 r1 r2 r3
def qgQ : FS := { vs := [.g [.lf .bool, .lf (.sl (.int .u32)), .lf .bool, .lf (.sl (.int .u32))]], bs := [] }
def qmr : List FS := [{ vs := [.a (.ptr 0 0 0)], bs := [.raw [[.lf .bool, .lf (.sl (.int .u32)), .lf .bool, .lf (.sl (.int .u32))]] 4 74 true false] }]
def qs9 (k : Nat) : Inst := ⟨41, qgQ, qmr, fun x => qfb k x.1 x.2.1 x.2.2.1 x.2.2.2⟩
theorem qzV (k : Nat) : qp (call cf k) [qhm k, Iq0 k] := qA (qq7 k) (qA (qvy k) qT)
theorem qzW (k : Nat) : qg (LOk (R := DS FS.D qmr) (fun b _ σ K => LOt Ty (kps 41) 0 b σ K []) cf (call cf k) (cf.keep 41) Tryz.f41.ntmps k qgQ.bs.length) 0 (bd Tryz.f41) :=
 qA qT (qA qT qT)
theorem qzX (k : Nat) (x : qgQ.D) : qfb (k + 1) x.1 x.2.1 x.2.2.1 x.2.2.2 = qk cf (fun f a b K => COt f a b K [qhm k, Iq0 k]) (fun b _ σ K => LOt Ty (kps 41) 0 b σ K []) 41 Tryz.f41.ntmps Tryz.f41.results.toList (bd Tryz.f41) (qgQ.enc x).1 (qgQ.enc x).2 (qo FS.dec qmr) := by kernel_rfl
theorem qzY : ∀ k, qh (call cf k) (qs9 k)
 | 0 => fun x y e => absurd (show (none : Option _) = some y from e) (by simp)
 | k + 1 => qe (c := cf) (k := k) (f := 41) (fn := Tryz.f41) (body := bd Tryz.f41) (sh := qgQ) (os := qmr) rfl Tryz.func41 rfl ⟨rfl, Nat.le_of_ble_eq_true rfl⟩ (qd (qzV k)) (qzW k) (fun x => qfb (k + 1) x.1 x.2.1 x.2.2.1 x.2.2.2) (qzX k)

def qrS (k : Nat) (n0 : Int) (n1 : Int) : Option (Bool × List Int × Bool × List Int) :=
 Option.bind (qet k n0 n1) fun r1 =>
 Option.bind (qfb k r1.1 r1.2.1 r1.2.2.1 r1.2.2.2.1) fun r2 =>
 (some (r2.1, r2.2.1, r2.2.2.1, r2.2.2.2))
def qaX : Nat → Int → Int → Option (Bool × List Int × Bool × List Int)
 | 0, _, _ => none
 | k + 1, n0, n1 => qrS k n0 n1
def qgR : FS := { vs := [.g [.lf (.int .i64), .lf (.int .i64)]], bs := [] }
def qms : List FS := [{ vs := [.a (.ptr 0 0 0)], bs := [.raw [[.lf .bool, .lf (.sl (.int .u32)), .lf .bool, .lf (.sl (.int .u32))]] 4 74 true false] }]
def qfG (k : Nat) : Inst := ⟨56, qgR, qms, fun x => qaX k x.1 x.2⟩
theorem qzZ (k : Nat) : qp (call cf k) [qvB k, qs9 k] := qA (qDp k) (qA (qzY k) qT)
theorem qz0 (k : Nat) : qg (LOk (R := DS FS.D qms) (fun b _ σ K => LOt Ty (kps 56) 0 b σ K []) cf (call cf k) (cf.keep 56) Tryz.f56.ntmps k qgR.bs.length) 0 (bd Tryz.f56) :=
 qA qT (qA qT (qA qT qT))
theorem qz1 (k : Nat) (x : qgR.D) : qaX (k + 1) x.1 x.2 = qk cf (fun f a b K => COt f a b K [qvB k, qs9 k]) (fun b _ σ K => LOt Ty (kps 56) 0 b σ K []) 56 Tryz.f56.ntmps Tryz.f56.results.toList (bd Tryz.f56) (qgR.enc x).1 (qgR.enc x).2 (qo FS.dec qms) := by kernel_rfl
theorem qmt : ∀ k, qh (call cf k) (qfG k)
 | 0 => fun x y e => absurd (show (none : Option _) = some y from e) (by simp)
 | k + 1 => qe (c := cf) (k := k) (f := 56) (fn := Tryz.f56) (body := bd Tryz.f56) (sh := qgR) (os := qms) rfl Tryz.func56 rfl ⟨rfl, Nat.le_of_ble_eq_true rfl⟩ (qd (qzZ k)) (qz0 k) (fun x => qaX (k + 1) x.1 x.2) (qz1 k)

def qrT (k : Nat) (n : Int) (d : Int) : Option (Bool × List Int × Bool × List Int) :=
 Option.bind (qaI k n) fun r2 =>
 Option.bind (qaI k d) fun r3 =>
 Option.bind (qbP k r2.1 r2.2 r3.1 r3.2) fun r4 =>
 (some (r4.2.2.2.2.1, r4.2.2.2.2.2.1, r4.2.2.2.2.2.2.1, r4.2.2.2.2.2.2.2))
def qbO : Nat → Int → Int → Option (Bool × List Int × Bool × List Int)
 | 0, _, _ => none
 | k + 1, n, d => qrT k n d
def qjp : FS := { vs := [.a (.lf (.int .i64)), .a (.lf (.int .i64))], bs := [] }
def qpl : List FS := [{ vs := [.a (.ptr 0 0 0)], bs := [.raw [[.lf .bool, .lf (.sl (.int .u32)), .lf .bool, .lf (.sl (.int .u32))]] 4 74 true false] }]
def qq8 (k : Nat) : Inst := ⟨59, qjp, qpl, fun x => qbO k x.1 x.2⟩
theorem qDq (k : Nat) : qp (call cf k) [qfW k, Iq0 k] := qA (ql0 k) (qA (qvy k) qT)
theorem qDr (k : Nat) : qg (LOk (R := DS FS.D qpl) (fun b _ σ K => LOt Ty (kps 59) 0 b σ K []) cf (call cf k) (cf.keep 59) Tryz.f59.ntmps k qjp.bs.length) 0 (bd Tryz.f59) :=
 qA qT (qA qT qT)
theorem qDs (k : Nat) (x : qjp.D) : qbO (k + 1) x.1 x.2 = qk cf (fun f a b K => COt f a b K [qfW k, Iq0 k]) (fun b _ σ K => LOt Ty (kps 59) 0 b σ K []) 59 Tryz.f59.ntmps Tryz.f59.results.toList (bd Tryz.f59) (qjp.enc x).1 (qjp.enc x).2 (qo FS.dec qpl) := by kernel_rfl
theorem qwZ : ∀ k, qh (call cf k) (qq8 k)
 | 0 => fun x y e => absurd (show (none : Option _) = some y from e) (by simp)
 | k + 1 => qe (c := cf) (k := k) (f := 59) (fn := Tryz.f59) (body := bd Tryz.f59) (sh := qjp) (os := qpl) rfl Tryz.func59 rfl ⟨rfl, Nat.le_of_ble_eq_true rfl⟩ (qd (qDq k)) (qDr k) (fun x => qbO (k + 1) x.1 x.2) (qDs k)

def qd1 (k : Nat) (rec : Nat → Int → Int → Int → List Int → Int → Int → List Int → Int → Int → Bool → Bool → List Int → Bool → List Int → Bool → List Int → Bool → List Int → List Int → Option (Nat × Int × Int × List Int × Int × Int × Bool × Bool × List Int × Bool × List Int × Bool × List Int × Bool × List Int × List Int)) (out1 : Nat) (i : Int) (a : Int) (carry : Int) (x : List Int) (x1 : Int) (x2 : Int) (x3 : List Int) (x4 : Int) (x5 : Int) (z : Bool) (x0 : Bool) (x11 : List Int) (x21 : Bool) (x31 : List Int) (y0 : Bool) (y1 : List Int) (y2 : Bool) (y3 : List Int) (outs : List Int) : Option (Nat × Int × Int × List Int × Int × Int × Bool × Bool × List Int × Bool × List Int × Bool × List Int × Bool × List Int × List Int) :=
 if ((decide (x5 < x4)) = true) then
 if ((0 : Int) ≤ x5) then
 Option.bind (x3)[(Int.toNat x5)]? fun x6 =>
 if (((0 : Int) ≤ (IntKind.wrap .i64 (i + x5))) ∧ ((IntKind.wrap .i64 (i + x5)) < ((out1 : Nat) : Int))) then
 Option.bind (outs)[(0 + (Int.toNat (IntKind.wrap .i64 (i + x5))))]? fun x7 =>
 if (((0 : Int) ≤ (IntKind.wrap .i64 (i + x5))) ∧ ((IntKind.wrap .i64 (i + x5)) < ((out1 : Nat) : Int))) then
 Option.bind (outs)[(0 + (Int.toNat (IntKind.wrap .i64 (i + x5))))]? fun x8 =>
 rec out1 i a (Int.fdiv (IntKind.wrap .u64 ((IntKind.wrap .u64 ((IntKind.wrap .u64 ((IntKind.wrap .u64 a) * (IntKind.wrap .u64 x6))) + (IntKind.wrap .u64 x7))) + carry)) (4294967296 : Int)) x x1 x2 x3 x4 (IntKind.wrap .i64 (x5 + (1 : Int))) z x0 x11 x21 x31 y0 y1 y2 y3 (List.set outs (0 + (Int.toNat (IntKind.wrap .i64 (i + x5)))) (IntKind.wrap .u32 (IntKind.wrap .u64 ((IntKind.wrap .u64 ((IntKind.wrap .u64 ((IntKind.wrap .u64 a) * (IntKind.wrap .u64 x6))) + (IntKind.wrap .u64 x7))) + carry))))
 else
 none
 else
 none
 else
 none
 else
 (some (out1, i, carry, x, x1, x2, z, x0, x11, x21, x31, y0, y1, y2, y3, outs))
def qbs (k n : Nat) : Nat → Int → Int → Int → List Int → Int → Int → List Int → Int → Int → Bool → Bool → List Int → Bool → List Int → Bool → List Int → Bool → List Int → List Int → Option (Nat × Int × Int × List Int × Int × Int × Bool × Bool × List Int × Bool × List Int × Bool × List Int × Bool × List Int × List Int) := Nat.rec (fun _ _ _ _ _ _ _ _ _ _ _ _ _ _ _ _ _ _ _ _ => none) (fun _ r => qd1 k r) n
def qd2 (k : Nat) (rec : Nat → List Int → Int → Int → Bool → Bool → List Int → Bool → List Int → Bool → List Int → Bool → List Int → List Int → Option (Nat × Bool × Bool × List Int × Bool × List Int × Bool × List Int × Bool × List Int × List Int)) (out1 : Nat) (x : List Int) (x1 : Int) (x2 : Int) (z : Bool) (x0 : Bool) (x11 : List Int) (x21 : Bool) (x3 : List Int) (y0 : Bool) (y1 : List Int) (y2 : Bool) (y3 : List Int) (outs : List Int) : Option (Nat × Bool × Bool × List Int × Bool × List Int × Bool × List Int × Bool × List Int × List Int) :=
 if ((decide (x2 < x1)) = true) then
 if ((0 : Int) ≤ x2) then
 Option.bind (x)[(Int.toNat x2)]? fun x4 =>
 Option.bind (qbs k k out1 x2 x4 (0 : Int) x x1 x2 y1 (((List.length y1) : Nat) : Int) (0 : Int) z x0 x11 x21 x3 y0 y1 y2 y3 outs) fun r3 =>
 if (((0 : Int) ≤ (IntKind.wrap .i64 (r3.2.1 + (((List.length r3.2.2.2.2.2.2.2.2.2.2.2.2.1) : Nat) : Int)))) ∧ ((IntKind.wrap .i64 (r3.2.1 + (((List.length r3.2.2.2.2.2.2.2.2.2.2.2.2.1) : Nat) : Int))) < ((r3.1 : Nat) : Int))) then
 Option.bind (r3.2.2.2.2.2.2.2.2.2.2.2.2.2.2.2)[(0 + (Int.toNat (IntKind.wrap .i64 (r3.2.1 + (((List.length r3.2.2.2.2.2.2.2.2.2.2.2.2.1) : Nat) : Int)))))]? fun x5 =>
 rec r3.1 r3.2.2.2.1 r3.2.2.2.2.1 (IntKind.wrap .i64 (r3.2.2.2.2.2.1 + (1 : Int))) r3.2.2.2.2.2.2.1 r3.2.2.2.2.2.2.2.1 r3.2.2.2.2.2.2.2.2.1 r3.2.2.2.2.2.2.2.2.2.1 r3.2.2.2.2.2.2.2.2.2.2.1 r3.2.2.2.2.2.2.2.2.2.2.2.1 r3.2.2.2.2.2.2.2.2.2.2.2.2.1 r3.2.2.2.2.2.2.2.2.2.2.2.2.2.1 r3.2.2.2.2.2.2.2.2.2.2.2.2.2.2.1 (List.set r3.2.2.2.2.2.2.2.2.2.2.2.2.2.2.2 (0 + (Int.toNat (IntKind.wrap .i64 (r3.2.1 + (((List.length r3.2.2.2.2.2.2.2.2.2.2.2.2.1) : Nat) : Int))))) (IntKind.wrap .u32 r3.2.2.1))
 else
 none
 else
 none
 else
 (some (out1, z, x0, x11, x21, x3, y0, y1, y2, y3, outs))
def qbt (k n : Nat) : Nat → List Int → Int → Int → Bool → Bool → List Int → Bool → List Int → Bool → List Int → Bool → List Int → List Int → Option (Nat × Bool × Bool × List Int × Bool × List Int × Bool × List Int × Bool × List Int × List Int) := Nat.rec (fun _ _ _ _ _ _ _ _ _ _ _ _ _ _ => none) (fun _ r => qd2 k r) n
def qeW (k : Nat) (z : Bool) (x0 : Bool) (x1 : List Int) (x2 : Bool) (x3 : List Int) (y0 : Bool) (y1 : List Int) (y2 : Bool) (y3 : List Int) : Option (Bool × List Int × Bool × List Int × Bool × List Int × Bool × List Int × Bool × List Int) :=
 if (((0 : Int) ≤ (IntKind.wrap .i64 ((((List.length x1) : Nat) : Int) + (((List.length y1) : Nat) : Int)))) ∧ (((IntKind.wrap .i64 ((((List.length x1) : Nat) : Int) + (((List.length y1) : Nat) : Int))) ≤ (IntKind.wrap .i64 ((((List.length x1) : Nat) : Int) + (((List.length y1) : Nat) : Int)))) ∧ (((IntKind.wrap .i64 ((((List.length x1) : Nat) : Int) + (((List.length y1) : Nat) : Int))) * (4 : Int)) ≤ (140737488355328 : Int)))) then
 Option.bind (qbt k k (Int.toNat (IntKind.wrap .i64 ((((List.length x1) : Nat) : Int) + (((List.length y1) : Nat) : Int)))) x1 (((List.length x1) : Nat) : Int) (0 : Int) z x0 x1 x2 x3 y0 y1 y2 y3 (List.replicate (Int.toNat (IntKind.wrap .i64 ((((List.length x1) : Nat) : Int) + (((List.length y1) : Nat) : Int)))) (0 : Int))) fun r3 =>
 if ((0 + r3.1) ≤ (List.length r3.2.2.2.2.2.2.2.2.2.2)) then
 Option.bind (qap k (!(r3.2.2.1 == r3.2.2.2.2.2.2.1)) (List.take r3.1 r3.2.2.2.2.2.2.2.2.2.2) r3.2.1) fun r4 =>
 (some (r4.1, r4.2, r3.2.2.1, r3.2.2.2.1, r3.2.2.2.2.1, r3.2.2.2.2.2.1, r3.2.2.2.2.2.2.1, r3.2.2.2.2.2.2.2.1, r3.2.2.2.2.2.2.2.2.1, r3.2.2.2.2.2.2.2.2.2.1))
 else
 none
 else
 none
def qcA : Nat → Bool → Bool → List Int → Bool → List Int → Bool → List Int → Bool → List Int → Option (Bool × List Int × Bool × List Int × Bool × List Int × Bool × List Int × Bool × List Int)
 | 0, _, _, _, _, _, _, _, _, _ => none
 | k + 1, z, x0, x1, x2, x3, y0, y1, y2, y3 => qeW k z x0 x1 x2 x3 y0 y1 y2 y3
def qnW : FS := { vs := [.a (.ptr 0 0 0), .a (.ptr 1 0 0), .a (.ptr 2 0 0)], bs := [.raw [[.lf .bool, .snil 1 68]] 2 72 true false, .raw [[.lf .bool, .lf (.sl (.int .u32)), .lf .bool, .lf (.sl (.int .u32))]] 4 74 true false, .raw [[.lf .bool, .lf (.sl (.int .u32)), .lf .bool, .lf (.sl (.int .u32))]] 4 74 true false] }
def qta : List FS := [{ vs := [.a (.ptr 0 0 0)], bs := [.raw [[.lf .bool, .lf (.sl (.int .u32))]] 2 72 true false, .raw [[.lf .bool, .lf (.sl (.int .u32)), .lf .bool, .lf (.sl (.int .u32))]] 4 74 true false, .raw [[.lf .bool, .lf (.sl (.int .u32)), .lf .bool, .lf (.sl (.int .u32))]] 4 74 true false] }]
def Iq9 (k : Nat) : Inst := ⟨75, qnW, qta, fun x => qcA k x.1 x.2.1 x.2.2.1 x.2.2.2.1 x.2.2.2.2.1 x.2.2.2.2.2.1 x.2.2.2.2.2.2.1 x.2.2.2.2.2.2.2.1 x.2.2.2.2.2.2.2.2⟩
theorem qvC (k : Nat) : qp (call cf k) [qdJ k] := qA (qje k) qT
def qh5 : List SS := [{ fr := [(0, .a (.ptr 0 0 0)), (1, .a (.ptr 1 0 0)), (2, .a (.ptr 2 0 0)), (7, .a (.smz 3)), (8, .a (.lf (.int .i64))), (9, .a (.lf (.int .u32))), (10, .a (.lf (.int .u64))), (29, .a (.lf (.sl (.int .u32)))), (30, .a (.lf (.int .i64))), (31, .a (.lf (.int .i64))), (39, .a (.lf (.sl (.int .u32)))), (40, .a (.lf (.int .i64))), (41, .a (.lf (.int .i64)))], mem := [(0, some (.raw [[.lf .bool, .snil 1 68]] 2 72 true false)), (1, some (.raw [[.lf .bool, .lf (.sl (.int .u32)), .lf .bool, .lf (.sl (.int .u32))]] 4 74 true false)), (2, some (.raw [[.lf .bool, .lf (.sl (.int .u32)), .lf .bool, .lf (.sl (.int .u32))]] 4 74 true false)), (3, some (.arr (.int .u32) 1 68 false))], nx := 4 }]
def qmu : List OS := [⟨some 2, { fr := [(0, .a (.ptr 0 0 0)), (1, .a (.ptr 1 0 0)), (2, .a (.ptr 2 0 0)), (7, .a (.smz 3)), (8, .a (.lf (.int .i64))), (10, .a (.lf (.int .u64))), (29, .a (.lf (.sl (.int .u32)))), (30, .a (.lf (.int .i64))), (31, .a (.lf (.int .i64)))], mem := [(0, some (.raw [[.lf .bool, .snil 1 68]] 2 72 true false)), (1, some (.raw [[.lf .bool, .lf (.sl (.int .u32)), .lf .bool, .lf (.sl (.int .u32))]] 4 74 true false)), (2, some (.raw [[.lf .bool, .lf (.sl (.int .u32)), .lf .bool, .lf (.sl (.int .u32))]] 4 74 true false)), (3, some (.arr (.int .u32) 1 68 false))], nx := 4 }⟩]
def qge (k : Nat) : LInst := ⟨2, qh5, qmu, fun x => qbs k k x.1 x.2.1 x.2.2.1 x.2.2.2.1 x.2.2.2.2.1 x.2.2.2.2.2.1 x.2.2.2.2.2.2.1 x.2.2.2.2.2.2.2.1 x.2.2.2.2.2.2.2.2.1 x.2.2.2.2.2.2.2.2.2.1 x.2.2.2.2.2.2.2.2.2.2.1 x.2.2.2.2.2.2.2.2.2.2.2.1 x.2.2.2.2.2.2.2.2.2.2.2.2.1 x.2.2.2.2.2.2.2.2.2.2.2.2.2.1 x.2.2.2.2.2.2.2.2.2.2.2.2.2.2.1 x.2.2.2.2.2.2.2.2.2.2.2.2.2.2.2.1 x.2.2.2.2.2.2.2.2.2.2.2.2.2.2.2.2.1 x.2.2.2.2.2.2.2.2.2.2.2.2.2.2.2.2.2.1 x.2.2.2.2.2.2.2.2.2.2.2.2.2.2.2.2.2.2.1 x.2.2.2.2.2.2.2.2.2.2.2.2.2.2.2.2.2.2.2⟩
theorem qz2 (k : Nat) : qg (LOk (R := DS OS.D qmu) (fun b _ σ K => LOt Ty (kps 75) 3 b σ K []) cf (call cf k) (kps 75) Tryz.f75.ntmps k 3) 2 (lb Tryz.f75 1) :=
 qA qT (qA (qA qT qT) (qA (qA qT (qA qT (qA qT qT))) qT))
theorem qz3 (k n : Nat) (x : DS SS.D qh5) : qbs k (n + 1) x.1 x.2.1 x.2.2.1 x.2.2.2.1 x.2.2.2.2.1 x.2.2.2.2.2.1 x.2.2.2.2.2.2.1 x.2.2.2.2.2.2.2.1 x.2.2.2.2.2.2.2.2.1 x.2.2.2.2.2.2.2.2.2.1 x.2.2.2.2.2.2.2.2.2.2.1 x.2.2.2.2.2.2.2.2.2.2.2.1 x.2.2.2.2.2.2.2.2.2.2.2.2.1 x.2.2.2.2.2.2.2.2.2.2.2.2.2.1 x.2.2.2.2.2.2.2.2.2.2.2.2.2.2.1 x.2.2.2.2.2.2.2.2.2.2.2.2.2.2.2.1 x.2.2.2.2.2.2.2.2.2.2.2.2.2.2.2.2.1 x.2.2.2.2.2.2.2.2.2.2.2.2.2.2.2.2.2.1 x.2.2.2.2.2.2.2.2.2.2.2.2.2.2.2.2.2.2.1 x.2.2.2.2.2.2.2.2.2.2.2.2.2.2.2.2.2.2.2 = qI SS.enc (fun σ => qJ cf (fun f a b K => COt f a b K [qdJ k]) (fun b _ σ K => LOt Ty (kps 75) 3 b σ K []) Tryz.f75.ntmps 2 (lb Tryz.f75 1) σ (qQ Ty (kps 75 2) 3 qh5 qmu fun x => qbs k n x.1 x.2.1 x.2.2.1 x.2.2.2.1 x.2.2.2.2.1 x.2.2.2.2.2.1 x.2.2.2.2.2.2.1 x.2.2.2.2.2.2.2.1 x.2.2.2.2.2.2.2.2.1 x.2.2.2.2.2.2.2.2.2.1 x.2.2.2.2.2.2.2.2.2.2.1 x.2.2.2.2.2.2.2.2.2.2.2.1 x.2.2.2.2.2.2.2.2.2.2.2.2.1 x.2.2.2.2.2.2.2.2.2.2.2.2.2.1 x.2.2.2.2.2.2.2.2.2.2.2.2.2.2.1 x.2.2.2.2.2.2.2.2.2.2.2.2.2.2.2.1 x.2.2.2.2.2.2.2.2.2.2.2.2.2.2.2.2.1 x.2.2.2.2.2.2.2.2.2.2.2.2.2.2.2.2.2.1 x.2.2.2.2.2.2.2.2.2.2.2.2.2.2.2.2.2.2.1 x.2.2.2.2.2.2.2.2.2.2.2.2.2.2.2.2.2.2.2)) qh5 x := by kernel_rfl
theorem qz4 (k : Nat) : qae cf (call cf k) (kps 75) Tryz.f75.ntmps k 3 2 (lb Tryz.f75 1) (qge k) :=
 qu (c := cf) (callF := call cf k) (kp := kps 75) (nt := Tryz.f75.ntmps) (k := k) (p := 3) (b := 2) (x0 := lb Tryz.f75 1) (hs := qh5) (os := qmu) (qd (qvC k)) (qz2 k) (fun n x => qbs k n x.1 x.2.1 x.2.2.1 x.2.2.2.1 x.2.2.2.2.1 x.2.2.2.2.2.1 x.2.2.2.2.2.2.1 x.2.2.2.2.2.2.2.1 x.2.2.2.2.2.2.2.2.1 x.2.2.2.2.2.2.2.2.2.1 x.2.2.2.2.2.2.2.2.2.2.1 x.2.2.2.2.2.2.2.2.2.2.2.1 x.2.2.2.2.2.2.2.2.2.2.2.2.1 x.2.2.2.2.2.2.2.2.2.2.2.2.2.1 x.2.2.2.2.2.2.2.2.2.2.2.2.2.2.1 x.2.2.2.2.2.2.2.2.2.2.2.2.2.2.2.1 x.2.2.2.2.2.2.2.2.2.2.2.2.2.2.2.2.1 x.2.2.2.2.2.2.2.2.2.2.2.2.2.2.2.2.2.1 x.2.2.2.2.2.2.2.2.2.2.2.2.2.2.2.2.2.2.1 x.2.2.2.2.2.2.2.2.2.2.2.2.2.2.2.2.2.2.2) (fun _ => rfl) (qz3 k)
def qh6 : List SS := [{ fr := [(0, .a (.ptr 0 0 0)), (1, .a (.ptr 1 0 0)), (2, .a (.ptr 2 0 0)), (7, .a (.smz 3)), (29, .a (.lf (.sl (.int .u32)))), (30, .a (.lf (.int .i64))), (31, .a (.lf (.int .i64)))], mem := [(0, some (.raw [[.lf .bool, .snil 1 68]] 2 72 true false)), (1, some (.raw [[.lf .bool, .lf (.sl (.int .u32)), .lf .bool, .lf (.sl (.int .u32))]] 4 74 true false)), (2, some (.raw [[.lf .bool, .lf (.sl (.int .u32)), .lf .bool, .lf (.sl (.int .u32))]] 4 74 true false)), (3, some (.arr (.int .u32) 1 68 false))], nx := 4 }]
def qmv : List OS := [⟨some 0, { fr := [(0, .a (.ptr 0 0 0)), (1, .a (.ptr 1 0 0)), (2, .a (.ptr 2 0 0)), (7, .a (.smz 3))], mem := [(0, some (.raw [[.lf .bool, .snil 1 68]] 2 72 true false)), (1, some (.raw [[.lf .bool, .lf (.sl (.int .u32)), .lf .bool, .lf (.sl (.int .u32))]] 4 74 true false)), (2, some (.raw [[.lf .bool, .lf (.sl (.int .u32)), .lf .bool, .lf (.sl (.int .u32))]] 4 74 true false)), (3, some (.arr (.int .u32) 1 68 false))], nx := 4 }⟩]
def qmw (k : Nat) : LInst := ⟨0, qh6, qmv, fun x => qbt k k x.1 x.2.1 x.2.2.1 x.2.2.2.1 x.2.2.2.2.1 x.2.2.2.2.2.1 x.2.2.2.2.2.2.1 x.2.2.2.2.2.2.2.1 x.2.2.2.2.2.2.2.2.1 x.2.2.2.2.2.2.2.2.2.1 x.2.2.2.2.2.2.2.2.2.2.1 x.2.2.2.2.2.2.2.2.2.2.2.1 x.2.2.2.2.2.2.2.2.2.2.2.2.1 x.2.2.2.2.2.2.2.2.2.2.2.2.2⟩
theorem qz5 (k : Nat) : qg (LOk (R := DS OS.D qmv) (fun b _ σ K => LOt Ty (kps 75) 3 b σ K [qge k]) cf (call cf k) (kps 75) Tryz.f75.ntmps k 3) 0 (lb Tryz.f75 0) :=
 qA qT (qA (qA qT qT) (qA (qA qT (qA qT (qA (qA qT (qD (c := cf) (callF := call cf k) (kp := kps 75) (nt := Tryz.f75.ntmps) (k := k) (p := 3) (b := 2) (x0 := lb Tryz.f75 1) (l := [qge k]) (qA (fun _ => qz4 k) qT))) qT))) qT))
theorem qz6 (k n : Nat) (x : DS SS.D qh6) : qbt k (n + 1) x.1 x.2.1 x.2.2.1 x.2.2.2.1 x.2.2.2.2.1 x.2.2.2.2.2.1 x.2.2.2.2.2.2.1 x.2.2.2.2.2.2.2.1 x.2.2.2.2.2.2.2.2.1 x.2.2.2.2.2.2.2.2.2.1 x.2.2.2.2.2.2.2.2.2.2.1 x.2.2.2.2.2.2.2.2.2.2.2.1 x.2.2.2.2.2.2.2.2.2.2.2.2.1 x.2.2.2.2.2.2.2.2.2.2.2.2.2 = qI SS.enc (fun σ => qJ cf (fun f a b K => COt f a b K [qdJ k]) (fun b _ σ K => LOt Ty (kps 75) 3 b σ K [qge k]) Tryz.f75.ntmps 0 (lb Tryz.f75 0) σ (qQ Ty (kps 75 0) 3 qh6 qmv fun x => qbt k n x.1 x.2.1 x.2.2.1 x.2.2.2.1 x.2.2.2.2.1 x.2.2.2.2.2.1 x.2.2.2.2.2.2.1 x.2.2.2.2.2.2.2.1 x.2.2.2.2.2.2.2.2.1 x.2.2.2.2.2.2.2.2.2.1 x.2.2.2.2.2.2.2.2.2.2.1 x.2.2.2.2.2.2.2.2.2.2.2.1 x.2.2.2.2.2.2.2.2.2.2.2.2.1 x.2.2.2.2.2.2.2.2.2.2.2.2.2)) qh6 x := by kernel_rfl
theorem qz7 (k : Nat) : qae cf (call cf k) (kps 75) Tryz.f75.ntmps k 3 0 (lb Tryz.f75 0) (qmw k) :=
 qu (c := cf) (callF := call cf k) (kp := kps 75) (nt := Tryz.f75.ntmps) (k := k) (p := 3) (b := 0) (x0 := lb Tryz.f75 0) (hs := qh6) (os := qmv) (qd (qvC k)) (qz5 k) (fun n x => qbt k n x.1 x.2.1 x.2.2.1 x.2.2.2.1 x.2.2.2.2.1 x.2.2.2.2.2.1 x.2.2.2.2.2.2.1 x.2.2.2.2.2.2.2.1 x.2.2.2.2.2.2.2.2.1 x.2.2.2.2.2.2.2.2.2.1 x.2.2.2.2.2.2.2.2.2.2.1 x.2.2.2.2.2.2.2.2.2.2.2.1 x.2.2.2.2.2.2.2.2.2.2.2.2.1 x.2.2.2.2.2.2.2.2.2.2.2.2.2) (fun _ => rfl) (qz6 k)
theorem qHb (k : Nat) : qg (LOk (R := DS FS.D qta) (fun b _ σ K => LOt Ty (kps 75) 3 b σ K [qge k, qmw k]) cf (call cf k) (cf.keep 75) Tryz.f75.ntmps k qnW.bs.length) 0 (bd Tryz.f75) :=
 qA qT (qA qT (qA (qA qT (qD (c := cf) (callF := call cf k) (kp := kps 75) (nt := Tryz.f75.ntmps) (k := k) (p := 3) (b := 0) (x0 := lb Tryz.f75 0) (l := [qge k, qmw k]) (qA (fun h => absurd (show (2 : Nat) = 0 from h) (by decide)) (qA (fun _ => qz7 k) qT)))) (qA qT qT)))
theorem qHc (k : Nat) (x : qnW.D) : qcA (k + 1) x.1 x.2.1 x.2.2.1 x.2.2.2.1 x.2.2.2.2.1 x.2.2.2.2.2.1 x.2.2.2.2.2.2.1 x.2.2.2.2.2.2.2.1 x.2.2.2.2.2.2.2.2 = qk cf (fun f a b K => COt f a b K [qdJ k]) (fun b _ σ K => LOt Ty (kps 75) 3 b σ K [qge k, qmw k]) 75 Tryz.f75.ntmps Tryz.f75.results.toList (bd Tryz.f75) (qnW.enc x).1 (qnW.enc x).2 (qo FS.dec qta) := by kernel_rfl
theorem qHd : ∀ k, qh (call cf k) (Iq9 k)
 | 0 => fun x y e => absurd (show (none : Option _) = some y from e) (by simp)
 | k + 1 => qe (c := cf) (k := k) (f := 75) (fn := Tryz.f75) (body := bd Tryz.f75) (sh := qnW) (os := qta) rfl Tryz.func75 rfl ⟨rfl, Nat.le_of_ble_eq_true rfl⟩ (qd (qvC k)) (qHb k) (fun x => qcA (k + 1) x.1 x.2.1 x.2.2.1 x.2.2.2.1 x.2.2.2.2.1 x.2.2.2.2.2.1 x.2.2.2.2.2.2.1 x.2.2.2.2.2.2.2.1 x.2.2.2.2.2.2.2.2) (qHc k)

def qY (k : Nat) (rec : Nat → Int → Int → Int → List Int → Int → Int → List Int → Int → Int → Bool → Bool → List Int → Bool → List Int → List Int → Option (Nat × Int × Int × List Int × Int × Int × Bool × Bool × List Int × Bool × List Int × List Int)) (out1 : Nat) (i : Int) (a : Int) (carry : Int) (x : List Int) (x1 : Int) (x2 : Int) (x3 : List Int) (x4 : Int) (x5 : Int) (z : Bool) (x0 : Bool) (x11 : List Int) (y0 : Bool) (y1 : List Int) (outs : List Int) : Option (Nat × Int × Int × List Int × Int × Int × Bool × Bool × List Int × Bool × List Int × List Int) :=
 if ((decide (x5 < x4)) = true) then
 if ((0 : Int) ≤ x5) then
 Option.bind (x3)[(Int.toNat x5)]? fun x6 =>
 if (((0 : Int) ≤ (IntKind.wrap .i64 (i + x5))) ∧ ((IntKind.wrap .i64 (i + x5)) < ((out1 : Nat) : Int))) then
 Option.bind (outs)[(0 + (Int.toNat (IntKind.wrap .i64 (i + x5))))]? fun x7 =>
 if (((0 : Int) ≤ (IntKind.wrap .i64 (i + x5))) ∧ ((IntKind.wrap .i64 (i + x5)) < ((out1 : Nat) : Int))) then
 Option.bind (outs)[(0 + (Int.toNat (IntKind.wrap .i64 (i + x5))))]? fun x8 =>
 rec out1 i a (Int.fdiv (IntKind.wrap .u64 ((IntKind.wrap .u64 ((IntKind.wrap .u64 ((IntKind.wrap .u64 a) * (IntKind.wrap .u64 x6))) + (IntKind.wrap .u64 x7))) + carry)) (4294967296 : Int)) x x1 x2 x3 x4 (IntKind.wrap .i64 (x5 + (1 : Int))) z x0 x11 y0 y1 (List.set outs (0 + (Int.toNat (IntKind.wrap .i64 (i + x5)))) (IntKind.wrap .u32 (IntKind.wrap .u64 ((IntKind.wrap .u64 ((IntKind.wrap .u64 ((IntKind.wrap .u64 a) * (IntKind.wrap .u64 x6))) + (IntKind.wrap .u64 x7))) + carry))))
 else
 none
 else
 none
 else
 none
 else
 (some (out1, i, carry, x, x1, x2, z, x0, x11, y0, y1, outs))
def qK (k n : Nat) : Nat → Int → Int → Int → List Int → Int → Int → List Int → Int → Int → Bool → Bool → List Int → Bool → List Int → List Int → Option (Nat × Int × Int × List Int × Int × Int × Bool × Bool × List Int × Bool × List Int × List Int) := Nat.rec (fun _ _ _ _ _ _ _ _ _ _ _ _ _ _ _ _ => none) (fun _ r => qY k r) n
def qZ (k : Nat) (rec : Nat → List Int → Int → Int → Bool → Bool → List Int → Bool → List Int → List Int → Option (Nat × Bool × Bool × List Int × Bool × List Int × List Int)) (out1 : Nat) (x : List Int) (x1 : Int) (x2 : Int) (z : Bool) (x0 : Bool) (x11 : List Int) (y0 : Bool) (y1 : List Int) (outs : List Int) : Option (Nat × Bool × Bool × List Int × Bool × List Int × List Int) :=
 if ((decide (x2 < x1)) = true) then
 if ((0 : Int) ≤ x2) then
 Option.bind (x)[(Int.toNat x2)]? fun x4 =>
 Option.bind (qK k k out1 x2 x4 (0 : Int) x x1 x2 y1 (((List.length y1) : Nat) : Int) (0 : Int) z x0 x11 y0 y1 outs) fun r6 =>
 if (((0 : Int) ≤ (IntKind.wrap .i64 (r6.2.1 + (((List.length r6.2.2.2.2.2.2.2.2.2.2.1) : Nat) : Int)))) ∧ ((IntKind.wrap .i64 (r6.2.1 + (((List.length r6.2.2.2.2.2.2.2.2.2.2.1) : Nat) : Int))) < ((r6.1 : Nat) : Int))) then
 Option.bind (r6.2.2.2.2.2.2.2.2.2.2.2)[(0 + (Int.toNat (IntKind.wrap .i64 (r6.2.1 + (((List.length r6.2.2.2.2.2.2.2.2.2.2.1) : Nat) : Int)))))]? fun x5 =>
 rec r6.1 r6.2.2.2.1 r6.2.2.2.2.1 (IntKind.wrap .i64 (r6.2.2.2.2.2.1 + (1 : Int))) r6.2.2.2.2.2.2.1 r6.2.2.2.2.2.2.2.1 r6.2.2.2.2.2.2.2.2.1 r6.2.2.2.2.2.2.2.2.2.1 r6.2.2.2.2.2.2.2.2.2.2.1 (List.set r6.2.2.2.2.2.2.2.2.2.2.2 (0 + (Int.toNat (IntKind.wrap .i64 (r6.2.1 + (((List.length r6.2.2.2.2.2.2.2.2.2.2.1) : Nat) : Int))))) (IntKind.wrap .u32 r6.2.2.1))
 else
 none
 else
 none
 else
 (some (out1, z, x0, x11, y0, y1, outs))
def qF (k n : Nat) : Nat → List Int → Int → Int → Bool → Bool → List Int → Bool → List Int → List Int → Option (Nat × Bool × Bool × List Int × Bool × List Int × List Int) := Nat.rec (fun _ _ _ _ _ _ _ _ _ _ => none) (fun _ r => qZ k r) n
def qbV (k : Nat) (z : Bool) (x0 : Bool) (x1 : List Int) (y0 : Bool) (y1 : List Int) : Option (Bool × List Int × Bool × List Int × Bool × List Int) :=
 if (((0 : Int) ≤ (IntKind.wrap .i64 ((((List.length x1) : Nat) : Int) + (((List.length y1) : Nat) : Int)))) ∧ (((IntKind.wrap .i64 ((((List.length x1) : Nat) : Int) + (((List.length y1) : Nat) : Int))) ≤ (IntKind.wrap .i64 ((((List.length x1) : Nat) : Int) + (((List.length y1) : Nat) : Int)))) ∧ (((IntKind.wrap .i64 ((((List.length x1) : Nat) : Int) + (((List.length y1) : Nat) : Int))) * (4 : Int)) ≤ (140737488355328 : Int)))) then
 Option.bind (qF k k (Int.toNat (IntKind.wrap .i64 ((((List.length x1) : Nat) : Int) + (((List.length y1) : Nat) : Int)))) x1 (((List.length x1) : Nat) : Int) (0 : Int) z x0 x1 y0 y1 (List.replicate (Int.toNat (IntKind.wrap .i64 ((((List.length x1) : Nat) : Int) + (((List.length y1) : Nat) : Int)))) (0 : Int))) fun r6 =>
 if ((0 + r6.1) ≤ (List.length r6.2.2.2.2.2.2)) then
 Option.bind (qap k (!(r6.2.2.1 == r6.2.2.2.2.1)) (List.take r6.1 r6.2.2.2.2.2.2) r6.2.1) fun r7 =>
 (some (r7.1, r7.2, r6.2.2.1, r6.2.2.2.1, r6.2.2.2.2.1, r6.2.2.2.2.2.1))
 else
 none
 else
 none
def qaQ : Nat → Bool → Bool → List Int → Bool → List Int → Option (Bool × List Int × Bool × List Int × Bool × List Int)
 | 0, _, _, _, _, _ => none
 | k + 1, z, x0, x1, y0, y1 => qbV k z x0 x1 y0 y1
def qnX : FS := { vs := [.a (.ptr 0 0 0), .a (.ptr 1 0 0), .a (.ptr 2 0 0)], bs := [.raw [[.lf .bool, .snil 1 68]] 2 72 true false, .raw [[.lf .bool, .lf (.sl (.int .u32))]] 2 72 true false, .raw [[.lf .bool, .lf (.sl (.int .u32))]] 2 72 true false] }
def qtb : List FS := [{ vs := [.a (.ptr 0 0 0)], bs := [.raw [[.lf .bool, .lf (.sl (.int .u32))]] 2 72 true false, .raw [[.lf .bool, .lf (.sl (.int .u32))]] 2 72 true false, .raw [[.lf .bool, .lf (.sl (.int .u32))]] 2 72 true false] }]
def Iq7 (k : Nat) : Inst := ⟨75, qnX, qtb, fun x => qaQ k x.1 x.2.1 x.2.2.1 x.2.2.2.1 x.2.2.2.2⟩
theorem qvD (k : Nat) : qp (call cf k) [qdJ k] := qA (qje k) qT
def qh7 : List SS := [{ fr := [(0, .a (.ptr 0 0 0)), (1, .a (.ptr 1 0 0)), (2, .a (.ptr 2 0 0)), (7, .a (.smz 3)), (8, .a (.lf (.int .i64))), (9, .a (.lf (.int .u32))), (10, .a (.lf (.int .u64))), (29, .a (.lf (.sl (.int .u32)))), (30, .a (.lf (.int .i64))), (31, .a (.lf (.int .i64))), (39, .a (.lf (.sl (.int .u32)))), (40, .a (.lf (.int .i64))), (41, .a (.lf (.int .i64)))], mem := [(0, some (.raw [[.lf .bool, .snil 1 68]] 2 72 true false)), (1, some (.raw [[.lf .bool, .lf (.sl (.int .u32))]] 2 72 true false)), (2, some (.raw [[.lf .bool, .lf (.sl (.int .u32))]] 2 72 true false)), (3, some (.arr (.int .u32) 1 68 false))], nx := 4 }]
def qmx : List OS := [⟨some 2, { fr := [(0, .a (.ptr 0 0 0)), (1, .a (.ptr 1 0 0)), (2, .a (.ptr 2 0 0)), (7, .a (.smz 3)), (8, .a (.lf (.int .i64))), (10, .a (.lf (.int .u64))), (29, .a (.lf (.sl (.int .u32)))), (30, .a (.lf (.int .i64))), (31, .a (.lf (.int .i64)))], mem := [(0, some (.raw [[.lf .bool, .snil 1 68]] 2 72 true false)), (1, some (.raw [[.lf .bool, .lf (.sl (.int .u32))]] 2 72 true false)), (2, some (.raw [[.lf .bool, .lf (.sl (.int .u32))]] 2 72 true false)), (3, some (.arr (.int .u32) 1 68 false))], nx := 4 }⟩]
def qgf (k : Nat) : LInst := ⟨2, qh7, qmx, fun x => qK k k x.1 x.2.1 x.2.2.1 x.2.2.2.1 x.2.2.2.2.1 x.2.2.2.2.2.1 x.2.2.2.2.2.2.1 x.2.2.2.2.2.2.2.1 x.2.2.2.2.2.2.2.2.1 x.2.2.2.2.2.2.2.2.2.1 x.2.2.2.2.2.2.2.2.2.2.1 x.2.2.2.2.2.2.2.2.2.2.2.1 x.2.2.2.2.2.2.2.2.2.2.2.2.1 x.2.2.2.2.2.2.2.2.2.2.2.2.2.1 x.2.2.2.2.2.2.2.2.2.2.2.2.2.2.1 x.2.2.2.2.2.2.2.2.2.2.2.2.2.2.2⟩
theorem qz8 (k : Nat) : qg (LOk (R := DS OS.D qmx) (fun b _ σ K => LOt Ty (kps 75) 3 b σ K []) cf (call cf k) (kps 75) Tryz.f75.ntmps k 3) 2 (lb Tryz.f75 1) :=
 qA qT (qA (qA qT qT) (qA (qA qT (qA qT (qA qT qT))) qT))
theorem qz9 (k n : Nat) (x : DS SS.D qh7) : qK k (n + 1) x.1 x.2.1 x.2.2.1 x.2.2.2.1 x.2.2.2.2.1 x.2.2.2.2.2.1 x.2.2.2.2.2.2.1 x.2.2.2.2.2.2.2.1 x.2.2.2.2.2.2.2.2.1 x.2.2.2.2.2.2.2.2.2.1 x.2.2.2.2.2.2.2.2.2.2.1 x.2.2.2.2.2.2.2.2.2.2.2.1 x.2.2.2.2.2.2.2.2.2.2.2.2.1 x.2.2.2.2.2.2.2.2.2.2.2.2.2.1 x.2.2.2.2.2.2.2.2.2.2.2.2.2.2.1 x.2.2.2.2.2.2.2.2.2.2.2.2.2.2.2 = qI SS.enc (fun σ => qJ cf (fun f a b K => COt f a b K [qdJ k]) (fun b _ σ K => LOt Ty (kps 75) 3 b σ K []) Tryz.f75.ntmps 2 (lb Tryz.f75 1) σ (qQ Ty (kps 75 2) 3 qh7 qmx fun x => qK k n x.1 x.2.1 x.2.2.1 x.2.2.2.1 x.2.2.2.2.1 x.2.2.2.2.2.1 x.2.2.2.2.2.2.1 x.2.2.2.2.2.2.2.1 x.2.2.2.2.2.2.2.2.1 x.2.2.2.2.2.2.2.2.2.1 x.2.2.2.2.2.2.2.2.2.2.1 x.2.2.2.2.2.2.2.2.2.2.2.1 x.2.2.2.2.2.2.2.2.2.2.2.2.1 x.2.2.2.2.2.2.2.2.2.2.2.2.2.1 x.2.2.2.2.2.2.2.2.2.2.2.2.2.2.1 x.2.2.2.2.2.2.2.2.2.2.2.2.2.2.2)) qh7 x := by kernel_rfl
theorem qAa (k : Nat) : qae cf (call cf k) (kps 75) Tryz.f75.ntmps k 3 2 (lb Tryz.f75 1) (qgf k) :=
 qu (c := cf) (callF := call cf k) (kp := kps 75) (nt := Tryz.f75.ntmps) (k := k) (p := 3) (b := 2) (x0 := lb Tryz.f75 1) (hs := qh7) (os := qmx) (qd (qvD k)) (qz8 k) (fun n x => qK k n x.1 x.2.1 x.2.2.1 x.2.2.2.1 x.2.2.2.2.1 x.2.2.2.2.2.1 x.2.2.2.2.2.2.1 x.2.2.2.2.2.2.2.1 x.2.2.2.2.2.2.2.2.1 x.2.2.2.2.2.2.2.2.2.1 x.2.2.2.2.2.2.2.2.2.2.1 x.2.2.2.2.2.2.2.2.2.2.2.1 x.2.2.2.2.2.2.2.2.2.2.2.2.1 x.2.2.2.2.2.2.2.2.2.2.2.2.2.1 x.2.2.2.2.2.2.2.2.2.2.2.2.2.2.1 x.2.2.2.2.2.2.2.2.2.2.2.2.2.2.2) (fun _ => rfl) (qz9 k)
def qh8 : List SS := [{ fr := [(0, .a (.ptr 0 0 0)), (1, .a (.ptr 1 0 0)), (2, .a (.ptr 2 0 0)), (7, .a (.smz 3)), (29, .a (.lf (.sl (.int .u32)))), (30, .a (.lf (.int .i64))), (31, .a (.lf (.int .i64)))], mem := [(0, some (.raw [[.lf .bool, .snil 1 68]] 2 72 true false)), (1, some (.raw [[.lf .bool, .lf (.sl (.int .u32))]] 2 72 true false)), (2, some (.raw [[.lf .bool, .lf (.sl (.int .u32))]] 2 72 true false)), (3, some (.arr (.int .u32) 1 68 false))], nx := 4 }]
def qmy : List OS := [⟨some 0, { fr := [(0, .a (.ptr 0 0 0)), (1, .a (.ptr 1 0 0)), (2, .a (.ptr 2 0 0)), (7, .a (.smz 3))], mem := [(0, some (.raw [[.lf .bool, .snil 1 68]] 2 72 true false)), (1, some (.raw [[.lf .bool, .lf (.sl (.int .u32))]] 2 72 true false)), (2, some (.raw [[.lf .bool, .lf (.sl (.int .u32))]] 2 72 true false)), (3, some (.arr (.int .u32) 1 68 false))], nx := 4 }⟩]
def qmz (k : Nat) : LInst := ⟨0, qh8, qmy, fun x => qF k k x.1 x.2.1 x.2.2.1 x.2.2.2.1 x.2.2.2.2.1 x.2.2.2.2.2.1 x.2.2.2.2.2.2.1 x.2.2.2.2.2.2.2.1 x.2.2.2.2.2.2.2.2.1 x.2.2.2.2.2.2.2.2.2⟩
theorem qAb (k : Nat) : qg (LOk (R := DS OS.D qmy) (fun b _ σ K => LOt Ty (kps 75) 3 b σ K [qgf k]) cf (call cf k) (kps 75) Tryz.f75.ntmps k 3) 0 (lb Tryz.f75 0) :=
 qA qT (qA (qA qT qT) (qA (qA qT (qA qT (qA (qA qT (qD (c := cf) (callF := call cf k) (kp := kps 75) (nt := Tryz.f75.ntmps) (k := k) (p := 3) (b := 2) (x0 := lb Tryz.f75 1) (l := [qgf k]) (qA (fun _ => qAa k) qT))) qT))) qT))
theorem qAc (k n : Nat) (x : DS SS.D qh8) : qF k (n + 1) x.1 x.2.1 x.2.2.1 x.2.2.2.1 x.2.2.2.2.1 x.2.2.2.2.2.1 x.2.2.2.2.2.2.1 x.2.2.2.2.2.2.2.1 x.2.2.2.2.2.2.2.2.1 x.2.2.2.2.2.2.2.2.2 = qI SS.enc (fun σ => qJ cf (fun f a b K => COt f a b K [qdJ k]) (fun b _ σ K => LOt Ty (kps 75) 3 b σ K [qgf k]) Tryz.f75.ntmps 0 (lb Tryz.f75 0) σ (qQ Ty (kps 75 0) 3 qh8 qmy fun x => qF k n x.1 x.2.1 x.2.2.1 x.2.2.2.1 x.2.2.2.2.1 x.2.2.2.2.2.1 x.2.2.2.2.2.2.1 x.2.2.2.2.2.2.2.1 x.2.2.2.2.2.2.2.2.1 x.2.2.2.2.2.2.2.2.2)) qh8 x := by kernel_rfl
theorem qAd (k : Nat) : qae cf (call cf k) (kps 75) Tryz.f75.ntmps k 3 0 (lb Tryz.f75 0) (qmz k) :=
 qu (c := cf) (callF := call cf k) (kp := kps 75) (nt := Tryz.f75.ntmps) (k := k) (p := 3) (b := 0) (x0 := lb Tryz.f75 0) (hs := qh8) (os := qmy) (qd (qvD k)) (qAb k) (fun n x => qF k n x.1 x.2.1 x.2.2.1 x.2.2.2.1 x.2.2.2.2.1 x.2.2.2.2.2.1 x.2.2.2.2.2.2.1 x.2.2.2.2.2.2.2.1 x.2.2.2.2.2.2.2.2.1 x.2.2.2.2.2.2.2.2.2) (fun _ => rfl) (qAc k)
theorem qHe (k : Nat) : qg (LOk (R := DS FS.D qtb) (fun b _ σ K => LOt Ty (kps 75) 3 b σ K [qgf k, qmz k]) cf (call cf k) (cf.keep 75) Tryz.f75.ntmps k qnX.bs.length) 0 (bd Tryz.f75) :=
 qA qT (qA qT (qA (qA qT (qD (c := cf) (callF := call cf k) (kp := kps 75) (nt := Tryz.f75.ntmps) (k := k) (p := 3) (b := 0) (x0 := lb Tryz.f75 0) (l := [qgf k, qmz k]) (qA (fun h => absurd (show (2 : Nat) = 0 from h) (by decide)) (qA (fun _ => qAd k) qT)))) (qA qT qT)))
theorem qHf (k : Nat) (x : qnX.D) : qaQ (k + 1) x.1 x.2.1 x.2.2.1 x.2.2.2.1 x.2.2.2.2 = qk cf (fun f a b K => COt f a b K [qdJ k]) (fun b _ σ K => LOt Ty (kps 75) 3 b σ K [qgf k, qmz k]) 75 Tryz.f75.ntmps Tryz.f75.results.toList (bd Tryz.f75) (qnX.enc x).1 (qnX.enc x).2 (qo FS.dec qtb) := by kernel_rfl
theorem qvE : ∀ k, qh (call cf k) (Iq7 k)
 | 0 => fun x y e => absurd (show (none : Option _) = some y from e) (by simp)
 | k + 1 => qe (c := cf) (k := k) (f := 75) (fn := Tryz.f75) (body := bd Tryz.f75) (sh := qnX) (os := qtb) rfl Tryz.func75 rfl ⟨rfl, Nat.le_of_ble_eq_true rfl⟩ (qd (qvD k)) (qHe k) (fun x => qaQ (k + 1) x.1 x.2.1 x.2.2.1 x.2.2.2.1 x.2.2.2.2) (qHf k)

def qkD (k : Nat) (z0 : Bool) (z1 : List Int) (z2 : Bool) (z3 : List Int) (n0 : Bool) (n1 : List Int) (d0 : Bool) (d1 : List Int) : Option (Bool × List Int × Bool × List Int × Bool × List Int × Bool × List Int) :=
 Option.bind (qc1 k n0 n1 d0 d1) fun r7 =>
 if (r7.2.2.1 = true) then
 Option.bind (qac k false r7.1 r7.2.1 true r7.2.2.2.2.2) fun r8 =>
 Option.bind (qac k false r7.2.2.1 r7.2.2.2.1 r8.2.2.2.2.1 r8.2.2.2.2.2) fun r9 =>
 (some (r8.1, r8.2.1, r9.1, r9.2.1, r8.2.2.1, r8.2.2.2.1, r9.2.2.1, r9.2.2.2.1))
 else
 Option.bind (qac k false r7.1 r7.2.1 r7.2.2.2.2.1 r7.2.2.2.2.2) fun r8 =>
 Option.bind (qac k false r7.2.2.1 r7.2.2.2.1 r8.2.2.2.2.1 r8.2.2.2.2.2) fun r9 =>
 (some (r8.1, r8.2.1, r9.1, r9.2.1, r8.2.2.1, r8.2.2.2.1, r9.2.2.1, r9.2.2.2.1))
def qbb : Nat → Bool → List Int → Bool → List Int → Bool → List Int → Bool → List Int → Option (Bool × List Int × Bool × List Int × Bool × List Int × Bool × List Int)
 | 0, _, _, _, _, _, _, _, _ => none
 | k + 1, z0, z1, z2, z3, n0, n1, d0, d1 => qkD k z0 z1 z2 z3 n0 n1 d0 d1
def qjq : FS := { vs := [.a (.ptr 0 0 0), .a (.ptr 1 0 0), .a (.ptr 2 0 0)], bs := [.raw [[.lf .bool, .lf (.sl (.int .u32)), .lf .bool, .lf (.sl (.int .u32))]] 4 74 true false, .raw [[.lf .bool, .lf (.sl (.int .u32))]] 2 72 true false, .raw [[.lf .bool, .lf (.sl (.int .u32))]] 2 72 true false] }
def qpm : List FS := [{ vs := [.a (.ptr 0 0 0)], bs := [.raw [[.lf .bool, .lf (.sl (.int .u32)), .lf .bool, .lf (.sl (.int .u32))]] 4 74 true false, .raw [[.lf .bool, .lf (.sl (.int .u32))]] 2 72 true false, .raw [[.lf .bool, .lf (.sl (.int .u32))]] 2 72 true false] }]
def qq9 (k : Nat) : Inst := ⟨77, qjq, qpm, fun x => qbb k x.1 x.2.1 x.2.2.1 x.2.2.2.1 x.2.2.2.2.1 x.2.2.2.2.2.1 x.2.2.2.2.2.2.1 x.2.2.2.2.2.2.2⟩
theorem qDt (k : Nat) : qp (call cf k) [Iq1 k, qq3 k] := qA (qvx k) (qA (qwV k) qT)
theorem qDu (k : Nat) : qg (LOk (R := DS FS.D qpm) (fun b _ σ K => LOt Ty (kps 77) 3 b σ K []) cf (call cf k) (cf.keep 77) Tryz.f77.ntmps k qjq.bs.length) 0 (bd Tryz.f77) :=
 qA qT (qA qT (qA (qA qT (qA qT qT)) (qA qT (qA qT (qA qT (qA qT (qA qT qT)))))))
theorem qDv (k : Nat) (x : qjq.D) : qbb (k + 1) x.1 x.2.1 x.2.2.1 x.2.2.2.1 x.2.2.2.2.1 x.2.2.2.2.2.1 x.2.2.2.2.2.2.1 x.2.2.2.2.2.2.2 = qk cf (fun f a b K => COt f a b K [Iq1 k, qq3 k]) (fun b _ σ K => LOt Ty (kps 77) 3 b σ K []) 77 Tryz.f77.ntmps Tryz.f77.results.toList (bd Tryz.f77) (qjq.enc x).1 (qjq.enc x).2 (qo FS.dec qpm) := by kernel_rfl
theorem qw0 : ∀ k, qh (call cf k) (qq9 k)
 | 0 => fun x y e => absurd (show (none : Option _) = some y from e) (by simp)
 | k + 1 => qe (c := cf) (k := k) (f := 77) (fn := Tryz.f77) (body := bd Tryz.f77) (sh := qjq) (os := qpm) rfl Tryz.func77 rfl ⟨rfl, Nat.le_of_ble_eq_true rfl⟩ (qd (qDt k)) (qDu k) (fun x => qbb (k + 1) x.1 x.2.1 x.2.2.1 x.2.2.2.1 x.2.2.2.2.1 x.2.2.2.2.2.1 x.2.2.2.2.2.2.1 x.2.2.2.2.2.2.2) (qDv k)

def qk2 (k : Nat) (x0 : Bool) (x1 : List Int) (x2 : Bool) (x3 : List Int) (y0 : Bool) (y1 : List Int) (y2 : Bool) (y3 : List Int) : Option (Bool × List Int × Bool × List Int × Bool × List Int × Bool × List Int) :=
 Option.bind (qcA k false x0 x1 x2 x3 y0 y1 y2 y3) fun r3 =>
 Option.bind (qC k r3.2.2.1 r3.2.2.2.1 r3.2.2.2.2.1 r3.2.2.2.2.2.1) fun r4 =>
 Option.bind (qC k r3.2.2.2.2.2.2.1 r3.2.2.2.2.2.2.2.1 r3.2.2.2.2.2.2.2.2.1 r3.2.2.2.2.2.2.2.2.2) fun r5 =>
 Option.bind (qaQ k false r4.2.2.2.2.1 r4.2.2.2.2.2 r5.2.2.2.2.1 r5.2.2.2.2.2) fun r6 =>
 Option.bind (qbb k r4.1 r4.2.1 r4.2.2.1 r4.2.2.2.1 r3.1 r3.2.1 r6.1 r6.2.1) fun r7 =>
 (some (r7.1, r7.2.1, r7.2.2.1, r7.2.2.2.1, r5.1, r5.2.1, r5.2.2.1, r5.2.2.2.1))
def qaB : Nat → Bool → List Int → Bool → List Int → Bool → List Int → Bool → List Int → Option (Bool × List Int × Bool × List Int × Bool × List Int × Bool × List Int)
 | 0, _, _, _, _, _, _, _, _ => none
 | k + 1, x0, x1, x2, x3, y0, y1, y2, y3 => qk2 k x0 x1 x2 x3 y0 y1 y2 y3
def qjr : FS := { vs := [.a (.ptr 0 0 0), .a (.ptr 0 0 0), .a (.ptr 1 0 0)], bs := [.raw [[.lf .bool, .lf (.sl (.int .u32)), .lf .bool, .lf (.sl (.int .u32))]] 4 74 true false, .raw [[.lf .bool, .lf (.sl (.int .u32)), .lf .bool, .lf (.sl (.int .u32))]] 4 74 true false] }
def qpn : List FS := [{ vs := [.a (.ptr 0 0 0)], bs := [.raw [[.lf .bool, .lf (.sl (.int .u32)), .lf .bool, .lf (.sl (.int .u32))]] 4 74 true false, .raw [[.lf .bool, .lf (.sl (.int .u32)), .lf .bool, .lf (.sl (.int .u32))]] 4 74 true false] }]
def qra (k : Nat) : Inst := ⟨34, qjr, qpn, fun x => qaB k x.1 x.2.1 x.2.2.1 x.2.2.2.1 x.2.2.2.2.1 x.2.2.2.2.2.1 x.2.2.2.2.2.2.1 x.2.2.2.2.2.2.2⟩
theorem qDw (k : Nat) : qp (call cf k) [Iq9 k, qgd k, Iq7 k, qq9 k] := qA (qHd k) (qA (qmn k) (qA (qvE k) (qA (qw0 k) qT)))
theorem qDx (k : Nat) : qg (LOk (R := DS FS.D qpn) (fun b _ σ K => LOt Ty (kps 34) 2 b σ K []) cf (call cf k) (cf.keep 34) Tryz.f34.ntmps k qjr.bs.length) 0 (bd Tryz.f34) :=
 qA qT (qA qT (qA qT (qA qT (qA qT qT))))
theorem qDy (k : Nat) (x : qjr.D) : qaB (k + 1) x.1 x.2.1 x.2.2.1 x.2.2.2.1 x.2.2.2.2.1 x.2.2.2.2.2.1 x.2.2.2.2.2.2.1 x.2.2.2.2.2.2.2 = qk cf (fun f a b K => COt f a b K [Iq9 k, qgd k, Iq7 k, qq9 k]) (fun b _ σ K => LOt Ty (kps 34) 2 b σ K []) 34 Tryz.f34.ntmps Tryz.f34.results.toList (bd Tryz.f34) (qjr.enc x).1 (qjr.enc x).2 (qo FS.dec qpn) := by kernel_rfl
theorem qw1 : ∀ k, qh (call cf k) (qra k)
 | 0 => fun x y e => absurd (show (none : Option _) = some y from e) (by simp)
 | k + 1 => qe (c := cf) (k := k) (f := 34) (fn := Tryz.f34) (body := bd Tryz.f34) (sh := qjr) (os := qpn) rfl Tryz.func34 rfl ⟨rfl, Nat.le_of_ble_eq_true rfl⟩ (qd (qDw k)) (qDx k) (fun x => qaB (k + 1) x.1 x.2.1 x.2.2.1 x.2.2.2.1 x.2.2.2.2.1 x.2.2.2.2.2.1 x.2.2.2.2.2.2.1 x.2.2.2.2.2.2.2) (qDy k)

def qgy (k : Nat) (a0 : Bool) (a1 : List Int) : Option (Int) :=
 if ((decide ((((List.length a1) : Nat) : Int) > (72 : Int))) = false) then
 if (((((List.length a1) : Nat) : Int) == (0 : Int)) = true) then
 if (a0 = false) then
 if ((decide ((((List.length a1) : Nat) : Int) > (0 : Int))) = true) then
 if ((0 : Int) ≤ (IntKind.wrap .i64 ((((List.length a1) : Nat) : Int) - (1 : Int)))) then
 Option.bind (a1)[(Int.toNat (IntKind.wrap .i64 ((((List.length a1) : Nat) : Int) - (1 : Int))))]? fun x1 =>
 if ((x1 == (0 : Int)) = true) then
 (some (10 : Int))
 else
 (some (0 : Int))
 else
 none
 else
 (some (0 : Int))
 else
 (some (10 : Int))
 else
 if ((decide ((((List.length a1) : Nat) : Int) > (0 : Int))) = true) then
 if ((0 : Int) ≤ (IntKind.wrap .i64 ((((List.length a1) : Nat) : Int) - (1 : Int)))) then
 Option.bind (a1)[(Int.toNat (IntKind.wrap .i64 ((((List.length a1) : Nat) : Int) - (1 : Int))))]? fun x1 =>
 if ((x1 == (0 : Int)) = true) then
 (some (10 : Int))
 else
 (some (0 : Int))
 else
 none
 else
 (some (0 : Int))
 else
 (some (10 : Int))
def qcX : Nat → Bool → List Int → Option (Int)
 | 0, _, _ => none
 | k + 1, a0, a1 => qgy k a0 a1
def qjs : FS := { vs := [.g [.lf .bool, .lf (.sl (.int .u32))]], bs := [] }
def qpo : List FS := [{ vs := [.a (.lf (.int .i64))], bs := [] }]
def qrb (k : Nat) : Inst := ⟨66, qjs, qpo, fun x => qcX k x.1 x.2⟩
theorem qDz (k : Nat) : qp (call cf k) [] := True.intro
theorem qDA (k : Nat) : qg (LOk (R := DS FS.D qpo) (fun b _ σ K => LOt Ty (kps 66) 0 b σ K []) cf (call cf k) (cf.keep 66) Tryz.f66.ntmps k qjs.bs.length) 0 (bd Tryz.f66) :=
 qA qT (qA qT (qA (qA qT (qA (qA qT qT) qT)) (qA qT qT)))
theorem qDB (k : Nat) (x : qjs.D) : qcX (k + 1) x.1 x.2 = qk cf (fun f a b K => COt f a b K []) (fun b _ σ K => LOt Ty (kps 66) 0 b σ K []) 66 Tryz.f66.ntmps Tryz.f66.results.toList (bd Tryz.f66) (qjs.enc x).1 (qjs.enc x).2 (qo FS.dec qpo) := by kernel_rfl
theorem qw2 : ∀ k, qh (call cf k) (qrb k)
 | 0 => fun x y e => absurd (show (none : Option _) = some y from e) (by simp)
 | k + 1 => qe (c := cf) (k := k) (f := 66) (fn := Tryz.f66) (body := bd Tryz.f66) (sh := qjs) (os := qpo) rfl Tryz.func66 rfl ⟨rfl, Nat.le_of_ble_eq_true rfl⟩ (qd (qDz k)) (qDA k) (fun x => qcX (k + 1) x.1 x.2) (qDB k)

def qhn (k : Nat) (a0 : Bool) (a1 : List Int) (b0 : Bool) (b1 : List Int) : Option (Int) :=
 Option.bind (qcX k a0 a1) fun r7 =>
 if ((r7 != (0 : Int)) = true) then
 (some (10 : Int))
 else
 Option.bind (qcX k b0 b1) fun r8 =>
 (some r8)
def qeu : Nat → Bool → List Int → Bool → List Int → Option (Int)
 | 0, _, _, _, _ => none
 | k + 1, a0, a1, b0, b1 => qhn k a0 a1 b0 b1
def qjt : FS := { vs := [.g [.lf .bool, .lf (.sl (.int .u32))], .g [.lf .bool, .lf (.sl (.int .u32))]], bs := [] }
def qpp : List FS := [{ vs := [.a (.lf (.int .i64))], bs := [] }]
def qvF (k : Nat) : Inst := ⟨116, qjt, qpp, fun x => qeu k x.1 x.2.1 x.2.2.1 x.2.2.2⟩
theorem qDC (k : Nat) : qp (call cf k) [qrb k] := qA (qw2 k) qT
theorem qDD (k : Nat) : qg (LOk (R := DS FS.D qpp) (fun b _ σ K => LOt Ty (kps 116) 0 b σ K []) cf (call cf k) (cf.keep 116) Tryz.f116.ntmps k qjt.bs.length) 0 (bd Tryz.f116) :=
 qA qT (qA (qA qT (qA (qA qT qT) qT)) (qA qT qT))
theorem qDE (k : Nat) (x : qjt.D) : qeu (k + 1) x.1 x.2.1 x.2.2.1 x.2.2.2 = qk cf (fun f a b K => COt f a b K [qrb k]) (fun b _ σ K => LOt Ty (kps 116) 0 b σ K []) 116 Tryz.f116.ntmps Tryz.f116.results.toList (bd Tryz.f116) (qjt.enc x).1 (qjt.enc x).2 (qo FS.dec qpp) := by kernel_rfl
theorem qDF : ∀ k, qh (call cf k) (qvF k)
 | 0 => fun x y e => absurd (show (none : Option _) = some y from e) (by simp)
 | k + 1 => qe (c := cf) (k := k) (f := 116) (fn := Tryz.f116) (body := bd Tryz.f116) (sh := qjt) (os := qpp) rfl Tryz.func116 rfl ⟨rfl, Nat.le_of_ble_eq_true rfl⟩ (qd (qDC k)) (qDD k) (fun x => qeu (k + 1) x.1 x.2.1 x.2.2.1 x.2.2.2) (qDE k)

def qh9 (k : Nat) (a0 : Bool) (a1 : List Int) (b0 : Bool) (b1 : List Int) : Option (Bool × List Int × Int) :=
 Option.bind (qeu k a0 a1 b0 b1) fun r7 =>
 if ((r7 != (0 : Int)) = true) then
 (some (false, [], r7))
 else
 Option.bind (qbH k a0 a1) fun r8 =>
 Option.bind (qbH k b0 b1) fun r9 =>
 Option.bind (qc1 k r8.1 r8.2 r9.1 r9.2) fun r10 =>
 Option.bind (qb5 k r10.2.2.2.2.1 r10.2.2.2.2.2) fun r11 =>
 if ((0 + r11.2.1) ≤ (List.length r11.2.2.2.2)) then
 (some (r11.1, (List.take r11.2.1 r11.2.2.2.2), (0 : Int)))
 else
 none
def qfc : Nat → Bool → List Int → Bool → List Int → Option (Bool × List Int × Int)
 | 0, _, _, _, _ => none
 | k + 1, a0, a1, b0, b1 => qh9 k a0 a1 b0 b1
def qju : FS := { vs := [.g [.lf .bool, .lf (.sl (.int .u32))], .g [.lf .bool, .lf (.sl (.int .u32))]], bs := [] }
def qpq : List FS := [{ vs := [.g [.lf .bool, .lf (.sl (.int .u32))], .a (.lf (.int .i64))], bs := [] }]
def qvG (k : Nat) : Inst := ⟨86, qju, qpq, fun x => qfc k x.1 x.2.1 x.2.2.1 x.2.2.2⟩
theorem qDG (k : Nat) : qp (call cf k) [qvF k, qhm k, Iq1 k, qmm k] := qA (qDF k) (qA (qq7 k) (qA (qvx k) (qA (qup k) qT)))
theorem qDH (k : Nat) : qg (LOk (R := DS FS.D qpq) (fun b _ σ K => LOt Ty (kps 86) 0 b σ K []) cf (call cf k) (cf.keep 86) Tryz.f86.ntmps k qju.bs.length) 0 (bd Tryz.f86) :=
 qA qT (qA (qA qT (qA qT (qA (qA qT qT) qT))) (qA qT qT))
theorem qDI (k : Nat) (x : qju.D) : qfc (k + 1) x.1 x.2.1 x.2.2.1 x.2.2.2 = qk cf (fun f a b K => COt f a b K [qvF k, qhm k, Iq1 k, qmm k]) (fun b _ σ K => LOt Ty (kps 86) 0 b σ K []) 86 Tryz.f86.ntmps Tryz.f86.results.toList (bd Tryz.f86) (qju.enc x).1 (qju.enc x).2 (qo FS.dec qpq) := by kernel_rfl
theorem qDJ : ∀ k, qh (call cf k) (qvG k)
 | 0 => fun x y e => absurd (show (none : Option _) = some y from e) (by simp)
 | k + 1 => qe (c := cf) (k := k) (f := 86) (fn := Tryz.f86) (body := bd Tryz.f86) (sh := qju) (os := qpq) rfl Tryz.func86 rfl ⟨rfl, Nat.le_of_ble_eq_true rfl⟩ (qd (qDG k)) (qDH k) (fun x => qfc (k + 1) x.1 x.2.1 x.2.2.1 x.2.2.2) (qDI k)

def qho (k : Nat) (r0 : Bool) (r1 : List Int) (r2 : Bool) (r3 : List Int) : Option (Int) :=
 Option.bind (qcX k r0 r1) fun r5 =>
 if ((r5 != (0 : Int)) = false) then
 Option.bind (qcX k r2 r3) fun r6 =>
 if ((r6 != (0 : Int)) = true) then
 (some (10 : Int))
 else
 if (r2 = false) then
 if (((((List.length r3) : Nat) : Int) == (0 : Int)) = true) then
 (some (20 : Int))
 else
 Option.bind (qfc k r0 r1 r2 r3) fun r7 =>
 if (((((List.length r7.2.1) : Nat) : Int) != (1 : Int)) = false) then
 Option.bind (r7.2.1)[0]? fun x1 =>
 if ((x1 != (1 : Int)) = true) then
 (some (20 : Int))
 else
 (some (0 : Int))
 else
 (some (20 : Int))
 else
 (some (20 : Int))
 else
 (some (10 : Int))
def qev : Nat → Bool → List Int → Bool → List Int → Option (Int)
 | 0, _, _, _, _ => none
 | k + 1, r0, r1, r2, r3 => qho k r0 r1 r2 r3
def qjv : FS := { vs := [.g [.lf .bool, .lf (.sl (.int .u32)), .lf .bool, .lf (.sl (.int .u32))]], bs := [] }
def qpr : List FS := [{ vs := [.a (.lf (.int .i64))], bs := [] }]
def qvH (k : Nat) : Inst := ⟨40, qjv, qpr, fun x => qev k x.1 x.2.1 x.2.2.1 x.2.2.2⟩
theorem qDK (k : Nat) : qp (call cf k) [qrb k, qvG k] := qA (qw2 k) (qA (qDJ k) qT)
theorem qDL (k : Nat) : qg (LOk (R := DS FS.D qpr) (fun b _ σ K => LOt Ty (kps 40) 0 b σ K []) cf (call cf k) (cf.keep 40) Tryz.f40.ntmps k qjv.bs.length) 0 (bd Tryz.f40) :=
 qA qT (qA (qA qT (qA (qA qT qT) qT)) (qA (qA qT (qA (qA qT qT) qT)) (qA qT (qA (qA qT (qA (qA qT qT) qT)) (qA qT qT)))))
theorem qDM (k : Nat) (x : qjv.D) : qev (k + 1) x.1 x.2.1 x.2.2.1 x.2.2.2 = qk cf (fun f a b K => COt f a b K [qrb k, qvG k]) (fun b _ σ K => LOt Ty (kps 40) 0 b σ K []) 40 Tryz.f40.ntmps Tryz.f40.results.toList (bd Tryz.f40) (qjv.enc x).1 (qjv.enc x).2 (qo FS.dec qpr) := by kernel_rfl
theorem qDN : ∀ k, qh (call cf k) (qvH k)
 | 0 => fun x y e => absurd (show (none : Option _) = some y from e) (by simp)
 | k + 1 => qe (c := cf) (k := k) (f := 40) (fn := Tryz.f40) (body := bd Tryz.f40) (sh := qjv) (os := qpr) rfl Tryz.func40 rfl ⟨rfl, Nat.le_of_ble_eq_true rfl⟩ (qd (qDK k)) (qDL k) (fun x => qev (k + 1) x.1 x.2.1 x.2.2.1 x.2.2.2) (qDM k)

def qk3 (k : Nat) (z : Bool) (x0 : Bool) (x1 : List Int) : Option (Bool × List Int × Bool × List Int) :=
 Option.bind (qap k false x1 z) fun r9 =>
 (some (r9.1, r9.2, x0, x1))
def qcB : Nat → Bool → Bool → List Int → Option (Bool × List Int × Bool × List Int)
 | 0, _, _, _ => none
 | k + 1, z, x0, x1 => qk3 k z x0 x1
def qnY : FS := { vs := [.a (.ptr 0 0 0), .a (.ptr 1 0 0)], bs := [.raw [[.lf .bool, .snil 1 68]] 2 72 true false, .raw [[.lf .bool, .lf (.sl (.int .u32))]] 2 72 true false] }
def qtc : List FS := [{ vs := [.a (.ptr 0 0 0)], bs := [.raw [[.lf .bool, .lf (.sl (.int .u32))]] 2 72 true false, .raw [[.lf .bool, .lf (.sl (.int .u32))]] 2 72 true false] }]
def Iq2 (k : Nat) : Inst := ⟨127, qnY, qtc, fun x => qcB k x.1 x.2.1 x.2.2⟩
theorem qHg (k : Nat) : qp (call cf k) [qdJ k] := qA (qje k) qT
theorem qHh (k : Nat) : qg (LOk (R := DS FS.D qtc) (fun b _ σ K => LOt Ty (kps 127) 2 b σ K []) cf (call cf k) (cf.keep 127) Tryz.f127.ntmps k qnY.bs.length) 0 (bd Tryz.f127) :=
 qA qT (qA qT qT)
theorem qHi (k : Nat) (x : qnY.D) : qcB (k + 1) x.1 x.2.1 x.2.2 = qk cf (fun f a b K => COt f a b K [qdJ k]) (fun b _ σ K => LOt Ty (kps 127) 2 b σ K []) 127 Tryz.f127.ntmps Tryz.f127.results.toList (bd Tryz.f127) (qnY.enc x).1 (qnY.enc x).2 (qo FS.dec qtc) := by kernel_rfl
theorem qHj : ∀ k, qh (call cf k) (Iq2 k)
 | 0 => fun x y e => absurd (show (none : Option _) = some y from e) (by simp)
 | k + 1 => qe (c := cf) (k := k) (f := 127) (fn := Tryz.f127) (body := bd Tryz.f127) (sh := qnY) (os := qtc) rfl Tryz.func127 rfl ⟨rfl, Nat.le_of_ble_eq_true rfl⟩ (qd (qHg k)) (qHh k) (fun x => qcB (k + 1) x.1 x.2.1 x.2.2) (qHi k)

def qeK (k : Nat) (rec : List Int → List Int → Nat → Int → Int → Int → List Int → Option (List Int × Nat × Int × List Int)) (a : List Int) (b : List Int) (out1 : Nat) (carry : Int) (x : Int) (x1 : Int) (outs : List Int) : Option (List Int × Nat × Int × List Int) :=
 if ((decide (x1 < x)) = true) then
 if ((0 : Int) ≤ x1) then
 Option.bind (a)[(Int.toNat x1)]? fun x2 =>
 if ((decide (x1 < (((List.length b) : Nat) : Int))) = true) then
 if ((0 : Int) ≤ x1) then
 Option.bind (b)[(Int.toNat x1)]? fun x3 =>
 if (((0 : Int) ≤ x1) ∧ (x1 < ((out1 : Nat) : Int))) then
 Option.bind (outs)[(0 + (Int.toNat x1))]? fun x4 =>
 rec a b out1 (Int.fdiv (IntKind.wrap .u64 ((IntKind.wrap .u64 ((IntKind.wrap .u64 x2) + carry)) + (IntKind.wrap .u64 x3))) (4294967296 : Int)) x (IntKind.wrap .i64 (x1 + (1 : Int))) (List.set outs (0 + (Int.toNat x1)) (IntKind.wrap .u32 (IntKind.wrap .u64 ((IntKind.wrap .u64 ((IntKind.wrap .u64 x2) + carry)) + (IntKind.wrap .u64 x3)))))
 else
 none
 else
 none
 else
 if (((0 : Int) ≤ x1) ∧ (x1 < ((out1 : Nat) : Int))) then
 Option.bind (outs)[(0 + (Int.toNat x1))]? fun x3 =>
 rec a b out1 (Int.fdiv (IntKind.wrap .u64 ((IntKind.wrap .u64 x2) + carry)) (4294967296 : Int)) x (IntKind.wrap .i64 (x1 + (1 : Int))) (List.set outs (0 + (Int.toNat x1)) (IntKind.wrap .u32 (IntKind.wrap .u64 ((IntKind.wrap .u64 x2) + carry))))
 else
 none
 else
 none
 else
 (some (a, out1, carry, outs))
def qcd (k n : Nat) : List Int → List Int → Nat → Int → Int → Int → List Int → Option (List Int × Nat × Int × List Int) := Nat.rec (fun _ _ _ _ _ _ _ => none) (fun _ r => qeK k r) n
def qgg (k : Nat) (a : List Int) (b : List Int) : Option (List Int) :=
 if ((decide ((((List.length a) : Nat) : Int) < (((List.length b) : Nat) : Int))) = true) then
 if (((0 : Int) ≤ (IntKind.wrap .i64 ((((List.length b) : Nat) : Int) + (1 : Int)))) ∧ (((IntKind.wrap .i64 ((((List.length b) : Nat) : Int) + (1 : Int))) ≤ (IntKind.wrap .i64 ((((List.length b) : Nat) : Int) + (1 : Int)))) ∧ (((IntKind.wrap .i64 ((((List.length b) : Nat) : Int) + (1 : Int))) * (4 : Int)) ≤ (140737488355328 : Int)))) then
 Option.bind (qcd k k b a (Int.toNat (IntKind.wrap .i64 ((((List.length b) : Nat) : Int) + (1 : Int)))) (0 : Int) (((List.length b) : Nat) : Int) (0 : Int) (List.replicate (Int.toNat (IntKind.wrap .i64 ((((List.length b) : Nat) : Int) + (1 : Int)))) (0 : Int))) fun r10 =>
 if (((0 : Int) ≤ (((List.length r10.1) : Nat) : Int)) ∧ ((((List.length r10.1) : Nat) : Int) < ((r10.2.1 : Nat) : Int))) then
 Option.bind (r10.2.2.2)[(0 + (Int.toNat (((List.length r10.1) : Nat) : Int)))]? fun x2 =>
 if ((0 + r10.2.1) ≤ (List.length (List.set r10.2.2.2 (0 + (Int.toNat (((List.length r10.1) : Nat) : Int))) (IntKind.wrap .u32 r10.2.2.1)))) then
 (some (List.take r10.2.1 (List.set r10.2.2.2 (0 + (Int.toNat (((List.length r10.1) : Nat) : Int))) (IntKind.wrap .u32 r10.2.2.1))))
 else
 none
 else
 none
 else
 none
 else
 if (((0 : Int) ≤ (IntKind.wrap .i64 ((((List.length a) : Nat) : Int) + (1 : Int)))) ∧ (((IntKind.wrap .i64 ((((List.length a) : Nat) : Int) + (1 : Int))) ≤ (IntKind.wrap .i64 ((((List.length a) : Nat) : Int) + (1 : Int)))) ∧ (((IntKind.wrap .i64 ((((List.length a) : Nat) : Int) + (1 : Int))) * (4 : Int)) ≤ (140737488355328 : Int)))) then
 Option.bind (qcd k k a b (Int.toNat (IntKind.wrap .i64 ((((List.length a) : Nat) : Int) + (1 : Int)))) (0 : Int) (((List.length a) : Nat) : Int) (0 : Int) (List.replicate (Int.toNat (IntKind.wrap .i64 ((((List.length a) : Nat) : Int) + (1 : Int)))) (0 : Int))) fun r10 =>
 if (((0 : Int) ≤ (((List.length r10.1) : Nat) : Int)) ∧ ((((List.length r10.1) : Nat) : Int) < ((r10.2.1 : Nat) : Int))) then
 Option.bind (r10.2.2.2)[(0 + (Int.toNat (((List.length r10.1) : Nat) : Int)))]? fun x2 =>
 if ((0 + r10.2.1) ≤ (List.length (List.set r10.2.2.2 (0 + (Int.toNat (((List.length r10.1) : Nat) : Int))) (IntKind.wrap .u32 r10.2.2.1)))) then
 (some (List.take r10.2.1 (List.set r10.2.2.2 (0 + (Int.toNat (((List.length r10.1) : Nat) : Int))) (IntKind.wrap .u32 r10.2.2.1))))
 else
 none
 else
 none
 else
 none
def qfz : Nat → List Int → List Int → Option (List Int)
 | 0, _, _ => none
 | k + 1, a, b => qgg k a b
def qjw : FS := { vs := [.a (.lf (.sl (.int .u32))), .a (.lf (.sl (.int .u32)))], bs := [] }
def qps : List FS := [{ vs := [.a (.lf (.sl (.int .u32)))], bs := [] }]
def qvI (k : Nat) : Inst := ⟨131, qjw, qps, fun x => qfz k x.1 x.2⟩
theorem qw3 (k : Nat) : qp (call cf k) [] := True.intro
def qia : List SS := [{ fr := [(0, .a (.lf (.sl (.int .u32)))), (1, .a (.lf (.sl (.int .u32)))), (5, .a (.smz 0)), (6, .a (.lf (.int .u64))), (21, .a (.lf (.int .i64))), (22, .a (.lf (.int .i64)))], mem := [(0, some (.arr (.int .u32) 1 68 false))], nx := 1 }]
def qmA : List OS := [⟨some 0, { fr := [(0, .a (.lf (.sl (.int .u32)))), (5, .a (.smz 0)), (6, .a (.lf (.int .u64)))], mem := [(0, some (.arr (.int .u32) 1 68 false))], nx := 1 }⟩]
def qmB (k : Nat) : LInst := ⟨0, qia, qmA, fun x => qcd k k x.1 x.2.1 x.2.2.1 x.2.2.2.1 x.2.2.2.2.1 x.2.2.2.2.2.1 x.2.2.2.2.2.2⟩
theorem qAe (k : Nat) : qg (LOk (R := DS OS.D qmA) (fun b _ σ K => LOt Ty (kps 131) 0 b σ K []) cf (call cf k) (kps 131) Tryz.f131.ntmps k 0) 0 (lb Tryz.f131 0) :=
 qA qT (qA (qA qT qT) (qA (qA qT (qA qT (qA (qA qT (qA qT qT)) (qA qT qT)))) qT))
theorem qAf (k n : Nat) (x : DS SS.D qia) : qcd k (n + 1) x.1 x.2.1 x.2.2.1 x.2.2.2.1 x.2.2.2.2.1 x.2.2.2.2.2.1 x.2.2.2.2.2.2 = qI SS.enc (fun σ => qJ cf (fun f a b K => COt f a b K []) (fun b _ σ K => LOt Ty (kps 131) 0 b σ K []) Tryz.f131.ntmps 0 (lb Tryz.f131 0) σ (qQ Ty (kps 131 0) 0 qia qmA fun x => qcd k n x.1 x.2.1 x.2.2.1 x.2.2.2.1 x.2.2.2.2.1 x.2.2.2.2.2.1 x.2.2.2.2.2.2)) qia x := by kernel_rfl
theorem qAg (k : Nat) : qae cf (call cf k) (kps 131) Tryz.f131.ntmps k 0 0 (lb Tryz.f131 0) (qmB k) :=
 qu (c := cf) (callF := call cf k) (kp := kps 131) (nt := Tryz.f131.ntmps) (k := k) (p := 0) (b := 0) (x0 := lb Tryz.f131 0) (hs := qia) (os := qmA) (qd (qw3 k)) (qAe k) (fun n x => qcd k n x.1 x.2.1 x.2.2.1 x.2.2.2.1 x.2.2.2.2.1 x.2.2.2.2.2.1 x.2.2.2.2.2.2) (fun _ => rfl) (qAf k)
theorem qDO (k : Nat) : qg (LOk (R := DS FS.D qps) (fun b _ σ K => LOt Ty (kps 131) 0 b σ K [qmB k]) cf (call cf k) (cf.keep 131) Tryz.f131.ntmps k qjw.bs.length) 0 (bd Tryz.f131) :=
 qA qT (qA (qA qT (qA qT qT)) (qA qT (qA qT (qA (qA qT (qD (c := cf) (callF := call cf k) (kp := kps 131) (nt := Tryz.f131.ntmps) (k := k) (p := 0) (b := 0) (x0 := lb Tryz.f131 0) (l := [qmB k]) (qA (fun _ => qAg k) qT))) (qA qT (qA qT qT))))))
theorem qDP (k : Nat) (x : qjw.D) : qfz (k + 1) x.1 x.2 = qk cf (fun f a b K => COt f a b K []) (fun b _ σ K => LOt Ty (kps 131) 0 b σ K [qmB k]) 131 Tryz.f131.ntmps Tryz.f131.results.toList (bd Tryz.f131) (qjw.enc x).1 (qjw.enc x).2 (qo FS.dec qps) := by kernel_rfl
theorem qDQ : ∀ k, qh (call cf k) (qvI k)
 | 0 => fun x y e => absurd (show (none : Option _) = some y from e) (by simp)
 | k + 1 => qe (c := cf) (k := k) (f := 131) (fn := Tryz.f131) (body := bd Tryz.f131) (sh := qjw) (os := qps) rfl Tryz.func131 rfl ⟨rfl, Nat.le_of_ble_eq_true rfl⟩ (qd (qw3 k)) (qDO k) (fun x => qfz (k + 1) x.1 x.2) (qDP k)

def qeL (k : Nat) (rec : List Int → List Int → Nat → Int → Int → Int → List Int → Option (Nat × List Int)) (a : List Int) (b : List Int) (out1 : Nat) (borrow : Int) (x : Int) (x1 : Int) (outs : List Int) : Option (Nat × List Int) :=
 if ((decide (x1 < x)) = true) then
 if ((decide (x1 < (((List.length b) : Nat) : Int))) = true) then
 if ((0 : Int) ≤ x1) then
 Option.bind (b)[(Int.toNat x1)]? fun x2 =>
 if ((0 : Int) ≤ x1) then
 Option.bind (a)[(Int.toNat x1)]? fun x3 =>
 if (((0 : Int) ≤ x1) ∧ (x1 < ((out1 : Nat) : Int))) then
 Option.bind (outs)[(0 + (Int.toNat x1))]? fun x4 =>
 if ((0 : Int) ≤ x1) then
 Option.bind (a)[(Int.toNat x1)]? fun x5 =>
 if ((decide ((IntKind.wrap .u64 x5) < (IntKind.wrap .u64 (borrow + (IntKind.wrap .u64 x2))))) = true) then
 rec a b out1 (1 : Int) x (IntKind.wrap .i64 (x1 + (1 : Int))) (List.set outs (0 + (Int.toNat x1)) (IntKind.wrap .u32 (IntKind.wrap .u64 ((IntKind.wrap .u64 x3) - (IntKind.wrap .u64 (borrow + (IntKind.wrap .u64 x2)))))))
 else
 rec a b out1 (0 : Int) x (IntKind.wrap .i64 (x1 + (1 : Int))) (List.set outs (0 + (Int.toNat x1)) (IntKind.wrap .u32 (IntKind.wrap .u64 ((IntKind.wrap .u64 x3) - (IntKind.wrap .u64 (borrow + (IntKind.wrap .u64 x2)))))))
 else
 none
 else
 none
 else
 none
 else
 none
 else
 if ((0 : Int) ≤ x1) then
 Option.bind (a)[(Int.toNat x1)]? fun x2 =>
 if (((0 : Int) ≤ x1) ∧ (x1 < ((out1 : Nat) : Int))) then
 Option.bind (outs)[(0 + (Int.toNat x1))]? fun x3 =>
 if ((0 : Int) ≤ x1) then
 Option.bind (a)[(Int.toNat x1)]? fun x4 =>
 if ((decide ((IntKind.wrap .u64 x4) < borrow)) = true) then
 rec a b out1 (1 : Int) x (IntKind.wrap .i64 (x1 + (1 : Int))) (List.set outs (0 + (Int.toNat x1)) (IntKind.wrap .u32 (IntKind.wrap .u64 ((IntKind.wrap .u64 x2) - borrow))))
 else
 rec a b out1 (0 : Int) x (IntKind.wrap .i64 (x1 + (1 : Int))) (List.set outs (0 + (Int.toNat x1)) (IntKind.wrap .u32 (IntKind.wrap .u64 ((IntKind.wrap .u64 x2) - borrow))))
 else
 none
 else
 none
 else
 none
 else
 (some (out1, outs))
def qbQ (k n : Nat) : List Int → List Int → Nat → Int → Int → Int → List Int → Option (Nat × List Int) := Nat.rec (fun _ _ _ _ _ _ _ => none) (fun _ r => qeL k r) n
def qk4 (k : Nat) (a : List Int) (b : List Int) : Option (List Int) :=
 if (((0 : Int) ≤ (((List.length a) : Nat) : Int)) ∧ (((((List.length a) : Nat) : Int) ≤ (((List.length a) : Nat) : Int)) ∧ (((((List.length a) : Nat) : Int) * (4 : Int)) ≤ (140737488355328 : Int)))) then
 Option.bind (qbQ k k a b (Int.toNat (((List.length a) : Nat) : Int)) (0 : Int) (((List.length a) : Nat) : Int) (0 : Int) (List.replicate (Int.toNat (((List.length a) : Nat) : Int)) (0 : Int))) fun r11 =>
 if ((0 + r11.1) ≤ (List.length r11.2)) then
 (some (List.take r11.1 r11.2))
 else
 none
 else
 none
def qej : Nat → List Int → List Int → Option (List Int)
 | 0, _, _ => none
 | k + 1, a, b => qk4 k a b
def qjx : FS := { vs := [.a (.lf (.sl (.int .u32))), .a (.lf (.sl (.int .u32)))], bs := [] }
def qpt : List FS := [{ vs := [.a (.lf (.sl (.int .u32)))], bs := [] }]
def qvJ (k : Nat) : Inst := ⟨132, qjx, qpt, fun x => qej k x.1 x.2⟩
theorem qw4 (k : Nat) : qp (call cf k) [] := True.intro
def qib : List SS := [{ fr := [(0, .a (.lf (.sl (.int .u32)))), (1, .a (.lf (.sl (.int .u32)))), (5, .a (.smz 0)), (6, .a (.lf (.int .u64))), (13, .a (.lf (.int .i64))), (14, .a (.lf (.int .i64)))], mem := [(0, some (.arr (.int .u32) 1 68 false))], nx := 1 }]
def qmC : List OS := [⟨some 0, { fr := [(5, .a (.smz 0))], mem := [(0, some (.arr (.int .u32) 1 68 false))], nx := 1 }⟩]
def qmD (k : Nat) : LInst := ⟨0, qib, qmC, fun x => qbQ k k x.1 x.2.1 x.2.2.1 x.2.2.2.1 x.2.2.2.2.1 x.2.2.2.2.2.1 x.2.2.2.2.2.2⟩
theorem qAh (k : Nat) : qg (LOk (R := DS OS.D qmC) (fun b _ σ K => LOt Ty (kps 132) 0 b σ K []) cf (call cf k) (kps 132) Tryz.f132.ntmps k 0) 0 (lb Tryz.f132 0) :=
 qA qT (qA (qA qT qT) (qA (qA qT (qA qT (qA (qA qT (qA qT qT)) (qA qT (qA qT (qA qT (qA qT qT))))))) qT))
theorem qAi (k n : Nat) (x : DS SS.D qib) : qbQ k (n + 1) x.1 x.2.1 x.2.2.1 x.2.2.2.1 x.2.2.2.2.1 x.2.2.2.2.2.1 x.2.2.2.2.2.2 = qI SS.enc (fun σ => qJ cf (fun f a b K => COt f a b K []) (fun b _ σ K => LOt Ty (kps 132) 0 b σ K []) Tryz.f132.ntmps 0 (lb Tryz.f132 0) σ (qQ Ty (kps 132 0) 0 qib qmC fun x => qbQ k n x.1 x.2.1 x.2.2.1 x.2.2.2.1 x.2.2.2.2.1 x.2.2.2.2.2.1 x.2.2.2.2.2.2)) qib x := by kernel_rfl
theorem qAj (k : Nat) : qae cf (call cf k) (kps 132) Tryz.f132.ntmps k 0 0 (lb Tryz.f132 0) (qmD k) :=
 qu (c := cf) (callF := call cf k) (kp := kps 132) (nt := Tryz.f132.ntmps) (k := k) (p := 0) (b := 0) (x0 := lb Tryz.f132 0) (hs := qib) (os := qmC) (qd (qw4 k)) (qAh k) (fun n x => qbQ k n x.1 x.2.1 x.2.2.1 x.2.2.2.1 x.2.2.2.2.1 x.2.2.2.2.2.1 x.2.2.2.2.2.2) (fun _ => rfl) (qAi k)
theorem qDR (k : Nat) : qg (LOk (R := DS FS.D qpt) (fun b _ σ K => LOt Ty (kps 132) 0 b σ K [qmD k]) cf (call cf k) (cf.keep 132) Tryz.f132.ntmps k qjx.bs.length) 0 (bd Tryz.f132) :=
 qA qT (qA qT (qA qT (qA (qA qT (qD (c := cf) (callF := call cf k) (kp := kps 132) (nt := Tryz.f132.ntmps) (k := k) (p := 0) (b := 0) (x0 := lb Tryz.f132 0) (l := [qmD k]) (qA (fun _ => qAj k) qT))) (qA qT qT))))
theorem qDS (k : Nat) (x : qjx.D) : qej (k + 1) x.1 x.2 = qk cf (fun f a b K => COt f a b K []) (fun b _ σ K => LOt Ty (kps 132) 0 b σ K [qmD k]) 132 Tryz.f132.ntmps Tryz.f132.results.toList (bd Tryz.f132) (qjx.enc x).1 (qjx.enc x).2 (qo FS.dec qpt) := by kernel_rfl
theorem qDT : ∀ k, qh (call cf k) (qvJ k)
 | 0 => fun x y e => absurd (show (none : Option _) = some y from e) (by simp)
 | k + 1 => qe (c := cf) (k := k) (f := 132) (fn := Tryz.f132) (body := bd Tryz.f132) (sh := qjx) (os := qpt) rfl Tryz.func132 rfl ⟨rfl, Nat.le_of_ble_eq_true rfl⟩ (qd (qw4 k)) (qDR k) (fun x => qej (k + 1) x.1 x.2) (qDS k)

def qk5 (k : Nat) (yneg : Bool) (y : List Int) (x0 : Bool) (x1 : List Int) : Option (Bool × List Int) :=
 if ((x0 == yneg) = true) then
 Option.bind (qfz k x1 y) fun r10 =>
 Option.bind (qaz k x0 r10 x0 x1) fun r11 =>
 (some (r11.1, r11.2))
 else
 Option.bind (qeb k x1 y) fun r10 =>
 if ((decide (r10 ≥ (0 : Int))) = true) then
 Option.bind (qej k x1 y) fun r11 =>
 Option.bind (qaz k x0 r11 x0 x1) fun r12 =>
 (some (r12.1, r12.2))
 else
 Option.bind (qej k y x1) fun r11 =>
 Option.bind (qaz k yneg r11 x0 x1) fun r12 =>
 (some (r12.1, r12.2))
def qbW : Nat → Bool → List Int → Bool → List Int → Option (Bool × List Int)
 | 0, _, _, _, _ => none
 | k + 1, yneg, y, x0, x1 => qk5 k yneg y x0 x1
def qjy : FS := { vs := [.a (.ptr 0 0 0), .a (.ptr 0 0 0), .a (.lf .bool), .a (.lf (.sl (.int .u32)))], bs := [.raw [[.lf .bool, .lf (.sl (.int .u32))]] 2 72 true false] }
def qpu : List FS := [{ vs := [.a (.ptr 0 0 0)], bs := [.raw [[.lf .bool, .lf (.sl (.int .u32))]] 2 72 true false] }]
def qrc (k : Nat) : Inst := ⟨113, qjy, qpu, fun x => qbW k x.1 x.2.1 x.2.2.1 x.2.2.2⟩
theorem qDU (k : Nat) : qp (call cf k) [qvI k, qhi k, qkW k, qvJ k] := qA (qDQ k) (qA (qs1 k) (qA (qs3 k) (qA (qDT k) qT)))
theorem qDV (k : Nat) : qg (LOk (R := DS FS.D qpu) (fun b _ σ K => LOt Ty (kps 113) 1 b σ K []) cf (call cf k) (cf.keep 113) Tryz.f113.ntmps k qjy.bs.length) 0 (bd Tryz.f113) :=
 qA qT (qA (qA qT (qA (qA qT qT) qT)) (qA (qA qT (qA (qA qT qT) qT)) (qA qT qT)))
theorem qDW (k : Nat) (x : qjy.D) : qbW (k + 1) x.1 x.2.1 x.2.2.1 x.2.2.2 = qk cf (fun f a b K => COt f a b K [qvI k, qhi k, qkW k, qvJ k]) (fun b _ σ K => LOt Ty (kps 113) 1 b σ K []) 113 Tryz.f113.ntmps Tryz.f113.results.toList (bd Tryz.f113) (qjy.enc x).1 (qjy.enc x).2 (qo FS.dec qpu) := by kernel_rfl
theorem qw5 : ∀ k, qh (call cf k) (qrc k)
 | 0 => fun x y e => absurd (show (none : Option _) = some y from e) (by simp)
 | k + 1 => qe (c := cf) (k := k) (f := 113) (fn := Tryz.f113) (body := bd Tryz.f113) (sh := qjy) (os := qpu) rfl Tryz.func113 rfl ⟨rfl, Nat.le_of_ble_eq_true rfl⟩ (qd (qDU k)) (qDV k) (fun x => qbW (k + 1) x.1 x.2.1 x.2.2.1 x.2.2.2) (qDW k)

def qk6 (k : Nat) (y0 : Bool) (y1 : List Int) : Option (Bool × List Int) :=
 Option.bind (qbW k y0 y1 y0 y1) fun r10 =>
 (some (r10.1, r10.2))
def qcC : Nat → Bool → List Int → Option (Bool × List Int)
 | 0, _, _ => none
 | k + 1, y0, y1 => qk6 k y0 y1
def qnZ : FS := { vs := [.a (.ptr 0 0 0), .a (.ptr 0 0 0), .a (.ptr 0 0 0)], bs := [.raw [[.lf .bool, .lf (.sl (.int .u32))]] 2 72 true false] }
def qtd : List FS := [{ vs := [.a (.ptr 0 0 0)], bs := [.raw [[.lf .bool, .lf (.sl (.int .u32))]] 2 72 true false] }]
def Iq3 (k : Nat) : Inst := ⟨78, qnZ, qtd, fun x => qcC k x.1 x.2⟩
theorem qHk (k : Nat) : qp (call cf k) [qrc k] := qA (qw5 k) qT
theorem qHl (k : Nat) : qg (LOk (R := DS FS.D qtd) (fun b _ σ K => LOt Ty (kps 78) 1 b σ K []) cf (call cf k) (cf.keep 78) Tryz.f78.ntmps k qnZ.bs.length) 0 (bd Tryz.f78) :=
 qA qT (qA qT qT)
theorem qHm (k : Nat) (x : qnZ.D) : qcC (k + 1) x.1 x.2 = qk cf (fun f a b K => COt f a b K [qrc k]) (fun b _ σ K => LOt Ty (kps 78) 1 b σ K []) 78 Tryz.f78.ntmps Tryz.f78.results.toList (bd Tryz.f78) (qnZ.enc x).1 (qnZ.enc x).2 (qo FS.dec qtd) := by kernel_rfl
theorem qHn : ∀ k, qh (call cf k) (Iq3 k)
 | 0 => fun x y e => absurd (show (none : Option _) = some y from e) (by simp)
 | k + 1 => qe (c := cf) (k := k) (f := 78) (fn := Tryz.f78) (body := bd Tryz.f78) (sh := qnZ) (os := qtd) rfl Tryz.func78 rfl ⟨rfl, Nat.le_of_ble_eq_true rfl⟩ (qd (qHk k)) (qHl k) (fun x => qcC (k + 1) x.1 x.2) (qHm k)

def qeX (k : Nat) (z0 : Bool) (z1 : List Int) (y0 : Bool) (y1 : List Int) : Option (Int × Bool × List Int × Bool × List Int) :=
 if ((!(z0 == y0)) = true) then
 if (z0 = true) then
 (some ((-(1 : Int)), z0, z1, y0, y1))
 else
 (some ((1 : Int), z0, z1, y0, y1))
 else
 Option.bind (qeb k z1 y1) fun r11 =>
 if (z0 = true) then
 (some ((IntKind.wrap .i64 ((0 : Int) - r11)), z0, z1, y0, y1))
 else
 (some (r11, z0, z1, y0, y1))
def qcD : Nat → Bool → List Int → Bool → List Int → Option (Int × Bool × List Int × Bool × List Int)
 | 0, _, _, _, _ => none
 | k + 1, z0, z1, y0, y1 => qeX k z0 z1 y0 y1
def qn0 : FS := { vs := [.a (.ptr 0 0 0), .a (.ptr 1 0 0)], bs := [.raw [[.lf .bool, .lf (.sl (.int .u32))]] 2 72 true false, .raw [[.lf .bool, .lf (.sl (.int .u32))]] 2 72 true false] }
def qte : List FS := [{ vs := [.a (.lf (.int .i64))], bs := [.raw [[.lf .bool, .lf (.sl (.int .u32))]] 2 72 true false, .raw [[.lf .bool, .lf (.sl (.int .u32))]] 2 72 true false] }]
def Iq5 (k : Nat) : Inst := ⟨87, qn0, qte, fun x => qcD k x.1 x.2.1 x.2.2.1 x.2.2.2⟩
theorem qHo (k : Nat) : qp (call cf k) [qkW k] := qA (qs3 k) qT
theorem qHp (k : Nat) : qg (LOk (R := DS FS.D qte) (fun b _ σ K => LOt Ty (kps 87) 2 b σ K []) cf (call cf k) (cf.keep 87) Tryz.f87.ntmps k qn0.bs.length) 0 (bd Tryz.f87) :=
 qA qT (qA (qA qT (qA (qA (qA qT (qA (qA qT qT) qT)) (qA qT qT)) qT)) (qA qT (qA (qA qT (qA (qA qT qT) qT)) (qA qT qT))))
theorem qHq (k : Nat) (x : qn0.D) : qcD (k + 1) x.1 x.2.1 x.2.2.1 x.2.2.2 = qk cf (fun f a b K => COt f a b K [qkW k]) (fun b _ σ K => LOt Ty (kps 87) 2 b σ K []) 87 Tryz.f87.ntmps Tryz.f87.results.toList (bd Tryz.f87) (qn0.enc x).1 (qn0.enc x).2 (qo FS.dec qte) := by kernel_rfl
theorem qHr : ∀ k, qh (call cf k) (Iq5 k)
 | 0 => fun x y e => absurd (show (none : Option _) = some y from e) (by simp)
 | k + 1 => qe (c := cf) (k := k) (f := 87) (fn := Tryz.f87) (body := bd Tryz.f87) (sh := qn0) (os := qte) rfl Tryz.func87 rfl ⟨rfl, Nat.le_of_ble_eq_true rfl⟩ (qd (qHo k)) (qHp k) (fun x => qcD (k + 1) x.1 x.2.1 x.2.2.1 x.2.2.2) (qHq k)

def qeY (k : Nat) (z0 : Bool) (z1 : List Int) : Option (Bool × Bool × List Int) :=
 if ((decide ((((List.length z1) : Nat) : Int) > (0 : Int))) = true) then
 Option.bind (z1)[0]? fun x1 =>
 (some (((IntKind.wrap .u32 (((BitVec.toNat ((BitVec.ofInt 32 x1) &&& (BitVec.ofInt 32 (1 : Int)))) : Nat) : Int)) == (1 : Int)), z0, z1))
 else
 (some (false, z0, z1))
def qcE : Nat → Bool → List Int → Option (Bool × Bool × List Int)
 | 0, _, _ => none
 | k + 1, z0, z1 => qeY k z0 z1
def qjz : FS := { vs := [.a (.ptr 0 0 0)], bs := [.raw [[.lf .bool, .lf (.sl (.int .u32))]] 2 72 true false] }
def qpv : List FS := [{ vs := [.a (.lf .bool)], bs := [.raw [[.lf .bool, .lf (.sl (.int .u32))]] 2 72 true false] }]
def qvK (k : Nat) : Inst := ⟨128, qjz, qpv, fun x => qcE k x.1 x.2⟩
theorem qDX (k : Nat) : qp (call cf k) [] := True.intro
theorem qDY (k : Nat) : qg (LOk (R := DS FS.D qpv) (fun b _ σ K => LOt Ty (kps 128) 1 b σ K []) cf (call cf k) (cf.keep 128) Tryz.f128.ntmps k qjz.bs.length) 0 (bd Tryz.f128) :=
 qA qT (qA qT qT)
theorem qDZ (k : Nat) (x : qjz.D) : qcE (k + 1) x.1 x.2 = qk cf (fun f a b K => COt f a b K []) (fun b _ σ K => LOt Ty (kps 128) 1 b σ K []) 128 Tryz.f128.ntmps Tryz.f128.results.toList (bd Tryz.f128) (qjz.enc x).1 (qjz.enc x).2 (qo FS.dec qpv) := by kernel_rfl
theorem qD0 : ∀ k, qh (call cf k) (qvK k)
 | 0 => fun x y e => absurd (show (none : Option _) = some y from e) (by simp)
 | k + 1 => qe (c := cf) (k := k) (f := 128) (fn := Tryz.f128) (body := bd Tryz.f128) (sh := qjz) (os := qpv) rfl Tryz.func128 rfl ⟨rfl, Nat.le_of_ble_eq_true rfl⟩ (qd (qDX k)) (qDY k) (fun x => qcE (k + 1) x.1 x.2) (qDZ k)


end
end Go.Proofs.YtbhnafdmilfobaaGreat.Am
