/- Printed functions: each says what the typed machine says of the program -/
import Derived.Test.YtlnailgfialgnaaGreatDoorMP2
import Derived.KernelRfl

set_option linter.unusedVariables false
set_option maxRecDepth 100000
namespace Go.Proofs.YtlnailgfialgnaaGreatDoor.Am
open Go
noncomputable section

def qeZ (k : Nat) (rec : List Int → List Int → Nat → Int → Int → Int → List Int → Option (Nat × List Int)) (a : List Int) (b : List Int) (out1 : Nat) (borrow : Int) (x : Int) (x1 : Int) (outs : List Int) : Option (Nat × List Int) :=
 if ((decide (x1 < x)) = true) then
 if ((decide (x1 < (((List.length b) : Nat) : Int))) = true) then
 if ((0 : Int) ≤ x1) then
 Option.bind (b)[(Int.toNat x1)]? fun x5 =>
 if ((0 : Int) ≤ x1) then
 Option.bind (a)[(Int.toNat x1)]? fun x6 =>
 if (((0 : Int) ≤ x1) ∧ (x1 < ((out1 : Nat) : Int))) then
 Option.bind (outs)[(0 + (Int.toNat x1))]? fun x7 =>
 if ((0 : Int) ≤ x1) then
 Option.bind (a)[(Int.toNat x1)]? fun x8 =>
 if ((decide ((IntKind.wrap .u64 x8) < (IntKind.wrap .u64 (borrow + (IntKind.wrap .u64 x5))))) = true) then
 rec a b out1 (1 : Int) x (IntKind.wrap .i64 (x1 + (1 : Int))) (List.set outs (0 + (Int.toNat x1)) (IntKind.wrap .u32 (IntKind.wrap .u64 ((IntKind.wrap .u64 x6) - (IntKind.wrap .u64 (borrow + (IntKind.wrap .u64 x5)))))))
 else
 rec a b out1 (0 : Int) x (IntKind.wrap .i64 (x1 + (1 : Int))) (List.set outs (0 + (Int.toNat x1)) (IntKind.wrap .u32 (IntKind.wrap .u64 ((IntKind.wrap .u64 x6) - (IntKind.wrap .u64 (borrow + (IntKind.wrap .u64 x5)))))))
 else
 none
 else
 none
 else
 none
 else
 none
 else
 if ((0 : Int) ≤ x1) then
 Option.bind (a)[(Int.toNat x1)]? fun x5 =>
 if (((0 : Int) ≤ x1) ∧ (x1 < ((out1 : Nat) : Int))) then
 Option.bind (outs)[(0 + (Int.toNat x1))]? fun x6 =>
 if ((0 : Int) ≤ x1) then
 Option.bind (a)[(Int.toNat x1)]? fun x7 =>
 if ((decide ((IntKind.wrap .u64 x7) < borrow)) = true) then
 rec a b out1 (1 : Int) x (IntKind.wrap .i64 (x1 + (1 : Int))) (List.set outs (0 + (Int.toNat x1)) (IntKind.wrap .u32 (IntKind.wrap .u64 ((IntKind.wrap .u64 x5) - borrow))))
 else
 rec a b out1 (0 : Int) x (IntKind.wrap .i64 (x1 + (1 : Int))) (List.set outs (0 + (Int.toNat x1)) (IntKind.wrap .u32 (IntKind.wrap .u64 ((IntKind.wrap .u64 x5) - borrow))))
 else
 none
 else
 none
 else
 none
 else
 (some (out1, outs))
def qbI (k n : Nat) : List Int → List Int → Nat → Int → Int → Int → List Int → Option (Nat × List Int) := Nat.rec (fun _ _ _ _ _ _ _ => none) (fun _ r => qeZ k r) n
def qlS (k : Nat) (a : List Int) (b : List Int) : Option (List Int) :=
 if (((0 : Int) ≤ (((List.length a) : Nat) : Int)) ∧ (((((List.length a) : Nat) : Int) ≤ (((List.length a) : Nat) : Int)) ∧ (((((List.length a) : Nat) : Int) * (4 : Int)) ≤ (140737488355328 : Int)))) then
 Option.bind (qbI k k a b (Int.toNat (((List.length a) : Nat) : Int)) (0 : Int) (((List.length a) : Nat) : Int) (0 : Int) (List.replicate (Int.toNat (((List.length a) : Nat) : Int)) (0 : Int))) fun r6 =>
 if ((0 + r6.1) ≤ (List.length r6.2)) then
 (some (List.take r6.1 r6.2))
 else
 none
 else
 none
def qdo : Nat → List Int → List Int → Option (List Int)
 | 0, _, _ => none
 | k + 1, a, b => qlS k a b
def qkP : FS := { vs := [.a (.lf (.sl (.int .u32))), .a (.lf (.sl (.int .u32)))], bs := [] }
def qrm : List FS := [{ vs := [.a (.lf (.sl (.int .u32)))], bs := [] }]
def qs5 (k : Nat) : Inst := ⟨201, qkP, qrm, fun x => qdo k x.1 x.2⟩
theorem qzD (k : Nat) : qp (call cf k) [] := True.intro
def qjd : List SS := [{ fr := [(0, .a (.lf (.sl (.int .u32)))), (1, .a (.lf (.sl (.int .u32)))), (5, .a (.smz 0)), (6, .a (.lf (.int .u64))), (13, .a (.lf (.int .i64))), (14, .a (.lf (.int .i64)))], mem := [(0, some (.arr (.int .u32) 1 106 false))], nx := 1 }]
def qn1 : List OS := [⟨some 0, { fr := [(5, .a (.smz 0))], mem := [(0, some (.arr (.int .u32) 1 106 false))], nx := 1 }⟩]
def qn2 (k : Nat) : LInst := ⟨0, qjd, qn1, fun x => qbI k k x.1 x.2.1 x.2.2.1 x.2.2.2.1 x.2.2.2.2.1 x.2.2.2.2.2.1 x.2.2.2.2.2.2⟩
theorem qEm (k : Nat) : qg (LOk (R := DS OS.D qn1) (fun b _ σ K => LOt Ty (kps 201) 0 b σ K []) cf (call cf k) (kps 201) Tryz.f201.ntmps k 0) 0 (lb Tryz.f201 0) :=
 qA qT (qA (qA qT qT) (qA (qA qT (qA qT (qA (qA qT (qA qT qT)) (qA qT (qA qT (qA qT (qA qT qT))))))) qT))
theorem qEn (k n : Nat) (x : DS SS.D qjd) : qbI k (n + 1) x.1 x.2.1 x.2.2.1 x.2.2.2.1 x.2.2.2.2.1 x.2.2.2.2.2.1 x.2.2.2.2.2.2 = qu SS.enc (fun σ => qx cf (fun f a b K => COt f a b K []) (fun b _ σ K => LOt Ty (kps 201) 0 b σ K []) Tryz.f201.ntmps 0 (lb Tryz.f201 0) σ (qw Ty (kps 201 0) 0 qjd qn1 fun x => qbI k n x.1 x.2.1 x.2.2.1 x.2.2.2.1 x.2.2.2.2.1 x.2.2.2.2.2.1 x.2.2.2.2.2.2)) qjd x := by kernel_rfl
theorem qEo (k : Nat) : qL cf (call cf k) (kps 201) Tryz.f201.ntmps k 0 0 (lb Tryz.f201 0) (qn2 k) :=
 qq (c := cf) (callF := call cf k) (kp := kps 201) (nt := Tryz.f201.ntmps) (k := k) (p := 0) (b := 0) (x0 := lb Tryz.f201 0) (hs := qjd) (os := qn1) (qd (qzD k)) (qEm k) (fun n x => qbI k n x.1 x.2.1 x.2.2.1 x.2.2.2.1 x.2.2.2.2.1 x.2.2.2.2.2.1 x.2.2.2.2.2.2) (fun _ => rfl) (qEn k)
theorem qIO (k : Nat) : qg (LOk (R := DS FS.D qrm) (fun b _ σ K => LOt Ty (kps 201) 0 b σ K [qn2 k]) cf (call cf k) (cf.keep 201) Tryz.f201.ntmps k qkP.bs.length) 0 (bd Tryz.f201) :=
 qA qT (qA qT (qA qT (qA (qA qT (qt (c := cf) (callF := call cf k) (kp := kps 201) (nt := Tryz.f201.ntmps) (k := k) (p := 0) (b := 0) (x0 := lb Tryz.f201 0) (l := [qn2 k]) (qA (fun _ => qEo k) qT))) (qA qT qT))))
theorem qIP (k : Nat) (x : qkP.D) : qdo (k + 1) x.1 x.2 = qi cf (fun f a b K => COt f a b K []) (fun b _ σ K => LOt Ty (kps 201) 0 b σ K [qn2 k]) 201 Tryz.f201.ntmps Tryz.f201.results.toList (bd Tryz.f201) (qkP.enc x).1 (qkP.enc x).2 (qk FS.dec qrm) := by kernel_rfl
theorem qzE : ∀ k, qh (call cf k) (qs5 k)
 | 0 => fun x y e => absurd (show (none : Option _) = some y from e) (by simp)
 | k + 1 => qe (c := cf) (k := k) (f := 201) (fn := Tryz.f201) (body := bd Tryz.f201) (sh := qkP) (os := qrm) rfl Tryz.func201 rfl ⟨rfl, Nat.le_of_ble_eq_true rfl⟩ (qd (qzD k)) (qIO k) (fun x => qdo (k + 1) x.1 x.2) (qIP k)

def qlT (k : Nat) (yneg : Bool) (y : List Int) (x : Bool) : Option (Bool × List Int) :=
 if ((x == yneg) = true) then
 Option.bind (qfc k [] y) fun r5 =>
 Option.bind (qG k x r5 x) fun r6 =>
 (some (r6.1, r6.2))
 else
 Option.bind (qdF k [] y) fun r5 =>
 if ((decide (r5 ≥ (0 : Int))) = true) then
 Option.bind (qdo k [] y) fun r6 =>
 Option.bind (qG k x r6 x) fun r7 =>
 (some (r7.1, r7.2))
 else
 Option.bind (qdo k y []) fun r6 =>
 Option.bind (qG k yneg r6 x) fun r7 =>
 (some (r7.1, r7.2))
def qcm : Nat → Bool → List Int → Bool → Option (Bool × List Int)
 | 0, _, _, _ => none
 | k + 1, yneg, y, x => qlT k yneg y x
def qkQ : FS := { vs := [.a (.ptr 0 0 0), .a (.ptr 0 0 0), .a (.lf .bool), .a (.lf (.sl (.int .u32)))], bs := [.raw [[.lf .bool, .snil 1 106]] 2 147 true false false] }
def qrn : List FS := [{ vs := [.a (.ptr 0 0 0)], bs := [.raw [[.lf .bool, .lf (.sl (.int .u32))]] 2 147 true false false] }]
def qyg (k : Nat) : Inst := ⟨140, qkQ, qrn, fun x => qcm k x.1 x.2.1 x.2.2⟩
theorem qIQ (k : Nat) : qp (call cf k) [qs4 k, qeh k, qhW k, qs5 k] := qA (qzC k) (qA (qjX k) (qA (qqz k) (qA (qzE k) qT)))
theorem qIR (k : Nat) : qg (LOk (R := DS FS.D qrn) (fun b _ σ K => LOt Ty (kps 140) 1 b σ K []) cf (call cf k) (cf.keep 140) Tryz.f140.ntmps k qkQ.bs.length) 0 (bd Tryz.f140) :=
 qA qT (qA (qA qT (qA (qA qT qT) qT)) (qA (qA qT (qA (qA qT qT) qT)) (qA qT qT)))
theorem qIS (k : Nat) (x : qkQ.D) : qcm (k + 1) x.1 x.2.1 x.2.2 = qi cf (fun f a b K => COt f a b K [qs4 k, qeh k, qhW k, qs5 k]) (fun b _ σ K => LOt Ty (kps 140) 1 b σ K []) 140 Tryz.f140.ntmps Tryz.f140.results.toList (bd Tryz.f140) (qkQ.enc x).1 (qkQ.enc x).2 (qk FS.dec qrn) := by kernel_rfl
theorem qIT : ∀ k, qh (call cf k) (qyg k)
 | 0 => fun x y e => absurd (show (none : Option _) = some y from e) (by simp)
 | k + 1 => qe (c := cf) (k := k) (f := 140) (fn := Tryz.f140) (body := bd Tryz.f140) (sh := qkQ) (os := qrn) rfl Tryz.func140 rfl ⟨rfl, Nat.le_of_ble_eq_true rfl⟩ (qd (qIQ k)) (qIR k) (fun x => qcm (k + 1) x.1 x.2.1 x.2.2) (qIS k)

def qlU (k : Nat) (x : Bool) (y0 : Bool) (y1 : List Int) : Option (Bool × List Int × Bool × List Int) :=
 Option.bind (qcm k y0 y1 x) fun r5 =>
 (some (r5.1, r5.2, y0, y1))
def qcn : Nat → Bool → Bool → List Int → Option (Bool × List Int × Bool × List Int)
 | 0, _, _, _ => none
 | k + 1, x, y0, y1 => qlU k x y0 y1
def qpu : FS := { vs := [.a (.ptr 0 0 0), .a (.ptr 0 0 0), .a (.ptr 1 0 0)], bs := [.raw [[.lf .bool, .snil 1 106]] 2 147 true false false, .raw [[.lf .bool, .lf (.sl (.int .u32))]] 2 147 true false false] }
def qvy : List FS := [{ vs := [.a (.ptr 0 0 0)], bs := [.raw [[.lf .bool, .lf (.sl (.int .u32))]] 2 147 true false false, .raw [[.lf .bool, .lf (.sl (.int .u32))]] 2 147 true false false] }]
def Iq5 (k : Nat) : Inst := ⟨86, qpu, qvy, fun x => qcn k x.1 x.2.1 x.2.2⟩
theorem qK0 (k : Nat) : qp (call cf k) [qyg k] := qA (qIT k) qT
theorem qK1 (k : Nat) : qg (LOk (R := DS FS.D qvy) (fun b _ σ K => LOt Ty (kps 86) 2 b σ K []) cf (call cf k) (cf.keep 86) Tryz.f86.ntmps k qpu.bs.length) 0 (bd Tryz.f86) :=
 qA qT (qA qT qT)
theorem qK2 (k : Nat) (x : qpu.D) : qcn (k + 1) x.1 x.2.1 x.2.2 = qi cf (fun f a b K => COt f a b K [qyg k]) (fun b _ σ K => LOt Ty (kps 86) 2 b σ K []) 86 Tryz.f86.ntmps Tryz.f86.results.toList (bd Tryz.f86) (qpu.enc x).1 (qpu.enc x).2 (qk FS.dec qvy) := by kernel_rfl
theorem qK3 : ∀ k, qh (call cf k) (Iq5 k)
 | 0 => fun x y e => absurd (show (none : Option _) = some y from e) (by simp)
 | k + 1 => qe (c := cf) (k := k) (f := 86) (fn := Tryz.f86) (body := bd Tryz.f86) (sh := qpu) (os := qvy) rfl Tryz.func86 rfl ⟨rfl, Nat.le_of_ble_eq_true rfl⟩ (qd (qK0 k)) (qK1 k) (fun x => qcn (k + 1) x.1 x.2.1 x.2.2) (qK2 k)

def qlV (k : Nat) (yneg : Bool) (y : List Int) (x0 : Bool) (x1 : List Int) : Option (Bool × List Int) :=
 if ((x0 == yneg) = true) then
 Option.bind (qfc k x1 y) fun r5 =>
 Option.bind (qaO k x0 r5 x0 x1) fun r6 =>
 (some (r6.1, r6.2))
 else
 Option.bind (qdF k x1 y) fun r5 =>
 if ((decide (r5 ≥ (0 : Int))) = true) then
 Option.bind (qdo k x1 y) fun r6 =>
 Option.bind (qaO k x0 r6 x0 x1) fun r7 =>
 (some (r7.1, r7.2))
 else
 Option.bind (qdo k y x1) fun r6 =>
 Option.bind (qaO k yneg r6 x0 x1) fun r7 =>
 (some (r7.1, r7.2))
def qco : Nat → Bool → List Int → Bool → List Int → Option (Bool × List Int)
 | 0, _, _, _, _ => none
 | k + 1, yneg, y, x0, x1 => qlV k yneg y x0 x1
def qkR : FS := { vs := [.a (.ptr 0 0 0), .a (.ptr 0 0 0), .a (.lf .bool), .a (.lf (.sl (.int .u32)))], bs := [.raw [[.lf .bool, .lf (.sl (.int .u32))]] 2 147 true false false] }
def qro : List FS := [{ vs := [.a (.ptr 0 0 0)], bs := [.raw [[.lf .bool, .lf (.sl (.int .u32))]] 2 147 true false false] }]
def qyh (k : Nat) : Inst := ⟨140, qkR, qro, fun x => qco k x.1 x.2.1 x.2.2.1 x.2.2.2⟩
theorem qIU (k : Nat) : qp (call cf k) [qs4 k, qlI k, qhW k, qs5 k] := qA (qzC k) (qA (qzf k) (qA (qqz k) (qA (qzE k) qT)))
theorem qIV (k : Nat) : qg (LOk (R := DS FS.D qro) (fun b _ σ K => LOt Ty (kps 140) 1 b σ K []) cf (call cf k) (cf.keep 140) Tryz.f140.ntmps k qkR.bs.length) 0 (bd Tryz.f140) :=
 qA qT (qA (qA qT (qA (qA qT qT) qT)) (qA (qA qT (qA (qA qT qT) qT)) (qA qT qT)))
theorem qIW (k : Nat) (x : qkR.D) : qco (k + 1) x.1 x.2.1 x.2.2.1 x.2.2.2 = qi cf (fun f a b K => COt f a b K [qs4 k, qlI k, qhW k, qs5 k]) (fun b _ σ K => LOt Ty (kps 140) 1 b σ K []) 140 Tryz.f140.ntmps Tryz.f140.results.toList (bd Tryz.f140) (qkR.enc x).1 (qkR.enc x).2 (qk FS.dec qro) := by kernel_rfl
theorem qIX : ∀ k, qh (call cf k) (qyh k)
 | 0 => fun x y e => absurd (show (none : Option _) = some y from e) (by simp)
 | k + 1 => qe (c := cf) (k := k) (f := 140) (fn := Tryz.f140) (body := bd Tryz.f140) (sh := qkR) (os := qro) rfl Tryz.func140 rfl ⟨rfl, Nat.le_of_ble_eq_true rfl⟩ (qd (qIU k)) (qIV k) (fun x => qco (k + 1) x.1 x.2.1 x.2.2.1 x.2.2.2) (qIW k)

def qlW (k : Nat) (x0 : Bool) (x1 : List Int) (y0 : Bool) (y1 : List Int) : Option (Bool × List Int × Bool × List Int) :=
 Option.bind (qco k y0 y1 x0 x1) fun r5 =>
 (some (r5.1, r5.2, y0, y1))
def qcp : Nat → Bool → List Int → Bool → List Int → Option (Bool × List Int × Bool × List Int)
 | 0, _, _, _, _ => none
 | k + 1, x0, x1, y0, y1 => qlW k x0 x1 y0 y1
def qpv : FS := { vs := [.a (.ptr 0 0 0), .a (.ptr 0 0 0), .a (.ptr 1 0 0)], bs := [.raw [[.lf .bool, .lf (.sl (.int .u32))]] 2 147 true false false, .raw [[.lf .bool, .lf (.sl (.int .u32))]] 2 147 true false false] }
def qvz : List FS := [{ vs := [.a (.ptr 0 0 0)], bs := [.raw [[.lf .bool, .lf (.sl (.int .u32))]] 2 147 true false false, .raw [[.lf .bool, .lf (.sl (.int .u32))]] 2 147 true false false] }]
def Iq4 (k : Nat) : Inst := ⟨86, qpv, qvz, fun x => qcp k x.1 x.2.1 x.2.2.1 x.2.2.2⟩
theorem qK4 (k : Nat) : qp (call cf k) [qyh k] := qA (qIX k) qT
theorem qK5 (k : Nat) : qg (LOk (R := DS FS.D qvz) (fun b _ σ K => LOt Ty (kps 86) 2 b σ K []) cf (call cf k) (cf.keep 86) Tryz.f86.ntmps k qpv.bs.length) 0 (bd Tryz.f86) :=
 qA qT (qA qT qT)
theorem qK6 (k : Nat) (x : qpv.D) : qcp (k + 1) x.1 x.2.1 x.2.2.1 x.2.2.2 = qi cf (fun f a b K => COt f a b K [qyh k]) (fun b _ σ K => LOt Ty (kps 86) 2 b σ K []) 86 Tryz.f86.ntmps Tryz.f86.results.toList (bd Tryz.f86) (qpv.enc x).1 (qpv.enc x).2 (qk FS.dec qvz) := by kernel_rfl
theorem qK7 : ∀ k, qh (call cf k) (Iq4 k)
 | 0 => fun x y e => absurd (show (none : Option _) = some y from e) (by simp)
 | k + 1 => qe (c := cf) (k := k) (f := 86) (fn := Tryz.f86) (body := bd Tryz.f86) (sh := qpv) (os := qvz) rfl Tryz.func86 rfl ⟨rfl, Nat.le_of_ble_eq_true rfl⟩ (qd (qK4 k)) (qK5 k) (fun x => qcp (k + 1) x.1 x.2.1 x.2.2.1 x.2.2.2) (qK6 k)

def qn3 (k : Nat) (rec : ((Nat × List Int × Bool × Bool × List Int × List Int) ⊕ (List Int × List Int × Bool × Bool × List Int)) → Option ((Nat × Bool × Bool × List Int × List Int) ⊕ (List Int × Bool × Bool × List Int))) (x : (Nat × List Int × Bool × Bool × List Int × List Int) ⊕ (List Int × List Int × Bool × Bool × List Int)) : Option ((Nat × Bool × Bool × List Int × List Int) ⊕ (List Int × Bool × Bool × List Int)) :=
 qc x
 (fun x =>
 if ((decide ((((List.length x.2.1) : Nat) : Int) > (0 : Int))) = true) then
 if ((0 + x.1) ≤ (List.length x.2.2.2.2.2)) then
 Option.bind (qbw k (List.take x.1 x.2.2.2.2.2) x.2.1) fun r6 =>
 if (((0 + (List.length r6.2)) * 4) ≤ 140737488355328) then
 if ((0 + (0 + (List.length r6.2))) ≤ (List.length ((List.take 0 []) ++ r6.2))) then
 Option.bind (qbV k (List.take (0 + (List.length r6.2)) ((List.take 0 []) ++ r6.2))) fun r7 =>
 rec (Sum.inr (x.2.1, r7, x.2.2.1, x.2.2.2.1, x.2.2.2.2.1))
 else
 none
 else
 none
 else
 none
 else
 (some (Sum.inl (x.1, x.2.2.1, x.2.2.2.1, x.2.2.2.2.1, x.2.2.2.2.2))))
 (fun x =>
 if ((decide ((((List.length x.2.1) : Nat) : Int) > (0 : Int))) = true) then
 Option.bind (qbw k x.1 x.2.1) fun r6 =>
 if (((0 + (List.length r6.2)) * 4) ≤ 140737488355328) then
 if ((0 + (0 + (List.length r6.2))) ≤ (List.length ((List.take 0 []) ++ r6.2))) then
 Option.bind (qbV k (List.take (0 + (List.length r6.2)) ((List.take 0 []) ++ r6.2))) fun r7 =>
 rec (Sum.inr (x.2.1, r7, x.2.2.1, x.2.2.2.1, x.2.2.2.2))
 else
 none
 else
 none
 else
 (some (Sum.inr (x.1, x.2.2.1, x.2.2.2.1, x.2.2.2.2))))
def qdC (k n : Nat) : ((Nat × List Int × Bool × Bool × List Int × List Int) ⊕ (List Int × List Int × Bool × Bool × List Int)) → Option ((Nat × Bool × Bool × List Int × List Int) ⊕ (List Int × Bool × Bool × List Int)) := Nat.rec (fun _ => none) (fun _ r => qn3 k r) n
def qs6 (k : Nat) (x : Bool) (y0 : Bool) (y1 : List Int) : Option (Bool × Bool × List Int × Bool × List Int) :=
 Option.bind (qdC k k (Sum.inl (0, y1, x, y0, y1, []))) fun r6 =>
 qc r6
 (fun r6 =>
 if ((0 + r6.1) ≤ (List.length r6.2.2.2.2)) then
 Option.bind (qG k false (List.take r6.1 r6.2.2.2.2) false) fun r7 =>
 (some (r6.2.1, r6.2.2.1, r6.2.2.2.1, r7.1, r7.2))
 else
 none)
 (fun r6 =>
 Option.bind (qG k false r6.1 false) fun r7 =>
 (some (r6.2.1, r6.2.2.1, r6.2.2.2, r7.1, r7.2)))
def qfL : Nat → Bool → Bool → List Int → Option (Bool × Bool × List Int × Bool × List Int)
 | 0, _, _, _ => none
 | k + 1, x, y0, y1 => qs6 k x y0 y1
def qpw : FS := { vs := [.a (.ptr 0 0 0), .a (.ptr 1 0 0)], bs := [.raw [[.lf .bool, .snil 1 106]] 2 147 true false false, .raw [[.lf .bool, .lf (.sl (.int .u32))]] 2 147 true false false] }
def qvA : List FS := [{ vs := [.a (.ptr 2 0 0)], bs := [.raw [[.lf .bool, .snil 1 106]] 2 147 true false false, .raw [[.lf .bool, .lf (.sl (.int .u32))]] 2 147 true false false, .raw [[.lf .bool, .lf (.sl (.int .u32))]] 2 147 true false false] }]
def Iq3 (k : Nat) : Inst := ⟨203, qpw, qvA, fun x => qfL k x.1 x.2.1 x.2.2⟩
theorem qEp (k : Nat) : qp (call cf k) [qgG k, qe9 k, qeh k] := qA (qqF k) (qA (qjV k) (qA (qjX k) qT))
def qje : List SS := [{ fr := [(5, .a (.smz 2)), (6, .a (.lf (.sl (.int .u32))))], mem := [(0, some (.raw [[.lf .bool, .snil 1 106]] 2 147 true false false)), (1, some (.raw [[.lf .bool, .lf (.sl (.int .u32))]] 2 147 true false false)), (2, some (.arr (.int .u32) 1 106 false))], nx := 3 }, { fr := [(5, .a (.lf (.sl (.int .u32)))), (6, .a (.lf (.sl (.int .u32))))], mem := [(0, some (.raw [[.lf .bool, .snil 1 106]] 2 147 true false false)), (1, some (.raw [[.lf .bool, .lf (.sl (.int .u32))]] 2 147 true false false))], nx := 2 }]
def qn4 : List OS := [⟨some 0, { fr := [(5, .a (.smz 2))], mem := [(0, some (.raw [[.lf .bool, .snil 1 106]] 2 147 true false false)), (1, some (.raw [[.lf .bool, .lf (.sl (.int .u32))]] 2 147 true false false)), (2, some (.arr (.int .u32) 1 106 false))], nx := 3 }⟩, ⟨some 0, { fr := [(5, .a (.lf (.sl (.int .u32))))], mem := [(0, some (.raw [[.lf .bool, .snil 1 106]] 2 147 true false false)), (1, some (.raw [[.lf .bool, .lf (.sl (.int .u32))]] 2 147 true false false))], nx := 2 }⟩]
def qn5 (k : Nat) : LInst := ⟨0, qje, qn4, fun x => qdC k k x⟩
theorem qEq (k : Nat) : qg (LOk (R := DS OS.D qn4) (fun b _ σ K => LOt Ty (kps 203) 2 b σ K []) cf (call cf k) (kps 203) Tryz.f203.ntmps k 2) 0 (lb Tryz.f203 0) :=
 qA (qA qT (qA qT qT)) (qA qT qT)
theorem qEr (k n : Nat) (x : DS SS.D qje) : qdC k (n + 1) x = qu SS.enc (fun σ => qx cf (fun f a b K => COt f a b K [qgG k, qe9 k, qeh k]) (fun b _ σ K => LOt Ty (kps 203) 2 b σ K []) Tryz.f203.ntmps 0 (lb Tryz.f203 0) σ (qw Ty (kps 203 0) 2 qje qn4 fun x => qdC k n x)) qje x := by kernel_rfl
theorem qEs (k : Nat) : qL cf (call cf k) (kps 203) Tryz.f203.ntmps k 2 0 (lb Tryz.f203 0) (qn5 k) :=
 qq (c := cf) (callF := call cf k) (kp := kps 203) (nt := Tryz.f203.ntmps) (k := k) (p := 2) (b := 0) (x0 := lb Tryz.f203 0) (hs := qje) (os := qn4) (qd (qEp k)) (qEq k) (fun n x => qdC k n x) (fun _ => rfl) (qEr k)
theorem qK8 (k : Nat) : qg (LOk (R := DS FS.D qvA) (fun b _ σ K => LOt Ty (kps 203) 2 b σ K [qn5 k]) cf (call cf k) (cf.keep 203) Tryz.f203.ntmps k qpw.bs.length) 0 (bd Tryz.f203) :=
 qA qT (qA qT (qA (qt (c := cf) (callF := call cf k) (kp := kps 203) (nt := Tryz.f203.ntmps) (k := k) (p := 2) (b := 0) (x0 := lb Tryz.f203 0) (l := [qn5 k]) (qA (fun _ => qEs k) qT)) (qA qT qT)))
theorem qK9 (k : Nat) (x : qpw.D) : qfL (k + 1) x.1 x.2.1 x.2.2 = qi cf (fun f a b K => COt f a b K [qgG k, qe9 k, qeh k]) (fun b _ σ K => LOt Ty (kps 203) 2 b σ K [qn5 k]) 203 Tryz.f203.ntmps Tryz.f203.results.toList (bd Tryz.f203) (qpw.enc x).1 (qpw.enc x).2 (qk FS.dec qvA) := by kernel_rfl
theorem qLa : ∀ k, qh (call cf k) (Iq3 k)
 | 0 => fun x y e => absurd (show (none : Option _) = some y from e) (by simp)
 | k + 1 => qe (c := cf) (k := k) (f := 203) (fn := Tryz.f203) (body := bd Tryz.f203) (sh := qpw) (os := qvA) rfl Tryz.func203 rfl ⟨rfl, Nat.le_of_ble_eq_true rfl⟩ (qd (qEp k)) (qK8 k) (fun x => qfL (k + 1) x.1 x.2.1 x.2.2) (qK9 k)

def qh6 (k : Nat) (z : Bool) (x : Bool) (y0 : Bool) (y1 : List Int) (r : Bool) : Option (Bool × List Int × Bool × Bool × List Int × Bool × List Int) :=
 Option.bind (qbw k [] y1) fun r7 =>
 Option.bind (qG k x r7.2 r) fun r8 =>
 Option.bind (qG k (!(x == y0)) r7.1 z) fun r9 =>
 (some (r9.1, r9.2, x, y0, y1, r8.1, r8.2))
def qc9 : Nat → Bool → Bool → Bool → List Int → Bool → Option (Bool × List Int × Bool × Bool × List Int × Bool × List Int)
 | 0, _, _, _, _, _ => none
 | k + 1, z, x, y0, y1, r => qh6 k z x y0 y1 r
def qpx : FS := { vs := [.a (.ptr 0 0 0), .a (.ptr 1 0 0), .a (.ptr 2 0 0), .a (.ptr 3 0 0)], bs := [.raw [[.lf .bool, .snil 1 106]] 2 147 true false false, .raw [[.lf .bool, .snil 1 106]] 2 147 true false false, .raw [[.lf .bool, .lf (.sl (.int .u32))]] 2 147 true false false, .raw [[.lf .bool, .snil 1 106]] 2 147 true false false] }
def qvB : List FS := [{ vs := [.a (.ptr 0 0 0), .a (.ptr 3 0 0)], bs := [.raw [[.lf .bool, .lf (.sl (.int .u32))]] 2 147 true false false, .raw [[.lf .bool, .snil 1 106]] 2 147 true false false, .raw [[.lf .bool, .lf (.sl (.int .u32))]] 2 147 true false false, .raw [[.lf .bool, .lf (.sl (.int .u32))]] 2 147 true false false] }]
def Iq9 (k : Nat) : Inst := ⟨232, qpx, qvB, fun x => qc9 k x.1 x.2.1 x.2.2.1 x.2.2.2.1 x.2.2.2.2⟩
theorem qLb (k : Nat) : qp (call cf k) [qgG k, qeh k] := qA (qqF k) (qA (qjX k) qT)
theorem qLc (k : Nat) : qg (LOk (R := DS FS.D qvB) (fun b _ σ K => LOt Ty (kps 232) 4 b σ K []) cf (call cf k) (cf.keep 232) Tryz.f232.ntmps k qpx.bs.length) 0 (bd Tryz.f232) :=
 qA qT (qA qT (qA qT (qA qT (qA qT qT))))
theorem qLd (k : Nat) (x : qpx.D) : qc9 (k + 1) x.1 x.2.1 x.2.2.1 x.2.2.2.1 x.2.2.2.2 = qi cf (fun f a b K => COt f a b K [qgG k, qeh k]) (fun b _ σ K => LOt Ty (kps 232) 4 b σ K []) 232 Tryz.f232.ntmps Tryz.f232.results.toList (bd Tryz.f232) (qpx.enc x).1 (qpx.enc x).2 (qk FS.dec qvB) := by kernel_rfl
theorem qLe : ∀ k, qh (call cf k) (Iq9 k)
 | 0 => fun x y e => absurd (show (none : Option _) = some y from e) (by simp)
 | k + 1 => qe (c := cf) (k := k) (f := 232) (fn := Tryz.f232) (body := bd Tryz.f232) (sh := qpx) (os := qvB) rfl Tryz.func232 rfl ⟨rfl, Nat.le_of_ble_eq_true rfl⟩ (qd (qLb k)) (qLc k) (fun x => qc9 (k + 1) x.1 x.2.1 x.2.2.1 x.2.2.2.1 x.2.2.2.2) (qLd k)

def qlX (k : Nat) (z : Bool) (x : Bool) (y0 : Bool) (y1 : List Int) : Option (Bool × List Int × Bool × Bool × List Int) :=
 Option.bind (qc9 k z x y0 y1 false) fun r7 =>
 (some (r7.1, r7.2.1, r7.2.2.1, r7.2.2.2.1, r7.2.2.2.2.1))
def qc5 : Nat → Bool → Bool → Bool → List Int → Option (Bool × List Int × Bool × Bool × List Int)
 | 0, _, _, _, _ => none
 | k + 1, z, x, y0, y1 => qlX k z x y0 y1
def qkS : FS := { vs := [.a (.ptr 0 0 0), .a (.ptr 1 0 0), .a (.ptr 2 0 0)], bs := [.raw [[.lf .bool, .snil 1 106]] 2 147 true false false, .raw [[.lf .bool, .snil 1 106]] 2 147 true false false, .raw [[.lf .bool, .lf (.sl (.int .u32))]] 2 147 true false false] }
def qrp : List FS := [{ vs := [.a (.ptr 0 0 0)], bs := [.raw [[.lf .bool, .lf (.sl (.int .u32))]] 2 147 true false false, .raw [[.lf .bool, .snil 1 106]] 2 147 true false false, .raw [[.lf .bool, .lf (.sl (.int .u32))]] 2 147 true false false] }]
def qyi (k : Nat) : Inst := ⟨204, qkS, qrp, fun x => qc5 k x.1 x.2.1 x.2.2.1 x.2.2.2⟩
theorem qIY (k : Nat) : qp (call cf k) [Iq9 k] := qA (qLe k) qT
theorem qIZ (k : Nat) : qg (LOk (R := DS FS.D qrp) (fun b _ σ K => LOt Ty (kps 204) 3 b σ K []) cf (call cf k) (cf.keep 204) Tryz.f204.ntmps k qkS.bs.length) 0 (bd Tryz.f204) :=
 qA qT (qA qT (qA qT qT))
theorem qI0 (k : Nat) (x : qkS.D) : qc5 (k + 1) x.1 x.2.1 x.2.2.1 x.2.2.2 = qi cf (fun f a b K => COt f a b K [Iq9 k]) (fun b _ σ K => LOt Ty (kps 204) 3 b σ K []) 204 Tryz.f204.ntmps Tryz.f204.results.toList (bd Tryz.f204) (qkS.enc x).1 (qkS.enc x).2 (qk FS.dec qrp) := by kernel_rfl
theorem qI1 : ∀ k, qh (call cf k) (qyi k)
 | 0 => fun x y e => absurd (show (none : Option _) = some y from e) (by simp)
 | k + 1 => qe (c := cf) (k := k) (f := 204) (fn := Tryz.f204) (body := bd Tryz.f204) (sh := qkS) (os := qrp) rfl Tryz.func204 rfl ⟨rfl, Nat.le_of_ble_eq_true rfl⟩ (qd (qIY k)) (qIZ k) (fun x => qc5 (k + 1) x.1 x.2.1 x.2.2.1 x.2.2.2) (qI0 k)

def qls (k : Nat) (z0 : Bool) (z1 : Bool) (n : Bool) (d0 : Bool) (d1 : List Int) : Option (Bool × List Int × Bool × List Int × Bool × Bool × List Int) :=
 Option.bind (qfL k n d0 d1) fun r6 =>
 if (r6.2.1 = true) then
 Option.bind (qc5 k false r6.1 true r6.2.2.2.2) fun r7 =>
 Option.bind (qaB k false r6.2.1 r6.2.2.1 r7.2.2.2.1 r7.2.2.2.2) fun r8 =>
 (some (r7.1, r7.2.1, r8.1, r8.2.1, r7.2.2.1, r8.2.2.1, r8.2.2.2.1))
 else
 Option.bind (qc5 k false r6.1 r6.2.2.2.1 r6.2.2.2.2) fun r7 =>
 Option.bind (qaB k false r6.2.1 r6.2.2.1 r7.2.2.2.1 r7.2.2.2.2) fun r8 =>
 (some (r7.1, r7.2.1, r8.1, r8.2.1, r7.2.2.1, r8.2.2.1, r8.2.2.2.1))
def qdr : Nat → Bool → Bool → Bool → Bool → List Int → Option (Bool × List Int × Bool × List Int × Bool × Bool × List Int)
 | 0, _, _, _, _, _ => none
 | k + 1, z0, z1, n, d0, d1 => qls k z0 z1 n d0 d1
def qkT : FS := { vs := [.a (.ptr 0 0 0), .a (.ptr 1 0 0), .a (.ptr 2 0 0)], bs := [.raw [[.lf .bool, .snil 1 106, .lf .bool, .snil 1 106]] 4 180 true false false, .raw [[.lf .bool, .snil 1 106]] 2 147 true false false, .raw [[.lf .bool, .lf (.sl (.int .u32))]] 2 147 true false false] }
def qrq : List FS := [{ vs := [.a (.ptr 0 0 0)], bs := [.raw [[.lf .bool, .lf (.sl (.int .u32)), .lf .bool, .lf (.sl (.int .u32))]] 4 180 true false false, .raw [[.lf .bool, .snil 1 106]] 2 147 true false false, .raw [[.lf .bool, .lf (.sl (.int .u32))]] 2 147 true false false] }]
def qyj (k : Nat) : Inst := ⟨144, qkT, qrq, fun x => qdr k x.1 x.2.1 x.2.2.1 x.2.2.2.1 x.2.2.2.2⟩
theorem qI2 (k : Nat) : qp (call cf k) [Iq3 k, qyi k, qsS k] := qA (qLa k) (qA (qI1 k) (qA (qzk k) qT))
theorem qI3 (k : Nat) : qg (LOk (R := DS FS.D qrq) (fun b _ σ K => LOt Ty (kps 144) 3 b σ K []) cf (call cf k) (cf.keep 144) Tryz.f144.ntmps k qkT.bs.length) 0 (bd Tryz.f144) :=
 qA qT (qA qT (qA (qA qT (qA qT qT)) (qA qT (qA qT (qA qT (qA qT (qA qT qT)))))))
theorem qI4 (k : Nat) (x : qkT.D) : qdr (k + 1) x.1 x.2.1 x.2.2.1 x.2.2.2.1 x.2.2.2.2 = qi cf (fun f a b K => COt f a b K [Iq3 k, qyi k, qsS k]) (fun b _ σ K => LOt Ty (kps 144) 3 b σ K []) 144 Tryz.f144.ntmps Tryz.f144.results.toList (bd Tryz.f144) (qkT.enc x).1 (qkT.enc x).2 (qk FS.dec qrq) := by kernel_rfl
theorem qI5 : ∀ k, qh (call cf k) (qyj k)
 | 0 => fun x y e => absurd (show (none : Option _) = some y from e) (by simp)
 | k + 1 => qe (c := cf) (k := k) (f := 144) (fn := Tryz.f144) (body := bd Tryz.f144) (sh := qkT) (os := qrq) rfl Tryz.func144 rfl ⟨rfl, Nat.le_of_ble_eq_true rfl⟩ (qd (qI2 k)) (qI3 k) (fun x => qdr (k + 1) x.1 x.2.1 x.2.2.1 x.2.2.2.1 x.2.2.2.2) (qI4 k)

def qpZ (k : Nat) (n : Bool) (d0 : Bool) (d1 : List Int) : Option (Bool × Bool × List Int × Bool × List Int × Bool × List Int) :=
 Option.bind (qdr k false false n d0 d1) fun r6 =>
 (some (r6.2.2.2.2.1, r6.2.2.2.2.2.1, r6.2.2.2.2.2.2, r6.1, r6.2.1, r6.2.2.1, r6.2.2.2.1))
def qe6 : Nat → Bool → Bool → List Int → Option (Bool × Bool × List Int × Bool × List Int × Bool × List Int)
 | 0, _, _, _ => none
 | k + 1, n, d0, d1 => qpZ k n d0 d1
def qpy : FS := { vs := [.a (.ptr 0 0 0), .a (.ptr 1 0 0)], bs := [.raw [[.lf .bool, .snil 1 106]] 2 147 true false false, .raw [[.lf .bool, .lf (.sl (.int .u32))]] 2 147 true false false] }
def qvC : List FS := [{ vs := [.a (.ptr 2 0 0)], bs := [.raw [[.lf .bool, .snil 1 106]] 2 147 true false false, .raw [[.lf .bool, .lf (.sl (.int .u32))]] 2 147 true false false, .raw [[.lf .bool, .lf (.sl (.int .u32)), .lf .bool, .lf (.sl (.int .u32))]] 4 180 true false false] }]
def Iq1 (k : Nat) : Inst := ⟨89, qpy, qvC, fun x => qe6 k x.1 x.2.1 x.2.2⟩
theorem qLf (k : Nat) : qp (call cf k) [qyj k] := qA (qI5 k) qT
theorem qLg (k : Nat) : qg (LOk (R := DS FS.D qvC) (fun b _ σ K => LOt Ty (kps 89) 2 b σ K []) cf (call cf k) (cf.keep 89) Tryz.f89.ntmps k qpy.bs.length) 0 (bd Tryz.f89) :=
 qA qT (qA qT qT)
theorem qLh (k : Nat) (x : qpy.D) : qe6 (k + 1) x.1 x.2.1 x.2.2 = qi cf (fun f a b K => COt f a b K [qyj k]) (fun b _ σ K => LOt Ty (kps 89) 2 b σ K []) 89 Tryz.f89.ntmps Tryz.f89.results.toList (bd Tryz.f89) (qpy.enc x).1 (qpy.enc x).2 (qk FS.dec qvC) := by kernel_rfl
theorem qLi : ∀ k, qh (call cf k) (Iq1 k)
 | 0 => fun x y e => absurd (show (none : Option _) = some y from e) (by simp)
 | k + 1 => qe (c := cf) (k := k) (f := 89) (fn := Tryz.f89) (body := bd Tryz.f89) (sh := qpy) (os := qvC) rfl Tryz.func89 rfl ⟨rfl, Nat.le_of_ble_eq_true rfl⟩ (qd (qLf k)) (qLg k) (fun x => qe6 (k + 1) x.1 x.2.1 x.2.2) (qLh k)

def qlY (k : Nat) (z0 : Bool) (z1 : List Int) (z2 : Bool) (z3 : List Int) : Option (Bool × List Int × Bool × List Int × Bool × List Int) :=
 Option.bind (qfp k z0 z1) fun r7 =>
 (some (z0, z1, z2, z3, r7.1, r7.2))
def qcq : Nat → Bool → List Int → Bool → List Int → Option (Bool × List Int × Bool × List Int × Bool × List Int)
 | 0, _, _, _, _ => none
 | k + 1, z0, z1, z2, z3 => qlY k z0 z1 z2 z3
def qkU : FS := { vs := [.a (.ptr 0 0 0)], bs := [.raw [[.lf .bool, .lf (.sl (.int .u32)), .lf .bool, .lf (.sl (.int .u32))]] 4 180 true false false] }
def qrr : List FS := [{ vs := [.a (.ptr 1 0 0)], bs := [.raw [[.lf .bool, .lf (.sl (.int .u32)), .lf .bool, .lf (.sl (.int .u32))]] 4 180 true false false, .raw [[.lf .bool, .lf (.sl (.int .u32))]] 2 147 true false false] }]
def qyk (k : Nat) : Inst := ⟨142, qkU, qrr, fun x => qcq k x.1 x.2.1 x.2.2.1 x.2.2.2⟩
theorem qI6 (k : Nat) : qp (call cf k) [qsT k] := qA (qzl k) qT
theorem qI7 (k : Nat) : qg (LOk (R := DS FS.D qrr) (fun b _ σ K => LOt Ty (kps 142) 1 b σ K []) cf (call cf k) (cf.keep 142) Tryz.f142.ntmps k qkU.bs.length) 0 (bd Tryz.f142) :=
 qA qT (qA qT qT)
theorem qI8 (k : Nat) (x : qkU.D) : qcq (k + 1) x.1 x.2.1 x.2.2.1 x.2.2.2 = qi cf (fun f a b K => COt f a b K [qsT k]) (fun b _ σ K => LOt Ty (kps 142) 1 b σ K []) 142 Tryz.f142.ntmps Tryz.f142.results.toList (bd Tryz.f142) (qkU.enc x).1 (qkU.enc x).2 (qk FS.dec qrr) := by kernel_rfl
theorem qI9 : ∀ k, qh (call cf k) (qyk k)
 | 0 => fun x y e => absurd (show (none : Option _) = some y from e) (by simp)
 | k + 1 => qe (c := cf) (k := k) (f := 142) (fn := Tryz.f142) (body := bd Tryz.f142) (sh := qkU) (os := qrr) rfl Tryz.func142 rfl ⟨rfl, Nat.le_of_ble_eq_true rfl⟩ (qd (qI6 k)) (qI7 k) (fun x => qcq (k + 1) x.1 x.2.1 x.2.2.1 x.2.2.2) (qI8 k)

def qeK (k : Nat) (z0 : Bool) (z1 : List Int) : Option (Int × Bool × List Int) :=
 if (((((List.length z1) : Nat) : Int) == (0 : Int)) = true) then
 (some ((0 : Int), z0, z1))
 else
 if (z0 = true) then
 (some ((-(1 : Int)), z0, z1))
 else
 (some ((1 : Int), z0, z1))
def qb9 : Nat → Bool → List Int → Option (Int × Bool × List Int)
 | 0, _, _ => none
 | k + 1, z0, z1 => qeK k z0 z1
def qkV : FS := { vs := [.a (.ptr 0 0 0)], bs := [.raw [[.lf .bool, .lf (.sl (.int .u32))]] 2 147 true false false] }
def qrs : List FS := [{ vs := [.a (.lf (.int .i64))], bs := [.raw [[.lf .bool, .lf (.sl (.int .u32))]] 2 147 true false false] }]
def qyl (k : Nat) : Inst := ⟨157, qkV, qrs, fun x => qb9 k x.1 x.2⟩
theorem qJa (k : Nat) : qp (call cf k) [] := True.intro
theorem qJb (k : Nat) : qg (LOk (R := DS FS.D qrs) (fun b _ σ K => LOt Ty (kps 157) 1 b σ K []) cf (call cf k) (cf.keep 157) Tryz.f157.ntmps k qkV.bs.length) 0 (bd Tryz.f157) :=
 qA qT (qA (qA qT (qA (qA qT qT) (qA qT (qA (qA qT qT) qT)))) (qA qT qT))
theorem qJc (k : Nat) (x : qkV.D) : qb9 (k + 1) x.1 x.2 = qi cf (fun f a b K => COt f a b K []) (fun b _ σ K => LOt Ty (kps 157) 1 b σ K []) 157 Tryz.f157.ntmps Tryz.f157.results.toList (bd Tryz.f157) (qkV.enc x).1 (qkV.enc x).2 (qk FS.dec qrs) := by kernel_rfl
theorem qJd : ∀ k, qh (call cf k) (qyl k)
 | 0 => fun x y e => absurd (show (none : Option _) = some y from e) (by simp)
 | k + 1 => qe (c := cf) (k := k) (f := 157) (fn := Tryz.f157) (body := bd Tryz.f157) (sh := qkV) (os := qrs) rfl Tryz.func157 rfl ⟨rfl, Nat.le_of_ble_eq_true rfl⟩ (qd (qJa k)) (qJb k) (fun x => qb9 (k + 1) x.1 x.2) (qJc k)

def qer (k : Nat) (z0 : Bool) (z1 : List Int) : Option (Nat × Bool × List Int × List Int) :=
 if (((0 + (List.length z1)) * 4) ≤ 140737488355328) then
 (some ((0 + (List.length z1)), z0, z1, ((List.take 0 []) ++ z1)))
 else
 none
def qbX : Nat → Bool → List Int → Option (Nat × Bool × List Int × List Int)
 | 0, _, _ => none
 | k + 1, z0, z1 => qer k z0 z1
def qkW : FS := { vs := [.a (.ptr 0 0 0)], bs := [.raw [[.lf .bool, .lf (.sl (.int .u32))]] 2 147 true false false] }
def qrt : List FS := [{ vs := [.a (.smz 1)], bs := [.raw [[.lf .bool, .lf (.sl (.int .u32))]] 2 147 true false false, .arr (.int .u32) 1 106 false] }]
def qym (k : Nat) : Inst := ⟨158, qkW, qrt, fun x => qbX k x.1 x.2⟩
theorem qJe (k : Nat) : qp (call cf k) [] := True.intro
theorem qJf (k : Nat) : qg (LOk (R := DS FS.D qrt) (fun b _ σ K => LOt Ty (kps 158) 1 b σ K []) cf (call cf k) (cf.keep 158) Tryz.f158.ntmps k qkW.bs.length) 0 (bd Tryz.f158) :=
 qA qT (qA qT qT)
theorem qJg (k : Nat) (x : qkW.D) : qbX (k + 1) x.1 x.2 = qi cf (fun f a b K => COt f a b K []) (fun b _ σ K => LOt Ty (kps 158) 1 b σ K []) 158 Tryz.f158.ntmps Tryz.f158.results.toList (bd Tryz.f158) (qkW.enc x).1 (qkW.enc x).2 (qk FS.dec qrt) := by kernel_rfl
theorem qJh : ∀ k, qh (call cf k) (qym k)
 | 0 => fun x y e => absurd (show (none : Option _) = some y from e) (by simp)
 | k + 1 => qe (c := cf) (k := k) (f := 158) (fn := Tryz.f158) (body := bd Tryz.f158) (sh := qkW) (os := qrt) rfl Tryz.func158 rfl ⟨rfl, Nat.le_of_ble_eq_true rfl⟩ (qd (qJe k)) (qJf k) (fun x => qbX (k + 1) x.1 x.2) (qJg k)

def qfW (k : Nat) (z0 : Bool) (z1 : List Int) : Option (Bool × Nat × Bool × List Int × List Int) :=
 Option.bind (qb9 k z0 z1) fun r8 =>
 Option.bind (qbX k r8.2.1 r8.2.2) fun r9 =>
 (some ((decide (r8.1 < (0 : Int))), r9.1, r9.2.1, r9.2.2.1, r9.2.2.2))
def qcr : Nat → Bool → List Int → Option (Bool × Nat × Bool × List Int × List Int)
 | 0, _, _ => none
 | k + 1, z0, z1 => qfW k z0 z1
def qhv : FS := { vs := [.a (.ptr 0 0 0)], bs := [.raw [[.lf .bool, .lf (.sl (.int .u32))]] 2 147 true false false] }
def qn6 : List FS := [{ vs := [.g [.lf .bool, .smz 1]], bs := [.raw [[.lf .bool, .lf (.sl (.int .u32))]] 2 147 true false false, .arr (.int .u32) 1 106 false] }]
def qvD (k : Nat) : Inst := ⟨101, qhv, qn6, fun x => qcr k x.1 x.2⟩
theorem qEt (k : Nat) : qp (call cf k) [qyl k, qym k] := qA (qJd k) (qA (qJh k) qT)
theorem qEu (k : Nat) : qg (LOk (R := DS FS.D qn6) (fun b _ σ K => LOt Ty (kps 101) 1 b σ K []) cf (call cf k) (cf.keep 101) Tryz.f101.ntmps k qhv.bs.length) 0 (bd Tryz.f101) :=
 qA qT (qA qT qT)
theorem qEv (k : Nat) (x : qhv.D) : qcr (k + 1) x.1 x.2 = qi cf (fun f a b K => COt f a b K [qyl k, qym k]) (fun b _ σ K => LOt Ty (kps 101) 1 b σ K []) 101 Tryz.f101.ntmps Tryz.f101.results.toList (bd Tryz.f101) (qhv.enc x).1 (qhv.enc x).2 (qk FS.dec qn6) := by kernel_rfl
theorem qEw : ∀ k, qh (call cf k) (qvD k)
 | 0 => fun x y e => absurd (show (none : Option _) = some y from e) (by simp)
 | k + 1 => qe (c := cf) (k := k) (f := 101) (fn := Tryz.f101) (body := bd Tryz.f101) (sh := qhv) (os := qn6) rfl Tryz.func101 rfl ⟨rfl, Nat.le_of_ble_eq_true rfl⟩ (qd (qEt k)) (qEu k) (fun x => qcr (k + 1) x.1 x.2) (qEv k)

def qfX (k : Nat) (z0 : Bool) (z1 : List Int) (z2 : Bool) (z3 : List Int) : Option (Bool × List Int × Bool × List Int × Bool × List Int × Bool × List Int) :=
 Option.bind (qcq k z0 z1 z2 z3) fun r7 =>
 Option.bind (qcr k r7.2.2.2.2.1 r7.2.2.2.2.2) fun r8 =>
 Option.bind (qaX k r7.1 r7.2.1 r7.2.2.1 r7.2.2.2.1) fun r9 =>
 Option.bind (qcr k r9.2.2.2.2.1 r9.2.2.2.2.2) fun r10 =>
 if ((0 + r8.2.1) ≤ (List.length r8.2.2.2.2)) then
 if ((0 + r10.2.1) ≤ (List.length r10.2.2.2.2)) then
 (some (r8.1, (List.take r8.2.1 r8.2.2.2.2), r10.1, (List.take r10.2.1 r10.2.2.2.2), r9.1, r9.2.1, r9.2.2.1, r9.2.2.2.1))
 else
 none
 else
 none
def qcs : Nat → Bool → List Int → Bool → List Int → Option (Bool × List Int × Bool × List Int × Bool × List Int × Bool × List Int)
 | 0, _, _, _, _ => none
 | k + 1, z0, z1, z2, z3 => qfX k z0 z1 z2 z3
def qhw : FS := { vs := [.a (.ptr 0 0 0)], bs := [.raw [[.lf .bool, .lf (.sl (.int .u32)), .lf .bool, .lf (.sl (.int .u32))]] 4 180 true false false] }
def qn7 : List FS := [{ vs := [.g [.lf .bool, .lf (.sl (.int .u32)), .lf .bool, .lf (.sl (.int .u32))]], bs := [.raw [[.lf .bool, .lf (.sl (.int .u32)), .lf .bool, .lf (.sl (.int .u32))]] 4 180 true false false] }]
def qru (k : Nat) : Inst := ⟨88, qhw, qn7, fun x => qcs k x.1 x.2.1 x.2.2.1 x.2.2.2⟩
theorem qEx (k : Nat) : qp (call cf k) [qyk k, qvD k, qsU k] := qA (qI9 k) (qA (qEw k) (qA (qzm k) qT))
theorem qEy (k : Nat) : qg (LOk (R := DS FS.D qn7) (fun b _ σ K => LOt Ty (kps 88) 1 b σ K []) cf (call cf k) (cf.keep 88) Tryz.f88.ntmps k qhw.bs.length) 0 (bd Tryz.f88) :=
 qA qT (qA qT qT)
theorem qEz (k : Nat) (x : qhw.D) : qcs (k + 1) x.1 x.2.1 x.2.2.1 x.2.2.2 = qi cf (fun f a b K => COt f a b K [qyk k, qvD k, qsU k]) (fun b _ σ K => LOt Ty (kps 88) 1 b σ K []) 88 Tryz.f88.ntmps Tryz.f88.results.toList (bd Tryz.f88) (qhw.enc x).1 (qhw.enc x).2 (qk FS.dec qn7) := by kernel_rfl
theorem qEA : ∀ k, qh (call cf k) (qru k)
 | 0 => fun x y e => absurd (show (none : Option _) = some y from e) (by simp)
 | k + 1 => qe (c := cf) (k := k) (f := 88) (fn := Tryz.f88) (body := bd Tryz.f88) (sh := qhw) (os := qn7) rfl Tryz.func88 rfl ⟨rfl, Nat.le_of_ble_eq_true rfl⟩ (qd (qEx k)) (qEy k) (fun x => qcs (k + 1) x.1 x.2.1 x.2.2.1 x.2.2.2) (qEz k)

def qct (k : Nat) (rec : ((List Int × List Int × Int × Int × Bool × Nat × Bool × Nat × Bool × List Int × List Int) ⊕ (List Int × List Int × Int × Int × Bool × Nat × Bool × Nat × Bool × List Int × List Int × List Int)) → Option ((List Int × Bool × Nat × Bool × Nat × Bool × List Int × List Int) ⊕ (List Int × Bool × Nat × Bool × Nat × Bool × List Int × List Int × List Int))) (x : (List Int × List Int × Int × Int × Bool × Nat × Bool × Nat × Bool × List Int × List Int) ⊕ (List Int × List Int × Int × Int × Bool × Nat × Bool × Nat × Bool × List Int × List Int × List Int)) : Option ((List Int × Bool × Nat × Bool × Nat × Bool × List Int × List Int) ⊕ (List Int × Bool × Nat × Bool × Nat × Bool × List Int × List Int × List Int)) :=
 qc x
 (fun x =>
 if ((decide (x.2.2.2.1 < x.2.2.1)) = true) then
 if ((0 : Int) ≤ x.2.2.2.1) then
 Option.bind (x.2.1)[(Int.toNat x.2.2.2.1)]? fun x1 =>
 Option.bind (qaq k x1) fun r4 =>
 Option.bind (qcn k x.2.2.2.2.2.2.2.2.1 r4.1 r4.2) fun r5 =>
 rec (Sum.inr (x.1, x.2.1, x.2.2.1, (IntKind.wrap .i64 (x.2.2.2.1 + (1 : Int))), x.2.2.2.2.1, x.2.2.2.2.2.1, x.2.2.2.2.2.2.1, x.2.2.2.2.2.2.2.1, r5.1, r5.2.1, x.2.2.2.2.2.2.2.2.2.1, x.2.2.2.2.2.2.2.2.2.2))
 else
 none
 else
 (some (Sum.inl (x.1, x.2.2.2.2.1, x.2.2.2.2.2.1, x.2.2.2.2.2.2.1, x.2.2.2.2.2.2.2.1, x.2.2.2.2.2.2.2.2.1, x.2.2.2.2.2.2.2.2.2.1, x.2.2.2.2.2.2.2.2.2.2))))
 (fun x =>
 if ((decide (x.2.2.2.1 < x.2.2.1)) = true) then
 if ((0 : Int) ≤ x.2.2.2.1) then
 Option.bind (x.2.1)[(Int.toNat x.2.2.2.1)]? fun x1 =>
 Option.bind (qaq k x1) fun r4 =>
 Option.bind (qcp k x.2.2.2.2.2.2.2.2.1 x.2.2.2.2.2.2.2.2.2.1 r4.1 r4.2) fun r5 =>
 rec (Sum.inr (x.1, x.2.1, x.2.2.1, (IntKind.wrap .i64 (x.2.2.2.1 + (1 : Int))), x.2.2.2.2.1, x.2.2.2.2.2.1, x.2.2.2.2.2.2.1, x.2.2.2.2.2.2.2.1, r5.1, r5.2.1, x.2.2.2.2.2.2.2.2.2.2.1, x.2.2.2.2.2.2.2.2.2.2.2))
 else
 none
 else
 (some (Sum.inr (x.1, x.2.2.2.2.1, x.2.2.2.2.2.1, x.2.2.2.2.2.2.1, x.2.2.2.2.2.2.2.1, x.2.2.2.2.2.2.2.2.1, x.2.2.2.2.2.2.2.2.2.1, x.2.2.2.2.2.2.2.2.2.2.1, x.2.2.2.2.2.2.2.2.2.2.2))))
def qaf (k n : Nat) : ((List Int × List Int × Int × Int × Bool × Nat × Bool × Nat × Bool × List Int × List Int) ⊕ (List Int × List Int × Int × Int × Bool × Nat × Bool × Nat × Bool × List Int × List Int × List Int)) → Option ((List Int × Bool × Nat × Bool × Nat × Bool × List Int × List Int) ⊕ (List Int × Bool × Nat × Bool × Nat × Bool × List Int × List Int × List Int)) := Nat.rec (fun _ => none) (fun _ r => qct k r) n
def qe0 (k : Nat) (row : List Int) : Option (Bool × List Int × Bool × List Int × Int) :=
 Option.bind (qcB k row) fun r3 =>
 if ((r3 != (0 : Int)) = true) then
 (some (false, [], false, [], r3))
 else
 Option.bind (qaf k k (Sum.inl (row, row, (((List.length row) : Nat) : Int), (0 : Int), false, 0, false, 0, false, [], []))) fun r4 =>
 qc r4
 (fun r4 =>
 Option.bind (qaq k (((List.length r4.1) : Nat) : Int)) fun r5 =>
 Option.bind (qe6 k r4.2.2.2.2.2.1 r5.1 r5.2) fun r6 =>
 Option.bind (qcs k r6.2.2.2.1 r6.2.2.2.2.1 r6.2.2.2.2.2.1 r6.2.2.2.2.2.2) fun r7 =>
 (some (r7.1, r7.2.1, r7.2.2.1, r7.2.2.2.1, (0 : Int))))
 (fun r4 =>
 Option.bind (qaq k (((List.length r4.1) : Nat) : Int)) fun r5 =>
 Option.bind (qcc k r4.2.2.2.2.2.1 r4.2.2.2.2.2.2.1 r5.1 r5.2) fun r6 =>
 Option.bind (qcs k r6.2.2.2.2.1 r6.2.2.2.2.2.1 r6.2.2.2.2.2.2.1 r6.2.2.2.2.2.2.2) fun r7 =>
 (some (r7.1, r7.2.1, r7.2.2.1, r7.2.2.2.1, (0 : Int))))
def qcC : Nat → List Int → Option (Bool × List Int × Bool × List Int × Int)
 | 0, _ => none
 | k + 1, row => qe0 k row
def qkX : FS := { vs := [.a (.lf (.sl (.int .i64)))], bs := [] }
def qrv : List FS := [{ vs := [.g [.lf .bool, .lf (.sl (.int .u32)), .lf .bool, .lf (.sl (.int .u32))], .a (.lf (.int .i64))], bs := [] }]
def qyn (k : Nat) : Inst := ⟨32, qkX, qrv, fun x => qcC k x⟩
theorem qzF (k : Nat) : qp (call cf k) [qgi k, qgD k, Iq5 k, Iq4 k, Iq1 k, qru k, Iq0 k] := qA (qre k) (qA (qqv k) (qA (qK3 k) (qA (qK7 k) (qA (qLi k) (qA (qEA k) (qA (qCD k) qT))))))
def qjf : List SS := [{ fr := [(0, .a (.lf (.sl (.int .i64)))), (2, .a (.ptr 0 0 0)), (5, .a (.ptr 1 0 0)), (15, .a (.lf (.sl (.int .i64)))), (16, .a (.lf (.int .i64))), (17, .a (.lf (.int .i64)))], mem := [(0, some (.raw [[.lf .bool, .smz 2, .lf .bool, .smz 3]] 4 73 false false false)), (1, some (.raw [[.lf .bool, .snil 1 106]] 2 147 true false false)), (2, some (.arr (.int .u32) 1 106 false)), (3, some (.arr (.int .u32) 1 106 false))], nx := 4 }, { fr := [(0, .a (.lf (.sl (.int .i64)))), (2, .a (.ptr 0 0 0)), (5, .a (.ptr 1 0 0)), (15, .a (.lf (.sl (.int .i64)))), (16, .a (.lf (.int .i64))), (17, .a (.lf (.int .i64)))], mem := [(0, some (.raw [[.lf .bool, .smz 2, .lf .bool, .smz 3]] 4 73 false false false)), (1, some (.raw [[.lf .bool, .lf (.sl (.int .u32))]] 2 147 true false false)), (2, some (.arr (.int .u32) 1 106 false)), (3, some (.arr (.int .u32) 1 106 false))], nx := 4 }]
def qn8 : List OS := [⟨some 0, { fr := [(0, .a (.lf (.sl (.int .i64)))), (2, .a (.ptr 0 0 0)), (5, .a (.ptr 1 0 0))], mem := [(0, some (.raw [[.lf .bool, .smz 2, .lf .bool, .smz 3]] 4 73 false false false)), (1, some (.raw [[.lf .bool, .snil 1 106]] 2 147 true false false)), (2, some (.arr (.int .u32) 1 106 false)), (3, some (.arr (.int .u32) 1 106 false))], nx := 4 }⟩, ⟨some 0, { fr := [(0, .a (.lf (.sl (.int .i64)))), (2, .a (.ptr 0 0 0)), (5, .a (.ptr 1 0 0))], mem := [(0, some (.raw [[.lf .bool, .smz 2, .lf .bool, .smz 3]] 4 73 false false false)), (1, some (.raw [[.lf .bool, .lf (.sl (.int .u32))]] 2 147 true false false)), (2, some (.arr (.int .u32) 1 106 false)), (3, some (.arr (.int .u32) 1 106 false))], nx := 4 }⟩]
def qn9 (k : Nat) : LInst := ⟨0, qjf, qn8, fun x => qaf k k x⟩
theorem qEB (k : Nat) : qg (LOk (R := DS OS.D qn8) (fun b _ σ K => LOt Ty (kps 32) 0 b σ K []) cf (call cf k) (kps 32) Tryz.f32.ntmps k 0) 0 (lb Tryz.f32 0) :=
 qA qT (qA (qA qT qT) (qA (qA qT qT) qT))
theorem qEC (k n : Nat) (x : DS SS.D qjf) : qaf k (n + 1) x = qu SS.enc (fun σ => qx cf (fun f a b K => COt f a b K [qgi k, qgD k, Iq5 k, Iq4 k, Iq1 k, qru k, Iq0 k]) (fun b _ σ K => LOt Ty (kps 32) 0 b σ K []) Tryz.f32.ntmps 0 (lb Tryz.f32 0) σ (qw Ty (kps 32 0) 0 qjf qn8 fun x => qaf k n x)) qjf x := by kernel_rfl
theorem qED (k : Nat) : qL cf (call cf k) (kps 32) Tryz.f32.ntmps k 0 0 (lb Tryz.f32 0) (qn9 k) :=
 qq (c := cf) (callF := call cf k) (kp := kps 32) (nt := Tryz.f32.ntmps) (k := k) (p := 0) (b := 0) (x0 := lb Tryz.f32 0) (hs := qjf) (os := qn8) (qd (qzF k)) (qEB k) (fun n x => qaf k n x) (fun _ => rfl) (qEC k)
theorem qJi (k : Nat) : qg (LOk (R := DS FS.D qrv) (fun b _ σ K => LOt Ty (kps 32) 0 b σ K [qn9 k]) cf (call cf k) (cf.keep 32) Tryz.f32.ntmps k qkX.bs.length) 0 (bd Tryz.f32) :=
 qA qT (qA (qA qT (qA qT (qA (qA qT qT) qT))) (qA qT (qA (qA qT (qt (c := cf) (callF := call cf k) (kp := kps 32) (nt := Tryz.f32.ntmps) (k := k) (p := 0) (b := 0) (x0 := lb Tryz.f32 0) (l := [qn9 k]) (qA (fun _ => qED k) qT))) (qA qT qT))))
theorem qJj (k : Nat) (x : qkX.D) : qcC (k + 1) x = qi cf (fun f a b K => COt f a b K [qgi k, qgD k, Iq5 k, Iq4 k, Iq1 k, qru k, Iq0 k]) (fun b _ σ K => LOt Ty (kps 32) 0 b σ K [qn9 k]) 32 Tryz.f32.ntmps Tryz.f32.results.toList (bd Tryz.f32) (qkX.enc x).1 (qkX.enc x).2 (qk FS.dec qrv) := by kernel_rfl
theorem qJk : ∀ k, qh (call cf k) (qyn k)
 | 0 => fun x y e => absurd (show (none : Option _) = some y from e) (by simp)
 | k + 1 => qe (c := cf) (k := k) (f := 32) (fn := Tryz.f32) (body := bd Tryz.f32) (sh := qkX) (os := qrv) rfl Tryz.func32 rfl ⟨rfl, Nat.le_of_ble_eq_true rfl⟩ (qd (qzF k)) (qJi k) (fun x => qcC (k + 1) x) (qJj k)

def qcj (k : Nat) (rec : List Int → Int → Int → Int → Option (Int × Int)) (l : List Int) (low : Int) (high : Int) (i : Int) : Option (Int × Int) :=
 if ((decide (i < (((List.length l) : Nat) : Int))) = true) then
 if ((0 : Int) ≤ i) then
 Option.bind (l)[(Int.toNat i)]? fun x2 =>
 if ((0 : Int) ≤ i) then
 Option.bind (l)[(Int.toNat i)]? fun x3 =>
 rec l (min low x2) (max high x3) (IntKind.wrap .i64 (i + (1 : Int)))
 else
 none
 else
 none
 else
 (some (low, high))
def qar (k n : Nat) : List Int → Int → Int → Int → Option (Int × Int) := Nat.rec (fun _ _ _ _ => none) (fun _ r => qcj k r) n
def qfd (k : Nat) (l : List Int) : Option (Int × Int × Int) :=
 Option.bind (qS k l) fun r2 =>
 if (r2 = true) then
 (some ((0 : Int), (0 : Int), (4 : Int)))
 else
 if (((((List.length l) : Nat) : Int) == (0 : Int)) = true) then
 (some ((0 : Int), (0 : Int), (6 : Int)))
 else
 Option.bind (l)[0]? fun x =>
 Option.bind (l)[0]? fun x1 =>
 Option.bind (qar k k l x x1 (0 : Int)) fun r3 =>
 (some (r3.1, r3.2, (0 : Int)))
def qcu : Nat → List Int → Option (Int × Int × Int)
 | 0, _ => none
 | k + 1, l => qfd k l
def qkY : FS := { vs := [.a (.lf (.sl (.int .i64)))], bs := [] }
def qrw : List FS := [{ vs := [.a (.lf (.int .i64)), .a (.lf (.int .i64)), .a (.lf (.int .i64))], bs := [] }]
def qyo (k : Nat) : Inst := ⟨31, qkY, qrw, fun x => qcu k x⟩
theorem qzG (k : Nat) : qp (call cf k) [qfV k] := qA (qrk k) qT
def qjg : List SS := [{ fr := [(0, .a (.lf (.sl (.int .i64)))), (5, .a (.lf (.int .i64))), (6, .a (.lf (.int .i64))), (7, .a (.lf (.int .i64)))], mem := [], nx := 0 }]
def qoa : List OS := [⟨some 0, { fr := [(5, .a (.lf (.int .i64))), (6, .a (.lf (.int .i64)))], mem := [], nx := 0 }⟩]
def qob (k : Nat) : LInst := ⟨0, qjg, qoa, fun x => qar k k x.1 x.2.1 x.2.2.1 x.2.2.2⟩
theorem qEE (k : Nat) : qg (LOk (R := DS OS.D qoa) (fun b _ σ K => LOt Ty (kps 31) 0 b σ K []) cf (call cf k) (kps 31) Tryz.f31.ntmps k 0) 0 (lb Tryz.f31 0) :=
 qA (qA qT (qA qT qT)) (qA (qA qT qT) qT)
theorem qEF (k n : Nat) (x : DS SS.D qjg) : qar k (n + 1) x.1 x.2.1 x.2.2.1 x.2.2.2 = qu SS.enc (fun σ => qx cf (fun f a b K => COt f a b K [qfV k]) (fun b _ σ K => LOt Ty (kps 31) 0 b σ K []) Tryz.f31.ntmps 0 (lb Tryz.f31 0) σ (qw Ty (kps 31 0) 0 qjg qoa fun x => qar k n x.1 x.2.1 x.2.2.1 x.2.2.2)) qjg x := by kernel_rfl
theorem qEG (k : Nat) : qL cf (call cf k) (kps 31) Tryz.f31.ntmps k 0 0 (lb Tryz.f31 0) (qob k) :=
 qq (c := cf) (callF := call cf k) (kp := kps 31) (nt := Tryz.f31.ntmps) (k := k) (p := 0) (b := 0) (x0 := lb Tryz.f31 0) (hs := qjg) (os := qoa) (qd (qzG k)) (qEE k) (fun n x => qar k n x.1 x.2.1 x.2.2.1 x.2.2.2) (fun _ => rfl) (qEF k)
theorem qJl (k : Nat) : qg (LOk (R := DS FS.D qrw) (fun b _ σ K => LOt Ty (kps 31) 0 b σ K [qob k]) cf (call cf k) (cf.keep 31) Tryz.f31.ntmps k qkY.bs.length) 0 (bd Tryz.f31) :=
 qA qT (qA (qA qT (qA (qA qT qT) qT)) (qA (qA qT (qA (qA qT qT) qT)) (qA qT (qA (qA qT (qt (c := cf) (callF := call cf k) (kp := kps 31) (nt := Tryz.f31.ntmps) (k := k) (p := 0) (b := 0) (x0 := lb Tryz.f31 0) (l := [qob k]) (qA (fun _ => qEG k) qT))) (qA qT qT)))))
theorem qJm (k : Nat) (x : qkY.D) : qcu (k + 1) x = qi cf (fun f a b K => COt f a b K [qfV k]) (fun b _ σ K => LOt Ty (kps 31) 0 b σ K [qob k]) 31 Tryz.f31.ntmps Tryz.f31.results.toList (bd Tryz.f31) (qkY.enc x).1 (qkY.enc x).2 (qk FS.dec qrw) := by kernel_rfl
theorem qJn : ∀ k, qh (call cf k) (qyo k)
 | 0 => fun x y e => absurd (show (none : Option _) = some y from e) (by simp)
 | k + 1 => qe (c := cf) (k := k) (f := 31) (fn := Tryz.f31) (body := bd Tryz.f31) (sh := qkY) (os := qrw) rfl Tryz.func31 rfl ⟨rfl, Nat.le_of_ble_eq_true rfl⟩ (qd (qzG k)) (qJl k) (fun x => qcu (k + 1) x) (qJm k)

def qbe (k : Nat) (rec : Int → Bool → Nat → Bool → Nat → List Int → List Int → Option (Bool × Nat × Bool × Nat × List Int × List Int)) (u : Int) (x0 : Bool) (x1 : Nat) (a0 : Bool) (a1 : Nat) (m : List Int) (m1 : List Int) : Option (Bool × Nat × Bool × Nat × List Int × List Int) :=
 if ((decide (u > (0 : Int))) = true) then
 if (a1 ≤ (List.length m1)) then
 if (((a1 + (List.length (List.take 1 ((IntKind.wrap .i64 (Int.tmod u (65536 : Int))) :: [])))) * 8) ≤ 140737488355328) then
 rec (IntKind.wrap .u64 (Int.tdiv u (65536 : Int))) x0 x1 a0 (a1 + (List.length (List.take 1 ((IntKind.wrap .i64 (Int.tmod u (65536 : Int))) :: [])))) m ((List.take a1 m1) ++ (List.take 1 ((IntKind.wrap .i64 (Int.tmod u (65536 : Int))) :: [])))
 else
 none
 else
 none
 else
 (some (x0, x1, a0, a1, m, m1))
def qai (k n : Nat) : Int → Bool → Nat → Bool → Nat → List Int → List Int → Option (Bool × Nat × Bool × Nat × List Int × List Int) := Nat.rec (fun _ _ _ _ _ _ _ => none) (fun _ r => qbe k r) n
def qc6 (k : Nat) (v : Int) : Option (Bool × List Int) :=
 if ((decide (v < (0 : Int))) = true) then
 Option.bind (qai k k (IntKind.wrap .u64 ((0 : Int) - (IntKind.wrap .u64 v))) false 0 true 0 [] []) fun r5 =>
 if ((0 + r5.2.2.2.1) ≤ (List.length r5.2.2.2.2.2)) then
 (some (r5.2.2.1, (List.take r5.2.2.2.1 r5.2.2.2.2.2)))
 else
 none
 else
 Option.bind (qai k k (IntKind.wrap .u64 v) false 0 false 0 [] []) fun r5 =>
 if ((0 + r5.2.2.2.1) ≤ (List.length r5.2.2.2.2.2)) then
 (some (r5.2.2.1, (List.take r5.2.2.2.1 r5.2.2.2.2.2)))
 else
 none
def qbr : Nat → Int → Option (Bool × List Int)
 | 0, _ => none
 | k + 1, v => qc6 k v
def qkZ : FS := { vs := [.a (.lf (.int .i64))], bs := [] }
def qrx : List FS := [{ vs := [.g [.lf .bool, .lf (.sl (.int .i64))]], bs := [] }]
def qvE (k : Nat) : Inst := ⟨91, qkZ, qrx, fun x => qbr k x⟩
theorem qzH (k : Nat) : qp (call cf k) [] := True.intro
def qjh : List SS := [{ fr := [(2, .a (.ptr 0 0 0)), (3, .a (.ptr 1 0 0)), (4, .a (.lf (.int .u64)))], mem := [(0, some (.raw [[.lf .bool, .smz 2]] 2 154 false false false)), (1, some (.raw [[.lf .bool, .smz 3]] 2 154 false false false)), (2, some (.arr (.int .i64) 1 3 false)), (3, some (.arr (.int .i64) 1 3 false))], nx := 4 }]
def qoc : List OS := [⟨some 0, { fr := [(2, .a (.ptr 0 0 0)), (3, .a (.ptr 1 0 0))], mem := [(0, some (.raw [[.lf .bool, .smz 2]] 2 154 false false false)), (1, some (.raw [[.lf .bool, .smz 3]] 2 154 false false false)), (2, some (.arr (.int .i64) 1 3 false)), (3, some (.arr (.int .i64) 1 3 false))], nx := 4 }⟩]
def qod (k : Nat) : LInst := ⟨0, qjh, qoc, fun x => qai k k x.1 x.2.1 x.2.2.1 x.2.2.2.1 x.2.2.2.2.1 x.2.2.2.2.2.1 x.2.2.2.2.2.2⟩
theorem qEH (k : Nat) : qg (LOk (R := DS OS.D qoc) (fun b _ σ K => LOt Ty (kps 91) 0 b σ K []) cf (call cf k) (kps 91) Tryz.f91.ntmps k 0) 0 (lb Tryz.f91 0) :=
 qA (qA qT (qA qT qT)) (qA qT qT)
theorem qEI (k n : Nat) (x : DS SS.D qjh) : qai k (n + 1) x.1 x.2.1 x.2.2.1 x.2.2.2.1 x.2.2.2.2.1 x.2.2.2.2.2.1 x.2.2.2.2.2.2 = qu SS.enc (fun σ => qx cf (fun f a b K => COt f a b K []) (fun b _ σ K => LOt Ty (kps 91) 0 b σ K []) Tryz.f91.ntmps 0 (lb Tryz.f91 0) σ (qw Ty (kps 91 0) 0 qjh qoc fun x => qai k n x.1 x.2.1 x.2.2.1 x.2.2.2.1 x.2.2.2.2.1 x.2.2.2.2.2.1 x.2.2.2.2.2.2)) qjh x := by kernel_rfl
theorem qEJ (k : Nat) : qL cf (call cf k) (kps 91) Tryz.f91.ntmps k 0 0 (lb Tryz.f91 0) (qod k) :=
 qq (c := cf) (callF := call cf k) (kp := kps 91) (nt := Tryz.f91.ntmps) (k := k) (p := 0) (b := 0) (x0 := lb Tryz.f91 0) (hs := qjh) (os := qoc) (qd (qzH k)) (qEH k) (fun n x => qai k n x.1 x.2.1 x.2.2.1 x.2.2.2.1 x.2.2.2.2.1 x.2.2.2.2.2.1 x.2.2.2.2.2.2) (fun _ => rfl) (qEI k)
theorem qJo (k : Nat) : qg (LOk (R := DS FS.D qrx) (fun b _ σ K => LOt Ty (kps 91) 0 b σ K [qod k]) cf (call cf k) (cf.keep 91) Tryz.f91.ntmps k qkZ.bs.length) 0 (bd Tryz.f91) :=
 qA qT (qA qT (qA qT (qA (qA qT (qA (qA qT qT) qT)) (qA (qt (c := cf) (callF := call cf k) (kp := kps 91) (nt := Tryz.f91.ntmps) (k := k) (p := 0) (b := 0) (x0 := lb Tryz.f91 0) (l := [qod k]) (qA (fun _ => qEJ k) qT)) (qA qT qT)))))
theorem qJp (k : Nat) (x : qkZ.D) : qbr (k + 1) x = qi cf (fun f a b K => COt f a b K []) (fun b _ σ K => LOt Ty (kps 91) 0 b σ K [qod k]) 91 Tryz.f91.ntmps Tryz.f91.results.toList (bd Tryz.f91) (qkZ.enc x).1 (qkZ.enc x).2 (qk FS.dec qrx) := by kernel_rfl
theorem qJq : ∀ k, qh (call cf k) (qvE k)
 | 0 => fun x y e => absurd (show (none : Option _) = some y from e) (by simp)
 | k + 1 => qe (c := cf) (k := k) (f := 91) (fn := Tryz.f91) (body := bd Tryz.f91) (sh := qkZ) (os := qrx) rfl Tryz.func91 rfl ⟨rfl, Nat.le_of_ble_eq_true rfl⟩ (qd (qzH k)) (qJo k) (fun x => qbr (k + 1) x) (qJp k)

def qbA (k : Nat) (rec : Nat → Int → List Int → Option (Nat × Int × List Int)) (d : Nat) (n : Int) (ds : List Int) : Option (Nat × Int × List Int) :=
 if ((decide (n > (0 : Int))) = true) then
 if (((0 : Int) ≤ (IntKind.wrap .i64 (n - (1 : Int)))) ∧ ((IntKind.wrap .i64 (n - (1 : Int))) < ((d : Nat) : Int))) then
 Option.bind (ds)[(0 + (Int.toNat (IntKind.wrap .i64 (n - (1 : Int)))))]? fun x4 =>
 if ((x4 == (0 : Int)) = true) then
 rec d (IntKind.wrap .i64 (n - (1 : Int))) ds
 else
 (some (d, n, ds))
 else
 none
 else
 (some (d, n, ds))
def qas (k n : Nat) : Nat → Int → List Int → Option (Nat × Int × List Int) := Nat.rec (fun _ _ _ => none) (fun _ r => qbA k r) n
def qa3 (k : Nat) (d : Nat) (ds : List Int) : Option (Nat × List Int) :=
 Option.bind (qas k k d ((d : Nat) : Int) ds) fun r7 =>
 if (((0 : Int) ≤ (0 : Int)) ∧ (((0 : Int) ≤ r7.2.1) ∧ (((0 + (Int.toNat r7.2.1)) ≤ (List.length r7.2.2)) ∧ (((0 : Int) < r7.2.1) ∨ (true = true))))) then
 (some ((Int.toNat r7.2.1), r7.2.2))
 else
 none
def qC : Nat → Nat → List Int → Option (Nat × List Int)
 | 0, _, _ => none
 | k + 1, d, ds => qa3 k d ds
def qk0 : FS := { vs := [.a (.smz 0)], bs := [.arr (.int .i64) 1 3 false] }
def qry : List FS := [{ vs := [.a (.smz 0)], bs := [.arr (.int .i64) 1 3 false] }]
def qfM (k : Nat) : Inst := ⟨205, qk0, qry, fun x => qC k x.1 x.2⟩
theorem qzI (k : Nat) : qp (call cf k) [] := True.intro
def qji : List SS := [{ fr := [(0, .a (.smz 0)), (3, .a (.lf (.int .i64)))], mem := [(0, some (.arr (.int .i64) 1 3 false))], nx := 1 }]
def qoe : List OS := [⟨some 0, { fr := [(0, .a (.smz 0)), (3, .a (.lf (.int .i64)))], mem := [(0, some (.arr (.int .i64) 1 3 false))], nx := 1 }⟩]
def qof (k : Nat) : LInst := ⟨0, qji, qoe, fun x => qas k k x.1 x.2.1 x.2.2⟩
theorem qEK (k : Nat) : qg (LOk (R := DS OS.D qoe) (fun b _ σ K => LOt Ty (kps 205) 1 b σ K []) cf (call cf k) (kps 205) Tryz.f205.ntmps k 1) 0 (lb Tryz.f205 0) :=
 qA (qA qT (qA qT qT)) qT
theorem qEL (k n : Nat) (x : DS SS.D qji) : qas k (n + 1) x.1 x.2.1 x.2.2 = qu SS.enc (fun σ => qx cf (fun f a b K => COt f a b K []) (fun b _ σ K => LOt Ty (kps 205) 1 b σ K []) Tryz.f205.ntmps 0 (lb Tryz.f205 0) σ (qw Ty (kps 205 0) 1 qji qoe fun x => qas k n x.1 x.2.1 x.2.2)) qji x := by kernel_rfl
theorem qEM (k : Nat) : qL cf (call cf k) (kps 205) Tryz.f205.ntmps k 1 0 (lb Tryz.f205 0) (qof k) :=
 qq (c := cf) (callF := call cf k) (kp := kps 205) (nt := Tryz.f205.ntmps) (k := k) (p := 1) (b := 0) (x0 := lb Tryz.f205 0) (hs := qji) (os := qoe) (qd (qzI k)) (qEK k) (fun n x => qas k n x.1 x.2.1 x.2.2) (fun _ => rfl) (qEL k)
theorem qJr (k : Nat) : qg (LOk (R := DS FS.D qry) (fun b _ σ K => LOt Ty (kps 205) 1 b σ K [qof k]) cf (call cf k) (cf.keep 205) Tryz.f205.ntmps k qk0.bs.length) 0 (bd Tryz.f205) :=
 qA qT (qA qT (qA (qt (c := cf) (callF := call cf k) (kp := kps 205) (nt := Tryz.f205.ntmps) (k := k) (p := 1) (b := 0) (x0 := lb Tryz.f205 0) (l := [qof k]) (qA (fun _ => qEM k) qT)) (qA qT qT)))
theorem qJs (k : Nat) (x : qk0.D) : qC (k + 1) x.1 x.2 = qi cf (fun f a b K => COt f a b K []) (fun b _ σ K => LOt Ty (kps 205) 1 b σ K [qof k]) 205 Tryz.f205.ntmps Tryz.f205.results.toList (bd Tryz.f205) (qk0.enc x).1 (qk0.enc x).2 (qk FS.dec qry) := by kernel_rfl
theorem qrz : ∀ k, qh (call cf k) (qfM k)
 | 0 => fun x y e => absurd (show (none : Option _) = some y from e) (by simp)
 | k + 1 => qe (c := cf) (k := k) (f := 205) (fn := Tryz.f205) (body := bd Tryz.f205) (sh := qk0) (os := qry) rfl Tryz.func205 rfl ⟨rfl, Nat.le_of_ble_eq_true rfl⟩ (qd (qzI k)) (qJr k) (fun x => qC (k + 1) x.1 x.2) (qJs k)

def qbf (k : Nat) (rec : List Int → List Int → Nat → Int → Int → List Int → Option (Nat × List Int)) (a : List Int) (b : List Int) (d : Nat) (carry : Int) (i : Int) (ds : List Int) : Option (Nat × List Int) :=
 if ((decide (i < (((List.length a) : Nat) : Int))) = false) then
 if ((decide (i < (((List.length b) : Nat) : Int))) = false) then
 if ((decide (carry > (0 : Int))) = true) then
 if ((decide (i < (((List.length a) : Nat) : Int))) = true) then
 if ((0 : Int) ≤ i) then
 Option.bind (a)[(Int.toNat i)]? fun x4 =>
 if ((decide (i < (((List.length b) : Nat) : Int))) = true) then
 if ((0 : Int) ≤ i) then
 Option.bind (b)[(Int.toNat i)]? fun x5 =>
 if (d ≤ (List.length ds)) then
 if (((d + (List.length (List.take 1 ((Int.tmod (IntKind.wrap .i64 ((IntKind.wrap .i64 (carry + x4)) + x5)) (65536 : Int)) :: [])))) * 8) ≤ 140737488355328) then
 rec a b (d + (List.length (List.take 1 ((Int.tmod (IntKind.wrap .i64 ((IntKind.wrap .i64 (carry + x4)) + x5)) (65536 : Int)) :: [])))) (IntKind.wrap .i64 (Int.tdiv (IntKind.wrap .i64 ((IntKind.wrap .i64 (carry + x4)) + x5)) (65536 : Int))) (IntKind.wrap .i64 (i + (1 : Int))) ((List.take d ds) ++ (List.take 1 ((Int.tmod (IntKind.wrap .i64 ((IntKind.wrap .i64 (carry + x4)) + x5)) (65536 : Int)) :: [])))
 else
 none
 else
 none
 else
 none
 else
 if (d ≤ (List.length ds)) then
 if (((d + (List.length (List.take 1 ((Int.tmod (IntKind.wrap .i64 (carry + x4)) (65536 : Int)) :: [])))) * 8) ≤ 140737488355328) then
 rec a b (d + (List.length (List.take 1 ((Int.tmod (IntKind.wrap .i64 (carry + x4)) (65536 : Int)) :: [])))) (IntKind.wrap .i64 (Int.tdiv (IntKind.wrap .i64 (carry + x4)) (65536 : Int))) (IntKind.wrap .i64 (i + (1 : Int))) ((List.take d ds) ++ (List.take 1 ((Int.tmod (IntKind.wrap .i64 (carry + x4)) (65536 : Int)) :: [])))
 else
 none
 else
 none
 else
 none
 else
 if ((decide (i < (((List.length b) : Nat) : Int))) = true) then
 if ((0 : Int) ≤ i) then
 Option.bind (b)[(Int.toNat i)]? fun x4 =>
 if (d ≤ (List.length ds)) then
 if (((d + (List.length (List.take 1 ((Int.tmod (IntKind.wrap .i64 (carry + x4)) (65536 : Int)) :: [])))) * 8) ≤ 140737488355328) then
 rec a b (d + (List.length (List.take 1 ((Int.tmod (IntKind.wrap .i64 (carry + x4)) (65536 : Int)) :: [])))) (IntKind.wrap .i64 (Int.tdiv (IntKind.wrap .i64 (carry + x4)) (65536 : Int))) (IntKind.wrap .i64 (i + (1 : Int))) ((List.take d ds) ++ (List.take 1 ((Int.tmod (IntKind.wrap .i64 (carry + x4)) (65536 : Int)) :: [])))
 else
 none
 else
 none
 else
 none
 else
 if (d ≤ (List.length ds)) then
 if (((d + (List.length (List.take 1 ((Int.tmod carry (65536 : Int)) :: [])))) * 8) ≤ 140737488355328) then
 rec a b (d + (List.length (List.take 1 ((Int.tmod carry (65536 : Int)) :: [])))) (IntKind.wrap .i64 (Int.tdiv carry (65536 : Int))) (IntKind.wrap .i64 (i + (1 : Int))) ((List.take d ds) ++ (List.take 1 ((Int.tmod carry (65536 : Int)) :: [])))
 else
 none
 else
 none
 else
 (some (d, ds))
 else
 if ((decide (i < (((List.length a) : Nat) : Int))) = true) then
 if ((0 : Int) ≤ i) then
 Option.bind (a)[(Int.toNat i)]? fun x4 =>
 if ((decide (i < (((List.length b) : Nat) : Int))) = true) then
 if ((0 : Int) ≤ i) then
 Option.bind (b)[(Int.toNat i)]? fun x5 =>
 if (d ≤ (List.length ds)) then
 if (((d + (List.length (List.take 1 ((Int.tmod (IntKind.wrap .i64 ((IntKind.wrap .i64 (carry + x4)) + x5)) (65536 : Int)) :: [])))) * 8) ≤ 140737488355328) then
 rec a b (d + (List.length (List.take 1 ((Int.tmod (IntKind.wrap .i64 ((IntKind.wrap .i64 (carry + x4)) + x5)) (65536 : Int)) :: [])))) (IntKind.wrap .i64 (Int.tdiv (IntKind.wrap .i64 ((IntKind.wrap .i64 (carry + x4)) + x5)) (65536 : Int))) (IntKind.wrap .i64 (i + (1 : Int))) ((List.take d ds) ++ (List.take 1 ((Int.tmod (IntKind.wrap .i64 ((IntKind.wrap .i64 (carry + x4)) + x5)) (65536 : Int)) :: [])))
 else
 none
 else
 none
 else
 none
 else
 if (d ≤ (List.length ds)) then
 if (((d + (List.length (List.take 1 ((Int.tmod (IntKind.wrap .i64 (carry + x4)) (65536 : Int)) :: [])))) * 8) ≤ 140737488355328) then
 rec a b (d + (List.length (List.take 1 ((Int.tmod (IntKind.wrap .i64 (carry + x4)) (65536 : Int)) :: [])))) (IntKind.wrap .i64 (Int.tdiv (IntKind.wrap .i64 (carry + x4)) (65536 : Int))) (IntKind.wrap .i64 (i + (1 : Int))) ((List.take d ds) ++ (List.take 1 ((Int.tmod (IntKind.wrap .i64 (carry + x4)) (65536 : Int)) :: [])))
 else
 none
 else
 none
 else
 none
 else
 if ((decide (i < (((List.length b) : Nat) : Int))) = true) then
 if ((0 : Int) ≤ i) then
 Option.bind (b)[(Int.toNat i)]? fun x4 =>
 if (d ≤ (List.length ds)) then
 if (((d + (List.length (List.take 1 ((Int.tmod (IntKind.wrap .i64 (carry + x4)) (65536 : Int)) :: [])))) * 8) ≤ 140737488355328) then
 rec a b (d + (List.length (List.take 1 ((Int.tmod (IntKind.wrap .i64 (carry + x4)) (65536 : Int)) :: [])))) (IntKind.wrap .i64 (Int.tdiv (IntKind.wrap .i64 (carry + x4)) (65536 : Int))) (IntKind.wrap .i64 (i + (1 : Int))) ((List.take d ds) ++ (List.take 1 ((Int.tmod (IntKind.wrap .i64 (carry + x4)) (65536 : Int)) :: [])))
 else
 none
 else
 none
 else
 none
 else
 if (d ≤ (List.length ds)) then
 if (((d + (List.length (List.take 1 ((Int.tmod carry (65536 : Int)) :: [])))) * 8) ≤ 140737488355328) then
 rec a b (d + (List.length (List.take 1 ((Int.tmod carry (65536 : Int)) :: [])))) (IntKind.wrap .i64 (Int.tdiv carry (65536 : Int))) (IntKind.wrap .i64 (i + (1 : Int))) ((List.take d ds) ++ (List.take 1 ((Int.tmod carry (65536 : Int)) :: [])))
 else
 none
 else
 none
 else
 if ((decide (i < (((List.length a) : Nat) : Int))) = true) then
 if ((0 : Int) ≤ i) then
 Option.bind (a)[(Int.toNat i)]? fun x4 =>
 if ((decide (i < (((List.length b) : Nat) : Int))) = true) then
 if ((0 : Int) ≤ i) then
 Option.bind (b)[(Int.toNat i)]? fun x5 =>
 if (d ≤ (List.length ds)) then
 if (((d + (List.length (List.take 1 ((Int.tmod (IntKind.wrap .i64 ((IntKind.wrap .i64 (carry + x4)) + x5)) (65536 : Int)) :: [])))) * 8) ≤ 140737488355328) then
 rec a b (d + (List.length (List.take 1 ((Int.tmod (IntKind.wrap .i64 ((IntKind.wrap .i64 (carry + x4)) + x5)) (65536 : Int)) :: [])))) (IntKind.wrap .i64 (Int.tdiv (IntKind.wrap .i64 ((IntKind.wrap .i64 (carry + x4)) + x5)) (65536 : Int))) (IntKind.wrap .i64 (i + (1 : Int))) ((List.take d ds) ++ (List.take 1 ((Int.tmod (IntKind.wrap .i64 ((IntKind.wrap .i64 (carry + x4)) + x5)) (65536 : Int)) :: [])))
 else
 none
 else
 none
 else
 none
 else
 if (d ≤ (List.length ds)) then
 if (((d + (List.length (List.take 1 ((Int.tmod (IntKind.wrap .i64 (carry + x4)) (65536 : Int)) :: [])))) * 8) ≤ 140737488355328) then
 rec a b (d + (List.length (List.take 1 ((Int.tmod (IntKind.wrap .i64 (carry + x4)) (65536 : Int)) :: [])))) (IntKind.wrap .i64 (Int.tdiv (IntKind.wrap .i64 (carry + x4)) (65536 : Int))) (IntKind.wrap .i64 (i + (1 : Int))) ((List.take d ds) ++ (List.take 1 ((Int.tmod (IntKind.wrap .i64 (carry + x4)) (65536 : Int)) :: [])))
 else
 none
 else
 none
 else
 none
 else
 if ((decide (i < (((List.length b) : Nat) : Int))) = true) then
 if ((0 : Int) ≤ i) then
 Option.bind (b)[(Int.toNat i)]? fun x4 =>
 if (d ≤ (List.length ds)) then
 if (((d + (List.length (List.take 1 ((Int.tmod (IntKind.wrap .i64 (carry + x4)) (65536 : Int)) :: [])))) * 8) ≤ 140737488355328) then
 rec a b (d + (List.length (List.take 1 ((Int.tmod (IntKind.wrap .i64 (carry + x4)) (65536 : Int)) :: [])))) (IntKind.wrap .i64 (Int.tdiv (IntKind.wrap .i64 (carry + x4)) (65536 : Int))) (IntKind.wrap .i64 (i + (1 : Int))) ((List.take d ds) ++ (List.take 1 ((Int.tmod (IntKind.wrap .i64 (carry + x4)) (65536 : Int)) :: [])))
 else
 none
 else
 none
 else
 none
 else
 if (d ≤ (List.length ds)) then
 if (((d + (List.length (List.take 1 ((Int.tmod carry (65536 : Int)) :: [])))) * 8) ≤ 140737488355328) then
 rec a b (d + (List.length (List.take 1 ((Int.tmod carry (65536 : Int)) :: [])))) (IntKind.wrap .i64 (Int.tdiv carry (65536 : Int))) (IntKind.wrap .i64 (i + (1 : Int))) ((List.take d ds) ++ (List.take 1 ((Int.tmod carry (65536 : Int)) :: [])))
 else
 none
 else
 none
def qaj (k n : Nat) : List Int → List Int → Nat → Int → Int → List Int → Option (Nat × List Int) := Nat.rec (fun _ _ _ _ _ _ => none) (fun _ r => qbf k r) n
def qfe (k : Nat) (a : List Int) (b : List Int) : Option (List Int) :=
 Option.bind (qaj k k a b 0 (0 : Int) (0 : Int) []) fun r6 =>
 Option.bind (qC k r6.1 r6.2) fun r7 =>
 if ((0 + r7.1) ≤ (List.length r7.2)) then
 (some (List.take r7.1 r7.2))
 else
 none
def qbM : Nat → List Int → List Int → Option (List Int)
 | 0, _, _ => none
 | k + 1, a, b => qfe k a b
def qk1 : FS := { vs := [.a (.lf (.sl (.int .i64))), .a (.lf (.sl (.int .i64)))], bs := [] }
def qrA : List FS := [{ vs := [.a (.lf (.sl (.int .i64)))], bs := [] }]
def qyp (k : Nat) : Inst := ⟨145, qk1, qrA, fun x => qbM k x.1 x.2⟩
theorem qzJ (k : Nat) : qp (call cf k) [qfM k] := qA (qrz k) qT
def qjj : List SS := [{ fr := [(0, .a (.lf (.sl (.int .i64)))), (1, .a (.lf (.sl (.int .i64)))), (5, .a (.smz 0)), (6, .a (.lf (.int .i64))), (7, .a (.lf (.int .i64)))], mem := [(0, some (.arr (.int .i64) 1 3 false))], nx := 1 }]
def qog : List OS := [⟨some 0, { fr := [(5, .a (.smz 0))], mem := [(0, some (.arr (.int .i64) 1 3 false))], nx := 1 }⟩]
def qoh (k : Nat) : LInst := ⟨0, qjj, qog, fun x => qaj k k x.1 x.2.1 x.2.2.1 x.2.2.2.1 x.2.2.2.2.1 x.2.2.2.2.2⟩
theorem qEN (k : Nat) : qg (LOk (R := DS OS.D qog) (fun b _ σ K => LOt Ty (kps 145) 0 b σ K []) cf (call cf k) (kps 145) Tryz.f145.ntmps k 0) 0 (lb Tryz.f145 0) :=
 qA (qA qT (qA qT qT)) (qA (qA qT (qA (qA qT (qA qT qT)) (qA (qA qT (qA qT qT)) (qA qT qT)))) qT)
theorem qEO (k n : Nat) (x : DS SS.D qjj) : qaj k (n + 1) x.1 x.2.1 x.2.2.1 x.2.2.2.1 x.2.2.2.2.1 x.2.2.2.2.2 = qu SS.enc (fun σ => qx cf (fun f a b K => COt f a b K [qfM k]) (fun b _ σ K => LOt Ty (kps 145) 0 b σ K []) Tryz.f145.ntmps 0 (lb Tryz.f145 0) σ (qw Ty (kps 145 0) 0 qjj qog fun x => qaj k n x.1 x.2.1 x.2.2.1 x.2.2.2.1 x.2.2.2.2.1 x.2.2.2.2.2)) qjj x := by kernel_rfl
theorem qEP (k : Nat) : qL cf (call cf k) (kps 145) Tryz.f145.ntmps k 0 0 (lb Tryz.f145 0) (qoh k) :=
 qq (c := cf) (callF := call cf k) (kp := kps 145) (nt := Tryz.f145.ntmps) (k := k) (p := 0) (b := 0) (x0 := lb Tryz.f145 0) (hs := qjj) (os := qog) (qd (qzJ k)) (qEN k) (fun n x => qaj k n x.1 x.2.1 x.2.2.1 x.2.2.2.1 x.2.2.2.2.1 x.2.2.2.2.2) (fun _ => rfl) (qEO k)
theorem qJt (k : Nat) : qg (LOk (R := DS FS.D qrA) (fun b _ σ K => LOt Ty (kps 145) 0 b σ K [qoh k]) cf (call cf k) (cf.keep 145) Tryz.f145.ntmps k qk1.bs.length) 0 (bd Tryz.f145) :=
 qA qT (qA qT (qA qT (qA (qA qT (qt (c := cf) (callF := call cf k) (kp := kps 145) (nt := Tryz.f145.ntmps) (k := k) (p := 0) (b := 0) (x0 := lb Tryz.f145 0) (l := [qoh k]) (qA (fun _ => qEP k) qT))) (qA qT qT))))
theorem qJu (k : Nat) (x : qk1.D) : qbM (k + 1) x.1 x.2 = qi cf (fun f a b K => COt f a b K [qfM k]) (fun b _ σ K => LOt Ty (kps 145) 0 b σ K [qoh k]) 145 Tryz.f145.ntmps Tryz.f145.results.toList (bd Tryz.f145) (qk1.enc x).1 (qk1.enc x).2 (qk FS.dec qrA) := by kernel_rfl
theorem qJv : ∀ k, qh (call cf k) (qyp k)
 | 0 => fun x y e => absurd (show (none : Option _) = some y from e) (by simp)
 | k + 1 => qe (c := cf) (k := k) (f := 145) (fn := Tryz.f145) (body := bd Tryz.f145) (sh := qk1) (os := qrA) rfl Tryz.func145 rfl ⟨rfl, Nat.le_of_ble_eq_true rfl⟩ (qd (qzJ k)) (qJt k) (fun x => qbM (k + 1) x.1 x.2) (qJu k)

def qaC (k : Nat) (rec : List Int → List Int → Int → Option ((Int) ⊕ (Unit))) (a : List Int) (b : List Int) (i : Int) : Option ((Int) ⊕ (Unit)) :=
 if ((decide (i ≥ (0 : Int))) = true) then
 if ((0 : Int) ≤ i) then
 Option.bind (a)[(Int.toNat i)]? fun x4 =>
 if ((0 : Int) ≤ i) then
 Option.bind (b)[(Int.toNat i)]? fun x5 =>
 if ((decide (x4 < x5)) = true) then
 (some (Sum.inl (-(1 : Int))))
 else
 if ((0 : Int) ≤ i) then
 Option.bind (a)[(Int.toNat i)]? fun x6 =>
 if ((0 : Int) ≤ i) then
 Option.bind (b)[(Int.toNat i)]? fun x7 =>
 if ((decide (x6 > x7)) = true) then
 (some (Sum.inl (1 : Int)))
 else
 rec a b (IntKind.wrap .i64 (i - (1 : Int)))
 else
 none
 else
 none
 else
 none
 else
 none
 else
 (some (Sum.inr ()))
def qat (k n : Nat) : List Int → List Int → Int → Option ((Int) ⊕ (Unit)) := Nat.rec (fun _ _ _ => none) (fun _ r => qaC k r) n
def qff (k : Nat) (a : List Int) (b : List Int) : Option (Int) :=
 if (((((List.length a) : Nat) : Int) != (((List.length b) : Nat) : Int)) = true) then
 if ((decide ((((List.length a) : Nat) : Int) < (((List.length b) : Nat) : Int))) = true) then
 (some (-(1 : Int)))
 else
 (some (1 : Int))
 else
 Option.bind (qat k k a b (IntKind.wrap .i64 ((((List.length a) : Nat) : Int) - (1 : Int)))) fun r6 =>
 qc r6
 (fun r6 =>
 (some r6))
 (fun r6 =>
 (some (0 : Int)))
def qbN : Nat → List Int → List Int → Option (Int)
 | 0, _, _ => none
 | k + 1, a, b => qff k a b
def qk2 : FS := { vs := [.a (.lf (.sl (.int .i64))), .a (.lf (.sl (.int .i64)))], bs := [] }
def qrB : List FS := [{ vs := [.a (.lf (.int .i64))], bs := [] }]
def qpz (k : Nat) : Inst := ⟨146, qk2, qrB, fun x => qbN k x.1 x.2⟩
theorem qzK (k : Nat) : qp (call cf k) [] := True.intro
def qjk : List SS := [{ fr := [(0, .a (.lf (.sl (.int .i64)))), (1, .a (.lf (.sl (.int .i64)))), (5, .a (.lf (.int .i64)))], mem := [], nx := 0 }]
def qoi : List OS := [⟨none, { fr := [(4, .a (.lf (.int .i64)))], mem := [], nx := 0 }⟩, ⟨some 0, { fr := [], mem := [], nx := 0 }⟩]
def qoj (k : Nat) : LInst := ⟨0, qjk, qoi, fun x => qat k k x.1 x.2.1 x.2.2⟩
theorem qEQ (k : Nat) : qg (LOk (R := DS OS.D qoi) (fun b _ σ K => LOt Ty (kps 146) 0 b σ K []) cf (call cf k) (kps 146) Tryz.f146.ntmps k 0) 0 (lb Tryz.f146 0) :=
 qA (qA qT (qA qT qT)) (qA (qA (qA qT (qA (qA qT qT) qT)) (qA qT (qA (qA qT qT) qT))) qT)
theorem qER (k n : Nat) (x : DS SS.D qjk) : qat k (n + 1) x.1 x.2.1 x.2.2 = qu SS.enc (fun σ => qx cf (fun f a b K => COt f a b K []) (fun b _ σ K => LOt Ty (kps 146) 0 b σ K []) Tryz.f146.ntmps 0 (lb Tryz.f146 0) σ (qw Ty (kps 146 0) 0 qjk qoi fun x => qat k n x.1 x.2.1 x.2.2)) qjk x := by kernel_rfl
theorem qES (k : Nat) : qL cf (call cf k) (kps 146) Tryz.f146.ntmps k 0 0 (lb Tryz.f146 0) (qoj k) :=
 qq (c := cf) (callF := call cf k) (kp := kps 146) (nt := Tryz.f146.ntmps) (k := k) (p := 0) (b := 0) (x0 := lb Tryz.f146 0) (hs := qjk) (os := qoi) (qd (qzK k)) (qEQ k) (fun n x => qat k n x.1 x.2.1 x.2.2) (fun _ => rfl) (qER k)
theorem qJw (k : Nat) : qg (LOk (R := DS FS.D qrB) (fun b _ σ K => LOt Ty (kps 146) 0 b σ K [qoj k]) cf (call cf k) (cf.keep 146) Tryz.f146.ntmps k qk2.bs.length) 0 (bd Tryz.f146) :=
 qA qT (qA (qA qT (qA (qA (qA qT (qA (qA qT qT) qT)) (qA qT qT)) qT)) (qA (qA qT (qt (c := cf) (callF := call cf k) (kp := kps 146) (nt := Tryz.f146.ntmps) (k := k) (p := 0) (b := 0) (x0 := lb Tryz.f146 0) (l := [qoj k]) (qA (fun _ => qES k) qT))) (qA qT qT)))
theorem qJx (k : Nat) (x : qk2.D) : qbN (k + 1) x.1 x.2 = qi cf (fun f a b K => COt f a b K []) (fun b _ σ K => LOt Ty (kps 146) 0 b σ K [qoj k]) 146 Tryz.f146.ntmps Tryz.f146.results.toList (bd Tryz.f146) (qk2.enc x).1 (qk2.enc x).2 (qk FS.dec qrB) := by kernel_rfl
theorem qzL : ∀ k, qh (call cf k) (qpz k)
 | 0 => fun x y e => absurd (show (none : Option _) = some y from e) (by simp)
 | k + 1 => qe (c := cf) (k := k) (f := 146) (fn := Tryz.f146) (body := bd Tryz.f146) (sh := qk2) (os := qrB) rfl Tryz.func146 rfl ⟨rfl, Nat.le_of_ble_eq_true rfl⟩ (qd (qzK k)) (qJw k) (fun x => qbN (k + 1) x.1 x.2) (qJx k)

def qa4 (k : Nat) (rec : List Int → List Int → Nat → Int → Int → List Int → Option (Nat × List Int)) (a : List Int) (b : List Int) (d : Nat) (borrow : Int) (i : Int) (ds : List Int) : Option (Nat × List Int) :=
 if ((decide (i < (((List.length a) : Nat) : Int))) = true) then
 if ((0 : Int) ≤ i) then
 Option.bind (a)[(Int.toNat i)]? fun x4 =>
 if ((decide (i < (((List.length b) : Nat) : Int))) = true) then
 if ((0 : Int) ≤ i) then
 Option.bind (b)[(Int.toNat i)]? fun x5 =>
 if ((decide ((IntKind.wrap .i64 ((IntKind.wrap .i64 (x4 - borrow)) - x5)) < (0 : Int))) = true) then
 if (d ≤ (List.length ds)) then
 if (((d + (List.length (List.take 1 ((IntKind.wrap .i64 ((IntKind.wrap .i64 ((IntKind.wrap .i64 (x4 - borrow)) - x5)) + (65536 : Int))) :: [])))) * 8) ≤ 140737488355328) then
 rec a b (d + (List.length (List.take 1 ((IntKind.wrap .i64 ((IntKind.wrap .i64 ((IntKind.wrap .i64 (x4 - borrow)) - x5)) + (65536 : Int))) :: [])))) (1 : Int) (IntKind.wrap .i64 (i + (1 : Int))) ((List.take d ds) ++ (List.take 1 ((IntKind.wrap .i64 ((IntKind.wrap .i64 ((IntKind.wrap .i64 (x4 - borrow)) - x5)) + (65536 : Int))) :: [])))
 else
 none
 else
 none
 else
 if (d ≤ (List.length ds)) then
 if (((d + (List.length (List.take 1 ((IntKind.wrap .i64 ((IntKind.wrap .i64 (x4 - borrow)) - x5)) :: [])))) * 8) ≤ 140737488355328) then
 rec a b (d + (List.length (List.take 1 ((IntKind.wrap .i64 ((IntKind.wrap .i64 (x4 - borrow)) - x5)) :: [])))) (0 : Int) (IntKind.wrap .i64 (i + (1 : Int))) ((List.take d ds) ++ (List.take 1 ((IntKind.wrap .i64 ((IntKind.wrap .i64 (x4 - borrow)) - x5)) :: [])))
 else
 none
 else
 none
 else
 none
 else
 if ((decide ((IntKind.wrap .i64 (x4 - borrow)) < (0 : Int))) = true) then
 if (d ≤ (List.length ds)) then
 if (((d + (List.length (List.take 1 ((IntKind.wrap .i64 ((IntKind.wrap .i64 (x4 - borrow)) + (65536 : Int))) :: [])))) * 8) ≤ 140737488355328) then
 rec a b (d + (List.length (List.take 1 ((IntKind.wrap .i64 ((IntKind.wrap .i64 (x4 - borrow)) + (65536 : Int))) :: [])))) (1 : Int) (IntKind.wrap .i64 (i + (1 : Int))) ((List.take d ds) ++ (List.take 1 ((IntKind.wrap .i64 ((IntKind.wrap .i64 (x4 - borrow)) + (65536 : Int))) :: [])))
 else
 none
 else
 none
 else
 if (d ≤ (List.length ds)) then
 if (((d + (List.length (List.take 1 ((IntKind.wrap .i64 (x4 - borrow)) :: [])))) * 8) ≤ 140737488355328) then
 rec a b (d + (List.length (List.take 1 ((IntKind.wrap .i64 (x4 - borrow)) :: [])))) (0 : Int) (IntKind.wrap .i64 (i + (1 : Int))) ((List.take d ds) ++ (List.take 1 ((IntKind.wrap .i64 (x4 - borrow)) :: [])))
 else
 none
 else
 none
 else
 none
 else
 (some (d, ds))
def qad (k n : Nat) : List Int → List Int → Nat → Int → Int → List Int → Option (Nat × List Int) := Nat.rec (fun _ _ _ _ _ _ => none) (fun _ r => qa4 k r) n
def qeL (k : Nat) (a : List Int) (b : List Int) : Option (List Int) :=
 Option.bind (qad k k a b 0 (0 : Int) (0 : Int) []) fun r7 =>
 Option.bind (qC k r7.1 r7.2) fun r8 =>
 if ((0 + r8.1) ≤ (List.length r8.2)) then
 (some (List.take r8.1 r8.2))
 else
 none
def qao : Nat → List Int → List Int → Option (List Int)
 | 0, _, _ => none
 | k + 1, a, b => qeL k a b
def qk3 : FS := { vs := [.a (.lf (.sl (.int .i64))), .a (.lf (.sl (.int .i64)))], bs := [] }
def qrC : List FS := [{ vs := [.a (.lf (.sl (.int .i64)))], bs := [] }]
def qpA (k : Nat) : Inst := ⟨147, qk3, qrC, fun x => qao k x.1 x.2⟩
theorem qzM (k : Nat) : qp (call cf k) [qfM k] := qA (qrz k) qT
def qjl : List SS := [{ fr := [(0, .a (.lf (.sl (.int .i64)))), (1, .a (.lf (.sl (.int .i64)))), (5, .a (.smz 0)), (6, .a (.lf (.int .i64))), (7, .a (.lf (.int .i64)))], mem := [(0, some (.arr (.int .i64) 1 3 false))], nx := 1 }]
def qok : List OS := [⟨some 0, { fr := [(5, .a (.smz 0))], mem := [(0, some (.arr (.int .i64) 1 3 false))], nx := 1 }⟩]
def qol (k : Nat) : LInst := ⟨0, qjl, qok, fun x => qad k k x.1 x.2.1 x.2.2.1 x.2.2.2.1 x.2.2.2.2.1 x.2.2.2.2.2⟩
theorem qET (k : Nat) : qg (LOk (R := DS OS.D qok) (fun b _ σ K => LOt Ty (kps 147) 0 b σ K []) cf (call cf k) (kps 147) Tryz.f147.ntmps k 0) 0 (lb Tryz.f147 0) :=
 qA (qA qT (qA qT qT)) (qA (qA qT (qA (qA qT (qA qT qT)) (qA qT (qA (qA qT (qA (qA qT qT) qT)) qT)))) qT)
theorem qEU (k n : Nat) (x : DS SS.D qjl) : qad k (n + 1) x.1 x.2.1 x.2.2.1 x.2.2.2.1 x.2.2.2.2.1 x.2.2.2.2.2 = qu SS.enc (fun σ => qx cf (fun f a b K => COt f a b K [qfM k]) (fun b _ σ K => LOt Ty (kps 147) 0 b σ K []) Tryz.f147.ntmps 0 (lb Tryz.f147 0) σ (qw Ty (kps 147 0) 0 qjl qok fun x => qad k n x.1 x.2.1 x.2.2.1 x.2.2.2.1 x.2.2.2.2.1 x.2.2.2.2.2)) qjl x := by kernel_rfl
theorem qEV (k : Nat) : qL cf (call cf k) (kps 147) Tryz.f147.ntmps k 0 0 (lb Tryz.f147 0) (qol k) :=
 qq (c := cf) (callF := call cf k) (kp := kps 147) (nt := Tryz.f147.ntmps) (k := k) (p := 0) (b := 0) (x0 := lb Tryz.f147 0) (hs := qjl) (os := qok) (qd (qzM k)) (qET k) (fun n x => qad k n x.1 x.2.1 x.2.2.1 x.2.2.2.1 x.2.2.2.2.1 x.2.2.2.2.2) (fun _ => rfl) (qEU k)
theorem qJy (k : Nat) : qg (LOk (R := DS FS.D qrC) (fun b _ σ K => LOt Ty (kps 147) 0 b σ K [qol k]) cf (call cf k) (cf.keep 147) Tryz.f147.ntmps k qk3.bs.length) 0 (bd Tryz.f147) :=
 qA qT (qA qT (qA qT (qA (qA qT (qt (c := cf) (callF := call cf k) (kp := kps 147) (nt := Tryz.f147.ntmps) (k := k) (p := 0) (b := 0) (x0 := lb Tryz.f147 0) (l := [qol k]) (qA (fun _ => qEV k) qT))) (qA qT qT))))
theorem qJz (k : Nat) (x : qk3.D) : qao (k + 1) x.1 x.2 = qi cf (fun f a b K => COt f a b K [qfM k]) (fun b _ σ K => LOt Ty (kps 147) 0 b σ K [qol k]) 147 Tryz.f147.ntmps Tryz.f147.results.toList (bd Tryz.f147) (qk3.enc x).1 (qk3.enc x).2 (qk FS.dec qrC) := by kernel_rfl
theorem qzN : ∀ k, qh (call cf k) (qpA k)
 | 0 => fun x y e => absurd (show (none : Option _) = some y from e) (by simp)
 | k + 1 => qe (c := cf) (k := k) (f := 147) (fn := Tryz.f147) (body := bd Tryz.f147) (sh := qk3) (os := qrC) rfl Tryz.func147 rfl ⟨rfl, Nat.le_of_ble_eq_true rfl⟩ (qd (qzM k)) (qJy k) (fun x => qao (k + 1) x.1 x.2) (qJz k)

def qbO (k : Nat) (a0 : Bool) (a1 : List Int) (b0 : Bool) (b1 : List Int) : Option (Bool × List Int) :=
 if ((a0 == b0) = true) then
 Option.bind (qbM k a1 b1) fun r6 =>
 if (a0 = true) then
 (some ((decide ((((List.length r6) : Nat) : Int) > (0 : Int))), r6))
 else
 (some (false, r6))
 else
 Option.bind (qbN k a1 b1) fun r6 =>
 if ((decide (r6 ≥ (0 : Int))) = true) then
 Option.bind (qao k a1 b1) fun r7 =>
 if (a0 = true) then
 (some ((decide ((((List.length r7) : Nat) : Int) > (0 : Int))), r7))
 else
 (some (false, r7))
 else
 Option.bind (qao k b1 a1) fun r7 =>
 (some (b0, r7))
def qa5 : Nat → Bool → List Int → Bool → List Int → Option (Bool × List Int)
 | 0, _, _, _, _ => none
 | k + 1, a0, a1, b0, b1 => qbO k a0 a1 b0 b1
def qk4 : FS := { vs := [.g [.lf .bool, .lf (.sl (.int .i64))], .g [.lf .bool, .lf (.sl (.int .i64))]], bs := [] }
def qrD : List FS := [{ vs := [.g [.lf .bool, .lf (.sl (.int .i64))]], bs := [] }]
def qvF (k : Nat) : Inst := ⟨90, qk4, qrD, fun x => qa5 k x.1 x.2.1 x.2.2.1 x.2.2.2⟩
theorem qJA (k : Nat) : qp (call cf k) [qyp k, qpz k, qpA k] := qA (qJv k) (qA (qzL k) (qA (qzN k) qT))
theorem qJB (k : Nat) : qg (LOk (R := DS FS.D qrD) (fun b _ σ K => LOt Ty (kps 90) 0 b σ K []) cf (call cf k) (cf.keep 90) Tryz.f90.ntmps k qk4.bs.length) 0 (bd Tryz.f90) :=
 qA qT (qA (qA qT (qA (qA qT (qA qT qT)) qT)) (qA (qA qT (qA (qA qT (qA qT qT)) qT)) (qA qT qT)))
theorem qJC (k : Nat) (x : qk4.D) : qa5 (k + 1) x.1 x.2.1 x.2.2.1 x.2.2.2 = qi cf (fun f a b K => COt f a b K [qyp k, qpz k, qpA k]) (fun b _ σ K => LOt Ty (kps 90) 0 b σ K []) 90 Tryz.f90.ntmps Tryz.f90.results.toList (bd Tryz.f90) (qk4.enc x).1 (qk4.enc x).2 (qk FS.dec qrD) := by kernel_rfl
theorem qJD : ∀ k, qh (call cf k) (qvF k)
 | 0 => fun x y e => absurd (show (none : Option _) = some y from e) (by simp)
 | k + 1 => qe (c := cf) (k := k) (f := 90) (fn := Tryz.f90) (body := bd Tryz.f90) (sh := qk4) (os := qrD) rfl Tryz.func90 rfl ⟨rfl, Nat.le_of_ble_eq_true rfl⟩ (qd (qJA k)) (qJB k) (fun x => qa5 (k + 1) x.1 x.2.1 x.2.2.1 x.2.2.2) (qJC k)

def qa6 (k : Nat) (rec : Int → Bool → Nat → Bool → Nat → List Int → List Int → Option (Bool × Nat × Bool × Nat × List Int × List Int)) (v : Int) (x0 : Bool) (x1 : Nat) (a0 : Bool) (a1 : Nat) (m : List Int) (m1 : List Int) : Option (Bool × Nat × Bool × Nat × List Int × List Int) :=
 if ((decide (v > (0 : Int))) = true) then
 if (a1 ≤ (List.length m1)) then
 if (((a1 + (List.length (List.take 1 ((Int.tmod v (65536 : Int)) :: [])))) * 8) ≤ 140737488355328) then
 rec (IntKind.wrap .i64 (Int.tdiv v (65536 : Int))) x0 x1 a0 (a1 + (List.length (List.take 1 ((Int.tmod v (65536 : Int)) :: [])))) m ((List.take a1 m1) ++ (List.take 1 ((Int.tmod v (65536 : Int)) :: [])))
 else
 none
 else
 none
 else
 (some (x0, x1, a0, a1, m, m1))
def qae (k n : Nat) : Int → Bool → Nat → Bool → Nat → List Int → List Int → Option (Bool × Nat × Bool × Nat × List Int × List Int) := Nat.rec (fun _ _ _ _ _ _ _ => none) (fun _ r => qa6 k r) n
def qcP (k : Nat) (v : Int) : Option (Bool × List Int) :=
 if ((decide (v < (0 : Int))) = true) then
 Option.bind (qae k k (IntKind.wrap .i64 ((0 : Int) - v)) false 0 true 0 [] []) fun r6 =>
 if ((0 + r6.2.2.2.1) ≤ (List.length r6.2.2.2.2.2)) then
 (some (r6.2.2.1, (List.take r6.2.2.2.1 r6.2.2.2.2.2)))
 else
 none
 else
 Option.bind (qae k k v false 0 false 0 [] []) fun r6 =>
 if ((0 + r6.2.2.2.1) ≤ (List.length r6.2.2.2.2.2)) then
 (some (r6.2.2.1, (List.take r6.2.2.2.1 r6.2.2.2.2.2)))
 else
 none
def qW : Nat → Int → Option (Bool × List Int)
 | 0, _ => none
 | k + 1, v => qcP k v
def qk5 : FS := { vs := [.a (.lf (.int .i64))], bs := [] }
def qrE : List FS := [{ vs := [.g [.lf .bool, .lf (.sl (.int .i64))]], bs := [] }]
def qg6 (k : Nat) : Inst := ⟨94, qk5, qrE, fun x => qW k x⟩
theorem qzO (k : Nat) : qp (call cf k) [] := True.intro
def qjm : List SS := [{ fr := [(0, .a (.lf (.int .i64))), (2, .a (.ptr 0 0 0)), (3, .a (.ptr 1 0 0))], mem := [(0, some (.raw [[.lf .bool, .smz 2]] 2 154 false false false)), (1, some (.raw [[.lf .bool, .smz 3]] 2 154 false false false)), (2, some (.arr (.int .i64) 1 3 false)), (3, some (.arr (.int .i64) 1 3 false))], nx := 4 }]
def qom : List OS := [⟨some 0, { fr := [(2, .a (.ptr 0 0 0)), (3, .a (.ptr 1 0 0))], mem := [(0, some (.raw [[.lf .bool, .smz 2]] 2 154 false false false)), (1, some (.raw [[.lf .bool, .smz 3]] 2 154 false false false)), (2, some (.arr (.int .i64) 1 3 false)), (3, some (.arr (.int .i64) 1 3 false))], nx := 4 }⟩]
def qon (k : Nat) : LInst := ⟨0, qjm, qom, fun x => qae k k x.1 x.2.1 x.2.2.1 x.2.2.2.1 x.2.2.2.2.1 x.2.2.2.2.2.1 x.2.2.2.2.2.2⟩
theorem qEW (k : Nat) : qg (LOk (R := DS OS.D qom) (fun b _ σ K => LOt Ty (kps 94) 0 b σ K []) cf (call cf k) (kps 94) Tryz.f94.ntmps k 0) 0 (lb Tryz.f94 0) :=
 qA (qA qT (qA qT qT)) (qA qT qT)
theorem qEX (k n : Nat) (x : DS SS.D qjm) : qae k (n + 1) x.1 x.2.1 x.2.2.1 x.2.2.2.1 x.2.2.2.2.1 x.2.2.2.2.2.1 x.2.2.2.2.2.2 = qu SS.enc (fun σ => qx cf (fun f a b K => COt f a b K []) (fun b _ σ K => LOt Ty (kps 94) 0 b σ K []) Tryz.f94.ntmps 0 (lb Tryz.f94 0) σ (qw Ty (kps 94 0) 0 qjm qom fun x => qae k n x.1 x.2.1 x.2.2.1 x.2.2.2.1 x.2.2.2.2.1 x.2.2.2.2.2.1 x.2.2.2.2.2.2)) qjm x := by kernel_rfl
theorem qEY (k : Nat) : qL cf (call cf k) (kps 94) Tryz.f94.ntmps k 0 0 (lb Tryz.f94 0) (qon k) :=
 qq (c := cf) (callF := call cf k) (kp := kps 94) (nt := Tryz.f94.ntmps) (k := k) (p := 0) (b := 0) (x0 := lb Tryz.f94 0) (hs := qjm) (os := qom) (qd (qzO k)) (qEW k) (fun n x => qae k n x.1 x.2.1 x.2.2.1 x.2.2.2.1 x.2.2.2.2.1 x.2.2.2.2.2.1 x.2.2.2.2.2.2) (fun _ => rfl) (qEX k)
theorem qJE (k : Nat) : qg (LOk (R := DS FS.D qrE) (fun b _ σ K => LOt Ty (kps 94) 0 b σ K [qon k]) cf (call cf k) (cf.keep 94) Tryz.f94.ntmps k qk5.bs.length) 0 (bd Tryz.f94) :=
 qA qT (qA qT (qA (qA qT (qA (qA qT qT) qT)) (qA (qt (c := cf) (callF := call cf k) (kp := kps 94) (nt := Tryz.f94.ntmps) (k := k) (p := 0) (b := 0) (x0 := lb Tryz.f94 0) (l := [qon k]) (qA (fun _ => qEY k) qT)) (qA qT qT))))
theorem qJF (k : Nat) (x : qk5.D) : qW (k + 1) x = qi cf (fun f a b K => COt f a b K []) (fun b _ σ K => LOt Ty (kps 94) 0 b σ K [qon k]) 94 Tryz.f94.ntmps Tryz.f94.results.toList (bd Tryz.f94) (qk5.enc x).1 (qk5.enc x).2 (qk FS.dec qrE) := by kernel_rfl
theorem qvG : ∀ k, qh (call cf k) (qg6 k)
 | 0 => fun x y e => absurd (show (none : Option _) = some y from e) (by simp)
 | k + 1 => qe (c := cf) (k := k) (f := 94) (fn := Tryz.f94) (body := bd Tryz.f94) (sh := qk5) (os := qrE) rfl Tryz.func94 rfl ⟨rfl, Nat.le_of_ble_eq_true rfl⟩ (qd (qzO k)) (qJE k) (fun x => qW (k + 1) x) (qJF k)

def qfg (k : Nat) (a0 : Bool) (a1 : List Int) : Option (Int) :=
 if (((((List.length a1) : Nat) : Int) == (0 : Int)) = true) then
 (some (0 : Int))
 else
 if (a0 = true) then
 (some (-(1 : Int)))
 else
 (some (1 : Int))
def qcv : Nat → Bool → List Int → Option (Int)
 | 0, _, _ => none
 | k + 1, a0, a1 => qfg k a0 a1
def qk6 : FS := { vs := [.g [.lf .bool, .lf (.sl (.int .i64))]], bs := [] }
def qrF : List FS := [{ vs := [.a (.lf (.int .i64))], bs := [] }]
def qyq (k : Nat) : Inst := ⟨149, qk6, qrF, fun x => qcv k x.1 x.2⟩
theorem qJG (k : Nat) : qp (call cf k) [] := True.intro
theorem qJH (k : Nat) : qg (LOk (R := DS FS.D qrF) (fun b _ σ K => LOt Ty (kps 149) 0 b σ K []) cf (call cf k) (cf.keep 149) Tryz.f149.ntmps k qk6.bs.length) 0 (bd Tryz.f149) :=
 qA qT (qA (qA qT (qA (qA qT qT) qT)) (qA (qA qT (qA (qA qT qT) qT)) (qA qT qT)))
theorem qJI (k : Nat) (x : qk6.D) : qcv (k + 1) x.1 x.2 = qi cf (fun f a b K => COt f a b K []) (fun b _ σ K => LOt Ty (kps 149) 0 b σ K []) 149 Tryz.f149.ntmps Tryz.f149.results.toList (bd Tryz.f149) (qk6.enc x).1 (qk6.enc x).2 (qk FS.dec qrF) := by kernel_rfl
theorem qJJ : ∀ k, qh (call cf k) (qyq k)
 | 0 => fun x y e => absurd (show (none : Option _) = some y from e) (by simp)
 | k + 1 => qe (c := cf) (k := k) (f := 149) (fn := Tryz.f149) (body := bd Tryz.f149) (sh := qk6) (os := qrF) rfl Tryz.func149 rfl ⟨rfl, Nat.le_of_ble_eq_true rfl⟩ (qd (qJG k)) (qJH k) (fun x => qcv (k + 1) x.1 x.2) (qJI k)

def qcQ (k : Nat) (a0 : Bool) (a1 : List Int) : Option (Bool × List Int) :=
 if (((((List.length a1) : Nat) : Int) == (0 : Int)) = true) then
 (some (false, []))
 else
 (some ((!a0), a1))
def qbc : Nat → Bool → List Int → Option (Bool × List Int)
 | 0, _, _ => none
 | k + 1, a0, a1 => qcQ k a0 a1
def qk7 : FS := { vs := [.g [.lf .bool, .lf (.sl (.int .i64))]], bs := [] }
def qrG : List FS := [{ vs := [.g [.lf .bool, .lf (.sl (.int .i64))]], bs := [] }]
def qyr (k : Nat) : Inst := ⟨150, qk7, qrG, fun x => qbc k x.1 x.2⟩
theorem qJK (k : Nat) : qp (call cf k) [] := True.intro
theorem qJL (k : Nat) : qg (LOk (R := DS FS.D qrG) (fun b _ σ K => LOt Ty (kps 150) 0 b σ K []) cf (call cf k) (cf.keep 150) Tryz.f150.ntmps k qk7.bs.length) 0 (bd Tryz.f150) :=
 qA qT (qA (qA qT (qA (qA qT qT) qT)) (qA qT qT))
theorem qJM (k : Nat) (x : qk7.D) : qbc (k + 1) x.1 x.2 = qi cf (fun f a b K => COt f a b K []) (fun b _ σ K => LOt Ty (kps 150) 0 b σ K []) 150 Tryz.f150.ntmps Tryz.f150.results.toList (bd Tryz.f150) (qk7.enc x).1 (qk7.enc x).2 (qk FS.dec qrG) := by kernel_rfl
theorem qJN : ∀ k, qh (call cf k) (qyr k)
 | 0 => fun x y e => absurd (show (none : Option _) = some y from e) (by simp)
 | k + 1 => qe (c := cf) (k := k) (f := 150) (fn := Tryz.f150) (body := bd Tryz.f150) (sh := qk7) (os := qrG) rfl Tryz.func150 rfl ⟨rfl, Nat.le_of_ble_eq_true rfl⟩ (qd (qJK k)) (qJL k) (fun x => qbc (k + 1) x.1 x.2) (qJM k)

def qoo (k : Nat) (a0 : Bool) (a1 : List Int) : Option (Bool × List Int) :=
 (some (false, a1))
def qaW : Nat → Bool → List Int → Option (Bool × List Int)
 | 0, _, _ => none
 | k + 1, a0, a1 => qoo k a0 a1
def qk8 : FS := { vs := [.g [.lf .bool, .lf (.sl (.int .i64))]], bs := [] }
def qrH : List FS := [{ vs := [.g [.lf .bool, .lf (.sl (.int .i64))]], bs := [] }]
def qvH (k : Nat) : Inst := ⟨206, qk8, qrH, fun x => qaW k x.1 x.2⟩
theorem qJO (k : Nat) : qp (call cf k) [] := True.intro
theorem qJP (k : Nat) : qg (LOk (R := DS FS.D qrH) (fun b _ σ K => LOt Ty (kps 206) 0 b σ K []) cf (call cf k) (cf.keep 206) Tryz.f206.ntmps k qk8.bs.length) 0 (bd Tryz.f206) :=
 qA qT (qA qT qT)
theorem qJQ (k : Nat) (x : qk8.D) : qaW (k + 1) x.1 x.2 = qi cf (fun f a b K => COt f a b K []) (fun b _ σ K => LOt Ty (kps 206) 0 b σ K []) 206 Tryz.f206.ntmps Tryz.f206.results.toList (bd Tryz.f206) (qk8.enc x).1 (qk8.enc x).2 (qk FS.dec qrH) := by kernel_rfl
theorem qJR : ∀ k, qh (call cf k) (qvH k)
 | 0 => fun x y e => absurd (show (none : Option _) = some y from e) (by simp)
 | k + 1 => qe (c := cf) (k := k) (f := 206) (fn := Tryz.f206) (body := bd Tryz.f206) (sh := qk8) (os := qrH) rfl Tryz.func206 rfl ⟨rfl, Nat.le_of_ble_eq_true rfl⟩ (qd (qJO k)) (qJP k) (fun x => qaW (k + 1) x.1 x.2) (qJQ k)

def qb6 (k : Nat) (rec : Nat → Int → Int → Int → Bool → List Int → Bool → List Int → Bool → Nat → List Int → List Int → Option (Nat × Int × Int × Bool × List Int × Bool × List Int × Bool × Nat × List Int × List Int)) (d : Nat) (i : Int) (carry : Int) (j : Int) (a0 : Bool) (a1 : List Int) (b0 : Bool) (b1 : List Int) (x0 : Bool) (x1 : Nat) (ds : List Int) (m : List Int) : Option (Nat × Int × Int × Bool × List Int × Bool × List Int × Bool × Nat × List Int × List Int) :=
 if ((decide (j < (((List.length b1) : Nat) : Int))) = true) then
 if (((0 : Int) ≤ (IntKind.wrap .i64 (i + j))) ∧ ((IntKind.wrap .i64 (i + j)) < ((d : Nat) : Int))) then
 Option.bind (ds)[(0 + (Int.toNat (IntKind.wrap .i64 (i + j))))]? fun x2 =>
 if ((0 : Int) ≤ i) then
 Option.bind (a1)[(Int.toNat i)]? fun x3 =>
 if ((0 : Int) ≤ j) then
 Option.bind (b1)[(Int.toNat j)]? fun x4 =>
 if (((0 : Int) ≤ (IntKind.wrap .i64 (i + j))) ∧ ((IntKind.wrap .i64 (i + j)) < ((d : Nat) : Int))) then
 Option.bind (ds)[(0 + (Int.toNat (IntKind.wrap .i64 (i + j))))]? fun x5 =>
 rec d i (IntKind.wrap .i64 (Int.tdiv (IntKind.wrap .i64 ((IntKind.wrap .i64 (x2 + (IntKind.wrap .i64 (x3 * x4)))) + carry)) (65536 : Int))) (IntKind.wrap .i64 (j + (1 : Int))) a0 a1 b0 b1 x0 x1 (List.set ds (0 + (Int.toNat (IntKind.wrap .i64 (i + j)))) (Int.tmod (IntKind.wrap .i64 ((IntKind.wrap .i64 (x2 + (IntKind.wrap .i64 (x3 * x4)))) + carry)) (65536 : Int))) m
 else
 none
 else
 none
 else
 none
 else
 none
 else
 (some (d, i, carry, a0, a1, b0, b1, x0, x1, ds, m))
def qaD (k n : Nat) : Nat → Int → Int → Int → Bool → List Int → Bool → List Int → Bool → Nat → List Int → List Int → Option (Nat × Int × Int × Bool × List Int × Bool × List Int × Bool × Nat × List Int × List Int) := Nat.rec (fun _ _ _ _ _ _ _ _ _ _ _ _ => none) (fun _ r => qb6 k r) n
def qb7 (k : Nat) (rec : Nat → Int → Bool → List Int → Bool → List Int → Bool → Nat → List Int → List Int → Option (Nat × Bool × List Int × Bool × List Int × Bool × Nat × List Int × List Int)) (d : Nat) (i : Int) (a0 : Bool) (a1 : List Int) (b0 : Bool) (b1 : List Int) (x0 : Bool) (x1 : Nat) (ds : List Int) (m : List Int) : Option (Nat × Bool × List Int × Bool × List Int × Bool × Nat × List Int × List Int) :=
 if ((decide (i < (((List.length a1) : Nat) : Int))) = true) then
 Option.bind (qaD k k d i (0 : Int) (0 : Int) a0 a1 b0 b1 x0 x1 ds m) fun r15 =>
 if (((0 : Int) ≤ (IntKind.wrap .i64 (r15.2.1 + (((List.length r15.2.2.2.2.2.2.1) : Nat) : Int)))) ∧ ((IntKind.wrap .i64 (r15.2.1 + (((List.length r15.2.2.2.2.2.2.1) : Nat) : Int))) < ((r15.1 : Nat) : Int))) then
 Option.bind (r15.2.2.2.2.2.2.2.2.2.1)[(0 + (Int.toNat (IntKind.wrap .i64 (r15.2.1 + (((List.length r15.2.2.2.2.2.2.1) : Nat) : Int)))))]? fun x2 =>
 if (((0 : Int) ≤ (IntKind.wrap .i64 (r15.2.1 + (((List.length r15.2.2.2.2.2.2.1) : Nat) : Int)))) ∧ ((IntKind.wrap .i64 (r15.2.1 + (((List.length r15.2.2.2.2.2.2.1) : Nat) : Int))) < ((r15.1 : Nat) : Int))) then
 Option.bind (r15.2.2.2.2.2.2.2.2.2.1)[(0 + (Int.toNat (IntKind.wrap .i64 (r15.2.1 + (((List.length r15.2.2.2.2.2.2.1) : Nat) : Int)))))]? fun x3 =>
 rec r15.1 (IntKind.wrap .i64 (r15.2.1 + (1 : Int))) r15.2.2.2.1 r15.2.2.2.2.1 r15.2.2.2.2.2.1 r15.2.2.2.2.2.2.1 r15.2.2.2.2.2.2.2.1 r15.2.2.2.2.2.2.2.2.1 (List.set r15.2.2.2.2.2.2.2.2.2.1 (0 + (Int.toNat (IntKind.wrap .i64 (r15.2.1 + (((List.length r15.2.2.2.2.2.2.1) : Nat) : Int))))) (IntKind.wrap .i64 (x2 + r15.2.2.1))) r15.2.2.2.2.2.2.2.2.2.2
 else
 none
 else
 none
 else
 (some (d, a0, a1, b0, b1, x0, x1, ds, m))
def qaE (k n : Nat) : Nat → Int → Bool → List Int → Bool → List Int → Bool → Nat → List Int → List Int → Option (Nat × Bool × List Int × Bool × List Int × Bool × Nat × List Int × List Int) := Nat.rec (fun _ _ _ _ _ _ _ _ _ _ => none) (fun _ r => qb7 k r) n
def qeM (k : Nat) (a0 : Bool) (a1 : List Int) (b0 : Bool) (b1 : List Int) : Option (Bool × List Int) :=
 if (((0 : Int) ≤ (IntKind.wrap .i64 ((((List.length a1) : Nat) : Int) + (((List.length b1) : Nat) : Int)))) ∧ (((IntKind.wrap .i64 ((((List.length a1) : Nat) : Int) + (((List.length b1) : Nat) : Int))) ≤ (IntKind.wrap .i64 ((((List.length a1) : Nat) : Int) + (((List.length b1) : Nat) : Int)))) ∧ (((IntKind.wrap .i64 ((((List.length a1) : Nat) : Int) + (((List.length b1) : Nat) : Int))) * (8 : Int)) ≤ (140737488355328 : Int)))) then
 Option.bind (qaE k k (Int.toNat (IntKind.wrap .i64 ((((List.length a1) : Nat) : Int) + (((List.length b1) : Nat) : Int)))) (0 : Int) a0 a1 b0 b1 false 0 (List.replicate (Int.toNat (IntKind.wrap .i64 ((((List.length a1) : Nat) : Int) + (((List.length b1) : Nat) : Int)))) (0 : Int)) []) fun r15 =>
 Option.bind (qC k r15.1 r15.2.2.2.2.2.2.2.1) fun r16 =>
 if ((!(r15.2.1 == r15.2.2.2.1)) = true) then
 if ((0 + r16.1) ≤ (List.length r16.2)) then
 (some ((decide (((r16.1 : Nat) : Int) > (0 : Int))), (List.take r16.1 r16.2)))
 else
 none
 else
 if ((0 + r16.1) ≤ (List.length r16.2)) then
 (some (false, (List.take r16.1 r16.2)))
 else
 none
 else
 none
def qaS : Nat → Bool → List Int → Bool → List Int → Option (Bool × List Int)
 | 0, _, _, _, _ => none
 | k + 1, a0, a1, b0, b1 => qeM k a0 a1 b0 b1
def qk9 : FS := { vs := [.g [.lf .bool, .lf (.sl (.int .i64))], .g [.lf .bool, .lf (.sl (.int .i64))]], bs := [] }
def qrI : List FS := [{ vs := [.g [.lf .bool, .lf (.sl (.int .i64))]], bs := [] }]
def qlZ (k : Nat) : Inst := ⟨208, qk9, qrI, fun x => qaS k x.1 x.2.1 x.2.2.1 x.2.2.2⟩
theorem qvI (k : Nat) : qp (call cf k) [qfM k] := qA (qrz k) qT
def qjn : List SS := [{ fr := [(2, .a (.ptr 0 0 0)), (3, .a (.ptr 1 0 0)), (4, .a (.ptr 2 0 0)), (5, .a (.smz 3)), (6, .a (.lf (.int .i64))), (7, .a (.lf (.int .i64))), (8, .a (.lf (.int .i64)))], mem := [(0, some (.raw [[.lf .bool, .lf (.sl (.int .i64))]] 2 154 true false false)), (1, some (.raw [[.lf .bool, .lf (.sl (.int .i64))]] 2 154 true false false)), (2, some (.raw [[.lf .bool, .smz 4]] 2 154 false false false)), (3, some (.arr (.int .i64) 1 3 false)), (4, some (.arr (.int .i64) 1 3 false))], nx := 5 }]
def qop : List OS := [⟨some 2, { fr := [(2, .a (.ptr 0 0 0)), (3, .a (.ptr 1 0 0)), (4, .a (.ptr 2 0 0)), (5, .a (.smz 3)), (6, .a (.lf (.int .i64))), (7, .a (.lf (.int .i64)))], mem := [(0, some (.raw [[.lf .bool, .lf (.sl (.int .i64))]] 2 154 true false false)), (1, some (.raw [[.lf .bool, .lf (.sl (.int .i64))]] 2 154 true false false)), (2, some (.raw [[.lf .bool, .smz 4]] 2 154 false false false)), (3, some (.arr (.int .i64) 1 3 false)), (4, some (.arr (.int .i64) 1 3 false))], nx := 5 }⟩]
def qgM (k : Nat) : LInst := ⟨2, qjn, qop, fun x => qaD k k x.1 x.2.1 x.2.2.1 x.2.2.2.1 x.2.2.2.2.1 x.2.2.2.2.2.1 x.2.2.2.2.2.2.1 x.2.2.2.2.2.2.2.1 x.2.2.2.2.2.2.2.2.1 x.2.2.2.2.2.2.2.2.2.1 x.2.2.2.2.2.2.2.2.2.2.1 x.2.2.2.2.2.2.2.2.2.2.2⟩
theorem qEZ (k : Nat) : qg (LOk (R := DS OS.D qop) (fun b _ σ K => LOt Ty (kps 208) 0 b σ K []) cf (call cf k) (kps 208) Tryz.f208.ntmps k 0) 2 (lb Tryz.f208 1) :=
 qA (qA qT (qA qT qT)) (qA (qA qT (qA qT qT)) qT)
theorem qE0 (k n : Nat) (x : DS SS.D qjn) : qaD k (n + 1) x.1 x.2.1 x.2.2.1 x.2.2.2.1 x.2.2.2.2.1 x.2.2.2.2.2.1 x.2.2.2.2.2.2.1 x.2.2.2.2.2.2.2.1 x.2.2.2.2.2.2.2.2.1 x.2.2.2.2.2.2.2.2.2.1 x.2.2.2.2.2.2.2.2.2.2.1 x.2.2.2.2.2.2.2.2.2.2.2 = qu SS.enc (fun σ => qx cf (fun f a b K => COt f a b K [qfM k]) (fun b _ σ K => LOt Ty (kps 208) 0 b σ K []) Tryz.f208.ntmps 2 (lb Tryz.f208 1) σ (qw Ty (kps 208 2) 0 qjn qop fun x => qaD k n x.1 x.2.1 x.2.2.1 x.2.2.2.1 x.2.2.2.2.1 x.2.2.2.2.2.1 x.2.2.2.2.2.2.1 x.2.2.2.2.2.2.2.1 x.2.2.2.2.2.2.2.2.1 x.2.2.2.2.2.2.2.2.2.1 x.2.2.2.2.2.2.2.2.2.2.1 x.2.2.2.2.2.2.2.2.2.2.2)) qjn x := by kernel_rfl
theorem qE1 (k : Nat) : qL cf (call cf k) (kps 208) Tryz.f208.ntmps k 0 2 (lb Tryz.f208 1) (qgM k) :=
 qq (c := cf) (callF := call cf k) (kp := kps 208) (nt := Tryz.f208.ntmps) (k := k) (p := 0) (b := 2) (x0 := lb Tryz.f208 1) (hs := qjn) (os := qop) (qd (qvI k)) (qEZ k) (fun n x => qaD k n x.1 x.2.1 x.2.2.1 x.2.2.2.1 x.2.2.2.2.1 x.2.2.2.2.2.1 x.2.2.2.2.2.2.1 x.2.2.2.2.2.2.2.1 x.2.2.2.2.2.2.2.2.1 x.2.2.2.2.2.2.2.2.2.1 x.2.2.2.2.2.2.2.2.2.2.1 x.2.2.2.2.2.2.2.2.2.2.2) (fun _ => rfl) (qE0 k)
def qjo : List SS := [{ fr := [(2, .a (.ptr 0 0 0)), (3, .a (.ptr 1 0 0)), (4, .a (.ptr 2 0 0)), (5, .a (.smz 3)), (6, .a (.lf (.int .i64)))], mem := [(0, some (.raw [[.lf .bool, .lf (.sl (.int .i64))]] 2 154 true false false)), (1, some (.raw [[.lf .bool, .lf (.sl (.int .i64))]] 2 154 true false false)), (2, some (.raw [[.lf .bool, .smz 4]] 2 154 false false false)), (3, some (.arr (.int .i64) 1 3 false)), (4, some (.arr (.int .i64) 1 3 false))], nx := 5 }]
def qoq : List OS := [⟨some 0, { fr := [(2, .a (.ptr 0 0 0)), (3, .a (.ptr 1 0 0)), (4, .a (.ptr 2 0 0)), (5, .a (.smz 3))], mem := [(0, some (.raw [[.lf .bool, .lf (.sl (.int .i64))]] 2 154 true false false)), (1, some (.raw [[.lf .bool, .lf (.sl (.int .i64))]] 2 154 true false false)), (2, some (.raw [[.lf .bool, .smz 4]] 2 154 false false false)), (3, some (.arr (.int .i64) 1 3 false)), (4, some (.arr (.int .i64) 1 3 false))], nx := 5 }⟩]
def qor (k : Nat) : LInst := ⟨0, qjo, qoq, fun x => qaE k k x.1 x.2.1 x.2.2.1 x.2.2.2.1 x.2.2.2.2.1 x.2.2.2.2.2.1 x.2.2.2.2.2.2.1 x.2.2.2.2.2.2.2.1 x.2.2.2.2.2.2.2.2.1 x.2.2.2.2.2.2.2.2.2⟩
theorem qE2 (k : Nat) : qg (LOk (R := DS OS.D qoq) (fun b _ σ K => LOt Ty (kps 208) 0 b σ K [qgM k]) cf (call cf k) (kps 208) Tryz.f208.ntmps k 0) 0 (lb Tryz.f208 0) :=
 qA (qA qT (qA qT qT)) (qA (qA qT (qA (qA qT (qt (c := cf) (callF := call cf k) (kp := kps 208) (nt := Tryz.f208.ntmps) (k := k) (p := 0) (b := 2) (x0 := lb Tryz.f208 1) (l := [qgM k]) (qA (fun _ => qE1 k) qT))) qT)) qT)
theorem qE3 (k n : Nat) (x : DS SS.D qjo) : qaE k (n + 1) x.1 x.2.1 x.2.2.1 x.2.2.2.1 x.2.2.2.2.1 x.2.2.2.2.2.1 x.2.2.2.2.2.2.1 x.2.2.2.2.2.2.2.1 x.2.2.2.2.2.2.2.2.1 x.2.2.2.2.2.2.2.2.2 = qu SS.enc (fun σ => qx cf (fun f a b K => COt f a b K [qfM k]) (fun b _ σ K => LOt Ty (kps 208) 0 b σ K [qgM k]) Tryz.f208.ntmps 0 (lb Tryz.f208 0) σ (qw Ty (kps 208 0) 0 qjo qoq fun x => qaE k n x.1 x.2.1 x.2.2.1 x.2.2.2.1 x.2.2.2.2.1 x.2.2.2.2.2.1 x.2.2.2.2.2.2.1 x.2.2.2.2.2.2.2.1 x.2.2.2.2.2.2.2.2.1 x.2.2.2.2.2.2.2.2.2)) qjo x := by kernel_rfl
theorem qE4 (k : Nat) : qL cf (call cf k) (kps 208) Tryz.f208.ntmps k 0 0 (lb Tryz.f208 0) (qor k) :=
 qq (c := cf) (callF := call cf k) (kp := kps 208) (nt := Tryz.f208.ntmps) (k := k) (p := 0) (b := 0) (x0 := lb Tryz.f208 0) (hs := qjo) (os := qoq) (qd (qvI k)) (qE2 k) (fun n x => qaE k n x.1 x.2.1 x.2.2.1 x.2.2.2.1 x.2.2.2.2.1 x.2.2.2.2.2.1 x.2.2.2.2.2.2.1 x.2.2.2.2.2.2.2.1 x.2.2.2.2.2.2.2.2.1 x.2.2.2.2.2.2.2.2.2) (fun _ => rfl) (qE3 k)
theorem qJS (k : Nat) : qg (LOk (R := DS FS.D qrI) (fun b _ σ K => LOt Ty (kps 208) 0 b σ K [qgM k, qor k]) cf (call cf k) (cf.keep 208) Tryz.f208.ntmps k qk9.bs.length) 0 (bd Tryz.f208) :=
 qA qT (qA qT (qA (qA qT (qt (c := cf) (callF := call cf k) (kp := kps 208) (nt := Tryz.f208.ntmps) (k := k) (p := 0) (b := 0) (x0 := lb Tryz.f208 0) (l := [qgM k, qor k]) (qA (fun h => absurd (show (2 : Nat) = 0 from h) (by decide)) (qA (fun _ => qE4 k) qT)))) (qA qT (qA qT qT))))
theorem qJT (k : Nat) (x : qk9.D) : qaS (k + 1) x.1 x.2.1 x.2.2.1 x.2.2.2 = qi cf (fun f a b K => COt f a b K [qfM k]) (fun b _ σ K => LOt Ty (kps 208) 0 b σ K [qgM k, qor k]) 208 Tryz.f208.ntmps Tryz.f208.results.toList (bd Tryz.f208) (qk9.enc x).1 (qk9.enc x).2 (qk FS.dec qrI) := by kernel_rfl
theorem qzP : ∀ k, qh (call cf k) (qlZ k)
 | 0 => fun x y e => absurd (show (none : Option _) = some y from e) (by simp)
 | k + 1 => qe (c := cf) (k := k) (f := 208) (fn := Tryz.f208) (body := bd Tryz.f208) (sh := qk9) (os := qrI) rfl Tryz.func208 rfl ⟨rfl, Nat.le_of_ble_eq_true rfl⟩ (qd (qvI k)) (qJS k) (fun x => qaS (k + 1) x.1 x.2.1 x.2.2.1 x.2.2.2) (qJT k)

def qap (k : Nat) (rec : List Int → List Int → Int → Int → Option (Int)) (r : List Int) (b : List Int) (low : Int) (high : Int) : Option (Int) :=
 if ((decide (low < high)) = true) then
 Option.bind (qW k (IntKind.wrap .i64 (Int.tdiv (IntKind.wrap .i64 ((IntKind.wrap .i64 (low + high)) + (1 : Int))) (2 : Int)))) fun r14 =>
 Option.bind (qaS k false b r14.1 r14.2) fun r15 =>
 Option.bind (qbN k r15.2 r) fun r16 =>
 if ((decide (r16 ≤ (0 : Int))) = true) then
 rec r b (IntKind.wrap .i64 (Int.tdiv (IntKind.wrap .i64 ((IntKind.wrap .i64 (low + high)) + (1 : Int))) (2 : Int))) high
 else
 rec r b low (IntKind.wrap .i64 ((IntKind.wrap .i64 (Int.tdiv (IntKind.wrap .i64 ((IntKind.wrap .i64 (low + high)) + (1 : Int))) (2 : Int))) - (1 : Int)))
 else
 (some low)
def qam (k n : Nat) : List Int → List Int → Int → Int → Option (Int) := Nat.rec (fun _ _ _ _ => none) (fun _ r => qap k r) n
def qeN (k : Nat) (r : List Int) (b : List Int) : Option (Int) :=
 Option.bind (qbN k r b) fun r13 =>
 if ((decide (r13 < (0 : Int))) = true) then
 (some (0 : Int))
 else
 Option.bind (qam k k r b (0 : Int) (65535 : Int)) fun r14 =>
 (some r14)
def qbd : Nat → List Int → List Int → Option (Int)
 | 0, _, _ => none
 | k + 1, r, b => qeN k r b
def qla : FS := { vs := [.a (.lf (.sl (.int .i64))), .a (.lf (.sl (.int .i64)))], bs := [] }
def qrJ : List FS := [{ vs := [.a (.lf (.int .i64))], bs := [] }]
def qvJ (k : Nat) : Inst := ⟨207, qla, qrJ, fun x => qbd k x.1 x.2⟩
theorem qzQ (k : Nat) : qp (call cf k) [qpz k, qg6 k, qlZ k] := qA (qzL k) (qA (qvG k) (qA (qzP k) qT))
def qjp : List SS := [{ fr := [(0, .a (.lf (.sl (.int .i64)))), (1, .a (.lf (.sl (.int .i64)))), (5, .a (.lf (.int .i64))), (6, .a (.lf (.int .i64)))], mem := [], nx := 0 }]
def qos : List OS := [⟨some 0, { fr := [(5, .a (.lf (.int .i64)))], mem := [], nx := 0 }⟩]
def qot (k : Nat) : LInst := ⟨0, qjp, qos, fun x => qam k k x.1 x.2.1 x.2.2.1 x.2.2.2⟩
theorem qE5 (k : Nat) : qg (LOk (R := DS OS.D qos) (fun b _ σ K => LOt Ty (kps 207) 0 b σ K []) cf (call cf k) (kps 207) Tryz.f207.ntmps k 0) 0 (lb Tryz.f207 0) :=
 qA (qA qT (qA qT qT)) (qA qT (qA qT (qA qT qT)))
theorem qE6 (k n : Nat) (x : DS SS.D qjp) : qam k (n + 1) x.1 x.2.1 x.2.2.1 x.2.2.2 = qu SS.enc (fun σ => qx cf (fun f a b K => COt f a b K [qpz k, qg6 k, qlZ k]) (fun b _ σ K => LOt Ty (kps 207) 0 b σ K []) Tryz.f207.ntmps 0 (lb Tryz.f207 0) σ (qw Ty (kps 207 0) 0 qjp qos fun x => qam k n x.1 x.2.1 x.2.2.1 x.2.2.2)) qjp x := by kernel_rfl
theorem qE7 (k : Nat) : qL cf (call cf k) (kps 207) Tryz.f207.ntmps k 0 0 (lb Tryz.f207 0) (qot k) :=
 qq (c := cf) (callF := call cf k) (kp := kps 207) (nt := Tryz.f207.ntmps) (k := k) (p := 0) (b := 0) (x0 := lb Tryz.f207 0) (hs := qjp) (os := qos) (qd (qzQ k)) (qE5 k) (fun n x => qam k n x.1 x.2.1 x.2.2.1 x.2.2.2) (fun _ => rfl) (qE6 k)
theorem qJU (k : Nat) : qg (LOk (R := DS FS.D qrJ) (fun b _ σ K => LOt Ty (kps 207) 0 b σ K [qot k]) cf (call cf k) (cf.keep 207) Tryz.f207.ntmps k qla.bs.length) 0 (bd Tryz.f207) :=
 qA qT (qA qT (qA (qA qT (qA (qA qT qT) qT)) (qA (qt (c := cf) (callF := call cf k) (kp := kps 207) (nt := Tryz.f207.ntmps) (k := k) (p := 0) (b := 0) (x0 := lb Tryz.f207 0) (l := [qot k]) (qA (fun _ => qE7 k) qT)) (qA qT qT))))
theorem qJV (k : Nat) (x : qla.D) : qbd (k + 1) x.1 x.2 = qi cf (fun f a b K => COt f a b K [qpz k, qg6 k, qlZ k]) (fun b _ σ K => LOt Ty (kps 207) 0 b σ K [qot k]) 207 Tryz.f207.ntmps Tryz.f207.results.toList (bd Tryz.f207) (qla.enc x).1 (qla.enc x).2 (qk FS.dec qrJ) := by kernel_rfl
theorem qJW : ∀ k, qh (call cf k) (qvJ k)
 | 0 => fun x y e => absurd (show (none : Option _) = some y from e) (by simp)
 | k + 1 => qe (c := cf) (k := k) (f := 207) (fn := Tryz.f207) (body := bd Tryz.f207) (sh := qla) (os := qrJ) rfl Tryz.func207 rfl ⟨rfl, Nat.le_of_ble_eq_true rfl⟩ (qd (qzQ k)) (qJU k) (fun x => qbd (k + 1) x.1 x.2) (qJV k)

def qE (k : Nat) (rec : ((Nat × Nat × Int × Bool × List Int × Bool × List Int × Bool × Nat × Bool × Nat × List Int × List Int × List Int × List Int) ⊕ (Nat × List Int × Int × Bool × List Int × Bool × List Int × Bool × Nat × Bool × Nat × List Int × List Int × List Int)) → Option ((Nat × Nat × Bool × List Int × Bool × List Int × Bool × Nat × Bool × Nat × List Int × List Int × List Int × List Int) ⊕ (Nat × List Int × Bool × List Int × Bool × List Int × Bool × Nat × Bool × Nat × List Int × List Int × List Int))) (x : (Nat × Nat × Int × Bool × List Int × Bool × List Int × Bool × Nat × Bool × Nat × List Int × List Int × List Int × List Int) ⊕ (Nat × List Int × Int × Bool × List Int × Bool × List Int × Bool × Nat × Bool × Nat × List Int × List Int × List Int)) : Option ((Nat × Nat × Bool × List Int × Bool × List Int × Bool × Nat × Bool × Nat × List Int × List Int × List Int × List Int) ⊕ (Nat × List Int × Bool × List Int × Bool × List Int × Bool × Nat × Bool × Nat × List Int × List Int × List Int)) :=
 qc x
 (fun x =>
 if ((decide (x.2.2.1 ≥ (0 : Int))) = true) then
 if ((0 : Int) ≤ x.2.2.1) then
 Option.bind (x.2.2.2.2.1)[(Int.toNat x.2.2.1)]? fun x2 =>
 if ((0 + x.2.1) ≤ (List.length x.2.2.2.2.2.2.2.2.2.2.2.2.1)) then
 if (((1 + (List.length (List.take x.2.1 x.2.2.2.2.2.2.2.2.2.2.2.2.1))) * 8) ≤ 140737488355328) then
 Option.bind (qC k (1 + (List.length (List.take x.2.1 x.2.2.2.2.2.2.2.2.2.2.2.2.1))) ((List.take 1 (x2 :: [])) ++ (List.take x.2.1 x.2.2.2.2.2.2.2.2.2.2.2.2.1))) fun r12 =>
 if ((0 + r12.1) ≤ (List.length r12.2)) then
 Option.bind (qbd k (List.take r12.1 r12.2) x.2.2.2.2.2.2.1) fun r13 =>
 if ((decide (r13 > (0 : Int))) = true) then
 Option.bind (qW k r13) fun r14 =>
 Option.bind (qaS k false x.2.2.2.2.2.2.1 r14.1 r14.2) fun r15 =>
 if ((0 + r12.1) ≤ (List.length r12.2)) then
 Option.bind (qao k (List.take r12.1 r12.2) r15.2) fun r16 =>
 if (((0 : Int) ≤ x.2.2.1) ∧ (x.2.2.1 < ((x.1 : Nat) : Int))) then
 Option.bind (x.2.2.2.2.2.2.2.2.2.2.2.1)[(0 + (Int.toNat x.2.2.1))]? fun x3 =>
 rec (Sum.inr (x.1, r16, (IntKind.wrap .i64 (x.2.2.1 - (1 : Int))), x.2.2.2.1, x.2.2.2.2.1, x.2.2.2.2.2.1, x.2.2.2.2.2.2.1, x.2.2.2.2.2.2.2.1, x.2.2.2.2.2.2.2.2.1, x.2.2.2.2.2.2.2.2.2.1, x.2.2.2.2.2.2.2.2.2.2.1, (List.set x.2.2.2.2.2.2.2.2.2.2.2.1 (0 + (Int.toNat x.2.2.1)) r13), x.2.2.2.2.2.2.2.2.2.2.2.2.2.1, x.2.2.2.2.2.2.2.2.2.2.2.2.2.2))
 else
 none
 else
 none
 else
 if (((0 : Int) ≤ x.2.2.1) ∧ (x.2.2.1 < ((x.1 : Nat) : Int))) then
 Option.bind (x.2.2.2.2.2.2.2.2.2.2.2.1)[(0 + (Int.toNat x.2.2.1))]? fun x3 =>
 rec (Sum.inl (x.1, r12.1, (IntKind.wrap .i64 (x.2.2.1 - (1 : Int))), x.2.2.2.1, x.2.2.2.2.1, x.2.2.2.2.2.1, x.2.2.2.2.2.2.1, x.2.2.2.2.2.2.2.1, x.2.2.2.2.2.2.2.2.1, x.2.2.2.2.2.2.2.2.2.1, x.2.2.2.2.2.2.2.2.2.2.1, (List.set x.2.2.2.2.2.2.2.2.2.2.2.1 (0 + (Int.toNat x.2.2.1)) r13), r12.2, x.2.2.2.2.2.2.2.2.2.2.2.2.2.1, x.2.2.2.2.2.2.2.2.2.2.2.2.2.2))
 else
 none
 else
 none
 else
 none
 else
 none
 else
 none
 else
 (some (Sum.inl (x.1, x.2.1, x.2.2.2.1, x.2.2.2.2.1, x.2.2.2.2.2.1, x.2.2.2.2.2.2.1, x.2.2.2.2.2.2.2.1, x.2.2.2.2.2.2.2.2.1, x.2.2.2.2.2.2.2.2.2.1, x.2.2.2.2.2.2.2.2.2.2.1, x.2.2.2.2.2.2.2.2.2.2.2.1, x.2.2.2.2.2.2.2.2.2.2.2.2.1, x.2.2.2.2.2.2.2.2.2.2.2.2.2.1, x.2.2.2.2.2.2.2.2.2.2.2.2.2.2))))
 (fun x =>
 if ((decide (x.2.2.1 ≥ (0 : Int))) = true) then
 if ((0 : Int) ≤ x.2.2.1) then
 Option.bind (x.2.2.2.2.1)[(Int.toNat x.2.2.1)]? fun x2 =>
 if (((1 + (List.length x.2.1)) * 8) ≤ 140737488355328) then
 Option.bind (qC k (1 + (List.length x.2.1)) ((List.take 1 (x2 :: [])) ++ x.2.1)) fun r12 =>
 if ((0 + r12.1) ≤ (List.length r12.2)) then
 Option.bind (qbd k (List.take r12.1 r12.2) x.2.2.2.2.2.2.1) fun r13 =>
 if ((decide (r13 > (0 : Int))) = true) then
 Option.bind (qW k r13) fun r14 =>
 Option.bind (qaS k false x.2.2.2.2.2.2.1 r14.1 r14.2) fun r15 =>
 if ((0 + r12.1) ≤ (List.length r12.2)) then
 Option.bind (qao k (List.take r12.1 r12.2) r15.2) fun r16 =>
 if (((0 : Int) ≤ x.2.2.1) ∧ (x.2.2.1 < ((x.1 : Nat) : Int))) then
 Option.bind (x.2.2.2.2.2.2.2.2.2.2.2.1)[(0 + (Int.toNat x.2.2.1))]? fun x3 =>
 rec (Sum.inr (x.1, r16, (IntKind.wrap .i64 (x.2.2.1 - (1 : Int))), x.2.2.2.1, x.2.2.2.2.1, x.2.2.2.2.2.1, x.2.2.2.2.2.2.1, x.2.2.2.2.2.2.2.1, x.2.2.2.2.2.2.2.2.1, x.2.2.2.2.2.2.2.2.2.1, x.2.2.2.2.2.2.2.2.2.2.1, (List.set x.2.2.2.2.2.2.2.2.2.2.2.1 (0 + (Int.toNat x.2.2.1)) r13), x.2.2.2.2.2.2.2.2.2.2.2.2.1, x.2.2.2.2.2.2.2.2.2.2.2.2.2))
 else
 none
 else
 none
 else
 if (((0 : Int) ≤ x.2.2.1) ∧ (x.2.2.1 < ((x.1 : Nat) : Int))) then
 Option.bind (x.2.2.2.2.2.2.2.2.2.2.2.1)[(0 + (Int.toNat x.2.2.1))]? fun x3 =>
 rec (Sum.inl (x.1, r12.1, (IntKind.wrap .i64 (x.2.2.1 - (1 : Int))), x.2.2.2.1, x.2.2.2.2.1, x.2.2.2.2.2.1, x.2.2.2.2.2.2.1, x.2.2.2.2.2.2.2.1, x.2.2.2.2.2.2.2.2.1, x.2.2.2.2.2.2.2.2.2.1, x.2.2.2.2.2.2.2.2.2.2.1, (List.set x.2.2.2.2.2.2.2.2.2.2.2.1 (0 + (Int.toNat x.2.2.1)) r13), r12.2, x.2.2.2.2.2.2.2.2.2.2.2.2.1, x.2.2.2.2.2.2.2.2.2.2.2.2.2))
 else
 none
 else
 none
 else
 none
 else
 none
 else
 (some (Sum.inr (x.1, x.2.1, x.2.2.2.1, x.2.2.2.2.1, x.2.2.2.2.2.1, x.2.2.2.2.2.2.1, x.2.2.2.2.2.2.2.1, x.2.2.2.2.2.2.2.2.1, x.2.2.2.2.2.2.2.2.2.1, x.2.2.2.2.2.2.2.2.2.2.1, x.2.2.2.2.2.2.2.2.2.2.2.1, x.2.2.2.2.2.2.2.2.2.2.2.2.1, x.2.2.2.2.2.2.2.2.2.2.2.2.2))))
def qK (k n : Nat) : ((Nat × Nat × Int × Bool × List Int × Bool × List Int × Bool × Nat × Bool × Nat × List Int × List Int × List Int × List Int) ⊕ (Nat × List Int × Int × Bool × List Int × Bool × List Int × Bool × Nat × Bool × Nat × List Int × List Int × List Int)) → Option ((Nat × Nat × Bool × List Int × Bool × List Int × Bool × Nat × Bool × Nat × List Int × List Int × List Int × List Int) ⊕ (Nat × List Int × Bool × List Int × Bool × List Int × Bool × Nat × Bool × Nat × List Int × List Int × List Int)) := Nat.rec (fun _ => none) (fun _ r => qE k r) n
def qes (k : Nat) (a0 : Bool) (a1 : List Int) (b0 : Bool) (b1 : List Int) : Option (Bool × List Int × Bool × List Int) :=
 if (((0 : Int) ≤ (((List.length a1) : Nat) : Int)) ∧ (((((List.length a1) : Nat) : Int) ≤ (((List.length a1) : Nat) : Int)) ∧ (((((List.length a1) : Nat) : Int) * (8 : Int)) ≤ (140737488355328 : Int)))) then
 Option.bind (qK k k (Sum.inl ((Int.toNat (((List.length a1) : Nat) : Int)), 0, (IntKind.wrap .i64 ((((List.length a1) : Nat) : Int) - (1 : Int))), a0, a1, b0, b1, false, 0, false, 0, (List.replicate (Int.toNat (((List.length a1) : Nat) : Int)) (0 : Int)), [], [], []))) fun r12 =>
 qc r12
 (fun r12 =>
 Option.bind (qC k r12.1 r12.2.2.2.2.2.2.2.2.2.2.1) fun r13 =>
 if ((!(r12.2.2.1 == r12.2.2.2.2.1)) = true) then
 if (r12.2.2.1 = true) then
 if ((0 + r13.1) ≤ (List.length r13.2)) then
 if ((0 + r12.2.1) ≤ (List.length r12.2.2.2.2.2.2.2.2.2.2.2.1)) then
 (some ((decide (((r13.1 : Nat) : Int) > (0 : Int))), (List.take r13.1 r13.2), (decide (((r12.2.1 : Nat) : Int) > (0 : Int))), (List.take r12.2.1 r12.2.2.2.2.2.2.2.2.2.2.2.1)))
 else
 none
 else
 none
 else
 if ((0 + r13.1) ≤ (List.length r13.2)) then
 if ((0 + r12.2.1) ≤ (List.length r12.2.2.2.2.2.2.2.2.2.2.2.1)) then
 (some ((decide (((r13.1 : Nat) : Int) > (0 : Int))), (List.take r13.1 r13.2), false, (List.take r12.2.1 r12.2.2.2.2.2.2.2.2.2.2.2.1)))
 else
 none
 else
 none
 else
 if (r12.2.2.1 = true) then
 if ((0 + r13.1) ≤ (List.length r13.2)) then
 if ((0 + r12.2.1) ≤ (List.length r12.2.2.2.2.2.2.2.2.2.2.2.1)) then
 (some (false, (List.take r13.1 r13.2), (decide (((r12.2.1 : Nat) : Int) > (0 : Int))), (List.take r12.2.1 r12.2.2.2.2.2.2.2.2.2.2.2.1)))
 else
 none
 else
 none
 else
 if ((0 + r13.1) ≤ (List.length r13.2)) then
 if ((0 + r12.2.1) ≤ (List.length r12.2.2.2.2.2.2.2.2.2.2.2.1)) then
 (some (false, (List.take r13.1 r13.2), false, (List.take r12.2.1 r12.2.2.2.2.2.2.2.2.2.2.2.1)))
 else
 none
 else
 none)
 (fun r12 =>
 Option.bind (qC k r12.1 r12.2.2.2.2.2.2.2.2.2.2.1) fun r13 =>
 if ((!(r12.2.2.1 == r12.2.2.2.2.1)) = true) then
 if (r12.2.2.1 = true) then
 if ((0 + r13.1) ≤ (List.length r13.2)) then
 (some ((decide (((r13.1 : Nat) : Int) > (0 : Int))), (List.take r13.1 r13.2), (decide ((((List.length r12.2.1) : Nat) : Int) > (0 : Int))), r12.2.1))
 else
 none
 else
 if ((0 + r13.1) ≤ (List.length r13.2)) then
 (some ((decide (((r13.1 : Nat) : Int) > (0 : Int))), (List.take r13.1 r13.2), false, r12.2.1))
 else
 none
 else
 if (r12.2.2.1 = true) then
 if ((0 + r13.1) ≤ (List.length r13.2)) then
 (some (false, (List.take r13.1 r13.2), (decide ((((List.length r12.2.1) : Nat) : Int) > (0 : Int))), r12.2.1))
 else
 none
 else
 if ((0 + r13.1) ≤ (List.length r13.2)) then
 (some (false, (List.take r13.1 r13.2), false, r12.2.1))
 else
 none)
 else
 none
def qau : Nat → Bool → List Int → Bool → List Int → Option (Bool × List Int × Bool × List Int)
 | 0, _, _, _, _ => none
 | k + 1, a0, a1, b0, b1 => qes k a0 a1 b0 b1
def qlb : FS := { vs := [.g [.lf .bool, .lf (.sl (.int .i64))], .g [.lf .bool, .lf (.sl (.int .i64))]], bs := [] }
def qrK : List FS := [{ vs := [.g [.lf .bool, .lf (.sl (.int .i64))], .g [.lf .bool, .lf (.sl (.int .i64))]], bs := [] }]
def qpB (k : Nat) : Inst := ⟨152, qlb, qrK, fun x => qau k x.1 x.2.1 x.2.2.1 x.2.2.2⟩
theorem qzR (k : Nat) : qp (call cf k) [qfM k, qvJ k, qg6 k, qlZ k, qpA k] := qA (qrz k) (qA (qJW k) (qA (qvG k) (qA (qzP k) (qA (qzN k) qT))))
def qjq : List SS := [{ fr := [(2, .a (.ptr 0 0 0)), (3, .a (.ptr 1 0 0)), (4, .a (.ptr 2 0 0)), (5, .a (.ptr 3 0 0)), (6, .a (.smz 4)), (7, .a (.smz 5)), (8, .a (.lf (.int .i64)))], mem := [(0, some (.raw [[.lf .bool, .lf (.sl (.int .i64))]] 2 154 true false false)), (1, some (.raw [[.lf .bool, .lf (.sl (.int .i64))]] 2 154 true false false)), (2, some (.raw [[.lf .bool, .smz 6]] 2 154 false false false)), (3, some (.raw [[.lf .bool, .smz 7]] 2 154 false false false)), (4, some (.arr (.int .i64) 1 3 false)), (5, some (.arr (.int .i64) 1 3 false)), (6, some (.arr (.int .i64) 1 3 false)), (7, some (.arr (.int .i64) 1 3 false))], nx := 8 }, { fr := [(2, .a (.ptr 0 0 0)), (3, .a (.ptr 1 0 0)), (4, .a (.ptr 2 0 0)), (5, .a (.ptr 3 0 0)), (6, .a (.smz 4)), (7, .a (.lf (.sl (.int .i64)))), (8, .a (.lf (.int .i64)))], mem := [(0, some (.raw [[.lf .bool, .lf (.sl (.int .i64))]] 2 154 true false false)), (1, some (.raw [[.lf .bool, .lf (.sl (.int .i64))]] 2 154 true false false)), (2, some (.raw [[.lf .bool, .smz 5]] 2 154 false false false)), (3, some (.raw [[.lf .bool, .smz 6]] 2 154 false false false)), (4, some (.arr (.int .i64) 1 3 false)), (5, some (.arr (.int .i64) 1 3 false)), (6, some (.arr (.int .i64) 1 3 false))], nx := 7 }]
def qou : List OS := [⟨some 0, { fr := [(2, .a (.ptr 0 0 0)), (3, .a (.ptr 1 0 0)), (4, .a (.ptr 2 0 0)), (5, .a (.ptr 3 0 0)), (6, .a (.smz 4)), (7, .a (.smz 5))], mem := [(0, some (.raw [[.lf .bool, .lf (.sl (.int .i64))]] 2 154 true false false)), (1, some (.raw [[.lf .bool, .lf (.sl (.int .i64))]] 2 154 true false false)), (2, some (.raw [[.lf .bool, .smz 6]] 2 154 false false false)), (3, some (.raw [[.lf .bool, .smz 7]] 2 154 false false false)), (4, some (.arr (.int .i64) 1 3 false)), (5, some (.arr (.int .i64) 1 3 false)), (6, some (.arr (.int .i64) 1 3 false)), (7, some (.arr (.int .i64) 1 3 false))], nx := 8 }⟩, ⟨some 0, { fr := [(2, .a (.ptr 0 0 0)), (3, .a (.ptr 1 0 0)), (4, .a (.ptr 2 0 0)), (5, .a (.ptr 3 0 0)), (6, .a (.smz 4)), (7, .a (.lf (.sl (.int .i64))))], mem := [(0, some (.raw [[.lf .bool, .lf (.sl (.int .i64))]] 2 154 true false false)), (1, some (.raw [[.lf .bool, .lf (.sl (.int .i64))]] 2 154 true false false)), (2, some (.raw [[.lf .bool, .smz 5]] 2 154 false false false)), (3, some (.raw [[.lf .bool, .smz 6]] 2 154 false false false)), (4, some (.arr (.int .i64) 1 3 false)), (5, some (.arr (.int .i64) 1 3 false)), (6, some (.arr (.int .i64) 1 3 false))], nx := 7 }⟩]
def qov (k : Nat) : LInst := ⟨0, qjq, qou, fun x => qK k k x⟩
theorem qE8 (k : Nat) : qg (LOk (R := DS OS.D qou) (fun b _ σ K => LOt Ty (kps 152) 0 b σ K []) cf (call cf k) (kps 152) Tryz.f152.ntmps k 0) 0 (lb Tryz.f152 0) :=
 qA (qA qT (qA qT qT)) (qA (qA qT (qA qT (qA qT (qA (qA qT (qA qT qT)) qT)))) qT)
theorem qE9 (k n : Nat) (x : DS SS.D qjq) : qK k (n + 1) x = qu SS.enc (fun σ => qx cf (fun f a b K => COt f a b K [qfM k, qvJ k, qg6 k, qlZ k, qpA k]) (fun b _ σ K => LOt Ty (kps 152) 0 b σ K []) Tryz.f152.ntmps 0 (lb Tryz.f152 0) σ (qw Ty (kps 152 0) 0 qjq qou fun x => qK k n x)) qjq x := by kernel_rfl
theorem qFa (k : Nat) : qL cf (call cf k) (kps 152) Tryz.f152.ntmps k 0 0 (lb Tryz.f152 0) (qov k) :=
 qq (c := cf) (callF := call cf k) (kp := kps 152) (nt := Tryz.f152.ntmps) (k := k) (p := 0) (b := 0) (x0 := lb Tryz.f152 0) (hs := qjq) (os := qou) (qd (qzR k)) (qE8 k) (fun n x => qK k n x) (fun _ => rfl) (qE9 k)
theorem qJX (k : Nat) : qg (LOk (R := DS FS.D qrK) (fun b _ σ K => LOt Ty (kps 152) 0 b σ K [qov k]) cf (call cf k) (cf.keep 152) Tryz.f152.ntmps k qlb.bs.length) 0 (bd Tryz.f152) :=
 qA qT (qA qT (qA qT (qA (qA qT (qt (c := cf) (callF := call cf k) (kp := kps 152) (nt := Tryz.f152.ntmps) (k := k) (p := 0) (b := 0) (x0 := lb Tryz.f152 0) (l := [qov k]) (qA (fun _ => qFa k) qT))) (qA qT (qA qT qT)))))
theorem qJY (k : Nat) (x : qlb.D) : qau (k + 1) x.1 x.2.1 x.2.2.1 x.2.2.2 = qi cf (fun f a b K => COt f a b K [qfM k, qvJ k, qg6 k, qlZ k, qpA k]) (fun b _ σ K => LOt Ty (kps 152) 0 b σ K [qov k]) 152 Tryz.f152.ntmps Tryz.f152.results.toList (bd Tryz.f152) (qlb.enc x).1 (qlb.enc x).2 (qk FS.dec qrK) := by kernel_rfl
theorem qzS : ∀ k, qh (call cf k) (qpB k)
 | 0 => fun x y e => absurd (show (none : Option _) = some y from e) (by simp)
 | k + 1 => qe (c := cf) (k := k) (f := 152) (fn := Tryz.f152) (body := bd Tryz.f152) (sh := qlb) (os := qrK) rfl Tryz.func152 rfl ⟨rfl, Nat.le_of_ble_eq_true rfl⟩ (qd (qzR k)) (qJX k) (fun x => qau (k + 1) x.1 x.2.1 x.2.2.1 x.2.2.2) (qJY k)

def qbY (k : Nat) (rec : Bool → List Int → Bool → List Int → Bool → Nat → List Int → Option (Bool × List Int × Bool × List Int × Bool × Nat × List Int)) (a0 : Bool) (a1 : List Int) (b0 : Bool) (b1 : List Int) (x0 : Bool) (x1 : Nat) (m : List Int) : Option (Bool × List Int × Bool × List Int × Bool × Nat × List Int) :=
 if ((decide ((((List.length b1) : Nat) : Int) > (0 : Int))) = true) then
 Option.bind (qau k a0 a1 b0 b1) fun r12 =>
 rec b0 b1 r12.2.2.1 r12.2.2.2 x0 x1 m
 else
 (some (a0, a1, b0, b1, x0, x1, m))
def qaN (k n : Nat) : Bool → List Int → Bool → List Int → Bool → Nat → List Int → Option (Bool × List Int × Bool × List Int × Bool × Nat × List Int) := Nat.rec (fun _ _ _ _ _ _ _ => none) (fun _ r => qbY k r) n
def qjr (k : Nat) (a0 : Bool) (a1 : List Int) (b0 : Bool) (b1 : List Int) : Option (Bool × List Int) :=
 Option.bind (qaW k a0 a1) fun r10 =>
 Option.bind (qaW k b0 b1) fun r11 =>
 Option.bind (qaN k k r10.1 r10.2 r11.1 r11.2 false 0 []) fun r12 =>
 (some (r12.1, r12.2.1))
def qbs : Nat → Bool → List Int → Bool → List Int → Option (Bool × List Int)
 | 0, _, _, _, _ => none
 | k + 1, a0, a1, b0, b1 => qjr k a0 a1 b0 b1
def qlc : FS := { vs := [.g [.lf .bool, .lf (.sl (.int .i64))], .g [.lf .bool, .lf (.sl (.int .i64))]], bs := [] }
def qrL : List FS := [{ vs := [.g [.lf .bool, .lf (.sl (.int .i64))]], bs := [] }]
def qys (k : Nat) : Inst := ⟨151, qlc, qrL, fun x => qbs k x.1 x.2.1 x.2.2.1 x.2.2.2⟩
theorem qzT (k : Nat) : qp (call cf k) [qvH k, qpB k] := qA (qJR k) (qA (qzS k) qT)
def qjs : List SS := [{ fr := [(2, .a (.ptr 0 0 0)), (3, .a (.ptr 1 0 0)), (4, .a (.ptr 2 0 0))], mem := [(0, some (.raw [[.lf .bool, .lf (.sl (.int .i64))]] 2 154 true false false)), (1, some (.raw [[.lf .bool, .lf (.sl (.int .i64))]] 2 154 true false false)), (2, some (.raw [[.lf .bool, .smz 3]] 2 154 false false false)), (3, some (.arr (.int .i64) 1 3 false))], nx := 4 }]
def qow : List OS := [⟨some 0, { fr := [(2, .a (.ptr 0 0 0)), (4, .a (.ptr 2 0 0))], mem := [(0, some (.raw [[.lf .bool, .lf (.sl (.int .i64))]] 2 154 true false false)), (1, some (.raw [[.lf .bool, .lf (.sl (.int .i64))]] 2 154 true false false)), (2, some (.raw [[.lf .bool, .smz 3]] 2 154 false false false)), (3, some (.arr (.int .i64) 1 3 false))], nx := 4 }⟩]
def qox (k : Nat) : LInst := ⟨0, qjs, qow, fun x => qaN k k x.1 x.2.1 x.2.2.1 x.2.2.2.1 x.2.2.2.2.1 x.2.2.2.2.2.1 x.2.2.2.2.2.2⟩
theorem qFb (k : Nat) : qg (LOk (R := DS OS.D qow) (fun b _ σ K => LOt Ty (kps 151) 0 b σ K []) cf (call cf k) (kps 151) Tryz.f151.ntmps k 0) 0 (lb Tryz.f151 0) :=
 qA (qA qT (qA qT qT)) (qA qT qT)
theorem qFc (k n : Nat) (x : DS SS.D qjs) : qaN k (n + 1) x.1 x.2.1 x.2.2.1 x.2.2.2.1 x.2.2.2.2.1 x.2.2.2.2.2.1 x.2.2.2.2.2.2 = qu SS.enc (fun σ => qx cf (fun f a b K => COt f a b K [qvH k, qpB k]) (fun b _ σ K => LOt Ty (kps 151) 0 b σ K []) Tryz.f151.ntmps 0 (lb Tryz.f151 0) σ (qw Ty (kps 151 0) 0 qjs qow fun x => qaN k n x.1 x.2.1 x.2.2.1 x.2.2.2.1 x.2.2.2.2.1 x.2.2.2.2.2.1 x.2.2.2.2.2.2)) qjs x := by kernel_rfl
theorem qFd (k : Nat) : qL cf (call cf k) (kps 151) Tryz.f151.ntmps k 0 0 (lb Tryz.f151 0) (qox k) :=
 qq (c := cf) (callF := call cf k) (kp := kps 151) (nt := Tryz.f151.ntmps) (k := k) (p := 0) (b := 0) (x0 := lb Tryz.f151 0) (hs := qjs) (os := qow) (qd (qzT k)) (qFb k) (fun n x => qaN k n x.1 x.2.1 x.2.2.1 x.2.2.2.1 x.2.2.2.2.1 x.2.2.2.2.2.1 x.2.2.2.2.2.2) (fun _ => rfl) (qFc k)
theorem qJZ (k : Nat) : qg (LOk (R := DS FS.D qrL) (fun b _ σ K => LOt Ty (kps 151) 0 b σ K [qox k]) cf (call cf k) (cf.keep 151) Tryz.f151.ntmps k qlc.bs.length) 0 (bd Tryz.f151) :=
 qA qT (qA qT (qA (qt (c := cf) (callF := call cf k) (kp := kps 151) (nt := Tryz.f151.ntmps) (k := k) (p := 0) (b := 0) (x0 := lb Tryz.f151 0) (l := [qox k]) (qA (fun _ => qFd k) qT)) (qA qT qT)))
theorem qJ0 (k : Nat) (x : qlc.D) : qbs (k + 1) x.1 x.2.1 x.2.2.1 x.2.2.2 = qi cf (fun f a b K => COt f a b K [qvH k, qpB k]) (fun b _ σ K => LOt Ty (kps 151) 0 b σ K [qox k]) 151 Tryz.f151.ntmps Tryz.f151.results.toList (bd Tryz.f151) (qlc.enc x).1 (qlc.enc x).2 (qk FS.dec qrL) := by kernel_rfl
theorem qJ1 : ∀ k, qh (call cf k) (qys k)
 | 0 => fun x y e => absurd (show (none : Option _) = some y from e) (by simp)
 | k + 1 => qe (c := cf) (k := k) (f := 151) (fn := Tryz.f151) (body := bd Tryz.f151) (sh := qlc) (os := qrL) rfl Tryz.func151 rfl ⟨rfl, Nat.le_of_ble_eq_true rfl⟩ (qd (qzT k)) (qJZ k) (fun x => qbs (k + 1) x.1 x.2.1 x.2.2.1 x.2.2.2) (qJ0 k)

def qcH (k : Nat) (num0 : Bool) (num1 : List Int) (den0 : Bool) (den1 : List Int) : Option (Bool × List Int × Bool × List Int) :=
 Option.bind (qcv k den0 den1) fun r7 =>
 if ((decide (r7 < (0 : Int))) = true) then
 Option.bind (qbc k num0 num1) fun r8 =>
 Option.bind (qbc k den0 den1) fun r9 =>
 Option.bind (qbs k r8.1 r8.2 r9.1 r9.2) fun r10 =>
 Option.bind (qau k r8.1 r8.2 r10.1 r10.2) fun r11 =>
 Option.bind (qau k r9.1 r9.2 r10.1 r10.2) fun r12 =>
 (some (r11.1, r11.2.1, r12.1, r12.2.1))
 else
 Option.bind (qbs k num0 num1 den0 den1) fun r8 =>
 Option.bind (qau k num0 num1 r8.1 r8.2) fun r9 =>
 Option.bind (qau k den0 den1 r8.1 r8.2) fun r10 =>
 (some (r9.1, r9.2.1, r10.1, r10.2.1))
def qa0 : Nat → Bool → List Int → Bool → List Int → Option (Bool × List Int × Bool × List Int)
 | 0, _, _, _, _ => none
 | k + 1, num0, num1, den0, den1 => qcH k num0 num1 den0 den1
def qld : FS := { vs := [.g [.lf .bool, .lf (.sl (.int .i64))], .g [.lf .bool, .lf (.sl (.int .i64))]], bs := [] }
def qrM : List FS := [{ vs := [.g [.lf .bool, .lf (.sl (.int .i64)), .lf .bool, .lf (.sl (.int .i64))]], bs := [] }]
def qvK (k : Nat) : Inst := ⟨93, qld, qrM, fun x => qa0 k x.1 x.2.1 x.2.2.1 x.2.2.2⟩
theorem qJ2 (k : Nat) : qp (call cf k) [qyq k, qyr k, qys k, qpB k] := qA (qJJ k) (qA (qJN k) (qA (qJ1 k) (qA (qzS k) qT)))
theorem qJ3 (k : Nat) : qg (LOk (R := DS FS.D qrM) (fun b _ σ K => LOt Ty (kps 93) 0 b σ K []) cf (call cf k) (cf.keep 93) Tryz.f93.ntmps k qld.bs.length) 0 (bd Tryz.f93) :=
 qA qT (qA (qA qT (qA qT qT)) (qA qT (qA qT (qA qT (qA qT qT)))))
theorem qJ4 (k : Nat) (x : qld.D) : qa0 (k + 1) x.1 x.2.1 x.2.2.1 x.2.2.2 = qi cf (fun f a b K => COt f a b K [qyq k, qyr k, qys k, qpB k]) (fun b _ σ K => LOt Ty (kps 93) 0 b σ K []) 93 Tryz.f93.ntmps Tryz.f93.results.toList (bd Tryz.f93) (qld.enc x).1 (qld.enc x).2 (qk FS.dec qrM) := by kernel_rfl
theorem qJ5 : ∀ k, qh (call cf k) (qvK k)
 | 0 => fun x y e => absurd (show (none : Option _) = some y from e) (by simp)
 | k + 1 => qe (c := cf) (k := k) (f := 93) (fn := Tryz.f93) (body := bd Tryz.f93) (sh := qld) (os := qrM) rfl Tryz.func93 rfl ⟨rfl, Nat.le_of_ble_eq_true rfl⟩ (qd (qJ2 k)) (qJ3 k) (fun x => qa0 (k + 1) x.1 x.2.1 x.2.2.1 x.2.2.2) (qJ4 k)

def qbg (k : Nat) (rec : Int → Bool → List Int → Bool → Nat → Bool → Nat → List Int → List Int → Option (Bool × List Int × Bool × Nat × Bool × Nat × List Int × List Int)) (i : Int) (a0 : Bool) (a1 : List Int) (x0 : Bool) (x1 : Nat) (out0 : Bool) (out1 : Nat) (m : List Int) (m1 : List Int) : Option (Bool × List Int × Bool × Nat × Bool × Nat × List Int × List Int) :=
 if ((decide (i < (((List.length a1) : Nat) : Int))) = true) then
 if ((0 : Int) ≤ i) then
 Option.bind (a1)[(Int.toNat i)]? fun x =>
 if ((decide ((IntKind.wrap .i64 (i + (1 : Int))) < (((List.length a1) : Nat) : Int))) = true) then
 if ((0 : Int) ≤ (IntKind.wrap .i64 (i + (1 : Int)))) then
 Option.bind (a1)[(Int.toNat (IntKind.wrap .i64 (i + (1 : Int))))]? fun x2 =>
 if (out1 ≤ (List.length m1)) then
 if (((out1 + (List.length (List.take 1 ((IntKind.wrap .u32 ((IntKind.wrap .u32 x) + (IntKind.wrap .u32 ((IntKind.wrap .u32 x2) * (65536 : Int))))) :: [])))) * 4) ≤ 140737488355328) then
 rec (IntKind.wrap .i64 (i + (2 : Int))) a0 a1 x0 x1 out0 (out1 + (List.length (List.take 1 ((IntKind.wrap .u32 ((IntKind.wrap .u32 x) + (IntKind.wrap .u32 ((IntKind.wrap .u32 x2) * (65536 : Int))))) :: [])))) m ((List.take out1 m1) ++ (List.take 1 ((IntKind.wrap .u32 ((IntKind.wrap .u32 x) + (IntKind.wrap .u32 ((IntKind.wrap .u32 x2) * (65536 : Int))))) :: [])))
 else
 none
 else
 none
 else
 none
 else
 if (out1 ≤ (List.length m1)) then
 if (((out1 + (List.length (List.take 1 ((IntKind.wrap .u32 x) :: [])))) * 4) ≤ 140737488355328) then
 rec (IntKind.wrap .i64 (i + (2 : Int))) a0 a1 x0 x1 out0 (out1 + (List.length (List.take 1 ((IntKind.wrap .u32 x) :: [])))) m ((List.take out1 m1) ++ (List.take 1 ((IntKind.wrap .u32 x) :: [])))
 else
 none
 else
 none
 else
 none
 else
 (some (a0, a1, x0, x1, out0, out1, m, m1))
def qav (k n : Nat) : Int → Bool → List Int → Bool → Nat → Bool → Nat → List Int → List Int → Option (Bool × List Int × Bool × Nat × Bool × Nat × List Int × List Int) := Nat.rec (fun _ _ _ _ _ _ _ _ _ => none) (fun _ r => qbg k r) n
def qfh (k : Nat) (a0 : Bool) (a1 : List Int) : Option (Bool × List Int) :=
 Option.bind (qav k k (0 : Int) a0 a1 false 0 a0 0 [] []) fun r8 =>
 if ((0 + r8.2.2.2.2.2.1) ≤ (List.length r8.2.2.2.2.2.2.2)) then
 (some (r8.2.2.2.2.1, (List.take r8.2.2.2.2.2.1 r8.2.2.2.2.2.2.2)))
 else
 none
def qbP : Nat → Bool → List Int → Option (Bool × List Int)
 | 0, _, _ => none
 | k + 1, a0, a1 => qfh k a0 a1
def qle : FS := { vs := [.g [.lf .bool, .lf (.sl (.int .i64))]], bs := [] }
def qrN : List FS := [{ vs := [.g [.lf .bool, .lf (.sl (.int .u32))]], bs := [] }]
def qyt (k : Nat) : Inst := ⟨148, qle, qrN, fun x => qbP k x.1 x.2⟩
theorem qzU (k : Nat) : qp (call cf k) [] := True.intro
def qjt : List SS := [{ fr := [(1, .a (.ptr 0 0 0)), (2, .a (.ptr 1 0 0)), (3, .a (.ptr 2 0 0)), (4, .a (.lf (.int .i64)))], mem := [(0, some (.raw [[.lf .bool, .lf (.sl (.int .i64))]] 2 154 true false false)), (1, some (.raw [[.lf .bool, .smz 3]] 2 71 false false false)), (2, some (.raw [[.lf .bool, .smz 4]] 2 71 false false false)), (3, some (.arr (.int .u32) 1 106 false)), (4, some (.arr (.int .u32) 1 106 false))], nx := 5 }]
def qoy : List OS := [⟨some 0, { fr := [(2, .a (.ptr 1 0 0)), (3, .a (.ptr 2 0 0))], mem := [(0, some (.raw [[.lf .bool, .lf (.sl (.int .i64))]] 2 154 true false false)), (1, some (.raw [[.lf .bool, .smz 3]] 2 71 false false false)), (2, some (.raw [[.lf .bool, .smz 4]] 2 71 false false false)), (3, some (.arr (.int .u32) 1 106 false)), (4, some (.arr (.int .u32) 1 106 false))], nx := 5 }⟩]
def qoz (k : Nat) : LInst := ⟨0, qjt, qoy, fun x => qav k k x.1 x.2.1 x.2.2.1 x.2.2.2.1 x.2.2.2.2.1 x.2.2.2.2.2.1 x.2.2.2.2.2.2.1 x.2.2.2.2.2.2.2.1 x.2.2.2.2.2.2.2.2⟩
theorem qFe (k : Nat) : qg (LOk (R := DS OS.D qoy) (fun b _ σ K => LOt Ty (kps 148) 0 b σ K []) cf (call cf k) (kps 148) Tryz.f148.ntmps k 0) 0 (lb Tryz.f148 0) :=
 qA (qA qT (qA qT qT)) (qA (qA qT (qA (qA qT (qA qT qT)) qT)) qT)
theorem qFf (k n : Nat) (x : DS SS.D qjt) : qav k (n + 1) x.1 x.2.1 x.2.2.1 x.2.2.2.1 x.2.2.2.2.1 x.2.2.2.2.2.1 x.2.2.2.2.2.2.1 x.2.2.2.2.2.2.2.1 x.2.2.2.2.2.2.2.2 = qu SS.enc (fun σ => qx cf (fun f a b K => COt f a b K []) (fun b _ σ K => LOt Ty (kps 148) 0 b σ K []) Tryz.f148.ntmps 0 (lb Tryz.f148 0) σ (qw Ty (kps 148 0) 0 qjt qoy fun x => qav k n x.1 x.2.1 x.2.2.1 x.2.2.2.1 x.2.2.2.2.1 x.2.2.2.2.2.1 x.2.2.2.2.2.2.1 x.2.2.2.2.2.2.2.1 x.2.2.2.2.2.2.2.2)) qjt x := by kernel_rfl
theorem qFg (k : Nat) : qL cf (call cf k) (kps 148) Tryz.f148.ntmps k 0 0 (lb Tryz.f148 0) (qoz k) :=
 qq (c := cf) (callF := call cf k) (kp := kps 148) (nt := Tryz.f148.ntmps) (k := k) (p := 0) (b := 0) (x0 := lb Tryz.f148 0) (hs := qjt) (os := qoy) (qd (qzU k)) (qFe k) (fun n x => qav k n x.1 x.2.1 x.2.2.1 x.2.2.2.1 x.2.2.2.2.1 x.2.2.2.2.2.1 x.2.2.2.2.2.2.1 x.2.2.2.2.2.2.2.1 x.2.2.2.2.2.2.2.2) (fun _ => rfl) (qFf k)
theorem qJ6 (k : Nat) : qg (LOk (R := DS FS.D qrN) (fun b _ σ K => LOt Ty (kps 148) 0 b σ K [qoz k]) cf (call cf k) (cf.keep 148) Tryz.f148.ntmps k qle.bs.length) 0 (bd Tryz.f148) :=
 qA qT (qA qT (qA (qA qT (qt (c := cf) (callF := call cf k) (kp := kps 148) (nt := Tryz.f148.ntmps) (k := k) (p := 0) (b := 0) (x0 := lb Tryz.f148 0) (l := [qoz k]) (qA (fun _ => qFg k) qT))) (qA qT qT)))
theorem qJ7 (k : Nat) (x : qle.D) : qbP (k + 1) x.1 x.2 = qi cf (fun f a b K => COt f a b K []) (fun b _ σ K => LOt Ty (kps 148) 0 b σ K [qoz k]) 148 Tryz.f148.ntmps Tryz.f148.results.toList (bd Tryz.f148) (qle.enc x).1 (qle.enc x).2 (qk FS.dec qrN) := by kernel_rfl
theorem qJ8 : ∀ k, qh (call cf k) (qyt k)
 | 0 => fun x y e => absurd (show (none : Option _) = some y from e) (by simp)
 | k + 1 => qe (c := cf) (k := k) (f := 148) (fn := Tryz.f148) (body := bd Tryz.f148) (sh := qle) (os := qrN) rfl Tryz.func148 rfl ⟨rfl, Nat.le_of_ble_eq_true rfl⟩ (qd (qzU k)) (qJ6 k) (fun x => qbP (k + 1) x.1 x.2) (qJ7 k)

def ql0 (k : Nat) (a0 : Bool) (a1 : List Int) (a2 : Bool) (a3 : List Int) : Option (Bool × List Int × Bool × List Int) :=
 Option.bind (qbP k a0 a1) fun r8 =>
 Option.bind (qbP k a2 a3) fun r9 =>
 (some (r8.1, r8.2, r9.1, r9.2))
def qbQ : Nat → Bool → List Int → Bool → List Int → Option (Bool × List Int × Bool × List Int)
 | 0, _, _, _, _ => none
 | k + 1, a0, a1, a2, a3 => ql0 k a0 a1 a2 a3
def qlf : FS := { vs := [.g [.lf .bool, .lf (.sl (.int .i64)), .lf .bool, .lf (.sl (.int .i64))]], bs := [] }
def qrO : List FS := [{ vs := [.g [.lf .bool, .lf (.sl (.int .u32)), .lf .bool, .lf (.sl (.int .u32))]], bs := [] }]
def qvL (k : Nat) : Inst := ⟨92, qlf, qrO, fun x => qbQ k x.1 x.2.1 x.2.2.1 x.2.2.2⟩
theorem qJ9 (k : Nat) : qp (call cf k) [qyt k] := qA (qJ8 k) qT
theorem qKa (k : Nat) : qg (LOk (R := DS FS.D qrO) (fun b _ σ K => LOt Ty (kps 92) 0 b σ K []) cf (call cf k) (cf.keep 92) Tryz.f92.ntmps k qlf.bs.length) 0 (bd Tryz.f92) :=
 qA qT (qA qT qT)
theorem qKb (k : Nat) (x : qlf.D) : qbQ (k + 1) x.1 x.2.1 x.2.2.1 x.2.2.2 = qi cf (fun f a b K => COt f a b K [qyt k]) (fun b _ σ K => LOt Ty (kps 92) 0 b σ K []) 92 Tryz.f92.ntmps Tryz.f92.results.toList (bd Tryz.f92) (qlf.enc x).1 (qlf.enc x).2 (qk FS.dec qrO) := by kernel_rfl
theorem qKc : ∀ k, qh (call cf k) (qvL k)
 | 0 => fun x y e => absurd (show (none : Option _) = some y from e) (by simp)
 | k + 1 => qe (c := cf) (k := k) (f := 92) (fn := Tryz.f92) (body := bd Tryz.f92) (sh := qlf) (os := qrO) rfl Tryz.func92 rfl ⟨rfl, Nat.le_of_ble_eq_true rfl⟩ (qd (qJ9 k)) (qKa k) (fun x => qbQ (k + 1) x.1 x.2.1 x.2.2.1 x.2.2.2) (qKb k)

def qbh (k : Nat) (rec : ((List Int × Int × Bool × Nat × Bool × Nat × Bool × Nat × List Int × List Int × List Int) ⊕ (List Int × Int × Bool × Nat × Bool × Nat × Bool × List Int × List Int × List Int)) → Option ((List Int × Bool × Nat × Bool × Nat × Bool × Nat × List Int × List Int × List Int) ⊕ (List Int × Bool × Nat × Bool × Nat × Bool × List Int × List Int × List Int))) (x : (List Int × Int × Bool × Nat × Bool × Nat × Bool × Nat × List Int × List Int × List Int) ⊕ (List Int × Int × Bool × Nat × Bool × Nat × Bool × List Int × List Int × List Int)) : Option ((List Int × Bool × Nat × Bool × Nat × Bool × Nat × List Int × List Int × List Int) ⊕ (List Int × Bool × Nat × Bool × Nat × Bool × List Int × List Int × List Int)) :=
 qc x
 (fun x =>
 if ((decide (x.2.1 < (((List.length x.1) : Nat) : Int))) = true) then
 if ((0 : Int) ≤ x.2.1) then
 Option.bind (x.1)[(Int.toNat x.2.1)]? fun x1 =>
 Option.bind (qbr k x1) fun r5 =>
 if ((0 + x.2.2.2.2.2.2.2.1) ≤ (List.length x.2.2.2.2.2.2.2.2.2.2)) then
 Option.bind (qa5 k x.2.2.2.2.2.2.1 (List.take x.2.2.2.2.2.2.2.1 x.2.2.2.2.2.2.2.2.2.2) r5.1 r5.2) fun r6 =>
 rec (Sum.inr (x.1, (IntKind.wrap .i64 (x.2.1 + (1 : Int))), x.2.2.1, x.2.2.2.1, x.2.2.2.2.1, x.2.2.2.2.2.1, r6.1, r6.2, x.2.2.2.2.2.2.2.2.1, x.2.2.2.2.2.2.2.2.2.1))
 else
 none
 else
 none
 else
 (some (Sum.inl (x.1, x.2.2.1, x.2.2.2.1, x.2.2.2.2.1, x.2.2.2.2.2.1, x.2.2.2.2.2.2.1, x.2.2.2.2.2.2.2.1, x.2.2.2.2.2.2.2.2.1, x.2.2.2.2.2.2.2.2.2.1, x.2.2.2.2.2.2.2.2.2.2))))
 (fun x =>
 if ((decide (x.2.1 < (((List.length x.1) : Nat) : Int))) = true) then
 if ((0 : Int) ≤ x.2.1) then
 Option.bind (x.1)[(Int.toNat x.2.1)]? fun x1 =>
 Option.bind (qbr k x1) fun r5 =>
 Option.bind (qa5 k x.2.2.2.2.2.2.1 x.2.2.2.2.2.2.2.1 r5.1 r5.2) fun r6 =>
 rec (Sum.inr (x.1, (IntKind.wrap .i64 (x.2.1 + (1 : Int))), x.2.2.1, x.2.2.2.1, x.2.2.2.2.1, x.2.2.2.2.2.1, r6.1, r6.2, x.2.2.2.2.2.2.2.2.1, x.2.2.2.2.2.2.2.2.2))
 else
 none
 else
 (some (Sum.inr (x.1, x.2.2.1, x.2.2.2.1, x.2.2.2.2.1, x.2.2.2.2.2.1, x.2.2.2.2.2.2.1, x.2.2.2.2.2.2.2.1, x.2.2.2.2.2.2.2.2.1, x.2.2.2.2.2.2.2.2.2))))
def qH (k n : Nat) : ((List Int × Int × Bool × Nat × Bool × Nat × Bool × Nat × List Int × List Int × List Int) ⊕ (List Int × Int × Bool × Nat × Bool × Nat × Bool × List Int × List Int × List Int)) → Option ((List Int × Bool × Nat × Bool × Nat × Bool × Nat × List Int × List Int × List Int) ⊕ (List Int × Bool × Nat × Bool × Nat × Bool × List Int × List Int × List Int)) := Nat.rec (fun _ => none) (fun _ r => qbh k r) n
def qc7 (k : Nat) (l : List Int) : Option (Bool × List Int × Bool × List Int × Int) :=
 Option.bind (qS k l) fun r4 =>
 if (r4 = true) then
 (some (false, [], false, [], (4 : Int)))
 else
 if (((((List.length l) : Nat) : Int) == (0 : Int)) = true) then
 (some (false, [], false, [], (6 : Int)))
 else
 Option.bind (qH k k (Sum.inl (l, (0 : Int), false, 0, false, 0, false, 0, [], [], []))) fun r5 =>
 qc r5
 (fun r5 =>
 Option.bind (qW k (((List.length r5.1) : Nat) : Int)) fun r6 =>
 if ((0 + r5.2.2.2.2.2.2.1) ≤ (List.length r5.2.2.2.2.2.2.2.2.2)) then
 Option.bind (qa0 k r5.2.2.2.2.2.1 (List.take r5.2.2.2.2.2.2.1 r5.2.2.2.2.2.2.2.2.2) r6.1 r6.2) fun r7 =>
 Option.bind (qbQ k r7.1 r7.2.1 r7.2.2.1 r7.2.2.2) fun r8 =>
 (some (r8.1, r8.2.1, r8.2.2.1, r8.2.2.2, (0 : Int)))
 else
 none)
 (fun r5 =>
 Option.bind (qW k (((List.length r5.1) : Nat) : Int)) fun r6 =>
 Option.bind (qa0 k r5.2.2.2.2.2.1 r5.2.2.2.2.2.2.1 r6.1 r6.2) fun r7 =>
 Option.bind (qbQ k r7.1 r7.2.1 r7.2.2.1 r7.2.2.2) fun r8 =>
 (some (r8.1, r8.2.1, r8.2.2.1, r8.2.2.2, (0 : Int))))
def qa7 : Nat → List Int → Option (Bool × List Int × Bool × List Int × Int)
 | 0, _ => none
 | k + 1, l => qc7 k l
def qlg : FS := { vs := [.a (.lf (.sl (.int .i64)))], bs := [] }
def qrP : List FS := [{ vs := [.g [.lf .bool, .lf (.sl (.int .u32)), .lf .bool, .lf (.sl (.int .u32))], .a (.lf (.int .i64))], bs := [] }]
def qyu (k : Nat) : Inst := ⟨33, qlg, qrP, fun x => qa7 k x⟩
theorem qzV (k : Nat) : qp (call cf k) [qfV k, qvE k, qvF k, qg6 k, qvK k, qvL k] := qA (qrk k) (qA (qJq k) (qA (qJD k) (qA (qvG k) (qA (qJ5 k) (qA (qKc k) qT)))))
def qju : List SS := [{ fr := [(0, .a (.lf (.sl (.int .i64)))), (2, .a (.ptr 0 0 0)), (4, .a (.ptr 1 0 0)), (5, .a (.lf (.int .i64)))], mem := [(0, some (.raw [[.lf .bool, .smz 2, .lf .bool, .smz 3]] 4 73 false false false)), (1, some (.raw [[.lf .bool, .smz 4]] 2 154 false false false)), (2, some (.arr (.int .u32) 1 106 false)), (3, some (.arr (.int .u32) 1 106 false)), (4, some (.arr (.int .i64) 1 3 false))], nx := 5 }, { fr := [(0, .a (.lf (.sl (.int .i64)))), (2, .a (.ptr 0 0 0)), (4, .a (.ptr 1 0 0)), (5, .a (.lf (.int .i64)))], mem := [(0, some (.raw [[.lf .bool, .smz 2, .lf .bool, .smz 3]] 4 73 false false false)), (1, some (.raw [[.lf .bool, .lf (.sl (.int .i64))]] 2 154 true false false)), (2, some (.arr (.int .u32) 1 106 false)), (3, some (.arr (.int .u32) 1 106 false))], nx := 4 }]
def qoA : List OS := [⟨some 0, { fr := [(0, .a (.lf (.sl (.int .i64)))), (2, .a (.ptr 0 0 0)), (4, .a (.ptr 1 0 0))], mem := [(0, some (.raw [[.lf .bool, .smz 2, .lf .bool, .smz 3]] 4 73 false false false)), (1, some (.raw [[.lf .bool, .smz 4]] 2 154 false false false)), (2, some (.arr (.int .u32) 1 106 false)), (3, some (.arr (.int .u32) 1 106 false)), (4, some (.arr (.int .i64) 1 3 false))], nx := 5 }⟩, ⟨some 0, { fr := [(0, .a (.lf (.sl (.int .i64)))), (2, .a (.ptr 0 0 0)), (4, .a (.ptr 1 0 0))], mem := [(0, some (.raw [[.lf .bool, .smz 2, .lf .bool, .smz 3]] 4 73 false false false)), (1, some (.raw [[.lf .bool, .lf (.sl (.int .i64))]] 2 154 true false false)), (2, some (.arr (.int .u32) 1 106 false)), (3, some (.arr (.int .u32) 1 106 false))], nx := 4 }⟩]
def qoB (k : Nat) : LInst := ⟨0, qju, qoA, fun x => qH k k x⟩
theorem qFh (k : Nat) : qg (LOk (R := DS OS.D qoA) (fun b _ σ K => LOt Ty (kps 33) 0 b σ K []) cf (call cf k) (kps 33) Tryz.f33.ntmps k 0) 0 (lb Tryz.f33 0) :=
 qA (qA qT (qA qT qT)) (qA qT qT)
theorem qFi (k n : Nat) (x : DS SS.D qju) : qH k (n + 1) x = qu SS.enc (fun σ => qx cf (fun f a b K => COt f a b K [qfV k, qvE k, qvF k, qg6 k, qvK k, qvL k]) (fun b _ σ K => LOt Ty (kps 33) 0 b σ K []) Tryz.f33.ntmps 0 (lb Tryz.f33 0) σ (qw Ty (kps 33 0) 0 qju qoA fun x => qH k n x)) qju x := by kernel_rfl
theorem qFj (k : Nat) : qL cf (call cf k) (kps 33) Tryz.f33.ntmps k 0 0 (lb Tryz.f33 0) (qoB k) :=
 qq (c := cf) (callF := call cf k) (kp := kps 33) (nt := Tryz.f33.ntmps) (k := k) (p := 0) (b := 0) (x0 := lb Tryz.f33 0) (hs := qju) (os := qoA) (qd (qzV k)) (qFh k) (fun n x => qH k n x) (fun _ => rfl) (qFi k)
theorem qKd (k : Nat) : qg (LOk (R := DS FS.D qrP) (fun b _ σ K => LOt Ty (kps 33) 0 b σ K [qoB k]) cf (call cf k) (cf.keep 33) Tryz.f33.ntmps k qlg.bs.length) 0 (bd Tryz.f33) :=
 qA qT (qA (qA qT (qA (qA qT qT) qT)) (qA (qA qT (qA (qA qT qT) qT)) (qA qT (qA (qA qT (qt (c := cf) (callF := call cf k) (kp := kps 33) (nt := Tryz.f33.ntmps) (k := k) (p := 0) (b := 0) (x0 := lb Tryz.f33 0) (l := [qoB k]) (qA (fun _ => qFj k) qT))) (qA qT qT)))))
theorem qKe (k : Nat) (x : qlg.D) : qa7 (k + 1) x = qi cf (fun f a b K => COt f a b K [qfV k, qvE k, qvF k, qg6 k, qvK k, qvL k]) (fun b _ σ K => LOt Ty (kps 33) 0 b σ K [qoB k]) 33 Tryz.f33.ntmps Tryz.f33.results.toList (bd Tryz.f33) (qlg.enc x).1 (qlg.enc x).2 (qk FS.dec qrP) := by kernel_rfl
theorem qKf : ∀ k, qh (call cf k) (qyu k)
 | 0 => fun x y e => absurd (show (none : Option _) = some y from e) (by simp)
 | k + 1 => qe (c := cf) (k := k) (f := 33) (fn := Tryz.f33) (body := bd Tryz.f33) (sh := qlg) (os := qrP) rfl Tryz.func33 rfl ⟨rfl, Nat.le_of_ble_eq_true rfl⟩ (qd (qzV k)) (qKd k) (fun x => qa7 (k + 1) x) (qKe k)

def qbi (k : Nat) (rec : List Int → Int → Int → Int → Int → Option ((Int × Int) ⊕ (Unit))) (l : List Int) (level : Int) (nth : Int) (n : Int) (i : Int) : Option ((Int × Int) ⊕ (Unit)) :=
 if ((decide (i < (((List.length l) : Nat) : Int))) = true) then
 if ((0 : Int) ≤ i) then
 Option.bind (l)[(Int.toNat i)]? fun x =>
 if ((decide (x ≥ level)) = true) then
 if ((0 : Int) ≤ (IntKind.wrap .i64 (i - (1 : Int)))) then
 Option.bind (l)[(Int.toNat (IntKind.wrap .i64 (i - (1 : Int))))]? fun x1 =>
 if ((decide (x1 < level)) = true) then
 if (((IntKind.wrap .i64 (n + (1 : Int))) == nth) = true) then
 (some (Sum.inl (i, (0 : Int))))
 else
 rec l level nth (IntKind.wrap .i64 (n + (1 : Int))) (IntKind.wrap .i64 (i + (1 : Int)))
 else
 rec l level nth n (IntKind.wrap .i64 (i + (1 : Int)))
 else
 none
 else
 rec l level nth n (IntKind.wrap .i64 (i + (1 : Int)))
 else
 none
 else
 (some (Sum.inr ()))
def qO (k n : Nat) : List Int → Int → Int → Int → Int → Option ((Int × Int) ⊕ (Unit)) := Nat.rec (fun _ _ _ _ _ => none) (fun _ r => qbi k r) n
def qfi (k : Nat) (l : List Int) (level : Int) (nth : Int) : Option (Int × Int) :=
 if ((decide (nth < (1 : Int))) = true) then
 (some ((0 : Int), (1 : Int)))
 else
 Option.bind (qS k l) fun r6 =>
 if (r6 = false) then
 Option.bind (qS k (List.take 1 (level :: []))) fun r7 =>
 if (r7 = true) then
 (some ((0 : Int), (4 : Int)))
 else
 Option.bind (qO k k l level nth (0 : Int) (1 : Int)) fun r8 =>
 qc r8
 (fun r8 =>
 (some (r8.1, r8.2)))
 (fun r8 =>
 (some ((0 : Int), (6 : Int))))
 else
 (some ((0 : Int), (4 : Int)))
def qbR : Nat → List Int → Int → Int → Option (Int × Int)
 | 0, _, _, _ => none
 | k + 1, l, level, nth => qfi k l level nth
def qlh : FS := { vs := [.a (.lf (.sl (.int .i64))), .a (.lf (.int .i64)), .a (.lf (.int .i64))], bs := [] }
def qrQ : List FS := [{ vs := [.a (.lf (.int .i64)), .a (.lf (.int .i64))], bs := [] }]
def qyv (k : Nat) : Inst := ⟨35, qlh, qrQ, fun x => qbR k x.1 x.2.1 x.2.2⟩
theorem qzW (k : Nat) : qp (call cf k) [qfV k] := qA (qrk k) qT
def qjv : List SS := [{ fr := [(0, .a (.lf (.sl (.int .i64)))), (1, .a (.lf (.int .i64))), (2, .a (.lf (.int .i64))), (8, .a (.lf (.int .i64))), (9, .a (.lf (.int .i64)))], mem := [], nx := 0 }]
def qoC : List OS := [⟨none, { fr := [(6, .a (.lf (.int .i64))), (7, .a (.lf (.int .i64)))], mem := [], nx := 0 }⟩, ⟨some 0, { fr := [], mem := [], nx := 0 }⟩]
def qoD (k : Nat) : LInst := ⟨0, qjv, qoC, fun x => qO k k x.1 x.2.1 x.2.2.1 x.2.2.2.1 x.2.2.2.2⟩
theorem qFk (k : Nat) : qg (LOk (R := DS OS.D qoC) (fun b _ σ K => LOt Ty (kps 35) 0 b σ K []) cf (call cf k) (kps 35) Tryz.f35.ntmps k 0) 0 (lb Tryz.f35 0) :=
 qA (qA qT (qA qT qT)) (qA (qA qT (qA (qA qT (qA qT (qA (qA qT qT) qT))) qT)) qT)
theorem qFl (k n : Nat) (x : DS SS.D qjv) : qO k (n + 1) x.1 x.2.1 x.2.2.1 x.2.2.2.1 x.2.2.2.2 = qu SS.enc (fun σ => qx cf (fun f a b K => COt f a b K [qfV k]) (fun b _ σ K => LOt Ty (kps 35) 0 b σ K []) Tryz.f35.ntmps 0 (lb Tryz.f35 0) σ (qw Ty (kps 35 0) 0 qjv qoC fun x => qO k n x.1 x.2.1 x.2.2.1 x.2.2.2.1 x.2.2.2.2)) qjv x := by kernel_rfl
theorem qFm (k : Nat) : qL cf (call cf k) (kps 35) Tryz.f35.ntmps k 0 0 (lb Tryz.f35 0) (qoD k) :=
 qq (c := cf) (callF := call cf k) (kp := kps 35) (nt := Tryz.f35.ntmps) (k := k) (p := 0) (b := 0) (x0 := lb Tryz.f35 0) (hs := qjv) (os := qoC) (qd (qzW k)) (qFk k) (fun n x => qO k n x.1 x.2.1 x.2.2.1 x.2.2.2.1 x.2.2.2.2) (fun _ => rfl) (qFl k)
theorem qKg (k : Nat) : qg (LOk (R := DS FS.D qrQ) (fun b _ σ K => LOt Ty (kps 35) 0 b σ K [qoD k]) cf (call cf k) (cf.keep 35) Tryz.f35.ntmps k qlh.bs.length) 0 (bd Tryz.f35) :=
 qA qT (qA (qA qT (qA (qA qT qT) qT)) (qA (qA qT (qA (qA qT qT) qT)) (qA qT (qA (qA qT (qt (c := cf) (callF := call cf k) (kp := kps 35) (nt := Tryz.f35.ntmps) (k := k) (p := 0) (b := 0) (x0 := lb Tryz.f35 0) (l := [qoD k]) (qA (fun _ => qFm k) qT))) (qA qT qT)))))
theorem qKh (k : Nat) (x : qlh.D) : qbR (k + 1) x.1 x.2.1 x.2.2 = qi cf (fun f a b K => COt f a b K [qfV k]) (fun b _ σ K => LOt Ty (kps 35) 0 b σ K [qoD k]) 35 Tryz.f35.ntmps Tryz.f35.results.toList (bd Tryz.f35) (qlh.enc x).1 (qlh.enc x).2 (qk FS.dec qrQ) := by kernel_rfl
theorem qKi : ∀ k, qh (call cf k) (qyv k)
 | 0 => fun x y e => absurd (show (none : Option _) = some y from e) (by simp)
 | k + 1 => qe (c := cf) (k := k) (f := 35) (fn := Tryz.f35) (body := bd Tryz.f35) (sh := qlh) (os := qrQ) rfl Tryz.func35 rfl ⟨rfl, Nat.le_of_ble_eq_true rfl⟩ (qd (qzW k)) (qKg k) (fun x => qbR (k + 1) x.1 x.2.1 x.2.2) (qKh k)

def qcI (k : Nat) (v : Int) (level : Int) (band : Int) : Option (Bool) :=
 (some (decide ((max (IntKind.wrap .i64 (v - level)) (IntKind.wrap .i64 (level - v))) ≤ band)))
def qa1 : Nat → Int → Int → Int → Option (Bool)
 | 0, _, _, _ => none
 | k + 1, v, level, band => qcI k v level band
def qli : FS := { vs := [.a (.lf (.int .i64)), .a (.lf (.int .i64)), .a (.lf (.int .i64))], bs := [] }
def qrR : List FS := [{ vs := [.a (.lf .bool)], bs := [] }]
def qvM (k : Nat) : Inst := ⟨96, qli, qrR, fun x => qa1 k x.1 x.2.1 x.2.2⟩
theorem qKj (k : Nat) : qp (call cf k) [] := True.intro
theorem qKk (k : Nat) : qg (LOk (R := DS FS.D qrR) (fun b _ σ K => LOt Ty (kps 96) 0 b σ K []) cf (call cf k) (cf.keep 96) Tryz.f96.ntmps k qli.bs.length) 0 (bd Tryz.f96) :=
 qA qT (qA qT qT)
theorem qKl (k : Nat) (x : qli.D) : qa1 (k + 1) x.1 x.2.1 x.2.2 = qi cf (fun f a b K => COt f a b K []) (fun b _ σ K => LOt Ty (kps 96) 0 b σ K []) 96 Tryz.f96.ntmps Tryz.f96.results.toList (bd Tryz.f96) (qli.enc x).1 (qli.enc x).2 (qk FS.dec qrR) := by kernel_rfl
theorem qKm : ∀ k, qh (call cf k) (qvM k)
 | 0 => fun x y e => absurd (show (none : Option _) = some y from e) (by simp)
 | k + 1 => qe (c := cf) (k := k) (f := 96) (fn := Tryz.f96) (body := bd Tryz.f96) (sh := qli) (os := qrR) rfl Tryz.func96 rfl ⟨rfl, Nat.le_of_ble_eq_true rfl⟩ (qd (qKj k)) (qKk k) (fun x => qa1 (k + 1) x.1 x.2.1 x.2.2) (qKl k)

def qaU (k : Nat) (rec : List Int → Int → Int → Int → Int → Option (List Int × Int)) (l : List Int) (level : Int) (band : Int) (at1 : Int) (i : Int) : Option (List Int × Int) :=
 if ((decide (i < (((List.length l) : Nat) : Int))) = true) then
 if ((0 : Int) ≤ i) then
 Option.bind (l)[(Int.toNat i)]? fun x =>
 Option.bind (qa1 k x level band) fun r10 =>
 if ((!r10) = true) then
 rec l level band (IntKind.wrap .i64 (i + (1 : Int))) (IntKind.wrap .i64 (i + (1 : Int)))
 else
 rec l level band at1 (IntKind.wrap .i64 (i + (1 : Int)))
 else
 none
 else
 (some (l, at1))
def qP (k n : Nat) : List Int → Int → Int → Int → Int → Option (List Int × Int) := Nat.rec (fun _ _ _ _ _ => none) (fun _ r => qaU k r) n
def qet (k : Nat) (l : List Int) (level : Int) (band : Int) : Option (Int × Int) :=
 if ((decide (band < (0 : Int))) = true) then
 (some ((0 : Int), (1 : Int)))
 else
 Option.bind (qS k l) fun r8 =>
 if (r8 = false) then
 Option.bind (qS k (List.take 1 (level :: []))) fun r9 =>
 if (r9 = true) then
 (some ((0 : Int), (4 : Int)))
 else
 Option.bind (qP k k l level band (0 : Int) (0 : Int)) fun r10 =>
 if ((decide (r10.2 ≥ (((List.length r10.1) : Nat) : Int))) = true) then
 (some ((0 : Int), (6 : Int)))
 else
 (some (r10.2, (0 : Int)))
 else
 (some ((0 : Int), (4 : Int)))
def qbt : Nat → List Int → Int → Int → Option (Int × Int)
 | 0, _, _, _ => none
 | k + 1, l, level, band => qet k l level band
def qlj : FS := { vs := [.a (.lf (.sl (.int .i64))), .a (.lf (.int .i64)), .a (.lf (.int .i64))], bs := [] }
def qrS : List FS := [{ vs := [.a (.lf (.int .i64)), .a (.lf (.int .i64))], bs := [] }]
def qyw (k : Nat) : Inst := ⟨37, qlj, qrS, fun x => qbt k x.1 x.2.1 x.2.2⟩
theorem qzX (k : Nat) : qp (call cf k) [qfV k, qvM k] := qA (qrk k) (qA (qKm k) qT)
def qjw : List SS := [{ fr := [(0, .a (.lf (.sl (.int .i64)))), (1, .a (.lf (.int .i64))), (2, .a (.lf (.int .i64))), (8, .a (.lf (.int .i64))), (9, .a (.lf (.int .i64)))], mem := [], nx := 0 }]
def qoE : List OS := [⟨some 0, { fr := [(0, .a (.lf (.sl (.int .i64)))), (8, .a (.lf (.int .i64)))], mem := [], nx := 0 }⟩]
def qoF (k : Nat) : LInst := ⟨0, qjw, qoE, fun x => qP k k x.1 x.2.1 x.2.2.1 x.2.2.2.1 x.2.2.2.2⟩
theorem qFn (k : Nat) : qg (LOk (R := DS OS.D qoE) (fun b _ σ K => LOt Ty (kps 37) 0 b σ K []) cf (call cf k) (kps 37) Tryz.f37.ntmps k 0) 0 (lb Tryz.f37 0) :=
 qA (qA qT (qA qT qT)) (qA (qA qT (qA qT qT)) qT)
theorem qFo (k n : Nat) (x : DS SS.D qjw) : qP k (n + 1) x.1 x.2.1 x.2.2.1 x.2.2.2.1 x.2.2.2.2 = qu SS.enc (fun σ => qx cf (fun f a b K => COt f a b K [qfV k, qvM k]) (fun b _ σ K => LOt Ty (kps 37) 0 b σ K []) Tryz.f37.ntmps 0 (lb Tryz.f37 0) σ (qw Ty (kps 37 0) 0 qjw qoE fun x => qP k n x.1 x.2.1 x.2.2.1 x.2.2.2.1 x.2.2.2.2)) qjw x := by kernel_rfl
theorem qFp (k : Nat) : qL cf (call cf k) (kps 37) Tryz.f37.ntmps k 0 0 (lb Tryz.f37 0) (qoF k) :=
 qq (c := cf) (callF := call cf k) (kp := kps 37) (nt := Tryz.f37.ntmps) (k := k) (p := 0) (b := 0) (x0 := lb Tryz.f37 0) (hs := qjw) (os := qoE) (qd (qzX k)) (qFn k) (fun n x => qP k n x.1 x.2.1 x.2.2.1 x.2.2.2.1 x.2.2.2.2) (fun _ => rfl) (qFo k)
theorem qKn (k : Nat) : qg (LOk (R := DS FS.D qrS) (fun b _ σ K => LOt Ty (kps 37) 0 b σ K [qoF k]) cf (call cf k) (cf.keep 37) Tryz.f37.ntmps k qlj.bs.length) 0 (bd Tryz.f37) :=
 qA qT (qA (qA qT (qA (qA qT qT) qT)) (qA (qA qT (qA (qA qT qT) qT)) (qA qT (qA (qA qT (qt (c := cf) (callF := call cf k) (kp := kps 37) (nt := Tryz.f37.ntmps) (k := k) (p := 0) (b := 0) (x0 := lb Tryz.f37 0) (l := [qoF k]) (qA (fun _ => qFp k) qT))) (qA (qA qT (qA (qA qT qT) qT)) (qA qT qT))))))
theorem qKo (k : Nat) (x : qlj.D) : qbt (k + 1) x.1 x.2.1 x.2.2 = qi cf (fun f a b K => COt f a b K [qfV k, qvM k]) (fun b _ σ K => LOt Ty (kps 37) 0 b σ K [qoF k]) 37 Tryz.f37.ntmps Tryz.f37.results.toList (bd Tryz.f37) (qlj.enc x).1 (qlj.enc x).2 (qk FS.dec qrS) := by kernel_rfl
theorem qKp : ∀ k, qh (call cf k) (qyw k)
 | 0 => fun x y e => absurd (show (none : Option _) = some y from e) (by simp)
 | k + 1 => qe (c := cf) (k := k) (f := 37) (fn := Tryz.f37) (body := bd Tryz.f37) (sh := qlj) (os := qrS) rfl Tryz.func37 rfl ⟨rfl, Nat.le_of_ble_eq_true rfl⟩ (qd (qzX k)) (qKn k) (fun x => qbt (k + 1) x.1 x.2.1 x.2.2) (qKo k)


end
noncomputable section

def qbj (k : Nat) (rec : Int → Bool → List Int → Bool → List Int → Option ((Bool × Bool × List Int × Bool × List Int) ⊕ (Bool × List Int × Bool × List Int))) (i : Int) (a0 : Bool) (a1 : List Int) (b0 : Bool) (b1 : List Int) : Option ((Bool × Bool × List Int × Bool × List Int) ⊕ (Bool × List Int × Bool × List Int)) :=
 if ((decide (i < (((List.length a1) : Nat) : Int))) = true) then
 if ((0 : Int) ≤ i) then
 Option.bind (a1)[(Int.toNat i)]? fun x =>
 if ((0 : Int) ≤ i) then
 Option.bind (b1)[(Int.toNat i)]? fun x1 =>
 if ((x != x1) = true) then
 (some (Sum.inl (false, a0, a1, b0, b1)))
 else
 rec (IntKind.wrap .i64 (i + (1 : Int))) a0 a1 b0 b1
 else
 none
 else
 none
 else
 (some (Sum.inr (a0, a1, b0, b1)))
def qZ (k n : Nat) : Int → Bool → List Int → Bool → List Int → Option ((Bool × Bool × List Int × Bool × List Int) ⊕ (Bool × List Int × Bool × List Int)) := Nat.rec (fun _ _ _ _ _ => none) (fun _ r => qbj k r) n
def qfj (k : Nat) (a0 : Bool) (a1 : List Int) (b0 : Bool) (b1 : List Int) : Option (Bool) :=
 if ((!(a0 == b0)) = false) then
 if (((((List.length a1) : Nat) : Int) != (((List.length b1) : Nat) : Int)) = true) then
 (some false)
 else
 Option.bind (qZ k k (0 : Int) a0 a1 b0 b1) fun r9 =>
 qc r9
 (fun r9 =>
 (some r9.1))
 (fun r9 =>
 (some true))
 else
 (some false)
def qbS : Nat → Bool → List Int → Bool → List Int → Option (Bool)
 | 0, _, _, _, _ => none
 | k + 1, a0, a1, b0, b1 => qfj k a0 a1 b0 b1
def qlk : FS := { vs := [.g [.lf .bool, .lf (.sl (.int .u32))], .g [.lf .bool, .lf (.sl (.int .u32))]], bs := [] }
def qrT : List FS := [{ vs := [.a (.lf .bool)], bs := [] }]
def qyx (k : Nat) : Inst := ⟨97, qlk, qrT, fun x => qbS k x.1 x.2.1 x.2.2.1 x.2.2.2⟩
theorem qzY (k : Nat) : qp (call cf k) [] := True.intro
def qjx : List SS := [{ fr := [(2, .a (.ptr 0 0 0)), (3, .a (.ptr 1 0 0)), (5, .a (.lf (.int .i64)))], mem := [(0, some (.raw [[.lf .bool, .lf (.sl (.int .u32))]] 2 71 true false false)), (1, some (.raw [[.lf .bool, .lf (.sl (.int .u32))]] 2 71 true false false))], nx := 2 }]
def qoG : List OS := [⟨none, { fr := [(4, .a (.lf .bool))], mem := [(0, some (.raw [[.lf .bool, .lf (.sl (.int .u32))]] 2 71 true false false)), (1, some (.raw [[.lf .bool, .lf (.sl (.int .u32))]] 2 71 true false false))], nx := 2 }⟩, ⟨some 0, { fr := [], mem := [(0, some (.raw [[.lf .bool, .lf (.sl (.int .u32))]] 2 71 true false false)), (1, some (.raw [[.lf .bool, .lf (.sl (.int .u32))]] 2 71 true false false))], nx := 2 }⟩]
def qoH (k : Nat) : LInst := ⟨0, qjx, qoG, fun x => qZ k k x.1 x.2.1 x.2.2.1 x.2.2.2.1 x.2.2.2.2⟩
theorem qFq (k : Nat) : qg (LOk (R := DS OS.D qoG) (fun b _ σ K => LOt Ty (kps 97) 0 b σ K []) cf (call cf k) (kps 97) Tryz.f97.ntmps k 0) 0 (lb Tryz.f97 0) :=
 qA (qA qT (qA qT qT)) (qA (qA qT (qA (qA qT qT) qT)) qT)
theorem qFr (k n : Nat) (x : DS SS.D qjx) : qZ k (n + 1) x.1 x.2.1 x.2.2.1 x.2.2.2.1 x.2.2.2.2 = qu SS.enc (fun σ => qx cf (fun f a b K => COt f a b K []) (fun b _ σ K => LOt Ty (kps 97) 0 b σ K []) Tryz.f97.ntmps 0 (lb Tryz.f97 0) σ (qw Ty (kps 97 0) 0 qjx qoG fun x => qZ k n x.1 x.2.1 x.2.2.1 x.2.2.2.1 x.2.2.2.2)) qjx x := by kernel_rfl
theorem qFs (k : Nat) : qL cf (call cf k) (kps 97) Tryz.f97.ntmps k 0 0 (lb Tryz.f97 0) (qoH k) :=
 qq (c := cf) (callF := call cf k) (kp := kps 97) (nt := Tryz.f97.ntmps) (k := k) (p := 0) (b := 0) (x0 := lb Tryz.f97 0) (hs := qjx) (os := qoG) (qd (qzY k)) (qFq k) (fun n x => qZ k n x.1 x.2.1 x.2.2.1 x.2.2.2.1 x.2.2.2.2) (fun _ => rfl) (qFr k)
theorem qKq (k : Nat) : qg (LOk (R := DS FS.D qrT) (fun b _ σ K => LOt Ty (kps 97) 0 b σ K [qoH k]) cf (call cf k) (cf.keep 97) Tryz.f97.ntmps k qlk.bs.length) 0 (bd Tryz.f97) :=
 qA qT (qA (qA qT (qA (qA qT qT) qT)) (qA (qA qT (qt (c := cf) (callF := call cf k) (kp := kps 97) (nt := Tryz.f97.ntmps) (k := k) (p := 0) (b := 0) (x0 := lb Tryz.f97 0) (l := [qoH k]) (qA (fun _ => qFs k) qT))) (qA qT qT)))
theorem qKr (k : Nat) (x : qlk.D) : qbS (k + 1) x.1 x.2.1 x.2.2.1 x.2.2.2 = qi cf (fun f a b K => COt f a b K []) (fun b _ σ K => LOt Ty (kps 97) 0 b σ K [qoH k]) 97 Tryz.f97.ntmps Tryz.f97.results.toList (bd Tryz.f97) (qlk.enc x).1 (qlk.enc x).2 (qk FS.dec qrT) := by kernel_rfl
theorem qKs : ∀ k, qh (call cf k) (qyx k)
 | 0 => fun x y e => absurd (show (none : Option _) = some y from e) (by simp)
 | k + 1 => qe (c := cf) (k := k) (f := 97) (fn := Tryz.f97) (body := bd Tryz.f97) (sh := qlk) (os := qrT) rfl Tryz.func97 rfl ⟨rfl, Nat.le_of_ble_eq_true rfl⟩ (qd (qzY k)) (qKq k) (fun x => qbS (k + 1) x.1 x.2.1 x.2.2.1 x.2.2.2) (qKr k)

def qfk (k : Nat) (a0 : Bool) (a1 : List Int) (a2 : Bool) (a3 : List Int) (b0 : Bool) (b1 : List Int) (b2 : Bool) (b3 : List Int) : Option (Bool) :=
 Option.bind (qbS k a0 a1 b0 b1) fun r9 =>
 if (r9 = true) then
 Option.bind (qbS k a2 a3 b2 b3) fun r10 =>
 (some r10)
 else
 (some false)
def qbT : Nat → Bool → List Int → Bool → List Int → Bool → List Int → Bool → List Int → Option (Bool)
 | 0, _, _, _, _, _, _, _, _ => none
 | k + 1, a0, a1, a2, a3, b0, b1, b2, b3 => qfk k a0 a1 a2 a3 b0 b1 b2 b3
def qll : FS := { vs := [.g [.lf .bool, .lf (.sl (.int .u32)), .lf .bool, .lf (.sl (.int .u32))], .g [.lf .bool, .lf (.sl (.int .u32)), .lf .bool, .lf (.sl (.int .u32))]], bs := [] }
def qrU : List FS := [{ vs := [.a (.lf .bool)], bs := [] }]
def qyy (k : Nat) : Inst := ⟨38, qll, qrU, fun x => qbT k x.1 x.2.1 x.2.2.1 x.2.2.2.1 x.2.2.2.2.1 x.2.2.2.2.2.1 x.2.2.2.2.2.2.1 x.2.2.2.2.2.2.2⟩
theorem qKt (k : Nat) : qp (call cf k) [qyx k] := qA (qKs k) qT
theorem qKu (k : Nat) : qg (LOk (R := DS FS.D qrU) (fun b _ σ K => LOt Ty (kps 38) 0 b σ K []) cf (call cf k) (cf.keep 38) Tryz.f38.ntmps k qll.bs.length) 0 (bd Tryz.f38) :=
 qA qT (qA qT qT)
theorem qKv (k : Nat) (x : qll.D) : qbT (k + 1) x.1 x.2.1 x.2.2.1 x.2.2.2.1 x.2.2.2.2.1 x.2.2.2.2.2.1 x.2.2.2.2.2.2.1 x.2.2.2.2.2.2.2 = qi cf (fun f a b K => COt f a b K [qyx k]) (fun b _ σ K => LOt Ty (kps 38) 0 b σ K []) 38 Tryz.f38.ntmps Tryz.f38.results.toList (bd Tryz.f38) (qll.enc x).1 (qll.enc x).2 (qk FS.dec qrU) := by kernel_rfl
theorem qKw : ∀ k, qh (call cf k) (qyy k)
 | 0 => fun x y e => absurd (show (none : Option _) = some y from e) (by simp)
 | k + 1 => qe (c := cf) (k := k) (f := 38) (fn := Tryz.f38) (body := bd Tryz.f38) (sh := qll) (os := qrU) rfl Tryz.func38 rfl ⟨rfl, Nat.le_of_ble_eq_true rfl⟩ (qd (qKt k)) (qKu k) (fun x => qbT (k + 1) x.1 x.2.1 x.2.2.1 x.2.2.2.1 x.2.2.2.2.1 x.2.2.2.2.2.1 x.2.2.2.2.2.2.1 x.2.2.2.2.2.2.2) (qKv k)

def qb8 (k : Nat) (rec : List Int → List Int → Int → Option ((Bool) ⊕ (Unit))) (a : List Int) (b : List Int) (i : Int) : Option ((Bool) ⊕ (Unit)) :=
 if ((decide (i < (((List.length a) : Nat) : Int))) = true) then
 if ((0 : Int) ≤ i) then
 Option.bind (a)[(Int.toNat i)]? fun x =>
 if ((0 : Int) ≤ i) then
 Option.bind (b)[(Int.toNat i)]? fun x1 =>
 if ((x != x1) = true) then
 (some (Sum.inl false))
 else
 rec a b (IntKind.wrap .i64 (i + (1 : Int)))
 else
 none
 else
 none
 else
 (some (Sum.inr ()))
def qan (k n : Nat) : List Int → List Int → Int → Option ((Bool) ⊕ (Unit)) := Nat.rec (fun _ _ _ => none) (fun _ r => qb8 k r) n
def qeO (k : Nat) (a : List Int) (b : List Int) : Option (Bool) :=
 if (((((List.length a) : Nat) : Int) != (((List.length b) : Nat) : Int)) = true) then
 (some false)
 else
 Option.bind (qan k k a b (0 : Int)) fun r10 =>
 qc r10
 (fun r10 =>
 (some r10))
 (fun r10 =>
 (some true))
def qca : Nat → List Int → List Int → Option (Bool)
 | 0, _, _ => none
 | k + 1, a, b => qeO k a b
def qlm : FS := { vs := [.a (.lf (.sl (.int .i64))), .a (.lf (.sl (.int .i64)))], bs := [] }
def qrV : List FS := [{ vs := [.a (.lf .bool)], bs := [] }]
def qyz (k : Nat) : Inst := ⟨39, qlm, qrV, fun x => qca k x.1 x.2⟩
theorem qzZ (k : Nat) : qp (call cf k) [] := True.intro
def qjy : List SS := [{ fr := [(0, .a (.lf (.sl (.int .i64)))), (1, .a (.lf (.sl (.int .i64)))), (5, .a (.lf (.int .i64)))], mem := [], nx := 0 }]
def qoI : List OS := [⟨none, { fr := [(4, .a (.lf .bool))], mem := [], nx := 0 }⟩, ⟨some 0, { fr := [], mem := [], nx := 0 }⟩]
def qoJ (k : Nat) : LInst := ⟨0, qjy, qoI, fun x => qan k k x.1 x.2.1 x.2.2⟩
theorem qFt (k : Nat) : qg (LOk (R := DS OS.D qoI) (fun b _ σ K => LOt Ty (kps 39) 0 b σ K []) cf (call cf k) (kps 39) Tryz.f39.ntmps k 0) 0 (lb Tryz.f39 0) :=
 qA (qA qT (qA qT qT)) (qA (qA qT (qA (qA qT qT) qT)) qT)
theorem qFu (k n : Nat) (x : DS SS.D qjy) : qan k (n + 1) x.1 x.2.1 x.2.2 = qu SS.enc (fun σ => qx cf (fun f a b K => COt f a b K []) (fun b _ σ K => LOt Ty (kps 39) 0 b σ K []) Tryz.f39.ntmps 0 (lb Tryz.f39 0) σ (qw Ty (kps 39 0) 0 qjy qoI fun x => qan k n x.1 x.2.1 x.2.2)) qjy x := by kernel_rfl
theorem qFv (k : Nat) : qL cf (call cf k) (kps 39) Tryz.f39.ntmps k 0 0 (lb Tryz.f39 0) (qoJ k) :=
 qq (c := cf) (callF := call cf k) (kp := kps 39) (nt := Tryz.f39.ntmps) (k := k) (p := 0) (b := 0) (x0 := lb Tryz.f39 0) (hs := qjy) (os := qoI) (qd (qzZ k)) (qFt k) (fun n x => qan k n x.1 x.2.1 x.2.2) (fun _ => rfl) (qFu k)
theorem qKx (k : Nat) : qg (LOk (R := DS FS.D qrV) (fun b _ σ K => LOt Ty (kps 39) 0 b σ K [qoJ k]) cf (call cf k) (cf.keep 39) Tryz.f39.ntmps k qlm.bs.length) 0 (bd Tryz.f39) :=
 qA qT (qA (qA qT (qA (qA qT qT) qT)) (qA (qA qT (qt (c := cf) (callF := call cf k) (kp := kps 39) (nt := Tryz.f39.ntmps) (k := k) (p := 0) (b := 0) (x0 := lb Tryz.f39 0) (l := [qoJ k]) (qA (fun _ => qFv k) qT))) (qA qT qT)))
theorem qKy (k : Nat) (x : qlm.D) : qca (k + 1) x.1 x.2 = qi cf (fun f a b K => COt f a b K []) (fun b _ σ K => LOt Ty (kps 39) 0 b σ K [qoJ k]) 39 Tryz.f39.ntmps Tryz.f39.results.toList (bd Tryz.f39) (qlm.enc x).1 (qlm.enc x).2 (qk FS.dec qrV) := by kernel_rfl
theorem qKz : ∀ k, qh (call cf k) (qyz k)
 | 0 => fun x y e => absurd (show (none : Option _) = some y from e) (by simp)
 | k + 1 => qe (c := cf) (k := k) (f := 39) (fn := Tryz.f39) (body := bd Tryz.f39) (sh := qlm) (os := qrV) rfl Tryz.func39 rfl ⟨rfl, Nat.le_of_ble_eq_true rfl⟩ (qd (qzZ k)) (qKx k) (fun x => qca (k + 1) x.1 x.2) (qKy k)

def qcT (k : Nat) (row : List Int) (m0 : Int) (m1 : Int) (m2 : Int) : Option (Bool) :=
 Option.bind (qcO k) fun r =>
 if ((!r) = true) then
 (some false)
 else
 if ((decide ((((List.length row) : Nat) : Int) > (2000 : Int))) = true) then
 (some true)
 else
 if (((0 + (List.length row)) * 8) ≤ 140737488355328) then
 if ((0 + (List.length row)) ≤ (List.length ((List.take 0 []) ++ row))) then
 if ((((0 + (List.length row)) + 1) * 8) ≤ 140737488355328) then
 if (((0 : Int) ≤ (0 : Int)) ∧ (((0 : Int) ≤ (((List.length row) : Nat) : Int)) ∧ (((0 + (Int.toNat (((List.length row) : Nat) : Int))) ≤ (List.length ((List.take (0 + (List.length row)) ((List.take 0 []) ++ row)) ++ (List.take 1 ((-(77 : Int)) :: []))))) ∧ (((0 : Int) < (((List.length row) : Nat) : Int)) ∨ (true = true))))) then
 if ((0 + (Int.toNat (((List.length row) : Nat) : Int))) ≤ (List.length ((List.take (0 + (List.length row)) ((List.take 0 []) ++ row)) ++ (List.take 1 ((-(77 : Int)) :: []))))) then
 Option.bind (qdn k (List.take (Int.toNat (((List.length row) : Nat) : Int)) ((List.take (0 + (List.length row)) ((List.take 0 []) ++ row)) ++ (List.take 1 ((-(77 : Int)) :: []))))) fun r1 =>
 Option.bind (qcu k row) fun r2 =>
 if ((0 + (Int.toNat (((List.length row) : Nat) : Int))) ≤ (List.length ((List.take (0 + (List.length row)) ((List.take 0 []) ++ row)) ++ (List.take 1 ((-(77 : Int)) :: []))))) then
 Option.bind (qcC k (List.take (Int.toNat (((List.length row) : Nat) : Int)) ((List.take (0 + (List.length row)) ((List.take 0 []) ++ row)) ++ (List.take 1 ((-(77 : Int)) :: []))))) fun r3 =>
 Option.bind (qa7 k row) fun r4 =>
 if ((0 + (Int.toNat (((List.length row) : Nat) : Int))) ≤ (List.length ((List.take (0 + (List.length row)) ((List.take 0 []) ++ row)) ++ (List.take 1 ((-(77 : Int)) :: []))))) then
 Option.bind (qcW k (List.take (Int.toNat (((List.length row) : Nat) : Int)) ((List.take (0 + (List.length row)) ((List.take 0 []) ++ row)) ++ (List.take 1 ((-(77 : Int)) :: [])))) m0 m2) fun r5 =>
 Option.bind (qbR k row m0 m2) fun r6 =>
 if ((0 + (Int.toNat (((List.length row) : Nat) : Int))) ≤ (List.length ((List.take (0 + (List.length row)) ((List.take 0 []) ++ row)) ++ (List.take 1 ((-(77 : Int)) :: []))))) then
 Option.bind (qcd k (List.take (Int.toNat (((List.length row) : Nat) : Int)) ((List.take (0 + (List.length row)) ((List.take 0 []) ++ row)) ++ (List.take 1 ((-(77 : Int)) :: [])))) m0 m1) fun r7 =>
 Option.bind (qbt k row m0 m1) fun r8 =>
 if ((r1.1 != r2.1) = false) then
 if ((r1.2.1 != r2.2.1) = false) then
 if ((r1.2.2 != r2.2.2) = false) then
 Option.bind (qbT k r3.1 r3.2.1 r3.2.2.1 r3.2.2.2.1 r4.1 r4.2.1 r4.2.2.1 r4.2.2.2.1) fun r9 =>
 if ((!r9) = false) then
 if ((r3.2.2.2.2 != r4.2.2.2.2) = false) then
 if ((r5.1 != r6.1) = false) then
 if ((r5.2 != r6.2) = false) then
 if ((r7.1 != r8.1) = false) then
 if ((r7.2 != r8.2) = true) then
 (some false)
 else
 if ((0 + (Int.toNat (((List.length row) : Nat) : Int))) ≤ (List.length ((List.take (0 + (List.length row)) ((List.take 0 []) ++ row)) ++ (List.take 1 ((-(77 : Int)) :: []))))) then
 Option.bind (qca k (List.take (Int.toNat (((List.length row) : Nat) : Int)) ((List.take (0 + (List.length row)) ((List.take 0 []) ++ row)) ++ (List.take 1 ((-(77 : Int)) :: [])))) row) fun r10 =>
 if (r10 = true) then
 if (((0 : Int) ≤ (0 : Int)) ∧ (((0 : Int) ≤ (IntKind.wrap .i64 ((((List.length row) : Nat) : Int) + (1 : Int)))) ∧ (((0 + (Int.toNat (IntKind.wrap .i64 ((((List.length row) : Nat) : Int) + (1 : Int))))) ≤ (List.length ((List.take (0 + (List.length row)) ((List.take 0 []) ++ row)) ++ (List.take 1 ((-(77 : Int)) :: []))))) ∧ (((0 : Int) < (IntKind.wrap .i64 ((((List.length row) : Nat) : Int) + (1 : Int)))) ∨ (true = true))))) then
 if (((0 : Int) ≤ (((List.length row) : Nat) : Int)) ∧ ((((List.length row) : Nat) : Int) < (((Int.toNat (IntKind.wrap .i64 ((((List.length row) : Nat) : Int) + (1 : Int)))) : Nat) : Int))) then
 Option.bind (((List.take (0 + (List.length row)) ((List.take 0 []) ++ row)) ++ (List.take 1 ((-(77 : Int)) :: []))))[(0 + (Int.toNat (((List.length row) : Nat) : Int)))]? fun x =>
 (some (x == (-(77 : Int))))
 else
 none
 else
 none
 else
 (some false)
 else
 none
 else
 (some false)
 else
 (some false)
 else
 (some false)
 else
 (some false)
 else
 (some false)
 else
 (some false)
 else
 (some false)
 else
 (some false)
 else
 none
 else
 none
 else
 none
 else
 none
 else
 none
 else
 none
 else
 none
 else
 none
def qaQ : Nat → List Int → Int → Int → Int → Option (Bool)
 | 0, _, _, _, _ => none
 | k + 1, row, m0, m1, m2 => qcT k row m0 m1 m2
def qln : FS := { vs := [.a (.lf (.sl (.int .i64))), .g [.lf (.int .i64), .lf (.int .i64), .lf (.int .i64)]], bs := [] }
def qrW : List FS := [{ vs := [.a (.lf .bool)], bs := [] }]
def qLj (k : Nat) : Inst := ⟨7, qln, qrW, fun x => qaQ k x.1 x.2.1 x.2.2.1 x.2.2.2⟩
theorem qKA (k : Nat) : qp (call cf k) [qyf k, qs3 k, qyo k, qyn k, qyu k, qs1 k, qyv k, qs2 k, qyw k, qyy k, qyz k] := qA (qIJ k) (qA (qzz k) (qA (qJn k) (qA (qJk k) (qA (qKf k) (qA (qzw k) (qA (qKi k) (qA (qzy k) (qA (qKp k) (qA (qKw k) (qA (qKz k) qT))))))))))
theorem qKB (k : Nat) : qg (LOk (R := DS FS.D qrW) (fun b _ σ K => LOt Ty (kps 7) 0 b σ K []) cf (call cf k) (cf.keep 7) Tryz.f7.ntmps k qln.bs.length) 0 (bd Tryz.f7) :=
 qA qT (qA (qA qT (qA (qA qT qT) qT)) (qA (qA qT (qA (qA qT qT) qT)) (qA qT (qA qT (qA qT (qA qT (qA qT (qA qT (qA qT (qA qT (qA qT (qA (qA qT (qA (qA qT qT) qT)) (qA qT qT)))))))))))))
theorem qKC (k : Nat) (x : qln.D) : qaQ (k + 1) x.1 x.2.1 x.2.2.1 x.2.2.2 = qi cf (fun f a b K => COt f a b K [qyf k, qs3 k, qyo k, qyn k, qyu k, qs1 k, qyv k, qs2 k, qyw k, qyy k, qyz k]) (fun b _ σ K => LOt Ty (kps 7) 0 b σ K []) 7 Tryz.f7.ntmps Tryz.f7.results.toList (bd Tryz.f7) (qln.enc x).1 (qln.enc x).2 (qk FS.dec qrW) := by kernel_rfl
theorem qKD : ∀ k, qh (call cf k) (qLj k)
 | 0 => fun x y e => absurd (show (none : Option _) = some y from e) (by simp)
 | k + 1 => qe (c := cf) (k := k) (f := 7) (fn := Tryz.f7) (body := bd Tryz.f7) (sh := qln) (os := qrW) rfl Tryz.func7 rfl ⟨rfl, Nat.le_of_ble_eq_true rfl⟩ (qd (qKA k)) (qKB k) (fun x => qaQ (k + 1) x.1 x.2.1 x.2.2.1 x.2.2.2) (qKC k)


end
end Go.Proofs.YtlnailgfialgnaaGreatDoor.Am
