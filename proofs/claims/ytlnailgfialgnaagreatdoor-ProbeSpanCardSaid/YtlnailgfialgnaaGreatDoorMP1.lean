/- Printed functions: each says what the typed machine says of the program -/
import Derived.Test.YtlnailgfialgnaaGreatDoorMA3
import Derived.KernelRfl

set_option linter.unusedVariables false
set_option maxRecDepth 100000
namespace Go.Proofs.YtlnailgfialgnaaGreatDoor.Am
theorem qT : True := True.intro
theorem qA {a b : Prop} (h : a) (k : b) : a ∧ b := And.intro h k
open Go
noncomputable section

/-! shunt/big.trim -/
def Lbig_trim_0s (k : Nat) (rec : List Int → Int → Option (List Int × Int)) (w : List Int) (n : Int) : Option (List Int × Int) :=
 if ((decide (n > (0 : Int))) = true) then
 if ((0 : Int) ≤ (IntKind.wrap .i64 (n - (1 : Int)))) then
 Option.bind (w)[(Int.toNat (IntKind.wrap .i64 (n - (1 : Int))))]? fun x =>
 if ((x == (0 : Int)) = true) then
 rec w (IntKind.wrap .i64 (n - (1 : Int)))
 else
 (some (w, n))
 else
 none
 else
 (some (w, n))
def Lbig_trim_0 (k n : Nat) : List Int → Int → Option (List Int × Int) := Nat.rec (fun _ _ => none) (fun _ r => Lbig_trim_0s k r) n
def bbig_trim (k : Nat) (w : List Int) : Option (List Int) :=
 Option.bind (Lbig_trim_0 k k w (((List.length w) : Nat) : Int)) fun r1 =>
 if (((0 : Int) ≤ (0 : Int)) ∧ (((0 : Int) ≤ r1.2) ∧ (r1.2 ≤ (((List.length r1.1) : Nat) : Int)))) then
 (some (List.take (Int.toNat r1.2) r1.1))
 else
 none
def Fbig_trim : Nat → List Int → Option (List Int)
 | 0, _ => none
 | k + 1, w => bbig_trim k w
def shq36 : FS := { vs := [.a (.lf (.sl (.int .u32)))], bs := [] }
def rsq36 : List FS := [{ vs := [.a (.lf (.sl (.int .u32)))], bs := [] }]
def Iq36 (k : Nat) : Inst := ⟨141, shq36, rsq36, fun x => Fbig_trim k x⟩
theorem alq36 (k : Nat) : AllI (call cf k) [] := True.intro
def hsq126 : List SS := [{ fr := [(0, .a (.lf (.sl (.int .u32)))), (3, .a (.lf (.int .i64)))], mem := [], nx := 0 }]
def osq126 : List OS := [⟨some 0, { fr := [(0, .a (.lf (.sl (.int .u32)))), (3, .a (.lf (.int .i64)))], mem := [], nx := 0 }⟩]
def LIq126 (k : Nat) : LInst := ⟨0, hsq126, osq126, fun x => Lbig_trim_0 k k x.1 x.2⟩
theorem anq126 (k : Nat) : LAll (LOk (R := DS OS.D osq126) (fun b _ σ K => LOt Ty (kps 141) 0 b σ K []) cf (call cf k) (kps 141) Tryz.f141.ntmps k 0) 0 (lb Tryz.f141 0) :=
 qA (qA qT (qA qT qT)) qT
theorem stq126 (k n : Nat) (x : DS SS.D hsq126) : Lbig_trim_0 k (n + 1) x.1 x.2 = encSK SS.enc (fun σ => run2 cf (fun f a b K => COt f a b K []) (fun b _ σ K => LOt Ty (kps 141) 0 b σ K []) Tryz.f141.ntmps 0 (lb Tryz.f141 0) σ (nextK Ty (kps 141 0) 0 hsq126 osq126 fun x => Lbig_trim_0 k n x.1 x.2)) hsq126 x := by kernel_rfl
theorem loq126 (k : Nat) : LIOk cf (call cf k) (kps 141) Tryz.f141.ntmps k 0 0 (lb Tryz.f141 0) (LIq126 k) :=
 loop_ok (c := cf) (callF := call cf k) (kp := kps 141) (nt := Tryz.f141.ntmps) (k := k) (p := 0) (b := 0) (x0 := lb Tryz.f141 0) (hs := hsq126) (os := osq126) (COt_ok (alq36 k)) (anq126 k) (fun n x => Lbig_trim_0 k n x.1 x.2) (fun _ => rfl) (stq126 k)
theorem anq36 (k : Nat) : LAll (LOk (R := DS FS.D rsq36) (fun b _ σ K => LOt Ty (kps 141) 0 b σ K [LIq126 k]) cf (call cf k) (cf.keep 141) Tryz.f141.ntmps k shq36.bs.length) 0 (bd Tryz.f141) :=
 qA qT (qA qT (qA (LOt_ok (c := cf) (callF := call cf k) (kp := kps 141) (nt := Tryz.f141.ntmps) (k := k) (p := 0) (b := 0) (x0 := lb Tryz.f141 0) (l := [LIq126 k]) (qA (fun _ => loq126 k) qT)) (qA qT qT)))
theorem stq36 (k : Nat) (x : shq36.D) : Fbig_trim (k + 1) x = body2 cf (fun f a b K => COt f a b K []) (fun b _ σ K => LOt Ty (kps 141) 0 b σ K [LIq126 k]) 141 Tryz.f141.ntmps Tryz.f141.results.toList (bd Tryz.f141) (shq36.enc x).1 (shq36.enc x).2 (putS FS.dec rsq36) := by kernel_rfl
theorem okq36 : ∀ k, InstOk (call cf k) (Iq36 k)
 | 0 => fun x y e => absurd (show (none : Option _) = some y from e) (by simp)
 | k + 1 => inst_ok (c := cf) (k := k) (f := 141) (fn := Tryz.f141) (body := bd Tryz.f141) (sh := shq36) (os := rsq36) rfl Tryz.func141 rfl ⟨rfl, Nat.le_of_ble_eq_true rfl⟩ (COt_ok (alq36 k)) (anq36 k) (fun x => Fbig_trim (k + 1) x) (stq36 k)

/-! (*shunt/big.Int).set -/
def bbig_Int_set_cvg (k : Nat) (neg : Bool) (w : List Int) (z : Bool) : Option (Bool × List Int) :=
 Option.bind (Fbig_trim k w) fun r1 =>
 if (neg = true) then
 (some ((decide ((((List.length r1) : Nat) : Int) > (0 : Int))), r1))
 else
 (some (false, r1))
def Fbig_Int_set_cvg : Nat → Bool → List Int → Bool → Option (Bool × List Int)
 | 0, _, _, _ => none
 | k + 1, neg, w, z => bbig_Int_set_cvg k neg w z
def shq16 : FS := { vs := [.a (.ptr 0 0 0), .a (.lf .bool), .a (.lf (.sl (.int .u32)))], bs := [.raw [[.lf .bool, .snil 1 106]] 2 147 true false false] }
def rsq16 : List FS := [{ vs := [.a (.ptr 0 0 0)], bs := [.raw [[.lf .bool, .lf (.sl (.int .u32))]] 2 147 true false false] }]
def Iq16 (k : Nat) : Inst := ⟨198, shq16, rsq16, fun x => Fbig_Int_set_cvg k x.1 x.2.1 x.2.2⟩
theorem alq16 (k : Nat) : AllI (call cf k) [Iq36 k] := qA (okq36 k) qT
theorem anq16 (k : Nat) : LAll (LOk (R := DS FS.D rsq16) (fun b _ σ K => LOt Ty (kps 198) 1 b σ K []) cf (call cf k) (cf.keep 198) Tryz.f198.ntmps k shq16.bs.length) 0 (bd Tryz.f198) :=
 qA qT (qA qT (qA qT (qA qT qT)))
theorem stq16 (k : Nat) (x : shq16.D) : Fbig_Int_set_cvg (k + 1) x.1 x.2.1 x.2.2 = body2 cf (fun f a b K => COt f a b K [Iq36 k]) (fun b _ σ K => LOt Ty (kps 198) 1 b σ K []) 198 Tryz.f198.ntmps Tryz.f198.results.toList (bd Tryz.f198) (shq16.enc x).1 (shq16.enc x).2 (putS FS.dec rsq16) := by kernel_rfl
theorem okq16 : ∀ k, InstOk (call cf k) (Iq16 k)
 | 0 => fun x y e => absurd (show (none : Option _) = some y from e) (by simp)
 | k + 1 => inst_ok (c := cf) (k := k) (f := 198) (fn := Tryz.f198) (body := bd Tryz.f198) (sh := shq16) (os := rsq16) rfl Tryz.func198 rfl ⟨rfl, Nat.le_of_ble_eq_true rfl⟩ (COt_ok (alq16 k)) (anq16 k) (fun x => Fbig_Int_set_cvg (k + 1) x.1 x.2.1 x.2.2) (stq16 k)

/-! (*shunt/big.Int).Mul -/
def Lbig_Int_Mul_gsh_2s (k : Nat) (rec : Nat → Int → Int → Int → List Int → Int → Int → List Int → Int → Int → Bool → Bool → List Int → Bool → List Int → List Int → Option (Nat × Int × Int × List Int × Int × Int × Bool × Bool × List Int × Bool × List Int × List Int)) (out1 : Nat) (i : Int) (a : Int) (carry : Int) (x : List Int) (x1 : Int) (x2 : Int) (x3 : List Int) (x4 : Int) (x5 : Int) (z : Bool) (x0 : Bool) (x11 : List Int) (y0 : Bool) (y1 : List Int) (outs : List Int) : Option (Nat × Int × Int × List Int × Int × Int × Bool × Bool × List Int × Bool × List Int × List Int) :=
 if ((decide (x5 < x4)) = true) then
 if ((0 : Int) ≤ x5) then
 Option.bind (x3)[(Int.toNat x5)]? fun x6 =>
 if (((0 : Int) ≤ (IntKind.wrap .i64 (i + x5))) ∧ ((IntKind.wrap .i64 (i + x5)) < ((out1 : Nat) : Int))) then
 Option.bind (outs)[(0 + (Int.toNat (IntKind.wrap .i64 (i + x5))))]? fun x7 =>
 if (((0 : Int) ≤ (IntKind.wrap .i64 (i + x5))) ∧ ((IntKind.wrap .i64 (i + x5)) < ((out1 : Nat) : Int))) then
 Option.bind (outs)[(0 + (Int.toNat (IntKind.wrap .i64 (i + x5))))]? fun x8 =>
 rec out1 i a (Int.fdiv (IntKind.wrap .u64 ((IntKind.wrap .u64 ((IntKind.wrap .u64 ((IntKind.wrap .u64 a) * (IntKind.wrap .u64 x6))) + (IntKind.wrap .u64 x7))) + carry)) (4294967296 : Int)) x x1 x2 x3 x4 (IntKind.wrap .i64 (x5 + (1 : Int))) z x0 x11 y0 y1 (List.set outs (0 + (Int.toNat (IntKind.wrap .i64 (i + x5)))) (IntKind.wrap .u32 (IntKind.wrap .u64 ((IntKind.wrap .u64 ((IntKind.wrap .u64 ((IntKind.wrap .u64 a) * (IntKind.wrap .u64 x6))) + (IntKind.wrap .u64 x7))) + carry))))
 else
 none
 else
 none
 else
 none
 else
 (some (out1, i, carry, x, x1, x2, z, x0, x11, y0, y1, outs))
def Lbig_Int_Mul_gsh_2 (k n : Nat) : Nat → Int → Int → Int → List Int → Int → Int → List Int → Int → Int → Bool → Bool → List Int → Bool → List Int → List Int → Option (Nat × Int × Int × List Int × Int × Int × Bool × Bool × List Int × Bool × List Int × List Int) := Nat.rec (fun _ _ _ _ _ _ _ _ _ _ _ _ _ _ _ _ => none) (fun _ r => Lbig_Int_Mul_gsh_2s k r) n
def Lbig_Int_Mul_gsh_0s (k : Nat) (rec : Nat → List Int → Int → Int → Bool → Bool → List Int → Bool → List Int → List Int → Option (Nat × Bool × Bool × List Int × Bool × List Int × List Int)) (out1 : Nat) (x : List Int) (x1 : Int) (x2 : Int) (z : Bool) (x0 : Bool) (x11 : List Int) (y0 : Bool) (y1 : List Int) (outs : List Int) : Option (Nat × Bool × Bool × List Int × Bool × List Int × List Int) :=
 if ((decide (x2 < x1)) = true) then
 if ((0 : Int) ≤ x2) then
 Option.bind (x)[(Int.toNat x2)]? fun x3 =>
 Option.bind (Lbig_Int_Mul_gsh_2 k k out1 x2 x3 (0 : Int) x x1 x2 y1 (((List.length y1) : Nat) : Int) (0 : Int) z x0 x11 y0 y1 outs) fun r =>
 if (((0 : Int) ≤ (IntKind.wrap .i64 (r.2.1 + (((List.length r.2.2.2.2.2.2.2.2.2.2.1) : Nat) : Int)))) ∧ ((IntKind.wrap .i64 (r.2.1 + (((List.length r.2.2.2.2.2.2.2.2.2.2.1) : Nat) : Int))) < ((r.1 : Nat) : Int))) then
 Option.bind (r.2.2.2.2.2.2.2.2.2.2.2)[(0 + (Int.toNat (IntKind.wrap .i64 (r.2.1 + (((List.length r.2.2.2.2.2.2.2.2.2.2.1) : Nat) : Int)))))]? fun x4 =>
 rec r.1 r.2.2.2.1 r.2.2.2.2.1 (IntKind.wrap .i64 (r.2.2.2.2.2.1 + (1 : Int))) r.2.2.2.2.2.2.1 r.2.2.2.2.2.2.2.1 r.2.2.2.2.2.2.2.2.1 r.2.2.2.2.2.2.2.2.2.1 r.2.2.2.2.2.2.2.2.2.2.1 (List.set r.2.2.2.2.2.2.2.2.2.2.2 (0 + (Int.toNat (IntKind.wrap .i64 (r.2.1 + (((List.length r.2.2.2.2.2.2.2.2.2.2.1) : Nat) : Int))))) (IntKind.wrap .u32 r.2.2.1))
 else
 none
 else
 none
 else
 (some (out1, z, x0, x11, y0, y1, outs))
def Lbig_Int_Mul_gsh_0 (k n : Nat) : Nat → List Int → Int → Int → Bool → Bool → List Int → Bool → List Int → List Int → Option (Nat × Bool × Bool × List Int × Bool × List Int × List Int) := Nat.rec (fun _ _ _ _ _ _ _ _ _ _ => none) (fun _ r => Lbig_Int_Mul_gsh_0s k r) n
def bbig_Int_Mul_gsh (k : Nat) (z : Bool) (x0 : Bool) (x1 : List Int) (y0 : Bool) (y1 : List Int) : Option (Bool × List Int × Bool × List Int × Bool × List Int) :=
 if (((0 : Int) ≤ (IntKind.wrap .i64 ((((List.length x1) : Nat) : Int) + (((List.length y1) : Nat) : Int)))) ∧ (((IntKind.wrap .i64 ((((List.length x1) : Nat) : Int) + (((List.length y1) : Nat) : Int))) ≤ (IntKind.wrap .i64 ((((List.length x1) : Nat) : Int) + (((List.length y1) : Nat) : Int)))) ∧ (((IntKind.wrap .i64 ((((List.length x1) : Nat) : Int) + (((List.length y1) : Nat) : Int))) * (4 : Int)) ≤ (140737488355328 : Int)))) then
 Option.bind (Lbig_Int_Mul_gsh_0 k k (Int.toNat (IntKind.wrap .i64 ((((List.length x1) : Nat) : Int) + (((List.length y1) : Nat) : Int)))) x1 (((List.length x1) : Nat) : Int) (0 : Int) z x0 x1 y0 y1 (List.replicate (Int.toNat (IntKind.wrap .i64 ((((List.length x1) : Nat) : Int) + (((List.length y1) : Nat) : Int)))) (0 : Int))) fun r =>
 if ((0 + r.1) ≤ (List.length r.2.2.2.2.2.2)) then
 Option.bind (Fbig_Int_set_cvg k (!(r.2.2.1 == r.2.2.2.2.1)) (List.take r.1 r.2.2.2.2.2.2) r.2.1) fun r1 =>
 (some (r1.1, r1.2, r.2.2.1, r.2.2.2.1, r.2.2.2.2.1, r.2.2.2.2.2.1))
 else
 none
 else
 none
def Fbig_Int_Mul_gsh : Nat → Bool → Bool → List Int → Bool → List Int → Option (Bool × List Int × Bool × List Int × Bool × List Int)
 | 0, _, _, _, _, _ => none
 | k + 1, z, x0, x1, y0, y1 => bbig_Int_Mul_gsh k z x0 x1 y0 y1
def shq7 : FS := { vs := [.a (.ptr 0 0 0), .a (.ptr 1 0 0), .a (.ptr 2 0 0)], bs := [.raw [[.lf .bool, .snil 1 106]] 2 147 true false false, .raw [[.lf .bool, .lf (.sl (.int .u32))]] 2 147 true false false, .raw [[.lf .bool, .lf (.sl (.int .u32))]] 2 147 true false false] }
def rsq7 : List FS := [{ vs := [.a (.ptr 0 0 0)], bs := [.raw [[.lf .bool, .lf (.sl (.int .u32))]] 2 147 true false false, .raw [[.lf .bool, .lf (.sl (.int .u32))]] 2 147 true false false, .raw [[.lf .bool, .lf (.sl (.int .u32))]] 2 147 true false false] }]
def Iq7 (k : Nat) : Inst := ⟨155, shq7, rsq7, fun x => Fbig_Int_Mul_gsh k x.1 x.2.1 x.2.2.1 x.2.2.2.1 x.2.2.2.2⟩
theorem alq7 (k : Nat) : AllI (call cf k) [Iq16 k] := qA (okq16 k) qT
def hsq109 : List SS := [{ fr := [(0, .a (.ptr 0 0 0)), (1, .a (.ptr 1 0 0)), (2, .a (.ptr 2 0 0)), (7, .a (.smz 3)), (8, .a (.lf (.int .i64))), (9, .a (.lf (.int .u32))), (10, .a (.lf (.int .u64))), (29, .a (.lf (.sl (.int .u32)))), (30, .a (.lf (.int .i64))), (31, .a (.lf (.int .i64))), (39, .a (.lf (.sl (.int .u32)))), (40, .a (.lf (.int .i64))), (41, .a (.lf (.int .i64)))], mem := [(0, some (.raw [[.lf .bool, .snil 1 106]] 2 147 true false false)), (1, some (.raw [[.lf .bool, .lf (.sl (.int .u32))]] 2 147 true false false)), (2, some (.raw [[.lf .bool, .lf (.sl (.int .u32))]] 2 147 true false false)), (3, some (.arr (.int .u32) 1 106 false))], nx := 4 }]
def osq109 : List OS := [⟨some 2, { fr := [(0, .a (.ptr 0 0 0)), (1, .a (.ptr 1 0 0)), (2, .a (.ptr 2 0 0)), (7, .a (.smz 3)), (8, .a (.lf (.int .i64))), (10, .a (.lf (.int .u64))), (29, .a (.lf (.sl (.int .u32)))), (30, .a (.lf (.int .i64))), (31, .a (.lf (.int .i64)))], mem := [(0, some (.raw [[.lf .bool, .snil 1 106]] 2 147 true false false)), (1, some (.raw [[.lf .bool, .lf (.sl (.int .u32))]] 2 147 true false false)), (2, some (.raw [[.lf .bool, .lf (.sl (.int .u32))]] 2 147 true false false)), (3, some (.arr (.int .u32) 1 106 false))], nx := 4 }⟩]
def LIq109 (k : Nat) : LInst := ⟨2, hsq109, osq109, fun x => Lbig_Int_Mul_gsh_2 k k x.1 x.2.1 x.2.2.1 x.2.2.2.1 x.2.2.2.2.1 x.2.2.2.2.2.1 x.2.2.2.2.2.2.1 x.2.2.2.2.2.2.2.1 x.2.2.2.2.2.2.2.2.1 x.2.2.2.2.2.2.2.2.2.1 x.2.2.2.2.2.2.2.2.2.2.1 x.2.2.2.2.2.2.2.2.2.2.2.1 x.2.2.2.2.2.2.2.2.2.2.2.2.1 x.2.2.2.2.2.2.2.2.2.2.2.2.2.1 x.2.2.2.2.2.2.2.2.2.2.2.2.2.2.1 x.2.2.2.2.2.2.2.2.2.2.2.2.2.2.2⟩
theorem anq109 (k : Nat) : LAll (LOk (R := DS OS.D osq109) (fun b _ σ K => LOt Ty (kps 155) 3 b σ K []) cf (call cf k) (kps 155) Tryz.f155.ntmps k 3) 2 (lb Tryz.f155 1) :=
 qA qT (qA (qA qT qT) (qA (qA qT (qA qT (qA qT qT))) qT))
theorem stq109 (k n : Nat) (x : DS SS.D hsq109) : Lbig_Int_Mul_gsh_2 k (n + 1) x.1 x.2.1 x.2.2.1 x.2.2.2.1 x.2.2.2.2.1 x.2.2.2.2.2.1 x.2.2.2.2.2.2.1 x.2.2.2.2.2.2.2.1 x.2.2.2.2.2.2.2.2.1 x.2.2.2.2.2.2.2.2.2.1 x.2.2.2.2.2.2.2.2.2.2.1 x.2.2.2.2.2.2.2.2.2.2.2.1 x.2.2.2.2.2.2.2.2.2.2.2.2.1 x.2.2.2.2.2.2.2.2.2.2.2.2.2.1 x.2.2.2.2.2.2.2.2.2.2.2.2.2.2.1 x.2.2.2.2.2.2.2.2.2.2.2.2.2.2.2 = encSK SS.enc (fun σ => run2 cf (fun f a b K => COt f a b K [Iq16 k]) (fun b _ σ K => LOt Ty (kps 155) 3 b σ K []) Tryz.f155.ntmps 2 (lb Tryz.f155 1) σ (nextK Ty (kps 155 2) 3 hsq109 osq109 fun x => Lbig_Int_Mul_gsh_2 k n x.1 x.2.1 x.2.2.1 x.2.2.2.1 x.2.2.2.2.1 x.2.2.2.2.2.1 x.2.2.2.2.2.2.1 x.2.2.2.2.2.2.2.1 x.2.2.2.2.2.2.2.2.1 x.2.2.2.2.2.2.2.2.2.1 x.2.2.2.2.2.2.2.2.2.2.1 x.2.2.2.2.2.2.2.2.2.2.2.1 x.2.2.2.2.2.2.2.2.2.2.2.2.1 x.2.2.2.2.2.2.2.2.2.2.2.2.2.1 x.2.2.2.2.2.2.2.2.2.2.2.2.2.2.1 x.2.2.2.2.2.2.2.2.2.2.2.2.2.2.2)) hsq109 x := by kernel_rfl
theorem loq109 (k : Nat) : LIOk cf (call cf k) (kps 155) Tryz.f155.ntmps k 3 2 (lb Tryz.f155 1) (LIq109 k) :=
 loop_ok (c := cf) (callF := call cf k) (kp := kps 155) (nt := Tryz.f155.ntmps) (k := k) (p := 3) (b := 2) (x0 := lb Tryz.f155 1) (hs := hsq109) (os := osq109) (COt_ok (alq7 k)) (anq109 k) (fun n x => Lbig_Int_Mul_gsh_2 k n x.1 x.2.1 x.2.2.1 x.2.2.2.1 x.2.2.2.2.1 x.2.2.2.2.2.1 x.2.2.2.2.2.2.1 x.2.2.2.2.2.2.2.1 x.2.2.2.2.2.2.2.2.1 x.2.2.2.2.2.2.2.2.2.1 x.2.2.2.2.2.2.2.2.2.2.1 x.2.2.2.2.2.2.2.2.2.2.2.1 x.2.2.2.2.2.2.2.2.2.2.2.2.1 x.2.2.2.2.2.2.2.2.2.2.2.2.2.1 x.2.2.2.2.2.2.2.2.2.2.2.2.2.2.1 x.2.2.2.2.2.2.2.2.2.2.2.2.2.2.2) (fun _ => rfl) (stq109 k)
def hsq108 : List SS := [{ fr := [(0, .a (.ptr 0 0 0)), (1, .a (.ptr 1 0 0)), (2, .a (.ptr 2 0 0)), (7, .a (.smz 3)), (29, .a (.lf (.sl (.int .u32)))), (30, .a (.lf (.int .i64))), (31, .a (.lf (.int .i64)))], mem := [(0, some (.raw [[.lf .bool, .snil 1 106]] 2 147 true false false)), (1, some (.raw [[.lf .bool, .lf (.sl (.int .u32))]] 2 147 true false false)), (2, some (.raw [[.lf .bool, .lf (.sl (.int .u32))]] 2 147 true false false)), (3, some (.arr (.int .u32) 1 106 false))], nx := 4 }]
def osq108 : List OS := [⟨some 0, { fr := [(0, .a (.ptr 0 0 0)), (1, .a (.ptr 1 0 0)), (2, .a (.ptr 2 0 0)), (7, .a (.smz 3))], mem := [(0, some (.raw [[.lf .bool, .snil 1 106]] 2 147 true false false)), (1, some (.raw [[.lf .bool, .lf (.sl (.int .u32))]] 2 147 true false false)), (2, some (.raw [[.lf .bool, .lf (.sl (.int .u32))]] 2 147 true false false)), (3, some (.arr (.int .u32) 1 106 false))], nx := 4 }⟩]
def LIq108 (k : Nat) : LInst := ⟨0, hsq108, osq108, fun x => Lbig_Int_Mul_gsh_0 k k x.1 x.2.1 x.2.2.1 x.2.2.2.1 x.2.2.2.2.1 x.2.2.2.2.2.1 x.2.2.2.2.2.2.1 x.2.2.2.2.2.2.2.1 x.2.2.2.2.2.2.2.2.1 x.2.2.2.2.2.2.2.2.2⟩
theorem anq108 (k : Nat) : LAll (LOk (R := DS OS.D osq108) (fun b _ σ K => LOt Ty (kps 155) 3 b σ K [LIq109 k]) cf (call cf k) (kps 155) Tryz.f155.ntmps k 3) 0 (lb Tryz.f155 0) :=
 qA qT (qA (qA qT qT) (qA (qA qT (qA qT (qA (qA qT (LOt_ok (c := cf) (callF := call cf k) (kp := kps 155) (nt := Tryz.f155.ntmps) (k := k) (p := 3) (b := 2) (x0 := lb Tryz.f155 1) (l := [LIq109 k]) (qA (fun _ => loq109 k) qT))) qT))) qT))
theorem stq108 (k n : Nat) (x : DS SS.D hsq108) : Lbig_Int_Mul_gsh_0 k (n + 1) x.1 x.2.1 x.2.2.1 x.2.2.2.1 x.2.2.2.2.1 x.2.2.2.2.2.1 x.2.2.2.2.2.2.1 x.2.2.2.2.2.2.2.1 x.2.2.2.2.2.2.2.2.1 x.2.2.2.2.2.2.2.2.2 = encSK SS.enc (fun σ => run2 cf (fun f a b K => COt f a b K [Iq16 k]) (fun b _ σ K => LOt Ty (kps 155) 3 b σ K [LIq109 k]) Tryz.f155.ntmps 0 (lb Tryz.f155 0) σ (nextK Ty (kps 155 0) 3 hsq108 osq108 fun x => Lbig_Int_Mul_gsh_0 k n x.1 x.2.1 x.2.2.1 x.2.2.2.1 x.2.2.2.2.1 x.2.2.2.2.2.1 x.2.2.2.2.2.2.1 x.2.2.2.2.2.2.2.1 x.2.2.2.2.2.2.2.2.1 x.2.2.2.2.2.2.2.2.2)) hsq108 x := by kernel_rfl
theorem loq108 (k : Nat) : LIOk cf (call cf k) (kps 155) Tryz.f155.ntmps k 3 0 (lb Tryz.f155 0) (LIq108 k) :=
 loop_ok (c := cf) (callF := call cf k) (kp := kps 155) (nt := Tryz.f155.ntmps) (k := k) (p := 3) (b := 0) (x0 := lb Tryz.f155 0) (hs := hsq108) (os := osq108) (COt_ok (alq7 k)) (anq108 k) (fun n x => Lbig_Int_Mul_gsh_0 k n x.1 x.2.1 x.2.2.1 x.2.2.2.1 x.2.2.2.2.1 x.2.2.2.2.2.1 x.2.2.2.2.2.2.1 x.2.2.2.2.2.2.2.1 x.2.2.2.2.2.2.2.2.1 x.2.2.2.2.2.2.2.2.2) (fun _ => rfl) (stq108 k)
theorem anq7 (k : Nat) : LAll (LOk (R := DS FS.D rsq7) (fun b _ σ K => LOt Ty (kps 155) 3 b σ K [LIq109 k, LIq108 k]) cf (call cf k) (cf.keep 155) Tryz.f155.ntmps k shq7.bs.length) 0 (bd Tryz.f155) :=
 qA qT (qA qT (qA (qA qT (LOt_ok (c := cf) (callF := call cf k) (kp := kps 155) (nt := Tryz.f155.ntmps) (k := k) (p := 3) (b := 0) (x0 := lb Tryz.f155 0) (l := [LIq109 k, LIq108 k]) (qA (fun h => absurd (show (2 : Nat) = 0 from h) (by decide)) (qA (fun _ => loq108 k) qT)))) (qA qT qT)))
theorem stq7 (k : Nat) (x : shq7.D) : Fbig_Int_Mul_gsh (k + 1) x.1 x.2.1 x.2.2.1 x.2.2.2.1 x.2.2.2.2 = body2 cf (fun f a b K => COt f a b K [Iq16 k]) (fun b _ σ K => LOt Ty (kps 155) 3 b σ K [LIq109 k, LIq108 k]) 155 Tryz.f155.ntmps Tryz.f155.results.toList (bd Tryz.f155) (shq7.enc x).1 (shq7.enc x).2 (putS FS.dec rsq7) := by kernel_rfl
theorem okq7 : ∀ k, InstOk (call cf k) (Iq7 k)
 | 0 => fun x y e => absurd (show (none : Option _) = some y from e) (by simp)
 | k + 1 => inst_ok (c := cf) (k := k) (f := 155) (fn := Tryz.f155) (body := bd Tryz.f155) (sh := shq7) (os := rsq7) rfl Tryz.func155 rfl ⟨rfl, Nat.le_of_ble_eq_true rfl⟩ (COt_ok (alq7 k)) (anq7 k) (fun x => Fbig_Int_Mul_gsh (k + 1) x.1 x.2.1 x.2.2.1 x.2.2.2.1 x.2.2.2.2) (stq7 k)

/-! shunt/shuntlaw20.circuit -/
def bshuntlaw20_circuit (k : Nat) : Option (List ByteArray × List (Int × ByteArray × List Int × Int × (Int × Int) × (Int × List (Int × Int) × List Int) × ByteArray × Int × List (Int × Int) × List (Int × Int)) × Int × Int × Int) :=
 (some ((List.take 3 ((ByteArray.mk (List.toArray (48 :: []))) :: ((ByteArray.mk (List.toArray (97 :: []))) :: ((ByteArray.mk (List.toArray (120 :: (49 :: (46 :: (98 :: [])))))) :: [])))), (List.take 1 (((114 : Int), ((ByteArray.mk (List.toArray (120 :: (49 :: (46 :: (114 :: (49 :: []))))))), ((List.take 2 ((1 : Int) :: ((2 : Int) :: []))), ((0 : Int), (((1 : Int), (0 : Int)), (((0 : Int), (([] : List (Int × Int)), ([] : List Int))), ((ByteArray.mk (List.toArray [])), ((0 : Int), (([] : List (Int × Int)), ([] : List (Int × Int))))))))))) :: [])), (1 : Int), (0 : Int), (1 : Int)))
def Fshuntlaw20_circuit : Nat → Option (List ByteArray × List (Int × ByteArray × List Int × Int × (Int × Int) × (Int × List (Int × Int) × List Int) × ByteArray × Int × List (Int × Int) × List (Int × Int)) × Int × Int × Int)
 | 0 => none
 | k + 1 => bshuntlaw20_circuit k
def shq75 : FS := { vs := [], bs := [] }
def rsq75 : List FS := [{ vs := [.g [.lf (.sl .str), .lf (.sl (.pr (.int .u8) (.pr .str (.pr (.sl (.int .i64)) (.pr (.int .i64) (.pr (.pr (.int .i64) (.int .i64)) (.pr (.pr (.int .i64) (.pr (.sl (.pr (.int .i64) (.int .i64))) (.sl (.int .i64)))) (.pr .str (.pr (.int .u8) (.pr (.sl (.pr (.int .i64) (.int .i64))) (.sl (.pr (.int .i64) (.int .i64))))))))))))), .lf (.int .i64), .lf (.int .i64), .lf (.int .i64)]], bs := [] }]
def Iq75 (k : Nat) : Inst := ⟨72, shq75, rsq75, fun x => Fshuntlaw20_circuit k⟩
theorem alq75 (k : Nat) : AllI (call cf k) [] := True.intro
theorem anq75 (k : Nat) : LAll (LOk (R := DS FS.D rsq75) (fun b _ σ K => LOt Ty (kps 72) 0 b σ K []) cf (call cf k) (cf.keep 72) Tryz.f72.ntmps k shq75.bs.length) 0 (bd Tryz.f72) :=
 qA qT (qA qT qT)
theorem stq75 (k : Nat) (x : shq75.D) : Fshuntlaw20_circuit (k + 1) = body2 cf (fun f a b K => COt f a b K []) (fun b _ σ K => LOt Ty (kps 72) 0 b σ K []) 72 Tryz.f72.ntmps Tryz.f72.results.toList (bd Tryz.f72) (shq75.enc x).1 (shq75.enc x).2 (putS FS.dec rsq75) := by kernel_rfl
theorem okq75 : ∀ k, InstOk (call cf k) (Iq75 k)
 | 0 => fun x y e => absurd (show (none : Option _) = some y from e) (by simp)
 | k + 1 => inst_ok (c := cf) (k := k) (f := 72) (fn := Tryz.f72) (body := bd Tryz.f72) (sh := shq75) (os := rsq75) rfl Tryz.func72 rfl ⟨rfl, Nat.le_of_ble_eq_true rfl⟩ (COt_ok (alq75 k)) (anq75 k) (fun x => Fshuntlaw20_circuit (k + 1)) (stq75 k)

/-! shunt/num.Valid -/
def bnum_Valid (k : Nat) (n0 : Int) (n1 : Int) : Option (Bool) :=
 if ((n0 == (0 : Int)) = true) then
 (some (n1 == (0 : Int)))
 else
 if ((decide (n0 ≥ (-(999999999 : Int)))) = true) then
 if ((decide (n0 ≤ (999999999 : Int))) = true) then
 if (((Int.tmod n0 (10 : Int)) != (0 : Int)) = true) then
 if ((decide (n1 ≥ (-(18 : Int)))) = true) then
 (some (decide (n1 ≤ (9 : Int))))
 else
 (some false)
 else
 (some false)
 else
 (some false)
 else
 (some false)
def Fnum_Valid : Nat → Int → Int → Option (Bool)
 | 0, _, _ => none
 | k + 1, n0, n1 => bnum_Valid k n0 n1
def shq57 : FS := { vs := [.g [.lf (.int .i64), .lf (.int .i64)]], bs := [] }
def rsq57 : List FS := [{ vs := [.a (.lf .bool)], bs := [] }]
def Iq57 (k : Nat) : Inst := ⟨118, shq57, rsq57, fun x => Fnum_Valid k x.1 x.2⟩
theorem alq57 (k : Nat) : AllI (call cf k) [] := True.intro
theorem anq57 (k : Nat) : LAll (LOk (R := DS FS.D rsq57) (fun b _ σ K => LOt Ty (kps 118) 0 b σ K []) cf (call cf k) (cf.keep 118) Tryz.f118.ntmps k shq57.bs.length) 0 (bd Tryz.f118) :=
 qA qT (qA (qA qT (qA (qA qT qT) qT)) (qA qT qT))
theorem stq57 (k : Nat) (x : shq57.D) : Fnum_Valid (k + 1) x.1 x.2 = body2 cf (fun f a b K => COt f a b K []) (fun b _ σ K => LOt Ty (kps 118) 0 b σ K []) 118 Tryz.f118.ntmps Tryz.f118.results.toList (bd Tryz.f118) (shq57.enc x).1 (shq57.enc x).2 (putS FS.dec rsq57) := by kernel_rfl
theorem okq57 : ∀ k, InstOk (call cf k) (Iq57 k)
 | 0 => fun x y e => absurd (show (none : Option _) = some y from e) (by simp)
 | k + 1 => inst_ok (c := cf) (k := k) (f := 118) (fn := Tryz.f118) (body := bd Tryz.f118) (sh := shq57) (os := rsq57) rfl Tryz.func118 rfl ⟨rfl, Nat.le_of_ble_eq_true rfl⟩ (COt_ok (alq57 k)) (anq57 k) (fun x => Fnum_Valid (k + 1) x.1 x.2) (stq57 k)

/-! shunt/flat.twice -/
def Lflat_twice_0s (k : Nat) (rec : List ByteArray → List ByteArray → Int → Int → List (ByteArray × Int) → Option (List ByteArray × List (ByteArray × Int))) (l : List ByteArray) (x : List ByteArray) (x1 : Int) (x2 : Int) (seens : List (ByteArray × Int)) : Option (List ByteArray × List (ByteArray × Int)) :=
 if ((decide (x2 < x1)) = true) then
 if ((0 : Int) ≤ x2) then
 Option.bind (x)[(Int.toNat x2)]? fun x3 =>
 rec l x x1 (IntKind.wrap .i64 (x2 + (1 : Int))) (mapS .str (.int .i64) seens x3 (IntKind.wrap .i64 ((mapG .str (.int .i64) seens x3 (0 : Int)) + (1 : Int))))
 else
 none
 else
 (some (l, seens))
def Lflat_twice_0 (k n : Nat) : List ByteArray → List ByteArray → Int → Int → List (ByteArray × Int) → Option (List ByteArray × List (ByteArray × Int)) := Nat.rec (fun _ _ _ _ _ => none) (fun _ r => Lflat_twice_0s k r) n
def bflat_twice (k : Nat) (l : List ByteArray) : Option (Bool) :=
 Option.bind (Lflat_twice_0 k k l l (((List.length l) : Nat) : Int) (0 : Int) []) fun r2 =>
 (some ((((List.length r2.2) : Nat) : Int) != (((List.length r2.1) : Nat) : Int)))
def Fflat_twice : Nat → List ByteArray → Option (Bool)
 | 0, _ => none
 | k + 1, l => bflat_twice k l
def shq48 : FS := { vs := [.a (.lf (.sl .str))], bs := [] }
def rsq48 : List FS := [{ vs := [.a (.lf .bool)], bs := [] }]
def Iq48 (k : Nat) : Inst := ⟨183, shq48, rsq48, fun x => Fflat_twice k x⟩
theorem alq48 (k : Nat) : AllI (call cf k) [] := True.intro
def hsq132 : List SS := [{ fr := [(0, .a (.lf (.sl .str))), (3, .a (.mp 0)), (7, .a (.lf (.sl .str))), (8, .a (.lf (.int .i64))), (9, .a (.lf (.int .i64)))], mem := [(0, some (.map .str (.int .i64) 261 false))], nx := 1 }]
def osq132 : List OS := [⟨some 0, { fr := [(0, .a (.lf (.sl .str))), (3, .a (.mp 0))], mem := [(0, some (.map .str (.int .i64) 261 false))], nx := 1 }⟩]
def LIq132 (k : Nat) : LInst := ⟨0, hsq132, osq132, fun x => Lflat_twice_0 k k x.1 x.2.1 x.2.2.1 x.2.2.2.1 x.2.2.2.2⟩
theorem anq132 (k : Nat) : LAll (LOk (R := DS OS.D osq132) (fun b _ σ K => LOt Ty (kps 183) 0 b σ K []) cf (call cf k) (kps 183) Tryz.f183.ntmps k 0) 0 (lb Tryz.f183 0) :=
 qA qT (qA (qA qT qT) (qA (qA qT qT) qT))
theorem stq132 (k n : Nat) (x : DS SS.D hsq132) : Lflat_twice_0 k (n + 1) x.1 x.2.1 x.2.2.1 x.2.2.2.1 x.2.2.2.2 = encSK SS.enc (fun σ => run2 cf (fun f a b K => COt f a b K []) (fun b _ σ K => LOt Ty (kps 183) 0 b σ K []) Tryz.f183.ntmps 0 (lb Tryz.f183 0) σ (nextK Ty (kps 183 0) 0 hsq132 osq132 fun x => Lflat_twice_0 k n x.1 x.2.1 x.2.2.1 x.2.2.2.1 x.2.2.2.2)) hsq132 x := by kernel_rfl
theorem loq132 (k : Nat) : LIOk cf (call cf k) (kps 183) Tryz.f183.ntmps k 0 0 (lb Tryz.f183 0) (LIq132 k) :=
 loop_ok (c := cf) (callF := call cf k) (kp := kps 183) (nt := Tryz.f183.ntmps) (k := k) (p := 0) (b := 0) (x0 := lb Tryz.f183 0) (hs := hsq132) (os := osq132) (COt_ok (alq48 k)) (anq132 k) (fun n x => Lflat_twice_0 k n x.1 x.2.1 x.2.2.1 x.2.2.2.1 x.2.2.2.2) (fun _ => rfl) (stq132 k)
theorem anq48 (k : Nat) : LAll (LOk (R := DS FS.D rsq48) (fun b _ σ K => LOt Ty (kps 183) 0 b σ K [LIq132 k]) cf (call cf k) (cf.keep 183) Tryz.f183.ntmps k shq48.bs.length) 0 (bd Tryz.f183) :=
 qA qT (qA qT (qA (qA qT (LOt_ok (c := cf) (callF := call cf k) (kp := kps 183) (nt := Tryz.f183.ntmps) (k := k) (p := 0) (b := 0) (x0 := lb Tryz.f183 0) (l := [LIq132 k]) (qA (fun _ => loq132 k) qT))) (qA qT qT)))
theorem stq48 (k : Nat) (x : shq48.D) : Fflat_twice (k + 1) x = body2 cf (fun f a b K => COt f a b K []) (fun b _ σ K => LOt Ty (kps 183) 0 b σ K [LIq132 k]) 183 Tryz.f183.ntmps Tryz.f183.results.toList (bd Tryz.f183) (shq48.enc x).1 (shq48.enc x).2 (putS FS.dec rsq48) := by kernel_rfl
theorem okq48 : ∀ k, InstOk (call cf k) (Iq48 k)
 | 0 => fun x y e => absurd (show (none : Option _) = some y from e) (by simp)
 | k + 1 => inst_ok (c := cf) (k := k) (f := 183) (fn := Tryz.f183) (body := bd Tryz.f183) (sh := shq48) (os := rsq48) rfl Tryz.func183 rfl ⟨rfl, Nat.le_of_ble_eq_true rfl⟩ (COt_ok (alq48 k)) (anq48 k) (fun x => Fflat_twice (k + 1) x) (stq48 k)

/-! unicode/utf8.RuneCountInString -/
def bunicode_utf8_RuneCountInString (k : Nat) (s : ByteArray) : Option (Empty) :=
 none
def Funicode_utf8_RuneCountInString : Nat → ByteArray → Option (Empty)
 | 0, _ => none
 | k + 1, s => bunicode_utf8_RuneCountInString k s
def shq100 : FS := { vs := [.a (.lf .str)], bs := [] }
def rsq100 : List FS := []
def Iq100 (k : Nat) : Inst := ⟨237, shq100, rsq100, fun x => Funicode_utf8_RuneCountInString k x⟩
theorem alq100 (k : Nat) : AllI (call cf k) [] := True.intro
theorem anq100 (k : Nat) : LAll (LOk (R := DS FS.D rsq100) (fun b _ σ K => LOt Ty (kps 237) 0 b σ K []) cf (call cf k) (cf.keep 237) Tryz.f237.ntmps k shq100.bs.length) 0 (bd Tryz.f237) :=
 qA qT (qA (qA qT (LOt_ok (c := cf) (callF := call cf k) (kp := kps 237) (nt := Tryz.f237.ntmps) (k := k) (p := 0) (b := 0) (x0 := lb Tryz.f237 0) (l := []) qT)) (qA qT qT))
theorem stq100 (k : Nat) (x : shq100.D) : Funicode_utf8_RuneCountInString (k + 1) x = body2 cf (fun f a b K => COt f a b K []) (fun b _ σ K => LOt Ty (kps 237) 0 b σ K []) 237 Tryz.f237.ntmps Tryz.f237.results.toList (bd Tryz.f237) (shq100.enc x).1 (shq100.enc x).2 (putS FS.dec rsq100) := by kernel_rfl
theorem okq100 : ∀ k, InstOk (call cf k) (Iq100 k)
 | 0 => fun x y e => absurd (show (none : Option _) = some y from e) (by simp)
 | k + 1 => inst_ok (c := cf) (k := k) (f := 237) (fn := Tryz.f237) (body := bd Tryz.f237) (sh := shq100) (os := rsq100) rfl Tryz.func237 rfl ⟨rfl, Nat.le_of_ble_eq_true rfl⟩ (COt_ok (alq100 k)) (anq100 k) (fun x => Funicode_utf8_RuneCountInString (k + 1) x) (stq100 k)

/-! strings.explode -/
def bstrings_explode (k : Nat) (s : ByteArray) (n : Int) : Option (Empty) :=
 Option.bind (Funicode_utf8_RuneCountInString k s) fun r3 =>
 nomatch r3
def Fstrings_explode : Nat → ByteArray → Int → Option (Empty)
 | 0, _, _ => none
 | k + 1, s, n => bstrings_explode k s n
def shq94 : FS := { vs := [.a (.lf .str), .a (.lf (.int .i64))], bs := [] }
def rsq94 : List FS := []
def Iq94 (k : Nat) : Inst := ⟨228, shq94, rsq94, fun x => Fstrings_explode k x.1 x.2⟩
theorem alq94 (k : Nat) : AllI (call cf k) [Iq100 k] := qA (okq100 k) qT
theorem anq94 (k : Nat) : LAll (LOk (R := DS FS.D rsq94) (fun b _ σ K => LOt Ty (kps 228) 0 b σ K []) cf (call cf k) (cf.keep 228) Tryz.f228.ntmps k shq94.bs.length) 0 (bd Tryz.f228) :=
 qA qT (qA qT (qA (qA qT (qA qT qT)) (qA qT (qA (qA qT (LOt_ok (c := cf) (callF := call cf k) (kp := kps 228) (nt := Tryz.f228.ntmps) (k := k) (p := 0) (b := 0) (x0 := lb Tryz.f228 0) (l := []) qT)) (qA (qA qT (qA qT qT)) (qA qT qT))))))
theorem stq94 (k : Nat) (x : shq94.D) : Fstrings_explode (k + 1) x.1 x.2 = body2 cf (fun f a b K => COt f a b K [Iq100 k]) (fun b _ σ K => LOt Ty (kps 228) 0 b σ K []) 228 Tryz.f228.ntmps Tryz.f228.results.toList (bd Tryz.f228) (shq94.enc x).1 (shq94.enc x).2 (putS FS.dec rsq94) := by kernel_rfl
theorem okq94 : ∀ k, InstOk (call cf k) (Iq94 k)
 | 0 => fun x y e => absurd (show (none : Option _) = some y from e) (by simp)
 | k + 1 => inst_ok (c := cf) (k := k) (f := 228) (fn := Tryz.f228) (body := bd Tryz.f228) (sh := shq94) (os := rsq94) rfl Tryz.func228 rfl ⟨rfl, Nat.le_of_ble_eq_true rfl⟩ (COt_ok (alq94 k)) (anq94 k) (fun x => Fstrings_explode (k + 1) x.1 x.2) (stq94 k)

/-! strings.Count -/
def bstrings_Count (k : Nat) (s : ByteArray) (substr : ByteArray) : Option (Int) :=
 if ((List.length (Array.toList (ByteArray.data substr))) = 1) then
 (some (cntS s substr))
 else
 none
def Fstrings_Count : Nat → ByteArray → ByteArray → Option (Int)
 | 0, _, _ => none
 | k + 1, s, substr => bstrings_Count k s substr
def shq90 : FS := { vs := [.a (.lf .str), .a (.lf .str)], bs := [] }
def rsq90 : List FS := [{ vs := [.a (.lf (.int .i64))], bs := [] }]
def Iq90 (k : Nat) : Inst := ⟨229, shq90, rsq90, fun x => Fstrings_Count k x.1 x.2⟩
theorem alq90 (k : Nat) : AllI (call cf k) [] := True.intro
theorem stq90 (k : Nat) (x : shq90.D) : Fstrings_Count (k + 1) x.1 x.2 = (kCountS) (DS FS.D rsq90) (shq90.enc x).1 (shq90.enc x).2 (putS FS.dec rsq90) := by kernel_rfl
theorem okq90 : ∀ k, InstOk (call cf k) (Iq90 k)
 | 0 => fun x y e => absurd (show (none : Option _) = some y from e) (by simp)
 | k + 1 => inst_okX (c := cf) (k := k) (f := 229) (g := gCountS) (G := kCountS) (sh := shq90) (os := rsq90) rfl (kCountS_at) (fun x => Fstrings_Count (k + 1) x.1 x.2) (stq90 k)

/-! strings.Index -/
def bstrings_Index (k : Nat) (s : ByteArray) (substr : ByteArray) : Option (Int) :=
 if ((List.length (Array.toList (ByteArray.data substr))) = 1) then
 (some (idxS s substr))
 else
 none
def Fstrings_Index : Nat → ByteArray → ByteArray → Option (Int)
 | 0, _, _ => none
 | k + 1, s, substr => bstrings_Index k s substr
def shq91 : FS := { vs := [.a (.lf .str), .a (.lf .str)], bs := [] }
def rsq91 : List FS := [{ vs := [.a (.lf (.int .i64))], bs := [] }]
def Iq91 (k : Nat) : Inst := ⟨230, shq91, rsq91, fun x => Fstrings_Index k x.1 x.2⟩
theorem alq91 (k : Nat) : AllI (call cf k) [] := True.intro
theorem stq91 (k : Nat) (x : shq91.D) : Fstrings_Index (k + 1) x.1 x.2 = (kIndexS) (DS FS.D rsq91) (shq91.enc x).1 (shq91.enc x).2 (putS FS.dec rsq91) := by kernel_rfl
theorem okq91 : ∀ k, InstOk (call cf k) (Iq91 k)
 | 0 => fun x y e => absurd (show (none : Option _) = some y from e) (by simp)
 | k + 1 => inst_okX (c := cf) (k := k) (f := 230) (g := gIndexS) (G := kIndexS) (sh := shq91) (os := rsq91) rfl (kIndexS_at) (fun x => Fstrings_Index (k + 1) x.1 x.2) (stq91 k)

/-! strings.genSplit -/
def Lstrings_genSplit_0s (k : Nat) (rec : ByteArray → ByteArray → Int → Int → Nat → Int → List ByteArray → Option (ByteArray × Nat × Int × List ByteArray)) (s : ByteArray) (sep : ByteArray) (sepSave : Int) (n : Int) (a : Nat) (i : Int) (as1 : List ByteArray) : Option (ByteArray × Nat × Int × List ByteArray) :=
 if ((decide (i < n)) = true) then
 Option.bind (Fstrings_Index k s sep) fun r4 =>
 if ((decide (r4 < (0 : Int))) = true) then
 (some (s, a, i, as1))
 else
 if (((0 : Int) ≤ (0 : Int)) ∧ (((0 : Int) ≤ (IntKind.wrap .i64 (r4 + sepSave))) ∧ ((IntKind.wrap .i64 (r4 + sepSave)) ≤ (((ByteArray.size s) : Nat) : Int)))) then
 if (((0 : Int) ≤ i) ∧ (i < ((a : Nat) : Int))) then
 Option.bind (as1)[(0 + (Int.toNat i))]? fun x4 =>
 if (((0 : Int) ≤ (IntKind.wrap .i64 (r4 + (((ByteArray.size sep) : Nat) : Int)))) ∧ (((IntKind.wrap .i64 (r4 + (((ByteArray.size sep) : Nat) : Int))) ≤ (((ByteArray.size s) : Nat) : Int)) ∧ ((((ByteArray.size s) : Nat) : Int) ≤ (((ByteArray.size s) : Nat) : Int)))) then
 rec (ByteArray.extract s (Int.toNat (IntKind.wrap .i64 (r4 + (((ByteArray.size sep) : Nat) : Int)))) (Int.toNat (((ByteArray.size s) : Nat) : Int))) sep sepSave n a (IntKind.wrap .i64 (i + (1 : Int))) (List.set as1 (0 + (Int.toNat i)) (ByteArray.extract s 0 (Int.toNat (IntKind.wrap .i64 (r4 + sepSave)))))
 else
 none
 else
 none
 else
 none
 else
 (some (s, a, i, as1))
def Lstrings_genSplit_0 (k n : Nat) : ByteArray → ByteArray → Int → Int → Nat → Int → List ByteArray → Option (ByteArray × Nat × Int × List ByteArray) := Nat.rec (fun _ _ _ _ _ _ _ => none) (fun _ r => Lstrings_genSplit_0s k r) n
def bstrings_genSplit (k : Nat) (s : ByteArray) (sep : ByteArray) (sepSave : Int) (n : Int) : Option (List ByteArray) :=
 if ((n == (0 : Int)) = true) then
 (some [])
 else
 if (((Array.toList (ByteArray.data sep)) == (Array.toList (ByteArray.data (ByteArray.mk (List.toArray []))))) = true) then
 Option.bind (Fstrings_explode k s n) fun r3 =>
 nomatch r3
 else
 if ((decide (n < (0 : Int))) = true) then
 Option.bind (Fstrings_Count k s sep) fun r3 =>
 if (((0 : Int) ≤ (min (IntKind.wrap .i64 (r3 + (1 : Int))) (IntKind.wrap .i64 ((((ByteArray.size s) : Nat) : Int) + (1 : Int))))) ∧ (((min (IntKind.wrap .i64 (r3 + (1 : Int))) (IntKind.wrap .i64 ((((ByteArray.size s) : Nat) : Int) + (1 : Int)))) ≤ (min (IntKind.wrap .i64 (r3 + (1 : Int))) (IntKind.wrap .i64 ((((ByteArray.size s) : Nat) : Int) + (1 : Int))))) ∧ (((min (IntKind.wrap .i64 (r3 + (1 : Int))) (IntKind.wrap .i64 ((((ByteArray.size s) : Nat) : Int) + (1 : Int)))) * (16 : Int)) ≤ (140737488355328 : Int)))) then
 Option.bind (Lstrings_genSplit_0 k k s sep sepSave (IntKind.wrap .i64 ((min (IntKind.wrap .i64 (r3 + (1 : Int))) (IntKind.wrap .i64 ((((ByteArray.size s) : Nat) : Int) + (1 : Int)))) - (1 : Int))) (Int.toNat (min (IntKind.wrap .i64 (r3 + (1 : Int))) (IntKind.wrap .i64 ((((ByteArray.size s) : Nat) : Int) + (1 : Int))))) (0 : Int) (List.replicate (Int.toNat (min (IntKind.wrap .i64 (r3 + (1 : Int))) (IntKind.wrap .i64 ((((ByteArray.size s) : Nat) : Int) + (1 : Int))))) (ByteArray.mk (List.toArray [])))) fun r4 =>
 if (((0 : Int) ≤ r4.2.2.1) ∧ (r4.2.2.1 < ((r4.2.1 : Nat) : Int))) then
 Option.bind (r4.2.2.2)[(0 + (Int.toNat r4.2.2.1))]? fun x4 =>
 if (((0 : Int) ≤ (0 : Int)) ∧ (((0 : Int) ≤ (IntKind.wrap .i64 (r4.2.2.1 + (1 : Int)))) ∧ (((0 + (Int.toNat (IntKind.wrap .i64 (r4.2.2.1 + (1 : Int))))) ≤ (List.length (List.set r4.2.2.2 (0 + (Int.toNat r4.2.2.1)) r4.1))) ∧ (((0 : Int) < (IntKind.wrap .i64 (r4.2.2.1 + (1 : Int)))) ∨ (true = true))))) then
 if ((0 + (Int.toNat (IntKind.wrap .i64 (r4.2.2.1 + (1 : Int))))) ≤ (List.length (List.set r4.2.2.2 (0 + (Int.toNat r4.2.2.1)) r4.1))) then
 (some (List.take (Int.toNat (IntKind.wrap .i64 (r4.2.2.1 + (1 : Int)))) (List.set r4.2.2.2 (0 + (Int.toNat r4.2.2.1)) r4.1)))
 else
 none
 else
 none
 else
 none
 else
 none
 else
 if (((0 : Int) ≤ (min n (IntKind.wrap .i64 ((((ByteArray.size s) : Nat) : Int) + (1 : Int))))) ∧ (((min n (IntKind.wrap .i64 ((((ByteArray.size s) : Nat) : Int) + (1 : Int)))) ≤ (min n (IntKind.wrap .i64 ((((ByteArray.size s) : Nat) : Int) + (1 : Int))))) ∧ (((min n (IntKind.wrap .i64 ((((ByteArray.size s) : Nat) : Int) + (1 : Int)))) * (16 : Int)) ≤ (140737488355328 : Int)))) then
 Option.bind (Lstrings_genSplit_0 k k s sep sepSave (IntKind.wrap .i64 ((min n (IntKind.wrap .i64 ((((ByteArray.size s) : Nat) : Int) + (1 : Int)))) - (1 : Int))) (Int.toNat (min n (IntKind.wrap .i64 ((((ByteArray.size s) : Nat) : Int) + (1 : Int))))) (0 : Int) (List.replicate (Int.toNat (min n (IntKind.wrap .i64 ((((ByteArray.size s) : Nat) : Int) + (1 : Int))))) (ByteArray.mk (List.toArray [])))) fun r3 =>
 if (((0 : Int) ≤ r3.2.2.1) ∧ (r3.2.2.1 < ((r3.2.1 : Nat) : Int))) then
 Option.bind (r3.2.2.2)[(0 + (Int.toNat r3.2.2.1))]? fun x4 =>
 if (((0 : Int) ≤ (0 : Int)) ∧ (((0 : Int) ≤ (IntKind.wrap .i64 (r3.2.2.1 + (1 : Int)))) ∧ (((0 + (Int.toNat (IntKind.wrap .i64 (r3.2.2.1 + (1 : Int))))) ≤ (List.length (List.set r3.2.2.2 (0 + (Int.toNat r3.2.2.1)) r3.1))) ∧ (((0 : Int) < (IntKind.wrap .i64 (r3.2.2.1 + (1 : Int)))) ∨ (true = true))))) then
 if ((0 + (Int.toNat (IntKind.wrap .i64 (r3.2.2.1 + (1 : Int))))) ≤ (List.length (List.set r3.2.2.2 (0 + (Int.toNat r3.2.2.1)) r3.1))) then
 (some (List.take (Int.toNat (IntKind.wrap .i64 (r3.2.2.1 + (1 : Int)))) (List.set r3.2.2.2 (0 + (Int.toNat r3.2.2.1)) r3.1)))
 else
 none
 else
 none
 else
 none
 else
 none
def Fstrings_genSplit : Nat → ByteArray → ByteArray → Int → Int → Option (List ByteArray)
 | 0, _, _, _, _ => none
 | k + 1, s, sep, sepSave, n => bstrings_genSplit k s sep sepSave n
def shq95 : FS := { vs := [.a (.lf .str), .a (.lf .str), .a (.lf (.int .i64)), .a (.lf (.int .i64))], bs := [] }
def rsq95 : List FS := [{ vs := [.a (.lf (.sl .str))], bs := [] }]
def Iq95 (k : Nat) : Inst := ⟨193, shq95, rsq95, fun x => Fstrings_genSplit k x.1 x.2.1 x.2.2.1 x.2.2.2⟩
theorem alq95 (k : Nat) : AllI (call cf k) [Iq94 k, Iq90 k, Iq91 k] := qA (okq94 k) (qA (okq90 k) (qA (okq91 k) qT))
def hsq152 : List SS := [{ fr := [(0, .a (.lf .str)), (1, .a (.lf .str)), (2, .a (.lf (.int .i64))), (3, .a (.lf (.int .i64))), (9, .a (.smz 0)), (10, .a (.lf (.int .i64)))], mem := [(0, some (.arr .str 1 9 false))], nx := 1 }]
def osq152 : List OS := [⟨some 0, { fr := [(0, .a (.lf .str)), (9, .a (.smz 0)), (10, .a (.lf (.int .i64)))], mem := [(0, some (.arr .str 1 9 false))], nx := 1 }⟩]
def LIq152 (k : Nat) : LInst := ⟨0, hsq152, osq152, fun x => Lstrings_genSplit_0 k k x.1 x.2.1 x.2.2.1 x.2.2.2.1 x.2.2.2.2.1 x.2.2.2.2.2.1 x.2.2.2.2.2.2⟩
theorem anq152 (k : Nat) : LAll (LOk (R := DS OS.D osq152) (fun b _ σ K => LOt Ty (kps 193) 0 b σ K []) cf (call cf k) (kps 193) Tryz.f193.ntmps k 0) 0 (lb Tryz.f193 0) :=
 qA (qA qT (qA qT qT)) (qA qT (qA (qA qT (qA qT qT)) (qA qT (qA qT qT))))
theorem stq152 (k n : Nat) (x : DS SS.D hsq152) : Lstrings_genSplit_0 k (n + 1) x.1 x.2.1 x.2.2.1 x.2.2.2.1 x.2.2.2.2.1 x.2.2.2.2.2.1 x.2.2.2.2.2.2 = encSK SS.enc (fun σ => run2 cf (fun f a b K => COt f a b K [Iq94 k, Iq90 k, Iq91 k]) (fun b _ σ K => LOt Ty (kps 193) 0 b σ K []) Tryz.f193.ntmps 0 (lb Tryz.f193 0) σ (nextK Ty (kps 193 0) 0 hsq152 osq152 fun x => Lstrings_genSplit_0 k n x.1 x.2.1 x.2.2.1 x.2.2.2.1 x.2.2.2.2.1 x.2.2.2.2.2.1 x.2.2.2.2.2.2)) hsq152 x := by kernel_rfl
theorem loq152 (k : Nat) : LIOk cf (call cf k) (kps 193) Tryz.f193.ntmps k 0 0 (lb Tryz.f193 0) (LIq152 k) :=
 loop_ok (c := cf) (callF := call cf k) (kp := kps 193) (nt := Tryz.f193.ntmps) (k := k) (p := 0) (b := 0) (x0 := lb Tryz.f193 0) (hs := hsq152) (os := osq152) (COt_ok (alq95 k)) (anq152 k) (fun n x => Lstrings_genSplit_0 k n x.1 x.2.1 x.2.2.1 x.2.2.2.1 x.2.2.2.2.1 x.2.2.2.2.2.1 x.2.2.2.2.2.2) (fun _ => rfl) (stq152 k)
theorem anq95 (k : Nat) : LAll (LOk (R := DS FS.D rsq95) (fun b _ σ K => LOt Ty (kps 193) 0 b σ K [LIq152 k]) cf (call cf k) (cf.keep 193) Tryz.f193.ntmps k shq95.bs.length) 0 (bd Tryz.f193) :=
 qA qT (qA (qA qT (qA (qA qT qT) qT)) (qA (qA qT (qA (qA qT qT) qT)) (qA (qA qT (qA qT qT)) (qA qT (qA qT (qA qT (qA qT (qA (LOt_ok (c := cf) (callF := call cf k) (kp := kps 193) (nt := Tryz.f193.ntmps) (k := k) (p := 0) (b := 0) (x0 := lb Tryz.f193 0) (l := [LIq152 k]) (qA (fun _ => loq152 k) qT)) (qA qT (qA qT qT))))))))))
theorem stq95 (k : Nat) (x : shq95.D) : Fstrings_genSplit (k + 1) x.1 x.2.1 x.2.2.1 x.2.2.2 = body2 cf (fun f a b K => COt f a b K [Iq94 k, Iq90 k, Iq91 k]) (fun b _ σ K => LOt Ty (kps 193) 0 b σ K [LIq152 k]) 193 Tryz.f193.ntmps Tryz.f193.results.toList (bd Tryz.f193) (shq95.enc x).1 (shq95.enc x).2 (putS FS.dec rsq95) := by kernel_rfl
theorem okq95 : ∀ k, InstOk (call cf k) (Iq95 k)
 | 0 => fun x y e => absurd (show (none : Option _) = some y from e) (by simp)
 | k + 1 => inst_ok (c := cf) (k := k) (f := 193) (fn := Tryz.f193) (body := bd Tryz.f193) (sh := shq95) (os := rsq95) rfl Tryz.func193 rfl ⟨rfl, Nat.le_of_ble_eq_true rfl⟩ (COt_ok (alq95 k)) (anq95 k) (fun x => Fstrings_genSplit (k + 1) x.1 x.2.1 x.2.2.1 x.2.2.2) (stq95 k)

/-! strings.Split -/
def bstrings_Split (k : Nat) (s : ByteArray) (sep : ByteArray) : Option (List ByteArray) :=
 Option.bind (Fstrings_genSplit k s sep (0 : Int) (-(1 : Int))) fun r3 =>
 (some r3)
def Fstrings_Split : Nat → ByteArray → ByteArray → Option (List ByteArray)
 | 0, _, _ => none
 | k + 1, s, sep => bstrings_Split k s sep
def shq93 : FS := { vs := [.a (.lf .str), .a (.lf .str)], bs := [] }
def rsq93 : List FS := [{ vs := [.a (.lf (.sl .str))], bs := [] }]
def Iq93 (k : Nat) : Inst := ⟨133, shq93, rsq93, fun x => Fstrings_Split k x.1 x.2⟩
theorem alq93 (k : Nat) : AllI (call cf k) [Iq95 k] := qA (okq95 k) qT
theorem anq93 (k : Nat) : LAll (LOk (R := DS FS.D rsq93) (fun b _ σ K => LOt Ty (kps 133) 0 b σ K []) cf (call cf k) (cf.keep 133) Tryz.f133.ntmps k shq93.bs.length) 0 (bd Tryz.f133) :=
 qA qT (qA qT qT)
theorem stq93 (k : Nat) (x : shq93.D) : Fstrings_Split (k + 1) x.1 x.2 = body2 cf (fun f a b K => COt f a b K [Iq95 k]) (fun b _ σ K => LOt Ty (kps 133) 0 b σ K []) 133 Tryz.f133.ntmps Tryz.f133.results.toList (bd Tryz.f133) (shq93.enc x).1 (shq93.enc x).2 (putS FS.dec rsq93) := by kernel_rfl
theorem okq93 : ∀ k, InstOk (call cf k) (Iq93 k)
 | 0 => fun x y e => absurd (show (none : Option _) = some y from e) (by simp)
 | k + 1 => inst_ok (c := cf) (k := k) (f := 133) (fn := Tryz.f133) (body := bd Tryz.f133) (sh := shq93) (os := rsq93) rfl Tryz.func133 rfl ⟨rfl, Nat.le_of_ble_eq_true rfl⟩ (COt_ok (alq93 k)) (anq93 k) (fun x => Fstrings_Split (k + 1) x.1 x.2) (stq93 k)

/-! shunt/model.Name -/
def Lmodel_Name_0s (k : Nat) (rec : List Int → Int → Int → Option ((Bool) ⊕ (Unit))) (x : List Int) (x1 : Int) (x2 : Int) : Option ((Bool) ⊕ (Unit)) :=
 if ((decide (x2 < x1)) = true) then
 if ((0 : Int) ≤ x2) then
 Option.bind (x)[(Int.toNat x2)]? fun x5 =>
 if ((decide (x5 ≥ (97 : Int))) = true) then
 if ((decide (x5 ≤ (122 : Int))) = false) then
 if ((decide (x5 ≥ (48 : Int))) = true) then
 if ((decide (x5 ≤ (57 : Int))) = false) then
 if ((!(x5 == (95 : Int))) = true) then
 (some (Sum.inl false))
 else
 rec x x1 (IntKind.wrap .i64 (x2 + (1 : Int)))
 else
 rec x x1 (IntKind.wrap .i64 (x2 + (1 : Int)))
 else
 if ((!(x5 == (95 : Int))) = true) then
 (some (Sum.inl false))
 else
 rec x x1 (IntKind.wrap .i64 (x2 + (1 : Int)))
 else
 rec x x1 (IntKind.wrap .i64 (x2 + (1 : Int)))
 else
 if ((decide (x5 ≥ (48 : Int))) = true) then
 if ((decide (x5 ≤ (57 : Int))) = false) then
 if ((!(x5 == (95 : Int))) = true) then
 (some (Sum.inl false))
 else
 rec x x1 (IntKind.wrap .i64 (x2 + (1 : Int)))
 else
 rec x x1 (IntKind.wrap .i64 (x2 + (1 : Int)))
 else
 if ((!(x5 == (95 : Int))) = true) then
 (some (Sum.inl false))
 else
 rec x x1 (IntKind.wrap .i64 (x2 + (1 : Int)))
 else
 none
 else
 (some (Sum.inr ()))
def Lmodel_Name_0 (k n : Nat) : List Int → Int → Int → Option ((Bool) ⊕ (Unit)) := Nat.rec (fun _ _ _ => none) (fun _ r => Lmodel_Name_0s k r) n
def bmodel_Name (k : Nat) (s : ByteArray) : Option (Bool) :=
 if ((decide ((((ByteArray.size s) : Nat) : Int) < (1 : Int))) = false) then
 if ((decide ((((ByteArray.size s) : Nat) : Int) > (16 : Int))) = true) then
 (some false)
 else
 Option.bind (Lmodel_Name_0 k k (List.map (fun b : UInt8 => ((UInt8.toNat b : Nat) : Int)) (Array.toList (ByteArray.data s))) (((List.length (List.map (fun b : UInt8 => ((UInt8.toNat b : Nat) : Int)) (Array.toList (ByteArray.data s)))) : Nat) : Int) (0 : Int)) fun r4 =>
 eitherK r4
 (fun r4 =>
 (some r4))
 (fun r4 =>
 (some true))
 else
 (some false)
def Fmodel_Name : Nat → ByteArray → Option (Bool)
 | 0, _ => none
 | k + 1, s => bmodel_Name k s
def shq54 : FS := { vs := [.a (.lf .str)], bs := [] }
def rsq54 : List FS := [{ vs := [.a (.lf .bool)], bs := [] }]
def Iq54 (k : Nat) : Inst := ⟨226, shq54, rsq54, fun x => Fmodel_Name k x⟩
theorem alq54 (k : Nat) : AllI (call cf k) [] := True.intro
def hsq133 : List SS := [{ fr := [(14, .a (.lf (.sl (.int .u8)))), (15, .a (.lf (.int .i64))), (16, .a (.lf (.int .i64)))], mem := [], nx := 0 }]
def osq133 : List OS := [⟨none, { fr := [(2, .a (.lf .bool))], mem := [], nx := 0 }⟩, ⟨some 0, { fr := [], mem := [], nx := 0 }⟩]
def LIq133 (k : Nat) : LInst := ⟨0, hsq133, osq133, fun x => Lmodel_Name_0 k k x.1 x.2.1 x.2.2⟩
theorem anq133 (k : Nat) : LAll (LOk (R := DS OS.D osq133) (fun b _ σ K => LOt Ty (kps 226) 0 b σ K []) cf (call cf k) (kps 226) Tryz.f226.ntmps k 0) 0 (lb Tryz.f226 0) :=
 qA qT (qA (qA qT qT) (qA (qA qT (qA qT (qA (qA qT qT) qT))) qT))
theorem stq133 (k n : Nat) (x : DS SS.D hsq133) : Lmodel_Name_0 k (n + 1) x.1 x.2.1 x.2.2 = encSK SS.enc (fun σ => run2 cf (fun f a b K => COt f a b K []) (fun b _ σ K => LOt Ty (kps 226) 0 b σ K []) Tryz.f226.ntmps 0 (lb Tryz.f226 0) σ (nextK Ty (kps 226 0) 0 hsq133 osq133 fun x => Lmodel_Name_0 k n x.1 x.2.1 x.2.2)) hsq133 x := by kernel_rfl
theorem loq133 (k : Nat) : LIOk cf (call cf k) (kps 226) Tryz.f226.ntmps k 0 0 (lb Tryz.f226 0) (LIq133 k) :=
 loop_ok (c := cf) (callF := call cf k) (kp := kps 226) (nt := Tryz.f226.ntmps) (k := k) (p := 0) (b := 0) (x0 := lb Tryz.f226 0) (hs := hsq133) (os := osq133) (COt_ok (alq54 k)) (anq133 k) (fun n x => Lmodel_Name_0 k n x.1 x.2.1 x.2.2) (fun _ => rfl) (stq133 k)
theorem anq54 (k : Nat) : LAll (LOk (R := DS FS.D rsq54) (fun b _ σ K => LOt Ty (kps 226) 0 b σ K [LIq133 k]) cf (call cf k) (cf.keep 226) Tryz.f226.ntmps k shq54.bs.length) 0 (bd Tryz.f226) :=
 qA qT (qA (qA qT (qA (qA qT qT) qT)) (qA (qA qT (LOt_ok (c := cf) (callF := call cf k) (kp := kps 226) (nt := Tryz.f226.ntmps) (k := k) (p := 0) (b := 0) (x0 := lb Tryz.f226 0) (l := [LIq133 k]) (qA (fun _ => loq133 k) qT))) (qA qT qT)))
theorem stq54 (k : Nat) (x : shq54.D) : Fmodel_Name (k + 1) x = body2 cf (fun f a b K => COt f a b K []) (fun b _ σ K => LOt Ty (kps 226) 0 b σ K [LIq133 k]) 226 Tryz.f226.ntmps Tryz.f226.results.toList (bd Tryz.f226) (shq54.enc x).1 (shq54.enc x).2 (putS FS.dec rsq54) := by kernel_rfl
theorem okq54 : ∀ k, InstOk (call cf k) (Iq54 k)
 | 0 => fun x y e => absurd (show (none : Option _) = some y from e) (by simp)
 | k + 1 => inst_ok (c := cf) (k := k) (f := 226) (fn := Tryz.f226) (body := bd Tryz.f226) (sh := shq54) (os := rsq54) rfl Tryz.func226 rfl ⟨rfl, Nat.le_of_ble_eq_true rfl⟩ (COt_ok (alq54 k)) (anq54 k) (fun x => Fmodel_Name (k + 1) x) (stq54 k)

/-! shunt/card.Name -/
def bcard_Name (k : Nat) (s : ByteArray) : Option (Bool) :=
 Option.bind (Fmodel_Name k s) fun r4 =>
 (some r4)
def Fcard_Name : Nat → ByteArray → Option (Bool)
 | 0, _ => none
 | k + 1, s => bcard_Name k s
def shq37 : FS := { vs := [.a (.lf .str)], bs := [] }
def rsq37 : List FS := [{ vs := [.a (.lf .bool)], bs := [] }]
def Iq37 (k : Nat) : Inst := ⟨196, shq37, rsq37, fun x => Fcard_Name k x⟩
theorem alq37 (k : Nat) : AllI (call cf k) [Iq54 k] := qA (okq54 k) qT
theorem anq37 (k : Nat) : LAll (LOk (R := DS FS.D rsq37) (fun b _ σ K => LOt Ty (kps 196) 0 b σ K []) cf (call cf k) (cf.keep 196) Tryz.f196.ntmps k shq37.bs.length) 0 (bd Tryz.f196) :=
 qA qT (qA qT qT)
theorem stq37 (k : Nat) (x : shq37.D) : Fcard_Name (k + 1) x = body2 cf (fun f a b K => COt f a b K [Iq54 k]) (fun b _ σ K => LOt Ty (kps 196) 0 b σ K []) 196 Tryz.f196.ntmps Tryz.f196.results.toList (bd Tryz.f196) (shq37.enc x).1 (shq37.enc x).2 (putS FS.dec rsq37) := by kernel_rfl
theorem okq37 : ∀ k, InstOk (call cf k) (Iq37 k)
 | 0 => fun x y e => absurd (show (none : Option _) = some y from e) (by simp)
 | k + 1 => inst_ok (c := cf) (k := k) (f := 196) (fn := Tryz.f196) (body := bd Tryz.f196) (sh := shq37) (os := rsq37) rfl Tryz.func196 rfl ⟨rfl, Nat.le_of_ble_eq_true rfl⟩ (COt_ok (alq37 k)) (anq37 k) (fun x => Fcard_Name (k + 1) x) (stq37 k)

/-! shunt/flat.long$1 -/
def bflat_long_1 (k : Nat) (p : ByteArray) : Option (Bool) :=
 Option.bind (Fcard_Name k p) fun r4 =>
 (some (!r4))
def Fflat_long_1 : Nat → ByteArray → Option (Bool)
 | 0, _ => none
 | k + 1, p => bflat_long_1 k p
def shq44 : FS := { vs := [.a (.lf .str)], bs := [] }
def rsq44 : List FS := [{ vs := [.a (.lf .bool)], bs := [] }]
def Iq44 (k : Nat) : Inst := ⟨221, shq44, rsq44, fun x => Fflat_long_1 k x⟩
theorem alq44 (k : Nat) : AllI (call cf k) [Iq37 k] := qA (okq37 k) qT
theorem anq44 (k : Nat) : LAll (LOk (R := DS FS.D rsq44) (fun b _ σ K => LOt Ty (kps 221) 0 b σ K []) cf (call cf k) (cf.keep 221) Tryz.f221.ntmps k shq44.bs.length) 0 (bd Tryz.f221) :=
 qA qT (qA qT qT)
theorem stq44 (k : Nat) (x : shq44.D) : Fflat_long_1 (k + 1) x = body2 cf (fun f a b K => COt f a b K [Iq37 k]) (fun b _ σ K => LOt Ty (kps 221) 0 b σ K []) 221 Tryz.f221.ntmps Tryz.f221.results.toList (bd Tryz.f221) (shq44.enc x).1 (shq44.enc x).2 (putS FS.dec rsq44) := by kernel_rfl
theorem okq44 : ∀ k, InstOk (call cf k) (Iq44 k)
 | 0 => fun x y e => absurd (show (none : Option _) = some y from e) (by simp)
 | k + 1 => inst_ok (c := cf) (k := k) (f := 221) (fn := Tryz.f221) (body := bd Tryz.f221) (sh := shq44) (os := rsq44) rfl Tryz.func221 rfl ⟨rfl, Nat.le_of_ble_eq_true rfl⟩ (COt_ok (alq44 k)) (anq44 k) (fun x => Fflat_long_1 (k + 1) x) (stq44 k)

/-! slices.IndexFunc[[]string,string] -/
def Lslices_IndexFunc_string_string__sel_0s (k : Nat) (rec : List ByteArray → Int → Int → Option ((Int) ⊕ (Unit))) (s : List ByteArray) (x : Int) (x1 : Int) : Option ((Int) ⊕ (Unit)) :=
 if ((decide (x1 < x)) = true) then
 if ((0 : Int) ≤ x1) then
 Option.bind (s)[(Int.toNat x1)]? fun x4 =>
 Option.bind (Fflat_long_1 k x4) fun r4 =>
 if (r4 = true) then
 (some (Sum.inl x1))
 else
 rec s x (IntKind.wrap .i64 (x1 + (1 : Int)))
 else
 none
 else
 (some (Sum.inr ()))
def Lslices_IndexFunc_string_string__sel_0 (k n : Nat) : List ByteArray → Int → Int → Option ((Int) ⊕ (Unit)) := Nat.rec (fun _ _ _ => none) (fun _ r => Lslices_IndexFunc_string_string__sel_0s k r) n
def bslices_IndexFunc_string_string__sel (k : Nat) (s : List ByteArray) : Option (Int) :=
 Option.bind (Lslices_IndexFunc_string_string__sel_0 k k s (((List.length s) : Nat) : Int) (0 : Int)) fun r4 =>
 eitherK r4
 (fun r4 =>
 (some r4))
 (fun r4 =>
 (some (-(1 : Int))))
def Fslices_IndexFunc_string_string__sel : Nat → List ByteArray → Option (Int)
 | 0, _ => none
 | k + 1, s => bslices_IndexFunc_string_string__sel k s
def shq86 : FS := { vs := [.a (.lf (.sl .str)), .a (.fn 221 [])], bs := [] }
def rsq86 : List FS := [{ vs := [.a (.lf (.int .i64))], bs := [] }]
def Iq86 (k : Nat) : Inst := ⟨194, shq86, rsq86, fun x => Fslices_IndexFunc_string_string__sel k x⟩
theorem alq86 (k : Nat) : AllI (call cf k) [Iq44 k] := qA (okq44 k) qT
def hsq148 : List SS := [{ fr := [(0, .a (.lf (.sl .str))), (1, .a (.fn 221 [])), (7, .a (.lf (.int .i64))), (8, .a (.lf (.int .i64)))], mem := [], nx := 0 }]
def osq148 : List OS := [⟨none, { fr := [(4, .a (.lf (.int .i64)))], mem := [], nx := 0 }⟩, ⟨some 0, { fr := [], mem := [], nx := 0 }⟩]
def LIq148 (k : Nat) : LInst := ⟨0, hsq148, osq148, fun x => Lslices_IndexFunc_string_string__sel_0 k k x.1 x.2.1 x.2.2⟩
theorem anq148 (k : Nat) : LAll (LOk (R := DS OS.D osq148) (fun b _ σ K => LOt Ty (kps 194) 0 b σ K []) cf (call cf k) (kps 194) Tryz.f194.ntmps k 0) 0 (lb Tryz.f194 0) :=
 qA qT (qA (qA qT qT) (qA (qA qT (qA qT (qA (qA qT qT) qT))) qT))
theorem stq148 (k n : Nat) (x : DS SS.D hsq148) : Lslices_IndexFunc_string_string__sel_0 k (n + 1) x.1 x.2.1 x.2.2 = encSK SS.enc (fun σ => run2 cf (fun f a b K => COt f a b K [Iq44 k]) (fun b _ σ K => LOt Ty (kps 194) 0 b σ K []) Tryz.f194.ntmps 0 (lb Tryz.f194 0) σ (nextK Ty (kps 194 0) 0 hsq148 osq148 fun x => Lslices_IndexFunc_string_string__sel_0 k n x.1 x.2.1 x.2.2)) hsq148 x := by kernel_rfl
theorem loq148 (k : Nat) : LIOk cf (call cf k) (kps 194) Tryz.f194.ntmps k 0 0 (lb Tryz.f194 0) (LIq148 k) :=
 loop_ok (c := cf) (callF := call cf k) (kp := kps 194) (nt := Tryz.f194.ntmps) (k := k) (p := 0) (b := 0) (x0 := lb Tryz.f194 0) (hs := hsq148) (os := osq148) (COt_ok (alq86 k)) (anq148 k) (fun n x => Lslices_IndexFunc_string_string__sel_0 k n x.1 x.2.1 x.2.2) (fun _ => rfl) (stq148 k)
theorem anq86 (k : Nat) : LAll (LOk (R := DS FS.D rsq86) (fun b _ σ K => LOt Ty (kps 194) 0 b σ K [LIq148 k]) cf (call cf k) (cf.keep 194) Tryz.f194.ntmps k shq86.bs.length) 0 (bd Tryz.f194) :=
 qA qT (qA (qA qT (LOt_ok (c := cf) (callF := call cf k) (kp := kps 194) (nt := Tryz.f194.ntmps) (k := k) (p := 0) (b := 0) (x0 := lb Tryz.f194 0) (l := [LIq148 k]) (qA (fun _ => loq148 k) qT))) (qA qT qT))
theorem stq86 (k : Nat) (x : shq86.D) : Fslices_IndexFunc_string_string__sel (k + 1) x = body2 cf (fun f a b K => COt f a b K [Iq44 k]) (fun b _ σ K => LOt Ty (kps 194) 0 b σ K [LIq148 k]) 194 Tryz.f194.ntmps Tryz.f194.results.toList (bd Tryz.f194) (shq86.enc x).1 (shq86.enc x).2 (putS FS.dec rsq86) := by kernel_rfl
theorem okq86 : ∀ k, InstOk (call cf k) (Iq86 k)
 | 0 => fun x y e => absurd (show (none : Option _) = some y from e) (by simp)
 | k + 1 => inst_ok (c := cf) (k := k) (f := 194) (fn := Tryz.f194) (body := bd Tryz.f194) (sh := shq86) (os := rsq86) rfl Tryz.func194 rfl ⟨rfl, Nat.le_of_ble_eq_true rfl⟩ (COt_ok (alq86 k)) (anq86 k) (fun x => Fslices_IndexFunc_string_string__sel (k + 1) x) (stq86 k)

/-! slices.ContainsFunc[[]string,string] -/
def bslices_ContainsFunc_string_string__sel (k : Nat) (s : List ByteArray) : Option (Bool) :=
 Option.bind (Fslices_IndexFunc_string_string__sel k s) fun r4 =>
 (some (decide (r4 ≥ (0 : Int))))
def Fslices_ContainsFunc_string_string__sel : Nat → List ByteArray → Option (Bool)
 | 0, _ => none
 | k + 1, s => bslices_ContainsFunc_string_string__sel k s
def shq81 : FS := { vs := [.a (.lf (.sl .str)), .a (.fn 221 [])], bs := [] }
def rsq81 : List FS := [{ vs := [.a (.lf .bool)], bs := [] }]
def Iq81 (k : Nat) : Inst := ⟨134, shq81, rsq81, fun x => Fslices_ContainsFunc_string_string__sel k x⟩
theorem alq81 (k : Nat) : AllI (call cf k) [Iq86 k] := qA (okq86 k) qT
theorem anq81 (k : Nat) : LAll (LOk (R := DS FS.D rsq81) (fun b _ σ K => LOt Ty (kps 134) 0 b σ K []) cf (call cf k) (cf.keep 134) Tryz.f134.ntmps k shq81.bs.length) 0 (bd Tryz.f134) :=
 qA qT (qA qT qT)
theorem stq81 (k : Nat) (x : shq81.D) : Fslices_ContainsFunc_string_string__sel (k + 1) x = body2 cf (fun f a b K => COt f a b K [Iq86 k]) (fun b _ σ K => LOt Ty (kps 134) 0 b σ K []) 134 Tryz.f134.ntmps Tryz.f134.results.toList (bd Tryz.f134) (shq81.enc x).1 (shq81.enc x).2 (putS FS.dec rsq81) := by kernel_rfl
theorem okq81 : ∀ k, InstOk (call cf k) (Iq81 k)
 | 0 => fun x y e => absurd (show (none : Option _) = some y from e) (by simp)
 | k + 1 => inst_ok (c := cf) (k := k) (f := 134) (fn := Tryz.f134) (body := bd Tryz.f134) (sh := shq81) (os := rsq81) rfl Tryz.func134 rfl ⟨rfl, Nat.le_of_ble_eq_true rfl⟩ (COt_ok (alq81 k)) (anq81 k) (fun x => Fslices_ContainsFunc_string_string__sel (k + 1) x) (stq81 k)

/-! shunt/flat.long -/
def bflat_long (k : Nat) (s : ByteArray) : Option (Bool) :=
 Option.bind (Fstrings_Split k s (ByteArray.mk (List.toArray (46 :: [])))) fun r3 =>
 if ((decide ((((List.length r3) : Nat) : Int) ≤ (9 : Int))) = true) then
 Option.bind (Fslices_ContainsFunc_string_string__sel k r3) fun r4 =>
 (some (!r4))
 else
 (some false)
def Fflat_long : Nat → ByteArray → Option (Bool)
 | 0, _ => none
 | k + 1, s => bflat_long k s
def shq43 : FS := { vs := [.a (.lf .str)], bs := [] }
def rsq43 : List FS := [{ vs := [.a (.lf .bool)], bs := [] }]
def Iq43 (k : Nat) : Inst := ⟨184, shq43, rsq43, fun x => Fflat_long k x⟩
theorem alq43 (k : Nat) : AllI (call cf k) [Iq93 k, Iq81 k] := qA (okq93 k) (qA (okq81 k) qT)
theorem anq43 (k : Nat) : LAll (LOk (R := DS FS.D rsq43) (fun b _ σ K => LOt Ty (kps 184) 0 b σ K []) cf (call cf k) (cf.keep 184) Tryz.f184.ntmps k shq43.bs.length) 0 (bd Tryz.f184) :=
 qA qT (qA qT (qA qT qT))
theorem stq43 (k : Nat) (x : shq43.D) : Fflat_long (k + 1) x = body2 cf (fun f a b K => COt f a b K [Iq93 k, Iq81 k]) (fun b _ σ K => LOt Ty (kps 184) 0 b σ K []) 184 Tryz.f184.ntmps Tryz.f184.results.toList (bd Tryz.f184) (shq43.enc x).1 (shq43.enc x).2 (putS FS.dec rsq43) := by kernel_rfl
theorem okq43 : ∀ k, InstOk (call cf k) (Iq43 k)
 | 0 => fun x y e => absurd (show (none : Option _) = some y from e) (by simp)
 | k + 1 => inst_ok (c := cf) (k := k) (f := 184) (fn := Tryz.f184) (body := bd Tryz.f184) (sh := shq43) (os := rsq43) rfl Tryz.func184 rfl ⟨rfl, Nat.le_of_ble_eq_true rfl⟩ (COt_ok (alq43 k)) (anq43 k) (fun x => Fflat_long (k + 1) x) (stq43 k)

/-! shunt/wave.Valid -/
def Lwave_Valid_0s (k : Nat) (rec : List (Int × Int) → Int → Int → Int → List (Int × Int) → List Int → Option ((Bool × Int × List (Int × Int) × List Int × Int × Int) ⊕ (Int × List (Int × Int) × List Int))) (x : List (Int × Int)) (x1 : Int) (x2 : Int) (w0 : Int) (w1 : List (Int × Int)) (w2 : List Int) : Option ((Bool × Int × List (Int × Int) × List Int × Int × Int) ⊕ (Int × List (Int × Int) × List Int)) :=
 if ((decide (x2 < x1)) = true) then
 if ((0 : Int) ≤ x2) then
 Option.bind (x)[(Int.toNat x2)]? fun x4 =>
 Option.bind (Fnum_Valid k x4.1 x4.2) fun r6 =>
 if ((!r6) = true) then
 (some (Sum.inl (false, w0, w1, w2, x4.1, x4.2)))
 else
 rec x x1 (IntKind.wrap .i64 (x2 + (1 : Int))) w0 w1 w2
 else
 none
 else
 (some (Sum.inr (w0, w1, w2)))
def Lwave_Valid_0 (k n : Nat) : List (Int × Int) → Int → Int → Int → List (Int × Int) → List Int → Option ((Bool × Int × List (Int × Int) × List Int × Int × Int) ⊕ (Int × List (Int × Int) × List Int)) := Nat.rec (fun _ _ _ _ _ _ => none) (fun _ r => Lwave_Valid_0s k r) n
def Lwave_Valid_2s (k : Nat) (rec : List Int → Int → Int → Int → List (Int × Int) → List Int → Option ((Bool × Int × List (Int × Int) × List Int) ⊕ (Int × List (Int × Int) × List Int))) (x : List Int) (x1 : Int) (x2 : Int) (w0 : Int) (w1 : List (Int × Int)) (w2 : List Int) : Option ((Bool × Int × List (Int × Int) × List Int) ⊕ (Int × List (Int × Int) × List Int)) :=
 if ((decide (x2 < x1)) = true) then
 if ((0 : Int) ≤ x2) then
 Option.bind (x)[(Int.toNat x2)]? fun x4 =>
 if ((decide (x4 < (0 : Int))) = false) then
 if ((decide (x4 > (1000000000 : Int))) = true) then
 (some (Sum.inl (false, w0, w1, w2)))
 else
 rec x x1 (IntKind.wrap .i64 (x2 + (1 : Int))) w0 w1 w2
 else
 (some (Sum.inl (false, w0, w1, w2)))
 else
 none
 else
 (some (Sum.inr (w0, w1, w2)))
def Lwave_Valid_2 (k n : Nat) : List Int → Int → Int → Int → List (Int × Int) → List Int → Option ((Bool × Int × List (Int × Int) × List Int) ⊕ (Int × List (Int × Int) × List Int)) := Nat.rec (fun _ _ _ _ _ _ => none) (fun _ r => Lwave_Valid_2s k r) n
def Lwave_Valid_5s (k : Nat) (rec : Int → Int → List (Int × Int) → List Int → Option ((Bool × Int × List (Int × Int) × List Int) ⊕ (Int × List (Int × Int) × List Int))) (i : Int) (w0 : Int) (w1 : List (Int × Int)) (w2 : List Int) : Option ((Bool × Int × List (Int × Int) × List Int) ⊕ (Int × List (Int × Int) × List Int)) :=
 if ((decide (i < (((List.length w2) : Nat) : Int))) = true) then
 if ((0 : Int) ≤ i) then
 Option.bind (w2)[(Int.toNat i)]? fun x4 =>
 if ((0 : Int) ≤ (IntKind.wrap .i64 (i - (1 : Int)))) then
 Option.bind (w2)[(Int.toNat (IntKind.wrap .i64 (i - (1 : Int))))]? fun x5 =>
 if ((decide (x4 ≤ x5)) = true) then
 (some (Sum.inl (false, w0, w1, w2)))
 else
 rec (IntKind.wrap .i64 (i + (1 : Int))) w0 w1 w2
 else
 none
 else
 none
 else
 (some (Sum.inr (w0, w1, w2)))
def Lwave_Valid_5 (k n : Nat) : Int → Int → List (Int × Int) → List Int → Option ((Bool × Int × List (Int × Int) × List Int) ⊕ (Int × List (Int × Int) × List Int)) := Nat.rec (fun _ _ _ _ => none) (fun _ r => Lwave_Valid_5s k r) n
def bwave_Valid (k : Nat) (w0 : Int) (w1 : List (Int × Int)) (w2 : List Int) : Option (Bool) :=
 Option.bind (Lwave_Valid_0 k k w1 (((List.length w1) : Nat) : Int) (0 : Int) w0 w1 w2) fun r6 =>
 eitherK r6
 (fun r6 =>
 (some r6.1))
 (fun r6 =>
 Option.bind (Lwave_Valid_2 k k r6.2.2 (((List.length r6.2.2) : Nat) : Int) (0 : Int) r6.1 r6.2.1 r6.2.2) fun r7 =>
 eitherK r7
 (fun r7 =>
 (some r7.1))
 (fun r7 =>
 if ((r7.1 == (1 : Int)) = true) then
 if (((((List.length r7.2.1) : Nat) : Int) == (1 : Int)) = true) then
 (some ((((List.length r7.2.2) : Nat) : Int) == (0 : Int)))
 else
 (some false)
 else
 if ((r7.1 == (2 : Int)) = true) then
 if (((((List.length r7.2.1) : Nat) : Int) == (2 : Int)) = true) then
 if (((((List.length r7.2.2) : Nat) : Int) == (5 : Int)) = true) then
 Option.bind (r7.2.2)[4]? fun x4 =>
 if ((decide (x4 ≥ (1 : Int))) = true) then
 Option.bind (r7.2.2)[1]? fun x5 =>
 Option.bind (r7.2.2)[2]? fun x6 =>
 Option.bind (r7.2.2)[3]? fun x7 =>
 Option.bind (r7.2.2)[4]? fun x8 =>
 (some (decide ((IntKind.wrap .i64 ((IntKind.wrap .i64 (x5 + x6)) + x7)) ≤ x8)))
 else
 (some false)
 else
 (some false)
 else
 (some false)
 else
 if ((r7.1 == (3 : Int)) = true) then
 Option.bind (Lwave_Valid_5 k k (1 : Int) r7.1 r7.2.1 r7.2.2) fun r8 =>
 eitherK r8
 (fun r8 =>
 (some r8.1))
 (fun r8 =>
 if (((((List.length r8.2.1) : Nat) : Int) == (((List.length r8.2.2) : Nat) : Int)) = true) then
 if ((decide ((((List.length r8.2.1) : Nat) : Int) ≥ (1 : Int))) = true) then
 (some (decide ((((List.length r8.2.1) : Nat) : Int) ≤ (16 : Int))))
 else
 (some false)
 else
 (some false))
 else
 if ((r7.1 == (4 : Int)) = true) then
 if ((decide ((((List.length r7.2.1) : Nat) : Int) ≥ (1 : Int))) = true) then
 if ((decide ((((List.length r7.2.1) : Nat) : Int) ≤ (16 : Int))) = true) then
 (some ((((List.length r7.2.2) : Nat) : Int) == (0 : Int)))
 else
 (some false)
 else
 (some false)
 else
 (some false)))
def Fwave_Valid : Nat → Int → List (Int × Int) → List Int → Option (Bool)
 | 0, _, _, _ => none
 | k + 1, w0, w1, w2 => bwave_Valid k w0 w1 w2
def shq101 : FS := { vs := [.g [.lf (.int .i64), .lf (.sl (.pr (.int .i64) (.int .i64))), .lf (.sl (.int .i64))]], bs := [] }
def rsq101 : List FS := [{ vs := [.a (.lf .bool)], bs := [] }]
def Iq101 (k : Nat) : Inst := ⟨222, shq101, rsq101, fun x => Fwave_Valid k x.1 x.2.1 x.2.2⟩
theorem alq101 (k : Nat) : AllI (call cf k) [Iq57 k] := qA (okq57 k) qT
def hsq155 : List SS := [{ fr := [(1, .a (.ptr 0 0 0)), (9, .a (.lf (.sl (.pr (.int .i64) (.int .i64))))), (10, .a (.lf (.int .i64))), (11, .a (.lf (.int .i64)))], mem := [(0, some (.raw [[.lf (.int .i64), .lf (.sl (.pr (.int .i64) (.int .i64))), .lf (.sl (.int .i64))]] 3 44 true false false))], nx := 1 }]
def osq155 : List OS := [⟨none, { fr := [(2, .a (.lf .bool))], mem := [(0, some (.raw [[.lf (.int .i64), .lf (.sl (.pr (.int .i64) (.int .i64))), .lf (.sl (.int .i64))]] 3 44 true false false)), (1, some (.raw [[.lf (.int .i64), .lf (.int .i64)]] 2 25 true false false))], nx := 2 }⟩, ⟨some 0, { fr := [(1, .a (.ptr 0 0 0))], mem := [(0, some (.raw [[.lf (.int .i64), .lf (.sl (.pr (.int .i64) (.int .i64))), .lf (.sl (.int .i64))]] 3 44 true false false))], nx := 1 }⟩]
def LIq155 (k : Nat) : LInst := ⟨0, hsq155, osq155, fun x => Lwave_Valid_0 k k x.1 x.2.1 x.2.2.1 x.2.2.2.1 x.2.2.2.2.1 x.2.2.2.2.2⟩
theorem anq155 (k : Nat) : LAll (LOk (R := DS OS.D osq155) (fun b _ σ K => LOt Ty (kps 222) 0 b σ K []) cf (call cf k) (kps 222) Tryz.f222.ntmps k 0) 0 (lb Tryz.f222 0) :=
 qA qT (qA (qA qT qT) (qA (qA qT (qA qT (qA (qA qT qT) qT))) qT))
theorem stq155 (k n : Nat) (x : DS SS.D hsq155) : Lwave_Valid_0 k (n + 1) x.1 x.2.1 x.2.2.1 x.2.2.2.1 x.2.2.2.2.1 x.2.2.2.2.2 = encSK SS.enc (fun σ => run2 cf (fun f a b K => COt f a b K [Iq57 k]) (fun b _ σ K => LOt Ty (kps 222) 0 b σ K []) Tryz.f222.ntmps 0 (lb Tryz.f222 0) σ (nextK Ty (kps 222 0) 0 hsq155 osq155 fun x => Lwave_Valid_0 k n x.1 x.2.1 x.2.2.1 x.2.2.2.1 x.2.2.2.2.1 x.2.2.2.2.2)) hsq155 x := by kernel_rfl
theorem loq155 (k : Nat) : LIOk cf (call cf k) (kps 222) Tryz.f222.ntmps k 0 0 (lb Tryz.f222 0) (LIq155 k) :=
 loop_ok (c := cf) (callF := call cf k) (kp := kps 222) (nt := Tryz.f222.ntmps) (k := k) (p := 0) (b := 0) (x0 := lb Tryz.f222 0) (hs := hsq155) (os := osq155) (COt_ok (alq101 k)) (anq155 k) (fun n x => Lwave_Valid_0 k n x.1 x.2.1 x.2.2.1 x.2.2.2.1 x.2.2.2.2.1 x.2.2.2.2.2) (fun _ => rfl) (stq155 k)
def hsq156 : List SS := [{ fr := [(1, .a (.ptr 0 0 0)), (20, .a (.lf (.sl (.int .i64)))), (21, .a (.lf (.int .i64))), (22, .a (.lf (.int .i64)))], mem := [(0, some (.raw [[.lf (.int .i64), .lf (.sl (.pr (.int .i64) (.int .i64))), .lf (.sl (.int .i64))]] 3 44 true false false))], nx := 1 }]
def osq156 : List OS := [⟨none, { fr := [(2, .a (.lf .bool))], mem := [(0, some (.raw [[.lf (.int .i64), .lf (.sl (.pr (.int .i64) (.int .i64))), .lf (.sl (.int .i64))]] 3 44 true false false))], nx := 1 }⟩, ⟨some 2, { fr := [(1, .a (.ptr 0 0 0))], mem := [(0, some (.raw [[.lf (.int .i64), .lf (.sl (.pr (.int .i64) (.int .i64))), .lf (.sl (.int .i64))]] 3 44 true false false))], nx := 1 }⟩]
def LIq156 (k : Nat) : LInst := ⟨2, hsq156, osq156, fun x => Lwave_Valid_2 k k x.1 x.2.1 x.2.2.1 x.2.2.2.1 x.2.2.2.2.1 x.2.2.2.2.2⟩
theorem anq156 (k : Nat) : LAll (LOk (R := DS OS.D osq156) (fun b _ σ K => LOt Ty (kps 222) 0 b σ K [LIq155 k]) cf (call cf k) (kps 222) Tryz.f222.ntmps k 0) 2 (lb Tryz.f222 1) :=
 qA qT (qA (qA qT qT) (qA (qA qT (qA qT (qA (qA qT qT) qT))) qT))
theorem stq156 (k n : Nat) (x : DS SS.D hsq156) : Lwave_Valid_2 k (n + 1) x.1 x.2.1 x.2.2.1 x.2.2.2.1 x.2.2.2.2.1 x.2.2.2.2.2 = encSK SS.enc (fun σ => run2 cf (fun f a b K => COt f a b K [Iq57 k]) (fun b _ σ K => LOt Ty (kps 222) 0 b σ K [LIq155 k]) Tryz.f222.ntmps 2 (lb Tryz.f222 1) σ (nextK Ty (kps 222 2) 0 hsq156 osq156 fun x => Lwave_Valid_2 k n x.1 x.2.1 x.2.2.1 x.2.2.2.1 x.2.2.2.2.1 x.2.2.2.2.2)) hsq156 x := by kernel_rfl
theorem loq156 (k : Nat) : LIOk cf (call cf k) (kps 222) Tryz.f222.ntmps k 0 2 (lb Tryz.f222 1) (LIq156 k) :=
 loop_ok (c := cf) (callF := call cf k) (kp := kps 222) (nt := Tryz.f222.ntmps) (k := k) (p := 0) (b := 2) (x0 := lb Tryz.f222 1) (hs := hsq156) (os := osq156) (COt_ok (alq101 k)) (anq156 k) (fun n x => Lwave_Valid_2 k n x.1 x.2.1 x.2.2.1 x.2.2.2.1 x.2.2.2.2.1 x.2.2.2.2.2) (fun _ => rfl) (stq156 k)
def hsq157 : List SS := [{ fr := [(1, .a (.ptr 0 0 0)), (7, .a (.lf (.int .i64)))], mem := [(0, some (.raw [[.lf (.int .i64), .lf (.sl (.pr (.int .i64) (.int .i64))), .lf (.sl (.int .i64))]] 3 44 true false false))], nx := 1 }]
def osq157 : List OS := [⟨none, { fr := [(2, .a (.lf .bool))], mem := [(0, some (.raw [[.lf (.int .i64), .lf (.sl (.pr (.int .i64) (.int .i64))), .lf (.sl (.int .i64))]] 3 44 true false false))], nx := 1 }⟩, ⟨some 5, { fr := [(1, .a (.ptr 0 0 0))], mem := [(0, some (.raw [[.lf (.int .i64), .lf (.sl (.pr (.int .i64) (.int .i64))), .lf (.sl (.int .i64))]] 3 44 true false false))], nx := 1 }⟩]
def LIq157 (k : Nat) : LInst := ⟨5, hsq157, osq157, fun x => Lwave_Valid_5 k k x.1 x.2.1 x.2.2.1 x.2.2.2⟩
theorem anq157 (k : Nat) : LAll (LOk (R := DS OS.D osq157) (fun b _ σ K => LOt Ty (kps 222) 0 b σ K [LIq155 k, LIq156 k]) cf (call cf k) (kps 222) Tryz.f222.ntmps k 0) 5 (lb Tryz.f222 2) :=
 qA (qA qT (qA qT qT)) (qA (qA qT (qA (qA qT qT) qT)) qT)
theorem stq157 (k n : Nat) (x : DS SS.D hsq157) : Lwave_Valid_5 k (n + 1) x.1 x.2.1 x.2.2.1 x.2.2.2 = encSK SS.enc (fun σ => run2 cf (fun f a b K => COt f a b K [Iq57 k]) (fun b _ σ K => LOt Ty (kps 222) 0 b σ K [LIq155 k, LIq156 k]) Tryz.f222.ntmps 5 (lb Tryz.f222 2) σ (nextK Ty (kps 222 5) 0 hsq157 osq157 fun x => Lwave_Valid_5 k n x.1 x.2.1 x.2.2.1 x.2.2.2)) hsq157 x := by kernel_rfl
theorem loq157 (k : Nat) : LIOk cf (call cf k) (kps 222) Tryz.f222.ntmps k 0 5 (lb Tryz.f222 2) (LIq157 k) :=
 loop_ok (c := cf) (callF := call cf k) (kp := kps 222) (nt := Tryz.f222.ntmps) (k := k) (p := 0) (b := 5) (x0 := lb Tryz.f222 2) (hs := hsq157) (os := osq157) (COt_ok (alq101 k)) (anq157 k) (fun n x => Lwave_Valid_5 k n x.1 x.2.1 x.2.2.1 x.2.2.2) (fun _ => rfl) (stq157 k)
theorem anq101 (k : Nat) : LAll (LOk (R := DS FS.D rsq101) (fun b _ σ K => LOt Ty (kps 222) 0 b σ K [LIq155 k, LIq156 k, LIq157 k]) cf (call cf k) (cf.keep 222) Tryz.f222.ntmps k shq101.bs.length) 0 (bd Tryz.f222) :=
 qA qT (qA (qA qT (LOt_ok (c := cf) (callF := call cf k) (kp := kps 222) (nt := Tryz.f222.ntmps) (k := k) (p := 0) (b := 0) (x0 := lb Tryz.f222 0) (l := [LIq155 k, LIq156 k, LIq157 k]) (qA (fun _ => loq155 k) (qA (fun h => absurd (show (2 : Nat) = 0 from h) (by decide)) (qA (fun h => absurd (show (5 : Nat) = 0 from h) (by decide)) qT))))) (qA (qA qT (LOt_ok (c := cf) (callF := call cf k) (kp := kps 222) (nt := Tryz.f222.ntmps) (k := k) (p := 0) (b := 2) (x0 := lb Tryz.f222 1) (l := [LIq155 k, LIq156 k, LIq157 k]) (qA (fun h => absurd (show (0 : Nat) = 2 from h) (by decide)) (qA (fun _ => loq156 k) (qA (fun h => absurd (show (5 : Nat) = 2 from h) (by decide)) qT))))) (qA (qA qT (qA qT (qA (qA qT qT) (qA qT (qA (qA qT qT) (qA qT (qA (qA (qA qT (LOt_ok (c := cf) (callF := call cf k) (kp := kps 222) (nt := Tryz.f222.ntmps) (k := k) (p := 0) (b := 5) (x0 := lb Tryz.f222 2) (l := [LIq155 k, LIq156 k, LIq157 k]) (qA (fun h => absurd (show (0 : Nat) = 5 from h) (by decide)) (qA (fun h => absurd (show (2 : Nat) = 5 from h) (by decide)) (qA (fun _ => loq157 k) qT))))) (qA qT qT)) (qA qT (qA (qA qT qT) qT))))))))) (qA qT qT))))
theorem stq101 (k : Nat) (x : shq101.D) : Fwave_Valid (k + 1) x.1 x.2.1 x.2.2 = body2 cf (fun f a b K => COt f a b K [Iq57 k]) (fun b _ σ K => LOt Ty (kps 222) 0 b σ K [LIq155 k, LIq156 k, LIq157 k]) 222 Tryz.f222.ntmps Tryz.f222.results.toList (bd Tryz.f222) (shq101.enc x).1 (shq101.enc x).2 (putS FS.dec rsq101) := by kernel_rfl
theorem okq101 : ∀ k, InstOk (call cf k) (Iq101 k)
 | 0 => fun x y e => absurd (show (none : Option _) = some y from e) (by simp)
 | k + 1 => inst_ok (c := cf) (k := k) (f := 222) (fn := Tryz.f222) (body := bd Tryz.f222) (sh := shq101) (os := rsq101) rfl Tryz.func222 rfl ⟨rfl, Nat.le_of_ble_eq_true rfl⟩ (COt_ok (alq101 k)) (anq101 k) (fun x => Fwave_Valid (k + 1) x.1 x.2.1 x.2.2) (stq101 k)

/-! shunt/flat.noModel -/
def bflat_noModel (k : Nat) (m0 : ByteArray) (m1 : Int) (m2 : List (Int × Int)) (m3 : List (Int × Int)) : Option (Bool) :=
 if (((Array.toList (ByteArray.data m0)) == (Array.toList (ByteArray.data (ByteArray.mk (List.toArray []))))) = true) then
 if ((m1 == (0 : Int)) = true) then
 (some ((IntKind.wrap .i64 ((((List.length m2) : Nat) : Int) + (((List.length m3) : Nat) : Int))) == (0 : Int)))
 else
 (some false)
 else
 (some false)
def Fflat_noModel : Nat → ByteArray → Int → List (Int × Int) → List (Int × Int) → Option (Bool)
 | 0, _, _, _, _ => none
 | k + 1, m0, m1, m2, m3 => bflat_noModel k m0 m1 m2 m3
def shq45 : FS := { vs := [.g [.lf .str, .lf (.int .u8), .lf (.sl (.pr (.int .i64) (.int .i64))), .lf (.sl (.pr (.int .i64) (.int .i64)))]], bs := [] }
def rsq45 : List FS := [{ vs := [.a (.lf .bool)], bs := [] }]
def Iq45 (k : Nat) : Inst := ⟨223, shq45, rsq45, fun x => Fflat_noModel k x.1 x.2.1 x.2.2.1 x.2.2.2⟩
theorem alq45 (k : Nat) : AllI (call cf k) [] := True.intro
theorem anq45 (k : Nat) : LAll (LOk (R := DS FS.D rsq45) (fun b _ σ K => LOt Ty (kps 223) 0 b σ K []) cf (call cf k) (cf.keep 223) Tryz.f223.ntmps k shq45.bs.length) 0 (bd Tryz.f223) :=
 qA qT (qA qT qT)
theorem stq45 (k : Nat) (x : shq45.D) : Fflat_noModel (k + 1) x.1 x.2.1 x.2.2.1 x.2.2.2 = body2 cf (fun f a b K => COt f a b K []) (fun b _ σ K => LOt Ty (kps 223) 0 b σ K []) 223 Tryz.f223.ntmps Tryz.f223.results.toList (bd Tryz.f223) (shq45.enc x).1 (shq45.enc x).2 (putS FS.dec rsq45) := by kernel_rfl
theorem okq45 : ∀ k, InstOk (call cf k) (Iq45 k)
 | 0 => fun x y e => absurd (show (none : Option _) = some y from e) (by simp)
 | k + 1 => inst_ok (c := cf) (k := k) (f := 223) (fn := Tryz.f223) (body := bd Tryz.f223) (sh := shq45) (os := rsq45) rfl Tryz.func223 rfl ⟨rfl, Nat.le_of_ble_eq_true rfl⟩ (COt_ok (alq45 k)) (anq45 k) (fun x => Fflat_noModel (k + 1) x.1 x.2.1 x.2.2.1 x.2.2.2) (stq45 k)

/-! shunt/flat.noWave -/
def bflat_noWave (k : Nat) (w0 : Int) (w1 : List (Int × Int)) (w2 : List Int) : Option (Bool) :=
 if ((w0 == (0 : Int)) = true) then
 (some ((IntKind.wrap .i64 ((((List.length w1) : Nat) : Int) + (((List.length w2) : Nat) : Int))) == (0 : Int)))
 else
 (some false)
def Fflat_noWave : Nat → Int → List (Int × Int) → List Int → Option (Bool)
 | 0, _, _, _ => none
 | k + 1, w0, w1, w2 => bflat_noWave k w0 w1 w2
def shq46 : FS := { vs := [.g [.lf (.int .i64), .lf (.sl (.pr (.int .i64) (.int .i64))), .lf (.sl (.int .i64))]], bs := [] }
def rsq46 : List FS := [{ vs := [.a (.lf .bool)], bs := [] }]
def Iq46 (k : Nat) : Inst := ⟨224, shq46, rsq46, fun x => Fflat_noWave k x.1 x.2.1 x.2.2⟩
theorem alq46 (k : Nat) : AllI (call cf k) [] := True.intro
theorem anq46 (k : Nat) : LAll (LOk (R := DS FS.D rsq46) (fun b _ σ K => LOt Ty (kps 224) 0 b σ K []) cf (call cf k) (cf.keep 224) Tryz.f224.ntmps k shq46.bs.length) 0 (bd Tryz.f224) :=
 qA qT (qA qT qT)
theorem stq46 (k : Nat) (x : shq46.D) : Fflat_noWave (k + 1) x.1 x.2.1 x.2.2 = body2 cf (fun f a b K => COt f a b K []) (fun b _ σ K => LOt Ty (kps 224) 0 b σ K []) 224 Tryz.f224.ntmps Tryz.f224.results.toList (bd Tryz.f224) (shq46.enc x).1 (shq46.enc x).2 (putS FS.dec rsq46) := by kernel_rfl
theorem okq46 : ∀ k, InstOk (call cf k) (Iq46 k)
 | 0 => fun x y e => absurd (show (none : Option _) = some y from e) (by simp)
 | k + 1 => inst_ok (c := cf) (k := k) (f := 224) (fn := Tryz.f224) (body := bd Tryz.f224) (sh := shq46) (os := rsq46) rfl Tryz.func224 rfl ⟨rfl, Nat.le_of_ble_eq_true rfl⟩ (COt_ok (alq46 k)) (anq46 k) (fun x => Fflat_noWave (k + 1) x.1 x.2.1 x.2.2) (stq46 k)

/-! shunt/big.NewInt -/
def bbig_NewInt (k : Nat) (v : Int) : Option (Bool × List Int) :=
 if ((decide (v < (0 : Int))) = true) then
 Option.bind (Fbig_trim k (List.take 2 ((IntKind.wrap .u32 (IntKind.wrap .u64 ((0 : Int) - (IntKind.wrap .u64 v)))) :: ((IntKind.wrap .u32 (Int.fdiv (IntKind.wrap .u64 ((0 : Int) - (IntKind.wrap .u64 v))) (4294967296 : Int))) :: [])))) fun r11 =>
 (some ((decide (v < (0 : Int))), r11))
 else
 Option.bind (Fbig_trim k (List.take 2 ((IntKind.wrap .u32 (IntKind.wrap .u64 v)) :: ((IntKind.wrap .u32 (Int.fdiv (IntKind.wrap .u64 v) (4294967296 : Int))) :: [])))) fun r11 =>
 (some ((decide (v < (0 : Int))), r11))
def Fbig_NewInt : Nat → Int → Option (Bool × List Int)
 | 0, _ => none
 | k + 1, v => bbig_NewInt k v
def shq20 : FS := { vs := [.a (.lf (.int .i64))], bs := [] }
def rsq20 : List FS := [{ vs := [.a (.ptr 0 0 0)], bs := [.raw [[.lf .bool, .lf (.sl (.int .u32))]] 2 147 true false false] }]
def Iq20 (k : Nat) : Inst := ⟨87, shq20, rsq20, fun x => Fbig_NewInt k x⟩
theorem alq20 (k : Nat) : AllI (call cf k) [Iq36 k] := qA (okq36 k) qT
theorem anq20 (k : Nat) : LAll (LOk (R := DS FS.D rsq20) (fun b _ σ K => LOt Ty (kps 87) 0 b σ K []) cf (call cf k) (cf.keep 87) Tryz.f87.ntmps k shq20.bs.length) 0 (bd Tryz.f87) :=
 qA qT (qA qT (qA (qA qT (qA qT qT)) (qA qT qT)))
theorem stq20 (k : Nat) (x : shq20.D) : Fbig_NewInt (k + 1) x = body2 cf (fun f a b K => COt f a b K [Iq36 k]) (fun b _ σ K => LOt Ty (kps 87) 0 b σ K []) 87 Tryz.f87.ntmps Tryz.f87.results.toList (bd Tryz.f87) (shq20.enc x).1 (shq20.enc x).2 (putS FS.dec rsq20) := by kernel_rfl
theorem okq20 : ∀ k, InstOk (call cf k) (Iq20 k)
 | 0 => fun x y e => absurd (show (none : Option _) = some y from e) (by simp)
 | k + 1 => inst_ok (c := cf) (k := k) (f := 87) (fn := Tryz.f87) (body := bd Tryz.f87) (sh := shq20) (os := rsq20) rfl Tryz.func87 rfl ⟨rfl, Nat.le_of_ble_eq_true rfl⟩ (COt_ok (alq20 k)) (anq20 k) (fun x => Fbig_NewInt (k + 1) x) (stq20 k)

/-! (*shunt/big.Int).set -/
def bbig_Int_set_paj (k : Nat) (neg : Bool) (w : List Int) (z0 : Bool) (z1 : List Int) : Option (Bool × List Int) :=
 Option.bind (Fbig_trim k w) fun r14 =>
 if (neg = true) then
 (some ((decide ((((List.length r14) : Nat) : Int) > (0 : Int))), r14))
 else
 (some (false, r14))
def Fbig_Int_set_paj : Nat → Bool → List Int → Bool → List Int → Option (Bool × List Int)
 | 0, _, _, _, _ => none
 | k + 1, neg, w, z0, z1 => bbig_Int_set_paj k neg w z0 z1
def shq17 : FS := { vs := [.a (.ptr 0 0 0), .a (.lf .bool), .a (.lf (.sl (.int .u32)))], bs := [.raw [[.lf .bool, .lf (.sl (.int .u32))]] 2 147 true false false] }
def rsq17 : List FS := [{ vs := [.a (.ptr 0 0 0)], bs := [.raw [[.lf .bool, .lf (.sl (.int .u32))]] 2 147 true false false] }]
def Iq17 (k : Nat) : Inst := ⟨198, shq17, rsq17, fun x => Fbig_Int_set_paj k x.1 x.2.1 x.2.2.1 x.2.2.2⟩
theorem alq17 (k : Nat) : AllI (call cf k) [Iq36 k] := qA (okq36 k) qT
theorem anq17 (k : Nat) : LAll (LOk (R := DS FS.D rsq17) (fun b _ σ K => LOt Ty (kps 198) 1 b σ K []) cf (call cf k) (cf.keep 198) Tryz.f198.ntmps k shq17.bs.length) 0 (bd Tryz.f198) :=
 qA qT (qA qT (qA qT (qA qT qT)))
theorem stq17 (k : Nat) (x : shq17.D) : Fbig_Int_set_paj (k + 1) x.1 x.2.1 x.2.2.1 x.2.2.2 = body2 cf (fun f a b K => COt f a b K [Iq36 k]) (fun b _ σ K => LOt Ty (kps 198) 1 b σ K []) 198 Tryz.f198.ntmps Tryz.f198.results.toList (bd Tryz.f198) (shq17.enc x).1 (shq17.enc x).2 (putS FS.dec rsq17) := by kernel_rfl
theorem okq17 : ∀ k, InstOk (call cf k) (Iq17 k)
 | 0 => fun x y e => absurd (show (none : Option _) = some y from e) (by simp)
 | k + 1 => inst_ok (c := cf) (k := k) (f := 198) (fn := Tryz.f198) (body := bd Tryz.f198) (sh := shq17) (os := rsq17) rfl Tryz.func198 rfl ⟨rfl, Nat.le_of_ble_eq_true rfl⟩ (COt_ok (alq17 k)) (anq17 k) (fun x => Fbig_Int_set_paj (k + 1) x.1 x.2.1 x.2.2.1 x.2.2.2) (stq17 k)

/-! (*shunt/big.Int).Mul -/
def Lbig_Int_Mul_jod_2s (k : Nat) (rec : Nat → Int → Int → Int → List Int → Int → Int → List Int → Int → Int → Bool → List Int → Bool → List Int → List Int → Option (Nat × Int × Int × List Int × Int × Int × Bool × List Int × Bool × List Int × List Int)) (out1 : Nat) (i : Int) (a : Int) (carry : Int) (x : List Int) (x1 : Int) (x2 : Int) (x3 : List Int) (x4 : Int) (x5 : Int) (x0 : Bool) (x11 : List Int) (y0 : Bool) (y1 : List Int) (outs : List Int) : Option (Nat × Int × Int × List Int × Int × Int × Bool × List Int × Bool × List Int × List Int) :=
 if ((decide (x5 < x4)) = true) then
 if ((0 : Int) ≤ x5) then
 Option.bind (x3)[(Int.toNat x5)]? fun x7 =>
 if (((0 : Int) ≤ (IntKind.wrap .i64 (i + x5))) ∧ ((IntKind.wrap .i64 (i + x5)) < ((out1 : Nat) : Int))) then
 Option.bind (outs)[(0 + (Int.toNat (IntKind.wrap .i64 (i + x5))))]? fun x8 =>
 if (((0 : Int) ≤ (IntKind.wrap .i64 (i + x5))) ∧ ((IntKind.wrap .i64 (i + x5)) < ((out1 : Nat) : Int))) then
 Option.bind (outs)[(0 + (Int.toNat (IntKind.wrap .i64 (i + x5))))]? fun x9 =>
 rec out1 i a (Int.fdiv (IntKind.wrap .u64 ((IntKind.wrap .u64 ((IntKind.wrap .u64 ((IntKind.wrap .u64 a) * (IntKind.wrap .u64 x7))) + (IntKind.wrap .u64 x8))) + carry)) (4294967296 : Int)) x x1 x2 x3 x4 (IntKind.wrap .i64 (x5 + (1 : Int))) x0 x11 y0 y1 (List.set outs (0 + (Int.toNat (IntKind.wrap .i64 (i + x5)))) (IntKind.wrap .u32 (IntKind.wrap .u64 ((IntKind.wrap .u64 ((IntKind.wrap .u64 ((IntKind.wrap .u64 a) * (IntKind.wrap .u64 x7))) + (IntKind.wrap .u64 x8))) + carry))))
 else
 none
 else
 none
 else
 none
 else
 (some (out1, i, carry, x, x1, x2, x0, x11, y0, y1, outs))
def Lbig_Int_Mul_jod_2 (k n : Nat) : Nat → Int → Int → Int → List Int → Int → Int → List Int → Int → Int → Bool → List Int → Bool → List Int → List Int → Option (Nat × Int × Int × List Int × Int × Int × Bool × List Int × Bool × List Int × List Int) := Nat.rec (fun _ _ _ _ _ _ _ _ _ _ _ _ _ _ _ => none) (fun _ r => Lbig_Int_Mul_jod_2s k r) n
def Lbig_Int_Mul_jod_0s (k : Nat) (rec : Nat → List Int → Int → Int → Bool → List Int → Bool → List Int → List Int → Option (Nat × Bool × List Int × Bool × List Int × List Int)) (out1 : Nat) (x : List Int) (x1 : Int) (x2 : Int) (x0 : Bool) (x11 : List Int) (y0 : Bool) (y1 : List Int) (outs : List Int) : Option (Nat × Bool × List Int × Bool × List Int × List Int) :=
 if ((decide (x2 < x1)) = true) then
 if ((0 : Int) ≤ x2) then
 Option.bind (x)[(Int.toNat x2)]? fun x6 =>
 Option.bind (Lbig_Int_Mul_jod_2 k k out1 x2 x6 (0 : Int) x x1 x2 y1 (((List.length y1) : Nat) : Int) (0 : Int) x0 x11 y0 y1 outs) fun r13 =>
 if (((0 : Int) ≤ (IntKind.wrap .i64 (r13.2.1 + (((List.length r13.2.2.2.2.2.2.2.2.2.1) : Nat) : Int)))) ∧ ((IntKind.wrap .i64 (r13.2.1 + (((List.length r13.2.2.2.2.2.2.2.2.2.1) : Nat) : Int))) < ((r13.1 : Nat) : Int))) then
 Option.bind (r13.2.2.2.2.2.2.2.2.2.2)[(0 + (Int.toNat (IntKind.wrap .i64 (r13.2.1 + (((List.length r13.2.2.2.2.2.2.2.2.2.1) : Nat) : Int)))))]? fun x7 =>
 rec r13.1 r13.2.2.2.1 r13.2.2.2.2.1 (IntKind.wrap .i64 (r13.2.2.2.2.2.1 + (1 : Int))) r13.2.2.2.2.2.2.1 r13.2.2.2.2.2.2.2.1 r13.2.2.2.2.2.2.2.2.1 r13.2.2.2.2.2.2.2.2.2.1 (List.set r13.2.2.2.2.2.2.2.2.2.2 (0 + (Int.toNat (IntKind.wrap .i64 (r13.2.1 + (((List.length r13.2.2.2.2.2.2.2.2.2.1) : Nat) : Int))))) (IntKind.wrap .u32 r13.2.2.1))
 else
 none
 else
 none
 else
 (some (out1, x0, x11, y0, y1, outs))
def Lbig_Int_Mul_jod_0 (k n : Nat) : Nat → List Int → Int → Int → Bool → List Int → Bool → List Int → List Int → Option (Nat × Bool × List Int × Bool × List Int × List Int) := Nat.rec (fun _ _ _ _ _ _ _ _ _ => none) (fun _ r => Lbig_Int_Mul_jod_0s k r) n
def bbig_Int_Mul_jod (k : Nat) (x0 : Bool) (x1 : List Int) (y0 : Bool) (y1 : List Int) : Option (Bool × List Int × Bool × List Int) :=
 if (((0 : Int) ≤ (IntKind.wrap .i64 ((((List.length x1) : Nat) : Int) + (((List.length y1) : Nat) : Int)))) ∧ (((IntKind.wrap .i64 ((((List.length x1) : Nat) : Int) + (((List.length y1) : Nat) : Int))) ≤ (IntKind.wrap .i64 ((((List.length x1) : Nat) : Int) + (((List.length y1) : Nat) : Int)))) ∧ (((IntKind.wrap .i64 ((((List.length x1) : Nat) : Int) + (((List.length y1) : Nat) : Int))) * (4 : Int)) ≤ (140737488355328 : Int)))) then
 Option.bind (Lbig_Int_Mul_jod_0 k k (Int.toNat (IntKind.wrap .i64 ((((List.length x1) : Nat) : Int) + (((List.length y1) : Nat) : Int)))) x1 (((List.length x1) : Nat) : Int) (0 : Int) x0 x1 y0 y1 (List.replicate (Int.toNat (IntKind.wrap .i64 ((((List.length x1) : Nat) : Int) + (((List.length y1) : Nat) : Int)))) (0 : Int))) fun r13 =>
 if ((0 + r13.1) ≤ (List.length r13.2.2.2.2.2)) then
 Option.bind (Fbig_Int_set_paj k (!(r13.2.1 == r13.2.2.2.1)) (List.take r13.1 r13.2.2.2.2.2) r13.2.1 r13.2.2.1) fun r14 =>
 (some (r14.1, r14.2, r13.2.2.2.1, r13.2.2.2.2.1))
 else
 none
 else
 none
def Fbig_Int_Mul_jod : Nat → Bool → List Int → Bool → List Int → Option (Bool × List Int × Bool × List Int)
 | 0, _, _, _, _ => none
 | k + 1, x0, x1, y0, y1 => bbig_Int_Mul_jod k x0 x1 y0 y1
def shq8 : FS := { vs := [.a (.ptr 0 0 0), .a (.ptr 0 0 0), .a (.ptr 1 0 0)], bs := [.raw [[.lf .bool, .lf (.sl (.int .u32))]] 2 147 true false false, .raw [[.lf .bool, .lf (.sl (.int .u32))]] 2 147 true false false] }
def rsq8 : List FS := [{ vs := [.a (.ptr 0 0 0)], bs := [.raw [[.lf .bool, .lf (.sl (.int .u32))]] 2 147 true false false, .raw [[.lf .bool, .lf (.sl (.int .u32))]] 2 147 true false false] }]
def Iq8 (k : Nat) : Inst := ⟨155, shq8, rsq8, fun x => Fbig_Int_Mul_jod k x.1 x.2.1 x.2.2.1 x.2.2.2⟩
theorem alq8 (k : Nat) : AllI (call cf k) [Iq17 k] := qA (okq17 k) qT
def hsq111 : List SS := [{ fr := [(0, .a (.ptr 0 0 0)), (1, .a (.ptr 0 0 0)), (2, .a (.ptr 1 0 0)), (7, .a (.smz 2)), (8, .a (.lf (.int .i64))), (9, .a (.lf (.int .u32))), (10, .a (.lf (.int .u64))), (29, .a (.lf (.sl (.int .u32)))), (30, .a (.lf (.int .i64))), (31, .a (.lf (.int .i64))), (39, .a (.lf (.sl (.int .u32)))), (40, .a (.lf (.int .i64))), (41, .a (.lf (.int .i64)))], mem := [(0, some (.raw [[.lf .bool, .lf (.sl (.int .u32))]] 2 147 true false false)), (1, some (.raw [[.lf .bool, .lf (.sl (.int .u32))]] 2 147 true false false)), (2, some (.arr (.int .u32) 1 106 false))], nx := 3 }]
def osq111 : List OS := [⟨some 2, { fr := [(0, .a (.ptr 0 0 0)), (1, .a (.ptr 0 0 0)), (2, .a (.ptr 1 0 0)), (7, .a (.smz 2)), (8, .a (.lf (.int .i64))), (10, .a (.lf (.int .u64))), (29, .a (.lf (.sl (.int .u32)))), (30, .a (.lf (.int .i64))), (31, .a (.lf (.int .i64)))], mem := [(0, some (.raw [[.lf .bool, .lf (.sl (.int .u32))]] 2 147 true false false)), (1, some (.raw [[.lf .bool, .lf (.sl (.int .u32))]] 2 147 true false false)), (2, some (.arr (.int .u32) 1 106 false))], nx := 3 }⟩]
def LIq111 (k : Nat) : LInst := ⟨2, hsq111, osq111, fun x => Lbig_Int_Mul_jod_2 k k x.1 x.2.1 x.2.2.1 x.2.2.2.1 x.2.2.2.2.1 x.2.2.2.2.2.1 x.2.2.2.2.2.2.1 x.2.2.2.2.2.2.2.1 x.2.2.2.2.2.2.2.2.1 x.2.2.2.2.2.2.2.2.2.1 x.2.2.2.2.2.2.2.2.2.2.1 x.2.2.2.2.2.2.2.2.2.2.2.1 x.2.2.2.2.2.2.2.2.2.2.2.2.1 x.2.2.2.2.2.2.2.2.2.2.2.2.2.1 x.2.2.2.2.2.2.2.2.2.2.2.2.2.2⟩
theorem anq111 (k : Nat) : LAll (LOk (R := DS OS.D osq111) (fun b _ σ K => LOt Ty (kps 155) 2 b σ K []) cf (call cf k) (kps 155) Tryz.f155.ntmps k 2) 2 (lb Tryz.f155 1) :=
 qA qT (qA (qA qT qT) (qA (qA qT (qA qT (qA qT qT))) qT))
theorem stq111 (k n : Nat) (x : DS SS.D hsq111) : Lbig_Int_Mul_jod_2 k (n + 1) x.1 x.2.1 x.2.2.1 x.2.2.2.1 x.2.2.2.2.1 x.2.2.2.2.2.1 x.2.2.2.2.2.2.1 x.2.2.2.2.2.2.2.1 x.2.2.2.2.2.2.2.2.1 x.2.2.2.2.2.2.2.2.2.1 x.2.2.2.2.2.2.2.2.2.2.1 x.2.2.2.2.2.2.2.2.2.2.2.1 x.2.2.2.2.2.2.2.2.2.2.2.2.1 x.2.2.2.2.2.2.2.2.2.2.2.2.2.1 x.2.2.2.2.2.2.2.2.2.2.2.2.2.2 = encSK SS.enc (fun σ => run2 cf (fun f a b K => COt f a b K [Iq17 k]) (fun b _ σ K => LOt Ty (kps 155) 2 b σ K []) Tryz.f155.ntmps 2 (lb Tryz.f155 1) σ (nextK Ty (kps 155 2) 2 hsq111 osq111 fun x => Lbig_Int_Mul_jod_2 k n x.1 x.2.1 x.2.2.1 x.2.2.2.1 x.2.2.2.2.1 x.2.2.2.2.2.1 x.2.2.2.2.2.2.1 x.2.2.2.2.2.2.2.1 x.2.2.2.2.2.2.2.2.1 x.2.2.2.2.2.2.2.2.2.1 x.2.2.2.2.2.2.2.2.2.2.1 x.2.2.2.2.2.2.2.2.2.2.2.1 x.2.2.2.2.2.2.2.2.2.2.2.2.1 x.2.2.2.2.2.2.2.2.2.2.2.2.2.1 x.2.2.2.2.2.2.2.2.2.2.2.2.2.2)) hsq111 x := by kernel_rfl
theorem loq111 (k : Nat) : LIOk cf (call cf k) (kps 155) Tryz.f155.ntmps k 2 2 (lb Tryz.f155 1) (LIq111 k) :=
 loop_ok (c := cf) (callF := call cf k) (kp := kps 155) (nt := Tryz.f155.ntmps) (k := k) (p := 2) (b := 2) (x0 := lb Tryz.f155 1) (hs := hsq111) (os := osq111) (COt_ok (alq8 k)) (anq111 k) (fun n x => Lbig_Int_Mul_jod_2 k n x.1 x.2.1 x.2.2.1 x.2.2.2.1 x.2.2.2.2.1 x.2.2.2.2.2.1 x.2.2.2.2.2.2.1 x.2.2.2.2.2.2.2.1 x.2.2.2.2.2.2.2.2.1 x.2.2.2.2.2.2.2.2.2.1 x.2.2.2.2.2.2.2.2.2.2.1 x.2.2.2.2.2.2.2.2.2.2.2.1 x.2.2.2.2.2.2.2.2.2.2.2.2.1 x.2.2.2.2.2.2.2.2.2.2.2.2.2.1 x.2.2.2.2.2.2.2.2.2.2.2.2.2.2) (fun _ => rfl) (stq111 k)
def hsq110 : List SS := [{ fr := [(0, .a (.ptr 0 0 0)), (1, .a (.ptr 0 0 0)), (2, .a (.ptr 1 0 0)), (7, .a (.smz 2)), (29, .a (.lf (.sl (.int .u32)))), (30, .a (.lf (.int .i64))), (31, .a (.lf (.int .i64)))], mem := [(0, some (.raw [[.lf .bool, .lf (.sl (.int .u32))]] 2 147 true false false)), (1, some (.raw [[.lf .bool, .lf (.sl (.int .u32))]] 2 147 true false false)), (2, some (.arr (.int .u32) 1 106 false))], nx := 3 }]
def osq110 : List OS := [⟨some 0, { fr := [(0, .a (.ptr 0 0 0)), (1, .a (.ptr 0 0 0)), (2, .a (.ptr 1 0 0)), (7, .a (.smz 2))], mem := [(0, some (.raw [[.lf .bool, .lf (.sl (.int .u32))]] 2 147 true false false)), (1, some (.raw [[.lf .bool, .lf (.sl (.int .u32))]] 2 147 true false false)), (2, some (.arr (.int .u32) 1 106 false))], nx := 3 }⟩]
def LIq110 (k : Nat) : LInst := ⟨0, hsq110, osq110, fun x => Lbig_Int_Mul_jod_0 k k x.1 x.2.1 x.2.2.1 x.2.2.2.1 x.2.2.2.2.1 x.2.2.2.2.2.1 x.2.2.2.2.2.2.1 x.2.2.2.2.2.2.2.1 x.2.2.2.2.2.2.2.2⟩
theorem anq110 (k : Nat) : LAll (LOk (R := DS OS.D osq110) (fun b _ σ K => LOt Ty (kps 155) 2 b σ K [LIq111 k]) cf (call cf k) (kps 155) Tryz.f155.ntmps k 2) 0 (lb Tryz.f155 0) :=
 qA qT (qA (qA qT qT) (qA (qA qT (qA qT (qA (qA qT (LOt_ok (c := cf) (callF := call cf k) (kp := kps 155) (nt := Tryz.f155.ntmps) (k := k) (p := 2) (b := 2) (x0 := lb Tryz.f155 1) (l := [LIq111 k]) (qA (fun _ => loq111 k) qT))) qT))) qT))
theorem stq110 (k n : Nat) (x : DS SS.D hsq110) : Lbig_Int_Mul_jod_0 k (n + 1) x.1 x.2.1 x.2.2.1 x.2.2.2.1 x.2.2.2.2.1 x.2.2.2.2.2.1 x.2.2.2.2.2.2.1 x.2.2.2.2.2.2.2.1 x.2.2.2.2.2.2.2.2 = encSK SS.enc (fun σ => run2 cf (fun f a b K => COt f a b K [Iq17 k]) (fun b _ σ K => LOt Ty (kps 155) 2 b σ K [LIq111 k]) Tryz.f155.ntmps 0 (lb Tryz.f155 0) σ (nextK Ty (kps 155 0) 2 hsq110 osq110 fun x => Lbig_Int_Mul_jod_0 k n x.1 x.2.1 x.2.2.1 x.2.2.2.1 x.2.2.2.2.1 x.2.2.2.2.2.1 x.2.2.2.2.2.2.1 x.2.2.2.2.2.2.2.1 x.2.2.2.2.2.2.2.2)) hsq110 x := by kernel_rfl
theorem loq110 (k : Nat) : LIOk cf (call cf k) (kps 155) Tryz.f155.ntmps k 2 0 (lb Tryz.f155 0) (LIq110 k) :=
 loop_ok (c := cf) (callF := call cf k) (kp := kps 155) (nt := Tryz.f155.ntmps) (k := k) (p := 2) (b := 0) (x0 := lb Tryz.f155 0) (hs := hsq110) (os := osq110) (COt_ok (alq8 k)) (anq110 k) (fun n x => Lbig_Int_Mul_jod_0 k n x.1 x.2.1 x.2.2.1 x.2.2.2.1 x.2.2.2.2.1 x.2.2.2.2.2.1 x.2.2.2.2.2.2.1 x.2.2.2.2.2.2.2.1 x.2.2.2.2.2.2.2.2) (fun _ => rfl) (stq110 k)
theorem anq8 (k : Nat) : LAll (LOk (R := DS FS.D rsq8) (fun b _ σ K => LOt Ty (kps 155) 2 b σ K [LIq111 k, LIq110 k]) cf (call cf k) (cf.keep 155) Tryz.f155.ntmps k shq8.bs.length) 0 (bd Tryz.f155) :=
 qA qT (qA qT (qA (qA qT (LOt_ok (c := cf) (callF := call cf k) (kp := kps 155) (nt := Tryz.f155.ntmps) (k := k) (p := 2) (b := 0) (x0 := lb Tryz.f155 0) (l := [LIq111 k, LIq110 k]) (qA (fun h => absurd (show (2 : Nat) = 0 from h) (by decide)) (qA (fun _ => loq110 k) qT)))) (qA qT qT)))
theorem stq8 (k : Nat) (x : shq8.D) : Fbig_Int_Mul_jod (k + 1) x.1 x.2.1 x.2.2.1 x.2.2.2 = body2 cf (fun f a b K => COt f a b K [Iq17 k]) (fun b _ σ K => LOt Ty (kps 155) 2 b σ K [LIq111 k, LIq110 k]) 155 Tryz.f155.ntmps Tryz.f155.results.toList (bd Tryz.f155) (shq8.enc x).1 (shq8.enc x).2 (putS FS.dec rsq8) := by kernel_rfl
theorem okq8 : ∀ k, InstOk (call cf k) (Iq8 k)
 | 0 => fun x y e => absurd (show (none : Option _) = some y from e) (by simp)
 | k + 1 => inst_ok (c := cf) (k := k) (f := 155) (fn := Tryz.f155) (body := bd Tryz.f155) (sh := shq8) (os := rsq8) rfl Tryz.func155 rfl ⟨rfl, Nat.le_of_ble_eq_true rfl⟩ (COt_ok (alq8 k)) (anq8 k) (fun x => Fbig_Int_Mul_jod (k + 1) x.1 x.2.1 x.2.2.1 x.2.2.2) (stq8 k)

/-! shunt/big.Ten -/
def Lbig_Ten_0s (k : Nat) (rec : Int → Int → Bool → List Int → Bool → List Int → Option (Bool × List Int × Bool × List Int)) (x : Int) (x1 : Int) (z0 : Bool) (z1 : List Int) (ten0 : Bool) (ten1 : List Int) : Option (Bool × List Int × Bool × List Int) :=
 if ((decide (x1 < x)) = true) then
 Option.bind (Fbig_Int_Mul_jod k z0 z1 ten0 ten1) fun r13 =>
 rec x (IntKind.wrap .i64 (x1 + (1 : Int))) r13.1 r13.2.1 r13.2.2.1 r13.2.2.2
 else
 (some (z0, z1, ten0, ten1))
def Lbig_Ten_0 (k n : Nat) : Int → Int → Bool → List Int → Bool → List Int → Option (Bool × List Int × Bool × List Int) := Nat.rec (fun _ _ _ _ _ _ => none) (fun _ r => Lbig_Ten_0s k r) n
def bbig_Ten (k : Nat) (k1 : Int) : Option (Bool × List Int) :=
 Option.bind (Fbig_NewInt k (1 : Int)) fun r11 =>
 Option.bind (Fbig_NewInt k (10 : Int)) fun r12 =>
 Option.bind (Lbig_Ten_0 k k k1 (0 : Int) r11.1 r11.2 r12.1 r12.2) fun r13 =>
 (some (r13.1, r13.2.1))
def Fbig_Ten : Nat → Int → Option (Bool × List Int)
 | 0, _ => none
 | k + 1, k1 => bbig_Ten k k1
def shq27 : FS := { vs := [.a (.lf (.int .i64))], bs := [] }
def rsq27 : List FS := [{ vs := [.a (.ptr 0 0 0)], bs := [.raw [[.lf .bool, .lf (.sl (.int .u32))]] 2 147 true false false] }]
def Iq27 (k : Nat) : Inst := ⟨234, shq27, rsq27, fun x => Fbig_Ten k x⟩
theorem alq27 (k : Nat) : AllI (call cf k) [Iq20 k, Iq8 k] := qA (okq20 k) (qA (okq8 k) qT)
def hsq114 : List SS := [{ fr := [(3, .a (.ptr 0 0 0)), (4, .a (.ptr 1 0 0)), (7, .a (.lf (.int .i64))), (8, .a (.lf (.int .i64)))], mem := [(0, some (.raw [[.lf .bool, .lf (.sl (.int .u32))]] 2 147 true false false)), (1, some (.raw [[.lf .bool, .lf (.sl (.int .u32))]] 2 147 true false false))], nx := 2 }]
def osq114 : List OS := [⟨some 0, { fr := [(3, .a (.ptr 0 0 0))], mem := [(0, some (.raw [[.lf .bool, .lf (.sl (.int .u32))]] 2 147 true false false)), (1, some (.raw [[.lf .bool, .lf (.sl (.int .u32))]] 2 147 true false false))], nx := 2 }⟩]
def LIq114 (k : Nat) : LInst := ⟨0, hsq114, osq114, fun x => Lbig_Ten_0 k k x.1 x.2.1 x.2.2.1 x.2.2.2.1 x.2.2.2.2.1 x.2.2.2.2.2⟩
theorem anq114 (k : Nat) : LAll (LOk (R := DS OS.D osq114) (fun b _ σ K => LOt Ty (kps 234) 0 b σ K []) cf (call cf k) (kps 234) Tryz.f234.ntmps k 0) 0 (lb Tryz.f234 0) :=
 qA qT (qA (qA qT qT) (qA qT qT))
theorem stq114 (k n : Nat) (x : DS SS.D hsq114) : Lbig_Ten_0 k (n + 1) x.1 x.2.1 x.2.2.1 x.2.2.2.1 x.2.2.2.2.1 x.2.2.2.2.2 = encSK SS.enc (fun σ => run2 cf (fun f a b K => COt f a b K [Iq20 k, Iq8 k]) (fun b _ σ K => LOt Ty (kps 234) 0 b σ K []) Tryz.f234.ntmps 0 (lb Tryz.f234 0) σ (nextK Ty (kps 234 0) 0 hsq114 osq114 fun x => Lbig_Ten_0 k n x.1 x.2.1 x.2.2.1 x.2.2.2.1 x.2.2.2.2.1 x.2.2.2.2.2)) hsq114 x := by kernel_rfl
theorem loq114 (k : Nat) : LIOk cf (call cf k) (kps 234) Tryz.f234.ntmps k 0 0 (lb Tryz.f234 0) (LIq114 k) :=
 loop_ok (c := cf) (callF := call cf k) (kp := kps 234) (nt := Tryz.f234.ntmps) (k := k) (p := 0) (b := 0) (x0 := lb Tryz.f234 0) (hs := hsq114) (os := osq114) (COt_ok (alq27 k)) (anq114 k) (fun n x => Lbig_Ten_0 k n x.1 x.2.1 x.2.2.1 x.2.2.2.1 x.2.2.2.2.1 x.2.2.2.2.2) (fun _ => rfl) (stq114 k)
theorem anq27 (k : Nat) : LAll (LOk (R := DS FS.D rsq27) (fun b _ σ K => LOt Ty (kps 234) 0 b σ K [LIq114 k]) cf (call cf k) (cf.keep 234) Tryz.f234.ntmps k shq27.bs.length) 0 (bd Tryz.f234) :=
 qA qT (qA qT (qA (qA qT (LOt_ok (c := cf) (callF := call cf k) (kp := kps 234) (nt := Tryz.f234.ntmps) (k := k) (p := 0) (b := 0) (x0 := lb Tryz.f234 0) (l := [LIq114 k]) (qA (fun _ => loq114 k) qT))) (qA qT qT)))
theorem stq27 (k : Nat) (x : shq27.D) : Fbig_Ten (k + 1) x = body2 cf (fun f a b K => COt f a b K [Iq20 k, Iq8 k]) (fun b _ σ K => LOt Ty (kps 234) 0 b σ K [LIq114 k]) 234 Tryz.f234.ntmps Tryz.f234.results.toList (bd Tryz.f234) (shq27.enc x).1 (shq27.enc x).2 (putS FS.dec rsq27) := by kernel_rfl
theorem okq27 : ∀ k, InstOk (call cf k) (Iq27 k)
 | 0 => fun x y e => absurd (show (none : Option _) = some y from e) (by simp)
 | k + 1 => inst_ok (c := cf) (k := k) (f := 234) (fn := Tryz.f234) (body := bd Tryz.f234) (sh := shq27) (os := rsq27) rfl Tryz.func234 rfl ⟨rfl, Nat.le_of_ble_eq_true rfl⟩ (COt_ok (alq27 k)) (anq27 k) (fun x => Fbig_Ten (k + 1) x) (stq27 k)

/-! shunt/big.cmp -/
def Lbig_cmp_0s (k : Nat) (rec : List Int → List Int → Int → Option ((Int) ⊕ (Unit))) (a : List Int) (b : List Int) (i : Int) : Option ((Int) ⊕ (Unit)) :=
 if ((decide (i ≥ (0 : Int))) = true) then
 if ((0 : Int) ≤ i) then
 Option.bind (a)[(Int.toNat i)]? fun x6 =>
 if ((0 : Int) ≤ i) then
 Option.bind (b)[(Int.toNat i)]? fun x7 =>
 if ((x6 != x7) = true) then
 if ((0 : Int) ≤ i) then
 Option.bind (a)[(Int.toNat i)]? fun x8 =>
 if ((0 : Int) ≤ i) then
 Option.bind (b)[(Int.toNat i)]? fun x9 =>
 if ((decide (x8 < x9)) = true) then
 (some (Sum.inl (-(1 : Int))))
 else
 (some (Sum.inl (1 : Int)))
 else
 none
 else
 none
 else
 rec a b (IntKind.wrap .i64 (i - (1 : Int)))
 else
 none
 else
 none
 else
 (some (Sum.inr ()))
def Lbig_cmp_0 (k n : Nat) : List Int → List Int → Int → Option ((Int) ⊕ (Unit)) := Nat.rec (fun _ _ _ => none) (fun _ r => Lbig_cmp_0s k r) n
def bbig_cmp (k : Nat) (a : List Int) (b : List Int) : Option (Int) :=
 if (((((List.length a) : Nat) : Int) != (((List.length b) : Nat) : Int)) = true) then
 if ((decide ((((List.length a) : Nat) : Int) < (((List.length b) : Nat) : Int))) = true) then
 (some (-(1 : Int)))
 else
 (some (1 : Int))
 else
 Option.bind (Lbig_cmp_0 k k a b (IntKind.wrap .i64 ((((List.length a) : Nat) : Int) - (1 : Int)))) fun r13 =>
 eitherK r13
 (fun r13 =>
 (some r13))
 (fun r13 =>
 (some (0 : Int)))
def Fbig_cmp : Nat → List Int → List Int → Option (Int)
 | 0, _, _ => none
 | k + 1, a, b => bbig_cmp k a b
def shq29 : FS := { vs := [.a (.lf (.sl (.int .u32))), .a (.lf (.sl (.int .u32)))], bs := [] }
def rsq29 : List FS := [{ vs := [.a (.lf (.int .i64))], bs := [] }]
def Iq29 (k : Nat) : Inst := ⟨200, shq29, rsq29, fun x => Fbig_cmp k x.1 x.2⟩
theorem alq29 (k : Nat) : AllI (call cf k) [] := True.intro
def hsq116 : List SS := [{ fr := [(0, .a (.lf (.sl (.int .u32)))), (1, .a (.lf (.sl (.int .u32)))), (5, .a (.lf (.int .i64)))], mem := [], nx := 0 }]
def osq116 : List OS := [⟨none, { fr := [(4, .a (.lf (.int .i64)))], mem := [], nx := 0 }⟩, ⟨some 0, { fr := [], mem := [], nx := 0 }⟩]
def LIq116 (k : Nat) : LInst := ⟨0, hsq116, osq116, fun x => Lbig_cmp_0 k k x.1 x.2.1 x.2.2⟩
theorem anq116 (k : Nat) : LAll (LOk (R := DS OS.D osq116) (fun b _ σ K => LOt Ty (kps 200) 0 b σ K []) cf (call cf k) (kps 200) Tryz.f200.ntmps k 0) 0 (lb Tryz.f200 0) :=
 qA (qA qT (qA qT qT)) (qA (qA qT (qA (qA (qA qT (qA (qA qT qT) qT)) (qA qT qT)) qT)) qT)
theorem stq116 (k n : Nat) (x : DS SS.D hsq116) : Lbig_cmp_0 k (n + 1) x.1 x.2.1 x.2.2 = encSK SS.enc (fun σ => run2 cf (fun f a b K => COt f a b K []) (fun b _ σ K => LOt Ty (kps 200) 0 b σ K []) Tryz.f200.ntmps 0 (lb Tryz.f200 0) σ (nextK Ty (kps 200 0) 0 hsq116 osq116 fun x => Lbig_cmp_0 k n x.1 x.2.1 x.2.2)) hsq116 x := by kernel_rfl
theorem loq116 (k : Nat) : LIOk cf (call cf k) (kps 200) Tryz.f200.ntmps k 0 0 (lb Tryz.f200 0) (LIq116 k) :=
 loop_ok (c := cf) (callF := call cf k) (kp := kps 200) (nt := Tryz.f200.ntmps) (k := k) (p := 0) (b := 0) (x0 := lb Tryz.f200 0) (hs := hsq116) (os := osq116) (COt_ok (alq29 k)) (anq116 k) (fun n x => Lbig_cmp_0 k n x.1 x.2.1 x.2.2) (fun _ => rfl) (stq116 k)
theorem anq29 (k : Nat) : LAll (LOk (R := DS FS.D rsq29) (fun b _ σ K => LOt Ty (kps 200) 0 b σ K [LIq116 k]) cf (call cf k) (cf.keep 200) Tryz.f200.ntmps k shq29.bs.length) 0 (bd Tryz.f200) :=
 qA qT (qA (qA qT (qA (qA (qA qT (qA (qA qT qT) qT)) (qA qT qT)) qT)) (qA (qA qT (LOt_ok (c := cf) (callF := call cf k) (kp := kps 200) (nt := Tryz.f200.ntmps) (k := k) (p := 0) (b := 0) (x0 := lb Tryz.f200 0) (l := [LIq116 k]) (qA (fun _ => loq116 k) qT))) (qA qT qT)))
theorem stq29 (k : Nat) (x : shq29.D) : Fbig_cmp (k + 1) x.1 x.2 = body2 cf (fun f a b K => COt f a b K []) (fun b _ σ K => LOt Ty (kps 200) 0 b σ K [LIq116 k]) 200 Tryz.f200.ntmps Tryz.f200.results.toList (bd Tryz.f200) (shq29.enc x).1 (shq29.enc x).2 (putS FS.dec rsq29) := by kernel_rfl
theorem okq29 : ∀ k, InstOk (call cf k) (Iq29 k)
 | 0 => fun x y e => absurd (show (none : Option _) = some y from e) (by simp)
 | k + 1 => inst_ok (c := cf) (k := k) (f := 200) (fn := Tryz.f200) (body := bd Tryz.f200) (sh := shq29) (os := rsq29) rfl Tryz.func200 rfl ⟨rfl, Nat.le_of_ble_eq_true rfl⟩ (COt_ok (alq29 k)) (anq29 k) (fun x => Fbig_cmp (k + 1) x.1 x.2) (stq29 k)

/-! shunt/big.short -/
def Lbig_short_0s (k : Nat) (rec : List Int → Int → Nat → Int → Int → List Int → Option (Nat × Int × List Int)) (a : List Int) (d : Int) (q : Nat) (r : Int) (i : Int) (qs : List Int) : Option (Nat × Int × List Int) :=
 if ((decide (i ≥ (0 : Int))) = true) then
 if ((0 : Int) ≤ i) then
 Option.bind (a)[(Int.toNat i)]? fun x7 =>
 if ((IntKind.wrap .u64 d) = (0 : Int)) then
 none
 else
 if (((0 : Int) ≤ i) ∧ (i < ((q : Nat) : Int))) then
 Option.bind (qs)[(0 + (Int.toNat i))]? fun x8 =>
 if ((IntKind.wrap .u64 d) = (0 : Int)) then
 none
 else
 rec a d q (Int.tmod (IntKind.wrap .u64 (((BitVec.toNat ((BitVec.ofInt 64 (IntKind.wrap .u64 (r * (4294967296 : Int)))) ||| (BitVec.ofInt 64 (IntKind.wrap .u64 x7)))) : Nat) : Int)) (IntKind.wrap .u64 d)) (IntKind.wrap .i64 (i - (1 : Int))) (List.set qs (0 + (Int.toNat i)) (IntKind.wrap .u32 (IntKind.wrap .u64 (Int.tdiv (IntKind.wrap .u64 (((BitVec.toNat ((BitVec.ofInt 64 (IntKind.wrap .u64 (r * (4294967296 : Int)))) ||| (BitVec.ofInt 64 (IntKind.wrap .u64 x7)))) : Nat) : Int)) (IntKind.wrap .u64 d)))))
 else
 none
 else
 none
 else
 (some (q, r, qs))
def Lbig_short_0 (k n : Nat) : List Int → Int → Nat → Int → Int → List Int → Option (Nat × Int × List Int) := Nat.rec (fun _ _ _ _ _ _ => none) (fun _ r => Lbig_short_0s k r) n
def bbig_short (k : Nat) (a : List Int) (d : Int) : Option (List Int × Int) :=
 if (((0 : Int) ≤ (((List.length a) : Nat) : Int)) ∧ (((((List.length a) : Nat) : Int) ≤ (((List.length a) : Nat) : Int)) ∧ (((((List.length a) : Nat) : Int) * (4 : Int)) ≤ (140737488355328 : Int)))) then
 Option.bind (Lbig_short_0 k k a d (Int.toNat (((List.length a) : Nat) : Int)) (0 : Int) (IntKind.wrap .i64 ((((List.length a) : Nat) : Int) - (1 : Int))) (List.replicate (Int.toNat (((List.length a) : Nat) : Int)) (0 : Int))) fun r14 =>
 if ((0 + r14.1) ≤ (List.length r14.2.2)) then
 (some ((List.take r14.1 r14.2.2), (IntKind.wrap .u32 r14.2.1)))
 else
 none
 else
 none
def Fbig_short : Nat → List Int → Int → Option (List Int × Int)
 | 0, _, _ => none
 | k + 1, a, d => bbig_short k a d
def shq33 : FS := { vs := [.a (.lf (.sl (.int .u32))), .a (.lf (.int .u32))], bs := [] }
def rsq33 : List FS := [{ vs := [.a (.lf (.sl (.int .u32))), .a (.lf (.int .u32))], bs := [] }]
def Iq33 (k : Nat) : Inst := ⟨241, shq33, rsq33, fun x => Fbig_short k x.1 x.2⟩
theorem alq33 (k : Nat) : AllI (call cf k) [] := True.intro
def hsq122 : List SS := [{ fr := [(0, .a (.lf (.sl (.int .u32)))), (1, .a (.lf (.int .u32))), (6, .a (.smz 0)), (7, .a (.lf (.int .u64))), (8, .a (.lf (.int .i64)))], mem := [(0, some (.arr (.int .u32) 1 106 false))], nx := 1 }]
def osq122 : List OS := [⟨some 0, { fr := [(6, .a (.smz 0)), (7, .a (.lf (.int .u64)))], mem := [(0, some (.arr (.int .u32) 1 106 false))], nx := 1 }⟩]
def LIq122 (k : Nat) : LInst := ⟨0, hsq122, osq122, fun x => Lbig_short_0 k k x.1 x.2.1 x.2.2.1 x.2.2.2.1 x.2.2.2.2.1 x.2.2.2.2.2⟩
theorem anq122 (k : Nat) : LAll (LOk (R := DS OS.D osq122) (fun b _ σ K => LOt Ty (kps 241) 0 b σ K []) cf (call cf k) (kps 241) Tryz.f241.ntmps k 0) 0 (lb Tryz.f241 0) :=
 qA (qA qT (qA qT qT)) (qA (qA qT (qA qT qT)) qT)
theorem stq122 (k n : Nat) (x : DS SS.D hsq122) : Lbig_short_0 k (n + 1) x.1 x.2.1 x.2.2.1 x.2.2.2.1 x.2.2.2.2.1 x.2.2.2.2.2 = encSK SS.enc (fun σ => run2 cf (fun f a b K => COt f a b K []) (fun b _ σ K => LOt Ty (kps 241) 0 b σ K []) Tryz.f241.ntmps 0 (lb Tryz.f241 0) σ (nextK Ty (kps 241 0) 0 hsq122 osq122 fun x => Lbig_short_0 k n x.1 x.2.1 x.2.2.1 x.2.2.2.1 x.2.2.2.2.1 x.2.2.2.2.2)) hsq122 x := by kernel_rfl
theorem loq122 (k : Nat) : LIOk cf (call cf k) (kps 241) Tryz.f241.ntmps k 0 0 (lb Tryz.f241 0) (LIq122 k) :=
 loop_ok (c := cf) (callF := call cf k) (kp := kps 241) (nt := Tryz.f241.ntmps) (k := k) (p := 0) (b := 0) (x0 := lb Tryz.f241 0) (hs := hsq122) (os := osq122) (COt_ok (alq33 k)) (anq122 k) (fun n x => Lbig_short_0 k n x.1 x.2.1 x.2.2.1 x.2.2.2.1 x.2.2.2.2.1 x.2.2.2.2.2) (fun _ => rfl) (stq122 k)
theorem anq33 (k : Nat) : LAll (LOk (R := DS FS.D rsq33) (fun b _ σ K => LOt Ty (kps 241) 0 b σ K [LIq122 k]) cf (call cf k) (cf.keep 241) Tryz.f241.ntmps k shq33.bs.length) 0 (bd Tryz.f241) :=
 qA qT (qA qT (qA qT (qA (qA qT (LOt_ok (c := cf) (callF := call cf k) (kp := kps 241) (nt := Tryz.f241.ntmps) (k := k) (p := 0) (b := 0) (x0 := lb Tryz.f241 0) (l := [LIq122 k]) (qA (fun _ => loq122 k) qT))) (qA qT qT))))
theorem stq33 (k : Nat) (x : shq33.D) : Fbig_short (k + 1) x.1 x.2 = body2 cf (fun f a b K => COt f a b K []) (fun b _ σ K => LOt Ty (kps 241) 0 b σ K [LIq122 k]) 241 Tryz.f241.ntmps Tryz.f241.results.toList (bd Tryz.f241) (shq33.enc x).1 (shq33.enc x).2 (putS FS.dec rsq33) := by kernel_rfl
theorem okq33 : ∀ k, InstOk (call cf k) (Iq33 k)
 | 0 => fun x y e => absurd (show (none : Option _) = some y from e) (by simp)
 | k + 1 => inst_ok (c := cf) (k := k) (f := 241) (fn := Tryz.f241) (body := bd Tryz.f241) (sh := shq33) (os := rsq33) rfl Tryz.func241 rfl ⟨rfl, Nat.le_of_ble_eq_true rfl⟩ (COt_ok (alq33 k)) (anq33 k) (fun x => Fbig_short (k + 1) x.1 x.2) (stq33 k)

/-! shunt/big.shift -/
def Lbig_shift_0s (k : Nat) (rec : Int → Nat → List Int → Int → Int → List Int → Option (Nat × List Int)) (bits : Int) (out1 : Nat) (x : List Int) (x1 : Int) (x2 : Int) (outs : List Int) : Option (Nat × List Int) :=
 if ((decide (x2 < x1)) = true) then
 if ((0 : Int) ≤ x2) then
 Option.bind (x)[(Int.toNat x2)]? fun x6 =>
 if (bits < (0 : Int)) then
 none
 else
 if (((0 : Int) ≤ x2) ∧ (x2 < ((out1 : Nat) : Int))) then
 Option.bind (outs)[(0 + (Int.toNat x2))]? fun x7 =>
 if (((0 : Int) ≤ x2) ∧ (x2 < ((out1 : Nat) : Int))) then
 Option.bind (outs)[(0 + (Int.toNat x2))]? fun x8 =>
 if (((0 : Int) ≤ (IntKind.wrap .i64 (x2 + (1 : Int)))) ∧ ((IntKind.wrap .i64 (x2 + (1 : Int))) < ((out1 : Nat) : Int))) then
 Option.bind ((List.set outs (0 + (Int.toNat x2)) (IntKind.wrap .u32 (((BitVec.toNat ((BitVec.ofInt 32 x7) ||| (BitVec.ofInt 32 (IntKind.wrap .u32 (IntKind.wrap .u64 ((IntKind.wrap .u64 x6) * ((2 : Int) ^ (min (Int.toNat bits) 64)))))))) : Nat) : Int))))[(0 + (Int.toNat (IntKind.wrap .i64 (x2 + (1 : Int)))))]? fun x9 =>
 rec bits out1 x x1 (IntKind.wrap .i64 (x2 + (1 : Int))) (List.set (List.set outs (0 + (Int.toNat x2)) (IntKind.wrap .u32 (((BitVec.toNat ((BitVec.ofInt 32 x7) ||| (BitVec.ofInt 32 (IntKind.wrap .u32 (IntKind.wrap .u64 ((IntKind.wrap .u64 x6) * ((2 : Int) ^ (min (Int.toNat bits) 64)))))))) : Nat) : Int))) (0 + (Int.toNat (IntKind.wrap .i64 (x2 + (1 : Int))))) (IntKind.wrap .u32 (Int.fdiv (IntKind.wrap .u64 ((IntKind.wrap .u64 x6) * ((2 : Int) ^ (min (Int.toNat bits) 64)))) (4294967296 : Int))))
 else
 none
 else
 none
 else
 none
 else
 none
 else
 (some (out1, outs))
def Lbig_shift_0 (k n : Nat) : Int → Nat → List Int → Int → Int → List Int → Option (Nat × List Int) := Nat.rec (fun _ _ _ _ _ _ => none) (fun _ r => Lbig_shift_0s k r) n
def bbig_shift (k : Nat) (a : List Int) (bits : Int) : Option (Nat × List Int) :=
 if (((0 : Int) ≤ (IntKind.wrap .i64 ((((List.length a) : Nat) : Int) + (1 : Int)))) ∧ (((IntKind.wrap .i64 ((((List.length a) : Nat) : Int) + (1 : Int))) ≤ (IntKind.wrap .i64 ((((List.length a) : Nat) : Int) + (1 : Int)))) ∧ (((IntKind.wrap .i64 ((((List.length a) : Nat) : Int) + (1 : Int))) * (4 : Int)) ≤ (140737488355328 : Int)))) then
 Option.bind (Lbig_shift_0 k k bits (Int.toNat (IntKind.wrap .i64 ((((List.length a) : Nat) : Int) + (1 : Int)))) a (((List.length a) : Nat) : Int) (0 : Int) (List.replicate (Int.toNat (IntKind.wrap .i64 ((((List.length a) : Nat) : Int) + (1 : Int)))) (0 : Int))) fun r15 =>
 (some (r15.1, r15.2))
 else
 none
def Fbig_shift : Nat → List Int → Int → Option (Nat × List Int)
 | 0, _, _ => none
 | k + 1, a, bits => bbig_shift k a bits
def shq32 : FS := { vs := [.a (.lf (.sl (.int .u32))), .a (.lf (.int .u64))], bs := [] }
def rsq32 : List FS := [{ vs := [.a (.smz 0)], bs := [.arr (.int .u32) 1 106 false] }]
def Iq32 (k : Nat) : Inst := ⟨247, shq32, rsq32, fun x => Fbig_shift k x.1 x.2⟩
theorem alq32 (k : Nat) : AllI (call cf k) [] := True.intro
def hsq121 : List SS := [{ fr := [(1, .a (.lf (.int .u64))), (5, .a (.smz 0)), (13, .a (.lf (.sl (.int .u32)))), (14, .a (.lf (.int .i64))), (15, .a (.lf (.int .i64)))], mem := [(0, some (.arr (.int .u32) 1 106 false))], nx := 1 }]
def osq121 : List OS := [⟨some 0, { fr := [(5, .a (.smz 0))], mem := [(0, some (.arr (.int .u32) 1 106 false))], nx := 1 }⟩]
def LIq121 (k : Nat) : LInst := ⟨0, hsq121, osq121, fun x => Lbig_shift_0 k k x.1 x.2.1 x.2.2.1 x.2.2.2.1 x.2.2.2.2.1 x.2.2.2.2.2⟩
theorem anq121 (k : Nat) : LAll (LOk (R := DS OS.D osq121) (fun b _ σ K => LOt Ty (kps 247) 0 b σ K []) cf (call cf k) (kps 247) Tryz.f247.ntmps k 0) 0 (lb Tryz.f247 0) :=
 qA qT (qA (qA qT qT) (qA (qA qT (qA qT (qA qT qT))) qT))
theorem stq121 (k n : Nat) (x : DS SS.D hsq121) : Lbig_shift_0 k (n + 1) x.1 x.2.1 x.2.2.1 x.2.2.2.1 x.2.2.2.2.1 x.2.2.2.2.2 = encSK SS.enc (fun σ => run2 cf (fun f a b K => COt f a b K []) (fun b _ σ K => LOt Ty (kps 247) 0 b σ K []) Tryz.f247.ntmps 0 (lb Tryz.f247 0) σ (nextK Ty (kps 247 0) 0 hsq121 osq121 fun x => Lbig_shift_0 k n x.1 x.2.1 x.2.2.1 x.2.2.2.1 x.2.2.2.2.1 x.2.2.2.2.2)) hsq121 x := by kernel_rfl
theorem loq121 (k : Nat) : LIOk cf (call cf k) (kps 247) Tryz.f247.ntmps k 0 0 (lb Tryz.f247 0) (LIq121 k) :=
 loop_ok (c := cf) (callF := call cf k) (kp := kps 247) (nt := Tryz.f247.ntmps) (k := k) (p := 0) (b := 0) (x0 := lb Tryz.f247 0) (hs := hsq121) (os := osq121) (COt_ok (alq32 k)) (anq121 k) (fun n x => Lbig_shift_0 k n x.1 x.2.1 x.2.2.1 x.2.2.2.1 x.2.2.2.2.1 x.2.2.2.2.2) (fun _ => rfl) (stq121 k)
theorem anq32 (k : Nat) : LAll (LOk (R := DS FS.D rsq32) (fun b _ σ K => LOt Ty (kps 247) 0 b σ K [LIq121 k]) cf (call cf k) (cf.keep 247) Tryz.f247.ntmps k shq32.bs.length) 0 (bd Tryz.f247) :=
 qA qT (qA qT (qA (qA qT (LOt_ok (c := cf) (callF := call cf k) (kp := kps 247) (nt := Tryz.f247.ntmps) (k := k) (p := 0) (b := 0) (x0 := lb Tryz.f247 0) (l := [LIq121 k]) (qA (fun _ => loq121 k) qT))) (qA qT qT)))
theorem stq32 (k : Nat) (x : shq32.D) : Fbig_shift (k + 1) x.1 x.2 = body2 cf (fun f a b K => COt f a b K []) (fun b _ σ K => LOt Ty (kps 247) 0 b σ K [LIq121 k]) 247 Tryz.f247.ntmps Tryz.f247.results.toList (bd Tryz.f247) (shq32.enc x).1 (shq32.enc x).2 (putS FS.dec rsq32) := by kernel_rfl
theorem okq32 : ∀ k, InstOk (call cf k) (Iq32 k)
 | 0 => fun x y e => absurd (show (none : Option _) = some y from e) (by simp)
 | k + 1 => inst_ok (c := cf) (k := k) (f := 247) (fn := Tryz.f247) (body := bd Tryz.f247) (sh := shq32) (os := rsq32) rfl Tryz.func247 rfl ⟨rfl, Nat.le_of_ble_eq_true rfl⟩ (COt_ok (alq32 k)) (anq32 k) (fun x => Fbig_shift (k + 1) x.1 x.2) (stq32 k)

/-! shunt/big.take -/
def Lbig_take_zvq_0s (k : Nat) (rec : Nat → Nat → Nat → Int → Int → Int → Int → Int → List Int → List Int → Option (Nat × Nat × Nat × Int × Int × List Int × List Int)) (u0 : Nat) (u1 : Nat) (v : Nat) (d : Int) (carry : Int) (borrow : Int) (x : Int) (x1 : Int) (us : List Int) (vs : List Int) : Option (Nat × Nat × Nat × Int × Int × List Int × List Int) :=
 if ((decide (x1 < x)) = true) then
 if ((decide (x1 < ((v : Nat) : Int))) = true) then
 if (((0 : Int) ≤ x1) ∧ (x1 < ((v : Nat) : Int))) then
 Option.bind (vs)[(0 + (Int.toNat x1))]? fun x10 =>
 if (((0 : Int) ≤ x1) ∧ (x1 < ((u1 : Nat) : Int))) then
 Option.bind (us)[(u0 + (Int.toNat x1))]? fun x11 =>
 if ((decide ((IntKind.wrap .u64 x11) < (IntKind.wrap .u64 ((IntKind.wrap .u64 (((BitVec.toNat ((BitVec.ofInt 64 (IntKind.wrap .u64 (carry + (IntKind.wrap .u64 (d * (IntKind.wrap .u64 x10)))))) &&& (BitVec.ofInt 64 (4294967295 : Int)))) : Nat) : Int)) + borrow)))) = true) then
 if (((0 : Int) ≤ x1) ∧ (x1 < ((u1 : Nat) : Int))) then
 Option.bind (us)[(u0 + (Int.toNat x1))]? fun x12 =>
 if (((0 : Int) ≤ x1) ∧ (x1 < ((u1 : Nat) : Int))) then
 Option.bind (us)[(u0 + (Int.toNat x1))]? fun x13 =>
 rec u0 u1 v d (Int.fdiv (IntKind.wrap .u64 (carry + (IntKind.wrap .u64 (d * (IntKind.wrap .u64 x10))))) (4294967296 : Int)) (1 : Int) x (IntKind.wrap .i64 (x1 + (1 : Int))) (List.set us (u0 + (Int.toNat x1)) (IntKind.wrap .u32 (IntKind.wrap .u64 ((IntKind.wrap .u64 x12) - (IntKind.wrap .u64 ((IntKind.wrap .u64 (((BitVec.toNat ((BitVec.ofInt 64 (IntKind.wrap .u64 (carry + (IntKind.wrap .u64 (d * (IntKind.wrap .u64 x10)))))) &&& (BitVec.ofInt 64 (4294967295 : Int)))) : Nat) : Int)) + borrow)))))) vs
 else
 none
 else
 none
 else
 if (((0 : Int) ≤ x1) ∧ (x1 < ((u1 : Nat) : Int))) then
 Option.bind (us)[(u0 + (Int.toNat x1))]? fun x12 =>
 if (((0 : Int) ≤ x1) ∧ (x1 < ((u1 : Nat) : Int))) then
 Option.bind (us)[(u0 + (Int.toNat x1))]? fun x13 =>
 rec u0 u1 v d (Int.fdiv (IntKind.wrap .u64 (carry + (IntKind.wrap .u64 (d * (IntKind.wrap .u64 x10))))) (4294967296 : Int)) (0 : Int) x (IntKind.wrap .i64 (x1 + (1 : Int))) (List.set us (u0 + (Int.toNat x1)) (IntKind.wrap .u32 (IntKind.wrap .u64 ((IntKind.wrap .u64 x12) - (IntKind.wrap .u64 ((IntKind.wrap .u64 (((BitVec.toNat ((BitVec.ofInt 64 (IntKind.wrap .u64 (carry + (IntKind.wrap .u64 (d * (IntKind.wrap .u64 x10)))))) &&& (BitVec.ofInt 64 (4294967295 : Int)))) : Nat) : Int)) + borrow)))))) vs
 else
 none
 else
 none
 else
 none
 else
 none
 else
 if (((0 : Int) ≤ x1) ∧ (x1 < ((u1 : Nat) : Int))) then
 Option.bind (us)[(u0 + (Int.toNat x1))]? fun x10 =>
 if ((decide ((IntKind.wrap .u64 x10) < (IntKind.wrap .u64 ((IntKind.wrap .u64 (((BitVec.toNat ((BitVec.ofInt 64 carry) &&& (BitVec.ofInt 64 (4294967295 : Int)))) : Nat) : Int)) + borrow)))) = true) then
 if (((0 : Int) ≤ x1) ∧ (x1 < ((u1 : Nat) : Int))) then
 Option.bind (us)[(u0 + (Int.toNat x1))]? fun x11 =>
 if (((0 : Int) ≤ x1) ∧ (x1 < ((u1 : Nat) : Int))) then
 Option.bind (us)[(u0 + (Int.toNat x1))]? fun x12 =>
 rec u0 u1 v d (Int.fdiv carry (4294967296 : Int)) (1 : Int) x (IntKind.wrap .i64 (x1 + (1 : Int))) (List.set us (u0 + (Int.toNat x1)) (IntKind.wrap .u32 (IntKind.wrap .u64 ((IntKind.wrap .u64 x11) - (IntKind.wrap .u64 ((IntKind.wrap .u64 (((BitVec.toNat ((BitVec.ofInt 64 carry) &&& (BitVec.ofInt 64 (4294967295 : Int)))) : Nat) : Int)) + borrow)))))) vs
 else
 none
 else
 none
 else
 if (((0 : Int) ≤ x1) ∧ (x1 < ((u1 : Nat) : Int))) then
 Option.bind (us)[(u0 + (Int.toNat x1))]? fun x11 =>
 if (((0 : Int) ≤ x1) ∧ (x1 < ((u1 : Nat) : Int))) then
 Option.bind (us)[(u0 + (Int.toNat x1))]? fun x12 =>
 rec u0 u1 v d (Int.fdiv carry (4294967296 : Int)) (0 : Int) x (IntKind.wrap .i64 (x1 + (1 : Int))) (List.set us (u0 + (Int.toNat x1)) (IntKind.wrap .u32 (IntKind.wrap .u64 ((IntKind.wrap .u64 x11) - (IntKind.wrap .u64 ((IntKind.wrap .u64 (((BitVec.toNat ((BitVec.ofInt 64 carry) &&& (BitVec.ofInt 64 (4294967295 : Int)))) : Nat) : Int)) + borrow)))))) vs
 else
 none
 else
 none
 else
 none
 else
 (some (u0, u1, v, d, borrow, us, vs))
def Lbig_take_zvq_0 (k n : Nat) : Nat → Nat → Nat → Int → Int → Int → Int → Int → List Int → List Int → Option (Nat × Nat × Nat × Int × Int × List Int × List Int) := Nat.rec (fun _ _ _ _ _ _ _ _ _ _ => none) (fun _ r => Lbig_take_zvq_0s k r) n
def Lbig_take_zvq_2s (k : Nat) (rec : Nat → Nat → Nat → Int → Int → Int → Int → List Int → List Int → Option (Int × List Int × List Int)) (u0 : Nat) (u1 : Nat) (v : Nat) (d : Int) (carry : Int) (x : Int) (x1 : Int) (us : List Int) (vs : List Int) : Option (Int × List Int × List Int) :=
 if ((decide (x1 < x)) = true) then
 if (((0 : Int) ≤ x1) ∧ (x1 < ((u1 : Nat) : Int))) then
 Option.bind (us)[(u0 + (Int.toNat x1))]? fun x10 =>
 if ((decide (x1 < ((v : Nat) : Int))) = true) then
 if (((0 : Int) ≤ x1) ∧ (x1 < ((v : Nat) : Int))) then
 Option.bind (vs)[(0 + (Int.toNat x1))]? fun x11 =>
 if (((0 : Int) ≤ x1) ∧ (x1 < ((u1 : Nat) : Int))) then
 Option.bind (us)[(u0 + (Int.toNat x1))]? fun x12 =>
 rec u0 u1 v d (Int.fdiv (IntKind.wrap .u64 ((IntKind.wrap .u64 ((IntKind.wrap .u64 x10) + carry)) + (IntKind.wrap .u64 x11))) (4294967296 : Int)) x (IntKind.wrap .i64 (x1 + (1 : Int))) (List.set us (u0 + (Int.toNat x1)) (IntKind.wrap .u32 (IntKind.wrap .u64 ((IntKind.wrap .u64 ((IntKind.wrap .u64 x10) + carry)) + (IntKind.wrap .u64 x11))))) vs
 else
 none
 else
 none
 else
 if (((0 : Int) ≤ x1) ∧ (x1 < ((u1 : Nat) : Int))) then
 Option.bind (us)[(u0 + (Int.toNat x1))]? fun x11 =>
 rec u0 u1 v d (Int.fdiv (IntKind.wrap .u64 ((IntKind.wrap .u64 x10) + carry)) (4294967296 : Int)) x (IntKind.wrap .i64 (x1 + (1 : Int))) (List.set us (u0 + (Int.toNat x1)) (IntKind.wrap .u32 (IntKind.wrap .u64 ((IntKind.wrap .u64 x10) + carry)))) vs
 else
 none
 else
 none
 else
 (some (d, us, vs))
def Lbig_take_zvq_2 (k n : Nat) : Nat → Nat → Nat → Int → Int → Int → Int → List Int → List Int → Option (Int × List Int × List Int) := Nat.rec (fun _ _ _ _ _ _ _ _ _ => none) (fun _ r => Lbig_take_zvq_2s k r) n
def bbig_take_zvq (k : Nat) (u0 : Nat) (u1 : Nat) (v : Nat) (d : Int) (us : List Int) (vs : List Int) : Option (Int × List Int × List Int) :=
 Option.bind (Lbig_take_zvq_0 k k u0 u1 v d (0 : Int) (0 : Int) ((u1 : Nat) : Int) (0 : Int) us vs) fun r18 =>
 if ((r18.2.2.2.2.1 == (0 : Int)) = true) then
 (some ((IntKind.wrap .u32 r18.2.2.2.1), r18.2.2.2.2.2.1, r18.2.2.2.2.2.2))
 else
 Option.bind (Lbig_take_zvq_2 k k r18.1 r18.2.1 r18.2.2.1 r18.2.2.2.1 (0 : Int) ((r18.2.1 : Nat) : Int) (0 : Int) r18.2.2.2.2.2.1 r18.2.2.2.2.2.2) fun r19 =>
 (some ((IntKind.wrap .u32 (IntKind.wrap .u64 (r19.1 - (1 : Int)))), r19.2.1, r19.2.2))
def Fbig_take_zvq : Nat → Nat → Nat → Nat → Int → List Int → List Int → Option (Int × List Int × List Int)
 | 0, _, _, _, _, _, _ => none
 | k + 1, u0, u1, v, d, us, vs => bbig_take_zvq k u0 u1 v d us vs
def shq35 : FS := { vs := [.a (.sms 0), .a (.smz 1), .a (.lf (.int .u64))], bs := [.arr (.int .u32) 1 106 false, .arr (.int .u32) 1 106 false] }
def rsq35 : List FS := [{ vs := [.a (.lf (.int .u32))], bs := [.arr (.int .u32) 1 106 false, .arr (.int .u32) 1 106 false] }]
def Iq35 (k : Nat) : Inst := ⟨248, shq35, rsq35, fun x => Fbig_take_zvq k x.1 x.2.1 x.2.2.1 x.2.2.2.1 x.2.2.2.2.1 x.2.2.2.2.2⟩
theorem alq35 (k : Nat) : AllI (call cf k) [] := True.intro
def hsq124 : List SS := [{ fr := [(0, .a (.sms 0)), (1, .a (.smz 1)), (2, .a (.lf (.int .u64))), (7, .a (.lf (.int .u64))), (8, .a (.lf (.int .u64))), (14, .a (.lf (.int .i64))), (15, .a (.lf (.int .i64)))], mem := [(0, some (.arr (.int .u32) 1 106 false)), (1, some (.arr (.int .u32) 1 106 false))], nx := 2 }]
def osq124 : List OS := [⟨some 0, { fr := [(0, .a (.sms 0)), (1, .a (.smz 1)), (2, .a (.lf (.int .u64))), (8, .a (.lf (.int .u64)))], mem := [(0, some (.arr (.int .u32) 1 106 false)), (1, some (.arr (.int .u32) 1 106 false))], nx := 2 }⟩]
def LIq124 (k : Nat) : LInst := ⟨0, hsq124, osq124, fun x => Lbig_take_zvq_0 k k x.1 x.2.1 x.2.2.1 x.2.2.2.1 x.2.2.2.2.1 x.2.2.2.2.2.1 x.2.2.2.2.2.2.1 x.2.2.2.2.2.2.2.1 x.2.2.2.2.2.2.2.2.1 x.2.2.2.2.2.2.2.2.2⟩
theorem anq124 (k : Nat) : LAll (LOk (R := DS OS.D osq124) (fun b _ σ K => LOt Ty (kps 248) 2 b σ K []) cf (call cf k) (kps 248) Tryz.f248.ntmps k 2) 0 (lb Tryz.f248 0) :=
 qA qT (qA (qA qT qT) (qA (qA qT (qA (qA qT (qA qT qT)) (qA qT (qA qT (qA (qA qT (qA qT qT)) (qA qT qT)))))) qT))
theorem stq124 (k n : Nat) (x : DS SS.D hsq124) : Lbig_take_zvq_0 k (n + 1) x.1 x.2.1 x.2.2.1 x.2.2.2.1 x.2.2.2.2.1 x.2.2.2.2.2.1 x.2.2.2.2.2.2.1 x.2.2.2.2.2.2.2.1 x.2.2.2.2.2.2.2.2.1 x.2.2.2.2.2.2.2.2.2 = encSK SS.enc (fun σ => run2 cf (fun f a b K => COt f a b K []) (fun b _ σ K => LOt Ty (kps 248) 2 b σ K []) Tryz.f248.ntmps 0 (lb Tryz.f248 0) σ (nextK Ty (kps 248 0) 2 hsq124 osq124 fun x => Lbig_take_zvq_0 k n x.1 x.2.1 x.2.2.1 x.2.2.2.1 x.2.2.2.2.1 x.2.2.2.2.2.1 x.2.2.2.2.2.2.1 x.2.2.2.2.2.2.2.1 x.2.2.2.2.2.2.2.2.1 x.2.2.2.2.2.2.2.2.2)) hsq124 x := by kernel_rfl
theorem loq124 (k : Nat) : LIOk cf (call cf k) (kps 248) Tryz.f248.ntmps k 2 0 (lb Tryz.f248 0) (LIq124 k) :=
 loop_ok (c := cf) (callF := call cf k) (kp := kps 248) (nt := Tryz.f248.ntmps) (k := k) (p := 2) (b := 0) (x0 := lb Tryz.f248 0) (hs := hsq124) (os := osq124) (COt_ok (alq35 k)) (anq124 k) (fun n x => Lbig_take_zvq_0 k n x.1 x.2.1 x.2.2.1 x.2.2.2.1 x.2.2.2.2.1 x.2.2.2.2.2.1 x.2.2.2.2.2.2.1 x.2.2.2.2.2.2.2.1 x.2.2.2.2.2.2.2.2.1 x.2.2.2.2.2.2.2.2.2) (fun _ => rfl) (stq124 k)
def hsq125 : List SS := [{ fr := [(0, .a (.sms 0)), (1, .a (.smz 1)), (2, .a (.lf (.int .u64))), (7, .a (.lf (.int .u64))), (61, .a (.lf (.int .i64))), (62, .a (.lf (.int .i64)))], mem := [(0, some (.arr (.int .u32) 1 106 false)), (1, some (.arr (.int .u32) 1 106 false))], nx := 2 }]
def osq125 : List OS := [⟨some 2, { fr := [(2, .a (.lf (.int .u64)))], mem := [(0, some (.arr (.int .u32) 1 106 false)), (1, some (.arr (.int .u32) 1 106 false))], nx := 2 }⟩]
def LIq125 (k : Nat) : LInst := ⟨2, hsq125, osq125, fun x => Lbig_take_zvq_2 k k x.1 x.2.1 x.2.2.1 x.2.2.2.1 x.2.2.2.2.1 x.2.2.2.2.2.1 x.2.2.2.2.2.2.1 x.2.2.2.2.2.2.2.1 x.2.2.2.2.2.2.2.2⟩
theorem anq125 (k : Nat) : LAll (LOk (R := DS OS.D osq125) (fun b _ σ K => LOt Ty (kps 248) 2 b σ K [LIq124 k]) cf (call cf k) (kps 248) Tryz.f248.ntmps k 2) 2 (lb Tryz.f248 1) :=
 qA qT (qA (qA qT qT) (qA (qA qT (qA qT (qA (qA qT (qA qT qT)) (qA qT qT)))) qT))
theorem stq125 (k n : Nat) (x : DS SS.D hsq125) : Lbig_take_zvq_2 k (n + 1) x.1 x.2.1 x.2.2.1 x.2.2.2.1 x.2.2.2.2.1 x.2.2.2.2.2.1 x.2.2.2.2.2.2.1 x.2.2.2.2.2.2.2.1 x.2.2.2.2.2.2.2.2 = encSK SS.enc (fun σ => run2 cf (fun f a b K => COt f a b K []) (fun b _ σ K => LOt Ty (kps 248) 2 b σ K [LIq124 k]) Tryz.f248.ntmps 2 (lb Tryz.f248 1) σ (nextK Ty (kps 248 2) 2 hsq125 osq125 fun x => Lbig_take_zvq_2 k n x.1 x.2.1 x.2.2.1 x.2.2.2.1 x.2.2.2.2.1 x.2.2.2.2.2.1 x.2.2.2.2.2.2.1 x.2.2.2.2.2.2.2.1 x.2.2.2.2.2.2.2.2)) hsq125 x := by kernel_rfl
theorem loq125 (k : Nat) : LIOk cf (call cf k) (kps 248) Tryz.f248.ntmps k 2 2 (lb Tryz.f248 1) (LIq125 k) :=
 loop_ok (c := cf) (callF := call cf k) (kp := kps 248) (nt := Tryz.f248.ntmps) (k := k) (p := 2) (b := 2) (x0 := lb Tryz.f248 1) (hs := hsq125) (os := osq125) (COt_ok (alq35 k)) (anq125 k) (fun n x => Lbig_take_zvq_2 k n x.1 x.2.1 x.2.2.1 x.2.2.2.1 x.2.2.2.2.1 x.2.2.2.2.2.1 x.2.2.2.2.2.2.1 x.2.2.2.2.2.2.2.1 x.2.2.2.2.2.2.2.2) (fun _ => rfl) (stq125 k)
theorem anq35 (k : Nat) : LAll (LOk (R := DS FS.D rsq35) (fun b _ σ K => LOt Ty (kps 248) 2 b σ K [LIq124 k, LIq125 k]) cf (call cf k) (cf.keep 248) Tryz.f248.ntmps k shq35.bs.length) 0 (bd Tryz.f248) :=
 qA qT (qA qT (qA (qA qT (LOt_ok (c := cf) (callF := call cf k) (kp := kps 248) (nt := Tryz.f248.ntmps) (k := k) (p := 2) (b := 0) (x0 := lb Tryz.f248 0) (l := [LIq124 k, LIq125 k]) (qA (fun _ => loq124 k) (qA (fun h => absurd (show (2 : Nat) = 0 from h) (by decide)) qT)))) (qA (qA qT (qA (qA qT qT) qT)) (qA qT (qA (qA qT (LOt_ok (c := cf) (callF := call cf k) (kp := kps 248) (nt := Tryz.f248.ntmps) (k := k) (p := 2) (b := 2) (x0 := lb Tryz.f248 1) (l := [LIq124 k, LIq125 k]) (qA (fun h => absurd (show (0 : Nat) = 2 from h) (by decide)) (qA (fun _ => loq125 k) qT)))) (qA qT qT))))))
theorem stq35 (k : Nat) (x : shq35.D) : Fbig_take_zvq (k + 1) x.1 x.2.1 x.2.2.1 x.2.2.2.1 x.2.2.2.2.1 x.2.2.2.2.2 = body2 cf (fun f a b K => COt f a b K []) (fun b _ σ K => LOt Ty (kps 248) 2 b σ K [LIq124 k, LIq125 k]) 248 Tryz.f248.ntmps Tryz.f248.results.toList (bd Tryz.f248) (shq35.enc x).1 (shq35.enc x).2 (putS FS.dec rsq35) := by kernel_rfl
theorem okq35 : ∀ k, InstOk (call cf k) (Iq35 k)
 | 0 => fun x y e => absurd (show (none : Option _) = some y from e) (by simp)
 | k + 1 => inst_ok (c := cf) (k := k) (f := 248) (fn := Tryz.f248) (body := bd Tryz.f248) (sh := shq35) (os := rsq35) rfl Tryz.func248 rfl ⟨rfl, Nat.le_of_ble_eq_true rfl⟩ (COt_ok (alq35 k)) (anq35 k) (fun x => Fbig_take_zvq (k + 1) x.1 x.2.1 x.2.2.1 x.2.2.2.1 x.2.2.2.2.1 x.2.2.2.2.2) (stq35 k)

/-! shunt/big.long -/
def Lbig_long_0s (k : Nat) (rec : List Int → List Int → Int → Option (List Int × List Int × Int)) (a : List Int) (b : List Int) (bits : Int) : Option (List Int × List Int × Int) :=
 if ((0 : Int) ≤ (IntKind.wrap .i64 ((((List.length b) : Nat) : Int) - (1 : Int)))) then
 Option.bind (b)[(Int.toNat (IntKind.wrap .i64 ((((List.length b) : Nat) : Int) - (1 : Int))))]? fun x6 =>
 if (bits < (0 : Int)) then
 none
 else
 if (((Int.fdiv (IntKind.wrap .u32 (x6 * ((2 : Int) ^ (min (Int.toNat bits) 32)))) (2147483648 : Int)) == (0 : Int)) = true) then
 rec a b (IntKind.wrap .u64 (bits + (1 : Int)))
 else
 (some (a, b, bits))
 else
 none
def Lbig_long_0 (k n : Nat) : List Int → List Int → Int → Option (List Int × List Int × Int) := Nat.rec (fun _ _ _ => none) (fun _ r => Lbig_long_0s k r) n
def Lbig_long_4s (k : Nat) (rec : Nat → Int → Int → Nat → Nat → Int → Int → Int → List Int → List Int → List Int → Option (Nat × Int × Int × Nat × Nat × Int × Int × List Int × List Int × List Int)) (q : Nat) (bits : Int) (n : Int) (u : Nat) (v : Nat) (j : Int) (d : Int) (rest : Int) (qs : List Int) (us : List Int) (vs : List Int) : Option (Nat × Int × Int × Nat × Nat × Int × Int × List Int × List Int × List Int) :=
 if ((decide (d > (4294967295 : Int))) = false) then
 if ((decide (rest ≤ (4294967295 : Int))) = true) then
 if (((0 : Int) ≤ (IntKind.wrap .i64 (n - (2 : Int)))) ∧ ((IntKind.wrap .i64 (n - (2 : Int))) < ((v : Nat) : Int))) then
 Option.bind (vs)[(0 + (Int.toNat (IntKind.wrap .i64 (n - (2 : Int)))))]? fun x10 =>
 if (((0 : Int) ≤ (IntKind.wrap .i64 ((IntKind.wrap .i64 (j + n)) - (2 : Int)))) ∧ ((IntKind.wrap .i64 ((IntKind.wrap .i64 (j + n)) - (2 : Int))) < ((u : Nat) : Int))) then
 Option.bind (us)[(0 + (Int.toNat (IntKind.wrap .i64 ((IntKind.wrap .i64 (j + n)) - (2 : Int)))))]? fun x11 =>
 if ((decide ((IntKind.wrap .u64 (d * (IntKind.wrap .u64 x10))) > (IntKind.wrap .u64 (((BitVec.toNat ((BitVec.ofInt 64 (IntKind.wrap .u64 (rest * (4294967296 : Int)))) ||| (BitVec.ofInt 64 (IntKind.wrap .u64 x11)))) : Nat) : Int)))) = true) then
 if (((0 : Int) ≤ (IntKind.wrap .i64 (n - (1 : Int)))) ∧ ((IntKind.wrap .i64 (n - (1 : Int))) < ((v : Nat) : Int))) then
 Option.bind (vs)[(0 + (Int.toNat (IntKind.wrap .i64 (n - (1 : Int)))))]? fun x12 =>
 if ((decide ((IntKind.wrap .u64 (rest + (IntKind.wrap .u64 x12))) > (4294967295 : Int))) = true) then
 (some (q, bits, n, u, v, j, (IntKind.wrap .u64 (d - (1 : Int))), qs, us, vs))
 else
 rec q bits n u v j (IntKind.wrap .u64 (d - (1 : Int))) (IntKind.wrap .u64 (rest + (IntKind.wrap .u64 x12))) qs us vs
 else
 none
 else
 (some (q, bits, n, u, v, j, d, qs, us, vs))
 else
 none
 else
 none
 else
 (some (q, bits, n, u, v, j, d, qs, us, vs))
 else
 if (((0 : Int) ≤ (IntKind.wrap .i64 (n - (1 : Int)))) ∧ ((IntKind.wrap .i64 (n - (1 : Int))) < ((v : Nat) : Int))) then
 Option.bind (vs)[(0 + (Int.toNat (IntKind.wrap .i64 (n - (1 : Int)))))]? fun x10 =>
 if ((decide ((IntKind.wrap .u64 (rest + (IntKind.wrap .u64 x10))) > (4294967295 : Int))) = true) then
 (some (q, bits, n, u, v, j, (IntKind.wrap .u64 (d - (1 : Int))), qs, us, vs))
 else
 rec q bits n u v j (IntKind.wrap .u64 (d - (1 : Int))) (IntKind.wrap .u64 (rest + (IntKind.wrap .u64 x10))) qs us vs
 else
 none
def Lbig_long_4 (k n : Nat) : Nat → Int → Int → Nat → Nat → Int → Int → Int → List Int → List Int → List Int → Option (Nat × Int × Int × Nat × Nat × Int × Int × List Int × List Int × List Int) := Nat.rec (fun _ _ _ _ _ _ _ _ _ _ _ => none) (fun _ r => Lbig_long_4s k r) n
def Lbig_long_2s (k : Nat) (rec : Nat → Int → Int → Nat → Nat → Int → List Int → List Int → List Int → Option (Nat × Int × Int × Nat × List Int × List Int × List Int)) (q : Nat) (bits : Int) (n : Int) (u : Nat) (v : Nat) (j : Int) (qs : List Int) (us : List Int) (vs : List Int) : Option (Nat × Int × Int × Nat × List Int × List Int × List Int) :=
 if ((decide (j ≥ (0 : Int))) = true) then
 if (((0 : Int) ≤ (IntKind.wrap .i64 (j + n))) ∧ ((IntKind.wrap .i64 (j + n)) < ((u : Nat) : Int))) then
 Option.bind (us)[(0 + (Int.toNat (IntKind.wrap .i64 (j + n))))]? fun x6 =>
 if (((0 : Int) ≤ (IntKind.wrap .i64 ((IntKind.wrap .i64 (j + n)) - (1 : Int)))) ∧ ((IntKind.wrap .i64 ((IntKind.wrap .i64 (j + n)) - (1 : Int))) < ((u : Nat) : Int))) then
 Option.bind (us)[(0 + (Int.toNat (IntKind.wrap .i64 ((IntKind.wrap .i64 (j + n)) - (1 : Int)))))]? fun x7 =>
 if (((0 : Int) ≤ (IntKind.wrap .i64 (n - (1 : Int)))) ∧ ((IntKind.wrap .i64 (n - (1 : Int))) < ((v : Nat) : Int))) then
 Option.bind (vs)[(0 + (Int.toNat (IntKind.wrap .i64 (n - (1 : Int)))))]? fun x8 =>
 if ((IntKind.wrap .u64 x8) = (0 : Int)) then
 none
 else
 if (((0 : Int) ≤ (IntKind.wrap .i64 (n - (1 : Int)))) ∧ ((IntKind.wrap .i64 (n - (1 : Int))) < ((v : Nat) : Int))) then
 Option.bind (vs)[(0 + (Int.toNat (IntKind.wrap .i64 (n - (1 : Int)))))]? fun x9 =>
 if ((IntKind.wrap .u64 x9) = (0 : Int)) then
 none
 else
 Option.bind (Lbig_long_4 k k q bits n u v j (IntKind.wrap .u64 (Int.tdiv (IntKind.wrap .u64 (((BitVec.toNat ((BitVec.ofInt 64 (IntKind.wrap .u64 ((IntKind.wrap .u64 x6) * (4294967296 : Int)))) ||| (BitVec.ofInt 64 (IntKind.wrap .u64 x7)))) : Nat) : Int)) (IntKind.wrap .u64 x8))) (Int.tmod (IntKind.wrap .u64 (((BitVec.toNat ((BitVec.ofInt 64 (IntKind.wrap .u64 ((IntKind.wrap .u64 x6) * (4294967296 : Int)))) ||| (BitVec.ofInt 64 (IntKind.wrap .u64 x7)))) : Nat) : Int)) (IntKind.wrap .u64 x9)) qs us vs) fun r17 =>
 if (((0 : Int) ≤ r17.2.2.2.2.2.1) ∧ ((r17.2.2.2.2.2.1 ≤ (IntKind.wrap .i64 ((IntKind.wrap .i64 (r17.2.2.2.2.2.1 + r17.2.2.1)) + (1 : Int)))) ∧ (((0 + (Int.toNat (IntKind.wrap .i64 ((IntKind.wrap .i64 (r17.2.2.2.2.2.1 + r17.2.2.1)) + (1 : Int))))) ≤ (List.length r17.2.2.2.2.2.2.2.2.1)) ∧ ((r17.2.2.2.2.2.1 < (IntKind.wrap .i64 ((IntKind.wrap .i64 (r17.2.2.2.2.2.1 + r17.2.2.1)) + (1 : Int)))) ∨ (false = true))))) then
 Option.bind (Fbig_take_zvq k (0 + (Int.toNat r17.2.2.2.2.2.1)) ((Int.toNat (IntKind.wrap .i64 ((IntKind.wrap .i64 (r17.2.2.2.2.2.1 + r17.2.2.1)) + (1 : Int)))) - (Int.toNat r17.2.2.2.2.2.1)) r17.2.2.2.2.1 r17.2.2.2.2.2.2.1 r17.2.2.2.2.2.2.2.2.1 r17.2.2.2.2.2.2.2.2.2) fun r18 =>
 if (((0 : Int) ≤ r17.2.2.2.2.2.1) ∧ (r17.2.2.2.2.2.1 < ((r17.1 : Nat) : Int))) then
 Option.bind (r17.2.2.2.2.2.2.2.1)[(0 + (Int.toNat r17.2.2.2.2.2.1))]? fun x10 =>
 rec r17.1 r17.2.1 r17.2.2.1 r17.2.2.2.1 r17.2.2.2.2.1 (IntKind.wrap .i64 (r17.2.2.2.2.2.1 - (1 : Int))) (List.set r17.2.2.2.2.2.2.2.1 (0 + (Int.toNat r17.2.2.2.2.2.1)) r18.1) r18.2.1 r18.2.2
 else
 none
 else
 none
 else
 none
 else
 none
 else
 none
 else
 none
 else
 (some (q, bits, n, u, qs, us, vs))
def Lbig_long_2 (k n : Nat) : Nat → Int → Int → Nat → Nat → Int → List Int → List Int → List Int → Option (Nat × Int × Int × Nat × List Int × List Int × List Int) := Nat.rec (fun _ _ _ _ _ _ _ _ _ => none) (fun _ r => Lbig_long_2s k r) n
def Lbig_long_6s (k : Nat) (rec : Nat → Nat → Int → Nat → Int → Int → List Int → List Int → List Int → Option (Nat × Nat × List Int × List Int × List Int)) (q : Nat) (r : Nat) (bits : Int) (u : Nat) (x : Int) (x1 : Int) (qs : List Int) (rs : List Int) (us : List Int) : Option (Nat × Nat × List Int × List Int × List Int) :=
 if ((decide (x1 < x)) = true) then
 if (((0 : Int) ≤ x1) ∧ (x1 < ((u : Nat) : Int))) then
 Option.bind (us)[(0 + (Int.toNat x1))]? fun x6 =>
 if (bits < (0 : Int)) then
 none
 else
 if (((0 : Int) ≤ (IntKind.wrap .i64 (x1 + (1 : Int)))) ∧ ((IntKind.wrap .i64 (x1 + (1 : Int))) < ((u : Nat) : Int))) then
 Option.bind (us)[(0 + (Int.toNat (IntKind.wrap .i64 (x1 + (1 : Int)))))]? fun x7 =>
 if ((IntKind.wrap .u64 ((32 : Int) - bits)) < (0 : Int)) then
 none
 else
 if (((0 : Int) ≤ x1) ∧ (x1 < ((r : Nat) : Int))) then
 Option.bind (rs)[(0 + (Int.toNat x1))]? fun x8 =>
 rec q r bits u x (IntKind.wrap .i64 (x1 + (1 : Int))) qs (List.set rs (0 + (Int.toNat x1)) (IntKind.wrap .u32 (((BitVec.toNat ((BitVec.ofInt 32 (Int.fdiv x6 ((2 : Int) ^ (min (Int.toNat bits) 32)))) ||| (BitVec.ofInt 32 (IntKind.wrap .u32 (IntKind.wrap .u64 ((IntKind.wrap .u64 x7) * ((2 : Int) ^ (min (Int.toNat (IntKind.wrap .u64 ((32 : Int) - bits))) 64)))))))) : Nat) : Int))) us
 else
 none
 else
 none
 else
 none
 else
 (some (q, r, qs, rs, us))
def Lbig_long_6 (k n : Nat) : Nat → Nat → Int → Nat → Int → Int → List Int → List Int → List Int → Option (Nat × Nat × List Int × List Int × List Int) := Nat.rec (fun _ _ _ _ _ _ _ _ _ => none) (fun _ r => Lbig_long_6s k r) n
def bbig_long (k : Nat) (a : List Int) (b : List Int) : Option (List Int × List Int) :=
 Option.bind (Lbig_long_0 k k a b (0 : Int)) fun r14 =>
 Option.bind (Fbig_shift k r14.1 r14.2.2) fun r15 =>
 Option.bind (Fbig_shift k r14.2.1 r14.2.2) fun r16 =>
 if (((0 : Int) ≤ (0 : Int)) ∧ (((0 : Int) ≤ (((List.length r14.2.1) : Nat) : Int)) ∧ (((0 + (Int.toNat (((List.length r14.2.1) : Nat) : Int))) ≤ (List.length r16.2)) ∧ (((0 : Int) < (((List.length r14.2.1) : Nat) : Int)) ∨ (true = true))))) then
 if (((0 : Int) ≤ (IntKind.wrap .i64 (((r15.1 : Nat) : Int) - (((List.length r14.2.1) : Nat) : Int)))) ∧ (((IntKind.wrap .i64 (((r15.1 : Nat) : Int) - (((List.length r14.2.1) : Nat) : Int))) ≤ (IntKind.wrap .i64 (((r15.1 : Nat) : Int) - (((List.length r14.2.1) : Nat) : Int)))) ∧ (((IntKind.wrap .i64 (((r15.1 : Nat) : Int) - (((List.length r14.2.1) : Nat) : Int))) * (4 : Int)) ≤ (140737488355328 : Int)))) then
 Option.bind (Lbig_long_2 k k (Int.toNat (IntKind.wrap .i64 (((r15.1 : Nat) : Int) - (((List.length r14.2.1) : Nat) : Int)))) r14.2.2 (((List.length r14.2.1) : Nat) : Int) r15.1 (Int.toNat (((List.length r14.2.1) : Nat) : Int)) (IntKind.wrap .i64 ((IntKind.wrap .i64 (((r15.1 : Nat) : Int) - (((List.length r14.2.1) : Nat) : Int))) - (1 : Int))) (List.replicate (Int.toNat (IntKind.wrap .i64 (((r15.1 : Nat) : Int) - (((List.length r14.2.1) : Nat) : Int)))) (0 : Int)) r15.2 r16.2) fun r17 =>
 if (((0 : Int) ≤ r17.2.2.1) ∧ ((r17.2.2.1 ≤ r17.2.2.1) ∧ ((r17.2.2.1 * (4 : Int)) ≤ (140737488355328 : Int)))) then
 Option.bind (Lbig_long_6 k k r17.1 (Int.toNat r17.2.2.1) r17.2.1 r17.2.2.2.1 r17.2.2.1 (0 : Int) r17.2.2.2.2.1 (List.replicate (Int.toNat r17.2.2.1) (0 : Int)) r17.2.2.2.2.2.1) fun r18 =>
 if ((0 + r18.1) ≤ (List.length r18.2.2.1)) then
 if ((0 + r18.2.1) ≤ (List.length r18.2.2.2.1)) then
 (some ((List.take r18.1 r18.2.2.1), (List.take r18.2.1 r18.2.2.2.1)))
 else
 none
 else
 none
 else
 none
 else
 none
 else
 none
def Fbig_long : Nat → List Int → List Int → Option (List Int × List Int)
 | 0, _, _ => none
 | k + 1, a, b => bbig_long k a b
def shq31 : FS := { vs := [.a (.lf (.sl (.int .u32))), .a (.lf (.sl (.int .u32)))], bs := [] }
def rsq31 : List FS := [{ vs := [.a (.lf (.sl (.int .u32))), .a (.lf (.sl (.int .u32)))], bs := [] }]
def Iq31 (k : Nat) : Inst := ⟨242, shq31, rsq31, fun x => Fbig_long k x.1 x.2⟩
theorem alq31 (k : Nat) : AllI (call cf k) [Iq32 k, Iq35 k] := qA (okq32 k) (qA (okq35 k) qT)
def hsq117 : List SS := [{ fr := [(0, .a (.lf (.sl (.int .u32)))), (1, .a (.lf (.sl (.int .u32)))), (6, .a (.lf (.int .u64)))], mem := [], nx := 0 }]
def osq117 : List OS := [⟨some 0, { fr := [(0, .a (.lf (.sl (.int .u32)))), (1, .a (.lf (.sl (.int .u32)))), (6, .a (.lf (.int .u64)))], mem := [], nx := 0 }⟩]
def LIq117 (k : Nat) : LInst := ⟨0, hsq117, osq117, fun x => Lbig_long_0 k k x.1 x.2.1 x.2.2⟩
theorem anq117 (k : Nat) : LAll (LOk (R := DS OS.D osq117) (fun b _ σ K => LOt Ty (kps 242) 0 b σ K []) cf (call cf k) (kps 242) Tryz.f242.ntmps k 0) 0 (lb Tryz.f242 0) :=
 qA (qA qT (qA qT qT)) qT
theorem stq117 (k n : Nat) (x : DS SS.D hsq117) : Lbig_long_0 k (n + 1) x.1 x.2.1 x.2.2 = encSK SS.enc (fun σ => run2 cf (fun f a b K => COt f a b K [Iq32 k, Iq35 k]) (fun b _ σ K => LOt Ty (kps 242) 0 b σ K []) Tryz.f242.ntmps 0 (lb Tryz.f242 0) σ (nextK Ty (kps 242 0) 0 hsq117 osq117 fun x => Lbig_long_0 k n x.1 x.2.1 x.2.2)) hsq117 x := by kernel_rfl
theorem loq117 (k : Nat) : LIOk cf (call cf k) (kps 242) Tryz.f242.ntmps k 0 0 (lb Tryz.f242 0) (LIq117 k) :=
 loop_ok (c := cf) (callF := call cf k) (kp := kps 242) (nt := Tryz.f242.ntmps) (k := k) (p := 0) (b := 0) (x0 := lb Tryz.f242 0) (hs := hsq117) (os := osq117) (COt_ok (alq31 k)) (anq117 k) (fun n x => Lbig_long_0 k n x.1 x.2.1 x.2.2) (fun _ => rfl) (stq117 k)
def hsq119 : List SS := [{ fr := [(4, .a (.smz 0)), (6, .a (.lf (.int .u64))), (7, .a (.lf (.int .i64))), (8, .a (.smz 1)), (9, .a (.smz 2)), (10, .a (.lf (.int .i64))), (12, .a (.lf (.int .u64))), (13, .a (.lf (.int .u64)))], mem := [(0, some (.arr (.int .u32) 1 106 false)), (1, some (.arr (.int .u32) 1 106 false)), (2, some (.arr (.int .u32) 1 106 false))], nx := 3 }]
def osq119 : List OS := [⟨some 4, { fr := [(4, .a (.smz 0)), (6, .a (.lf (.int .u64))), (7, .a (.lf (.int .i64))), (8, .a (.smz 1)), (9, .a (.smz 2)), (10, .a (.lf (.int .i64))), (12, .a (.lf (.int .u64)))], mem := [(0, some (.arr (.int .u32) 1 106 false)), (1, some (.arr (.int .u32) 1 106 false)), (2, some (.arr (.int .u32) 1 106 false))], nx := 3 }⟩]
def LIq119 (k : Nat) : LInst := ⟨4, hsq119, osq119, fun x => Lbig_long_4 k k x.1 x.2.1 x.2.2.1 x.2.2.2.1 x.2.2.2.2.1 x.2.2.2.2.2.1 x.2.2.2.2.2.2.1 x.2.2.2.2.2.2.2.1 x.2.2.2.2.2.2.2.2.1 x.2.2.2.2.2.2.2.2.2.1 x.2.2.2.2.2.2.2.2.2.2⟩
theorem anq119 (k : Nat) : LAll (LOk (R := DS OS.D osq119) (fun b _ σ K => LOt Ty (kps 242) 0 b σ K [LIq117 k]) cf (call cf k) (kps 242) Tryz.f242.ntmps k 0) 4 (lb Tryz.f242 2) :=
 qA (qA qT (qA qT qT)) (qA qT (qA qT (qA qT (qA qT qT))))
theorem stq119 (k n : Nat) (x : DS SS.D hsq119) : Lbig_long_4 k (n + 1) x.1 x.2.1 x.2.2.1 x.2.2.2.1 x.2.2.2.2.1 x.2.2.2.2.2.1 x.2.2.2.2.2.2.1 x.2.2.2.2.2.2.2.1 x.2.2.2.2.2.2.2.2.1 x.2.2.2.2.2.2.2.2.2.1 x.2.2.2.2.2.2.2.2.2.2 = encSK SS.enc (fun σ => run2 cf (fun f a b K => COt f a b K [Iq32 k, Iq35 k]) (fun b _ σ K => LOt Ty (kps 242) 0 b σ K [LIq117 k]) Tryz.f242.ntmps 4 (lb Tryz.f242 2) σ (nextK Ty (kps 242 4) 0 hsq119 osq119 fun x => Lbig_long_4 k n x.1 x.2.1 x.2.2.1 x.2.2.2.1 x.2.2.2.2.1 x.2.2.2.2.2.1 x.2.2.2.2.2.2.1 x.2.2.2.2.2.2.2.1 x.2.2.2.2.2.2.2.2.1 x.2.2.2.2.2.2.2.2.2.1 x.2.2.2.2.2.2.2.2.2.2)) hsq119 x := by kernel_rfl
theorem loq119 (k : Nat) : LIOk cf (call cf k) (kps 242) Tryz.f242.ntmps k 0 4 (lb Tryz.f242 2) (LIq119 k) :=
 loop_ok (c := cf) (callF := call cf k) (kp := kps 242) (nt := Tryz.f242.ntmps) (k := k) (p := 0) (b := 4) (x0 := lb Tryz.f242 2) (hs := hsq119) (os := osq119) (COt_ok (alq31 k)) (anq119 k) (fun n x => Lbig_long_4 k n x.1 x.2.1 x.2.2.1 x.2.2.2.1 x.2.2.2.2.1 x.2.2.2.2.2.1 x.2.2.2.2.2.2.1 x.2.2.2.2.2.2.2.1 x.2.2.2.2.2.2.2.2.1 x.2.2.2.2.2.2.2.2.2.1 x.2.2.2.2.2.2.2.2.2.2) (fun _ => rfl) (stq119 k)
def hsq118 : List SS := [{ fr := [(4, .a (.smz 0)), (6, .a (.lf (.int .u64))), (7, .a (.lf (.int .i64))), (8, .a (.smz 1)), (9, .a (.smz 2)), (10, .a (.lf (.int .i64)))], mem := [(0, some (.arr (.int .u32) 1 106 false)), (1, some (.arr (.int .u32) 1 106 false)), (2, some (.arr (.int .u32) 1 106 false))], nx := 3 }]
def osq118 : List OS := [⟨some 2, { fr := [(4, .a (.smz 0)), (6, .a (.lf (.int .u64))), (7, .a (.lf (.int .i64))), (8, .a (.smz 1))], mem := [(0, some (.arr (.int .u32) 1 106 false)), (1, some (.arr (.int .u32) 1 106 false)), (2, some (.arr (.int .u32) 1 106 false))], nx := 3 }⟩]
def LIq118 (k : Nat) : LInst := ⟨2, hsq118, osq118, fun x => Lbig_long_2 k k x.1 x.2.1 x.2.2.1 x.2.2.2.1 x.2.2.2.2.1 x.2.2.2.2.2.1 x.2.2.2.2.2.2.1 x.2.2.2.2.2.2.2.1 x.2.2.2.2.2.2.2.2⟩
theorem anq118 (k : Nat) : LAll (LOk (R := DS OS.D osq118) (fun b _ σ K => LOt Ty (kps 242) 0 b σ K [LIq117 k, LIq119 k]) cf (call cf k) (kps 242) Tryz.f242.ntmps k 0) 2 (lb Tryz.f242 1) :=
 qA (qA qT (qA qT qT)) (qA (qA qT (qA qT (qA (LOt_ok (c := cf) (callF := call cf k) (kp := kps 242) (nt := Tryz.f242.ntmps) (k := k) (p := 0) (b := 4) (x0 := lb Tryz.f242 2) (l := [LIq117 k, LIq119 k]) (qA (fun h => absurd (show (0 : Nat) = 4 from h) (by decide)) (qA (fun _ => loq119 k) qT))) qT))) qT)
theorem stq118 (k n : Nat) (x : DS SS.D hsq118) : Lbig_long_2 k (n + 1) x.1 x.2.1 x.2.2.1 x.2.2.2.1 x.2.2.2.2.1 x.2.2.2.2.2.1 x.2.2.2.2.2.2.1 x.2.2.2.2.2.2.2.1 x.2.2.2.2.2.2.2.2 = encSK SS.enc (fun σ => run2 cf (fun f a b K => COt f a b K [Iq32 k, Iq35 k]) (fun b _ σ K => LOt Ty (kps 242) 0 b σ K [LIq117 k, LIq119 k]) Tryz.f242.ntmps 2 (lb Tryz.f242 1) σ (nextK Ty (kps 242 2) 0 hsq118 osq118 fun x => Lbig_long_2 k n x.1 x.2.1 x.2.2.1 x.2.2.2.1 x.2.2.2.2.1 x.2.2.2.2.2.1 x.2.2.2.2.2.2.1 x.2.2.2.2.2.2.2.1 x.2.2.2.2.2.2.2.2)) hsq118 x := by kernel_rfl
theorem loq118 (k : Nat) : LIOk cf (call cf k) (kps 242) Tryz.f242.ntmps k 0 2 (lb Tryz.f242 1) (LIq118 k) :=
 loop_ok (c := cf) (callF := call cf k) (kp := kps 242) (nt := Tryz.f242.ntmps) (k := k) (p := 0) (b := 2) (x0 := lb Tryz.f242 1) (hs := hsq118) (os := osq118) (COt_ok (alq31 k)) (anq118 k) (fun n x => Lbig_long_2 k n x.1 x.2.1 x.2.2.1 x.2.2.2.1 x.2.2.2.2.1 x.2.2.2.2.2.1 x.2.2.2.2.2.2.1 x.2.2.2.2.2.2.2.1 x.2.2.2.2.2.2.2.2) (fun _ => rfl) (stq118 k)
def hsq120 : List SS := [{ fr := [(4, .a (.smz 0)), (5, .a (.smz 1)), (6, .a (.lf (.int .u64))), (8, .a (.smz 2)), (139, .a (.lf (.int .i64))), (140, .a (.lf (.int .i64)))], mem := [(0, some (.arr (.int .u32) 1 106 false)), (1, some (.arr (.int .u32) 1 106 false)), (2, some (.arr (.int .u32) 1 106 false))], nx := 3 }]
def osq120 : List OS := [⟨some 6, { fr := [(4, .a (.smz 0)), (5, .a (.smz 1))], mem := [(0, some (.arr (.int .u32) 1 106 false)), (1, some (.arr (.int .u32) 1 106 false)), (2, some (.arr (.int .u32) 1 106 false))], nx := 3 }⟩]
def LIq120 (k : Nat) : LInst := ⟨6, hsq120, osq120, fun x => Lbig_long_6 k k x.1 x.2.1 x.2.2.1 x.2.2.2.1 x.2.2.2.2.1 x.2.2.2.2.2.1 x.2.2.2.2.2.2.1 x.2.2.2.2.2.2.2.1 x.2.2.2.2.2.2.2.2⟩
theorem anq120 (k : Nat) : LAll (LOk (R := DS OS.D osq120) (fun b _ σ K => LOt Ty (kps 242) 0 b σ K [LIq117 k, LIq119 k, LIq118 k]) cf (call cf k) (kps 242) Tryz.f242.ntmps k 0) 6 (lb Tryz.f242 3) :=
 qA qT (qA (qA qT qT) (qA (qA qT qT) qT))
theorem stq120 (k n : Nat) (x : DS SS.D hsq120) : Lbig_long_6 k (n + 1) x.1 x.2.1 x.2.2.1 x.2.2.2.1 x.2.2.2.2.1 x.2.2.2.2.2.1 x.2.2.2.2.2.2.1 x.2.2.2.2.2.2.2.1 x.2.2.2.2.2.2.2.2 = encSK SS.enc (fun σ => run2 cf (fun f a b K => COt f a b K [Iq32 k, Iq35 k]) (fun b _ σ K => LOt Ty (kps 242) 0 b σ K [LIq117 k, LIq119 k, LIq118 k]) Tryz.f242.ntmps 6 (lb Tryz.f242 3) σ (nextK Ty (kps 242 6) 0 hsq120 osq120 fun x => Lbig_long_6 k n x.1 x.2.1 x.2.2.1 x.2.2.2.1 x.2.2.2.2.1 x.2.2.2.2.2.1 x.2.2.2.2.2.2.1 x.2.2.2.2.2.2.2.1 x.2.2.2.2.2.2.2.2)) hsq120 x := by kernel_rfl
theorem loq120 (k : Nat) : LIOk cf (call cf k) (kps 242) Tryz.f242.ntmps k 0 6 (lb Tryz.f242 3) (LIq120 k) :=
 loop_ok (c := cf) (callF := call cf k) (kp := kps 242) (nt := Tryz.f242.ntmps) (k := k) (p := 0) (b := 6) (x0 := lb Tryz.f242 3) (hs := hsq120) (os := osq120) (COt_ok (alq31 k)) (anq120 k) (fun n x => Lbig_long_6 k n x.1 x.2.1 x.2.2.1 x.2.2.2.1 x.2.2.2.2.1 x.2.2.2.2.2.1 x.2.2.2.2.2.2.1 x.2.2.2.2.2.2.2.1 x.2.2.2.2.2.2.2.2) (fun _ => rfl) (stq120 k)
theorem anq31 (k : Nat) : LAll (LOk (R := DS FS.D rsq31) (fun b _ σ K => LOt Ty (kps 242) 0 b σ K [LIq117 k, LIq119 k, LIq118 k, LIq120 k]) cf (call cf k) (cf.keep 242) Tryz.f242.ntmps k shq31.bs.length) 0 (bd Tryz.f242) :=
 qA qT (qA qT (qA (LOt_ok (c := cf) (callF := call cf k) (kp := kps 242) (nt := Tryz.f242.ntmps) (k := k) (p := 0) (b := 0) (x0 := lb Tryz.f242 0) (l := [LIq117 k, LIq119 k, LIq118 k, LIq120 k]) (qA (fun _ => loq117 k) (qA (fun h => absurd (show (4 : Nat) = 0 from h) (by decide)) (qA (fun h => absurd (show (2 : Nat) = 0 from h) (by decide)) (qA (fun h => absurd (show (6 : Nat) = 0 from h) (by decide)) qT))))) (qA qT (qA qT (qA qT (qA (qA qT (LOt_ok (c := cf) (callF := call cf k) (kp := kps 242) (nt := Tryz.f242.ntmps) (k := k) (p := 0) (b := 2) (x0 := lb Tryz.f242 1) (l := [LIq117 k, LIq119 k, LIq118 k, LIq120 k]) (qA (fun h => absurd (show (0 : Nat) = 2 from h) (by decide)) (qA (fun h => absurd (show (4 : Nat) = 2 from h) (by decide)) (qA (fun _ => loq118 k) (qA (fun h => absurd (show (6 : Nat) = 2 from h) (by decide)) qT)))))) (qA qT (qA (qA qT (LOt_ok (c := cf) (callF := call cf k) (kp := kps 242) (nt := Tryz.f242.ntmps) (k := k) (p := 0) (b := 6) (x0 := lb Tryz.f242 3) (l := [LIq117 k, LIq119 k, LIq118 k, LIq120 k]) (qA (fun h => absurd (show (0 : Nat) = 6 from h) (by decide)) (qA (fun h => absurd (show (4 : Nat) = 6 from h) (by decide)) (qA (fun h => absurd (show (2 : Nat) = 6 from h) (by decide)) (qA (fun _ => loq120 k) qT)))))) (qA qT qT)))))))))
theorem stq31 (k : Nat) (x : shq31.D) : Fbig_long (k + 1) x.1 x.2 = body2 cf (fun f a b K => COt f a b K [Iq32 k, Iq35 k]) (fun b _ σ K => LOt Ty (kps 242) 0 b σ K [LIq117 k, LIq119 k, LIq118 k, LIq120 k]) 242 Tryz.f242.ntmps Tryz.f242.results.toList (bd Tryz.f242) (shq31.enc x).1 (shq31.enc x).2 (putS FS.dec rsq31) := by kernel_rfl
theorem okq31 : ∀ k, InstOk (call cf k) (Iq31 k)
 | 0 => fun x y e => absurd (show (none : Option _) = some y from e) (by simp)
 | k + 1 => inst_ok (c := cf) (k := k) (f := 242) (fn := Tryz.f242) (body := bd Tryz.f242) (sh := shq31) (os := rsq31) rfl Tryz.func242 rfl ⟨rfl, Nat.le_of_ble_eq_true rfl⟩ (COt_ok (alq31 k)) (anq31 k) (fun x => Fbig_long (k + 1) x.1 x.2) (stq31 k)

/-! shunt/big.divide -/
def bbig_divide (k : Nat) (a : List Int) (b : List Int) : Option (List Int × List Int) :=
 Option.bind (Fbig_cmp k a b) fun r13 =>
 if ((decide (r13 < (0 : Int))) = true) then
 (some ([], a))
 else
 if (((((List.length b) : Nat) : Int) == (1 : Int)) = true) then
 Option.bind (b)[0]? fun x6 =>
 Option.bind (Fbig_short k a x6) fun r14 =>
 (some (r14.1, (List.take 1 (r14.2 :: []))))
 else
 Option.bind (Fbig_long k a b) fun r14 =>
 (some (r14.1, r14.2))
def Fbig_divide : Nat → List Int → List Int → Option (List Int × List Int)
 | 0, _, _ => none
 | k + 1, a, b => bbig_divide k a b
def shq30 : FS := { vs := [.a (.lf (.sl (.int .u32))), .a (.lf (.sl (.int .u32)))], bs := [] }
def rsq30 : List FS := [{ vs := [.a (.lf (.sl (.int .u32))), .a (.lf (.sl (.int .u32)))], bs := [] }]
def Iq30 (k : Nat) : Inst := ⟨231, shq30, rsq30, fun x => Fbig_divide k x.1 x.2⟩
theorem alq30 (k : Nat) : AllI (call cf k) [Iq29 k, Iq33 k, Iq31 k] := qA (okq29 k) (qA (okq33 k) (qA (okq31 k) qT))
theorem anq30 (k : Nat) : LAll (LOk (R := DS FS.D rsq30) (fun b _ σ K => LOt Ty (kps 231) 0 b σ K []) cf (call cf k) (cf.keep 231) Tryz.f231.ntmps k shq30.bs.length) 0 (bd Tryz.f231) :=
 qA qT (qA (qA qT (qA (qA qT qT) (qA qT (qA (qA qT (qA qT qT)) qT)))) (qA qT qT))
theorem stq30 (k : Nat) (x : shq30.D) : Fbig_divide (k + 1) x.1 x.2 = body2 cf (fun f a b K => COt f a b K [Iq29 k, Iq33 k, Iq31 k]) (fun b _ σ K => LOt Ty (kps 231) 0 b σ K []) 231 Tryz.f231.ntmps Tryz.f231.results.toList (bd Tryz.f231) (shq30.enc x).1 (shq30.enc x).2 (putS FS.dec rsq30) := by kernel_rfl
theorem okq30 : ∀ k, InstOk (call cf k) (Iq30 k)
 | 0 => fun x y e => absurd (show (none : Option _) = some y from e) (by simp)
 | k + 1 => inst_ok (c := cf) (k := k) (f := 231) (fn := Tryz.f231) (body := bd Tryz.f231) (sh := shq30) (os := rsq30) rfl Tryz.func231 rfl ⟨rfl, Nat.le_of_ble_eq_true rfl⟩ (COt_ok (alq30 k)) (anq30 k) (fun x => Fbig_divide (k + 1) x.1 x.2) (stq30 k)

/-! shunt/big.Gcd -/
def Lbig_Gcd_ddu_0s (k : Nat) (rec : List Int → List Int → Bool → List Int → Bool → List Int → Option (List Int × Bool × List Int × Bool × List Int)) (a : List Int) (b : List Int) (m0 : Bool) (m1 : List Int) (m01 : Bool) (m11 : List Int) : Option (List Int × Bool × List Int × Bool × List Int) :=
 if ((decide ((((List.length b) : Nat) : Int) > (0 : Int))) = true) then
 Option.bind (Fbig_divide k a b) fun r13 =>
 if (((0 + (List.length r13.2)) * 4) ≤ 140737488355328) then
 if ((0 + (0 + (List.length r13.2))) ≤ (List.length ((List.take 0 []) ++ r13.2))) then
 Option.bind (Fbig_trim k (List.take (0 + (List.length r13.2)) ((List.take 0 []) ++ r13.2))) fun r14 =>
 rec b r14 m0 m1 m01 m11
 else
 none
 else
 none
 else
 (some (a, m0, m1, m01, m11))
def Lbig_Gcd_ddu_0 (k n : Nat) : List Int → List Int → Bool → List Int → Bool → List Int → Option (List Int × Bool × List Int × Bool × List Int) := Nat.rec (fun _ _ _ _ _ _ => none) (fun _ r => Lbig_Gcd_ddu_0s k r) n
def bbig_Gcd_ddu (k : Nat) (x0 : Bool) (x1 : List Int) (y0 : Bool) (y1 : List Int) : Option (Bool × List Int × Bool × List Int × Bool × List Int) :=
 Option.bind (Lbig_Gcd_ddu_0 k k x1 y1 x0 x1 y0 y1) fun r13 =>
 Option.bind (Fbig_Int_set_cvg k false r13.1 false) fun r14 =>
 (some (r13.2.1, r13.2.2.1, r13.2.2.2.1, r13.2.2.2.2, r14.1, r14.2))
def Fbig_Gcd_ddu : Nat → Bool → List Int → Bool → List Int → Option (Bool × List Int × Bool × List Int × Bool × List Int)
 | 0, _, _, _, _ => none
 | k + 1, x0, x1, y0, y1 => bbig_Gcd_ddu k x0 x1 y0 y1
def shq2 : FS := { vs := [.a (.ptr 0 0 0), .a (.ptr 1 0 0)], bs := [.raw [[.lf .bool, .lf (.sl (.int .u32))]] 2 147 true false false, .raw [[.lf .bool, .lf (.sl (.int .u32))]] 2 147 true false false] }
def rsq2 : List FS := [{ vs := [.a (.ptr 2 0 0)], bs := [.raw [[.lf .bool, .lf (.sl (.int .u32))]] 2 147 true false false, .raw [[.lf .bool, .lf (.sl (.int .u32))]] 2 147 true false false, .raw [[.lf .bool, .lf (.sl (.int .u32))]] 2 147 true false false] }]
def Iq2 (k : Nat) : Inst := ⟨203, shq2, rsq2, fun x => Fbig_Gcd_ddu k x.1 x.2.1 x.2.2.1 x.2.2.2⟩
theorem alq2 (k : Nat) : AllI (call cf k) [Iq30 k, Iq36 k, Iq16 k] := qA (okq30 k) (qA (okq36 k) (qA (okq16 k) qT))
def hsq106 : List SS := [{ fr := [(5, .a (.lf (.sl (.int .u32)))), (6, .a (.lf (.sl (.int .u32))))], mem := [(0, some (.raw [[.lf .bool, .lf (.sl (.int .u32))]] 2 147 true false false)), (1, some (.raw [[.lf .bool, .lf (.sl (.int .u32))]] 2 147 true false false))], nx := 2 }]
def osq106 : List OS := [⟨some 0, { fr := [(5, .a (.lf (.sl (.int .u32))))], mem := [(0, some (.raw [[.lf .bool, .lf (.sl (.int .u32))]] 2 147 true false false)), (1, some (.raw [[.lf .bool, .lf (.sl (.int .u32))]] 2 147 true false false))], nx := 2 }⟩]
def LIq106 (k : Nat) : LInst := ⟨0, hsq106, osq106, fun x => Lbig_Gcd_ddu_0 k k x.1 x.2.1 x.2.2.1 x.2.2.2.1 x.2.2.2.2.1 x.2.2.2.2.2⟩
theorem anq106 (k : Nat) : LAll (LOk (R := DS OS.D osq106) (fun b _ σ K => LOt Ty (kps 203) 2 b σ K []) cf (call cf k) (kps 203) Tryz.f203.ntmps k 2) 0 (lb Tryz.f203 0) :=
 qA (qA qT (qA qT qT)) (qA qT qT)
theorem stq106 (k n : Nat) (x : DS SS.D hsq106) : Lbig_Gcd_ddu_0 k (n + 1) x.1 x.2.1 x.2.2.1 x.2.2.2.1 x.2.2.2.2.1 x.2.2.2.2.2 = encSK SS.enc (fun σ => run2 cf (fun f a b K => COt f a b K [Iq30 k, Iq36 k, Iq16 k]) (fun b _ σ K => LOt Ty (kps 203) 2 b σ K []) Tryz.f203.ntmps 0 (lb Tryz.f203 0) σ (nextK Ty (kps 203 0) 2 hsq106 osq106 fun x => Lbig_Gcd_ddu_0 k n x.1 x.2.1 x.2.2.1 x.2.2.2.1 x.2.2.2.2.1 x.2.2.2.2.2)) hsq106 x := by kernel_rfl
theorem loq106 (k : Nat) : LIOk cf (call cf k) (kps 203) Tryz.f203.ntmps k 2 0 (lb Tryz.f203 0) (LIq106 k) :=
 loop_ok (c := cf) (callF := call cf k) (kp := kps 203) (nt := Tryz.f203.ntmps) (k := k) (p := 2) (b := 0) (x0 := lb Tryz.f203 0) (hs := hsq106) (os := osq106) (COt_ok (alq2 k)) (anq106 k) (fun n x => Lbig_Gcd_ddu_0 k n x.1 x.2.1 x.2.2.1 x.2.2.2.1 x.2.2.2.2.1 x.2.2.2.2.2) (fun _ => rfl) (stq106 k)
theorem anq2 (k : Nat) : LAll (LOk (R := DS FS.D rsq2) (fun b _ σ K => LOt Ty (kps 203) 2 b σ K [LIq106 k]) cf (call cf k) (cf.keep 203) Tryz.f203.ntmps k shq2.bs.length) 0 (bd Tryz.f203) :=
 qA qT (qA qT (qA (LOt_ok (c := cf) (callF := call cf k) (kp := kps 203) (nt := Tryz.f203.ntmps) (k := k) (p := 2) (b := 0) (x0 := lb Tryz.f203 0) (l := [LIq106 k]) (qA (fun _ => loq106 k) qT)) (qA qT qT)))
theorem stq2 (k : Nat) (x : shq2.D) : Fbig_Gcd_ddu (k + 1) x.1 x.2.1 x.2.2.1 x.2.2.2 = body2 cf (fun f a b K => COt f a b K [Iq30 k, Iq36 k, Iq16 k]) (fun b _ σ K => LOt Ty (kps 203) 2 b σ K [LIq106 k]) 203 Tryz.f203.ntmps Tryz.f203.results.toList (bd Tryz.f203) (shq2.enc x).1 (shq2.enc x).2 (putS FS.dec rsq2) := by kernel_rfl
theorem okq2 : ∀ k, InstOk (call cf k) (Iq2 k)
 | 0 => fun x y e => absurd (show (none : Option _) = some y from e) (by simp)
 | k + 1 => inst_ok (c := cf) (k := k) (f := 203) (fn := Tryz.f203) (body := bd Tryz.f203) (sh := shq2) (os := rsq2) rfl Tryz.func203 rfl ⟨rfl, Nat.le_of_ble_eq_true rfl⟩ (COt_ok (alq2 k)) (anq2 k) (fun x => Fbig_Gcd_ddu (k + 1) x.1 x.2.1 x.2.2.1 x.2.2.2) (stq2 k)

/-! (*shunt/big.Int).QuoRem -/
def bbig_Int_QuoRem_gsh (k : Nat) (z : Bool) (x0 : Bool) (x1 : List Int) (y0 : Bool) (y1 : List Int) (r : Bool) : Option (Bool × List Int × Bool × List Int × Bool × List Int × Bool × List Int) :=
 Option.bind (Fbig_divide k x1 y1) fun r14 =>
 Option.bind (Fbig_Int_set_cvg k x0 r14.2 r) fun r15 =>
 Option.bind (Fbig_Int_set_cvg k (!(x0 == y0)) r14.1 z) fun r16 =>
 (some (r16.1, r16.2, x0, x1, y0, y1, r15.1, r15.2))
def Fbig_Int_QuoRem_gsh : Nat → Bool → Bool → List Int → Bool → List Int → Bool → Option (Bool × List Int × Bool × List Int × Bool × List Int × Bool × List Int)
 | 0, _, _, _, _, _, _ => none
 | k + 1, z, x0, x1, y0, y1, r => bbig_Int_QuoRem_gsh k z x0 x1 y0 y1 r
def shq11 : FS := { vs := [.a (.ptr 0 0 0), .a (.ptr 1 0 0), .a (.ptr 2 0 0), .a (.ptr 3 0 0)], bs := [.raw [[.lf .bool, .snil 1 106]] 2 147 true false false, .raw [[.lf .bool, .lf (.sl (.int .u32))]] 2 147 true false false, .raw [[.lf .bool, .lf (.sl (.int .u32))]] 2 147 true false false, .raw [[.lf .bool, .snil 1 106]] 2 147 true false false] }
def rsq11 : List FS := [{ vs := [.a (.ptr 0 0 0), .a (.ptr 3 0 0)], bs := [.raw [[.lf .bool, .lf (.sl (.int .u32))]] 2 147 true false false, .raw [[.lf .bool, .lf (.sl (.int .u32))]] 2 147 true false false, .raw [[.lf .bool, .lf (.sl (.int .u32))]] 2 147 true false false, .raw [[.lf .bool, .lf (.sl (.int .u32))]] 2 147 true false false] }]
def Iq11 (k : Nat) : Inst := ⟨232, shq11, rsq11, fun x => Fbig_Int_QuoRem_gsh k x.1 x.2.1 x.2.2.1 x.2.2.2.1 x.2.2.2.2.1 x.2.2.2.2.2⟩
theorem alq11 (k : Nat) : AllI (call cf k) [Iq30 k, Iq16 k] := qA (okq30 k) (qA (okq16 k) qT)
theorem anq11 (k : Nat) : LAll (LOk (R := DS FS.D rsq11) (fun b _ σ K => LOt Ty (kps 232) 4 b σ K []) cf (call cf k) (cf.keep 232) Tryz.f232.ntmps k shq11.bs.length) 0 (bd Tryz.f232) :=
 qA qT (qA qT (qA qT (qA qT (qA qT qT))))
theorem stq11 (k : Nat) (x : shq11.D) : Fbig_Int_QuoRem_gsh (k + 1) x.1 x.2.1 x.2.2.1 x.2.2.2.1 x.2.2.2.2.1 x.2.2.2.2.2 = body2 cf (fun f a b K => COt f a b K [Iq30 k, Iq16 k]) (fun b _ σ K => LOt Ty (kps 232) 4 b σ K []) 232 Tryz.f232.ntmps Tryz.f232.results.toList (bd Tryz.f232) (shq11.enc x).1 (shq11.enc x).2 (putS FS.dec rsq11) := by kernel_rfl
theorem okq11 : ∀ k, InstOk (call cf k) (Iq11 k)
 | 0 => fun x y e => absurd (show (none : Option _) = some y from e) (by simp)
 | k + 1 => inst_ok (c := cf) (k := k) (f := 232) (fn := Tryz.f232) (body := bd Tryz.f232) (sh := shq11) (os := rsq11) rfl Tryz.func232 rfl ⟨rfl, Nat.le_of_ble_eq_true rfl⟩ (COt_ok (alq11 k)) (anq11 k) (fun x => Fbig_Int_QuoRem_gsh (k + 1) x.1 x.2.1 x.2.2.1 x.2.2.2.1 x.2.2.2.2.1 x.2.2.2.2.2) (stq11 k)

/-! (*shunt/big.Int).Quo -/
def bbig_Int_Quo_gsh (k : Nat) (z : Bool) (x0 : Bool) (x1 : List Int) (y0 : Bool) (y1 : List Int) : Option (Bool × List Int × Bool × List Int × Bool × List Int) :=
 Option.bind (Fbig_Int_QuoRem_gsh k z x0 x1 y0 y1 false) fun r14 =>
 (some (r14.1, r14.2.1, r14.2.2.1, r14.2.2.2.1, r14.2.2.2.2.1, r14.2.2.2.2.2.1))
def Fbig_Int_Quo_gsh : Nat → Bool → Bool → List Int → Bool → List Int → Option (Bool × List Int × Bool × List Int × Bool × List Int)
 | 0, _, _, _, _, _ => none
 | k + 1, z, x0, x1, y0, y1 => bbig_Int_Quo_gsh k z x0 x1 y0 y1
def shq12 : FS := { vs := [.a (.ptr 0 0 0), .a (.ptr 1 0 0), .a (.ptr 2 0 0)], bs := [.raw [[.lf .bool, .snil 1 106]] 2 147 true false false, .raw [[.lf .bool, .lf (.sl (.int .u32))]] 2 147 true false false, .raw [[.lf .bool, .lf (.sl (.int .u32))]] 2 147 true false false] }
def rsq12 : List FS := [{ vs := [.a (.ptr 0 0 0)], bs := [.raw [[.lf .bool, .lf (.sl (.int .u32))]] 2 147 true false false, .raw [[.lf .bool, .lf (.sl (.int .u32))]] 2 147 true false false, .raw [[.lf .bool, .lf (.sl (.int .u32))]] 2 147 true false false] }]
def Iq12 (k : Nat) : Inst := ⟨204, shq12, rsq12, fun x => Fbig_Int_Quo_gsh k x.1 x.2.1 x.2.2.1 x.2.2.2.1 x.2.2.2.2⟩
theorem alq12 (k : Nat) : AllI (call cf k) [Iq11 k] := qA (okq11 k) qT
theorem anq12 (k : Nat) : LAll (LOk (R := DS FS.D rsq12) (fun b _ σ K => LOt Ty (kps 204) 3 b σ K []) cf (call cf k) (cf.keep 204) Tryz.f204.ntmps k shq12.bs.length) 0 (bd Tryz.f204) :=
 qA qT (qA qT (qA qT qT))
theorem stq12 (k : Nat) (x : shq12.D) : Fbig_Int_Quo_gsh (k + 1) x.1 x.2.1 x.2.2.1 x.2.2.2.1 x.2.2.2.2 = body2 cf (fun f a b K => COt f a b K [Iq11 k]) (fun b _ σ K => LOt Ty (kps 204) 3 b σ K []) 204 Tryz.f204.ntmps Tryz.f204.results.toList (bd Tryz.f204) (shq12.enc x).1 (shq12.enc x).2 (putS FS.dec rsq12) := by kernel_rfl
theorem okq12 : ∀ k, InstOk (call cf k) (Iq12 k)
 | 0 => fun x y e => absurd (show (none : Option _) = some y from e) (by simp)
 | k + 1 => inst_ok (c := cf) (k := k) (f := 204) (fn := Tryz.f204) (body := bd Tryz.f204) (sh := shq12) (os := rsq12) rfl Tryz.func204 rfl ⟨rfl, Nat.le_of_ble_eq_true rfl⟩ (COt_ok (alq12 k)) (anq12 k) (fun x => Fbig_Int_Quo_gsh (k + 1) x.1 x.2.1 x.2.2.1 x.2.2.2.1 x.2.2.2.2) (stq12 k)

/-! (*shunt/big.Rat).frac -/
def bbig_Rat_frac_xda (k : Nat) (z0 : Bool) (z1 : Bool) (n0 : Bool) (n1 : List Int) (d0 : Bool) (d1 : List Int) : Option (Bool × List Int × Bool × List Int × Bool × List Int × Bool × List Int) :=
 Option.bind (Fbig_Gcd_ddu k n0 n1 d0 d1) fun r13 =>
 if (r13.2.2.1 = true) then
 Option.bind (Fbig_Int_Quo_gsh k false r13.1 r13.2.1 true r13.2.2.2.2.2) fun r14 =>
 Option.bind (Fbig_Int_Quo_gsh k false r13.2.2.1 r13.2.2.2.1 r14.2.2.2.2.1 r14.2.2.2.2.2) fun r15 =>
 (some (r14.1, r14.2.1, r15.1, r15.2.1, r14.2.2.1, r14.2.2.2.1, r15.2.2.1, r15.2.2.2.1))
 else
 Option.bind (Fbig_Int_Quo_gsh k false r13.1 r13.2.1 r13.2.2.2.2.1 r13.2.2.2.2.2) fun r14 =>
 Option.bind (Fbig_Int_Quo_gsh k false r13.2.2.1 r13.2.2.2.1 r14.2.2.2.2.1 r14.2.2.2.2.2) fun r15 =>
 (some (r14.1, r14.2.1, r15.1, r15.2.1, r14.2.2.1, r14.2.2.2.1, r15.2.2.1, r15.2.2.2.1))
def Fbig_Rat_frac_xda : Nat → Bool → Bool → Bool → List Int → Bool → List Int → Option (Bool × List Int × Bool × List Int × Bool × List Int × Bool × List Int)
 | 0, _, _, _, _, _, _ => none
 | k + 1, z0, z1, n0, n1, d0, d1 => bbig_Rat_frac_xda k z0 z1 n0 n1 d0 d1
def shq26 : FS := { vs := [.a (.ptr 0 0 0), .a (.ptr 1 0 0), .a (.ptr 2 0 0)], bs := [.raw [[.lf .bool, .snil 1 106, .lf .bool, .snil 1 106]] 4 180 true false false, .raw [[.lf .bool, .lf (.sl (.int .u32))]] 2 147 true false false, .raw [[.lf .bool, .lf (.sl (.int .u32))]] 2 147 true false false] }
def rsq26 : List FS := [{ vs := [.a (.ptr 0 0 0)], bs := [.raw [[.lf .bool, .lf (.sl (.int .u32)), .lf .bool, .lf (.sl (.int .u32))]] 4 180 true false false, .raw [[.lf .bool, .lf (.sl (.int .u32))]] 2 147 true false false, .raw [[.lf .bool, .lf (.sl (.int .u32))]] 2 147 true false false] }]
def Iq26 (k : Nat) : Inst := ⟨144, shq26, rsq26, fun x => Fbig_Rat_frac_xda k x.1 x.2.1 x.2.2.1 x.2.2.2.1 x.2.2.2.2.1 x.2.2.2.2.2⟩
theorem alq26 (k : Nat) : AllI (call cf k) [Iq2 k, Iq12 k] := qA (okq2 k) (qA (okq12 k) qT)
theorem anq26 (k : Nat) : LAll (LOk (R := DS FS.D rsq26) (fun b _ σ K => LOt Ty (kps 144) 3 b σ K []) cf (call cf k) (cf.keep 144) Tryz.f144.ntmps k shq26.bs.length) 0 (bd Tryz.f144) :=
 qA qT (qA qT (qA (qA qT (qA qT qT)) (qA qT (qA qT (qA qT (qA qT (qA qT qT)))))))
theorem stq26 (k : Nat) (x : shq26.D) : Fbig_Rat_frac_xda (k + 1) x.1 x.2.1 x.2.2.1 x.2.2.2.1 x.2.2.2.2.1 x.2.2.2.2.2 = body2 cf (fun f a b K => COt f a b K [Iq2 k, Iq12 k]) (fun b _ σ K => LOt Ty (kps 144) 3 b σ K []) 144 Tryz.f144.ntmps Tryz.f144.results.toList (bd Tryz.f144) (shq26.enc x).1 (shq26.enc x).2 (putS FS.dec rsq26) := by kernel_rfl
theorem okq26 : ∀ k, InstOk (call cf k) (Iq26 k)
 | 0 => fun x y e => absurd (show (none : Option _) = some y from e) (by simp)
 | k + 1 => inst_ok (c := cf) (k := k) (f := 144) (fn := Tryz.f144) (body := bd Tryz.f144) (sh := shq26) (os := rsq26) rfl Tryz.func144 rfl ⟨rfl, Nat.le_of_ble_eq_true rfl⟩ (COt_ok (alq26 k)) (anq26 k) (fun x => Fbig_Rat_frac_xda (k + 1) x.1 x.2.1 x.2.2.1 x.2.2.2.1 x.2.2.2.2.1 x.2.2.2.2.2) (stq26 k)

/-! shunt/big.Frac -/
def bbig_Frac_ddu (k : Nat) (n0 : Bool) (n1 : List Int) (d0 : Bool) (d1 : List Int) : Option (Bool × List Int × Bool × List Int × Bool × List Int × Bool × List Int) :=
 Option.bind (Fbig_Rat_frac_xda k false false n0 n1 d0 d1) fun r13 =>
 (some (r13.2.2.2.2.1, r13.2.2.2.2.2.1, r13.2.2.2.2.2.2.1, r13.2.2.2.2.2.2.2, r13.1, r13.2.1, r13.2.2.1, r13.2.2.2.1))
def Fbig_Frac_ddu : Nat → Bool → List Int → Bool → List Int → Option (Bool × List Int × Bool × List Int × Bool × List Int × Bool × List Int)
 | 0, _, _, _, _ => none
 | k + 1, n0, n1, d0, d1 => bbig_Frac_ddu k n0 n1 d0 d1
def shq0 : FS := { vs := [.a (.ptr 0 0 0), .a (.ptr 1 0 0)], bs := [.raw [[.lf .bool, .lf (.sl (.int .u32))]] 2 147 true false false, .raw [[.lf .bool, .lf (.sl (.int .u32))]] 2 147 true false false] }
def rsq0 : List FS := [{ vs := [.a (.ptr 2 0 0)], bs := [.raw [[.lf .bool, .lf (.sl (.int .u32))]] 2 147 true false false, .raw [[.lf .bool, .lf (.sl (.int .u32))]] 2 147 true false false, .raw [[.lf .bool, .lf (.sl (.int .u32)), .lf .bool, .lf (.sl (.int .u32))]] 4 180 true false false] }]
def Iq0 (k : Nat) : Inst := ⟨89, shq0, rsq0, fun x => Fbig_Frac_ddu k x.1 x.2.1 x.2.2.1 x.2.2.2⟩
theorem alq0 (k : Nat) : AllI (call cf k) [Iq26 k] := qA (okq26 k) qT
theorem anq0 (k : Nat) : LAll (LOk (R := DS FS.D rsq0) (fun b _ σ K => LOt Ty (kps 89) 2 b σ K []) cf (call cf k) (cf.keep 89) Tryz.f89.ntmps k shq0.bs.length) 0 (bd Tryz.f89) :=
 qA qT (qA qT qT)
theorem stq0 (k : Nat) (x : shq0.D) : Fbig_Frac_ddu (k + 1) x.1 x.2.1 x.2.2.1 x.2.2.2 = body2 cf (fun f a b K => COt f a b K [Iq26 k]) (fun b _ σ K => LOt Ty (kps 89) 2 b σ K []) 89 Tryz.f89.ntmps Tryz.f89.results.toList (bd Tryz.f89) (shq0.enc x).1 (shq0.enc x).2 (putS FS.dec rsq0) := by kernel_rfl
theorem okq0 : ∀ k, InstOk (call cf k) (Iq0 k)
 | 0 => fun x y e => absurd (show (none : Option _) = some y from e) (by simp)
 | k + 1 => inst_ok (c := cf) (k := k) (f := 89) (fn := Tryz.f89) (body := bd Tryz.f89) (sh := shq0) (os := rsq0) rfl Tryz.func89 rfl ⟨rfl, Nat.le_of_ble_eq_true rfl⟩ (COt_ok (alq0 k)) (anq0 k) (fun x => Fbig_Frac_ddu (k + 1) x.1 x.2.1 x.2.2.1 x.2.2.2) (stq0 k)

/-! shunt/num.frac -/
def bnum_frac (k : Nat) (n0 : Int) (n1 : Int) : Option (Bool × List Int × Bool × List Int) :=
 Option.bind (Fbig_Ten k (max n1 (IntKind.wrap .i64 ((0 : Int) - n1)))) fun r11 =>
 if ((decide (n1 < (0 : Int))) = true) then
 Option.bind (Fbig_NewInt k n0) fun r12 =>
 Option.bind (Fbig_Frac_ddu k r12.1 r12.2 r11.1 r11.2) fun r13 =>
 (some (r13.2.2.2.2.1, r13.2.2.2.2.2.1, r13.2.2.2.2.2.2.1, r13.2.2.2.2.2.2.2))
 else
 Option.bind (Fbig_NewInt k n0) fun r12 =>
 Option.bind (Fbig_Int_Mul_jod k r11.1 r11.2 r12.1 r12.2) fun r13 =>
 Option.bind (Fbig_NewInt k (1 : Int)) fun r14 =>
 Option.bind (Fbig_Frac_ddu k r13.1 r13.2.1 r14.1 r14.2) fun r15 =>
 (some (r15.2.2.2.2.1, r15.2.2.2.2.2.1, r15.2.2.2.2.2.2.1, r15.2.2.2.2.2.2.2))
def Fnum_frac : Nat → Int → Int → Option (Bool × List Int × Bool × List Int)
 | 0, _, _ => none
 | k + 1, n0, n1 => bnum_frac k n0 n1
def shq58 : FS := { vs := [.g [.lf (.int .i64), .lf (.int .i64)]], bs := [] }
def rsq58 : List FS := [{ vs := [.a (.ptr 0 0 0)], bs := [.raw [[.lf .bool, .lf (.sl (.int .u32)), .lf .bool, .lf (.sl (.int .u32))]] 4 180 true false false] }]
def Iq58 (k : Nat) : Inst := ⟨214, shq58, rsq58, fun x => Fnum_frac k x.1 x.2⟩
theorem alq58 (k : Nat) : AllI (call cf k) [Iq27 k, Iq20 k, Iq0 k, Iq8 k] := qA (okq27 k) (qA (okq20 k) (qA (okq0 k) (qA (okq8 k) qT)))
theorem anq58 (k : Nat) : LAll (LOk (R := DS FS.D rsq58) (fun b _ σ K => LOt Ty (kps 214) 0 b σ K []) cf (call cf k) (cf.keep 214) Tryz.f214.ntmps k shq58.bs.length) 0 (bd Tryz.f214) :=
 qA qT (qA qT (qA (qA qT (qA (qA qT qT) qT)) (qA qT qT)))
theorem stq58 (k : Nat) (x : shq58.D) : Fnum_frac (k + 1) x.1 x.2 = body2 cf (fun f a b K => COt f a b K [Iq27 k, Iq20 k, Iq0 k, Iq8 k]) (fun b _ σ K => LOt Ty (kps 214) 0 b σ K []) 214 Tryz.f214.ntmps Tryz.f214.results.toList (bd Tryz.f214) (shq58.enc x).1 (shq58.enc x).2 (putS FS.dec rsq58) := by kernel_rfl
theorem okq58 : ∀ k, InstOk (call cf k) (Iq58 k)
 | 0 => fun x y e => absurd (show (none : Option _) = some y from e) (by simp)
 | k + 1 => inst_ok (c := cf) (k := k) (f := 214) (fn := Tryz.f214) (body := bd Tryz.f214) (sh := shq58) (os := rsq58) rfl Tryz.func214 rfl ⟨rfl, Nat.le_of_ble_eq_true rfl⟩ (COt_ok (alq58 k)) (anq58 k) (fun x => Fnum_frac (k + 1) x.1 x.2) (stq58 k)

/-! shunt/big.Of -/
def bbig_Of (k : Nat) (neg : Bool) (w : List Int) : Option (Bool × List Int) :=
 if (((0 + (List.length w)) * 4) ≤ 140737488355328) then
 if ((0 + (0 + (List.length w))) ≤ (List.length ((List.take 0 []) ++ w))) then
 Option.bind (Fbig_trim k (List.take (0 + (List.length w)) ((List.take 0 []) ++ w))) fun r13 =>
 if (neg = true) then
 (some ((decide ((((List.length r13) : Nat) : Int) > (0 : Int))), r13))
 else
 (some (false, r13))
 else
 none
 else
 none
def Fbig_Of : Nat → Bool → List Int → Option (Bool × List Int)
 | 0, _, _ => none
 | k + 1, neg, w => bbig_Of k neg w
def shq21 : FS := { vs := [.a (.lf .bool), .a (.lf (.sl (.int .u32)))], bs := [] }
def rsq21 : List FS := [{ vs := [.a (.ptr 0 0 0)], bs := [.raw [[.lf .bool, .lf (.sl (.int .u32))]] 2 147 true false false] }]
def Iq21 (k : Nat) : Inst := ⟨202, shq21, rsq21, fun x => Fbig_Of k x.1 x.2⟩
theorem alq21 (k : Nat) : AllI (call cf k) [Iq36 k] := qA (okq36 k) qT
theorem anq21 (k : Nat) : LAll (LOk (R := DS FS.D rsq21) (fun b _ σ K => LOt Ty (kps 202) 0 b σ K []) cf (call cf k) (cf.keep 202) Tryz.f202.ntmps k shq21.bs.length) 0 (bd Tryz.f202) :=
 qA qT (qA qT (qA qT (qA qT qT)))
theorem stq21 (k : Nat) (x : shq21.D) : Fbig_Of (k + 1) x.1 x.2 = body2 cf (fun f a b K => COt f a b K [Iq36 k]) (fun b _ σ K => LOt Ty (kps 202) 0 b σ K []) 202 Tryz.f202.ntmps Tryz.f202.results.toList (bd Tryz.f202) (shq21.enc x).1 (shq21.enc x).2 (putS FS.dec rsq21) := by kernel_rfl
theorem okq21 : ∀ k, InstOk (call cf k) (Iq21 k)
 | 0 => fun x y e => absurd (show (none : Option _) = some y from e) (by simp)
 | k + 1 => inst_ok (c := cf) (k := k) (f := 202) (fn := Tryz.f202) (body := bd Tryz.f202) (sh := shq21) (os := rsq21) rfl Tryz.func202 rfl ⟨rfl, Nat.le_of_ble_eq_true rfl⟩ (COt_ok (alq21 k)) (anq21 k) (fun x => Fbig_Of (k + 1) x.1 x.2) (stq21 k)

/-! (*shunt/big.Rat).Denom -/
def bbig_Rat_Denom_plq (k : Nat) (z0 : Bool) (z1 : List Int) (z2 : Bool) (z3 : List Int) : Option (Bool × List Int × Bool × List Int × Bool × List Int) :=
 if (((((List.length z3) : Nat) : Int) == (0 : Int)) = true) then
 Option.bind (Fbig_NewInt k (1 : Int)) fun r13 =>
 (some (z0, z1, z2, z3, r13.1, r13.2))
 else
 Option.bind (Fbig_Of k false z3) fun r13 =>
 (some (z0, z1, z2, z3, r13.1, r13.2))
def Fbig_Rat_Denom_plq : Nat → Bool → List Int → Bool → List Int → Option (Bool × List Int × Bool × List Int × Bool × List Int)
 | 0, _, _, _, _ => none
 | k + 1, z0, z1, z2, z3 => bbig_Rat_Denom_plq k z0 z1 z2 z3
def shq23 : FS := { vs := [.a (.ptr 0 0 0)], bs := [.raw [[.lf .bool, .lf (.sl (.int .u32)), .lf .bool, .lf (.sl (.int .u32))]] 4 180 true false false] }
def rsq23 : List FS := [{ vs := [.a (.ptr 1 0 0)], bs := [.raw [[.lf .bool, .lf (.sl (.int .u32)), .lf .bool, .lf (.sl (.int .u32))]] 4 180 true false false, .raw [[.lf .bool, .lf (.sl (.int .u32))]] 2 147 true false false] }]
def Iq23 (k : Nat) : Inst := ⟨143, shq23, rsq23, fun x => Fbig_Rat_Denom_plq k x.1 x.2.1 x.2.2.1 x.2.2.2⟩
theorem alq23 (k : Nat) : AllI (call cf k) [Iq20 k, Iq21 k] := qA (okq20 k) (qA (okq21 k) qT)
theorem anq23 (k : Nat) : LAll (LOk (R := DS FS.D rsq23) (fun b _ σ K => LOt Ty (kps 143) 1 b σ K []) cf (call cf k) (cf.keep 143) Tryz.f143.ntmps k shq23.bs.length) 0 (bd Tryz.f143) :=
 qA qT (qA (qA qT (qA (qA qT qT) qT)) (qA qT qT))
theorem stq23 (k : Nat) (x : shq23.D) : Fbig_Rat_Denom_plq (k + 1) x.1 x.2.1 x.2.2.1 x.2.2.2 = body2 cf (fun f a b K => COt f a b K [Iq20 k, Iq21 k]) (fun b _ σ K => LOt Ty (kps 143) 1 b σ K []) 143 Tryz.f143.ntmps Tryz.f143.results.toList (bd Tryz.f143) (shq23.enc x).1 (shq23.enc x).2 (putS FS.dec rsq23) := by kernel_rfl
theorem okq23 : ∀ k, InstOk (call cf k) (Iq23 k)
 | 0 => fun x y e => absurd (show (none : Option _) = some y from e) (by simp)
 | k + 1 => inst_ok (c := cf) (k := k) (f := 143) (fn := Tryz.f143) (body := bd Tryz.f143) (sh := shq23) (os := rsq23) rfl Tryz.func143 rfl ⟨rfl, Nat.le_of_ble_eq_true rfl⟩ (COt_ok (alq23 k)) (anq23 k) (fun x => Fbig_Rat_Denom_plq (k + 1) x.1 x.2.1 x.2.2.1 x.2.2.2) (stq23 k)

/-! (*shunt/big.Int).Mul -/
def Lbig_Int_Mul_uoe_2s (k : Nat) (rec : Nat → Int → Int → Int → List Int → Int → Int → List Int → Int → Int → Bool → Bool → List Int → Bool → List Int → Bool → List Int → List Int → Option (Nat × Int × Int × List Int × Int × Int × Bool × Bool × List Int × Bool × List Int × Bool × List Int × List Int)) (out1 : Nat) (i : Int) (a : Int) (carry : Int) (x : List Int) (x1 : Int) (x2 : Int) (x3 : List Int) (x4 : Int) (x5 : Int) (z : Bool) (x0 : Bool) (x11 : List Int) (x21 : Bool) (x31 : List Int) (y0 : Bool) (y1 : List Int) (outs : List Int) : Option (Nat × Int × Int × List Int × Int × Int × Bool × Bool × List Int × Bool × List Int × Bool × List Int × List Int) :=
 if ((decide (x5 < x4)) = true) then
 if ((0 : Int) ≤ x5) then
 Option.bind (x3)[(Int.toNat x5)]? fun x7 =>
 if (((0 : Int) ≤ (IntKind.wrap .i64 (i + x5))) ∧ ((IntKind.wrap .i64 (i + x5)) < ((out1 : Nat) : Int))) then
 Option.bind (outs)[(0 + (Int.toNat (IntKind.wrap .i64 (i + x5))))]? fun x8 =>
 if (((0 : Int) ≤ (IntKind.wrap .i64 (i + x5))) ∧ ((IntKind.wrap .i64 (i + x5)) < ((out1 : Nat) : Int))) then
 Option.bind (outs)[(0 + (Int.toNat (IntKind.wrap .i64 (i + x5))))]? fun x9 =>
 rec out1 i a (Int.fdiv (IntKind.wrap .u64 ((IntKind.wrap .u64 ((IntKind.wrap .u64 ((IntKind.wrap .u64 a) * (IntKind.wrap .u64 x7))) + (IntKind.wrap .u64 x8))) + carry)) (4294967296 : Int)) x x1 x2 x3 x4 (IntKind.wrap .i64 (x5 + (1 : Int))) z x0 x11 x21 x31 y0 y1 (List.set outs (0 + (Int.toNat (IntKind.wrap .i64 (i + x5)))) (IntKind.wrap .u32 (IntKind.wrap .u64 ((IntKind.wrap .u64 ((IntKind.wrap .u64 ((IntKind.wrap .u64 a) * (IntKind.wrap .u64 x7))) + (IntKind.wrap .u64 x8))) + carry))))
 else
 none
 else
 none
 else
 none
 else
 (some (out1, i, carry, x, x1, x2, z, x0, x11, x21, x31, y0, y1, outs))
def Lbig_Int_Mul_uoe_2 (k n : Nat) : Nat → Int → Int → Int → List Int → Int → Int → List Int → Int → Int → Bool → Bool → List Int → Bool → List Int → Bool → List Int → List Int → Option (Nat × Int × Int × List Int × Int × Int × Bool × Bool × List Int × Bool × List Int × Bool × List Int × List Int) := Nat.rec (fun _ _ _ _ _ _ _ _ _ _ _ _ _ _ _ _ _ _ => none) (fun _ r => Lbig_Int_Mul_uoe_2s k r) n
def Lbig_Int_Mul_uoe_0s (k : Nat) (rec : Nat → List Int → Int → Int → Bool → Bool → List Int → Bool → List Int → Bool → List Int → List Int → Option (Nat × Bool × Bool × List Int × Bool × List Int × Bool × List Int × List Int)) (out1 : Nat) (x : List Int) (x1 : Int) (x2 : Int) (z : Bool) (x0 : Bool) (x11 : List Int) (x21 : Bool) (x3 : List Int) (y0 : Bool) (y1 : List Int) (outs : List Int) : Option (Nat × Bool × Bool × List Int × Bool × List Int × Bool × List Int × List Int) :=
 if ((decide (x2 < x1)) = true) then
 if ((0 : Int) ≤ x2) then
 Option.bind (x)[(Int.toNat x2)]? fun x6 =>
 Option.bind (Lbig_Int_Mul_uoe_2 k k out1 x2 x6 (0 : Int) x x1 x2 y1 (((List.length y1) : Nat) : Int) (0 : Int) z x0 x11 x21 x3 y0 y1 outs) fun r14 =>
 if (((0 : Int) ≤ (IntKind.wrap .i64 (r14.2.1 + (((List.length r14.2.2.2.2.2.2.2.2.2.2.2.2.1) : Nat) : Int)))) ∧ ((IntKind.wrap .i64 (r14.2.1 + (((List.length r14.2.2.2.2.2.2.2.2.2.2.2.2.1) : Nat) : Int))) < ((r14.1 : Nat) : Int))) then
 Option.bind (r14.2.2.2.2.2.2.2.2.2.2.2.2.2)[(0 + (Int.toNat (IntKind.wrap .i64 (r14.2.1 + (((List.length r14.2.2.2.2.2.2.2.2.2.2.2.2.1) : Nat) : Int)))))]? fun x7 =>
 rec r14.1 r14.2.2.2.1 r14.2.2.2.2.1 (IntKind.wrap .i64 (r14.2.2.2.2.2.1 + (1 : Int))) r14.2.2.2.2.2.2.1 r14.2.2.2.2.2.2.2.1 r14.2.2.2.2.2.2.2.2.1 r14.2.2.2.2.2.2.2.2.2.1 r14.2.2.2.2.2.2.2.2.2.2.1 r14.2.2.2.2.2.2.2.2.2.2.2.1 r14.2.2.2.2.2.2.2.2.2.2.2.2.1 (List.set r14.2.2.2.2.2.2.2.2.2.2.2.2.2 (0 + (Int.toNat (IntKind.wrap .i64 (r14.2.1 + (((List.length r14.2.2.2.2.2.2.2.2.2.2.2.2.1) : Nat) : Int))))) (IntKind.wrap .u32 r14.2.2.1))
 else
 none
 else
 none
 else
 (some (out1, z, x0, x11, x21, x3, y0, y1, outs))
def Lbig_Int_Mul_uoe_0 (k n : Nat) : Nat → List Int → Int → Int → Bool → Bool → List Int → Bool → List Int → Bool → List Int → List Int → Option (Nat × Bool × Bool × List Int × Bool × List Int × Bool × List Int × List Int) := Nat.rec (fun _ _ _ _ _ _ _ _ _ _ _ _ => none) (fun _ r => Lbig_Int_Mul_uoe_0s k r) n
def bbig_Int_Mul_uoe (k : Nat) (z : Bool) (x0 : Bool) (x1 : List Int) (x2 : Bool) (x3 : List Int) (y0 : Bool) (y1 : List Int) : Option (Bool × List Int × Bool × List Int × Bool × List Int × Bool × List Int) :=
 if (((0 : Int) ≤ (IntKind.wrap .i64 ((((List.length x1) : Nat) : Int) + (((List.length y1) : Nat) : Int)))) ∧ (((IntKind.wrap .i64 ((((List.length x1) : Nat) : Int) + (((List.length y1) : Nat) : Int))) ≤ (IntKind.wrap .i64 ((((List.length x1) : Nat) : Int) + (((List.length y1) : Nat) : Int)))) ∧ (((IntKind.wrap .i64 ((((List.length x1) : Nat) : Int) + (((List.length y1) : Nat) : Int))) * (4 : Int)) ≤ (140737488355328 : Int)))) then
 Option.bind (Lbig_Int_Mul_uoe_0 k k (Int.toNat (IntKind.wrap .i64 ((((List.length x1) : Nat) : Int) + (((List.length y1) : Nat) : Int)))) x1 (((List.length x1) : Nat) : Int) (0 : Int) z x0 x1 x2 x3 y0 y1 (List.replicate (Int.toNat (IntKind.wrap .i64 ((((List.length x1) : Nat) : Int) + (((List.length y1) : Nat) : Int)))) (0 : Int))) fun r14 =>
 if ((0 + r14.1) ≤ (List.length r14.2.2.2.2.2.2.2.2)) then
 Option.bind (Fbig_Int_set_cvg k (!(r14.2.2.1 == r14.2.2.2.2.2.2.1)) (List.take r14.1 r14.2.2.2.2.2.2.2.2) r14.2.1) fun r15 =>
 (some (r15.1, r15.2, r14.2.2.1, r14.2.2.2.1, r14.2.2.2.2.1, r14.2.2.2.2.2.1, r14.2.2.2.2.2.2.1, r14.2.2.2.2.2.2.2.1))
 else
 none
 else
 none
def Fbig_Int_Mul_uoe : Nat → Bool → Bool → List Int → Bool → List Int → Bool → List Int → Option (Bool × List Int × Bool × List Int × Bool × List Int × Bool × List Int)
 | 0, _, _, _, _, _, _, _ => none
 | k + 1, z, x0, x1, x2, x3, y0, y1 => bbig_Int_Mul_uoe k z x0 x1 x2 x3 y0 y1
def shq9 : FS := { vs := [.a (.ptr 0 0 0), .a (.ptr 1 0 0), .a (.ptr 2 0 0)], bs := [.raw [[.lf .bool, .snil 1 106]] 2 147 true false false, .raw [[.lf .bool, .lf (.sl (.int .u32)), .lf .bool, .lf (.sl (.int .u32))]] 4 180 true false false, .raw [[.lf .bool, .lf (.sl (.int .u32))]] 2 147 true false false] }
def rsq9 : List FS := [{ vs := [.a (.ptr 0 0 0)], bs := [.raw [[.lf .bool, .lf (.sl (.int .u32))]] 2 147 true false false, .raw [[.lf .bool, .lf (.sl (.int .u32)), .lf .bool, .lf (.sl (.int .u32))]] 4 180 true false false, .raw [[.lf .bool, .lf (.sl (.int .u32))]] 2 147 true false false] }]
def Iq9 (k : Nat) : Inst := ⟨155, shq9, rsq9, fun x => Fbig_Int_Mul_uoe k x.1 x.2.1 x.2.2.1 x.2.2.2.1 x.2.2.2.2.1 x.2.2.2.2.2.1 x.2.2.2.2.2.2⟩
theorem alq9 (k : Nat) : AllI (call cf k) [Iq16 k] := qA (okq16 k) qT
def hsq113 : List SS := [{ fr := [(0, .a (.ptr 0 0 0)), (1, .a (.ptr 1 0 0)), (2, .a (.ptr 2 0 0)), (7, .a (.smz 3)), (8, .a (.lf (.int .i64))), (9, .a (.lf (.int .u32))), (10, .a (.lf (.int .u64))), (29, .a (.lf (.sl (.int .u32)))), (30, .a (.lf (.int .i64))), (31, .a (.lf (.int .i64))), (39, .a (.lf (.sl (.int .u32)))), (40, .a (.lf (.int .i64))), (41, .a (.lf (.int .i64)))], mem := [(0, some (.raw [[.lf .bool, .snil 1 106]] 2 147 true false false)), (1, some (.raw [[.lf .bool, .lf (.sl (.int .u32)), .lf .bool, .lf (.sl (.int .u32))]] 4 180 true false false)), (2, some (.raw [[.lf .bool, .lf (.sl (.int .u32))]] 2 147 true false false)), (3, some (.arr (.int .u32) 1 106 false))], nx := 4 }]
def osq113 : List OS := [⟨some 2, { fr := [(0, .a (.ptr 0 0 0)), (1, .a (.ptr 1 0 0)), (2, .a (.ptr 2 0 0)), (7, .a (.smz 3)), (8, .a (.lf (.int .i64))), (10, .a (.lf (.int .u64))), (29, .a (.lf (.sl (.int .u32)))), (30, .a (.lf (.int .i64))), (31, .a (.lf (.int .i64)))], mem := [(0, some (.raw [[.lf .bool, .snil 1 106]] 2 147 true false false)), (1, some (.raw [[.lf .bool, .lf (.sl (.int .u32)), .lf .bool, .lf (.sl (.int .u32))]] 4 180 true false false)), (2, some (.raw [[.lf .bool, .lf (.sl (.int .u32))]] 2 147 true false false)), (3, some (.arr (.int .u32) 1 106 false))], nx := 4 }⟩]
def LIq113 (k : Nat) : LInst := ⟨2, hsq113, osq113, fun x => Lbig_Int_Mul_uoe_2 k k x.1 x.2.1 x.2.2.1 x.2.2.2.1 x.2.2.2.2.1 x.2.2.2.2.2.1 x.2.2.2.2.2.2.1 x.2.2.2.2.2.2.2.1 x.2.2.2.2.2.2.2.2.1 x.2.2.2.2.2.2.2.2.2.1 x.2.2.2.2.2.2.2.2.2.2.1 x.2.2.2.2.2.2.2.2.2.2.2.1 x.2.2.2.2.2.2.2.2.2.2.2.2.1 x.2.2.2.2.2.2.2.2.2.2.2.2.2.1 x.2.2.2.2.2.2.2.2.2.2.2.2.2.2.1 x.2.2.2.2.2.2.2.2.2.2.2.2.2.2.2.1 x.2.2.2.2.2.2.2.2.2.2.2.2.2.2.2.2.1 x.2.2.2.2.2.2.2.2.2.2.2.2.2.2.2.2.2⟩
theorem anq113 (k : Nat) : LAll (LOk (R := DS OS.D osq113) (fun b _ σ K => LOt Ty (kps 155) 3 b σ K []) cf (call cf k) (kps 155) Tryz.f155.ntmps k 3) 2 (lb Tryz.f155 1) :=
 qA qT (qA (qA qT qT) (qA (qA qT (qA qT (qA qT qT))) qT))
theorem stq113 (k n : Nat) (x : DS SS.D hsq113) : Lbig_Int_Mul_uoe_2 k (n + 1) x.1 x.2.1 x.2.2.1 x.2.2.2.1 x.2.2.2.2.1 x.2.2.2.2.2.1 x.2.2.2.2.2.2.1 x.2.2.2.2.2.2.2.1 x.2.2.2.2.2.2.2.2.1 x.2.2.2.2.2.2.2.2.2.1 x.2.2.2.2.2.2.2.2.2.2.1 x.2.2.2.2.2.2.2.2.2.2.2.1 x.2.2.2.2.2.2.2.2.2.2.2.2.1 x.2.2.2.2.2.2.2.2.2.2.2.2.2.1 x.2.2.2.2.2.2.2.2.2.2.2.2.2.2.1 x.2.2.2.2.2.2.2.2.2.2.2.2.2.2.2.1 x.2.2.2.2.2.2.2.2.2.2.2.2.2.2.2.2.1 x.2.2.2.2.2.2.2.2.2.2.2.2.2.2.2.2.2 = encSK SS.enc (fun σ => run2 cf (fun f a b K => COt f a b K [Iq16 k]) (fun b _ σ K => LOt Ty (kps 155) 3 b σ K []) Tryz.f155.ntmps 2 (lb Tryz.f155 1) σ (nextK Ty (kps 155 2) 3 hsq113 osq113 fun x => Lbig_Int_Mul_uoe_2 k n x.1 x.2.1 x.2.2.1 x.2.2.2.1 x.2.2.2.2.1 x.2.2.2.2.2.1 x.2.2.2.2.2.2.1 x.2.2.2.2.2.2.2.1 x.2.2.2.2.2.2.2.2.1 x.2.2.2.2.2.2.2.2.2.1 x.2.2.2.2.2.2.2.2.2.2.1 x.2.2.2.2.2.2.2.2.2.2.2.1 x.2.2.2.2.2.2.2.2.2.2.2.2.1 x.2.2.2.2.2.2.2.2.2.2.2.2.2.1 x.2.2.2.2.2.2.2.2.2.2.2.2.2.2.1 x.2.2.2.2.2.2.2.2.2.2.2.2.2.2.2.1 x.2.2.2.2.2.2.2.2.2.2.2.2.2.2.2.2.1 x.2.2.2.2.2.2.2.2.2.2.2.2.2.2.2.2.2)) hsq113 x := by kernel_rfl
theorem loq113 (k : Nat) : LIOk cf (call cf k) (kps 155) Tryz.f155.ntmps k 3 2 (lb Tryz.f155 1) (LIq113 k) :=
 loop_ok (c := cf) (callF := call cf k) (kp := kps 155) (nt := Tryz.f155.ntmps) (k := k) (p := 3) (b := 2) (x0 := lb Tryz.f155 1) (hs := hsq113) (os := osq113) (COt_ok (alq9 k)) (anq113 k) (fun n x => Lbig_Int_Mul_uoe_2 k n x.1 x.2.1 x.2.2.1 x.2.2.2.1 x.2.2.2.2.1 x.2.2.2.2.2.1 x.2.2.2.2.2.2.1 x.2.2.2.2.2.2.2.1 x.2.2.2.2.2.2.2.2.1 x.2.2.2.2.2.2.2.2.2.1 x.2.2.2.2.2.2.2.2.2.2.1 x.2.2.2.2.2.2.2.2.2.2.2.1 x.2.2.2.2.2.2.2.2.2.2.2.2.1 x.2.2.2.2.2.2.2.2.2.2.2.2.2.1 x.2.2.2.2.2.2.2.2.2.2.2.2.2.2.1 x.2.2.2.2.2.2.2.2.2.2.2.2.2.2.2.1 x.2.2.2.2.2.2.2.2.2.2.2.2.2.2.2.2.1 x.2.2.2.2.2.2.2.2.2.2.2.2.2.2.2.2.2) (fun _ => rfl) (stq113 k)
def hsq112 : List SS := [{ fr := [(0, .a (.ptr 0 0 0)), (1, .a (.ptr 1 0 0)), (2, .a (.ptr 2 0 0)), (7, .a (.smz 3)), (29, .a (.lf (.sl (.int .u32)))), (30, .a (.lf (.int .i64))), (31, .a (.lf (.int .i64)))], mem := [(0, some (.raw [[.lf .bool, .snil 1 106]] 2 147 true false false)), (1, some (.raw [[.lf .bool, .lf (.sl (.int .u32)), .lf .bool, .lf (.sl (.int .u32))]] 4 180 true false false)), (2, some (.raw [[.lf .bool, .lf (.sl (.int .u32))]] 2 147 true false false)), (3, some (.arr (.int .u32) 1 106 false))], nx := 4 }]
def osq112 : List OS := [⟨some 0, { fr := [(0, .a (.ptr 0 0 0)), (1, .a (.ptr 1 0 0)), (2, .a (.ptr 2 0 0)), (7, .a (.smz 3))], mem := [(0, some (.raw [[.lf .bool, .snil 1 106]] 2 147 true false false)), (1, some (.raw [[.lf .bool, .lf (.sl (.int .u32)), .lf .bool, .lf (.sl (.int .u32))]] 4 180 true false false)), (2, some (.raw [[.lf .bool, .lf (.sl (.int .u32))]] 2 147 true false false)), (3, some (.arr (.int .u32) 1 106 false))], nx := 4 }⟩]
def LIq112 (k : Nat) : LInst := ⟨0, hsq112, osq112, fun x => Lbig_Int_Mul_uoe_0 k k x.1 x.2.1 x.2.2.1 x.2.2.2.1 x.2.2.2.2.1 x.2.2.2.2.2.1 x.2.2.2.2.2.2.1 x.2.2.2.2.2.2.2.1 x.2.2.2.2.2.2.2.2.1 x.2.2.2.2.2.2.2.2.2.1 x.2.2.2.2.2.2.2.2.2.2.1 x.2.2.2.2.2.2.2.2.2.2.2⟩
theorem anq112 (k : Nat) : LAll (LOk (R := DS OS.D osq112) (fun b _ σ K => LOt Ty (kps 155) 3 b σ K [LIq113 k]) cf (call cf k) (kps 155) Tryz.f155.ntmps k 3) 0 (lb Tryz.f155 0) :=
 qA qT (qA (qA qT qT) (qA (qA qT (qA qT (qA (qA qT (LOt_ok (c := cf) (callF := call cf k) (kp := kps 155) (nt := Tryz.f155.ntmps) (k := k) (p := 3) (b := 2) (x0 := lb Tryz.f155 1) (l := [LIq113 k]) (qA (fun _ => loq113 k) qT))) qT))) qT))
theorem stq112 (k n : Nat) (x : DS SS.D hsq112) : Lbig_Int_Mul_uoe_0 k (n + 1) x.1 x.2.1 x.2.2.1 x.2.2.2.1 x.2.2.2.2.1 x.2.2.2.2.2.1 x.2.2.2.2.2.2.1 x.2.2.2.2.2.2.2.1 x.2.2.2.2.2.2.2.2.1 x.2.2.2.2.2.2.2.2.2.1 x.2.2.2.2.2.2.2.2.2.2.1 x.2.2.2.2.2.2.2.2.2.2.2 = encSK SS.enc (fun σ => run2 cf (fun f a b K => COt f a b K [Iq16 k]) (fun b _ σ K => LOt Ty (kps 155) 3 b σ K [LIq113 k]) Tryz.f155.ntmps 0 (lb Tryz.f155 0) σ (nextK Ty (kps 155 0) 3 hsq112 osq112 fun x => Lbig_Int_Mul_uoe_0 k n x.1 x.2.1 x.2.2.1 x.2.2.2.1 x.2.2.2.2.1 x.2.2.2.2.2.1 x.2.2.2.2.2.2.1 x.2.2.2.2.2.2.2.1 x.2.2.2.2.2.2.2.2.1 x.2.2.2.2.2.2.2.2.2.1 x.2.2.2.2.2.2.2.2.2.2.1 x.2.2.2.2.2.2.2.2.2.2.2)) hsq112 x := by kernel_rfl
theorem loq112 (k : Nat) : LIOk cf (call cf k) (kps 155) Tryz.f155.ntmps k 3 0 (lb Tryz.f155 0) (LIq112 k) :=
 loop_ok (c := cf) (callF := call cf k) (kp := kps 155) (nt := Tryz.f155.ntmps) (k := k) (p := 3) (b := 0) (x0 := lb Tryz.f155 0) (hs := hsq112) (os := osq112) (COt_ok (alq9 k)) (anq112 k) (fun n x => Lbig_Int_Mul_uoe_0 k n x.1 x.2.1 x.2.2.1 x.2.2.2.1 x.2.2.2.2.1 x.2.2.2.2.2.1 x.2.2.2.2.2.2.1 x.2.2.2.2.2.2.2.1 x.2.2.2.2.2.2.2.2.1 x.2.2.2.2.2.2.2.2.2.1 x.2.2.2.2.2.2.2.2.2.2.1 x.2.2.2.2.2.2.2.2.2.2.2) (fun _ => rfl) (stq112 k)
theorem anq9 (k : Nat) : LAll (LOk (R := DS FS.D rsq9) (fun b _ σ K => LOt Ty (kps 155) 3 b σ K [LIq113 k, LIq112 k]) cf (call cf k) (cf.keep 155) Tryz.f155.ntmps k shq9.bs.length) 0 (bd Tryz.f155) :=
 qA qT (qA qT (qA (qA qT (LOt_ok (c := cf) (callF := call cf k) (kp := kps 155) (nt := Tryz.f155.ntmps) (k := k) (p := 3) (b := 0) (x0 := lb Tryz.f155 0) (l := [LIq113 k, LIq112 k]) (qA (fun h => absurd (show (2 : Nat) = 0 from h) (by decide)) (qA (fun _ => loq112 k) qT)))) (qA qT qT)))
theorem stq9 (k : Nat) (x : shq9.D) : Fbig_Int_Mul_uoe (k + 1) x.1 x.2.1 x.2.2.1 x.2.2.2.1 x.2.2.2.2.1 x.2.2.2.2.2.1 x.2.2.2.2.2.2 = body2 cf (fun f a b K => COt f a b K [Iq16 k]) (fun b _ σ K => LOt Ty (kps 155) 3 b σ K [LIq113 k, LIq112 k]) 155 Tryz.f155.ntmps Tryz.f155.results.toList (bd Tryz.f155) (shq9.enc x).1 (shq9.enc x).2 (putS FS.dec rsq9) := by kernel_rfl
theorem okq9 : ∀ k, InstOk (call cf k) (Iq9 k)
 | 0 => fun x y e => absurd (show (none : Option _) = some y from e) (by simp)
 | k + 1 => inst_ok (c := cf) (k := k) (f := 155) (fn := Tryz.f155) (body := bd Tryz.f155) (sh := shq9) (os := rsq9) rfl Tryz.func155 rfl ⟨rfl, Nat.le_of_ble_eq_true rfl⟩ (COt_ok (alq9 k)) (anq9 k) (fun x => Fbig_Int_Mul_uoe (k + 1) x.1 x.2.1 x.2.2.1 x.2.2.2.1 x.2.2.2.2.1 x.2.2.2.2.2.1 x.2.2.2.2.2.2) (stq9 k)

/-! (*shunt/big.Int).Cmp -/
def bbig_Int_Cmp_ddu (k : Nat) (z0 : Bool) (z1 : List Int) (y0 : Bool) (y1 : List Int) : Option (Int × Bool × List Int × Bool × List Int) :=
 if ((!(z0 == y0)) = true) then
 if (z0 = true) then
 (some ((-(1 : Int)), z0, z1, y0, y1))
 else
 (some ((1 : Int), z0, z1, y0, y1))
 else
 Option.bind (Fbig_cmp k z1 y1) fun r17 =>
 if (z0 = true) then
 (some ((IntKind.wrap .i64 ((0 : Int) - r17)), z0, z1, y0, y1))
 else
 (some (r17, z0, z1, y0, y1))
def Fbig_Int_Cmp_ddu : Nat → Bool → List Int → Bool → List Int → Option (Int × Bool × List Int × Bool × List Int)
 | 0, _, _, _, _ => none
 | k + 1, z0, z1, y0, y1 => bbig_Int_Cmp_ddu k z0 z1 y0 y1
def shq6 : FS := { vs := [.a (.ptr 0 0 0), .a (.ptr 1 0 0)], bs := [.raw [[.lf .bool, .lf (.sl (.int .u32))]] 2 147 true false false, .raw [[.lf .bool, .lf (.sl (.int .u32))]] 2 147 true false false] }
def rsq6 : List FS := [{ vs := [.a (.lf (.int .i64))], bs := [.raw [[.lf .bool, .lf (.sl (.int .u32))]] 2 147 true false false, .raw [[.lf .bool, .lf (.sl (.int .u32))]] 2 147 true false false] }]
def Iq6 (k : Nat) : Inst := ⟨156, shq6, rsq6, fun x => Fbig_Int_Cmp_ddu k x.1 x.2.1 x.2.2.1 x.2.2.2⟩
theorem alq6 (k : Nat) : AllI (call cf k) [Iq29 k] := qA (okq29 k) qT
theorem anq6 (k : Nat) : LAll (LOk (R := DS FS.D rsq6) (fun b _ σ K => LOt Ty (kps 156) 2 b σ K []) cf (call cf k) (cf.keep 156) Tryz.f156.ntmps k shq6.bs.length) 0 (bd Tryz.f156) :=
 qA qT (qA (qA qT (qA (qA (qA qT (qA (qA qT qT) qT)) (qA qT qT)) qT)) (qA qT (qA (qA qT (qA (qA qT qT) qT)) (qA qT qT))))
theorem stq6 (k : Nat) (x : shq6.D) : Fbig_Int_Cmp_ddu (k + 1) x.1 x.2.1 x.2.2.1 x.2.2.2 = body2 cf (fun f a b K => COt f a b K [Iq29 k]) (fun b _ σ K => LOt Ty (kps 156) 2 b σ K []) 156 Tryz.f156.ntmps Tryz.f156.results.toList (bd Tryz.f156) (shq6.enc x).1 (shq6.enc x).2 (putS FS.dec rsq6) := by kernel_rfl
theorem okq6 : ∀ k, InstOk (call cf k) (Iq6 k)
 | 0 => fun x y e => absurd (show (none : Option _) = some y from e) (by simp)
 | k + 1 => inst_ok (c := cf) (k := k) (f := 156) (fn := Tryz.f156) (body := bd Tryz.f156) (sh := shq6) (os := rsq6) rfl Tryz.func156 rfl ⟨rfl, Nat.le_of_ble_eq_true rfl⟩ (COt_ok (alq6 k)) (anq6 k) (fun x => Fbig_Int_Cmp_ddu (k + 1) x.1 x.2.1 x.2.2.1 x.2.2.2) (stq6 k)

/-! (*shunt/big.Rat).Cmp -/
def bbig_Rat_Cmp_jyb (k : Nat) (z0 : Bool) (z1 : List Int) (z2 : Bool) (z3 : List Int) (y0 : Bool) (y1 : List Int) (y2 : Bool) (y3 : List Int) : Option (Int × Bool × List Int × Bool × List Int × Bool × List Int × Bool × List Int) :=
 Option.bind (Fbig_Rat_Denom_plq k y0 y1 y2 y3) fun r13 =>
 Option.bind (Fbig_Int_Mul_uoe k false z0 z1 z2 z3 r13.2.2.2.2.1 r13.2.2.2.2.2) fun r14 =>
 Option.bind (Fbig_Rat_Denom_plq k r14.2.2.1 r14.2.2.2.1 r14.2.2.2.2.1 r14.2.2.2.2.2.1) fun r15 =>
 Option.bind (Fbig_Int_Mul_uoe k false r13.1 r13.2.1 r13.2.2.1 r13.2.2.2.1 r15.2.2.2.2.1 r15.2.2.2.2.2) fun r16 =>
 Option.bind (Fbig_Int_Cmp_ddu k r14.1 r14.2.1 r16.1 r16.2.1) fun r17 =>
 (some (r17.1, r15.1, r15.2.1, r15.2.2.1, r15.2.2.2.1, r16.2.2.1, r16.2.2.2.1, r16.2.2.2.2.1, r16.2.2.2.2.2.1))
def Fbig_Rat_Cmp_jyb : Nat → Bool → List Int → Bool → List Int → Bool → List Int → Bool → List Int → Option (Int × Bool × List Int × Bool × List Int × Bool × List Int × Bool × List Int)
 | 0, _, _, _, _, _, _, _, _ => none
 | k + 1, z0, z1, z2, z3, y0, y1, y2, y3 => bbig_Rat_Cmp_jyb k z0 z1 z2 z3 y0 y1 y2 y3
def shq22 : FS := { vs := [.a (.ptr 0 0 0), .a (.ptr 1 0 0)], bs := [.raw [[.lf .bool, .lf (.sl (.int .u32)), .lf .bool, .lf (.sl (.int .u32))]] 4 180 true false false, .raw [[.lf .bool, .lf (.sl (.int .u32)), .lf .bool, .lf (.sl (.int .u32))]] 4 180 true false false] }
def rsq22 : List FS := [{ vs := [.a (.lf (.int .i64))], bs := [.raw [[.lf .bool, .lf (.sl (.int .u32)), .lf .bool, .lf (.sl (.int .u32))]] 4 180 true false false, .raw [[.lf .bool, .lf (.sl (.int .u32)), .lf .bool, .lf (.sl (.int .u32))]] 4 180 true false false] }]
def Iq22 (k : Nat) : Inst := ⟨100, shq22, rsq22, fun x => Fbig_Rat_Cmp_jyb k x.1 x.2.1 x.2.2.1 x.2.2.2.1 x.2.2.2.2.1 x.2.2.2.2.2.1 x.2.2.2.2.2.2.1 x.2.2.2.2.2.2.2⟩
theorem alq22 (k : Nat) : AllI (call cf k) [Iq23 k, Iq9 k, Iq6 k] := qA (okq23 k) (qA (okq9 k) (qA (okq6 k) qT))
theorem anq22 (k : Nat) : LAll (LOk (R := DS FS.D rsq22) (fun b _ σ K => LOt Ty (kps 100) 2 b σ K []) cf (call cf k) (cf.keep 100) Tryz.f100.ntmps k shq22.bs.length) 0 (bd Tryz.f100) :=
 qA qT (qA qT (qA qT (qA qT (qA qT qT))))
theorem stq22 (k : Nat) (x : shq22.D) : Fbig_Rat_Cmp_jyb (k + 1) x.1 x.2.1 x.2.2.1 x.2.2.2.1 x.2.2.2.2.1 x.2.2.2.2.2.1 x.2.2.2.2.2.2.1 x.2.2.2.2.2.2.2 = body2 cf (fun f a b K => COt f a b K [Iq23 k, Iq9 k, Iq6 k]) (fun b _ σ K => LOt Ty (kps 100) 2 b σ K []) 100 Tryz.f100.ntmps Tryz.f100.results.toList (bd Tryz.f100) (shq22.enc x).1 (shq22.enc x).2 (putS FS.dec rsq22) := by kernel_rfl
theorem okq22 : ∀ k, InstOk (call cf k) (Iq22 k)
 | 0 => fun x y e => absurd (show (none : Option _) = some y from e) (by simp)
 | k + 1 => inst_ok (c := cf) (k := k) (f := 100) (fn := Tryz.f100) (body := bd Tryz.f100) (sh := shq22) (os := rsq22) rfl Tryz.func100 rfl ⟨rfl, Nat.le_of_ble_eq_true rfl⟩ (COt_ok (alq22 k)) (anq22 k) (fun x => Fbig_Rat_Cmp_jyb (k + 1) x.1 x.2.1 x.2.2.1 x.2.2.2.1 x.2.2.2.2.1 x.2.2.2.2.2.1 x.2.2.2.2.2.2.1 x.2.2.2.2.2.2.2) (stq22 k)

/-! shunt/num.Cmp -/
def bnum_Cmp (k : Nat) (a0 : Int) (a1 : Int) (b0 : Int) (b1 : Int) : Option (Int × Int) :=
 Option.bind (Fnum_Valid k a0 a1) fun r9 =>
 if ((!r9) = false) then
 Option.bind (Fnum_Valid k b0 b1) fun r10 =>
 if ((!r10) = true) then
 (some ((0 : Int), (30 : Int)))
 else
 Option.bind (Fnum_frac k a0 a1) fun r11 =>
 Option.bind (Fnum_frac k b0 b1) fun r12 =>
 Option.bind (Fbig_Rat_Cmp_jyb k r11.1 r11.2.1 r11.2.2.1 r11.2.2.2 r12.1 r12.2.1 r12.2.2.1 r12.2.2.2) fun r13 =>
 (some (r13.1, (0 : Int)))
 else
 (some ((0 : Int), (30 : Int)))
def Fnum_Cmp : Nat → Int → Int → Int → Int → Option (Int × Int)
 | 0, _, _, _, _ => none
 | k + 1, a0, a1, b0, b1 => bnum_Cmp k a0 a1 b0 b1
def shq56 : FS := { vs := [.g [.lf (.int .i64), .lf (.int .i64)], .g [.lf (.int .i64), .lf (.int .i64)]], bs := [] }
def rsq56 : List FS := [{ vs := [.a (.lf (.int .i64)), .a (.lf (.int .i64))], bs := [] }]
def Iq56 (k : Nat) : Inst := ⟨227, shq56, rsq56, fun x => Fnum_Cmp k x.1 x.2.1 x.2.2.1 x.2.2.2⟩
theorem alq56 (k : Nat) : AllI (call cf k) [Iq57 k, Iq58 k, Iq22 k] := qA (okq57 k) (qA (okq58 k) (qA (okq22 k) qT))
theorem anq56 (k : Nat) : LAll (LOk (R := DS FS.D rsq56) (fun b _ σ K => LOt Ty (kps 227) 0 b σ K []) cf (call cf k) (cf.keep 227) Tryz.f227.ntmps k shq56.bs.length) 0 (bd Tryz.f227) :=
 qA qT (qA (qA qT (qA (qA qT qT) qT)) (qA qT qT))
theorem stq56 (k : Nat) (x : shq56.D) : Fnum_Cmp (k + 1) x.1 x.2.1 x.2.2.1 x.2.2.2 = body2 cf (fun f a b K => COt f a b K [Iq57 k, Iq58 k, Iq22 k]) (fun b _ σ K => LOt Ty (kps 227) 0 b σ K []) 227 Tryz.f227.ntmps Tryz.f227.results.toList (bd Tryz.f227) (shq56.enc x).1 (shq56.enc x).2 (putS FS.dec rsq56) := by kernel_rfl
theorem okq56 : ∀ k, InstOk (call cf k) (Iq56 k)
 | 0 => fun x y e => absurd (show (none : Option _) = some y from e) (by simp)
 | k + 1 => inst_ok (c := cf) (k := k) (f := 227) (fn := Tryz.f227) (body := bd Tryz.f227) (sh := shq56) (os := rsq56) rfl Tryz.func227 rfl ⟨rfl, Nat.le_of_ble_eq_true rfl⟩ (COt_ok (alq56 k)) (anq56 k) (fun x => Fnum_Cmp (k + 1) x.1 x.2.1 x.2.2.1 x.2.2.2) (stq56 k)


end
end Go.Proofs.YtlnailgfialgnaaGreatDoor.Am
