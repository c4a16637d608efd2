/- Printed functions: each says what the typed machine says of the program -/
import Derived.Test.YtbhnafdmilfobaaMA3
import Derived.KernelRfl

set_option linter.unusedVariables false
set_option maxRecDepth 100000
namespace Go.Proofs.Ytbhnafdmilfobaa.Am
theorem qT : True := True.intro
theorem qA {a b : Prop} (h : a) (k : b) : a ∧ b := And.intro h k
open Go
noncomputable section

/-! shunt/num.Valid -/
def bnum_Valid (k : Nat) (n0 : Int) (n1 : Int) : Option (Bool) :=
 if ((n0 == (0 : Int)) = true) then
 (some (n1 == (0 : Int)))
 else
 if ((decide (n0 ≥ (-(999999999 : Int)))) = true) then
 if ((decide (n0 ≤ (999999999 : Int))) = true) then
 if (((Int.tmod n0 (10 : Int)) != (0 : Int)) = true) then
 if ((decide (n1 ≥ (-(18 : Int)))) = true) then
 (some (decide (n1 ≤ (9 : Int))))
 else
 (some false)
 else
 (some false)
 else
 (some false)
 else
 (some false)
def Fnum_Valid : Nat → Int → Int → Option (Bool)
 | 0, _, _ => none
 | k + 1, n0, n1 => bnum_Valid k n0 n1
def shq60 : FS := { vs := [.g [.lf (.int .i64), .lf (.int .i64)]], bs := [] }
def rsq60 : List FS := [{ vs := [.a (.lf .bool)], bs := [] }]
def Iq60 (k : Nat) : Inst := ⟨58, shq60, rsq60, fun x => Fnum_Valid k x.1 x.2⟩
theorem alq60 (k : Nat) : AllI (call cf k) [] := True.intro
theorem anq60 (k : Nat) : LAll (LOk (R := DS FS.D rsq60) (fun b _ σ K => LOt Ty (kps 58) 0 b σ K []) cf (call cf k) (cf.keep 58) Try.f58.ntmps k shq60.bs.length) 0 (bd Try.f58) :=
 qA qT (qA (qA qT (qA (qA qT qT) qT)) (qA qT qT))
theorem stq60 (k : Nat) (x : shq60.D) : Fnum_Valid (k + 1) x.1 x.2 = body2 cf (fun f a b K => COt f a b K []) (fun b _ σ K => LOt Ty (kps 58) 0 b σ K []) 58 Try.f58.ntmps Try.f58.results.toList (bd Try.f58) (shq60.enc x).1 (shq60.enc x).2 (putS FS.dec rsq60) := by kernel_rfl
theorem okq60 : ∀ k, InstOk (call cf k) (Iq60 k)
 | 0 => fun x y e => absurd (show (none : Option _) = some y from e) (by simp)
 | k + 1 => inst_ok (c := cf) (k := k) (f := 58) (fn := Try.f58) (body := bd Try.f58) (sh := shq60) (os := rsq60) rfl Try.func58 rfl ⟨rfl, Nat.le_of_ble_eq_true rfl⟩ (COt_ok (alq60 k)) (anq60 k) (fun x => Fnum_Valid (k + 1) x.1 x.2) (stq60 k)

/-! shunt/big.trim -/
def Lbig_trim_0s (k : Nat) (rec : List Int → Int → Option (List Int × Int)) (w : List Int) (n : Int) : Option (List Int × Int) :=
 if ((decide (n > (0 : Int))) = true) then
 if ((0 : Int) ≤ (IntKind.wrap .i64 (n - (1 : Int)))) then
 Option.bind (w)[(Int.toNat (IntKind.wrap .i64 (n - (1 : Int))))]? fun x1 =>
 if ((x1 == (0 : Int)) = true) then
 rec w (IntKind.wrap .i64 (n - (1 : Int)))
 else
 (some (w, n))
 else
 none
 else
 (some (w, n))
def Lbig_trim_0 (k n : Nat) : List Int → Int → Option (List Int × Int) := Nat.rec (fun _ _ => none) (fun _ r => Lbig_trim_0s k r) n
def bbig_trim (k : Nat) (w : List Int) : Option (List Int) :=
 Option.bind (Lbig_trim_0 k k w (((List.length w) : Nat) : Int)) fun r2 =>
 if (((0 : Int) ≤ (0 : Int)) ∧ (((0 : Int) ≤ r2.2) ∧ (r2.2 ≤ (((List.length r2.1) : Nat) : Int)))) then
 (some (List.take (Int.toNat r2.2) r2.1))
 else
 none
def Fbig_trim : Nat → List Int → Option (List Int)
 | 0, _ => none
 | k + 1, w => bbig_trim k w
def shq44 : FS := { vs := [.a (.lf (.sl (.int .u32)))], bs := [] }
def rsq44 : List FS := [{ vs := [.a (.lf (.sl (.int .u32)))], bs := [] }]
def Iq44 (k : Nat) : Inst := ⟨102, shq44, rsq44, fun x => Fbig_trim k x⟩
theorem alq44 (k : Nat) : AllI (call cf k) [] := True.intro
def hsq132 : List SS := [{ fr := [(0, .a (.lf (.sl (.int .u32)))), (3, .a (.lf (.int .i64)))], mem := [], nx := 0 }]
def osq132 : List OS := [⟨some 0, { fr := [(0, .a (.lf (.sl (.int .u32)))), (3, .a (.lf (.int .i64)))], mem := [], nx := 0 }⟩]
def LIq132 (k : Nat) : LInst := ⟨0, hsq132, osq132, fun x => Lbig_trim_0 k k x.1 x.2⟩
theorem anq132 (k : Nat) : LAll (LOk (R := DS OS.D osq132) (fun b _ σ K => LOt Ty (kps 102) 0 b σ K []) cf (call cf k) (kps 102) Try.f102.ntmps k 0) 0 (lb Try.f102 0) :=
 qA (qA qT (qA qT qT)) qT
theorem stq132 (k n : Nat) (x : DS SS.D hsq132) : Lbig_trim_0 k (n + 1) x.1 x.2 = encSK SS.enc (fun σ => run2 cf (fun f a b K => COt f a b K []) (fun b _ σ K => LOt Ty (kps 102) 0 b σ K []) Try.f102.ntmps 0 (lb Try.f102 0) σ (nextK Ty (kps 102 0) 0 hsq132 osq132 fun x => Lbig_trim_0 k n x.1 x.2)) hsq132 x := by kernel_rfl
theorem loq132 (k : Nat) : LIOk cf (call cf k) (kps 102) Try.f102.ntmps k 0 0 (lb Try.f102 0) (LIq132 k) :=
 loop_ok (c := cf) (callF := call cf k) (kp := kps 102) (nt := Try.f102.ntmps) (k := k) (p := 0) (b := 0) (x0 := lb Try.f102 0) (hs := hsq132) (os := osq132) (COt_ok (alq44 k)) (anq132 k) (fun n x => Lbig_trim_0 k n x.1 x.2) (fun _ => rfl) (stq132 k)
theorem anq44 (k : Nat) : LAll (LOk (R := DS FS.D rsq44) (fun b _ σ K => LOt Ty (kps 102) 0 b σ K [LIq132 k]) cf (call cf k) (cf.keep 102) Try.f102.ntmps k shq44.bs.length) 0 (bd Try.f102) :=
 qA qT (qA qT (qA (LOt_ok (c := cf) (callF := call cf k) (kp := kps 102) (nt := Try.f102.ntmps) (k := k) (p := 0) (b := 0) (x0 := lb Try.f102 0) (l := [LIq132 k]) (qA (fun _ => loq132 k) qT)) (qA qT qT)))
theorem stq44 (k : Nat) (x : shq44.D) : Fbig_trim (k + 1) x = body2 cf (fun f a b K => COt f a b K []) (fun b _ σ K => LOt Ty (kps 102) 0 b σ K [LIq132 k]) 102 Try.f102.ntmps Try.f102.results.toList (bd Try.f102) (shq44.enc x).1 (shq44.enc x).2 (putS FS.dec rsq44) := by kernel_rfl
theorem okq44 : ∀ k, InstOk (call cf k) (Iq44 k)
 | 0 => fun x y e => absurd (show (none : Option _) = some y from e) (by simp)
 | k + 1 => inst_ok (c := cf) (k := k) (f := 102) (fn := Try.f102) (body := bd Try.f102) (sh := shq44) (os := rsq44) rfl Try.func102 rfl ⟨rfl, Nat.le_of_ble_eq_true rfl⟩ (COt_ok (alq44 k)) (anq44 k) (fun x => Fbig_trim (k + 1) x) (stq44 k)

/-! shunt/big.NewInt -/
def bbig_NewInt (k : Nat) (v : Int) : Option (Bool × List Int) :=
 if ((decide (v < (0 : Int))) = true) then
 Option.bind (Fbig_trim k (List.take 2 ((IntKind.wrap .u32 (IntKind.wrap .u64 ((0 : Int) - (IntKind.wrap .u64 v)))) :: ((IntKind.wrap .u32 (Int.fdiv (IntKind.wrap .u64 ((0 : Int) - (IntKind.wrap .u64 v))) (4294967296 : Int))) :: [])))) fun r2 =>
 (some ((decide (v < (0 : Int))), r2))
 else
 Option.bind (Fbig_trim k (List.take 2 ((IntKind.wrap .u32 (IntKind.wrap .u64 v)) :: ((IntKind.wrap .u32 (Int.fdiv (IntKind.wrap .u64 v) (4294967296 : Int))) :: [])))) fun r2 =>
 (some ((decide (v < (0 : Int))), r2))
def Fbig_NewInt : Nat → Int → Option (Bool × List Int)
 | 0, _ => none
 | k + 1, v => bbig_NewInt k v
def shq18 : FS := { vs := [.a (.lf (.int .i64))], bs := [] }
def rsq18 : List FS := [{ vs := [.a (.ptr 0 0 0)], bs := [.raw [[.lf .bool, .lf (.sl (.int .u32))]] 2 98 true false] }]
def Iq18 (k : Nat) : Inst := ⟨75, shq18, rsq18, fun x => Fbig_NewInt k x⟩
theorem alq18 (k : Nat) : AllI (call cf k) [Iq44 k] := qA (okq44 k) qT
theorem anq18 (k : Nat) : LAll (LOk (R := DS FS.D rsq18) (fun b _ σ K => LOt Ty (kps 75) 0 b σ K []) cf (call cf k) (cf.keep 75) Try.f75.ntmps k shq18.bs.length) 0 (bd Try.f75) :=
 qA qT (qA qT (qA (qA qT (qA qT qT)) (qA qT qT)))
theorem stq18 (k : Nat) (x : shq18.D) : Fbig_NewInt (k + 1) x = body2 cf (fun f a b K => COt f a b K [Iq44 k]) (fun b _ σ K => LOt Ty (kps 75) 0 b σ K []) 75 Try.f75.ntmps Try.f75.results.toList (bd Try.f75) (shq18.enc x).1 (shq18.enc x).2 (putS FS.dec rsq18) := by kernel_rfl
theorem okq18 : ∀ k, InstOk (call cf k) (Iq18 k)
 | 0 => fun x y e => absurd (show (none : Option _) = some y from e) (by simp)
 | k + 1 => inst_ok (c := cf) (k := k) (f := 75) (fn := Try.f75) (body := bd Try.f75) (sh := shq18) (os := rsq18) rfl Try.func75 rfl ⟨rfl, Nat.le_of_ble_eq_true rfl⟩ (COt_ok (alq18 k)) (anq18 k) (fun x => Fbig_NewInt (k + 1) x) (stq18 k)

/-! (*shunt/big.Int).set -/
def bbig_Int_set_paj (k : Nat) (neg : Bool) (w : List Int) (z0 : Bool) (z1 : List Int) : Option (Bool × List Int) :=
 Option.bind (Fbig_trim k w) fun r5 =>
 if (neg = true) then
 (some ((decide ((((List.length r5) : Nat) : Int) > (0 : Int))), r5))
 else
 (some (false, r5))
def Fbig_Int_set_paj : Nat → Bool → List Int → Bool → List Int → Option (Bool × List Int)
 | 0, _, _, _, _ => none
 | k + 1, neg, w, z0, z1 => bbig_Int_set_paj k neg w z0 z1
def shq16 : FS := { vs := [.a (.ptr 0 0 0), .a (.lf .bool), .a (.lf (.sl (.int .u32)))], bs := [.raw [[.lf .bool, .lf (.sl (.int .u32))]] 2 98 true false] }
def rsq16 : List FS := [{ vs := [.a (.ptr 0 0 0)], bs := [.raw [[.lf .bool, .lf (.sl (.int .u32))]] 2 98 true false] }]
def Iq16 (k : Nat) : Inst := ⟨110, shq16, rsq16, fun x => Fbig_Int_set_paj k x.1 x.2.1 x.2.2.1 x.2.2.2⟩
theorem alq16 (k : Nat) : AllI (call cf k) [Iq44 k] := qA (okq44 k) qT
theorem anq16 (k : Nat) : LAll (LOk (R := DS FS.D rsq16) (fun b _ σ K => LOt Ty (kps 110) 1 b σ K []) cf (call cf k) (cf.keep 110) Try.f110.ntmps k shq16.bs.length) 0 (bd Try.f110) :=
 qA qT (qA qT (qA qT (qA qT qT)))
theorem stq16 (k : Nat) (x : shq16.D) : Fbig_Int_set_paj (k + 1) x.1 x.2.1 x.2.2.1 x.2.2.2 = body2 cf (fun f a b K => COt f a b K [Iq44 k]) (fun b _ σ K => LOt Ty (kps 110) 1 b σ K []) 110 Try.f110.ntmps Try.f110.results.toList (bd Try.f110) (shq16.enc x).1 (shq16.enc x).2 (putS FS.dec rsq16) := by kernel_rfl
theorem okq16 : ∀ k, InstOk (call cf k) (Iq16 k)
 | 0 => fun x y e => absurd (show (none : Option _) = some y from e) (by simp)
 | k + 1 => inst_ok (c := cf) (k := k) (f := 110) (fn := Try.f110) (body := bd Try.f110) (sh := shq16) (os := rsq16) rfl Try.func110 rfl ⟨rfl, Nat.le_of_ble_eq_true rfl⟩ (COt_ok (alq16 k)) (anq16 k) (fun x => Fbig_Int_set_paj (k + 1) x.1 x.2.1 x.2.2.1 x.2.2.2) (stq16 k)

/-! (*shunt/big.Int).Mul -/
def Lbig_Int_Mul_jod_2s (k : Nat) (rec : Nat → Int → Int → Int → List Int → Int → Int → List Int → Int → Int → Bool → List Int → Bool → List Int → List Int → Option (Nat × Int × Int × List Int × Int × Int × Bool × List Int × Bool × List Int × List Int)) (out1 : Nat) (i : Int) (a : Int) (carry : Int) (x : List Int) (x1 : Int) (x2 : Int) (x3 : List Int) (x4 : Int) (x5 : Int) (x0 : Bool) (x11 : List Int) (y0 : Bool) (y1 : List Int) (outs : List Int) : Option (Nat × Int × Int × List Int × Int × Int × Bool × List Int × Bool × List Int × List Int) :=
 if ((decide (x5 < x4)) = true) then
 if ((0 : Int) ≤ x5) then
 Option.bind (x3)[(Int.toNat x5)]? fun x6 =>
 if (((0 : Int) ≤ (IntKind.wrap .i64 (i + x5))) ∧ ((IntKind.wrap .i64 (i + x5)) < ((out1 : Nat) : Int))) then
 Option.bind (outs)[(0 + (Int.toNat (IntKind.wrap .i64 (i + x5))))]? fun x7 =>
 if (((0 : Int) ≤ (IntKind.wrap .i64 (i + x5))) ∧ ((IntKind.wrap .i64 (i + x5)) < ((out1 : Nat) : Int))) then
 Option.bind (outs)[(0 + (Int.toNat (IntKind.wrap .i64 (i + x5))))]? fun x8 =>
 rec out1 i a (Int.fdiv (IntKind.wrap .u64 ((IntKind.wrap .u64 ((IntKind.wrap .u64 ((IntKind.wrap .u64 a) * (IntKind.wrap .u64 x6))) + (IntKind.wrap .u64 x7))) + carry)) (4294967296 : Int)) x x1 x2 x3 x4 (IntKind.wrap .i64 (x5 + (1 : Int))) x0 x11 y0 y1 (List.set outs (0 + (Int.toNat (IntKind.wrap .i64 (i + x5)))) (IntKind.wrap .u32 (IntKind.wrap .u64 ((IntKind.wrap .u64 ((IntKind.wrap .u64 ((IntKind.wrap .u64 a) * (IntKind.wrap .u64 x6))) + (IntKind.wrap .u64 x7))) + carry))))
 else
 none
 else
 none
 else
 none
 else
 (some (out1, i, carry, x, x1, x2, x0, x11, y0, y1, outs))
def Lbig_Int_Mul_jod_2 (k n : Nat) : Nat → Int → Int → Int → List Int → Int → Int → List Int → Int → Int → Bool → List Int → Bool → List Int → List Int → Option (Nat × Int × Int × List Int × Int × Int × Bool × List Int × Bool × List Int × List Int) := Nat.rec (fun _ _ _ _ _ _ _ _ _ _ _ _ _ _ _ => none) (fun _ r => Lbig_Int_Mul_jod_2s k r) n
def Lbig_Int_Mul_jod_0s (k : Nat) (rec : Nat → List Int → Int → Int → Bool → List Int → Bool → List Int → List Int → Option (Nat × Bool × List Int × Bool × List Int × List Int)) (out1 : Nat) (x : List Int) (x1 : Int) (x2 : Int) (x0 : Bool) (x11 : List Int) (y0 : Bool) (y1 : List Int) (outs : List Int) : Option (Nat × Bool × List Int × Bool × List Int × List Int) :=
 if ((decide (x2 < x1)) = true) then
 if ((0 : Int) ≤ x2) then
 Option.bind (x)[(Int.toNat x2)]? fun x3 =>
 Option.bind (Lbig_Int_Mul_jod_2 k k out1 x2 x3 (0 : Int) x x1 x2 y1 (((List.length y1) : Nat) : Int) (0 : Int) x0 x11 y0 y1 outs) fun r4 =>
 if (((0 : Int) ≤ (IntKind.wrap .i64 (r4.2.1 + (((List.length r4.2.2.2.2.2.2.2.2.2.1) : Nat) : Int)))) ∧ ((IntKind.wrap .i64 (r4.2.1 + (((List.length r4.2.2.2.2.2.2.2.2.2.1) : Nat) : Int))) < ((r4.1 : Nat) : Int))) then
 Option.bind (r4.2.2.2.2.2.2.2.2.2.2)[(0 + (Int.toNat (IntKind.wrap .i64 (r4.2.1 + (((List.length r4.2.2.2.2.2.2.2.2.2.1) : Nat) : Int)))))]? fun x4 =>
 rec r4.1 r4.2.2.2.1 r4.2.2.2.2.1 (IntKind.wrap .i64 (r4.2.2.2.2.2.1 + (1 : Int))) r4.2.2.2.2.2.2.1 r4.2.2.2.2.2.2.2.1 r4.2.2.2.2.2.2.2.2.1 r4.2.2.2.2.2.2.2.2.2.1 (List.set r4.2.2.2.2.2.2.2.2.2.2 (0 + (Int.toNat (IntKind.wrap .i64 (r4.2.1 + (((List.length r4.2.2.2.2.2.2.2.2.2.1) : Nat) : Int))))) (IntKind.wrap .u32 r4.2.2.1))
 else
 none
 else
 none
 else
 (some (out1, x0, x11, y0, y1, outs))
def Lbig_Int_Mul_jod_0 (k n : Nat) : Nat → List Int → Int → Int → Bool → List Int → Bool → List Int → List Int → Option (Nat × Bool × List Int × Bool × List Int × List Int) := Nat.rec (fun _ _ _ _ _ _ _ _ _ => none) (fun _ r => Lbig_Int_Mul_jod_0s k r) n
def bbig_Int_Mul_jod (k : Nat) (x0 : Bool) (x1 : List Int) (y0 : Bool) (y1 : List Int) : Option (Bool × List Int × Bool × List Int) :=
 if (((0 : Int) ≤ (IntKind.wrap .i64 ((((List.length x1) : Nat) : Int) + (((List.length y1) : Nat) : Int)))) ∧ (((IntKind.wrap .i64 ((((List.length x1) : Nat) : Int) + (((List.length y1) : Nat) : Int))) ≤ (IntKind.wrap .i64 ((((List.length x1) : Nat) : Int) + (((List.length y1) : Nat) : Int)))) ∧ (((IntKind.wrap .i64 ((((List.length x1) : Nat) : Int) + (((List.length y1) : Nat) : Int))) * (4 : Int)) ≤ (140737488355328 : Int)))) then
 Option.bind (Lbig_Int_Mul_jod_0 k k (Int.toNat (IntKind.wrap .i64 ((((List.length x1) : Nat) : Int) + (((List.length y1) : Nat) : Int)))) x1 (((List.length x1) : Nat) : Int) (0 : Int) x0 x1 y0 y1 (List.replicate (Int.toNat (IntKind.wrap .i64 ((((List.length x1) : Nat) : Int) + (((List.length y1) : Nat) : Int)))) (0 : Int))) fun r4 =>
 if ((0 + r4.1) ≤ (List.length r4.2.2.2.2.2)) then
 Option.bind (Fbig_Int_set_paj k (!(r4.2.1 == r4.2.2.2.1)) (List.take r4.1 r4.2.2.2.2.2) r4.2.1 r4.2.2.1) fun r5 =>
 (some (r5.1, r5.2, r4.2.2.2.1, r4.2.2.2.2.1))
 else
 none
 else
 none
def Fbig_Int_Mul_jod : Nat → Bool → List Int → Bool → List Int → Option (Bool × List Int × Bool × List Int)
 | 0, _, _, _, _ => none
 | k + 1, x0, x1, y0, y1 => bbig_Int_Mul_jod k x0 x1 y0 y1
def shq5 : FS := { vs := [.a (.ptr 0 0 0), .a (.ptr 0 0 0), .a (.ptr 1 0 0)], bs := [.raw [[.lf .bool, .lf (.sl (.int .u32))]] 2 98 true false, .raw [[.lf .bool, .lf (.sl (.int .u32))]] 2 98 true false] }
def rsq5 : List FS := [{ vs := [.a (.ptr 0 0 0)], bs := [.raw [[.lf .bool, .lf (.sl (.int .u32))]] 2 98 true false, .raw [[.lf .bool, .lf (.sl (.int .u32))]] 2 98 true false] }]
def Iq5 (k : Nat) : Inst := ⟨84, shq5, rsq5, fun x => Fbig_Int_Mul_jod k x.1 x.2.1 x.2.2.1 x.2.2.2⟩
theorem alq5 (k : Nat) : AllI (call cf k) [Iq16 k] := qA (okq16 k) qT
def hsq110 : List SS := [{ fr := [(0, .a (.ptr 0 0 0)), (1, .a (.ptr 0 0 0)), (2, .a (.ptr 1 0 0)), (7, .a (.smz 2)), (8, .a (.lf (.int .i64))), (9, .a (.lf (.int .u32))), (10, .a (.lf (.int .u64))), (29, .a (.lf (.sl (.int .u32)))), (30, .a (.lf (.int .i64))), (31, .a (.lf (.int .i64))), (39, .a (.lf (.sl (.int .u32)))), (40, .a (.lf (.int .i64))), (41, .a (.lf (.int .i64)))], mem := [(0, some (.raw [[.lf .bool, .lf (.sl (.int .u32))]] 2 98 true false)), (1, some (.raw [[.lf .bool, .lf (.sl (.int .u32))]] 2 98 true false)), (2, some (.arr (.int .u32) 1 72 false))], nx := 3 }]
def osq110 : List OS := [⟨some 2, { fr := [(0, .a (.ptr 0 0 0)), (1, .a (.ptr 0 0 0)), (2, .a (.ptr 1 0 0)), (7, .a (.smz 2)), (8, .a (.lf (.int .i64))), (10, .a (.lf (.int .u64))), (29, .a (.lf (.sl (.int .u32)))), (30, .a (.lf (.int .i64))), (31, .a (.lf (.int .i64)))], mem := [(0, some (.raw [[.lf .bool, .lf (.sl (.int .u32))]] 2 98 true false)), (1, some (.raw [[.lf .bool, .lf (.sl (.int .u32))]] 2 98 true false)), (2, some (.arr (.int .u32) 1 72 false))], nx := 3 }⟩]
def LIq110 (k : Nat) : LInst := ⟨2, hsq110, osq110, fun x => Lbig_Int_Mul_jod_2 k k x.1 x.2.1 x.2.2.1 x.2.2.2.1 x.2.2.2.2.1 x.2.2.2.2.2.1 x.2.2.2.2.2.2.1 x.2.2.2.2.2.2.2.1 x.2.2.2.2.2.2.2.2.1 x.2.2.2.2.2.2.2.2.2.1 x.2.2.2.2.2.2.2.2.2.2.1 x.2.2.2.2.2.2.2.2.2.2.2.1 x.2.2.2.2.2.2.2.2.2.2.2.2.1 x.2.2.2.2.2.2.2.2.2.2.2.2.2.1 x.2.2.2.2.2.2.2.2.2.2.2.2.2.2⟩
theorem anq110 (k : Nat) : LAll (LOk (R := DS OS.D osq110) (fun b _ σ K => LOt Ty (kps 84) 2 b σ K []) cf (call cf k) (kps 84) Try.f84.ntmps k 2) 2 (lb Try.f84 1) :=
 qA qT (qA (qA qT qT) (qA (qA qT (qA qT (qA qT qT))) qT))
theorem stq110 (k n : Nat) (x : DS SS.D hsq110) : Lbig_Int_Mul_jod_2 k (n + 1) x.1 x.2.1 x.2.2.1 x.2.2.2.1 x.2.2.2.2.1 x.2.2.2.2.2.1 x.2.2.2.2.2.2.1 x.2.2.2.2.2.2.2.1 x.2.2.2.2.2.2.2.2.1 x.2.2.2.2.2.2.2.2.2.1 x.2.2.2.2.2.2.2.2.2.2.1 x.2.2.2.2.2.2.2.2.2.2.2.1 x.2.2.2.2.2.2.2.2.2.2.2.2.1 x.2.2.2.2.2.2.2.2.2.2.2.2.2.1 x.2.2.2.2.2.2.2.2.2.2.2.2.2.2 = encSK SS.enc (fun σ => run2 cf (fun f a b K => COt f a b K [Iq16 k]) (fun b _ σ K => LOt Ty (kps 84) 2 b σ K []) Try.f84.ntmps 2 (lb Try.f84 1) σ (nextK Ty (kps 84 2) 2 hsq110 osq110 fun x => Lbig_Int_Mul_jod_2 k n x.1 x.2.1 x.2.2.1 x.2.2.2.1 x.2.2.2.2.1 x.2.2.2.2.2.1 x.2.2.2.2.2.2.1 x.2.2.2.2.2.2.2.1 x.2.2.2.2.2.2.2.2.1 x.2.2.2.2.2.2.2.2.2.1 x.2.2.2.2.2.2.2.2.2.2.1 x.2.2.2.2.2.2.2.2.2.2.2.1 x.2.2.2.2.2.2.2.2.2.2.2.2.1 x.2.2.2.2.2.2.2.2.2.2.2.2.2.1 x.2.2.2.2.2.2.2.2.2.2.2.2.2.2)) hsq110 x := by kernel_rfl
theorem loq110 (k : Nat) : LIOk cf (call cf k) (kps 84) Try.f84.ntmps k 2 2 (lb Try.f84 1) (LIq110 k) :=
 loop_ok (c := cf) (callF := call cf k) (kp := kps 84) (nt := Try.f84.ntmps) (k := k) (p := 2) (b := 2) (x0 := lb Try.f84 1) (hs := hsq110) (os := osq110) (COt_ok (alq5 k)) (anq110 k) (fun n x => Lbig_Int_Mul_jod_2 k n x.1 x.2.1 x.2.2.1 x.2.2.2.1 x.2.2.2.2.1 x.2.2.2.2.2.1 x.2.2.2.2.2.2.1 x.2.2.2.2.2.2.2.1 x.2.2.2.2.2.2.2.2.1 x.2.2.2.2.2.2.2.2.2.1 x.2.2.2.2.2.2.2.2.2.2.1 x.2.2.2.2.2.2.2.2.2.2.2.1 x.2.2.2.2.2.2.2.2.2.2.2.2.1 x.2.2.2.2.2.2.2.2.2.2.2.2.2.1 x.2.2.2.2.2.2.2.2.2.2.2.2.2.2) (fun _ => rfl) (stq110 k)
def hsq109 : List SS := [{ fr := [(0, .a (.ptr 0 0 0)), (1, .a (.ptr 0 0 0)), (2, .a (.ptr 1 0 0)), (7, .a (.smz 2)), (29, .a (.lf (.sl (.int .u32)))), (30, .a (.lf (.int .i64))), (31, .a (.lf (.int .i64)))], mem := [(0, some (.raw [[.lf .bool, .lf (.sl (.int .u32))]] 2 98 true false)), (1, some (.raw [[.lf .bool, .lf (.sl (.int .u32))]] 2 98 true false)), (2, some (.arr (.int .u32) 1 72 false))], nx := 3 }]
def osq109 : List OS := [⟨some 0, { fr := [(0, .a (.ptr 0 0 0)), (1, .a (.ptr 0 0 0)), (2, .a (.ptr 1 0 0)), (7, .a (.smz 2))], mem := [(0, some (.raw [[.lf .bool, .lf (.sl (.int .u32))]] 2 98 true false)), (1, some (.raw [[.lf .bool, .lf (.sl (.int .u32))]] 2 98 true false)), (2, some (.arr (.int .u32) 1 72 false))], nx := 3 }⟩]
def LIq109 (k : Nat) : LInst := ⟨0, hsq109, osq109, fun x => Lbig_Int_Mul_jod_0 k k x.1 x.2.1 x.2.2.1 x.2.2.2.1 x.2.2.2.2.1 x.2.2.2.2.2.1 x.2.2.2.2.2.2.1 x.2.2.2.2.2.2.2.1 x.2.2.2.2.2.2.2.2⟩
theorem anq109 (k : Nat) : LAll (LOk (R := DS OS.D osq109) (fun b _ σ K => LOt Ty (kps 84) 2 b σ K [LIq110 k]) cf (call cf k) (kps 84) Try.f84.ntmps k 2) 0 (lb Try.f84 0) :=
 qA qT (qA (qA qT qT) (qA (qA qT (qA qT (qA (qA qT (LOt_ok (c := cf) (callF := call cf k) (kp := kps 84) (nt := Try.f84.ntmps) (k := k) (p := 2) (b := 2) (x0 := lb Try.f84 1) (l := [LIq110 k]) (qA (fun _ => loq110 k) qT))) qT))) qT))
theorem stq109 (k n : Nat) (x : DS SS.D hsq109) : Lbig_Int_Mul_jod_0 k (n + 1) x.1 x.2.1 x.2.2.1 x.2.2.2.1 x.2.2.2.2.1 x.2.2.2.2.2.1 x.2.2.2.2.2.2.1 x.2.2.2.2.2.2.2.1 x.2.2.2.2.2.2.2.2 = encSK SS.enc (fun σ => run2 cf (fun f a b K => COt f a b K [Iq16 k]) (fun b _ σ K => LOt Ty (kps 84) 2 b σ K [LIq110 k]) Try.f84.ntmps 0 (lb Try.f84 0) σ (nextK Ty (kps 84 0) 2 hsq109 osq109 fun x => Lbig_Int_Mul_jod_0 k n x.1 x.2.1 x.2.2.1 x.2.2.2.1 x.2.2.2.2.1 x.2.2.2.2.2.1 x.2.2.2.2.2.2.1 x.2.2.2.2.2.2.2.1 x.2.2.2.2.2.2.2.2)) hsq109 x := by kernel_rfl
theorem loq109 (k : Nat) : LIOk cf (call cf k) (kps 84) Try.f84.ntmps k 2 0 (lb Try.f84 0) (LIq109 k) :=
 loop_ok (c := cf) (callF := call cf k) (kp := kps 84) (nt := Try.f84.ntmps) (k := k) (p := 2) (b := 0) (x0 := lb Try.f84 0) (hs := hsq109) (os := osq109) (COt_ok (alq5 k)) (anq109 k) (fun n x => Lbig_Int_Mul_jod_0 k n x.1 x.2.1 x.2.2.1 x.2.2.2.1 x.2.2.2.2.1 x.2.2.2.2.2.1 x.2.2.2.2.2.2.1 x.2.2.2.2.2.2.2.1 x.2.2.2.2.2.2.2.2) (fun _ => rfl) (stq109 k)
theorem anq5 (k : Nat) : LAll (LOk (R := DS FS.D rsq5) (fun b _ σ K => LOt Ty (kps 84) 2 b σ K [LIq110 k, LIq109 k]) cf (call cf k) (cf.keep 84) Try.f84.ntmps k shq5.bs.length) 0 (bd Try.f84) :=
 qA qT (qA qT (qA (qA qT (LOt_ok (c := cf) (callF := call cf k) (kp := kps 84) (nt := Try.f84.ntmps) (k := k) (p := 2) (b := 0) (x0 := lb Try.f84 0) (l := [LIq110 k, LIq109 k]) (qA (fun h => absurd (show (2 : Nat) = 0 from h) (by decide)) (qA (fun _ => loq109 k) qT)))) (qA qT qT)))
theorem stq5 (k : Nat) (x : shq5.D) : Fbig_Int_Mul_jod (k + 1) x.1 x.2.1 x.2.2.1 x.2.2.2 = body2 cf (fun f a b K => COt f a b K [Iq16 k]) (fun b _ σ K => LOt Ty (kps 84) 2 b σ K [LIq110 k, LIq109 k]) 84 Try.f84.ntmps Try.f84.results.toList (bd Try.f84) (shq5.enc x).1 (shq5.enc x).2 (putS FS.dec rsq5) := by kernel_rfl
theorem okq5 : ∀ k, InstOk (call cf k) (Iq5 k)
 | 0 => fun x y e => absurd (show (none : Option _) = some y from e) (by simp)
 | k + 1 => inst_ok (c := cf) (k := k) (f := 84) (fn := Try.f84) (body := bd Try.f84) (sh := shq5) (os := rsq5) rfl Try.func84 rfl ⟨rfl, Nat.le_of_ble_eq_true rfl⟩ (COt_ok (alq5 k)) (anq5 k) (fun x => Fbig_Int_Mul_jod (k + 1) x.1 x.2.1 x.2.2.1 x.2.2.2) (stq5 k)

/-! shunt/big.Ten -/
def Lbig_Ten_0s (k : Nat) (rec : Int → Int → Bool → List Int → Bool → List Int → Option (Bool × List Int × Bool × List Int)) (x : Int) (x1 : Int) (z0 : Bool) (z1 : List Int) (ten0 : Bool) (ten1 : List Int) : Option (Bool × List Int × Bool × List Int) :=
 if ((decide (x1 < x)) = true) then
 Option.bind (Fbig_Int_Mul_jod k z0 z1 ten0 ten1) fun r4 =>
 rec x (IntKind.wrap .i64 (x1 + (1 : Int))) r4.1 r4.2.1 r4.2.2.1 r4.2.2.2
 else
 (some (z0, z1, ten0, ten1))
def Lbig_Ten_0 (k n : Nat) : Int → Int → Bool → List Int → Bool → List Int → Option (Bool × List Int × Bool × List Int) := Nat.rec (fun _ _ _ _ _ _ => none) (fun _ r => Lbig_Ten_0s k r) n
def bbig_Ten (k : Nat) (k1 : Int) : Option (Bool × List Int) :=
 Option.bind (Fbig_NewInt k (1 : Int)) fun r2 =>
 Option.bind (Fbig_NewInt k (10 : Int)) fun r3 =>
 Option.bind (Lbig_Ten_0 k k k1 (0 : Int) r2.1 r2.2 r3.1 r3.2) fun r4 =>
 (some (r4.1, r4.2.1))
def Fbig_Ten : Nat → Int → Option (Bool × List Int)
 | 0, _ => none
 | k + 1, k1 => bbig_Ten k k1
def shq35 : FS := { vs := [.a (.lf (.int .i64))], bs := [] }
def rsq35 : List FS := [{ vs := [.a (.ptr 0 0 0)], bs := [.raw [[.lf .bool, .lf (.sl (.int .u32))]] 2 98 true false] }]
def Iq35 (k : Nat) : Inst := ⟨92, shq35, rsq35, fun x => Fbig_Ten k x⟩
theorem alq35 (k : Nat) : AllI (call cf k) [Iq18 k, Iq5 k] := qA (okq18 k) (qA (okq5 k) qT)
def hsq120 : List SS := [{ fr := [(3, .a (.ptr 0 0 0)), (4, .a (.ptr 1 0 0)), (7, .a (.lf (.int .i64))), (8, .a (.lf (.int .i64)))], mem := [(0, some (.raw [[.lf .bool, .lf (.sl (.int .u32))]] 2 98 true false)), (1, some (.raw [[.lf .bool, .lf (.sl (.int .u32))]] 2 98 true false))], nx := 2 }]
def osq120 : List OS := [⟨some 0, { fr := [(3, .a (.ptr 0 0 0))], mem := [(0, some (.raw [[.lf .bool, .lf (.sl (.int .u32))]] 2 98 true false)), (1, some (.raw [[.lf .bool, .lf (.sl (.int .u32))]] 2 98 true false))], nx := 2 }⟩]
def LIq120 (k : Nat) : LInst := ⟨0, hsq120, osq120, fun x => Lbig_Ten_0 k k x.1 x.2.1 x.2.2.1 x.2.2.2.1 x.2.2.2.2.1 x.2.2.2.2.2⟩
theorem anq120 (k : Nat) : LAll (LOk (R := DS OS.D osq120) (fun b _ σ K => LOt Ty (kps 92) 0 b σ K []) cf (call cf k) (kps 92) Try.f92.ntmps k 0) 0 (lb Try.f92 0) :=
 qA qT (qA (qA qT qT) (qA qT qT))
theorem stq120 (k n : Nat) (x : DS SS.D hsq120) : Lbig_Ten_0 k (n + 1) x.1 x.2.1 x.2.2.1 x.2.2.2.1 x.2.2.2.2.1 x.2.2.2.2.2 = encSK SS.enc (fun σ => run2 cf (fun f a b K => COt f a b K [Iq18 k, Iq5 k]) (fun b _ σ K => LOt Ty (kps 92) 0 b σ K []) Try.f92.ntmps 0 (lb Try.f92 0) σ (nextK Ty (kps 92 0) 0 hsq120 osq120 fun x => Lbig_Ten_0 k n x.1 x.2.1 x.2.2.1 x.2.2.2.1 x.2.2.2.2.1 x.2.2.2.2.2)) hsq120 x := by kernel_rfl
theorem loq120 (k : Nat) : LIOk cf (call cf k) (kps 92) Try.f92.ntmps k 0 0 (lb Try.f92 0) (LIq120 k) :=
 loop_ok (c := cf) (callF := call cf k) (kp := kps 92) (nt := Try.f92.ntmps) (k := k) (p := 0) (b := 0) (x0 := lb Try.f92 0) (hs := hsq120) (os := osq120) (COt_ok (alq35 k)) (anq120 k) (fun n x => Lbig_Ten_0 k n x.1 x.2.1 x.2.2.1 x.2.2.2.1 x.2.2.2.2.1 x.2.2.2.2.2) (fun _ => rfl) (stq120 k)
theorem anq35 (k : Nat) : LAll (LOk (R := DS FS.D rsq35) (fun b _ σ K => LOt Ty (kps 92) 0 b σ K [LIq120 k]) cf (call cf k) (cf.keep 92) Try.f92.ntmps k shq35.bs.length) 0 (bd Try.f92) :=
 qA qT (qA qT (qA (qA qT (LOt_ok (c := cf) (callF := call cf k) (kp := kps 92) (nt := Try.f92.ntmps) (k := k) (p := 0) (b := 0) (x0 := lb Try.f92 0) (l := [LIq120 k]) (qA (fun _ => loq120 k) qT))) (qA qT qT)))
theorem stq35 (k : Nat) (x : shq35.D) : Fbig_Ten (k + 1) x = body2 cf (fun f a b K => COt f a b K [Iq18 k, Iq5 k]) (fun b _ σ K => LOt Ty (kps 92) 0 b σ K [LIq120 k]) 92 Try.f92.ntmps Try.f92.results.toList (bd Try.f92) (shq35.enc x).1 (shq35.enc x).2 (putS FS.dec rsq35) := by kernel_rfl
theorem okq35 : ∀ k, InstOk (call cf k) (Iq35 k)
 | 0 => fun x y e => absurd (show (none : Option _) = some y from e) (by simp)
 | k + 1 => inst_ok (c := cf) (k := k) (f := 92) (fn := Try.f92) (body := bd Try.f92) (sh := shq35) (os := rsq35) rfl Try.func92 rfl ⟨rfl, Nat.le_of_ble_eq_true rfl⟩ (COt_ok (alq35 k)) (anq35 k) (fun x => Fbig_Ten (k + 1) x) (stq35 k)

/-! shunt/big.cmp -/
def Lbig_cmp_0s (k : Nat) (rec : List Int → List Int → Int → Option ((Int) ⊕ (Unit))) (a : List Int) (b : List Int) (i : Int) : Option ((Int) ⊕ (Unit)) :=
 if ((decide (i ≥ (0 : Int))) = true) then
 if ((0 : Int) ≤ i) then
 Option.bind (a)[(Int.toNat i)]? fun x2 =>
 if ((0 : Int) ≤ i) then
 Option.bind (b)[(Int.toNat i)]? fun x3 =>
 if ((x2 != x3) = true) then
 if ((0 : Int) ≤ i) then
 Option.bind (a)[(Int.toNat i)]? fun x4 =>
 if ((0 : Int) ≤ i) then
 Option.bind (b)[(Int.toNat i)]? fun x5 =>
 if ((decide (x4 < x5)) = true) then
 (some (Sum.inl (-(1 : Int))))
 else
 (some (Sum.inl (1 : Int)))
 else
 none
 else
 none
 else
 rec a b (IntKind.wrap .i64 (i - (1 : Int)))
 else
 none
 else
 none
 else
 (some (Sum.inr ()))
def Lbig_cmp_0 (k n : Nat) : List Int → List Int → Int → Option ((Int) ⊕ (Unit)) := Nat.rec (fun _ _ _ => none) (fun _ r => Lbig_cmp_0s k r) n
def bbig_cmp (k : Nat) (a : List Int) (b : List Int) : Option (Int) :=
 if (((((List.length a) : Nat) : Int) != (((List.length b) : Nat) : Int)) = true) then
 if ((decide ((((List.length a) : Nat) : Int) < (((List.length b) : Nat) : Int))) = true) then
 (some (-(1 : Int)))
 else
 (some (1 : Int))
 else
 Option.bind (Lbig_cmp_0 k k a b (IntKind.wrap .i64 ((((List.length a) : Nat) : Int) - (1 : Int)))) fun r4 =>
 eitherK r4
 (fun r4 =>
 (some r4))
 (fun r4 =>
 (some (0 : Int)))
def Fbig_cmp : Nat → List Int → List Int → Option (Int)
 | 0, _, _ => none
 | k + 1, a, b => bbig_cmp k a b
def shq37 : FS := { vs := [.a (.lf (.sl (.int .u32))), .a (.lf (.sl (.int .u32)))], bs := [] }
def rsq37 : List FS := [{ vs := [.a (.lf (.int .i64))], bs := [] }]
def Iq37 (k : Nat) : Inst := ⟨111, shq37, rsq37, fun x => Fbig_cmp k x.1 x.2⟩
theorem alq37 (k : Nat) : AllI (call cf k) [] := True.intro
def hsq122 : List SS := [{ fr := [(0, .a (.lf (.sl (.int .u32)))), (1, .a (.lf (.sl (.int .u32)))), (5, .a (.lf (.int .i64)))], mem := [], nx := 0 }]
def osq122 : List OS := [⟨none, { fr := [(4, .a (.lf (.int .i64)))], mem := [], nx := 0 }⟩, ⟨some 0, { fr := [], mem := [], nx := 0 }⟩]
def LIq122 (k : Nat) : LInst := ⟨0, hsq122, osq122, fun x => Lbig_cmp_0 k k x.1 x.2.1 x.2.2⟩
theorem anq122 (k : Nat) : LAll (LOk (R := DS OS.D osq122) (fun b _ σ K => LOt Ty (kps 111) 0 b σ K []) cf (call cf k) (kps 111) Try.f111.ntmps k 0) 0 (lb Try.f111 0) :=
 qA (qA qT (qA qT qT)) (qA (qA qT (qA (qA (qA qT (qA (qA qT qT) qT)) (qA qT qT)) qT)) qT)
theorem stq122 (k n : Nat) (x : DS SS.D hsq122) : Lbig_cmp_0 k (n + 1) x.1 x.2.1 x.2.2 = encSK SS.enc (fun σ => run2 cf (fun f a b K => COt f a b K []) (fun b _ σ K => LOt Ty (kps 111) 0 b σ K []) Try.f111.ntmps 0 (lb Try.f111 0) σ (nextK Ty (kps 111 0) 0 hsq122 osq122 fun x => Lbig_cmp_0 k n x.1 x.2.1 x.2.2)) hsq122 x := by kernel_rfl
theorem loq122 (k : Nat) : LIOk cf (call cf k) (kps 111) Try.f111.ntmps k 0 0 (lb Try.f111 0) (LIq122 k) :=
 loop_ok (c := cf) (callF := call cf k) (kp := kps 111) (nt := Try.f111.ntmps) (k := k) (p := 0) (b := 0) (x0 := lb Try.f111 0) (hs := hsq122) (os := osq122) (COt_ok (alq37 k)) (anq122 k) (fun n x => Lbig_cmp_0 k n x.1 x.2.1 x.2.2) (fun _ => rfl) (stq122 k)
theorem anq37 (k : Nat) : LAll (LOk (R := DS FS.D rsq37) (fun b _ σ K => LOt Ty (kps 111) 0 b σ K [LIq122 k]) cf (call cf k) (cf.keep 111) Try.f111.ntmps k shq37.bs.length) 0 (bd Try.f111) :=
 qA qT (qA (qA qT (qA (qA (qA qT (qA (qA qT qT) qT)) (qA qT qT)) qT)) (qA (qA qT (LOt_ok (c := cf) (callF := call cf k) (kp := kps 111) (nt := Try.f111.ntmps) (k := k) (p := 0) (b := 0) (x0 := lb Try.f111 0) (l := [LIq122 k]) (qA (fun _ => loq122 k) qT))) (qA qT qT)))
theorem stq37 (k : Nat) (x : shq37.D) : Fbig_cmp (k + 1) x.1 x.2 = body2 cf (fun f a b K => COt f a b K []) (fun b _ σ K => LOt Ty (kps 111) 0 b σ K [LIq122 k]) 111 Try.f111.ntmps Try.f111.results.toList (bd Try.f111) (shq37.enc x).1 (shq37.enc x).2 (putS FS.dec rsq37) := by kernel_rfl
theorem okq37 : ∀ k, InstOk (call cf k) (Iq37 k)
 | 0 => fun x y e => absurd (show (none : Option _) = some y from e) (by simp)
 | k + 1 => inst_ok (c := cf) (k := k) (f := 111) (fn := Try.f111) (body := bd Try.f111) (sh := shq37) (os := rsq37) rfl Try.func111 rfl ⟨rfl, Nat.le_of_ble_eq_true rfl⟩ (COt_ok (alq37 k)) (anq37 k) (fun x => Fbig_cmp (k + 1) x.1 x.2) (stq37 k)

/-! shunt/big.short -/
def Lbig_short_0s (k : Nat) (rec : List Int → Int → Nat → Int → Int → List Int → Option (Nat × Int × List Int)) (a : List Int) (d : Int) (q : Nat) (r : Int) (i : Int) (qs : List Int) : Option (Nat × Int × List Int) :=
 if ((decide (i ≥ (0 : Int))) = true) then
 if ((0 : Int) ≤ i) then
 Option.bind (a)[(Int.toNat i)]? fun x3 =>
 if ((IntKind.wrap .u64 d) = (0 : Int)) then
 none
 else
 if (((0 : Int) ≤ i) ∧ (i < ((q : Nat) : Int))) then
 Option.bind (qs)[(0 + (Int.toNat i))]? fun x4 =>
 if ((IntKind.wrap .u64 d) = (0 : Int)) then
 none
 else
 rec a d q (Int.tmod (IntKind.wrap .u64 (((BitVec.toNat ((BitVec.ofInt 64 (IntKind.wrap .u64 (r * (4294967296 : Int)))) ||| (BitVec.ofInt 64 (IntKind.wrap .u64 x3)))) : Nat) : Int)) (IntKind.wrap .u64 d)) (IntKind.wrap .i64 (i - (1 : Int))) (List.set qs (0 + (Int.toNat i)) (IntKind.wrap .u32 (IntKind.wrap .u64 (Int.tdiv (IntKind.wrap .u64 (((BitVec.toNat ((BitVec.ofInt 64 (IntKind.wrap .u64 (r * (4294967296 : Int)))) ||| (BitVec.ofInt 64 (IntKind.wrap .u64 x3)))) : Nat) : Int)) (IntKind.wrap .u64 d)))))
 else
 none
 else
 none
 else
 (some (q, r, qs))
def Lbig_short_0 (k n : Nat) : List Int → Int → Nat → Int → Int → List Int → Option (Nat × Int × List Int) := Nat.rec (fun _ _ _ _ _ _ => none) (fun _ r => Lbig_short_0s k r) n
def bbig_short (k : Nat) (a : List Int) (d : Int) : Option (List Int × Int) :=
 if (((0 : Int) ≤ (((List.length a) : Nat) : Int)) ∧ (((((List.length a) : Nat) : Int) ≤ (((List.length a) : Nat) : Int)) ∧ (((((List.length a) : Nat) : Int) * (4 : Int)) ≤ (140737488355328 : Int)))) then
 Option.bind (Lbig_short_0 k k a d (Int.toNat (((List.length a) : Nat) : Int)) (0 : Int) (IntKind.wrap .i64 ((((List.length a) : Nat) : Int) - (1 : Int))) (List.replicate (Int.toNat (((List.length a) : Nat) : Int)) (0 : Int))) fun r5 =>
 if ((0 + r5.1) ≤ (List.length r5.2.2)) then
 (some ((List.take r5.1 r5.2.2), (IntKind.wrap .u32 r5.2.1)))
 else
 none
 else
 none
def Fbig_short : Nat → List Int → Int → Option (List Int × Int)
 | 0, _, _ => none
 | k + 1, a, d => bbig_short k a d
def shq41 : FS := { vs := [.a (.lf (.sl (.int .u32))), .a (.lf (.int .u32))], bs := [] }
def rsq41 : List FS := [{ vs := [.a (.lf (.sl (.int .u32))), .a (.lf (.int .u32))], bs := [] }]
def Iq41 (k : Nat) : Inst := ⟨103, shq41, rsq41, fun x => Fbig_short k x.1 x.2⟩
theorem alq41 (k : Nat) : AllI (call cf k) [] := True.intro
def hsq128 : List SS := [{ fr := [(0, .a (.lf (.sl (.int .u32)))), (1, .a (.lf (.int .u32))), (6, .a (.smz 0)), (7, .a (.lf (.int .u64))), (8, .a (.lf (.int .i64)))], mem := [(0, some (.arr (.int .u32) 1 72 false))], nx := 1 }]
def osq128 : List OS := [⟨some 0, { fr := [(6, .a (.smz 0)), (7, .a (.lf (.int .u64)))], mem := [(0, some (.arr (.int .u32) 1 72 false))], nx := 1 }⟩]
def LIq128 (k : Nat) : LInst := ⟨0, hsq128, osq128, fun x => Lbig_short_0 k k x.1 x.2.1 x.2.2.1 x.2.2.2.1 x.2.2.2.2.1 x.2.2.2.2.2⟩
theorem anq128 (k : Nat) : LAll (LOk (R := DS OS.D osq128) (fun b _ σ K => LOt Ty (kps 103) 0 b σ K []) cf (call cf k) (kps 103) Try.f103.ntmps k 0) 0 (lb Try.f103 0) :=
 qA (qA qT (qA qT qT)) (qA (qA qT (qA qT qT)) qT)
theorem stq128 (k n : Nat) (x : DS SS.D hsq128) : Lbig_short_0 k (n + 1) x.1 x.2.1 x.2.2.1 x.2.2.2.1 x.2.2.2.2.1 x.2.2.2.2.2 = encSK SS.enc (fun σ => run2 cf (fun f a b K => COt f a b K []) (fun b _ σ K => LOt Ty (kps 103) 0 b σ K []) Try.f103.ntmps 0 (lb Try.f103 0) σ (nextK Ty (kps 103 0) 0 hsq128 osq128 fun x => Lbig_short_0 k n x.1 x.2.1 x.2.2.1 x.2.2.2.1 x.2.2.2.2.1 x.2.2.2.2.2)) hsq128 x := by kernel_rfl
theorem loq128 (k : Nat) : LIOk cf (call cf k) (kps 103) Try.f103.ntmps k 0 0 (lb Try.f103 0) (LIq128 k) :=
 loop_ok (c := cf) (callF := call cf k) (kp := kps 103) (nt := Try.f103.ntmps) (k := k) (p := 0) (b := 0) (x0 := lb Try.f103 0) (hs := hsq128) (os := osq128) (COt_ok (alq41 k)) (anq128 k) (fun n x => Lbig_short_0 k n x.1 x.2.1 x.2.2.1 x.2.2.2.1 x.2.2.2.2.1 x.2.2.2.2.2) (fun _ => rfl) (stq128 k)
theorem anq41 (k : Nat) : LAll (LOk (R := DS FS.D rsq41) (fun b _ σ K => LOt Ty (kps 103) 0 b σ K [LIq128 k]) cf (call cf k) (cf.keep 103) Try.f103.ntmps k shq41.bs.length) 0 (bd Try.f103) :=
 qA qT (qA qT (qA qT (qA (qA qT (LOt_ok (c := cf) (callF := call cf k) (kp := kps 103) (nt := Try.f103.ntmps) (k := k) (p := 0) (b := 0) (x0 := lb Try.f103 0) (l := [LIq128 k]) (qA (fun _ => loq128 k) qT))) (qA qT qT))))
theorem stq41 (k : Nat) (x : shq41.D) : Fbig_short (k + 1) x.1 x.2 = body2 cf (fun f a b K => COt f a b K []) (fun b _ σ K => LOt Ty (kps 103) 0 b σ K [LIq128 k]) 103 Try.f103.ntmps Try.f103.results.toList (bd Try.f103) (shq41.enc x).1 (shq41.enc x).2 (putS FS.dec rsq41) := by kernel_rfl
theorem okq41 : ∀ k, InstOk (call cf k) (Iq41 k)
 | 0 => fun x y e => absurd (show (none : Option _) = some y from e) (by simp)
 | k + 1 => inst_ok (c := cf) (k := k) (f := 103) (fn := Try.f103) (body := bd Try.f103) (sh := shq41) (os := rsq41) rfl Try.func103 rfl ⟨rfl, Nat.le_of_ble_eq_true rfl⟩ (COt_ok (alq41 k)) (anq41 k) (fun x => Fbig_short (k + 1) x.1 x.2) (stq41 k)

/-! shunt/big.shift -/
def Lbig_shift_0s (k : Nat) (rec : Int → Nat → List Int → Int → Int → List Int → Option (Nat × List Int)) (bits : Int) (out1 : Nat) (x : List Int) (x1 : Int) (x2 : Int) (outs : List Int) : Option (Nat × List Int) :=
 if ((decide (x2 < x1)) = true) then
 if ((0 : Int) ≤ x2) then
 Option.bind (x)[(Int.toNat x2)]? fun x3 =>
 if (bits < (0 : Int)) then
 none
 else
 if (((0 : Int) ≤ x2) ∧ (x2 < ((out1 : Nat) : Int))) then
 Option.bind (outs)[(0 + (Int.toNat x2))]? fun x4 =>
 if (((0 : Int) ≤ x2) ∧ (x2 < ((out1 : Nat) : Int))) then
 Option.bind (outs)[(0 + (Int.toNat x2))]? fun x5 =>
 if (((0 : Int) ≤ (IntKind.wrap .i64 (x2 + (1 : Int)))) ∧ ((IntKind.wrap .i64 (x2 + (1 : Int))) < ((out1 : Nat) : Int))) then
 Option.bind ((List.set outs (0 + (Int.toNat x2)) (IntKind.wrap .u32 (((BitVec.toNat ((BitVec.ofInt 32 x4) ||| (BitVec.ofInt 32 (IntKind.wrap .u32 (IntKind.wrap .u64 ((IntKind.wrap .u64 x3) * ((2 : Int) ^ (min (Int.toNat bits) 64)))))))) : Nat) : Int))))[(0 + (Int.toNat (IntKind.wrap .i64 (x2 + (1 : Int)))))]? fun x6 =>
 rec bits out1 x x1 (IntKind.wrap .i64 (x2 + (1 : Int))) (List.set (List.set outs (0 + (Int.toNat x2)) (IntKind.wrap .u32 (((BitVec.toNat ((BitVec.ofInt 32 x4) ||| (BitVec.ofInt 32 (IntKind.wrap .u32 (IntKind.wrap .u64 ((IntKind.wrap .u64 x3) * ((2 : Int) ^ (min (Int.toNat bits) 64)))))))) : Nat) : Int))) (0 + (Int.toNat (IntKind.wrap .i64 (x2 + (1 : Int))))) (IntKind.wrap .u32 (Int.fdiv (IntKind.wrap .u64 ((IntKind.wrap .u64 x3) * ((2 : Int) ^ (min (Int.toNat bits) 64)))) (4294967296 : Int))))
 else
 none
 else
 none
 else
 none
 else
 none
 else
 (some (out1, outs))
def Lbig_shift_0 (k n : Nat) : Int → Nat → List Int → Int → Int → List Int → Option (Nat × List Int) := Nat.rec (fun _ _ _ _ _ _ => none) (fun _ r => Lbig_shift_0s k r) n
def bbig_shift (k : Nat) (a : List Int) (bits : Int) : Option (Nat × List Int) :=
 if (((0 : Int) ≤ (IntKind.wrap .i64 ((((List.length a) : Nat) : Int) + (1 : Int)))) ∧ (((IntKind.wrap .i64 ((((List.length a) : Nat) : Int) + (1 : Int))) ≤ (IntKind.wrap .i64 ((((List.length a) : Nat) : Int) + (1 : Int)))) ∧ (((IntKind.wrap .i64 ((((List.length a) : Nat) : Int) + (1 : Int))) * (4 : Int)) ≤ (140737488355328 : Int)))) then
 Option.bind (Lbig_shift_0 k k bits (Int.toNat (IntKind.wrap .i64 ((((List.length a) : Nat) : Int) + (1 : Int)))) a (((List.length a) : Nat) : Int) (0 : Int) (List.replicate (Int.toNat (IntKind.wrap .i64 ((((List.length a) : Nat) : Int) + (1 : Int)))) (0 : Int))) fun r6 =>
 (some (r6.1, r6.2))
 else
 none
def Fbig_shift : Nat → List Int → Int → Option (Nat × List Int)
 | 0, _, _ => none
 | k + 1, a, bits => bbig_shift k a bits
def shq40 : FS := { vs := [.a (.lf (.sl (.int .u32))), .a (.lf (.int .u64))], bs := [] }
def rsq40 : List FS := [{ vs := [.a (.smz 0)], bs := [.arr (.int .u32) 1 72 false] }]
def Iq40 (k : Nat) : Inst := ⟨125, shq40, rsq40, fun x => Fbig_shift k x.1 x.2⟩
theorem alq40 (k : Nat) : AllI (call cf k) [] := True.intro
def hsq127 : List SS := [{ fr := [(1, .a (.lf (.int .u64))), (5, .a (.smz 0)), (13, .a (.lf (.sl (.int .u32)))), (14, .a (.lf (.int .i64))), (15, .a (.lf (.int .i64)))], mem := [(0, some (.arr (.int .u32) 1 72 false))], nx := 1 }]
def osq127 : List OS := [⟨some 0, { fr := [(5, .a (.smz 0))], mem := [(0, some (.arr (.int .u32) 1 72 false))], nx := 1 }⟩]
def LIq127 (k : Nat) : LInst := ⟨0, hsq127, osq127, fun x => Lbig_shift_0 k k x.1 x.2.1 x.2.2.1 x.2.2.2.1 x.2.2.2.2.1 x.2.2.2.2.2⟩
theorem anq127 (k : Nat) : LAll (LOk (R := DS OS.D osq127) (fun b _ σ K => LOt Ty (kps 125) 0 b σ K []) cf (call cf k) (kps 125) Try.f125.ntmps k 0) 0 (lb Try.f125 0) :=
 qA qT (qA (qA qT qT) (qA (qA qT (qA qT (qA qT qT))) qT))
theorem stq127 (k n : Nat) (x : DS SS.D hsq127) : Lbig_shift_0 k (n + 1) x.1 x.2.1 x.2.2.1 x.2.2.2.1 x.2.2.2.2.1 x.2.2.2.2.2 = encSK SS.enc (fun σ => run2 cf (fun f a b K => COt f a b K []) (fun b _ σ K => LOt Ty (kps 125) 0 b σ K []) Try.f125.ntmps 0 (lb Try.f125 0) σ (nextK Ty (kps 125 0) 0 hsq127 osq127 fun x => Lbig_shift_0 k n x.1 x.2.1 x.2.2.1 x.2.2.2.1 x.2.2.2.2.1 x.2.2.2.2.2)) hsq127 x := by kernel_rfl
theorem loq127 (k : Nat) : LIOk cf (call cf k) (kps 125) Try.f125.ntmps k 0 0 (lb Try.f125 0) (LIq127 k) :=
 loop_ok (c := cf) (callF := call cf k) (kp := kps 125) (nt := Try.f125.ntmps) (k := k) (p := 0) (b := 0) (x0 := lb Try.f125 0) (hs := hsq127) (os := osq127) (COt_ok (alq40 k)) (anq127 k) (fun n x => Lbig_shift_0 k n x.1 x.2.1 x.2.2.1 x.2.2.2.1 x.2.2.2.2.1 x.2.2.2.2.2) (fun _ => rfl) (stq127 k)
theorem anq40 (k : Nat) : LAll (LOk (R := DS FS.D rsq40) (fun b _ σ K => LOt Ty (kps 125) 0 b σ K [LIq127 k]) cf (call cf k) (cf.keep 125) Try.f125.ntmps k shq40.bs.length) 0 (bd Try.f125) :=
 qA qT (qA qT (qA (qA qT (LOt_ok (c := cf) (callF := call cf k) (kp := kps 125) (nt := Try.f125.ntmps) (k := k) (p := 0) (b := 0) (x0 := lb Try.f125 0) (l := [LIq127 k]) (qA (fun _ => loq127 k) qT))) (qA qT qT)))
theorem stq40 (k : Nat) (x : shq40.D) : Fbig_shift (k + 1) x.1 x.2 = body2 cf (fun f a b K => COt f a b K []) (fun b _ σ K => LOt Ty (kps 125) 0 b σ K [LIq127 k]) 125 Try.f125.ntmps Try.f125.results.toList (bd Try.f125) (shq40.enc x).1 (shq40.enc x).2 (putS FS.dec rsq40) := by kernel_rfl
theorem okq40 : ∀ k, InstOk (call cf k) (Iq40 k)
 | 0 => fun x y e => absurd (show (none : Option _) = some y from e) (by simp)
 | k + 1 => inst_ok (c := cf) (k := k) (f := 125) (fn := Try.f125) (body := bd Try.f125) (sh := shq40) (os := rsq40) rfl Try.func125 rfl ⟨rfl, Nat.le_of_ble_eq_true rfl⟩ (COt_ok (alq40 k)) (anq40 k) (fun x => Fbig_shift (k + 1) x.1 x.2) (stq40 k)

/-! shunt/big.take -/
def Lbig_take_zvq_0s (k : Nat) (rec : Nat → Nat → Nat → Int → Int → Int → Int → Int → List Int → List Int → Option (Nat × Nat × Nat × Int × Int × List Int × List Int)) (u0 : Nat) (u1 : Nat) (v : Nat) (d : Int) (carry : Int) (borrow : Int) (x : Int) (x1 : Int) (us : List Int) (vs : List Int) : Option (Nat × Nat × Nat × Int × Int × List Int × List Int) :=
 if ((decide (x1 < x)) = true) then
 if ((decide (x1 < ((v : Nat) : Int))) = true) then
 if (((0 : Int) ≤ x1) ∧ (x1 < ((v : Nat) : Int))) then
 Option.bind (vs)[(0 + (Int.toNat x1))]? fun x6 =>
 if (((0 : Int) ≤ x1) ∧ (x1 < ((u1 : Nat) : Int))) then
 Option.bind (us)[(u0 + (Int.toNat x1))]? fun x7 =>
 if ((decide ((IntKind.wrap .u64 x7) < (IntKind.wrap .u64 ((IntKind.wrap .u64 (((BitVec.toNat ((BitVec.ofInt 64 (IntKind.wrap .u64 (carry + (IntKind.wrap .u64 (d * (IntKind.wrap .u64 x6)))))) &&& (BitVec.ofInt 64 (4294967295 : Int)))) : Nat) : Int)) + borrow)))) = true) then
 if (((0 : Int) ≤ x1) ∧ (x1 < ((u1 : Nat) : Int))) then
 Option.bind (us)[(u0 + (Int.toNat x1))]? fun x8 =>
 if (((0 : Int) ≤ x1) ∧ (x1 < ((u1 : Nat) : Int))) then
 Option.bind (us)[(u0 + (Int.toNat x1))]? fun x9 =>
 rec u0 u1 v d (Int.fdiv (IntKind.wrap .u64 (carry + (IntKind.wrap .u64 (d * (IntKind.wrap .u64 x6))))) (4294967296 : Int)) (1 : Int) x (IntKind.wrap .i64 (x1 + (1 : Int))) (List.set us (u0 + (Int.toNat x1)) (IntKind.wrap .u32 (IntKind.wrap .u64 ((IntKind.wrap .u64 x8) - (IntKind.wrap .u64 ((IntKind.wrap .u64 (((BitVec.toNat ((BitVec.ofInt 64 (IntKind.wrap .u64 (carry + (IntKind.wrap .u64 (d * (IntKind.wrap .u64 x6)))))) &&& (BitVec.ofInt 64 (4294967295 : Int)))) : Nat) : Int)) + borrow)))))) vs
 else
 none
 else
 none
 else
 if (((0 : Int) ≤ x1) ∧ (x1 < ((u1 : Nat) : Int))) then
 Option.bind (us)[(u0 + (Int.toNat x1))]? fun x8 =>
 if (((0 : Int) ≤ x1) ∧ (x1 < ((u1 : Nat) : Int))) then
 Option.bind (us)[(u0 + (Int.toNat x1))]? fun x9 =>
 rec u0 u1 v d (Int.fdiv (IntKind.wrap .u64 (carry + (IntKind.wrap .u64 (d * (IntKind.wrap .u64 x6))))) (4294967296 : Int)) (0 : Int) x (IntKind.wrap .i64 (x1 + (1 : Int))) (List.set us (u0 + (Int.toNat x1)) (IntKind.wrap .u32 (IntKind.wrap .u64 ((IntKind.wrap .u64 x8) - (IntKind.wrap .u64 ((IntKind.wrap .u64 (((BitVec.toNat ((BitVec.ofInt 64 (IntKind.wrap .u64 (carry + (IntKind.wrap .u64 (d * (IntKind.wrap .u64 x6)))))) &&& (BitVec.ofInt 64 (4294967295 : Int)))) : Nat) : Int)) + borrow)))))) vs
 else
 none
 else
 none
 else
 none
 else
 none
 else
 if (((0 : Int) ≤ x1) ∧ (x1 < ((u1 : Nat) : Int))) then
 Option.bind (us)[(u0 + (Int.toNat x1))]? fun x6 =>
 if ((decide ((IntKind.wrap .u64 x6) < (IntKind.wrap .u64 ((IntKind.wrap .u64 (((BitVec.toNat ((BitVec.ofInt 64 carry) &&& (BitVec.ofInt 64 (4294967295 : Int)))) : Nat) : Int)) + borrow)))) = true) then
 if (((0 : Int) ≤ x1) ∧ (x1 < ((u1 : Nat) : Int))) then
 Option.bind (us)[(u0 + (Int.toNat x1))]? fun x7 =>
 if (((0 : Int) ≤ x1) ∧ (x1 < ((u1 : Nat) : Int))) then
 Option.bind (us)[(u0 + (Int.toNat x1))]? fun x8 =>
 rec u0 u1 v d (Int.fdiv carry (4294967296 : Int)) (1 : Int) x (IntKind.wrap .i64 (x1 + (1 : Int))) (List.set us (u0 + (Int.toNat x1)) (IntKind.wrap .u32 (IntKind.wrap .u64 ((IntKind.wrap .u64 x7) - (IntKind.wrap .u64 ((IntKind.wrap .u64 (((BitVec.toNat ((BitVec.ofInt 64 carry) &&& (BitVec.ofInt 64 (4294967295 : Int)))) : Nat) : Int)) + borrow)))))) vs
 else
 none
 else
 none
 else
 if (((0 : Int) ≤ x1) ∧ (x1 < ((u1 : Nat) : Int))) then
 Option.bind (us)[(u0 + (Int.toNat x1))]? fun x7 =>
 if (((0 : Int) ≤ x1) ∧ (x1 < ((u1 : Nat) : Int))) then
 Option.bind (us)[(u0 + (Int.toNat x1))]? fun x8 =>
 rec u0 u1 v d (Int.fdiv carry (4294967296 : Int)) (0 : Int) x (IntKind.wrap .i64 (x1 + (1 : Int))) (List.set us (u0 + (Int.toNat x1)) (IntKind.wrap .u32 (IntKind.wrap .u64 ((IntKind.wrap .u64 x7) - (IntKind.wrap .u64 ((IntKind.wrap .u64 (((BitVec.toNat ((BitVec.ofInt 64 carry) &&& (BitVec.ofInt 64 (4294967295 : Int)))) : Nat) : Int)) + borrow)))))) vs
 else
 none
 else
 none
 else
 none
 else
 (some (u0, u1, v, d, borrow, us, vs))
def Lbig_take_zvq_0 (k n : Nat) : Nat → Nat → Nat → Int → Int → Int → Int → Int → List Int → List Int → Option (Nat × Nat × Nat × Int × Int × List Int × List Int) := Nat.rec (fun _ _ _ _ _ _ _ _ _ _ => none) (fun _ r => Lbig_take_zvq_0s k r) n
def Lbig_take_zvq_2s (k : Nat) (rec : Nat → Nat → Nat → Int → Int → Int → Int → List Int → List Int → Option (Int × List Int × List Int)) (u0 : Nat) (u1 : Nat) (v : Nat) (d : Int) (carry : Int) (x : Int) (x1 : Int) (us : List Int) (vs : List Int) : Option (Int × List Int × List Int) :=
 if ((decide (x1 < x)) = true) then
 if (((0 : Int) ≤ x1) ∧ (x1 < ((u1 : Nat) : Int))) then
 Option.bind (us)[(u0 + (Int.toNat x1))]? fun x6 =>
 if ((decide (x1 < ((v : Nat) : Int))) = true) then
 if (((0 : Int) ≤ x1) ∧ (x1 < ((v : Nat) : Int))) then
 Option.bind (vs)[(0 + (Int.toNat x1))]? fun x7 =>
 if (((0 : Int) ≤ x1) ∧ (x1 < ((u1 : Nat) : Int))) then
 Option.bind (us)[(u0 + (Int.toNat x1))]? fun x8 =>
 rec u0 u1 v d (Int.fdiv (IntKind.wrap .u64 ((IntKind.wrap .u64 ((IntKind.wrap .u64 x6) + carry)) + (IntKind.wrap .u64 x7))) (4294967296 : Int)) x (IntKind.wrap .i64 (x1 + (1 : Int))) (List.set us (u0 + (Int.toNat x1)) (IntKind.wrap .u32 (IntKind.wrap .u64 ((IntKind.wrap .u64 ((IntKind.wrap .u64 x6) + carry)) + (IntKind.wrap .u64 x7))))) vs
 else
 none
 else
 none
 else
 if (((0 : Int) ≤ x1) ∧ (x1 < ((u1 : Nat) : Int))) then
 Option.bind (us)[(u0 + (Int.toNat x1))]? fun x7 =>
 rec u0 u1 v d (Int.fdiv (IntKind.wrap .u64 ((IntKind.wrap .u64 x6) + carry)) (4294967296 : Int)) x (IntKind.wrap .i64 (x1 + (1 : Int))) (List.set us (u0 + (Int.toNat x1)) (IntKind.wrap .u32 (IntKind.wrap .u64 ((IntKind.wrap .u64 x6) + carry)))) vs
 else
 none
 else
 none
 else
 (some (d, us, vs))
def Lbig_take_zvq_2 (k n : Nat) : Nat → Nat → Nat → Int → Int → Int → Int → List Int → List Int → Option (Int × List Int × List Int) := Nat.rec (fun _ _ _ _ _ _ _ _ _ => none) (fun _ r => Lbig_take_zvq_2s k r) n
def bbig_take_zvq (k : Nat) (u0 : Nat) (u1 : Nat) (v : Nat) (d : Int) (us : List Int) (vs : List Int) : Option (Int × List Int × List Int) :=
 Option.bind (Lbig_take_zvq_0 k k u0 u1 v d (0 : Int) (0 : Int) ((u1 : Nat) : Int) (0 : Int) us vs) fun r9 =>
 if ((r9.2.2.2.2.1 == (0 : Int)) = true) then
 (some ((IntKind.wrap .u32 r9.2.2.2.1), r9.2.2.2.2.2.1, r9.2.2.2.2.2.2))
 else
 Option.bind (Lbig_take_zvq_2 k k r9.1 r9.2.1 r9.2.2.1 r9.2.2.2.1 (0 : Int) ((r9.2.1 : Nat) : Int) (0 : Int) r9.2.2.2.2.2.1 r9.2.2.2.2.2.2) fun r10 =>
 (some ((IntKind.wrap .u32 (IntKind.wrap .u64 (r10.1 - (1 : Int)))), r10.2.1, r10.2.2))
def Fbig_take_zvq : Nat → Nat → Nat → Nat → Int → List Int → List Int → Option (Int × List Int × List Int)
 | 0, _, _, _, _, _, _ => none
 | k + 1, u0, u1, v, d, us, vs => bbig_take_zvq k u0 u1 v d us vs
def shq43 : FS := { vs := [.a (.sms 0), .a (.smz 1), .a (.lf (.int .u64))], bs := [.arr (.int .u32) 1 72 false, .arr (.int .u32) 1 72 false] }
def rsq43 : List FS := [{ vs := [.a (.lf (.int .u32))], bs := [.arr (.int .u32) 1 72 false, .arr (.int .u32) 1 72 false] }]
def Iq43 (k : Nat) : Inst := ⟨126, shq43, rsq43, fun x => Fbig_take_zvq k x.1 x.2.1 x.2.2.1 x.2.2.2.1 x.2.2.2.2.1 x.2.2.2.2.2⟩
theorem alq43 (k : Nat) : AllI (call cf k) [] := True.intro
def hsq130 : List SS := [{ fr := [(0, .a (.sms 0)), (1, .a (.smz 1)), (2, .a (.lf (.int .u64))), (7, .a (.lf (.int .u64))), (8, .a (.lf (.int .u64))), (14, .a (.lf (.int .i64))), (15, .a (.lf (.int .i64)))], mem := [(0, some (.arr (.int .u32) 1 72 false)), (1, some (.arr (.int .u32) 1 72 false))], nx := 2 }]
def osq130 : List OS := [⟨some 0, { fr := [(0, .a (.sms 0)), (1, .a (.smz 1)), (2, .a (.lf (.int .u64))), (8, .a (.lf (.int .u64)))], mem := [(0, some (.arr (.int .u32) 1 72 false)), (1, some (.arr (.int .u32) 1 72 false))], nx := 2 }⟩]
def LIq130 (k : Nat) : LInst := ⟨0, hsq130, osq130, fun x => Lbig_take_zvq_0 k k x.1 x.2.1 x.2.2.1 x.2.2.2.1 x.2.2.2.2.1 x.2.2.2.2.2.1 x.2.2.2.2.2.2.1 x.2.2.2.2.2.2.2.1 x.2.2.2.2.2.2.2.2.1 x.2.2.2.2.2.2.2.2.2⟩
theorem anq130 (k : Nat) : LAll (LOk (R := DS OS.D osq130) (fun b _ σ K => LOt Ty (kps 126) 2 b σ K []) cf (call cf k) (kps 126) Try.f126.ntmps k 2) 0 (lb Try.f126 0) :=
 qA qT (qA (qA qT qT) (qA (qA qT (qA (qA qT (qA qT qT)) (qA qT (qA qT (qA (qA qT (qA qT qT)) (qA qT qT)))))) qT))
theorem stq130 (k n : Nat) (x : DS SS.D hsq130) : Lbig_take_zvq_0 k (n + 1) x.1 x.2.1 x.2.2.1 x.2.2.2.1 x.2.2.2.2.1 x.2.2.2.2.2.1 x.2.2.2.2.2.2.1 x.2.2.2.2.2.2.2.1 x.2.2.2.2.2.2.2.2.1 x.2.2.2.2.2.2.2.2.2 = encSK SS.enc (fun σ => run2 cf (fun f a b K => COt f a b K []) (fun b _ σ K => LOt Ty (kps 126) 2 b σ K []) Try.f126.ntmps 0 (lb Try.f126 0) σ (nextK Ty (kps 126 0) 2 hsq130 osq130 fun x => Lbig_take_zvq_0 k n x.1 x.2.1 x.2.2.1 x.2.2.2.1 x.2.2.2.2.1 x.2.2.2.2.2.1 x.2.2.2.2.2.2.1 x.2.2.2.2.2.2.2.1 x.2.2.2.2.2.2.2.2.1 x.2.2.2.2.2.2.2.2.2)) hsq130 x := by kernel_rfl
theorem loq130 (k : Nat) : LIOk cf (call cf k) (kps 126) Try.f126.ntmps k 2 0 (lb Try.f126 0) (LIq130 k) :=
 loop_ok (c := cf) (callF := call cf k) (kp := kps 126) (nt := Try.f126.ntmps) (k := k) (p := 2) (b := 0) (x0 := lb Try.f126 0) (hs := hsq130) (os := osq130) (COt_ok (alq43 k)) (anq130 k) (fun n x => Lbig_take_zvq_0 k n x.1 x.2.1 x.2.2.1 x.2.2.2.1 x.2.2.2.2.1 x.2.2.2.2.2.1 x.2.2.2.2.2.2.1 x.2.2.2.2.2.2.2.1 x.2.2.2.2.2.2.2.2.1 x.2.2.2.2.2.2.2.2.2) (fun _ => rfl) (stq130 k)
def hsq131 : List SS := [{ fr := [(0, .a (.sms 0)), (1, .a (.smz 1)), (2, .a (.lf (.int .u64))), (7, .a (.lf (.int .u64))), (61, .a (.lf (.int .i64))), (62, .a (.lf (.int .i64)))], mem := [(0, some (.arr (.int .u32) 1 72 false)), (1, some (.arr (.int .u32) 1 72 false))], nx := 2 }]
def osq131 : List OS := [⟨some 2, { fr := [(2, .a (.lf (.int .u64)))], mem := [(0, some (.arr (.int .u32) 1 72 false)), (1, some (.arr (.int .u32) 1 72 false))], nx := 2 }⟩]
def LIq131 (k : Nat) : LInst := ⟨2, hsq131, osq131, fun x => Lbig_take_zvq_2 k k x.1 x.2.1 x.2.2.1 x.2.2.2.1 x.2.2.2.2.1 x.2.2.2.2.2.1 x.2.2.2.2.2.2.1 x.2.2.2.2.2.2.2.1 x.2.2.2.2.2.2.2.2⟩
theorem anq131 (k : Nat) : LAll (LOk (R := DS OS.D osq131) (fun b _ σ K => LOt Ty (kps 126) 2 b σ K [LIq130 k]) cf (call cf k) (kps 126) Try.f126.ntmps k 2) 2 (lb Try.f126 1) :=
 qA qT (qA (qA qT qT) (qA (qA qT (qA qT (qA (qA qT (qA qT qT)) (qA qT qT)))) qT))
theorem stq131 (k n : Nat) (x : DS SS.D hsq131) : Lbig_take_zvq_2 k (n + 1) x.1 x.2.1 x.2.2.1 x.2.2.2.1 x.2.2.2.2.1 x.2.2.2.2.2.1 x.2.2.2.2.2.2.1 x.2.2.2.2.2.2.2.1 x.2.2.2.2.2.2.2.2 = encSK SS.enc (fun σ => run2 cf (fun f a b K => COt f a b K []) (fun b _ σ K => LOt Ty (kps 126) 2 b σ K [LIq130 k]) Try.f126.ntmps 2 (lb Try.f126 1) σ (nextK Ty (kps 126 2) 2 hsq131 osq131 fun x => Lbig_take_zvq_2 k n x.1 x.2.1 x.2.2.1 x.2.2.2.1 x.2.2.2.2.1 x.2.2.2.2.2.1 x.2.2.2.2.2.2.1 x.2.2.2.2.2.2.2.1 x.2.2.2.2.2.2.2.2)) hsq131 x := by kernel_rfl
theorem loq131 (k : Nat) : LIOk cf (call cf k) (kps 126) Try.f126.ntmps k 2 2 (lb Try.f126 1) (LIq131 k) :=
 loop_ok (c := cf) (callF := call cf k) (kp := kps 126) (nt := Try.f126.ntmps) (k := k) (p := 2) (b := 2) (x0 := lb Try.f126 1) (hs := hsq131) (os := osq131) (COt_ok (alq43 k)) (anq131 k) (fun n x => Lbig_take_zvq_2 k n x.1 x.2.1 x.2.2.1 x.2.2.2.1 x.2.2.2.2.1 x.2.2.2.2.2.1 x.2.2.2.2.2.2.1 x.2.2.2.2.2.2.2.1 x.2.2.2.2.2.2.2.2) (fun _ => rfl) (stq131 k)
theorem anq43 (k : Nat) : LAll (LOk (R := DS FS.D rsq43) (fun b _ σ K => LOt Ty (kps 126) 2 b σ K [LIq130 k, LIq131 k]) cf (call cf k) (cf.keep 126) Try.f126.ntmps k shq43.bs.length) 0 (bd Try.f126) :=
 qA qT (qA qT (qA (qA qT (LOt_ok (c := cf) (callF := call cf k) (kp := kps 126) (nt := Try.f126.ntmps) (k := k) (p := 2) (b := 0) (x0 := lb Try.f126 0) (l := [LIq130 k, LIq131 k]) (qA (fun _ => loq130 k) (qA (fun h => absurd (show (2 : Nat) = 0 from h) (by decide)) qT)))) (qA (qA qT (qA (qA qT qT) qT)) (qA qT (qA (qA qT (LOt_ok (c := cf) (callF := call cf k) (kp := kps 126) (nt := Try.f126.ntmps) (k := k) (p := 2) (b := 2) (x0 := lb Try.f126 1) (l := [LIq130 k, LIq131 k]) (qA (fun h => absurd (show (0 : Nat) = 2 from h) (by decide)) (qA (fun _ => loq131 k) qT)))) (qA qT qT))))))
theorem stq43 (k : Nat) (x : shq43.D) : Fbig_take_zvq (k + 1) x.1 x.2.1 x.2.2.1 x.2.2.2.1 x.2.2.2.2.1 x.2.2.2.2.2 = body2 cf (fun f a b K => COt f a b K []) (fun b _ σ K => LOt Ty (kps 126) 2 b σ K [LIq130 k, LIq131 k]) 126 Try.f126.ntmps Try.f126.results.toList (bd Try.f126) (shq43.enc x).1 (shq43.enc x).2 (putS FS.dec rsq43) := by kernel_rfl
theorem okq43 : ∀ k, InstOk (call cf k) (Iq43 k)
 | 0 => fun x y e => absurd (show (none : Option _) = some y from e) (by simp)
 | k + 1 => inst_ok (c := cf) (k := k) (f := 126) (fn := Try.f126) (body := bd Try.f126) (sh := shq43) (os := rsq43) rfl Try.func126 rfl ⟨rfl, Nat.le_of_ble_eq_true rfl⟩ (COt_ok (alq43 k)) (anq43 k) (fun x => Fbig_take_zvq (k + 1) x.1 x.2.1 x.2.2.1 x.2.2.2.1 x.2.2.2.2.1 x.2.2.2.2.2) (stq43 k)

/-! shunt/big.long -/
def Lbig_long_0s (k : Nat) (rec : List Int → List Int → Int → Option (List Int × List Int × Int)) (a : List Int) (b : List Int) (bits : Int) : Option (List Int × List Int × Int) :=
 if ((0 : Int) ≤ (IntKind.wrap .i64 ((((List.length b) : Nat) : Int) - (1 : Int)))) then
 Option.bind (b)[(Int.toNat (IntKind.wrap .i64 ((((List.length b) : Nat) : Int) - (1 : Int))))]? fun x2 =>
 if (bits < (0 : Int)) then
 none
 else
 if (((Int.fdiv (IntKind.wrap .u32 (x2 * ((2 : Int) ^ (min (Int.toNat bits) 32)))) (2147483648 : Int)) == (0 : Int)) = true) then
 rec a b (IntKind.wrap .u64 (bits + (1 : Int)))
 else
 (some (a, b, bits))
 else
 none
def Lbig_long_0 (k n : Nat) : List Int → List Int → Int → Option (List Int × List Int × Int) := Nat.rec (fun _ _ _ => none) (fun _ r => Lbig_long_0s k r) n
def Lbig_long_4s (k : Nat) (rec : Nat → Int → Int → Nat → Nat → Int → Int → Int → List Int → List Int → List Int → Option (Nat × Int × Int × Nat × Nat × Int × Int × List Int × List Int × List Int)) (q : Nat) (bits : Int) (n : Int) (u : Nat) (v : Nat) (j : Int) (d : Int) (rest : Int) (qs : List Int) (us : List Int) (vs : List Int) : Option (Nat × Int × Int × Nat × Nat × Int × Int × List Int × List Int × List Int) :=
 if ((decide (d > (4294967295 : Int))) = false) then
 if ((decide (rest ≤ (4294967295 : Int))) = true) then
 if (((0 : Int) ≤ (IntKind.wrap .i64 (n - (2 : Int)))) ∧ ((IntKind.wrap .i64 (n - (2 : Int))) < ((v : Nat) : Int))) then
 Option.bind (vs)[(0 + (Int.toNat (IntKind.wrap .i64 (n - (2 : Int)))))]? fun x6 =>
 if (((0 : Int) ≤ (IntKind.wrap .i64 ((IntKind.wrap .i64 (j + n)) - (2 : Int)))) ∧ ((IntKind.wrap .i64 ((IntKind.wrap .i64 (j + n)) - (2 : Int))) < ((u : Nat) : Int))) then
 Option.bind (us)[(0 + (Int.toNat (IntKind.wrap .i64 ((IntKind.wrap .i64 (j + n)) - (2 : Int)))))]? fun x7 =>
 if ((decide ((IntKind.wrap .u64 (d * (IntKind.wrap .u64 x6))) > (IntKind.wrap .u64 (((BitVec.toNat ((BitVec.ofInt 64 (IntKind.wrap .u64 (rest * (4294967296 : Int)))) ||| (BitVec.ofInt 64 (IntKind.wrap .u64 x7)))) : Nat) : Int)))) = true) then
 if (((0 : Int) ≤ (IntKind.wrap .i64 (n - (1 : Int)))) ∧ ((IntKind.wrap .i64 (n - (1 : Int))) < ((v : Nat) : Int))) then
 Option.bind (vs)[(0 + (Int.toNat (IntKind.wrap .i64 (n - (1 : Int)))))]? fun x8 =>
 if ((decide ((IntKind.wrap .u64 (rest + (IntKind.wrap .u64 x8))) > (4294967295 : Int))) = true) then
 (some (q, bits, n, u, v, j, (IntKind.wrap .u64 (d - (1 : Int))), qs, us, vs))
 else
 rec q bits n u v j (IntKind.wrap .u64 (d - (1 : Int))) (IntKind.wrap .u64 (rest + (IntKind.wrap .u64 x8))) qs us vs
 else
 none
 else
 (some (q, bits, n, u, v, j, d, qs, us, vs))
 else
 none
 else
 none
 else
 (some (q, bits, n, u, v, j, d, qs, us, vs))
 else
 if (((0 : Int) ≤ (IntKind.wrap .i64 (n - (1 : Int)))) ∧ ((IntKind.wrap .i64 (n - (1 : Int))) < ((v : Nat) : Int))) then
 Option.bind (vs)[(0 + (Int.toNat (IntKind.wrap .i64 (n - (1 : Int)))))]? fun x6 =>
 if ((decide ((IntKind.wrap .u64 (rest + (IntKind.wrap .u64 x6))) > (4294967295 : Int))) = true) then
 (some (q, bits, n, u, v, j, (IntKind.wrap .u64 (d - (1 : Int))), qs, us, vs))
 else
 rec q bits n u v j (IntKind.wrap .u64 (d - (1 : Int))) (IntKind.wrap .u64 (rest + (IntKind.wrap .u64 x6))) qs us vs
 else
 none
def Lbig_long_4 (k n : Nat) : Nat → Int → Int → Nat → Nat → Int → Int → Int → List Int → List Int → List Int → Option (Nat × Int × Int × Nat × Nat × Int × Int × List Int × List Int × List Int) := Nat.rec (fun _ _ _ _ _ _ _ _ _ _ _ => none) (fun _ r => Lbig_long_4s k r) n
def Lbig_long_2s (k : Nat) (rec : Nat → Int → Int → Nat → Nat → Int → List Int → List Int → List Int → Option (Nat × Int × Int × Nat × List Int × List Int × List Int)) (q : Nat) (bits : Int) (n : Int) (u : Nat) (v : Nat) (j : Int) (qs : List Int) (us : List Int) (vs : List Int) : Option (Nat × Int × Int × Nat × List Int × List Int × List Int) :=
 if ((decide (j ≥ (0 : Int))) = true) then
 if (((0 : Int) ≤ (IntKind.wrap .i64 (j + n))) ∧ ((IntKind.wrap .i64 (j + n)) < ((u : Nat) : Int))) then
 Option.bind (us)[(0 + (Int.toNat (IntKind.wrap .i64 (j + n))))]? fun x2 =>
 if (((0 : Int) ≤ (IntKind.wrap .i64 ((IntKind.wrap .i64 (j + n)) - (1 : Int)))) ∧ ((IntKind.wrap .i64 ((IntKind.wrap .i64 (j + n)) - (1 : Int))) < ((u : Nat) : Int))) then
 Option.bind (us)[(0 + (Int.toNat (IntKind.wrap .i64 ((IntKind.wrap .i64 (j + n)) - (1 : Int)))))]? fun x3 =>
 if (((0 : Int) ≤ (IntKind.wrap .i64 (n - (1 : Int)))) ∧ ((IntKind.wrap .i64 (n - (1 : Int))) < ((v : Nat) : Int))) then
 Option.bind (vs)[(0 + (Int.toNat (IntKind.wrap .i64 (n - (1 : Int)))))]? fun x4 =>
 if ((IntKind.wrap .u64 x4) = (0 : Int)) then
 none
 else
 if (((0 : Int) ≤ (IntKind.wrap .i64 (n - (1 : Int)))) ∧ ((IntKind.wrap .i64 (n - (1 : Int))) < ((v : Nat) : Int))) then
 Option.bind (vs)[(0 + (Int.toNat (IntKind.wrap .i64 (n - (1 : Int)))))]? fun x5 =>
 if ((IntKind.wrap .u64 x5) = (0 : Int)) then
 none
 else
 Option.bind (Lbig_long_4 k k q bits n u v j (IntKind.wrap .u64 (Int.tdiv (IntKind.wrap .u64 (((BitVec.toNat ((BitVec.ofInt 64 (IntKind.wrap .u64 ((IntKind.wrap .u64 x2) * (4294967296 : Int)))) ||| (BitVec.ofInt 64 (IntKind.wrap .u64 x3)))) : Nat) : Int)) (IntKind.wrap .u64 x4))) (Int.tmod (IntKind.wrap .u64 (((BitVec.toNat ((BitVec.ofInt 64 (IntKind.wrap .u64 ((IntKind.wrap .u64 x2) * (4294967296 : Int)))) ||| (BitVec.ofInt 64 (IntKind.wrap .u64 x3)))) : Nat) : Int)) (IntKind.wrap .u64 x5)) qs us vs) fun r8 =>
 if (((0 : Int) ≤ r8.2.2.2.2.2.1) ∧ ((r8.2.2.2.2.2.1 ≤ (IntKind.wrap .i64 ((IntKind.wrap .i64 (r8.2.2.2.2.2.1 + r8.2.2.1)) + (1 : Int)))) ∧ (((0 + (Int.toNat (IntKind.wrap .i64 ((IntKind.wrap .i64 (r8.2.2.2.2.2.1 + r8.2.2.1)) + (1 : Int))))) ≤ (List.length r8.2.2.2.2.2.2.2.2.1)) ∧ ((r8.2.2.2.2.2.1 < (IntKind.wrap .i64 ((IntKind.wrap .i64 (r8.2.2.2.2.2.1 + r8.2.2.1)) + (1 : Int)))) ∨ (false = true))))) then
 Option.bind (Fbig_take_zvq k (0 + (Int.toNat r8.2.2.2.2.2.1)) ((Int.toNat (IntKind.wrap .i64 ((IntKind.wrap .i64 (r8.2.2.2.2.2.1 + r8.2.2.1)) + (1 : Int)))) - (Int.toNat r8.2.2.2.2.2.1)) r8.2.2.2.2.1 r8.2.2.2.2.2.2.1 r8.2.2.2.2.2.2.2.2.1 r8.2.2.2.2.2.2.2.2.2) fun r9 =>
 if (((0 : Int) ≤ r8.2.2.2.2.2.1) ∧ (r8.2.2.2.2.2.1 < ((r8.1 : Nat) : Int))) then
 Option.bind (r8.2.2.2.2.2.2.2.1)[(0 + (Int.toNat r8.2.2.2.2.2.1))]? fun x6 =>
 rec r8.1 r8.2.1 r8.2.2.1 r8.2.2.2.1 r8.2.2.2.2.1 (IntKind.wrap .i64 (r8.2.2.2.2.2.1 - (1 : Int))) (List.set r8.2.2.2.2.2.2.2.1 (0 + (Int.toNat r8.2.2.2.2.2.1)) r9.1) r9.2.1 r9.2.2
 else
 none
 else
 none
 else
 none
 else
 none
 else
 none
 else
 none
 else
 (some (q, bits, n, u, qs, us, vs))
def Lbig_long_2 (k n : Nat) : Nat → Int → Int → Nat → Nat → Int → List Int → List Int → List Int → Option (Nat × Int × Int × Nat × List Int × List Int × List Int) := Nat.rec (fun _ _ _ _ _ _ _ _ _ => none) (fun _ r => Lbig_long_2s k r) n
def Lbig_long_6s (k : Nat) (rec : Nat → Nat → Int → Nat → Int → Int → List Int → List Int → List Int → Option (Nat × Nat × List Int × List Int × List Int)) (q : Nat) (r : Nat) (bits : Int) (u : Nat) (x : Int) (x1 : Int) (qs : List Int) (rs : List Int) (us : List Int) : Option (Nat × Nat × List Int × List Int × List Int) :=
 if ((decide (x1 < x)) = true) then
 if (((0 : Int) ≤ x1) ∧ (x1 < ((u : Nat) : Int))) then
 Option.bind (us)[(0 + (Int.toNat x1))]? fun x2 =>
 if (bits < (0 : Int)) then
 none
 else
 if (((0 : Int) ≤ (IntKind.wrap .i64 (x1 + (1 : Int)))) ∧ ((IntKind.wrap .i64 (x1 + (1 : Int))) < ((u : Nat) : Int))) then
 Option.bind (us)[(0 + (Int.toNat (IntKind.wrap .i64 (x1 + (1 : Int)))))]? fun x3 =>
 if ((IntKind.wrap .u64 ((32 : Int) - bits)) < (0 : Int)) then
 none
 else
 if (((0 : Int) ≤ x1) ∧ (x1 < ((r : Nat) : Int))) then
 Option.bind (rs)[(0 + (Int.toNat x1))]? fun x4 =>
 rec q r bits u x (IntKind.wrap .i64 (x1 + (1 : Int))) qs (List.set rs (0 + (Int.toNat x1)) (IntKind.wrap .u32 (((BitVec.toNat ((BitVec.ofInt 32 (Int.fdiv x2 ((2 : Int) ^ (min (Int.toNat bits) 32)))) ||| (BitVec.ofInt 32 (IntKind.wrap .u32 (IntKind.wrap .u64 ((IntKind.wrap .u64 x3) * ((2 : Int) ^ (min (Int.toNat (IntKind.wrap .u64 ((32 : Int) - bits))) 64)))))))) : Nat) : Int))) us
 else
 none
 else
 none
 else
 none
 else
 (some (q, r, qs, rs, us))
def Lbig_long_6 (k n : Nat) : Nat → Nat → Int → Nat → Int → Int → List Int → List Int → List Int → Option (Nat × Nat × List Int × List Int × List Int) := Nat.rec (fun _ _ _ _ _ _ _ _ _ => none) (fun _ r => Lbig_long_6s k r) n
def bbig_long (k : Nat) (a : List Int) (b : List Int) : Option (List Int × List Int) :=
 Option.bind (Lbig_long_0 k k a b (0 : Int)) fun r5 =>
 Option.bind (Fbig_shift k r5.1 r5.2.2) fun r6 =>
 Option.bind (Fbig_shift k r5.2.1 r5.2.2) fun r7 =>
 if (((0 : Int) ≤ (0 : Int)) ∧ (((0 : Int) ≤ (((List.length r5.2.1) : Nat) : Int)) ∧ (((0 + (Int.toNat (((List.length r5.2.1) : Nat) : Int))) ≤ (List.length r7.2)) ∧ (((0 : Int) < (((List.length r5.2.1) : Nat) : Int)) ∨ (true = true))))) then
 if (((0 : Int) ≤ (IntKind.wrap .i64 (((r6.1 : Nat) : Int) - (((List.length r5.2.1) : Nat) : Int)))) ∧ (((IntKind.wrap .i64 (((r6.1 : Nat) : Int) - (((List.length r5.2.1) : Nat) : Int))) ≤ (IntKind.wrap .i64 (((r6.1 : Nat) : Int) - (((List.length r5.2.1) : Nat) : Int)))) ∧ (((IntKind.wrap .i64 (((r6.1 : Nat) : Int) - (((List.length r5.2.1) : Nat) : Int))) * (4 : Int)) ≤ (140737488355328 : Int)))) then
 Option.bind (Lbig_long_2 k k (Int.toNat (IntKind.wrap .i64 (((r6.1 : Nat) : Int) - (((List.length r5.2.1) : Nat) : Int)))) r5.2.2 (((List.length r5.2.1) : Nat) : Int) r6.1 (Int.toNat (((List.length r5.2.1) : Nat) : Int)) (IntKind.wrap .i64 ((IntKind.wrap .i64 (((r6.1 : Nat) : Int) - (((List.length r5.2.1) : Nat) : Int))) - (1 : Int))) (List.replicate (Int.toNat (IntKind.wrap .i64 (((r6.1 : Nat) : Int) - (((List.length r5.2.1) : Nat) : Int)))) (0 : Int)) r6.2 r7.2) fun r8 =>
 if (((0 : Int) ≤ r8.2.2.1) ∧ ((r8.2.2.1 ≤ r8.2.2.1) ∧ ((r8.2.2.1 * (4 : Int)) ≤ (140737488355328 : Int)))) then
 Option.bind (Lbig_long_6 k k r8.1 (Int.toNat r8.2.2.1) r8.2.1 r8.2.2.2.1 r8.2.2.1 (0 : Int) r8.2.2.2.2.1 (List.replicate (Int.toNat r8.2.2.1) (0 : Int)) r8.2.2.2.2.2.1) fun r9 =>
 if ((0 + r9.1) ≤ (List.length r9.2.2.1)) then
 if ((0 + r9.2.1) ≤ (List.length r9.2.2.2.1)) then
 (some ((List.take r9.1 r9.2.2.1), (List.take r9.2.1 r9.2.2.2.1)))
 else
 none
 else
 none
 else
 none
 else
 none
 else
 none
def Fbig_long : Nat → List Int → List Int → Option (List Int × List Int)
 | 0, _, _ => none
 | k + 1, a, b => bbig_long k a b
def shq39 : FS := { vs := [.a (.lf (.sl (.int .u32))), .a (.lf (.sl (.int .u32)))], bs := [] }
def rsq39 : List FS := [{ vs := [.a (.lf (.sl (.int .u32))), .a (.lf (.sl (.int .u32)))], bs := [] }]
def Iq39 (k : Nat) : Inst := ⟨124, shq39, rsq39, fun x => Fbig_long k x.1 x.2⟩
theorem alq39 (k : Nat) : AllI (call cf k) [Iq40 k, Iq43 k] := qA (okq40 k) (qA (okq43 k) qT)
def hsq123 : List SS := [{ fr := [(0, .a (.lf (.sl (.int .u32)))), (1, .a (.lf (.sl (.int .u32)))), (6, .a (.lf (.int .u64)))], mem := [], nx := 0 }]
def osq123 : List OS := [⟨some 0, { fr := [(0, .a (.lf (.sl (.int .u32)))), (1, .a (.lf (.sl (.int .u32)))), (6, .a (.lf (.int .u64)))], mem := [], nx := 0 }⟩]
def LIq123 (k : Nat) : LInst := ⟨0, hsq123, osq123, fun x => Lbig_long_0 k k x.1 x.2.1 x.2.2⟩
theorem anq123 (k : Nat) : LAll (LOk (R := DS OS.D osq123) (fun b _ σ K => LOt Ty (kps 124) 0 b σ K []) cf (call cf k) (kps 124) Try.f124.ntmps k 0) 0 (lb Try.f124 0) :=
 qA (qA qT (qA qT qT)) qT
theorem stq123 (k n : Nat) (x : DS SS.D hsq123) : Lbig_long_0 k (n + 1) x.1 x.2.1 x.2.2 = encSK SS.enc (fun σ => run2 cf (fun f a b K => COt f a b K [Iq40 k, Iq43 k]) (fun b _ σ K => LOt Ty (kps 124) 0 b σ K []) Try.f124.ntmps 0 (lb Try.f124 0) σ (nextK Ty (kps 124 0) 0 hsq123 osq123 fun x => Lbig_long_0 k n x.1 x.2.1 x.2.2)) hsq123 x := by kernel_rfl
theorem loq123 (k : Nat) : LIOk cf (call cf k) (kps 124) Try.f124.ntmps k 0 0 (lb Try.f124 0) (LIq123 k) :=
 loop_ok (c := cf) (callF := call cf k) (kp := kps 124) (nt := Try.f124.ntmps) (k := k) (p := 0) (b := 0) (x0 := lb Try.f124 0) (hs := hsq123) (os := osq123) (COt_ok (alq39 k)) (anq123 k) (fun n x => Lbig_long_0 k n x.1 x.2.1 x.2.2) (fun _ => rfl) (stq123 k)
def hsq125 : List SS := [{ fr := [(4, .a (.smz 0)), (6, .a (.lf (.int .u64))), (7, .a (.lf (.int .i64))), (8, .a (.smz 1)), (9, .a (.smz 2)), (10, .a (.lf (.int .i64))), (12, .a (.lf (.int .u64))), (13, .a (.lf (.int .u64)))], mem := [(0, some (.arr (.int .u32) 1 72 false)), (1, some (.arr (.int .u32) 1 72 false)), (2, some (.arr (.int .u32) 1 72 false))], nx := 3 }]
def osq125 : List OS := [⟨some 4, { fr := [(4, .a (.smz 0)), (6, .a (.lf (.int .u64))), (7, .a (.lf (.int .i64))), (8, .a (.smz 1)), (9, .a (.smz 2)), (10, .a (.lf (.int .i64))), (12, .a (.lf (.int .u64)))], mem := [(0, some (.arr (.int .u32) 1 72 false)), (1, some (.arr (.int .u32) 1 72 false)), (2, some (.arr (.int .u32) 1 72 false))], nx := 3 }⟩]
def LIq125 (k : Nat) : LInst := ⟨4, hsq125, osq125, fun x => Lbig_long_4 k k x.1 x.2.1 x.2.2.1 x.2.2.2.1 x.2.2.2.2.1 x.2.2.2.2.2.1 x.2.2.2.2.2.2.1 x.2.2.2.2.2.2.2.1 x.2.2.2.2.2.2.2.2.1 x.2.2.2.2.2.2.2.2.2.1 x.2.2.2.2.2.2.2.2.2.2⟩
theorem anq125 (k : Nat) : LAll (LOk (R := DS OS.D osq125) (fun b _ σ K => LOt Ty (kps 124) 0 b σ K [LIq123 k]) cf (call cf k) (kps 124) Try.f124.ntmps k 0) 4 (lb Try.f124 2) :=
 qA (qA qT (qA qT qT)) (qA qT (qA qT (qA qT (qA qT qT))))
theorem stq125 (k n : Nat) (x : DS SS.D hsq125) : Lbig_long_4 k (n + 1) x.1 x.2.1 x.2.2.1 x.2.2.2.1 x.2.2.2.2.1 x.2.2.2.2.2.1 x.2.2.2.2.2.2.1 x.2.2.2.2.2.2.2.1 x.2.2.2.2.2.2.2.2.1 x.2.2.2.2.2.2.2.2.2.1 x.2.2.2.2.2.2.2.2.2.2 = encSK SS.enc (fun σ => run2 cf (fun f a b K => COt f a b K [Iq40 k, Iq43 k]) (fun b _ σ K => LOt Ty (kps 124) 0 b σ K [LIq123 k]) Try.f124.ntmps 4 (lb Try.f124 2) σ (nextK Ty (kps 124 4) 0 hsq125 osq125 fun x => Lbig_long_4 k n x.1 x.2.1 x.2.2.1 x.2.2.2.1 x.2.2.2.2.1 x.2.2.2.2.2.1 x.2.2.2.2.2.2.1 x.2.2.2.2.2.2.2.1 x.2.2.2.2.2.2.2.2.1 x.2.2.2.2.2.2.2.2.2.1 x.2.2.2.2.2.2.2.2.2.2)) hsq125 x := by kernel_rfl
theorem loq125 (k : Nat) : LIOk cf (call cf k) (kps 124) Try.f124.ntmps k 0 4 (lb Try.f124 2) (LIq125 k) :=
 loop_ok (c := cf) (callF := call cf k) (kp := kps 124) (nt := Try.f124.ntmps) (k := k) (p := 0) (b := 4) (x0 := lb Try.f124 2) (hs := hsq125) (os := osq125) (COt_ok (alq39 k)) (anq125 k) (fun n x => Lbig_long_4 k n x.1 x.2.1 x.2.2.1 x.2.2.2.1 x.2.2.2.2.1 x.2.2.2.2.2.1 x.2.2.2.2.2.2.1 x.2.2.2.2.2.2.2.1 x.2.2.2.2.2.2.2.2.1 x.2.2.2.2.2.2.2.2.2.1 x.2.2.2.2.2.2.2.2.2.2) (fun _ => rfl) (stq125 k)
def hsq124 : List SS := [{ fr := [(4, .a (.smz 0)), (6, .a (.lf (.int .u64))), (7, .a (.lf (.int .i64))), (8, .a (.smz 1)), (9, .a (.smz 2)), (10, .a (.lf (.int .i64)))], mem := [(0, some (.arr (.int .u32) 1 72 false)), (1, some (.arr (.int .u32) 1 72 false)), (2, some (.arr (.int .u32) 1 72 false))], nx := 3 }]
def osq124 : List OS := [⟨some 2, { fr := [(4, .a (.smz 0)), (6, .a (.lf (.int .u64))), (7, .a (.lf (.int .i64))), (8, .a (.smz 1))], mem := [(0, some (.arr (.int .u32) 1 72 false)), (1, some (.arr (.int .u32) 1 72 false)), (2, some (.arr (.int .u32) 1 72 false))], nx := 3 }⟩]
def LIq124 (k : Nat) : LInst := ⟨2, hsq124, osq124, fun x => Lbig_long_2 k k x.1 x.2.1 x.2.2.1 x.2.2.2.1 x.2.2.2.2.1 x.2.2.2.2.2.1 x.2.2.2.2.2.2.1 x.2.2.2.2.2.2.2.1 x.2.2.2.2.2.2.2.2⟩
theorem anq124 (k : Nat) : LAll (LOk (R := DS OS.D osq124) (fun b _ σ K => LOt Ty (kps 124) 0 b σ K [LIq123 k, LIq125 k]) cf (call cf k) (kps 124) Try.f124.ntmps k 0) 2 (lb Try.f124 1) :=
 qA (qA qT (qA qT qT)) (qA (qA qT (qA qT (qA (LOt_ok (c := cf) (callF := call cf k) (kp := kps 124) (nt := Try.f124.ntmps) (k := k) (p := 0) (b := 4) (x0 := lb Try.f124 2) (l := [LIq123 k, LIq125 k]) (qA (fun h => absurd (show (0 : Nat) = 4 from h) (by decide)) (qA (fun _ => loq125 k) qT))) qT))) qT)
theorem stq124 (k n : Nat) (x : DS SS.D hsq124) : Lbig_long_2 k (n + 1) x.1 x.2.1 x.2.2.1 x.2.2.2.1 x.2.2.2.2.1 x.2.2.2.2.2.1 x.2.2.2.2.2.2.1 x.2.2.2.2.2.2.2.1 x.2.2.2.2.2.2.2.2 = encSK SS.enc (fun σ => run2 cf (fun f a b K => COt f a b K [Iq40 k, Iq43 k]) (fun b _ σ K => LOt Ty (kps 124) 0 b σ K [LIq123 k, LIq125 k]) Try.f124.ntmps 2 (lb Try.f124 1) σ (nextK Ty (kps 124 2) 0 hsq124 osq124 fun x => Lbig_long_2 k n x.1 x.2.1 x.2.2.1 x.2.2.2.1 x.2.2.2.2.1 x.2.2.2.2.2.1 x.2.2.2.2.2.2.1 x.2.2.2.2.2.2.2.1 x.2.2.2.2.2.2.2.2)) hsq124 x := by kernel_rfl
theorem loq124 (k : Nat) : LIOk cf (call cf k) (kps 124) Try.f124.ntmps k 0 2 (lb Try.f124 1) (LIq124 k) :=
 loop_ok (c := cf) (callF := call cf k) (kp := kps 124) (nt := Try.f124.ntmps) (k := k) (p := 0) (b := 2) (x0 := lb Try.f124 1) (hs := hsq124) (os := osq124) (COt_ok (alq39 k)) (anq124 k) (fun n x => Lbig_long_2 k n x.1 x.2.1 x.2.2.1 x.2.2.2.1 x.2.2.2.2.1 x.2.2.2.2.2.1 x.2.2.2.2.2.2.1 x.2.2.2.2.2.2.2.1 x.2.2.2.2.2.2.2.2) (fun _ => rfl) (stq124 k)
def hsq126 : List SS := [{ fr := [(4, .a (.smz 0)), (5, .a (.smz 1)), (6, .a (.lf (.int .u64))), (8, .a (.smz 2)), (139, .a (.lf (.int .i64))), (140, .a (.lf (.int .i64)))], mem := [(0, some (.arr (.int .u32) 1 72 false)), (1, some (.arr (.int .u32) 1 72 false)), (2, some (.arr (.int .u32) 1 72 false))], nx := 3 }]
def osq126 : List OS := [⟨some 6, { fr := [(4, .a (.smz 0)), (5, .a (.smz 1))], mem := [(0, some (.arr (.int .u32) 1 72 false)), (1, some (.arr (.int .u32) 1 72 false)), (2, some (.arr (.int .u32) 1 72 false))], nx := 3 }⟩]
def LIq126 (k : Nat) : LInst := ⟨6, hsq126, osq126, fun x => Lbig_long_6 k k x.1 x.2.1 x.2.2.1 x.2.2.2.1 x.2.2.2.2.1 x.2.2.2.2.2.1 x.2.2.2.2.2.2.1 x.2.2.2.2.2.2.2.1 x.2.2.2.2.2.2.2.2⟩
theorem anq126 (k : Nat) : LAll (LOk (R := DS OS.D osq126) (fun b _ σ K => LOt Ty (kps 124) 0 b σ K [LIq123 k, LIq125 k, LIq124 k]) cf (call cf k) (kps 124) Try.f124.ntmps k 0) 6 (lb Try.f124 3) :=
 qA qT (qA (qA qT qT) (qA (qA qT qT) qT))
theorem stq126 (k n : Nat) (x : DS SS.D hsq126) : Lbig_long_6 k (n + 1) x.1 x.2.1 x.2.2.1 x.2.2.2.1 x.2.2.2.2.1 x.2.2.2.2.2.1 x.2.2.2.2.2.2.1 x.2.2.2.2.2.2.2.1 x.2.2.2.2.2.2.2.2 = encSK SS.enc (fun σ => run2 cf (fun f a b K => COt f a b K [Iq40 k, Iq43 k]) (fun b _ σ K => LOt Ty (kps 124) 0 b σ K [LIq123 k, LIq125 k, LIq124 k]) Try.f124.ntmps 6 (lb Try.f124 3) σ (nextK Ty (kps 124 6) 0 hsq126 osq126 fun x => Lbig_long_6 k n x.1 x.2.1 x.2.2.1 x.2.2.2.1 x.2.2.2.2.1 x.2.2.2.2.2.1 x.2.2.2.2.2.2.1 x.2.2.2.2.2.2.2.1 x.2.2.2.2.2.2.2.2)) hsq126 x := by kernel_rfl
theorem loq126 (k : Nat) : LIOk cf (call cf k) (kps 124) Try.f124.ntmps k 0 6 (lb Try.f124 3) (LIq126 k) :=
 loop_ok (c := cf) (callF := call cf k) (kp := kps 124) (nt := Try.f124.ntmps) (k := k) (p := 0) (b := 6) (x0 := lb Try.f124 3) (hs := hsq126) (os := osq126) (COt_ok (alq39 k)) (anq126 k) (fun n x => Lbig_long_6 k n x.1 x.2.1 x.2.2.1 x.2.2.2.1 x.2.2.2.2.1 x.2.2.2.2.2.1 x.2.2.2.2.2.2.1 x.2.2.2.2.2.2.2.1 x.2.2.2.2.2.2.2.2) (fun _ => rfl) (stq126 k)
theorem anq39 (k : Nat) : LAll (LOk (R := DS FS.D rsq39) (fun b _ σ K => LOt Ty (kps 124) 0 b σ K [LIq123 k, LIq125 k, LIq124 k, LIq126 k]) cf (call cf k) (cf.keep 124) Try.f124.ntmps k shq39.bs.length) 0 (bd Try.f124) :=
 qA qT (qA qT (qA (LOt_ok (c := cf) (callF := call cf k) (kp := kps 124) (nt := Try.f124.ntmps) (k := k) (p := 0) (b := 0) (x0 := lb Try.f124 0) (l := [LIq123 k, LIq125 k, LIq124 k, LIq126 k]) (qA (fun _ => loq123 k) (qA (fun h => absurd (show (4 : Nat) = 0 from h) (by decide)) (qA (fun h => absurd (show (2 : Nat) = 0 from h) (by decide)) (qA (fun h => absurd (show (6 : Nat) = 0 from h) (by decide)) qT))))) (qA qT (qA qT (qA qT (qA (qA qT (LOt_ok (c := cf) (callF := call cf k) (kp := kps 124) (nt := Try.f124.ntmps) (k := k) (p := 0) (b := 2) (x0 := lb Try.f124 1) (l := [LIq123 k, LIq125 k, LIq124 k, LIq126 k]) (qA (fun h => absurd (show (0 : Nat) = 2 from h) (by decide)) (qA (fun h => absurd (show (4 : Nat) = 2 from h) (by decide)) (qA (fun _ => loq124 k) (qA (fun h => absurd (show (6 : Nat) = 2 from h) (by decide)) qT)))))) (qA qT (qA (qA qT (LOt_ok (c := cf) (callF := call cf k) (kp := kps 124) (nt := Try.f124.ntmps) (k := k) (p := 0) (b := 6) (x0 := lb Try.f124 3) (l := [LIq123 k, LIq125 k, LIq124 k, LIq126 k]) (qA (fun h => absurd (show (0 : Nat) = 6 from h) (by decide)) (qA (fun h => absurd (show (4 : Nat) = 6 from h) (by decide)) (qA (fun h => absurd (show (2 : Nat) = 6 from h) (by decide)) (qA (fun _ => loq126 k) qT)))))) (qA qT qT)))))))))
theorem stq39 (k : Nat) (x : shq39.D) : Fbig_long (k + 1) x.1 x.2 = body2 cf (fun f a b K => COt f a b K [Iq40 k, Iq43 k]) (fun b _ σ K => LOt Ty (kps 124) 0 b σ K [LIq123 k, LIq125 k, LIq124 k, LIq126 k]) 124 Try.f124.ntmps Try.f124.results.toList (bd Try.f124) (shq39.enc x).1 (shq39.enc x).2 (putS FS.dec rsq39) := by kernel_rfl
theorem okq39 : ∀ k, InstOk (call cf k) (Iq39 k)
 | 0 => fun x y e => absurd (show (none : Option _) = some y from e) (by simp)
 | k + 1 => inst_ok (c := cf) (k := k) (f := 124) (fn := Try.f124) (body := bd Try.f124) (sh := shq39) (os := rsq39) rfl Try.func124 rfl ⟨rfl, Nat.le_of_ble_eq_true rfl⟩ (COt_ok (alq39 k)) (anq39 k) (fun x => Fbig_long (k + 1) x.1 x.2) (stq39 k)

/-! shunt/big.divide -/
def bbig_divide (k : Nat) (a : List Int) (b : List Int) : Option (List Int × List Int) :=
 Option.bind (Fbig_cmp k a b) fun r4 =>
 if ((decide (r4 < (0 : Int))) = true) then
 (some ([], a))
 else
 if (((((List.length b) : Nat) : Int) == (1 : Int)) = true) then
 Option.bind (b)[0]? fun x2 =>
 Option.bind (Fbig_short k a x2) fun r5 =>
 (some (r5.1, (List.take 1 (r5.2 :: []))))
 else
 Option.bind (Fbig_long k a b) fun r5 =>
 (some (r5.1, r5.2))
def Fbig_divide : Nat → List Int → List Int → Option (List Int × List Int)
 | 0, _, _ => none
 | k + 1, a, b => bbig_divide k a b
def shq38 : FS := { vs := [.a (.lf (.sl (.int .u32))), .a (.lf (.sl (.int .u32)))], bs := [] }
def rsq38 : List FS := [{ vs := [.a (.lf (.sl (.int .u32))), .a (.lf (.sl (.int .u32)))], bs := [] }]
def Iq38 (k : Nat) : Inst := ⟨121, shq38, rsq38, fun x => Fbig_divide k x.1 x.2⟩
theorem alq38 (k : Nat) : AllI (call cf k) [Iq37 k, Iq41 k, Iq39 k] := qA (okq37 k) (qA (okq41 k) (qA (okq39 k) qT))
theorem anq38 (k : Nat) : LAll (LOk (R := DS FS.D rsq38) (fun b _ σ K => LOt Ty (kps 121) 0 b σ K []) cf (call cf k) (cf.keep 121) Try.f121.ntmps k shq38.bs.length) 0 (bd Try.f121) :=
 qA qT (qA (qA qT (qA (qA qT qT) (qA qT (qA (qA qT (qA qT qT)) qT)))) (qA qT qT))
theorem stq38 (k : Nat) (x : shq38.D) : Fbig_divide (k + 1) x.1 x.2 = body2 cf (fun f a b K => COt f a b K [Iq37 k, Iq41 k, Iq39 k]) (fun b _ σ K => LOt Ty (kps 121) 0 b σ K []) 121 Try.f121.ntmps Try.f121.results.toList (bd Try.f121) (shq38.enc x).1 (shq38.enc x).2 (putS FS.dec rsq38) := by kernel_rfl
theorem okq38 : ∀ k, InstOk (call cf k) (Iq38 k)
 | 0 => fun x y e => absurd (show (none : Option _) = some y from e) (by simp)
 | k + 1 => inst_ok (c := cf) (k := k) (f := 121) (fn := Try.f121) (body := bd Try.f121) (sh := shq38) (os := rsq38) rfl Try.func121 rfl ⟨rfl, Nat.le_of_ble_eq_true rfl⟩ (COt_ok (alq38 k)) (anq38 k) (fun x => Fbig_divide (k + 1) x.1 x.2) (stq38 k)

/-! (*shunt/big.Int).set -/
def bbig_Int_set_cvg (k : Nat) (neg : Bool) (w : List Int) (z : Bool) : Option (Bool × List Int) :=
 Option.bind (Fbig_trim k w) fun r5 =>
 if (neg = true) then
 (some ((decide ((((List.length r5) : Nat) : Int) > (0 : Int))), r5))
 else
 (some (false, r5))
def Fbig_Int_set_cvg : Nat → Bool → List Int → Bool → Option (Bool × List Int)
 | 0, _, _, _ => none
 | k + 1, neg, w, z => bbig_Int_set_cvg k neg w z
def shq15 : FS := { vs := [.a (.ptr 0 0 0), .a (.lf .bool), .a (.lf (.sl (.int .u32)))], bs := [.raw [[.lf .bool, .snil 1 72]] 2 98 true false] }
def rsq15 : List FS := [{ vs := [.a (.ptr 0 0 0)], bs := [.raw [[.lf .bool, .lf (.sl (.int .u32))]] 2 98 true false] }]
def Iq15 (k : Nat) : Inst := ⟨110, shq15, rsq15, fun x => Fbig_Int_set_cvg k x.1 x.2.1 x.2.2⟩
theorem alq15 (k : Nat) : AllI (call cf k) [Iq44 k] := qA (okq44 k) qT
theorem anq15 (k : Nat) : LAll (LOk (R := DS FS.D rsq15) (fun b _ σ K => LOt Ty (kps 110) 1 b σ K []) cf (call cf k) (cf.keep 110) Try.f110.ntmps k shq15.bs.length) 0 (bd Try.f110) :=
 qA qT (qA qT (qA qT (qA qT qT)))
theorem stq15 (k : Nat) (x : shq15.D) : Fbig_Int_set_cvg (k + 1) x.1 x.2.1 x.2.2 = body2 cf (fun f a b K => COt f a b K [Iq44 k]) (fun b _ σ K => LOt Ty (kps 110) 1 b σ K []) 110 Try.f110.ntmps Try.f110.results.toList (bd Try.f110) (shq15.enc x).1 (shq15.enc x).2 (putS FS.dec rsq15) := by kernel_rfl
theorem okq15 : ∀ k, InstOk (call cf k) (Iq15 k)
 | 0 => fun x y e => absurd (show (none : Option _) = some y from e) (by simp)
 | k + 1 => inst_ok (c := cf) (k := k) (f := 110) (fn := Try.f110) (body := bd Try.f110) (sh := shq15) (os := rsq15) rfl Try.func110 rfl ⟨rfl, Nat.le_of_ble_eq_true rfl⟩ (COt_ok (alq15 k)) (anq15 k) (fun x => Fbig_Int_set_cvg (k + 1) x.1 x.2.1 x.2.2) (stq15 k)

/-! shunt/big.Gcd -/
def Lbig_Gcd_ddu_0s (k : Nat) (rec : List Int → List Int → Bool → List Int → Bool → List Int → Option (List Int × Bool × List Int × Bool × List Int)) (a : List Int) (b : List Int) (m0 : Bool) (m1 : List Int) (m01 : Bool) (m11 : List Int) : Option (List Int × Bool × List Int × Bool × List Int) :=
 if ((decide ((((List.length b) : Nat) : Int) > (0 : Int))) = true) then
 Option.bind (Fbig_divide k a b) fun r4 =>
 if (((0 + (List.length r4.2)) * 4) ≤ 140737488355328) then
 if ((0 + (0 + (List.length r4.2))) ≤ (List.length ((List.take 0 []) ++ r4.2))) then
 Option.bind (Fbig_trim k (List.take (0 + (List.length r4.2)) ((List.take 0 []) ++ r4.2))) fun r5 =>
 rec b r5 m0 m1 m01 m11
 else
 none
 else
 none
 else
 (some (a, m0, m1, m01, m11))
def Lbig_Gcd_ddu_0 (k n : Nat) : List Int → List Int → Bool → List Int → Bool → List Int → Option (List Int × Bool × List Int × Bool × List Int) := Nat.rec (fun _ _ _ _ _ _ => none) (fun _ r => Lbig_Gcd_ddu_0s k r) n
def bbig_Gcd_ddu (k : Nat) (x0 : Bool) (x1 : List Int) (y0 : Bool) (y1 : List Int) : Option (Bool × List Int × Bool × List Int × Bool × List Int) :=
 Option.bind (Lbig_Gcd_ddu_0 k k x1 y1 x0 x1 y0 y1) fun r4 =>
 Option.bind (Fbig_Int_set_cvg k false r4.1 false) fun r5 =>
 (some (r4.2.1, r4.2.2.1, r4.2.2.2.1, r4.2.2.2.2, r5.1, r5.2))
def Fbig_Gcd_ddu : Nat → Bool → List Int → Bool → List Int → Option (Bool × List Int × Bool × List Int × Bool × List Int)
 | 0, _, _, _, _ => none
 | k + 1, x0, x1, y0, y1 => bbig_Gcd_ddu k x0 x1 y0 y1
def shq1 : FS := { vs := [.a (.ptr 0 0 0), .a (.ptr 1 0 0)], bs := [.raw [[.lf .bool, .lf (.sl (.int .u32))]] 2 98 true false, .raw [[.lf .bool, .lf (.sl (.int .u32))]] 2 98 true false] }
def rsq1 : List FS := [{ vs := [.a (.ptr 2 0 0)], bs := [.raw [[.lf .bool, .lf (.sl (.int .u32))]] 2 98 true false, .raw [[.lf .bool, .lf (.sl (.int .u32))]] 2 98 true false, .raw [[.lf .bool, .lf (.sl (.int .u32))]] 2 98 true false] }]
def Iq1 (k : Nat) : Inst := ⟨109, shq1, rsq1, fun x => Fbig_Gcd_ddu k x.1 x.2.1 x.2.2.1 x.2.2.2⟩
theorem alq1 (k : Nat) : AllI (call cf k) [Iq38 k, Iq44 k, Iq15 k] := qA (okq38 k) (qA (okq44 k) (qA (okq15 k) qT))
def hsq106 : List SS := [{ fr := [(5, .a (.lf (.sl (.int .u32)))), (6, .a (.lf (.sl (.int .u32))))], mem := [(0, some (.raw [[.lf .bool, .lf (.sl (.int .u32))]] 2 98 true false)), (1, some (.raw [[.lf .bool, .lf (.sl (.int .u32))]] 2 98 true false))], nx := 2 }]
def osq106 : List OS := [⟨some 0, { fr := [(5, .a (.lf (.sl (.int .u32))))], mem := [(0, some (.raw [[.lf .bool, .lf (.sl (.int .u32))]] 2 98 true false)), (1, some (.raw [[.lf .bool, .lf (.sl (.int .u32))]] 2 98 true false))], nx := 2 }⟩]
def LIq106 (k : Nat) : LInst := ⟨0, hsq106, osq106, fun x => Lbig_Gcd_ddu_0 k k x.1 x.2.1 x.2.2.1 x.2.2.2.1 x.2.2.2.2.1 x.2.2.2.2.2⟩
theorem anq106 (k : Nat) : LAll (LOk (R := DS OS.D osq106) (fun b _ σ K => LOt Ty (kps 109) 2 b σ K []) cf (call cf k) (kps 109) Try.f109.ntmps k 2) 0 (lb Try.f109 0) :=
 qA (qA qT (qA qT qT)) (qA qT qT)
theorem stq106 (k n : Nat) (x : DS SS.D hsq106) : Lbig_Gcd_ddu_0 k (n + 1) x.1 x.2.1 x.2.2.1 x.2.2.2.1 x.2.2.2.2.1 x.2.2.2.2.2 = encSK SS.enc (fun σ => run2 cf (fun f a b K => COt f a b K [Iq38 k, Iq44 k, Iq15 k]) (fun b _ σ K => LOt Ty (kps 109) 2 b σ K []) Try.f109.ntmps 0 (lb Try.f109 0) σ (nextK Ty (kps 109 0) 2 hsq106 osq106 fun x => Lbig_Gcd_ddu_0 k n x.1 x.2.1 x.2.2.1 x.2.2.2.1 x.2.2.2.2.1 x.2.2.2.2.2)) hsq106 x := by kernel_rfl
theorem loq106 (k : Nat) : LIOk cf (call cf k) (kps 109) Try.f109.ntmps k 2 0 (lb Try.f109 0) (LIq106 k) :=
 loop_ok (c := cf) (callF := call cf k) (kp := kps 109) (nt := Try.f109.ntmps) (k := k) (p := 2) (b := 0) (x0 := lb Try.f109 0) (hs := hsq106) (os := osq106) (COt_ok (alq1 k)) (anq106 k) (fun n x => Lbig_Gcd_ddu_0 k n x.1 x.2.1 x.2.2.1 x.2.2.2.1 x.2.2.2.2.1 x.2.2.2.2.2) (fun _ => rfl) (stq106 k)
theorem anq1 (k : Nat) : LAll (LOk (R := DS FS.D rsq1) (fun b _ σ K => LOt Ty (kps 109) 2 b σ K [LIq106 k]) cf (call cf k) (cf.keep 109) Try.f109.ntmps k shq1.bs.length) 0 (bd Try.f109) :=
 qA qT (qA qT (qA (LOt_ok (c := cf) (callF := call cf k) (kp := kps 109) (nt := Try.f109.ntmps) (k := k) (p := 2) (b := 0) (x0 := lb Try.f109 0) (l := [LIq106 k]) (qA (fun _ => loq106 k) qT)) (qA qT qT)))
theorem stq1 (k : Nat) (x : shq1.D) : Fbig_Gcd_ddu (k + 1) x.1 x.2.1 x.2.2.1 x.2.2.2 = body2 cf (fun f a b K => COt f a b K [Iq38 k, Iq44 k, Iq15 k]) (fun b _ σ K => LOt Ty (kps 109) 2 b σ K [LIq106 k]) 109 Try.f109.ntmps Try.f109.results.toList (bd Try.f109) (shq1.enc x).1 (shq1.enc x).2 (putS FS.dec rsq1) := by kernel_rfl
theorem okq1 : ∀ k, InstOk (call cf k) (Iq1 k)
 | 0 => fun x y e => absurd (show (none : Option _) = some y from e) (by simp)
 | k + 1 => inst_ok (c := cf) (k := k) (f := 109) (fn := Try.f109) (body := bd Try.f109) (sh := shq1) (os := rsq1) rfl Try.func109 rfl ⟨rfl, Nat.le_of_ble_eq_true rfl⟩ (COt_ok (alq1 k)) (anq1 k) (fun x => Fbig_Gcd_ddu (k + 1) x.1 x.2.1 x.2.2.1 x.2.2.2) (stq1 k)

/-! (*shunt/big.Int).QuoRem -/
def bbig_Int_QuoRem_gsh (k : Nat) (z : Bool) (x0 : Bool) (x1 : List Int) (y0 : Bool) (y1 : List Int) (r : Bool) : Option (Bool × List Int × Bool × List Int × Bool × List Int × Bool × List Int) :=
 Option.bind (Fbig_divide k x1 y1) fun r5 =>
 Option.bind (Fbig_Int_set_cvg k x0 r5.2 r) fun r6 =>
 Option.bind (Fbig_Int_set_cvg k (!(x0 == y0)) r5.1 z) fun r7 =>
 (some (r7.1, r7.2, x0, x1, y0, y1, r6.1, r6.2))
def Fbig_Int_QuoRem_gsh : Nat → Bool → Bool → List Int → Bool → List Int → Bool → Option (Bool × List Int × Bool × List Int × Bool × List Int × Bool × List Int)
 | 0, _, _, _, _, _, _ => none
 | k + 1, z, x0, x1, y0, y1, r => bbig_Int_QuoRem_gsh k z x0 x1 y0 y1 r
def shq10 : FS := { vs := [.a (.ptr 0 0 0), .a (.ptr 1 0 0), .a (.ptr 2 0 0), .a (.ptr 3 0 0)], bs := [.raw [[.lf .bool, .snil 1 72]] 2 98 true false, .raw [[.lf .bool, .lf (.sl (.int .u32))]] 2 98 true false, .raw [[.lf .bool, .lf (.sl (.int .u32))]] 2 98 true false, .raw [[.lf .bool, .snil 1 72]] 2 98 true false] }
def rsq10 : List FS := [{ vs := [.a (.ptr 0 0 0), .a (.ptr 3 0 0)], bs := [.raw [[.lf .bool, .lf (.sl (.int .u32))]] 2 98 true false, .raw [[.lf .bool, .lf (.sl (.int .u32))]] 2 98 true false, .raw [[.lf .bool, .lf (.sl (.int .u32))]] 2 98 true false, .raw [[.lf .bool, .lf (.sl (.int .u32))]] 2 98 true false] }]
def Iq10 (k : Nat) : Inst := ⟨114, shq10, rsq10, fun x => Fbig_Int_QuoRem_gsh k x.1 x.2.1 x.2.2.1 x.2.2.2.1 x.2.2.2.2.1 x.2.2.2.2.2⟩
theorem alq10 (k : Nat) : AllI (call cf k) [Iq38 k, Iq15 k] := qA (okq38 k) (qA (okq15 k) qT)
theorem anq10 (k : Nat) : LAll (LOk (R := DS FS.D rsq10) (fun b _ σ K => LOt Ty (kps 114) 4 b σ K []) cf (call cf k) (cf.keep 114) Try.f114.ntmps k shq10.bs.length) 0 (bd Try.f114) :=
 qA qT (qA qT (qA qT (qA qT (qA qT qT))))
theorem stq10 (k : Nat) (x : shq10.D) : Fbig_Int_QuoRem_gsh (k + 1) x.1 x.2.1 x.2.2.1 x.2.2.2.1 x.2.2.2.2.1 x.2.2.2.2.2 = body2 cf (fun f a b K => COt f a b K [Iq38 k, Iq15 k]) (fun b _ σ K => LOt Ty (kps 114) 4 b σ K []) 114 Try.f114.ntmps Try.f114.results.toList (bd Try.f114) (shq10.enc x).1 (shq10.enc x).2 (putS FS.dec rsq10) := by kernel_rfl
theorem okq10 : ∀ k, InstOk (call cf k) (Iq10 k)
 | 0 => fun x y e => absurd (show (none : Option _) = some y from e) (by simp)
 | k + 1 => inst_ok (c := cf) (k := k) (f := 114) (fn := Try.f114) (body := bd Try.f114) (sh := shq10) (os := rsq10) rfl Try.func114 rfl ⟨rfl, Nat.le_of_ble_eq_true rfl⟩ (COt_ok (alq10 k)) (anq10 k) (fun x => Fbig_Int_QuoRem_gsh (k + 1) x.1 x.2.1 x.2.2.1 x.2.2.2.1 x.2.2.2.2.1 x.2.2.2.2.2) (stq10 k)

/-! (*shunt/big.Int).Quo -/
def bbig_Int_Quo_gsh (k : Nat) (z : Bool) (x0 : Bool) (x1 : List Int) (y0 : Bool) (y1 : List Int) : Option (Bool × List Int × Bool × List Int × Bool × List Int) :=
 Option.bind (Fbig_Int_QuoRem_gsh k z x0 x1 y0 y1 false) fun r5 =>
 (some (r5.1, r5.2.1, r5.2.2.1, r5.2.2.2.1, r5.2.2.2.2.1, r5.2.2.2.2.2.1))
def Fbig_Int_Quo_gsh : Nat → Bool → Bool → List Int → Bool → List Int → Option (Bool × List Int × Bool × List Int × Bool × List Int)
 | 0, _, _, _, _, _ => none
 | k + 1, z, x0, x1, y0, y1 => bbig_Int_Quo_gsh k z x0 x1 y0 y1
def shq11 : FS := { vs := [.a (.ptr 0 0 0), .a (.ptr 1 0 0), .a (.ptr 2 0 0)], bs := [.raw [[.lf .bool, .snil 1 72]] 2 98 true false, .raw [[.lf .bool, .lf (.sl (.int .u32))]] 2 98 true false, .raw [[.lf .bool, .lf (.sl (.int .u32))]] 2 98 true false] }
def rsq11 : List FS := [{ vs := [.a (.ptr 0 0 0)], bs := [.raw [[.lf .bool, .lf (.sl (.int .u32))]] 2 98 true false, .raw [[.lf .bool, .lf (.sl (.int .u32))]] 2 98 true false, .raw [[.lf .bool, .lf (.sl (.int .u32))]] 2 98 true false] }]
def Iq11 (k : Nat) : Inst := ⟨112, shq11, rsq11, fun x => Fbig_Int_Quo_gsh k x.1 x.2.1 x.2.2.1 x.2.2.2.1 x.2.2.2.2⟩
theorem alq11 (k : Nat) : AllI (call cf k) [Iq10 k] := qA (okq10 k) qT
theorem anq11 (k : Nat) : LAll (LOk (R := DS FS.D rsq11) (fun b _ σ K => LOt Ty (kps 112) 3 b σ K []) cf (call cf k) (cf.keep 112) Try.f112.ntmps k shq11.bs.length) 0 (bd Try.f112) :=
 qA qT (qA qT (qA qT qT))
theorem stq11 (k : Nat) (x : shq11.D) : Fbig_Int_Quo_gsh (k + 1) x.1 x.2.1 x.2.2.1 x.2.2.2.1 x.2.2.2.2 = body2 cf (fun f a b K => COt f a b K [Iq10 k]) (fun b _ σ K => LOt Ty (kps 112) 3 b σ K []) 112 Try.f112.ntmps Try.f112.results.toList (bd Try.f112) (shq11.enc x).1 (shq11.enc x).2 (putS FS.dec rsq11) := by kernel_rfl
theorem okq11 : ∀ k, InstOk (call cf k) (Iq11 k)
 | 0 => fun x y e => absurd (show (none : Option _) = some y from e) (by simp)
 | k + 1 => inst_ok (c := cf) (k := k) (f := 112) (fn := Try.f112) (body := bd Try.f112) (sh := shq11) (os := rsq11) rfl Try.func112 rfl ⟨rfl, Nat.le_of_ble_eq_true rfl⟩ (COt_ok (alq11 k)) (anq11 k) (fun x => Fbig_Int_Quo_gsh (k + 1) x.1 x.2.1 x.2.2.1 x.2.2.2.1 x.2.2.2.2) (stq11 k)

/-! (*shunt/big.Rat).frac -/
def bbig_Rat_frac_xda (k : Nat) (z0 : Bool) (z1 : Bool) (n0 : Bool) (n1 : List Int) (d0 : Bool) (d1 : List Int) : Option (Bool × List Int × Bool × List Int × Bool × List Int × Bool × List Int) :=
 Option.bind (Fbig_Gcd_ddu k n0 n1 d0 d1) fun r4 =>
 if (r4.2.2.1 = true) then
 Option.bind (Fbig_Int_Quo_gsh k false r4.1 r4.2.1 true r4.2.2.2.2.2) fun r5 =>
 Option.bind (Fbig_Int_Quo_gsh k false r4.2.2.1 r4.2.2.2.1 r5.2.2.2.2.1 r5.2.2.2.2.2) fun r6 =>
 (some (r5.1, r5.2.1, r6.1, r6.2.1, r5.2.2.1, r5.2.2.2.1, r6.2.2.1, r6.2.2.2.1))
 else
 Option.bind (Fbig_Int_Quo_gsh k false r4.1 r4.2.1 r4.2.2.2.2.1 r4.2.2.2.2.2) fun r5 =>
 Option.bind (Fbig_Int_Quo_gsh k false r4.2.2.1 r4.2.2.2.1 r5.2.2.2.2.1 r5.2.2.2.2.2) fun r6 =>
 (some (r5.1, r5.2.1, r6.1, r6.2.1, r5.2.2.1, r5.2.2.2.1, r6.2.2.1, r6.2.2.2.1))
def Fbig_Rat_frac_xda : Nat → Bool → Bool → Bool → List Int → Bool → List Int → Option (Bool × List Int × Bool × List Int × Bool × List Int × Bool × List Int)
 | 0, _, _, _, _, _, _ => none
 | k + 1, z0, z1, n0, n1, d0, d1 => bbig_Rat_frac_xda k z0 z1 n0 n1 d0 d1
def shq34 : FS := { vs := [.a (.ptr 0 0 0), .a (.ptr 1 0 0), .a (.ptr 2 0 0)], bs := [.raw [[.lf .bool, .snil 1 72, .lf .bool, .snil 1 72]] 4 100 true false, .raw [[.lf .bool, .lf (.sl (.int .u32))]] 2 98 true false, .raw [[.lf .bool, .lf (.sl (.int .u32))]] 2 98 true false] }
def rsq34 : List FS := [{ vs := [.a (.ptr 0 0 0)], bs := [.raw [[.lf .bool, .lf (.sl (.int .u32)), .lf .bool, .lf (.sl (.int .u32))]] 4 100 true false, .raw [[.lf .bool, .lf (.sl (.int .u32))]] 2 98 true false, .raw [[.lf .bool, .lf (.sl (.int .u32))]] 2 98 true false] }]
def Iq34 (k : Nat) : Inst := ⟨88, shq34, rsq34, fun x => Fbig_Rat_frac_xda k x.1 x.2.1 x.2.2.1 x.2.2.2.1 x.2.2.2.2.1 x.2.2.2.2.2⟩
theorem alq34 (k : Nat) : AllI (call cf k) [Iq1 k, Iq11 k] := qA (okq1 k) (qA (okq11 k) qT)
theorem anq34 (k : Nat) : LAll (LOk (R := DS FS.D rsq34) (fun b _ σ K => LOt Ty (kps 88) 3 b σ K []) cf (call cf k) (cf.keep 88) Try.f88.ntmps k shq34.bs.length) 0 (bd Try.f88) :=
 qA qT (qA qT (qA (qA qT (qA qT qT)) (qA qT (qA qT (qA qT (qA qT (qA qT qT)))))))
theorem stq34 (k : Nat) (x : shq34.D) : Fbig_Rat_frac_xda (k + 1) x.1 x.2.1 x.2.2.1 x.2.2.2.1 x.2.2.2.2.1 x.2.2.2.2.2 = body2 cf (fun f a b K => COt f a b K [Iq1 k, Iq11 k]) (fun b _ σ K => LOt Ty (kps 88) 3 b σ K []) 88 Try.f88.ntmps Try.f88.results.toList (bd Try.f88) (shq34.enc x).1 (shq34.enc x).2 (putS FS.dec rsq34) := by kernel_rfl
theorem okq34 : ∀ k, InstOk (call cf k) (Iq34 k)
 | 0 => fun x y e => absurd (show (none : Option _) = some y from e) (by simp)
 | k + 1 => inst_ok (c := cf) (k := k) (f := 88) (fn := Try.f88) (body := bd Try.f88) (sh := shq34) (os := rsq34) rfl Try.func88 rfl ⟨rfl, Nat.le_of_ble_eq_true rfl⟩ (COt_ok (alq34 k)) (anq34 k) (fun x => Fbig_Rat_frac_xda (k + 1) x.1 x.2.1 x.2.2.1 x.2.2.2.1 x.2.2.2.2.1 x.2.2.2.2.2) (stq34 k)

/-! shunt/big.Frac -/
def bbig_Frac_ddu (k : Nat) (n0 : Bool) (n1 : List Int) (d0 : Bool) (d1 : List Int) : Option (Bool × List Int × Bool × List Int × Bool × List Int × Bool × List Int) :=
 Option.bind (Fbig_Rat_frac_xda k false false n0 n1 d0 d1) fun r4 =>
 (some (r4.2.2.2.2.1, r4.2.2.2.2.2.1, r4.2.2.2.2.2.2.1, r4.2.2.2.2.2.2.2, r4.1, r4.2.1, r4.2.2.1, r4.2.2.2.1))
def Fbig_Frac_ddu : Nat → Bool → List Int → Bool → List Int → Option (Bool × List Int × Bool × List Int × Bool × List Int × Bool × List Int)
 | 0, _, _, _, _ => none
 | k + 1, n0, n1, d0, d1 => bbig_Frac_ddu k n0 n1 d0 d1
def shq0 : FS := { vs := [.a (.ptr 0 0 0), .a (.ptr 1 0 0)], bs := [.raw [[.lf .bool, .lf (.sl (.int .u32))]] 2 98 true false, .raw [[.lf .bool, .lf (.sl (.int .u32))]] 2 98 true false] }
def rsq0 : List FS := [{ vs := [.a (.ptr 2 0 0)], bs := [.raw [[.lf .bool, .lf (.sl (.int .u32))]] 2 98 true false, .raw [[.lf .bool, .lf (.sl (.int .u32))]] 2 98 true false, .raw [[.lf .bool, .lf (.sl (.int .u32)), .lf .bool, .lf (.sl (.int .u32))]] 4 100 true false] }]
def Iq0 (k : Nat) : Inst := ⟨72, shq0, rsq0, fun x => Fbig_Frac_ddu k x.1 x.2.1 x.2.2.1 x.2.2.2⟩
theorem alq0 (k : Nat) : AllI (call cf k) [Iq34 k] := qA (okq34 k) qT
theorem anq0 (k : Nat) : LAll (LOk (R := DS FS.D rsq0) (fun b _ σ K => LOt Ty (kps 72) 2 b σ K []) cf (call cf k) (cf.keep 72) Try.f72.ntmps k shq0.bs.length) 0 (bd Try.f72) :=
 qA qT (qA qT qT)
theorem stq0 (k : Nat) (x : shq0.D) : Fbig_Frac_ddu (k + 1) x.1 x.2.1 x.2.2.1 x.2.2.2 = body2 cf (fun f a b K => COt f a b K [Iq34 k]) (fun b _ σ K => LOt Ty (kps 72) 2 b σ K []) 72 Try.f72.ntmps Try.f72.results.toList (bd Try.f72) (shq0.enc x).1 (shq0.enc x).2 (putS FS.dec rsq0) := by kernel_rfl
theorem okq0 : ∀ k, InstOk (call cf k) (Iq0 k)
 | 0 => fun x y e => absurd (show (none : Option _) = some y from e) (by simp)
 | k + 1 => inst_ok (c := cf) (k := k) (f := 72) (fn := Try.f72) (body := bd Try.f72) (sh := shq0) (os := rsq0) rfl Try.func72 rfl ⟨rfl, Nat.le_of_ble_eq_true rfl⟩ (COt_ok (alq0 k)) (anq0 k) (fun x => Fbig_Frac_ddu (k + 1) x.1 x.2.1 x.2.2.1 x.2.2.2) (stq0 k)

/-! shunt/num.frac -/
def bnum_frac (k : Nat) (n0 : Int) (n1 : Int) : Option (Bool × List Int × Bool × List Int) :=
 Option.bind (Fbig_Ten k (max n1 (IntKind.wrap .i64 ((0 : Int) - n1)))) fun r2 =>
 if ((decide (n1 < (0 : Int))) = true) then
 Option.bind (Fbig_NewInt k n0) fun r3 =>
 Option.bind (Fbig_Frac_ddu k r3.1 r3.2 r2.1 r2.2) fun r4 =>
 (some (r4.2.2.2.2.1, r4.2.2.2.2.2.1, r4.2.2.2.2.2.2.1, r4.2.2.2.2.2.2.2))
 else
 Option.bind (Fbig_NewInt k n0) fun r3 =>
 Option.bind (Fbig_Int_Mul_jod k r2.1 r2.2 r3.1 r3.2) fun r4 =>
 Option.bind (Fbig_NewInt k (1 : Int)) fun r5 =>
 Option.bind (Fbig_Frac_ddu k r4.1 r4.2.1 r5.1 r5.2) fun r6 =>
 (some (r6.2.2.2.2.1, r6.2.2.2.2.2.1, r6.2.2.2.2.2.2.1, r6.2.2.2.2.2.2.2))
def Fnum_frac : Nat → Int → Int → Option (Bool × List Int × Bool × List Int)
 | 0, _, _ => none
 | k + 1, n0, n1 => bnum_frac k n0 n1
def shq62 : FS := { vs := [.g [.lf (.int .i64), .lf (.int .i64)]], bs := [] }
def rsq62 : List FS := [{ vs := [.a (.ptr 0 0 0)], bs := [.raw [[.lf .bool, .lf (.sl (.int .u32)), .lf .bool, .lf (.sl (.int .u32))]] 4 100 true false] }]
def Iq62 (k : Nat) : Inst := ⟨59, shq62, rsq62, fun x => Fnum_frac k x.1 x.2⟩
theorem alq62 (k : Nat) : AllI (call cf k) [Iq35 k, Iq18 k, Iq0 k, Iq5 k] := qA (okq35 k) (qA (okq18 k) (qA (okq0 k) (qA (okq5 k) qT)))
theorem anq62 (k : Nat) : LAll (LOk (R := DS FS.D rsq62) (fun b _ σ K => LOt Ty (kps 59) 0 b σ K []) cf (call cf k) (cf.keep 59) Try.f59.ntmps k shq62.bs.length) 0 (bd Try.f59) :=
 qA qT (qA qT (qA (qA qT (qA (qA qT qT) qT)) (qA qT qT)))
theorem stq62 (k : Nat) (x : shq62.D) : Fnum_frac (k + 1) x.1 x.2 = body2 cf (fun f a b K => COt f a b K [Iq35 k, Iq18 k, Iq0 k, Iq5 k]) (fun b _ σ K => LOt Ty (kps 59) 0 b σ K []) 59 Try.f59.ntmps Try.f59.results.toList (bd Try.f59) (shq62.enc x).1 (shq62.enc x).2 (putS FS.dec rsq62) := by kernel_rfl
theorem okq62 : ∀ k, InstOk (call cf k) (Iq62 k)
 | 0 => fun x y e => absurd (show (none : Option _) = some y from e) (by simp)
 | k + 1 => inst_ok (c := cf) (k := k) (f := 59) (fn := Try.f59) (body := bd Try.f59) (sh := shq62) (os := rsq62) rfl Try.func59 rfl ⟨rfl, Nat.le_of_ble_eq_true rfl⟩ (COt_ok (alq62 k)) (anq62 k) (fun x => Fnum_frac (k + 1) x.1 x.2) (stq62 k)

/-! shunt/big.Of -/
def bbig_Of (k : Nat) (neg : Bool) (w : List Int) : Option (Bool × List Int) :=
 if (((0 + (List.length w)) * 4) ≤ 140737488355328) then
 if ((0 + (0 + (List.length w))) ≤ (List.length ((List.take 0 []) ++ w))) then
 Option.bind (Fbig_trim k (List.take (0 + (List.length w)) ((List.take 0 []) ++ w))) fun r3 =>
 if (neg = true) then
 (some ((decide ((((List.length r3) : Nat) : Int) > (0 : Int))), r3))
 else
 (some (false, r3))
 else
 none
 else
 none
def Fbig_Of : Nat → Bool → List Int → Option (Bool × List Int)
 | 0, _, _ => none
 | k + 1, neg, w => bbig_Of k neg w
def shq20 : FS := { vs := [.a (.lf .bool), .a (.lf (.sl (.int .u32)))], bs := [] }
def rsq20 : List FS := [{ vs := [.a (.ptr 0 0 0)], bs := [.raw [[.lf .bool, .lf (.sl (.int .u32))]] 2 98 true false] }]
def Iq20 (k : Nat) : Inst := ⟨99, shq20, rsq20, fun x => Fbig_Of k x.1 x.2⟩
theorem alq20 (k : Nat) : AllI (call cf k) [Iq44 k] := qA (okq44 k) qT
theorem anq20 (k : Nat) : LAll (LOk (R := DS FS.D rsq20) (fun b _ σ K => LOt Ty (kps 99) 0 b σ K []) cf (call cf k) (cf.keep 99) Try.f99.ntmps k shq20.bs.length) 0 (bd Try.f99) :=
 qA qT (qA qT (qA qT (qA qT qT)))
theorem stq20 (k : Nat) (x : shq20.D) : Fbig_Of (k + 1) x.1 x.2 = body2 cf (fun f a b K => COt f a b K [Iq44 k]) (fun b _ σ K => LOt Ty (kps 99) 0 b σ K []) 99 Try.f99.ntmps Try.f99.results.toList (bd Try.f99) (shq20.enc x).1 (shq20.enc x).2 (putS FS.dec rsq20) := by kernel_rfl
theorem okq20 : ∀ k, InstOk (call cf k) (Iq20 k)
 | 0 => fun x y e => absurd (show (none : Option _) = some y from e) (by simp)
 | k + 1 => inst_ok (c := cf) (k := k) (f := 99) (fn := Try.f99) (body := bd Try.f99) (sh := shq20) (os := rsq20) rfl Try.func99 rfl ⟨rfl, Nat.le_of_ble_eq_true rfl⟩ (COt_ok (alq20 k)) (anq20 k) (fun x => Fbig_Of (k + 1) x.1 x.2) (stq20 k)

/-! (*shunt/big.Rat).Num -/
def bbig_Rat_Num_plq (k : Nat) (z0 : Bool) (z1 : List Int) (z2 : Bool) (z3 : List Int) : Option (Bool × List Int × Bool × List Int × Bool × List Int) :=
 Option.bind (Fbig_Of k z0 z1) fun r3 =>
 (some (z0, z1, z2, z3, r3.1, r3.2))
def Fbig_Rat_Num_plq : Nat → Bool → List Int → Bool → List Int → Option (Bool × List Int × Bool × List Int × Bool × List Int)
 | 0, _, _, _, _ => none
 | k + 1, z0, z1, z2, z3 => bbig_Rat_Num_plq k z0 z1 z2 z3
def shq31 : FS := { vs := [.a (.ptr 0 0 0)], bs := [.raw [[.lf .bool, .lf (.sl (.int .u32)), .lf .bool, .lf (.sl (.int .u32))]] 4 100 true false] }
def rsq31 : List FS := [{ vs := [.a (.ptr 1 0 0)], bs := [.raw [[.lf .bool, .lf (.sl (.int .u32)), .lf .bool, .lf (.sl (.int .u32))]] 4 100 true false, .raw [[.lf .bool, .lf (.sl (.int .u32))]] 2 98 true false] }]
def Iq31 (k : Nat) : Inst := ⟨91, shq31, rsq31, fun x => Fbig_Rat_Num_plq k x.1 x.2.1 x.2.2.1 x.2.2.2⟩
theorem alq31 (k : Nat) : AllI (call cf k) [Iq20 k] := qA (okq20 k) qT
theorem anq31 (k : Nat) : LAll (LOk (R := DS FS.D rsq31) (fun b _ σ K => LOt Ty (kps 91) 1 b σ K []) cf (call cf k) (cf.keep 91) Try.f91.ntmps k shq31.bs.length) 0 (bd Try.f91) :=
 qA qT (qA qT qT)
theorem stq31 (k : Nat) (x : shq31.D) : Fbig_Rat_Num_plq (k + 1) x.1 x.2.1 x.2.2.1 x.2.2.2 = body2 cf (fun f a b K => COt f a b K [Iq20 k]) (fun b _ σ K => LOt Ty (kps 91) 1 b σ K []) 91 Try.f91.ntmps Try.f91.results.toList (bd Try.f91) (shq31.enc x).1 (shq31.enc x).2 (putS FS.dec rsq31) := by kernel_rfl
theorem okq31 : ∀ k, InstOk (call cf k) (Iq31 k)
 | 0 => fun x y e => absurd (show (none : Option _) = some y from e) (by simp)
 | k + 1 => inst_ok (c := cf) (k := k) (f := 91) (fn := Try.f91) (body := bd Try.f91) (sh := shq31) (os := rsq31) rfl Try.func91 rfl ⟨rfl, Nat.le_of_ble_eq_true rfl⟩ (COt_ok (alq31 k)) (anq31 k) (fun x => Fbig_Rat_Num_plq (k + 1) x.1 x.2.1 x.2.2.1 x.2.2.2) (stq31 k)

/-! (*shunt/big.Int).Sign -/
def bbig_Int_Sign_awf (k : Nat) (z0 : Bool) (z1 : List Int) : Option (Int × Bool × List Int) :=
 if (((((List.length z1) : Nat) : Int) == (0 : Int)) = true) then
 (some ((0 : Int), z0, z1))
 else
 if (z0 = true) then
 (some ((-(1 : Int)), z0, z1))
 else
 (some ((1 : Int), z0, z1))
def Fbig_Int_Sign_awf : Nat → Bool → List Int → Option (Int × Bool × List Int)
 | 0, _, _ => none
 | k + 1, z0, z1 => bbig_Int_Sign_awf k z0 z1
def shq12 : FS := { vs := [.a (.ptr 0 0 0)], bs := [.raw [[.lf .bool, .lf (.sl (.int .u32))]] 2 98 true false] }
def rsq12 : List FS := [{ vs := [.a (.lf (.int .i64))], bs := [.raw [[.lf .bool, .lf (.sl (.int .u32))]] 2 98 true false] }]
def Iq12 (k : Nat) : Inst := ⟨100, shq12, rsq12, fun x => Fbig_Int_Sign_awf k x.1 x.2⟩
theorem alq12 (k : Nat) : AllI (call cf k) [] := True.intro
theorem anq12 (k : Nat) : LAll (LOk (R := DS FS.D rsq12) (fun b _ σ K => LOt Ty (kps 100) 1 b σ K []) cf (call cf k) (cf.keep 100) Try.f100.ntmps k shq12.bs.length) 0 (bd Try.f100) :=
 qA qT (qA (qA qT (qA (qA qT qT) (qA qT (qA (qA qT qT) qT)))) (qA qT qT))
theorem stq12 (k : Nat) (x : shq12.D) : Fbig_Int_Sign_awf (k + 1) x.1 x.2 = body2 cf (fun f a b K => COt f a b K []) (fun b _ σ K => LOt Ty (kps 100) 1 b σ K []) 100 Try.f100.ntmps Try.f100.results.toList (bd Try.f100) (shq12.enc x).1 (shq12.enc x).2 (putS FS.dec rsq12) := by kernel_rfl
theorem okq12 : ∀ k, InstOk (call cf k) (Iq12 k)
 | 0 => fun x y e => absurd (show (none : Option _) = some y from e) (by simp)
 | k + 1 => inst_ok (c := cf) (k := k) (f := 100) (fn := Try.f100) (body := bd Try.f100) (sh := shq12) (os := rsq12) rfl Try.func100 rfl ⟨rfl, Nat.le_of_ble_eq_true rfl⟩ (COt_ok (alq12 k)) (anq12 k) (fun x => Fbig_Int_Sign_awf (k + 1) x.1 x.2) (stq12 k)

/-! (*shunt/big.Int).Words -/
def bbig_Int_Words_awf (k : Nat) (z0 : Bool) (z1 : List Int) : Option (Nat × Bool × List Int × List Int) :=
 if (((0 + (List.length z1)) * 4) ≤ 140737488355328) then
 (some ((0 + (List.length z1)), z0, z1, ((List.take 0 []) ++ z1)))
 else
 none
def Fbig_Int_Words_awf : Nat → Bool → List Int → Option (Nat × Bool × List Int × List Int)
 | 0, _, _ => none
 | k + 1, z0, z1 => bbig_Int_Words_awf k z0 z1
def shq14 : FS := { vs := [.a (.ptr 0 0 0)], bs := [.raw [[.lf .bool, .lf (.sl (.int .u32))]] 2 98 true false] }
def rsq14 : List FS := [{ vs := [.a (.smz 1)], bs := [.raw [[.lf .bool, .lf (.sl (.int .u32))]] 2 98 true false, .arr (.int .u32) 1 72 false] }]
def Iq14 (k : Nat) : Inst := ⟨101, shq14, rsq14, fun x => Fbig_Int_Words_awf k x.1 x.2⟩
theorem alq14 (k : Nat) : AllI (call cf k) [] := True.intro
theorem anq14 (k : Nat) : LAll (LOk (R := DS FS.D rsq14) (fun b _ σ K => LOt Ty (kps 101) 1 b σ K []) cf (call cf k) (cf.keep 101) Try.f101.ntmps k shq14.bs.length) 0 (bd Try.f101) :=
 qA qT (qA qT qT)
theorem stq14 (k : Nat) (x : shq14.D) : Fbig_Int_Words_awf (k + 1) x.1 x.2 = body2 cf (fun f a b K => COt f a b K []) (fun b _ σ K => LOt Ty (kps 101) 1 b σ K []) 101 Try.f101.ntmps Try.f101.results.toList (bd Try.f101) (shq14.enc x).1 (shq14.enc x).2 (putS FS.dec rsq14) := by kernel_rfl
theorem okq14 : ∀ k, InstOk (call cf k) (Iq14 k)
 | 0 => fun x y e => absurd (show (none : Option _) = some y from e) (by simp)
 | k + 1 => inst_ok (c := cf) (k := k) (f := 101) (fn := Try.f101) (body := bd Try.f101) (sh := shq14) (os := rsq14) rfl Try.func101 rfl ⟨rfl, Nat.le_of_ble_eq_true rfl⟩ (COt_ok (alq14 k)) (anq14 k) (fun x => Fbig_Int_Words_awf (k + 1) x.1 x.2) (stq14 k)

/-! shunt/wide.Give -/
def bwide_Give_awf (k : Nat) (z0 : Bool) (z1 : List Int) : Option (Bool × Nat × Bool × List Int × List Int) :=
 Option.bind (Fbig_Int_Sign_awf k z0 z1) fun r4 =>
 Option.bind (Fbig_Int_Words_awf k r4.2.1 r4.2.2) fun r5 =>
 (some ((decide (r4.1 < (0 : Int))), r5.1, r5.2.1, r5.2.2.1, r5.2.2.2))
def Fwide_Give_awf : Nat → Bool → List Int → Option (Bool × Nat × Bool × List Int × List Int)
 | 0, _, _ => none
 | k + 1, z0, z1 => bwide_Give_awf k z0 z1
def shq103 : FS := { vs := [.a (.ptr 0 0 0)], bs := [.raw [[.lf .bool, .lf (.sl (.int .u32))]] 2 98 true false] }
def rsq103 : List FS := [{ vs := [.g [.lf .bool, .smz 1]], bs := [.raw [[.lf .bool, .lf (.sl (.int .u32))]] 2 98 true false, .arr (.int .u32) 1 72 false] }]
def Iq103 (k : Nat) : Inst := ⟨74, shq103, rsq103, fun x => Fwide_Give_awf k x.1 x.2⟩
theorem alq103 (k : Nat) : AllI (call cf k) [Iq12 k, Iq14 k] := qA (okq12 k) (qA (okq14 k) qT)
theorem anq103 (k : Nat) : LAll (LOk (R := DS FS.D rsq103) (fun b _ σ K => LOt Ty (kps 74) 1 b σ K []) cf (call cf k) (cf.keep 74) Try.f74.ntmps k shq103.bs.length) 0 (bd Try.f74) :=
 qA qT (qA qT qT)
theorem stq103 (k : Nat) (x : shq103.D) : Fwide_Give_awf (k + 1) x.1 x.2 = body2 cf (fun f a b K => COt f a b K [Iq12 k, Iq14 k]) (fun b _ σ K => LOt Ty (kps 74) 1 b σ K []) 74 Try.f74.ntmps Try.f74.results.toList (bd Try.f74) (shq103.enc x).1 (shq103.enc x).2 (putS FS.dec rsq103) := by kernel_rfl
theorem okq103 : ∀ k, InstOk (call cf k) (Iq103 k)
 | 0 => fun x y e => absurd (show (none : Option _) = some y from e) (by simp)
 | k + 1 => inst_ok (c := cf) (k := k) (f := 74) (fn := Try.f74) (body := bd Try.f74) (sh := shq103) (os := rsq103) rfl Try.func74 rfl ⟨rfl, Nat.le_of_ble_eq_true rfl⟩ (COt_ok (alq103 k)) (anq103 k) (fun x => Fwide_Give_awf (k + 1) x.1 x.2) (stq103 k)

/-! (*shunt/big.Rat).Denom -/
def bbig_Rat_Denom_plq (k : Nat) (z0 : Bool) (z1 : List Int) (z2 : Bool) (z3 : List Int) : Option (Bool × List Int × Bool × List Int × Bool × List Int) :=
 if (((((List.length z3) : Nat) : Int) == (0 : Int)) = true) then
 Option.bind (Fbig_NewInt k (1 : Int)) fun r5 =>
 (some (z0, z1, z2, z3, r5.1, r5.2))
 else
 Option.bind (Fbig_Of k false z3) fun r5 =>
 (some (z0, z1, z2, z3, r5.1, r5.2))
def Fbig_Rat_Denom_plq : Nat → Bool → List Int → Bool → List Int → Option (Bool × List Int × Bool × List Int × Bool × List Int)
 | 0, _, _, _, _ => none
 | k + 1, z0, z1, z2, z3 => bbig_Rat_Denom_plq k z0 z1 z2 z3
def shq26 : FS := { vs := [.a (.ptr 0 0 0)], bs := [.raw [[.lf .bool, .lf (.sl (.int .u32)), .lf .bool, .lf (.sl (.int .u32))]] 4 100 true false] }
def rsq26 : List FS := [{ vs := [.a (.ptr 1 0 0)], bs := [.raw [[.lf .bool, .lf (.sl (.int .u32)), .lf .bool, .lf (.sl (.int .u32))]] 4 100 true false, .raw [[.lf .bool, .lf (.sl (.int .u32))]] 2 98 true false] }]
def Iq26 (k : Nat) : Inst := ⟨85, shq26, rsq26, fun x => Fbig_Rat_Denom_plq k x.1 x.2.1 x.2.2.1 x.2.2.2⟩
theorem alq26 (k : Nat) : AllI (call cf k) [Iq18 k, Iq20 k] := qA (okq18 k) (qA (okq20 k) qT)
theorem anq26 (k : Nat) : LAll (LOk (R := DS FS.D rsq26) (fun b _ σ K => LOt Ty (kps 85) 1 b σ K []) cf (call cf k) (cf.keep 85) Try.f85.ntmps k shq26.bs.length) 0 (bd Try.f85) :=
 qA qT (qA (qA qT (qA (qA qT qT) qT)) (qA qT qT))
theorem stq26 (k : Nat) (x : shq26.D) : Fbig_Rat_Denom_plq (k + 1) x.1 x.2.1 x.2.2.1 x.2.2.2 = body2 cf (fun f a b K => COt f a b K [Iq18 k, Iq20 k]) (fun b _ σ K => LOt Ty (kps 85) 1 b σ K []) 85 Try.f85.ntmps Try.f85.results.toList (bd Try.f85) (shq26.enc x).1 (shq26.enc x).2 (putS FS.dec rsq26) := by kernel_rfl
theorem okq26 : ∀ k, InstOk (call cf k) (Iq26 k)
 | 0 => fun x y e => absurd (show (none : Option _) = some y from e) (by simp)
 | k + 1 => inst_ok (c := cf) (k := k) (f := 85) (fn := Try.f85) (body := bd Try.f85) (sh := shq26) (os := rsq26) rfl Try.func85 rfl ⟨rfl, Nat.le_of_ble_eq_true rfl⟩ (COt_ok (alq26 k)) (anq26 k) (fun x => Fbig_Rat_Denom_plq (k + 1) x.1 x.2.1 x.2.2.1 x.2.2.2) (stq26 k)

/-! shunt/wide.Frac -/
def bwide_Frac_plq (k : Nat) (z0 : Bool) (z1 : List Int) (z2 : Bool) (z3 : List Int) : Option (Bool × List Int × Bool × List Int × Bool × List Int × Bool × List Int) :=
 Option.bind (Fbig_Rat_Num_plq k z0 z1 z2 z3) fun r3 =>
 Option.bind (Fwide_Give_awf k r3.2.2.2.2.1 r3.2.2.2.2.2) fun r4 =>
 Option.bind (Fbig_Rat_Denom_plq k r3.1 r3.2.1 r3.2.2.1 r3.2.2.2.1) fun r5 =>
 Option.bind (Fwide_Give_awf k r5.2.2.2.2.1 r5.2.2.2.2.2) fun r6 =>
 if ((0 + r4.2.1) ≤ (List.length r4.2.2.2.2)) then
 if ((0 + r6.2.1) ≤ (List.length r6.2.2.2.2)) then
 (some (r4.1, (List.take r4.2.1 r4.2.2.2.2), r6.1, (List.take r6.2.1 r6.2.2.2.2), r5.1, r5.2.1, r5.2.2.1, r5.2.2.2.1))
 else
 none
 else
 none
def Fwide_Frac_plq : Nat → Bool → List Int → Bool → List Int → Option (Bool × List Int × Bool × List Int × Bool × List Int × Bool × List Int)
 | 0, _, _, _, _ => none
 | k + 1, z0, z1, z2, z3 => bwide_Frac_plq k z0 z1 z2 z3
def shq102 : FS := { vs := [.a (.ptr 0 0 0)], bs := [.raw [[.lf .bool, .lf (.sl (.int .u32)), .lf .bool, .lf (.sl (.int .u32))]] 4 100 true false] }
def rsq102 : List FS := [{ vs := [.g [.lf .bool, .lf (.sl (.int .u32)), .lf .bool, .lf (.sl (.int .u32))]], bs := [.raw [[.lf .bool, .lf (.sl (.int .u32)), .lf .bool, .lf (.sl (.int .u32))]] 4 100 true false] }]
def Iq102 (k : Nat) : Inst := ⟨57, shq102, rsq102, fun x => Fwide_Frac_plq k x.1 x.2.1 x.2.2.1 x.2.2.2⟩
theorem alq102 (k : Nat) : AllI (call cf k) [Iq31 k, Iq103 k, Iq26 k] := qA (okq31 k) (qA (okq103 k) (qA (okq26 k) qT))
theorem anq102 (k : Nat) : LAll (LOk (R := DS FS.D rsq102) (fun b _ σ K => LOt Ty (kps 57) 1 b σ K []) cf (call cf k) (cf.keep 57) Try.f57.ntmps k shq102.bs.length) 0 (bd Try.f57) :=
 qA qT (qA qT qT)
theorem stq102 (k : Nat) (x : shq102.D) : Fwide_Frac_plq (k + 1) x.1 x.2.1 x.2.2.1 x.2.2.2 = body2 cf (fun f a b K => COt f a b K [Iq31 k, Iq103 k, Iq26 k]) (fun b _ σ K => LOt Ty (kps 57) 1 b σ K []) 57 Try.f57.ntmps Try.f57.results.toList (bd Try.f57) (shq102.enc x).1 (shq102.enc x).2 (putS FS.dec rsq102) := by kernel_rfl
theorem okq102 : ∀ k, InstOk (call cf k) (Iq102 k)
 | 0 => fun x y e => absurd (show (none : Option _) = some y from e) (by simp)
 | k + 1 => inst_ok (c := cf) (k := k) (f := 57) (fn := Try.f57) (body := bd Try.f57) (sh := shq102) (os := rsq102) rfl Try.func57 rfl ⟨rfl, Nat.le_of_ble_eq_true rfl⟩ (COt_ok (alq102 k)) (anq102 k) (fun x => Fwide_Frac_plq (k + 1) x.1 x.2.1 x.2.2.1 x.2.2.2) (stq102 k)

/-! shunt/num.Value -/
def bnum_Value (k : Nat) (n0 : Int) (n1 : Int) : Option (Bool × List Int × Bool × List Int × Int) :=
 Option.bind (Fnum_Valid k n0 n1) fun r1 =>
 if ((!r1) = true) then
 (some (false, [], false, [], (30 : Int)))
 else
 Option.bind (Fnum_frac k n0 n1) fun r2 =>
 Option.bind (Fwide_Frac_plq k r2.1 r2.2.1 r2.2.2.1 r2.2.2.2) fun r3 =>
 (some (r3.1, r3.2.1, r3.2.2.1, r3.2.2.2.1, (0 : Int)))
def Fnum_Value : Nat → Int → Int → Option (Bool × List Int × Bool × List Int × Int)
 | 0, _, _ => none
 | k + 1, n0, n1 => bnum_Value k n0 n1
def shq61 : FS := { vs := [.g [.lf (.int .i64), .lf (.int .i64)]], bs := [] }
def rsq61 : List FS := [{ vs := [.g [.lf .bool, .lf (.sl (.int .u32)), .lf .bool, .lf (.sl (.int .u32))], .a (.lf (.int .i64))], bs := [] }]
def Iq61 (k : Nat) : Inst := ⟨24, shq61, rsq61, fun x => Fnum_Value k x.1 x.2⟩
theorem alq61 (k : Nat) : AllI (call cf k) [Iq60 k, Iq62 k, Iq102 k] := qA (okq60 k) (qA (okq62 k) (qA (okq102 k) qT))
theorem anq61 (k : Nat) : LAll (LOk (R := DS FS.D rsq61) (fun b _ σ K => LOt Ty (kps 24) 0 b σ K []) cf (call cf k) (cf.keep 24) Try.f24.ntmps k shq61.bs.length) 0 (bd Try.f24) :=
 qA qT (qA (qA qT (qA (qA qT qT) qT)) (qA qT qT))
theorem stq61 (k : Nat) (x : shq61.D) : Fnum_Value (k + 1) x.1 x.2 = body2 cf (fun f a b K => COt f a b K [Iq60 k, Iq62 k, Iq102 k]) (fun b _ σ K => LOt Ty (kps 24) 0 b σ K []) 24 Try.f24.ntmps Try.f24.results.toList (bd Try.f24) (shq61.enc x).1 (shq61.enc x).2 (putS FS.dec rsq61) := by kernel_rfl
theorem okq61 : ∀ k, InstOk (call cf k) (Iq61 k)
 | 0 => fun x y e => absurd (show (none : Option _) = some y from e) (by simp)
 | k + 1 => inst_ok (c := cf) (k := k) (f := 24) (fn := Try.f24) (body := bd Try.f24) (sh := shq61) (os := rsq61) rfl Try.func24 rfl ⟨rfl, Nat.le_of_ble_eq_true rfl⟩ (COt_ok (alq61 k)) (anq61 k) (fun x => Fnum_Value (k + 1) x.1 x.2) (stq61 k)

/-! shunt/wide.Take -/
def bwide_Take (k : Nat) (a0 : Bool) (a1 : List Int) : Option (Bool × List Int) :=
 Option.bind (Fbig_Of k a0 a1) fun r4 =>
 (some (r4.1, r4.2))
def Fwide_Take : Nat → Bool → List Int → Option (Bool × List Int)
 | 0, _, _ => none
 | k + 1, a0, a1 => bwide_Take k a0 a1
def shq105 : FS := { vs := [.g [.lf .bool, .lf (.sl (.int .u32))]], bs := [] }
def rsq105 : List FS := [{ vs := [.a (.ptr 0 0 0)], bs := [.raw [[.lf .bool, .lf (.sl (.int .u32))]] 2 98 true false] }]
def Iq105 (k : Nat) : Inst := ⟨73, shq105, rsq105, fun x => Fwide_Take k x.1 x.2⟩
theorem alq105 (k : Nat) : AllI (call cf k) [Iq20 k] := qA (okq20 k) qT
theorem anq105 (k : Nat) : LAll (LOk (R := DS FS.D rsq105) (fun b _ σ K => LOt Ty (kps 73) 0 b σ K []) cf (call cf k) (cf.keep 73) Try.f73.ntmps k shq105.bs.length) 0 (bd Try.f73) :=
 qA qT (qA qT qT)
theorem stq105 (k : Nat) (x : shq105.D) : Fwide_Take (k + 1) x.1 x.2 = body2 cf (fun f a b K => COt f a b K [Iq20 k]) (fun b _ σ K => LOt Ty (kps 73) 0 b σ K []) 73 Try.f73.ntmps Try.f73.results.toList (bd Try.f73) (shq105.enc x).1 (shq105.enc x).2 (putS FS.dec rsq105) := by kernel_rfl
theorem okq105 : ∀ k, InstOk (call cf k) (Iq105 k)
 | 0 => fun x y e => absurd (show (none : Option _) = some y from e) (by simp)
 | k + 1 => inst_ok (c := cf) (k := k) (f := 73) (fn := Try.f73) (body := bd Try.f73) (sh := shq105) (os := rsq105) rfl Try.func73 rfl ⟨rfl, Nat.le_of_ble_eq_true rfl⟩ (COt_ok (alq105 k)) (anq105 k) (fun x => Fwide_Take (k + 1) x.1 x.2) (stq105 k)

/-! shunt/wide.Rat -/
def bwide_Rat (k : Nat) (r0 : Bool) (r1 : List Int) (r2 : Bool) (r3 : List Int) : Option (Bool × List Int × Bool × List Int) :=
 Option.bind (Fwide_Take k r0 r1) fun r4 =>
 Option.bind (Fwide_Take k r2 r3) fun r5 =>
 Option.bind (Fbig_Frac_ddu k r4.1 r4.2 r5.1 r5.2) fun r6 =>
 (some (r6.2.2.2.2.1, r6.2.2.2.2.2.1, r6.2.2.2.2.2.2.1, r6.2.2.2.2.2.2.2))
def Fwide_Rat : Nat → Bool → List Int → Bool → List Int → Option (Bool × List Int × Bool × List Int)
 | 0, _, _, _, _ => none
 | k + 1, r0, r1, r2, r3 => bwide_Rat k r0 r1 r2 r3
def shq104 : FS := { vs := [.g [.lf .bool, .lf (.sl (.int .u32)), .lf .bool, .lf (.sl (.int .u32))]], bs := [] }
def rsq104 : List FS := [{ vs := [.a (.ptr 0 0 0)], bs := [.raw [[.lf .bool, .lf (.sl (.int .u32)), .lf .bool, .lf (.sl (.int .u32))]] 4 100 true false] }]
def Iq104 (k : Nat) : Inst := ⟨46, shq104, rsq104, fun x => Fwide_Rat k x.1 x.2.1 x.2.2.1 x.2.2.2⟩
theorem alq104 (k : Nat) : AllI (call cf k) [Iq105 k, Iq0 k] := qA (okq105 k) (qA (okq0 k) qT)
theorem anq104 (k : Nat) : LAll (LOk (R := DS FS.D rsq104) (fun b _ σ K => LOt Ty (kps 46) 0 b σ K []) cf (call cf k) (cf.keep 46) Try.f46.ntmps k shq104.bs.length) 0 (bd Try.f46) :=
 qA qT (qA qT qT)
theorem stq104 (k : Nat) (x : shq104.D) : Fwide_Rat (k + 1) x.1 x.2.1 x.2.2.1 x.2.2.2 = body2 cf (fun f a b K => COt f a b K [Iq105 k, Iq0 k]) (fun b _ σ K => LOt Ty (kps 46) 0 b σ K []) 46 Try.f46.ntmps Try.f46.results.toList (bd Try.f46) (shq104.enc x).1 (shq104.enc x).2 (putS FS.dec rsq104) := by kernel_rfl
theorem okq104 : ∀ k, InstOk (call cf k) (Iq104 k)
 | 0 => fun x y e => absurd (show (none : Option _) = some y from e) (by simp)
 | k + 1 => inst_ok (c := cf) (k := k) (f := 46) (fn := Try.f46) (body := bd Try.f46) (sh := shq104) (os := rsq104) rfl Try.func46 rfl ⟨rfl, Nat.le_of_ble_eq_true rfl⟩ (COt_ok (alq104 k)) (anq104 k) (fun x => Fwide_Rat (k + 1) x.1 x.2.1 x.2.2.1 x.2.2.2) (stq104 k)

/-! shunt/big.NewRat -/
def bbig_NewRat (k : Nat) (n : Int) (d : Int) : Option (Bool × List Int × Bool × List Int) :=
 Option.bind (Fbig_NewInt k n) fun r2 =>
 Option.bind (Fbig_NewInt k d) fun r3 =>
 Option.bind (Fbig_Frac_ddu k r2.1 r2.2 r3.1 r3.2) fun r4 =>
 (some (r4.2.2.2.2.1, r4.2.2.2.2.2.1, r4.2.2.2.2.2.2.1, r4.2.2.2.2.2.2.2))
def Fbig_NewRat : Nat → Int → Int → Option (Bool × List Int × Bool × List Int)
 | 0, _, _ => none
 | k + 1, n, d => bbig_NewRat k n d
def shq19 : FS := { vs := [.a (.lf (.int .i64)), .a (.lf (.int .i64))], bs := [] }
def rsq19 : List FS := [{ vs := [.a (.ptr 0 0 0)], bs := [.raw [[.lf .bool, .lf (.sl (.int .u32)), .lf .bool, .lf (.sl (.int .u32))]] 4 100 true false] }]
def Iq19 (k : Nat) : Inst := ⟨55, shq19, rsq19, fun x => Fbig_NewRat k x.1 x.2⟩
theorem alq19 (k : Nat) : AllI (call cf k) [Iq18 k, Iq0 k] := qA (okq18 k) (qA (okq0 k) qT)
theorem anq19 (k : Nat) : LAll (LOk (R := DS FS.D rsq19) (fun b _ σ K => LOt Ty (kps 55) 0 b σ K []) cf (call cf k) (cf.keep 55) Try.f55.ntmps k shq19.bs.length) 0 (bd Try.f55) :=
 qA qT (qA qT qT)
theorem stq19 (k : Nat) (x : shq19.D) : Fbig_NewRat (k + 1) x.1 x.2 = body2 cf (fun f a b K => COt f a b K [Iq18 k, Iq0 k]) (fun b _ σ K => LOt Ty (kps 55) 0 b σ K []) 55 Try.f55.ntmps Try.f55.results.toList (bd Try.f55) (shq19.enc x).1 (shq19.enc x).2 (putS FS.dec rsq19) := by kernel_rfl
theorem okq19 : ∀ k, InstOk (call cf k) (Iq19 k)
 | 0 => fun x y e => absurd (show (none : Option _) = some y from e) (by simp)
 | k + 1 => inst_ok (c := cf) (k := k) (f := 55) (fn := Try.f55) (body := bd Try.f55) (sh := shq19) (os := rsq19) rfl Try.func55 rfl ⟨rfl, Nat.le_of_ble_eq_true rfl⟩ (COt_ok (alq19 k)) (anq19 k) (fun x => Fbig_NewRat (k + 1) x.1 x.2) (stq19 k)

/-! (*shunt/big.Int).Mul -/
def Lbig_Int_Mul_uiu_2s (k : Nat) (rec : Nat → Int → Int → Int → List Int → Int → Int → List Int → Int → Int → Bool → Bool → List Int → Bool → List Int → Bool → List Int → Bool → List Int → List Int → Option (Nat × Int × Int × List Int × Int × Int × Bool × Bool × List Int × Bool × List Int × Bool × List Int × Bool × List Int × List Int)) (out1 : Nat) (i : Int) (a : Int) (carry : Int) (x : List Int) (x1 : Int) (x2 : Int) (x3 : List Int) (x4 : Int) (x5 : Int) (z : Bool) (x0 : Bool) (x11 : List Int) (x21 : Bool) (x31 : List Int) (y0 : Bool) (y1 : List Int) (y2 : Bool) (y3 : List Int) (outs : List Int) : Option (Nat × Int × Int × List Int × Int × Int × Bool × Bool × List Int × Bool × List Int × Bool × List Int × Bool × List Int × List Int) :=
 if ((decide (x5 < x4)) = true) then
 if ((0 : Int) ≤ x5) then
 Option.bind (x3)[(Int.toNat x5)]? fun x6 =>
 if (((0 : Int) ≤ (IntKind.wrap .i64 (i + x5))) ∧ ((IntKind.wrap .i64 (i + x5)) < ((out1 : Nat) : Int))) then
 Option.bind (outs)[(0 + (Int.toNat (IntKind.wrap .i64 (i + x5))))]? fun x7 =>
 if (((0 : Int) ≤ (IntKind.wrap .i64 (i + x5))) ∧ ((IntKind.wrap .i64 (i + x5)) < ((out1 : Nat) : Int))) then
 Option.bind (outs)[(0 + (Int.toNat (IntKind.wrap .i64 (i + x5))))]? fun x8 =>
 rec out1 i a (Int.fdiv (IntKind.wrap .u64 ((IntKind.wrap .u64 ((IntKind.wrap .u64 ((IntKind.wrap .u64 a) * (IntKind.wrap .u64 x6))) + (IntKind.wrap .u64 x7))) + carry)) (4294967296 : Int)) x x1 x2 x3 x4 (IntKind.wrap .i64 (x5 + (1 : Int))) z x0 x11 x21 x31 y0 y1 y2 y3 (List.set outs (0 + (Int.toNat (IntKind.wrap .i64 (i + x5)))) (IntKind.wrap .u32 (IntKind.wrap .u64 ((IntKind.wrap .u64 ((IntKind.wrap .u64 ((IntKind.wrap .u64 a) * (IntKind.wrap .u64 x6))) + (IntKind.wrap .u64 x7))) + carry))))
 else
 none
 else
 none
 else
 none
 else
 (some (out1, i, carry, x, x1, x2, z, x0, x11, x21, x31, y0, y1, y2, y3, outs))
def Lbig_Int_Mul_uiu_2 (k n : Nat) : Nat → Int → Int → Int → List Int → Int → Int → List Int → Int → Int → Bool → Bool → List Int → Bool → List Int → Bool → List Int → Bool → List Int → List Int → Option (Nat × Int × Int × List Int × Int × Int × Bool × Bool × List Int × Bool × List Int × Bool × List Int × Bool × List Int × List Int) := Nat.rec (fun _ _ _ _ _ _ _ _ _ _ _ _ _ _ _ _ _ _ _ _ => none) (fun _ r => Lbig_Int_Mul_uiu_2s k r) n
def Lbig_Int_Mul_uiu_0s (k : Nat) (rec : Nat → List Int → Int → Int → Bool → Bool → List Int → Bool → List Int → Bool → List Int → Bool → List Int → List Int → Option (Nat × Bool × Bool × List Int × Bool × List Int × Bool × List Int × Bool × List Int × List Int)) (out1 : Nat) (x : List Int) (x1 : Int) (x2 : Int) (z : Bool) (x0 : Bool) (x11 : List Int) (x21 : Bool) (x3 : List Int) (y0 : Bool) (y1 : List Int) (y2 : Bool) (y3 : List Int) (outs : List Int) : Option (Nat × Bool × Bool × List Int × Bool × List Int × Bool × List Int × Bool × List Int × List Int) :=
 if ((decide (x2 < x1)) = true) then
 if ((0 : Int) ≤ x2) then
 Option.bind (x)[(Int.toNat x2)]? fun x4 =>
 Option.bind (Lbig_Int_Mul_uiu_2 k k out1 x2 x4 (0 : Int) x x1 x2 y1 (((List.length y1) : Nat) : Int) (0 : Int) z x0 x11 x21 x3 y0 y1 y2 y3 outs) fun r3 =>
 if (((0 : Int) ≤ (IntKind.wrap .i64 (r3.2.1 + (((List.length r3.2.2.2.2.2.2.2.2.2.2.2.2.1) : Nat) : Int)))) ∧ ((IntKind.wrap .i64 (r3.2.1 + (((List.length r3.2.2.2.2.2.2.2.2.2.2.2.2.1) : Nat) : Int))) < ((r3.1 : Nat) : Int))) then
 Option.bind (r3.2.2.2.2.2.2.2.2.2.2.2.2.2.2.2)[(0 + (Int.toNat (IntKind.wrap .i64 (r3.2.1 + (((List.length r3.2.2.2.2.2.2.2.2.2.2.2.2.1) : Nat) : Int)))))]? fun x5 =>
 rec r3.1 r3.2.2.2.1 r3.2.2.2.2.1 (IntKind.wrap .i64 (r3.2.2.2.2.2.1 + (1 : Int))) r3.2.2.2.2.2.2.1 r3.2.2.2.2.2.2.2.1 r3.2.2.2.2.2.2.2.2.1 r3.2.2.2.2.2.2.2.2.2.1 r3.2.2.2.2.2.2.2.2.2.2.1 r3.2.2.2.2.2.2.2.2.2.2.2.1 r3.2.2.2.2.2.2.2.2.2.2.2.2.1 r3.2.2.2.2.2.2.2.2.2.2.2.2.2.1 r3.2.2.2.2.2.2.2.2.2.2.2.2.2.2.1 (List.set r3.2.2.2.2.2.2.2.2.2.2.2.2.2.2.2 (0 + (Int.toNat (IntKind.wrap .i64 (r3.2.1 + (((List.length r3.2.2.2.2.2.2.2.2.2.2.2.2.1) : Nat) : Int))))) (IntKind.wrap .u32 r3.2.2.1))
 else
 none
 else
 none
 else
 (some (out1, z, x0, x11, x21, x3, y0, y1, y2, y3, outs))
def Lbig_Int_Mul_uiu_0 (k n : Nat) : Nat → List Int → Int → Int → Bool → Bool → List Int → Bool → List Int → Bool → List Int → Bool → List Int → List Int → Option (Nat × Bool × Bool × List Int × Bool × List Int × Bool × List Int × Bool × List Int × List Int) := Nat.rec (fun _ _ _ _ _ _ _ _ _ _ _ _ _ _ => none) (fun _ r => Lbig_Int_Mul_uiu_0s k r) n
def bbig_Int_Mul_uiu (k : Nat) (z : Bool) (x0 : Bool) (x1 : List Int) (x2 : Bool) (x3 : List Int) (y0 : Bool) (y1 : List Int) (y2 : Bool) (y3 : List Int) : Option (Bool × List Int × Bool × List Int × Bool × List Int × Bool × List Int × Bool × List Int) :=
 if (((0 : Int) ≤ (IntKind.wrap .i64 ((((List.length x1) : Nat) : Int) + (((List.length y1) : Nat) : Int)))) ∧ (((IntKind.wrap .i64 ((((List.length x1) : Nat) : Int) + (((List.length y1) : Nat) : Int))) ≤ (IntKind.wrap .i64 ((((List.length x1) : Nat) : Int) + (((List.length y1) : Nat) : Int)))) ∧ (((IntKind.wrap .i64 ((((List.length x1) : Nat) : Int) + (((List.length y1) : Nat) : Int))) * (4 : Int)) ≤ (140737488355328 : Int)))) then
 Option.bind (Lbig_Int_Mul_uiu_0 k k (Int.toNat (IntKind.wrap .i64 ((((List.length x1) : Nat) : Int) + (((List.length y1) : Nat) : Int)))) x1 (((List.length x1) : Nat) : Int) (0 : Int) z x0 x1 x2 x3 y0 y1 y2 y3 (List.replicate (Int.toNat (IntKind.wrap .i64 ((((List.length x1) : Nat) : Int) + (((List.length y1) : Nat) : Int)))) (0 : Int))) fun r3 =>
 if ((0 + r3.1) ≤ (List.length r3.2.2.2.2.2.2.2.2.2.2)) then
 Option.bind (Fbig_Int_set_cvg k (!(r3.2.2.1 == r3.2.2.2.2.2.2.1)) (List.take r3.1 r3.2.2.2.2.2.2.2.2.2.2) r3.2.1) fun r4 =>
 (some (r4.1, r4.2, r3.2.2.1, r3.2.2.2.1, r3.2.2.2.2.1, r3.2.2.2.2.2.1, r3.2.2.2.2.2.2.1, r3.2.2.2.2.2.2.2.1, r3.2.2.2.2.2.2.2.2.1, r3.2.2.2.2.2.2.2.2.2.1))
 else
 none
 else
 none
def Fbig_Int_Mul_uiu : Nat → Bool → Bool → List Int → Bool → List Int → Bool → List Int → Bool → List Int → Option (Bool × List Int × Bool × List Int × Bool × List Int × Bool × List Int × Bool × List Int)
 | 0, _, _, _, _, _, _, _, _, _ => none
 | k + 1, z, x0, x1, x2, x3, y0, y1, y2, y3 => bbig_Int_Mul_uiu k z x0 x1 x2 x3 y0 y1 y2 y3
def shq6 : FS := { vs := [.a (.ptr 0 0 0), .a (.ptr 1 0 0), .a (.ptr 2 0 0)], bs := [.raw [[.lf .bool, .snil 1 72]] 2 98 true false, .raw [[.lf .bool, .lf (.sl (.int .u32)), .lf .bool, .lf (.sl (.int .u32))]] 4 100 true false, .raw [[.lf .bool, .lf (.sl (.int .u32)), .lf .bool, .lf (.sl (.int .u32))]] 4 100 true false] }
def rsq6 : List FS := [{ vs := [.a (.ptr 0 0 0)], bs := [.raw [[.lf .bool, .lf (.sl (.int .u32))]] 2 98 true false, .raw [[.lf .bool, .lf (.sl (.int .u32)), .lf .bool, .lf (.sl (.int .u32))]] 4 100 true false, .raw [[.lf .bool, .lf (.sl (.int .u32)), .lf .bool, .lf (.sl (.int .u32))]] 4 100 true false] }]
def Iq6 (k : Nat) : Inst := ⟨84, shq6, rsq6, fun x => Fbig_Int_Mul_uiu k x.1 x.2.1 x.2.2.1 x.2.2.2.1 x.2.2.2.2.1 x.2.2.2.2.2.1 x.2.2.2.2.2.2.1 x.2.2.2.2.2.2.2.1 x.2.2.2.2.2.2.2.2⟩
theorem alq6 (k : Nat) : AllI (call cf k) [Iq15 k] := qA (okq15 k) qT
def hsq112 : List SS := [{ fr := [(0, .a (.ptr 0 0 0)), (1, .a (.ptr 1 0 0)), (2, .a (.ptr 2 0 0)), (7, .a (.smz 3)), (8, .a (.lf (.int .i64))), (9, .a (.lf (.int .u32))), (10, .a (.lf (.int .u64))), (29, .a (.lf (.sl (.int .u32)))), (30, .a (.lf (.int .i64))), (31, .a (.lf (.int .i64))), (39, .a (.lf (.sl (.int .u32)))), (40, .a (.lf (.int .i64))), (41, .a (.lf (.int .i64)))], mem := [(0, some (.raw [[.lf .bool, .snil 1 72]] 2 98 true false)), (1, some (.raw [[.lf .bool, .lf (.sl (.int .u32)), .lf .bool, .lf (.sl (.int .u32))]] 4 100 true false)), (2, some (.raw [[.lf .bool, .lf (.sl (.int .u32)), .lf .bool, .lf (.sl (.int .u32))]] 4 100 true false)), (3, some (.arr (.int .u32) 1 72 false))], nx := 4 }]
def osq112 : List OS := [⟨some 2, { fr := [(0, .a (.ptr 0 0 0)), (1, .a (.ptr 1 0 0)), (2, .a (.ptr 2 0 0)), (7, .a (.smz 3)), (8, .a (.lf (.int .i64))), (10, .a (.lf (.int .u64))), (29, .a (.lf (.sl (.int .u32)))), (30, .a (.lf (.int .i64))), (31, .a (.lf (.int .i64)))], mem := [(0, some (.raw [[.lf .bool, .snil 1 72]] 2 98 true false)), (1, some (.raw [[.lf .bool, .lf (.sl (.int .u32)), .lf .bool, .lf (.sl (.int .u32))]] 4 100 true false)), (2, some (.raw [[.lf .bool, .lf (.sl (.int .u32)), .lf .bool, .lf (.sl (.int .u32))]] 4 100 true false)), (3, some (.arr (.int .u32) 1 72 false))], nx := 4 }⟩]
def LIq112 (k : Nat) : LInst := ⟨2, hsq112, osq112, fun x => Lbig_Int_Mul_uiu_2 k k x.1 x.2.1 x.2.2.1 x.2.2.2.1 x.2.2.2.2.1 x.2.2.2.2.2.1 x.2.2.2.2.2.2.1 x.2.2.2.2.2.2.2.1 x.2.2.2.2.2.2.2.2.1 x.2.2.2.2.2.2.2.2.2.1 x.2.2.2.2.2.2.2.2.2.2.1 x.2.2.2.2.2.2.2.2.2.2.2.1 x.2.2.2.2.2.2.2.2.2.2.2.2.1 x.2.2.2.2.2.2.2.2.2.2.2.2.2.1 x.2.2.2.2.2.2.2.2.2.2.2.2.2.2.1 x.2.2.2.2.2.2.2.2.2.2.2.2.2.2.2.1 x.2.2.2.2.2.2.2.2.2.2.2.2.2.2.2.2.1 x.2.2.2.2.2.2.2.2.2.2.2.2.2.2.2.2.2.1 x.2.2.2.2.2.2.2.2.2.2.2.2.2.2.2.2.2.2.1 x.2.2.2.2.2.2.2.2.2.2.2.2.2.2.2.2.2.2.2⟩
theorem anq112 (k : Nat) : LAll (LOk (R := DS OS.D osq112) (fun b _ σ K => LOt Ty (kps 84) 3 b σ K []) cf (call cf k) (kps 84) Try.f84.ntmps k 3) 2 (lb Try.f84 1) :=
 qA qT (qA (qA qT qT) (qA (qA qT (qA qT (qA qT qT))) qT))
theorem stq112 (k n : Nat) (x : DS SS.D hsq112) : Lbig_Int_Mul_uiu_2 k (n + 1) x.1 x.2.1 x.2.2.1 x.2.2.2.1 x.2.2.2.2.1 x.2.2.2.2.2.1 x.2.2.2.2.2.2.1 x.2.2.2.2.2.2.2.1 x.2.2.2.2.2.2.2.2.1 x.2.2.2.2.2.2.2.2.2.1 x.2.2.2.2.2.2.2.2.2.2.1 x.2.2.2.2.2.2.2.2.2.2.2.1 x.2.2.2.2.2.2.2.2.2.2.2.2.1 x.2.2.2.2.2.2.2.2.2.2.2.2.2.1 x.2.2.2.2.2.2.2.2.2.2.2.2.2.2.1 x.2.2.2.2.2.2.2.2.2.2.2.2.2.2.2.1 x.2.2.2.2.2.2.2.2.2.2.2.2.2.2.2.2.1 x.2.2.2.2.2.2.2.2.2.2.2.2.2.2.2.2.2.1 x.2.2.2.2.2.2.2.2.2.2.2.2.2.2.2.2.2.2.1 x.2.2.2.2.2.2.2.2.2.2.2.2.2.2.2.2.2.2.2 = encSK SS.enc (fun σ => run2 cf (fun f a b K => COt f a b K [Iq15 k]) (fun b _ σ K => LOt Ty (kps 84) 3 b σ K []) Try.f84.ntmps 2 (lb Try.f84 1) σ (nextK Ty (kps 84 2) 3 hsq112 osq112 fun x => Lbig_Int_Mul_uiu_2 k n x.1 x.2.1 x.2.2.1 x.2.2.2.1 x.2.2.2.2.1 x.2.2.2.2.2.1 x.2.2.2.2.2.2.1 x.2.2.2.2.2.2.2.1 x.2.2.2.2.2.2.2.2.1 x.2.2.2.2.2.2.2.2.2.1 x.2.2.2.2.2.2.2.2.2.2.1 x.2.2.2.2.2.2.2.2.2.2.2.1 x.2.2.2.2.2.2.2.2.2.2.2.2.1 x.2.2.2.2.2.2.2.2.2.2.2.2.2.1 x.2.2.2.2.2.2.2.2.2.2.2.2.2.2.1 x.2.2.2.2.2.2.2.2.2.2.2.2.2.2.2.1 x.2.2.2.2.2.2.2.2.2.2.2.2.2.2.2.2.1 x.2.2.2.2.2.2.2.2.2.2.2.2.2.2.2.2.2.1 x.2.2.2.2.2.2.2.2.2.2.2.2.2.2.2.2.2.2.1 x.2.2.2.2.2.2.2.2.2.2.2.2.2.2.2.2.2.2.2)) hsq112 x := by kernel_rfl
theorem loq112 (k : Nat) : LIOk cf (call cf k) (kps 84) Try.f84.ntmps k 3 2 (lb Try.f84 1) (LIq112 k) :=
 loop_ok (c := cf) (callF := call cf k) (kp := kps 84) (nt := Try.f84.ntmps) (k := k) (p := 3) (b := 2) (x0 := lb Try.f84 1) (hs := hsq112) (os := osq112) (COt_ok (alq6 k)) (anq112 k) (fun n x => Lbig_Int_Mul_uiu_2 k n x.1 x.2.1 x.2.2.1 x.2.2.2.1 x.2.2.2.2.1 x.2.2.2.2.2.1 x.2.2.2.2.2.2.1 x.2.2.2.2.2.2.2.1 x.2.2.2.2.2.2.2.2.1 x.2.2.2.2.2.2.2.2.2.1 x.2.2.2.2.2.2.2.2.2.2.1 x.2.2.2.2.2.2.2.2.2.2.2.1 x.2.2.2.2.2.2.2.2.2.2.2.2.1 x.2.2.2.2.2.2.2.2.2.2.2.2.2.1 x.2.2.2.2.2.2.2.2.2.2.2.2.2.2.1 x.2.2.2.2.2.2.2.2.2.2.2.2.2.2.2.1 x.2.2.2.2.2.2.2.2.2.2.2.2.2.2.2.2.1 x.2.2.2.2.2.2.2.2.2.2.2.2.2.2.2.2.2.1 x.2.2.2.2.2.2.2.2.2.2.2.2.2.2.2.2.2.2.1 x.2.2.2.2.2.2.2.2.2.2.2.2.2.2.2.2.2.2.2) (fun _ => rfl) (stq112 k)
def hsq111 : List SS := [{ fr := [(0, .a (.ptr 0 0 0)), (1, .a (.ptr 1 0 0)), (2, .a (.ptr 2 0 0)), (7, .a (.smz 3)), (29, .a (.lf (.sl (.int .u32)))), (30, .a (.lf (.int .i64))), (31, .a (.lf (.int .i64)))], mem := [(0, some (.raw [[.lf .bool, .snil 1 72]] 2 98 true false)), (1, some (.raw [[.lf .bool, .lf (.sl (.int .u32)), .lf .bool, .lf (.sl (.int .u32))]] 4 100 true false)), (2, some (.raw [[.lf .bool, .lf (.sl (.int .u32)), .lf .bool, .lf (.sl (.int .u32))]] 4 100 true false)), (3, some (.arr (.int .u32) 1 72 false))], nx := 4 }]
def osq111 : List OS := [⟨some 0, { fr := [(0, .a (.ptr 0 0 0)), (1, .a (.ptr 1 0 0)), (2, .a (.ptr 2 0 0)), (7, .a (.smz 3))], mem := [(0, some (.raw [[.lf .bool, .snil 1 72]] 2 98 true false)), (1, some (.raw [[.lf .bool, .lf (.sl (.int .u32)), .lf .bool, .lf (.sl (.int .u32))]] 4 100 true false)), (2, some (.raw [[.lf .bool, .lf (.sl (.int .u32)), .lf .bool, .lf (.sl (.int .u32))]] 4 100 true false)), (3, some (.arr (.int .u32) 1 72 false))], nx := 4 }⟩]
def LIq111 (k : Nat) : LInst := ⟨0, hsq111, osq111, fun x => Lbig_Int_Mul_uiu_0 k k x.1 x.2.1 x.2.2.1 x.2.2.2.1 x.2.2.2.2.1 x.2.2.2.2.2.1 x.2.2.2.2.2.2.1 x.2.2.2.2.2.2.2.1 x.2.2.2.2.2.2.2.2.1 x.2.2.2.2.2.2.2.2.2.1 x.2.2.2.2.2.2.2.2.2.2.1 x.2.2.2.2.2.2.2.2.2.2.2.1 x.2.2.2.2.2.2.2.2.2.2.2.2.1 x.2.2.2.2.2.2.2.2.2.2.2.2.2⟩
theorem anq111 (k : Nat) : LAll (LOk (R := DS OS.D osq111) (fun b _ σ K => LOt Ty (kps 84) 3 b σ K [LIq112 k]) cf (call cf k) (kps 84) Try.f84.ntmps k 3) 0 (lb Try.f84 0) :=
 qA qT (qA (qA qT qT) (qA (qA qT (qA qT (qA (qA qT (LOt_ok (c := cf) (callF := call cf k) (kp := kps 84) (nt := Try.f84.ntmps) (k := k) (p := 3) (b := 2) (x0 := lb Try.f84 1) (l := [LIq112 k]) (qA (fun _ => loq112 k) qT))) qT))) qT))
theorem stq111 (k n : Nat) (x : DS SS.D hsq111) : Lbig_Int_Mul_uiu_0 k (n + 1) x.1 x.2.1 x.2.2.1 x.2.2.2.1 x.2.2.2.2.1 x.2.2.2.2.2.1 x.2.2.2.2.2.2.1 x.2.2.2.2.2.2.2.1 x.2.2.2.2.2.2.2.2.1 x.2.2.2.2.2.2.2.2.2.1 x.2.2.2.2.2.2.2.2.2.2.1 x.2.2.2.2.2.2.2.2.2.2.2.1 x.2.2.2.2.2.2.2.2.2.2.2.2.1 x.2.2.2.2.2.2.2.2.2.2.2.2.2 = encSK SS.enc (fun σ => run2 cf (fun f a b K => COt f a b K [Iq15 k]) (fun b _ σ K => LOt Ty (kps 84) 3 b σ K [LIq112 k]) Try.f84.ntmps 0 (lb Try.f84 0) σ (nextK Ty (kps 84 0) 3 hsq111 osq111 fun x => Lbig_Int_Mul_uiu_0 k n x.1 x.2.1 x.2.2.1 x.2.2.2.1 x.2.2.2.2.1 x.2.2.2.2.2.1 x.2.2.2.2.2.2.1 x.2.2.2.2.2.2.2.1 x.2.2.2.2.2.2.2.2.1 x.2.2.2.2.2.2.2.2.2.1 x.2.2.2.2.2.2.2.2.2.2.1 x.2.2.2.2.2.2.2.2.2.2.2.1 x.2.2.2.2.2.2.2.2.2.2.2.2.1 x.2.2.2.2.2.2.2.2.2.2.2.2.2)) hsq111 x := by kernel_rfl
theorem loq111 (k : Nat) : LIOk cf (call cf k) (kps 84) Try.f84.ntmps k 3 0 (lb Try.f84 0) (LIq111 k) :=
 loop_ok (c := cf) (callF := call cf k) (kp := kps 84) (nt := Try.f84.ntmps) (k := k) (p := 3) (b := 0) (x0 := lb Try.f84 0) (hs := hsq111) (os := osq111) (COt_ok (alq6 k)) (anq111 k) (fun n x => Lbig_Int_Mul_uiu_0 k n x.1 x.2.1 x.2.2.1 x.2.2.2.1 x.2.2.2.2.1 x.2.2.2.2.2.1 x.2.2.2.2.2.2.1 x.2.2.2.2.2.2.2.1 x.2.2.2.2.2.2.2.2.1 x.2.2.2.2.2.2.2.2.2.1 x.2.2.2.2.2.2.2.2.2.2.1 x.2.2.2.2.2.2.2.2.2.2.2.1 x.2.2.2.2.2.2.2.2.2.2.2.2.1 x.2.2.2.2.2.2.2.2.2.2.2.2.2) (fun _ => rfl) (stq111 k)
theorem anq6 (k : Nat) : LAll (LOk (R := DS FS.D rsq6) (fun b _ σ K => LOt Ty (kps 84) 3 b σ K [LIq112 k, LIq111 k]) cf (call cf k) (cf.keep 84) Try.f84.ntmps k shq6.bs.length) 0 (bd Try.f84) :=
 qA qT (qA qT (qA (qA qT (LOt_ok (c := cf) (callF := call cf k) (kp := kps 84) (nt := Try.f84.ntmps) (k := k) (p := 3) (b := 0) (x0 := lb Try.f84 0) (l := [LIq112 k, LIq111 k]) (qA (fun h => absurd (show (2 : Nat) = 0 from h) (by decide)) (qA (fun _ => loq111 k) qT)))) (qA qT qT)))
theorem stq6 (k : Nat) (x : shq6.D) : Fbig_Int_Mul_uiu (k + 1) x.1 x.2.1 x.2.2.1 x.2.2.2.1 x.2.2.2.2.1 x.2.2.2.2.2.1 x.2.2.2.2.2.2.1 x.2.2.2.2.2.2.2.1 x.2.2.2.2.2.2.2.2 = body2 cf (fun f a b K => COt f a b K [Iq15 k]) (fun b _ σ K => LOt Ty (kps 84) 3 b σ K [LIq112 k, LIq111 k]) 84 Try.f84.ntmps Try.f84.results.toList (bd Try.f84) (shq6.enc x).1 (shq6.enc x).2 (putS FS.dec rsq6) := by kernel_rfl
theorem okq6 : ∀ k, InstOk (call cf k) (Iq6 k)
 | 0 => fun x y e => absurd (show (none : Option _) = some y from e) (by simp)
 | k + 1 => inst_ok (c := cf) (k := k) (f := 84) (fn := Try.f84) (body := bd Try.f84) (sh := shq6) (os := rsq6) rfl Try.func84 rfl ⟨rfl, Nat.le_of_ble_eq_true rfl⟩ (COt_ok (alq6 k)) (anq6 k) (fun x => Fbig_Int_Mul_uiu (k + 1) x.1 x.2.1 x.2.2.1 x.2.2.2.1 x.2.2.2.2.1 x.2.2.2.2.2.1 x.2.2.2.2.2.2.1 x.2.2.2.2.2.2.2.1 x.2.2.2.2.2.2.2.2) (stq6 k)

/-! (*shunt/big.Int).Mul -/
def Lbig_Int_Mul_gsh_2s (k : Nat) (rec : Nat → Int → Int → Int → List Int → Int → Int → List Int → Int → Int → Bool → Bool → List Int → Bool → List Int → List Int → Option (Nat × Int × Int × List Int × Int × Int × Bool × Bool × List Int × Bool × List Int × List Int)) (out1 : Nat) (i : Int) (a : Int) (carry : Int) (x : List Int) (x1 : Int) (x2 : Int) (x3 : List Int) (x4 : Int) (x5 : Int) (z : Bool) (x0 : Bool) (x11 : List Int) (y0 : Bool) (y1 : List Int) (outs : List Int) : Option (Nat × Int × Int × List Int × Int × Int × Bool × Bool × List Int × Bool × List Int × List Int) :=
 if ((decide (x5 < x4)) = true) then
 if ((0 : Int) ≤ x5) then
 Option.bind (x3)[(Int.toNat x5)]? fun x6 =>
 if (((0 : Int) ≤ (IntKind.wrap .i64 (i + x5))) ∧ ((IntKind.wrap .i64 (i + x5)) < ((out1 : Nat) : Int))) then
 Option.bind (outs)[(0 + (Int.toNat (IntKind.wrap .i64 (i + x5))))]? fun x7 =>
 if (((0 : Int) ≤ (IntKind.wrap .i64 (i + x5))) ∧ ((IntKind.wrap .i64 (i + x5)) < ((out1 : Nat) : Int))) then
 Option.bind (outs)[(0 + (Int.toNat (IntKind.wrap .i64 (i + x5))))]? fun x8 =>
 rec out1 i a (Int.fdiv (IntKind.wrap .u64 ((IntKind.wrap .u64 ((IntKind.wrap .u64 ((IntKind.wrap .u64 a) * (IntKind.wrap .u64 x6))) + (IntKind.wrap .u64 x7))) + carry)) (4294967296 : Int)) x x1 x2 x3 x4 (IntKind.wrap .i64 (x5 + (1 : Int))) z x0 x11 y0 y1 (List.set outs (0 + (Int.toNat (IntKind.wrap .i64 (i + x5)))) (IntKind.wrap .u32 (IntKind.wrap .u64 ((IntKind.wrap .u64 ((IntKind.wrap .u64 ((IntKind.wrap .u64 a) * (IntKind.wrap .u64 x6))) + (IntKind.wrap .u64 x7))) + carry))))
 else
 none
 else
 none
 else
 none
 else
 (some (out1, i, carry, x, x1, x2, z, x0, x11, y0, y1, outs))
def Lbig_Int_Mul_gsh_2 (k n : Nat) : Nat → Int → Int → Int → List Int → Int → Int → List Int → Int → Int → Bool → Bool → List Int → Bool → List Int → List Int → Option (Nat × Int × Int × List Int × Int × Int × Bool × Bool × List Int × Bool × List Int × List Int) := Nat.rec (fun _ _ _ _ _ _ _ _ _ _ _ _ _ _ _ _ => none) (fun _ r => Lbig_Int_Mul_gsh_2s k r) n
def Lbig_Int_Mul_gsh_0s (k : Nat) (rec : Nat → List Int → Int → Int → Bool → Bool → List Int → Bool → List Int → List Int → Option (Nat × Bool × Bool × List Int × Bool × List Int × List Int)) (out1 : Nat) (x : List Int) (x1 : Int) (x2 : Int) (z : Bool) (x0 : Bool) (x11 : List Int) (y0 : Bool) (y1 : List Int) (outs : List Int) : Option (Nat × Bool × Bool × List Int × Bool × List Int × List Int) :=
 if ((decide (x2 < x1)) = true) then
 if ((0 : Int) ≤ x2) then
 Option.bind (x)[(Int.toNat x2)]? fun x4 =>
 Option.bind (Lbig_Int_Mul_gsh_2 k k out1 x2 x4 (0 : Int) x x1 x2 y1 (((List.length y1) : Nat) : Int) (0 : Int) z x0 x11 y0 y1 outs) fun r6 =>
 if (((0 : Int) ≤ (IntKind.wrap .i64 (r6.2.1 + (((List.length r6.2.2.2.2.2.2.2.2.2.2.1) : Nat) : Int)))) ∧ ((IntKind.wrap .i64 (r6.2.1 + (((List.length r6.2.2.2.2.2.2.2.2.2.2.1) : Nat) : Int))) < ((r6.1 : Nat) : Int))) then
 Option.bind (r6.2.2.2.2.2.2.2.2.2.2.2)[(0 + (Int.toNat (IntKind.wrap .i64 (r6.2.1 + (((List.length r6.2.2.2.2.2.2.2.2.2.2.1) : Nat) : Int)))))]? fun x5 =>
 rec r6.1 r6.2.2.2.1 r6.2.2.2.2.1 (IntKind.wrap .i64 (r6.2.2.2.2.2.1 + (1 : Int))) r6.2.2.2.2.2.2.1 r6.2.2.2.2.2.2.2.1 r6.2.2.2.2.2.2.2.2.1 r6.2.2.2.2.2.2.2.2.2.1 r6.2.2.2.2.2.2.2.2.2.2.1 (List.set r6.2.2.2.2.2.2.2.2.2.2.2 (0 + (Int.toNat (IntKind.wrap .i64 (r6.2.1 + (((List.length r6.2.2.2.2.2.2.2.2.2.2.1) : Nat) : Int))))) (IntKind.wrap .u32 r6.2.2.1))
 else
 none
 else
 none
 else
 (some (out1, z, x0, x11, y0, y1, outs))
def Lbig_Int_Mul_gsh_0 (k n : Nat) : Nat → List Int → Int → Int → Bool → Bool → List Int → Bool → List Int → List Int → Option (Nat × Bool × Bool × List Int × Bool × List Int × List Int) := Nat.rec (fun _ _ _ _ _ _ _ _ _ _ => none) (fun _ r => Lbig_Int_Mul_gsh_0s k r) n
def bbig_Int_Mul_gsh (k : Nat) (z : Bool) (x0 : Bool) (x1 : List Int) (y0 : Bool) (y1 : List Int) : Option (Bool × List Int × Bool × List Int × Bool × List Int) :=
 if (((0 : Int) ≤ (IntKind.wrap .i64 ((((List.length x1) : Nat) : Int) + (((List.length y1) : Nat) : Int)))) ∧ (((IntKind.wrap .i64 ((((List.length x1) : Nat) : Int) + (((List.length y1) : Nat) : Int))) ≤ (IntKind.wrap .i64 ((((List.length x1) : Nat) : Int) + (((List.length y1) : Nat) : Int)))) ∧ (((IntKind.wrap .i64 ((((List.length x1) : Nat) : Int) + (((List.length y1) : Nat) : Int))) * (4 : Int)) ≤ (140737488355328 : Int)))) then
 Option.bind (Lbig_Int_Mul_gsh_0 k k (Int.toNat (IntKind.wrap .i64 ((((List.length x1) : Nat) : Int) + (((List.length y1) : Nat) : Int)))) x1 (((List.length x1) : Nat) : Int) (0 : Int) z x0 x1 y0 y1 (List.replicate (Int.toNat (IntKind.wrap .i64 ((((List.length x1) : Nat) : Int) + (((List.length y1) : Nat) : Int)))) (0 : Int))) fun r6 =>
 if ((0 + r6.1) ≤ (List.length r6.2.2.2.2.2.2)) then
 Option.bind (Fbig_Int_set_cvg k (!(r6.2.2.1 == r6.2.2.2.2.1)) (List.take r6.1 r6.2.2.2.2.2.2) r6.2.1) fun r7 =>
 (some (r7.1, r7.2, r6.2.2.1, r6.2.2.2.1, r6.2.2.2.2.1, r6.2.2.2.2.2.1))
 else
 none
 else
 none
def Fbig_Int_Mul_gsh : Nat → Bool → Bool → List Int → Bool → List Int → Option (Bool × List Int × Bool × List Int × Bool × List Int)
 | 0, _, _, _, _, _ => none
 | k + 1, z, x0, x1, y0, y1 => bbig_Int_Mul_gsh k z x0 x1 y0 y1
def shq4 : FS := { vs := [.a (.ptr 0 0 0), .a (.ptr 1 0 0), .a (.ptr 2 0 0)], bs := [.raw [[.lf .bool, .snil 1 72]] 2 98 true false, .raw [[.lf .bool, .lf (.sl (.int .u32))]] 2 98 true false, .raw [[.lf .bool, .lf (.sl (.int .u32))]] 2 98 true false] }
def rsq4 : List FS := [{ vs := [.a (.ptr 0 0 0)], bs := [.raw [[.lf .bool, .lf (.sl (.int .u32))]] 2 98 true false, .raw [[.lf .bool, .lf (.sl (.int .u32))]] 2 98 true false, .raw [[.lf .bool, .lf (.sl (.int .u32))]] 2 98 true false] }]
def Iq4 (k : Nat) : Inst := ⟨84, shq4, rsq4, fun x => Fbig_Int_Mul_gsh k x.1 x.2.1 x.2.2.1 x.2.2.2.1 x.2.2.2.2⟩
theorem alq4 (k : Nat) : AllI (call cf k) [Iq15 k] := qA (okq15 k) qT
def hsq108 : List SS := [{ fr := [(0, .a (.ptr 0 0 0)), (1, .a (.ptr 1 0 0)), (2, .a (.ptr 2 0 0)), (7, .a (.smz 3)), (8, .a (.lf (.int .i64))), (9, .a (.lf (.int .u32))), (10, .a (.lf (.int .u64))), (29, .a (.lf (.sl (.int .u32)))), (30, .a (.lf (.int .i64))), (31, .a (.lf (.int .i64))), (39, .a (.lf (.sl (.int .u32)))), (40, .a (.lf (.int .i64))), (41, .a (.lf (.int .i64)))], mem := [(0, some (.raw [[.lf .bool, .snil 1 72]] 2 98 true false)), (1, some (.raw [[.lf .bool, .lf (.sl (.int .u32))]] 2 98 true false)), (2, some (.raw [[.lf .bool, .lf (.sl (.int .u32))]] 2 98 true false)), (3, some (.arr (.int .u32) 1 72 false))], nx := 4 }]
def osq108 : List OS := [⟨some 2, { fr := [(0, .a (.ptr 0 0 0)), (1, .a (.ptr 1 0 0)), (2, .a (.ptr 2 0 0)), (7, .a (.smz 3)), (8, .a (.lf (.int .i64))), (10, .a (.lf (.int .u64))), (29, .a (.lf (.sl (.int .u32)))), (30, .a (.lf (.int .i64))), (31, .a (.lf (.int .i64)))], mem := [(0, some (.raw [[.lf .bool, .snil 1 72]] 2 98 true false)), (1, some (.raw [[.lf .bool, .lf (.sl (.int .u32))]] 2 98 true false)), (2, some (.raw [[.lf .bool, .lf (.sl (.int .u32))]] 2 98 true false)), (3, some (.arr (.int .u32) 1 72 false))], nx := 4 }⟩]
def LIq108 (k : Nat) : LInst := ⟨2, hsq108, osq108, fun x => Lbig_Int_Mul_gsh_2 k k x.1 x.2.1 x.2.2.1 x.2.2.2.1 x.2.2.2.2.1 x.2.2.2.2.2.1 x.2.2.2.2.2.2.1 x.2.2.2.2.2.2.2.1 x.2.2.2.2.2.2.2.2.1 x.2.2.2.2.2.2.2.2.2.1 x.2.2.2.2.2.2.2.2.2.2.1 x.2.2.2.2.2.2.2.2.2.2.2.1 x.2.2.2.2.2.2.2.2.2.2.2.2.1 x.2.2.2.2.2.2.2.2.2.2.2.2.2.1 x.2.2.2.2.2.2.2.2.2.2.2.2.2.2.1 x.2.2.2.2.2.2.2.2.2.2.2.2.2.2.2⟩
theorem anq108 (k : Nat) : LAll (LOk (R := DS OS.D osq108) (fun b _ σ K => LOt Ty (kps 84) 3 b σ K []) cf (call cf k) (kps 84) Try.f84.ntmps k 3) 2 (lb Try.f84 1) :=
 qA qT (qA (qA qT qT) (qA (qA qT (qA qT (qA qT qT))) qT))
theorem stq108 (k n : Nat) (x : DS SS.D hsq108) : Lbig_Int_Mul_gsh_2 k (n + 1) x.1 x.2.1 x.2.2.1 x.2.2.2.1 x.2.2.2.2.1 x.2.2.2.2.2.1 x.2.2.2.2.2.2.1 x.2.2.2.2.2.2.2.1 x.2.2.2.2.2.2.2.2.1 x.2.2.2.2.2.2.2.2.2.1 x.2.2.2.2.2.2.2.2.2.2.1 x.2.2.2.2.2.2.2.2.2.2.2.1 x.2.2.2.2.2.2.2.2.2.2.2.2.1 x.2.2.2.2.2.2.2.2.2.2.2.2.2.1 x.2.2.2.2.2.2.2.2.2.2.2.2.2.2.1 x.2.2.2.2.2.2.2.2.2.2.2.2.2.2.2 = encSK SS.enc (fun σ => run2 cf (fun f a b K => COt f a b K [Iq15 k]) (fun b _ σ K => LOt Ty (kps 84) 3 b σ K []) Try.f84.ntmps 2 (lb Try.f84 1) σ (nextK Ty (kps 84 2) 3 hsq108 osq108 fun x => Lbig_Int_Mul_gsh_2 k n x.1 x.2.1 x.2.2.1 x.2.2.2.1 x.2.2.2.2.1 x.2.2.2.2.2.1 x.2.2.2.2.2.2.1 x.2.2.2.2.2.2.2.1 x.2.2.2.2.2.2.2.2.1 x.2.2.2.2.2.2.2.2.2.1 x.2.2.2.2.2.2.2.2.2.2.1 x.2.2.2.2.2.2.2.2.2.2.2.1 x.2.2.2.2.2.2.2.2.2.2.2.2.1 x.2.2.2.2.2.2.2.2.2.2.2.2.2.1 x.2.2.2.2.2.2.2.2.2.2.2.2.2.2.1 x.2.2.2.2.2.2.2.2.2.2.2.2.2.2.2)) hsq108 x := by kernel_rfl
theorem loq108 (k : Nat) : LIOk cf (call cf k) (kps 84) Try.f84.ntmps k 3 2 (lb Try.f84 1) (LIq108 k) :=
 loop_ok (c := cf) (callF := call cf k) (kp := kps 84) (nt := Try.f84.ntmps) (k := k) (p := 3) (b := 2) (x0 := lb Try.f84 1) (hs := hsq108) (os := osq108) (COt_ok (alq4 k)) (anq108 k) (fun n x => Lbig_Int_Mul_gsh_2 k n x.1 x.2.1 x.2.2.1 x.2.2.2.1 x.2.2.2.2.1 x.2.2.2.2.2.1 x.2.2.2.2.2.2.1 x.2.2.2.2.2.2.2.1 x.2.2.2.2.2.2.2.2.1 x.2.2.2.2.2.2.2.2.2.1 x.2.2.2.2.2.2.2.2.2.2.1 x.2.2.2.2.2.2.2.2.2.2.2.1 x.2.2.2.2.2.2.2.2.2.2.2.2.1 x.2.2.2.2.2.2.2.2.2.2.2.2.2.1 x.2.2.2.2.2.2.2.2.2.2.2.2.2.2.1 x.2.2.2.2.2.2.2.2.2.2.2.2.2.2.2) (fun _ => rfl) (stq108 k)
def hsq107 : List SS := [{ fr := [(0, .a (.ptr 0 0 0)), (1, .a (.ptr 1 0 0)), (2, .a (.ptr 2 0 0)), (7, .a (.smz 3)), (29, .a (.lf (.sl (.int .u32)))), (30, .a (.lf (.int .i64))), (31, .a (.lf (.int .i64)))], mem := [(0, some (.raw [[.lf .bool, .snil 1 72]] 2 98 true false)), (1, some (.raw [[.lf .bool, .lf (.sl (.int .u32))]] 2 98 true false)), (2, some (.raw [[.lf .bool, .lf (.sl (.int .u32))]] 2 98 true false)), (3, some (.arr (.int .u32) 1 72 false))], nx := 4 }]
def osq107 : List OS := [⟨some 0, { fr := [(0, .a (.ptr 0 0 0)), (1, .a (.ptr 1 0 0)), (2, .a (.ptr 2 0 0)), (7, .a (.smz 3))], mem := [(0, some (.raw [[.lf .bool, .snil 1 72]] 2 98 true false)), (1, some (.raw [[.lf .bool, .lf (.sl (.int .u32))]] 2 98 true false)), (2, some (.raw [[.lf .bool, .lf (.sl (.int .u32))]] 2 98 true false)), (3, some (.arr (.int .u32) 1 72 false))], nx := 4 }⟩]
def LIq107 (k : Nat) : LInst := ⟨0, hsq107, osq107, fun x => Lbig_Int_Mul_gsh_0 k k x.1 x.2.1 x.2.2.1 x.2.2.2.1 x.2.2.2.2.1 x.2.2.2.2.2.1 x.2.2.2.2.2.2.1 x.2.2.2.2.2.2.2.1 x.2.2.2.2.2.2.2.2.1 x.2.2.2.2.2.2.2.2.2⟩
theorem anq107 (k : Nat) : LAll (LOk (R := DS OS.D osq107) (fun b _ σ K => LOt Ty (kps 84) 3 b σ K [LIq108 k]) cf (call cf k) (kps 84) Try.f84.ntmps k 3) 0 (lb Try.f84 0) :=
 qA qT (qA (qA qT qT) (qA (qA qT (qA qT (qA (qA qT (LOt_ok (c := cf) (callF := call cf k) (kp := kps 84) (nt := Try.f84.ntmps) (k := k) (p := 3) (b := 2) (x0 := lb Try.f84 1) (l := [LIq108 k]) (qA (fun _ => loq108 k) qT))) qT))) qT))
theorem stq107 (k n : Nat) (x : DS SS.D hsq107) : Lbig_Int_Mul_gsh_0 k (n + 1) x.1 x.2.1 x.2.2.1 x.2.2.2.1 x.2.2.2.2.1 x.2.2.2.2.2.1 x.2.2.2.2.2.2.1 x.2.2.2.2.2.2.2.1 x.2.2.2.2.2.2.2.2.1 x.2.2.2.2.2.2.2.2.2 = encSK SS.enc (fun σ => run2 cf (fun f a b K => COt f a b K [Iq15 k]) (fun b _ σ K => LOt Ty (kps 84) 3 b σ K [LIq108 k]) Try.f84.ntmps 0 (lb Try.f84 0) σ (nextK Ty (kps 84 0) 3 hsq107 osq107 fun x => Lbig_Int_Mul_gsh_0 k n x.1 x.2.1 x.2.2.1 x.2.2.2.1 x.2.2.2.2.1 x.2.2.2.2.2.1 x.2.2.2.2.2.2.1 x.2.2.2.2.2.2.2.1 x.2.2.2.2.2.2.2.2.1 x.2.2.2.2.2.2.2.2.2)) hsq107 x := by kernel_rfl
theorem loq107 (k : Nat) : LIOk cf (call cf k) (kps 84) Try.f84.ntmps k 3 0 (lb Try.f84 0) (LIq107 k) :=
 loop_ok (c := cf) (callF := call cf k) (kp := kps 84) (nt := Try.f84.ntmps) (k := k) (p := 3) (b := 0) (x0 := lb Try.f84 0) (hs := hsq107) (os := osq107) (COt_ok (alq4 k)) (anq107 k) (fun n x => Lbig_Int_Mul_gsh_0 k n x.1 x.2.1 x.2.2.1 x.2.2.2.1 x.2.2.2.2.1 x.2.2.2.2.2.1 x.2.2.2.2.2.2.1 x.2.2.2.2.2.2.2.1 x.2.2.2.2.2.2.2.2.1 x.2.2.2.2.2.2.2.2.2) (fun _ => rfl) (stq107 k)
theorem anq4 (k : Nat) : LAll (LOk (R := DS FS.D rsq4) (fun b _ σ K => LOt Ty (kps 84) 3 b σ K [LIq108 k, LIq107 k]) cf (call cf k) (cf.keep 84) Try.f84.ntmps k shq4.bs.length) 0 (bd Try.f84) :=
 qA qT (qA qT (qA (qA qT (LOt_ok (c := cf) (callF := call cf k) (kp := kps 84) (nt := Try.f84.ntmps) (k := k) (p := 3) (b := 0) (x0 := lb Try.f84 0) (l := [LIq108 k, LIq107 k]) (qA (fun h => absurd (show (2 : Nat) = 0 from h) (by decide)) (qA (fun _ => loq107 k) qT)))) (qA qT qT)))
theorem stq4 (k : Nat) (x : shq4.D) : Fbig_Int_Mul_gsh (k + 1) x.1 x.2.1 x.2.2.1 x.2.2.2.1 x.2.2.2.2 = body2 cf (fun f a b K => COt f a b K [Iq15 k]) (fun b _ σ K => LOt Ty (kps 84) 3 b σ K [LIq108 k, LIq107 k]) 84 Try.f84.ntmps Try.f84.results.toList (bd Try.f84) (shq4.enc x).1 (shq4.enc x).2 (putS FS.dec rsq4) := by kernel_rfl
theorem okq4 : ∀ k, InstOk (call cf k) (Iq4 k)
 | 0 => fun x y e => absurd (show (none : Option _) = some y from e) (by simp)
 | k + 1 => inst_ok (c := cf) (k := k) (f := 84) (fn := Try.f84) (body := bd Try.f84) (sh := shq4) (os := rsq4) rfl Try.func84 rfl ⟨rfl, Nat.le_of_ble_eq_true rfl⟩ (COt_ok (alq4 k)) (anq4 k) (fun x => Fbig_Int_Mul_gsh (k + 1) x.1 x.2.1 x.2.2.1 x.2.2.2.1 x.2.2.2.2) (stq4 k)

/-! (*shunt/big.Rat).frac -/
def bbig_Rat_frac_prp (k : Nat) (z0 : Bool) (z1 : List Int) (z2 : Bool) (z3 : List Int) (n0 : Bool) (n1 : List Int) (d0 : Bool) (d1 : List Int) : Option (Bool × List Int × Bool × List Int × Bool × List Int × Bool × List Int) :=
 Option.bind (Fbig_Gcd_ddu k n0 n1 d0 d1) fun r7 =>
 if (r7.2.2.1 = true) then
 Option.bind (Fbig_Int_Quo_gsh k false r7.1 r7.2.1 true r7.2.2.2.2.2) fun r8 =>
 Option.bind (Fbig_Int_Quo_gsh k false r7.2.2.1 r7.2.2.2.1 r8.2.2.2.2.1 r8.2.2.2.2.2) fun r9 =>
 (some (r8.1, r8.2.1, r9.1, r9.2.1, r8.2.2.1, r8.2.2.2.1, r9.2.2.1, r9.2.2.2.1))
 else
 Option.bind (Fbig_Int_Quo_gsh k false r7.1 r7.2.1 r7.2.2.2.2.1 r7.2.2.2.2.2) fun r8 =>
 Option.bind (Fbig_Int_Quo_gsh k false r7.2.2.1 r7.2.2.2.1 r8.2.2.2.2.1 r8.2.2.2.2.2) fun r9 =>
 (some (r8.1, r8.2.1, r9.1, r9.2.1, r8.2.2.1, r8.2.2.2.1, r9.2.2.1, r9.2.2.2.1))
def Fbig_Rat_frac_prp : Nat → Bool → List Int → Bool → List Int → Bool → List Int → Bool → List Int → Option (Bool × List Int × Bool × List Int × Bool × List Int × Bool × List Int)
 | 0, _, _, _, _, _, _, _, _ => none
 | k + 1, z0, z1, z2, z3, n0, n1, d0, d1 => bbig_Rat_frac_prp k z0 z1 z2 z3 n0 n1 d0 d1
def shq33 : FS := { vs := [.a (.ptr 0 0 0), .a (.ptr 1 0 0), .a (.ptr 2 0 0)], bs := [.raw [[.lf .bool, .lf (.sl (.int .u32)), .lf .bool, .lf (.sl (.int .u32))]] 4 100 true false, .raw [[.lf .bool, .lf (.sl (.int .u32))]] 2 98 true false, .raw [[.lf .bool, .lf (.sl (.int .u32))]] 2 98 true false] }
def rsq33 : List FS := [{ vs := [.a (.ptr 0 0 0)], bs := [.raw [[.lf .bool, .lf (.sl (.int .u32)), .lf .bool, .lf (.sl (.int .u32))]] 4 100 true false, .raw [[.lf .bool, .lf (.sl (.int .u32))]] 2 98 true false, .raw [[.lf .bool, .lf (.sl (.int .u32))]] 2 98 true false] }]
def Iq33 (k : Nat) : Inst := ⟨88, shq33, rsq33, fun x => Fbig_Rat_frac_prp k x.1 x.2.1 x.2.2.1 x.2.2.2.1 x.2.2.2.2.1 x.2.2.2.2.2.1 x.2.2.2.2.2.2.1 x.2.2.2.2.2.2.2⟩
theorem alq33 (k : Nat) : AllI (call cf k) [Iq1 k, Iq11 k] := qA (okq1 k) (qA (okq11 k) qT)
theorem anq33 (k : Nat) : LAll (LOk (R := DS FS.D rsq33) (fun b _ σ K => LOt Ty (kps 88) 3 b σ K []) cf (call cf k) (cf.keep 88) Try.f88.ntmps k shq33.bs.length) 0 (bd Try.f88) :=
 qA qT (qA qT (qA (qA qT (qA qT qT)) (qA qT (qA qT (qA qT (qA qT (qA qT qT)))))))
theorem stq33 (k : Nat) (x : shq33.D) : Fbig_Rat_frac_prp (k + 1) x.1 x.2.1 x.2.2.1 x.2.2.2.1 x.2.2.2.2.1 x.2.2.2.2.2.1 x.2.2.2.2.2.2.1 x.2.2.2.2.2.2.2 = body2 cf (fun f a b K => COt f a b K [Iq1 k, Iq11 k]) (fun b _ σ K => LOt Ty (kps 88) 3 b σ K []) 88 Try.f88.ntmps Try.f88.results.toList (bd Try.f88) (shq33.enc x).1 (shq33.enc x).2 (putS FS.dec rsq33) := by kernel_rfl
theorem okq33 : ∀ k, InstOk (call cf k) (Iq33 k)
 | 0 => fun x y e => absurd (show (none : Option _) = some y from e) (by simp)
 | k + 1 => inst_ok (c := cf) (k := k) (f := 88) (fn := Try.f88) (body := bd Try.f88) (sh := shq33) (os := rsq33) rfl Try.func88 rfl ⟨rfl, Nat.le_of_ble_eq_true rfl⟩ (COt_ok (alq33 k)) (anq33 k) (fun x => Fbig_Rat_frac_prp (k + 1) x.1 x.2.1 x.2.2.1 x.2.2.2.1 x.2.2.2.2.1 x.2.2.2.2.2.1 x.2.2.2.2.2.2.1 x.2.2.2.2.2.2.2) (stq33 k)

/-! (*shunt/big.Rat).Mul -/
def bbig_Rat_Mul_wqk (k : Nat) (x0 : Bool) (x1 : List Int) (x2 : Bool) (x3 : List Int) (y0 : Bool) (y1 : List Int) (y2 : Bool) (y3 : List Int) : Option (Bool × List Int × Bool × List Int × Bool × List Int × Bool × List Int) :=
 Option.bind (Fbig_Int_Mul_uiu k false x0 x1 x2 x3 y0 y1 y2 y3) fun r3 =>
 Option.bind (Fbig_Rat_Denom_plq k r3.2.2.1 r3.2.2.2.1 r3.2.2.2.2.1 r3.2.2.2.2.2.1) fun r4 =>
 Option.bind (Fbig_Rat_Denom_plq k r3.2.2.2.2.2.2.1 r3.2.2.2.2.2.2.2.1 r3.2.2.2.2.2.2.2.2.1 r3.2.2.2.2.2.2.2.2.2) fun r5 =>
 Option.bind (Fbig_Int_Mul_gsh k false r4.2.2.2.2.1 r4.2.2.2.2.2 r5.2.2.2.2.1 r5.2.2.2.2.2) fun r6 =>
 Option.bind (Fbig_Rat_frac_prp k r4.1 r4.2.1 r4.2.2.1 r4.2.2.2.1 r3.1 r3.2.1 r6.1 r6.2.1) fun r7 =>
 (some (r7.1, r7.2.1, r7.2.2.1, r7.2.2.2.1, r5.1, r5.2.1, r5.2.2.1, r5.2.2.2.1))
def Fbig_Rat_Mul_wqk : Nat → Bool → List Int → Bool → List Int → Bool → List Int → Bool → List Int → Option (Bool × List Int × Bool × List Int × Bool × List Int × Bool × List Int)
 | 0, _, _, _, _, _, _, _, _ => none
 | k + 1, x0, x1, x2, x3, y0, y1, y2, y3 => bbig_Rat_Mul_wqk k x0 x1 x2 x3 y0 y1 y2 y3
def shq28 : FS := { vs := [.a (.ptr 0 0 0), .a (.ptr 0 0 0), .a (.ptr 1 0 0)], bs := [.raw [[.lf .bool, .lf (.sl (.int .u32)), .lf .bool, .lf (.sl (.int .u32))]] 4 100 true false, .raw [[.lf .bool, .lf (.sl (.int .u32)), .lf .bool, .lf (.sl (.int .u32))]] 4 100 true false] }
def rsq28 : List FS := [{ vs := [.a (.ptr 0 0 0)], bs := [.raw [[.lf .bool, .lf (.sl (.int .u32)), .lf .bool, .lf (.sl (.int .u32))]] 4 100 true false, .raw [[.lf .bool, .lf (.sl (.int .u32)), .lf .bool, .lf (.sl (.int .u32))]] 4 100 true false] }]
def Iq28 (k : Nat) : Inst := ⟨54, shq28, rsq28, fun x => Fbig_Rat_Mul_wqk k x.1 x.2.1 x.2.2.1 x.2.2.2.1 x.2.2.2.2.1 x.2.2.2.2.2.1 x.2.2.2.2.2.2.1 x.2.2.2.2.2.2.2⟩
theorem alq28 (k : Nat) : AllI (call cf k) [Iq6 k, Iq26 k, Iq4 k, Iq33 k] := qA (okq6 k) (qA (okq26 k) (qA (okq4 k) (qA (okq33 k) qT)))
theorem anq28 (k : Nat) : LAll (LOk (R := DS FS.D rsq28) (fun b _ σ K => LOt Ty (kps 54) 2 b σ K []) cf (call cf k) (cf.keep 54) Try.f54.ntmps k shq28.bs.length) 0 (bd Try.f54) :=
 qA qT (qA qT (qA qT (qA qT (qA qT qT))))
theorem stq28 (k : Nat) (x : shq28.D) : Fbig_Rat_Mul_wqk (k + 1) x.1 x.2.1 x.2.2.1 x.2.2.2.1 x.2.2.2.2.1 x.2.2.2.2.2.1 x.2.2.2.2.2.2.1 x.2.2.2.2.2.2.2 = body2 cf (fun f a b K => COt f a b K [Iq6 k, Iq26 k, Iq4 k, Iq33 k]) (fun b _ σ K => LOt Ty (kps 54) 2 b σ K []) 54 Try.f54.ntmps Try.f54.results.toList (bd Try.f54) (shq28.enc x).1 (shq28.enc x).2 (putS FS.dec rsq28) := by kernel_rfl
theorem okq28 : ∀ k, InstOk (call cf k) (Iq28 k)
 | 0 => fun x y e => absurd (show (none : Option _) = some y from e) (by simp)
 | k + 1 => inst_ok (c := cf) (k := k) (f := 54) (fn := Try.f54) (body := bd Try.f54) (sh := shq28) (os := rsq28) rfl Try.func54 rfl ⟨rfl, Nat.le_of_ble_eq_true rfl⟩ (COt_ok (alq28 k)) (anq28 k) (fun x => Fbig_Rat_Mul_wqk (k + 1) x.1 x.2.1 x.2.2.1 x.2.2.2.1 x.2.2.2.2.1 x.2.2.2.2.2.1 x.2.2.2.2.2.2.1 x.2.2.2.2.2.2.2) (stq28 k)

/-! shunt/limb.Check -/
def blimb_Check (k : Nat) (a0 : Bool) (a1 : List Int) : Option (Int) :=
 if ((decide ((((List.length a1) : Nat) : Int) > (72 : Int))) = false) then
 if (((((List.length a1) : Nat) : Int) == (0 : Int)) = true) then
 if (a0 = false) then
 if ((decide ((((List.length a1) : Nat) : Int) > (0 : Int))) = true) then
 if ((0 : Int) ≤ (IntKind.wrap .i64 ((((List.length a1) : Nat) : Int) - (1 : Int)))) then
 Option.bind (a1)[(Int.toNat (IntKind.wrap .i64 ((((List.length a1) : Nat) : Int) - (1 : Int))))]? fun x1 =>
 if ((x1 == (0 : Int)) = true) then
 (some (10 : Int))
 else
 (some (0 : Int))
 else
 none
 else
 (some (0 : Int))
 else
 (some (10 : Int))
 else
 if ((decide ((((List.length a1) : Nat) : Int) > (0 : Int))) = true) then
 if ((0 : Int) ≤ (IntKind.wrap .i64 ((((List.length a1) : Nat) : Int) - (1 : Int)))) then
 Option.bind (a1)[(Int.toNat (IntKind.wrap .i64 ((((List.length a1) : Nat) : Int) - (1 : Int))))]? fun x1 =>
 if ((x1 == (0 : Int)) = true) then
 (some (10 : Int))
 else
 (some (0 : Int))
 else
 none
 else
 (some (0 : Int))
 else
 (some (10 : Int))
def Flimb_Check : Nat → Bool → List Int → Option (Int)
 | 0, _, _ => none
 | k + 1, a0, a1 => blimb_Check k a0 a1
def shq45 : FS := { vs := [.g [.lf .bool, .lf (.sl (.int .u32))]], bs := [] }
def rsq45 : List FS := [{ vs := [.a (.lf (.int .i64))], bs := [] }]
def Iq45 (k : Nat) : Inst := ⟨70, shq45, rsq45, fun x => Flimb_Check k x.1 x.2⟩
theorem alq45 (k : Nat) : AllI (call cf k) [] := True.intro
theorem anq45 (k : Nat) : LAll (LOk (R := DS FS.D rsq45) (fun b _ σ K => LOt Ty (kps 70) 0 b σ K []) cf (call cf k) (cf.keep 70) Try.f70.ntmps k shq45.bs.length) 0 (bd Try.f70) :=
 qA qT (qA qT (qA (qA qT (qA (qA qT qT) qT)) (qA qT qT)))
theorem stq45 (k : Nat) (x : shq45.D) : Flimb_Check (k + 1) x.1 x.2 = body2 cf (fun f a b K => COt f a b K []) (fun b _ σ K => LOt Ty (kps 70) 0 b σ K []) 70 Try.f70.ntmps Try.f70.results.toList (bd Try.f70) (shq45.enc x).1 (shq45.enc x).2 (putS FS.dec rsq45) := by kernel_rfl
theorem okq45 : ∀ k, InstOk (call cf k) (Iq45 k)
 | 0 => fun x y e => absurd (show (none : Option _) = some y from e) (by simp)
 | k + 1 => inst_ok (c := cf) (k := k) (f := 70) (fn := Try.f70) (body := bd Try.f70) (sh := shq45) (os := rsq45) rfl Try.func70 rfl ⟨rfl, Nat.le_of_ble_eq_true rfl⟩ (COt_ok (alq45 k)) (anq45 k) (fun x => Flimb_Check (k + 1) x.1 x.2) (stq45 k)

/-! shunt/limb.both -/
def blimb_both (k : Nat) (a0 : Bool) (a1 : List Int) (b0 : Bool) (b1 : List Int) : Option (Int) :=
 Option.bind (Flimb_Check k a0 a1) fun r7 =>
 if ((r7 != (0 : Int)) = true) then
 (some (10 : Int))
 else
 Option.bind (Flimb_Check k b0 b1) fun r8 =>
 (some r8)
def Flimb_both : Nat → Bool → List Int → Bool → List Int → Option (Int)
 | 0, _, _, _, _ => none
 | k + 1, a0, a1, b0, b1 => blimb_both k a0 a1 b0 b1
def shq49 : FS := { vs := [.g [.lf .bool, .lf (.sl (.int .u32))], .g [.lf .bool, .lf (.sl (.int .u32))]], bs := [] }
def rsq49 : List FS := [{ vs := [.a (.lf (.int .i64))], bs := [] }]
def Iq49 (k : Nat) : Inst := ⟨108, shq49, rsq49, fun x => Flimb_both k x.1 x.2.1 x.2.2.1 x.2.2.2⟩
theorem alq49 (k : Nat) : AllI (call cf k) [Iq45 k] := qA (okq45 k) qT
theorem anq49 (k : Nat) : LAll (LOk (R := DS FS.D rsq49) (fun b _ σ K => LOt Ty (kps 108) 0 b σ K []) cf (call cf k) (cf.keep 108) Try.f108.ntmps k shq49.bs.length) 0 (bd Try.f108) :=
 qA qT (qA (qA qT (qA (qA qT qT) qT)) (qA qT qT))
theorem stq49 (k : Nat) (x : shq49.D) : Flimb_both (k + 1) x.1 x.2.1 x.2.2.1 x.2.2.2 = body2 cf (fun f a b K => COt f a b K [Iq45 k]) (fun b _ σ K => LOt Ty (kps 108) 0 b σ K []) 108 Try.f108.ntmps Try.f108.results.toList (bd Try.f108) (shq49.enc x).1 (shq49.enc x).2 (putS FS.dec rsq49) := by kernel_rfl
theorem okq49 : ∀ k, InstOk (call cf k) (Iq49 k)
 | 0 => fun x y e => absurd (show (none : Option _) = some y from e) (by simp)
 | k + 1 => inst_ok (c := cf) (k := k) (f := 108) (fn := Try.f108) (body := bd Try.f108) (sh := shq49) (os := rsq49) rfl Try.func108 rfl ⟨rfl, Nat.le_of_ble_eq_true rfl⟩ (COt_ok (alq49 k)) (anq49 k) (fun x => Flimb_both (k + 1) x.1 x.2.1 x.2.2.1 x.2.2.2) (stq49 k)

/-! shunt/limb.Gcd -/
def blimb_Gcd (k : Nat) (a0 : Bool) (a1 : List Int) (b0 : Bool) (b1 : List Int) : Option (Bool × List Int × Int) :=
 Option.bind (Flimb_both k a0 a1 b0 b1) fun r7 =>
 if ((r7 != (0 : Int)) = true) then
 (some (false, [], r7))
 else
 Option.bind (Fwide_Take k a0 a1) fun r8 =>
 Option.bind (Fwide_Take k b0 b1) fun r9 =>
 Option.bind (Fbig_Gcd_ddu k r8.1 r8.2 r9.1 r9.2) fun r10 =>
 Option.bind (Fwide_Give_awf k r10.2.2.2.2.1 r10.2.2.2.2.2) fun r11 =>
 if ((0 + r11.2.1) ≤ (List.length r11.2.2.2.2)) then
 (some (r11.1, (List.take r11.2.1 r11.2.2.2.2), (0 : Int)))
 else
 none
def Flimb_Gcd : Nat → Bool → List Int → Bool → List Int → Option (Bool × List Int × Int)
 | 0, _, _, _, _ => none
 | k + 1, a0, a1, b0, b1 => blimb_Gcd k a0 a1 b0 b1
def shq46 : FS := { vs := [.g [.lf .bool, .lf (.sl (.int .u32))], .g [.lf .bool, .lf (.sl (.int .u32))]], bs := [] }
def rsq46 : List FS := [{ vs := [.g [.lf .bool, .lf (.sl (.int .u32))], .a (.lf (.int .i64))], bs := [] }]
def Iq46 (k : Nat) : Inst := ⟨83, shq46, rsq46, fun x => Flimb_Gcd k x.1 x.2.1 x.2.2.1 x.2.2.2⟩
theorem alq46 (k : Nat) : AllI (call cf k) [Iq49 k, Iq105 k, Iq1 k, Iq103 k] := qA (okq49 k) (qA (okq105 k) (qA (okq1 k) (qA (okq103 k) qT)))
theorem anq46 (k : Nat) : LAll (LOk (R := DS FS.D rsq46) (fun b _ σ K => LOt Ty (kps 83) 0 b σ K []) cf (call cf k) (cf.keep 83) Try.f83.ntmps k shq46.bs.length) 0 (bd Try.f83) :=
 qA qT (qA (qA qT (qA qT (qA (qA qT qT) qT))) (qA qT qT))
theorem stq46 (k : Nat) (x : shq46.D) : Flimb_Gcd (k + 1) x.1 x.2.1 x.2.2.1 x.2.2.2 = body2 cf (fun f a b K => COt f a b K [Iq49 k, Iq105 k, Iq1 k, Iq103 k]) (fun b _ σ K => LOt Ty (kps 83) 0 b σ K []) 83 Try.f83.ntmps Try.f83.results.toList (bd Try.f83) (shq46.enc x).1 (shq46.enc x).2 (putS FS.dec rsq46) := by kernel_rfl
theorem okq46 : ∀ k, InstOk (call cf k) (Iq46 k)
 | 0 => fun x y e => absurd (show (none : Option _) = some y from e) (by simp)
 | k + 1 => inst_ok (c := cf) (k := k) (f := 83) (fn := Try.f83) (body := bd Try.f83) (sh := shq46) (os := rsq46) rfl Try.func83 rfl ⟨rfl, Nat.le_of_ble_eq_true rfl⟩ (COt_ok (alq46 k)) (anq46 k) (fun x => Flimb_Gcd (k + 1) x.1 x.2.1 x.2.2.1 x.2.2.2) (stq46 k)

/-! shunt/rat.Check -/
def brat_Check (k : Nat) (r0 : Bool) (r1 : List Int) (r2 : Bool) (r3 : List Int) : Option (Int) :=
 Option.bind (Flimb_Check k r0 r1) fun r5 =>
 if ((r5 != (0 : Int)) = false) then
 Option.bind (Flimb_Check k r2 r3) fun r6 =>
 if ((r6 != (0 : Int)) = true) then
 (some (10 : Int))
 else
 if (r2 = false) then
 if (((((List.length r3) : Nat) : Int) == (0 : Int)) = true) then
 (some (20 : Int))
 else
 Option.bind (Flimb_Gcd k r0 r1 r2 r3) fun r7 =>
 if (((((List.length r7.2.1) : Nat) : Int) != (1 : Int)) = false) then
 Option.bind (r7.2.1)[0]? fun x1 =>
 if ((x1 != (1 : Int)) = true) then
 (some (20 : Int))
 else
 (some (0 : Int))
 else
 (some (20 : Int))
 else
 (some (20 : Int))
 else
 (some (10 : Int))
def Frat_Check : Nat → Bool → List Int → Bool → List Int → Option (Int)
 | 0, _, _, _, _ => none
 | k + 1, r0, r1, r2, r3 => brat_Check k r0 r1 r2 r3
def shq64 : FS := { vs := [.g [.lf .bool, .lf (.sl (.int .u32)), .lf .bool, .lf (.sl (.int .u32))]], bs := [] }
def rsq64 : List FS := [{ vs := [.a (.lf (.int .i64))], bs := [] }]
def Iq64 (k : Nat) : Inst := ⟨45, shq64, rsq64, fun x => Frat_Check k x.1 x.2.1 x.2.2.1 x.2.2.2⟩
theorem alq64 (k : Nat) : AllI (call cf k) [Iq45 k, Iq46 k] := qA (okq45 k) (qA (okq46 k) qT)
theorem anq64 (k : Nat) : LAll (LOk (R := DS FS.D rsq64) (fun b _ σ K => LOt Ty (kps 45) 0 b σ K []) cf (call cf k) (cf.keep 45) Try.f45.ntmps k shq64.bs.length) 0 (bd Try.f45) :=
 qA qT (qA (qA qT (qA (qA qT qT) qT)) (qA (qA qT (qA (qA qT qT) qT)) (qA qT (qA (qA qT (qA (qA qT qT) qT)) (qA qT qT)))))
theorem stq64 (k : Nat) (x : shq64.D) : Frat_Check (k + 1) x.1 x.2.1 x.2.2.1 x.2.2.2 = body2 cf (fun f a b K => COt f a b K [Iq45 k, Iq46 k]) (fun b _ σ K => LOt Ty (kps 45) 0 b σ K []) 45 Try.f45.ntmps Try.f45.results.toList (bd Try.f45) (shq64.enc x).1 (shq64.enc x).2 (putS FS.dec rsq64) := by kernel_rfl
theorem okq64 : ∀ k, InstOk (call cf k) (Iq64 k)
 | 0 => fun x y e => absurd (show (none : Option _) = some y from e) (by simp)
 | k + 1 => inst_ok (c := cf) (k := k) (f := 45) (fn := Try.f45) (body := bd Try.f45) (sh := shq64) (os := rsq64) rfl Try.func45 rfl ⟨rfl, Nat.le_of_ble_eq_true rfl⟩ (COt_ok (alq64 k)) (anq64 k) (fun x => Frat_Check (k + 1) x.1 x.2.1 x.2.2.1 x.2.2.2) (stq64 k)

/-! shunt/big.add -/
def Lbig_add_0s (k : Nat) (rec : List Int → List Int → Nat → Int → Int → Int → List Int → Option (List Int × Nat × Int × List Int)) (a : List Int) (b : List Int) (out1 : Nat) (carry : Int) (x : Int) (x1 : Int) (outs : List Int) : Option (List Int × Nat × Int × List Int) :=
 if ((decide (x1 < x)) = true) then
 if ((0 : Int) ≤ x1) then
 Option.bind (a)[(Int.toNat x1)]? fun x2 =>
 if ((decide (x1 < (((List.length b) : Nat) : Int))) = true) then
 if ((0 : Int) ≤ x1) then
 Option.bind (b)[(Int.toNat x1)]? fun x3 =>
 if (((0 : Int) ≤ x1) ∧ (x1 < ((out1 : Nat) : Int))) then
 Option.bind (outs)[(0 + (Int.toNat x1))]? fun x4 =>
 rec a b out1 (Int.fdiv (IntKind.wrap .u64 ((IntKind.wrap .u64 ((IntKind.wrap .u64 x2) + carry)) + (IntKind.wrap .u64 x3))) (4294967296 : Int)) x (IntKind.wrap .i64 (x1 + (1 : Int))) (List.set outs (0 + (Int.toNat x1)) (IntKind.wrap .u32 (IntKind.wrap .u64 ((IntKind.wrap .u64 ((IntKind.wrap .u64 x2) + carry)) + (IntKind.wrap .u64 x3)))))
 else
 none
 else
 none
 else
 if (((0 : Int) ≤ x1) ∧ (x1 < ((out1 : Nat) : Int))) then
 Option.bind (outs)[(0 + (Int.toNat x1))]? fun x3 =>
 rec a b out1 (Int.fdiv (IntKind.wrap .u64 ((IntKind.wrap .u64 x2) + carry)) (4294967296 : Int)) x (IntKind.wrap .i64 (x1 + (1 : Int))) (List.set outs (0 + (Int.toNat x1)) (IntKind.wrap .u32 (IntKind.wrap .u64 ((IntKind.wrap .u64 x2) + carry))))
 else
 none
 else
 none
 else
 (some (a, out1, carry, outs))
def Lbig_add_0 (k n : Nat) : List Int → List Int → Nat → Int → Int → Int → List Int → Option (List Int × Nat × Int × List Int) := Nat.rec (fun _ _ _ _ _ _ _ => none) (fun _ r => Lbig_add_0s k r) n
def bbig_add (k : Nat) (a : List Int) (b : List Int) : Option (List Int) :=
 if ((decide ((((List.length a) : Nat) : Int) < (((List.length b) : Nat) : Int))) = true) then
 if (((0 : Int) ≤ (IntKind.wrap .i64 ((((List.length b) : Nat) : Int) + (1 : Int)))) ∧ (((IntKind.wrap .i64 ((((List.length b) : Nat) : Int) + (1 : Int))) ≤ (IntKind.wrap .i64 ((((List.length b) : Nat) : Int) + (1 : Int)))) ∧ (((IntKind.wrap .i64 ((((List.length b) : Nat) : Int) + (1 : Int))) * (4 : Int)) ≤ (140737488355328 : Int)))) then
 Option.bind (Lbig_add_0 k k b a (Int.toNat (IntKind.wrap .i64 ((((List.length b) : Nat) : Int) + (1 : Int)))) (0 : Int) (((List.length b) : Nat) : Int) (0 : Int) (List.replicate (Int.toNat (IntKind.wrap .i64 ((((List.length b) : Nat) : Int) + (1 : Int)))) (0 : Int))) fun r10 =>
 if (((0 : Int) ≤ (((List.length r10.1) : Nat) : Int)) ∧ ((((List.length r10.1) : Nat) : Int) < ((r10.2.1 : Nat) : Int))) then
 Option.bind (r10.2.2.2)[(0 + (Int.toNat (((List.length r10.1) : Nat) : Int)))]? fun x2 =>
 if ((0 + r10.2.1) ≤ (List.length (List.set r10.2.2.2 (0 + (Int.toNat (((List.length r10.1) : Nat) : Int))) (IntKind.wrap .u32 r10.2.2.1)))) then
 (some (List.take r10.2.1 (List.set r10.2.2.2 (0 + (Int.toNat (((List.length r10.1) : Nat) : Int))) (IntKind.wrap .u32 r10.2.2.1))))
 else
 none
 else
 none
 else
 none
 else
 if (((0 : Int) ≤ (IntKind.wrap .i64 ((((List.length a) : Nat) : Int) + (1 : Int)))) ∧ (((IntKind.wrap .i64 ((((List.length a) : Nat) : Int) + (1 : Int))) ≤ (IntKind.wrap .i64 ((((List.length a) : Nat) : Int) + (1 : Int)))) ∧ (((IntKind.wrap .i64 ((((List.length a) : Nat) : Int) + (1 : Int))) * (4 : Int)) ≤ (140737488355328 : Int)))) then
 Option.bind (Lbig_add_0 k k a b (Int.toNat (IntKind.wrap .i64 ((((List.length a) : Nat) : Int) + (1 : Int)))) (0 : Int) (((List.length a) : Nat) : Int) (0 : Int) (List.replicate (Int.toNat (IntKind.wrap .i64 ((((List.length a) : Nat) : Int) + (1 : Int)))) (0 : Int))) fun r10 =>
 if (((0 : Int) ≤ (((List.length r10.1) : Nat) : Int)) ∧ ((((List.length r10.1) : Nat) : Int) < ((r10.2.1 : Nat) : Int))) then
 Option.bind (r10.2.2.2)[(0 + (Int.toNat (((List.length r10.1) : Nat) : Int)))]? fun x2 =>
 if ((0 + r10.2.1) ≤ (List.length (List.set r10.2.2.2 (0 + (Int.toNat (((List.length r10.1) : Nat) : Int))) (IntKind.wrap .u32 r10.2.2.1)))) then
 (some (List.take r10.2.1 (List.set r10.2.2.2 (0 + (Int.toNat (((List.length r10.1) : Nat) : Int))) (IntKind.wrap .u32 r10.2.2.1))))
 else
 none
 else
 none
 else
 none
def Fbig_add : Nat → List Int → List Int → Option (List Int)
 | 0, _, _ => none
 | k + 1, a, b => bbig_add k a b
def shq36 : FS := { vs := [.a (.lf (.sl (.int .u32))), .a (.lf (.sl (.int .u32)))], bs := [] }
def rsq36 : List FS := [{ vs := [.a (.lf (.sl (.int .u32)))], bs := [] }]
def Iq36 (k : Nat) : Inst := ⟨122, shq36, rsq36, fun x => Fbig_add k x.1 x.2⟩
theorem alq36 (k : Nat) : AllI (call cf k) [] := True.intro
def hsq121 : List SS := [{ fr := [(0, .a (.lf (.sl (.int .u32)))), (1, .a (.lf (.sl (.int .u32)))), (5, .a (.smz 0)), (6, .a (.lf (.int .u64))), (21, .a (.lf (.int .i64))), (22, .a (.lf (.int .i64)))], mem := [(0, some (.arr (.int .u32) 1 72 false))], nx := 1 }]
def osq121 : List OS := [⟨some 0, { fr := [(0, .a (.lf (.sl (.int .u32)))), (5, .a (.smz 0)), (6, .a (.lf (.int .u64)))], mem := [(0, some (.arr (.int .u32) 1 72 false))], nx := 1 }⟩]
def LIq121 (k : Nat) : LInst := ⟨0, hsq121, osq121, fun x => Lbig_add_0 k k x.1 x.2.1 x.2.2.1 x.2.2.2.1 x.2.2.2.2.1 x.2.2.2.2.2.1 x.2.2.2.2.2.2⟩
theorem anq121 (k : Nat) : LAll (LOk (R := DS OS.D osq121) (fun b _ σ K => LOt Ty (kps 122) 0 b σ K []) cf (call cf k) (kps 122) Try.f122.ntmps k 0) 0 (lb Try.f122 0) :=
 qA qT (qA (qA qT qT) (qA (qA qT (qA qT (qA (qA qT (qA qT qT)) (qA qT qT)))) qT))
theorem stq121 (k n : Nat) (x : DS SS.D hsq121) : Lbig_add_0 k (n + 1) x.1 x.2.1 x.2.2.1 x.2.2.2.1 x.2.2.2.2.1 x.2.2.2.2.2.1 x.2.2.2.2.2.2 = encSK SS.enc (fun σ => run2 cf (fun f a b K => COt f a b K []) (fun b _ σ K => LOt Ty (kps 122) 0 b σ K []) Try.f122.ntmps 0 (lb Try.f122 0) σ (nextK Ty (kps 122 0) 0 hsq121 osq121 fun x => Lbig_add_0 k n x.1 x.2.1 x.2.2.1 x.2.2.2.1 x.2.2.2.2.1 x.2.2.2.2.2.1 x.2.2.2.2.2.2)) hsq121 x := by kernel_rfl
theorem loq121 (k : Nat) : LIOk cf (call cf k) (kps 122) Try.f122.ntmps k 0 0 (lb Try.f122 0) (LIq121 k) :=
 loop_ok (c := cf) (callF := call cf k) (kp := kps 122) (nt := Try.f122.ntmps) (k := k) (p := 0) (b := 0) (x0 := lb Try.f122 0) (hs := hsq121) (os := osq121) (COt_ok (alq36 k)) (anq121 k) (fun n x => Lbig_add_0 k n x.1 x.2.1 x.2.2.1 x.2.2.2.1 x.2.2.2.2.1 x.2.2.2.2.2.1 x.2.2.2.2.2.2) (fun _ => rfl) (stq121 k)
theorem anq36 (k : Nat) : LAll (LOk (R := DS FS.D rsq36) (fun b _ σ K => LOt Ty (kps 122) 0 b σ K [LIq121 k]) cf (call cf k) (cf.keep 122) Try.f122.ntmps k shq36.bs.length) 0 (bd Try.f122) :=
 qA qT (qA (qA qT (qA qT qT)) (qA qT (qA qT (qA (qA qT (LOt_ok (c := cf) (callF := call cf k) (kp := kps 122) (nt := Try.f122.ntmps) (k := k) (p := 0) (b := 0) (x0 := lb Try.f122 0) (l := [LIq121 k]) (qA (fun _ => loq121 k) qT))) (qA qT (qA qT qT))))))
theorem stq36 (k : Nat) (x : shq36.D) : Fbig_add (k + 1) x.1 x.2 = body2 cf (fun f a b K => COt f a b K []) (fun b _ σ K => LOt Ty (kps 122) 0 b σ K [LIq121 k]) 122 Try.f122.ntmps Try.f122.results.toList (bd Try.f122) (shq36.enc x).1 (shq36.enc x).2 (putS FS.dec rsq36) := by kernel_rfl
theorem okq36 : ∀ k, InstOk (call cf k) (Iq36 k)
 | 0 => fun x y e => absurd (show (none : Option _) = some y from e) (by simp)
 | k + 1 => inst_ok (c := cf) (k := k) (f := 122) (fn := Try.f122) (body := bd Try.f122) (sh := shq36) (os := rsq36) rfl Try.func122 rfl ⟨rfl, Nat.le_of_ble_eq_true rfl⟩ (COt_ok (alq36 k)) (anq36 k) (fun x => Fbig_add (k + 1) x.1 x.2) (stq36 k)

/-! shunt/big.sub -/
def Lbig_sub_0s (k : Nat) (rec : List Int → List Int → Nat → Int → Int → Int → List Int → Option (Nat × List Int)) (a : List Int) (b : List Int) (out1 : Nat) (borrow : Int) (x : Int) (x1 : Int) (outs : List Int) : Option (Nat × List Int) :=
 if ((decide (x1 < x)) = true) then
 if ((decide (x1 < (((List.length b) : Nat) : Int))) = true) then
 if ((0 : Int) ≤ x1) then
 Option.bind (b)[(Int.toNat x1)]? fun x2 =>
 if ((0 : Int) ≤ x1) then
 Option.bind (a)[(Int.toNat x1)]? fun x3 =>
 if (((0 : Int) ≤ x1) ∧ (x1 < ((out1 : Nat) : Int))) then
 Option.bind (outs)[(0 + (Int.toNat x1))]? fun x4 =>
 if ((0 : Int) ≤ x1) then
 Option.bind (a)[(Int.toNat x1)]? fun x5 =>
 if ((decide ((IntKind.wrap .u64 x5) < (IntKind.wrap .u64 (borrow + (IntKind.wrap .u64 x2))))) = true) then
 rec a b out1 (1 : Int) x (IntKind.wrap .i64 (x1 + (1 : Int))) (List.set outs (0 + (Int.toNat x1)) (IntKind.wrap .u32 (IntKind.wrap .u64 ((IntKind.wrap .u64 x3) - (IntKind.wrap .u64 (borrow + (IntKind.wrap .u64 x2)))))))
 else
 rec a b out1 (0 : Int) x (IntKind.wrap .i64 (x1 + (1 : Int))) (List.set outs (0 + (Int.toNat x1)) (IntKind.wrap .u32 (IntKind.wrap .u64 ((IntKind.wrap .u64 x3) - (IntKind.wrap .u64 (borrow + (IntKind.wrap .u64 x2)))))))
 else
 none
 else
 none
 else
 none
 else
 none
 else
 if ((0 : Int) ≤ x1) then
 Option.bind (a)[(Int.toNat x1)]? fun x2 =>
 if (((0 : Int) ≤ x1) ∧ (x1 < ((out1 : Nat) : Int))) then
 Option.bind (outs)[(0 + (Int.toNat x1))]? fun x3 =>
 if ((0 : Int) ≤ x1) then
 Option.bind (a)[(Int.toNat x1)]? fun x4 =>
 if ((decide ((IntKind.wrap .u64 x4) < borrow)) = true) then
 rec a b out1 (1 : Int) x (IntKind.wrap .i64 (x1 + (1 : Int))) (List.set outs (0 + (Int.toNat x1)) (IntKind.wrap .u32 (IntKind.wrap .u64 ((IntKind.wrap .u64 x2) - borrow))))
 else
 rec a b out1 (0 : Int) x (IntKind.wrap .i64 (x1 + (1 : Int))) (List.set outs (0 + (Int.toNat x1)) (IntKind.wrap .u32 (IntKind.wrap .u64 ((IntKind.wrap .u64 x2) - borrow))))
 else
 none
 else
 none
 else
 none
 else
 (some (out1, outs))
def Lbig_sub_0 (k n : Nat) : List Int → List Int → Nat → Int → Int → Int → List Int → Option (Nat × List Int) := Nat.rec (fun _ _ _ _ _ _ _ => none) (fun _ r => Lbig_sub_0s k r) n
def bbig_sub (k : Nat) (a : List Int) (b : List Int) : Option (List Int) :=
 if (((0 : Int) ≤ (((List.length a) : Nat) : Int)) ∧ (((((List.length a) : Nat) : Int) ≤ (((List.length a) : Nat) : Int)) ∧ (((((List.length a) : Nat) : Int) * (4 : Int)) ≤ (140737488355328 : Int)))) then
 Option.bind (Lbig_sub_0 k k a b (Int.toNat (((List.length a) : Nat) : Int)) (0 : Int) (((List.length a) : Nat) : Int) (0 : Int) (List.replicate (Int.toNat (((List.length a) : Nat) : Int)) (0 : Int))) fun r11 =>
 if ((0 + r11.1) ≤ (List.length r11.2)) then
 (some (List.take r11.1 r11.2))
 else
 none
 else
 none
def Fbig_sub : Nat → List Int → List Int → Option (List Int)
 | 0, _, _ => none
 | k + 1, a, b => bbig_sub k a b
def shq42 : FS := { vs := [.a (.lf (.sl (.int .u32))), .a (.lf (.sl (.int .u32)))], bs := [] }
def rsq42 : List FS := [{ vs := [.a (.lf (.sl (.int .u32)))], bs := [] }]
def Iq42 (k : Nat) : Inst := ⟨123, shq42, rsq42, fun x => Fbig_sub k x.1 x.2⟩
theorem alq42 (k : Nat) : AllI (call cf k) [] := True.intro
def hsq129 : List SS := [{ fr := [(0, .a (.lf (.sl (.int .u32)))), (1, .a (.lf (.sl (.int .u32)))), (5, .a (.smz 0)), (6, .a (.lf (.int .u64))), (13, .a (.lf (.int .i64))), (14, .a (.lf (.int .i64)))], mem := [(0, some (.arr (.int .u32) 1 72 false))], nx := 1 }]
def osq129 : List OS := [⟨some 0, { fr := [(5, .a (.smz 0))], mem := [(0, some (.arr (.int .u32) 1 72 false))], nx := 1 }⟩]
def LIq129 (k : Nat) : LInst := ⟨0, hsq129, osq129, fun x => Lbig_sub_0 k k x.1 x.2.1 x.2.2.1 x.2.2.2.1 x.2.2.2.2.1 x.2.2.2.2.2.1 x.2.2.2.2.2.2⟩
theorem anq129 (k : Nat) : LAll (LOk (R := DS OS.D osq129) (fun b _ σ K => LOt Ty (kps 123) 0 b σ K []) cf (call cf k) (kps 123) Try.f123.ntmps k 0) 0 (lb Try.f123 0) :=
 qA qT (qA (qA qT qT) (qA (qA qT (qA qT (qA (qA qT (qA qT qT)) (qA qT (qA qT (qA qT (qA qT qT))))))) qT))
theorem stq129 (k n : Nat) (x : DS SS.D hsq129) : Lbig_sub_0 k (n + 1) x.1 x.2.1 x.2.2.1 x.2.2.2.1 x.2.2.2.2.1 x.2.2.2.2.2.1 x.2.2.2.2.2.2 = encSK SS.enc (fun σ => run2 cf (fun f a b K => COt f a b K []) (fun b _ σ K => LOt Ty (kps 123) 0 b σ K []) Try.f123.ntmps 0 (lb Try.f123 0) σ (nextK Ty (kps 123 0) 0 hsq129 osq129 fun x => Lbig_sub_0 k n x.1 x.2.1 x.2.2.1 x.2.2.2.1 x.2.2.2.2.1 x.2.2.2.2.2.1 x.2.2.2.2.2.2)) hsq129 x := by kernel_rfl
theorem loq129 (k : Nat) : LIOk cf (call cf k) (kps 123) Try.f123.ntmps k 0 0 (lb Try.f123 0) (LIq129 k) :=
 loop_ok (c := cf) (callF := call cf k) (kp := kps 123) (nt := Try.f123.ntmps) (k := k) (p := 0) (b := 0) (x0 := lb Try.f123 0) (hs := hsq129) (os := osq129) (COt_ok (alq42 k)) (anq129 k) (fun n x => Lbig_sub_0 k n x.1 x.2.1 x.2.2.1 x.2.2.2.1 x.2.2.2.2.1 x.2.2.2.2.2.1 x.2.2.2.2.2.2) (fun _ => rfl) (stq129 k)
theorem anq42 (k : Nat) : LAll (LOk (R := DS FS.D rsq42) (fun b _ σ K => LOt Ty (kps 123) 0 b σ K [LIq129 k]) cf (call cf k) (cf.keep 123) Try.f123.ntmps k shq42.bs.length) 0 (bd Try.f123) :=
 qA qT (qA qT (qA qT (qA (qA qT (LOt_ok (c := cf) (callF := call cf k) (kp := kps 123) (nt := Try.f123.ntmps) (k := k) (p := 0) (b := 0) (x0 := lb Try.f123 0) (l := [LIq129 k]) (qA (fun _ => loq129 k) qT))) (qA qT qT))))
theorem stq42 (k : Nat) (x : shq42.D) : Fbig_sub (k + 1) x.1 x.2 = body2 cf (fun f a b K => COt f a b K []) (fun b _ σ K => LOt Ty (kps 123) 0 b σ K [LIq129 k]) 123 Try.f123.ntmps Try.f123.results.toList (bd Try.f123) (shq42.enc x).1 (shq42.enc x).2 (putS FS.dec rsq42) := by kernel_rfl
theorem okq42 : ∀ k, InstOk (call cf k) (Iq42 k)
 | 0 => fun x y e => absurd (show (none : Option _) = some y from e) (by simp)
 | k + 1 => inst_ok (c := cf) (k := k) (f := 123) (fn := Try.f123) (body := bd Try.f123) (sh := shq42) (os := rsq42) rfl Try.func123 rfl ⟨rfl, Nat.le_of_ble_eq_true rfl⟩ (COt_ok (alq42 k)) (anq42 k) (fun x => Fbig_sub (k + 1) x.1 x.2) (stq42 k)

/-! (*shunt/big.Int).sum -/
def bbig_Int_sum_ahd (k : Nat) (yneg : Bool) (y : List Int) (x0 : Bool) (x1 : List Int) : Option (Bool × List Int) :=
 if ((x0 == yneg) = true) then
 Option.bind (Fbig_add k x1 y) fun r10 =>
 Option.bind (Fbig_Int_set_paj k x0 r10 x0 x1) fun r11 =>
 (some (r11.1, r11.2))
 else
 Option.bind (Fbig_cmp k x1 y) fun r10 =>
 if ((decide (r10 ≥ (0 : Int))) = true) then
 Option.bind (Fbig_sub k x1 y) fun r11 =>
 Option.bind (Fbig_Int_set_paj k x0 r11 x0 x1) fun r12 =>
 (some (r12.1, r12.2))
 else
 Option.bind (Fbig_sub k y x1) fun r11 =>
 Option.bind (Fbig_Int_set_paj k yneg r11 x0 x1) fun r12 =>
 (some (r12.1, r12.2))
def Fbig_Int_sum_ahd : Nat → Bool → List Int → Bool → List Int → Option (Bool × List Int)
 | 0, _, _, _, _ => none
 | k + 1, yneg, y, x0, x1 => bbig_Int_sum_ahd k yneg y x0 x1
def shq17 : FS := { vs := [.a (.ptr 0 0 0), .a (.ptr 0 0 0), .a (.lf .bool), .a (.lf (.sl (.int .u32)))], bs := [.raw [[.lf .bool, .lf (.sl (.int .u32))]] 2 98 true false] }
def rsq17 : List FS := [{ vs := [.a (.ptr 0 0 0)], bs := [.raw [[.lf .bool, .lf (.sl (.int .u32))]] 2 98 true false] }]
def Iq17 (k : Nat) : Inst := ⟨118, shq17, rsq17, fun x => Fbig_Int_sum_ahd k x.1 x.2.1 x.2.2.1 x.2.2.2⟩
theorem alq17 (k : Nat) : AllI (call cf k) [Iq36 k, Iq16 k, Iq37 k, Iq42 k] := qA (okq36 k) (qA (okq16 k) (qA (okq37 k) (qA (okq42 k) qT)))
theorem anq17 (k : Nat) : LAll (LOk (R := DS FS.D rsq17) (fun b _ σ K => LOt Ty (kps 118) 1 b σ K []) cf (call cf k) (cf.keep 118) Try.f118.ntmps k shq17.bs.length) 0 (bd Try.f118) :=
 qA qT (qA (qA qT (qA (qA qT qT) qT)) (qA (qA qT (qA (qA qT qT) qT)) (qA qT qT)))
theorem stq17 (k : Nat) (x : shq17.D) : Fbig_Int_sum_ahd (k + 1) x.1 x.2.1 x.2.2.1 x.2.2.2 = body2 cf (fun f a b K => COt f a b K [Iq36 k, Iq16 k, Iq37 k, Iq42 k]) (fun b _ σ K => LOt Ty (kps 118) 1 b σ K []) 118 Try.f118.ntmps Try.f118.results.toList (bd Try.f118) (shq17.enc x).1 (shq17.enc x).2 (putS FS.dec rsq17) := by kernel_rfl
theorem okq17 : ∀ k, InstOk (call cf k) (Iq17 k)
 | 0 => fun x y e => absurd (show (none : Option _) = some y from e) (by simp)
 | k + 1 => inst_ok (c := cf) (k := k) (f := 118) (fn := Try.f118) (body := bd Try.f118) (sh := shq17) (os := rsq17) rfl Try.func118 rfl ⟨rfl, Nat.le_of_ble_eq_true rfl⟩ (COt_ok (alq17 k)) (anq17 k) (fun x => Fbig_Int_sum_ahd (k + 1) x.1 x.2.1 x.2.2.1 x.2.2.2) (stq17 k)

/-! (*shunt/big.Int).Cmp -/
def bbig_Int_Cmp_ddu (k : Nat) (z0 : Bool) (z1 : List Int) (y0 : Bool) (y1 : List Int) : Option (Int × Bool × List Int × Bool × List Int) :=
 if ((!(z0 == y0)) = true) then
 if (z0 = true) then
 (some ((-(1 : Int)), z0, z1, y0, y1))
 else
 (some ((1 : Int), z0, z1, y0, y1))
 else
 Option.bind (Fbig_cmp k z1 y1) fun r11 =>
 if (z0 = true) then
 (some ((IntKind.wrap .i64 ((0 : Int) - r11)), z0, z1, y0, y1))
 else
 (some (r11, z0, z1, y0, y1))
def Fbig_Int_Cmp_ddu : Nat → Bool → List Int → Bool → List Int → Option (Int × Bool × List Int × Bool × List Int)
 | 0, _, _, _, _ => none
 | k + 1, z0, z1, y0, y1 => bbig_Int_Cmp_ddu k z0 z1 y0 y1
def shq3 : FS := { vs := [.a (.ptr 0 0 0), .a (.ptr 1 0 0)], bs := [.raw [[.lf .bool, .lf (.sl (.int .u32))]] 2 98 true false, .raw [[.lf .bool, .lf (.sl (.int .u32))]] 2 98 true false] }
def rsq3 : List FS := [{ vs := [.a (.lf (.int .i64))], bs := [.raw [[.lf .bool, .lf (.sl (.int .u32))]] 2 98 true false, .raw [[.lf .bool, .lf (.sl (.int .u32))]] 2 98 true false] }]
def Iq3 (k : Nat) : Inst := ⟨86, shq3, rsq3, fun x => Fbig_Int_Cmp_ddu k x.1 x.2.1 x.2.2.1 x.2.2.2⟩
theorem alq3 (k : Nat) : AllI (call cf k) [Iq37 k] := qA (okq37 k) qT
theorem anq3 (k : Nat) : LAll (LOk (R := DS FS.D rsq3) (fun b _ σ K => LOt Ty (kps 86) 2 b σ K []) cf (call cf k) (cf.keep 86) Try.f86.ntmps k shq3.bs.length) 0 (bd Try.f86) :=
 qA qT (qA (qA qT (qA (qA (qA qT (qA (qA qT qT) qT)) (qA qT qT)) qT)) (qA qT (qA (qA qT (qA (qA qT qT) qT)) (qA qT qT))))
theorem stq3 (k : Nat) (x : shq3.D) : Fbig_Int_Cmp_ddu (k + 1) x.1 x.2.1 x.2.2.1 x.2.2.2 = body2 cf (fun f a b K => COt f a b K [Iq37 k]) (fun b _ σ K => LOt Ty (kps 86) 2 b σ K []) 86 Try.f86.ntmps Try.f86.results.toList (bd Try.f86) (shq3.enc x).1 (shq3.enc x).2 (putS FS.dec rsq3) := by kernel_rfl
theorem okq3 : ∀ k, InstOk (call cf k) (Iq3 k)
 | 0 => fun x y e => absurd (show (none : Option _) = some y from e) (by simp)
 | k + 1 => inst_ok (c := cf) (k := k) (f := 86) (fn := Try.f86) (body := bd Try.f86) (sh := shq3) (os := rsq3) rfl Try.func86 rfl ⟨rfl, Nat.le_of_ble_eq_true rfl⟩ (COt_ok (alq3 k)) (anq3 k) (fun x => Fbig_Int_Cmp_ddu (k + 1) x.1 x.2.1 x.2.2.1 x.2.2.2) (stq3 k)


end
end Go.Proofs.Ytbhnafdmilfobaa.Am
