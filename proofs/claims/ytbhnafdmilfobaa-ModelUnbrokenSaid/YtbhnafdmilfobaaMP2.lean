/- Printed functions: each says what the typed machine says of the program -/
import Derived.Test.YtbhnafdmilfobaaMP1
import Derived.KernelRfl

set_option linter.unusedVariables false
set_option maxRecDepth 100000
namespace Go.Proofs.Ytbhnafdmilfobaa.Am
open Go
noncomputable section

/-! (*shunt/big.Int).Add -/
def bbig_Int_Add_jod (k : Nat) (x0 : Bool) (x1 : List Int) (y0 : Bool) (y1 : List Int) : Option (Bool × List Int × Bool × List Int) :=
 Option.bind (Fbig_Int_sum_ahd k y0 y1 x0 x1) fun r15 =>
 (some (r15.1, r15.2, y0, y1))
def Fbig_Int_Add_jod : Nat → Bool → List Int → Bool → List Int → Option (Bool × List Int × Bool × List Int)
 | 0, _, _, _, _ => none
 | k + 1, x0, x1, y0, y1 => bbig_Int_Add_jod k x0 x1 y0 y1
def shq2 : FS := { vs := [.a (.ptr 0 0 0), .a (.ptr 0 0 0), .a (.ptr 1 0 0)], bs := [.raw [[.lf .bool, .lf (.sl (.int .u32))]] 2 98 true false, .raw [[.lf .bool, .lf (.sl (.int .u32))]] 2 98 true false] }
def rsq2 : List FS := [{ vs := [.a (.ptr 0 0 0)], bs := [.raw [[.lf .bool, .lf (.sl (.int .u32))]] 2 98 true false, .raw [[.lf .bool, .lf (.sl (.int .u32))]] 2 98 true false] }]
def Iq2 (k : Nat) : Inst := ⟨94, shq2, rsq2, fun x => Fbig_Int_Add_jod k x.1 x.2.1 x.2.2.1 x.2.2.2⟩
theorem alq2 (k : Nat) : AllI (call cf k) [Iq17 k] := qA (okq17 k) qT
theorem anq2 (k : Nat) : LAll (LOk (R := DS FS.D rsq2) (fun b _ σ K => LOt Ty (kps 94) 2 b σ K []) cf (call cf k) (cf.keep 94) Try.f94.ntmps k shq2.bs.length) 0 (bd Try.f94) :=
 qA qT (qA qT qT)
theorem stq2 (k : Nat) (x : shq2.D) : Fbig_Int_Add_jod (k + 1) x.1 x.2.1 x.2.2.1 x.2.2.2 = body2 cf (fun f a b K => COt f a b K [Iq17 k]) (fun b _ σ K => LOt Ty (kps 94) 2 b σ K []) 94 Try.f94.ntmps Try.f94.results.toList (bd Try.f94) (shq2.enc x).1 (shq2.enc x).2 (putS FS.dec rsq2) := by kernel_rfl
theorem okq2 : ∀ k, InstOk (call cf k) (Iq2 k)
 | 0 => fun x y e => absurd (show (none : Option _) = some y from e) (by simp)
 | k + 1 => inst_ok (c := cf) (k := k) (f := 94) (fn := Try.f94) (body := bd Try.f94) (sh := shq2) (os := rsq2) rfl Try.func94 rfl ⟨rfl, Nat.le_of_ble_eq_true rfl⟩ (COt_ok (alq2 k)) (anq2 k) (fun x => Fbig_Int_Add_jod (k + 1) x.1 x.2.1 x.2.2.1 x.2.2.2) (stq2 k)

/-! (*shunt/big.Int).Neg -/
def bbig_Int_Neg_xoq (k : Nat) (x0 : Bool) (x1 : List Int) : Option (Bool × List Int) :=
 Option.bind (Fbig_Int_set_paj k (!x0) x1 x0 x1) fun r5 =>
 (some (r5.1, r5.2))
def Fbig_Int_Neg_xoq : Nat → Bool → List Int → Option (Bool × List Int)
 | 0, _, _ => none
 | k + 1, x0, x1 => bbig_Int_Neg_xoq k x0 x1
def shq9 : FS := { vs := [.a (.ptr 0 0 0), .a (.ptr 0 0 0)], bs := [.raw [[.lf .bool, .lf (.sl (.int .u32))]] 2 98 true false] }
def rsq9 : List FS := [{ vs := [.a (.ptr 0 0 0)], bs := [.raw [[.lf .bool, .lf (.sl (.int .u32))]] 2 98 true false] }]
def Iq9 (k : Nat) : Inst := ⟨117, shq9, rsq9, fun x => Fbig_Int_Neg_xoq k x.1 x.2⟩
theorem alq9 (k : Nat) : AllI (call cf k) [Iq16 k] := qA (okq16 k) qT
theorem anq9 (k : Nat) : LAll (LOk (R := DS FS.D rsq9) (fun b _ σ K => LOt Ty (kps 117) 1 b σ K []) cf (call cf k) (cf.keep 117) Try.f117.ntmps k shq9.bs.length) 0 (bd Try.f117) :=
 qA qT (qA qT qT)
theorem stq9 (k : Nat) (x : shq9.D) : Fbig_Int_Neg_xoq (k + 1) x.1 x.2 = body2 cf (fun f a b K => COt f a b K [Iq16 k]) (fun b _ σ K => LOt Ty (kps 117) 1 b σ K []) 117 Try.f117.ntmps Try.f117.results.toList (bd Try.f117) (shq9.enc x).1 (shq9.enc x).2 (putS FS.dec rsq9) := by kernel_rfl
theorem okq9 : ∀ k, InstOk (call cf k) (Iq9 k)
 | 0 => fun x y e => absurd (show (none : Option _) = some y from e) (by simp)
 | k + 1 => inst_ok (c := cf) (k := k) (f := 117) (fn := Try.f117) (body := bd Try.f117) (sh := shq9) (os := rsq9) rfl Try.func117 rfl ⟨rfl, Nat.le_of_ble_eq_true rfl⟩ (COt_ok (alq9 k)) (anq9 k) (fun x => Fbig_Int_Neg_xoq (k + 1) x.1 x.2) (stq9 k)

/-! (*shunt/big.Rat).Neg -/
def bbig_Rat_Neg_yrp (k : Nat) (z0 : Bool) (z1 : Bool) (x0 : Bool) (x1 : List Int) (x2 : Bool) (x3 : List Int) : Option (Bool × List Int × Bool × List Int × Bool × List Int × Bool × List Int) :=
 Option.bind (Fbig_Rat_Num_plq k x0 x1 x2 x3) fun r3 =>
 Option.bind (Fbig_Rat_Denom_plq k r3.1 r3.2.1 r3.2.2.1 r3.2.2.2.1) fun r4 =>
 Option.bind (Fbig_Int_Neg_xoq k r3.2.2.2.2.1 r3.2.2.2.2.2) fun r5 =>
 (some (r5.1, r5.2, r4.2.2.2.2.1, r4.2.2.2.2.2, r4.1, r4.2.1, r4.2.2.1, r4.2.2.2.1))
def Fbig_Rat_Neg_yrp : Nat → Bool → Bool → Bool → List Int → Bool → List Int → Option (Bool × List Int × Bool × List Int × Bool × List Int × Bool × List Int)
 | 0, _, _, _, _, _, _ => none
 | k + 1, z0, z1, x0, x1, x2, x3 => bbig_Rat_Neg_yrp k z0 z1 x0 x1 x2 x3
def shq29 : FS := { vs := [.a (.ptr 0 0 0), .a (.ptr 1 0 0)], bs := [.raw [[.lf .bool, .snil 1 72, .lf .bool, .snil 1 72]] 4 100 true false, .raw [[.lf .bool, .lf (.sl (.int .u32)), .lf .bool, .lf (.sl (.int .u32))]] 4 100 true false] }
def rsq29 : List FS := [{ vs := [.a (.ptr 0 0 0)], bs := [.raw [[.lf .bool, .lf (.sl (.int .u32)), .lf .bool, .lf (.sl (.int .u32))]] 4 100 true false, .raw [[.lf .bool, .lf (.sl (.int .u32)), .lf .bool, .lf (.sl (.int .u32))]] 4 100 true false] }]
def Iq29 (k : Nat) : Inst := ⟨93, shq29, rsq29, fun x => Fbig_Rat_Neg_yrp k x.1 x.2.1 x.2.2.1 x.2.2.2.1 x.2.2.2.2.1 x.2.2.2.2.2⟩
theorem alq29 (k : Nat) : AllI (call cf k) [Iq31 k, Iq26 k, Iq9 k] := qA (okq31 k) (qA (okq26 k) (qA (okq9 k) qT))
theorem anq29 (k : Nat) : LAll (LOk (R := DS FS.D rsq29) (fun b _ σ K => LOt Ty (kps 93) 2 b σ K []) cf (call cf k) (cf.keep 93) Try.f93.ntmps k shq29.bs.length) 0 (bd Try.f93) :=
 qA qT (qA qT (qA qT (qA qT qT)))
theorem stq29 (k : Nat) (x : shq29.D) : Fbig_Rat_Neg_yrp (k + 1) x.1 x.2.1 x.2.2.1 x.2.2.2.1 x.2.2.2.2.1 x.2.2.2.2.2 = body2 cf (fun f a b K => COt f a b K [Iq31 k, Iq26 k, Iq9 k]) (fun b _ σ K => LOt Ty (kps 93) 2 b σ K []) 93 Try.f93.ntmps Try.f93.results.toList (bd Try.f93) (shq29.enc x).1 (shq29.enc x).2 (putS FS.dec rsq29) := by kernel_rfl
theorem okq29 : ∀ k, InstOk (call cf k) (Iq29 k)
 | 0 => fun x y e => absurd (show (none : Option _) = some y from e) (by simp)
 | k + 1 => inst_ok (c := cf) (k := k) (f := 93) (fn := Try.f93) (body := bd Try.f93) (sh := shq29) (os := rsq29) rfl Try.func93 rfl ⟨rfl, Nat.le_of_ble_eq_true rfl⟩ (COt_ok (alq29 k)) (anq29 k) (fun x => Fbig_Rat_Neg_yrp (k + 1) x.1 x.2.1 x.2.2.1 x.2.2.2.1 x.2.2.2.2.1 x.2.2.2.2.2) (stq29 k)

/-! (*shunt/big.Int).Mul -/
def Lbig_Int_Mul_uoe_2s (k : Nat) (rec : Nat → Int → Int → Int → List Int → Int → Int → List Int → Int → Int → Bool → Bool → List Int → Bool → List Int → Bool → List Int → List Int → Option (Nat × Int × Int × List Int × Int × Int × Bool × Bool × List Int × Bool × List Int × Bool × List Int × List Int)) (out1 : Nat) (i : Int) (a : Int) (carry : Int) (x : List Int) (x1 : Int) (x2 : Int) (x3 : List Int) (x4 : Int) (x5 : Int) (z : Bool) (x0 : Bool) (x11 : List Int) (x21 : Bool) (x31 : List Int) (y0 : Bool) (y1 : List Int) (outs : List Int) : Option (Nat × Int × Int × List Int × Int × Int × Bool × Bool × List Int × Bool × List Int × Bool × List Int × List Int) :=
 if ((decide (x5 < x4)) = true) then
 if ((0 : Int) ≤ x5) then
 Option.bind (x3)[(Int.toNat x5)]? fun x8 =>
 if (((0 : Int) ≤ (IntKind.wrap .i64 (i + x5))) ∧ ((IntKind.wrap .i64 (i + x5)) < ((out1 : Nat) : Int))) then
 Option.bind (outs)[(0 + (Int.toNat (IntKind.wrap .i64 (i + x5))))]? fun x9 =>
 if (((0 : Int) ≤ (IntKind.wrap .i64 (i + x5))) ∧ ((IntKind.wrap .i64 (i + x5)) < ((out1 : Nat) : Int))) then
 Option.bind (outs)[(0 + (Int.toNat (IntKind.wrap .i64 (i + x5))))]? fun x10 =>
 rec out1 i a (Int.fdiv (IntKind.wrap .u64 ((IntKind.wrap .u64 ((IntKind.wrap .u64 ((IntKind.wrap .u64 a) * (IntKind.wrap .u64 x8))) + (IntKind.wrap .u64 x9))) + carry)) (4294967296 : Int)) x x1 x2 x3 x4 (IntKind.wrap .i64 (x5 + (1 : Int))) z x0 x11 x21 x31 y0 y1 (List.set outs (0 + (Int.toNat (IntKind.wrap .i64 (i + x5)))) (IntKind.wrap .u32 (IntKind.wrap .u64 ((IntKind.wrap .u64 ((IntKind.wrap .u64 ((IntKind.wrap .u64 a) * (IntKind.wrap .u64 x8))) + (IntKind.wrap .u64 x9))) + carry))))
 else
 none
 else
 none
 else
 none
 else
 (some (out1, i, carry, x, x1, x2, z, x0, x11, x21, x31, y0, y1, outs))
def Lbig_Int_Mul_uoe_2 (k n : Nat) : Nat → Int → Int → Int → List Int → Int → Int → List Int → Int → Int → Bool → Bool → List Int → Bool → List Int → Bool → List Int → List Int → Option (Nat × Int × Int × List Int × Int × Int × Bool × Bool × List Int × Bool × List Int × Bool × List Int × List Int) := Nat.rec (fun _ _ _ _ _ _ _ _ _ _ _ _ _ _ _ _ _ _ => none) (fun _ r => Lbig_Int_Mul_uoe_2s k r) n
def Lbig_Int_Mul_uoe_0s (k : Nat) (rec : Nat → List Int → Int → Int → Bool → Bool → List Int → Bool → List Int → Bool → List Int → List Int → Option (Nat × Bool × Bool × List Int × Bool × List Int × Bool × List Int × List Int)) (out1 : Nat) (x : List Int) (x1 : Int) (x2 : Int) (z : Bool) (x0 : Bool) (x11 : List Int) (x21 : Bool) (x3 : List Int) (y0 : Bool) (y1 : List Int) (outs : List Int) : Option (Nat × Bool × Bool × List Int × Bool × List Int × Bool × List Int × List Int) :=
 if ((decide (x2 < x1)) = true) then
 if ((0 : Int) ≤ x2) then
 Option.bind (x)[(Int.toNat x2)]? fun x7 =>
 Option.bind (Lbig_Int_Mul_uoe_2 k k out1 x2 x7 (0 : Int) x x1 x2 y1 (((List.length y1) : Nat) : Int) (0 : Int) z x0 x11 x21 x3 y0 y1 outs) fun r5 =>
 if (((0 : Int) ≤ (IntKind.wrap .i64 (r5.2.1 + (((List.length r5.2.2.2.2.2.2.2.2.2.2.2.2.1) : Nat) : Int)))) ∧ ((IntKind.wrap .i64 (r5.2.1 + (((List.length r5.2.2.2.2.2.2.2.2.2.2.2.2.1) : Nat) : Int))) < ((r5.1 : Nat) : Int))) then
 Option.bind (r5.2.2.2.2.2.2.2.2.2.2.2.2.2)[(0 + (Int.toNat (IntKind.wrap .i64 (r5.2.1 + (((List.length r5.2.2.2.2.2.2.2.2.2.2.2.2.1) : Nat) : Int)))))]? fun x8 =>
 rec r5.1 r5.2.2.2.1 r5.2.2.2.2.1 (IntKind.wrap .i64 (r5.2.2.2.2.2.1 + (1 : Int))) r5.2.2.2.2.2.2.1 r5.2.2.2.2.2.2.2.1 r5.2.2.2.2.2.2.2.2.1 r5.2.2.2.2.2.2.2.2.2.1 r5.2.2.2.2.2.2.2.2.2.2.1 r5.2.2.2.2.2.2.2.2.2.2.2.1 r5.2.2.2.2.2.2.2.2.2.2.2.2.1 (List.set r5.2.2.2.2.2.2.2.2.2.2.2.2.2 (0 + (Int.toNat (IntKind.wrap .i64 (r5.2.1 + (((List.length r5.2.2.2.2.2.2.2.2.2.2.2.2.1) : Nat) : Int))))) (IntKind.wrap .u32 r5.2.2.1))
 else
 none
 else
 none
 else
 (some (out1, z, x0, x11, x21, x3, y0, y1, outs))
def Lbig_Int_Mul_uoe_0 (k n : Nat) : Nat → List Int → Int → Int → Bool → Bool → List Int → Bool → List Int → Bool → List Int → List Int → Option (Nat × Bool × Bool × List Int × Bool × List Int × Bool × List Int × List Int) := Nat.rec (fun _ _ _ _ _ _ _ _ _ _ _ _ => none) (fun _ r => Lbig_Int_Mul_uoe_0s k r) n
def bbig_Int_Mul_uoe (k : Nat) (z : Bool) (x0 : Bool) (x1 : List Int) (x2 : Bool) (x3 : List Int) (y0 : Bool) (y1 : List Int) : Option (Bool × List Int × Bool × List Int × Bool × List Int × Bool × List Int) :=
 if (((0 : Int) ≤ (IntKind.wrap .i64 ((((List.length x1) : Nat) : Int) + (((List.length y1) : Nat) : Int)))) ∧ (((IntKind.wrap .i64 ((((List.length x1) : Nat) : Int) + (((List.length y1) : Nat) : Int))) ≤ (IntKind.wrap .i64 ((((List.length x1) : Nat) : Int) + (((List.length y1) : Nat) : Int)))) ∧ (((IntKind.wrap .i64 ((((List.length x1) : Nat) : Int) + (((List.length y1) : Nat) : Int))) * (4 : Int)) ≤ (140737488355328 : Int)))) then
 Option.bind (Lbig_Int_Mul_uoe_0 k k (Int.toNat (IntKind.wrap .i64 ((((List.length x1) : Nat) : Int) + (((List.length y1) : Nat) : Int)))) x1 (((List.length x1) : Nat) : Int) (0 : Int) z x0 x1 x2 x3 y0 y1 (List.replicate (Int.toNat (IntKind.wrap .i64 ((((List.length x1) : Nat) : Int) + (((List.length y1) : Nat) : Int)))) (0 : Int))) fun r5 =>
 if ((0 + r5.1) ≤ (List.length r5.2.2.2.2.2.2.2.2)) then
 Option.bind (Fbig_Int_set_cvg k (!(r5.2.2.1 == r5.2.2.2.2.2.2.1)) (List.take r5.1 r5.2.2.2.2.2.2.2.2) r5.2.1) fun r6 =>
 (some (r6.1, r6.2, r5.2.2.1, r5.2.2.2.1, r5.2.2.2.2.1, r5.2.2.2.2.2.1, r5.2.2.2.2.2.2.1, r5.2.2.2.2.2.2.2.1))
 else
 none
 else
 none
def Fbig_Int_Mul_uoe : Nat → Bool → Bool → List Int → Bool → List Int → Bool → List Int → Option (Bool × List Int × Bool × List Int × Bool × List Int × Bool × List Int)
 | 0, _, _, _, _, _, _, _ => none
 | k + 1, z, x0, x1, x2, x3, y0, y1 => bbig_Int_Mul_uoe k z x0 x1 x2 x3 y0 y1
def shq7 : FS := { vs := [.a (.ptr 0 0 0), .a (.ptr 1 0 0), .a (.ptr 2 0 0)], bs := [.raw [[.lf .bool, .snil 1 72]] 2 98 true false, .raw [[.lf .bool, .lf (.sl (.int .u32)), .lf .bool, .lf (.sl (.int .u32))]] 4 100 true false, .raw [[.lf .bool, .lf (.sl (.int .u32))]] 2 98 true false] }
def rsq7 : List FS := [{ vs := [.a (.ptr 0 0 0)], bs := [.raw [[.lf .bool, .lf (.sl (.int .u32))]] 2 98 true false, .raw [[.lf .bool, .lf (.sl (.int .u32)), .lf .bool, .lf (.sl (.int .u32))]] 4 100 true false, .raw [[.lf .bool, .lf (.sl (.int .u32))]] 2 98 true false] }]
def Iq7 (k : Nat) : Inst := ⟨84, shq7, rsq7, fun x => Fbig_Int_Mul_uoe k x.1 x.2.1 x.2.2.1 x.2.2.2.1 x.2.2.2.2.1 x.2.2.2.2.2.1 x.2.2.2.2.2.2⟩
theorem alq7 (k : Nat) : AllI (call cf k) [Iq15 k] := qA (okq15 k) qT
def hsq114 : List SS := [{ fr := [(0, .a (.ptr 0 0 0)), (1, .a (.ptr 1 0 0)), (2, .a (.ptr 2 0 0)), (7, .a (.smz 3)), (8, .a (.lf (.int .i64))), (9, .a (.lf (.int .u32))), (10, .a (.lf (.int .u64))), (29, .a (.lf (.sl (.int .u32)))), (30, .a (.lf (.int .i64))), (31, .a (.lf (.int .i64))), (39, .a (.lf (.sl (.int .u32)))), (40, .a (.lf (.int .i64))), (41, .a (.lf (.int .i64)))], mem := [(0, some (.raw [[.lf .bool, .snil 1 72]] 2 98 true false)), (1, some (.raw [[.lf .bool, .lf (.sl (.int .u32)), .lf .bool, .lf (.sl (.int .u32))]] 4 100 true false)), (2, some (.raw [[.lf .bool, .lf (.sl (.int .u32))]] 2 98 true false)), (3, some (.arr (.int .u32) 1 72 false))], nx := 4 }]
def osq114 : List OS := [⟨some 2, { fr := [(0, .a (.ptr 0 0 0)), (1, .a (.ptr 1 0 0)), (2, .a (.ptr 2 0 0)), (7, .a (.smz 3)), (8, .a (.lf (.int .i64))), (10, .a (.lf (.int .u64))), (29, .a (.lf (.sl (.int .u32)))), (30, .a (.lf (.int .i64))), (31, .a (.lf (.int .i64)))], mem := [(0, some (.raw [[.lf .bool, .snil 1 72]] 2 98 true false)), (1, some (.raw [[.lf .bool, .lf (.sl (.int .u32)), .lf .bool, .lf (.sl (.int .u32))]] 4 100 true false)), (2, some (.raw [[.lf .bool, .lf (.sl (.int .u32))]] 2 98 true false)), (3, some (.arr (.int .u32) 1 72 false))], nx := 4 }⟩]
def LIq114 (k : Nat) : LInst := ⟨2, hsq114, osq114, fun x => Lbig_Int_Mul_uoe_2 k k x.1 x.2.1 x.2.2.1 x.2.2.2.1 x.2.2.2.2.1 x.2.2.2.2.2.1 x.2.2.2.2.2.2.1 x.2.2.2.2.2.2.2.1 x.2.2.2.2.2.2.2.2.1 x.2.2.2.2.2.2.2.2.2.1 x.2.2.2.2.2.2.2.2.2.2.1 x.2.2.2.2.2.2.2.2.2.2.2.1 x.2.2.2.2.2.2.2.2.2.2.2.2.1 x.2.2.2.2.2.2.2.2.2.2.2.2.2.1 x.2.2.2.2.2.2.2.2.2.2.2.2.2.2.1 x.2.2.2.2.2.2.2.2.2.2.2.2.2.2.2.1 x.2.2.2.2.2.2.2.2.2.2.2.2.2.2.2.2.1 x.2.2.2.2.2.2.2.2.2.2.2.2.2.2.2.2.2⟩
theorem anq114 (k : Nat) : LAll (LOk (R := DS OS.D osq114) (fun b _ σ K => LOt Ty (kps 84) 3 b σ K []) cf (call cf k) (kps 84) Try.f84.ntmps k 3) 2 (lb Try.f84 1) :=
 qA qT (qA (qA qT qT) (qA (qA qT (qA qT (qA qT qT))) qT))
theorem stq114 (k n : Nat) (x : DS SS.D hsq114) : Lbig_Int_Mul_uoe_2 k (n + 1) x.1 x.2.1 x.2.2.1 x.2.2.2.1 x.2.2.2.2.1 x.2.2.2.2.2.1 x.2.2.2.2.2.2.1 x.2.2.2.2.2.2.2.1 x.2.2.2.2.2.2.2.2.1 x.2.2.2.2.2.2.2.2.2.1 x.2.2.2.2.2.2.2.2.2.2.1 x.2.2.2.2.2.2.2.2.2.2.2.1 x.2.2.2.2.2.2.2.2.2.2.2.2.1 x.2.2.2.2.2.2.2.2.2.2.2.2.2.1 x.2.2.2.2.2.2.2.2.2.2.2.2.2.2.1 x.2.2.2.2.2.2.2.2.2.2.2.2.2.2.2.1 x.2.2.2.2.2.2.2.2.2.2.2.2.2.2.2.2.1 x.2.2.2.2.2.2.2.2.2.2.2.2.2.2.2.2.2 = encSK SS.enc (fun σ => run2 cf (fun f a b K => COt f a b K [Iq15 k]) (fun b _ σ K => LOt Ty (kps 84) 3 b σ K []) Try.f84.ntmps 2 (lb Try.f84 1) σ (nextK Ty (kps 84 2) 3 hsq114 osq114 fun x => Lbig_Int_Mul_uoe_2 k n x.1 x.2.1 x.2.2.1 x.2.2.2.1 x.2.2.2.2.1 x.2.2.2.2.2.1 x.2.2.2.2.2.2.1 x.2.2.2.2.2.2.2.1 x.2.2.2.2.2.2.2.2.1 x.2.2.2.2.2.2.2.2.2.1 x.2.2.2.2.2.2.2.2.2.2.1 x.2.2.2.2.2.2.2.2.2.2.2.1 x.2.2.2.2.2.2.2.2.2.2.2.2.1 x.2.2.2.2.2.2.2.2.2.2.2.2.2.1 x.2.2.2.2.2.2.2.2.2.2.2.2.2.2.1 x.2.2.2.2.2.2.2.2.2.2.2.2.2.2.2.1 x.2.2.2.2.2.2.2.2.2.2.2.2.2.2.2.2.1 x.2.2.2.2.2.2.2.2.2.2.2.2.2.2.2.2.2)) hsq114 x := by kernel_rfl
theorem loq114 (k : Nat) : LIOk cf (call cf k) (kps 84) Try.f84.ntmps k 3 2 (lb Try.f84 1) (LIq114 k) :=
 loop_ok (c := cf) (callF := call cf k) (kp := kps 84) (nt := Try.f84.ntmps) (k := k) (p := 3) (b := 2) (x0 := lb Try.f84 1) (hs := hsq114) (os := osq114) (COt_ok (alq7 k)) (anq114 k) (fun n x => Lbig_Int_Mul_uoe_2 k n x.1 x.2.1 x.2.2.1 x.2.2.2.1 x.2.2.2.2.1 x.2.2.2.2.2.1 x.2.2.2.2.2.2.1 x.2.2.2.2.2.2.2.1 x.2.2.2.2.2.2.2.2.1 x.2.2.2.2.2.2.2.2.2.1 x.2.2.2.2.2.2.2.2.2.2.1 x.2.2.2.2.2.2.2.2.2.2.2.1 x.2.2.2.2.2.2.2.2.2.2.2.2.1 x.2.2.2.2.2.2.2.2.2.2.2.2.2.1 x.2.2.2.2.2.2.2.2.2.2.2.2.2.2.1 x.2.2.2.2.2.2.2.2.2.2.2.2.2.2.2.1 x.2.2.2.2.2.2.2.2.2.2.2.2.2.2.2.2.1 x.2.2.2.2.2.2.2.2.2.2.2.2.2.2.2.2.2) (fun _ => rfl) (stq114 k)
def hsq113 : List SS := [{ fr := [(0, .a (.ptr 0 0 0)), (1, .a (.ptr 1 0 0)), (2, .a (.ptr 2 0 0)), (7, .a (.smz 3)), (29, .a (.lf (.sl (.int .u32)))), (30, .a (.lf (.int .i64))), (31, .a (.lf (.int .i64)))], mem := [(0, some (.raw [[.lf .bool, .snil 1 72]] 2 98 true false)), (1, some (.raw [[.lf .bool, .lf (.sl (.int .u32)), .lf .bool, .lf (.sl (.int .u32))]] 4 100 true false)), (2, some (.raw [[.lf .bool, .lf (.sl (.int .u32))]] 2 98 true false)), (3, some (.arr (.int .u32) 1 72 false))], nx := 4 }]
def osq113 : List OS := [⟨some 0, { fr := [(0, .a (.ptr 0 0 0)), (1, .a (.ptr 1 0 0)), (2, .a (.ptr 2 0 0)), (7, .a (.smz 3))], mem := [(0, some (.raw [[.lf .bool, .snil 1 72]] 2 98 true false)), (1, some (.raw [[.lf .bool, .lf (.sl (.int .u32)), .lf .bool, .lf (.sl (.int .u32))]] 4 100 true false)), (2, some (.raw [[.lf .bool, .lf (.sl (.int .u32))]] 2 98 true false)), (3, some (.arr (.int .u32) 1 72 false))], nx := 4 }⟩]
def LIq113 (k : Nat) : LInst := ⟨0, hsq113, osq113, fun x => Lbig_Int_Mul_uoe_0 k k x.1 x.2.1 x.2.2.1 x.2.2.2.1 x.2.2.2.2.1 x.2.2.2.2.2.1 x.2.2.2.2.2.2.1 x.2.2.2.2.2.2.2.1 x.2.2.2.2.2.2.2.2.1 x.2.2.2.2.2.2.2.2.2.1 x.2.2.2.2.2.2.2.2.2.2.1 x.2.2.2.2.2.2.2.2.2.2.2⟩
theorem anq113 (k : Nat) : LAll (LOk (R := DS OS.D osq113) (fun b _ σ K => LOt Ty (kps 84) 3 b σ K [LIq114 k]) cf (call cf k) (kps 84) Try.f84.ntmps k 3) 0 (lb Try.f84 0) :=
 qA qT (qA (qA qT qT) (qA (qA qT (qA qT (qA (qA qT (LOt_ok (c := cf) (callF := call cf k) (kp := kps 84) (nt := Try.f84.ntmps) (k := k) (p := 3) (b := 2) (x0 := lb Try.f84 1) (l := [LIq114 k]) (qA (fun _ => loq114 k) qT))) qT))) qT))
theorem stq113 (k n : Nat) (x : DS SS.D hsq113) : Lbig_Int_Mul_uoe_0 k (n + 1) x.1 x.2.1 x.2.2.1 x.2.2.2.1 x.2.2.2.2.1 x.2.2.2.2.2.1 x.2.2.2.2.2.2.1 x.2.2.2.2.2.2.2.1 x.2.2.2.2.2.2.2.2.1 x.2.2.2.2.2.2.2.2.2.1 x.2.2.2.2.2.2.2.2.2.2.1 x.2.2.2.2.2.2.2.2.2.2.2 = encSK SS.enc (fun σ => run2 cf (fun f a b K => COt f a b K [Iq15 k]) (fun b _ σ K => LOt Ty (kps 84) 3 b σ K [LIq114 k]) Try.f84.ntmps 0 (lb Try.f84 0) σ (nextK Ty (kps 84 0) 3 hsq113 osq113 fun x => Lbig_Int_Mul_uoe_0 k n x.1 x.2.1 x.2.2.1 x.2.2.2.1 x.2.2.2.2.1 x.2.2.2.2.2.1 x.2.2.2.2.2.2.1 x.2.2.2.2.2.2.2.1 x.2.2.2.2.2.2.2.2.1 x.2.2.2.2.2.2.2.2.2.1 x.2.2.2.2.2.2.2.2.2.2.1 x.2.2.2.2.2.2.2.2.2.2.2)) hsq113 x := by kernel_rfl
theorem loq113 (k : Nat) : LIOk cf (call cf k) (kps 84) Try.f84.ntmps k 3 0 (lb Try.f84 0) (LIq113 k) :=
 loop_ok (c := cf) (callF := call cf k) (kp := kps 84) (nt := Try.f84.ntmps) (k := k) (p := 3) (b := 0) (x0 := lb Try.f84 0) (hs := hsq113) (os := osq113) (COt_ok (alq7 k)) (anq113 k) (fun n x => Lbig_Int_Mul_uoe_0 k n x.1 x.2.1 x.2.2.1 x.2.2.2.1 x.2.2.2.2.1 x.2.2.2.2.2.1 x.2.2.2.2.2.2.1 x.2.2.2.2.2.2.2.1 x.2.2.2.2.2.2.2.2.1 x.2.2.2.2.2.2.2.2.2.1 x.2.2.2.2.2.2.2.2.2.2.1 x.2.2.2.2.2.2.2.2.2.2.2) (fun _ => rfl) (stq113 k)
theorem anq7 (k : Nat) : LAll (LOk (R := DS FS.D rsq7) (fun b _ σ K => LOt Ty (kps 84) 3 b σ K [LIq114 k, LIq113 k]) cf (call cf k) (cf.keep 84) Try.f84.ntmps k shq7.bs.length) 0 (bd Try.f84) :=
 qA qT (qA qT (qA (qA qT (LOt_ok (c := cf) (callF := call cf k) (kp := kps 84) (nt := Try.f84.ntmps) (k := k) (p := 3) (b := 0) (x0 := lb Try.f84 0) (l := [LIq114 k, LIq113 k]) (qA (fun h => absurd (show (2 : Nat) = 0 from h) (by decide)) (qA (fun _ => loq113 k) qT)))) (qA qT qT)))
theorem stq7 (k : Nat) (x : shq7.D) : Fbig_Int_Mul_uoe (k + 1) x.1 x.2.1 x.2.2.1 x.2.2.2.1 x.2.2.2.2.1 x.2.2.2.2.2.1 x.2.2.2.2.2.2 = body2 cf (fun f a b K => COt f a b K [Iq15 k]) (fun b _ σ K => LOt Ty (kps 84) 3 b σ K [LIq114 k, LIq113 k]) 84 Try.f84.ntmps Try.f84.results.toList (bd Try.f84) (shq7.enc x).1 (shq7.enc x).2 (putS FS.dec rsq7) := by kernel_rfl
theorem okq7 : ∀ k, InstOk (call cf k) (Iq7 k)
 | 0 => fun x y e => absurd (show (none : Option _) = some y from e) (by simp)
 | k + 1 => inst_ok (c := cf) (k := k) (f := 84) (fn := Try.f84) (body := bd Try.f84) (sh := shq7) (os := rsq7) rfl Try.func84 rfl ⟨rfl, Nat.le_of_ble_eq_true rfl⟩ (COt_ok (alq7 k)) (anq7 k) (fun x => Fbig_Int_Mul_uoe (k + 1) x.1 x.2.1 x.2.2.1 x.2.2.2.1 x.2.2.2.2.1 x.2.2.2.2.2.1 x.2.2.2.2.2.2) (stq7 k)

/-! (*shunt/big.Rat).Add -/
def bbig_Rat_Add_cwi (k : Nat) (z0 : Bool) (z1 : Bool) (x0 : Bool) (x1 : List Int) (x2 : Bool) (x3 : List Int) (y0 : Bool) (y1 : List Int) (y2 : Bool) (y3 : List Int) : Option (Bool × List Int × Bool × List Int × Bool × List Int × Bool × List Int × Bool × List Int × Bool × List Int) :=
 Option.bind (Fbig_Rat_Denom_plq k y0 y1 y2 y3) fun r4 =>
 Option.bind (Fbig_Int_Mul_uoe k false x0 x1 x2 x3 r4.2.2.2.2.1 r4.2.2.2.2.2) fun r5 =>
 Option.bind (Fbig_Rat_Denom_plq k r5.2.2.1 r5.2.2.2.1 r5.2.2.2.2.1 r5.2.2.2.2.2.1) fun r6 =>
 Option.bind (Fbig_Int_Mul_uoe k false r4.1 r4.2.1 r4.2.2.1 r4.2.2.2.1 r6.2.2.2.2.1 r6.2.2.2.2.2) fun r7 =>
 Option.bind (Fbig_Rat_Denom_plq k r6.1 r6.2.1 r6.2.2.1 r6.2.2.2.1) fun r8 =>
 Option.bind (Fbig_Rat_Denom_plq k r7.2.2.1 r7.2.2.2.1 r7.2.2.2.2.1 r7.2.2.2.2.2.1) fun r9 =>
 Option.bind (Fbig_Int_Mul_gsh k false r8.2.2.2.2.1 r8.2.2.2.2.2 r9.2.2.2.2.1 r9.2.2.2.2.2) fun r10 =>
 Option.bind (Fbig_Int_Add_jod k r5.1 r5.2.1 r7.1 r7.2.1) fun r11 =>
 Option.bind (Fbig_Rat_frac_xda k z0 z1 r11.1 r11.2.1 r10.1 r10.2.1) fun r12 =>
 (some (r12.1, r12.2.1, r12.2.2.1, r12.2.2.2.1, r8.1, r8.2.1, r8.2.2.1, r8.2.2.2.1, r9.1, r9.2.1, r9.2.2.1, r9.2.2.2.1))
def Fbig_Rat_Add_cwi : Nat → Bool → Bool → Bool → List Int → Bool → List Int → Bool → List Int → Bool → List Int → Option (Bool × List Int × Bool × List Int × Bool × List Int × Bool × List Int × Bool × List Int × Bool × List Int)
 | 0, _, _, _, _, _, _, _, _, _, _ => none
 | k + 1, z0, z1, x0, x1, x2, x3, y0, y1, y2, y3 => bbig_Rat_Add_cwi k z0 z1 x0 x1 x2 x3 y0 y1 y2 y3
def shq21 : FS := { vs := [.a (.ptr 0 0 0), .a (.ptr 1 0 0), .a (.ptr 2 0 0)], bs := [.raw [[.lf .bool, .snil 1 72, .lf .bool, .snil 1 72]] 4 100 true false, .raw [[.lf .bool, .lf (.sl (.int .u32)), .lf .bool, .lf (.sl (.int .u32))]] 4 100 true false, .raw [[.lf .bool, .lf (.sl (.int .u32)), .lf .bool, .lf (.sl (.int .u32))]] 4 100 true false] }
def rsq21 : List FS := [{ vs := [.a (.ptr 0 0 0)], bs := [.raw [[.lf .bool, .lf (.sl (.int .u32)), .lf .bool, .lf (.sl (.int .u32))]] 4 100 true false, .raw [[.lf .bool, .lf (.sl (.int .u32)), .lf .bool, .lf (.sl (.int .u32))]] 4 100 true false, .raw [[.lf .bool, .lf (.sl (.int .u32)), .lf .bool, .lf (.sl (.int .u32))]] 4 100 true false] }]
def Iq21 (k : Nat) : Inst := ⟨63, shq21, rsq21, fun x => Fbig_Rat_Add_cwi k x.1 x.2.1 x.2.2.1 x.2.2.2.1 x.2.2.2.2.1 x.2.2.2.2.2.1 x.2.2.2.2.2.2.1 x.2.2.2.2.2.2.2.1 x.2.2.2.2.2.2.2.2.1 x.2.2.2.2.2.2.2.2.2⟩
theorem alq21 (k : Nat) : AllI (call cf k) [Iq26 k, Iq7 k, Iq4 k, Iq2 k, Iq34 k] := qA (okq26 k) (qA (okq7 k) (qA (okq4 k) (qA (okq2 k) (qA (okq34 k) qT))))
theorem anq21 (k : Nat) : LAll (LOk (R := DS FS.D rsq21) (fun b _ σ K => LOt Ty (kps 63) 3 b σ K []) cf (call cf k) (cf.keep 63) Try.f63.ntmps k shq21.bs.length) 0 (bd Try.f63) :=
 qA qT (qA qT (qA qT (qA qT (qA qT (qA qT qT)))))
theorem stq21 (k : Nat) (x : shq21.D) : Fbig_Rat_Add_cwi (k + 1) x.1 x.2.1 x.2.2.1 x.2.2.2.1 x.2.2.2.2.1 x.2.2.2.2.2.1 x.2.2.2.2.2.2.1 x.2.2.2.2.2.2.2.1 x.2.2.2.2.2.2.2.2.1 x.2.2.2.2.2.2.2.2.2 = body2 cf (fun f a b K => COt f a b K [Iq26 k, Iq7 k, Iq4 k, Iq2 k, Iq34 k]) (fun b _ σ K => LOt Ty (kps 63) 3 b σ K []) 63 Try.f63.ntmps Try.f63.results.toList (bd Try.f63) (shq21.enc x).1 (shq21.enc x).2 (putS FS.dec rsq21) := by kernel_rfl
theorem okq21 : ∀ k, InstOk (call cf k) (Iq21 k)
 | 0 => fun x y e => absurd (show (none : Option _) = some y from e) (by simp)
 | k + 1 => inst_ok (c := cf) (k := k) (f := 63) (fn := Try.f63) (body := bd Try.f63) (sh := shq21) (os := rsq21) rfl Try.func63 rfl ⟨rfl, Nat.le_of_ble_eq_true rfl⟩ (COt_ok (alq21 k)) (anq21 k) (fun x => Fbig_Rat_Add_cwi (k + 1) x.1 x.2.1 x.2.2.1 x.2.2.2.1 x.2.2.2.2.1 x.2.2.2.2.2.1 x.2.2.2.2.2.2.1 x.2.2.2.2.2.2.2.1 x.2.2.2.2.2.2.2.2.1 x.2.2.2.2.2.2.2.2.2) (stq21 k)

/-! (*shunt/big.Rat).Sub -/
def bbig_Rat_Sub_cwi (k : Nat) (z0 : Bool) (z1 : Bool) (x0 : Bool) (x1 : List Int) (x2 : Bool) (x3 : List Int) (y0 : Bool) (y1 : List Int) (y2 : Bool) (y3 : List Int) : Option (Bool × List Int × Bool × List Int × Bool × List Int × Bool × List Int × Bool × List Int × Bool × List Int) :=
 Option.bind (Fbig_Rat_Neg_yrp k false false y0 y1 y2 y3) fun r3 =>
 Option.bind (Fbig_Rat_Add_cwi k z0 z1 x0 x1 x2 x3 r3.1 r3.2.1 r3.2.2.1 r3.2.2.2.1) fun r4 =>
 (some (r4.1, r4.2.1, r4.2.2.1, r4.2.2.2.1, r4.2.2.2.2.1, r4.2.2.2.2.2.1, r4.2.2.2.2.2.2.1, r4.2.2.2.2.2.2.2.1, r3.2.2.2.2.1, r3.2.2.2.2.2.1, r3.2.2.2.2.2.2.1, r3.2.2.2.2.2.2.2))
def Fbig_Rat_Sub_cwi : Nat → Bool → Bool → Bool → List Int → Bool → List Int → Bool → List Int → Bool → List Int → Option (Bool × List Int × Bool × List Int × Bool × List Int × Bool × List Int × Bool × List Int × Bool × List Int)
 | 0, _, _, _, _, _, _, _, _, _, _ => none
 | k + 1, z0, z1, x0, x1, x2, x3, y0, y1, y2, y3 => bbig_Rat_Sub_cwi k z0 z1 x0 x1 x2 x3 y0 y1 y2 y3
def shq32 : FS := { vs := [.a (.ptr 0 0 0), .a (.ptr 1 0 0), .a (.ptr 2 0 0)], bs := [.raw [[.lf .bool, .snil 1 72, .lf .bool, .snil 1 72]] 4 100 true false, .raw [[.lf .bool, .lf (.sl (.int .u32)), .lf .bool, .lf (.sl (.int .u32))]] 4 100 true false, .raw [[.lf .bool, .lf (.sl (.int .u32)), .lf .bool, .lf (.sl (.int .u32))]] 4 100 true false] }
def rsq32 : List FS := [{ vs := [.a (.ptr 0 0 0)], bs := [.raw [[.lf .bool, .lf (.sl (.int .u32)), .lf .bool, .lf (.sl (.int .u32))]] 4 100 true false, .raw [[.lf .bool, .lf (.sl (.int .u32)), .lf .bool, .lf (.sl (.int .u32))]] 4 100 true false, .raw [[.lf .bool, .lf (.sl (.int .u32)), .lf .bool, .lf (.sl (.int .u32))]] 4 100 true false] }]
def Iq32 (k : Nat) : Inst := ⟨61, shq32, rsq32, fun x => Fbig_Rat_Sub_cwi k x.1 x.2.1 x.2.2.1 x.2.2.2.1 x.2.2.2.2.1 x.2.2.2.2.2.1 x.2.2.2.2.2.2.1 x.2.2.2.2.2.2.2.1 x.2.2.2.2.2.2.2.2.1 x.2.2.2.2.2.2.2.2.2⟩
theorem alq32 (k : Nat) : AllI (call cf k) [Iq29 k, Iq21 k] := qA (okq29 k) (qA (okq21 k) qT)
theorem anq32 (k : Nat) : LAll (LOk (R := DS FS.D rsq32) (fun b _ σ K => LOt Ty (kps 61) 3 b σ K []) cf (call cf k) (cf.keep 61) Try.f61.ntmps k shq32.bs.length) 0 (bd Try.f61) :=
 qA qT (qA qT qT)
theorem stq32 (k : Nat) (x : shq32.D) : Fbig_Rat_Sub_cwi (k + 1) x.1 x.2.1 x.2.2.1 x.2.2.2.1 x.2.2.2.2.1 x.2.2.2.2.2.1 x.2.2.2.2.2.2.1 x.2.2.2.2.2.2.2.1 x.2.2.2.2.2.2.2.2.1 x.2.2.2.2.2.2.2.2.2 = body2 cf (fun f a b K => COt f a b K [Iq29 k, Iq21 k]) (fun b _ σ K => LOt Ty (kps 61) 3 b σ K []) 61 Try.f61.ntmps Try.f61.results.toList (bd Try.f61) (shq32.enc x).1 (shq32.enc x).2 (putS FS.dec rsq32) := by kernel_rfl
theorem okq32 : ∀ k, InstOk (call cf k) (Iq32 k)
 | 0 => fun x y e => absurd (show (none : Option _) = some y from e) (by simp)
 | k + 1 => inst_ok (c := cf) (k := k) (f := 61) (fn := Try.f61) (body := bd Try.f61) (sh := shq32) (os := rsq32) rfl Try.func61 rfl ⟨rfl, Nat.le_of_ble_eq_true rfl⟩ (COt_ok (alq32 k)) (anq32 k) (fun x => Fbig_Rat_Sub_cwi (k + 1) x.1 x.2.1 x.2.2.1 x.2.2.2.1 x.2.2.2.2.1 x.2.2.2.2.2.1 x.2.2.2.2.2.2.1 x.2.2.2.2.2.2.2.1 x.2.2.2.2.2.2.2.2.1 x.2.2.2.2.2.2.2.2.2) (stq32 k)

/-! (*shunt/big.Rat).Add -/
def bbig_Rat_Add_wqk (k : Nat) (x0 : Bool) (x1 : List Int) (x2 : Bool) (x3 : List Int) (y0 : Bool) (y1 : List Int) (y2 : Bool) (y3 : List Int) : Option (Bool × List Int × Bool × List Int × Bool × List Int × Bool × List Int) :=
 Option.bind (Fbig_Rat_Denom_plq k y0 y1 y2 y3) fun r6 =>
 Option.bind (Fbig_Int_Mul_uoe k false x0 x1 x2 x3 r6.2.2.2.2.1 r6.2.2.2.2.2) fun r7 =>
 Option.bind (Fbig_Rat_Denom_plq k r7.2.2.1 r7.2.2.2.1 r7.2.2.2.2.1 r7.2.2.2.2.2.1) fun r8 =>
 Option.bind (Fbig_Int_Mul_uoe k false r6.1 r6.2.1 r6.2.2.1 r6.2.2.2.1 r8.2.2.2.2.1 r8.2.2.2.2.2) fun r9 =>
 Option.bind (Fbig_Rat_Denom_plq k r8.1 r8.2.1 r8.2.2.1 r8.2.2.2.1) fun r10 =>
 Option.bind (Fbig_Rat_Denom_plq k r9.2.2.1 r9.2.2.2.1 r9.2.2.2.2.1 r9.2.2.2.2.2.1) fun r11 =>
 Option.bind (Fbig_Int_Mul_gsh k false r10.2.2.2.2.1 r10.2.2.2.2.2 r11.2.2.2.2.1 r11.2.2.2.2.2) fun r12 =>
 Option.bind (Fbig_Int_Add_jod k r7.1 r7.2.1 r9.1 r9.2.1) fun r13 =>
 Option.bind (Fbig_Rat_frac_prp k r10.1 r10.2.1 r10.2.2.1 r10.2.2.2.1 r13.1 r13.2.1 r12.1 r12.2.1) fun r14 =>
 (some (r14.1, r14.2.1, r14.2.2.1, r14.2.2.2.1, r11.1, r11.2.1, r11.2.2.1, r11.2.2.2.1))
def Fbig_Rat_Add_wqk : Nat → Bool → List Int → Bool → List Int → Bool → List Int → Bool → List Int → Option (Bool × List Int × Bool × List Int × Bool × List Int × Bool × List Int)
 | 0, _, _, _, _, _, _, _, _ => none
 | k + 1, x0, x1, x2, x3, y0, y1, y2, y3 => bbig_Rat_Add_wqk k x0 x1 x2 x3 y0 y1 y2 y3
def shq23 : FS := { vs := [.a (.ptr 0 0 0), .a (.ptr 0 0 0), .a (.ptr 1 0 0)], bs := [.raw [[.lf .bool, .lf (.sl (.int .u32)), .lf .bool, .lf (.sl (.int .u32))]] 4 100 true false, .raw [[.lf .bool, .lf (.sl (.int .u32)), .lf .bool, .lf (.sl (.int .u32))]] 4 100 true false] }
def rsq23 : List FS := [{ vs := [.a (.ptr 0 0 0)], bs := [.raw [[.lf .bool, .lf (.sl (.int .u32)), .lf .bool, .lf (.sl (.int .u32))]] 4 100 true false, .raw [[.lf .bool, .lf (.sl (.int .u32)), .lf .bool, .lf (.sl (.int .u32))]] 4 100 true false] }]
def Iq23 (k : Nat) : Inst := ⟨63, shq23, rsq23, fun x => Fbig_Rat_Add_wqk k x.1 x.2.1 x.2.2.1 x.2.2.2.1 x.2.2.2.2.1 x.2.2.2.2.2.1 x.2.2.2.2.2.2.1 x.2.2.2.2.2.2.2⟩
theorem alq23 (k : Nat) : AllI (call cf k) [Iq26 k, Iq7 k, Iq4 k, Iq2 k, Iq33 k] := qA (okq26 k) (qA (okq7 k) (qA (okq4 k) (qA (okq2 k) (qA (okq33 k) qT))))
theorem anq23 (k : Nat) : LAll (LOk (R := DS FS.D rsq23) (fun b _ σ K => LOt Ty (kps 63) 2 b σ K []) cf (call cf k) (cf.keep 63) Try.f63.ntmps k shq23.bs.length) 0 (bd Try.f63) :=
 qA qT (qA qT (qA qT (qA qT (qA qT (qA qT qT)))))
theorem stq23 (k : Nat) (x : shq23.D) : Fbig_Rat_Add_wqk (k + 1) x.1 x.2.1 x.2.2.1 x.2.2.2.1 x.2.2.2.2.1 x.2.2.2.2.2.1 x.2.2.2.2.2.2.1 x.2.2.2.2.2.2.2 = body2 cf (fun f a b K => COt f a b K [Iq26 k, Iq7 k, Iq4 k, Iq2 k, Iq33 k]) (fun b _ σ K => LOt Ty (kps 63) 2 b σ K []) 63 Try.f63.ntmps Try.f63.results.toList (bd Try.f63) (shq23.enc x).1 (shq23.enc x).2 (putS FS.dec rsq23) := by kernel_rfl
theorem okq23 : ∀ k, InstOk (call cf k) (Iq23 k)
 | 0 => fun x y e => absurd (show (none : Option _) = some y from e) (by simp)
 | k + 1 => inst_ok (c := cf) (k := k) (f := 63) (fn := Try.f63) (body := bd Try.f63) (sh := shq23) (os := rsq23) rfl Try.func63 rfl ⟨rfl, Nat.le_of_ble_eq_true rfl⟩ (COt_ok (alq23 k)) (anq23 k) (fun x => Fbig_Rat_Add_wqk (k + 1) x.1 x.2.1 x.2.2.1 x.2.2.2.1 x.2.2.2.2.1 x.2.2.2.2.2.1 x.2.2.2.2.2.2.1 x.2.2.2.2.2.2.2) (stq23 k)

/-! shunt/model.Name -/
def Lmodel_Name_0s (k : Nat) (rec : List Int → Int → Int → Option ((Bool) ⊕ (Unit))) (x : List Int) (x1 : Int) (x2 : Int) : Option ((Bool) ⊕ (Unit)) :=
 if ((decide (x2 < x1)) = true) then
 if ((0 : Int) ≤ x2) then
 Option.bind (x)[(Int.toNat x2)]? fun x3 =>
 if ((decide (x3 ≥ (97 : Int))) = true) then
 if ((decide (x3 ≤ (122 : Int))) = false) then
 if ((decide (x3 ≥ (48 : Int))) = true) then
 if ((decide (x3 ≤ (57 : Int))) = false) then
 if ((!(x3 == (95 : Int))) = true) then
 (some (Sum.inl false))
 else
 rec x x1 (IntKind.wrap .i64 (x2 + (1 : Int)))
 else
 rec x x1 (IntKind.wrap .i64 (x2 + (1 : Int)))
 else
 if ((!(x3 == (95 : Int))) = true) then
 (some (Sum.inl false))
 else
 rec x x1 (IntKind.wrap .i64 (x2 + (1 : Int)))
 else
 rec x x1 (IntKind.wrap .i64 (x2 + (1 : Int)))
 else
 if ((decide (x3 ≥ (48 : Int))) = true) then
 if ((decide (x3 ≤ (57 : Int))) = false) then
 if ((!(x3 == (95 : Int))) = true) then
 (some (Sum.inl false))
 else
 rec x x1 (IntKind.wrap .i64 (x2 + (1 : Int)))
 else
 rec x x1 (IntKind.wrap .i64 (x2 + (1 : Int)))
 else
 if ((!(x3 == (95 : Int))) = true) then
 (some (Sum.inl false))
 else
 rec x x1 (IntKind.wrap .i64 (x2 + (1 : Int)))
 else
 none
 else
 (some (Sum.inr ()))
def Lmodel_Name_0 (k n : Nat) : List Int → Int → Int → Option ((Bool) ⊕ (Unit)) := Nat.rec (fun _ _ _ => none) (fun _ r => Lmodel_Name_0s k r) n
def bmodel_Name (k : Nat) (s : ByteArray) : Option (Bool) :=
 if ((decide ((((ByteArray.size s) : Nat) : Int) < (1 : Int))) = false) then
 if ((decide ((((ByteArray.size s) : Nat) : Int) > (16 : Int))) = true) then
 (some false)
 else
 Option.bind (Lmodel_Name_0 k k (List.map (fun b : UInt8 => ((UInt8.toNat b : Nat) : Int)) (Array.toList (ByteArray.data s))) (((List.length (List.map (fun b : UInt8 => ((UInt8.toNat b : Nat) : Int)) (Array.toList (ByteArray.data s)))) : Nat) : Int) (0 : Int)) fun r =>
 eitherK r
 (fun r =>
 (some r))
 (fun r =>
 (some true))
 else
 (some false)
def Fmodel_Name : Nat → ByteArray → Option (Bool)
 | 0, _ => none
 | k + 1, s => bmodel_Name k s
def shq52 : FS := { vs := [.a (.lf .str)], bs := [] }
def rsq52 : List FS := [{ vs := [.a (.lf .bool)], bs := [] }]
def Iq52 (k : Nat) : Inst := ⟨77, shq52, rsq52, fun x => Fmodel_Name k x⟩
theorem alq52 (k : Nat) : AllI (call cf k) [] := True.intro
def hsq134 : List SS := [{ fr := [(14, .a (.lf (.sl (.int .u8)))), (15, .a (.lf (.int .i64))), (16, .a (.lf (.int .i64)))], mem := [], nx := 0 }]
def osq134 : List OS := [⟨none, { fr := [(2, .a (.lf .bool))], mem := [], nx := 0 }⟩, ⟨some 0, { fr := [], mem := [], nx := 0 }⟩]
def LIq134 (k : Nat) : LInst := ⟨0, hsq134, osq134, fun x => Lmodel_Name_0 k k x.1 x.2.1 x.2.2⟩
theorem anq134 (k : Nat) : LAll (LOk (R := DS OS.D osq134) (fun b _ σ K => LOt Ty (kps 77) 0 b σ K []) cf (call cf k) (kps 77) Try.f77.ntmps k 0) 0 (lb Try.f77 0) :=
 qA qT (qA (qA qT qT) (qA (qA qT (qA qT (qA (qA qT qT) qT))) qT))
theorem stq134 (k n : Nat) (x : DS SS.D hsq134) : Lmodel_Name_0 k (n + 1) x.1 x.2.1 x.2.2 = encSK SS.enc (fun σ => run2 cf (fun f a b K => COt f a b K []) (fun b _ σ K => LOt Ty (kps 77) 0 b σ K []) Try.f77.ntmps 0 (lb Try.f77 0) σ (nextK Ty (kps 77 0) 0 hsq134 osq134 fun x => Lmodel_Name_0 k n x.1 x.2.1 x.2.2)) hsq134 x := by kernel_rfl
theorem loq134 (k : Nat) : LIOk cf (call cf k) (kps 77) Try.f77.ntmps k 0 0 (lb Try.f77 0) (LIq134 k) :=
 loop_ok (c := cf) (callF := call cf k) (kp := kps 77) (nt := Try.f77.ntmps) (k := k) (p := 0) (b := 0) (x0 := lb Try.f77 0) (hs := hsq134) (os := osq134) (COt_ok (alq52 k)) (anq134 k) (fun n x => Lmodel_Name_0 k n x.1 x.2.1 x.2.2) (fun _ => rfl) (stq134 k)
theorem anq52 (k : Nat) : LAll (LOk (R := DS FS.D rsq52) (fun b _ σ K => LOt Ty (kps 77) 0 b σ K [LIq134 k]) cf (call cf k) (cf.keep 77) Try.f77.ntmps k shq52.bs.length) 0 (bd Try.f77) :=
 qA qT (qA (qA qT (qA (qA qT qT) qT)) (qA (qA qT (LOt_ok (c := cf) (callF := call cf k) (kp := kps 77) (nt := Try.f77.ntmps) (k := k) (p := 0) (b := 0) (x0 := lb Try.f77 0) (l := [LIq134 k]) (qA (fun _ => loq134 k) qT))) (qA qT qT)))
theorem stq52 (k : Nat) (x : shq52.D) : Fmodel_Name (k + 1) x = body2 cf (fun f a b K => COt f a b K []) (fun b _ σ K => LOt Ty (kps 77) 0 b σ K [LIq134 k]) 77 Try.f77.ntmps Try.f77.results.toList (bd Try.f77) (shq52.enc x).1 (shq52.enc x).2 (putS FS.dec rsq52) := by kernel_rfl
theorem okq52 : ∀ k, InstOk (call cf k) (Iq52 k)
 | 0 => fun x y e => absurd (show (none : Option _) = some y from e) (by simp)
 | k + 1 => inst_ok (c := cf) (k := k) (f := 77) (fn := Try.f77) (body := bd Try.f77) (sh := shq52) (os := rsq52) rfl Try.func77 rfl ⟨rfl, Nat.le_of_ble_eq_true rfl⟩ (COt_ok (alq52 k)) (anq52 k) (fun x => Fmodel_Name (k + 1) x) (stq52 k)

/-! (*shunt/big.Rat).Cmp -/
def bbig_Rat_Cmp_jyb (k : Nat) (z0 : Bool) (z1 : List Int) (z2 : Bool) (z3 : List Int) (y0 : Bool) (y1 : List Int) (y2 : Bool) (y3 : List Int) : Option (Int × Bool × List Int × Bool × List Int × Bool × List Int × Bool × List Int) :=
 Option.bind (Fbig_Rat_Denom_plq k y0 y1 y2 y3) fun r6 =>
 Option.bind (Fbig_Int_Mul_uoe k false z0 z1 z2 z3 r6.2.2.2.2.1 r6.2.2.2.2.2) fun r7 =>
 Option.bind (Fbig_Rat_Denom_plq k r7.2.2.1 r7.2.2.2.1 r7.2.2.2.2.1 r7.2.2.2.2.2.1) fun r8 =>
 Option.bind (Fbig_Int_Mul_uoe k false r6.1 r6.2.1 r6.2.2.1 r6.2.2.2.1 r8.2.2.2.2.1 r8.2.2.2.2.2) fun r9 =>
 Option.bind (Fbig_Int_Cmp_ddu k r7.1 r7.2.1 r9.1 r9.2.1) fun r10 =>
 (some (r10.1, r8.1, r8.2.1, r8.2.2.1, r8.2.2.2.1, r9.2.2.1, r9.2.2.2.1, r9.2.2.2.2.1, r9.2.2.2.2.2.1))
def Fbig_Rat_Cmp_jyb : Nat → Bool → List Int → Bool → List Int → Bool → List Int → Bool → List Int → Option (Int × Bool × List Int × Bool × List Int × Bool × List Int × Bool × List Int)
 | 0, _, _, _, _, _, _, _, _ => none
 | k + 1, z0, z1, z2, z3, y0, y1, y2, y3 => bbig_Rat_Cmp_jyb k z0 z1 z2 z3 y0 y1 y2 y3
def shq24 : FS := { vs := [.a (.ptr 0 0 0), .a (.ptr 1 0 0)], bs := [.raw [[.lf .bool, .lf (.sl (.int .u32)), .lf .bool, .lf (.sl (.int .u32))]] 4 100 true false, .raw [[.lf .bool, .lf (.sl (.int .u32)), .lf .bool, .lf (.sl (.int .u32))]] 4 100 true false] }
def rsq24 : List FS := [{ vs := [.a (.lf (.int .i64))], bs := [.raw [[.lf .bool, .lf (.sl (.int .u32)), .lf .bool, .lf (.sl (.int .u32))]] 4 100 true false, .raw [[.lf .bool, .lf (.sl (.int .u32)), .lf .bool, .lf (.sl (.int .u32))]] 4 100 true false] }]
def Iq24 (k : Nat) : Inst := ⟨47, shq24, rsq24, fun x => Fbig_Rat_Cmp_jyb k x.1 x.2.1 x.2.2.1 x.2.2.2.1 x.2.2.2.2.1 x.2.2.2.2.2.1 x.2.2.2.2.2.2.1 x.2.2.2.2.2.2.2⟩
theorem alq24 (k : Nat) : AllI (call cf k) [Iq26 k, Iq7 k, Iq3 k] := qA (okq26 k) (qA (okq7 k) (qA (okq3 k) qT))
theorem anq24 (k : Nat) : LAll (LOk (R := DS FS.D rsq24) (fun b _ σ K => LOt Ty (kps 47) 2 b σ K []) cf (call cf k) (cf.keep 47) Try.f47.ntmps k shq24.bs.length) 0 (bd Try.f47) :=
 qA qT (qA qT (qA qT (qA qT (qA qT qT))))
theorem stq24 (k : Nat) (x : shq24.D) : Fbig_Rat_Cmp_jyb (k + 1) x.1 x.2.1 x.2.2.1 x.2.2.2.1 x.2.2.2.2.1 x.2.2.2.2.2.1 x.2.2.2.2.2.2.1 x.2.2.2.2.2.2.2 = body2 cf (fun f a b K => COt f a b K [Iq26 k, Iq7 k, Iq3 k]) (fun b _ σ K => LOt Ty (kps 47) 2 b σ K []) 47 Try.f47.ntmps Try.f47.results.toList (bd Try.f47) (shq24.enc x).1 (shq24.enc x).2 (putS FS.dec rsq24) := by kernel_rfl
theorem okq24 : ∀ k, InstOk (call cf k) (Iq24 k)
 | 0 => fun x y e => absurd (show (none : Option _) = some y from e) (by simp)
 | k + 1 => inst_ok (c := cf) (k := k) (f := 47) (fn := Try.f47) (body := bd Try.f47) (sh := shq24) (os := rsq24) rfl Try.func47 rfl ⟨rfl, Nat.le_of_ble_eq_true rfl⟩ (COt_ok (alq24 k)) (anq24 k) (fun x => Fbig_Rat_Cmp_jyb (k + 1) x.1 x.2.1 x.2.2.1 x.2.2.2.1 x.2.2.2.2.1 x.2.2.2.2.2.1 x.2.2.2.2.2.2.1 x.2.2.2.2.2.2.2) (stq24 k)

/-! shunt/num.Cmp -/
def bnum_Cmp (k : Nat) (a0 : Int) (a1 : Int) (b0 : Int) (b1 : Int) : Option (Int × Int) :=
 Option.bind (Fnum_Valid k a0 a1) fun r2 =>
 if ((!r2) = false) then
 Option.bind (Fnum_Valid k b0 b1) fun r3 =>
 if ((!r3) = true) then
 (some ((0 : Int), (30 : Int)))
 else
 Option.bind (Fnum_frac k a0 a1) fun r4 =>
 Option.bind (Fnum_frac k b0 b1) fun r5 =>
 Option.bind (Fbig_Rat_Cmp_jyb k r4.1 r4.2.1 r4.2.2.1 r4.2.2.2 r5.1 r5.2.1 r5.2.2.1 r5.2.2.2) fun r6 =>
 (some (r6.1, (0 : Int)))
 else
 (some ((0 : Int), (30 : Int)))
def Fnum_Cmp : Nat → Int → Int → Int → Int → Option (Int × Int)
 | 0, _, _, _, _ => none
 | k + 1, a0, a1, b0, b1 => bnum_Cmp k a0 a1 b0 b1
def shq59 : FS := { vs := [.g [.lf (.int .i64), .lf (.int .i64)], .g [.lf (.int .i64), .lf (.int .i64)]], bs := [] }
def rsq59 : List FS := [{ vs := [.a (.lf (.int .i64)), .a (.lf (.int .i64))], bs := [] }]
def Iq59 (k : Nat) : Inst := ⟨30, shq59, rsq59, fun x => Fnum_Cmp k x.1 x.2.1 x.2.2.1 x.2.2.2⟩
theorem alq59 (k : Nat) : AllI (call cf k) [Iq60 k, Iq62 k, Iq24 k] := qA (okq60 k) (qA (okq62 k) (qA (okq24 k) qT))
theorem anq59 (k : Nat) : LAll (LOk (R := DS FS.D rsq59) (fun b _ σ K => LOt Ty (kps 30) 0 b σ K []) cf (call cf k) (cf.keep 30) Try.f30.ntmps k shq59.bs.length) 0 (bd Try.f30) :=
 qA qT (qA (qA qT (qA (qA qT qT) qT)) (qA qT qT))
theorem stq59 (k : Nat) (x : shq59.D) : Fnum_Cmp (k + 1) x.1 x.2.1 x.2.2.1 x.2.2.2 = body2 cf (fun f a b K => COt f a b K [Iq60 k, Iq62 k, Iq24 k]) (fun b _ σ K => LOt Ty (kps 30) 0 b σ K []) 30 Try.f30.ntmps Try.f30.results.toList (bd Try.f30) (shq59.enc x).1 (shq59.enc x).2 (putS FS.dec rsq59) := by kernel_rfl
theorem okq59 : ∀ k, InstOk (call cf k) (Iq59 k)
 | 0 => fun x y e => absurd (show (none : Option _) = some y from e) (by simp)
 | k + 1 => inst_ok (c := cf) (k := k) (f := 30) (fn := Try.f30) (body := bd Try.f30) (sh := shq59) (os := rsq59) rfl Try.func30 rfl ⟨rfl, Nat.le_of_ble_eq_true rfl⟩ (COt_ok (alq59 k)) (anq59 k) (fun x => Fnum_Cmp (k + 1) x.1 x.2.1 x.2.2.1 x.2.2.2) (stq59 k)

/-! shunt/model.Valid -/
def Lmodel_Valid_2s (k : Nat) (rec : List (Int × Int) → List (Int × Int) → Int → List (Int × Int) → Int → Int → ByteArray → Int → List (Int × Int) → List (Int × Int) → Option ((Bool × ByteArray × Int × List (Int × Int) × List (Int × Int) × Int × Int) ⊕ (List (Int × Int) × List (Int × Int) × Int × ByteArray × Int × List (Int × Int) × List (Int × Int)))) (x0 : List (Int × Int)) (x1 : List (Int × Int)) (x : Int) (x2 : List (Int × Int)) (x3 : Int) (x4 : Int) (m0 : ByteArray) (m1 : Int) (m2 : List (Int × Int)) (m3 : List (Int × Int)) : Option ((Bool × ByteArray × Int × List (Int × Int) × List (Int × Int) × Int × Int) ⊕ (List (Int × Int) × List (Int × Int) × Int × ByteArray × Int × List (Int × Int) × List (Int × Int))) :=
 if ((decide (x4 < x3)) = true) then
 if ((0 : Int) ≤ x4) then
 Option.bind (x2)[(Int.toNat x4)]? fun x5 =>
 Option.bind (Fnum_Valid k x5.1 x5.2) fun r1 =>
 if ((!r1) = true) then
 (some (Sum.inl (false, m0, m1, m2, m3, x5.1, x5.2)))
 else
 rec x0 x1 x x2 x3 (IntKind.wrap .i64 (x4 + (1 : Int))) m0 m1 m2 m3
 else
 none
 else
 (some (Sum.inr (x0, x1, x, m0, m1, m2, m3)))
def Lmodel_Valid_2 (k n : Nat) : List (Int × Int) → List (Int × Int) → Int → List (Int × Int) → Int → Int → ByteArray → Int → List (Int × Int) → List (Int × Int) → Option ((Bool × ByteArray × Int × List (Int × Int) × List (Int × Int) × Int × Int) ⊕ (List (Int × Int) × List (Int × Int) × Int × ByteArray × Int × List (Int × Int) × List (Int × Int))) := Nat.rec (fun _ _ _ _ _ _ _ _ _ _ => none) (fun _ r => Lmodel_Valid_2s k r) n
def Lmodel_Valid_0s (k : Nat) (rec : List (Int × Int) → List (Int × Int) → Int → ByteArray → Int → List (Int × Int) → List (Int × Int) → Option ((Bool × ByteArray × Int × List (Int × Int) × List (Int × Int) × Int × Int) ⊕ (ByteArray × Int × List (Int × Int) × List (Int × Int)))) (x0 : List (Int × Int)) (x1 : List (Int × Int)) (x : Int) (m0 : ByteArray) (m1 : Int) (m2 : List (Int × Int)) (m3 : List (Int × Int)) : Option ((Bool × ByteArray × Int × List (Int × Int) × List (Int × Int) × Int × Int) ⊕ (ByteArray × Int × List (Int × Int) × List (Int × Int))) :=
 if ((decide (x < (2 : Int))) = true) then
 if (x = (0 : Int)) then
 Option.bind (Lmodel_Valid_2 k k x0 x1 x x0 (((List.length x0) : Nat) : Int) (0 : Int) m0 m1 m2 m3) fun r1 =>
 eitherK r1
 (fun r1 =>
 (some (Sum.inl (r1.1, r1.2.1, r1.2.2.1, r1.2.2.2.1, r1.2.2.2.2.1, r1.2.2.2.2.2.1, r1.2.2.2.2.2.2))))
 (fun r1 =>
 rec r1.1 r1.2.1 (IntKind.wrap .i64 (r1.2.2.1 + (1 : Int))) r1.2.2.2.1 r1.2.2.2.2.1 r1.2.2.2.2.2.1 r1.2.2.2.2.2.2)
 else
 if ((x - (1 : Int)) = (0 : Int)) then
 Option.bind (Lmodel_Valid_2 k k x0 x1 x x1 (((List.length x1) : Nat) : Int) (0 : Int) m0 m1 m2 m3) fun r1 =>
 eitherK r1
 (fun r1 =>
 (some (Sum.inl (r1.1, r1.2.1, r1.2.2.1, r1.2.2.2.1, r1.2.2.2.2.1, r1.2.2.2.2.2.1, r1.2.2.2.2.2.2))))
 (fun r1 =>
 rec r1.1 r1.2.1 (IntKind.wrap .i64 (r1.2.2.1 + (1 : Int))) r1.2.2.2.1 r1.2.2.2.2.1 r1.2.2.2.2.2.1 r1.2.2.2.2.2.2)
 else
 none
 else
 (some (Sum.inr (m0, m1, m2, m3)))
def Lmodel_Valid_0 (k n : Nat) : List (Int × Int) → List (Int × Int) → Int → ByteArray → Int → List (Int × Int) → List (Int × Int) → Option ((Bool × ByteArray × Int × List (Int × Int) × List (Int × Int) × Int × Int) ⊕ (ByteArray × Int × List (Int × Int) × List (Int × Int))) := Nat.rec (fun _ _ _ _ _ _ _ => none) (fun _ r => Lmodel_Valid_0s k r) n
def Lmodel_Valid_5s (k : Nat) (rec : Int → ByteArray → Int → List (Int × Int) → List (Int × Int) → Option ((Bool × ByteArray × Int × List (Int × Int) × List (Int × Int)) ⊕ (ByteArray × Int × List (Int × Int) × List (Int × Int)))) (i : Int) (m0 : ByteArray) (m1 : Int) (m2 : List (Int × Int)) (m3 : List (Int × Int)) : Option ((Bool × ByteArray × Int × List (Int × Int) × List (Int × Int)) ⊕ (ByteArray × Int × List (Int × Int) × List (Int × Int))) :=
 if ((decide (i < (((List.length m3) : Nat) : Int))) = true) then
 if ((0 : Int) ≤ (IntKind.wrap .i64 (i - (1 : Int)))) then
 Option.bind (m3)[(Int.toNat (IntKind.wrap .i64 (i - (1 : Int))))]? fun x =>
 if ((0 : Int) ≤ i) then
 Option.bind (m3)[(Int.toNat i)]? fun x1 =>
 Option.bind (Fnum_Cmp k x.1 x.2 x1.1 x1.2) fun r2 =>
 if ((decide (r2.1 ≥ (0 : Int))) = true) then
 (some (Sum.inl (false, m0, m1, m2, m3)))
 else
 rec (IntKind.wrap .i64 (i + (1 : Int))) m0 m1 m2 m3
 else
 none
 else
 none
 else
 (some (Sum.inr (m0, m1, m2, m3)))
def Lmodel_Valid_5 (k n : Nat) : Int → ByteArray → Int → List (Int × Int) → List (Int × Int) → Option ((Bool × ByteArray × Int × List (Int × Int) × List (Int × Int)) ⊕ (ByteArray × Int × List (Int × Int) × List (Int × Int))) := Nat.rec (fun _ _ _ _ _ => none) (fun _ r => Lmodel_Valid_5s k r) n
def bmodel_Valid (k : Nat) (m0 : ByteArray) (m1 : Int) (m2 : List (Int × Int)) (m3 : List (Int × Int)) : Option (Bool) :=
 Option.bind (Fmodel_Name k m0) fun r =>
 if ((!r) = true) then
 (some false)
 else
 Option.bind (Lmodel_Valid_0 k k m2 m3 (0 : Int) m0 m1 m2 m3) fun r1 =>
 eitherK r1
 (fun r1 =>
 (some r1.1))
 (fun r1 =>
 if ((r1.2.1 == (115 : Int)) = true) then
 if (((((List.length r1.2.2.1) : Nat) : Int) == (2 : Int)) = true) then
 (some ((((List.length r1.2.2.2) : Nat) : Int) == (1 : Int)))
 else
 (some false)
 else
 if ((r1.2.1 == (100 : Int)) = true) then
 if ((decide ((((List.length r1.2.2.1) : Nat) : Int) < (1 : Int))) = false) then
 if ((decide ((((List.length r1.2.2.1) : Nat) : Int) > (4 : Int))) = false) then
 if (((((List.length r1.2.2.2) : Nat) : Int) != (IntKind.wrap .i64 ((((List.length r1.2.2.1) : Nat) : Int) - (1 : Int)))) = true) then
 (some false)
 else
 Option.bind (Lmodel_Valid_5 k k (1 : Int) r1.1 r1.2.1 r1.2.2.1 r1.2.2.2) fun r2 =>
 eitherK r2
 (fun r2 =>
 (some r2.1))
 (fun r2 =>
 (some true))
 else
 (some false)
 else
 (some false)
 else
 (some false))
def Fmodel_Valid : Nat → ByteArray → Int → List (Int × Int) → List (Int × Int) → Option (Bool)
 | 0, _, _, _, _ => none
 | k + 1, m0, m1, m2, m3 => bmodel_Valid k m0 m1 m2 m3
def shq55 : FS := { vs := [.g [.lf .str, .lf (.int .u8), .lf (.sl (.pr (.int .i64) (.int .i64))), .lf (.sl (.pr (.int .i64) (.int .i64)))]], bs := [] }
def rsq55 : List FS := [{ vs := [.a (.lf .bool)], bs := [] }]
def Iq55 (k : Nat) : Inst := ⟨37, shq55, rsq55, fun x => Fmodel_Valid k x.1 x.2.1 x.2.2.1 x.2.2.2⟩
theorem alq55 (k : Nat) : AllI (call cf k) [Iq52 k, Iq60 k, Iq59 k] := qA (okq52 k) (qA (okq60 k) (qA (okq59 k) qT))
def hsq137 : List SS := [{ fr := [(1, .a (.ptr 0 0 0)), (18, .g [.lf (.sl (.pr (.int .i64) (.int .i64))), .lf (.sl (.pr (.int .i64) (.int .i64)))]), (19, .a (.lf (.int .i64))), (22, .a (.lf (.sl (.pr (.int .i64) (.int .i64))))), (23, .a (.lf (.int .i64))), (24, .a (.lf (.int .i64)))], mem := [(0, some (.raw [[.lf .str, .lf (.int .u8), .lf (.sl (.pr (.int .i64) (.int .i64))), .lf (.sl (.pr (.int .i64) (.int .i64)))]] 4 24 true false))], nx := 1 }]
def osq137 : List OS := [⟨none, { fr := [(2, .a (.lf .bool))], mem := [(0, some (.raw [[.lf .str, .lf (.int .u8), .lf (.sl (.pr (.int .i64) (.int .i64))), .lf (.sl (.pr (.int .i64) (.int .i64)))]] 4 24 true false)), (1, some (.raw [[.lf (.int .i64), .lf (.int .i64)]] 2 49 true false))], nx := 2 }⟩, ⟨some 2, { fr := [(1, .a (.ptr 0 0 0)), (18, .g [.lf (.sl (.pr (.int .i64) (.int .i64))), .lf (.sl (.pr (.int .i64) (.int .i64)))]), (19, .a (.lf (.int .i64)))], mem := [(0, some (.raw [[.lf .str, .lf (.int .u8), .lf (.sl (.pr (.int .i64) (.int .i64))), .lf (.sl (.pr (.int .i64) (.int .i64)))]] 4 24 true false))], nx := 1 }⟩]
def LIq137 (k : Nat) : LInst := ⟨2, hsq137, osq137, fun x => Lmodel_Valid_2 k k x.1 x.2.1 x.2.2.1 x.2.2.2.1 x.2.2.2.2.1 x.2.2.2.2.2.1 x.2.2.2.2.2.2.1 x.2.2.2.2.2.2.2.1 x.2.2.2.2.2.2.2.2.1 x.2.2.2.2.2.2.2.2.2⟩
theorem anq137 (k : Nat) : LAll (LOk (R := DS OS.D osq137) (fun b _ σ K => LOt Ty (kps 37) 0 b σ K []) cf (call cf k) (kps 37) Try.f37.ntmps k 0) 2 (lb Try.f37 1) :=
 qA qT (qA (qA qT qT) (qA (qA qT (qA qT (qA (qA qT qT) qT))) qT))
theorem stq137 (k n : Nat) (x : DS SS.D hsq137) : Lmodel_Valid_2 k (n + 1) x.1 x.2.1 x.2.2.1 x.2.2.2.1 x.2.2.2.2.1 x.2.2.2.2.2.1 x.2.2.2.2.2.2.1 x.2.2.2.2.2.2.2.1 x.2.2.2.2.2.2.2.2.1 x.2.2.2.2.2.2.2.2.2 = encSK SS.enc (fun σ => run2 cf (fun f a b K => COt f a b K [Iq52 k, Iq60 k, Iq59 k]) (fun b _ σ K => LOt Ty (kps 37) 0 b σ K []) Try.f37.ntmps 2 (lb Try.f37 1) σ (nextK Ty (kps 37 2) 0 hsq137 osq137 fun x => Lmodel_Valid_2 k n x.1 x.2.1 x.2.2.1 x.2.2.2.1 x.2.2.2.2.1 x.2.2.2.2.2.1 x.2.2.2.2.2.2.1 x.2.2.2.2.2.2.2.1 x.2.2.2.2.2.2.2.2.1 x.2.2.2.2.2.2.2.2.2)) hsq137 x := by kernel_rfl
theorem loq137 (k : Nat) : LIOk cf (call cf k) (kps 37) Try.f37.ntmps k 0 2 (lb Try.f37 1) (LIq137 k) :=
 loop_ok (c := cf) (callF := call cf k) (kp := kps 37) (nt := Try.f37.ntmps) (k := k) (p := 0) (b := 2) (x0 := lb Try.f37 1) (hs := hsq137) (os := osq137) (COt_ok (alq55 k)) (anq137 k) (fun n x => Lmodel_Valid_2 k n x.1 x.2.1 x.2.2.1 x.2.2.2.1 x.2.2.2.2.1 x.2.2.2.2.2.1 x.2.2.2.2.2.2.1 x.2.2.2.2.2.2.2.1 x.2.2.2.2.2.2.2.2.1 x.2.2.2.2.2.2.2.2.2) (fun _ => rfl) (stq137 k)
def hsq136 : List SS := [{ fr := [(1, .a (.ptr 0 0 0)), (18, .g [.lf (.sl (.pr (.int .i64) (.int .i64))), .lf (.sl (.pr (.int .i64) (.int .i64)))]), (19, .a (.lf (.int .i64)))], mem := [(0, some (.raw [[.lf .str, .lf (.int .u8), .lf (.sl (.pr (.int .i64) (.int .i64))), .lf (.sl (.pr (.int .i64) (.int .i64)))]] 4 24 true false))], nx := 1 }]
def osq136 : List OS := [⟨none, { fr := [(2, .a (.lf .bool))], mem := [(0, some (.raw [[.lf .str, .lf (.int .u8), .lf (.sl (.pr (.int .i64) (.int .i64))), .lf (.sl (.pr (.int .i64) (.int .i64)))]] 4 24 true false)), (1, some (.raw [[.lf (.int .i64), .lf (.int .i64)]] 2 49 true false))], nx := 2 }⟩, ⟨some 0, { fr := [(1, .a (.ptr 0 0 0))], mem := [(0, some (.raw [[.lf .str, .lf (.int .u8), .lf (.sl (.pr (.int .i64) (.int .i64))), .lf (.sl (.pr (.int .i64) (.int .i64)))]] 4 24 true false))], nx := 1 }⟩]
def LIq136 (k : Nat) : LInst := ⟨0, hsq136, osq136, fun x => Lmodel_Valid_0 k k x.1 x.2.1 x.2.2.1 x.2.2.2.1 x.2.2.2.2.1 x.2.2.2.2.2.1 x.2.2.2.2.2.2⟩
theorem anq136 (k : Nat) : LAll (LOk (R := DS OS.D osq136) (fun b _ σ K => LOt Ty (kps 37) 0 b σ K [LIq137 k]) cf (call cf k) (kps 37) Try.f37.ntmps k 0) 0 (lb Try.f37 0) :=
 qA qT (qA (qA qT qT) (qA (qA qT (qA qT (LOt_ok (c := cf) (callF := call cf k) (kp := kps 37) (nt := Try.f37.ntmps) (k := k) (p := 0) (b := 2) (x0 := lb Try.f37 1) (l := [LIq137 k]) (qA (fun _ => loq137 k) qT)))) qT))
theorem stq136 (k n : Nat) (x : DS SS.D hsq136) : Lmodel_Valid_0 k (n + 1) x.1 x.2.1 x.2.2.1 x.2.2.2.1 x.2.2.2.2.1 x.2.2.2.2.2.1 x.2.2.2.2.2.2 = encSK SS.enc (fun σ => run2 cf (fun f a b K => COt f a b K [Iq52 k, Iq60 k, Iq59 k]) (fun b _ σ K => LOt Ty (kps 37) 0 b σ K [LIq137 k]) Try.f37.ntmps 0 (lb Try.f37 0) σ (nextK Ty (kps 37 0) 0 hsq136 osq136 fun x => Lmodel_Valid_0 k n x.1 x.2.1 x.2.2.1 x.2.2.2.1 x.2.2.2.2.1 x.2.2.2.2.2.1 x.2.2.2.2.2.2)) hsq136 x := by kernel_rfl
theorem loq136 (k : Nat) : LIOk cf (call cf k) (kps 37) Try.f37.ntmps k 0 0 (lb Try.f37 0) (LIq136 k) :=
 loop_ok (c := cf) (callF := call cf k) (kp := kps 37) (nt := Try.f37.ntmps) (k := k) (p := 0) (b := 0) (x0 := lb Try.f37 0) (hs := hsq136) (os := osq136) (COt_ok (alq55 k)) (anq136 k) (fun n x => Lmodel_Valid_0 k n x.1 x.2.1 x.2.2.1 x.2.2.2.1 x.2.2.2.2.1 x.2.2.2.2.2.1 x.2.2.2.2.2.2) (fun _ => rfl) (stq136 k)
def hsq138 : List SS := [{ fr := [(1, .a (.ptr 0 0 0)), (7, .a (.lf (.int .i64)))], mem := [(0, some (.raw [[.lf .str, .lf (.int .u8), .lf (.sl (.pr (.int .i64) (.int .i64))), .lf (.sl (.pr (.int .i64) (.int .i64)))]] 4 24 true false))], nx := 1 }]
def osq138 : List OS := [⟨none, { fr := [(2, .a (.lf .bool))], mem := [(0, some (.raw [[.lf .str, .lf (.int .u8), .lf (.sl (.pr (.int .i64) (.int .i64))), .lf (.sl (.pr (.int .i64) (.int .i64)))]] 4 24 true false))], nx := 1 }⟩, ⟨some 5, { fr := [], mem := [(0, some (.raw [[.lf .str, .lf (.int .u8), .lf (.sl (.pr (.int .i64) (.int .i64))), .lf (.sl (.pr (.int .i64) (.int .i64)))]] 4 24 true false))], nx := 1 }⟩]
def LIq138 (k : Nat) : LInst := ⟨5, hsq138, osq138, fun x => Lmodel_Valid_5 k k x.1 x.2.1 x.2.2.1 x.2.2.2.1 x.2.2.2.2⟩
theorem anq138 (k : Nat) : LAll (LOk (R := DS OS.D osq138) (fun b _ σ K => LOt Ty (kps 37) 0 b σ K [LIq137 k, LIq136 k]) cf (call cf k) (kps 37) Try.f37.ntmps k 0) 5 (lb Try.f37 2) :=
 qA (qA qT (qA qT qT)) (qA (qA qT (qA qT (qA (qA qT qT) qT))) qT)
theorem stq138 (k n : Nat) (x : DS SS.D hsq138) : Lmodel_Valid_5 k (n + 1) x.1 x.2.1 x.2.2.1 x.2.2.2.1 x.2.2.2.2 = encSK SS.enc (fun σ => run2 cf (fun f a b K => COt f a b K [Iq52 k, Iq60 k, Iq59 k]) (fun b _ σ K => LOt Ty (kps 37) 0 b σ K [LIq137 k, LIq136 k]) Try.f37.ntmps 5 (lb Try.f37 2) σ (nextK Ty (kps 37 5) 0 hsq138 osq138 fun x => Lmodel_Valid_5 k n x.1 x.2.1 x.2.2.1 x.2.2.2.1 x.2.2.2.2)) hsq138 x := by kernel_rfl
theorem loq138 (k : Nat) : LIOk cf (call cf k) (kps 37) Try.f37.ntmps k 0 5 (lb Try.f37 2) (LIq138 k) :=
 loop_ok (c := cf) (callF := call cf k) (kp := kps 37) (nt := Try.f37.ntmps) (k := k) (p := 0) (b := 5) (x0 := lb Try.f37 2) (hs := hsq138) (os := osq138) (COt_ok (alq55 k)) (anq138 k) (fun n x => Lmodel_Valid_5 k n x.1 x.2.1 x.2.2.1 x.2.2.2.1 x.2.2.2.2) (fun _ => rfl) (stq138 k)
theorem anq55 (k : Nat) : LAll (LOk (R := DS FS.D rsq55) (fun b _ σ K => LOt Ty (kps 37) 0 b σ K [LIq137 k, LIq136 k, LIq138 k]) cf (call cf k) (cf.keep 37) Try.f37.ntmps k shq55.bs.length) 0 (bd Try.f37) :=
 qA qT (qA (qA qT (qA (qA qT qT) qT)) (qA (qA qT (LOt_ok (c := cf) (callF := call cf k) (kp := kps 37) (nt := Try.f37.ntmps) (k := k) (p := 0) (b := 0) (x0 := lb Try.f37 0) (l := [LIq137 k, LIq136 k, LIq138 k]) (qA (fun h => absurd (show (2 : Nat) = 0 from h) (by decide)) (qA (fun _ => loq136 k) (qA (fun h => absurd (show (5 : Nat) = 0 from h) (by decide)) qT))))) (qA (qA qT (qA qT (qA (qA qT qT) (qA qT (qA (qA (qA qT (qA (qA qT qT) qT)) (qA (qA qT (LOt_ok (c := cf) (callF := call cf k) (kp := kps 37) (nt := Try.f37.ntmps) (k := k) (p := 0) (b := 5) (x0 := lb Try.f37 2) (l := [LIq137 k, LIq136 k, LIq138 k]) (qA (fun h => absurd (show (2 : Nat) = 5 from h) (by decide)) (qA (fun h => absurd (show (0 : Nat) = 5 from h) (by decide)) (qA (fun _ => loq138 k) qT))))) (qA qT qT))) qT))))) (qA qT qT))))
theorem stq55 (k : Nat) (x : shq55.D) : Fmodel_Valid (k + 1) x.1 x.2.1 x.2.2.1 x.2.2.2 = body2 cf (fun f a b K => COt f a b K [Iq52 k, Iq60 k, Iq59 k]) (fun b _ σ K => LOt Ty (kps 37) 0 b σ K [LIq137 k, LIq136 k, LIq138 k]) 37 Try.f37.ntmps Try.f37.results.toList (bd Try.f37) (shq55.enc x).1 (shq55.enc x).2 (putS FS.dec rsq55) := by kernel_rfl
theorem okq55 : ∀ k, InstOk (call cf k) (Iq55 k)
 | 0 => fun x y e => absurd (show (none : Option _) = some y from e) (by simp)
 | k + 1 => inst_ok (c := cf) (k := k) (f := 37) (fn := Try.f37) (body := bd Try.f37) (sh := shq55) (os := rsq55) rfl Try.func37 rfl ⟨rfl, Nat.le_of_ble_eq_true rfl⟩ (COt_ok (alq55 k)) (anq55 k) (fun x => Fmodel_Valid (k + 1) x.1 x.2.1 x.2.2.1 x.2.2.2) (stq55 k)

/-! shunt/model.check -/
def bmodel_check (k : Nat) (m0 : ByteArray) (m1 : Int) (m2 : List (Int × Int)) (m3 : List (Int × Int)) (k1 : Int) : Option (Int) :=
 Option.bind (Fmodel_Valid k m0 m1 m2 m3) fun r =>
 if ((!r) = true) then
 (some (50 : Int))
 else
 if ((decide (k1 < (0 : Int))) = false) then
 if ((decide (k1 ≥ (((List.length m2) : Nat) : Int))) = true) then
 (some (111 : Int))
 else
 (some (0 : Int))
 else
 (some (111 : Int))
def Fmodel_check : Nat → ByteArray → Int → List (Int × Int) → List (Int × Int) → Int → Option (Int)
 | 0, _, _, _, _, _ => none
 | k + 1, m0, m1, m2, m3, k1 => bmodel_check k m0 m1 m2 m3 k1
def shq56 : FS := { vs := [.g [.lf .str, .lf (.int .u8), .lf (.sl (.pr (.int .i64) (.int .i64))), .lf (.sl (.pr (.int .i64) (.int .i64)))], .a (.lf (.int .i64))], bs := [] }
def rsq56 : List FS := [{ vs := [.a (.lf (.int .i64))], bs := [] }]
def Iq56 (k : Nat) : Inst := ⟨44, shq56, rsq56, fun x => Fmodel_check k x.1 x.2.1 x.2.2.1 x.2.2.2.1 x.2.2.2.2⟩
theorem alq56 (k : Nat) : AllI (call cf k) [Iq55 k] := qA (okq55 k) qT
theorem anq56 (k : Nat) : LAll (LOk (R := DS FS.D rsq56) (fun b _ σ K => LOt Ty (kps 44) 0 b σ K []) cf (call cf k) (cf.keep 44) Try.f44.ntmps k shq56.bs.length) 0 (bd Try.f44) :=
 qA qT (qA (qA qT (qA (qA qT qT) qT)) (qA (qA qT (qA (qA qT qT) qT)) (qA qT qT)))
theorem stq56 (k : Nat) (x : shq56.D) : Fmodel_check (k + 1) x.1 x.2.1 x.2.2.1 x.2.2.2.1 x.2.2.2.2 = body2 cf (fun f a b K => COt f a b K [Iq55 k]) (fun b _ σ K => LOt Ty (kps 44) 0 b σ K []) 44 Try.f44.ntmps Try.f44.results.toList (bd Try.f44) (shq56.enc x).1 (shq56.enc x).2 (putS FS.dec rsq56) := by kernel_rfl
theorem okq56 : ∀ k, InstOk (call cf k) (Iq56 k)
 | 0 => fun x y e => absurd (show (none : Option _) = some y from e) (by simp)
 | k + 1 => inst_ok (c := cf) (k := k) (f := 44) (fn := Try.f44) (body := bd Try.f44) (sh := shq56) (os := rsq56) rfl Try.func44 rfl ⟨rfl, Nat.le_of_ble_eq_true rfl⟩ (COt_ok (alq56 k)) (anq56 k) (fun x => Fmodel_check (k + 1) x.1 x.2.1 x.2.2.1 x.2.2.2.1 x.2.2.2.2) (stq56 k)

/-! shunt/model.value -/
def bmodel_value (k : Nat) (n0 : Int) (n1 : Int) : Option (Bool × List Int × Bool × List Int) :=
 Option.bind (Fnum_Value k n0 n1) fun r1 =>
 Option.bind (Fwide_Rat k r1.1 r1.2.1 r1.2.2.1 r1.2.2.2.1) fun r2 =>
 (some (r2.1, r2.2.1, r2.2.2.1, r2.2.2.2))
def Fmodel_value : Nat → Int → Int → Option (Bool × List Int × Bool × List Int)
 | 0, _, _ => none
 | k + 1, n0, n1 => bmodel_value k n0 n1
def shq58 : FS := { vs := [.g [.lf (.int .i64), .lf (.int .i64)]], bs := [] }
def rsq58 : List FS := [{ vs := [.a (.ptr 0 0 0)], bs := [.raw [[.lf .bool, .lf (.sl (.int .u32)), .lf .bool, .lf (.sl (.int .u32))]] 4 100 true false] }]
def Iq58 (k : Nat) : Inst := ⟨62, shq58, rsq58, fun x => Fmodel_value k x.1 x.2⟩
theorem alq58 (k : Nat) : AllI (call cf k) [Iq61 k, Iq104 k] := qA (okq61 k) (qA (okq104 k) qT)
theorem anq58 (k : Nat) : LAll (LOk (R := DS FS.D rsq58) (fun b _ σ K => LOt Ty (kps 62) 0 b σ K []) cf (call cf k) (cf.keep 62) Try.f62.ntmps k shq58.bs.length) 0 (bd Try.f62) :=
 qA qT (qA qT (qA qT qT))
theorem stq58 (k : Nat) (x : shq58.D) : Fmodel_value (k + 1) x.1 x.2 = body2 cf (fun f a b K => COt f a b K [Iq61 k, Iq104 k]) (fun b _ σ K => LOt Ty (kps 62) 0 b σ K []) 62 Try.f62.ntmps Try.f62.results.toList (bd Try.f62) (shq58.enc x).1 (shq58.enc x).2 (putS FS.dec rsq58) := by kernel_rfl
theorem okq58 : ∀ k, InstOk (call cf k) (Iq58 k)
 | 0 => fun x y e => absurd (show (none : Option _) = some y from e) (by simp)
 | k + 1 => inst_ok (c := cf) (k := k) (f := 62) (fn := Try.f62) (body := bd Try.f62) (sh := shq58) (os := rsq58) rfl Try.func62 rfl ⟨rfl, Nat.le_of_ble_eq_true rfl⟩ (COt_ok (alq58 k)) (anq58 k) (fun x => Fmodel_value (k + 1) x.1 x.2) (stq58 k)

/-! (*shunt/big.Rat).Mul -/
def bbig_Rat_Mul_cwi (k : Nat) (z0 : Bool) (z1 : Bool) (x0 : Bool) (x1 : List Int) (x2 : Bool) (x3 : List Int) (y0 : Bool) (y1 : List Int) (y2 : Bool) (y3 : List Int) : Option (Bool × List Int × Bool × List Int × Bool × List Int × Bool × List Int × Bool × List Int × Bool × List Int) :=
 Option.bind (Fbig_Int_Mul_uiu k false x0 x1 x2 x3 y0 y1 y2 y3) fun r6 =>
 Option.bind (Fbig_Rat_Denom_plq k r6.2.2.1 r6.2.2.2.1 r6.2.2.2.2.1 r6.2.2.2.2.2.1) fun r7 =>
 Option.bind (Fbig_Rat_Denom_plq k r6.2.2.2.2.2.2.1 r6.2.2.2.2.2.2.2.1 r6.2.2.2.2.2.2.2.2.1 r6.2.2.2.2.2.2.2.2.2) fun r8 =>
 Option.bind (Fbig_Int_Mul_gsh k false r7.2.2.2.2.1 r7.2.2.2.2.2 r8.2.2.2.2.1 r8.2.2.2.2.2) fun r9 =>
 Option.bind (Fbig_Rat_frac_xda k z0 z1 r6.1 r6.2.1 r9.1 r9.2.1) fun r10 =>
 (some (r10.1, r10.2.1, r10.2.2.1, r10.2.2.2.1, r7.1, r7.2.1, r7.2.2.1, r7.2.2.2.1, r8.1, r8.2.1, r8.2.2.1, r8.2.2.2.1))
def Fbig_Rat_Mul_cwi : Nat → Bool → Bool → Bool → List Int → Bool → List Int → Bool → List Int → Bool → List Int → Option (Bool × List Int × Bool × List Int × Bool × List Int × Bool × List Int × Bool × List Int × Bool × List Int)
 | 0, _, _, _, _, _, _, _, _, _, _ => none
 | k + 1, z0, z1, x0, x1, x2, x3, y0, y1, y2, y3 => bbig_Rat_Mul_cwi k z0 z1 x0 x1 x2 x3 y0 y1 y2 y3
def shq27 : FS := { vs := [.a (.ptr 0 0 0), .a (.ptr 1 0 0), .a (.ptr 2 0 0)], bs := [.raw [[.lf .bool, .snil 1 72, .lf .bool, .snil 1 72]] 4 100 true false, .raw [[.lf .bool, .lf (.sl (.int .u32)), .lf .bool, .lf (.sl (.int .u32))]] 4 100 true false, .raw [[.lf .bool, .lf (.sl (.int .u32)), .lf .bool, .lf (.sl (.int .u32))]] 4 100 true false] }
def rsq27 : List FS := [{ vs := [.a (.ptr 0 0 0)], bs := [.raw [[.lf .bool, .lf (.sl (.int .u32)), .lf .bool, .lf (.sl (.int .u32))]] 4 100 true false, .raw [[.lf .bool, .lf (.sl (.int .u32)), .lf .bool, .lf (.sl (.int .u32))]] 4 100 true false, .raw [[.lf .bool, .lf (.sl (.int .u32)), .lf .bool, .lf (.sl (.int .u32))]] 4 100 true false] }]
def Iq27 (k : Nat) : Inst := ⟨54, shq27, rsq27, fun x => Fbig_Rat_Mul_cwi k x.1 x.2.1 x.2.2.1 x.2.2.2.1 x.2.2.2.2.1 x.2.2.2.2.2.1 x.2.2.2.2.2.2.1 x.2.2.2.2.2.2.2.1 x.2.2.2.2.2.2.2.2.1 x.2.2.2.2.2.2.2.2.2⟩
theorem alq27 (k : Nat) : AllI (call cf k) [Iq6 k, Iq26 k, Iq4 k, Iq34 k] := qA (okq6 k) (qA (okq26 k) (qA (okq4 k) (qA (okq34 k) qT)))
theorem anq27 (k : Nat) : LAll (LOk (R := DS FS.D rsq27) (fun b _ σ K => LOt Ty (kps 54) 3 b σ K []) cf (call cf k) (cf.keep 54) Try.f54.ntmps k shq27.bs.length) 0 (bd Try.f54) :=
 qA qT (qA qT (qA qT (qA qT (qA qT qT))))
theorem stq27 (k : Nat) (x : shq27.D) : Fbig_Rat_Mul_cwi (k + 1) x.1 x.2.1 x.2.2.1 x.2.2.2.1 x.2.2.2.2.1 x.2.2.2.2.2.1 x.2.2.2.2.2.2.1 x.2.2.2.2.2.2.2.1 x.2.2.2.2.2.2.2.2.1 x.2.2.2.2.2.2.2.2.2 = body2 cf (fun f a b K => COt f a b K [Iq6 k, Iq26 k, Iq4 k, Iq34 k]) (fun b _ σ K => LOt Ty (kps 54) 3 b σ K []) 54 Try.f54.ntmps Try.f54.results.toList (bd Try.f54) (shq27.enc x).1 (shq27.enc x).2 (putS FS.dec rsq27) := by kernel_rfl
theorem okq27 : ∀ k, InstOk (call cf k) (Iq27 k)
 | 0 => fun x y e => absurd (show (none : Option _) = some y from e) (by simp)
 | k + 1 => inst_ok (c := cf) (k := k) (f := 54) (fn := Try.f54) (body := bd Try.f54) (sh := shq27) (os := rsq27) rfl Try.func54 rfl ⟨rfl, Nat.le_of_ble_eq_true rfl⟩ (COt_ok (alq27 k)) (anq27 k) (fun x => Fbig_Rat_Mul_cwi (k + 1) x.1 x.2.1 x.2.2.1 x.2.2.2.1 x.2.2.2.2.1 x.2.2.2.2.2.1 x.2.2.2.2.2.2.1 x.2.2.2.2.2.2.2.1 x.2.2.2.2.2.2.2.2.1 x.2.2.2.2.2.2.2.2.2) (stq27 k)

/-! shunt/model.knot -/
def bmodel_knot (k : Nat) (m0 : ByteArray) (m1 : Int) (m2 : List (Int × Int)) (m3 : List (Int × Int)) (k1 : Int) : Option (Bool × List Int × Bool × List Int) :=
 if ((0 : Int) ≤ k1) then
 Option.bind (m3)[(Int.toNat k1)]? fun x5 =>
 Option.bind (Fmodel_value k x5.1 x5.2) fun r4 =>
 Option.bind (Fbig_NewRat k (1000000000 : Int) (1 : Int)) fun r5 =>
 Option.bind (Fbig_Rat_Mul_cwi k false false r4.1 r4.2.1 r4.2.2.1 r4.2.2.2 r5.1 r5.2.1 r5.2.2.1 r5.2.2.2) fun r6 =>
 (some (r6.1, r6.2.1, r6.2.2.1, r6.2.2.2.1))
 else
 none
def Fmodel_knot : Nat → ByteArray → Int → List (Int × Int) → List (Int × Int) → Int → Option (Bool × List Int × Bool × List Int)
 | 0, _, _, _, _, _ => none
 | k + 1, m0, m1, m2, m3, k1 => bmodel_knot k m0 m1 m2 m3 k1
def shq57 : FS := { vs := [.g [.lf .str, .lf (.int .u8), .lf (.sl (.pr (.int .i64) (.int .i64))), .lf (.sl (.pr (.int .i64) (.int .i64)))], .a (.lf (.int .i64))], bs := [] }
def rsq57 : List FS := [{ vs := [.a (.ptr 0 0 0)], bs := [.raw [[.lf .bool, .lf (.sl (.int .u32)), .lf .bool, .lf (.sl (.int .u32))]] 4 100 true false] }]
def Iq57 (k : Nat) : Inst := ⟨48, shq57, rsq57, fun x => Fmodel_knot k x.1 x.2.1 x.2.2.1 x.2.2.2.1 x.2.2.2.2⟩
theorem alq57 (k : Nat) : AllI (call cf k) [Iq58 k, Iq19 k, Iq27 k] := qA (okq58 k) (qA (okq19 k) (qA (okq27 k) qT))
theorem anq57 (k : Nat) : LAll (LOk (R := DS FS.D rsq57) (fun b _ σ K => LOt Ty (kps 48) 0 b σ K []) cf (call cf k) (cf.keep 48) Try.f48.ntmps k shq57.bs.length) 0 (bd Try.f48) :=
 qA qT (qA qT qT)
theorem stq57 (k : Nat) (x : shq57.D) : Fmodel_knot (k + 1) x.1 x.2.1 x.2.2.1 x.2.2.2.1 x.2.2.2.2 = body2 cf (fun f a b K => COt f a b K [Iq58 k, Iq19 k, Iq27 k]) (fun b _ σ K => LOt Ty (kps 48) 0 b σ K []) 48 Try.f48.ntmps Try.f48.results.toList (bd Try.f48) (shq57.enc x).1 (shq57.enc x).2 (putS FS.dec rsq57) := by kernel_rfl
theorem okq57 : ∀ k, InstOk (call cf k) (Iq57 k)
 | 0 => fun x y e => absurd (show (none : Option _) = some y from e) (by simp)
 | k + 1 => inst_ok (c := cf) (k := k) (f := 48) (fn := Try.f48) (body := bd Try.f48) (sh := shq57) (os := rsq57) rfl Try.func48 rfl ⟨rfl, Nat.le_of_ble_eq_true rfl⟩ (COt_ok (alq57 k)) (anq57 k) (fun x => Fmodel_knot (k + 1) x.1 x.2.1 x.2.2.1 x.2.2.2.1 x.2.2.2.2) (stq57 k)

/-! (*shunt/big.Int).Mul -/
def Lbig_Int_Mul_xiy_2s (k : Nat) (rec : Nat → Int → Int → Int → Nat → Int → Int → List Int → Int → Int → Bool → Bool → Bool → Bool → List Int → List Int → List Int → Option (Nat × Int × Int × Nat × Int × Int × Bool × Bool × Bool × Bool × List Int × List Int × List Int)) (out1 : Nat) (i : Int) (a : Int) (carry : Int) (x : Nat) (x1 : Int) (x2 : Int) (x3 : List Int) (x4 : Int) (x5 : Int) (z : Bool) (x0 : Bool) (x11 : Bool) (y0 : Bool) (y1 : List Int) (outs : List Int) (s : List Int) : Option (Nat × Int × Int × Nat × Int × Int × Bool × Bool × Bool × Bool × List Int × List Int × List Int) :=
 if ((decide (x5 < x4)) = true) then
 if ((0 : Int) ≤ x5) then
 Option.bind (x3)[(Int.toNat x5)]? fun x6 =>
 if (((0 : Int) ≤ (IntKind.wrap .i64 (i + x5))) ∧ ((IntKind.wrap .i64 (i + x5)) < ((out1 : Nat) : Int))) then
 Option.bind (outs)[(0 + (Int.toNat (IntKind.wrap .i64 (i + x5))))]? fun x7 =>
 if (((0 : Int) ≤ (IntKind.wrap .i64 (i + x5))) ∧ ((IntKind.wrap .i64 (i + x5)) < ((out1 : Nat) : Int))) then
 Option.bind (outs)[(0 + (Int.toNat (IntKind.wrap .i64 (i + x5))))]? fun x8 =>
 rec out1 i a (Int.fdiv (IntKind.wrap .u64 ((IntKind.wrap .u64 ((IntKind.wrap .u64 ((IntKind.wrap .u64 a) * (IntKind.wrap .u64 x6))) + (IntKind.wrap .u64 x7))) + carry)) (4294967296 : Int)) x x1 x2 x3 x4 (IntKind.wrap .i64 (x5 + (1 : Int))) z x0 x11 y0 y1 (List.set outs (0 + (Int.toNat (IntKind.wrap .i64 (i + x5)))) (IntKind.wrap .u32 (IntKind.wrap .u64 ((IntKind.wrap .u64 ((IntKind.wrap .u64 ((IntKind.wrap .u64 a) * (IntKind.wrap .u64 x6))) + (IntKind.wrap .u64 x7))) + carry)))) s
 else
 none
 else
 none
 else
 none
 else
 (some (out1, i, carry, x, x1, x2, z, x0, x11, y0, y1, outs, s))
def Lbig_Int_Mul_xiy_2 (k n : Nat) : Nat → Int → Int → Int → Nat → Int → Int → List Int → Int → Int → Bool → Bool → Bool → Bool → List Int → List Int → List Int → Option (Nat × Int × Int × Nat × Int × Int × Bool × Bool × Bool × Bool × List Int × List Int × List Int) := Nat.rec (fun _ _ _ _ _ _ _ _ _ _ _ _ _ _ _ _ _ => none) (fun _ r => Lbig_Int_Mul_xiy_2s k r) n
def Lbig_Int_Mul_xiy_0s (k : Nat) (rec : Nat → Nat → Int → Int → Bool → Bool → Bool → Bool → List Int → List Int → List Int → Option (Nat × Bool × Bool × Bool × Bool × List Int × List Int × List Int)) (out1 : Nat) (x : Nat) (x1 : Int) (x2 : Int) (z : Bool) (x0 : Bool) (x11 : Bool) (y0 : Bool) (y1 : List Int) (outs : List Int) (s : List Int) : Option (Nat × Bool × Bool × Bool × Bool × List Int × List Int × List Int) :=
 if ((decide (x2 < x1)) = true) then
 if (((0 : Int) ≤ x2) ∧ (x2 < ((x : Nat) : Int))) then
 Option.bind (s)[(0 + (Int.toNat x2))]? fun x5 =>
 Option.bind (Lbig_Int_Mul_xiy_2 k k out1 x2 x5 (0 : Int) x x1 x2 y1 (((List.length y1) : Nat) : Int) (0 : Int) z x0 x11 y0 y1 outs s) fun r7 =>
 if (((0 : Int) ≤ (IntKind.wrap .i64 (r7.2.1 + (((List.length r7.2.2.2.2.2.2.2.2.2.2.1) : Nat) : Int)))) ∧ ((IntKind.wrap .i64 (r7.2.1 + (((List.length r7.2.2.2.2.2.2.2.2.2.2.1) : Nat) : Int))) < ((r7.1 : Nat) : Int))) then
 Option.bind (r7.2.2.2.2.2.2.2.2.2.2.2.1)[(0 + (Int.toNat (IntKind.wrap .i64 (r7.2.1 + (((List.length r7.2.2.2.2.2.2.2.2.2.2.1) : Nat) : Int)))))]? fun x6 =>
 rec r7.1 r7.2.2.2.1 r7.2.2.2.2.1 (IntKind.wrap .i64 (r7.2.2.2.2.2.1 + (1 : Int))) r7.2.2.2.2.2.2.1 r7.2.2.2.2.2.2.2.1 r7.2.2.2.2.2.2.2.2.1 r7.2.2.2.2.2.2.2.2.2.1 r7.2.2.2.2.2.2.2.2.2.2.1 (List.set r7.2.2.2.2.2.2.2.2.2.2.2.1 (0 + (Int.toNat (IntKind.wrap .i64 (r7.2.1 + (((List.length r7.2.2.2.2.2.2.2.2.2.2.1) : Nat) : Int))))) (IntKind.wrap .u32 r7.2.2.1)) r7.2.2.2.2.2.2.2.2.2.2.2.2
 else
 none
 else
 none
 else
 (some (out1, z, x0, x11, y0, y1, outs, s))
def Lbig_Int_Mul_xiy_0 (k n : Nat) : Nat → Nat → Int → Int → Bool → Bool → Bool → Bool → List Int → List Int → List Int → Option (Nat × Bool × Bool × Bool × Bool × List Int × List Int × List Int) := Nat.rec (fun _ _ _ _ _ _ _ _ _ _ _ => none) (fun _ r => Lbig_Int_Mul_xiy_0s k r) n
def bbig_Int_Mul_xiy (k : Nat) (z : Bool) (x0 : Bool) (x1 : Bool) (y0 : Bool) (y1 : List Int) : Option (Bool × List Int × Bool × Bool × Bool × List Int) :=
 if (((0 : Int) ≤ (IntKind.wrap .i64 ((0 : Int) + (((List.length y1) : Nat) : Int)))) ∧ (((IntKind.wrap .i64 ((0 : Int) + (((List.length y1) : Nat) : Int))) ≤ (IntKind.wrap .i64 ((0 : Int) + (((List.length y1) : Nat) : Int)))) ∧ (((IntKind.wrap .i64 ((0 : Int) + (((List.length y1) : Nat) : Int))) * (4 : Int)) ≤ (140737488355328 : Int)))) then
 Option.bind (Lbig_Int_Mul_xiy_0 k k (Int.toNat (IntKind.wrap .i64 ((0 : Int) + (((List.length y1) : Nat) : Int)))) 0 (0 : Int) (0 : Int) z x0 x1 y0 y1 (List.replicate (Int.toNat (IntKind.wrap .i64 ((0 : Int) + (((List.length y1) : Nat) : Int)))) (0 : Int)) []) fun r7 =>
 if ((0 + r7.1) ≤ (List.length r7.2.2.2.2.2.2.1)) then
 Option.bind (Fbig_Int_set_cvg k (!(r7.2.2.1 == r7.2.2.2.2.1)) (List.take r7.1 r7.2.2.2.2.2.2.1) r7.2.1) fun r8 =>
 (some (r8.1, r8.2, r7.2.2.1, r7.2.2.2.1, r7.2.2.2.2.1, r7.2.2.2.2.2.1))
 else
 none
 else
 none
def Fbig_Int_Mul_xiy : Nat → Bool → Bool → Bool → Bool → List Int → Option (Bool × List Int × Bool × Bool × Bool × List Int)
 | 0, _, _, _, _, _ => none
 | k + 1, z, x0, x1, y0, y1 => bbig_Int_Mul_xiy k z x0 x1 y0 y1
def shq8 : FS := { vs := [.a (.ptr 0 0 0), .a (.ptr 1 0 0), .a (.ptr 2 0 0)], bs := [.raw [[.lf .bool, .snil 1 72]] 2 98 true false, .raw [[.lf .bool, .snil 1 72, .lf .bool, .snil 1 72]] 4 100 true false, .raw [[.lf .bool, .lf (.sl (.int .u32))]] 2 98 true false] }
def rsq8 : List FS := [{ vs := [.a (.ptr 0 0 0)], bs := [.raw [[.lf .bool, .lf (.sl (.int .u32))]] 2 98 true false, .raw [[.lf .bool, .snil 1 72, .lf .bool, .snil 1 72]] 4 100 true false, .raw [[.lf .bool, .lf (.sl (.int .u32))]] 2 98 true false] }]
def Iq8 (k : Nat) : Inst := ⟨84, shq8, rsq8, fun x => Fbig_Int_Mul_xiy k x.1 x.2.1 x.2.2.1 x.2.2.2.1 x.2.2.2.2⟩
theorem alq8 (k : Nat) : AllI (call cf k) [Iq15 k] := qA (okq15 k) qT
def hsq116 : List SS := [{ fr := [(0, .a (.ptr 0 0 0)), (1, .a (.ptr 1 0 0)), (2, .a (.ptr 2 0 0)), (7, .a (.smz 3)), (8, .a (.lf (.int .i64))), (9, .a (.lf (.int .u32))), (10, .a (.lf (.int .u64))), (29, .a (.smz 4)), (30, .a (.lf (.int .i64))), (31, .a (.lf (.int .i64))), (39, .a (.lf (.sl (.int .u32)))), (40, .a (.lf (.int .i64))), (41, .a (.lf (.int .i64)))], mem := [(0, some (.raw [[.lf .bool, .snil 1 72]] 2 98 true false)), (1, some (.raw [[.lf .bool, .snil 1 72, .lf .bool, .snil 1 72]] 4 100 true false)), (2, some (.raw [[.lf .bool, .lf (.sl (.int .u32))]] 2 98 true false)), (3, some (.arr (.int .u32) 1 72 false)), (4, some (.arr (.int .u32) 1 72 false))], nx := 5 }]
def osq116 : List OS := [⟨some 2, { fr := [(0, .a (.ptr 0 0 0)), (1, .a (.ptr 1 0 0)), (2, .a (.ptr 2 0 0)), (7, .a (.smz 3)), (8, .a (.lf (.int .i64))), (10, .a (.lf (.int .u64))), (29, .a (.smz 4)), (30, .a (.lf (.int .i64))), (31, .a (.lf (.int .i64)))], mem := [(0, some (.raw [[.lf .bool, .snil 1 72]] 2 98 true false)), (1, some (.raw [[.lf .bool, .snil 1 72, .lf .bool, .snil 1 72]] 4 100 true false)), (2, some (.raw [[.lf .bool, .lf (.sl (.int .u32))]] 2 98 true false)), (3, some (.arr (.int .u32) 1 72 false)), (4, some (.arr (.int .u32) 1 72 false))], nx := 5 }⟩]
def LIq116 (k : Nat) : LInst := ⟨2, hsq116, osq116, fun x => Lbig_Int_Mul_xiy_2 k k x.1 x.2.1 x.2.2.1 x.2.2.2.1 x.2.2.2.2.1 x.2.2.2.2.2.1 x.2.2.2.2.2.2.1 x.2.2.2.2.2.2.2.1 x.2.2.2.2.2.2.2.2.1 x.2.2.2.2.2.2.2.2.2.1 x.2.2.2.2.2.2.2.2.2.2.1 x.2.2.2.2.2.2.2.2.2.2.2.1 x.2.2.2.2.2.2.2.2.2.2.2.2.1 x.2.2.2.2.2.2.2.2.2.2.2.2.2.1 x.2.2.2.2.2.2.2.2.2.2.2.2.2.2.1 x.2.2.2.2.2.2.2.2.2.2.2.2.2.2.2.1 x.2.2.2.2.2.2.2.2.2.2.2.2.2.2.2.2⟩
theorem anq116 (k : Nat) : LAll (LOk (R := DS OS.D osq116) (fun b _ σ K => LOt Ty (kps 84) 3 b σ K []) cf (call cf k) (kps 84) Try.f84.ntmps k 3) 2 (lb Try.f84 1) :=
 qA qT (qA (qA qT qT) (qA (qA qT (qA qT (qA qT qT))) qT))
theorem stq116 (k n : Nat) (x : DS SS.D hsq116) : Lbig_Int_Mul_xiy_2 k (n + 1) x.1 x.2.1 x.2.2.1 x.2.2.2.1 x.2.2.2.2.1 x.2.2.2.2.2.1 x.2.2.2.2.2.2.1 x.2.2.2.2.2.2.2.1 x.2.2.2.2.2.2.2.2.1 x.2.2.2.2.2.2.2.2.2.1 x.2.2.2.2.2.2.2.2.2.2.1 x.2.2.2.2.2.2.2.2.2.2.2.1 x.2.2.2.2.2.2.2.2.2.2.2.2.1 x.2.2.2.2.2.2.2.2.2.2.2.2.2.1 x.2.2.2.2.2.2.2.2.2.2.2.2.2.2.1 x.2.2.2.2.2.2.2.2.2.2.2.2.2.2.2.1 x.2.2.2.2.2.2.2.2.2.2.2.2.2.2.2.2 = encSK SS.enc (fun σ => run2 cf (fun f a b K => COt f a b K [Iq15 k]) (fun b _ σ K => LOt Ty (kps 84) 3 b σ K []) Try.f84.ntmps 2 (lb Try.f84 1) σ (nextK Ty (kps 84 2) 3 hsq116 osq116 fun x => Lbig_Int_Mul_xiy_2 k n x.1 x.2.1 x.2.2.1 x.2.2.2.1 x.2.2.2.2.1 x.2.2.2.2.2.1 x.2.2.2.2.2.2.1 x.2.2.2.2.2.2.2.1 x.2.2.2.2.2.2.2.2.1 x.2.2.2.2.2.2.2.2.2.1 x.2.2.2.2.2.2.2.2.2.2.1 x.2.2.2.2.2.2.2.2.2.2.2.1 x.2.2.2.2.2.2.2.2.2.2.2.2.1 x.2.2.2.2.2.2.2.2.2.2.2.2.2.1 x.2.2.2.2.2.2.2.2.2.2.2.2.2.2.1 x.2.2.2.2.2.2.2.2.2.2.2.2.2.2.2.1 x.2.2.2.2.2.2.2.2.2.2.2.2.2.2.2.2)) hsq116 x := by kernel_rfl
theorem loq116 (k : Nat) : LIOk cf (call cf k) (kps 84) Try.f84.ntmps k 3 2 (lb Try.f84 1) (LIq116 k) :=
 loop_ok (c := cf) (callF := call cf k) (kp := kps 84) (nt := Try.f84.ntmps) (k := k) (p := 3) (b := 2) (x0 := lb Try.f84 1) (hs := hsq116) (os := osq116) (COt_ok (alq8 k)) (anq116 k) (fun n x => Lbig_Int_Mul_xiy_2 k n x.1 x.2.1 x.2.2.1 x.2.2.2.1 x.2.2.2.2.1 x.2.2.2.2.2.1 x.2.2.2.2.2.2.1 x.2.2.2.2.2.2.2.1 x.2.2.2.2.2.2.2.2.1 x.2.2.2.2.2.2.2.2.2.1 x.2.2.2.2.2.2.2.2.2.2.1 x.2.2.2.2.2.2.2.2.2.2.2.1 x.2.2.2.2.2.2.2.2.2.2.2.2.1 x.2.2.2.2.2.2.2.2.2.2.2.2.2.1 x.2.2.2.2.2.2.2.2.2.2.2.2.2.2.1 x.2.2.2.2.2.2.2.2.2.2.2.2.2.2.2.1 x.2.2.2.2.2.2.2.2.2.2.2.2.2.2.2.2) (fun _ => rfl) (stq116 k)
def hsq115 : List SS := [{ fr := [(0, .a (.ptr 0 0 0)), (1, .a (.ptr 1 0 0)), (2, .a (.ptr 2 0 0)), (7, .a (.smz 3)), (29, .a (.smz 4)), (30, .a (.lf (.int .i64))), (31, .a (.lf (.int .i64)))], mem := [(0, some (.raw [[.lf .bool, .snil 1 72]] 2 98 true false)), (1, some (.raw [[.lf .bool, .snil 1 72, .lf .bool, .snil 1 72]] 4 100 true false)), (2, some (.raw [[.lf .bool, .lf (.sl (.int .u32))]] 2 98 true false)), (3, some (.arr (.int .u32) 1 72 false)), (4, some (.arr (.int .u32) 1 72 false))], nx := 5 }]
def osq115 : List OS := [⟨some 0, { fr := [(0, .a (.ptr 0 0 0)), (1, .a (.ptr 1 0 0)), (2, .a (.ptr 2 0 0)), (7, .a (.smz 3))], mem := [(0, some (.raw [[.lf .bool, .snil 1 72]] 2 98 true false)), (1, some (.raw [[.lf .bool, .snil 1 72, .lf .bool, .snil 1 72]] 4 100 true false)), (2, some (.raw [[.lf .bool, .lf (.sl (.int .u32))]] 2 98 true false)), (3, some (.arr (.int .u32) 1 72 false)), (4, some (.arr (.int .u32) 1 72 false))], nx := 5 }⟩]
def LIq115 (k : Nat) : LInst := ⟨0, hsq115, osq115, fun x => Lbig_Int_Mul_xiy_0 k k x.1 x.2.1 x.2.2.1 x.2.2.2.1 x.2.2.2.2.1 x.2.2.2.2.2.1 x.2.2.2.2.2.2.1 x.2.2.2.2.2.2.2.1 x.2.2.2.2.2.2.2.2.1 x.2.2.2.2.2.2.2.2.2.1 x.2.2.2.2.2.2.2.2.2.2⟩
theorem anq115 (k : Nat) : LAll (LOk (R := DS OS.D osq115) (fun b _ σ K => LOt Ty (kps 84) 3 b σ K [LIq116 k]) cf (call cf k) (kps 84) Try.f84.ntmps k 3) 0 (lb Try.f84 0) :=
 qA qT (qA (qA qT qT) (qA (qA qT (qA qT (qA (qA qT (LOt_ok (c := cf) (callF := call cf k) (kp := kps 84) (nt := Try.f84.ntmps) (k := k) (p := 3) (b := 2) (x0 := lb Try.f84 1) (l := [LIq116 k]) (qA (fun _ => loq116 k) qT))) qT))) qT))
theorem stq115 (k n : Nat) (x : DS SS.D hsq115) : Lbig_Int_Mul_xiy_0 k (n + 1) x.1 x.2.1 x.2.2.1 x.2.2.2.1 x.2.2.2.2.1 x.2.2.2.2.2.1 x.2.2.2.2.2.2.1 x.2.2.2.2.2.2.2.1 x.2.2.2.2.2.2.2.2.1 x.2.2.2.2.2.2.2.2.2.1 x.2.2.2.2.2.2.2.2.2.2 = encSK SS.enc (fun σ => run2 cf (fun f a b K => COt f a b K [Iq15 k]) (fun b _ σ K => LOt Ty (kps 84) 3 b σ K [LIq116 k]) Try.f84.ntmps 0 (lb Try.f84 0) σ (nextK Ty (kps 84 0) 3 hsq115 osq115 fun x => Lbig_Int_Mul_xiy_0 k n x.1 x.2.1 x.2.2.1 x.2.2.2.1 x.2.2.2.2.1 x.2.2.2.2.2.1 x.2.2.2.2.2.2.1 x.2.2.2.2.2.2.2.1 x.2.2.2.2.2.2.2.2.1 x.2.2.2.2.2.2.2.2.2.1 x.2.2.2.2.2.2.2.2.2.2)) hsq115 x := by kernel_rfl
theorem loq115 (k : Nat) : LIOk cf (call cf k) (kps 84) Try.f84.ntmps k 3 0 (lb Try.f84 0) (LIq115 k) :=
 loop_ok (c := cf) (callF := call cf k) (kp := kps 84) (nt := Try.f84.ntmps) (k := k) (p := 3) (b := 0) (x0 := lb Try.f84 0) (hs := hsq115) (os := osq115) (COt_ok (alq8 k)) (anq115 k) (fun n x => Lbig_Int_Mul_xiy_0 k n x.1 x.2.1 x.2.2.1 x.2.2.2.1 x.2.2.2.2.1 x.2.2.2.2.2.1 x.2.2.2.2.2.2.1 x.2.2.2.2.2.2.2.1 x.2.2.2.2.2.2.2.2.1 x.2.2.2.2.2.2.2.2.2.1 x.2.2.2.2.2.2.2.2.2.2) (fun _ => rfl) (stq115 k)
theorem anq8 (k : Nat) : LAll (LOk (R := DS FS.D rsq8) (fun b _ σ K => LOt Ty (kps 84) 3 b σ K [LIq116 k, LIq115 k]) cf (call cf k) (cf.keep 84) Try.f84.ntmps k shq8.bs.length) 0 (bd Try.f84) :=
 qA qT (qA qT (qA (qA qT (LOt_ok (c := cf) (callF := call cf k) (kp := kps 84) (nt := Try.f84.ntmps) (k := k) (p := 3) (b := 0) (x0 := lb Try.f84 0) (l := [LIq116 k, LIq115 k]) (qA (fun h => absurd (show (2 : Nat) = 0 from h) (by decide)) (qA (fun _ => loq115 k) qT)))) (qA qT qT)))
theorem stq8 (k : Nat) (x : shq8.D) : Fbig_Int_Mul_xiy (k + 1) x.1 x.2.1 x.2.2.1 x.2.2.2.1 x.2.2.2.2 = body2 cf (fun f a b K => COt f a b K [Iq15 k]) (fun b _ σ K => LOt Ty (kps 84) 3 b σ K [LIq116 k, LIq115 k]) 84 Try.f84.ntmps Try.f84.results.toList (bd Try.f84) (shq8.enc x).1 (shq8.enc x).2 (putS FS.dec rsq8) := by kernel_rfl
theorem okq8 : ∀ k, InstOk (call cf k) (Iq8 k)
 | 0 => fun x y e => absurd (show (none : Option _) = some y from e) (by simp)
 | k + 1 => inst_ok (c := cf) (k := k) (f := 84) (fn := Try.f84) (body := bd Try.f84) (sh := shq8) (os := rsq8) rfl Try.func84 rfl ⟨rfl, Nat.le_of_ble_eq_true rfl⟩ (COt_ok (alq8 k)) (anq8 k) (fun x => Fbig_Int_Mul_xiy (k + 1) x.1 x.2.1 x.2.2.1 x.2.2.2.1 x.2.2.2.2) (stq8 k)

/-! (*shunt/big.Rat).Denom -/
def bbig_Rat_Denom_mtp (k : Nat) (z0 : Bool) (z1 : Bool) : Option (Bool × Bool × Bool × List Int) :=
 Option.bind (Fbig_NewInt k (1 : Int)) fun r8 =>
 (some (z0, z1, r8.1, r8.2))
def Fbig_Rat_Denom_mtp : Nat → Bool → Bool → Option (Bool × Bool × Bool × List Int)
 | 0, _, _ => none
 | k + 1, z0, z1 => bbig_Rat_Denom_mtp k z0 z1
def shq25 : FS := { vs := [.a (.ptr 0 0 0)], bs := [.raw [[.lf .bool, .snil 1 72, .lf .bool, .snil 1 72]] 4 100 true false] }
def rsq25 : List FS := [{ vs := [.a (.ptr 1 0 0)], bs := [.raw [[.lf .bool, .snil 1 72, .lf .bool, .snil 1 72]] 4 100 true false, .raw [[.lf .bool, .lf (.sl (.int .u32))]] 2 98 true false] }]
def Iq25 (k : Nat) : Inst := ⟨85, shq25, rsq25, fun x => Fbig_Rat_Denom_mtp k x.1 x.2⟩
theorem alq25 (k : Nat) : AllI (call cf k) [Iq18 k] := qA (okq18 k) qT
theorem anq25 (k : Nat) : LAll (LOk (R := DS FS.D rsq25) (fun b _ σ K => LOt Ty (kps 85) 1 b σ K []) cf (call cf k) (cf.keep 85) Try.f85.ntmps k shq25.bs.length) 0 (bd Try.f85) :=
 qA qT (qA (qA qT (qA (qA qT qT) qT)) (qA qT qT))
theorem stq25 (k : Nat) (x : shq25.D) : Fbig_Rat_Denom_mtp (k + 1) x.1 x.2 = body2 cf (fun f a b K => COt f a b K [Iq18 k]) (fun b _ σ K => LOt Ty (kps 85) 1 b σ K []) 85 Try.f85.ntmps Try.f85.results.toList (bd Try.f85) (shq25.enc x).1 (shq25.enc x).2 (putS FS.dec rsq25) := by kernel_rfl
theorem okq25 : ∀ k, InstOk (call cf k) (Iq25 k)
 | 0 => fun x y e => absurd (show (none : Option _) = some y from e) (by simp)
 | k + 1 => inst_ok (c := cf) (k := k) (f := 85) (fn := Try.f85) (body := bd Try.f85) (sh := shq25) (os := rsq25) rfl Try.func85 rfl ⟨rfl, Nat.le_of_ble_eq_true rfl⟩ (COt_ok (alq25 k)) (anq25 k) (fun x => Fbig_Rat_Denom_mtp (k + 1) x.1 x.2) (stq25 k)

/-! (*shunt/big.Rat).Add -/
def bbig_Rat_Add_hqv (k : Nat) (x0 : Bool) (x1 : Bool) (y0 : Bool) (y1 : List Int) (y2 : Bool) (y3 : List Int) : Option (Bool × List Int × Bool × List Int × Bool × List Int × Bool × List Int) :=
 Option.bind (Fbig_Rat_Denom_plq k y0 y1 y2 y3) fun r6 =>
 Option.bind (Fbig_Int_Mul_xiy k false x0 x1 r6.2.2.2.2.1 r6.2.2.2.2.2) fun r7 =>
 Option.bind (Fbig_Rat_Denom_mtp k r7.2.2.1 r7.2.2.2.1) fun r8 =>
 Option.bind (Fbig_Int_Mul_uoe k false r6.1 r6.2.1 r6.2.2.1 r6.2.2.2.1 r8.2.2.1 r8.2.2.2) fun r9 =>
 Option.bind (Fbig_Rat_Denom_mtp k r8.1 r8.2.1) fun r10 =>
 Option.bind (Fbig_Rat_Denom_plq k r9.2.2.1 r9.2.2.2.1 r9.2.2.2.2.1 r9.2.2.2.2.2.1) fun r11 =>
 Option.bind (Fbig_Int_Mul_gsh k false r10.2.2.1 r10.2.2.2 r11.2.2.2.2.1 r11.2.2.2.2.2) fun r12 =>
 Option.bind (Fbig_Int_Add_jod k r7.1 r7.2.1 r9.1 r9.2.1) fun r13 =>
 Option.bind (Fbig_Rat_frac_xda k r10.1 r10.2.1 r13.1 r13.2.1 r12.1 r12.2.1) fun r14 =>
 (some (r14.1, r14.2.1, r14.2.2.1, r14.2.2.2.1, r11.1, r11.2.1, r11.2.2.1, r11.2.2.2.1))
def Fbig_Rat_Add_hqv : Nat → Bool → Bool → Bool → List Int → Bool → List Int → Option (Bool × List Int × Bool × List Int × Bool × List Int × Bool × List Int)
 | 0, _, _, _, _, _, _ => none
 | k + 1, x0, x1, y0, y1, y2, y3 => bbig_Rat_Add_hqv k x0 x1 y0 y1 y2 y3
def shq22 : FS := { vs := [.a (.ptr 0 0 0), .a (.ptr 0 0 0), .a (.ptr 1 0 0)], bs := [.raw [[.lf .bool, .snil 1 72, .lf .bool, .snil 1 72]] 4 100 true false, .raw [[.lf .bool, .lf (.sl (.int .u32)), .lf .bool, .lf (.sl (.int .u32))]] 4 100 true false] }
def rsq22 : List FS := [{ vs := [.a (.ptr 0 0 0)], bs := [.raw [[.lf .bool, .lf (.sl (.int .u32)), .lf .bool, .lf (.sl (.int .u32))]] 4 100 true false, .raw [[.lf .bool, .lf (.sl (.int .u32)), .lf .bool, .lf (.sl (.int .u32))]] 4 100 true false] }]
def Iq22 (k : Nat) : Inst := ⟨63, shq22, rsq22, fun x => Fbig_Rat_Add_hqv k x.1 x.2.1 x.2.2.1 x.2.2.2.1 x.2.2.2.2.1 x.2.2.2.2.2⟩
theorem alq22 (k : Nat) : AllI (call cf k) [Iq26 k, Iq8 k, Iq25 k, Iq7 k, Iq4 k, Iq2 k, Iq34 k] := qA (okq26 k) (qA (okq8 k) (qA (okq25 k) (qA (okq7 k) (qA (okq4 k) (qA (okq2 k) (qA (okq34 k) qT))))))
theorem anq22 (k : Nat) : LAll (LOk (R := DS FS.D rsq22) (fun b _ σ K => LOt Ty (kps 63) 2 b σ K []) cf (call cf k) (cf.keep 63) Try.f63.ntmps k shq22.bs.length) 0 (bd Try.f63) :=
 qA qT (qA qT (qA qT (qA qT (qA qT (qA qT qT)))))
theorem stq22 (k : Nat) (x : shq22.D) : Fbig_Rat_Add_hqv (k + 1) x.1 x.2.1 x.2.2.1 x.2.2.2.1 x.2.2.2.2.1 x.2.2.2.2.2 = body2 cf (fun f a b K => COt f a b K [Iq26 k, Iq8 k, Iq25 k, Iq7 k, Iq4 k, Iq2 k, Iq34 k]) (fun b _ σ K => LOt Ty (kps 63) 2 b σ K []) 63 Try.f63.ntmps Try.f63.results.toList (bd Try.f63) (shq22.enc x).1 (shq22.enc x).2 (putS FS.dec rsq22) := by kernel_rfl
theorem okq22 : ∀ k, InstOk (call cf k) (Iq22 k)
 | 0 => fun x y e => absurd (show (none : Option _) = some y from e) (by simp)
 | k + 1 => inst_ok (c := cf) (k := k) (f := 63) (fn := Try.f63) (body := bd Try.f63) (sh := shq22) (os := rsq22) rfl Try.func63 rfl ⟨rfl, Nat.le_of_ble_eq_true rfl⟩ (COt_ok (alq22 k)) (anq22 k) (fun x => Fbig_Rat_Add_hqv (k + 1) x.1 x.2.1 x.2.2.1 x.2.2.2.1 x.2.2.2.2.1 x.2.2.2.2.2) (stq22 k)

/-! (*shunt/big.Rat).Num -/
def bbig_Rat_Num_mtp (k : Nat) (z0 : Bool) (z1 : Bool) : Option (Bool × Bool × Bool × List Int) :=
 Option.bind (Fbig_Of k z0 []) fun r4 =>
 (some (z0, z1, r4.1, r4.2))
def Fbig_Rat_Num_mtp : Nat → Bool → Bool → Option (Bool × Bool × Bool × List Int)
 | 0, _, _ => none
 | k + 1, z0, z1 => bbig_Rat_Num_mtp k z0 z1
def shq30 : FS := { vs := [.a (.ptr 0 0 0)], bs := [.raw [[.lf .bool, .snil 1 72, .lf .bool, .snil 1 72]] 4 100 true false] }
def rsq30 : List FS := [{ vs := [.a (.ptr 1 0 0)], bs := [.raw [[.lf .bool, .snil 1 72, .lf .bool, .snil 1 72]] 4 100 true false, .raw [[.lf .bool, .lf (.sl (.int .u32))]] 2 98 true false] }]
def Iq30 (k : Nat) : Inst := ⟨91, shq30, rsq30, fun x => Fbig_Rat_Num_mtp k x.1 x.2⟩
theorem alq30 (k : Nat) : AllI (call cf k) [Iq20 k] := qA (okq20 k) qT
theorem anq30 (k : Nat) : LAll (LOk (R := DS FS.D rsq30) (fun b _ σ K => LOt Ty (kps 91) 1 b σ K []) cf (call cf k) (cf.keep 91) Try.f91.ntmps k shq30.bs.length) 0 (bd Try.f91) :=
 qA qT (qA qT qT)
theorem stq30 (k : Nat) (x : shq30.D) : Fbig_Rat_Num_mtp (k + 1) x.1 x.2 = body2 cf (fun f a b K => COt f a b K [Iq20 k]) (fun b _ σ K => LOt Ty (kps 91) 1 b σ K []) 91 Try.f91.ntmps Try.f91.results.toList (bd Try.f91) (shq30.enc x).1 (shq30.enc x).2 (putS FS.dec rsq30) := by kernel_rfl
theorem okq30 : ∀ k, InstOk (call cf k) (Iq30 k)
 | 0 => fun x y e => absurd (show (none : Option _) = some y from e) (by simp)
 | k + 1 => inst_ok (c := cf) (k := k) (f := 91) (fn := Try.f91) (body := bd Try.f91) (sh := shq30) (os := rsq30) rfl Try.func91 rfl ⟨rfl, Nat.le_of_ble_eq_true rfl⟩ (COt_ok (alq30 k)) (anq30 k) (fun x => Fbig_Rat_Num_mtp (k + 1) x.1 x.2) (stq30 k)

/-! shunt/wide.Frac -/
def bwide_Frac_mtp (k : Nat) (z0 : Bool) (z1 : Bool) : Option (Bool × List Int × Bool × List Int × Bool × Bool) :=
 Option.bind (Fbig_Rat_Num_mtp k z0 z1) fun r4 =>
 Option.bind (Fwide_Give_awf k r4.2.2.1 r4.2.2.2) fun r5 =>
 Option.bind (Fbig_Rat_Denom_mtp k r4.1 r4.2.1) fun r6 =>
 Option.bind (Fwide_Give_awf k r6.2.2.1 r6.2.2.2) fun r7 =>
 if ((0 + r5.2.1) ≤ (List.length r5.2.2.2.2)) then
 if ((0 + r7.2.1) ≤ (List.length r7.2.2.2.2)) then
 (some (r5.1, (List.take r5.2.1 r5.2.2.2.2), r7.1, (List.take r7.2.1 r7.2.2.2.2), r6.1, r6.2.1))
 else
 none
 else
 none
def Fwide_Frac_mtp : Nat → Bool → Bool → Option (Bool × List Int × Bool × List Int × Bool × Bool)
 | 0, _, _ => none
 | k + 1, z0, z1 => bwide_Frac_mtp k z0 z1
def shq101 : FS := { vs := [.a (.ptr 0 0 0)], bs := [.raw [[.lf .bool, .snil 1 72, .lf .bool, .snil 1 72]] 4 100 true false] }
def rsq101 : List FS := [{ vs := [.g [.lf .bool, .lf (.sl (.int .u32)), .lf .bool, .lf (.sl (.int .u32))]], bs := [.raw [[.lf .bool, .snil 1 72, .lf .bool, .snil 1 72]] 4 100 true false] }]
def Iq101 (k : Nat) : Inst := ⟨57, shq101, rsq101, fun x => Fwide_Frac_mtp k x.1 x.2⟩
theorem alq101 (k : Nat) : AllI (call cf k) [Iq30 k, Iq103 k, Iq25 k] := qA (okq30 k) (qA (okq103 k) (qA (okq25 k) qT))
theorem anq101 (k : Nat) : LAll (LOk (R := DS FS.D rsq101) (fun b _ σ K => LOt Ty (kps 57) 1 b σ K []) cf (call cf k) (cf.keep 57) Try.f57.ntmps k shq101.bs.length) 0 (bd Try.f57) :=
 qA qT (qA qT qT)
theorem stq101 (k : Nat) (x : shq101.D) : Fwide_Frac_mtp (k + 1) x.1 x.2 = body2 cf (fun f a b K => COt f a b K [Iq30 k, Iq103 k, Iq25 k]) (fun b _ σ K => LOt Ty (kps 57) 1 b σ K []) 57 Try.f57.ntmps Try.f57.results.toList (bd Try.f57) (shq101.enc x).1 (shq101.enc x).2 (putS FS.dec rsq101) := by kernel_rfl
theorem okq101 : ∀ k, InstOk (call cf k) (Iq101 k)
 | 0 => fun x y e => absurd (show (none : Option _) = some y from e) (by simp)
 | k + 1 => inst_ok (c := cf) (k := k) (f := 57) (fn := Try.f57) (body := bd Try.f57) (sh := shq101) (os := rsq101) rfl Try.func57 rfl ⟨rfl, Nat.le_of_ble_eq_true rfl⟩ (COt_ok (alq101 k)) (anq101 k) (fun x => Fwide_Frac_mtp (k + 1) x.1 x.2) (stq101 k)

/-! shunt/model.Part -/
def Lmodel_Part_0s (k : Nat) (rec : ((Int × Int × ByteArray × Int × List (Int × Int) × List (Int × Int) × Bool × Nat × Bool × Nat × Bool × Nat × Bool × Nat × Bool × Bool × List Int × List Int × List Int × List Int) ⊕ (Int × Int × ByteArray × Int × List (Int × Int) × List (Int × Int) × Bool × Nat × Bool × Nat × Bool × Nat × Bool × Nat × Bool × List Int × Bool × List Int × List Int × List Int × List Int × List Int)) → Option ((Int × ByteArray × Int × List (Int × Int) × List (Int × Int) × Bool × Nat × Bool × Nat × Bool × Nat × Bool × Nat × Bool × Bool × List Int × List Int × List Int × List Int) ⊕ (Int × ByteArray × Int × List (Int × Int) × List (Int × Int) × Bool × Nat × Bool × Nat × Bool × Nat × Bool × Nat × Bool × List Int × Bool × List Int × List Int × List Int × List Int × List Int))) (x : (Int × Int × ByteArray × Int × List (Int × Int) × List (Int × Int) × Bool × Nat × Bool × Nat × Bool × Nat × Bool × Nat × Bool × Bool × List Int × List Int × List Int × List Int) ⊕ (Int × Int × ByteArray × Int × List (Int × Int) × List (Int × Int) × Bool × Nat × Bool × Nat × Bool × Nat × Bool × Nat × Bool × List Int × Bool × List Int × List Int × List Int × List Int × List Int)) : Option ((Int × ByteArray × Int × List (Int × Int) × List (Int × Int) × Bool × Nat × Bool × Nat × Bool × Nat × Bool × Nat × Bool × Bool × List Int × List Int × List Int × List Int) ⊕ (Int × ByteArray × Int × List (Int × Int) × List (Int × Int) × Bool × Nat × Bool × Nat × Bool × Nat × Bool × Nat × Bool × List Int × Bool × List Int × List Int × List Int × List Int × List Int)) :=
 eitherK x
 (fun x =>
 if ((decide (x.2.1 < x.1)) = true) then
 if ((x.2.2.2.1 == (100 : Int)) = true) then
 if ((0 : Int) ≤ x.2.1) then
 Option.bind (x.2.2.2.2.1)[(Int.toNat x.2.1)]? fun x1 =>
 Option.bind (Fmodel_value k x1.1 x1.2) fun r1 =>
 if ((0 : Int) ≤ (IntKind.wrap .i64 (x.2.1 + (1 : Int)))) then
 Option.bind (x.2.2.2.2.1)[(Int.toNat (IntKind.wrap .i64 (x.2.1 + (1 : Int))))]? fun x2 =>
 Option.bind (Fmodel_value k x2.1 x2.2) fun r2 =>
 Option.bind (Fbig_Rat_Sub_cwi k false false r1.1 r1.2.1 r1.2.2.1 r1.2.2.2 r2.1 r2.2.1 r2.2.2.1 r2.2.2.2) fun r3 =>
 Option.bind (Fmodel_knot k x.2.2.1 x.2.2.2.1 x.2.2.2.2.1 x.2.2.2.2.2.1 x.2.1) fun r4 =>
 Option.bind (Fbig_Rat_Mul_wqk k r3.1 r3.2.1 r3.2.2.1 r3.2.2.2.1 r4.1 r4.2.1 r4.2.2.1 r4.2.2.2) fun r5 =>
 Option.bind (Fbig_Rat_Add_hqv k x.2.2.2.2.2.2.2.2.2.2.2.2.2.2.1 x.2.2.2.2.2.2.2.2.2.2.2.2.2.2.2.1 r5.1 r5.2.1 r5.2.2.1 r5.2.2.2.1) fun r6 =>
 rec (Sum.inr (x.1, (IntKind.wrap .i64 (x.2.1 + (1 : Int))), x.2.2.1, x.2.2.2.1, x.2.2.2.2.1, x.2.2.2.2.2.1, x.2.2.2.2.2.2.1, x.2.2.2.2.2.2.2.1, x.2.2.2.2.2.2.2.2.1, x.2.2.2.2.2.2.2.2.2.1, x.2.2.2.2.2.2.2.2.2.2.1, x.2.2.2.2.2.2.2.2.2.2.2.1, x.2.2.2.2.2.2.2.2.2.2.2.2.1, x.2.2.2.2.2.2.2.2.2.2.2.2.2.1, r6.1, r6.2.1, r6.2.2.1, r6.2.2.2.1, x.2.2.2.2.2.2.2.2.2.2.2.2.2.2.2.2.1, x.2.2.2.2.2.2.2.2.2.2.2.2.2.2.2.2.2.1, x.2.2.2.2.2.2.2.2.2.2.2.2.2.2.2.2.2.2.1, x.2.2.2.2.2.2.2.2.2.2.2.2.2.2.2.2.2.2.2))
 else
 none
 else
 none
 else
 (some (Sum.inl (x.1, x.2.2.1, x.2.2.2.1, x.2.2.2.2.1, x.2.2.2.2.2.1, x.2.2.2.2.2.2.1, x.2.2.2.2.2.2.2.1, x.2.2.2.2.2.2.2.2.1, x.2.2.2.2.2.2.2.2.2.1, x.2.2.2.2.2.2.2.2.2.2.1, x.2.2.2.2.2.2.2.2.2.2.2.1, x.2.2.2.2.2.2.2.2.2.2.2.2.1, x.2.2.2.2.2.2.2.2.2.2.2.2.2.1, x.2.2.2.2.2.2.2.2.2.2.2.2.2.2.1, x.2.2.2.2.2.2.2.2.2.2.2.2.2.2.2.1, x.2.2.2.2.2.2.2.2.2.2.2.2.2.2.2.2.1, x.2.2.2.2.2.2.2.2.2.2.2.2.2.2.2.2.2.1, x.2.2.2.2.2.2.2.2.2.2.2.2.2.2.2.2.2.2.1, x.2.2.2.2.2.2.2.2.2.2.2.2.2.2.2.2.2.2.2)))
 else
 (some (Sum.inl (x.1, x.2.2.1, x.2.2.2.1, x.2.2.2.2.1, x.2.2.2.2.2.1, x.2.2.2.2.2.2.1, x.2.2.2.2.2.2.2.1, x.2.2.2.2.2.2.2.2.1, x.2.2.2.2.2.2.2.2.2.1, x.2.2.2.2.2.2.2.2.2.2.1, x.2.2.2.2.2.2.2.2.2.2.2.1, x.2.2.2.2.2.2.2.2.2.2.2.2.1, x.2.2.2.2.2.2.2.2.2.2.2.2.2.1, x.2.2.2.2.2.2.2.2.2.2.2.2.2.2.1, x.2.2.2.2.2.2.2.2.2.2.2.2.2.2.2.1, x.2.2.2.2.2.2.2.2.2.2.2.2.2.2.2.2.1, x.2.2.2.2.2.2.2.2.2.2.2.2.2.2.2.2.2.1, x.2.2.2.2.2.2.2.2.2.2.2.2.2.2.2.2.2.2.1, x.2.2.2.2.2.2.2.2.2.2.2.2.2.2.2.2.2.2.2))))
 (fun x =>
 if ((decide (x.2.1 < x.1)) = true) then
 if ((x.2.2.2.1 == (100 : Int)) = true) then
 if ((0 : Int) ≤ x.2.1) then
 Option.bind (x.2.2.2.2.1)[(Int.toNat x.2.1)]? fun x1 =>
 Option.bind (Fmodel_value k x1.1 x1.2) fun r1 =>
 if ((0 : Int) ≤ (IntKind.wrap .i64 (x.2.1 + (1 : Int)))) then
 Option.bind (x.2.2.2.2.1)[(Int.toNat (IntKind.wrap .i64 (x.2.1 + (1 : Int))))]? fun x2 =>
 Option.bind (Fmodel_value k x2.1 x2.2) fun r2 =>
 Option.bind (Fbig_Rat_Sub_cwi k false false r1.1 r1.2.1 r1.2.2.1 r1.2.2.2 r2.1 r2.2.1 r2.2.2.1 r2.2.2.2) fun r3 =>
 Option.bind (Fmodel_knot k x.2.2.1 x.2.2.2.1 x.2.2.2.2.1 x.2.2.2.2.2.1 x.2.1) fun r4 =>
 Option.bind (Fbig_Rat_Mul_wqk k r3.1 r3.2.1 r3.2.2.1 r3.2.2.2.1 r4.1 r4.2.1 r4.2.2.1 r4.2.2.2) fun r5 =>
 Option.bind (Fbig_Rat_Add_wqk k x.2.2.2.2.2.2.2.2.2.2.2.2.2.2.1 x.2.2.2.2.2.2.2.2.2.2.2.2.2.2.2.1 x.2.2.2.2.2.2.2.2.2.2.2.2.2.2.2.2.1 x.2.2.2.2.2.2.2.2.2.2.2.2.2.2.2.2.2.1 r5.1 r5.2.1 r5.2.2.1 r5.2.2.2.1) fun r6 =>
 rec (Sum.inr (x.1, (IntKind.wrap .i64 (x.2.1 + (1 : Int))), x.2.2.1, x.2.2.2.1, x.2.2.2.2.1, x.2.2.2.2.2.1, x.2.2.2.2.2.2.1, x.2.2.2.2.2.2.2.1, x.2.2.2.2.2.2.2.2.1, x.2.2.2.2.2.2.2.2.2.1, x.2.2.2.2.2.2.2.2.2.2.1, x.2.2.2.2.2.2.2.2.2.2.2.1, x.2.2.2.2.2.2.2.2.2.2.2.2.1, x.2.2.2.2.2.2.2.2.2.2.2.2.2.1, r6.1, r6.2.1, r6.2.2.1, r6.2.2.2.1, x.2.2.2.2.2.2.2.2.2.2.2.2.2.2.2.2.2.2.1, x.2.2.2.2.2.2.2.2.2.2.2.2.2.2.2.2.2.2.2.1, x.2.2.2.2.2.2.2.2.2.2.2.2.2.2.2.2.2.2.2.2.1, x.2.2.2.2.2.2.2.2.2.2.2.2.2.2.2.2.2.2.2.2.2))
 else
 none
 else
 none
 else
 (some (Sum.inr (x.1, x.2.2.1, x.2.2.2.1, x.2.2.2.2.1, x.2.2.2.2.2.1, x.2.2.2.2.2.2.1, x.2.2.2.2.2.2.2.1, x.2.2.2.2.2.2.2.2.1, x.2.2.2.2.2.2.2.2.2.1, x.2.2.2.2.2.2.2.2.2.2.1, x.2.2.2.2.2.2.2.2.2.2.2.1, x.2.2.2.2.2.2.2.2.2.2.2.2.1, x.2.2.2.2.2.2.2.2.2.2.2.2.2.1, x.2.2.2.2.2.2.2.2.2.2.2.2.2.2.1, x.2.2.2.2.2.2.2.2.2.2.2.2.2.2.2.1, x.2.2.2.2.2.2.2.2.2.2.2.2.2.2.2.2.1, x.2.2.2.2.2.2.2.2.2.2.2.2.2.2.2.2.2.1, x.2.2.2.2.2.2.2.2.2.2.2.2.2.2.2.2.2.2.1, x.2.2.2.2.2.2.2.2.2.2.2.2.2.2.2.2.2.2.2.1, x.2.2.2.2.2.2.2.2.2.2.2.2.2.2.2.2.2.2.2.2.1, x.2.2.2.2.2.2.2.2.2.2.2.2.2.2.2.2.2.2.2.2.2)))
 else
 (some (Sum.inr (x.1, x.2.2.1, x.2.2.2.1, x.2.2.2.2.1, x.2.2.2.2.2.1, x.2.2.2.2.2.2.1, x.2.2.2.2.2.2.2.1, x.2.2.2.2.2.2.2.2.1, x.2.2.2.2.2.2.2.2.2.1, x.2.2.2.2.2.2.2.2.2.2.1, x.2.2.2.2.2.2.2.2.2.2.2.1, x.2.2.2.2.2.2.2.2.2.2.2.2.1, x.2.2.2.2.2.2.2.2.2.2.2.2.2.1, x.2.2.2.2.2.2.2.2.2.2.2.2.2.2.1, x.2.2.2.2.2.2.2.2.2.2.2.2.2.2.2.1, x.2.2.2.2.2.2.2.2.2.2.2.2.2.2.2.2.1, x.2.2.2.2.2.2.2.2.2.2.2.2.2.2.2.2.2.1, x.2.2.2.2.2.2.2.2.2.2.2.2.2.2.2.2.2.2.1, x.2.2.2.2.2.2.2.2.2.2.2.2.2.2.2.2.2.2.2.1, x.2.2.2.2.2.2.2.2.2.2.2.2.2.2.2.2.2.2.2.2.1, x.2.2.2.2.2.2.2.2.2.2.2.2.2.2.2.2.2.2.2.2.2))))
def Lmodel_Part_0 (k n : Nat) : ((Int × Int × ByteArray × Int × List (Int × Int) × List (Int × Int) × Bool × Nat × Bool × Nat × Bool × Nat × Bool × Nat × Bool × Bool × List Int × List Int × List Int × List Int) ⊕ (Int × Int × ByteArray × Int × List (Int × Int) × List (Int × Int) × Bool × Nat × Bool × Nat × Bool × Nat × Bool × Nat × Bool × List Int × Bool × List Int × List Int × List Int × List Int × List Int)) → Option ((Int × ByteArray × Int × List (Int × Int) × List (Int × Int) × Bool × Nat × Bool × Nat × Bool × Nat × Bool × Nat × Bool × Bool × List Int × List Int × List Int × List Int) ⊕ (Int × ByteArray × Int × List (Int × Int) × List (Int × Int) × Bool × Nat × Bool × Nat × Bool × Nat × Bool × Nat × Bool × List Int × Bool × List Int × List Int × List Int × List Int × List Int)) := Nat.rec (fun _ => none) (fun _ r => Lmodel_Part_0s k r) n
def bmodel_Part (k : Nat) (m0 : ByteArray) (m1 : Int) (m2 : List (Int × Int)) (m3 : List (Int × Int)) (k1 : Int) : Option (Bool × List Int × Bool × List Int × Bool × List Int × Bool × List Int × Int) :=
 Option.bind (Fmodel_check k m0 m1 m2 m3 k1) fun r =>
 if ((r != (0 : Int)) = true) then
 (some (false, [], false, [], false, [], false, [], r))
 else
 Option.bind (Lmodel_Part_0 k k (Sum.inl (k1, (0 : Int), m0, m1, m2, m3, false, 0, false, 0, false, 0, false, 0, false, false, [], [], [], []))) fun r1 =>
 eitherK r1
 (fun r1 =>
 if ((0 : Int) ≤ r1.1) then
 Option.bind (r1.2.2.2.1)[(Int.toNat r1.1)]? fun x =>
 Option.bind (Fmodel_value k x.1 x.2) fun r2 =>
 Option.bind (Fwide_Frac_plq k r2.1 r2.2.1 r2.2.2.1 r2.2.2.2) fun r3 =>
 Option.bind (Fwide_Frac_mtp k r1.2.2.2.2.2.2.2.2.2.2.2.2.2.1 r1.2.2.2.2.2.2.2.2.2.2.2.2.2.2.1) fun r4 =>
 (some (r3.1, r3.2.1, r3.2.2.1, r3.2.2.2.1, r4.1, r4.2.1, r4.2.2.1, r4.2.2.2.1, (0 : Int)))
 else
 none)
 (fun r1 =>
 if ((0 : Int) ≤ r1.1) then
 Option.bind (r1.2.2.2.1)[(Int.toNat r1.1)]? fun x =>
 Option.bind (Fmodel_value k x.1 x.2) fun r2 =>
 Option.bind (Fwide_Frac_plq k r2.1 r2.2.1 r2.2.2.1 r2.2.2.2) fun r3 =>
 Option.bind (Fwide_Frac_plq k r1.2.2.2.2.2.2.2.2.2.2.2.2.2.1 r1.2.2.2.2.2.2.2.2.2.2.2.2.2.2.1 r1.2.2.2.2.2.2.2.2.2.2.2.2.2.2.2.1 r1.2.2.2.2.2.2.2.2.2.2.2.2.2.2.2.2.1) fun r4 =>
 (some (r3.1, r3.2.1, r3.2.2.1, r3.2.2.2.1, r4.1, r4.2.1, r4.2.2.1, r4.2.2.2.1, (0 : Int)))
 else
 none)
def Fmodel_Part : Nat → ByteArray → Int → List (Int × Int) → List (Int × Int) → Int → Option (Bool × List Int × Bool × List Int × Bool × List Int × Bool × List Int × Int)
 | 0, _, _, _, _, _ => none
 | k + 1, m0, m1, m2, m3, k1 => bmodel_Part k m0 m1 m2 m3 k1
def shq53 : FS := { vs := [.g [.lf .str, .lf (.int .u8), .lf (.sl (.pr (.int .i64) (.int .i64))), .lf (.sl (.pr (.int .i64) (.int .i64)))], .a (.lf (.int .i64))], bs := [] }
def rsq53 : List FS := [{ vs := [.g [.lf .bool, .lf (.sl (.int .u32)), .lf .bool, .lf (.sl (.int .u32))], .g [.lf .bool, .lf (.sl (.int .u32)), .lf .bool, .lf (.sl (.int .u32))], .a (.lf (.int .i64))], bs := [] }]
def Iq53 (k : Nat) : Inst := ⟨27, shq53, rsq53, fun x => Fmodel_Part k x.1 x.2.1 x.2.2.1 x.2.2.2.1 x.2.2.2.2⟩
theorem alq53 (k : Nat) : AllI (call cf k) [Iq56 k, Iq58 k, Iq32 k, Iq57 k, Iq28 k, Iq22 k, Iq23 k, Iq102 k, Iq101 k] := qA (okq56 k) (qA (okq58 k) (qA (okq32 k) (qA (okq57 k) (qA (okq28 k) (qA (okq22 k) (qA (okq23 k) (qA (okq102 k) (qA (okq101 k) qT))))))))
def hsq135 : List SS := [{ fr := [(1, .a (.lf (.int .i64))), (2, .a (.ptr 0 0 0)), (4, .a (.ptr 1 0 0)), (5, .a (.ptr 2 0 0)), (8, .a (.ptr 3 0 0)), (9, .a (.lf (.int .i64)))], mem := [(0, some (.raw [[.lf .str, .lf (.int .u8), .lf (.sl (.pr (.int .i64) (.int .i64))), .lf (.sl (.pr (.int .i64) (.int .i64)))]] 4 24 true false)), (1, some (.raw [[.lf .bool, .smz 4, .lf .bool, .smz 5]] 4 29 false false)), (2, some (.raw [[.lf .bool, .smz 6, .lf .bool, .smz 7]] 4 29 false false)), (3, some (.raw [[.lf .bool, .snil 1 72, .lf .bool, .snil 1 72]] 4 100 true false)), (4, some (.arr (.int .u32) 1 72 false)), (5, some (.arr (.int .u32) 1 72 false)), (6, some (.arr (.int .u32) 1 72 false)), (7, some (.arr (.int .u32) 1 72 false))], nx := 8 }, { fr := [(1, .a (.lf (.int .i64))), (2, .a (.ptr 0 0 0)), (4, .a (.ptr 1 0 0)), (5, .a (.ptr 2 0 0)), (8, .a (.ptr 3 0 0)), (9, .a (.lf (.int .i64)))], mem := [(0, some (.raw [[.lf .str, .lf (.int .u8), .lf (.sl (.pr (.int .i64) (.int .i64))), .lf (.sl (.pr (.int .i64) (.int .i64)))]] 4 24 true false)), (1, some (.raw [[.lf .bool, .smz 4, .lf .bool, .smz 5]] 4 29 false false)), (2, some (.raw [[.lf .bool, .smz 6, .lf .bool, .smz 7]] 4 29 false false)), (3, some (.raw [[.lf .bool, .lf (.sl (.int .u32)), .lf .bool, .lf (.sl (.int .u32))]] 4 100 true false)), (4, some (.arr (.int .u32) 1 72 false)), (5, some (.arr (.int .u32) 1 72 false)), (6, some (.arr (.int .u32) 1 72 false)), (7, some (.arr (.int .u32) 1 72 false))], nx := 8 }]
def osq135 : List OS := [⟨some 0, { fr := [(1, .a (.lf (.int .i64))), (2, .a (.ptr 0 0 0)), (4, .a (.ptr 1 0 0)), (5, .a (.ptr 2 0 0)), (8, .a (.ptr 3 0 0))], mem := [(0, some (.raw [[.lf .str, .lf (.int .u8), .lf (.sl (.pr (.int .i64) (.int .i64))), .lf (.sl (.pr (.int .i64) (.int .i64)))]] 4 24 true false)), (1, some (.raw [[.lf .bool, .smz 4, .lf .bool, .smz 5]] 4 29 false false)), (2, some (.raw [[.lf .bool, .smz 6, .lf .bool, .smz 7]] 4 29 false false)), (3, some (.raw [[.lf .bool, .snil 1 72, .lf .bool, .snil 1 72]] 4 100 true false)), (4, some (.arr (.int .u32) 1 72 false)), (5, some (.arr (.int .u32) 1 72 false)), (6, some (.arr (.int .u32) 1 72 false)), (7, some (.arr (.int .u32) 1 72 false))], nx := 8 }⟩, ⟨some 0, { fr := [(1, .a (.lf (.int .i64))), (2, .a (.ptr 0 0 0)), (4, .a (.ptr 1 0 0)), (5, .a (.ptr 2 0 0)), (8, .a (.ptr 3 0 0))], mem := [(0, some (.raw [[.lf .str, .lf (.int .u8), .lf (.sl (.pr (.int .i64) (.int .i64))), .lf (.sl (.pr (.int .i64) (.int .i64)))]] 4 24 true false)), (1, some (.raw [[.lf .bool, .smz 4, .lf .bool, .smz 5]] 4 29 false false)), (2, some (.raw [[.lf .bool, .smz 6, .lf .bool, .smz 7]] 4 29 false false)), (3, some (.raw [[.lf .bool, .lf (.sl (.int .u32)), .lf .bool, .lf (.sl (.int .u32))]] 4 100 true false)), (4, some (.arr (.int .u32) 1 72 false)), (5, some (.arr (.int .u32) 1 72 false)), (6, some (.arr (.int .u32) 1 72 false)), (7, some (.arr (.int .u32) 1 72 false))], nx := 8 }⟩]
def LIq135 (k : Nat) : LInst := ⟨0, hsq135, osq135, fun x => Lmodel_Part_0 k k x⟩
theorem anq135 (k : Nat) : LAll (LOk (R := DS OS.D osq135) (fun b _ σ K => LOt Ty (kps 27) 0 b σ K []) cf (call cf k) (kps 27) Try.f27.ntmps k 0) 0 (lb Try.f27 0) :=
 qA (qA qT (qA qT qT)) (qA (qA qT qT) qT)
theorem stq135 (k n : Nat) (x : DS SS.D hsq135) : Lmodel_Part_0 k (n + 1) x = encSK SS.enc (fun σ => run2 cf (fun f a b K => COt f a b K [Iq56 k, Iq58 k, Iq32 k, Iq57 k, Iq28 k, Iq22 k, Iq23 k, Iq102 k, Iq101 k]) (fun b _ σ K => LOt Ty (kps 27) 0 b σ K []) Try.f27.ntmps 0 (lb Try.f27 0) σ (nextK Ty (kps 27 0) 0 hsq135 osq135 fun x => Lmodel_Part_0 k n x)) hsq135 x := by kernel_rfl
theorem loq135 (k : Nat) : LIOk cf (call cf k) (kps 27) Try.f27.ntmps k 0 0 (lb Try.f27 0) (LIq135 k) :=
 loop_ok (c := cf) (callF := call cf k) (kp := kps 27) (nt := Try.f27.ntmps) (k := k) (p := 0) (b := 0) (x0 := lb Try.f27 0) (hs := hsq135) (os := osq135) (COt_ok (alq53 k)) (anq135 k) (fun n x => Lmodel_Part_0 k n x) (fun _ => rfl) (stq135 k)
theorem anq53 (k : Nat) : LAll (LOk (R := DS FS.D rsq53) (fun b _ σ K => LOt Ty (kps 27) 0 b σ K [LIq135 k]) cf (call cf k) (cf.keep 27) Try.f27.ntmps k shq53.bs.length) 0 (bd Try.f27) :=
 qA qT (qA (qA qT (qA qT (qA (qA qT qT) qT))) (qA qT (qA (qA qT (LOt_ok (c := cf) (callF := call cf k) (kp := kps 27) (nt := Try.f27.ntmps) (k := k) (p := 0) (b := 0) (x0 := lb Try.f27 0) (l := [LIq135 k]) (qA (fun _ => loq135 k) qT))) (qA qT qT))))
theorem stq53 (k : Nat) (x : shq53.D) : Fmodel_Part (k + 1) x.1 x.2.1 x.2.2.1 x.2.2.2.1 x.2.2.2.2 = body2 cf (fun f a b K => COt f a b K [Iq56 k, Iq58 k, Iq32 k, Iq57 k, Iq28 k, Iq22 k, Iq23 k, Iq102 k, Iq101 k]) (fun b _ σ K => LOt Ty (kps 27) 0 b σ K [LIq135 k]) 27 Try.f27.ntmps Try.f27.results.toList (bd Try.f27) (shq53.enc x).1 (shq53.enc x).2 (putS FS.dec rsq53) := by kernel_rfl
theorem okq53 : ∀ k, InstOk (call cf k) (Iq53 k)
 | 0 => fun x y e => absurd (show (none : Option _) = some y from e) (by simp)
 | k + 1 => inst_ok (c := cf) (k := k) (f := 27) (fn := Try.f27) (body := bd Try.f27) (sh := shq53) (os := rsq53) rfl Try.func27 rfl ⟨rfl, Nat.le_of_ble_eq_true rfl⟩ (COt_ok (alq53 k)) (anq53 k) (fun x => Fmodel_Part (k + 1) x.1 x.2.1 x.2.2.1 x.2.2.2.1 x.2.2.2.2) (stq53 k)

/-! shunt/limb.Of -/
def blimb_Of (k : Nat) (v : Int) : Option (Bool × List Int) :=
 Option.bind (Fbig_NewInt k v) fun r1 =>
 Option.bind (Fwide_Give_awf k r1.1 r1.2) fun r2 =>
 if ((0 + r2.2.1) ≤ (List.length r2.2.2.2.2)) then
 (some (r2.1, (List.take r2.2.1 r2.2.2.2.2)))
 else
 none
def Flimb_Of : Nat → Int → Option (Bool × List Int)
 | 0, _ => none
 | k + 1, v => blimb_Of k v
def shq47 : FS := { vs := [.a (.lf (.int .i64))], bs := [] }
def rsq47 : List FS := [{ vs := [.g [.lf .bool, .lf (.sl (.int .u32))]], bs := [] }]
def Iq47 (k : Nat) : Inst := ⟨35, shq47, rsq47, fun x => Flimb_Of k x⟩
theorem alq47 (k : Nat) : AllI (call cf k) [Iq18 k, Iq103 k] := qA (okq18 k) (qA (okq103 k) qT)
theorem anq47 (k : Nat) : LAll (LOk (R := DS FS.D rsq47) (fun b _ σ K => LOt Ty (kps 35) 0 b σ K []) cf (call cf k) (cf.keep 35) Try.f35.ntmps k shq47.bs.length) 0 (bd Try.f35) :=
 qA qT (qA qT qT)
theorem stq47 (k : Nat) (x : shq47.D) : Flimb_Of (k + 1) x = body2 cf (fun f a b K => COt f a b K [Iq18 k, Iq103 k]) (fun b _ σ K => LOt Ty (kps 35) 0 b σ K []) 35 Try.f35.ntmps Try.f35.results.toList (bd Try.f35) (shq47.enc x).1 (shq47.enc x).2 (putS FS.dec rsq47) := by kernel_rfl
theorem okq47 : ∀ k, InstOk (call cf k) (Iq47 k)
 | 0 => fun x y e => absurd (show (none : Option _) = some y from e) (by simp)
 | k + 1 => inst_ok (c := cf) (k := k) (f := 35) (fn := Try.f35) (body := bd Try.f35) (sh := shq47) (os := rsq47) rfl Try.func35 rfl ⟨rfl, Nat.le_of_ble_eq_true rfl⟩ (COt_ok (alq47 k)) (anq47 k) (fun x => Flimb_Of (k + 1) x) (stq47 k)

/-! shunt/rat.answer -/
def brat_answer_plq (k : Nat) (z0 : Bool) (z1 : List Int) (z2 : Bool) (z3 : List Int) : Option (Bool × List Int × Bool × List Int × Int × Bool × List Int × Bool × List Int) :=
 Option.bind (Fwide_Frac_plq k z0 z1 z2 z3) fun r8 =>
 if ((decide ((((List.length r8.2.1) : Nat) : Int) > (72 : Int))) = false) then
 if ((decide ((((List.length r8.2.2.2.1) : Nat) : Int) > (72 : Int))) = true) then
 (some (false, [], false, [], (13 : Int), r8.2.2.2.2.1, r8.2.2.2.2.2.1, r8.2.2.2.2.2.2.1, r8.2.2.2.2.2.2.2))
 else
 (some (r8.1, r8.2.1, r8.2.2.1, r8.2.2.2.1, (0 : Int), r8.2.2.2.2.1, r8.2.2.2.2.2.1, r8.2.2.2.2.2.2.1, r8.2.2.2.2.2.2.2))
 else
 (some (false, [], false, [], (13 : Int), r8.2.2.2.2.1, r8.2.2.2.2.2.1, r8.2.2.2.2.2.2.1, r8.2.2.2.2.2.2.2))
def Frat_answer_plq : Nat → Bool → List Int → Bool → List Int → Option (Bool × List Int × Bool × List Int × Int × Bool × List Int × Bool × List Int)
 | 0, _, _, _, _ => none
 | k + 1, z0, z1, z2, z3 => brat_answer_plq k z0 z1 z2 z3
def shq68 : FS := { vs := [.a (.ptr 0 0 0)], bs := [.raw [[.lf .bool, .lf (.sl (.int .u32)), .lf .bool, .lf (.sl (.int .u32))]] 4 100 true false] }
def rsq68 : List FS := [{ vs := [.g [.lf .bool, .lf (.sl (.int .u32)), .lf .bool, .lf (.sl (.int .u32))], .a (.lf (.int .i64))], bs := [.raw [[.lf .bool, .lf (.sl (.int .u32)), .lf .bool, .lf (.sl (.int .u32))]] 4 100 true false] }]
def Iq68 (k : Nat) : Inst := ⟨71, shq68, rsq68, fun x => Frat_answer_plq k x.1 x.2.1 x.2.2.1 x.2.2.2⟩
theorem alq68 (k : Nat) : AllI (call cf k) [Iq102 k] := qA (okq102 k) qT
theorem anq68 (k : Nat) : LAll (LOk (R := DS FS.D rsq68) (fun b _ σ K => LOt Ty (kps 71) 1 b σ K []) cf (call cf k) (cf.keep 71) Try.f71.ntmps k shq68.bs.length) 0 (bd Try.f71) :=
 qA qT (qA qT (qA (qA qT (qA (qA qT qT) qT)) (qA qT qT)))
theorem stq68 (k : Nat) (x : shq68.D) : Frat_answer_plq (k + 1) x.1 x.2.1 x.2.2.1 x.2.2.2 = body2 cf (fun f a b K => COt f a b K [Iq102 k]) (fun b _ σ K => LOt Ty (kps 71) 1 b σ K []) 71 Try.f71.ntmps Try.f71.results.toList (bd Try.f71) (shq68.enc x).1 (shq68.enc x).2 (putS FS.dec rsq68) := by kernel_rfl
theorem okq68 : ∀ k, InstOk (call cf k) (Iq68 k)
 | 0 => fun x y e => absurd (show (none : Option _) = some y from e) (by simp)
 | k + 1 => inst_ok (c := cf) (k := k) (f := 71) (fn := Try.f71) (body := bd Try.f71) (sh := shq68) (os := rsq68) rfl Try.func71 rfl ⟨rfl, Nat.le_of_ble_eq_true rfl⟩ (COt_ok (alq68 k)) (anq68 k) (fun x => Frat_answer_plq (k + 1) x.1 x.2.1 x.2.2.1 x.2.2.2) (stq68 k)

/-! shunt/rat.Make -/
def brat_Make (k : Nat) (num0 : Bool) (num1 : List Int) (den0 : Bool) (den1 : List Int) : Option (Bool × List Int × Bool × List Int × Int) :=
 Option.bind (Flimb_Check k num0 num1) fun r3 =>
 if ((r3 != (0 : Int)) = false) then
 Option.bind (Flimb_Check k den0 den1) fun r4 =>
 if ((r4 != (0 : Int)) = true) then
 (some (false, [], false, [], (10 : Int)))
 else
 if (((((List.length den1) : Nat) : Int) == (0 : Int)) = true) then
 (some (false, [], false, [], (11 : Int)))
 else
 Option.bind (Fwide_Take k num0 num1) fun r5 =>
 Option.bind (Fwide_Take k den0 den1) fun r6 =>
 Option.bind (Fbig_Frac_ddu k r5.1 r5.2 r6.1 r6.2) fun r7 =>
 Option.bind (Frat_answer_plq k r7.2.2.2.2.1 r7.2.2.2.2.2.1 r7.2.2.2.2.2.2.1 r7.2.2.2.2.2.2.2) fun r8 =>
 (some (r8.1, r8.2.1, r8.2.2.1, r8.2.2.2.1, r8.2.2.2.2.1))
 else
 (some (false, [], false, [], (10 : Int)))
def Frat_Make : Nat → Bool → List Int → Bool → List Int → Option (Bool × List Int × Bool × List Int × Int)
 | 0, _, _, _, _ => none
 | k + 1, num0, num1, den0, den1 => brat_Make k num0 num1 den0 den1
def shq65 : FS := { vs := [.g [.lf .bool, .lf (.sl (.int .u32))], .g [.lf .bool, .lf (.sl (.int .u32))]], bs := [] }
def rsq65 : List FS := [{ vs := [.g [.lf .bool, .lf (.sl (.int .u32)), .lf .bool, .lf (.sl (.int .u32))], .a (.lf (.int .i64))], bs := [] }]
def Iq65 (k : Nat) : Inst := ⟨34, shq65, rsq65, fun x => Frat_Make k x.1 x.2.1 x.2.2.1 x.2.2.2⟩
theorem alq65 (k : Nat) : AllI (call cf k) [Iq45 k, Iq105 k, Iq0 k, Iq68 k] := qA (okq45 k) (qA (okq105 k) (qA (okq0 k) (qA (okq68 k) qT)))
theorem anq65 (k : Nat) : LAll (LOk (R := DS FS.D rsq65) (fun b _ σ K => LOt Ty (kps 34) 0 b σ K []) cf (call cf k) (cf.keep 34) Try.f34.ntmps k shq65.bs.length) 0 (bd Try.f34) :=
 qA qT (qA (qA qT (qA (qA qT qT) qT)) (qA (qA qT (qA (qA qT qT) qT)) (qA qT qT)))
theorem stq65 (k : Nat) (x : shq65.D) : Frat_Make (k + 1) x.1 x.2.1 x.2.2.1 x.2.2.2 = body2 cf (fun f a b K => COt f a b K [Iq45 k, Iq105 k, Iq0 k, Iq68 k]) (fun b _ σ K => LOt Ty (kps 34) 0 b σ K []) 34 Try.f34.ntmps Try.f34.results.toList (bd Try.f34) (shq65.enc x).1 (shq65.enc x).2 (putS FS.dec rsq65) := by kernel_rfl
theorem okq65 : ∀ k, InstOk (call cf k) (Iq65 k)
 | 0 => fun x y e => absurd (show (none : Option _) = some y from e) (by simp)
 | k + 1 => inst_ok (c := cf) (k := k) (f := 34) (fn := Try.f34) (body := bd Try.f34) (sh := shq65) (os := rsq65) rfl Try.func34 rfl ⟨rfl, Nat.le_of_ble_eq_true rfl⟩ (COt_ok (alq65 k)) (anq65 k) (fun x => Frat_Make (k + 1) x.1 x.2.1 x.2.2.1 x.2.2.2) (stq65 k)

/-! shunt/model.Side -/
def bmodel_Side (k : Nat) (m0 : ByteArray) (m1 : Int) (m2 : List (Int × Int)) (m3 : List (Int × Int)) (k1 : Int) (u0 : Bool) (u1 : List Int) (u2 : Bool) (u3 : List Int) : Option (Int × Int) :=
 Option.bind (Fmodel_check k m0 m1 m2 m3 k1) fun r4 =>
 if ((r4 != (0 : Int)) = true) then
 (some ((0 : Int), r4))
 else
 Option.bind (Frat_Check k u0 u1 u2 u3) fun r5 =>
 if ((r5 != (0 : Int)) = true) then
 (some ((0 : Int), r5))
 else
 Option.bind (Fwide_Rat k u0 u1 u2 u3) fun r6 =>
 if ((decide (k1 > (0 : Int))) = true) then
 Option.bind (Fmodel_knot k m0 m1 m2 m3 (IntKind.wrap .i64 (k1 - (1 : Int)))) fun r7 =>
 Option.bind (Fbig_Rat_Cmp_jyb k r6.1 r6.2.1 r6.2.2.1 r6.2.2.2 r7.1 r7.2.1 r7.2.2.1 r7.2.2.2) fun r8 =>
 if ((decide (r8.1 < (0 : Int))) = true) then
 (some ((-(1 : Int)), (0 : Int)))
 else
 if ((decide (k1 < (((List.length m3) : Nat) : Int))) = true) then
 Option.bind (Fmodel_knot k m0 m1 m2 m3 k1) fun r9 =>
 Option.bind (Fbig_Rat_Cmp_jyb k r8.2.1 r8.2.2.1 r8.2.2.2.1 r8.2.2.2.2.1 r9.1 r9.2.1 r9.2.2.1 r9.2.2.2) fun r10 =>
 if ((decide (r10.1 > (0 : Int))) = true) then
 (some ((1 : Int), (0 : Int)))
 else
 (some ((0 : Int), (0 : Int)))
 else
 (some ((0 : Int), (0 : Int)))
 else
 if ((decide (k1 < (((List.length m3) : Nat) : Int))) = true) then
 Option.bind (Fmodel_knot k m0 m1 m2 m3 k1) fun r7 =>
 Option.bind (Fbig_Rat_Cmp_jyb k r6.1 r6.2.1 r6.2.2.1 r6.2.2.2 r7.1 r7.2.1 r7.2.2.1 r7.2.2.2) fun r8 =>
 if ((decide (r8.1 > (0 : Int))) = true) then
 (some ((1 : Int), (0 : Int)))
 else
 (some ((0 : Int), (0 : Int)))
 else
 (some ((0 : Int), (0 : Int)))
def Fmodel_Side : Nat → ByteArray → Int → List (Int × Int) → List (Int × Int) → Int → Bool → List Int → Bool → List Int → Option (Int × Int)
 | 0, _, _, _, _, _, _, _, _, _ => none
 | k + 1, m0, m1, m2, m3, k1, u0, u1, u2, u3 => bmodel_Side k m0 m1 m2 m3 k1 u0 u1 u2 u3
def shq54 : FS := { vs := [.g [.lf .str, .lf (.int .u8), .lf (.sl (.pr (.int .i64) (.int .i64))), .lf (.sl (.pr (.int .i64) (.int .i64)))], .a (.lf (.int .i64)), .g [.lf .bool, .lf (.sl (.int .u32)), .lf .bool, .lf (.sl (.int .u32))]], bs := [] }
def rsq54 : List FS := [{ vs := [.a (.lf (.int .i64)), .a (.lf (.int .i64))], bs := [] }]
def Iq54 (k : Nat) : Inst := ⟨14, shq54, rsq54, fun x => Fmodel_Side k x.1 x.2.1 x.2.2.1 x.2.2.2.1 x.2.2.2.2.1 x.2.2.2.2.2.1 x.2.2.2.2.2.2.1 x.2.2.2.2.2.2.2.1 x.2.2.2.2.2.2.2.2⟩
theorem alq54 (k : Nat) : AllI (call cf k) [Iq56 k, Iq64 k, Iq104 k, Iq57 k, Iq24 k] := qA (okq56 k) (qA (okq64 k) (qA (okq104 k) (qA (okq57 k) (qA (okq24 k) qT))))
theorem anq54 (k : Nat) : LAll (LOk (R := DS FS.D rsq54) (fun b _ σ K => LOt Ty (kps 14) 0 b σ K []) cf (call cf k) (cf.keep 14) Try.f14.ntmps k shq54.bs.length) 0 (bd Try.f14) :=
 qA qT (qA (qA qT (qA qT (qA (qA qT qT) qT))) (qA (qA qT (qA qT (qA (qA qT qT) qT))) (qA qT (qA (qA qT (qA (qA qT qT) qT)) (qA (qA qT (qA (qA qT qT) qT)) (qA qT qT))))))
theorem stq54 (k : Nat) (x : shq54.D) : Fmodel_Side (k + 1) x.1 x.2.1 x.2.2.1 x.2.2.2.1 x.2.2.2.2.1 x.2.2.2.2.2.1 x.2.2.2.2.2.2.1 x.2.2.2.2.2.2.2.1 x.2.2.2.2.2.2.2.2 = body2 cf (fun f a b K => COt f a b K [Iq56 k, Iq64 k, Iq104 k, Iq57 k, Iq24 k]) (fun b _ σ K => LOt Ty (kps 14) 0 b σ K []) 14 Try.f14.ntmps Try.f14.results.toList (bd Try.f14) (shq54.enc x).1 (shq54.enc x).2 (putS FS.dec rsq54) := by kernel_rfl
theorem okq54 : ∀ k, InstOk (call cf k) (Iq54 k)
 | 0 => fun x y e => absurd (show (none : Option _) = some y from e) (by simp)
 | k + 1 => inst_ok (c := cf) (k := k) (f := 14) (fn := Try.f14) (body := bd Try.f14) (sh := shq54) (os := rsq54) rfl Try.func14 rfl ⟨rfl, Nat.le_of_ble_eq_true rfl⟩ (COt_ok (alq54 k)) (anq54 k) (fun x => Fmodel_Side (k + 1) x.1 x.2.1 x.2.2.1 x.2.2.2.1 x.2.2.2.2.1 x.2.2.2.2.2.1 x.2.2.2.2.2.2.1 x.2.2.2.2.2.2.2.1 x.2.2.2.2.2.2.2.2) (stq54 k)

/-! shunt/model.Find -/
def Lmodel_Find_0s (k : Nat) (rec : Int → ByteArray → Int → List (Int × Int) → List (Int × Int) → Bool → List Int → Bool → List Int → Option (Int × Int × ByteArray × Int × List (Int × Int) × List (Int × Int) × Bool × List Int × Bool × List Int)) (k1 : Int) (m0 : ByteArray) (m1 : Int) (m2 : List (Int × Int)) (m3 : List (Int × Int)) (u0 : Bool) (u1 : List Int) (u2 : Bool) (u3 : List Int) : Option (Int × Int × ByteArray × Int × List (Int × Int) × List (Int × Int) × Bool × List Int × Bool × List Int) :=
 Option.bind (Fmodel_Side k m0 m1 m2 m3 k1 u0 u1 u2 u3) fun r5 =>
 if ((r5.2 != (0 : Int)) = true) then
 (some ((0 : Int), r5.2, m0, m1, m2, m3, u0, u1, u2, u3))
 else
 if ((r5.1 == (0 : Int)) = true) then
 (some (k1, (0 : Int), m0, m1, m2, m3, u0, u1, u2, u3))
 else
 rec (IntKind.wrap .i64 (k1 + (1 : Int))) m0 m1 m2 m3 u0 u1 u2 u3
def Lmodel_Find_0 (k n : Nat) : Int → ByteArray → Int → List (Int × Int) → List (Int × Int) → Bool → List Int → Bool → List Int → Option (Int × Int × ByteArray × Int × List (Int × Int) × List (Int × Int) × Bool × List Int × Bool × List Int) := Nat.rec (fun _ _ _ _ _ _ _ _ _ => none) (fun _ r => Lmodel_Find_0s k r) n
def bmodel_Find (k : Nat) (m0 : ByteArray) (m1 : Int) (m2 : List (Int × Int)) (m3 : List (Int × Int)) (u0 : Bool) (u1 : List Int) (u2 : Bool) (u3 : List Int) : Option (Int × Int) :=
 Option.bind (Lmodel_Find_0 k k (0 : Int) m0 m1 m2 m3 u0 u1 u2 u3) fun r5 =>
 (some (r5.1, r5.2.1))
def Fmodel_Find : Nat → ByteArray → Int → List (Int × Int) → List (Int × Int) → Bool → List Int → Bool → List Int → Option (Int × Int)
 | 0, _, _, _, _, _, _, _, _ => none
 | k + 1, m0, m1, m2, m3, u0, u1, u2, u3 => bmodel_Find k m0 m1 m2 m3 u0 u1 u2 u3
def shq51 : FS := { vs := [.g [.lf .str, .lf (.int .u8), .lf (.sl (.pr (.int .i64) (.int .i64))), .lf (.sl (.pr (.int .i64) (.int .i64)))], .g [.lf .bool, .lf (.sl (.int .u32)), .lf .bool, .lf (.sl (.int .u32))]], bs := [] }
def rsq51 : List FS := [{ vs := [.a (.lf (.int .i64)), .a (.lf (.int .i64))], bs := [] }]
def Iq51 (k : Nat) : Inst := ⟨15, shq51, rsq51, fun x => Fmodel_Find k x.1 x.2.1 x.2.2.1 x.2.2.2.1 x.2.2.2.2.1 x.2.2.2.2.2.1 x.2.2.2.2.2.2.1 x.2.2.2.2.2.2.2⟩
theorem alq51 (k : Nat) : AllI (call cf k) [Iq54 k] := qA (okq54 k) qT
def hsq133 : List SS := [{ fr := [(2, .a (.ptr 0 0 0)), (3, .a (.ptr 1 0 0)), (6, .a (.lf (.int .i64)))], mem := [(0, some (.raw [[.lf .str, .lf (.int .u8), .lf (.sl (.pr (.int .i64) (.int .i64))), .lf (.sl (.pr (.int .i64) (.int .i64)))]] 4 24 true false)), (1, some (.raw [[.lf .bool, .lf (.sl (.int .u32)), .lf .bool, .lf (.sl (.int .u32))]] 4 29 true false))], nx := 2 }]
def osq133 : List OS := [⟨none, { fr := [(4, .a (.lf (.int .i64))), (5, .a (.lf (.int .i64)))], mem := [(0, some (.raw [[.lf .str, .lf (.int .u8), .lf (.sl (.pr (.int .i64) (.int .i64))), .lf (.sl (.pr (.int .i64) (.int .i64)))]] 4 24 true false)), (1, some (.raw [[.lf .bool, .lf (.sl (.int .u32)), .lf .bool, .lf (.sl (.int .u32))]] 4 29 true false))], nx := 2 }⟩]
def LIq133 (k : Nat) : LInst := ⟨0, hsq133, osq133, fun x => Lmodel_Find_0 k k x.1 x.2.1 x.2.2.1 x.2.2.2.1 x.2.2.2.2.1 x.2.2.2.2.2.1 x.2.2.2.2.2.2.1 x.2.2.2.2.2.2.2.1 x.2.2.2.2.2.2.2.2⟩
theorem anq133 (k : Nat) : LAll (LOk (R := DS OS.D osq133) (fun b _ σ K => LOt Ty (kps 15) 0 b σ K []) cf (call cf k) (kps 15) Try.f15.ntmps k 0) 0 (lb Try.f15 0) :=
 qA (qA qT (qA (qA qT (qA (qA qT qT) qT)) (qA qT (qA (qA qT qT) qT)))) qT
theorem stq133 (k n : Nat) (x : DS SS.D hsq133) : Lmodel_Find_0 k (n + 1) x.1 x.2.1 x.2.2.1 x.2.2.2.1 x.2.2.2.2.1 x.2.2.2.2.2.1 x.2.2.2.2.2.2.1 x.2.2.2.2.2.2.2.1 x.2.2.2.2.2.2.2.2 = encSK SS.enc (fun σ => run2 cf (fun f a b K => COt f a b K [Iq54 k]) (fun b _ σ K => LOt Ty (kps 15) 0 b σ K []) Try.f15.ntmps 0 (lb Try.f15 0) σ (nextK Ty (kps 15 0) 0 hsq133 osq133 fun x => Lmodel_Find_0 k n x.1 x.2.1 x.2.2.1 x.2.2.2.1 x.2.2.2.2.1 x.2.2.2.2.2.1 x.2.2.2.2.2.2.1 x.2.2.2.2.2.2.2.1 x.2.2.2.2.2.2.2.2)) hsq133 x := by kernel_rfl
theorem loq133 (k : Nat) : LIOk cf (call cf k) (kps 15) Try.f15.ntmps k 0 0 (lb Try.f15 0) (LIq133 k) :=
 loop_ok (c := cf) (callF := call cf k) (kp := kps 15) (nt := Try.f15.ntmps) (k := k) (p := 0) (b := 0) (x0 := lb Try.f15 0) (hs := hsq133) (os := osq133) (COt_ok (alq51 k)) (anq133 k) (fun n x => Lmodel_Find_0 k n x.1 x.2.1 x.2.2.1 x.2.2.2.1 x.2.2.2.2.1 x.2.2.2.2.2.1 x.2.2.2.2.2.2.1 x.2.2.2.2.2.2.2.1 x.2.2.2.2.2.2.2.2) (fun _ => rfl) (stq133 k)
theorem anq51 (k : Nat) : LAll (LOk (R := DS FS.D rsq51) (fun b _ σ K => LOt Ty (kps 15) 0 b σ K [LIq133 k]) cf (call cf k) (cf.keep 15) Try.f15.ntmps k shq51.bs.length) 0 (bd Try.f15) :=
 qA qT (qA qT (LOt_ok (c := cf) (callF := call cf k) (kp := kps 15) (nt := Try.f15.ntmps) (k := k) (p := 0) (b := 0) (x0 := lb Try.f15 0) (l := [LIq133 k]) (qA (fun _ => loq133 k) qT)))
theorem stq51 (k : Nat) (x : shq51.D) : Fmodel_Find (k + 1) x.1 x.2.1 x.2.2.1 x.2.2.2.1 x.2.2.2.2.1 x.2.2.2.2.2.1 x.2.2.2.2.2.2.1 x.2.2.2.2.2.2.2 = body2 cf (fun f a b K => COt f a b K [Iq54 k]) (fun b _ σ K => LOt Ty (kps 15) 0 b σ K [LIq133 k]) 15 Try.f15.ntmps Try.f15.results.toList (bd Try.f15) (shq51.enc x).1 (shq51.enc x).2 (putS FS.dec rsq51) := by kernel_rfl
theorem okq51 : ∀ k, InstOk (call cf k) (Iq51 k)
 | 0 => fun x y e => absurd (show (none : Option _) = some y from e) (by simp)
 | k + 1 => inst_ok (c := cf) (k := k) (f := 15) (fn := Try.f15) (body := bd Try.f15) (sh := shq51) (os := rsq51) rfl Try.func15 rfl ⟨rfl, Nat.le_of_ble_eq_true rfl⟩ (COt_ok (alq51 k)) (anq51 k) (fun x => Fmodel_Find (k + 1) x.1 x.2.1 x.2.2.1 x.2.2.2.1 x.2.2.2.2.1 x.2.2.2.2.2.1 x.2.2.2.2.2.2.1 x.2.2.2.2.2.2.2) (stq51 k)

/-! (*shunt/big.Int).String -/
def Lbig_Int_String_awf_2s (k : Nat) (rec : Nat → List Int → Int → Int → Bool → List Int → List Int → Option (Nat × List Int × Bool × List Int × List Int)) (out1 : Nat) (a : List Int) (r : Int) (i : Int) (z0 : Bool) (z1 : List Int) (outs : List Int) : Option (Nat × List Int × Bool × List Int × List Int) :=
 if ((decide (i < (9 : Int))) = true) then
 if ((decide (r > (0 : Int))) = false) then
 if ((decide ((((List.length a) : Nat) : Int) > (0 : Int))) = true) then
 if (out1 ≤ (List.length outs)) then
 if (((out1 + (List.length (List.take 1 ((IntKind.wrap .u8 (IntKind.wrap .u32 ((48 : Int) + (Int.tmod r (10 : Int))))) :: [])))) * 1) ≤ 140737488355328) then
 rec (out1 + (List.length (List.take 1 ((IntKind.wrap .u8 (IntKind.wrap .u32 ((48 : Int) + (Int.tmod r (10 : Int))))) :: [])))) a (IntKind.wrap .u32 (Int.tdiv r (10 : Int))) (IntKind.wrap .i64 (i + (1 : Int))) z0 z1 ((List.take out1 outs) ++ (List.take 1 ((IntKind.wrap .u8 (IntKind.wrap .u32 ((48 : Int) + (Int.tmod r (10 : Int))))) :: [])))
 else
 none
 else
 none
 else
 (some (out1, a, z0, z1, outs))
 else
 if (out1 ≤ (List.length outs)) then
 if (((out1 + (List.length (List.take 1 ((IntKind.wrap .u8 (IntKind.wrap .u32 ((48 : Int) + (Int.tmod r (10 : Int))))) :: [])))) * 1) ≤ 140737488355328) then
 rec (out1 + (List.length (List.take 1 ((IntKind.wrap .u8 (IntKind.wrap .u32 ((48 : Int) + (Int.tmod r (10 : Int))))) :: [])))) a (IntKind.wrap .u32 (Int.tdiv r (10 : Int))) (IntKind.wrap .i64 (i + (1 : Int))) z0 z1 ((List.take out1 outs) ++ (List.take 1 ((IntKind.wrap .u8 (IntKind.wrap .u32 ((48 : Int) + (Int.tmod r (10 : Int))))) :: [])))
 else
 none
 else
 none
 else
 (some (out1, a, z0, z1, outs))
def Lbig_Int_String_awf_2 (k n : Nat) : Nat → List Int → Int → Int → Bool → List Int → List Int → Option (Nat × List Int × Bool × List Int × List Int) := Nat.rec (fun _ _ _ _ _ _ _ => none) (fun _ r => Lbig_Int_String_awf_2s k r) n
def Lbig_Int_String_awf_0s (k : Nat) (rec : Nat → List Int → Bool → List Int → List Int → Option (Nat × Bool × List Int × List Int)) (out1 : Nat) (a : List Int) (z0 : Bool) (z1 : List Int) (outs : List Int) : Option (Nat × Bool × List Int × List Int) :=
 if ((decide ((((List.length a) : Nat) : Int) > (0 : Int))) = true) then
 Option.bind (Fbig_short k a (1000000000 : Int)) fun r8 =>
 Option.bind (Fbig_trim k r8.1) fun r9 =>
 Option.bind (Lbig_Int_String_awf_2 k k out1 r9 r8.2 (0 : Int) z0 z1 outs) fun r10 =>
 rec r10.1 r10.2.1 r10.2.2.1 r10.2.2.2.1 r10.2.2.2.2
 else
 (some (out1, z0, z1, outs))
def Lbig_Int_String_awf_0 (k n : Nat) : Nat → List Int → Bool → List Int → List Int → Option (Nat × Bool × List Int × List Int) := Nat.rec (fun _ _ _ _ _ => none) (fun _ r => Lbig_Int_String_awf_0s k r) n
def Lbig_Int_String_awf_4s (k : Nat) (rec : Nat → Int → Int → Bool → List Int → List Int → Option (Nat × Bool × List Int × List Int)) (out1 : Nat) (i : Int) (j : Int) (m0 : Bool) (m1 : List Int) (outs : List Int) : Option (Nat × Bool × List Int × List Int) :=
 if ((decide (i < j)) = true) then
 if (((0 : Int) ≤ j) ∧ (j < ((out1 : Nat) : Int))) then
 Option.bind (outs)[(0 + (Int.toNat j))]? fun x =>
 if (((0 : Int) ≤ i) ∧ (i < ((out1 : Nat) : Int))) then
 Option.bind (outs)[(0 + (Int.toNat i))]? fun x1 =>
 if (((0 : Int) ≤ i) ∧ (i < ((out1 : Nat) : Int))) then
 Option.bind (outs)[(0 + (Int.toNat i))]? fun x2 =>
 if (((0 : Int) ≤ j) ∧ (j < ((out1 : Nat) : Int))) then
 Option.bind ((List.set outs (0 + (Int.toNat i)) x))[(0 + (Int.toNat j))]? fun x3 =>
 rec out1 (IntKind.wrap .i64 (i + (1 : Int))) (IntKind.wrap .i64 (j - (1 : Int))) m0 m1 (List.set (List.set outs (0 + (Int.toNat i)) x) (0 + (Int.toNat j)) x1)
 else
 none
 else
 none
 else
 none
 else
 none
 else
 (some (out1, m0, m1, outs))
def Lbig_Int_String_awf_4 (k n : Nat) : Nat → Int → Int → Bool → List Int → List Int → Option (Nat × Bool × List Int × List Int) := Nat.rec (fun _ _ _ _ _ _ => none) (fun _ r => Lbig_Int_String_awf_4s k r) n
def bbig_Int_String_awf (k : Nat) (z0 : Bool) (z1 : List Int) : Option (ByteArray × Bool × List Int) :=
 if (((((List.length z1) : Nat) : Int) == (0 : Int)) = true) then
 (some ((ByteArray.mk (List.toArray (48 :: []))), z0, z1))
 else
 Option.bind (Lbig_Int_String_awf_0 k k 0 z1 z0 z1 []) fun r8 =>
 if (r8.2.1 = true) then
 if (r8.1 ≤ (List.length r8.2.2.2)) then
 if (((r8.1 + 1) * 1) ≤ 140737488355328) then
 Option.bind (Lbig_Int_String_awf_4 k k (r8.1 + 1) (0 : Int) (IntKind.wrap .i64 ((((r8.1 + 1) : Nat) : Int) - (1 : Int))) r8.2.1 r8.2.2.1 ((List.take r8.1 r8.2.2.2) ++ (List.take 1 ((45 : Int) :: [])))) fun r9 =>
 if ((0 + r9.1) ≤ (List.length r9.2.2.2)) then
 (some ((ByteArray.mk (List.toArray (List.map (fun n => n.toNat.toUInt8) (List.take r9.1 r9.2.2.2)))), r9.2.1, r9.2.2.1))
 else
 none
 else
 none
 else
 none
 else
 Option.bind (Lbig_Int_String_awf_4 k k r8.1 (0 : Int) (IntKind.wrap .i64 (((r8.1 : Nat) : Int) - (1 : Int))) r8.2.1 r8.2.2.1 r8.2.2.2) fun r9 =>
 if ((0 + r9.1) ≤ (List.length r9.2.2.2)) then
 (some ((ByteArray.mk (List.toArray (List.map (fun n => n.toNat.toUInt8) (List.take r9.1 r9.2.2.2)))), r9.2.1, r9.2.2.1))
 else
 none
def Fbig_Int_String_awf : Nat → Bool → List Int → Option (ByteArray × Bool × List Int)
 | 0, _, _ => none
 | k + 1, z0, z1 => bbig_Int_String_awf k z0 z1
def shq13 : FS := { vs := [.a (.ptr 0 0 0)], bs := [.raw [[.lf .bool, .lf (.sl (.int .u32))]] 2 98 true false] }
def rsq13 : List FS := [{ vs := [.a (.lf .str)], bs := [.raw [[.lf .bool, .lf (.sl (.int .u32))]] 2 98 true false] }]
def Iq13 (k : Nat) : Inst := ⟨76, shq13, rsq13, fun x => Fbig_Int_String_awf k x.1 x.2⟩
theorem alq13 (k : Nat) : AllI (call cf k) [Iq41 k, Iq44 k] := qA (okq41 k) (qA (okq44 k) qT)
def hsq118 : List SS := [{ fr := [(0, .a (.ptr 0 0 0)), (3, .a (.smz 1)), (4, .a (.lf (.sl (.int .u32)))), (6, .a (.lf (.int .u32))), (7, .a (.lf (.int .i64)))], mem := [(0, some (.raw [[.lf .bool, .lf (.sl (.int .u32))]] 2 98 true false)), (1, some (.arr (.int .u8) 1 5 false))], nx := 2 }]
def osq118 : List OS := [⟨some 2, { fr := [(0, .a (.ptr 0 0 0)), (3, .a (.smz 1)), (4, .a (.lf (.sl (.int .u32))))], mem := [(0, some (.raw [[.lf .bool, .lf (.sl (.int .u32))]] 2 98 true false)), (1, some (.arr (.int .u8) 1 5 false))], nx := 2 }⟩]
def LIq118 (k : Nat) : LInst := ⟨2, hsq118, osq118, fun x => Lbig_Int_String_awf_2 k k x.1 x.2.1 x.2.2.1 x.2.2.2.1 x.2.2.2.2.1 x.2.2.2.2.2.1 x.2.2.2.2.2.2⟩
theorem anq118 (k : Nat) : LAll (LOk (R := DS OS.D osq118) (fun b _ σ K => LOt Ty (kps 76) 1 b σ K []) cf (call cf k) (kps 76) Try.f76.ntmps k 1) 2 (lb Try.f76 1) :=
 qA (qA qT (qA qT qT)) (qA (qA qT qT) qT)
theorem stq118 (k n : Nat) (x : DS SS.D hsq118) : Lbig_Int_String_awf_2 k (n + 1) x.1 x.2.1 x.2.2.1 x.2.2.2.1 x.2.2.2.2.1 x.2.2.2.2.2.1 x.2.2.2.2.2.2 = encSK SS.enc (fun σ => run2 cf (fun f a b K => COt f a b K [Iq41 k, Iq44 k]) (fun b _ σ K => LOt Ty (kps 76) 1 b σ K []) Try.f76.ntmps 2 (lb Try.f76 1) σ (nextK Ty (kps 76 2) 1 hsq118 osq118 fun x => Lbig_Int_String_awf_2 k n x.1 x.2.1 x.2.2.1 x.2.2.2.1 x.2.2.2.2.1 x.2.2.2.2.2.1 x.2.2.2.2.2.2)) hsq118 x := by kernel_rfl
theorem loq118 (k : Nat) : LIOk cf (call cf k) (kps 76) Try.f76.ntmps k 1 2 (lb Try.f76 1) (LIq118 k) :=
 loop_ok (c := cf) (callF := call cf k) (kp := kps 76) (nt := Try.f76.ntmps) (k := k) (p := 1) (b := 2) (x0 := lb Try.f76 1) (hs := hsq118) (os := osq118) (COt_ok (alq13 k)) (anq118 k) (fun n x => Lbig_Int_String_awf_2 k n x.1 x.2.1 x.2.2.1 x.2.2.2.1 x.2.2.2.2.1 x.2.2.2.2.2.1 x.2.2.2.2.2.2) (fun _ => rfl) (stq118 k)
def hsq117 : List SS := [{ fr := [(0, .a (.ptr 0 0 0)), (3, .a (.smz 1)), (4, .a (.lf (.sl (.int .u32))))], mem := [(0, some (.raw [[.lf .bool, .lf (.sl (.int .u32))]] 2 98 true false)), (1, some (.arr (.int .u8) 1 5 false))], nx := 2 }]
def osq117 : List OS := [⟨some 0, { fr := [(0, .a (.ptr 0 0 0)), (3, .a (.smz 1))], mem := [(0, some (.raw [[.lf .bool, .lf (.sl (.int .u32))]] 2 98 true false)), (1, some (.arr (.int .u8) 1 5 false))], nx := 2 }⟩]
def LIq117 (k : Nat) : LInst := ⟨0, hsq117, osq117, fun x => Lbig_Int_String_awf_0 k k x.1 x.2.1 x.2.2.1 x.2.2.2.1 x.2.2.2.2⟩
theorem anq117 (k : Nat) : LAll (LOk (R := DS OS.D osq117) (fun b _ σ K => LOt Ty (kps 76) 1 b σ K [LIq118 k]) cf (call cf k) (kps 76) Try.f76.ntmps k 1) 0 (lb Try.f76 0) :=
 qA (qA qT (qA qT qT)) (qA qT (qA qT (qA qT (LOt_ok (c := cf) (callF := call cf k) (kp := kps 76) (nt := Try.f76.ntmps) (k := k) (p := 1) (b := 2) (x0 := lb Try.f76 1) (l := [LIq118 k]) (qA (fun _ => loq118 k) qT)))))
theorem stq117 (k n : Nat) (x : DS SS.D hsq117) : Lbig_Int_String_awf_0 k (n + 1) x.1 x.2.1 x.2.2.1 x.2.2.2.1 x.2.2.2.2 = encSK SS.enc (fun σ => run2 cf (fun f a b K => COt f a b K [Iq41 k, Iq44 k]) (fun b _ σ K => LOt Ty (kps 76) 1 b σ K [LIq118 k]) Try.f76.ntmps 0 (lb Try.f76 0) σ (nextK Ty (kps 76 0) 1 hsq117 osq117 fun x => Lbig_Int_String_awf_0 k n x.1 x.2.1 x.2.2.1 x.2.2.2.1 x.2.2.2.2)) hsq117 x := by kernel_rfl
theorem loq117 (k : Nat) : LIOk cf (call cf k) (kps 76) Try.f76.ntmps k 1 0 (lb Try.f76 0) (LIq117 k) :=
 loop_ok (c := cf) (callF := call cf k) (kp := kps 76) (nt := Try.f76.ntmps) (k := k) (p := 1) (b := 0) (x0 := lb Try.f76 0) (hs := hsq117) (os := osq117) (COt_ok (alq13 k)) (anq117 k) (fun n x => Lbig_Int_String_awf_0 k n x.1 x.2.1 x.2.2.1 x.2.2.2.1 x.2.2.2.2) (fun _ => rfl) (stq117 k)
def hsq119 : List SS := [{ fr := [(3, .a (.smz 1)), (8, .a (.lf (.int .i64))), (9, .a (.lf (.int .i64)))], mem := [(0, some (.raw [[.lf .bool, .lf (.sl (.int .u32))]] 2 98 true false)), (1, some (.arr (.int .u8) 1 5 false))], nx := 2 }]
def osq119 : List OS := [⟨some 4, { fr := [(3, .a (.smz 1))], mem := [(0, some (.raw [[.lf .bool, .lf (.sl (.int .u32))]] 2 98 true false)), (1, some (.arr (.int .u8) 1 5 false))], nx := 2 }⟩]
def LIq119 (k : Nat) : LInst := ⟨4, hsq119, osq119, fun x => Lbig_Int_String_awf_4 k k x.1 x.2.1 x.2.2.1 x.2.2.2.1 x.2.2.2.2.1 x.2.2.2.2.2⟩
theorem anq119 (k : Nat) : LAll (LOk (R := DS OS.D osq119) (fun b _ σ K => LOt Ty (kps 76) 1 b σ K [LIq118 k, LIq117 k]) cf (call cf k) (kps 76) Try.f76.ntmps k 1) 4 (lb Try.f76 2) :=
 qA (qA qT (qA qT qT)) (qA qT qT)
theorem stq119 (k n : Nat) (x : DS SS.D hsq119) : Lbig_Int_String_awf_4 k (n + 1) x.1 x.2.1 x.2.2.1 x.2.2.2.1 x.2.2.2.2.1 x.2.2.2.2.2 = encSK SS.enc (fun σ => run2 cf (fun f a b K => COt f a b K [Iq41 k, Iq44 k]) (fun b _ σ K => LOt Ty (kps 76) 1 b σ K [LIq118 k, LIq117 k]) Try.f76.ntmps 4 (lb Try.f76 2) σ (nextK Ty (kps 76 4) 1 hsq119 osq119 fun x => Lbig_Int_String_awf_4 k n x.1 x.2.1 x.2.2.1 x.2.2.2.1 x.2.2.2.2.1 x.2.2.2.2.2)) hsq119 x := by kernel_rfl
theorem loq119 (k : Nat) : LIOk cf (call cf k) (kps 76) Try.f76.ntmps k 1 4 (lb Try.f76 2) (LIq119 k) :=
 loop_ok (c := cf) (callF := call cf k) (kp := kps 76) (nt := Try.f76.ntmps) (k := k) (p := 1) (b := 4) (x0 := lb Try.f76 2) (hs := hsq119) (os := osq119) (COt_ok (alq13 k)) (anq119 k) (fun n x => Lbig_Int_String_awf_4 k n x.1 x.2.1 x.2.2.1 x.2.2.2.1 x.2.2.2.2.1 x.2.2.2.2.2) (fun _ => rfl) (stq119 k)
theorem anq13 (k : Nat) : LAll (LOk (R := DS FS.D rsq13) (fun b _ σ K => LOt Ty (kps 76) 1 b σ K [LIq118 k, LIq117 k, LIq119 k]) cf (call cf k) (cf.keep 76) Try.f76.ntmps k shq13.bs.length) 0 (bd Try.f76) :=
 qA qT (qA (qA qT (qA (qA qT qT) qT)) (qA qT (qA (qA qT (LOt_ok (c := cf) (callF := call cf k) (kp := kps 76) (nt := Try.f76.ntmps) (k := k) (p := 1) (b := 0) (x0 := lb Try.f76 0) (l := [LIq118 k, LIq117 k, LIq119 k]) (qA (fun h => absurd (show (2 : Nat) = 0 from h) (by decide)) (qA (fun _ => loq117 k) (qA (fun h => absurd (show (4 : Nat) = 0 from h) (by decide)) qT))))) (qA (qA qT (qA qT qT)) (qA (qA qT (LOt_ok (c := cf) (callF := call cf k) (kp := kps 76) (nt := Try.f76.ntmps) (k := k) (p := 1) (b := 4) (x0 := lb Try.f76 2) (l := [LIq118 k, LIq117 k, LIq119 k]) (qA (fun h => absurd (show (2 : Nat) = 4 from h) (by decide)) (qA (fun h => absurd (show (0 : Nat) = 4 from h) (by decide)) (qA (fun _ => loq119 k) qT))))) (qA qT qT))))))
theorem stq13 (k : Nat) (x : shq13.D) : Fbig_Int_String_awf (k + 1) x.1 x.2 = body2 cf (fun f a b K => COt f a b K [Iq41 k, Iq44 k]) (fun b _ σ K => LOt Ty (kps 76) 1 b σ K [LIq118 k, LIq117 k, LIq119 k]) 76 Try.f76.ntmps Try.f76.results.toList (bd Try.f76) (shq13.enc x).1 (shq13.enc x).2 (putS FS.dec rsq13) := by kernel_rfl
theorem okq13 : ∀ k, InstOk (call cf k) (Iq13 k)
 | 0 => fun x y e => absurd (show (none : Option _) = some y from e) (by simp)
 | k + 1 => inst_ok (c := cf) (k := k) (f := 76) (fn := Try.f76) (body := bd Try.f76) (sh := shq13) (os := rsq13) rfl Try.func76 rfl ⟨rfl, Nat.le_of_ble_eq_true rfl⟩ (COt_ok (alq13 k)) (anq13 k) (fun x => Fbig_Int_String_awf (k + 1) x.1 x.2) (stq13 k)

/-! shunt/limb.Text -/
def blimb_Text (k : Nat) (a0 : Bool) (a1 : List Int) : Option (ByteArray × Int) :=
 Option.bind (Flimb_Check k a0 a1) fun r6 =>
 if ((r6 != (0 : Int)) = true) then
 (some ((ByteArray.mk (List.toArray [])), r6))
 else
 Option.bind (Fwide_Take k a0 a1) fun r7 =>
 Option.bind (Fbig_Int_String_awf k r7.1 r7.2) fun r8 =>
 (some (r8.1, (0 : Int)))
def Flimb_Text : Nat → Bool → List Int → Option (ByteArray × Int)
 | 0, _, _ => none
 | k + 1, a0, a1 => blimb_Text k a0 a1
def shq48 : FS := { vs := [.g [.lf .bool, .lf (.sl (.int .u32))]], bs := [] }
def rsq48 : List FS := [{ vs := [.a (.lf .str), .a (.lf (.int .i64))], bs := [] }]
def Iq48 (k : Nat) : Inst := ⟨36, shq48, rsq48, fun x => Flimb_Text k x.1 x.2⟩
theorem alq48 (k : Nat) : AllI (call cf k) [Iq45 k, Iq105 k, Iq13 k] := qA (okq45 k) (qA (okq105 k) (qA (okq13 k) qT))
theorem anq48 (k : Nat) : LAll (LOk (R := DS FS.D rsq48) (fun b _ σ K => LOt Ty (kps 36) 0 b σ K []) cf (call cf k) (cf.keep 36) Try.f36.ntmps k shq48.bs.length) 0 (bd Try.f36) :=
 qA qT (qA (qA qT (qA qT (qA (qA qT qT) qT))) (qA qT qT))
theorem stq48 (k : Nat) (x : shq48.D) : Flimb_Text (k + 1) x.1 x.2 = body2 cf (fun f a b K => COt f a b K [Iq45 k, Iq105 k, Iq13 k]) (fun b _ σ K => LOt Ty (kps 36) 0 b σ K []) 36 Try.f36.ntmps Try.f36.results.toList (bd Try.f36) (shq48.enc x).1 (shq48.enc x).2 (putS FS.dec rsq48) := by kernel_rfl
theorem okq48 : ∀ k, InstOk (call cf k) (Iq48 k)
 | 0 => fun x y e => absurd (show (none : Option _) = some y from e) (by simp)
 | k + 1 => inst_ok (c := cf) (k := k) (f := 36) (fn := Try.f36) (body := bd Try.f36) (sh := shq48) (os := rsq48) rfl Try.func36 rfl ⟨rfl, Nat.le_of_ble_eq_true rfl⟩ (COt_ok (alq48 k)) (anq48 k) (fun x => Flimb_Text (k + 1) x.1 x.2) (stq48 k)

/-! shunt/model.Count -/
def bmodel_Count (k : Nat) (m0 : ByteArray) (m1 : Int) (m2 : List (Int × Int)) (m3 : List (Int × Int)) : Option (Int) :=
 Option.bind (Fmodel_Valid k m0 m1 m2 m3) fun r8 =>
 if ((!r8) = true) then
 (some (0 : Int))
 else
 (some (((List.length m2) : Nat) : Int))
def Fmodel_Count : Nat → ByteArray → Int → List (Int × Int) → List (Int × Int) → Option (Int)
 | 0, _, _, _, _ => none
 | k + 1, m0, m1, m2, m3 => bmodel_Count k m0 m1 m2 m3
def shq50 : FS := { vs := [.g [.lf .str, .lf (.int .u8), .lf (.sl (.pr (.int .i64) (.int .i64))), .lf (.sl (.pr (.int .i64) (.int .i64)))]], bs := [] }
def rsq50 : List FS := [{ vs := [.a (.lf (.int .i64))], bs := [] }]
def Iq50 (k : Nat) : Inst := ⟨38, shq50, rsq50, fun x => Fmodel_Count k x.1 x.2.1 x.2.2.1 x.2.2.2⟩
theorem alq50 (k : Nat) : AllI (call cf k) [Iq55 k] := qA (okq55 k) qT
theorem anq50 (k : Nat) : LAll (LOk (R := DS FS.D rsq50) (fun b _ σ K => LOt Ty (kps 38) 0 b σ K []) cf (call cf k) (cf.keep 38) Try.f38.ntmps k shq50.bs.length) 0 (bd Try.f38) :=
 qA qT (qA (qA qT (qA (qA qT qT) qT)) (qA qT qT))
theorem stq50 (k : Nat) (x : shq50.D) : Fmodel_Count (k + 1) x.1 x.2.1 x.2.2.1 x.2.2.2 = body2 cf (fun f a b K => COt f a b K [Iq55 k]) (fun b _ σ K => LOt Ty (kps 38) 0 b σ K []) 38 Try.f38.ntmps Try.f38.results.toList (bd Try.f38) (shq50.enc x).1 (shq50.enc x).2 (putS FS.dec rsq50) := by kernel_rfl
theorem okq50 : ∀ k, InstOk (call cf k) (Iq50 k)
 | 0 => fun x y e => absurd (show (none : Option _) = some y from e) (by simp)
 | k + 1 => inst_ok (c := cf) (k := k) (f := 38) (fn := Try.f38) (body := bd Try.f38) (sh := shq50) (os := rsq50) rfl Try.func38 rfl ⟨rfl, Nat.le_of_ble_eq_true rfl⟩ (COt_ok (alq50 k)) (anq50 k) (fun x => Fmodel_Count (k + 1) x.1 x.2.1 x.2.2.1 x.2.2.2) (stq50 k)

/-! shunt/shuntlaw05.awake -/
def bshuntlaw05_awake (k : Nat) : Option (Bool) :=
 Option.bind (Fmodel_Part k (ByteArray.mk (List.toArray (100 :: []))) (100 : Int) (List.take 2 (((1 : Int), (-(6 : Int))) :: (((1 : Int), (-(1 : Int))) :: []))) (List.take 1 (((7 : Int), (-(1 : Int))) :: [])) (1 : Int)) fun r =>
 Option.bind (Flimb_Of k (700000001 : Int)) fun r1 =>
 Option.bind (Flimb_Of k (1 : Int)) fun r2 =>
 Option.bind (Frat_Make k r1.1 r1.2 r2.1 r2.2) fun r3 =>
 Option.bind (Fmodel_Side k (ByteArray.mk (List.toArray (100 :: []))) (100 : Int) (List.take 2 (((1 : Int), (-(6 : Int))) :: (((1 : Int), (-(1 : Int))) :: []))) (List.take 1 (((7 : Int), (-(1 : Int))) :: [])) (0 : Int) r3.1 r3.2.1 r3.2.2.1 r3.2.2.2.1) fun r4 =>
 Option.bind (Fmodel_Find k (ByteArray.mk (List.toArray (100 :: []))) (100 : Int) (List.take 2 (((1 : Int), (-(6 : Int))) :: (((1 : Int), (-(1 : Int))) :: []))) (List.take 1 (((7 : Int), (-(1 : Int))) :: [])) r3.1 r3.2.1 r3.2.2.1 r3.2.2.2.1) fun r5 =>
 Option.bind (Flimb_Text k r.2.2.2.2.1 r.2.2.2.2.2.1) fun r6 =>
 if ((r.2.2.2.2.2.2.2.2 == (0 : Int)) = true) then
 if ((r4.2 == (0 : Int)) = true) then
 if ((r5.2 == (0 : Int)) = true) then
 if ((r6.2 == (0 : Int)) = true) then
 if ((r4.1 == (1 : Int)) = true) then
 if ((r5.1 == (1 : Int)) = true) then
 if (((Array.toList (ByteArray.data r6.1)) == (Array.toList (ByteArray.data (ByteArray.mk (List.toArray (45 :: (54 :: (57 :: (57 :: (57 :: (57 :: (51 :: (48 :: (48 :: [])))))))))))))) = true) then
 if (((((List.length r.2.2.2.1) : Nat) : Int) == (1 : Int)) = true) then
 Option.bind (r.2.2.2.1)[0]? fun x =>
 if ((x == (10 : Int)) = true) then
 Option.bind (Fmodel_Valid k (ByteArray.mk (List.toArray (100 :: []))) (100 : Int) (List.take 2 (((1 : Int), (-(6 : Int))) :: (((1 : Int), (-(1 : Int))) :: []))) (List.take 1 (((7 : Int), (-(1 : Int))) :: []))) fun r7 =>
 if (r7 = true) then
 Option.bind (Fmodel_Count k (ByteArray.mk (List.toArray (100 :: []))) (100 : Int) (List.take 2 (((1 : Int), (-(6 : Int))) :: (((1 : Int), (-(1 : Int))) :: []))) (List.take 1 (((7 : Int), (-(1 : Int))) :: []))) fun r8 =>
 if ((r8 == (2 : Int)) = true) then
 Option.bind (Fmodel_Count k (ByteArray.mk (List.toArray [])) (0 : Int) [] []) fun r9 =>
 (some (r9 == (0 : Int)))
 else
 (some false)
 else
 (some false)
 else
 (some false)
 else
 (some false)
 else
 (some false)
 else
 (some false)
 else
 (some false)
 else
 (some false)
 else
 (some false)
 else
 (some false)
 else
 (some false)
def Fshuntlaw05_awake : Nat → Option (Bool)
 | 0 => none
 | k + 1 => bshuntlaw05_awake k
def shq72 : FS := { vs := [], bs := [] }
def rsq72 : List FS := [{ vs := [.a (.lf .bool)], bs := [] }]
def Iq72 (k : Nat) : Inst := ⟨11, shq72, rsq72, fun x => Fshuntlaw05_awake k⟩
theorem alq72 (k : Nat) : AllI (call cf k) [Iq53 k, Iq47 k, Iq65 k, Iq54 k, Iq51 k, Iq48 k, Iq55 k, Iq50 k] := qA (okq53 k) (qA (okq47 k) (qA (okq65 k) (qA (okq54 k) (qA (okq51 k) (qA (okq48 k) (qA (okq55 k) (qA (okq50 k) qT)))))))
theorem anq72 (k : Nat) : LAll (LOk (R := DS FS.D rsq72) (fun b _ σ K => LOt Ty (kps 11) 0 b σ K []) cf (call cf k) (cf.keep 11) Try.f11.ntmps k shq72.bs.length) 0 (bd Try.f11) :=
 qA qT (qA qT (qA qT (qA qT (qA qT (qA qT (qA qT (qA qT qT)))))))
theorem stq72 (k : Nat) (x : shq72.D) : Fshuntlaw05_awake (k + 1) = body2 cf (fun f a b K => COt f a b K [Iq53 k, Iq47 k, Iq65 k, Iq54 k, Iq51 k, Iq48 k, Iq55 k, Iq50 k]) (fun b _ σ K => LOt Ty (kps 11) 0 b σ K []) 11 Try.f11.ntmps Try.f11.results.toList (bd Try.f11) (shq72.enc x).1 (shq72.enc x).2 (putS FS.dec rsq72) := by kernel_rfl
theorem okq72 : ∀ k, InstOk (call cf k) (Iq72 k)
 | 0 => fun x y e => absurd (show (none : Option _) = some y from e) (by simp)
 | k + 1 => inst_ok (c := cf) (k := k) (f := 11) (fn := Try.f11) (body := bd Try.f11) (sh := shq72) (os := rsq72) rfl Try.func11 rfl ⟨rfl, Nat.le_of_ble_eq_true rfl⟩ (COt_ok (alq72 k)) (anq72 k) (fun x => Fshuntlaw05_awake (k + 1)) (stq72 k)

/-! shunt/shuntref05.Name -/
def Lshuntref05_Name_0s (k : Nat) (rec : ByteArray → Int → Option ((Bool) ⊕ (ByteArray))) (s : ByteArray) (i : Int) : Option ((Bool) ⊕ (ByteArray)) :=
 if ((decide (i < (((ByteArray.size s) : Nat) : Int))) = true) then
 if ((0 : Int) ≤ i) then
 Option.bind ((ByteArray.data s))[(Int.toNat i)]? fun x =>
 if ((decide ((((UInt8.toNat x) : Nat) : Int) < (97 : Int))) = false) then
 if ((decide ((((UInt8.toNat x) : Nat) : Int) > (122 : Int))) = true) then
 if ((decide ((((UInt8.toNat x) : Nat) : Int) < (48 : Int))) = false) then
 if ((decide ((((UInt8.toNat x) : Nat) : Int) > (57 : Int))) = true) then
 if (((((UInt8.toNat x) : Nat) : Int) != (95 : Int)) = true) then
 (some (Sum.inl false))
 else
 rec s (IntKind.wrap .i64 (i + (1 : Int)))
 else
 rec s (IntKind.wrap .i64 (i + (1 : Int)))
 else
 if (((((UInt8.toNat x) : Nat) : Int) != (95 : Int)) = true) then
 (some (Sum.inl false))
 else
 rec s (IntKind.wrap .i64 (i + (1 : Int)))
 else
 rec s (IntKind.wrap .i64 (i + (1 : Int)))
 else
 if ((decide ((((UInt8.toNat x) : Nat) : Int) < (48 : Int))) = false) then
 if ((decide ((((UInt8.toNat x) : Nat) : Int) > (57 : Int))) = true) then
 if (((((UInt8.toNat x) : Nat) : Int) != (95 : Int)) = true) then
 (some (Sum.inl false))
 else
 rec s (IntKind.wrap .i64 (i + (1 : Int)))
 else
 rec s (IntKind.wrap .i64 (i + (1 : Int)))
 else
 if (((((UInt8.toNat x) : Nat) : Int) != (95 : Int)) = true) then
 (some (Sum.inl false))
 else
 rec s (IntKind.wrap .i64 (i + (1 : Int)))
 else
 none
 else
 (some (Sum.inr s))
def Lshuntref05_Name_0 (k n : Nat) : ByteArray → Int → Option ((Bool) ⊕ (ByteArray)) := Nat.rec (fun _ _ => none) (fun _ r => Lshuntref05_Name_0s k r) n
def bshuntref05_Name (k : Nat) (s : ByteArray) : Option (Bool) :=
 Option.bind (Lshuntref05_Name_0 k k s (0 : Int)) fun r1 =>
 eitherK r1
 (fun r1 =>
 (some r1))
 (fun r1 =>
 if ((decide ((((ByteArray.size r1) : Nat) : Int) ≥ (1 : Int))) = true) then
 (some (decide ((((ByteArray.size r1) : Nat) : Int) ≤ (16 : Int))))
 else
 (some false))
def Fshuntref05_Name : Nat → ByteArray → Option (Bool)
 | 0, _ => none
 | k + 1, s => bshuntref05_Name k s
def shq99 : FS := { vs := [.a (.lf .str)], bs := [] }
def rsq99 : List FS := [{ vs := [.a (.lf .bool)], bs := [] }]
def Iq99 (k : Nat) : Inst := ⟨66, shq99, rsq99, fun x => Fshuntref05_Name k x⟩
theorem alq99 (k : Nat) : AllI (call cf k) [] := True.intro
def hsq153 : List SS := [{ fr := [(0, .a (.lf .str)), (3, .a (.lf (.int .i64)))], mem := [], nx := 0 }]
def osq153 : List OS := [⟨none, { fr := [(2, .a (.lf .bool))], mem := [], nx := 0 }⟩, ⟨some 0, { fr := [(0, .a (.lf .str))], mem := [], nx := 0 }⟩]
def LIq153 (k : Nat) : LInst := ⟨0, hsq153, osq153, fun x => Lshuntref05_Name_0 k k x.1 x.2⟩
theorem anq153 (k : Nat) : LAll (LOk (R := DS OS.D osq153) (fun b _ σ K => LOt Ty (kps 66) 0 b σ K []) cf (call cf k) (kps 66) Try.f66.ntmps k 0) 0 (lb Try.f66 0) :=
 qA (qA qT (qA qT qT)) (qA (qA qT (qA qT (qA (qA qT qT) qT))) qT)
theorem stq153 (k n : Nat) (x : DS SS.D hsq153) : Lshuntref05_Name_0 k (n + 1) x.1 x.2 = encSK SS.enc (fun σ => run2 cf (fun f a b K => COt f a b K []) (fun b _ σ K => LOt Ty (kps 66) 0 b σ K []) Try.f66.ntmps 0 (lb Try.f66 0) σ (nextK Ty (kps 66 0) 0 hsq153 osq153 fun x => Lshuntref05_Name_0 k n x.1 x.2)) hsq153 x := by kernel_rfl
theorem loq153 (k : Nat) : LIOk cf (call cf k) (kps 66) Try.f66.ntmps k 0 0 (lb Try.f66 0) (LIq153 k) :=
 loop_ok (c := cf) (callF := call cf k) (kp := kps 66) (nt := Try.f66.ntmps) (k := k) (p := 0) (b := 0) (x0 := lb Try.f66 0) (hs := hsq153) (os := osq153) (COt_ok (alq99 k)) (anq153 k) (fun n x => Lshuntref05_Name_0 k n x.1 x.2) (fun _ => rfl) (stq153 k)
theorem anq99 (k : Nat) : LAll (LOk (R := DS FS.D rsq99) (fun b _ σ K => LOt Ty (kps 66) 0 b σ K [LIq153 k]) cf (call cf k) (cf.keep 66) Try.f66.ntmps k shq99.bs.length) 0 (bd Try.f66) :=
 qA qT (qA (qA qT (LOt_ok (c := cf) (callF := call cf k) (kp := kps 66) (nt := Try.f66.ntmps) (k := k) (p := 0) (b := 0) (x0 := lb Try.f66 0) (l := [LIq153 k]) (qA (fun _ => loq153 k) qT))) (qA qT qT))
theorem stq99 (k : Nat) (x : shq99.D) : Fshuntref05_Name (k + 1) x = body2 cf (fun f a b K => COt f a b K []) (fun b _ σ K => LOt Ty (kps 66) 0 b σ K [LIq153 k]) 66 Try.f66.ntmps Try.f66.results.toList (bd Try.f66) (shq99.enc x).1 (shq99.enc x).2 (putS FS.dec rsq99) := by kernel_rfl
theorem okq99 : ∀ k, InstOk (call cf k) (Iq99 k)
 | 0 => fun x y e => absurd (show (none : Option _) = some y from e) (by simp)
 | k + 1 => inst_ok (c := cf) (k := k) (f := 66) (fn := Try.f66) (body := bd Try.f66) (sh := shq99) (os := rsq99) rfl Try.func66 rfl ⟨rfl, Nat.le_of_ble_eq_true rfl⟩ (COt_ok (alq99 k)) (anq99 k) (fun x => Fshuntref05_Name (k + 1) x) (stq99 k)

/-! shunt/shuntref03.Valid -/
def bshuntref03_Valid (k : Nat) (n0 : Int) (n1 : Int) : Option (Bool) :=
 if ((n0 == (0 : Int)) = false) then
 if (((Int.tmod n0 (10 : Int)) == (0 : Int)) = true) then
 if ((n0 == (0 : Int)) = true) then
 (some (n1 == (0 : Int)))
 else
 (some false)
 else
 if ((decide (n0 ≤ (999999999 : Int))) = true) then
 if ((decide (n0 ≥ (-(999999999 : Int)))) = true) then
 if ((decide (n1 ≤ (9 : Int))) = true) then
 (some (decide (n1 ≥ (-(18 : Int)))))
 else
 (some false)
 else
 (some false)
 else
 (some false)
 else
 if ((n0 == (0 : Int)) = true) then
 (some (n1 == (0 : Int)))
 else
 (some false)
def Fshuntref03_Valid : Nat → Int → Int → Option (Bool)
 | 0, _, _ => none
 | k + 1, n0, n1 => bshuntref03_Valid k n0 n1
def shq96 : FS := { vs := [.g [.lf (.int .i64), .lf (.int .i64)]], bs := [] }
def rsq96 : List FS := [{ vs := [.a (.lf .bool)], bs := [] }]
def Iq96 (k : Nat) : Inst := ⟨23, shq96, rsq96, fun x => Fshuntref03_Valid k x.1 x.2⟩
theorem alq96 (k : Nat) : AllI (call cf k) [] := True.intro
theorem anq96 (k : Nat) : LAll (LOk (R := DS FS.D rsq96) (fun b _ σ K => LOt Ty (kps 23) 0 b σ K []) cf (call cf k) (cf.keep 23) Try.f23.ntmps k shq96.bs.length) 0 (bd Try.f23) :=
 qA qT (qA (qA qT (qA (qA qT qT) qT)) (qA qT qT))
theorem stq96 (k : Nat) (x : shq96.D) : Fshuntref03_Valid (k + 1) x.1 x.2 = body2 cf (fun f a b K => COt f a b K []) (fun b _ σ K => LOt Ty (kps 23) 0 b σ K []) 23 Try.f23.ntmps Try.f23.results.toList (bd Try.f23) (shq96.enc x).1 (shq96.enc x).2 (putS FS.dec rsq96) := by kernel_rfl
theorem okq96 : ∀ k, InstOk (call cf k) (Iq96 k)
 | 0 => fun x y e => absurd (show (none : Option _) = some y from e) (by simp)
 | k + 1 => inst_ok (c := cf) (k := k) (f := 23) (fn := Try.f23) (body := bd Try.f23) (sh := shq96) (os := rsq96) rfl Try.func23 rfl ⟨rfl, Nat.le_of_ble_eq_true rfl⟩ (COt_ok (alq96 k)) (anq96 k) (fun x => Fshuntref03_Valid (k + 1) x.1 x.2) (stq96 k)

/-! shunt/shuntref01.Wide -/
def Lshuntref01_Wide_0s (k : Nat) (rec : Int → Bool → Nat → Bool → Nat → List Int → List Int → Option (Bool × Nat × Bool × Nat × List Int × List Int)) (u : Int) (x0 : Bool) (x1 : Nat) (a0 : Bool) (a1 : Nat) (m : List Int) (m1 : List Int) : Option (Bool × Nat × Bool × Nat × List Int × List Int) :=
 if ((decide (u > (0 : Int))) = true) then
 if (a1 ≤ (List.length m1)) then
 if (((a1 + (List.length (List.take 1 ((IntKind.wrap .i64 (Int.tmod u (65536 : Int))) :: [])))) * 8) ≤ 140737488355328) then
 rec (IntKind.wrap .u64 (Int.tdiv u (65536 : Int))) x0 x1 a0 (a1 + (List.length (List.take 1 ((IntKind.wrap .i64 (Int.tmod u (65536 : Int))) :: [])))) m ((List.take a1 m1) ++ (List.take 1 ((IntKind.wrap .i64 (Int.tmod u (65536 : Int))) :: [])))
 else
 none
 else
 none
 else
 (some (x0, x1, a0, a1, m, m1))
def Lshuntref01_Wide_0 (k n : Nat) : Int → Bool → Nat → Bool → Nat → List Int → List Int → Option (Bool × Nat × Bool × Nat × List Int × List Int) := Nat.rec (fun _ _ _ _ _ _ _ => none) (fun _ r => Lshuntref01_Wide_0s k r) n
def bshuntref01_Wide (k : Nat) (v : Int) : Option (Bool × List Int) :=
 if ((decide (v < (0 : Int))) = true) then
 Option.bind (Lshuntref01_Wide_0 k k (IntKind.wrap .u64 ((0 : Int) - (IntKind.wrap .u64 v))) false 0 true 0 [] []) fun r4 =>
 if ((0 + r4.2.2.2.1) ≤ (List.length r4.2.2.2.2.2)) then
 (some (r4.2.2.1, (List.take r4.2.2.2.1 r4.2.2.2.2.2)))
 else
 none
 else
 Option.bind (Lshuntref01_Wide_0 k k (IntKind.wrap .u64 v) false 0 false 0 [] []) fun r4 =>
 if ((0 + r4.2.2.2.1) ≤ (List.length r4.2.2.2.2.2)) then
 (some (r4.2.2.1, (List.take r4.2.2.2.1 r4.2.2.2.2.2)))
 else
 none
def Fshuntref01_Wide : Nat → Int → Option (Bool × List Int)
 | 0, _ => none
 | k + 1, v => bshuntref01_Wide k v
def shq86 : FS := { vs := [.a (.lf (.int .i64))], bs := [] }
def rsq86 : List FS := [{ vs := [.g [.lf .bool, .lf (.sl (.int .i64))]], bs := [] }]
def Iq86 (k : Nat) : Inst := ⟨96, shq86, rsq86, fun x => Fshuntref01_Wide k x⟩
theorem alq86 (k : Nat) : AllI (call cf k) [] := True.intro
def hsq146 : List SS := [{ fr := [(2, .a (.ptr 0 0 0)), (3, .a (.ptr 1 0 0)), (4, .a (.lf (.int .u64)))], mem := [(0, some (.raw [[.lf .bool, .smz 2]] 2 77 false false)), (1, some (.raw [[.lf .bool, .smz 3]] 2 77 false false)), (2, some (.arr (.int .i64) 1 3 false)), (3, some (.arr (.int .i64) 1 3 false))], nx := 4 }]
def osq146 : List OS := [⟨some 0, { fr := [(2, .a (.ptr 0 0 0)), (3, .a (.ptr 1 0 0))], mem := [(0, some (.raw [[.lf .bool, .smz 2]] 2 77 false false)), (1, some (.raw [[.lf .bool, .smz 3]] 2 77 false false)), (2, some (.arr (.int .i64) 1 3 false)), (3, some (.arr (.int .i64) 1 3 false))], nx := 4 }⟩]
def LIq146 (k : Nat) : LInst := ⟨0, hsq146, osq146, fun x => Lshuntref01_Wide_0 k k x.1 x.2.1 x.2.2.1 x.2.2.2.1 x.2.2.2.2.1 x.2.2.2.2.2.1 x.2.2.2.2.2.2⟩
theorem anq146 (k : Nat) : LAll (LOk (R := DS OS.D osq146) (fun b _ σ K => LOt Ty (kps 96) 0 b σ K []) cf (call cf k) (kps 96) Try.f96.ntmps k 0) 0 (lb Try.f96 0) :=
 qA (qA qT (qA qT qT)) (qA qT qT)
theorem stq146 (k n : Nat) (x : DS SS.D hsq146) : Lshuntref01_Wide_0 k (n + 1) x.1 x.2.1 x.2.2.1 x.2.2.2.1 x.2.2.2.2.1 x.2.2.2.2.2.1 x.2.2.2.2.2.2 = encSK SS.enc (fun σ => run2 cf (fun f a b K => COt f a b K []) (fun b _ σ K => LOt Ty (kps 96) 0 b σ K []) Try.f96.ntmps 0 (lb Try.f96 0) σ (nextK Ty (kps 96 0) 0 hsq146 osq146 fun x => Lshuntref01_Wide_0 k n x.1 x.2.1 x.2.2.1 x.2.2.2.1 x.2.2.2.2.1 x.2.2.2.2.2.1 x.2.2.2.2.2.2)) hsq146 x := by kernel_rfl
theorem loq146 (k : Nat) : LIOk cf (call cf k) (kps 96) Try.f96.ntmps k 0 0 (lb Try.f96 0) (LIq146 k) :=
 loop_ok (c := cf) (callF := call cf k) (kp := kps 96) (nt := Try.f96.ntmps) (k := k) (p := 0) (b := 0) (x0 := lb Try.f96 0) (hs := hsq146) (os := osq146) (COt_ok (alq86 k)) (anq146 k) (fun n x => Lshuntref01_Wide_0 k n x.1 x.2.1 x.2.2.1 x.2.2.2.1 x.2.2.2.2.1 x.2.2.2.2.2.1 x.2.2.2.2.2.2) (fun _ => rfl) (stq146 k)
theorem anq86 (k : Nat) : LAll (LOk (R := DS FS.D rsq86) (fun b _ σ K => LOt Ty (kps 96) 0 b σ K [LIq146 k]) cf (call cf k) (cf.keep 96) Try.f96.ntmps k shq86.bs.length) 0 (bd Try.f96) :=
 qA qT (qA qT (qA qT (qA (qA qT (qA (qA qT qT) qT)) (qA (LOt_ok (c := cf) (callF := call cf k) (kp := kps 96) (nt := Try.f96.ntmps) (k := k) (p := 0) (b := 0) (x0 := lb Try.f96 0) (l := [LIq146 k]) (qA (fun _ => loq146 k) qT)) (qA qT qT)))))
theorem stq86 (k : Nat) (x : shq86.D) : Fshuntref01_Wide (k + 1) x = body2 cf (fun f a b K => COt f a b K []) (fun b _ σ K => LOt Ty (kps 96) 0 b σ K [LIq146 k]) 96 Try.f96.ntmps Try.f96.results.toList (bd Try.f96) (shq86.enc x).1 (shq86.enc x).2 (putS FS.dec rsq86) := by kernel_rfl
theorem okq86 : ∀ k, InstOk (call cf k) (Iq86 k)
 | 0 => fun x y e => absurd (show (none : Option _) = some y from e) (by simp)
 | k + 1 => inst_ok (c := cf) (k := k) (f := 96) (fn := Try.f96) (body := bd Try.f96) (sh := shq86) (os := rsq86) rfl Try.func96 rfl ⟨rfl, Nat.le_of_ble_eq_true rfl⟩ (COt_ok (alq86 k)) (anq86 k) (fun x => Fshuntref01_Wide (k + 1) x) (stq86 k)


end
end Go.Proofs.Ytbhnafdmilfobaa.Am
