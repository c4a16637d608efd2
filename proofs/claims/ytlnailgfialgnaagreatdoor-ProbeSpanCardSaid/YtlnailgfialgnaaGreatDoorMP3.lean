/- Printed functions: each says what the typed machine says of the program -/
import Derived.Test.YtlnailgfialgnaaGreatDoorMP2
import Derived.KernelRfl

set_option linter.unusedVariables false
set_option maxRecDepth 100000
namespace Go.Proofs.YtlnailgfialgnaaGreatDoor.Am
open Go
noncomputable section

/-! shunt/big.sub -/
def Lbig_sub_0s (k : Nat) (rec : List Int → List Int → Nat → Int → Int → Int → List Int → Option (Nat × List Int)) (a : List Int) (b : List Int) (out1 : Nat) (borrow : Int) (x : Int) (x1 : Int) (outs : List Int) : Option (Nat × List Int) :=
 if ((decide (x1 < x)) = true) then
 if ((decide (x1 < (((List.length b) : Nat) : Int))) = true) then
 if ((0 : Int) ≤ x1) then
 Option.bind (b)[(Int.toNat x1)]? fun x5 =>
 if ((0 : Int) ≤ x1) then
 Option.bind (a)[(Int.toNat x1)]? fun x6 =>
 if (((0 : Int) ≤ x1) ∧ (x1 < ((out1 : Nat) : Int))) then
 Option.bind (outs)[(0 + (Int.toNat x1))]? fun x7 =>
 if ((0 : Int) ≤ x1) then
 Option.bind (a)[(Int.toNat x1)]? fun x8 =>
 if ((decide ((IntKind.wrap .u64 x8) < (IntKind.wrap .u64 (borrow + (IntKind.wrap .u64 x5))))) = true) then
 rec a b out1 (1 : Int) x (IntKind.wrap .i64 (x1 + (1 : Int))) (List.set outs (0 + (Int.toNat x1)) (IntKind.wrap .u32 (IntKind.wrap .u64 ((IntKind.wrap .u64 x6) - (IntKind.wrap .u64 (borrow + (IntKind.wrap .u64 x5)))))))
 else
 rec a b out1 (0 : Int) x (IntKind.wrap .i64 (x1 + (1 : Int))) (List.set outs (0 + (Int.toNat x1)) (IntKind.wrap .u32 (IntKind.wrap .u64 ((IntKind.wrap .u64 x6) - (IntKind.wrap .u64 (borrow + (IntKind.wrap .u64 x5)))))))
 else
 none
 else
 none
 else
 none
 else
 none
 else
 if ((0 : Int) ≤ x1) then
 Option.bind (a)[(Int.toNat x1)]? fun x5 =>
 if (((0 : Int) ≤ x1) ∧ (x1 < ((out1 : Nat) : Int))) then
 Option.bind (outs)[(0 + (Int.toNat x1))]? fun x6 =>
 if ((0 : Int) ≤ x1) then
 Option.bind (a)[(Int.toNat x1)]? fun x7 =>
 if ((decide ((IntKind.wrap .u64 x7) < borrow)) = true) then
 rec a b out1 (1 : Int) x (IntKind.wrap .i64 (x1 + (1 : Int))) (List.set outs (0 + (Int.toNat x1)) (IntKind.wrap .u32 (IntKind.wrap .u64 ((IntKind.wrap .u64 x5) - borrow))))
 else
 rec a b out1 (0 : Int) x (IntKind.wrap .i64 (x1 + (1 : Int))) (List.set outs (0 + (Int.toNat x1)) (IntKind.wrap .u32 (IntKind.wrap .u64 ((IntKind.wrap .u64 x5) - borrow))))
 else
 none
 else
 none
 else
 none
 else
 (some (out1, outs))
def Lbig_sub_0 (k n : Nat) : List Int → List Int → Nat → Int → Int → Int → List Int → Option (Nat × List Int) := Nat.rec (fun _ _ _ _ _ _ _ => none) (fun _ r => Lbig_sub_0s k r) n
def bbig_sub (k : Nat) (a : List Int) (b : List Int) : Option (List Int) :=
 if (((0 : Int) ≤ (((List.length a) : Nat) : Int)) ∧ (((((List.length a) : Nat) : Int) ≤ (((List.length a) : Nat) : Int)) ∧ (((((List.length a) : Nat) : Int) * (4 : Int)) ≤ (140737488355328 : Int)))) then
 Option.bind (Lbig_sub_0 k k a b (Int.toNat (((List.length a) : Nat) : Int)) (0 : Int) (((List.length a) : Nat) : Int) (0 : Int) (List.replicate (Int.toNat (((List.length a) : Nat) : Int)) (0 : Int))) fun r6 =>
 if ((0 + r6.1) ≤ (List.length r6.2)) then
 (some (List.take r6.1 r6.2))
 else
 none
 else
 none
def Fbig_sub : Nat → List Int → List Int → Option (List Int)
 | 0, _, _ => none
 | k + 1, a, b => bbig_sub k a b
def shq34 : FS := { vs := [.a (.lf (.sl (.int .u32))), .a (.lf (.sl (.int .u32)))], bs := [] }
def rsq34 : List FS := [{ vs := [.a (.lf (.sl (.int .u32)))], bs := [] }]
def Iq34 (k : Nat) : Inst := ⟨201, shq34, rsq34, fun x => Fbig_sub k x.1 x.2⟩
theorem alq34 (k : Nat) : AllI (call cf k) [] := True.intro
def hsq123 : List SS := [{ fr := [(0, .a (.lf (.sl (.int .u32)))), (1, .a (.lf (.sl (.int .u32)))), (5, .a (.smz 0)), (6, .a (.lf (.int .u64))), (13, .a (.lf (.int .i64))), (14, .a (.lf (.int .i64)))], mem := [(0, some (.arr (.int .u32) 1 106 false))], nx := 1 }]
def osq123 : List OS := [⟨some 0, { fr := [(5, .a (.smz 0))], mem := [(0, some (.arr (.int .u32) 1 106 false))], nx := 1 }⟩]
def LIq123 (k : Nat) : LInst := ⟨0, hsq123, osq123, fun x => Lbig_sub_0 k k x.1 x.2.1 x.2.2.1 x.2.2.2.1 x.2.2.2.2.1 x.2.2.2.2.2.1 x.2.2.2.2.2.2⟩
theorem anq123 (k : Nat) : LAll (LOk (R := DS OS.D osq123) (fun b _ σ K => LOt Ty (kps 201) 0 b σ K []) cf (call cf k) (kps 201) Tryz.f201.ntmps k 0) 0 (lb Tryz.f201 0) :=
 qA qT (qA (qA qT qT) (qA (qA qT (qA qT (qA (qA qT (qA qT qT)) (qA qT (qA qT (qA qT (qA qT qT))))))) qT))
theorem stq123 (k n : Nat) (x : DS SS.D hsq123) : Lbig_sub_0 k (n + 1) x.1 x.2.1 x.2.2.1 x.2.2.2.1 x.2.2.2.2.1 x.2.2.2.2.2.1 x.2.2.2.2.2.2 = encSK SS.enc (fun σ => run2 cf (fun f a b K => COt f a b K []) (fun b _ σ K => LOt Ty (kps 201) 0 b σ K []) Tryz.f201.ntmps 0 (lb Tryz.f201 0) σ (nextK Ty (kps 201 0) 0 hsq123 osq123 fun x => Lbig_sub_0 k n x.1 x.2.1 x.2.2.1 x.2.2.2.1 x.2.2.2.2.1 x.2.2.2.2.2.1 x.2.2.2.2.2.2)) hsq123 x := by kernel_rfl
theorem loq123 (k : Nat) : LIOk cf (call cf k) (kps 201) Tryz.f201.ntmps k 0 0 (lb Tryz.f201 0) (LIq123 k) :=
 loop_ok (c := cf) (callF := call cf k) (kp := kps 201) (nt := Tryz.f201.ntmps) (k := k) (p := 0) (b := 0) (x0 := lb Tryz.f201 0) (hs := hsq123) (os := osq123) (COt_ok (alq34 k)) (anq123 k) (fun n x => Lbig_sub_0 k n x.1 x.2.1 x.2.2.1 x.2.2.2.1 x.2.2.2.2.1 x.2.2.2.2.2.1 x.2.2.2.2.2.2) (fun _ => rfl) (stq123 k)
theorem anq34 (k : Nat) : LAll (LOk (R := DS FS.D rsq34) (fun b _ σ K => LOt Ty (kps 201) 0 b σ K [LIq123 k]) cf (call cf k) (cf.keep 201) Tryz.f201.ntmps k shq34.bs.length) 0 (bd Tryz.f201) :=
 qA qT (qA qT (qA qT (qA (qA qT (LOt_ok (c := cf) (callF := call cf k) (kp := kps 201) (nt := Tryz.f201.ntmps) (k := k) (p := 0) (b := 0) (x0 := lb Tryz.f201 0) (l := [LIq123 k]) (qA (fun _ => loq123 k) qT))) (qA qT qT))))
theorem stq34 (k : Nat) (x : shq34.D) : Fbig_sub (k + 1) x.1 x.2 = body2 cf (fun f a b K => COt f a b K []) (fun b _ σ K => LOt Ty (kps 201) 0 b σ K [LIq123 k]) 201 Tryz.f201.ntmps Tryz.f201.results.toList (bd Tryz.f201) (shq34.enc x).1 (shq34.enc x).2 (putS FS.dec rsq34) := by kernel_rfl
theorem okq34 : ∀ k, InstOk (call cf k) (Iq34 k)
 | 0 => fun x y e => absurd (show (none : Option _) = some y from e) (by simp)
 | k + 1 => inst_ok (c := cf) (k := k) (f := 201) (fn := Tryz.f201) (body := bd Tryz.f201) (sh := shq34) (os := rsq34) rfl Tryz.func201 rfl ⟨rfl, Nat.le_of_ble_eq_true rfl⟩ (COt_ok (alq34 k)) (anq34 k) (fun x => Fbig_sub (k + 1) x.1 x.2) (stq34 k)

/-! (*shunt/big.Int).sum -/
def bbig_Int_sum_soy (k : Nat) (yneg : Bool) (y : List Int) (x : Bool) : Option (Bool × List Int) :=
 if ((x == yneg) = true) then
 Option.bind (Fbig_add k [] y) fun r5 =>
 Option.bind (Fbig_Int_set_cvg k x r5 x) fun r6 =>
 (some (r6.1, r6.2))
 else
 Option.bind (Fbig_cmp k [] y) fun r5 =>
 if ((decide (r5 ≥ (0 : Int))) = true) then
 Option.bind (Fbig_sub k [] y) fun r6 =>
 Option.bind (Fbig_Int_set_cvg k x r6 x) fun r7 =>
 (some (r7.1, r7.2))
 else
 Option.bind (Fbig_sub k y []) fun r6 =>
 Option.bind (Fbig_Int_set_cvg k yneg r6 x) fun r7 =>
 (some (r7.1, r7.2))
def Fbig_Int_sum_soy : Nat → Bool → List Int → Bool → Option (Bool × List Int)
 | 0, _, _, _ => none
 | k + 1, yneg, y, x => bbig_Int_sum_soy k yneg y x
def shq19 : FS := { vs := [.a (.ptr 0 0 0), .a (.ptr 0 0 0), .a (.lf .bool), .a (.lf (.sl (.int .u32)))], bs := [.raw [[.lf .bool, .snil 1 106]] 2 147 true false false] }
def rsq19 : List FS := [{ vs := [.a (.ptr 0 0 0)], bs := [.raw [[.lf .bool, .lf (.sl (.int .u32))]] 2 147 true false false] }]
def Iq19 (k : Nat) : Inst := ⟨140, shq19, rsq19, fun x => Fbig_Int_sum_soy k x.1 x.2.1 x.2.2⟩
theorem alq19 (k : Nat) : AllI (call cf k) [Iq28 k, Iq16 k, Iq29 k, Iq34 k] := qA (okq28 k) (qA (okq16 k) (qA (okq29 k) (qA (okq34 k) qT)))
theorem anq19 (k : Nat) : LAll (LOk (R := DS FS.D rsq19) (fun b _ σ K => LOt Ty (kps 140) 1 b σ K []) cf (call cf k) (cf.keep 140) Tryz.f140.ntmps k shq19.bs.length) 0 (bd Tryz.f140) :=
 qA qT (qA (qA qT (qA (qA qT qT) qT)) (qA (qA qT (qA (qA qT qT) qT)) (qA qT qT)))
theorem stq19 (k : Nat) (x : shq19.D) : Fbig_Int_sum_soy (k + 1) x.1 x.2.1 x.2.2 = body2 cf (fun f a b K => COt f a b K [Iq28 k, Iq16 k, Iq29 k, Iq34 k]) (fun b _ σ K => LOt Ty (kps 140) 1 b σ K []) 140 Tryz.f140.ntmps Tryz.f140.results.toList (bd Tryz.f140) (shq19.enc x).1 (shq19.enc x).2 (putS FS.dec rsq19) := by kernel_rfl
theorem okq19 : ∀ k, InstOk (call cf k) (Iq19 k)
 | 0 => fun x y e => absurd (show (none : Option _) = some y from e) (by simp)
 | k + 1 => inst_ok (c := cf) (k := k) (f := 140) (fn := Tryz.f140) (body := bd Tryz.f140) (sh := shq19) (os := rsq19) rfl Tryz.func140 rfl ⟨rfl, Nat.le_of_ble_eq_true rfl⟩ (COt_ok (alq19 k)) (anq19 k) (fun x => Fbig_Int_sum_soy (k + 1) x.1 x.2.1 x.2.2) (stq19 k)

/-! (*shunt/big.Int).Add -/
def bbig_Int_Add_uzb (k : Nat) (x : Bool) (y0 : Bool) (y1 : List Int) : Option (Bool × List Int × Bool × List Int) :=
 Option.bind (Fbig_Int_sum_soy k y0 y1 x) fun r5 =>
 (some (r5.1, r5.2, y0, y1))
def Fbig_Int_Add_uzb : Nat → Bool → Bool → List Int → Option (Bool × List Int × Bool × List Int)
 | 0, _, _, _ => none
 | k + 1, x, y0, y1 => bbig_Int_Add_uzb k x y0 y1
def shq5 : FS := { vs := [.a (.ptr 0 0 0), .a (.ptr 0 0 0), .a (.ptr 1 0 0)], bs := [.raw [[.lf .bool, .snil 1 106]] 2 147 true false false, .raw [[.lf .bool, .lf (.sl (.int .u32))]] 2 147 true false false] }
def rsq5 : List FS := [{ vs := [.a (.ptr 0 0 0)], bs := [.raw [[.lf .bool, .lf (.sl (.int .u32))]] 2 147 true false false, .raw [[.lf .bool, .lf (.sl (.int .u32))]] 2 147 true false false] }]
def Iq5 (k : Nat) : Inst := ⟨86, shq5, rsq5, fun x => Fbig_Int_Add_uzb k x.1 x.2.1 x.2.2⟩
theorem alq5 (k : Nat) : AllI (call cf k) [Iq19 k] := qA (okq19 k) qT
theorem anq5 (k : Nat) : LAll (LOk (R := DS FS.D rsq5) (fun b _ σ K => LOt Ty (kps 86) 2 b σ K []) cf (call cf k) (cf.keep 86) Tryz.f86.ntmps k shq5.bs.length) 0 (bd Tryz.f86) :=
 qA qT (qA qT qT)
theorem stq5 (k : Nat) (x : shq5.D) : Fbig_Int_Add_uzb (k + 1) x.1 x.2.1 x.2.2 = body2 cf (fun f a b K => COt f a b K [Iq19 k]) (fun b _ σ K => LOt Ty (kps 86) 2 b σ K []) 86 Tryz.f86.ntmps Tryz.f86.results.toList (bd Tryz.f86) (shq5.enc x).1 (shq5.enc x).2 (putS FS.dec rsq5) := by kernel_rfl
theorem okq5 : ∀ k, InstOk (call cf k) (Iq5 k)
 | 0 => fun x y e => absurd (show (none : Option _) = some y from e) (by simp)
 | k + 1 => inst_ok (c := cf) (k := k) (f := 86) (fn := Tryz.f86) (body := bd Tryz.f86) (sh := shq5) (os := rsq5) rfl Tryz.func86 rfl ⟨rfl, Nat.le_of_ble_eq_true rfl⟩ (COt_ok (alq5 k)) (anq5 k) (fun x => Fbig_Int_Add_uzb (k + 1) x.1 x.2.1 x.2.2) (stq5 k)

/-! (*shunt/big.Int).sum -/
def bbig_Int_sum_ahd (k : Nat) (yneg : Bool) (y : List Int) (x0 : Bool) (x1 : List Int) : Option (Bool × List Int) :=
 if ((x0 == yneg) = true) then
 Option.bind (Fbig_add k x1 y) fun r5 =>
 Option.bind (Fbig_Int_set_paj k x0 r5 x0 x1) fun r6 =>
 (some (r6.1, r6.2))
 else
 Option.bind (Fbig_cmp k x1 y) fun r5 =>
 if ((decide (r5 ≥ (0 : Int))) = true) then
 Option.bind (Fbig_sub k x1 y) fun r6 =>
 Option.bind (Fbig_Int_set_paj k x0 r6 x0 x1) fun r7 =>
 (some (r7.1, r7.2))
 else
 Option.bind (Fbig_sub k y x1) fun r6 =>
 Option.bind (Fbig_Int_set_paj k yneg r6 x0 x1) fun r7 =>
 (some (r7.1, r7.2))
def Fbig_Int_sum_ahd : Nat → Bool → List Int → Bool → List Int → Option (Bool × List Int)
 | 0, _, _, _, _ => none
 | k + 1, yneg, y, x0, x1 => bbig_Int_sum_ahd k yneg y x0 x1
def shq18 : FS := { vs := [.a (.ptr 0 0 0), .a (.ptr 0 0 0), .a (.lf .bool), .a (.lf (.sl (.int .u32)))], bs := [.raw [[.lf .bool, .lf (.sl (.int .u32))]] 2 147 true false false] }
def rsq18 : List FS := [{ vs := [.a (.ptr 0 0 0)], bs := [.raw [[.lf .bool, .lf (.sl (.int .u32))]] 2 147 true false false] }]
def Iq18 (k : Nat) : Inst := ⟨140, shq18, rsq18, fun x => Fbig_Int_sum_ahd k x.1 x.2.1 x.2.2.1 x.2.2.2⟩
theorem alq18 (k : Nat) : AllI (call cf k) [Iq28 k, Iq17 k, Iq29 k, Iq34 k] := qA (okq28 k) (qA (okq17 k) (qA (okq29 k) (qA (okq34 k) qT)))
theorem anq18 (k : Nat) : LAll (LOk (R := DS FS.D rsq18) (fun b _ σ K => LOt Ty (kps 140) 1 b σ K []) cf (call cf k) (cf.keep 140) Tryz.f140.ntmps k shq18.bs.length) 0 (bd Tryz.f140) :=
 qA qT (qA (qA qT (qA (qA qT qT) qT)) (qA (qA qT (qA (qA qT qT) qT)) (qA qT qT)))
theorem stq18 (k : Nat) (x : shq18.D) : Fbig_Int_sum_ahd (k + 1) x.1 x.2.1 x.2.2.1 x.2.2.2 = body2 cf (fun f a b K => COt f a b K [Iq28 k, Iq17 k, Iq29 k, Iq34 k]) (fun b _ σ K => LOt Ty (kps 140) 1 b σ K []) 140 Tryz.f140.ntmps Tryz.f140.results.toList (bd Tryz.f140) (shq18.enc x).1 (shq18.enc x).2 (putS FS.dec rsq18) := by kernel_rfl
theorem okq18 : ∀ k, InstOk (call cf k) (Iq18 k)
 | 0 => fun x y e => absurd (show (none : Option _) = some y from e) (by simp)
 | k + 1 => inst_ok (c := cf) (k := k) (f := 140) (fn := Tryz.f140) (body := bd Tryz.f140) (sh := shq18) (os := rsq18) rfl Tryz.func140 rfl ⟨rfl, Nat.le_of_ble_eq_true rfl⟩ (COt_ok (alq18 k)) (anq18 k) (fun x => Fbig_Int_sum_ahd (k + 1) x.1 x.2.1 x.2.2.1 x.2.2.2) (stq18 k)

/-! (*shunt/big.Int).Add -/
def bbig_Int_Add_jod (k : Nat) (x0 : Bool) (x1 : List Int) (y0 : Bool) (y1 : List Int) : Option (Bool × List Int × Bool × List Int) :=
 Option.bind (Fbig_Int_sum_ahd k y0 y1 x0 x1) fun r5 =>
 (some (r5.1, r5.2, y0, y1))
def Fbig_Int_Add_jod : Nat → Bool → List Int → Bool → List Int → Option (Bool × List Int × Bool × List Int)
 | 0, _, _, _, _ => none
 | k + 1, x0, x1, y0, y1 => bbig_Int_Add_jod k x0 x1 y0 y1
def shq4 : FS := { vs := [.a (.ptr 0 0 0), .a (.ptr 0 0 0), .a (.ptr 1 0 0)], bs := [.raw [[.lf .bool, .lf (.sl (.int .u32))]] 2 147 true false false, .raw [[.lf .bool, .lf (.sl (.int .u32))]] 2 147 true false false] }
def rsq4 : List FS := [{ vs := [.a (.ptr 0 0 0)], bs := [.raw [[.lf .bool, .lf (.sl (.int .u32))]] 2 147 true false false, .raw [[.lf .bool, .lf (.sl (.int .u32))]] 2 147 true false false] }]
def Iq4 (k : Nat) : Inst := ⟨86, shq4, rsq4, fun x => Fbig_Int_Add_jod k x.1 x.2.1 x.2.2.1 x.2.2.2⟩
theorem alq4 (k : Nat) : AllI (call cf k) [Iq18 k] := qA (okq18 k) qT
theorem anq4 (k : Nat) : LAll (LOk (R := DS FS.D rsq4) (fun b _ σ K => LOt Ty (kps 86) 2 b σ K []) cf (call cf k) (cf.keep 86) Tryz.f86.ntmps k shq4.bs.length) 0 (bd Tryz.f86) :=
 qA qT (qA qT qT)
theorem stq4 (k : Nat) (x : shq4.D) : Fbig_Int_Add_jod (k + 1) x.1 x.2.1 x.2.2.1 x.2.2.2 = body2 cf (fun f a b K => COt f a b K [Iq18 k]) (fun b _ σ K => LOt Ty (kps 86) 2 b σ K []) 86 Tryz.f86.ntmps Tryz.f86.results.toList (bd Tryz.f86) (shq4.enc x).1 (shq4.enc x).2 (putS FS.dec rsq4) := by kernel_rfl
theorem okq4 : ∀ k, InstOk (call cf k) (Iq4 k)
 | 0 => fun x y e => absurd (show (none : Option _) = some y from e) (by simp)
 | k + 1 => inst_ok (c := cf) (k := k) (f := 86) (fn := Tryz.f86) (body := bd Tryz.f86) (sh := shq4) (os := rsq4) rfl Tryz.func86 rfl ⟨rfl, Nat.le_of_ble_eq_true rfl⟩ (COt_ok (alq4 k)) (anq4 k) (fun x => Fbig_Int_Add_jod (k + 1) x.1 x.2.1 x.2.2.1 x.2.2.2) (stq4 k)

/-! shunt/big.Gcd -/
def Lbig_Gcd_eql_0s (k : Nat) (rec : ((Nat × List Int × Bool × Bool × List Int × List Int) ⊕ (List Int × List Int × Bool × Bool × List Int)) → Option ((Nat × Bool × Bool × List Int × List Int) ⊕ (List Int × Bool × Bool × List Int))) (x : (Nat × List Int × Bool × Bool × List Int × List Int) ⊕ (List Int × List Int × Bool × Bool × List Int)) : Option ((Nat × Bool × Bool × List Int × List Int) ⊕ (List Int × Bool × Bool × List Int)) :=
 eitherK x
 (fun x =>
 if ((decide ((((List.length x.2.1) : Nat) : Int) > (0 : Int))) = true) then
 if ((0 + x.1) ≤ (List.length x.2.2.2.2.2)) then
 Option.bind (Fbig_divide k (List.take x.1 x.2.2.2.2.2) x.2.1) fun r6 =>
 if (((0 + (List.length r6.2)) * 4) ≤ 140737488355328) then
 if ((0 + (0 + (List.length r6.2))) ≤ (List.length ((List.take 0 []) ++ r6.2))) then
 Option.bind (Fbig_trim k (List.take (0 + (List.length r6.2)) ((List.take 0 []) ++ r6.2))) fun r7 =>
 rec (Sum.inr (x.2.1, r7, x.2.2.1, x.2.2.2.1, x.2.2.2.2.1))
 else
 none
 else
 none
 else
 none
 else
 (some (Sum.inl (x.1, x.2.2.1, x.2.2.2.1, x.2.2.2.2.1, x.2.2.2.2.2))))
 (fun x =>
 if ((decide ((((List.length x.2.1) : Nat) : Int) > (0 : Int))) = true) then
 Option.bind (Fbig_divide k x.1 x.2.1) fun r6 =>
 if (((0 + (List.length r6.2)) * 4) ≤ 140737488355328) then
 if ((0 + (0 + (List.length r6.2))) ≤ (List.length ((List.take 0 []) ++ r6.2))) then
 Option.bind (Fbig_trim k (List.take (0 + (List.length r6.2)) ((List.take 0 []) ++ r6.2))) fun r7 =>
 rec (Sum.inr (x.2.1, r7, x.2.2.1, x.2.2.2.1, x.2.2.2.2))
 else
 none
 else
 none
 else
 (some (Sum.inr (x.1, x.2.2.1, x.2.2.2.1, x.2.2.2.2))))
def Lbig_Gcd_eql_0 (k n : Nat) : ((Nat × List Int × Bool × Bool × List Int × List Int) ⊕ (List Int × List Int × Bool × Bool × List Int)) → Option ((Nat × Bool × Bool × List Int × List Int) ⊕ (List Int × Bool × Bool × List Int)) := Nat.rec (fun _ => none) (fun _ r => Lbig_Gcd_eql_0s k r) n
def bbig_Gcd_eql (k : Nat) (x : Bool) (y0 : Bool) (y1 : List Int) : Option (Bool × Bool × List Int × Bool × List Int) :=
 Option.bind (Lbig_Gcd_eql_0 k k (Sum.inl (0, y1, x, y0, y1, []))) fun r6 =>
 eitherK r6
 (fun r6 =>
 if ((0 + r6.1) ≤ (List.length r6.2.2.2.2)) then
 Option.bind (Fbig_Int_set_cvg k false (List.take r6.1 r6.2.2.2.2) false) fun r7 =>
 (some (r6.2.1, r6.2.2.1, r6.2.2.2.1, r7.1, r7.2))
 else
 none)
 (fun r6 =>
 Option.bind (Fbig_Int_set_cvg k false r6.1 false) fun r7 =>
 (some (r6.2.1, r6.2.2.1, r6.2.2.2, r7.1, r7.2)))
def Fbig_Gcd_eql : Nat → Bool → Bool → List Int → Option (Bool × Bool × List Int × Bool × List Int)
 | 0, _, _, _ => none
 | k + 1, x, y0, y1 => bbig_Gcd_eql k x y0 y1
def shq3 : FS := { vs := [.a (.ptr 0 0 0), .a (.ptr 1 0 0)], bs := [.raw [[.lf .bool, .snil 1 106]] 2 147 true false false, .raw [[.lf .bool, .lf (.sl (.int .u32))]] 2 147 true false false] }
def rsq3 : List FS := [{ vs := [.a (.ptr 2 0 0)], bs := [.raw [[.lf .bool, .snil 1 106]] 2 147 true false false, .raw [[.lf .bool, .lf (.sl (.int .u32))]] 2 147 true false false, .raw [[.lf .bool, .lf (.sl (.int .u32))]] 2 147 true false false] }]
def Iq3 (k : Nat) : Inst := ⟨203, shq3, rsq3, fun x => Fbig_Gcd_eql k x.1 x.2.1 x.2.2⟩
theorem alq3 (k : Nat) : AllI (call cf k) [Iq30 k, Iq36 k, Iq16 k] := qA (okq30 k) (qA (okq36 k) (qA (okq16 k) qT))
def hsq107 : List SS := [{ fr := [(5, .a (.smz 2)), (6, .a (.lf (.sl (.int .u32))))], mem := [(0, some (.raw [[.lf .bool, .snil 1 106]] 2 147 true false false)), (1, some (.raw [[.lf .bool, .lf (.sl (.int .u32))]] 2 147 true false false)), (2, some (.arr (.int .u32) 1 106 false))], nx := 3 }, { fr := [(5, .a (.lf (.sl (.int .u32)))), (6, .a (.lf (.sl (.int .u32))))], mem := [(0, some (.raw [[.lf .bool, .snil 1 106]] 2 147 true false false)), (1, some (.raw [[.lf .bool, .lf (.sl (.int .u32))]] 2 147 true false false))], nx := 2 }]
def osq107 : List OS := [⟨some 0, { fr := [(5, .a (.smz 2))], mem := [(0, some (.raw [[.lf .bool, .snil 1 106]] 2 147 true false false)), (1, some (.raw [[.lf .bool, .lf (.sl (.int .u32))]] 2 147 true false false)), (2, some (.arr (.int .u32) 1 106 false))], nx := 3 }⟩, ⟨some 0, { fr := [(5, .a (.lf (.sl (.int .u32))))], mem := [(0, some (.raw [[.lf .bool, .snil 1 106]] 2 147 true false false)), (1, some (.raw [[.lf .bool, .lf (.sl (.int .u32))]] 2 147 true false false))], nx := 2 }⟩]
def LIq107 (k : Nat) : LInst := ⟨0, hsq107, osq107, fun x => Lbig_Gcd_eql_0 k k x⟩
theorem anq107 (k : Nat) : LAll (LOk (R := DS OS.D osq107) (fun b _ σ K => LOt Ty (kps 203) 2 b σ K []) cf (call cf k) (kps 203) Tryz.f203.ntmps k 2) 0 (lb Tryz.f203 0) :=
 qA (qA qT (qA qT qT)) (qA qT qT)
theorem stq107 (k n : Nat) (x : DS SS.D hsq107) : Lbig_Gcd_eql_0 k (n + 1) x = encSK SS.enc (fun σ => run2 cf (fun f a b K => COt f a b K [Iq30 k, Iq36 k, Iq16 k]) (fun b _ σ K => LOt Ty (kps 203) 2 b σ K []) Tryz.f203.ntmps 0 (lb Tryz.f203 0) σ (nextK Ty (kps 203 0) 2 hsq107 osq107 fun x => Lbig_Gcd_eql_0 k n x)) hsq107 x := by kernel_rfl
theorem loq107 (k : Nat) : LIOk cf (call cf k) (kps 203) Tryz.f203.ntmps k 2 0 (lb Tryz.f203 0) (LIq107 k) :=
 loop_ok (c := cf) (callF := call cf k) (kp := kps 203) (nt := Tryz.f203.ntmps) (k := k) (p := 2) (b := 0) (x0 := lb Tryz.f203 0) (hs := hsq107) (os := osq107) (COt_ok (alq3 k)) (anq107 k) (fun n x => Lbig_Gcd_eql_0 k n x) (fun _ => rfl) (stq107 k)
theorem anq3 (k : Nat) : LAll (LOk (R := DS FS.D rsq3) (fun b _ σ K => LOt Ty (kps 203) 2 b σ K [LIq107 k]) cf (call cf k) (cf.keep 203) Tryz.f203.ntmps k shq3.bs.length) 0 (bd Tryz.f203) :=
 qA qT (qA qT (qA (LOt_ok (c := cf) (callF := call cf k) (kp := kps 203) (nt := Tryz.f203.ntmps) (k := k) (p := 2) (b := 0) (x0 := lb Tryz.f203 0) (l := [LIq107 k]) (qA (fun _ => loq107 k) qT)) (qA qT qT)))
theorem stq3 (k : Nat) (x : shq3.D) : Fbig_Gcd_eql (k + 1) x.1 x.2.1 x.2.2 = body2 cf (fun f a b K => COt f a b K [Iq30 k, Iq36 k, Iq16 k]) (fun b _ σ K => LOt Ty (kps 203) 2 b σ K [LIq107 k]) 203 Tryz.f203.ntmps Tryz.f203.results.toList (bd Tryz.f203) (shq3.enc x).1 (shq3.enc x).2 (putS FS.dec rsq3) := by kernel_rfl
theorem okq3 : ∀ k, InstOk (call cf k) (Iq3 k)
 | 0 => fun x y e => absurd (show (none : Option _) = some y from e) (by simp)
 | k + 1 => inst_ok (c := cf) (k := k) (f := 203) (fn := Tryz.f203) (body := bd Tryz.f203) (sh := shq3) (os := rsq3) rfl Tryz.func203 rfl ⟨rfl, Nat.le_of_ble_eq_true rfl⟩ (COt_ok (alq3 k)) (anq3 k) (fun x => Fbig_Gcd_eql (k + 1) x.1 x.2.1 x.2.2) (stq3 k)

/-! (*shunt/big.Int).QuoRem -/
def bbig_Int_QuoRem_elw (k : Nat) (z : Bool) (x : Bool) (y0 : Bool) (y1 : List Int) (r : Bool) : Option (Bool × List Int × Bool × Bool × List Int × Bool × List Int) :=
 Option.bind (Fbig_divide k [] y1) fun r7 =>
 Option.bind (Fbig_Int_set_cvg k x r7.2 r) fun r8 =>
 Option.bind (Fbig_Int_set_cvg k (!(x == y0)) r7.1 z) fun r9 =>
 (some (r9.1, r9.2, x, y0, y1, r8.1, r8.2))
def Fbig_Int_QuoRem_elw : Nat → Bool → Bool → Bool → List Int → Bool → Option (Bool × List Int × Bool × Bool × List Int × Bool × List Int)
 | 0, _, _, _, _, _ => none
 | k + 1, z, x, y0, y1, r => bbig_Int_QuoRem_elw k z x y0 y1 r
def shq10 : FS := { vs := [.a (.ptr 0 0 0), .a (.ptr 1 0 0), .a (.ptr 2 0 0), .a (.ptr 3 0 0)], bs := [.raw [[.lf .bool, .snil 1 106]] 2 147 true false false, .raw [[.lf .bool, .snil 1 106]] 2 147 true false false, .raw [[.lf .bool, .lf (.sl (.int .u32))]] 2 147 true false false, .raw [[.lf .bool, .snil 1 106]] 2 147 true false false] }
def rsq10 : List FS := [{ vs := [.a (.ptr 0 0 0), .a (.ptr 3 0 0)], bs := [.raw [[.lf .bool, .lf (.sl (.int .u32))]] 2 147 true false false, .raw [[.lf .bool, .snil 1 106]] 2 147 true false false, .raw [[.lf .bool, .lf (.sl (.int .u32))]] 2 147 true false false, .raw [[.lf .bool, .lf (.sl (.int .u32))]] 2 147 true false false] }]
def Iq10 (k : Nat) : Inst := ⟨232, shq10, rsq10, fun x => Fbig_Int_QuoRem_elw k x.1 x.2.1 x.2.2.1 x.2.2.2.1 x.2.2.2.2⟩
theorem alq10 (k : Nat) : AllI (call cf k) [Iq30 k, Iq16 k] := qA (okq30 k) (qA (okq16 k) qT)
theorem anq10 (k : Nat) : LAll (LOk (R := DS FS.D rsq10) (fun b _ σ K => LOt Ty (kps 232) 4 b σ K []) cf (call cf k) (cf.keep 232) Tryz.f232.ntmps k shq10.bs.length) 0 (bd Tryz.f232) :=
 qA qT (qA qT (qA qT (qA qT (qA qT qT))))
theorem stq10 (k : Nat) (x : shq10.D) : Fbig_Int_QuoRem_elw (k + 1) x.1 x.2.1 x.2.2.1 x.2.2.2.1 x.2.2.2.2 = body2 cf (fun f a b K => COt f a b K [Iq30 k, Iq16 k]) (fun b _ σ K => LOt Ty (kps 232) 4 b σ K []) 232 Tryz.f232.ntmps Tryz.f232.results.toList (bd Tryz.f232) (shq10.enc x).1 (shq10.enc x).2 (putS FS.dec rsq10) := by kernel_rfl
theorem okq10 : ∀ k, InstOk (call cf k) (Iq10 k)
 | 0 => fun x y e => absurd (show (none : Option _) = some y from e) (by simp)
 | k + 1 => inst_ok (c := cf) (k := k) (f := 232) (fn := Tryz.f232) (body := bd Tryz.f232) (sh := shq10) (os := rsq10) rfl Tryz.func232 rfl ⟨rfl, Nat.le_of_ble_eq_true rfl⟩ (COt_ok (alq10 k)) (anq10 k) (fun x => Fbig_Int_QuoRem_elw (k + 1) x.1 x.2.1 x.2.2.1 x.2.2.2.1 x.2.2.2.2) (stq10 k)

/-! (*shunt/big.Int).Quo -/
def bbig_Int_Quo_kjp (k : Nat) (z : Bool) (x : Bool) (y0 : Bool) (y1 : List Int) : Option (Bool × List Int × Bool × Bool × List Int) :=
 Option.bind (Fbig_Int_QuoRem_elw k z x y0 y1 false) fun r7 =>
 (some (r7.1, r7.2.1, r7.2.2.1, r7.2.2.2.1, r7.2.2.2.2.1))
def Fbig_Int_Quo_kjp : Nat → Bool → Bool → Bool → List Int → Option (Bool × List Int × Bool × Bool × List Int)
 | 0, _, _, _, _ => none
 | k + 1, z, x, y0, y1 => bbig_Int_Quo_kjp k z x y0 y1
def shq13 : FS := { vs := [.a (.ptr 0 0 0), .a (.ptr 1 0 0), .a (.ptr 2 0 0)], bs := [.raw [[.lf .bool, .snil 1 106]] 2 147 true false false, .raw [[.lf .bool, .snil 1 106]] 2 147 true false false, .raw [[.lf .bool, .lf (.sl (.int .u32))]] 2 147 true false false] }
def rsq13 : List FS := [{ vs := [.a (.ptr 0 0 0)], bs := [.raw [[.lf .bool, .lf (.sl (.int .u32))]] 2 147 true false false, .raw [[.lf .bool, .snil 1 106]] 2 147 true false false, .raw [[.lf .bool, .lf (.sl (.int .u32))]] 2 147 true false false] }]
def Iq13 (k : Nat) : Inst := ⟨204, shq13, rsq13, fun x => Fbig_Int_Quo_kjp k x.1 x.2.1 x.2.2.1 x.2.2.2⟩
theorem alq13 (k : Nat) : AllI (call cf k) [Iq10 k] := qA (okq10 k) qT
theorem anq13 (k : Nat) : LAll (LOk (R := DS FS.D rsq13) (fun b _ σ K => LOt Ty (kps 204) 3 b σ K []) cf (call cf k) (cf.keep 204) Tryz.f204.ntmps k shq13.bs.length) 0 (bd Tryz.f204) :=
 qA qT (qA qT (qA qT qT))
theorem stq13 (k : Nat) (x : shq13.D) : Fbig_Int_Quo_kjp (k + 1) x.1 x.2.1 x.2.2.1 x.2.2.2 = body2 cf (fun f a b K => COt f a b K [Iq10 k]) (fun b _ σ K => LOt Ty (kps 204) 3 b σ K []) 204 Tryz.f204.ntmps Tryz.f204.results.toList (bd Tryz.f204) (shq13.enc x).1 (shq13.enc x).2 (putS FS.dec rsq13) := by kernel_rfl
theorem okq13 : ∀ k, InstOk (call cf k) (Iq13 k)
 | 0 => fun x y e => absurd (show (none : Option _) = some y from e) (by simp)
 | k + 1 => inst_ok (c := cf) (k := k) (f := 204) (fn := Tryz.f204) (body := bd Tryz.f204) (sh := shq13) (os := rsq13) rfl Tryz.func204 rfl ⟨rfl, Nat.le_of_ble_eq_true rfl⟩ (COt_ok (alq13 k)) (anq13 k) (fun x => Fbig_Int_Quo_kjp (k + 1) x.1 x.2.1 x.2.2.1 x.2.2.2) (stq13 k)

/-! (*shunt/big.Rat).frac -/
def bbig_Rat_frac_cth (k : Nat) (z0 : Bool) (z1 : Bool) (n : Bool) (d0 : Bool) (d1 : List Int) : Option (Bool × List Int × Bool × List Int × Bool × Bool × List Int) :=
 Option.bind (Fbig_Gcd_eql k n d0 d1) fun r6 =>
 if (r6.2.1 = true) then
 Option.bind (Fbig_Int_Quo_kjp k false r6.1 true r6.2.2.2.2) fun r7 =>
 Option.bind (Fbig_Int_Quo_gsh k false r6.2.1 r6.2.2.1 r7.2.2.2.1 r7.2.2.2.2) fun r8 =>
 (some (r7.1, r7.2.1, r8.1, r8.2.1, r7.2.2.1, r8.2.2.1, r8.2.2.2.1))
 else
 Option.bind (Fbig_Int_Quo_kjp k false r6.1 r6.2.2.2.1 r6.2.2.2.2) fun r7 =>
 Option.bind (Fbig_Int_Quo_gsh k false r6.2.1 r6.2.2.1 r7.2.2.2.1 r7.2.2.2.2) fun r8 =>
 (some (r7.1, r7.2.1, r8.1, r8.2.1, r7.2.2.1, r8.2.2.1, r8.2.2.2.1))
def Fbig_Rat_frac_cth : Nat → Bool → Bool → Bool → Bool → List Int → Option (Bool × List Int × Bool × List Int × Bool × Bool × List Int)
 | 0, _, _, _, _, _ => none
 | k + 1, z0, z1, n, d0, d1 => bbig_Rat_frac_cth k z0 z1 n d0 d1
def shq25 : FS := { vs := [.a (.ptr 0 0 0), .a (.ptr 1 0 0), .a (.ptr 2 0 0)], bs := [.raw [[.lf .bool, .snil 1 106, .lf .bool, .snil 1 106]] 4 180 true false false, .raw [[.lf .bool, .snil 1 106]] 2 147 true false false, .raw [[.lf .bool, .lf (.sl (.int .u32))]] 2 147 true false false] }
def rsq25 : List FS := [{ vs := [.a (.ptr 0 0 0)], bs := [.raw [[.lf .bool, .lf (.sl (.int .u32)), .lf .bool, .lf (.sl (.int .u32))]] 4 180 true false false, .raw [[.lf .bool, .snil 1 106]] 2 147 true false false, .raw [[.lf .bool, .lf (.sl (.int .u32))]] 2 147 true false false] }]
def Iq25 (k : Nat) : Inst := ⟨144, shq25, rsq25, fun x => Fbig_Rat_frac_cth k x.1 x.2.1 x.2.2.1 x.2.2.2.1 x.2.2.2.2⟩
theorem alq25 (k : Nat) : AllI (call cf k) [Iq3 k, Iq13 k, Iq12 k] := qA (okq3 k) (qA (okq13 k) (qA (okq12 k) qT))
theorem anq25 (k : Nat) : LAll (LOk (R := DS FS.D rsq25) (fun b _ σ K => LOt Ty (kps 144) 3 b σ K []) cf (call cf k) (cf.keep 144) Tryz.f144.ntmps k shq25.bs.length) 0 (bd Tryz.f144) :=
 qA qT (qA qT (qA (qA qT (qA qT qT)) (qA qT (qA qT (qA qT (qA qT (qA qT qT)))))))
theorem stq25 (k : Nat) (x : shq25.D) : Fbig_Rat_frac_cth (k + 1) x.1 x.2.1 x.2.2.1 x.2.2.2.1 x.2.2.2.2 = body2 cf (fun f a b K => COt f a b K [Iq3 k, Iq13 k, Iq12 k]) (fun b _ σ K => LOt Ty (kps 144) 3 b σ K []) 144 Tryz.f144.ntmps Tryz.f144.results.toList (bd Tryz.f144) (shq25.enc x).1 (shq25.enc x).2 (putS FS.dec rsq25) := by kernel_rfl
theorem okq25 : ∀ k, InstOk (call cf k) (Iq25 k)
 | 0 => fun x y e => absurd (show (none : Option _) = some y from e) (by simp)
 | k + 1 => inst_ok (c := cf) (k := k) (f := 144) (fn := Tryz.f144) (body := bd Tryz.f144) (sh := shq25) (os := rsq25) rfl Tryz.func144 rfl ⟨rfl, Nat.le_of_ble_eq_true rfl⟩ (COt_ok (alq25 k)) (anq25 k) (fun x => Fbig_Rat_frac_cth (k + 1) x.1 x.2.1 x.2.2.1 x.2.2.2.1 x.2.2.2.2) (stq25 k)

/-! shunt/big.Frac -/
def bbig_Frac_eql (k : Nat) (n : Bool) (d0 : Bool) (d1 : List Int) : Option (Bool × Bool × List Int × Bool × List Int × Bool × List Int) :=
 Option.bind (Fbig_Rat_frac_cth k false false n d0 d1) fun r6 =>
 (some (r6.2.2.2.2.1, r6.2.2.2.2.2.1, r6.2.2.2.2.2.2, r6.1, r6.2.1, r6.2.2.1, r6.2.2.2.1))
def Fbig_Frac_eql : Nat → Bool → Bool → List Int → Option (Bool × Bool × List Int × Bool × List Int × Bool × List Int)
 | 0, _, _, _ => none
 | k + 1, n, d0, d1 => bbig_Frac_eql k n d0 d1
def shq1 : FS := { vs := [.a (.ptr 0 0 0), .a (.ptr 1 0 0)], bs := [.raw [[.lf .bool, .snil 1 106]] 2 147 true false false, .raw [[.lf .bool, .lf (.sl (.int .u32))]] 2 147 true false false] }
def rsq1 : List FS := [{ vs := [.a (.ptr 2 0 0)], bs := [.raw [[.lf .bool, .snil 1 106]] 2 147 true false false, .raw [[.lf .bool, .lf (.sl (.int .u32))]] 2 147 true false false, .raw [[.lf .bool, .lf (.sl (.int .u32)), .lf .bool, .lf (.sl (.int .u32))]] 4 180 true false false] }]
def Iq1 (k : Nat) : Inst := ⟨89, shq1, rsq1, fun x => Fbig_Frac_eql k x.1 x.2.1 x.2.2⟩
theorem alq1 (k : Nat) : AllI (call cf k) [Iq25 k] := qA (okq25 k) qT
theorem anq1 (k : Nat) : LAll (LOk (R := DS FS.D rsq1) (fun b _ σ K => LOt Ty (kps 89) 2 b σ K []) cf (call cf k) (cf.keep 89) Tryz.f89.ntmps k shq1.bs.length) 0 (bd Tryz.f89) :=
 qA qT (qA qT qT)
theorem stq1 (k : Nat) (x : shq1.D) : Fbig_Frac_eql (k + 1) x.1 x.2.1 x.2.2 = body2 cf (fun f a b K => COt f a b K [Iq25 k]) (fun b _ σ K => LOt Ty (kps 89) 2 b σ K []) 89 Tryz.f89.ntmps Tryz.f89.results.toList (bd Tryz.f89) (shq1.enc x).1 (shq1.enc x).2 (putS FS.dec rsq1) := by kernel_rfl
theorem okq1 : ∀ k, InstOk (call cf k) (Iq1 k)
 | 0 => fun x y e => absurd (show (none : Option _) = some y from e) (by simp)
 | k + 1 => inst_ok (c := cf) (k := k) (f := 89) (fn := Tryz.f89) (body := bd Tryz.f89) (sh := shq1) (os := rsq1) rfl Tryz.func89 rfl ⟨rfl, Nat.le_of_ble_eq_true rfl⟩ (COt_ok (alq1 k)) (anq1 k) (fun x => Fbig_Frac_eql (k + 1) x.1 x.2.1 x.2.2) (stq1 k)

/-! (*shunt/big.Rat).Num -/
def bbig_Rat_Num_plq (k : Nat) (z0 : Bool) (z1 : List Int) (z2 : Bool) (z3 : List Int) : Option (Bool × List Int × Bool × List Int × Bool × List Int) :=
 Option.bind (Fbig_Of k z0 z1) fun r7 =>
 (some (z0, z1, z2, z3, r7.1, r7.2))
def Fbig_Rat_Num_plq : Nat → Bool → List Int → Bool → List Int → Option (Bool × List Int × Bool × List Int × Bool × List Int)
 | 0, _, _, _, _ => none
 | k + 1, z0, z1, z2, z3 => bbig_Rat_Num_plq k z0 z1 z2 z3
def shq24 : FS := { vs := [.a (.ptr 0 0 0)], bs := [.raw [[.lf .bool, .lf (.sl (.int .u32)), .lf .bool, .lf (.sl (.int .u32))]] 4 180 true false false] }
def rsq24 : List FS := [{ vs := [.a (.ptr 1 0 0)], bs := [.raw [[.lf .bool, .lf (.sl (.int .u32)), .lf .bool, .lf (.sl (.int .u32))]] 4 180 true false false, .raw [[.lf .bool, .lf (.sl (.int .u32))]] 2 147 true false false] }]
def Iq24 (k : Nat) : Inst := ⟨142, shq24, rsq24, fun x => Fbig_Rat_Num_plq k x.1 x.2.1 x.2.2.1 x.2.2.2⟩
theorem alq24 (k : Nat) : AllI (call cf k) [Iq21 k] := qA (okq21 k) qT
theorem anq24 (k : Nat) : LAll (LOk (R := DS FS.D rsq24) (fun b _ σ K => LOt Ty (kps 142) 1 b σ K []) cf (call cf k) (cf.keep 142) Tryz.f142.ntmps k shq24.bs.length) 0 (bd Tryz.f142) :=
 qA qT (qA qT qT)
theorem stq24 (k : Nat) (x : shq24.D) : Fbig_Rat_Num_plq (k + 1) x.1 x.2.1 x.2.2.1 x.2.2.2 = body2 cf (fun f a b K => COt f a b K [Iq21 k]) (fun b _ σ K => LOt Ty (kps 142) 1 b σ K []) 142 Tryz.f142.ntmps Tryz.f142.results.toList (bd Tryz.f142) (shq24.enc x).1 (shq24.enc x).2 (putS FS.dec rsq24) := by kernel_rfl
theorem okq24 : ∀ k, InstOk (call cf k) (Iq24 k)
 | 0 => fun x y e => absurd (show (none : Option _) = some y from e) (by simp)
 | k + 1 => inst_ok (c := cf) (k := k) (f := 142) (fn := Tryz.f142) (body := bd Tryz.f142) (sh := shq24) (os := rsq24) rfl Tryz.func142 rfl ⟨rfl, Nat.le_of_ble_eq_true rfl⟩ (COt_ok (alq24 k)) (anq24 k) (fun x => Fbig_Rat_Num_plq (k + 1) x.1 x.2.1 x.2.2.1 x.2.2.2) (stq24 k)

/-! (*shunt/big.Int).Sign -/
def bbig_Int_Sign_awf (k : Nat) (z0 : Bool) (z1 : List Int) : Option (Int × Bool × List Int) :=
 if (((((List.length z1) : Nat) : Int) == (0 : Int)) = true) then
 (some ((0 : Int), z0, z1))
 else
 if (z0 = true) then
 (some ((-(1 : Int)), z0, z1))
 else
 (some ((1 : Int), z0, z1))
def Fbig_Int_Sign_awf : Nat → Bool → List Int → Option (Int × Bool × List Int)
 | 0, _, _ => none
 | k + 1, z0, z1 => bbig_Int_Sign_awf k z0 z1
def shq14 : FS := { vs := [.a (.ptr 0 0 0)], bs := [.raw [[.lf .bool, .lf (.sl (.int .u32))]] 2 147 true false false] }
def rsq14 : List FS := [{ vs := [.a (.lf (.int .i64))], bs := [.raw [[.lf .bool, .lf (.sl (.int .u32))]] 2 147 true false false] }]
def Iq14 (k : Nat) : Inst := ⟨157, shq14, rsq14, fun x => Fbig_Int_Sign_awf k x.1 x.2⟩
theorem alq14 (k : Nat) : AllI (call cf k) [] := True.intro
theorem anq14 (k : Nat) : LAll (LOk (R := DS FS.D rsq14) (fun b _ σ K => LOt Ty (kps 157) 1 b σ K []) cf (call cf k) (cf.keep 157) Tryz.f157.ntmps k shq14.bs.length) 0 (bd Tryz.f157) :=
 qA qT (qA (qA qT (qA (qA qT qT) (qA qT (qA (qA qT qT) qT)))) (qA qT qT))
theorem stq14 (k : Nat) (x : shq14.D) : Fbig_Int_Sign_awf (k + 1) x.1 x.2 = body2 cf (fun f a b K => COt f a b K []) (fun b _ σ K => LOt Ty (kps 157) 1 b σ K []) 157 Tryz.f157.ntmps Tryz.f157.results.toList (bd Tryz.f157) (shq14.enc x).1 (shq14.enc x).2 (putS FS.dec rsq14) := by kernel_rfl
theorem okq14 : ∀ k, InstOk (call cf k) (Iq14 k)
 | 0 => fun x y e => absurd (show (none : Option _) = some y from e) (by simp)
 | k + 1 => inst_ok (c := cf) (k := k) (f := 157) (fn := Tryz.f157) (body := bd Tryz.f157) (sh := shq14) (os := rsq14) rfl Tryz.func157 rfl ⟨rfl, Nat.le_of_ble_eq_true rfl⟩ (COt_ok (alq14 k)) (anq14 k) (fun x => Fbig_Int_Sign_awf (k + 1) x.1 x.2) (stq14 k)

/-! (*shunt/big.Int).Words -/
def bbig_Int_Words_awf (k : Nat) (z0 : Bool) (z1 : List Int) : Option (Nat × Bool × List Int × List Int) :=
 if (((0 + (List.length z1)) * 4) ≤ 140737488355328) then
 (some ((0 + (List.length z1)), z0, z1, ((List.take 0 []) ++ z1)))
 else
 none
def Fbig_Int_Words_awf : Nat → Bool → List Int → Option (Nat × Bool × List Int × List Int)
 | 0, _, _ => none
 | k + 1, z0, z1 => bbig_Int_Words_awf k z0 z1
def shq15 : FS := { vs := [.a (.ptr 0 0 0)], bs := [.raw [[.lf .bool, .lf (.sl (.int .u32))]] 2 147 true false false] }
def rsq15 : List FS := [{ vs := [.a (.smz 1)], bs := [.raw [[.lf .bool, .lf (.sl (.int .u32))]] 2 147 true false false, .arr (.int .u32) 1 106 false] }]
def Iq15 (k : Nat) : Inst := ⟨158, shq15, rsq15, fun x => Fbig_Int_Words_awf k x.1 x.2⟩
theorem alq15 (k : Nat) : AllI (call cf k) [] := True.intro
theorem anq15 (k : Nat) : LAll (LOk (R := DS FS.D rsq15) (fun b _ σ K => LOt Ty (kps 158) 1 b σ K []) cf (call cf k) (cf.keep 158) Tryz.f158.ntmps k shq15.bs.length) 0 (bd Tryz.f158) :=
 qA qT (qA qT qT)
theorem stq15 (k : Nat) (x : shq15.D) : Fbig_Int_Words_awf (k + 1) x.1 x.2 = body2 cf (fun f a b K => COt f a b K []) (fun b _ σ K => LOt Ty (kps 158) 1 b σ K []) 158 Tryz.f158.ntmps Tryz.f158.results.toList (bd Tryz.f158) (shq15.enc x).1 (shq15.enc x).2 (putS FS.dec rsq15) := by kernel_rfl
theorem okq15 : ∀ k, InstOk (call cf k) (Iq15 k)
 | 0 => fun x y e => absurd (show (none : Option _) = some y from e) (by simp)
 | k + 1 => inst_ok (c := cf) (k := k) (f := 158) (fn := Tryz.f158) (body := bd Tryz.f158) (sh := shq15) (os := rsq15) rfl Tryz.func158 rfl ⟨rfl, Nat.le_of_ble_eq_true rfl⟩ (COt_ok (alq15 k)) (anq15 k) (fun x => Fbig_Int_Words_awf (k + 1) x.1 x.2) (stq15 k)

/-! shunt/wide.Give -/
def bwide_Give_awf (k : Nat) (z0 : Bool) (z1 : List Int) : Option (Bool × Nat × Bool × List Int × List Int) :=
 Option.bind (Fbig_Int_Sign_awf k z0 z1) fun r8 =>
 Option.bind (Fbig_Int_Words_awf k r8.2.1 r8.2.2) fun r9 =>
 (some ((decide (r8.1 < (0 : Int))), r9.1, r9.2.1, r9.2.2.1, r9.2.2.2))
def Fwide_Give_awf : Nat → Bool → List Int → Option (Bool × Nat × Bool × List Int × List Int)
 | 0, _, _ => none
 | k + 1, z0, z1 => bwide_Give_awf k z0 z1
def shq103 : FS := { vs := [.a (.ptr 0 0 0)], bs := [.raw [[.lf .bool, .lf (.sl (.int .u32))]] 2 147 true false false] }
def rsq103 : List FS := [{ vs := [.g [.lf .bool, .smz 1]], bs := [.raw [[.lf .bool, .lf (.sl (.int .u32))]] 2 147 true false false, .arr (.int .u32) 1 106 false] }]
def Iq103 (k : Nat) : Inst := ⟨101, shq103, rsq103, fun x => Fwide_Give_awf k x.1 x.2⟩
theorem alq103 (k : Nat) : AllI (call cf k) [Iq14 k, Iq15 k] := qA (okq14 k) (qA (okq15 k) qT)
theorem anq103 (k : Nat) : LAll (LOk (R := DS FS.D rsq103) (fun b _ σ K => LOt Ty (kps 101) 1 b σ K []) cf (call cf k) (cf.keep 101) Tryz.f101.ntmps k shq103.bs.length) 0 (bd Tryz.f101) :=
 qA qT (qA qT qT)
theorem stq103 (k : Nat) (x : shq103.D) : Fwide_Give_awf (k + 1) x.1 x.2 = body2 cf (fun f a b K => COt f a b K [Iq14 k, Iq15 k]) (fun b _ σ K => LOt Ty (kps 101) 1 b σ K []) 101 Tryz.f101.ntmps Tryz.f101.results.toList (bd Tryz.f101) (shq103.enc x).1 (shq103.enc x).2 (putS FS.dec rsq103) := by kernel_rfl
theorem okq103 : ∀ k, InstOk (call cf k) (Iq103 k)
 | 0 => fun x y e => absurd (show (none : Option _) = some y from e) (by simp)
 | k + 1 => inst_ok (c := cf) (k := k) (f := 101) (fn := Tryz.f101) (body := bd Tryz.f101) (sh := shq103) (os := rsq103) rfl Tryz.func101 rfl ⟨rfl, Nat.le_of_ble_eq_true rfl⟩ (COt_ok (alq103 k)) (anq103 k) (fun x => Fwide_Give_awf (k + 1) x.1 x.2) (stq103 k)

/-! shunt/wide.Frac -/
def bwide_Frac_plq (k : Nat) (z0 : Bool) (z1 : List Int) (z2 : Bool) (z3 : List Int) : Option (Bool × List Int × Bool × List Int × Bool × List Int × Bool × List Int) :=
 Option.bind (Fbig_Rat_Num_plq k z0 z1 z2 z3) fun r7 =>
 Option.bind (Fwide_Give_awf k r7.2.2.2.2.1 r7.2.2.2.2.2) fun r8 =>
 Option.bind (Fbig_Rat_Denom_plq k r7.1 r7.2.1 r7.2.2.1 r7.2.2.2.1) fun r9 =>
 Option.bind (Fwide_Give_awf k r9.2.2.2.2.1 r9.2.2.2.2.2) fun r10 =>
 if ((0 + r8.2.1) ≤ (List.length r8.2.2.2.2)) then
 if ((0 + r10.2.1) ≤ (List.length r10.2.2.2.2)) then
 (some (r8.1, (List.take r8.2.1 r8.2.2.2.2), r10.1, (List.take r10.2.1 r10.2.2.2.2), r9.1, r9.2.1, r9.2.2.1, r9.2.2.2.1))
 else
 none
 else
 none
def Fwide_Frac_plq : Nat → Bool → List Int → Bool → List Int → Option (Bool × List Int × Bool × List Int × Bool × List Int × Bool × List Int)
 | 0, _, _, _, _ => none
 | k + 1, z0, z1, z2, z3 => bwide_Frac_plq k z0 z1 z2 z3
def shq102 : FS := { vs := [.a (.ptr 0 0 0)], bs := [.raw [[.lf .bool, .lf (.sl (.int .u32)), .lf .bool, .lf (.sl (.int .u32))]] 4 180 true false false] }
def rsq102 : List FS := [{ vs := [.g [.lf .bool, .lf (.sl (.int .u32)), .lf .bool, .lf (.sl (.int .u32))]], bs := [.raw [[.lf .bool, .lf (.sl (.int .u32)), .lf .bool, .lf (.sl (.int .u32))]] 4 180 true false false] }]
def Iq102 (k : Nat) : Inst := ⟨88, shq102, rsq102, fun x => Fwide_Frac_plq k x.1 x.2.1 x.2.2.1 x.2.2.2⟩
theorem alq102 (k : Nat) : AllI (call cf k) [Iq24 k, Iq103 k, Iq23 k] := qA (okq24 k) (qA (okq103 k) (qA (okq23 k) qT))
theorem anq102 (k : Nat) : LAll (LOk (R := DS FS.D rsq102) (fun b _ σ K => LOt Ty (kps 88) 1 b σ K []) cf (call cf k) (cf.keep 88) Tryz.f88.ntmps k shq102.bs.length) 0 (bd Tryz.f88) :=
 qA qT (qA qT qT)
theorem stq102 (k : Nat) (x : shq102.D) : Fwide_Frac_plq (k + 1) x.1 x.2.1 x.2.2.1 x.2.2.2 = body2 cf (fun f a b K => COt f a b K [Iq24 k, Iq103 k, Iq23 k]) (fun b _ σ K => LOt Ty (kps 88) 1 b σ K []) 88 Tryz.f88.ntmps Tryz.f88.results.toList (bd Tryz.f88) (shq102.enc x).1 (shq102.enc x).2 (putS FS.dec rsq102) := by kernel_rfl
theorem okq102 : ∀ k, InstOk (call cf k) (Iq102 k)
 | 0 => fun x y e => absurd (show (none : Option _) = some y from e) (by simp)
 | k + 1 => inst_ok (c := cf) (k := k) (f := 88) (fn := Tryz.f88) (body := bd Tryz.f88) (sh := shq102) (os := rsq102) rfl Tryz.func88 rfl ⟨rfl, Nat.le_of_ble_eq_true rfl⟩ (COt_ok (alq102 k)) (anq102 k) (fun x => Fwide_Frac_plq (k + 1) x.1 x.2.1 x.2.2.1 x.2.2.2) (stq102 k)

/-! shunt/probe.Mean -/
def Lprobe_Mean_0s (k : Nat) (rec : ((List Int × List Int × Int × Int × Bool × Nat × Bool × Nat × Bool × List Int × List Int) ⊕ (List Int × List Int × Int × Int × Bool × Nat × Bool × Nat × Bool × List Int × List Int × List Int)) → Option ((List Int × Bool × Nat × Bool × Nat × Bool × List Int × List Int) ⊕ (List Int × Bool × Nat × Bool × Nat × Bool × List Int × List Int × List Int))) (x : (List Int × List Int × Int × Int × Bool × Nat × Bool × Nat × Bool × List Int × List Int) ⊕ (List Int × List Int × Int × Int × Bool × Nat × Bool × Nat × Bool × List Int × List Int × List Int)) : Option ((List Int × Bool × Nat × Bool × Nat × Bool × List Int × List Int) ⊕ (List Int × Bool × Nat × Bool × Nat × Bool × List Int × List Int × List Int)) :=
 eitherK x
 (fun x =>
 if ((decide (x.2.2.2.1 < x.2.2.1)) = true) then
 if ((0 : Int) ≤ x.2.2.2.1) then
 Option.bind (x.2.1)[(Int.toNat x.2.2.2.1)]? fun x1 =>
 Option.bind (Fbig_NewInt k x1) fun r4 =>
 Option.bind (Fbig_Int_Add_uzb k x.2.2.2.2.2.2.2.2.1 r4.1 r4.2) fun r5 =>
 rec (Sum.inr (x.1, x.2.1, x.2.2.1, (IntKind.wrap .i64 (x.2.2.2.1 + (1 : Int))), x.2.2.2.2.1, x.2.2.2.2.2.1, x.2.2.2.2.2.2.1, x.2.2.2.2.2.2.2.1, r5.1, r5.2.1, x.2.2.2.2.2.2.2.2.2.1, x.2.2.2.2.2.2.2.2.2.2))
 else
 none
 else
 (some (Sum.inl (x.1, x.2.2.2.2.1, x.2.2.2.2.2.1, x.2.2.2.2.2.2.1, x.2.2.2.2.2.2.2.1, x.2.2.2.2.2.2.2.2.1, x.2.2.2.2.2.2.2.2.2.1, x.2.2.2.2.2.2.2.2.2.2))))
 (fun x =>
 if ((decide (x.2.2.2.1 < x.2.2.1)) = true) then
 if ((0 : Int) ≤ x.2.2.2.1) then
 Option.bind (x.2.1)[(Int.toNat x.2.2.2.1)]? fun x1 =>
 Option.bind (Fbig_NewInt k x1) fun r4 =>
 Option.bind (Fbig_Int_Add_jod k x.2.2.2.2.2.2.2.2.1 x.2.2.2.2.2.2.2.2.2.1 r4.1 r4.2) fun r5 =>
 rec (Sum.inr (x.1, x.2.1, x.2.2.1, (IntKind.wrap .i64 (x.2.2.2.1 + (1 : Int))), x.2.2.2.2.1, x.2.2.2.2.2.1, x.2.2.2.2.2.2.1, x.2.2.2.2.2.2.2.1, r5.1, r5.2.1, x.2.2.2.2.2.2.2.2.2.2.1, x.2.2.2.2.2.2.2.2.2.2.2))
 else
 none
 else
 (some (Sum.inr (x.1, x.2.2.2.2.1, x.2.2.2.2.2.1, x.2.2.2.2.2.2.1, x.2.2.2.2.2.2.2.1, x.2.2.2.2.2.2.2.2.1, x.2.2.2.2.2.2.2.2.2.1, x.2.2.2.2.2.2.2.2.2.2.1, x.2.2.2.2.2.2.2.2.2.2.2))))
def Lprobe_Mean_0 (k n : Nat) : ((List Int × List Int × Int × Int × Bool × Nat × Bool × Nat × Bool × List Int × List Int) ⊕ (List Int × List Int × Int × Int × Bool × Nat × Bool × Nat × Bool × List Int × List Int × List Int)) → Option ((List Int × Bool × Nat × Bool × Nat × Bool × List Int × List Int) ⊕ (List Int × Bool × Nat × Bool × Nat × Bool × List Int × List Int × List Int)) := Nat.rec (fun _ => none) (fun _ r => Lprobe_Mean_0s k r) n
def bprobe_Mean (k : Nat) (row : List Int) : Option (Bool × List Int × Bool × List Int × Int) :=
 Option.bind (Fprobe_look k row) fun r3 =>
 if ((r3 != (0 : Int)) = true) then
 (some (false, [], false, [], r3))
 else
 Option.bind (Lprobe_Mean_0 k k (Sum.inl (row, row, (((List.length row) : Nat) : Int), (0 : Int), false, 0, false, 0, false, [], []))) fun r4 =>
 eitherK r4
 (fun r4 =>
 Option.bind (Fbig_NewInt k (((List.length r4.1) : Nat) : Int)) fun r5 =>
 Option.bind (Fbig_Frac_eql k r4.2.2.2.2.2.1 r5.1 r5.2) fun r6 =>
 Option.bind (Fwide_Frac_plq k r6.2.2.2.1 r6.2.2.2.2.1 r6.2.2.2.2.2.1 r6.2.2.2.2.2.2) fun r7 =>
 (some (r7.1, r7.2.1, r7.2.2.1, r7.2.2.2.1, (0 : Int))))
 (fun r4 =>
 Option.bind (Fbig_NewInt k (((List.length r4.1) : Nat) : Int)) fun r5 =>
 Option.bind (Fbig_Frac_ddu k r4.2.2.2.2.2.1 r4.2.2.2.2.2.2.1 r5.1 r5.2) fun r6 =>
 Option.bind (Fwide_Frac_plq k r6.2.2.2.2.1 r6.2.2.2.2.2.1 r6.2.2.2.2.2.2.1 r6.2.2.2.2.2.2.2) fun r7 =>
 (some (r7.1, r7.2.1, r7.2.2.1, r7.2.2.2.1, (0 : Int))))
def Fprobe_Mean : Nat → List Int → Option (Bool × List Int × Bool × List Int × Int)
 | 0, _ => none
 | k + 1, row => bprobe_Mean k row
def shq59 : FS := { vs := [.a (.lf (.sl (.int .i64)))], bs := [] }
def rsq59 : List FS := [{ vs := [.g [.lf .bool, .lf (.sl (.int .u32)), .lf .bool, .lf (.sl (.int .u32))], .a (.lf (.int .i64))], bs := [] }]
def Iq59 (k : Nat) : Inst := ⟨32, shq59, rsq59, fun x => Fprobe_Mean k x⟩
theorem alq59 (k : Nat) : AllI (call cf k) [Iq66 k, Iq20 k, Iq5 k, Iq4 k, Iq1 k, Iq102 k, Iq0 k] := qA (okq66 k) (qA (okq20 k) (qA (okq5 k) (qA (okq4 k) (qA (okq1 k) (qA (okq102 k) (qA (okq0 k) qT))))))
def hsq137 : List SS := [{ fr := [(0, .a (.lf (.sl (.int .i64)))), (2, .a (.ptr 0 0 0)), (5, .a (.ptr 1 0 0)), (15, .a (.lf (.sl (.int .i64)))), (16, .a (.lf (.int .i64))), (17, .a (.lf (.int .i64)))], mem := [(0, some (.raw [[.lf .bool, .smz 2, .lf .bool, .smz 3]] 4 73 false false false)), (1, some (.raw [[.lf .bool, .snil 1 106]] 2 147 true false false)), (2, some (.arr (.int .u32) 1 106 false)), (3, some (.arr (.int .u32) 1 106 false))], nx := 4 }, { fr := [(0, .a (.lf (.sl (.int .i64)))), (2, .a (.ptr 0 0 0)), (5, .a (.ptr 1 0 0)), (15, .a (.lf (.sl (.int .i64)))), (16, .a (.lf (.int .i64))), (17, .a (.lf (.int .i64)))], mem := [(0, some (.raw [[.lf .bool, .smz 2, .lf .bool, .smz 3]] 4 73 false false false)), (1, some (.raw [[.lf .bool, .lf (.sl (.int .u32))]] 2 147 true false false)), (2, some (.arr (.int .u32) 1 106 false)), (3, some (.arr (.int .u32) 1 106 false))], nx := 4 }]
def osq137 : List OS := [⟨some 0, { fr := [(0, .a (.lf (.sl (.int .i64)))), (2, .a (.ptr 0 0 0)), (5, .a (.ptr 1 0 0))], mem := [(0, some (.raw [[.lf .bool, .smz 2, .lf .bool, .smz 3]] 4 73 false false false)), (1, some (.raw [[.lf .bool, .snil 1 106]] 2 147 true false false)), (2, some (.arr (.int .u32) 1 106 false)), (3, some (.arr (.int .u32) 1 106 false))], nx := 4 }⟩, ⟨some 0, { fr := [(0, .a (.lf (.sl (.int .i64)))), (2, .a (.ptr 0 0 0)), (5, .a (.ptr 1 0 0))], mem := [(0, some (.raw [[.lf .bool, .smz 2, .lf .bool, .smz 3]] 4 73 false false false)), (1, some (.raw [[.lf .bool, .lf (.sl (.int .u32))]] 2 147 true false false)), (2, some (.arr (.int .u32) 1 106 false)), (3, some (.arr (.int .u32) 1 106 false))], nx := 4 }⟩]
def LIq137 (k : Nat) : LInst := ⟨0, hsq137, osq137, fun x => Lprobe_Mean_0 k k x⟩
theorem anq137 (k : Nat) : LAll (LOk (R := DS OS.D osq137) (fun b _ σ K => LOt Ty (kps 32) 0 b σ K []) cf (call cf k) (kps 32) Tryz.f32.ntmps k 0) 0 (lb Tryz.f32 0) :=
 qA qT (qA (qA qT qT) (qA (qA qT qT) qT))
theorem stq137 (k n : Nat) (x : DS SS.D hsq137) : Lprobe_Mean_0 k (n + 1) x = encSK SS.enc (fun σ => run2 cf (fun f a b K => COt f a b K [Iq66 k, Iq20 k, Iq5 k, Iq4 k, Iq1 k, Iq102 k, Iq0 k]) (fun b _ σ K => LOt Ty (kps 32) 0 b σ K []) Tryz.f32.ntmps 0 (lb Tryz.f32 0) σ (nextK Ty (kps 32 0) 0 hsq137 osq137 fun x => Lprobe_Mean_0 k n x)) hsq137 x := by kernel_rfl
theorem loq137 (k : Nat) : LIOk cf (call cf k) (kps 32) Tryz.f32.ntmps k 0 0 (lb Tryz.f32 0) (LIq137 k) :=
 loop_ok (c := cf) (callF := call cf k) (kp := kps 32) (nt := Tryz.f32.ntmps) (k := k) (p := 0) (b := 0) (x0 := lb Tryz.f32 0) (hs := hsq137) (os := osq137) (COt_ok (alq59 k)) (anq137 k) (fun n x => Lprobe_Mean_0 k n x) (fun _ => rfl) (stq137 k)
theorem anq59 (k : Nat) : LAll (LOk (R := DS FS.D rsq59) (fun b _ σ K => LOt Ty (kps 32) 0 b σ K [LIq137 k]) cf (call cf k) (cf.keep 32) Tryz.f32.ntmps k shq59.bs.length) 0 (bd Tryz.f32) :=
 qA qT (qA (qA qT (qA qT (qA (qA qT qT) qT))) (qA qT (qA (qA qT (LOt_ok (c := cf) (callF := call cf k) (kp := kps 32) (nt := Tryz.f32.ntmps) (k := k) (p := 0) (b := 0) (x0 := lb Tryz.f32 0) (l := [LIq137 k]) (qA (fun _ => loq137 k) qT))) (qA qT qT))))
theorem stq59 (k : Nat) (x : shq59.D) : Fprobe_Mean (k + 1) x = body2 cf (fun f a b K => COt f a b K [Iq66 k, Iq20 k, Iq5 k, Iq4 k, Iq1 k, Iq102 k, Iq0 k]) (fun b _ σ K => LOt Ty (kps 32) 0 b σ K [LIq137 k]) 32 Tryz.f32.ntmps Tryz.f32.results.toList (bd Tryz.f32) (shq59.enc x).1 (shq59.enc x).2 (putS FS.dec rsq59) := by kernel_rfl
theorem okq59 : ∀ k, InstOk (call cf k) (Iq59 k)
 | 0 => fun x y e => absurd (show (none : Option _) = some y from e) (by simp)
 | k + 1 => inst_ok (c := cf) (k := k) (f := 32) (fn := Tryz.f32) (body := bd Tryz.f32) (sh := shq59) (os := rsq59) rfl Tryz.func32 rfl ⟨rfl, Nat.le_of_ble_eq_true rfl⟩ (COt_ok (alq59 k)) (anq59 k) (fun x => Fprobe_Mean (k + 1) x) (stq59 k)

/-! shunt/limb.Of -/
def blimb_Of (k : Nat) (v : Int) : Option (Bool × List Int) :=
 Option.bind (Fbig_NewInt k v) fun r5 =>
 Option.bind (Fwide_Give_awf k r5.1 r5.2) fun r6 =>
 if ((0 + r6.2.1) ≤ (List.length r6.2.2.2.2)) then
 (some (r6.1, (List.take r6.2.1 r6.2.2.2.2)))
 else
 none
def Flimb_Of : Nat → Int → Option (Bool × List Int)
 | 0, _ => none
 | k + 1, v => blimb_Of k v
def shq51 : FS := { vs := [.a (.lf (.int .i64))], bs := [] }
def rsq51 : List FS := [{ vs := [.g [.lf .bool, .lf (.sl (.int .u32))]], bs := [] }]
def Iq51 (k : Nat) : Inst := ⟨42, shq51, rsq51, fun x => Flimb_Of k x⟩
theorem alq51 (k : Nat) : AllI (call cf k) [Iq20 k, Iq103 k] := qA (okq20 k) (qA (okq103 k) qT)
theorem anq51 (k : Nat) : LAll (LOk (R := DS FS.D rsq51) (fun b _ σ K => LOt Ty (kps 42) 0 b σ K []) cf (call cf k) (cf.keep 42) Tryz.f42.ntmps k shq51.bs.length) 0 (bd Tryz.f42) :=
 qA qT (qA qT qT)
theorem stq51 (k : Nat) (x : shq51.D) : Flimb_Of (k + 1) x = body2 cf (fun f a b K => COt f a b K [Iq20 k, Iq103 k]) (fun b _ σ K => LOt Ty (kps 42) 0 b σ K []) 42 Tryz.f42.ntmps Tryz.f42.results.toList (bd Tryz.f42) (shq51.enc x).1 (shq51.enc x).2 (putS FS.dec rsq51) := by kernel_rfl
theorem okq51 : ∀ k, InstOk (call cf k) (Iq51 k)
 | 0 => fun x y e => absurd (show (none : Option _) = some y from e) (by simp)
 | k + 1 => inst_ok (c := cf) (k := k) (f := 42) (fn := Tryz.f42) (body := bd Tryz.f42) (sh := shq51) (os := rsq51) rfl Tryz.func42 rfl ⟨rfl, Nat.le_of_ble_eq_true rfl⟩ (COt_ok (alq51 k)) (anq51 k) (fun x => Flimb_Of (k + 1) x) (stq51 k)

/-! shunt/limb.Check -/
def blimb_Check (k : Nat) (a0 : Bool) (a1 : List Int) : Option (Int) :=
 if ((decide ((((List.length a1) : Nat) : Int) > (72 : Int))) = false) then
 if (((((List.length a1) : Nat) : Int) == (0 : Int)) = true) then
 if (a0 = false) then
 if ((decide ((((List.length a1) : Nat) : Int) > (0 : Int))) = true) then
 if ((0 : Int) ≤ (IntKind.wrap .i64 ((((List.length a1) : Nat) : Int) - (1 : Int)))) then
 Option.bind (a1)[(Int.toNat (IntKind.wrap .i64 ((((List.length a1) : Nat) : Int) - (1 : Int))))]? fun x4 =>
 if ((x4 == (0 : Int)) = true) then
 (some (10 : Int))
 else
 (some (0 : Int))
 else
 none
 else
 (some (0 : Int))
 else
 (some (10 : Int))
 else
 if ((decide ((((List.length a1) : Nat) : Int) > (0 : Int))) = true) then
 if ((0 : Int) ≤ (IntKind.wrap .i64 ((((List.length a1) : Nat) : Int) - (1 : Int)))) then
 Option.bind (a1)[(Int.toNat (IntKind.wrap .i64 ((((List.length a1) : Nat) : Int) - (1 : Int))))]? fun x4 =>
 if ((x4 == (0 : Int)) = true) then
 (some (10 : Int))
 else
 (some (0 : Int))
 else
 none
 else
 (some (0 : Int))
 else
 (some (10 : Int))
def Flimb_Check : Nat → Bool → List Int → Option (Int)
 | 0, _, _ => none
 | k + 1, a0, a1 => blimb_Check k a0 a1
def shq49 : FS := { vs := [.g [.lf .bool, .lf (.sl (.int .u32))]], bs := [] }
def rsq49 : List FS := [{ vs := [.a (.lf (.int .i64))], bs := [] }]
def Iq49 (k : Nat) : Inst := ⟨159, shq49, rsq49, fun x => Flimb_Check k x.1 x.2⟩
theorem alq49 (k : Nat) : AllI (call cf k) [] := True.intro
theorem anq49 (k : Nat) : LAll (LOk (R := DS FS.D rsq49) (fun b _ σ K => LOt Ty (kps 159) 0 b σ K []) cf (call cf k) (cf.keep 159) Tryz.f159.ntmps k shq49.bs.length) 0 (bd Tryz.f159) :=
 qA qT (qA qT (qA (qA qT (qA (qA qT qT) qT)) (qA qT qT)))
theorem stq49 (k : Nat) (x : shq49.D) : Flimb_Check (k + 1) x.1 x.2 = body2 cf (fun f a b K => COt f a b K []) (fun b _ σ K => LOt Ty (kps 159) 0 b σ K []) 159 Tryz.f159.ntmps Tryz.f159.results.toList (bd Tryz.f159) (shq49.enc x).1 (shq49.enc x).2 (putS FS.dec rsq49) := by kernel_rfl
theorem okq49 : ∀ k, InstOk (call cf k) (Iq49 k)
 | 0 => fun x y e => absurd (show (none : Option _) = some y from e) (by simp)
 | k + 1 => inst_ok (c := cf) (k := k) (f := 159) (fn := Tryz.f159) (body := bd Tryz.f159) (sh := shq49) (os := rsq49) rfl Tryz.func159 rfl ⟨rfl, Nat.le_of_ble_eq_true rfl⟩ (COt_ok (alq49 k)) (anq49 k) (fun x => Flimb_Check (k + 1) x.1 x.2) (stq49 k)

/-! shunt/limb.both -/
def blimb_both (k : Nat) (a0 : Bool) (a1 : List Int) (b0 : Bool) (b1 : List Int) : Option (Int) :=
 Option.bind (Flimb_Check k a0 a1) fun r9 =>
 if ((r9 != (0 : Int)) = true) then
 (some (10 : Int))
 else
 Option.bind (Flimb_Check k b0 b1) fun r10 =>
 (some r10)
def Flimb_both : Nat → Bool → List Int → Bool → List Int → Option (Int)
 | 0, _, _, _, _ => none
 | k + 1, a0, a1, b0, b1 => blimb_both k a0 a1 b0 b1
def shq52 : FS := { vs := [.g [.lf .bool, .lf (.sl (.int .u32))], .g [.lf .bool, .lf (.sl (.int .u32))]], bs := [] }
def rsq52 : List FS := [{ vs := [.a (.lf (.int .i64))], bs := [] }]
def Iq52 (k : Nat) : Inst := ⟨233, shq52, rsq52, fun x => Flimb_both k x.1 x.2.1 x.2.2.1 x.2.2.2⟩
theorem alq52 (k : Nat) : AllI (call cf k) [Iq49 k] := qA (okq49 k) qT
theorem anq52 (k : Nat) : LAll (LOk (R := DS FS.D rsq52) (fun b _ σ K => LOt Ty (kps 233) 0 b σ K []) cf (call cf k) (cf.keep 233) Tryz.f233.ntmps k shq52.bs.length) 0 (bd Tryz.f233) :=
 qA qT (qA (qA qT (qA (qA qT qT) qT)) (qA qT qT))
theorem stq52 (k : Nat) (x : shq52.D) : Flimb_both (k + 1) x.1 x.2.1 x.2.2.1 x.2.2.2 = body2 cf (fun f a b K => COt f a b K [Iq49 k]) (fun b _ σ K => LOt Ty (kps 233) 0 b σ K []) 233 Tryz.f233.ntmps Tryz.f233.results.toList (bd Tryz.f233) (shq52.enc x).1 (shq52.enc x).2 (putS FS.dec rsq52) := by kernel_rfl
theorem okq52 : ∀ k, InstOk (call cf k) (Iq52 k)
 | 0 => fun x y e => absurd (show (none : Option _) = some y from e) (by simp)
 | k + 1 => inst_ok (c := cf) (k := k) (f := 233) (fn := Tryz.f233) (body := bd Tryz.f233) (sh := shq52) (os := rsq52) rfl Tryz.func233 rfl ⟨rfl, Nat.le_of_ble_eq_true rfl⟩ (COt_ok (alq52 k)) (anq52 k) (fun x => Flimb_both (k + 1) x.1 x.2.1 x.2.2.1 x.2.2.2) (stq52 k)

/-! shunt/wide.Take -/
def bwide_Take (k : Nat) (a0 : Bool) (a1 : List Int) : Option (Bool × List Int) :=
 Option.bind (Fbig_Of k a0 a1) fun r10 =>
 (some (r10.1, r10.2))
def Fwide_Take : Nat → Bool → List Int → Option (Bool × List Int)
 | 0, _, _ => none
 | k + 1, a0, a1 => bwide_Take k a0 a1
def shq105 : FS := { vs := [.g [.lf .bool, .lf (.sl (.int .u32))]], bs := [] }
def rsq105 : List FS := [{ vs := [.a (.ptr 0 0 0)], bs := [.raw [[.lf .bool, .lf (.sl (.int .u32))]] 2 147 true false false] }]
def Iq105 (k : Nat) : Inst := ⟨154, shq105, rsq105, fun x => Fwide_Take k x.1 x.2⟩
theorem alq105 (k : Nat) : AllI (call cf k) [Iq21 k] := qA (okq21 k) qT
theorem anq105 (k : Nat) : LAll (LOk (R := DS FS.D rsq105) (fun b _ σ K => LOt Ty (kps 154) 0 b σ K []) cf (call cf k) (cf.keep 154) Tryz.f154.ntmps k shq105.bs.length) 0 (bd Tryz.f154) :=
 qA qT (qA qT qT)
theorem stq105 (k : Nat) (x : shq105.D) : Fwide_Take (k + 1) x.1 x.2 = body2 cf (fun f a b K => COt f a b K [Iq21 k]) (fun b _ σ K => LOt Ty (kps 154) 0 b σ K []) 154 Tryz.f154.ntmps Tryz.f154.results.toList (bd Tryz.f154) (shq105.enc x).1 (shq105.enc x).2 (putS FS.dec rsq105) := by kernel_rfl
theorem okq105 : ∀ k, InstOk (call cf k) (Iq105 k)
 | 0 => fun x y e => absurd (show (none : Option _) = some y from e) (by simp)
 | k + 1 => inst_ok (c := cf) (k := k) (f := 154) (fn := Tryz.f154) (body := bd Tryz.f154) (sh := shq105) (os := rsq105) rfl Tryz.func154 rfl ⟨rfl, Nat.le_of_ble_eq_true rfl⟩ (COt_ok (alq105 k)) (anq105 k) (fun x => Fwide_Take (k + 1) x.1 x.2) (stq105 k)

/-! shunt/limb.Gcd -/
def blimb_Gcd (k : Nat) (a0 : Bool) (a1 : List Int) (b0 : Bool) (b1 : List Int) : Option (Bool × List Int × Int) :=
 Option.bind (Flimb_both k a0 a1 b0 b1) fun r9 =>
 if ((r9 != (0 : Int)) = true) then
 (some (false, [], r9))
 else
 Option.bind (Fwide_Take k a0 a1) fun r10 =>
 Option.bind (Fwide_Take k b0 b1) fun r11 =>
 Option.bind (Fbig_Gcd_ddu k r10.1 r10.2 r11.1 r11.2) fun r12 =>
 Option.bind (Fwide_Give_awf k r12.2.2.2.2.1 r12.2.2.2.2.2) fun r13 =>
 if ((0 + r13.2.1) ≤ (List.length r13.2.2.2.2)) then
 (some (r13.1, (List.take r13.2.1 r13.2.2.2.2), (0 : Int)))
 else
 none
def Flimb_Gcd : Nat → Bool → List Int → Bool → List Int → Option (Bool × List Int × Int)
 | 0, _, _, _, _ => none
 | k + 1, a0, a1, b0, b1 => blimb_Gcd k a0 a1 b0 b1
def shq50 : FS := { vs := [.g [.lf .bool, .lf (.sl (.int .u32))], .g [.lf .bool, .lf (.sl (.int .u32))]], bs := [] }
def rsq50 : List FS := [{ vs := [.g [.lf .bool, .lf (.sl (.int .u32))], .a (.lf (.int .i64))], bs := [] }]
def Iq50 (k : Nat) : Inst := ⟨209, shq50, rsq50, fun x => Flimb_Gcd k x.1 x.2.1 x.2.2.1 x.2.2.2⟩
theorem alq50 (k : Nat) : AllI (call cf k) [Iq52 k, Iq105 k, Iq2 k, Iq103 k] := qA (okq52 k) (qA (okq105 k) (qA (okq2 k) (qA (okq103 k) qT)))
theorem anq50 (k : Nat) : LAll (LOk (R := DS FS.D rsq50) (fun b _ σ K => LOt Ty (kps 209) 0 b σ K []) cf (call cf k) (cf.keep 209) Tryz.f209.ntmps k shq50.bs.length) 0 (bd Tryz.f209) :=
 qA qT (qA (qA qT (qA qT (qA (qA qT qT) qT))) (qA qT qT))
theorem stq50 (k : Nat) (x : shq50.D) : Flimb_Gcd (k + 1) x.1 x.2.1 x.2.2.1 x.2.2.2 = body2 cf (fun f a b K => COt f a b K [Iq52 k, Iq105 k, Iq2 k, Iq103 k]) (fun b _ σ K => LOt Ty (kps 209) 0 b σ K []) 209 Tryz.f209.ntmps Tryz.f209.results.toList (bd Tryz.f209) (shq50.enc x).1 (shq50.enc x).2 (putS FS.dec rsq50) := by kernel_rfl
theorem okq50 : ∀ k, InstOk (call cf k) (Iq50 k)
 | 0 => fun x y e => absurd (show (none : Option _) = some y from e) (by simp)
 | k + 1 => inst_ok (c := cf) (k := k) (f := 209) (fn := Tryz.f209) (body := bd Tryz.f209) (sh := shq50) (os := rsq50) rfl Tryz.func209 rfl ⟨rfl, Nat.le_of_ble_eq_true rfl⟩ (COt_ok (alq50 k)) (anq50 k) (fun x => Flimb_Gcd (k + 1) x.1 x.2.1 x.2.2.1 x.2.2.2) (stq50 k)

/-! shunt/rat.Check -/
def brat_Check (k : Nat) (r0 : Bool) (r1 : List Int) (r2 : Bool) (r3 : List Int) : Option (Int) :=
 Option.bind (Flimb_Check k r0 r1) fun r7 =>
 if ((r7 != (0 : Int)) = false) then
 Option.bind (Flimb_Check k r2 r3) fun r8 =>
 if ((r8 != (0 : Int)) = true) then
 (some (10 : Int))
 else
 if (r2 = false) then
 if (((((List.length r3) : Nat) : Int) == (0 : Int)) = true) then
 (some (20 : Int))
 else
 Option.bind (Flimb_Gcd k r0 r1 r2 r3) fun r9 =>
 if (((((List.length r9.2.1) : Nat) : Int) != (1 : Int)) = false) then
 Option.bind (r9.2.1)[0]? fun x4 =>
 if ((x4 != (1 : Int)) = true) then
 (some (20 : Int))
 else
 (some (0 : Int))
 else
 (some (20 : Int))
 else
 (some (20 : Int))
 else
 (some (10 : Int))
def Frat_Check : Nat → Bool → List Int → Bool → List Int → Option (Int)
 | 0, _, _, _, _ => none
 | k + 1, r0, r1, r2, r3 => brat_Check k r0 r1 r2 r3
def shq70 : FS := { vs := [.g [.lf .bool, .lf (.sl (.int .u32)), .lf .bool, .lf (.sl (.int .u32))]], bs := [] }
def rsq70 : List FS := [{ vs := [.a (.lf (.int .i64))], bs := [] }]
def Iq70 (k : Nat) : Inst := ⟨153, shq70, rsq70, fun x => Frat_Check k x.1 x.2.1 x.2.2.1 x.2.2.2⟩
theorem alq70 (k : Nat) : AllI (call cf k) [Iq49 k, Iq50 k] := qA (okq49 k) (qA (okq50 k) qT)
theorem anq70 (k : Nat) : LAll (LOk (R := DS FS.D rsq70) (fun b _ σ K => LOt Ty (kps 153) 0 b σ K []) cf (call cf k) (cf.keep 153) Tryz.f153.ntmps k shq70.bs.length) 0 (bd Tryz.f153) :=
 qA qT (qA (qA qT (qA (qA qT qT) qT)) (qA (qA qT (qA (qA qT qT) qT)) (qA qT (qA (qA qT (qA (qA qT qT) qT)) (qA qT qT)))))
theorem stq70 (k : Nat) (x : shq70.D) : Frat_Check (k + 1) x.1 x.2.1 x.2.2.1 x.2.2.2 = body2 cf (fun f a b K => COt f a b K [Iq49 k, Iq50 k]) (fun b _ σ K => LOt Ty (kps 153) 0 b σ K []) 153 Tryz.f153.ntmps Tryz.f153.results.toList (bd Tryz.f153) (shq70.enc x).1 (shq70.enc x).2 (putS FS.dec rsq70) := by kernel_rfl
theorem okq70 : ∀ k, InstOk (call cf k) (Iq70 k)
 | 0 => fun x y e => absurd (show (none : Option _) = some y from e) (by simp)
 | k + 1 => inst_ok (c := cf) (k := k) (f := 153) (fn := Tryz.f153) (body := bd Tryz.f153) (sh := shq70) (os := rsq70) rfl Tryz.func153 rfl ⟨rfl, Nat.le_of_ble_eq_true rfl⟩ (COt_ok (alq70 k)) (anq70 k) (fun x => Frat_Check (k + 1) x.1 x.2.1 x.2.2.1 x.2.2.2) (stq70 k)

/-! shunt/rat.all -/
def Lrat_all_0s (k : Nat) (rec : Int → List ((Bool × List Int) × Bool × List Int) → Int → Int → Option ((Int × Bool × List Int × Bool × List Int) ⊕ (Int))) (worst : Int) (x : List ((Bool × List Int) × Bool × List Int)) (x1 : Int) (x2 : Int) : Option ((Int × Bool × List Int × Bool × List Int) ⊕ (Int)) :=
 if ((decide (x2 < x1)) = true) then
 if ((0 : Int) ≤ x2) then
 Option.bind (x)[(Int.toNat x2)]? fun x3 =>
 Option.bind (Frat_Check k x3.1.1 x3.1.2 x3.2.1 x3.2.2) fun r7 =>
 if ((r7 == (10 : Int)) = true) then
 (some (Sum.inl ((10 : Int), x3.1.1, x3.1.2, x3.2.1, x3.2.2)))
 else
 if ((r7 == (20 : Int)) = true) then
 rec (20 : Int) x x1 (IntKind.wrap .i64 (x2 + (1 : Int)))
 else
 rec worst x x1 (IntKind.wrap .i64 (x2 + (1 : Int)))
 else
 none
 else
 (some (Sum.inr worst))
def Lrat_all_0 (k n : Nat) : Int → List ((Bool × List Int) × Bool × List Int) → Int → Int → Option ((Int × Bool × List Int × Bool × List Int) ⊕ (Int)) := Nat.rec (fun _ _ _ _ => none) (fun _ r => Lrat_all_0s k r) n
def brat_all (k : Nat) (l : List ((Bool × List Int) × Bool × List Int)) : Option (Int) :=
 Option.bind (Lrat_all_0 k k (0 : Int) l (((List.length l) : Nat) : Int) (0 : Int)) fun r7 =>
 eitherK r7
 (fun r7 =>
 (some r7.1))
 (fun r7 =>
 (some r7))
def Frat_all : Nat → List ((Bool × List Int) × Bool × List Int) → Option (Int)
 | 0, _ => none
 | k + 1, l => brat_all k l
def shq72 : FS := { vs := [.a (.lf (.sl (.pr (.pr .bool (.sl (.int .u32))) (.pr .bool (.sl (.int .u32))))))], bs := [] }
def rsq72 : List FS := [{ vs := [.a (.lf (.int .i64))], bs := [] }]
def Iq72 (k : Nat) : Inst := ⟨98, shq72, rsq72, fun x => Frat_all k x⟩
theorem alq72 (k : Nat) : AllI (call cf k) [Iq70 k] := qA (okq70 k) qT
def hsq141 : List SS := [{ fr := [(3, .a (.lf (.int .i64))), (6, .a (.lf (.sl (.pr (.pr .bool (.sl (.int .u32))) (.pr .bool (.sl (.int .u32))))))), (7, .a (.lf (.int .i64))), (8, .a (.lf (.int .i64)))], mem := [], nx := 0 }]
def osq141 : List OS := [⟨none, { fr := [(2, .a (.lf (.int .i64)))], mem := [(0, some (.raw [[.lf .bool, .lf (.sl (.int .u32)), .lf .bool, .lf (.sl (.int .u32))]] 4 73 true false false))], nx := 1 }⟩, ⟨some 0, { fr := [(3, .a (.lf (.int .i64)))], mem := [], nx := 0 }⟩]
def LIq141 (k : Nat) : LInst := ⟨0, hsq141, osq141, fun x => Lrat_all_0 k k x.1 x.2.1 x.2.2.1 x.2.2.2⟩
theorem anq141 (k : Nat) : LAll (LOk (R := DS OS.D osq141) (fun b _ σ K => LOt Ty (kps 98) 0 b σ K []) cf (call cf k) (kps 98) Tryz.f98.ntmps k 0) 0 (lb Tryz.f98 0) :=
 qA qT (qA (qA qT qT) (qA (qA qT (qA qT (qA qT (qA (qA qT qT) (qA qT (qA qT qT)))))) qT))
theorem stq141 (k n : Nat) (x : DS SS.D hsq141) : Lrat_all_0 k (n + 1) x.1 x.2.1 x.2.2.1 x.2.2.2 = encSK SS.enc (fun σ => run2 cf (fun f a b K => COt f a b K [Iq70 k]) (fun b _ σ K => LOt Ty (kps 98) 0 b σ K []) Tryz.f98.ntmps 0 (lb Tryz.f98 0) σ (nextK Ty (kps 98 0) 0 hsq141 osq141 fun x => Lrat_all_0 k n x.1 x.2.1 x.2.2.1 x.2.2.2)) hsq141 x := by kernel_rfl
theorem loq141 (k : Nat) : LIOk cf (call cf k) (kps 98) Tryz.f98.ntmps k 0 0 (lb Tryz.f98 0) (LIq141 k) :=
 loop_ok (c := cf) (callF := call cf k) (kp := kps 98) (nt := Tryz.f98.ntmps) (k := k) (p := 0) (b := 0) (x0 := lb Tryz.f98 0) (hs := hsq141) (os := osq141) (COt_ok (alq72 k)) (anq141 k) (fun n x => Lrat_all_0 k n x.1 x.2.1 x.2.2.1 x.2.2.2) (fun _ => rfl) (stq141 k)
theorem anq72 (k : Nat) : LAll (LOk (R := DS FS.D rsq72) (fun b _ σ K => LOt Ty (kps 98) 0 b σ K [LIq141 k]) cf (call cf k) (cf.keep 98) Tryz.f98.ntmps k shq72.bs.length) 0 (bd Tryz.f98) :=
 qA qT (qA qT (qA (qA qT (LOt_ok (c := cf) (callF := call cf k) (kp := kps 98) (nt := Tryz.f98.ntmps) (k := k) (p := 0) (b := 0) (x0 := lb Tryz.f98 0) (l := [LIq141 k]) (qA (fun _ => loq141 k) qT))) (qA qT qT)))
theorem stq72 (k : Nat) (x : shq72.D) : Frat_all (k + 1) x = body2 cf (fun f a b K => COt f a b K [Iq70 k]) (fun b _ σ K => LOt Ty (kps 98) 0 b σ K [LIq141 k]) 98 Tryz.f98.ntmps Tryz.f98.results.toList (bd Tryz.f98) (shq72.enc x).1 (shq72.enc x).2 (putS FS.dec rsq72) := by kernel_rfl
theorem okq72 : ∀ k, InstOk (call cf k) (Iq72 k)
 | 0 => fun x y e => absurd (show (none : Option _) = some y from e) (by simp)
 | k + 1 => inst_ok (c := cf) (k := k) (f := 98) (fn := Tryz.f98) (body := bd Tryz.f98) (sh := shq72) (os := rsq72) rfl Tryz.func98 rfl ⟨rfl, Nat.le_of_ble_eq_true rfl⟩ (COt_ok (alq72 k)) (anq72 k) (fun x => Frat_all (k + 1) x) (stq72 k)

/-! shunt/wide.Rat -/
def bwide_Rat (k : Nat) (r0 : Bool) (r1 : List Int) (r2 : Bool) (r3 : List Int) : Option (Bool × List Int × Bool × List Int) :=
 Option.bind (Fwide_Take k r0 r1) fun r8 =>
 Option.bind (Fwide_Take k r2 r3) fun r9 =>
 Option.bind (Fbig_Frac_ddu k r8.1 r8.2 r9.1 r9.2) fun r10 =>
 (some (r10.2.2.2.2.1, r10.2.2.2.2.2.1, r10.2.2.2.2.2.2.1, r10.2.2.2.2.2.2.2))
def Fwide_Rat : Nat → Bool → List Int → Bool → List Int → Option (Bool × List Int × Bool × List Int)
 | 0, _, _, _, _ => none
 | k + 1, r0, r1, r2, r3 => bwide_Rat k r0 r1 r2 r3
def shq104 : FS := { vs := [.g [.lf .bool, .lf (.sl (.int .u32)), .lf .bool, .lf (.sl (.int .u32))]], bs := [] }
def rsq104 : List FS := [{ vs := [.a (.ptr 0 0 0)], bs := [.raw [[.lf .bool, .lf (.sl (.int .u32)), .lf .bool, .lf (.sl (.int .u32))]] 4 180 true false false] }]
def Iq104 (k : Nat) : Inst := ⟨99, shq104, rsq104, fun x => Fwide_Rat k x.1 x.2.1 x.2.2.1 x.2.2.2⟩
theorem alq104 (k : Nat) : AllI (call cf k) [Iq105 k, Iq0 k] := qA (okq105 k) (qA (okq0 k) qT)
theorem anq104 (k : Nat) : LAll (LOk (R := DS FS.D rsq104) (fun b _ σ K => LOt Ty (kps 99) 0 b σ K []) cf (call cf k) (cf.keep 99) Tryz.f99.ntmps k shq104.bs.length) 0 (bd Tryz.f99) :=
 qA qT (qA qT qT)
theorem stq104 (k : Nat) (x : shq104.D) : Fwide_Rat (k + 1) x.1 x.2.1 x.2.2.1 x.2.2.2 = body2 cf (fun f a b K => COt f a b K [Iq105 k, Iq0 k]) (fun b _ σ K => LOt Ty (kps 99) 0 b σ K []) 99 Tryz.f99.ntmps Tryz.f99.results.toList (bd Tryz.f99) (shq104.enc x).1 (shq104.enc x).2 (putS FS.dec rsq104) := by kernel_rfl
theorem okq104 : ∀ k, InstOk (call cf k) (Iq104 k)
 | 0 => fun x y e => absurd (show (none : Option _) = some y from e) (by simp)
 | k + 1 => inst_ok (c := cf) (k := k) (f := 99) (fn := Tryz.f99) (body := bd Tryz.f99) (sh := shq104) (os := rsq104) rfl Tryz.func99 rfl ⟨rfl, Nat.le_of_ble_eq_true rfl⟩ (COt_ok (alq104 k)) (anq104 k) (fun x => Fwide_Rat (k + 1) x.1 x.2.1 x.2.2.1 x.2.2.2) (stq104 k)

/-! shunt/rat.Cmp -/
def brat_Cmp (k : Nat) (a0 : Bool) (a1 : List Int) (a2 : Bool) (a3 : List Int) (b0 : Bool) (b1 : List Int) (b2 : Bool) (b3 : List Int) : Option (Int × Int) :=
 Option.bind (Frat_all k (List.take 2 (((a0, a1), (a2, a3)) :: (((b0, b1), (b2, b3)) :: [])))) fun r7 =>
 if ((r7 != (0 : Int)) = true) then
 (some ((0 : Int), r7))
 else
 Option.bind (Fwide_Rat k a0 a1 a2 a3) fun r8 =>
 Option.bind (Fwide_Rat k b0 b1 b2 b3) fun r9 =>
 Option.bind (Fbig_Rat_Cmp_jyb k r8.1 r8.2.1 r8.2.2.1 r8.2.2.2 r9.1 r9.2.1 r9.2.2.1 r9.2.2.2) fun r10 =>
 (some (r10.1, (0 : Int)))
def Frat_Cmp : Nat → Bool → List Int → Bool → List Int → Bool → List Int → Bool → List Int → Option (Int × Int)
 | 0, _, _, _, _, _, _, _, _ => none
 | k + 1, a0, a1, a2, a3, b0, b1, b2, b3 => brat_Cmp k a0 a1 a2 a3 b0 b1 b2 b3
def shq71 : FS := { vs := [.g [.lf .bool, .lf (.sl (.int .u32)), .lf .bool, .lf (.sl (.int .u32))], .g [.lf .bool, .lf (.sl (.int .u32)), .lf .bool, .lf (.sl (.int .u32))]], bs := [] }
def rsq71 : List FS := [{ vs := [.a (.lf (.int .i64)), .a (.lf (.int .i64))], bs := [] }]
def Iq71 (k : Nat) : Inst := ⟨41, shq71, rsq71, fun x => Frat_Cmp k x.1 x.2.1 x.2.2.1 x.2.2.2.1 x.2.2.2.2.1 x.2.2.2.2.2.1 x.2.2.2.2.2.2.1 x.2.2.2.2.2.2.2⟩
theorem alq71 (k : Nat) : AllI (call cf k) [Iq72 k, Iq104 k, Iq22 k] := qA (okq72 k) (qA (okq104 k) (qA (okq22 k) qT))
theorem anq71 (k : Nat) : LAll (LOk (R := DS FS.D rsq71) (fun b _ σ K => LOt Ty (kps 41) 0 b σ K []) cf (call cf k) (cf.keep 41) Tryz.f41.ntmps k shq71.bs.length) 0 (bd Tryz.f41) :=
 qA qT (qA (qA qT (qA qT (qA (qA qT qT) qT))) (qA qT qT))
theorem stq71 (k : Nat) (x : shq71.D) : Frat_Cmp (k + 1) x.1 x.2.1 x.2.2.1 x.2.2.2.1 x.2.2.2.2.1 x.2.2.2.2.2.1 x.2.2.2.2.2.2.1 x.2.2.2.2.2.2.2 = body2 cf (fun f a b K => COt f a b K [Iq72 k, Iq104 k, Iq22 k]) (fun b _ σ K => LOt Ty (kps 41) 0 b σ K []) 41 Tryz.f41.ntmps Tryz.f41.results.toList (bd Tryz.f41) (shq71.enc x).1 (shq71.enc x).2 (putS FS.dec rsq71) := by kernel_rfl
theorem okq71 : ∀ k, InstOk (call cf k) (Iq71 k)
 | 0 => fun x y e => absurd (show (none : Option _) = some y from e) (by simp)
 | k + 1 => inst_ok (c := cf) (k := k) (f := 41) (fn := Tryz.f41) (body := bd Tryz.f41) (sh := shq71) (os := rsq71) rfl Tryz.func41 rfl ⟨rfl, Nat.le_of_ble_eq_true rfl⟩ (COt_ok (alq71 k)) (anq71 k) (fun x => Frat_Cmp (k + 1) x.1 x.2.1 x.2.2.1 x.2.2.2.1 x.2.2.2.2.1 x.2.2.2.2.2.1 x.2.2.2.2.2.2.1 x.2.2.2.2.2.2.2) (stq71 k)

/-! shunt/shuntlaw20.ProbeSpan -/
def Lshuntlaw20_ProbeSpan_0s (k : Nat) (rec : Int → Int → Int → Int → Bool → Bool → List Int → Int → Int → Bool → List Int → Bool → List Int → Option ((Bool × Bool × List Int × Bool × List Int) ⊕ (Int × Int × Int × Int × Bool × Bool × Bool × List Int × Bool × List Int))) (low : Int) (high : Int) (e : Int) (f : Int) (l : Bool) (h : Bool) (x : List Int) (x1 : Int) (x2 : Int) (mean0 : Bool) (mean1 : List Int) (mean2 : Bool) (mean3 : List Int) : Option ((Bool × Bool × List Int × Bool × List Int) ⊕ (Int × Int × Int × Int × Bool × Bool × Bool × List Int × Bool × List Int)) :=
 if ((decide (x2 < x1)) = true) then
 if ((0 : Int) ≤ x2) then
 Option.bind (x)[(Int.toNat x2)]? fun x3 =>
 if ((decide (x3 < low)) = false) then
 if ((decide (x3 > high)) = true) then
 (some (Sum.inl (false, mean0, mean1, mean2, mean3)))
 else
 if (l = false) then
 if (h = false) then
 rec low high e f (x3 == low) (x3 == high) x x1 (IntKind.wrap .i64 (x2 + (1 : Int))) mean0 mean1 mean2 mean3
 else
 rec low high e f (x3 == low) true x x1 (IntKind.wrap .i64 (x2 + (1 : Int))) mean0 mean1 mean2 mean3
 else
 if (h = false) then
 rec low high e f true (x3 == high) x x1 (IntKind.wrap .i64 (x2 + (1 : Int))) mean0 mean1 mean2 mean3
 else
 rec low high e f true true x x1 (IntKind.wrap .i64 (x2 + (1 : Int))) mean0 mean1 mean2 mean3
 else
 (some (Sum.inl (false, mean0, mean1, mean2, mean3)))
 else
 none
 else
 (some (Sum.inr (low, high, e, f, l, h, mean0, mean1, mean2, mean3)))
def Lshuntlaw20_ProbeSpan_0 (k n : Nat) : Int → Int → Int → Int → Bool → Bool → List Int → Int → Int → Bool → List Int → Bool → List Int → Option ((Bool × Bool × List Int × Bool × List Int) ⊕ (Int × Int × Int × Int × Bool × Bool × Bool × List Int × Bool × List Int)) := Nat.rec (fun _ _ _ _ _ _ _ _ _ _ _ _ _ => none) (fun _ r => Lshuntlaw20_ProbeSpan_0s k r) n
def bshuntlaw20_ProbeSpan (k : Nat) (row : List Int) : Option (Bool) :=
 Option.bind (Fshuntlaw20_awake k) fun r =>
 if ((!r) = true) then
 (some false)
 else
 if ((decide ((((List.length row) : Nat) : Int) > (2000 : Int))) = false) then
 Option.bind (Fshuntref20_Outside k row) fun r1 =>
 if (r1 = true) then
 (some true)
 else
 Option.bind (Fprobe_Span k row) fun r2 =>
 Option.bind (Fprobe_Mean k row) fun r3 =>
 if (((((List.length row) : Nat) : Int) == (0 : Int)) = true) then
 if ((r2.2.2 == (6 : Int)) = true) then
 (some (r3.2.2.2.2 == (6 : Int)))
 else
 (some false)
 else
 Option.bind (Lshuntlaw20_ProbeSpan_0 k k r2.1 r2.2.1 r2.2.2 r3.2.2.2.2 false false row (((List.length row) : Nat) : Int) (0 : Int) r3.1 r3.2.1 r3.2.2.1 r3.2.2.2.1) fun r4 =>
 eitherK r4
 (fun r4 =>
 (some r4.1))
 (fun r4 =>
 Option.bind (Flimb_Of k r4.1) fun r5 =>
 Option.bind (Flimb_Of k (1 : Int)) fun r6 =>
 Option.bind (Frat_Cmp k r4.2.2.2.2.2.2.1 r4.2.2.2.2.2.2.2.1 r4.2.2.2.2.2.2.2.2.1 r4.2.2.2.2.2.2.2.2.2 r5.1 r5.2 r6.1 r6.2) fun r7 =>
 Option.bind (Flimb_Of k r4.2.1) fun r8 =>
 Option.bind (Flimb_Of k (1 : Int)) fun r9 =>
 Option.bind (Frat_Cmp k r4.2.2.2.2.2.2.1 r4.2.2.2.2.2.2.2.1 r4.2.2.2.2.2.2.2.2.1 r4.2.2.2.2.2.2.2.2.2 r8.1 r8.2 r9.1 r9.2) fun r10 =>
 if (((IntKind.wrap .i64 ((IntKind.wrap .i64 ((IntKind.wrap .i64 (r4.2.2.1 + r4.2.2.2.1)) + r7.2)) + r10.2)) == (0 : Int)) = true) then
 if (r4.2.2.2.2.1 = true) then
 if (r4.2.2.2.2.2.1 = true) then
 if ((decide (r7.1 ≥ (0 : Int))) = true) then
 (some (decide (r10.1 ≤ (0 : Int))))
 else
 (some false)
 else
 (some false)
 else
 (some false)
 else
 (some false))
 else
 (some true)
def Fshuntlaw20_ProbeSpan : Nat → List Int → Option (Bool)
 | 0, _ => none
 | k + 1, row => bshuntlaw20_ProbeSpan k row
def shq73 : FS := { vs := [.a (.lf (.sl (.int .i64)))], bs := [] }
def rsq73 : List FS := [{ vs := [.a (.lf .bool)], bs := [] }]
def Iq73 (k : Nat) : Inst := ⟨8, shq73, rsq73, fun x => Fshuntlaw20_ProbeSpan k x⟩
theorem alq73 (k : Nat) : AllI (call cf k) [Iq74 k, Iq76 k, Iq63 k, Iq59 k, Iq51 k, Iq71 k] := qA (okq74 k) (qA (okq76 k) (qA (okq63 k) (qA (okq59 k) (qA (okq51 k) (qA (okq71 k) qT)))))
def hsq142 : List SS := [{ fr := [(3, .a (.lf (.int .i64))), (4, .a (.lf (.int .i64))), (5, .a (.lf (.int .i64))), (6, .a (.ptr 0 0 0)), (7, .a (.lf (.int .i64))), (8, .a (.lf .bool)), (9, .a (.lf .bool)), (45, .a (.lf (.sl (.int .i64)))), (46, .a (.lf (.int .i64))), (47, .a (.lf (.int .i64)))], mem := [(0, some (.raw [[.lf .bool, .lf (.sl (.int .u32)), .lf .bool, .lf (.sl (.int .u32))]] 4 73 true false false))], nx := 1 }]
def osq142 : List OS := [⟨none, { fr := [(2, .a (.lf .bool))], mem := [(0, some (.raw [[.lf .bool, .lf (.sl (.int .u32)), .lf .bool, .lf (.sl (.int .u32))]] 4 73 true false false))], nx := 1 }⟩, ⟨some 0, { fr := [(3, .a (.lf (.int .i64))), (4, .a (.lf (.int .i64))), (5, .a (.lf (.int .i64))), (6, .a (.ptr 0 0 0)), (7, .a (.lf (.int .i64))), (8, .a (.lf .bool)), (9, .a (.lf .bool))], mem := [(0, some (.raw [[.lf .bool, .lf (.sl (.int .u32)), .lf .bool, .lf (.sl (.int .u32))]] 4 73 true false false))], nx := 1 }⟩]
def LIq142 (k : Nat) : LInst := ⟨0, hsq142, osq142, fun x => Lshuntlaw20_ProbeSpan_0 k k x.1 x.2.1 x.2.2.1 x.2.2.2.1 x.2.2.2.2.1 x.2.2.2.2.2.1 x.2.2.2.2.2.2.1 x.2.2.2.2.2.2.2.1 x.2.2.2.2.2.2.2.2.1 x.2.2.2.2.2.2.2.2.2.1 x.2.2.2.2.2.2.2.2.2.2.1 x.2.2.2.2.2.2.2.2.2.2.2.1 x.2.2.2.2.2.2.2.2.2.2.2.2⟩
theorem anq142 (k : Nat) : LAll (LOk (R := DS OS.D osq142) (fun b _ σ K => LOt Ty (kps 8) 0 b σ K []) cf (call cf k) (kps 8) Tryz.f8.ntmps k 0) 0 (lb Tryz.f8 0) :=
 qA qT (qA (qA qT qT) (qA (qA qT (qA (qA qT (qA (qA qT qT) qT)) (qA qT qT))) qT))
theorem stq142 (k n : Nat) (x : DS SS.D hsq142) : Lshuntlaw20_ProbeSpan_0 k (n + 1) x.1 x.2.1 x.2.2.1 x.2.2.2.1 x.2.2.2.2.1 x.2.2.2.2.2.1 x.2.2.2.2.2.2.1 x.2.2.2.2.2.2.2.1 x.2.2.2.2.2.2.2.2.1 x.2.2.2.2.2.2.2.2.2.1 x.2.2.2.2.2.2.2.2.2.2.1 x.2.2.2.2.2.2.2.2.2.2.2.1 x.2.2.2.2.2.2.2.2.2.2.2.2 = encSK SS.enc (fun σ => run2 cf (fun f a b K => COt f a b K [Iq74 k, Iq76 k, Iq63 k, Iq59 k, Iq51 k, Iq71 k]) (fun b _ σ K => LOt Ty (kps 8) 0 b σ K []) Tryz.f8.ntmps 0 (lb Tryz.f8 0) σ (nextK Ty (kps 8 0) 0 hsq142 osq142 fun x => Lshuntlaw20_ProbeSpan_0 k n x.1 x.2.1 x.2.2.1 x.2.2.2.1 x.2.2.2.2.1 x.2.2.2.2.2.1 x.2.2.2.2.2.2.1 x.2.2.2.2.2.2.2.1 x.2.2.2.2.2.2.2.2.1 x.2.2.2.2.2.2.2.2.2.1 x.2.2.2.2.2.2.2.2.2.2.1 x.2.2.2.2.2.2.2.2.2.2.2.1 x.2.2.2.2.2.2.2.2.2.2.2.2)) hsq142 x := by kernel_rfl
theorem loq142 (k : Nat) : LIOk cf (call cf k) (kps 8) Tryz.f8.ntmps k 0 0 (lb Tryz.f8 0) (LIq142 k) :=
 loop_ok (c := cf) (callF := call cf k) (kp := kps 8) (nt := Tryz.f8.ntmps) (k := k) (p := 0) (b := 0) (x0 := lb Tryz.f8 0) (hs := hsq142) (os := osq142) (COt_ok (alq73 k)) (anq142 k) (fun n x => Lshuntlaw20_ProbeSpan_0 k n x.1 x.2.1 x.2.2.1 x.2.2.2.1 x.2.2.2.2.1 x.2.2.2.2.2.1 x.2.2.2.2.2.2.1 x.2.2.2.2.2.2.2.1 x.2.2.2.2.2.2.2.2.1 x.2.2.2.2.2.2.2.2.2.1 x.2.2.2.2.2.2.2.2.2.2.1 x.2.2.2.2.2.2.2.2.2.2.2.1 x.2.2.2.2.2.2.2.2.2.2.2.2) (fun _ => rfl) (stq142 k)
theorem anq73 (k : Nat) : LAll (LOk (R := DS FS.D rsq73) (fun b _ σ K => LOt Ty (kps 8) 0 b σ K [LIq142 k]) cf (call cf k) (cf.keep 8) Tryz.f8.ntmps k shq73.bs.length) 0 (bd Tryz.f8) :=
 qA qT (qA (qA qT (qA (qA qT qT) qT)) (qA (qA qT (qA (qA qT qT) qT)) (qA qT (qA qT (qA (qA qT (qA (qA qT qT) qT)) (qA qT (qA (qA qT (LOt_ok (c := cf) (callF := call cf k) (kp := kps 8) (nt := Tryz.f8.ntmps) (k := k) (p := 0) (b := 0) (x0 := lb Tryz.f8 0) (l := [LIq142 k]) (qA (fun _ => loq142 k) qT))) (qA qT (qA qT (qA qT qT))))))))))
theorem stq73 (k : Nat) (x : shq73.D) : Fshuntlaw20_ProbeSpan (k + 1) x = body2 cf (fun f a b K => COt f a b K [Iq74 k, Iq76 k, Iq63 k, Iq59 k, Iq51 k, Iq71 k]) (fun b _ σ K => LOt Ty (kps 8) 0 b σ K [LIq142 k]) 8 Tryz.f8.ntmps Tryz.f8.results.toList (bd Tryz.f8) (shq73.enc x).1 (shq73.enc x).2 (putS FS.dec rsq73) := by kernel_rfl
theorem okq73 : ∀ k, InstOk (call cf k) (Iq73 k)
 | 0 => fun x y e => absurd (show (none : Option _) = some y from e) (by simp)
 | k + 1 => inst_ok (c := cf) (k := k) (f := 8) (fn := Tryz.f8) (body := bd Tryz.f8) (sh := shq73) (os := rsq73) rfl Tryz.func8 rfl ⟨rfl, Nat.le_of_ble_eq_true rfl⟩ (COt_ok (alq73 k)) (anq73 k) (fun x => Fshuntlaw20_ProbeSpan (k + 1) x) (stq73 k)


end
end Go.Proofs.YtlnailgfialgnaaGreatDoor.Am
