/- Printed functions: each says what the typed machine says of the program -/
import Derived.Test.YtbhnafdmilfobaaMP1
import Derived.KernelRfl

set_option linter.unusedVariables false
set_option maxRecDepth 100000
namespace Go.Proofs.Ytbhnafdmilfobaa.Am
open Go
noncomputable section

/-! (*shunt/big.Int).Add -/
def bbig_Int_Add_jod (k : Nat) (x0 : Bool) (x1 : List Int) (y0 : Bool) (y1 : List Int) : Option (Bool × List Int × Bool × List Int) :=
  Option.bind (Fbig_Int_sum_ahd k y0 y1 x0 x1) fun r15 =>
  (some (r15.1, r15.2, y0, y1))
def Fbig_Int_Add_jod : Nat → Bool → List Int → Bool → List Int → Option (Bool × List Int × Bool × List Int)
  | 0, _, _, _, _ => none
  | k + 1, x0, x1, y0, y1 => bbig_Int_Add_jod k x0 x1 y0 y1
def shbig_Int_Add_jod : FS := { vs := [.a (.ptr 0 0 0), .a (.ptr 0 0 0), .a (.ptr 1 0 0)], bs := [.raw [[.lf .bool, .lf (.sl (.int .u32))]] 2 98 true false, .raw [[.lf .bool, .lf (.sl (.int .u32))]] 2 98 true false] }
def rsbig_Int_Add_jod : List FS := [{ vs := [.a (.ptr 0 0 0)], bs := [.raw [[.lf .bool, .lf (.sl (.int .u32))]] 2 98 true false, .raw [[.lf .bool, .lf (.sl (.int .u32))]] 2 98 true false] }]
def Ibig_Int_Add_jod (k : Nat) : Inst := ⟨94, shbig_Int_Add_jod, rsbig_Int_Add_jod, fun x => Fbig_Int_Add_jod k x.1 x.2.1 x.2.2.1 x.2.2.2⟩
theorem albig_Int_Add_jod (k : Nat) : AllI (call cf k) [Ibig_Int_sum_ahd k] := And.intro (okbig_Int_sum_ahd k) (True.intro)
theorem anbig_Int_Add_jod (k : Nat) : LAll (LOk (R := DS FS.D rsbig_Int_Add_jod) (fun b _ σ K => LOt Ty (kps 94) 2 b σ K []) cf (call cf k) (cf.keep 94) Try.f94.ntmps k shbig_Int_Add_jod.bs.length) 0 (bd Try.f94) :=
  And.intro (True.intro) (And.intro (True.intro) (True.intro))
theorem stbig_Int_Add_jod (k : Nat) (x : shbig_Int_Add_jod.D) : Fbig_Int_Add_jod (k + 1) x.1 x.2.1 x.2.2.1 x.2.2.2 = body2 cf (fun f a b K => COt f a b K [Ibig_Int_sum_ahd k]) (fun b _ σ K => LOt Ty (kps 94) 2 b σ K []) 94 Try.f94.ntmps Try.f94.results.toList (bd Try.f94) (shbig_Int_Add_jod.enc x).1 (shbig_Int_Add_jod.enc x).2 (putS FS.dec rsbig_Int_Add_jod) := by kernel_rfl
theorem okbig_Int_Add_jod : ∀ k, InstOk (call cf k) (Ibig_Int_Add_jod k)
  | 0 => fun x y e => absurd (show (none : Option _) = some y from e) (by simp)
  | k + 1 => inst_ok (c := cf) (k := k) (f := 94) (fn := Try.f94) (body := bd Try.f94) (sh := shbig_Int_Add_jod) (os := rsbig_Int_Add_jod) rfl Try.func94 rfl ⟨rfl, Nat.le_of_ble_eq_true rfl⟩ (COt_ok (albig_Int_Add_jod k)) (anbig_Int_Add_jod k) (fun x => Fbig_Int_Add_jod (k + 1) x.1 x.2.1 x.2.2.1 x.2.2.2) (stbig_Int_Add_jod k)

/-! shunt/rat.Near -/
def brat_Near_ddu (k : Nat) (num0 : Bool) (num1 : List Int) (den0 : Bool) (den1 : List Int) : Option (Bool × List Int × Bool × List Int × Bool × List Int) :=
  Option.bind (Fbig_Int_QuoRem_gsh k false num0 num1 den0 den1 false) fun r8 =>
  Option.bind (Fbig_Int_Abs_eql k false r8.2.2.2.2.2.2.1 r8.2.2.2.2.2.2.2) fun r9 =>
  Option.bind (Fbig_Int_Add_aht k r9.1 r9.2.1) fun r10 =>
  Option.bind (Fbig_Int_Cmp_ddu k r10.1 r10.2 r8.2.2.2.2.1 r8.2.2.2.2.2.1) fun r11 =>
  if ((decide (r11.1 > (0 : Int))) = false) then
    if ((r11.1 == (0 : Int)) = true) then
      Option.bind (Fbig_Int_Odd_awf k r8.1 r8.2.1) fun r12 =>
      if (r12.1 = true) then
        Option.bind (Fbig_Int_Sign_awf k r8.2.2.1 r8.2.2.2.1) fun r13 =>
        Option.bind (Fbig_NewInt k r13.1) fun r14 =>
        Option.bind (Fbig_Int_Add_jod k r12.2.1 r12.2.2 r14.1 r14.2) fun r15 =>
        (some (r13.2.1, r13.2.2, r11.2.2.2.1, r11.2.2.2.2, r15.1, r15.2.1))
      else
      (some (r8.2.2.1, r8.2.2.2.1, r11.2.2.2.1, r11.2.2.2.2, r12.2.1, r12.2.2))
    else
    (some (r8.2.2.1, r8.2.2.2.1, r11.2.2.2.1, r11.2.2.2.2, r8.1, r8.2.1))
  else
  Option.bind (Fbig_Int_Sign_awf k r8.2.2.1 r8.2.2.2.1) fun r12 =>
  Option.bind (Fbig_NewInt k r12.1) fun r13 =>
  Option.bind (Fbig_Int_Add_jod k r8.1 r8.2.1 r13.1 r13.2) fun r14 =>
  (some (r12.2.1, r12.2.2, r11.2.2.2.1, r11.2.2.2.2, r14.1, r14.2.1))
def Frat_Near_ddu : Nat → Bool → List Int → Bool → List Int → Option (Bool × List Int × Bool × List Int × Bool × List Int)
  | 0, _, _, _, _ => none
  | k + 1, num0, num1, den0, den1 => brat_Near_ddu k num0 num1 den0 den1
def shrat_Near_ddu : FS := { vs := [.a (.ptr 0 0 0), .a (.ptr 1 0 0)], bs := [.raw [[.lf .bool, .lf (.sl (.int .u32))]] 2 98 true false, .raw [[.lf .bool, .lf (.sl (.int .u32))]] 2 98 true false] }
def rsrat_Near_ddu : List FS := [{ vs := [.a (.ptr 2 0 0)], bs := [.raw [[.lf .bool, .lf (.sl (.int .u32))]] 2 98 true false, .raw [[.lf .bool, .lf (.sl (.int .u32))]] 2 98 true false, .raw [[.lf .bool, .lf (.sl (.int .u32))]] 2 98 true false] }]
def Irat_Near_ddu (k : Nat) : Inst := ⟨90, shrat_Near_ddu, rsrat_Near_ddu, fun x => Frat_Near_ddu k x.1 x.2.1 x.2.2.1 x.2.2.2⟩
theorem alrat_Near_ddu (k : Nat) : AllI (call cf k) [Ibig_Int_QuoRem_gsh k, Ibig_Int_Abs_eql k, Ibig_Int_Add_aht k, Ibig_Int_Cmp_ddu k, Ibig_Int_Odd_awf k, Ibig_Int_Sign_awf k, Ibig_NewInt k, Ibig_Int_Add_jod k] := And.intro (okbig_Int_QuoRem_gsh k) (And.intro (okbig_Int_Abs_eql k) (And.intro (okbig_Int_Add_aht k) (And.intro (okbig_Int_Cmp_ddu k) (And.intro (okbig_Int_Odd_awf k) (And.intro (okbig_Int_Sign_awf k) (And.intro (okbig_NewInt k) (And.intro (okbig_Int_Add_jod k) (True.intro))))))))
theorem anrat_Near_ddu (k : Nat) : LAll (LOk (R := DS FS.D rsrat_Near_ddu) (fun b _ σ K => LOt Ty (kps 90) 2 b σ K []) cf (call cf k) (cf.keep 90) Try.f90.ntmps k shrat_Near_ddu.bs.length) 0 (bd Try.f90) :=
  And.intro (True.intro) (And.intro (True.intro) (And.intro (True.intro) (And.intro (And.intro (True.intro) (And.intro (True.intro) (And.intro (True.intro) (True.intro)))) (And.intro (True.intro) (True.intro)))))
theorem strat_Near_ddu (k : Nat) (x : shrat_Near_ddu.D) : Frat_Near_ddu (k + 1) x.1 x.2.1 x.2.2.1 x.2.2.2 = body2 cf (fun f a b K => COt f a b K [Ibig_Int_QuoRem_gsh k, Ibig_Int_Abs_eql k, Ibig_Int_Add_aht k, Ibig_Int_Cmp_ddu k, Ibig_Int_Odd_awf k, Ibig_Int_Sign_awf k, Ibig_NewInt k, Ibig_Int_Add_jod k]) (fun b _ σ K => LOt Ty (kps 90) 2 b σ K []) 90 Try.f90.ntmps Try.f90.results.toList (bd Try.f90) (shrat_Near_ddu.enc x).1 (shrat_Near_ddu.enc x).2 (putS FS.dec rsrat_Near_ddu) := by kernel_rfl
theorem okrat_Near_ddu : ∀ k, InstOk (call cf k) (Irat_Near_ddu k)
  | 0 => fun x y e => absurd (show (none : Option _) = some y from e) (by simp)
  | k + 1 => inst_ok (c := cf) (k := k) (f := 90) (fn := Try.f90) (body := bd Try.f90) (sh := shrat_Near_ddu) (os := rsrat_Near_ddu) rfl Try.func90 rfl ⟨rfl, Nat.le_of_ble_eq_true rfl⟩ (COt_ok (alrat_Near_ddu k)) (anrat_Near_ddu k) (fun x => Frat_Near_ddu (k + 1) x.1 x.2.1 x.2.2.1 x.2.2.2) (strat_Near_ddu k)

/-! (*shunt/big.Int).Int64 -/
def Lbig_Int_Int64_awf_0s (k : Nat) (rec : Int → Int → Bool → List Int → Option (Int × Bool × List Int)) (u : Int) (i : Int) (z0 : Bool) (z1 : List Int) : Option (Int × Bool × List Int) :=
  if ((decide (i ≥ (0 : Int))) = true) then
    if ((0 : Int) ≤ i) then
      Option.bind (z1)[(Int.toNat i)]? fun x1 =>
      rec (IntKind.wrap .u64 (((BitVec.toNat ((BitVec.ofInt 64 (IntKind.wrap .u64 (u * (4294967296 : Int)))) ||| (BitVec.ofInt 64 (IntKind.wrap .u64 x1)))) : Nat) : Int)) (IntKind.wrap .i64 (i - (1 : Int))) z0 z1
    else
    none
  else
  (some (u, z0, z1))
def Lbig_Int_Int64_awf_0 (k n : Nat) : Int → Int → Bool → List Int → Option (Int × Bool × List Int) := Nat.rec (fun _ _ _ _ => none) (fun _ r => Lbig_Int_Int64_awf_0s k r) n
def bbig_Int_Int64_awf (k : Nat) (z0 : Bool) (z1 : List Int) : Option (Int × Bool × Bool × List Int) :=
  if ((decide ((((List.length z1) : Nat) : Int) > (2 : Int))) = true) then
    (some ((0 : Int), false, z0, z1))
  else
  Option.bind (Lbig_Int_Int64_awf_0 k k (0 : Int) (IntKind.wrap .i64 ((((List.length z1) : Nat) : Int) - (1 : Int))) z0 z1) fun r9 =>
  if (r9.2.1 = true) then
    (some ((IntKind.wrap .i64 ((0 : Int) - (IntKind.wrap .i64 r9.1))), (decide (r9.1 ≤ (9223372036854775808 : Int))), r9.2.1, r9.2.2))
  else
  (some ((IntKind.wrap .i64 r9.1), (decide (r9.1 < (9223372036854775808 : Int))), r9.2.1, r9.2.2))
def Fbig_Int_Int64_awf : Nat → Bool → List Int → Option (Int × Bool × Bool × List Int)
  | 0, _, _ => none
  | k + 1, z0, z1 => bbig_Int_Int64_awf k z0 z1
def shbig_Int_Int64_awf : FS := { vs := [.a (.ptr 0 0 0)], bs := [.raw [[.lf .bool, .lf (.sl (.int .u32))]] 2 98 true false] }
def rsbig_Int_Int64_awf : List FS := [{ vs := [.a (.lf (.int .i64)), .a (.lf .bool)], bs := [.raw [[.lf .bool, .lf (.sl (.int .u32))]] 2 98 true false] }]
def Ibig_Int_Int64_awf (k : Nat) : Inst := ⟨113, shbig_Int_Int64_awf, rsbig_Int_Int64_awf, fun x => Fbig_Int_Int64_awf k x.1 x.2⟩
theorem albig_Int_Int64_awf (k : Nat) : AllI (call cf k) [] := True.intro
def hsbig_Int_Int64_awf_0 : List SS := [{ fr := [(0, .a (.ptr 0 0 0)), (4, .a (.lf (.int .u64))), (5, .a (.lf (.int .i64)))], mem := [(0, some (.raw [[.lf .bool, .lf (.sl (.int .u32))]] 2 98 true false))], nx := 1 }]
def osbig_Int_Int64_awf_0 : List OS := [⟨some 0, { fr := [(0, .a (.ptr 0 0 0)), (4, .a (.lf (.int .u64)))], mem := [(0, some (.raw [[.lf .bool, .lf (.sl (.int .u32))]] 2 98 true false))], nx := 1 }⟩]
def LIbig_Int_Int64_awf_0 (k : Nat) : LInst := ⟨0, hsbig_Int_Int64_awf_0, osbig_Int_Int64_awf_0, fun x => Lbig_Int_Int64_awf_0 k k x.1 x.2.1 x.2.2.1 x.2.2.2⟩
theorem anbig_Int_Int64_awf_0 (k : Nat) : LAll (LOk (R := DS OS.D osbig_Int_Int64_awf_0) (fun b _ σ K => LOt Ty (kps 113) 1 b σ K []) cf (call cf k) (kps 113) Try.f113.ntmps k 1) 0 (lb Try.f113 0) :=
  And.intro (And.intro (True.intro) (And.intro (True.intro) (True.intro))) (And.intro (True.intro) (True.intro))
theorem stbig_Int_Int64_awf_0 (k n : Nat) (x : DS SS.D hsbig_Int_Int64_awf_0) : Lbig_Int_Int64_awf_0 k (n + 1) x.1 x.2.1 x.2.2.1 x.2.2.2 = encSK SS.enc (fun σ => run2 cf (fun f a b K => COt f a b K []) (fun b _ σ K => LOt Ty (kps 113) 1 b σ K []) Try.f113.ntmps 0 (lb Try.f113 0) σ (nextK Ty (kps 113 0) 1 hsbig_Int_Int64_awf_0 osbig_Int_Int64_awf_0 fun x => Lbig_Int_Int64_awf_0 k n x.1 x.2.1 x.2.2.1 x.2.2.2)) hsbig_Int_Int64_awf_0 x := by kernel_rfl
theorem lobig_Int_Int64_awf_0 (k : Nat) : LIOk cf (call cf k) (kps 113) Try.f113.ntmps k 1 0 (lb Try.f113 0) (LIbig_Int_Int64_awf_0 k) :=
  loop_ok (c := cf) (callF := call cf k) (kp := kps 113) (nt := Try.f113.ntmps) (k := k) (p := 1) (b := 0) (x0 := lb Try.f113 0) (hs := hsbig_Int_Int64_awf_0) (os := osbig_Int_Int64_awf_0) (COt_ok (albig_Int_Int64_awf k)) (anbig_Int_Int64_awf_0 k) (fun n x => Lbig_Int_Int64_awf_0 k n x.1 x.2.1 x.2.2.1 x.2.2.2) (fun _ => rfl) (stbig_Int_Int64_awf_0 k)
theorem anbig_Int_Int64_awf (k : Nat) : LAll (LOk (R := DS FS.D rsbig_Int_Int64_awf) (fun b _ σ K => LOt Ty (kps 113) 1 b σ K [LIbig_Int_Int64_awf_0 k]) cf (call cf k) (cf.keep 113) Try.f113.ntmps k shbig_Int_Int64_awf.bs.length) 0 (bd Try.f113) :=
  And.intro (True.intro) (And.intro (And.intro (True.intro) (And.intro (And.intro (True.intro) (True.intro)) (True.intro))) (And.intro (True.intro) (And.intro (And.intro (True.intro) (LOt_ok (c := cf) (callF := call cf k) (kp := kps 113) (nt := Try.f113.ntmps) (k := k) (p := 1) (b := 0) (x0 := lb Try.f113 0) (l := [LIbig_Int_Int64_awf_0 k]) (And.intro (fun _ => lobig_Int_Int64_awf_0 k) (True.intro)))) (And.intro (And.intro (True.intro) (And.intro (And.intro (True.intro) (True.intro)) (True.intro))) (And.intro (True.intro) (True.intro))))))
theorem stbig_Int_Int64_awf (k : Nat) (x : shbig_Int_Int64_awf.D) : Fbig_Int_Int64_awf (k + 1) x.1 x.2 = body2 cf (fun f a b K => COt f a b K []) (fun b _ σ K => LOt Ty (kps 113) 1 b σ K [LIbig_Int_Int64_awf_0 k]) 113 Try.f113.ntmps Try.f113.results.toList (bd Try.f113) (shbig_Int_Int64_awf.enc x).1 (shbig_Int_Int64_awf.enc x).2 (putS FS.dec rsbig_Int_Int64_awf) := by kernel_rfl
theorem okbig_Int_Int64_awf : ∀ k, InstOk (call cf k) (Ibig_Int_Int64_awf k)
  | 0 => fun x y e => absurd (show (none : Option _) = some y from e) (by simp)
  | k + 1 => inst_ok (c := cf) (k := k) (f := 113) (fn := Try.f113) (body := bd Try.f113) (sh := shbig_Int_Int64_awf) (os := rsbig_Int_Int64_awf) rfl Try.func113 rfl ⟨rfl, Nat.le_of_ble_eq_true rfl⟩ (COt_ok (albig_Int_Int64_awf k)) (anbig_Int_Int64_awf k) (fun x => Fbig_Int_Int64_awf (k + 1) x.1 x.2) (stbig_Int_Int64_awf k)

/-! shunt/rat.Grid -/
def brat_Grid_awf (k : Nat) (z0 : Bool) (z1 : List Int) : Option (Int × Int × Bool × List Int) :=
  Option.bind (Fbig_Int_Int64_awf k z0 z1) fun r9 =>
  if ((!r9.2.1) = false) then
    if ((decide (r9.1 > (1000000000000000000 : Int))) = false) then
      if ((decide (r9.1 < (-(1000000000000000000 : Int)))) = true) then
        (some ((0 : Int), (4 : Int), r9.2.2.1, r9.2.2.2))
      else
      (some (r9.1, (0 : Int), r9.2.2.1, r9.2.2.2))
    else
    (some ((0 : Int), (4 : Int), r9.2.2.1, r9.2.2.2))
  else
  (some ((0 : Int), (4 : Int), r9.2.2.1, r9.2.2.2))
def Frat_Grid_awf : Nat → Bool → List Int → Option (Int × Int × Bool × List Int)
  | 0, _, _ => none
  | k + 1, z0, z1 => brat_Grid_awf k z0 z1
def shrat_Grid_awf : FS := { vs := [.a (.ptr 0 0 0)], bs := [.raw [[.lf .bool, .lf (.sl (.int .u32))]] 2 98 true false] }
def rsrat_Grid_awf : List FS := [{ vs := [.a (.lf (.int .i64)), .a (.lf (.int .i64))], bs := [.raw [[.lf .bool, .lf (.sl (.int .u32))]] 2 98 true false] }]
def Irat_Grid_awf (k : Nat) : Inst := ⟨89, shrat_Grid_awf, rsrat_Grid_awf, fun x => Frat_Grid_awf k x.1 x.2⟩
theorem alrat_Grid_awf (k : Nat) : AllI (call cf k) [Ibig_Int_Int64_awf k] := And.intro (okbig_Int_Int64_awf k) (True.intro)
theorem anrat_Grid_awf (k : Nat) : LAll (LOk (R := DS FS.D rsrat_Grid_awf) (fun b _ σ K => LOt Ty (kps 89) 1 b σ K []) cf (call cf k) (cf.keep 89) Try.f89.ntmps k shrat_Grid_awf.bs.length) 0 (bd Try.f89) :=
  And.intro (True.intro) (And.intro (True.intro) (And.intro (And.intro (True.intro) (And.intro (And.intro (True.intro) (True.intro)) (True.intro))) (And.intro (True.intro) (True.intro))))
theorem strat_Grid_awf (k : Nat) (x : shrat_Grid_awf.D) : Frat_Grid_awf (k + 1) x.1 x.2 = body2 cf (fun f a b K => COt f a b K [Ibig_Int_Int64_awf k]) (fun b _ σ K => LOt Ty (kps 89) 1 b σ K []) 89 Try.f89.ntmps Try.f89.results.toList (bd Try.f89) (shrat_Grid_awf.enc x).1 (shrat_Grid_awf.enc x).2 (putS FS.dec rsrat_Grid_awf) := by kernel_rfl
theorem okrat_Grid_awf : ∀ k, InstOk (call cf k) (Irat_Grid_awf k)
  | 0 => fun x y e => absurd (show (none : Option _) = some y from e) (by simp)
  | k + 1 => inst_ok (c := cf) (k := k) (f := 89) (fn := Try.f89) (body := bd Try.f89) (sh := shrat_Grid_awf) (os := rsrat_Grid_awf) rfl Try.func89 rfl ⟨rfl, Nat.le_of_ble_eq_true rfl⟩ (COt_ok (alrat_Grid_awf k)) (anrat_Grid_awf k) (fun x => Frat_Grid_awf (k + 1) x.1 x.2) (strat_Grid_awf k)

/-! shunt/rat.Round -/
def brat_Round (k : Nat) (r0 : Bool) (r1 : List Int) (r2 : Bool) (r3 : List Int) : Option (Int × Int) :=
  Option.bind (Frat_Check k r0 r1 r2 r3) fun r5 =>
  if ((r5 != (0 : Int)) = true) then
    (some ((0 : Int), r5))
  else
  Option.bind (Fwide_Take k r0 r1) fun r6 =>
  Option.bind (Fwide_Take k r2 r3) fun r7 =>
  Option.bind (Frat_Near_ddu k r6.1 r6.2 r7.1 r7.2) fun r8 =>
  Option.bind (Frat_Grid_awf k r8.2.2.2.2.1 r8.2.2.2.2.2) fun r9 =>
  (some (r9.1, r9.2.1))
def Frat_Round : Nat → Bool → List Int → Bool → List Int → Option (Int × Int)
  | 0, _, _, _, _ => none
  | k + 1, r0, r1, r2, r3 => brat_Round k r0 r1 r2 r3
def shrat_Round : FS := { vs := [.g [.lf .bool, .lf (.sl (.int .u32)), .lf .bool, .lf (.sl (.int .u32))]], bs := [] }
def rsrat_Round : List FS := [{ vs := [.a (.lf (.int .i64)), .a (.lf (.int .i64))], bs := [] }]
def Irat_Round (k : Nat) : Inst := ⟨56, shrat_Round, rsrat_Round, fun x => Frat_Round k x.1 x.2.1 x.2.2.1 x.2.2.2⟩
theorem alrat_Round (k : Nat) : AllI (call cf k) [Irat_Check k, Iwide_Take k, Irat_Near_ddu k, Irat_Grid_awf k] := And.intro (okrat_Check k) (And.intro (okwide_Take k) (And.intro (okrat_Near_ddu k) (And.intro (okrat_Grid_awf k) (True.intro))))
theorem anrat_Round (k : Nat) : LAll (LOk (R := DS FS.D rsrat_Round) (fun b _ σ K => LOt Ty (kps 56) 0 b σ K []) cf (call cf k) (cf.keep 56) Try.f56.ntmps k shrat_Round.bs.length) 0 (bd Try.f56) :=
  And.intro (True.intro) (And.intro (And.intro (True.intro) (And.intro (True.intro) (And.intro (And.intro (True.intro) (True.intro)) (True.intro)))) (And.intro (True.intro) (True.intro)))
theorem strat_Round (k : Nat) (x : shrat_Round.D) : Frat_Round (k + 1) x.1 x.2.1 x.2.2.1 x.2.2.2 = body2 cf (fun f a b K => COt f a b K [Irat_Check k, Iwide_Take k, Irat_Near_ddu k, Irat_Grid_awf k]) (fun b _ σ K => LOt Ty (kps 56) 0 b σ K []) 56 Try.f56.ntmps Try.f56.results.toList (bd Try.f56) (shrat_Round.enc x).1 (shrat_Round.enc x).2 (putS FS.dec rsrat_Round) := by kernel_rfl
theorem okrat_Round : ∀ k, InstOk (call cf k) (Irat_Round k)
  | 0 => fun x y e => absurd (show (none : Option _) = some y from e) (by simp)
  | k + 1 => inst_ok (c := cf) (k := k) (f := 56) (fn := Try.f56) (body := bd Try.f56) (sh := shrat_Round) (os := rsrat_Round) rfl Try.func56 rfl ⟨rfl, Nat.le_of_ble_eq_true rfl⟩ (COt_ok (alrat_Round k)) (anrat_Round k) (fun x => Frat_Round (k + 1) x.1 x.2.1 x.2.2.1 x.2.2.2) (strat_Round k)

/-! (*shunt/big.Int).Neg -/
def bbig_Int_Neg_xoq (k : Nat) (x0 : Bool) (x1 : List Int) : Option (Bool × List Int) :=
  Option.bind (Fbig_Int_set_paj k (!x0) x1 x0 x1) fun r5 =>
  (some (r5.1, r5.2))
def Fbig_Int_Neg_xoq : Nat → Bool → List Int → Option (Bool × List Int)
  | 0, _, _ => none
  | k + 1, x0, x1 => bbig_Int_Neg_xoq k x0 x1
def shbig_Int_Neg_xoq : FS := { vs := [.a (.ptr 0 0 0), .a (.ptr 0 0 0)], bs := [.raw [[.lf .bool, .lf (.sl (.int .u32))]] 2 98 true false] }
def rsbig_Int_Neg_xoq : List FS := [{ vs := [.a (.ptr 0 0 0)], bs := [.raw [[.lf .bool, .lf (.sl (.int .u32))]] 2 98 true false] }]
def Ibig_Int_Neg_xoq (k : Nat) : Inst := ⟨117, shbig_Int_Neg_xoq, rsbig_Int_Neg_xoq, fun x => Fbig_Int_Neg_xoq k x.1 x.2⟩
theorem albig_Int_Neg_xoq (k : Nat) : AllI (call cf k) [Ibig_Int_set_paj k] := And.intro (okbig_Int_set_paj k) (True.intro)
theorem anbig_Int_Neg_xoq (k : Nat) : LAll (LOk (R := DS FS.D rsbig_Int_Neg_xoq) (fun b _ σ K => LOt Ty (kps 117) 1 b σ K []) cf (call cf k) (cf.keep 117) Try.f117.ntmps k shbig_Int_Neg_xoq.bs.length) 0 (bd Try.f117) :=
  And.intro (True.intro) (And.intro (True.intro) (True.intro))
theorem stbig_Int_Neg_xoq (k : Nat) (x : shbig_Int_Neg_xoq.D) : Fbig_Int_Neg_xoq (k + 1) x.1 x.2 = body2 cf (fun f a b K => COt f a b K [Ibig_Int_set_paj k]) (fun b _ σ K => LOt Ty (kps 117) 1 b σ K []) 117 Try.f117.ntmps Try.f117.results.toList (bd Try.f117) (shbig_Int_Neg_xoq.enc x).1 (shbig_Int_Neg_xoq.enc x).2 (putS FS.dec rsbig_Int_Neg_xoq) := by kernel_rfl
theorem okbig_Int_Neg_xoq : ∀ k, InstOk (call cf k) (Ibig_Int_Neg_xoq k)
  | 0 => fun x y e => absurd (show (none : Option _) = some y from e) (by simp)
  | k + 1 => inst_ok (c := cf) (k := k) (f := 117) (fn := Try.f117) (body := bd Try.f117) (sh := shbig_Int_Neg_xoq) (os := rsbig_Int_Neg_xoq) rfl Try.func117 rfl ⟨rfl, Nat.le_of_ble_eq_true rfl⟩ (COt_ok (albig_Int_Neg_xoq k)) (anbig_Int_Neg_xoq k) (fun x => Fbig_Int_Neg_xoq (k + 1) x.1 x.2) (stbig_Int_Neg_xoq k)

/-! (*shunt/big.Rat).Neg -/
def bbig_Rat_Neg_yrp (k : Nat) (z0 : Bool) (z1 : Bool) (x0 : Bool) (x1 : List Int) (x2 : Bool) (x3 : List Int) : Option (Bool × List Int × Bool × List Int × Bool × List Int × Bool × List Int) :=
  Option.bind (Fbig_Rat_Num_plq k x0 x1 x2 x3) fun r3 =>
  Option.bind (Fbig_Rat_Denom_plq k r3.1 r3.2.1 r3.2.2.1 r3.2.2.2.1) fun r4 =>
  Option.bind (Fbig_Int_Neg_xoq k r3.2.2.2.2.1 r3.2.2.2.2.2) fun r5 =>
  (some (r5.1, r5.2, r4.2.2.2.2.1, r4.2.2.2.2.2, r4.1, r4.2.1, r4.2.2.1, r4.2.2.2.1))
def Fbig_Rat_Neg_yrp : Nat → Bool → Bool → Bool → List Int → Bool → List Int → Option (Bool × List Int × Bool × List Int × Bool × List Int × Bool × List Int)
  | 0, _, _, _, _, _, _ => none
  | k + 1, z0, z1, x0, x1, x2, x3 => bbig_Rat_Neg_yrp k z0 z1 x0 x1 x2 x3
def shbig_Rat_Neg_yrp : FS := { vs := [.a (.ptr 0 0 0), .a (.ptr 1 0 0)], bs := [.raw [[.lf .bool, .snil 1 72, .lf .bool, .snil 1 72]] 4 100 true false, .raw [[.lf .bool, .lf (.sl (.int .u32)), .lf .bool, .lf (.sl (.int .u32))]] 4 100 true false] }
def rsbig_Rat_Neg_yrp : List FS := [{ vs := [.a (.ptr 0 0 0)], bs := [.raw [[.lf .bool, .lf (.sl (.int .u32)), .lf .bool, .lf (.sl (.int .u32))]] 4 100 true false, .raw [[.lf .bool, .lf (.sl (.int .u32)), .lf .bool, .lf (.sl (.int .u32))]] 4 100 true false] }]
def Ibig_Rat_Neg_yrp (k : Nat) : Inst := ⟨93, shbig_Rat_Neg_yrp, rsbig_Rat_Neg_yrp, fun x => Fbig_Rat_Neg_yrp k x.1 x.2.1 x.2.2.1 x.2.2.2.1 x.2.2.2.2.1 x.2.2.2.2.2⟩
theorem albig_Rat_Neg_yrp (k : Nat) : AllI (call cf k) [Ibig_Rat_Num_plq k, Ibig_Rat_Denom_plq k, Ibig_Int_Neg_xoq k] := And.intro (okbig_Rat_Num_plq k) (And.intro (okbig_Rat_Denom_plq k) (And.intro (okbig_Int_Neg_xoq k) (True.intro)))
theorem anbig_Rat_Neg_yrp (k : Nat) : LAll (LOk (R := DS FS.D rsbig_Rat_Neg_yrp) (fun b _ σ K => LOt Ty (kps 93) 2 b σ K []) cf (call cf k) (cf.keep 93) Try.f93.ntmps k shbig_Rat_Neg_yrp.bs.length) 0 (bd Try.f93) :=
  And.intro (True.intro) (And.intro (True.intro) (And.intro (True.intro) (And.intro (True.intro) (True.intro))))
theorem stbig_Rat_Neg_yrp (k : Nat) (x : shbig_Rat_Neg_yrp.D) : Fbig_Rat_Neg_yrp (k + 1) x.1 x.2.1 x.2.2.1 x.2.2.2.1 x.2.2.2.2.1 x.2.2.2.2.2 = body2 cf (fun f a b K => COt f a b K [Ibig_Rat_Num_plq k, Ibig_Rat_Denom_plq k, Ibig_Int_Neg_xoq k]) (fun b _ σ K => LOt Ty (kps 93) 2 b σ K []) 93 Try.f93.ntmps Try.f93.results.toList (bd Try.f93) (shbig_Rat_Neg_yrp.enc x).1 (shbig_Rat_Neg_yrp.enc x).2 (putS FS.dec rsbig_Rat_Neg_yrp) := by kernel_rfl
theorem okbig_Rat_Neg_yrp : ∀ k, InstOk (call cf k) (Ibig_Rat_Neg_yrp k)
  | 0 => fun x y e => absurd (show (none : Option _) = some y from e) (by simp)
  | k + 1 => inst_ok (c := cf) (k := k) (f := 93) (fn := Try.f93) (body := bd Try.f93) (sh := shbig_Rat_Neg_yrp) (os := rsbig_Rat_Neg_yrp) rfl Try.func93 rfl ⟨rfl, Nat.le_of_ble_eq_true rfl⟩ (COt_ok (albig_Rat_Neg_yrp k)) (anbig_Rat_Neg_yrp k) (fun x => Fbig_Rat_Neg_yrp (k + 1) x.1 x.2.1 x.2.2.1 x.2.2.2.1 x.2.2.2.2.1 x.2.2.2.2.2) (stbig_Rat_Neg_yrp k)

/-! (*shunt/big.Int).Mul -/
def Lbig_Int_Mul_uoe_2s (k : Nat) (rec : Nat → Int → Int → Int → List Int → Int → Int → List Int → Int → Int → Bool → Bool → List Int → Bool → List Int → Bool → List Int → List Int → Option (Nat × Int × Int × List Int × Int × Int × Bool × Bool × List Int × Bool × List Int × Bool × List Int × List Int)) (out1 : Nat) (i : Int) (a : Int) (carry : Int) (x : List Int) (x1 : Int) (x2 : Int) (x3 : List Int) (x4 : Int) (x5 : Int) (z : Bool) (x0 : Bool) (x11 : List Int) (x21 : Bool) (x31 : List Int) (y0 : Bool) (y1 : List Int) (outs : List Int) : Option (Nat × Int × Int × List Int × Int × Int × Bool × Bool × List Int × Bool × List Int × Bool × List Int × List Int) :=
  if ((decide (x5 < x4)) = true) then
    if ((0 : Int) ≤ x5) then
      Option.bind (x3)[(Int.toNat x5)]? fun x8 =>
      if (((0 : Int) ≤ (IntKind.wrap .i64 (i + x5))) ∧ ((IntKind.wrap .i64 (i + x5)) < ((out1 : Nat) : Int))) then
        Option.bind (outs)[(0 + (Int.toNat (IntKind.wrap .i64 (i + x5))))]? fun x9 =>
        if (((0 : Int) ≤ (IntKind.wrap .i64 (i + x5))) ∧ ((IntKind.wrap .i64 (i + x5)) < ((out1 : Nat) : Int))) then
          Option.bind (outs)[(0 + (Int.toNat (IntKind.wrap .i64 (i + x5))))]? fun x10 =>
          rec out1 i a (Int.fdiv (IntKind.wrap .u64 ((IntKind.wrap .u64 ((IntKind.wrap .u64 ((IntKind.wrap .u64 a) * (IntKind.wrap .u64 x8))) + (IntKind.wrap .u64 x9))) + carry)) (4294967296 : Int)) x x1 x2 x3 x4 (IntKind.wrap .i64 (x5 + (1 : Int))) z x0 x11 x21 x31 y0 y1 (List.set outs (0 + (Int.toNat (IntKind.wrap .i64 (i + x5)))) (IntKind.wrap .u32 (IntKind.wrap .u64 ((IntKind.wrap .u64 ((IntKind.wrap .u64 ((IntKind.wrap .u64 a) * (IntKind.wrap .u64 x8))) + (IntKind.wrap .u64 x9))) + carry))))
        else
        none
      else
      none
    else
    none
  else
  (some (out1, i, carry, x, x1, x2, z, x0, x11, x21, x31, y0, y1, outs))
def Lbig_Int_Mul_uoe_2 (k n : Nat) : Nat → Int → Int → Int → List Int → Int → Int → List Int → Int → Int → Bool → Bool → List Int → Bool → List Int → Bool → List Int → List Int → Option (Nat × Int × Int × List Int × Int × Int × Bool × Bool × List Int × Bool × List Int × Bool × List Int × List Int) := Nat.rec (fun _ _ _ _ _ _ _ _ _ _ _ _ _ _ _ _ _ _ => none) (fun _ r => Lbig_Int_Mul_uoe_2s k r) n
def Lbig_Int_Mul_uoe_0s (k : Nat) (rec : Nat → List Int → Int → Int → Bool → Bool → List Int → Bool → List Int → Bool → List Int → List Int → Option (Nat × Bool × Bool × List Int × Bool × List Int × Bool × List Int × List Int)) (out1 : Nat) (x : List Int) (x1 : Int) (x2 : Int) (z : Bool) (x0 : Bool) (x11 : List Int) (x21 : Bool) (x3 : List Int) (y0 : Bool) (y1 : List Int) (outs : List Int) : Option (Nat × Bool × Bool × List Int × Bool × List Int × Bool × List Int × List Int) :=
  if ((decide (x2 < x1)) = true) then
    if ((0 : Int) ≤ x2) then
      Option.bind (x)[(Int.toNat x2)]? fun x7 =>
      Option.bind (Lbig_Int_Mul_uoe_2 k k out1 x2 x7 (0 : Int) x x1 x2 y1 (((List.length y1) : Nat) : Int) (0 : Int) z x0 x11 x21 x3 y0 y1 outs) fun r5 =>
      if (((0 : Int) ≤ (IntKind.wrap .i64 (r5.2.1 + (((List.length r5.2.2.2.2.2.2.2.2.2.2.2.2.1) : Nat) : Int)))) ∧ ((IntKind.wrap .i64 (r5.2.1 + (((List.length r5.2.2.2.2.2.2.2.2.2.2.2.2.1) : Nat) : Int))) < ((r5.1 : Nat) : Int))) then
        Option.bind (r5.2.2.2.2.2.2.2.2.2.2.2.2.2)[(0 + (Int.toNat (IntKind.wrap .i64 (r5.2.1 + (((List.length r5.2.2.2.2.2.2.2.2.2.2.2.2.1) : Nat) : Int)))))]? fun x8 =>
        rec r5.1 r5.2.2.2.1 r5.2.2.2.2.1 (IntKind.wrap .i64 (r5.2.2.2.2.2.1 + (1 : Int))) r5.2.2.2.2.2.2.1 r5.2.2.2.2.2.2.2.1 r5.2.2.2.2.2.2.2.2.1 r5.2.2.2.2.2.2.2.2.2.1 r5.2.2.2.2.2.2.2.2.2.2.1 r5.2.2.2.2.2.2.2.2.2.2.2.1 r5.2.2.2.2.2.2.2.2.2.2.2.2.1 (List.set r5.2.2.2.2.2.2.2.2.2.2.2.2.2 (0 + (Int.toNat (IntKind.wrap .i64 (r5.2.1 + (((List.length r5.2.2.2.2.2.2.2.2.2.2.2.2.1) : Nat) : Int))))) (IntKind.wrap .u32 r5.2.2.1))
      else
      none
    else
    none
  else
  (some (out1, z, x0, x11, x21, x3, y0, y1, outs))
def Lbig_Int_Mul_uoe_0 (k n : Nat) : Nat → List Int → Int → Int → Bool → Bool → List Int → Bool → List Int → Bool → List Int → List Int → Option (Nat × Bool × Bool × List Int × Bool × List Int × Bool × List Int × List Int) := Nat.rec (fun _ _ _ _ _ _ _ _ _ _ _ _ => none) (fun _ r => Lbig_Int_Mul_uoe_0s k r) n
def bbig_Int_Mul_uoe (k : Nat) (z : Bool) (x0 : Bool) (x1 : List Int) (x2 : Bool) (x3 : List Int) (y0 : Bool) (y1 : List Int) : Option (Bool × List Int × Bool × List Int × Bool × List Int × Bool × List Int) :=
  if (((0 : Int) ≤ (IntKind.wrap .i64 ((((List.length x1) : Nat) : Int) + (((List.length y1) : Nat) : Int)))) ∧ (((IntKind.wrap .i64 ((((List.length x1) : Nat) : Int) + (((List.length y1) : Nat) : Int))) ≤ (IntKind.wrap .i64 ((((List.length x1) : Nat) : Int) + (((List.length y1) : Nat) : Int)))) ∧ (((IntKind.wrap .i64 ((((List.length x1) : Nat) : Int) + (((List.length y1) : Nat) : Int))) * (4 : Int)) ≤ (140737488355328 : Int)))) then
    Option.bind (Lbig_Int_Mul_uoe_0 k k (Int.toNat (IntKind.wrap .i64 ((((List.length x1) : Nat) : Int) + (((List.length y1) : Nat) : Int)))) x1 (((List.length x1) : Nat) : Int) (0 : Int) z x0 x1 x2 x3 y0 y1 (List.replicate (Int.toNat (IntKind.wrap .i64 ((((List.length x1) : Nat) : Int) + (((List.length y1) : Nat) : Int)))) (0 : Int))) fun r5 =>
    if ((0 + r5.1) ≤ (List.length r5.2.2.2.2.2.2.2.2)) then
      Option.bind (Fbig_Int_set_cvg k (!(r5.2.2.1 == r5.2.2.2.2.2.2.1)) (List.take r5.1 r5.2.2.2.2.2.2.2.2) r5.2.1) fun r6 =>
      (some (r6.1, r6.2, r5.2.2.1, r5.2.2.2.1, r5.2.2.2.2.1, r5.2.2.2.2.2.1, r5.2.2.2.2.2.2.1, r5.2.2.2.2.2.2.2.1))
    else
    none
  else
  none
def Fbig_Int_Mul_uoe : Nat → Bool → Bool → List Int → Bool → List Int → Bool → List Int → Option (Bool × List Int × Bool × List Int × Bool × List Int × Bool × List Int)
  | 0, _, _, _, _, _, _, _ => none
  | k + 1, z, x0, x1, x2, x3, y0, y1 => bbig_Int_Mul_uoe k z x0 x1 x2 x3 y0 y1
def shbig_Int_Mul_uoe : FS := { vs := [.a (.ptr 0 0 0), .a (.ptr 1 0 0), .a (.ptr 2 0 0)], bs := [.raw [[.lf .bool, .snil 1 72]] 2 98 true false, .raw [[.lf .bool, .lf (.sl (.int .u32)), .lf .bool, .lf (.sl (.int .u32))]] 4 100 true false, .raw [[.lf .bool, .lf (.sl (.int .u32))]] 2 98 true false] }
def rsbig_Int_Mul_uoe : List FS := [{ vs := [.a (.ptr 0 0 0)], bs := [.raw [[.lf .bool, .lf (.sl (.int .u32))]] 2 98 true false, .raw [[.lf .bool, .lf (.sl (.int .u32)), .lf .bool, .lf (.sl (.int .u32))]] 4 100 true false, .raw [[.lf .bool, .lf (.sl (.int .u32))]] 2 98 true false] }]
def Ibig_Int_Mul_uoe (k : Nat) : Inst := ⟨84, shbig_Int_Mul_uoe, rsbig_Int_Mul_uoe, fun x => Fbig_Int_Mul_uoe k x.1 x.2.1 x.2.2.1 x.2.2.2.1 x.2.2.2.2.1 x.2.2.2.2.2.1 x.2.2.2.2.2.2⟩
theorem albig_Int_Mul_uoe (k : Nat) : AllI (call cf k) [Ibig_Int_set_cvg k] := And.intro (okbig_Int_set_cvg k) (True.intro)
def hsbig_Int_Mul_uoe_2 : List SS := [{ fr := [(0, .a (.ptr 0 0 0)), (1, .a (.ptr 1 0 0)), (2, .a (.ptr 2 0 0)), (7, .a (.smz 3)), (8, .a (.lf (.int .i64))), (9, .a (.lf (.int .u32))), (10, .a (.lf (.int .u64))), (29, .a (.lf (.sl (.int .u32)))), (30, .a (.lf (.int .i64))), (31, .a (.lf (.int .i64))), (39, .a (.lf (.sl (.int .u32)))), (40, .a (.lf (.int .i64))), (41, .a (.lf (.int .i64)))], mem := [(0, some (.raw [[.lf .bool, .snil 1 72]] 2 98 true false)), (1, some (.raw [[.lf .bool, .lf (.sl (.int .u32)), .lf .bool, .lf (.sl (.int .u32))]] 4 100 true false)), (2, some (.raw [[.lf .bool, .lf (.sl (.int .u32))]] 2 98 true false)), (3, some (.arr (.int .u32) 1 72 false))], nx := 4 }]
def osbig_Int_Mul_uoe_2 : List OS := [⟨some 2, { fr := [(0, .a (.ptr 0 0 0)), (1, .a (.ptr 1 0 0)), (2, .a (.ptr 2 0 0)), (7, .a (.smz 3)), (8, .a (.lf (.int .i64))), (10, .a (.lf (.int .u64))), (29, .a (.lf (.sl (.int .u32)))), (30, .a (.lf (.int .i64))), (31, .a (.lf (.int .i64)))], mem := [(0, some (.raw [[.lf .bool, .snil 1 72]] 2 98 true false)), (1, some (.raw [[.lf .bool, .lf (.sl (.int .u32)), .lf .bool, .lf (.sl (.int .u32))]] 4 100 true false)), (2, some (.raw [[.lf .bool, .lf (.sl (.int .u32))]] 2 98 true false)), (3, some (.arr (.int .u32) 1 72 false))], nx := 4 }⟩]
def LIbig_Int_Mul_uoe_2 (k : Nat) : LInst := ⟨2, hsbig_Int_Mul_uoe_2, osbig_Int_Mul_uoe_2, fun x => Lbig_Int_Mul_uoe_2 k k x.1 x.2.1 x.2.2.1 x.2.2.2.1 x.2.2.2.2.1 x.2.2.2.2.2.1 x.2.2.2.2.2.2.1 x.2.2.2.2.2.2.2.1 x.2.2.2.2.2.2.2.2.1 x.2.2.2.2.2.2.2.2.2.1 x.2.2.2.2.2.2.2.2.2.2.1 x.2.2.2.2.2.2.2.2.2.2.2.1 x.2.2.2.2.2.2.2.2.2.2.2.2.1 x.2.2.2.2.2.2.2.2.2.2.2.2.2.1 x.2.2.2.2.2.2.2.2.2.2.2.2.2.2.1 x.2.2.2.2.2.2.2.2.2.2.2.2.2.2.2.1 x.2.2.2.2.2.2.2.2.2.2.2.2.2.2.2.2.1 x.2.2.2.2.2.2.2.2.2.2.2.2.2.2.2.2.2⟩
theorem anbig_Int_Mul_uoe_2 (k : Nat) : LAll (LOk (R := DS OS.D osbig_Int_Mul_uoe_2) (fun b _ σ K => LOt Ty (kps 84) 3 b σ K []) cf (call cf k) (kps 84) Try.f84.ntmps k 3) 2 (lb Try.f84 1) :=
  And.intro (True.intro) (And.intro (And.intro (True.intro) (True.intro)) (And.intro (And.intro (True.intro) (And.intro (True.intro) (And.intro (True.intro) (True.intro)))) (True.intro)))
theorem stbig_Int_Mul_uoe_2 (k n : Nat) (x : DS SS.D hsbig_Int_Mul_uoe_2) : Lbig_Int_Mul_uoe_2 k (n + 1) x.1 x.2.1 x.2.2.1 x.2.2.2.1 x.2.2.2.2.1 x.2.2.2.2.2.1 x.2.2.2.2.2.2.1 x.2.2.2.2.2.2.2.1 x.2.2.2.2.2.2.2.2.1 x.2.2.2.2.2.2.2.2.2.1 x.2.2.2.2.2.2.2.2.2.2.1 x.2.2.2.2.2.2.2.2.2.2.2.1 x.2.2.2.2.2.2.2.2.2.2.2.2.1 x.2.2.2.2.2.2.2.2.2.2.2.2.2.1 x.2.2.2.2.2.2.2.2.2.2.2.2.2.2.1 x.2.2.2.2.2.2.2.2.2.2.2.2.2.2.2.1 x.2.2.2.2.2.2.2.2.2.2.2.2.2.2.2.2.1 x.2.2.2.2.2.2.2.2.2.2.2.2.2.2.2.2.2 = encSK SS.enc (fun σ => run2 cf (fun f a b K => COt f a b K [Ibig_Int_set_cvg k]) (fun b _ σ K => LOt Ty (kps 84) 3 b σ K []) Try.f84.ntmps 2 (lb Try.f84 1) σ (nextK Ty (kps 84 2) 3 hsbig_Int_Mul_uoe_2 osbig_Int_Mul_uoe_2 fun x => Lbig_Int_Mul_uoe_2 k n x.1 x.2.1 x.2.2.1 x.2.2.2.1 x.2.2.2.2.1 x.2.2.2.2.2.1 x.2.2.2.2.2.2.1 x.2.2.2.2.2.2.2.1 x.2.2.2.2.2.2.2.2.1 x.2.2.2.2.2.2.2.2.2.1 x.2.2.2.2.2.2.2.2.2.2.1 x.2.2.2.2.2.2.2.2.2.2.2.1 x.2.2.2.2.2.2.2.2.2.2.2.2.1 x.2.2.2.2.2.2.2.2.2.2.2.2.2.1 x.2.2.2.2.2.2.2.2.2.2.2.2.2.2.1 x.2.2.2.2.2.2.2.2.2.2.2.2.2.2.2.1 x.2.2.2.2.2.2.2.2.2.2.2.2.2.2.2.2.1 x.2.2.2.2.2.2.2.2.2.2.2.2.2.2.2.2.2)) hsbig_Int_Mul_uoe_2 x := by kernel_rfl
theorem lobig_Int_Mul_uoe_2 (k : Nat) : LIOk cf (call cf k) (kps 84) Try.f84.ntmps k 3 2 (lb Try.f84 1) (LIbig_Int_Mul_uoe_2 k) :=
  loop_ok (c := cf) (callF := call cf k) (kp := kps 84) (nt := Try.f84.ntmps) (k := k) (p := 3) (b := 2) (x0 := lb Try.f84 1) (hs := hsbig_Int_Mul_uoe_2) (os := osbig_Int_Mul_uoe_2) (COt_ok (albig_Int_Mul_uoe k)) (anbig_Int_Mul_uoe_2 k) (fun n x => Lbig_Int_Mul_uoe_2 k n x.1 x.2.1 x.2.2.1 x.2.2.2.1 x.2.2.2.2.1 x.2.2.2.2.2.1 x.2.2.2.2.2.2.1 x.2.2.2.2.2.2.2.1 x.2.2.2.2.2.2.2.2.1 x.2.2.2.2.2.2.2.2.2.1 x.2.2.2.2.2.2.2.2.2.2.1 x.2.2.2.2.2.2.2.2.2.2.2.1 x.2.2.2.2.2.2.2.2.2.2.2.2.1 x.2.2.2.2.2.2.2.2.2.2.2.2.2.1 x.2.2.2.2.2.2.2.2.2.2.2.2.2.2.1 x.2.2.2.2.2.2.2.2.2.2.2.2.2.2.2.1 x.2.2.2.2.2.2.2.2.2.2.2.2.2.2.2.2.1 x.2.2.2.2.2.2.2.2.2.2.2.2.2.2.2.2.2) (fun _ => rfl) (stbig_Int_Mul_uoe_2 k)
def hsbig_Int_Mul_uoe_0 : List SS := [{ fr := [(0, .a (.ptr 0 0 0)), (1, .a (.ptr 1 0 0)), (2, .a (.ptr 2 0 0)), (7, .a (.smz 3)), (29, .a (.lf (.sl (.int .u32)))), (30, .a (.lf (.int .i64))), (31, .a (.lf (.int .i64)))], mem := [(0, some (.raw [[.lf .bool, .snil 1 72]] 2 98 true false)), (1, some (.raw [[.lf .bool, .lf (.sl (.int .u32)), .lf .bool, .lf (.sl (.int .u32))]] 4 100 true false)), (2, some (.raw [[.lf .bool, .lf (.sl (.int .u32))]] 2 98 true false)), (3, some (.arr (.int .u32) 1 72 false))], nx := 4 }]
def osbig_Int_Mul_uoe_0 : List OS := [⟨some 0, { fr := [(0, .a (.ptr 0 0 0)), (1, .a (.ptr 1 0 0)), (2, .a (.ptr 2 0 0)), (7, .a (.smz 3))], mem := [(0, some (.raw [[.lf .bool, .snil 1 72]] 2 98 true false)), (1, some (.raw [[.lf .bool, .lf (.sl (.int .u32)), .lf .bool, .lf (.sl (.int .u32))]] 4 100 true false)), (2, some (.raw [[.lf .bool, .lf (.sl (.int .u32))]] 2 98 true false)), (3, some (.arr (.int .u32) 1 72 false))], nx := 4 }⟩]
def LIbig_Int_Mul_uoe_0 (k : Nat) : LInst := ⟨0, hsbig_Int_Mul_uoe_0, osbig_Int_Mul_uoe_0, fun x => Lbig_Int_Mul_uoe_0 k k x.1 x.2.1 x.2.2.1 x.2.2.2.1 x.2.2.2.2.1 x.2.2.2.2.2.1 x.2.2.2.2.2.2.1 x.2.2.2.2.2.2.2.1 x.2.2.2.2.2.2.2.2.1 x.2.2.2.2.2.2.2.2.2.1 x.2.2.2.2.2.2.2.2.2.2.1 x.2.2.2.2.2.2.2.2.2.2.2⟩
theorem anbig_Int_Mul_uoe_0 (k : Nat) : LAll (LOk (R := DS OS.D osbig_Int_Mul_uoe_0) (fun b _ σ K => LOt Ty (kps 84) 3 b σ K [LIbig_Int_Mul_uoe_2 k]) cf (call cf k) (kps 84) Try.f84.ntmps k 3) 0 (lb Try.f84 0) :=
  And.intro (True.intro) (And.intro (And.intro (True.intro) (True.intro)) (And.intro (And.intro (True.intro) (And.intro (True.intro) (And.intro (And.intro (True.intro) (LOt_ok (c := cf) (callF := call cf k) (kp := kps 84) (nt := Try.f84.ntmps) (k := k) (p := 3) (b := 2) (x0 := lb Try.f84 1) (l := [LIbig_Int_Mul_uoe_2 k]) (And.intro (fun _ => lobig_Int_Mul_uoe_2 k) (True.intro)))) (True.intro)))) (True.intro)))
theorem stbig_Int_Mul_uoe_0 (k n : Nat) (x : DS SS.D hsbig_Int_Mul_uoe_0) : Lbig_Int_Mul_uoe_0 k (n + 1) x.1 x.2.1 x.2.2.1 x.2.2.2.1 x.2.2.2.2.1 x.2.2.2.2.2.1 x.2.2.2.2.2.2.1 x.2.2.2.2.2.2.2.1 x.2.2.2.2.2.2.2.2.1 x.2.2.2.2.2.2.2.2.2.1 x.2.2.2.2.2.2.2.2.2.2.1 x.2.2.2.2.2.2.2.2.2.2.2 = encSK SS.enc (fun σ => run2 cf (fun f a b K => COt f a b K [Ibig_Int_set_cvg k]) (fun b _ σ K => LOt Ty (kps 84) 3 b σ K [LIbig_Int_Mul_uoe_2 k]) Try.f84.ntmps 0 (lb Try.f84 0) σ (nextK Ty (kps 84 0) 3 hsbig_Int_Mul_uoe_0 osbig_Int_Mul_uoe_0 fun x => Lbig_Int_Mul_uoe_0 k n x.1 x.2.1 x.2.2.1 x.2.2.2.1 x.2.2.2.2.1 x.2.2.2.2.2.1 x.2.2.2.2.2.2.1 x.2.2.2.2.2.2.2.1 x.2.2.2.2.2.2.2.2.1 x.2.2.2.2.2.2.2.2.2.1 x.2.2.2.2.2.2.2.2.2.2.1 x.2.2.2.2.2.2.2.2.2.2.2)) hsbig_Int_Mul_uoe_0 x := by kernel_rfl
theorem lobig_Int_Mul_uoe_0 (k : Nat) : LIOk cf (call cf k) (kps 84) Try.f84.ntmps k 3 0 (lb Try.f84 0) (LIbig_Int_Mul_uoe_0 k) :=
  loop_ok (c := cf) (callF := call cf k) (kp := kps 84) (nt := Try.f84.ntmps) (k := k) (p := 3) (b := 0) (x0 := lb Try.f84 0) (hs := hsbig_Int_Mul_uoe_0) (os := osbig_Int_Mul_uoe_0) (COt_ok (albig_Int_Mul_uoe k)) (anbig_Int_Mul_uoe_0 k) (fun n x => Lbig_Int_Mul_uoe_0 k n x.1 x.2.1 x.2.2.1 x.2.2.2.1 x.2.2.2.2.1 x.2.2.2.2.2.1 x.2.2.2.2.2.2.1 x.2.2.2.2.2.2.2.1 x.2.2.2.2.2.2.2.2.1 x.2.2.2.2.2.2.2.2.2.1 x.2.2.2.2.2.2.2.2.2.2.1 x.2.2.2.2.2.2.2.2.2.2.2) (fun _ => rfl) (stbig_Int_Mul_uoe_0 k)
theorem anbig_Int_Mul_uoe (k : Nat) : LAll (LOk (R := DS FS.D rsbig_Int_Mul_uoe) (fun b _ σ K => LOt Ty (kps 84) 3 b σ K [LIbig_Int_Mul_uoe_2 k, LIbig_Int_Mul_uoe_0 k]) cf (call cf k) (cf.keep 84) Try.f84.ntmps k shbig_Int_Mul_uoe.bs.length) 0 (bd Try.f84) :=
  And.intro (True.intro) (And.intro (True.intro) (And.intro (And.intro (True.intro) (LOt_ok (c := cf) (callF := call cf k) (kp := kps 84) (nt := Try.f84.ntmps) (k := k) (p := 3) (b := 0) (x0 := lb Try.f84 0) (l := [LIbig_Int_Mul_uoe_2 k, LIbig_Int_Mul_uoe_0 k]) (And.intro (fun h => absurd (show (2 : Nat) = 0 from h) (by decide)) (And.intro (fun _ => lobig_Int_Mul_uoe_0 k) (True.intro))))) (And.intro (True.intro) (True.intro))))
theorem stbig_Int_Mul_uoe (k : Nat) (x : shbig_Int_Mul_uoe.D) : Fbig_Int_Mul_uoe (k + 1) x.1 x.2.1 x.2.2.1 x.2.2.2.1 x.2.2.2.2.1 x.2.2.2.2.2.1 x.2.2.2.2.2.2 = body2 cf (fun f a b K => COt f a b K [Ibig_Int_set_cvg k]) (fun b _ σ K => LOt Ty (kps 84) 3 b σ K [LIbig_Int_Mul_uoe_2 k, LIbig_Int_Mul_uoe_0 k]) 84 Try.f84.ntmps Try.f84.results.toList (bd Try.f84) (shbig_Int_Mul_uoe.enc x).1 (shbig_Int_Mul_uoe.enc x).2 (putS FS.dec rsbig_Int_Mul_uoe) := by kernel_rfl
theorem okbig_Int_Mul_uoe : ∀ k, InstOk (call cf k) (Ibig_Int_Mul_uoe k)
  | 0 => fun x y e => absurd (show (none : Option _) = some y from e) (by simp)
  | k + 1 => inst_ok (c := cf) (k := k) (f := 84) (fn := Try.f84) (body := bd Try.f84) (sh := shbig_Int_Mul_uoe) (os := rsbig_Int_Mul_uoe) rfl Try.func84 rfl ⟨rfl, Nat.le_of_ble_eq_true rfl⟩ (COt_ok (albig_Int_Mul_uoe k)) (anbig_Int_Mul_uoe k) (fun x => Fbig_Int_Mul_uoe (k + 1) x.1 x.2.1 x.2.2.1 x.2.2.2.1 x.2.2.2.2.1 x.2.2.2.2.2.1 x.2.2.2.2.2.2) (stbig_Int_Mul_uoe k)

/-! (*shunt/big.Rat).Add -/
def bbig_Rat_Add_cwi (k : Nat) (z0 : Bool) (z1 : Bool) (x0 : Bool) (x1 : List Int) (x2 : Bool) (x3 : List Int) (y0 : Bool) (y1 : List Int) (y2 : Bool) (y3 : List Int) : Option (Bool × List Int × Bool × List Int × Bool × List Int × Bool × List Int × Bool × List Int × Bool × List Int) :=
  Option.bind (Fbig_Rat_Denom_plq k y0 y1 y2 y3) fun r4 =>
  Option.bind (Fbig_Int_Mul_uoe k false x0 x1 x2 x3 r4.2.2.2.2.1 r4.2.2.2.2.2) fun r5 =>
  Option.bind (Fbig_Rat_Denom_plq k r5.2.2.1 r5.2.2.2.1 r5.2.2.2.2.1 r5.2.2.2.2.2.1) fun r6 =>
  Option.bind (Fbig_Int_Mul_uoe k false r4.1 r4.2.1 r4.2.2.1 r4.2.2.2.1 r6.2.2.2.2.1 r6.2.2.2.2.2) fun r7 =>
  Option.bind (Fbig_Rat_Denom_plq k r6.1 r6.2.1 r6.2.2.1 r6.2.2.2.1) fun r8 =>
  Option.bind (Fbig_Rat_Denom_plq k r7.2.2.1 r7.2.2.2.1 r7.2.2.2.2.1 r7.2.2.2.2.2.1) fun r9 =>
  Option.bind (Fbig_Int_Mul_gsh k false r8.2.2.2.2.1 r8.2.2.2.2.2 r9.2.2.2.2.1 r9.2.2.2.2.2) fun r10 =>
  Option.bind (Fbig_Int_Add_jod k r5.1 r5.2.1 r7.1 r7.2.1) fun r11 =>
  Option.bind (Fbig_Rat_frac_xda k z0 z1 r11.1 r11.2.1 r10.1 r10.2.1) fun r12 =>
  (some (r12.1, r12.2.1, r12.2.2.1, r12.2.2.2.1, r8.1, r8.2.1, r8.2.2.1, r8.2.2.2.1, r9.1, r9.2.1, r9.2.2.1, r9.2.2.2.1))
def Fbig_Rat_Add_cwi : Nat → Bool → Bool → Bool → List Int → Bool → List Int → Bool → List Int → Bool → List Int → Option (Bool × List Int × Bool × List Int × Bool × List Int × Bool × List Int × Bool × List Int × Bool × List Int)
  | 0, _, _, _, _, _, _, _, _, _, _ => none
  | k + 1, z0, z1, x0, x1, x2, x3, y0, y1, y2, y3 => bbig_Rat_Add_cwi k z0 z1 x0 x1 x2 x3 y0 y1 y2 y3
def shbig_Rat_Add_cwi : FS := { vs := [.a (.ptr 0 0 0), .a (.ptr 1 0 0), .a (.ptr 2 0 0)], bs := [.raw [[.lf .bool, .snil 1 72, .lf .bool, .snil 1 72]] 4 100 true false, .raw [[.lf .bool, .lf (.sl (.int .u32)), .lf .bool, .lf (.sl (.int .u32))]] 4 100 true false, .raw [[.lf .bool, .lf (.sl (.int .u32)), .lf .bool, .lf (.sl (.int .u32))]] 4 100 true false] }
def rsbig_Rat_Add_cwi : List FS := [{ vs := [.a (.ptr 0 0 0)], bs := [.raw [[.lf .bool, .lf (.sl (.int .u32)), .lf .bool, .lf (.sl (.int .u32))]] 4 100 true false, .raw [[.lf .bool, .lf (.sl (.int .u32)), .lf .bool, .lf (.sl (.int .u32))]] 4 100 true false, .raw [[.lf .bool, .lf (.sl (.int .u32)), .lf .bool, .lf (.sl (.int .u32))]] 4 100 true false] }]
def Ibig_Rat_Add_cwi (k : Nat) : Inst := ⟨63, shbig_Rat_Add_cwi, rsbig_Rat_Add_cwi, fun x => Fbig_Rat_Add_cwi k x.1 x.2.1 x.2.2.1 x.2.2.2.1 x.2.2.2.2.1 x.2.2.2.2.2.1 x.2.2.2.2.2.2.1 x.2.2.2.2.2.2.2.1 x.2.2.2.2.2.2.2.2.1 x.2.2.2.2.2.2.2.2.2⟩
theorem albig_Rat_Add_cwi (k : Nat) : AllI (call cf k) [Ibig_Rat_Denom_plq k, Ibig_Int_Mul_uoe k, Ibig_Int_Mul_gsh k, Ibig_Int_Add_jod k, Ibig_Rat_frac_xda k] := And.intro (okbig_Rat_Denom_plq k) (And.intro (okbig_Int_Mul_uoe k) (And.intro (okbig_Int_Mul_gsh k) (And.intro (okbig_Int_Add_jod k) (And.intro (okbig_Rat_frac_xda k) (True.intro)))))
theorem anbig_Rat_Add_cwi (k : Nat) : LAll (LOk (R := DS FS.D rsbig_Rat_Add_cwi) (fun b _ σ K => LOt Ty (kps 63) 3 b σ K []) cf (call cf k) (cf.keep 63) Try.f63.ntmps k shbig_Rat_Add_cwi.bs.length) 0 (bd Try.f63) :=
  And.intro (True.intro) (And.intro (True.intro) (And.intro (True.intro) (And.intro (True.intro) (And.intro (True.intro) (And.intro (True.intro) (True.intro))))))
theorem stbig_Rat_Add_cwi (k : Nat) (x : shbig_Rat_Add_cwi.D) : Fbig_Rat_Add_cwi (k + 1) x.1 x.2.1 x.2.2.1 x.2.2.2.1 x.2.2.2.2.1 x.2.2.2.2.2.1 x.2.2.2.2.2.2.1 x.2.2.2.2.2.2.2.1 x.2.2.2.2.2.2.2.2.1 x.2.2.2.2.2.2.2.2.2 = body2 cf (fun f a b K => COt f a b K [Ibig_Rat_Denom_plq k, Ibig_Int_Mul_uoe k, Ibig_Int_Mul_gsh k, Ibig_Int_Add_jod k, Ibig_Rat_frac_xda k]) (fun b _ σ K => LOt Ty (kps 63) 3 b σ K []) 63 Try.f63.ntmps Try.f63.results.toList (bd Try.f63) (shbig_Rat_Add_cwi.enc x).1 (shbig_Rat_Add_cwi.enc x).2 (putS FS.dec rsbig_Rat_Add_cwi) := by kernel_rfl
theorem okbig_Rat_Add_cwi : ∀ k, InstOk (call cf k) (Ibig_Rat_Add_cwi k)
  | 0 => fun x y e => absurd (show (none : Option _) = some y from e) (by simp)
  | k + 1 => inst_ok (c := cf) (k := k) (f := 63) (fn := Try.f63) (body := bd Try.f63) (sh := shbig_Rat_Add_cwi) (os := rsbig_Rat_Add_cwi) rfl Try.func63 rfl ⟨rfl, Nat.le_of_ble_eq_true rfl⟩ (COt_ok (albig_Rat_Add_cwi k)) (anbig_Rat_Add_cwi k) (fun x => Fbig_Rat_Add_cwi (k + 1) x.1 x.2.1 x.2.2.1 x.2.2.2.1 x.2.2.2.2.1 x.2.2.2.2.2.1 x.2.2.2.2.2.2.1 x.2.2.2.2.2.2.2.1 x.2.2.2.2.2.2.2.2.1 x.2.2.2.2.2.2.2.2.2) (stbig_Rat_Add_cwi k)

/-! (*shunt/big.Rat).Sub -/
def bbig_Rat_Sub_cwi (k : Nat) (z0 : Bool) (z1 : Bool) (x0 : Bool) (x1 : List Int) (x2 : Bool) (x3 : List Int) (y0 : Bool) (y1 : List Int) (y2 : Bool) (y3 : List Int) : Option (Bool × List Int × Bool × List Int × Bool × List Int × Bool × List Int × Bool × List Int × Bool × List Int) :=
  Option.bind (Fbig_Rat_Neg_yrp k false false y0 y1 y2 y3) fun r3 =>
  Option.bind (Fbig_Rat_Add_cwi k z0 z1 x0 x1 x2 x3 r3.1 r3.2.1 r3.2.2.1 r3.2.2.2.1) fun r4 =>
  (some (r4.1, r4.2.1, r4.2.2.1, r4.2.2.2.1, r4.2.2.2.2.1, r4.2.2.2.2.2.1, r4.2.2.2.2.2.2.1, r4.2.2.2.2.2.2.2.1, r3.2.2.2.2.1, r3.2.2.2.2.2.1, r3.2.2.2.2.2.2.1, r3.2.2.2.2.2.2.2))
def Fbig_Rat_Sub_cwi : Nat → Bool → Bool → Bool → List Int → Bool → List Int → Bool → List Int → Bool → List Int → Option (Bool × List Int × Bool × List Int × Bool × List Int × Bool × List Int × Bool × List Int × Bool × List Int)
  | 0, _, _, _, _, _, _, _, _, _, _ => none
  | k + 1, z0, z1, x0, x1, x2, x3, y0, y1, y2, y3 => bbig_Rat_Sub_cwi k z0 z1 x0 x1 x2 x3 y0 y1 y2 y3
def shbig_Rat_Sub_cwi : FS := { vs := [.a (.ptr 0 0 0), .a (.ptr 1 0 0), .a (.ptr 2 0 0)], bs := [.raw [[.lf .bool, .snil 1 72, .lf .bool, .snil 1 72]] 4 100 true false, .raw [[.lf .bool, .lf (.sl (.int .u32)), .lf .bool, .lf (.sl (.int .u32))]] 4 100 true false, .raw [[.lf .bool, .lf (.sl (.int .u32)), .lf .bool, .lf (.sl (.int .u32))]] 4 100 true false] }
def rsbig_Rat_Sub_cwi : List FS := [{ vs := [.a (.ptr 0 0 0)], bs := [.raw [[.lf .bool, .lf (.sl (.int .u32)), .lf .bool, .lf (.sl (.int .u32))]] 4 100 true false, .raw [[.lf .bool, .lf (.sl (.int .u32)), .lf .bool, .lf (.sl (.int .u32))]] 4 100 true false, .raw [[.lf .bool, .lf (.sl (.int .u32)), .lf .bool, .lf (.sl (.int .u32))]] 4 100 true false] }]
def Ibig_Rat_Sub_cwi (k : Nat) : Inst := ⟨61, shbig_Rat_Sub_cwi, rsbig_Rat_Sub_cwi, fun x => Fbig_Rat_Sub_cwi k x.1 x.2.1 x.2.2.1 x.2.2.2.1 x.2.2.2.2.1 x.2.2.2.2.2.1 x.2.2.2.2.2.2.1 x.2.2.2.2.2.2.2.1 x.2.2.2.2.2.2.2.2.1 x.2.2.2.2.2.2.2.2.2⟩
theorem albig_Rat_Sub_cwi (k : Nat) : AllI (call cf k) [Ibig_Rat_Neg_yrp k, Ibig_Rat_Add_cwi k] := And.intro (okbig_Rat_Neg_yrp k) (And.intro (okbig_Rat_Add_cwi k) (True.intro))
theorem anbig_Rat_Sub_cwi (k : Nat) : LAll (LOk (R := DS FS.D rsbig_Rat_Sub_cwi) (fun b _ σ K => LOt Ty (kps 61) 3 b σ K []) cf (call cf k) (cf.keep 61) Try.f61.ntmps k shbig_Rat_Sub_cwi.bs.length) 0 (bd Try.f61) :=
  And.intro (True.intro) (And.intro (True.intro) (True.intro))
theorem stbig_Rat_Sub_cwi (k : Nat) (x : shbig_Rat_Sub_cwi.D) : Fbig_Rat_Sub_cwi (k + 1) x.1 x.2.1 x.2.2.1 x.2.2.2.1 x.2.2.2.2.1 x.2.2.2.2.2.1 x.2.2.2.2.2.2.1 x.2.2.2.2.2.2.2.1 x.2.2.2.2.2.2.2.2.1 x.2.2.2.2.2.2.2.2.2 = body2 cf (fun f a b K => COt f a b K [Ibig_Rat_Neg_yrp k, Ibig_Rat_Add_cwi k]) (fun b _ σ K => LOt Ty (kps 61) 3 b σ K []) 61 Try.f61.ntmps Try.f61.results.toList (bd Try.f61) (shbig_Rat_Sub_cwi.enc x).1 (shbig_Rat_Sub_cwi.enc x).2 (putS FS.dec rsbig_Rat_Sub_cwi) := by kernel_rfl
theorem okbig_Rat_Sub_cwi : ∀ k, InstOk (call cf k) (Ibig_Rat_Sub_cwi k)
  | 0 => fun x y e => absurd (show (none : Option _) = some y from e) (by simp)
  | k + 1 => inst_ok (c := cf) (k := k) (f := 61) (fn := Try.f61) (body := bd Try.f61) (sh := shbig_Rat_Sub_cwi) (os := rsbig_Rat_Sub_cwi) rfl Try.func61 rfl ⟨rfl, Nat.le_of_ble_eq_true rfl⟩ (COt_ok (albig_Rat_Sub_cwi k)) (anbig_Rat_Sub_cwi k) (fun x => Fbig_Rat_Sub_cwi (k + 1) x.1 x.2.1 x.2.2.1 x.2.2.2.1 x.2.2.2.2.1 x.2.2.2.2.2.1 x.2.2.2.2.2.2.1 x.2.2.2.2.2.2.2.1 x.2.2.2.2.2.2.2.2.1 x.2.2.2.2.2.2.2.2.2) (stbig_Rat_Sub_cwi k)

/-! (*shunt/big.Rat).Add -/
def bbig_Rat_Add_wqk (k : Nat) (x0 : Bool) (x1 : List Int) (x2 : Bool) (x3 : List Int) (y0 : Bool) (y1 : List Int) (y2 : Bool) (y3 : List Int) : Option (Bool × List Int × Bool × List Int × Bool × List Int × Bool × List Int) :=
  Option.bind (Fbig_Rat_Denom_plq k y0 y1 y2 y3) fun r6 =>
  Option.bind (Fbig_Int_Mul_uoe k false x0 x1 x2 x3 r6.2.2.2.2.1 r6.2.2.2.2.2) fun r7 =>
  Option.bind (Fbig_Rat_Denom_plq k r7.2.2.1 r7.2.2.2.1 r7.2.2.2.2.1 r7.2.2.2.2.2.1) fun r8 =>
  Option.bind (Fbig_Int_Mul_uoe k false r6.1 r6.2.1 r6.2.2.1 r6.2.2.2.1 r8.2.2.2.2.1 r8.2.2.2.2.2) fun r9 =>
  Option.bind (Fbig_Rat_Denom_plq k r8.1 r8.2.1 r8.2.2.1 r8.2.2.2.1) fun r10 =>
  Option.bind (Fbig_Rat_Denom_plq k r9.2.2.1 r9.2.2.2.1 r9.2.2.2.2.1 r9.2.2.2.2.2.1) fun r11 =>
  Option.bind (Fbig_Int_Mul_gsh k false r10.2.2.2.2.1 r10.2.2.2.2.2 r11.2.2.2.2.1 r11.2.2.2.2.2) fun r12 =>
  Option.bind (Fbig_Int_Add_jod k r7.1 r7.2.1 r9.1 r9.2.1) fun r13 =>
  Option.bind (Fbig_Rat_frac_prp k r10.1 r10.2.1 r10.2.2.1 r10.2.2.2.1 r13.1 r13.2.1 r12.1 r12.2.1) fun r14 =>
  (some (r14.1, r14.2.1, r14.2.2.1, r14.2.2.2.1, r11.1, r11.2.1, r11.2.2.1, r11.2.2.2.1))
def Fbig_Rat_Add_wqk : Nat → Bool → List Int → Bool → List Int → Bool → List Int → Bool → List Int → Option (Bool × List Int × Bool × List Int × Bool × List Int × Bool × List Int)
  | 0, _, _, _, _, _, _, _, _ => none
  | k + 1, x0, x1, x2, x3, y0, y1, y2, y3 => bbig_Rat_Add_wqk k x0 x1 x2 x3 y0 y1 y2 y3
def shbig_Rat_Add_wqk : FS := { vs := [.a (.ptr 0 0 0), .a (.ptr 0 0 0), .a (.ptr 1 0 0)], bs := [.raw [[.lf .bool, .lf (.sl (.int .u32)), .lf .bool, .lf (.sl (.int .u32))]] 4 100 true false, .raw [[.lf .bool, .lf (.sl (.int .u32)), .lf .bool, .lf (.sl (.int .u32))]] 4 100 true false] }
def rsbig_Rat_Add_wqk : List FS := [{ vs := [.a (.ptr 0 0 0)], bs := [.raw [[.lf .bool, .lf (.sl (.int .u32)), .lf .bool, .lf (.sl (.int .u32))]] 4 100 true false, .raw [[.lf .bool, .lf (.sl (.int .u32)), .lf .bool, .lf (.sl (.int .u32))]] 4 100 true false] }]
def Ibig_Rat_Add_wqk (k : Nat) : Inst := ⟨63, shbig_Rat_Add_wqk, rsbig_Rat_Add_wqk, fun x => Fbig_Rat_Add_wqk k x.1 x.2.1 x.2.2.1 x.2.2.2.1 x.2.2.2.2.1 x.2.2.2.2.2.1 x.2.2.2.2.2.2.1 x.2.2.2.2.2.2.2⟩
theorem albig_Rat_Add_wqk (k : Nat) : AllI (call cf k) [Ibig_Rat_Denom_plq k, Ibig_Int_Mul_uoe k, Ibig_Int_Mul_gsh k, Ibig_Int_Add_jod k, Ibig_Rat_frac_prp k] := And.intro (okbig_Rat_Denom_plq k) (And.intro (okbig_Int_Mul_uoe k) (And.intro (okbig_Int_Mul_gsh k) (And.intro (okbig_Int_Add_jod k) (And.intro (okbig_Rat_frac_prp k) (True.intro)))))
theorem anbig_Rat_Add_wqk (k : Nat) : LAll (LOk (R := DS FS.D rsbig_Rat_Add_wqk) (fun b _ σ K => LOt Ty (kps 63) 2 b σ K []) cf (call cf k) (cf.keep 63) Try.f63.ntmps k shbig_Rat_Add_wqk.bs.length) 0 (bd Try.f63) :=
  And.intro (True.intro) (And.intro (True.intro) (And.intro (True.intro) (And.intro (True.intro) (And.intro (True.intro) (And.intro (True.intro) (True.intro))))))
theorem stbig_Rat_Add_wqk (k : Nat) (x : shbig_Rat_Add_wqk.D) : Fbig_Rat_Add_wqk (k + 1) x.1 x.2.1 x.2.2.1 x.2.2.2.1 x.2.2.2.2.1 x.2.2.2.2.2.1 x.2.2.2.2.2.2.1 x.2.2.2.2.2.2.2 = body2 cf (fun f a b K => COt f a b K [Ibig_Rat_Denom_plq k, Ibig_Int_Mul_uoe k, Ibig_Int_Mul_gsh k, Ibig_Int_Add_jod k, Ibig_Rat_frac_prp k]) (fun b _ σ K => LOt Ty (kps 63) 2 b σ K []) 63 Try.f63.ntmps Try.f63.results.toList (bd Try.f63) (shbig_Rat_Add_wqk.enc x).1 (shbig_Rat_Add_wqk.enc x).2 (putS FS.dec rsbig_Rat_Add_wqk) := by kernel_rfl
theorem okbig_Rat_Add_wqk : ∀ k, InstOk (call cf k) (Ibig_Rat_Add_wqk k)
  | 0 => fun x y e => absurd (show (none : Option _) = some y from e) (by simp)
  | k + 1 => inst_ok (c := cf) (k := k) (f := 63) (fn := Try.f63) (body := bd Try.f63) (sh := shbig_Rat_Add_wqk) (os := rsbig_Rat_Add_wqk) rfl Try.func63 rfl ⟨rfl, Nat.le_of_ble_eq_true rfl⟩ (COt_ok (albig_Rat_Add_wqk k)) (anbig_Rat_Add_wqk k) (fun x => Fbig_Rat_Add_wqk (k + 1) x.1 x.2.1 x.2.2.1 x.2.2.2.1 x.2.2.2.2.1 x.2.2.2.2.2.1 x.2.2.2.2.2.2.1 x.2.2.2.2.2.2.2) (stbig_Rat_Add_wqk k)

/-! shunt/wave.between -/
def bwave_between (k : Nat) (a0 : Int) (a1 : Int) (b0 : Int) (b1 : Int) (k1 : Int) (n : Int) : Option (Bool × List Int × Bool × List Int) :=
  Option.bind (Fwave_value k a0 a1) fun r1 =>
  Option.bind (Fwave_value k b0 b1) fun r2 =>
  Option.bind (Fbig_Rat_Sub_cwi k false false r2.1 r2.2.1 r2.2.2.1 r2.2.2.2 r1.1 r1.2.1 r1.2.2.1 r1.2.2.2) fun r3 =>
  Option.bind (Fbig_NewRat k k1 n) fun r4 =>
  Option.bind (Fbig_Rat_Mul_wqk k r3.1 r3.2.1 r3.2.2.1 r3.2.2.2.1 r4.1 r4.2.1 r4.2.2.1 r4.2.2.2) fun r5 =>
  Option.bind (Fbig_Rat_Add_wqk k r5.1 r5.2.1 r5.2.2.1 r5.2.2.2.1 r3.2.2.2.2.2.2.2.2.1 r3.2.2.2.2.2.2.2.2.2.1 r3.2.2.2.2.2.2.2.2.2.2.1 r3.2.2.2.2.2.2.2.2.2.2.2) fun r6 =>
  (some (r6.1, r6.2.1, r6.2.2.1, r6.2.2.2.1))
def Fwave_between : Nat → Int → Int → Int → Int → Int → Int → Option (Bool × List Int × Bool × List Int)
  | 0, _, _, _, _, _, _ => none
  | k + 1, a0, a1, b0, b1, k1, n => bwave_between k a0 a1 b0 b1 k1 n
def shwave_between : FS := { vs := [.g [.lf (.int .i64), .lf (.int .i64)], .g [.lf (.int .i64), .lf (.int .i64)], .a (.lf (.int .i64)), .a (.lf (.int .i64))], bs := [] }
def rswave_between : List FS := [{ vs := [.a (.ptr 0 0 0)], bs := [.raw [[.lf .bool, .lf (.sl (.int .u32)), .lf .bool, .lf (.sl (.int .u32))]] 4 100 true false] }]
def Iwave_between (k : Nat) : Inst := ⟨87, shwave_between, rswave_between, fun x => Fwave_between k x.1 x.2.1 x.2.2.1 x.2.2.2.1 x.2.2.2.2.1 x.2.2.2.2.2⟩
theorem alwave_between (k : Nat) : AllI (call cf k) [Iwave_value k, Ibig_Rat_Sub_cwi k, Ibig_NewRat k, Ibig_Rat_Mul_wqk k, Ibig_Rat_Add_wqk k] := And.intro (okwave_value k) (And.intro (okbig_Rat_Sub_cwi k) (And.intro (okbig_NewRat k) (And.intro (okbig_Rat_Mul_wqk k) (And.intro (okbig_Rat_Add_wqk k) (True.intro)))))
theorem anwave_between (k : Nat) : LAll (LOk (R := DS FS.D rswave_between) (fun b _ σ K => LOt Ty (kps 87) 0 b σ K []) cf (call cf k) (cf.keep 87) Try.f87.ntmps k shwave_between.bs.length) 0 (bd Try.f87) :=
  And.intro (True.intro) (And.intro (True.intro) (And.intro (True.intro) (And.intro (True.intro) (And.intro (True.intro) (True.intro)))))
theorem stwave_between (k : Nat) (x : shwave_between.D) : Fwave_between (k + 1) x.1 x.2.1 x.2.2.1 x.2.2.2.1 x.2.2.2.2.1 x.2.2.2.2.2 = body2 cf (fun f a b K => COt f a b K [Iwave_value k, Ibig_Rat_Sub_cwi k, Ibig_NewRat k, Ibig_Rat_Mul_wqk k, Ibig_Rat_Add_wqk k]) (fun b _ σ K => LOt Ty (kps 87) 0 b σ K []) 87 Try.f87.ntmps Try.f87.results.toList (bd Try.f87) (shwave_between.enc x).1 (shwave_between.enc x).2 (putS FS.dec rswave_between) := by kernel_rfl
theorem okwave_between : ∀ k, InstOk (call cf k) (Iwave_between k)
  | 0 => fun x y e => absurd (show (none : Option _) = some y from e) (by simp)
  | k + 1 => inst_ok (c := cf) (k := k) (f := 87) (fn := Try.f87) (body := bd Try.f87) (sh := shwave_between) (os := rswave_between) rfl Try.func87 rfl ⟨rfl, Nat.le_of_ble_eq_true rfl⟩ (COt_ok (alwave_between k)) (anwave_between k) (fun x => Fwave_between (k + 1) x.1 x.2.1 x.2.2.1 x.2.2.2.1 x.2.2.2.2.1 x.2.2.2.2.2) (stwave_between k)

/-! shunt/wave.pulse -/
def bwave_pulse (k : Nat) (w0 : Int) (w1 : List (Int × Int)) (w2 : List Int) (step : Int) : Option (Bool × List Int × Bool × List Int) :=
  Option.bind (w1)[0]? fun x =>
  Option.bind (w1)[1]? fun x1 =>
  Option.bind (w2)[0]? fun x2 =>
  if ((decide (step < x2)) = true) then
    Option.bind (Fwave_value k x.1 x.2) fun r1 =>
    (some (r1.1, r1.2.1, r1.2.2.1, r1.2.2.2))
  else
  Option.bind (w2)[0]? fun x3 =>
  Option.bind (w2)[4]? fun x4 =>
  if (x4 = (0 : Int)) then
    none
  else
  Option.bind (w2)[1]? fun x5 =>
  if ((decide ((Int.tmod (IntKind.wrap .i64 (step - x3)) x4) < x5)) = true) then
    Option.bind (w2)[1]? fun x6 =>
    Option.bind (Fwave_between k x.1 x.2 x1.1 x1.2 (Int.tmod (IntKind.wrap .i64 (step - x3)) x4) x6) fun r1 =>
    (some (r1.1, r1.2.1, r1.2.2.1, r1.2.2.2))
  else
  Option.bind (w2)[1]? fun x6 =>
  Option.bind (w2)[2]? fun x7 =>
  if ((decide ((Int.tmod (IntKind.wrap .i64 (step - x3)) x4) < (IntKind.wrap .i64 (x6 + x7)))) = true) then
    Option.bind (Fwave_value k x1.1 x1.2) fun r1 =>
    (some (r1.1, r1.2.1, r1.2.2.1, r1.2.2.2))
  else
  Option.bind (w2)[1]? fun x8 =>
  Option.bind (w2)[2]? fun x9 =>
  Option.bind (w2)[3]? fun x10 =>
  if ((decide ((Int.tmod (IntKind.wrap .i64 (step - x3)) x4) < (IntKind.wrap .i64 ((IntKind.wrap .i64 (x8 + x9)) + x10)))) = true) then
    Option.bind (w2)[1]? fun x11 =>
    Option.bind (w2)[2]? fun x12 =>
    Option.bind (w2)[3]? fun x13 =>
    Option.bind (Fwave_between k x1.1 x1.2 x.1 x.2 (IntKind.wrap .i64 ((IntKind.wrap .i64 ((Int.tmod (IntKind.wrap .i64 (step - x3)) x4) - x11)) - x12)) x13) fun r1 =>
    (some (r1.1, r1.2.1, r1.2.2.1, r1.2.2.2))
  else
  Option.bind (Fwave_value k x.1 x.2) fun r1 =>
  (some (r1.1, r1.2.1, r1.2.2.1, r1.2.2.2))
def Fwave_pulse : Nat → Int → List (Int × Int) → List Int → Int → Option (Bool × List Int × Bool × List Int)
  | 0, _, _, _, _ => none
  | k + 1, w0, w1, w2, step => bwave_pulse k w0 w1 w2 step
def shwave_pulse : FS := { vs := [.g [.lf (.int .i64), .lf (.sl (.pr (.int .i64) (.int .i64))), .lf (.sl (.int .i64))], .a (.lf (.int .i64))], bs := [] }
def rswave_pulse : List FS := [{ vs := [.a (.ptr 0 0 0)], bs := [.raw [[.lf .bool, .lf (.sl (.int .u32)), .lf .bool, .lf (.sl (.int .u32))]] 4 100 true false] }]
def Iwave_pulse (k : Nat) : Inst := ⟨52, shwave_pulse, rswave_pulse, fun x => Fwave_pulse k x.1 x.2.1 x.2.2.1 x.2.2.2⟩
theorem alwave_pulse (k : Nat) : AllI (call cf k) [Iwave_value k, Iwave_between k] := And.intro (okwave_value k) (And.intro (okwave_between k) (True.intro))
theorem anwave_pulse (k : Nat) : LAll (LOk (R := DS FS.D rswave_pulse) (fun b _ σ K => LOt Ty (kps 52) 0 b σ K []) cf (call cf k) (cf.keep 52) Try.f52.ntmps k shwave_pulse.bs.length) 0 (bd Try.f52) :=
  And.intro (True.intro) (And.intro (True.intro) (And.intro (And.intro (True.intro) (And.intro (And.intro (True.intro) (True.intro)) (True.intro))) (And.intro (True.intro) (And.intro (And.intro (True.intro) (And.intro (And.intro (True.intro) (True.intro)) (And.intro (True.intro) (And.intro (And.intro (True.intro) (True.intro)) (And.intro (True.intro) (And.intro (And.intro (True.intro) (True.intro)) (True.intro))))))) (And.intro (True.intro) (True.intro))))))
theorem stwave_pulse (k : Nat) (x : shwave_pulse.D) : Fwave_pulse (k + 1) x.1 x.2.1 x.2.2.1 x.2.2.2 = body2 cf (fun f a b K => COt f a b K [Iwave_value k, Iwave_between k]) (fun b _ σ K => LOt Ty (kps 52) 0 b σ K []) 52 Try.f52.ntmps Try.f52.results.toList (bd Try.f52) (shwave_pulse.enc x).1 (shwave_pulse.enc x).2 (putS FS.dec rswave_pulse) := by kernel_rfl
theorem okwave_pulse : ∀ k, InstOk (call cf k) (Iwave_pulse k)
  | 0 => fun x y e => absurd (show (none : Option _) = some y from e) (by simp)
  | k + 1 => inst_ok (c := cf) (k := k) (f := 52) (fn := Try.f52) (body := bd Try.f52) (sh := shwave_pulse) (os := rswave_pulse) rfl Try.func52 rfl ⟨rfl, Nat.le_of_ble_eq_true rfl⟩ (COt_ok (alwave_pulse k)) (anwave_pulse k) (fun x => Fwave_pulse (k + 1) x.1 x.2.1 x.2.2.1 x.2.2.2) (stwave_pulse k)

/-! shunt/wave.pwl -/
def Lwave_pwl_0s (k : Nat) (rec : Int → Int → Int → List (Int × Int) → List Int → Option (Int × Int × Int × List (Int × Int) × List Int)) (step : Int) (i : Int) (w0 : Int) (w1 : List (Int × Int)) (w2 : List Int) : Option (Int × Int × Int × List (Int × Int) × List Int) :=
  if ((decide (i < (((List.length w2) : Nat) : Int))) = true) then
    if ((0 : Int) ≤ i) then
      Option.bind (w2)[(Int.toNat i)]? fun x =>
      if ((decide (x ≤ step)) = true) then
        rec step (IntKind.wrap .i64 (i + (1 : Int))) w0 w1 w2
      else
      (some (step, i, w0, w1, w2))
    else
    none
  else
  (some (step, i, w0, w1, w2))
def Lwave_pwl_0 (k n : Nat) : Int → Int → Int → List (Int × Int) → List Int → Option (Int × Int × Int × List (Int × Int) × List Int) := Nat.rec (fun _ _ _ _ _ => none) (fun _ r => Lwave_pwl_0s k r) n
def bwave_pwl (k : Nat) (w0 : Int) (w1 : List (Int × Int)) (w2 : List Int) (step : Int) : Option (Bool × List Int × Bool × List Int) :=
  Option.bind (Lwave_pwl_0 k k step (0 : Int) w0 w1 w2) fun r1 =>
  if ((r1.2.1 == (0 : Int)) = true) then
    Option.bind (r1.2.2.2.1)[0]? fun x =>
    Option.bind (Fwave_value k x.1 x.2) fun r2 =>
    (some (r2.1, r2.2.1, r2.2.2.1, r2.2.2.2))
  else
  if ((r1.2.1 == (((List.length r1.2.2.2.2) : Nat) : Int)) = true) then
    if ((0 : Int) ≤ (IntKind.wrap .i64 (r1.2.1 - (1 : Int)))) then
      Option.bind (r1.2.2.2.1)[(Int.toNat (IntKind.wrap .i64 (r1.2.1 - (1 : Int))))]? fun x =>
      Option.bind (Fwave_value k x.1 x.2) fun r2 =>
      (some (r2.1, r2.2.1, r2.2.2.1, r2.2.2.2))
    else
    none
  else
  if ((0 : Int) ≤ (IntKind.wrap .i64 (r1.2.1 - (1 : Int)))) then
    Option.bind (r1.2.2.2.1)[(Int.toNat (IntKind.wrap .i64 (r1.2.1 - (1 : Int))))]? fun x =>
    if ((0 : Int) ≤ r1.2.1) then
      Option.bind (r1.2.2.2.1)[(Int.toNat r1.2.1)]? fun x1 =>
      if ((0 : Int) ≤ (IntKind.wrap .i64 (r1.2.1 - (1 : Int)))) then
        Option.bind (r1.2.2.2.2)[(Int.toNat (IntKind.wrap .i64 (r1.2.1 - (1 : Int))))]? fun x2 =>
        if ((0 : Int) ≤ r1.2.1) then
          Option.bind (r1.2.2.2.2)[(Int.toNat r1.2.1)]? fun x3 =>
          if ((0 : Int) ≤ (IntKind.wrap .i64 (r1.2.1 - (1 : Int)))) then
            Option.bind (r1.2.2.2.2)[(Int.toNat (IntKind.wrap .i64 (r1.2.1 - (1 : Int))))]? fun x4 =>
            Option.bind (Fwave_between k x.1 x.2 x1.1 x1.2 (IntKind.wrap .i64 (r1.1 - x2)) (IntKind.wrap .i64 (x3 - x4))) fun r2 =>
            (some (r2.1, r2.2.1, r2.2.2.1, r2.2.2.2))
          else
          none
        else
        none
      else
      none
    else
    none
  else
  none
def Fwave_pwl : Nat → Int → List (Int × Int) → List Int → Int → Option (Bool × List Int × Bool × List Int)
  | 0, _, _, _, _ => none
  | k + 1, w0, w1, w2, step => bwave_pwl k w0 w1 w2 step
def shwave_pwl : FS := { vs := [.g [.lf (.int .i64), .lf (.sl (.pr (.int .i64) (.int .i64))), .lf (.sl (.int .i64))], .a (.lf (.int .i64))], bs := [] }
def rswave_pwl : List FS := [{ vs := [.a (.ptr 0 0 0)], bs := [.raw [[.lf .bool, .lf (.sl (.int .u32)), .lf .bool, .lf (.sl (.int .u32))]] 4 100 true false] }]
def Iwave_pwl (k : Nat) : Inst := ⟨53, shwave_pwl, rswave_pwl, fun x => Fwave_pwl k x.1 x.2.1 x.2.2.1 x.2.2.2⟩
theorem alwave_pwl (k : Nat) : AllI (call cf k) [Iwave_value k, Iwave_between k] := And.intro (okwave_value k) (And.intro (okwave_between k) (True.intro))
def hswave_pwl_0 : List SS := [{ fr := [(1, .a (.lf (.int .i64))), (2, .a (.ptr 0 0 0)), (5, .a (.lf (.int .i64)))], mem := [(0, some (.raw [[.lf (.int .i64), .lf (.sl (.pr (.int .i64) (.int .i64))), .lf (.sl (.int .i64))]] 3 40 true false))], nx := 1 }]
def oswave_pwl_0 : List OS := [⟨some 0, { fr := [(1, .a (.lf (.int .i64))), (2, .a (.ptr 0 0 0)), (5, .a (.lf (.int .i64)))], mem := [(0, some (.raw [[.lf (.int .i64), .lf (.sl (.pr (.int .i64) (.int .i64))), .lf (.sl (.int .i64))]] 3 40 true false))], nx := 1 }⟩]
def LIwave_pwl_0 (k : Nat) : LInst := ⟨0, hswave_pwl_0, oswave_pwl_0, fun x => Lwave_pwl_0 k k x.1 x.2.1 x.2.2.1 x.2.2.2.1 x.2.2.2.2⟩
theorem anwave_pwl_0 (k : Nat) : LAll (LOk (R := DS OS.D oswave_pwl_0) (fun b _ σ K => LOt Ty (kps 53) 0 b σ K []) cf (call cf k) (kps 53) Try.f53.ntmps k 0) 0 (lb Try.f53 0) :=
  And.intro (And.intro (True.intro) (And.intro (True.intro) (True.intro))) (True.intro)
theorem stwave_pwl_0 (k n : Nat) (x : DS SS.D hswave_pwl_0) : Lwave_pwl_0 k (n + 1) x.1 x.2.1 x.2.2.1 x.2.2.2.1 x.2.2.2.2 = encSK SS.enc (fun σ => run2 cf (fun f a b K => COt f a b K [Iwave_value k, Iwave_between k]) (fun b _ σ K => LOt Ty (kps 53) 0 b σ K []) Try.f53.ntmps 0 (lb Try.f53 0) σ (nextK Ty (kps 53 0) 0 hswave_pwl_0 oswave_pwl_0 fun x => Lwave_pwl_0 k n x.1 x.2.1 x.2.2.1 x.2.2.2.1 x.2.2.2.2)) hswave_pwl_0 x := by kernel_rfl
theorem lowave_pwl_0 (k : Nat) : LIOk cf (call cf k) (kps 53) Try.f53.ntmps k 0 0 (lb Try.f53 0) (LIwave_pwl_0 k) :=
  loop_ok (c := cf) (callF := call cf k) (kp := kps 53) (nt := Try.f53.ntmps) (k := k) (p := 0) (b := 0) (x0 := lb Try.f53 0) (hs := hswave_pwl_0) (os := oswave_pwl_0) (COt_ok (alwave_pwl k)) (anwave_pwl_0 k) (fun n x => Lwave_pwl_0 k n x.1 x.2.1 x.2.2.1 x.2.2.2.1 x.2.2.2.2) (fun _ => rfl) (stwave_pwl_0 k)
theorem anwave_pwl (k : Nat) : LAll (LOk (R := DS FS.D rswave_pwl) (fun b _ σ K => LOt Ty (kps 53) 0 b σ K [LIwave_pwl_0 k]) cf (call cf k) (cf.keep 53) Try.f53.ntmps k shwave_pwl.bs.length) 0 (bd Try.f53) :=
  And.intro (True.intro) (And.intro (True.intro) (And.intro (LOt_ok (c := cf) (callF := call cf k) (kp := kps 53) (nt := Try.f53.ntmps) (k := k) (p := 0) (b := 0) (x0 := lb Try.f53 0) (l := [LIwave_pwl_0 k]) (And.intro (fun _ => lowave_pwl_0 k) (True.intro))) (And.intro (And.intro (True.intro) (And.intro (True.intro) (And.intro (And.intro (True.intro) (True.intro)) (And.intro (True.intro) (And.intro (And.intro (True.intro) (True.intro)) (True.intro)))))) (And.intro (True.intro) (True.intro)))))
theorem stwave_pwl (k : Nat) (x : shwave_pwl.D) : Fwave_pwl (k + 1) x.1 x.2.1 x.2.2.1 x.2.2.2 = body2 cf (fun f a b K => COt f a b K [Iwave_value k, Iwave_between k]) (fun b _ σ K => LOt Ty (kps 53) 0 b σ K [LIwave_pwl_0 k]) 53 Try.f53.ntmps Try.f53.results.toList (bd Try.f53) (shwave_pwl.enc x).1 (shwave_pwl.enc x).2 (putS FS.dec rswave_pwl) := by kernel_rfl
theorem okwave_pwl : ∀ k, InstOk (call cf k) (Iwave_pwl k)
  | 0 => fun x y e => absurd (show (none : Option _) = some y from e) (by simp)
  | k + 1 => inst_ok (c := cf) (k := k) (f := 53) (fn := Try.f53) (body := bd Try.f53) (sh := shwave_pwl) (os := rswave_pwl) rfl Try.func53 rfl ⟨rfl, Nat.le_of_ble_eq_true rfl⟩ (COt_ok (alwave_pwl k)) (anwave_pwl k) (fun x => Fwave_pwl (k + 1) x.1 x.2.1 x.2.2.1 x.2.2.2) (stwave_pwl k)

/-! shunt/wave.At -/
def bwave_At (k : Nat) (w0 : Int) (w1 : List (Int × Int)) (w2 : List Int) (step : Int) : Option (Int × Int) :=
  Option.bind (Fwave_Valid k w0 w1 w2) fun r =>
  if ((!r) = true) then
    (some ((0 : Int), (40 : Int)))
  else
  if ((decide (step < (0 : Int))) = false) then
    if ((decide (step > (1000000000 : Int))) = true) then
      (some ((0 : Int), (4 : Int)))
    else
    if ((w0 == (1 : Int)) = true) then
      Option.bind (w1)[0]? fun x =>
      Option.bind (Fwave_value k x.1 x.2) fun r1 =>
      Option.bind (Fbig_NewRat k (1000000000 : Int) (1 : Int)) fun r2 =>
      Option.bind (Fbig_Rat_Mul_wqk k r1.1 r1.2.1 r1.2.2.1 r1.2.2.2 r2.1 r2.2.1 r2.2.2.1 r2.2.2.2) fun r3 =>
      Option.bind (Fwide_Frac_plq k r3.1 r3.2.1 r3.2.2.1 r3.2.2.2.1) fun r4 =>
      Option.bind (Frat_Round k r4.1 r4.2.1 r4.2.2.1 r4.2.2.2.1) fun r5 =>
      (some (r5.1, r5.2))
    else
    if ((w0 == (2 : Int)) = true) then
      Option.bind (Fwave_pulse k w0 w1 w2 step) fun r1 =>
      Option.bind (Fbig_NewRat k (1000000000 : Int) (1 : Int)) fun r2 =>
      Option.bind (Fbig_Rat_Mul_wqk k r1.1 r1.2.1 r1.2.2.1 r1.2.2.2 r2.1 r2.2.1 r2.2.2.1 r2.2.2.2) fun r3 =>
      Option.bind (Fwide_Frac_plq k r3.1 r3.2.1 r3.2.2.1 r3.2.2.2.1) fun r4 =>
      Option.bind (Frat_Round k r4.1 r4.2.1 r4.2.2.1 r4.2.2.2.1) fun r5 =>
      (some (r5.1, r5.2))
    else
    if ((w0 == (3 : Int)) = true) then
      Option.bind (Fwave_pwl k w0 w1 w2 step) fun r1 =>
      Option.bind (Fbig_NewRat k (1000000000 : Int) (1 : Int)) fun r2 =>
      Option.bind (Fbig_Rat_Mul_wqk k r1.1 r1.2.1 r1.2.2.1 r1.2.2.2 r2.1 r2.2.1 r2.2.2.1 r2.2.2.2) fun r3 =>
      Option.bind (Fwide_Frac_plq k r3.1 r3.2.1 r3.2.2.1 r3.2.2.2.1) fun r4 =>
      Option.bind (Frat_Round k r4.1 r4.2.1 r4.2.2.1 r4.2.2.2.1) fun r5 =>
      (some (r5.1, r5.2))
    else
    if ((((List.length w1) : Nat) : Int) = (0 : Int)) then
      none
    else
    if ((0 : Int) ≤ (Int.tmod step (((List.length w1) : Nat) : Int))) then
      Option.bind (w1)[(Int.toNat (Int.tmod step (((List.length w1) : Nat) : Int)))]? fun x =>
      Option.bind (Fwave_value k x.1 x.2) fun r1 =>
      Option.bind (Fbig_NewRat k (1000000000 : Int) (1 : Int)) fun r2 =>
      Option.bind (Fbig_Rat_Mul_wqk k r1.1 r1.2.1 r1.2.2.1 r1.2.2.2 r2.1 r2.2.1 r2.2.2.1 r2.2.2.2) fun r3 =>
      Option.bind (Fwide_Frac_plq k r3.1 r3.2.1 r3.2.2.1 r3.2.2.2.1) fun r4 =>
      Option.bind (Frat_Round k r4.1 r4.2.1 r4.2.2.1 r4.2.2.2.1) fun r5 =>
      (some (r5.1, r5.2))
    else
    none
  else
  (some ((0 : Int), (4 : Int)))
def Fwave_At : Nat → Int → List (Int × Int) → List Int → Int → Option (Int × Int)
  | 0, _, _, _, _ => none
  | k + 1, w0, w1, w2, step => bwave_At k w0 w1 w2 step
def shwave_At : FS := { vs := [.g [.lf (.int .i64), .lf (.sl (.pr (.int .i64) (.int .i64))), .lf (.sl (.int .i64))], .a (.lf (.int .i64))], bs := [] }
def rswave_At : List FS := [{ vs := [.a (.lf (.int .i64)), .a (.lf (.int .i64))], bs := [] }]
def Iwave_At (k : Nat) : Inst := ⟨19, shwave_At, rswave_At, fun x => Fwave_At k x.1 x.2.1 x.2.2.1 x.2.2.2⟩
theorem alwave_At (k : Nat) : AllI (call cf k) [Iwave_Valid k, Iwave_value k, Ibig_NewRat k, Ibig_Rat_Mul_wqk k, Iwide_Frac_plq k, Irat_Round k, Iwave_pulse k, Iwave_pwl k] := And.intro (okwave_Valid k) (And.intro (okwave_value k) (And.intro (okbig_NewRat k) (And.intro (okbig_Rat_Mul_wqk k) (And.intro (okwide_Frac_plq k) (And.intro (okrat_Round k) (And.intro (okwave_pulse k) (And.intro (okwave_pwl k) (True.intro))))))))
theorem anwave_At (k : Nat) : LAll (LOk (R := DS FS.D rswave_At) (fun b _ σ K => LOt Ty (kps 19) 0 b σ K []) cf (call cf k) (cf.keep 19) Try.f19.ntmps k shwave_At.bs.length) 0 (bd Try.f19) :=
  And.intro (True.intro) (And.intro (And.intro (True.intro) (And.intro (And.intro (True.intro) (True.intro)) (True.intro))) (And.intro (And.intro (True.intro) (And.intro (And.intro (True.intro) (True.intro)) (True.intro))) (And.intro (True.intro) (And.intro (And.intro (True.intro) (And.intro (True.intro) (And.intro (True.intro) (And.intro (True.intro) (And.intro (True.intro) (And.intro (True.intro) (And.intro (True.intro) (True.intro)))))))) (And.intro (True.intro) (And.intro (True.intro) (True.intro)))))))
theorem stwave_At (k : Nat) (x : shwave_At.D) : Fwave_At (k + 1) x.1 x.2.1 x.2.2.1 x.2.2.2 = body2 cf (fun f a b K => COt f a b K [Iwave_Valid k, Iwave_value k, Ibig_NewRat k, Ibig_Rat_Mul_wqk k, Iwide_Frac_plq k, Irat_Round k, Iwave_pulse k, Iwave_pwl k]) (fun b _ σ K => LOt Ty (kps 19) 0 b σ K []) 19 Try.f19.ntmps Try.f19.results.toList (bd Try.f19) (shwave_At.enc x).1 (shwave_At.enc x).2 (putS FS.dec rswave_At) := by kernel_rfl
theorem okwave_At : ∀ k, InstOk (call cf k) (Iwave_At k)
  | 0 => fun x y e => absurd (show (none : Option _) = some y from e) (by simp)
  | k + 1 => inst_ok (c := cf) (k := k) (f := 19) (fn := Try.f19) (body := bd Try.f19) (sh := shwave_At) (os := rswave_At) rfl Try.func19 rfl ⟨rfl, Nat.le_of_ble_eq_true rfl⟩ (COt_ok (alwave_At k)) (anwave_At k) (fun x => Fwave_At (k + 1) x.1 x.2.1 x.2.2.1 x.2.2.2) (stwave_At k)

/-! shunt/wave.corners -/
def Lwave_corners_0s (k : Nat) (rec : List Int → Int → Nat → Int → List Int → Option (Nat × List Int)) (s : List Int) (at1 : Int) (l : Nat) (x : Int) (ls : List Int) : Option (Nat × List Int) :=
  if ((decide (x < (2 : Int))) = true) then
    Option.bind (s)[1]? fun x3 =>
    Option.bind (s)[1]? fun x4 =>
    Option.bind (s)[2]? fun x5 =>
    Option.bind (s)[1]? fun x6 =>
    Option.bind (s)[2]? fun x7 =>
    Option.bind (s)[3]? fun x8 =>
    if (l ≤ (List.length ls)) then
      if (((l + (List.length (List.take 4 (at1 :: ((IntKind.wrap .i64 (at1 + x3)) :: ((IntKind.wrap .i64 ((IntKind.wrap .i64 (at1 + x4)) + x5)) :: ((IntKind.wrap .i64 ((IntKind.wrap .i64 ((IntKind.wrap .i64 (at1 + x6)) + x7)) + x8)) :: []))))))) * 8) ≤ 140737488355328) then
        Option.bind (s)[4]? fun x9 =>
        rec s (IntKind.wrap .i64 (at1 + x9)) (l + (List.length (List.take 4 (at1 :: ((IntKind.wrap .i64 (at1 + x3)) :: ((IntKind.wrap .i64 ((IntKind.wrap .i64 (at1 + x4)) + x5)) :: ((IntKind.wrap .i64 ((IntKind.wrap .i64 ((IntKind.wrap .i64 (at1 + x6)) + x7)) + x8)) :: []))))))) (IntKind.wrap .i64 (x + (1 : Int))) ((List.take l ls) ++ (List.take 4 (at1 :: ((IntKind.wrap .i64 (at1 + x3)) :: ((IntKind.wrap .i64 ((IntKind.wrap .i64 (at1 + x4)) + x5)) :: ((IntKind.wrap .i64 ((IntKind.wrap .i64 ((IntKind.wrap .i64 (at1 + x6)) + x7)) + x8)) :: []))))))
      else
      none
    else
    none
  else
  (some (l, ls))
def Lwave_corners_0 (k n : Nat) : List Int → Int → Nat → Int → List Int → Option (Nat × List Int) := Nat.rec (fun _ _ _ _ _ => none) (fun _ r => Lwave_corners_0s k r) n
def bwave_corners (k : Nat) (w0 : Int) (w1 : List (Int × Int)) (w2 : List Int) (step : Int) : Option (List Int) :=
  Option.bind (w2)[0]? fun x =>
  if ((decide (step > x)) = true) then
    Option.bind (w2)[4]? fun x1 =>
    if (x1 = (0 : Int)) then
      none
    else
    Option.bind (w2)[4]? fun x2 =>
    Option.bind (Lwave_corners_0 k k w2 (IntKind.wrap .i64 (x + (IntKind.wrap .i64 ((IntKind.wrap .i64 (Int.tdiv (IntKind.wrap .i64 (step - x)) x1)) * x2)))) 0 (0 : Int) []) fun r2 =>
    if ((0 + r2.1) ≤ (List.length r2.2)) then
      (some (List.take r2.1 r2.2))
    else
    none
  else
  Option.bind (Lwave_corners_0 k k w2 x 0 (0 : Int) []) fun r2 =>
  if ((0 + r2.1) ≤ (List.length r2.2)) then
    (some (List.take r2.1 r2.2))
  else
  none
def Fwave_corners : Nat → Int → List (Int × Int) → List Int → Int → Option (List Int)
  | 0, _, _, _, _ => none
  | k + 1, w0, w1, w2, step => bwave_corners k w0 w1 w2 step
def shwave_corners : FS := { vs := [.g [.lf (.int .i64), .lf (.sl (.pr (.int .i64) (.int .i64))), .lf (.sl (.int .i64))], .a (.lf (.int .i64))], bs := [] }
def rswave_corners : List FS := [{ vs := [.a (.lf (.sl (.int .i64)))], bs := [] }]
def Iwave_corners (k : Nat) : Inst := ⟨50, shwave_corners, rswave_corners, fun x => Fwave_corners k x.1 x.2.1 x.2.2.1 x.2.2.2⟩
theorem alwave_corners (k : Nat) : AllI (call cf k) [] := True.intro
def hswave_corners_0 : List SS := [{ fr := [(5, .a (.lf (.sl (.int .i64)))), (6, .a (.lf (.int .i64))), (7, .a (.smz 0)), (29, .a (.lf (.int .i64)))], mem := [(0, some (.arr (.int .i64) 1 3 false))], nx := 1 }]
def oswave_corners_0 : List OS := [⟨some 0, { fr := [(7, .a (.smz 0))], mem := [(0, some (.arr (.int .i64) 1 3 false))], nx := 1 }⟩]
def LIwave_corners_0 (k : Nat) : LInst := ⟨0, hswave_corners_0, oswave_corners_0, fun x => Lwave_corners_0 k k x.1 x.2.1 x.2.2.1 x.2.2.2.1 x.2.2.2.2⟩
theorem anwave_corners_0 (k : Nat) : LAll (LOk (R := DS OS.D oswave_corners_0) (fun b _ σ K => LOt Ty (kps 50) 0 b σ K []) cf (call cf k) (kps 50) Try.f50.ntmps k 0) 0 (lb Try.f50 0) :=
  And.intro (True.intro) (And.intro (And.intro (True.intro) (True.intro)) (And.intro (And.intro (True.intro) (True.intro)) (True.intro)))
theorem stwave_corners_0 (k n : Nat) (x : DS SS.D hswave_corners_0) : Lwave_corners_0 k (n + 1) x.1 x.2.1 x.2.2.1 x.2.2.2.1 x.2.2.2.2 = encSK SS.enc (fun σ => run2 cf (fun f a b K => COt f a b K []) (fun b _ σ K => LOt Ty (kps 50) 0 b σ K []) Try.f50.ntmps 0 (lb Try.f50 0) σ (nextK Ty (kps 50 0) 0 hswave_corners_0 oswave_corners_0 fun x => Lwave_corners_0 k n x.1 x.2.1 x.2.2.1 x.2.2.2.1 x.2.2.2.2)) hswave_corners_0 x := by kernel_rfl
theorem lowave_corners_0 (k : Nat) : LIOk cf (call cf k) (kps 50) Try.f50.ntmps k 0 0 (lb Try.f50 0) (LIwave_corners_0 k) :=
  loop_ok (c := cf) (callF := call cf k) (kp := kps 50) (nt := Try.f50.ntmps) (k := k) (p := 0) (b := 0) (x0 := lb Try.f50 0) (hs := hswave_corners_0) (os := oswave_corners_0) (COt_ok (alwave_corners k)) (anwave_corners_0 k) (fun n x => Lwave_corners_0 k n x.1 x.2.1 x.2.2.1 x.2.2.2.1 x.2.2.2.2) (fun _ => rfl) (stwave_corners_0 k)
theorem anwave_corners (k : Nat) : LAll (LOk (R := DS FS.D rswave_corners) (fun b _ σ K => LOt Ty (kps 50) 0 b σ K [LIwave_corners_0 k]) cf (call cf k) (cf.keep 50) Try.f50.ntmps k shwave_corners.bs.length) 0 (bd Try.f50) :=
  And.intro (True.intro) (And.intro (True.intro) (And.intro (True.intro) (And.intro (And.intro (True.intro) (And.intro (True.intro) (True.intro))) (And.intro (True.intro) (And.intro (And.intro (True.intro) (LOt_ok (c := cf) (callF := call cf k) (kp := kps 50) (nt := Try.f50.ntmps) (k := k) (p := 0) (b := 0) (x0 := lb Try.f50 0) (l := [LIwave_corners_0 k]) (And.intro (fun _ => lowave_corners_0 k) (True.intro)))) (And.intro (True.intro) (True.intro)))))))
theorem stwave_corners (k : Nat) (x : shwave_corners.D) : Fwave_corners (k + 1) x.1 x.2.1 x.2.2.1 x.2.2.2 = body2 cf (fun f a b K => COt f a b K []) (fun b _ σ K => LOt Ty (kps 50) 0 b σ K [LIwave_corners_0 k]) 50 Try.f50.ntmps Try.f50.results.toList (bd Try.f50) (shwave_corners.enc x).1 (shwave_corners.enc x).2 (putS FS.dec rswave_corners) := by kernel_rfl
theorem okwave_corners : ∀ k, InstOk (call cf k) (Iwave_corners k)
  | 0 => fun x y e => absurd (show (none : Option _) = some y from e) (by simp)
  | k + 1 => inst_ok (c := cf) (k := k) (f := 50) (fn := Try.f50) (body := bd Try.f50) (sh := shwave_corners) (os := rswave_corners) rfl Try.func50 rfl ⟨rfl, Nat.le_of_ble_eq_true rfl⟩ (COt_ok (alwave_corners k)) (anwave_corners k) (fun x => Fwave_corners (k + 1) x.1 x.2.1 x.2.2.1 x.2.2.2) (stwave_corners k)

/-! shunt/wave.Next -/
def Lwave_Next_1s (k : Nat) (rec : Int → List Int → Int → Int → Option ((Int × Bool) ⊕ (Unit))) (step : Int) (x : List Int) (x1 : Int) (x2 : Int) : Option ((Int × Bool) ⊕ (Unit)) :=
  if ((decide (x2 < x1)) = true) then
    if ((0 : Int) ≤ x2) then
      Option.bind (x)[(Int.toNat x2)]? fun x3 =>
      if ((decide (x3 > step)) = true) then
        if ((decide (x3 ≤ (1000000000 : Int))) = true) then
          (some (Sum.inl (x3, true)))
        else
        rec step x x1 (IntKind.wrap .i64 (x2 + (1 : Int)))
      else
      rec step x x1 (IntKind.wrap .i64 (x2 + (1 : Int)))
    else
    none
  else
  (some (Sum.inr ()))
def Lwave_Next_1 (k n : Nat) : Int → List Int → Int → Int → Option ((Int × Bool) ⊕ (Unit)) := Nat.rec (fun _ _ _ _ => none) (fun _ r => Lwave_Next_1s k r) n
def Lwave_Next_1as (k : Nat) (rec : Int → Nat → Int → Int → List Int → Option ((Int × Bool × List Int) ⊕ (List Int))) (step : Int) (x : Nat) (x1 : Int) (x2 : Int) (s : List Int) : Option ((Int × Bool × List Int) ⊕ (List Int)) :=
  if ((decide (x2 < x1)) = true) then
    if (((0 : Int) ≤ x2) ∧ (x2 < ((x : Nat) : Int))) then
      Option.bind (s)[(0 + (Int.toNat x2))]? fun x3 =>
      if ((decide (x3 > step)) = true) then
        if ((decide (x3 ≤ (1000000000 : Int))) = true) then
          (some (Sum.inl (x3, true, s)))
        else
        rec step x x1 (IntKind.wrap .i64 (x2 + (1 : Int))) s
      else
      rec step x x1 (IntKind.wrap .i64 (x2 + (1 : Int))) s
    else
    none
  else
  (some (Sum.inr s))
def Lwave_Next_1a (k n : Nat) : Int → Nat → Int → Int → List Int → Option ((Int × Bool × List Int) ⊕ (List Int)) := Nat.rec (fun _ _ _ _ _ => none) (fun _ r => Lwave_Next_1as k r) n
def bwave_Next (k : Nat) (w0 : Int) (w1 : List (Int × Int)) (w2 : List Int) (step : Int) : Option (Int × Bool) :=
  Option.bind (Fwave_Valid k w0 w1 w2) fun r1 =>
  if ((!r1) = false) then
    if ((decide (step < (0 : Int))) = false) then
      if ((decide (step > (1000000000 : Int))) = true) then
        (some ((0 : Int), false))
      else
      if ((w0 == (2 : Int)) = true) then
        Option.bind (Fwave_corners k w0 w1 w2 step) fun r2 =>
        Option.bind (Lwave_Next_1 k k step r2 (((List.length r2) : Nat) : Int) (0 : Int)) fun r3 =>
        eitherK r3
          (fun r3 =>
          (some (r3.1, r3.2)))
          (fun r3 =>
          (some ((0 : Int), false)))
      else
      if ((w0 == (3 : Int)) = true) then
        Option.bind (Lwave_Next_1 k k step w2 (((List.length w2) : Nat) : Int) (0 : Int)) fun r2 =>
        eitherK r2
          (fun r2 =>
          (some (r2.1, r2.2)))
          (fun r2 =>
          (some ((0 : Int), false)))
      else
      if ((w0 == (4 : Int)) = true) then
        Option.bind (Lwave_Next_1a k k step 1 (1 : Int) (0 : Int) ((IntKind.wrap .i64 (step + (1 : Int))) :: [])) fun r2 =>
        eitherK r2
          (fun r2 =>
          (some (r2.1, r2.2.1)))
          (fun r2 =>
          (some ((0 : Int), false)))
      else
      Option.bind (Lwave_Next_1a k k step 0 (0 : Int) (0 : Int) []) fun r2 =>
      eitherK r2
        (fun r2 =>
        (some (r2.1, r2.2.1)))
        (fun r2 =>
        (some ((0 : Int), false)))
    else
    (some ((0 : Int), false))
  else
  (some ((0 : Int), false))
def Fwave_Next : Nat → Int → List (Int × Int) → List Int → Int → Option (Int × Bool)
  | 0, _, _, _, _ => none
  | k + 1, w0, w1, w2, step => bwave_Next k w0 w1 w2 step
def shwave_Next : FS := { vs := [.g [.lf (.int .i64), .lf (.sl (.pr (.int .i64) (.int .i64))), .lf (.sl (.int .i64))], .a (.lf (.int .i64))], bs := [] }
def rswave_Next : List FS := [{ vs := [.a (.lf (.int .i64)), .a (.lf .bool)], bs := [] }]
def Iwave_Next (k : Nat) : Inst := ⟨18, shwave_Next, rswave_Next, fun x => Fwave_Next k x.1 x.2.1 x.2.2.1 x.2.2.2⟩
theorem alwave_Next (k : Nat) : AllI (call cf k) [Iwave_Valid k, Iwave_corners k] := And.intro (okwave_Valid k) (And.intro (okwave_corners k) (True.intro))
def hswave_Next_1 : List SS := [{ fr := [(1, .a (.lf (.int .i64))), (36, .a (.lf (.sl (.int .i64)))), (37, .a (.lf (.int .i64))), (38, .a (.lf (.int .i64)))], mem := [], nx := 0 }]
def oswave_Next_1 : List OS := [⟨none, { fr := [(4, .a (.lf (.int .i64))), (5, .a (.lf .bool))], mem := [], nx := 0 }⟩, ⟨some 1, { fr := [], mem := [], nx := 0 }⟩]
def LIwave_Next_1 (k : Nat) : LInst := ⟨1, hswave_Next_1, oswave_Next_1, fun x => Lwave_Next_1 k k x.1 x.2.1 x.2.2.1 x.2.2.2⟩
theorem anwave_Next_1 (k : Nat) : LAll (LOk (R := DS OS.D oswave_Next_1) (fun b _ σ K => LOt Ty (kps 18) 0 b σ K []) cf (call cf k) (kps 18) Try.f18.ntmps k 0) 1 (lb Try.f18 0) :=
  And.intro (True.intro) (And.intro (And.intro (True.intro) (True.intro)) (And.intro (And.intro (True.intro) (And.intro (True.intro) (And.intro (And.intro (True.intro) (True.intro)) (True.intro)))) (True.intro)))
theorem stwave_Next_1 (k n : Nat) (x : DS SS.D hswave_Next_1) : Lwave_Next_1 k (n + 1) x.1 x.2.1 x.2.2.1 x.2.2.2 = encSK SS.enc (fun σ => run2 cf (fun f a b K => COt f a b K [Iwave_Valid k, Iwave_corners k]) (fun b _ σ K => LOt Ty (kps 18) 0 b σ K []) Try.f18.ntmps 1 (lb Try.f18 0) σ (nextK Ty (kps 18 1) 0 hswave_Next_1 oswave_Next_1 fun x => Lwave_Next_1 k n x.1 x.2.1 x.2.2.1 x.2.2.2)) hswave_Next_1 x := by kernel_rfl
theorem lowave_Next_1 (k : Nat) : LIOk cf (call cf k) (kps 18) Try.f18.ntmps k 0 1 (lb Try.f18 0) (LIwave_Next_1 k) :=
  loop_ok (c := cf) (callF := call cf k) (kp := kps 18) (nt := Try.f18.ntmps) (k := k) (p := 0) (b := 1) (x0 := lb Try.f18 0) (hs := hswave_Next_1) (os := oswave_Next_1) (COt_ok (alwave_Next k)) (anwave_Next_1 k) (fun n x => Lwave_Next_1 k n x.1 x.2.1 x.2.2.1 x.2.2.2) (fun _ => rfl) (stwave_Next_1 k)
def hswave_Next_1a : List SS := [{ fr := [(1, .a (.lf (.int .i64))), (36, .a (.smz 0)), (37, .a (.lf (.int .i64))), (38, .a (.lf (.int .i64)))], mem := [(0, some (.arr (.int .i64) 1 3 false))], nx := 1 }]
def oswave_Next_1a : List OS := [⟨none, { fr := [(4, .a (.lf (.int .i64))), (5, .a (.lf .bool))], mem := [(0, some (.arr (.int .i64) 1 3 false))], nx := 1 }⟩, ⟨some 1, { fr := [], mem := [(0, some (.arr (.int .i64) 1 3 false))], nx := 1 }⟩]
def LIwave_Next_1a (k : Nat) : LInst := ⟨1, hswave_Next_1a, oswave_Next_1a, fun x => Lwave_Next_1a k k x.1 x.2.1 x.2.2.1 x.2.2.2.1 x.2.2.2.2⟩
theorem anwave_Next_1a (k : Nat) : LAll (LOk (R := DS OS.D oswave_Next_1a) (fun b _ σ K => LOt Ty (kps 18) 0 b σ K [LIwave_Next_1 k]) cf (call cf k) (kps 18) Try.f18.ntmps k 0) 1 (lb Try.f18 0) :=
  And.intro (True.intro) (And.intro (And.intro (True.intro) (True.intro)) (And.intro (And.intro (True.intro) (And.intro (True.intro) (And.intro (And.intro (True.intro) (True.intro)) (True.intro)))) (True.intro)))
theorem stwave_Next_1a (k n : Nat) (x : DS SS.D hswave_Next_1a) : Lwave_Next_1a k (n + 1) x.1 x.2.1 x.2.2.1 x.2.2.2.1 x.2.2.2.2 = encSK SS.enc (fun σ => run2 cf (fun f a b K => COt f a b K [Iwave_Valid k, Iwave_corners k]) (fun b _ σ K => LOt Ty (kps 18) 0 b σ K [LIwave_Next_1 k]) Try.f18.ntmps 1 (lb Try.f18 0) σ (nextK Ty (kps 18 1) 0 hswave_Next_1a oswave_Next_1a fun x => Lwave_Next_1a k n x.1 x.2.1 x.2.2.1 x.2.2.2.1 x.2.2.2.2)) hswave_Next_1a x := by kernel_rfl
theorem lowave_Next_1a (k : Nat) : LIOk cf (call cf k) (kps 18) Try.f18.ntmps k 0 1 (lb Try.f18 0) (LIwave_Next_1a k) :=
  loop_ok (c := cf) (callF := call cf k) (kp := kps 18) (nt := Try.f18.ntmps) (k := k) (p := 0) (b := 1) (x0 := lb Try.f18 0) (hs := hswave_Next_1a) (os := oswave_Next_1a) (COt_ok (alwave_Next k)) (anwave_Next_1a k) (fun n x => Lwave_Next_1a k n x.1 x.2.1 x.2.2.1 x.2.2.2.1 x.2.2.2.2) (fun _ => rfl) (stwave_Next_1a k)
theorem anwave_Next (k : Nat) : LAll (LOk (R := DS FS.D rswave_Next) (fun b _ σ K => LOt Ty (kps 18) 0 b σ K [LIwave_Next_1 k, LIwave_Next_1a k]) cf (call cf k) (cf.keep 18) Try.f18.ntmps k shwave_Next.bs.length) 0 (bd Try.f18) :=
  And.intro (True.intro) (And.intro (And.intro (True.intro) (And.intro (And.intro (True.intro) (True.intro)) (True.intro))) (And.intro (True.intro) (And.intro (And.intro (True.intro) (And.intro (True.intro) (And.intro (True.intro) (And.intro (True.intro) (And.intro (True.intro) (And.intro (True.intro) (And.intro (True.intro) (True.intro)))))))) (And.intro (And.intro (True.intro) (LOt_ok (c := cf) (callF := call cf k) (kp := kps 18) (nt := Try.f18.ntmps) (k := k) (p := 0) (b := 1) (x0 := lb Try.f18 0) (l := [LIwave_Next_1 k, LIwave_Next_1a k]) (And.intro (fun _ => lowave_Next_1 k) (And.intro (fun _ => lowave_Next_1a k) (True.intro))))) (And.intro (True.intro) (True.intro))))))
theorem stwave_Next (k : Nat) (x : shwave_Next.D) : Fwave_Next (k + 1) x.1 x.2.1 x.2.2.1 x.2.2.2 = body2 cf (fun f a b K => COt f a b K [Iwave_Valid k, Iwave_corners k]) (fun b _ σ K => LOt Ty (kps 18) 0 b σ K [LIwave_Next_1 k, LIwave_Next_1a k]) 18 Try.f18.ntmps Try.f18.results.toList (bd Try.f18) (shwave_Next.enc x).1 (shwave_Next.enc x).2 (putS FS.dec rswave_Next) := by kernel_rfl
theorem okwave_Next : ∀ k, InstOk (call cf k) (Iwave_Next k)
  | 0 => fun x y e => absurd (show (none : Option _) = some y from e) (by simp)
  | k + 1 => inst_ok (c := cf) (k := k) (f := 18) (fn := Try.f18) (body := bd Try.f18) (sh := shwave_Next) (os := rswave_Next) rfl Try.func18 rfl ⟨rfl, Nat.le_of_ble_eq_true rfl⟩ (COt_ok (alwave_Next k)) (anwave_Next k) (fun x => Fwave_Next (k + 1) x.1 x.2.1 x.2.2.1 x.2.2.2) (stwave_Next k)

/-! shunt/shuntlaw04.awake -/
def bshuntlaw04_awake (k : Nat) : Option (Bool) :=
  Option.bind (Fwave_At k (3 : Int) (List.take 2 (((0 : Int), (0 : Int)) :: (((1 : Int), (0 : Int)) :: []))) (List.take 2 ((1 : Int) :: ((4 : Int) :: []))) (2 : Int)) fun r =>
  Option.bind (Fwave_Next k (3 : Int) (List.take 2 (((0 : Int), (0 : Int)) :: (((1 : Int), (0 : Int)) :: []))) (List.take 2 ((1 : Int) :: ((4 : Int) :: []))) (1 : Int)) fun r1 =>
  if ((r.2 == (0 : Int)) = true) then
    if ((r.1 == (333333333 : Int)) = true) then
      if (r1.2 = true) then
        if ((r1.1 == (4 : Int)) = true) then
          Option.bind (Fwave_Valid k (3 : Int) (List.take 2 (((0 : Int), (0 : Int)) :: (((1 : Int), (0 : Int)) :: []))) (List.take 2 ((1 : Int) :: ((4 : Int) :: [])))) fun r2 =>
          if (r2 = true) then
            Option.bind (Fwave_Valid k (0 : Int) [] []) fun r3 =>
            (some (!r3))
          else
          (some false)
        else
        (some false)
      else
      (some false)
    else
    (some false)
  else
  (some false)
def Fshuntlaw04_awake : Nat → Option (Bool)
  | 0 => none
  | k + 1 => bshuntlaw04_awake k
def shshuntlaw04_awake : FS := { vs := [], bs := [] }
def rsshuntlaw04_awake : List FS := [{ vs := [.a (.lf .bool)], bs := [] }]
def Ishuntlaw04_awake (k : Nat) : Inst := ⟨16, shshuntlaw04_awake, rsshuntlaw04_awake, fun x => Fshuntlaw04_awake k⟩
theorem alshuntlaw04_awake (k : Nat) : AllI (call cf k) [Iwave_At k, Iwave_Next k, Iwave_Valid k] := And.intro (okwave_At k) (And.intro (okwave_Next k) (And.intro (okwave_Valid k) (True.intro)))
theorem anshuntlaw04_awake (k : Nat) : LAll (LOk (R := DS FS.D rsshuntlaw04_awake) (fun b _ σ K => LOt Ty (kps 16) 0 b σ K []) cf (call cf k) (cf.keep 16) Try.f16.ntmps k shshuntlaw04_awake.bs.length) 0 (bd Try.f16) :=
  And.intro (True.intro) (And.intro (True.intro) (And.intro (True.intro) (And.intro (True.intro) (And.intro (True.intro) (True.intro)))))
theorem stshuntlaw04_awake (k : Nat) (x : shshuntlaw04_awake.D) : Fshuntlaw04_awake (k + 1) = body2 cf (fun f a b K => COt f a b K [Iwave_At k, Iwave_Next k, Iwave_Valid k]) (fun b _ σ K => LOt Ty (kps 16) 0 b σ K []) 16 Try.f16.ntmps Try.f16.results.toList (bd Try.f16) (shshuntlaw04_awake.enc x).1 (shshuntlaw04_awake.enc x).2 (putS FS.dec rsshuntlaw04_awake) := by kernel_rfl
theorem okshuntlaw04_awake : ∀ k, InstOk (call cf k) (Ishuntlaw04_awake k)
  | 0 => fun x y e => absurd (show (none : Option _) = some y from e) (by simp)
  | k + 1 => inst_ok (c := cf) (k := k) (f := 16) (fn := Try.f16) (body := bd Try.f16) (sh := shshuntlaw04_awake) (os := rsshuntlaw04_awake) rfl Try.func16 rfl ⟨rfl, Nat.le_of_ble_eq_true rfl⟩ (COt_ok (alshuntlaw04_awake k)) (anshuntlaw04_awake k) (fun x => Fshuntlaw04_awake (k + 1)) (stshuntlaw04_awake k)

/-! shunt/shuntref03.Valid -/
def bshuntref03_Valid (k : Nat) (n0 : Int) (n1 : Int) : Option (Bool) :=
  if ((n0 == (0 : Int)) = false) then
    if (((Int.tmod n0 (10 : Int)) == (0 : Int)) = true) then
      if ((n0 == (0 : Int)) = true) then
        (some (n1 == (0 : Int)))
      else
      (some false)
    else
    if ((decide (n0 ≤ (999999999 : Int))) = true) then
      if ((decide (n0 ≥ (-(999999999 : Int)))) = true) then
        if ((decide (n1 ≤ (9 : Int))) = true) then
          (some (decide (n1 ≥ (-(18 : Int)))))
        else
        (some false)
      else
      (some false)
    else
    (some false)
  else
  if ((n0 == (0 : Int)) = true) then
    (some (n1 == (0 : Int)))
  else
  (some false)
def Fshuntref03_Valid : Nat → Int → Int → Option (Bool)
  | 0, _, _ => none
  | k + 1, n0, n1 => bshuntref03_Valid k n0 n1
def shshuntref03_Valid : FS := { vs := [.g [.lf (.int .i64), .lf (.int .i64)]], bs := [] }
def rsshuntref03_Valid : List FS := [{ vs := [.a (.lf .bool)], bs := [] }]
def Ishuntref03_Valid (k : Nat) : Inst := ⟨23, shshuntref03_Valid, rsshuntref03_Valid, fun x => Fshuntref03_Valid k x.1 x.2⟩
theorem alshuntref03_Valid (k : Nat) : AllI (call cf k) [] := True.intro
theorem anshuntref03_Valid (k : Nat) : LAll (LOk (R := DS FS.D rsshuntref03_Valid) (fun b _ σ K => LOt Ty (kps 23) 0 b σ K []) cf (call cf k) (cf.keep 23) Try.f23.ntmps k shshuntref03_Valid.bs.length) 0 (bd Try.f23) :=
  And.intro (True.intro) (And.intro (And.intro (True.intro) (And.intro (And.intro (True.intro) (True.intro)) (True.intro))) (And.intro (True.intro) (True.intro)))
theorem stshuntref03_Valid (k : Nat) (x : shshuntref03_Valid.D) : Fshuntref03_Valid (k + 1) x.1 x.2 = body2 cf (fun f a b K => COt f a b K []) (fun b _ σ K => LOt Ty (kps 23) 0 b σ K []) 23 Try.f23.ntmps Try.f23.results.toList (bd Try.f23) (shshuntref03_Valid.enc x).1 (shshuntref03_Valid.enc x).2 (putS FS.dec rsshuntref03_Valid) := by kernel_rfl
theorem okshuntref03_Valid : ∀ k, InstOk (call cf k) (Ishuntref03_Valid k)
  | 0 => fun x y e => absurd (show (none : Option _) = some y from e) (by simp)
  | k + 1 => inst_ok (c := cf) (k := k) (f := 23) (fn := Try.f23) (body := bd Try.f23) (sh := shshuntref03_Valid) (os := rsshuntref03_Valid) rfl Try.func23 rfl ⟨rfl, Nat.le_of_ble_eq_true rfl⟩ (COt_ok (alshuntref03_Valid k)) (anshuntref03_Valid k) (fun x => Fshuntref03_Valid (k + 1) x.1 x.2) (stshuntref03_Valid k)

/-! shunt/shuntref04.rising -/
def Lshuntref04_rising_0s (k : Nat) (rec : List Int → Int → Option ((Bool) ⊕ (Unit))) (l : List Int) (i : Int) : Option ((Bool) ⊕ (Unit)) :=
  if ((decide (i < (((List.length l) : Nat) : Int))) = true) then
    if ((0 : Int) ≤ (IntKind.wrap .i64 (i - (1 : Int)))) then
      Option.bind (l)[(Int.toNat (IntKind.wrap .i64 (i - (1 : Int))))]? fun x =>
      if ((0 : Int) ≤ i) then
        Option.bind (l)[(Int.toNat i)]? fun x1 =>
        if ((decide (x ≥ x1)) = true) then
          (some (Sum.inl false))
        else
        rec l (IntKind.wrap .i64 (i + (1 : Int)))
      else
      none
    else
    none
  else
  (some (Sum.inr ()))
def Lshuntref04_rising_0 (k n : Nat) : List Int → Int → Option ((Bool) ⊕ (Unit)) := Nat.rec (fun _ _ => none) (fun _ r => Lshuntref04_rising_0s k r) n
def bshuntref04_rising (k : Nat) (l : List Int) : Option (Bool) :=
  Option.bind (Lshuntref04_rising_0 k k l (1 : Int)) fun r3 =>
  eitherK r3
    (fun r3 =>
    (some r3))
    (fun r3 =>
    (some true))
def Fshuntref04_rising : Nat → List Int → Option (Bool)
  | 0, _ => none
  | k + 1, l => bshuntref04_rising k l
def shshuntref04_rising : FS := { vs := [.a (.lf (.sl (.int .i64)))], bs := [] }
def rsshuntref04_rising : List FS := [{ vs := [.a (.lf .bool)], bs := [] }]
def Ishuntref04_rising (k : Nat) : Inst := ⟨49, shshuntref04_rising, rsshuntref04_rising, fun x => Fshuntref04_rising k x⟩
theorem alshuntref04_rising (k : Nat) : AllI (call cf k) [] := True.intro
def hsshuntref04_rising_0 : List SS := [{ fr := [(0, .a (.lf (.sl (.int .i64)))), (3, .a (.lf (.int .i64)))], mem := [], nx := 0 }]
def osshuntref04_rising_0 : List OS := [⟨none, { fr := [(2, .a (.lf .bool))], mem := [], nx := 0 }⟩, ⟨some 0, { fr := [], mem := [], nx := 0 }⟩]
def LIshuntref04_rising_0 (k : Nat) : LInst := ⟨0, hsshuntref04_rising_0, osshuntref04_rising_0, fun x => Lshuntref04_rising_0 k k x.1 x.2⟩
theorem anshuntref04_rising_0 (k : Nat) : LAll (LOk (R := DS OS.D osshuntref04_rising_0) (fun b _ σ K => LOt Ty (kps 49) 0 b σ K []) cf (call cf k) (kps 49) Try.f49.ntmps k 0) 0 (lb Try.f49 0) :=
  And.intro (And.intro (True.intro) (And.intro (True.intro) (True.intro))) (And.intro (And.intro (True.intro) (And.intro (And.intro (True.intro) (True.intro)) (True.intro))) (True.intro))
theorem stshuntref04_rising_0 (k n : Nat) (x : DS SS.D hsshuntref04_rising_0) : Lshuntref04_rising_0 k (n + 1) x.1 x.2 = encSK SS.enc (fun σ => run2 cf (fun f a b K => COt f a b K []) (fun b _ σ K => LOt Ty (kps 49) 0 b σ K []) Try.f49.ntmps 0 (lb Try.f49 0) σ (nextK Ty (kps 49 0) 0 hsshuntref04_rising_0 osshuntref04_rising_0 fun x => Lshuntref04_rising_0 k n x.1 x.2)) hsshuntref04_rising_0 x := by kernel_rfl
theorem loshuntref04_rising_0 (k : Nat) : LIOk cf (call cf k) (kps 49) Try.f49.ntmps k 0 0 (lb Try.f49 0) (LIshuntref04_rising_0 k) :=
  loop_ok (c := cf) (callF := call cf k) (kp := kps 49) (nt := Try.f49.ntmps) (k := k) (p := 0) (b := 0) (x0 := lb Try.f49 0) (hs := hsshuntref04_rising_0) (os := osshuntref04_rising_0) (COt_ok (alshuntref04_rising k)) (anshuntref04_rising_0 k) (fun n x => Lshuntref04_rising_0 k n x.1 x.2) (fun _ => rfl) (stshuntref04_rising_0 k)
theorem anshuntref04_rising (k : Nat) : LAll (LOk (R := DS FS.D rsshuntref04_rising) (fun b _ σ K => LOt Ty (kps 49) 0 b σ K [LIshuntref04_rising_0 k]) cf (call cf k) (cf.keep 49) Try.f49.ntmps k shshuntref04_rising.bs.length) 0 (bd Try.f49) :=
  And.intro (True.intro) (And.intro (And.intro (True.intro) (LOt_ok (c := cf) (callF := call cf k) (kp := kps 49) (nt := Try.f49.ntmps) (k := k) (p := 0) (b := 0) (x0 := lb Try.f49 0) (l := [LIshuntref04_rising_0 k]) (And.intro (fun _ => loshuntref04_rising_0 k) (True.intro)))) (And.intro (True.intro) (True.intro)))
theorem stshuntref04_rising (k : Nat) (x : shshuntref04_rising.D) : Fshuntref04_rising (k + 1) x = body2 cf (fun f a b K => COt f a b K []) (fun b _ σ K => LOt Ty (kps 49) 0 b σ K [LIshuntref04_rising_0 k]) 49 Try.f49.ntmps Try.f49.results.toList (bd Try.f49) (shshuntref04_rising.enc x).1 (shshuntref04_rising.enc x).2 (putS FS.dec rsshuntref04_rising) := by kernel_rfl
theorem okshuntref04_rising : ∀ k, InstOk (call cf k) (Ishuntref04_rising k)
  | 0 => fun x y e => absurd (show (none : Option _) = some y from e) (by simp)
  | k + 1 => inst_ok (c := cf) (k := k) (f := 49) (fn := Try.f49) (body := bd Try.f49) (sh := shshuntref04_rising) (os := rsshuntref04_rising) rfl Try.func49 rfl ⟨rfl, Nat.le_of_ble_eq_true rfl⟩ (COt_ok (alshuntref04_rising k)) (anshuntref04_rising k) (fun x => Fshuntref04_rising (k + 1) x) (stshuntref04_rising k)

/-! shunt/shuntref04.Valid -/
def Lshuntref04_Valid_0s (k : Nat) (rec : Int → Int → List (Int × Int) → List Int → Option ((Bool × Int × List (Int × Int) × List Int) ⊕ (Int × List (Int × Int) × List Int))) (i : Int) (w0 : Int) (w1 : List (Int × Int)) (w2 : List Int) : Option ((Bool × Int × List (Int × Int) × List Int) ⊕ (Int × List (Int × Int) × List Int)) :=
  if ((decide (i < (((List.length w1) : Nat) : Int))) = true) then
    if ((0 : Int) ≤ i) then
      Option.bind (w1)[(Int.toNat i)]? fun x =>
      Option.bind (Fshuntref03_Valid k x.1 x.2) fun r1 =>
      if ((!r1) = true) then
        (some (Sum.inl (false, w0, w1, w2)))
      else
      rec (IntKind.wrap .i64 (i + (1 : Int))) w0 w1 w2
    else
    none
  else
  (some (Sum.inr (w0, w1, w2)))
def Lshuntref04_Valid_0 (k n : Nat) : Int → Int → List (Int × Int) → List Int → Option ((Bool × Int × List (Int × Int) × List Int) ⊕ (Int × List (Int × Int) × List Int)) := Nat.rec (fun _ _ _ _ => none) (fun _ r => Lshuntref04_Valid_0s k r) n
def Lshuntref04_Valid_2s (k : Nat) (rec : Int → Int → List (Int × Int) → List Int → Option ((Bool × Int × List (Int × Int) × List Int) ⊕ (Int × List (Int × Int) × List Int))) (i : Int) (w0 : Int) (w1 : List (Int × Int)) (w2 : List Int) : Option ((Bool × Int × List (Int × Int) × List Int) ⊕ (Int × List (Int × Int) × List Int)) :=
  if ((decide (i < (((List.length w2) : Nat) : Int))) = true) then
    if ((0 : Int) ≤ i) then
      Option.bind (w2)[(Int.toNat i)]? fun x =>
      if ((decide (x < (0 : Int))) = false) then
        if ((0 : Int) ≤ i) then
          Option.bind (w2)[(Int.toNat i)]? fun x1 =>
          if ((decide (x1 > (1000000000 : Int))) = true) then
            (some (Sum.inl (false, w0, w1, w2)))
          else
          rec (IntKind.wrap .i64 (i + (1 : Int))) w0 w1 w2
        else
        none
      else
      (some (Sum.inl (false, w0, w1, w2)))
    else
    none
  else
  (some (Sum.inr (w0, w1, w2)))
def Lshuntref04_Valid_2 (k n : Nat) : Int → Int → List (Int × Int) → List Int → Option ((Bool × Int × List (Int × Int) × List Int) ⊕ (Int × List (Int × Int) × List Int)) := Nat.rec (fun _ _ _ _ => none) (fun _ r => Lshuntref04_Valid_2s k r) n
def bshuntref04_Valid (k : Nat) (w0 : Int) (w1 : List (Int × Int)) (w2 : List Int) : Option (Bool) :=
  Option.bind (Lshuntref04_Valid_0 k k (0 : Int) w0 w1 w2) fun r1 =>
  eitherK r1
    (fun r1 =>
    (some r1.1))
    (fun r1 =>
    Option.bind (Lshuntref04_Valid_2 k k (0 : Int) r1.1 r1.2.1 r1.2.2) fun r2 =>
    eitherK r2
      (fun r2 =>
      (some r2.1))
      (fun r2 =>
      if ((r2.1 == (1 : Int)) = true) then
        if (((((List.length r2.2.1) : Nat) : Int) == (1 : Int)) = true) then
          (some ((((List.length r2.2.2) : Nat) : Int) == (0 : Int)))
        else
        (some false)
      else
      if ((r2.1 == (2 : Int)) = true) then
        if (((((List.length r2.2.1) : Nat) : Int) == (2 : Int)) = true) then
          if (((((List.length r2.2.2) : Nat) : Int) == (5 : Int)) = true) then
            Option.bind (r2.2.2)[4]? fun x =>
            if ((decide (x > (0 : Int))) = true) then
              Option.bind (r2.2.2)[1]? fun x1 =>
              Option.bind (r2.2.2)[2]? fun x2 =>
              Option.bind (r2.2.2)[3]? fun x3 =>
              Option.bind (r2.2.2)[4]? fun x4 =>
              (some (decide ((IntKind.wrap .i64 ((IntKind.wrap .i64 (x1 + x2)) + x3)) ≤ x4)))
            else
            (some false)
          else
          (some false)
        else
        (some false)
      else
      if ((r2.1 == (3 : Int)) = true) then
        if (((((List.length r2.2.1) : Nat) : Int) == (((List.length r2.2.2) : Nat) : Int)) = true) then
          if ((decide ((((List.length r2.2.1) : Nat) : Int) ≥ (1 : Int))) = true) then
            if ((decide ((((List.length r2.2.1) : Nat) : Int) ≤ (16 : Int))) = true) then
              Option.bind (Fshuntref04_rising k r2.2.2) fun r3 =>
              (some r3)
            else
            (some false)
          else
          (some false)
        else
        (some false)
      else
      if ((r2.1 == (4 : Int)) = true) then
        if ((decide ((((List.length r2.2.1) : Nat) : Int) ≥ (1 : Int))) = true) then
          if ((decide ((((List.length r2.2.1) : Nat) : Int) ≤ (16 : Int))) = true) then
            (some ((((List.length r2.2.2) : Nat) : Int) == (0 : Int)))
          else
          (some false)
        else
        (some false)
      else
      (some false)))
def Fshuntref04_Valid : Nat → Int → List (Int × Int) → List Int → Option (Bool)
  | 0, _, _, _ => none
  | k + 1, w0, w1, w2 => bshuntref04_Valid k w0 w1 w2
def shshuntref04_Valid : FS := { vs := [.g [.lf (.int .i64), .lf (.sl (.pr (.int .i64) (.int .i64))), .lf (.sl (.int .i64))]], bs := [] }
def rsshuntref04_Valid : List FS := [{ vs := [.a (.lf .bool)], bs := [] }]
def Ishuntref04_Valid (k : Nat) : Inst := ⟨17, shshuntref04_Valid, rsshuntref04_Valid, fun x => Fshuntref04_Valid k x.1 x.2.1 x.2.2⟩
theorem alshuntref04_Valid (k : Nat) : AllI (call cf k) [Ishuntref03_Valid k, Ishuntref04_rising k] := And.intro (okshuntref03_Valid k) (And.intro (okshuntref04_rising k) (True.intro))
def hsshuntref04_Valid_0 : List SS := [{ fr := [(1, .a (.ptr 0 0 0)), (3, .a (.lf (.int .i64)))], mem := [(0, some (.raw [[.lf (.int .i64), .lf (.sl (.pr (.int .i64) (.int .i64))), .lf (.sl (.int .i64))]] 3 40 true false))], nx := 1 }]
def osshuntref04_Valid_0 : List OS := [⟨none, { fr := [(2, .a (.lf .bool))], mem := [(0, some (.raw [[.lf (.int .i64), .lf (.sl (.pr (.int .i64) (.int .i64))), .lf (.sl (.int .i64))]] 3 40 true false))], nx := 1 }⟩, ⟨some 0, { fr := [(1, .a (.ptr 0 0 0))], mem := [(0, some (.raw [[.lf (.int .i64), .lf (.sl (.pr (.int .i64) (.int .i64))), .lf (.sl (.int .i64))]] 3 40 true false))], nx := 1 }⟩]
def LIshuntref04_Valid_0 (k : Nat) : LInst := ⟨0, hsshuntref04_Valid_0, osshuntref04_Valid_0, fun x => Lshuntref04_Valid_0 k k x.1 x.2.1 x.2.2.1 x.2.2.2⟩
theorem anshuntref04_Valid_0 (k : Nat) : LAll (LOk (R := DS OS.D osshuntref04_Valid_0) (fun b _ σ K => LOt Ty (kps 17) 0 b σ K []) cf (call cf k) (kps 17) Try.f17.ntmps k 0) 0 (lb Try.f17 0) :=
  And.intro (And.intro (True.intro) (And.intro (True.intro) (True.intro))) (And.intro (And.intro (True.intro) (And.intro (And.intro (True.intro) (True.intro)) (True.intro))) (True.intro))
theorem stshuntref04_Valid_0 (k n : Nat) (x : DS SS.D hsshuntref04_Valid_0) : Lshuntref04_Valid_0 k (n + 1) x.1 x.2.1 x.2.2.1 x.2.2.2 = encSK SS.enc (fun σ => run2 cf (fun f a b K => COt f a b K [Ishuntref03_Valid k, Ishuntref04_rising k]) (fun b _ σ K => LOt Ty (kps 17) 0 b σ K []) Try.f17.ntmps 0 (lb Try.f17 0) σ (nextK Ty (kps 17 0) 0 hsshuntref04_Valid_0 osshuntref04_Valid_0 fun x => Lshuntref04_Valid_0 k n x.1 x.2.1 x.2.2.1 x.2.2.2)) hsshuntref04_Valid_0 x := by kernel_rfl
theorem loshuntref04_Valid_0 (k : Nat) : LIOk cf (call cf k) (kps 17) Try.f17.ntmps k 0 0 (lb Try.f17 0) (LIshuntref04_Valid_0 k) :=
  loop_ok (c := cf) (callF := call cf k) (kp := kps 17) (nt := Try.f17.ntmps) (k := k) (p := 0) (b := 0) (x0 := lb Try.f17 0) (hs := hsshuntref04_Valid_0) (os := osshuntref04_Valid_0) (COt_ok (alshuntref04_Valid k)) (anshuntref04_Valid_0 k) (fun n x => Lshuntref04_Valid_0 k n x.1 x.2.1 x.2.2.1 x.2.2.2) (fun _ => rfl) (stshuntref04_Valid_0 k)
def hsshuntref04_Valid_2 : List SS := [{ fr := [(1, .a (.ptr 0 0 0)), (4, .a (.lf (.int .i64)))], mem := [(0, some (.raw [[.lf (.int .i64), .lf (.sl (.pr (.int .i64) (.int .i64))), .lf (.sl (.int .i64))]] 3 40 true false))], nx := 1 }]
def osshuntref04_Valid_2 : List OS := [⟨none, { fr := [(2, .a (.lf .bool))], mem := [(0, some (.raw [[.lf (.int .i64), .lf (.sl (.pr (.int .i64) (.int .i64))), .lf (.sl (.int .i64))]] 3 40 true false))], nx := 1 }⟩, ⟨some 2, { fr := [(1, .a (.ptr 0 0 0))], mem := [(0, some (.raw [[.lf (.int .i64), .lf (.sl (.pr (.int .i64) (.int .i64))), .lf (.sl (.int .i64))]] 3 40 true false))], nx := 1 }⟩]
def LIshuntref04_Valid_2 (k : Nat) : LInst := ⟨2, hsshuntref04_Valid_2, osshuntref04_Valid_2, fun x => Lshuntref04_Valid_2 k k x.1 x.2.1 x.2.2.1 x.2.2.2⟩
theorem anshuntref04_Valid_2 (k : Nat) : LAll (LOk (R := DS OS.D osshuntref04_Valid_2) (fun b _ σ K => LOt Ty (kps 17) 0 b σ K [LIshuntref04_Valid_0 k]) cf (call cf k) (kps 17) Try.f17.ntmps k 0) 2 (lb Try.f17 1) :=
  And.intro (And.intro (True.intro) (And.intro (True.intro) (True.intro))) (And.intro (And.intro (True.intro) (And.intro (And.intro (True.intro) (True.intro)) (True.intro))) (True.intro))
theorem stshuntref04_Valid_2 (k n : Nat) (x : DS SS.D hsshuntref04_Valid_2) : Lshuntref04_Valid_2 k (n + 1) x.1 x.2.1 x.2.2.1 x.2.2.2 = encSK SS.enc (fun σ => run2 cf (fun f a b K => COt f a b K [Ishuntref03_Valid k, Ishuntref04_rising k]) (fun b _ σ K => LOt Ty (kps 17) 0 b σ K [LIshuntref04_Valid_0 k]) Try.f17.ntmps 2 (lb Try.f17 1) σ (nextK Ty (kps 17 2) 0 hsshuntref04_Valid_2 osshuntref04_Valid_2 fun x => Lshuntref04_Valid_2 k n x.1 x.2.1 x.2.2.1 x.2.2.2)) hsshuntref04_Valid_2 x := by kernel_rfl
theorem loshuntref04_Valid_2 (k : Nat) : LIOk cf (call cf k) (kps 17) Try.f17.ntmps k 0 2 (lb Try.f17 1) (LIshuntref04_Valid_2 k) :=
  loop_ok (c := cf) (callF := call cf k) (kp := kps 17) (nt := Try.f17.ntmps) (k := k) (p := 0) (b := 2) (x0 := lb Try.f17 1) (hs := hsshuntref04_Valid_2) (os := osshuntref04_Valid_2) (COt_ok (alshuntref04_Valid k)) (anshuntref04_Valid_2 k) (fun n x => Lshuntref04_Valid_2 k n x.1 x.2.1 x.2.2.1 x.2.2.2) (fun _ => rfl) (stshuntref04_Valid_2 k)
theorem anshuntref04_Valid (k : Nat) : LAll (LOk (R := DS FS.D rsshuntref04_Valid) (fun b _ σ K => LOt Ty (kps 17) 0 b σ K [LIshuntref04_Valid_0 k, LIshuntref04_Valid_2 k]) cf (call cf k) (cf.keep 17) Try.f17.ntmps k shshuntref04_Valid.bs.length) 0 (bd Try.f17) :=
  And.intro (True.intro) (And.intro (And.intro (True.intro) (LOt_ok (c := cf) (callF := call cf k) (kp := kps 17) (nt := Try.f17.ntmps) (k := k) (p := 0) (b := 0) (x0 := lb Try.f17 0) (l := [LIshuntref04_Valid_0 k, LIshuntref04_Valid_2 k]) (And.intro (fun _ => loshuntref04_Valid_0 k) (And.intro (fun h => absurd (show (2 : Nat) = 0 from h) (by decide)) (True.intro))))) (And.intro (And.intro (True.intro) (LOt_ok (c := cf) (callF := call cf k) (kp := kps 17) (nt := Try.f17.ntmps) (k := k) (p := 0) (b := 2) (x0 := lb Try.f17 1) (l := [LIshuntref04_Valid_0 k, LIshuntref04_Valid_2 k]) (And.intro (fun h => absurd (show (0 : Nat) = 2 from h) (by decide)) (And.intro (fun _ => loshuntref04_Valid_2 k) (True.intro))))) (And.intro (True.intro) (And.intro (And.intro (True.intro) (And.intro (True.intro) (And.intro (And.intro (True.intro) (True.intro)) (And.intro (True.intro) (And.intro (And.intro (True.intro) (True.intro)) (And.intro (True.intro) (And.intro (And.intro (True.intro) (True.intro)) (And.intro (True.intro) (And.intro (And.intro (True.intro) (True.intro)) (True.intro)))))))))) (And.intro (True.intro) (True.intro))))))
theorem stshuntref04_Valid (k : Nat) (x : shshuntref04_Valid.D) : Fshuntref04_Valid (k + 1) x.1 x.2.1 x.2.2 = body2 cf (fun f a b K => COt f a b K [Ishuntref03_Valid k, Ishuntref04_rising k]) (fun b _ σ K => LOt Ty (kps 17) 0 b σ K [LIshuntref04_Valid_0 k, LIshuntref04_Valid_2 k]) 17 Try.f17.ntmps Try.f17.results.toList (bd Try.f17) (shshuntref04_Valid.enc x).1 (shshuntref04_Valid.enc x).2 (putS FS.dec rsshuntref04_Valid) := by kernel_rfl
theorem okshuntref04_Valid : ∀ k, InstOk (call cf k) (Ishuntref04_Valid k)
  | 0 => fun x y e => absurd (show (none : Option _) = some y from e) (by simp)
  | k + 1 => inst_ok (c := cf) (k := k) (f := 17) (fn := Try.f17) (body := bd Try.f17) (sh := shshuntref04_Valid) (os := rsshuntref04_Valid) rfl Try.func17 rfl ⟨rfl, Nat.le_of_ble_eq_true rfl⟩ (COt_ok (alshuntref04_Valid k)) (anshuntref04_Valid k) (fun x => Fshuntref04_Valid (k + 1) x.1 x.2.1 x.2.2) (stshuntref04_Valid k)

/-! shunt/shuntlaw04.WaveStraight -/
def bshuntlaw04_WaveStraight (k : Nat) (w0 : Int) (w1 : List (Int × Int)) (w2 : List Int) (step : Int) : Option (Bool) :=
  Option.bind (Fshuntlaw04_awake k) fun r =>
  if ((!r) = true) then
    (some false)
  else
  Option.bind (Fshuntref04_Valid k w0 w1 w2) fun r1 =>
  if ((!r1) = false) then
    if ((w0 == (4 : Int)) = false) then
      if ((decide (step < (1 : Int))) = false) then
        if ((decide (step ≥ (1000000000 : Int))) = true) then
          (some true)
        else
        Option.bind (Fwave_Next k w0 w1 w2 (IntKind.wrap .i64 (step - (1 : Int)))) fun r2 =>
        if (r2.2 = true) then
          if ((decide (r2.1 ≤ (IntKind.wrap .i64 (step + (1 : Int))))) = true) then
            (some (decide (r2.1 ≥ step)))
          else
          Option.bind (Fwave_At k w0 w1 w2 (IntKind.wrap .i64 (step - (1 : Int)))) fun r3 =>
          Option.bind (Fwave_At k w0 w1 w2 step) fun r4 =>
          Option.bind (Fwave_At k w0 w1 w2 (IntKind.wrap .i64 (step + (1 : Int)))) fun r5 =>
          if ((r3.2 != (0 : Int)) = false) then
            if ((r4.2 != (0 : Int)) = false) then
              if ((r5.2 != (0 : Int)) = true) then
                if ((r3.2 == (4 : Int)) = false) then
                  if ((r4.2 == (4 : Int)) = false) then
                    (some (r5.2 == (4 : Int)))
                  else
                  (some true)
                else
                (some true)
              else
              if ((decide ((IntKind.wrap .i64 ((IntKind.wrap .i64 ((IntKind.wrap .i64 ((2 : Int) * r4.1)) - r3.1)) - r5.1)) ≥ (-(2 : Int)))) = true) then
                (some (decide ((IntKind.wrap .i64 ((IntKind.wrap .i64 ((IntKind.wrap .i64 ((2 : Int) * r4.1)) - r3.1)) - r5.1)) ≤ (2 : Int))))
              else
              (some false)
            else
            if ((r3.2 == (4 : Int)) = false) then
              if ((r4.2 == (4 : Int)) = false) then
                (some (r5.2 == (4 : Int)))
              else
              (some true)
            else
            (some true)
          else
          if ((r3.2 == (4 : Int)) = false) then
            if ((r4.2 == (4 : Int)) = false) then
              (some (r5.2 == (4 : Int)))
            else
            (some true)
          else
          (some true)
        else
        Option.bind (Fwave_At k w0 w1 w2 (IntKind.wrap .i64 (step - (1 : Int)))) fun r3 =>
        Option.bind (Fwave_At k w0 w1 w2 step) fun r4 =>
        Option.bind (Fwave_At k w0 w1 w2 (IntKind.wrap .i64 (step + (1 : Int)))) fun r5 =>
        if ((r3.2 != (0 : Int)) = false) then
          if ((r4.2 != (0 : Int)) = false) then
            if ((r5.2 != (0 : Int)) = true) then
              if ((r3.2 == (4 : Int)) = false) then
                if ((r4.2 == (4 : Int)) = false) then
                  (some (r5.2 == (4 : Int)))
                else
                (some true)
              else
              (some true)
            else
            if ((decide ((IntKind.wrap .i64 ((IntKind.wrap .i64 ((IntKind.wrap .i64 ((2 : Int) * r4.1)) - r3.1)) - r5.1)) ≥ (-(2 : Int)))) = true) then
              (some (decide ((IntKind.wrap .i64 ((IntKind.wrap .i64 ((IntKind.wrap .i64 ((2 : Int) * r4.1)) - r3.1)) - r5.1)) ≤ (2 : Int))))
            else
            (some false)
          else
          if ((r3.2 == (4 : Int)) = false) then
            if ((r4.2 == (4 : Int)) = false) then
              (some (r5.2 == (4 : Int)))
            else
            (some true)
          else
          (some true)
        else
        if ((r3.2 == (4 : Int)) = false) then
          if ((r4.2 == (4 : Int)) = false) then
            (some (r5.2 == (4 : Int)))
          else
          (some true)
        else
        (some true)
      else
      (some true)
    else
    (some true)
  else
  (some true)
def Fshuntlaw04_WaveStraight : Nat → Int → List (Int × Int) → List Int → Int → Option (Bool)
  | 0, _, _, _, _ => none
  | k + 1, w0, w1, w2, step => bshuntlaw04_WaveStraight k w0 w1 w2 step
def shshuntlaw04_WaveStraight : FS := { vs := [.g [.lf (.int .i64), .lf (.sl (.pr (.int .i64) (.int .i64))), .lf (.sl (.int .i64))], .a (.lf (.int .i64))], bs := [] }
def rsshuntlaw04_WaveStraight : List FS := [{ vs := [.a (.lf .bool)], bs := [] }]
def Ishuntlaw04_WaveStraight (k : Nat) : Inst := ⟨4, shshuntlaw04_WaveStraight, rsshuntlaw04_WaveStraight, fun x => Fshuntlaw04_WaveStraight k x.1 x.2.1 x.2.2.1 x.2.2.2⟩
theorem alshuntlaw04_WaveStraight (k : Nat) : AllI (call cf k) [Ishuntlaw04_awake k, Ishuntref04_Valid k, Iwave_Next k, Iwave_At k] := And.intro (okshuntlaw04_awake k) (And.intro (okshuntref04_Valid k) (And.intro (okwave_Next k) (And.intro (okwave_At k) (True.intro))))
theorem anshuntlaw04_WaveStraight (k : Nat) : LAll (LOk (R := DS FS.D rsshuntlaw04_WaveStraight) (fun b _ σ K => LOt Ty (kps 4) 0 b σ K []) cf (call cf k) (cf.keep 4) Try.f4.ntmps k shshuntlaw04_WaveStraight.bs.length) 0 (bd Try.f4) :=
  And.intro (True.intro) (And.intro (And.intro (True.intro) (And.intro (And.intro (True.intro) (True.intro)) (True.intro))) (And.intro (And.intro (True.intro) (And.intro (And.intro (True.intro) (True.intro)) (True.intro))) (And.intro (True.intro) (And.intro (And.intro (True.intro) (And.intro (And.intro (True.intro) (True.intro)) (True.intro))) (And.intro (True.intro) (And.intro (True.intro) (And.intro (True.intro) (And.intro (And.intro (True.intro) (And.intro (And.intro (True.intro) (True.intro)) (True.intro))) (And.intro (True.intro) (And.intro (True.intro) (True.intro)))))))))))
theorem stshuntlaw04_WaveStraight (k : Nat) (x : shshuntlaw04_WaveStraight.D) : Fshuntlaw04_WaveStraight (k + 1) x.1 x.2.1 x.2.2.1 x.2.2.2 = body2 cf (fun f a b K => COt f a b K [Ishuntlaw04_awake k, Ishuntref04_Valid k, Iwave_Next k, Iwave_At k]) (fun b _ σ K => LOt Ty (kps 4) 0 b σ K []) 4 Try.f4.ntmps Try.f4.results.toList (bd Try.f4) (shshuntlaw04_WaveStraight.enc x).1 (shshuntlaw04_WaveStraight.enc x).2 (putS FS.dec rsshuntlaw04_WaveStraight) := by kernel_rfl
theorem okshuntlaw04_WaveStraight : ∀ k, InstOk (call cf k) (Ishuntlaw04_WaveStraight k)
  | 0 => fun x y e => absurd (show (none : Option _) = some y from e) (by simp)
  | k + 1 => inst_ok (c := cf) (k := k) (f := 4) (fn := Try.f4) (body := bd Try.f4) (sh := shshuntlaw04_WaveStraight) (os := rsshuntlaw04_WaveStraight) rfl Try.func4 rfl ⟨rfl, Nat.le_of_ble_eq_true rfl⟩ (COt_ok (alshuntlaw04_WaveStraight k)) (anshuntlaw04_WaveStraight k) (fun x => Fshuntlaw04_WaveStraight (k + 1) x.1 x.2.1 x.2.2.1 x.2.2.2) (stshuntlaw04_WaveStraight k)


end
end Go.Proofs.Ytbhnafdmilfobaa.Am
