/- Printed functions: each says what the typed machine says of the program -/
import Derived.Test.YtlnailgfialgnaaDoorMA3
import Derived.KernelRfl

set_option linter.unusedVariables false
set_option maxRecDepth 100000
namespace Go.Proofs.YtlnailgfialgnaaDoor.Am
open Go
noncomputable section

/-! shunt/big.trim -/
def Lbig_trim_0s (k : Nat) (rec : List Int → Int → Option (List Int × Int)) (w : List Int) (n : Int) : Option (List Int × Int) :=
  if ((decide (n > (0 : Int))) = true) then
    if ((0 : Int) ≤ (IntKind.wrap .i64 (n - (1 : Int)))) then
      Option.bind (w)[(Int.toNat (IntKind.wrap .i64 (n - (1 : Int))))]? fun x =>
      if ((x == (0 : Int)) = true) then
        rec w (IntKind.wrap .i64 (n - (1 : Int)))
      else
      (some (w, n))
    else
    none
  else
  (some (w, n))
def Lbig_trim_0 (k n : Nat) : List Int → Int → Option (List Int × Int) := Nat.rec (fun _ _ => none) (fun _ r => Lbig_trim_0s k r) n
def bbig_trim (k : Nat) (w : List Int) : Option (List Int) :=
  Option.bind (Lbig_trim_0 k k w (((List.length w) : Nat) : Int)) fun r1 =>
  if (((0 : Int) ≤ (0 : Int)) ∧ (((0 : Int) ≤ r1.2) ∧ (r1.2 ≤ (((List.length r1.1) : Nat) : Int)))) then
    (some (List.take (Int.toNat r1.2) r1.1))
  else
  none
def Fbig_trim : Nat → List Int → Option (List Int)
  | 0, _ => none
  | k + 1, w => bbig_trim k w
def shbig_trim : FS := { vs := [.a (.lf (.sl (.int .u32)))], bs := [] }
def rsbig_trim : List FS := [{ vs := [.a (.lf (.sl (.int .u32)))], bs := [] }]
def Ibig_trim (k : Nat) : Inst := ⟨87, shbig_trim, rsbig_trim, fun x => Fbig_trim k x⟩
theorem albig_trim (k : Nat) : AllI (call cf k) [] := True.intro
def hsbig_trim_0 : List SS := [{ fr := [(0, .a (.lf (.sl (.int .u32)))), (3, .a (.lf (.int .i64)))], mem := [], nx := 0 }]
def osbig_trim_0 : List OS := [⟨some 0, { fr := [(0, .a (.lf (.sl (.int .u32)))), (3, .a (.lf (.int .i64)))], mem := [], nx := 0 }⟩]
def LIbig_trim_0 (k : Nat) : LInst := ⟨0, hsbig_trim_0, osbig_trim_0, fun x => Lbig_trim_0 k k x.1 x.2⟩
theorem anbig_trim_0 (k : Nat) : LAll (LOk (R := DS OS.D osbig_trim_0) (fun b _ σ K => LOt Ty (kps 87) 0 b σ K []) cf (call cf k) (kps 87) Tryd.f87.ntmps k 0) 0 (lb Tryd.f87 0) :=
  And.intro (And.intro (True.intro) (And.intro (True.intro) (True.intro))) (True.intro)
theorem stbig_trim_0 (k n : Nat) (x : DS SS.D hsbig_trim_0) : Lbig_trim_0 k (n + 1) x.1 x.2 = encSK SS.enc (fun σ => run2 cf (fun f a b K => COt f a b K []) (fun b _ σ K => LOt Ty (kps 87) 0 b σ K []) Tryd.f87.ntmps 0 (lb Tryd.f87 0) σ (nextK Ty (kps 87 0) 0 hsbig_trim_0 osbig_trim_0 fun x => Lbig_trim_0 k n x.1 x.2)) hsbig_trim_0 x := by kernel_rfl
theorem lobig_trim_0 (k : Nat) : LIOk cf (call cf k) (kps 87) Tryd.f87.ntmps k 0 0 (lb Tryd.f87 0) (LIbig_trim_0 k) :=
  loop_ok (c := cf) (callF := call cf k) (kp := kps 87) (nt := Tryd.f87.ntmps) (k := k) (p := 0) (b := 0) (x0 := lb Tryd.f87 0) (hs := hsbig_trim_0) (os := osbig_trim_0) (COt_ok (albig_trim k)) (anbig_trim_0 k) (fun n x => Lbig_trim_0 k n x.1 x.2) (fun _ => rfl) (stbig_trim_0 k)
theorem anbig_trim (k : Nat) : LAll (LOk (R := DS FS.D rsbig_trim) (fun b _ σ K => LOt Ty (kps 87) 0 b σ K [LIbig_trim_0 k]) cf (call cf k) (cf.keep 87) Tryd.f87.ntmps k shbig_trim.bs.length) 0 (bd Tryd.f87) :=
  And.intro (True.intro) (And.intro (True.intro) (And.intro (LOt_ok (c := cf) (callF := call cf k) (kp := kps 87) (nt := Tryd.f87.ntmps) (k := k) (p := 0) (b := 0) (x0 := lb Tryd.f87 0) (l := [LIbig_trim_0 k]) (And.intro (fun _ => lobig_trim_0 k) (True.intro))) (And.intro (True.intro) (True.intro))))
theorem stbig_trim (k : Nat) (x : shbig_trim.D) : Fbig_trim (k + 1) x = body2 cf (fun f a b K => COt f a b K []) (fun b _ σ K => LOt Ty (kps 87) 0 b σ K [LIbig_trim_0 k]) 87 Tryd.f87.ntmps Tryd.f87.results.toList (bd Tryd.f87) (shbig_trim.enc x).1 (shbig_trim.enc x).2 (putS FS.dec rsbig_trim) := by kernel_rfl
theorem okbig_trim : ∀ k, InstOk (call cf k) (Ibig_trim k)
  | 0 => fun x y e => absurd (show (none : Option _) = some y from e) (by simp)
  | k + 1 => inst_ok (c := cf) (k := k) (f := 87) (fn := Tryd.f87) (body := bd Tryd.f87) (sh := shbig_trim) (os := rsbig_trim) rfl Tryd.func87 rfl ⟨rfl, Nat.le_of_ble_eq_true rfl⟩ (COt_ok (albig_trim k)) (anbig_trim k) (fun x => Fbig_trim (k + 1) x) (stbig_trim k)

/-! (*shunt/big.Int).set -/
def bbig_Int_set_cvg (k : Nat) (neg : Bool) (w : List Int) (z : Bool) : Option (Bool × List Int) :=
  Option.bind (Fbig_trim k w) fun r1 =>
  if (neg = true) then
    (some ((decide ((((List.length r1) : Nat) : Int) > (0 : Int))), r1))
  else
  (some (false, r1))
def Fbig_Int_set_cvg : Nat → Bool → List Int → Bool → Option (Bool × List Int)
  | 0, _, _, _ => none
  | k + 1, neg, w, z => bbig_Int_set_cvg k neg w z
def shbig_Int_set_cvg : FS := { vs := [.a (.ptr 0 0 0), .a (.lf .bool), .a (.lf (.sl (.int .u32)))], bs := [.raw [[.lf .bool, .snil 1 120]] 2 112 true false false] }
def rsbig_Int_set_cvg : List FS := [{ vs := [.a (.ptr 0 0 0)], bs := [.raw [[.lf .bool, .lf (.sl (.int .u32))]] 2 112 true false false] }]
def Ibig_Int_set_cvg (k : Nat) : Inst := ⟨88, shbig_Int_set_cvg, rsbig_Int_set_cvg, fun x => Fbig_Int_set_cvg k x.1 x.2.1 x.2.2⟩
theorem albig_Int_set_cvg (k : Nat) : AllI (call cf k) [Ibig_trim k] := And.intro (okbig_trim k) (True.intro)
theorem anbig_Int_set_cvg (k : Nat) : LAll (LOk (R := DS FS.D rsbig_Int_set_cvg) (fun b _ σ K => LOt Ty (kps 88) 1 b σ K []) cf (call cf k) (cf.keep 88) Tryd.f88.ntmps k shbig_Int_set_cvg.bs.length) 0 (bd Tryd.f88) :=
  And.intro (True.intro) (And.intro (True.intro) (And.intro (True.intro) (And.intro (True.intro) (True.intro))))
theorem stbig_Int_set_cvg (k : Nat) (x : shbig_Int_set_cvg.D) : Fbig_Int_set_cvg (k + 1) x.1 x.2.1 x.2.2 = body2 cf (fun f a b K => COt f a b K [Ibig_trim k]) (fun b _ σ K => LOt Ty (kps 88) 1 b σ K []) 88 Tryd.f88.ntmps Tryd.f88.results.toList (bd Tryd.f88) (shbig_Int_set_cvg.enc x).1 (shbig_Int_set_cvg.enc x).2 (putS FS.dec rsbig_Int_set_cvg) := by kernel_rfl
theorem okbig_Int_set_cvg : ∀ k, InstOk (call cf k) (Ibig_Int_set_cvg k)
  | 0 => fun x y e => absurd (show (none : Option _) = some y from e) (by simp)
  | k + 1 => inst_ok (c := cf) (k := k) (f := 88) (fn := Tryd.f88) (body := bd Tryd.f88) (sh := shbig_Int_set_cvg) (os := rsbig_Int_set_cvg) rfl Tryd.func88 rfl ⟨rfl, Nat.le_of_ble_eq_true rfl⟩ (COt_ok (albig_Int_set_cvg k)) (anbig_Int_set_cvg k) (fun x => Fbig_Int_set_cvg (k + 1) x.1 x.2.1 x.2.2) (stbig_Int_set_cvg k)

/-! (*shunt/big.Int).Mul -/
def Lbig_Int_Mul_gsh_2s (k : Nat) (rec : Nat → Int → Int → Int → List Int → Int → Int → List Int → Int → Int → Bool → Bool → List Int → Bool → List Int → List Int → Option (Nat × Int × Int × List Int × Int × Int × Bool × Bool × List Int × Bool × List Int × List Int)) (out1 : Nat) (i : Int) (a : Int) (carry : Int) (x : List Int) (x1 : Int) (x2 : Int) (x3 : List Int) (x4 : Int) (x5 : Int) (z : Bool) (x0 : Bool) (x11 : List Int) (y0 : Bool) (y1 : List Int) (outs : List Int) : Option (Nat × Int × Int × List Int × Int × Int × Bool × Bool × List Int × Bool × List Int × List Int) :=
  if ((decide (x5 < x4)) = true) then
    if ((0 : Int) ≤ x5) then
      Option.bind (x3)[(Int.toNat x5)]? fun x6 =>
      if (((0 : Int) ≤ (IntKind.wrap .i64 (i + x5))) ∧ ((IntKind.wrap .i64 (i + x5)) < ((out1 : Nat) : Int))) then
        Option.bind (outs)[(0 + (Int.toNat (IntKind.wrap .i64 (i + x5))))]? fun x7 =>
        if (((0 : Int) ≤ (IntKind.wrap .i64 (i + x5))) ∧ ((IntKind.wrap .i64 (i + x5)) < ((out1 : Nat) : Int))) then
          Option.bind (outs)[(0 + (Int.toNat (IntKind.wrap .i64 (i + x5))))]? fun x8 =>
          rec out1 i a (Int.fdiv (IntKind.wrap .u64 ((IntKind.wrap .u64 ((IntKind.wrap .u64 ((IntKind.wrap .u64 a) * (IntKind.wrap .u64 x6))) + (IntKind.wrap .u64 x7))) + carry)) (4294967296 : Int)) x x1 x2 x3 x4 (IntKind.wrap .i64 (x5 + (1 : Int))) z x0 x11 y0 y1 (List.set outs (0 + (Int.toNat (IntKind.wrap .i64 (i + x5)))) (IntKind.wrap .u32 (IntKind.wrap .u64 ((IntKind.wrap .u64 ((IntKind.wrap .u64 ((IntKind.wrap .u64 a) * (IntKind.wrap .u64 x6))) + (IntKind.wrap .u64 x7))) + carry))))
        else
        none
      else
      none
    else
    none
  else
  (some (out1, i, carry, x, x1, x2, z, x0, x11, y0, y1, outs))
def Lbig_Int_Mul_gsh_2 (k n : Nat) : Nat → Int → Int → Int → List Int → Int → Int → List Int → Int → Int → Bool → Bool → List Int → Bool → List Int → List Int → Option (Nat × Int × Int × List Int × Int × Int × Bool × Bool × List Int × Bool × List Int × List Int) := Nat.rec (fun _ _ _ _ _ _ _ _ _ _ _ _ _ _ _ _ => none) (fun _ r => Lbig_Int_Mul_gsh_2s k r) n
def Lbig_Int_Mul_gsh_0s (k : Nat) (rec : Nat → List Int → Int → Int → Bool → Bool → List Int → Bool → List Int → List Int → Option (Nat × Bool × Bool × List Int × Bool × List Int × List Int)) (out1 : Nat) (x : List Int) (x1 : Int) (x2 : Int) (z : Bool) (x0 : Bool) (x11 : List Int) (y0 : Bool) (y1 : List Int) (outs : List Int) : Option (Nat × Bool × Bool × List Int × Bool × List Int × List Int) :=
  if ((decide (x2 < x1)) = true) then
    if ((0 : Int) ≤ x2) then
      Option.bind (x)[(Int.toNat x2)]? fun x3 =>
      Option.bind (Lbig_Int_Mul_gsh_2 k k out1 x2 x3 (0 : Int) x x1 x2 y1 (((List.length y1) : Nat) : Int) (0 : Int) z x0 x11 y0 y1 outs) fun r =>
      if (((0 : Int) ≤ (IntKind.wrap .i64 (r.2.1 + (((List.length r.2.2.2.2.2.2.2.2.2.2.1) : Nat) : Int)))) ∧ ((IntKind.wrap .i64 (r.2.1 + (((List.length r.2.2.2.2.2.2.2.2.2.2.1) : Nat) : Int))) < ((r.1 : Nat) : Int))) then
        Option.bind (r.2.2.2.2.2.2.2.2.2.2.2)[(0 + (Int.toNat (IntKind.wrap .i64 (r.2.1 + (((List.length r.2.2.2.2.2.2.2.2.2.2.1) : Nat) : Int)))))]? fun x4 =>
        rec r.1 r.2.2.2.1 r.2.2.2.2.1 (IntKind.wrap .i64 (r.2.2.2.2.2.1 + (1 : Int))) r.2.2.2.2.2.2.1 r.2.2.2.2.2.2.2.1 r.2.2.2.2.2.2.2.2.1 r.2.2.2.2.2.2.2.2.2.1 r.2.2.2.2.2.2.2.2.2.2.1 (List.set r.2.2.2.2.2.2.2.2.2.2.2 (0 + (Int.toNat (IntKind.wrap .i64 (r.2.1 + (((List.length r.2.2.2.2.2.2.2.2.2.2.1) : Nat) : Int))))) (IntKind.wrap .u32 r.2.2.1))
      else
      none
    else
    none
  else
  (some (out1, z, x0, x11, y0, y1, outs))
def Lbig_Int_Mul_gsh_0 (k n : Nat) : Nat → List Int → Int → Int → Bool → Bool → List Int → Bool → List Int → List Int → Option (Nat × Bool × Bool × List Int × Bool × List Int × List Int) := Nat.rec (fun _ _ _ _ _ _ _ _ _ _ => none) (fun _ r => Lbig_Int_Mul_gsh_0s k r) n
def bbig_Int_Mul_gsh (k : Nat) (z : Bool) (x0 : Bool) (x1 : List Int) (y0 : Bool) (y1 : List Int) : Option (Bool × List Int × Bool × List Int × Bool × List Int) :=
  if (((0 : Int) ≤ (IntKind.wrap .i64 ((((List.length x1) : Nat) : Int) + (((List.length y1) : Nat) : Int)))) ∧ (((IntKind.wrap .i64 ((((List.length x1) : Nat) : Int) + (((List.length y1) : Nat) : Int))) ≤ (IntKind.wrap .i64 ((((List.length x1) : Nat) : Int) + (((List.length y1) : Nat) : Int)))) ∧ (((IntKind.wrap .i64 ((((List.length x1) : Nat) : Int) + (((List.length y1) : Nat) : Int))) * (4 : Int)) ≤ (140737488355328 : Int)))) then
    Option.bind (Lbig_Int_Mul_gsh_0 k k (Int.toNat (IntKind.wrap .i64 ((((List.length x1) : Nat) : Int) + (((List.length y1) : Nat) : Int)))) x1 (((List.length x1) : Nat) : Int) (0 : Int) z x0 x1 y0 y1 (List.replicate (Int.toNat (IntKind.wrap .i64 ((((List.length x1) : Nat) : Int) + (((List.length y1) : Nat) : Int)))) (0 : Int))) fun r =>
    if ((0 + r.1) ≤ (List.length r.2.2.2.2.2.2)) then
      Option.bind (Fbig_Int_set_cvg k (!(r.2.2.1 == r.2.2.2.2.1)) (List.take r.1 r.2.2.2.2.2.2) r.2.1) fun r1 =>
      (some (r1.1, r1.2, r.2.2.1, r.2.2.2.1, r.2.2.2.2.1, r.2.2.2.2.2.1))
    else
    none
  else
  none
def Fbig_Int_Mul_gsh : Nat → Bool → Bool → List Int → Bool → List Int → Option (Bool × List Int × Bool × List Int × Bool × List Int)
  | 0, _, _, _, _, _ => none
  | k + 1, z, x0, x1, y0, y1 => bbig_Int_Mul_gsh k z x0 x1 y0 y1
def shbig_Int_Mul_gsh : FS := { vs := [.a (.ptr 0 0 0), .a (.ptr 1 0 0), .a (.ptr 2 0 0)], bs := [.raw [[.lf .bool, .snil 1 120]] 2 112 true false false, .raw [[.lf .bool, .lf (.sl (.int .u32))]] 2 112 true false false, .raw [[.lf .bool, .lf (.sl (.int .u32))]] 2 112 true false false] }
def rsbig_Int_Mul_gsh : List FS := [{ vs := [.a (.ptr 0 0 0)], bs := [.raw [[.lf .bool, .lf (.sl (.int .u32))]] 2 112 true false false, .raw [[.lf .bool, .lf (.sl (.int .u32))]] 2 112 true false false, .raw [[.lf .bool, .lf (.sl (.int .u32))]] 2 112 true false false] }]
def Ibig_Int_Mul_gsh (k : Nat) : Inst := ⟨79, shbig_Int_Mul_gsh, rsbig_Int_Mul_gsh, fun x => Fbig_Int_Mul_gsh k x.1 x.2.1 x.2.2.1 x.2.2.2.1 x.2.2.2.2⟩
theorem albig_Int_Mul_gsh (k : Nat) : AllI (call cf k) [Ibig_Int_set_cvg k] := And.intro (okbig_Int_set_cvg k) (True.intro)
def hsbig_Int_Mul_gsh_2 : List SS := [{ fr := [(0, .a (.ptr 0 0 0)), (1, .a (.ptr 1 0 0)), (2, .a (.ptr 2 0 0)), (7, .a (.smz 3)), (8, .a (.lf (.int .i64))), (9, .a (.lf (.int .u32))), (10, .a (.lf (.int .u64))), (29, .a (.lf (.sl (.int .u32)))), (30, .a (.lf (.int .i64))), (31, .a (.lf (.int .i64))), (39, .a (.lf (.sl (.int .u32)))), (40, .a (.lf (.int .i64))), (41, .a (.lf (.int .i64)))], mem := [(0, some (.raw [[.lf .bool, .snil 1 120]] 2 112 true false false)), (1, some (.raw [[.lf .bool, .lf (.sl (.int .u32))]] 2 112 true false false)), (2, some (.raw [[.lf .bool, .lf (.sl (.int .u32))]] 2 112 true false false)), (3, some (.arr (.int .u32) 1 120 false))], nx := 4 }]
def osbig_Int_Mul_gsh_2 : List OS := [⟨some 2, { fr := [(0, .a (.ptr 0 0 0)), (1, .a (.ptr 1 0 0)), (2, .a (.ptr 2 0 0)), (7, .a (.smz 3)), (8, .a (.lf (.int .i64))), (10, .a (.lf (.int .u64))), (29, .a (.lf (.sl (.int .u32)))), (30, .a (.lf (.int .i64))), (31, .a (.lf (.int .i64)))], mem := [(0, some (.raw [[.lf .bool, .snil 1 120]] 2 112 true false false)), (1, some (.raw [[.lf .bool, .lf (.sl (.int .u32))]] 2 112 true false false)), (2, some (.raw [[.lf .bool, .lf (.sl (.int .u32))]] 2 112 true false false)), (3, some (.arr (.int .u32) 1 120 false))], nx := 4 }⟩]
def LIbig_Int_Mul_gsh_2 (k : Nat) : LInst := ⟨2, hsbig_Int_Mul_gsh_2, osbig_Int_Mul_gsh_2, fun x => Lbig_Int_Mul_gsh_2 k k x.1 x.2.1 x.2.2.1 x.2.2.2.1 x.2.2.2.2.1 x.2.2.2.2.2.1 x.2.2.2.2.2.2.1 x.2.2.2.2.2.2.2.1 x.2.2.2.2.2.2.2.2.1 x.2.2.2.2.2.2.2.2.2.1 x.2.2.2.2.2.2.2.2.2.2.1 x.2.2.2.2.2.2.2.2.2.2.2.1 x.2.2.2.2.2.2.2.2.2.2.2.2.1 x.2.2.2.2.2.2.2.2.2.2.2.2.2.1 x.2.2.2.2.2.2.2.2.2.2.2.2.2.2.1 x.2.2.2.2.2.2.2.2.2.2.2.2.2.2.2⟩
theorem anbig_Int_Mul_gsh_2 (k : Nat) : LAll (LOk (R := DS OS.D osbig_Int_Mul_gsh_2) (fun b _ σ K => LOt Ty (kps 79) 3 b σ K []) cf (call cf k) (kps 79) Tryd.f79.ntmps k 3) 2 (lb Tryd.f79 1) :=
  And.intro (True.intro) (And.intro (And.intro (True.intro) (True.intro)) (And.intro (And.intro (True.intro) (And.intro (True.intro) (And.intro (True.intro) (True.intro)))) (True.intro)))
theorem stbig_Int_Mul_gsh_2 (k n : Nat) (x : DS SS.D hsbig_Int_Mul_gsh_2) : Lbig_Int_Mul_gsh_2 k (n + 1) x.1 x.2.1 x.2.2.1 x.2.2.2.1 x.2.2.2.2.1 x.2.2.2.2.2.1 x.2.2.2.2.2.2.1 x.2.2.2.2.2.2.2.1 x.2.2.2.2.2.2.2.2.1 x.2.2.2.2.2.2.2.2.2.1 x.2.2.2.2.2.2.2.2.2.2.1 x.2.2.2.2.2.2.2.2.2.2.2.1 x.2.2.2.2.2.2.2.2.2.2.2.2.1 x.2.2.2.2.2.2.2.2.2.2.2.2.2.1 x.2.2.2.2.2.2.2.2.2.2.2.2.2.2.1 x.2.2.2.2.2.2.2.2.2.2.2.2.2.2.2 = encSK SS.enc (fun σ => run2 cf (fun f a b K => COt f a b K [Ibig_Int_set_cvg k]) (fun b _ σ K => LOt Ty (kps 79) 3 b σ K []) Tryd.f79.ntmps 2 (lb Tryd.f79 1) σ (nextK Ty (kps 79 2) 3 hsbig_Int_Mul_gsh_2 osbig_Int_Mul_gsh_2 fun x => Lbig_Int_Mul_gsh_2 k n x.1 x.2.1 x.2.2.1 x.2.2.2.1 x.2.2.2.2.1 x.2.2.2.2.2.1 x.2.2.2.2.2.2.1 x.2.2.2.2.2.2.2.1 x.2.2.2.2.2.2.2.2.1 x.2.2.2.2.2.2.2.2.2.1 x.2.2.2.2.2.2.2.2.2.2.1 x.2.2.2.2.2.2.2.2.2.2.2.1 x.2.2.2.2.2.2.2.2.2.2.2.2.1 x.2.2.2.2.2.2.2.2.2.2.2.2.2.1 x.2.2.2.2.2.2.2.2.2.2.2.2.2.2.1 x.2.2.2.2.2.2.2.2.2.2.2.2.2.2.2)) hsbig_Int_Mul_gsh_2 x := by kernel_rfl
theorem lobig_Int_Mul_gsh_2 (k : Nat) : LIOk cf (call cf k) (kps 79) Tryd.f79.ntmps k 3 2 (lb Tryd.f79 1) (LIbig_Int_Mul_gsh_2 k) :=
  loop_ok (c := cf) (callF := call cf k) (kp := kps 79) (nt := Tryd.f79.ntmps) (k := k) (p := 3) (b := 2) (x0 := lb Tryd.f79 1) (hs := hsbig_Int_Mul_gsh_2) (os := osbig_Int_Mul_gsh_2) (COt_ok (albig_Int_Mul_gsh k)) (anbig_Int_Mul_gsh_2 k) (fun n x => Lbig_Int_Mul_gsh_2 k n x.1 x.2.1 x.2.2.1 x.2.2.2.1 x.2.2.2.2.1 x.2.2.2.2.2.1 x.2.2.2.2.2.2.1 x.2.2.2.2.2.2.2.1 x.2.2.2.2.2.2.2.2.1 x.2.2.2.2.2.2.2.2.2.1 x.2.2.2.2.2.2.2.2.2.2.1 x.2.2.2.2.2.2.2.2.2.2.2.1 x.2.2.2.2.2.2.2.2.2.2.2.2.1 x.2.2.2.2.2.2.2.2.2.2.2.2.2.1 x.2.2.2.2.2.2.2.2.2.2.2.2.2.2.1 x.2.2.2.2.2.2.2.2.2.2.2.2.2.2.2) (fun _ => rfl) (stbig_Int_Mul_gsh_2 k)
def hsbig_Int_Mul_gsh_0 : List SS := [{ fr := [(0, .a (.ptr 0 0 0)), (1, .a (.ptr 1 0 0)), (2, .a (.ptr 2 0 0)), (7, .a (.smz 3)), (29, .a (.lf (.sl (.int .u32)))), (30, .a (.lf (.int .i64))), (31, .a (.lf (.int .i64)))], mem := [(0, some (.raw [[.lf .bool, .snil 1 120]] 2 112 true false false)), (1, some (.raw [[.lf .bool, .lf (.sl (.int .u32))]] 2 112 true false false)), (2, some (.raw [[.lf .bool, .lf (.sl (.int .u32))]] 2 112 true false false)), (3, some (.arr (.int .u32) 1 120 false))], nx := 4 }]
def osbig_Int_Mul_gsh_0 : List OS := [⟨some 0, { fr := [(0, .a (.ptr 0 0 0)), (1, .a (.ptr 1 0 0)), (2, .a (.ptr 2 0 0)), (7, .a (.smz 3))], mem := [(0, some (.raw [[.lf .bool, .snil 1 120]] 2 112 true false false)), (1, some (.raw [[.lf .bool, .lf (.sl (.int .u32))]] 2 112 true false false)), (2, some (.raw [[.lf .bool, .lf (.sl (.int .u32))]] 2 112 true false false)), (3, some (.arr (.int .u32) 1 120 false))], nx := 4 }⟩]
def LIbig_Int_Mul_gsh_0 (k : Nat) : LInst := ⟨0, hsbig_Int_Mul_gsh_0, osbig_Int_Mul_gsh_0, fun x => Lbig_Int_Mul_gsh_0 k k x.1 x.2.1 x.2.2.1 x.2.2.2.1 x.2.2.2.2.1 x.2.2.2.2.2.1 x.2.2.2.2.2.2.1 x.2.2.2.2.2.2.2.1 x.2.2.2.2.2.2.2.2.1 x.2.2.2.2.2.2.2.2.2⟩
theorem anbig_Int_Mul_gsh_0 (k : Nat) : LAll (LOk (R := DS OS.D osbig_Int_Mul_gsh_0) (fun b _ σ K => LOt Ty (kps 79) 3 b σ K [LIbig_Int_Mul_gsh_2 k]) cf (call cf k) (kps 79) Tryd.f79.ntmps k 3) 0 (lb Tryd.f79 0) :=
  And.intro (True.intro) (And.intro (And.intro (True.intro) (True.intro)) (And.intro (And.intro (True.intro) (And.intro (True.intro) (And.intro (And.intro (True.intro) (LOt_ok (c := cf) (callF := call cf k) (kp := kps 79) (nt := Tryd.f79.ntmps) (k := k) (p := 3) (b := 2) (x0 := lb Tryd.f79 1) (l := [LIbig_Int_Mul_gsh_2 k]) (And.intro (fun _ => lobig_Int_Mul_gsh_2 k) (True.intro)))) (True.intro)))) (True.intro)))
theorem stbig_Int_Mul_gsh_0 (k n : Nat) (x : DS SS.D hsbig_Int_Mul_gsh_0) : Lbig_Int_Mul_gsh_0 k (n + 1) x.1 x.2.1 x.2.2.1 x.2.2.2.1 x.2.2.2.2.1 x.2.2.2.2.2.1 x.2.2.2.2.2.2.1 x.2.2.2.2.2.2.2.1 x.2.2.2.2.2.2.2.2.1 x.2.2.2.2.2.2.2.2.2 = encSK SS.enc (fun σ => run2 cf (fun f a b K => COt f a b K [Ibig_Int_set_cvg k]) (fun b _ σ K => LOt Ty (kps 79) 3 b σ K [LIbig_Int_Mul_gsh_2 k]) Tryd.f79.ntmps 0 (lb Tryd.f79 0) σ (nextK Ty (kps 79 0) 3 hsbig_Int_Mul_gsh_0 osbig_Int_Mul_gsh_0 fun x => Lbig_Int_Mul_gsh_0 k n x.1 x.2.1 x.2.2.1 x.2.2.2.1 x.2.2.2.2.1 x.2.2.2.2.2.1 x.2.2.2.2.2.2.1 x.2.2.2.2.2.2.2.1 x.2.2.2.2.2.2.2.2.1 x.2.2.2.2.2.2.2.2.2)) hsbig_Int_Mul_gsh_0 x := by kernel_rfl
theorem lobig_Int_Mul_gsh_0 (k : Nat) : LIOk cf (call cf k) (kps 79) Tryd.f79.ntmps k 3 0 (lb Tryd.f79 0) (LIbig_Int_Mul_gsh_0 k) :=
  loop_ok (c := cf) (callF := call cf k) (kp := kps 79) (nt := Tryd.f79.ntmps) (k := k) (p := 3) (b := 0) (x0 := lb Tryd.f79 0) (hs := hsbig_Int_Mul_gsh_0) (os := osbig_Int_Mul_gsh_0) (COt_ok (albig_Int_Mul_gsh k)) (anbig_Int_Mul_gsh_0 k) (fun n x => Lbig_Int_Mul_gsh_0 k n x.1 x.2.1 x.2.2.1 x.2.2.2.1 x.2.2.2.2.1 x.2.2.2.2.2.1 x.2.2.2.2.2.2.1 x.2.2.2.2.2.2.2.1 x.2.2.2.2.2.2.2.2.1 x.2.2.2.2.2.2.2.2.2) (fun _ => rfl) (stbig_Int_Mul_gsh_0 k)
theorem anbig_Int_Mul_gsh (k : Nat) : LAll (LOk (R := DS FS.D rsbig_Int_Mul_gsh) (fun b _ σ K => LOt Ty (kps 79) 3 b σ K [LIbig_Int_Mul_gsh_2 k, LIbig_Int_Mul_gsh_0 k]) cf (call cf k) (cf.keep 79) Tryd.f79.ntmps k shbig_Int_Mul_gsh.bs.length) 0 (bd Tryd.f79) :=
  And.intro (True.intro) (And.intro (True.intro) (And.intro (And.intro (True.intro) (LOt_ok (c := cf) (callF := call cf k) (kp := kps 79) (nt := Tryd.f79.ntmps) (k := k) (p := 3) (b := 0) (x0 := lb Tryd.f79 0) (l := [LIbig_Int_Mul_gsh_2 k, LIbig_Int_Mul_gsh_0 k]) (And.intro (fun h => absurd (show (2 : Nat) = 0 from h) (by decide)) (And.intro (fun _ => lobig_Int_Mul_gsh_0 k) (True.intro))))) (And.intro (True.intro) (True.intro))))
theorem stbig_Int_Mul_gsh (k : Nat) (x : shbig_Int_Mul_gsh.D) : Fbig_Int_Mul_gsh (k + 1) x.1 x.2.1 x.2.2.1 x.2.2.2.1 x.2.2.2.2 = body2 cf (fun f a b K => COt f a b K [Ibig_Int_set_cvg k]) (fun b _ σ K => LOt Ty (kps 79) 3 b σ K [LIbig_Int_Mul_gsh_2 k, LIbig_Int_Mul_gsh_0 k]) 79 Tryd.f79.ntmps Tryd.f79.results.toList (bd Tryd.f79) (shbig_Int_Mul_gsh.enc x).1 (shbig_Int_Mul_gsh.enc x).2 (putS FS.dec rsbig_Int_Mul_gsh) := by kernel_rfl
theorem okbig_Int_Mul_gsh : ∀ k, InstOk (call cf k) (Ibig_Int_Mul_gsh k)
  | 0 => fun x y e => absurd (show (none : Option _) = some y from e) (by simp)
  | k + 1 => inst_ok (c := cf) (k := k) (f := 79) (fn := Tryd.f79) (body := bd Tryd.f79) (sh := shbig_Int_Mul_gsh) (os := rsbig_Int_Mul_gsh) rfl Tryd.func79 rfl ⟨rfl, Nat.le_of_ble_eq_true rfl⟩ (COt_ok (albig_Int_Mul_gsh k)) (anbig_Int_Mul_gsh k) (fun x => Fbig_Int_Mul_gsh (k + 1) x.1 x.2.1 x.2.2.1 x.2.2.2.1 x.2.2.2.2) (stbig_Int_Mul_gsh k)

/-! shunt/num.Valid -/
def bnum_Valid (k : Nat) (n0 : Int) (n1 : Int) : Option (Bool) :=
  if ((n0 == (0 : Int)) = true) then
    (some (n1 == (0 : Int)))
  else
  if ((decide (n0 ≥ (-(999999999 : Int)))) = true) then
    if ((decide (n0 ≤ (999999999 : Int))) = true) then
      if (((Int.tmod n0 (10 : Int)) != (0 : Int)) = true) then
        if ((decide (n1 ≥ (-(18 : Int)))) = true) then
          (some (decide (n1 ≤ (9 : Int))))
        else
        (some false)
      else
      (some false)
    else
    (some false)
  else
  (some false)
def Fnum_Valid : Nat → Int → Int → Option (Bool)
  | 0, _, _ => none
  | k + 1, n0, n1 => bnum_Valid k n0 n1
def shnum_Valid : FS := { vs := [.g [.lf (.int .i64), .lf (.int .i64)]], bs := [] }
def rsnum_Valid : List FS := [{ vs := [.a (.lf .bool)], bs := [] }]
def Inum_Valid (k : Nat) : Inst := ⟨39, shnum_Valid, rsnum_Valid, fun x => Fnum_Valid k x.1 x.2⟩
theorem alnum_Valid (k : Nat) : AllI (call cf k) [] := True.intro
theorem annum_Valid (k : Nat) : LAll (LOk (R := DS FS.D rsnum_Valid) (fun b _ σ K => LOt Ty (kps 39) 0 b σ K []) cf (call cf k) (cf.keep 39) Tryd.f39.ntmps k shnum_Valid.bs.length) 0 (bd Tryd.f39) :=
  And.intro (True.intro) (And.intro (And.intro (True.intro) (And.intro (And.intro (True.intro) (True.intro)) (True.intro))) (And.intro (True.intro) (True.intro)))
theorem stnum_Valid (k : Nat) (x : shnum_Valid.D) : Fnum_Valid (k + 1) x.1 x.2 = body2 cf (fun f a b K => COt f a b K []) (fun b _ σ K => LOt Ty (kps 39) 0 b σ K []) 39 Tryd.f39.ntmps Tryd.f39.results.toList (bd Tryd.f39) (shnum_Valid.enc x).1 (shnum_Valid.enc x).2 (putS FS.dec rsnum_Valid) := by kernel_rfl
theorem oknum_Valid : ∀ k, InstOk (call cf k) (Inum_Valid k)
  | 0 => fun x y e => absurd (show (none : Option _) = some y from e) (by simp)
  | k + 1 => inst_ok (c := cf) (k := k) (f := 39) (fn := Tryd.f39) (body := bd Tryd.f39) (sh := shnum_Valid) (os := rsnum_Valid) rfl Tryd.func39 rfl ⟨rfl, Nat.le_of_ble_eq_true rfl⟩ (COt_ok (alnum_Valid k)) (annum_Valid k) (fun x => Fnum_Valid (k + 1) x.1 x.2) (stnum_Valid k)

/-! shunt/flat.twice -/
def Lflat_twice_0s (k : Nat) (rec : List ByteArray → List ByteArray → Int → Int → List (ByteArray × Int) → Option (List ByteArray × List (ByteArray × Int))) (l : List ByteArray) (x : List ByteArray) (x1 : Int) (x2 : Int) (seens : List (ByteArray × Int)) : Option (List ByteArray × List (ByteArray × Int)) :=
  if ((decide (x2 < x1)) = true) then
    if ((0 : Int) ≤ x2) then
      Option.bind (x)[(Int.toNat x2)]? fun x3 =>
      rec l x x1 (IntKind.wrap .i64 (x2 + (1 : Int))) (mapS .str (.int .i64) seens x3 (IntKind.wrap .i64 ((mapG .str (.int .i64) seens x3 (0 : Int)) + (1 : Int))))
    else
    none
  else
  (some (l, seens))
def Lflat_twice_0 (k n : Nat) : List ByteArray → List ByteArray → Int → Int → List (ByteArray × Int) → Option (List ByteArray × List (ByteArray × Int)) := Nat.rec (fun _ _ _ _ _ => none) (fun _ r => Lflat_twice_0s k r) n
def bflat_twice (k : Nat) (l : List ByteArray) : Option (Bool) :=
  Option.bind (Lflat_twice_0 k k l l (((List.length l) : Nat) : Int) (0 : Int) []) fun r2 =>
  (some ((((List.length r2.2) : Nat) : Int) != (((List.length r2.1) : Nat) : Int)))
def Fflat_twice : Nat → List ByteArray → Option (Bool)
  | 0, _ => none
  | k + 1, l => bflat_twice k l
def shflat_twice : FS := { vs := [.a (.lf (.sl .str))], bs := [] }
def rsflat_twice : List FS := [{ vs := [.a (.lf .bool)], bs := [] }]
def Iflat_twice (k : Nat) : Inst := ⟨40, shflat_twice, rsflat_twice, fun x => Fflat_twice k x⟩
theorem alflat_twice (k : Nat) : AllI (call cf k) [] := True.intro
def hsflat_twice_0 : List SS := [{ fr := [(0, .a (.lf (.sl .str))), (3, .a (.mp 0)), (7, .a (.lf (.sl .str))), (8, .a (.lf (.int .i64))), (9, .a (.lf (.int .i64)))], mem := [(0, some (.map .str (.int .i64) 88 false))], nx := 1 }]
def osflat_twice_0 : List OS := [⟨some 0, { fr := [(0, .a (.lf (.sl .str))), (3, .a (.mp 0))], mem := [(0, some (.map .str (.int .i64) 88 false))], nx := 1 }⟩]
def LIflat_twice_0 (k : Nat) : LInst := ⟨0, hsflat_twice_0, osflat_twice_0, fun x => Lflat_twice_0 k k x.1 x.2.1 x.2.2.1 x.2.2.2.1 x.2.2.2.2⟩
theorem anflat_twice_0 (k : Nat) : LAll (LOk (R := DS OS.D osflat_twice_0) (fun b _ σ K => LOt Ty (kps 40) 0 b σ K []) cf (call cf k) (kps 40) Tryd.f40.ntmps k 0) 0 (lb Tryd.f40 0) :=
  And.intro (True.intro) (And.intro (And.intro (True.intro) (True.intro)) (And.intro (And.intro (True.intro) (True.intro)) (True.intro)))
theorem stflat_twice_0 (k n : Nat) (x : DS SS.D hsflat_twice_0) : Lflat_twice_0 k (n + 1) x.1 x.2.1 x.2.2.1 x.2.2.2.1 x.2.2.2.2 = encSK SS.enc (fun σ => run2 cf (fun f a b K => COt f a b K []) (fun b _ σ K => LOt Ty (kps 40) 0 b σ K []) Tryd.f40.ntmps 0 (lb Tryd.f40 0) σ (nextK Ty (kps 40 0) 0 hsflat_twice_0 osflat_twice_0 fun x => Lflat_twice_0 k n x.1 x.2.1 x.2.2.1 x.2.2.2.1 x.2.2.2.2)) hsflat_twice_0 x := by kernel_rfl
theorem loflat_twice_0 (k : Nat) : LIOk cf (call cf k) (kps 40) Tryd.f40.ntmps k 0 0 (lb Tryd.f40 0) (LIflat_twice_0 k) :=
  loop_ok (c := cf) (callF := call cf k) (kp := kps 40) (nt := Tryd.f40.ntmps) (k := k) (p := 0) (b := 0) (x0 := lb Tryd.f40 0) (hs := hsflat_twice_0) (os := osflat_twice_0) (COt_ok (alflat_twice k)) (anflat_twice_0 k) (fun n x => Lflat_twice_0 k n x.1 x.2.1 x.2.2.1 x.2.2.2.1 x.2.2.2.2) (fun _ => rfl) (stflat_twice_0 k)
theorem anflat_twice (k : Nat) : LAll (LOk (R := DS FS.D rsflat_twice) (fun b _ σ K => LOt Ty (kps 40) 0 b σ K [LIflat_twice_0 k]) cf (call cf k) (cf.keep 40) Tryd.f40.ntmps k shflat_twice.bs.length) 0 (bd Tryd.f40) :=
  And.intro (True.intro) (And.intro (True.intro) (And.intro (And.intro (True.intro) (LOt_ok (c := cf) (callF := call cf k) (kp := kps 40) (nt := Tryd.f40.ntmps) (k := k) (p := 0) (b := 0) (x0 := lb Tryd.f40 0) (l := [LIflat_twice_0 k]) (And.intro (fun _ => loflat_twice_0 k) (True.intro)))) (And.intro (True.intro) (True.intro))))
theorem stflat_twice (k : Nat) (x : shflat_twice.D) : Fflat_twice (k + 1) x = body2 cf (fun f a b K => COt f a b K []) (fun b _ σ K => LOt Ty (kps 40) 0 b σ K [LIflat_twice_0 k]) 40 Tryd.f40.ntmps Tryd.f40.results.toList (bd Tryd.f40) (shflat_twice.enc x).1 (shflat_twice.enc x).2 (putS FS.dec rsflat_twice) := by kernel_rfl
theorem okflat_twice : ∀ k, InstOk (call cf k) (Iflat_twice k)
  | 0 => fun x y e => absurd (show (none : Option _) = some y from e) (by simp)
  | k + 1 => inst_ok (c := cf) (k := k) (f := 40) (fn := Tryd.f40) (body := bd Tryd.f40) (sh := shflat_twice) (os := rsflat_twice) rfl Tryd.func40 rfl ⟨rfl, Nat.le_of_ble_eq_true rfl⟩ (COt_ok (alflat_twice k)) (anflat_twice k) (fun x => Fflat_twice (k + 1) x) (stflat_twice k)

/-! unicode/utf8.RuneCountInString -/
def bunicode_utf8_RuneCountInString (k : Nat) (s : ByteArray) : Option (Empty) :=
  none
def Funicode_utf8_RuneCountInString : Nat → ByteArray → Option (Empty)
  | 0, _ => none
  | k + 1, s => bunicode_utf8_RuneCountInString k s
def shunicode_utf8_RuneCountInString : FS := { vs := [.a (.lf .str)], bs := [] }
def rsunicode_utf8_RuneCountInString : List FS := []
def Iunicode_utf8_RuneCountInString (k : Nat) : Inst := ⟨72, shunicode_utf8_RuneCountInString, rsunicode_utf8_RuneCountInString, fun x => Funicode_utf8_RuneCountInString k x⟩
theorem alunicode_utf8_RuneCountInString (k : Nat) : AllI (call cf k) [] := True.intro
theorem anunicode_utf8_RuneCountInString (k : Nat) : LAll (LOk (R := DS FS.D rsunicode_utf8_RuneCountInString) (fun b _ σ K => LOt Ty (kps 72) 0 b σ K []) cf (call cf k) (cf.keep 72) Tryd.f72.ntmps k shunicode_utf8_RuneCountInString.bs.length) 0 (bd Tryd.f72) :=
  And.intro (True.intro) (And.intro (And.intro (True.intro) (LOt_ok (c := cf) (callF := call cf k) (kp := kps 72) (nt := Tryd.f72.ntmps) (k := k) (p := 0) (b := 0) (x0 := lb Tryd.f72 0) (l := []) (True.intro))) (And.intro (True.intro) (True.intro)))
theorem stunicode_utf8_RuneCountInString (k : Nat) (x : shunicode_utf8_RuneCountInString.D) : Funicode_utf8_RuneCountInString (k + 1) x = body2 cf (fun f a b K => COt f a b K []) (fun b _ σ K => LOt Ty (kps 72) 0 b σ K []) 72 Tryd.f72.ntmps Tryd.f72.results.toList (bd Tryd.f72) (shunicode_utf8_RuneCountInString.enc x).1 (shunicode_utf8_RuneCountInString.enc x).2 (putS FS.dec rsunicode_utf8_RuneCountInString) := by kernel_rfl
theorem okunicode_utf8_RuneCountInString : ∀ k, InstOk (call cf k) (Iunicode_utf8_RuneCountInString k)
  | 0 => fun x y e => absurd (show (none : Option _) = some y from e) (by simp)
  | k + 1 => inst_ok (c := cf) (k := k) (f := 72) (fn := Tryd.f72) (body := bd Tryd.f72) (sh := shunicode_utf8_RuneCountInString) (os := rsunicode_utf8_RuneCountInString) rfl Tryd.func72 rfl ⟨rfl, Nat.le_of_ble_eq_true rfl⟩ (COt_ok (alunicode_utf8_RuneCountInString k)) (anunicode_utf8_RuneCountInString k) (fun x => Funicode_utf8_RuneCountInString (k + 1) x) (stunicode_utf8_RuneCountInString k)

/-! strings.explode -/
def bstrings_explode (k : Nat) (s : ByteArray) (n : Int) : Option (Empty) :=
  Option.bind (Funicode_utf8_RuneCountInString k s) fun r3 =>
  nomatch r3
def Fstrings_explode : Nat → ByteArray → Int → Option (Empty)
  | 0, _, _ => none
  | k + 1, s, n => bstrings_explode k s n
def shstrings_explode : FS := { vs := [.a (.lf .str), .a (.lf (.int .i64))], bs := [] }
def rsstrings_explode : List FS := []
def Istrings_explode (k : Nat) : Inst := ⟨67, shstrings_explode, rsstrings_explode, fun x => Fstrings_explode k x.1 x.2⟩
theorem alstrings_explode (k : Nat) : AllI (call cf k) [Iunicode_utf8_RuneCountInString k] := And.intro (okunicode_utf8_RuneCountInString k) (True.intro)
theorem anstrings_explode (k : Nat) : LAll (LOk (R := DS FS.D rsstrings_explode) (fun b _ σ K => LOt Ty (kps 67) 0 b σ K []) cf (call cf k) (cf.keep 67) Tryd.f67.ntmps k shstrings_explode.bs.length) 0 (bd Tryd.f67) :=
  And.intro (True.intro) (And.intro (True.intro) (And.intro (And.intro (True.intro) (And.intro (True.intro) (True.intro))) (And.intro (True.intro) (And.intro (And.intro (True.intro) (LOt_ok (c := cf) (callF := call cf k) (kp := kps 67) (nt := Tryd.f67.ntmps) (k := k) (p := 0) (b := 0) (x0 := lb Tryd.f67 0) (l := []) (True.intro))) (And.intro (And.intro (True.intro) (And.intro (True.intro) (True.intro))) (And.intro (True.intro) (True.intro)))))))
theorem ststrings_explode (k : Nat) (x : shstrings_explode.D) : Fstrings_explode (k + 1) x.1 x.2 = body2 cf (fun f a b K => COt f a b K [Iunicode_utf8_RuneCountInString k]) (fun b _ σ K => LOt Ty (kps 67) 0 b σ K []) 67 Tryd.f67.ntmps Tryd.f67.results.toList (bd Tryd.f67) (shstrings_explode.enc x).1 (shstrings_explode.enc x).2 (putS FS.dec rsstrings_explode) := by kernel_rfl
theorem okstrings_explode : ∀ k, InstOk (call cf k) (Istrings_explode k)
  | 0 => fun x y e => absurd (show (none : Option _) = some y from e) (by simp)
  | k + 1 => inst_ok (c := cf) (k := k) (f := 67) (fn := Tryd.f67) (body := bd Tryd.f67) (sh := shstrings_explode) (os := rsstrings_explode) rfl Tryd.func67 rfl ⟨rfl, Nat.le_of_ble_eq_true rfl⟩ (COt_ok (alstrings_explode k)) (anstrings_explode k) (fun x => Fstrings_explode (k + 1) x.1 x.2) (ststrings_explode k)

/-! strings.Count -/
def bstrings_Count (k : Nat) (s : ByteArray) (substr : ByteArray) : Option (Int) :=
  if ((List.length (Array.toList (ByteArray.data substr))) = 1) then
    (some (cntS s substr))
  else
  none
def Fstrings_Count : Nat → ByteArray → ByteArray → Option (Int)
  | 0, _, _ => none
  | k + 1, s, substr => bstrings_Count k s substr
def shstrings_Count : FS := { vs := [.a (.lf .str), .a (.lf .str)], bs := [] }
def rsstrings_Count : List FS := [{ vs := [.a (.lf (.int .i64))], bs := [] }]
def Istrings_Count (k : Nat) : Inst := ⟨68, shstrings_Count, rsstrings_Count, fun x => Fstrings_Count k x.1 x.2⟩
theorem alstrings_Count (k : Nat) : AllI (call cf k) [] := True.intro
theorem ststrings_Count (k : Nat) (x : shstrings_Count.D) : Fstrings_Count (k + 1) x.1 x.2 = (kCountS) (DS FS.D rsstrings_Count) (shstrings_Count.enc x).1 (shstrings_Count.enc x).2 (putS FS.dec rsstrings_Count) := by kernel_rfl
theorem okstrings_Count : ∀ k, InstOk (call cf k) (Istrings_Count k)
  | 0 => fun x y e => absurd (show (none : Option _) = some y from e) (by simp)
  | k + 1 => inst_okX (c := cf) (k := k) (f := 68) (g := gCountS) (G := kCountS) (sh := shstrings_Count) (os := rsstrings_Count) rfl (kCountS_at) (fun x => Fstrings_Count (k + 1) x.1 x.2) (ststrings_Count k)

/-! strings.Index -/
def bstrings_Index (k : Nat) (s : ByteArray) (substr : ByteArray) : Option (Int) :=
  if ((List.length (Array.toList (ByteArray.data substr))) = 1) then
    (some (idxS s substr))
  else
  none
def Fstrings_Index : Nat → ByteArray → ByteArray → Option (Int)
  | 0, _, _ => none
  | k + 1, s, substr => bstrings_Index k s substr
def shstrings_Index : FS := { vs := [.a (.lf .str), .a (.lf .str)], bs := [] }
def rsstrings_Index : List FS := [{ vs := [.a (.lf (.int .i64))], bs := [] }]
def Istrings_Index (k : Nat) : Inst := ⟨69, shstrings_Index, rsstrings_Index, fun x => Fstrings_Index k x.1 x.2⟩
theorem alstrings_Index (k : Nat) : AllI (call cf k) [] := True.intro
theorem ststrings_Index (k : Nat) (x : shstrings_Index.D) : Fstrings_Index (k + 1) x.1 x.2 = (kIndexS) (DS FS.D rsstrings_Index) (shstrings_Index.enc x).1 (shstrings_Index.enc x).2 (putS FS.dec rsstrings_Index) := by kernel_rfl
theorem okstrings_Index : ∀ k, InstOk (call cf k) (Istrings_Index k)
  | 0 => fun x y e => absurd (show (none : Option _) = some y from e) (by simp)
  | k + 1 => inst_okX (c := cf) (k := k) (f := 69) (g := gIndexS) (G := kIndexS) (sh := shstrings_Index) (os := rsstrings_Index) rfl (kIndexS_at) (fun x => Fstrings_Index (k + 1) x.1 x.2) (ststrings_Index k)

/-! strings.genSplit -/
def Lstrings_genSplit_0s (k : Nat) (rec : ByteArray → ByteArray → Int → Int → Nat → Int → List ByteArray → Option (ByteArray × Nat × Int × List ByteArray)) (s : ByteArray) (sep : ByteArray) (sepSave : Int) (n : Int) (a : Nat) (i : Int) (as1 : List ByteArray) : Option (ByteArray × Nat × Int × List ByteArray) :=
  if ((decide (i < n)) = true) then
    Option.bind (Fstrings_Index k s sep) fun r4 =>
    if ((decide (r4 < (0 : Int))) = true) then
      (some (s, a, i, as1))
    else
    if (((0 : Int) ≤ (0 : Int)) ∧ (((0 : Int) ≤ (IntKind.wrap .i64 (r4 + sepSave))) ∧ ((IntKind.wrap .i64 (r4 + sepSave)) ≤ (((ByteArray.size s) : Nat) : Int)))) then
      if (((0 : Int) ≤ i) ∧ (i < ((a : Nat) : Int))) then
        Option.bind (as1)[(0 + (Int.toNat i))]? fun x4 =>
        if (((0 : Int) ≤ (IntKind.wrap .i64 (r4 + (((ByteArray.size sep) : Nat) : Int)))) ∧ (((IntKind.wrap .i64 (r4 + (((ByteArray.size sep) : Nat) : Int))) ≤ (((ByteArray.size s) : Nat) : Int)) ∧ ((((ByteArray.size s) : Nat) : Int) ≤ (((ByteArray.size s) : Nat) : Int)))) then
          rec (ByteArray.extract s (Int.toNat (IntKind.wrap .i64 (r4 + (((ByteArray.size sep) : Nat) : Int)))) (Int.toNat (((ByteArray.size s) : Nat) : Int))) sep sepSave n a (IntKind.wrap .i64 (i + (1 : Int))) (List.set as1 (0 + (Int.toNat i)) (ByteArray.extract s 0 (Int.toNat (IntKind.wrap .i64 (r4 + sepSave)))))
        else
        none
      else
      none
    else
    none
  else
  (some (s, a, i, as1))
def Lstrings_genSplit_0 (k n : Nat) : ByteArray → ByteArray → Int → Int → Nat → Int → List ByteArray → Option (ByteArray × Nat × Int × List ByteArray) := Nat.rec (fun _ _ _ _ _ _ _ => none) (fun _ r => Lstrings_genSplit_0s k r) n
def bstrings_genSplit (k : Nat) (s : ByteArray) (sep : ByteArray) (sepSave : Int) (n : Int) : Option (List ByteArray) :=
  if ((n == (0 : Int)) = true) then
    (some [])
  else
  if (((Array.toList (ByteArray.data sep)) == (Array.toList (ByteArray.data (ByteArray.mk (List.toArray []))))) = true) then
    Option.bind (Fstrings_explode k s n) fun r3 =>
    nomatch r3
  else
  if ((decide (n < (0 : Int))) = true) then
    Option.bind (Fstrings_Count k s sep) fun r3 =>
    if (((0 : Int) ≤ (min (IntKind.wrap .i64 (r3 + (1 : Int))) (IntKind.wrap .i64 ((((ByteArray.size s) : Nat) : Int) + (1 : Int))))) ∧ (((min (IntKind.wrap .i64 (r3 + (1 : Int))) (IntKind.wrap .i64 ((((ByteArray.size s) : Nat) : Int) + (1 : Int)))) ≤ (min (IntKind.wrap .i64 (r3 + (1 : Int))) (IntKind.wrap .i64 ((((ByteArray.size s) : Nat) : Int) + (1 : Int))))) ∧ (((min (IntKind.wrap .i64 (r3 + (1 : Int))) (IntKind.wrap .i64 ((((ByteArray.size s) : Nat) : Int) + (1 : Int)))) * (16 : Int)) ≤ (140737488355328 : Int)))) then
      Option.bind (Lstrings_genSplit_0 k k s sep sepSave (IntKind.wrap .i64 ((min (IntKind.wrap .i64 (r3 + (1 : Int))) (IntKind.wrap .i64 ((((ByteArray.size s) : Nat) : Int) + (1 : Int)))) - (1 : Int))) (Int.toNat (min (IntKind.wrap .i64 (r3 + (1 : Int))) (IntKind.wrap .i64 ((((ByteArray.size s) : Nat) : Int) + (1 : Int))))) (0 : Int) (List.replicate (Int.toNat (min (IntKind.wrap .i64 (r3 + (1 : Int))) (IntKind.wrap .i64 ((((ByteArray.size s) : Nat) : Int) + (1 : Int))))) (ByteArray.mk (List.toArray [])))) fun r4 =>
      if (((0 : Int) ≤ r4.2.2.1) ∧ (r4.2.2.1 < ((r4.2.1 : Nat) : Int))) then
        Option.bind (r4.2.2.2)[(0 + (Int.toNat r4.2.2.1))]? fun x4 =>
        if (((0 : Int) ≤ (0 : Int)) ∧ (((0 : Int) ≤ (IntKind.wrap .i64 (r4.2.2.1 + (1 : Int)))) ∧ (((0 + (Int.toNat (IntKind.wrap .i64 (r4.2.2.1 + (1 : Int))))) ≤ (List.length (List.set r4.2.2.2 (0 + (Int.toNat r4.2.2.1)) r4.1))) ∧ (((0 : Int) < (IntKind.wrap .i64 (r4.2.2.1 + (1 : Int)))) ∨ (true = true))))) then
          if ((0 + (Int.toNat (IntKind.wrap .i64 (r4.2.2.1 + (1 : Int))))) ≤ (List.length (List.set r4.2.2.2 (0 + (Int.toNat r4.2.2.1)) r4.1))) then
            (some (List.take (Int.toNat (IntKind.wrap .i64 (r4.2.2.1 + (1 : Int)))) (List.set r4.2.2.2 (0 + (Int.toNat r4.2.2.1)) r4.1)))
          else
          none
        else
        none
      else
      none
    else
    none
  else
  if (((0 : Int) ≤ (min n (IntKind.wrap .i64 ((((ByteArray.size s) : Nat) : Int) + (1 : Int))))) ∧ (((min n (IntKind.wrap .i64 ((((ByteArray.size s) : Nat) : Int) + (1 : Int)))) ≤ (min n (IntKind.wrap .i64 ((((ByteArray.size s) : Nat) : Int) + (1 : Int))))) ∧ (((min n (IntKind.wrap .i64 ((((ByteArray.size s) : Nat) : Int) + (1 : Int)))) * (16 : Int)) ≤ (140737488355328 : Int)))) then
    Option.bind (Lstrings_genSplit_0 k k s sep sepSave (IntKind.wrap .i64 ((min n (IntKind.wrap .i64 ((((ByteArray.size s) : Nat) : Int) + (1 : Int)))) - (1 : Int))) (Int.toNat (min n (IntKind.wrap .i64 ((((ByteArray.size s) : Nat) : Int) + (1 : Int))))) (0 : Int) (List.replicate (Int.toNat (min n (IntKind.wrap .i64 ((((ByteArray.size s) : Nat) : Int) + (1 : Int))))) (ByteArray.mk (List.toArray [])))) fun r3 =>
    if (((0 : Int) ≤ r3.2.2.1) ∧ (r3.2.2.1 < ((r3.2.1 : Nat) : Int))) then
      Option.bind (r3.2.2.2)[(0 + (Int.toNat r3.2.2.1))]? fun x4 =>
      if (((0 : Int) ≤ (0 : Int)) ∧ (((0 : Int) ≤ (IntKind.wrap .i64 (r3.2.2.1 + (1 : Int)))) ∧ (((0 + (Int.toNat (IntKind.wrap .i64 (r3.2.2.1 + (1 : Int))))) ≤ (List.length (List.set r3.2.2.2 (0 + (Int.toNat r3.2.2.1)) r3.1))) ∧ (((0 : Int) < (IntKind.wrap .i64 (r3.2.2.1 + (1 : Int)))) ∨ (true = true))))) then
        if ((0 + (Int.toNat (IntKind.wrap .i64 (r3.2.2.1 + (1 : Int))))) ≤ (List.length (List.set r3.2.2.2 (0 + (Int.toNat r3.2.2.1)) r3.1))) then
          (some (List.take (Int.toNat (IntKind.wrap .i64 (r3.2.2.1 + (1 : Int)))) (List.set r3.2.2.2 (0 + (Int.toNat r3.2.2.1)) r3.1)))
        else
        none
      else
      none
    else
    none
  else
  none
def Fstrings_genSplit : Nat → ByteArray → ByteArray → Int → Int → Option (List ByteArray)
  | 0, _, _, _, _ => none
  | k + 1, s, sep, sepSave, n => bstrings_genSplit k s sep sepSave n
def shstrings_genSplit : FS := { vs := [.a (.lf .str), .a (.lf .str), .a (.lf (.int .i64)), .a (.lf (.int .i64))], bs := [] }
def rsstrings_genSplit : List FS := [{ vs := [.a (.lf (.sl .str))], bs := [] }]
def Istrings_genSplit (k : Nat) : Inst := ⟨62, shstrings_genSplit, rsstrings_genSplit, fun x => Fstrings_genSplit k x.1 x.2.1 x.2.2.1 x.2.2.2⟩
theorem alstrings_genSplit (k : Nat) : AllI (call cf k) [Istrings_explode k, Istrings_Count k, Istrings_Index k] := And.intro (okstrings_explode k) (And.intro (okstrings_Count k) (And.intro (okstrings_Index k) (True.intro)))
def hsstrings_genSplit_0 : List SS := [{ fr := [(0, .a (.lf .str)), (1, .a (.lf .str)), (2, .a (.lf (.int .i64))), (3, .a (.lf (.int .i64))), (9, .a (.smz 0)), (10, .a (.lf (.int .i64)))], mem := [(0, some (.arr .str 1 9 false))], nx := 1 }]
def osstrings_genSplit_0 : List OS := [⟨some 0, { fr := [(0, .a (.lf .str)), (9, .a (.smz 0)), (10, .a (.lf (.int .i64)))], mem := [(0, some (.arr .str 1 9 false))], nx := 1 }⟩]
def LIstrings_genSplit_0 (k : Nat) : LInst := ⟨0, hsstrings_genSplit_0, osstrings_genSplit_0, fun x => Lstrings_genSplit_0 k k x.1 x.2.1 x.2.2.1 x.2.2.2.1 x.2.2.2.2.1 x.2.2.2.2.2.1 x.2.2.2.2.2.2⟩
theorem anstrings_genSplit_0 (k : Nat) : LAll (LOk (R := DS OS.D osstrings_genSplit_0) (fun b _ σ K => LOt Ty (kps 62) 0 b σ K []) cf (call cf k) (kps 62) Tryd.f62.ntmps k 0) 0 (lb Tryd.f62 0) :=
  And.intro (And.intro (True.intro) (And.intro (True.intro) (True.intro))) (And.intro (True.intro) (And.intro (And.intro (True.intro) (And.intro (True.intro) (True.intro))) (And.intro (True.intro) (And.intro (True.intro) (True.intro)))))
theorem ststrings_genSplit_0 (k n : Nat) (x : DS SS.D hsstrings_genSplit_0) : Lstrings_genSplit_0 k (n + 1) x.1 x.2.1 x.2.2.1 x.2.2.2.1 x.2.2.2.2.1 x.2.2.2.2.2.1 x.2.2.2.2.2.2 = encSK SS.enc (fun σ => run2 cf (fun f a b K => COt f a b K [Istrings_explode k, Istrings_Count k, Istrings_Index k]) (fun b _ σ K => LOt Ty (kps 62) 0 b σ K []) Tryd.f62.ntmps 0 (lb Tryd.f62 0) σ (nextK Ty (kps 62 0) 0 hsstrings_genSplit_0 osstrings_genSplit_0 fun x => Lstrings_genSplit_0 k n x.1 x.2.1 x.2.2.1 x.2.2.2.1 x.2.2.2.2.1 x.2.2.2.2.2.1 x.2.2.2.2.2.2)) hsstrings_genSplit_0 x := by kernel_rfl
theorem lostrings_genSplit_0 (k : Nat) : LIOk cf (call cf k) (kps 62) Tryd.f62.ntmps k 0 0 (lb Tryd.f62 0) (LIstrings_genSplit_0 k) :=
  loop_ok (c := cf) (callF := call cf k) (kp := kps 62) (nt := Tryd.f62.ntmps) (k := k) (p := 0) (b := 0) (x0 := lb Tryd.f62 0) (hs := hsstrings_genSplit_0) (os := osstrings_genSplit_0) (COt_ok (alstrings_genSplit k)) (anstrings_genSplit_0 k) (fun n x => Lstrings_genSplit_0 k n x.1 x.2.1 x.2.2.1 x.2.2.2.1 x.2.2.2.2.1 x.2.2.2.2.2.1 x.2.2.2.2.2.2) (fun _ => rfl) (ststrings_genSplit_0 k)
theorem anstrings_genSplit (k : Nat) : LAll (LOk (R := DS FS.D rsstrings_genSplit) (fun b _ σ K => LOt Ty (kps 62) 0 b σ K [LIstrings_genSplit_0 k]) cf (call cf k) (cf.keep 62) Tryd.f62.ntmps k shstrings_genSplit.bs.length) 0 (bd Tryd.f62) :=
  And.intro (True.intro) (And.intro (And.intro (True.intro) (And.intro (And.intro (True.intro) (True.intro)) (True.intro))) (And.intro (And.intro (True.intro) (And.intro (And.intro (True.intro) (True.intro)) (True.intro))) (And.intro (And.intro (True.intro) (And.intro (True.intro) (True.intro))) (And.intro (True.intro) (And.intro (True.intro) (And.intro (True.intro) (And.intro (True.intro) (And.intro (LOt_ok (c := cf) (callF := call cf k) (kp := kps 62) (nt := Tryd.f62.ntmps) (k := k) (p := 0) (b := 0) (x0 := lb Tryd.f62 0) (l := [LIstrings_genSplit_0 k]) (And.intro (fun _ => lostrings_genSplit_0 k) (True.intro))) (And.intro (True.intro) (And.intro (True.intro) (True.intro)))))))))))
theorem ststrings_genSplit (k : Nat) (x : shstrings_genSplit.D) : Fstrings_genSplit (k + 1) x.1 x.2.1 x.2.2.1 x.2.2.2 = body2 cf (fun f a b K => COt f a b K [Istrings_explode k, Istrings_Count k, Istrings_Index k]) (fun b _ σ K => LOt Ty (kps 62) 0 b σ K [LIstrings_genSplit_0 k]) 62 Tryd.f62.ntmps Tryd.f62.results.toList (bd Tryd.f62) (shstrings_genSplit.enc x).1 (shstrings_genSplit.enc x).2 (putS FS.dec rsstrings_genSplit) := by kernel_rfl
theorem okstrings_genSplit : ∀ k, InstOk (call cf k) (Istrings_genSplit k)
  | 0 => fun x y e => absurd (show (none : Option _) = some y from e) (by simp)
  | k + 1 => inst_ok (c := cf) (k := k) (f := 62) (fn := Tryd.f62) (body := bd Tryd.f62) (sh := shstrings_genSplit) (os := rsstrings_genSplit) rfl Tryd.func62 rfl ⟨rfl, Nat.le_of_ble_eq_true rfl⟩ (COt_ok (alstrings_genSplit k)) (anstrings_genSplit k) (fun x => Fstrings_genSplit (k + 1) x.1 x.2.1 x.2.2.1 x.2.2.2) (ststrings_genSplit k)

/-! strings.Split -/
def bstrings_Split (k : Nat) (s : ByteArray) (sep : ByteArray) : Option (List ByteArray) :=
  Option.bind (Fstrings_genSplit k s sep (0 : Int) (-(1 : Int))) fun r3 =>
  (some r3)
def Fstrings_Split : Nat → ByteArray → ByteArray → Option (List ByteArray)
  | 0, _, _ => none
  | k + 1, s, sep => bstrings_Split k s sep
def shstrings_Split : FS := { vs := [.a (.lf .str), .a (.lf .str)], bs := [] }
def rsstrings_Split : List FS := [{ vs := [.a (.lf (.sl .str))], bs := [] }]
def Istrings_Split (k : Nat) : Inst := ⟨49, shstrings_Split, rsstrings_Split, fun x => Fstrings_Split k x.1 x.2⟩
theorem alstrings_Split (k : Nat) : AllI (call cf k) [Istrings_genSplit k] := And.intro (okstrings_genSplit k) (True.intro)
theorem anstrings_Split (k : Nat) : LAll (LOk (R := DS FS.D rsstrings_Split) (fun b _ σ K => LOt Ty (kps 49) 0 b σ K []) cf (call cf k) (cf.keep 49) Tryd.f49.ntmps k shstrings_Split.bs.length) 0 (bd Tryd.f49) :=
  And.intro (True.intro) (And.intro (True.intro) (True.intro))
theorem ststrings_Split (k : Nat) (x : shstrings_Split.D) : Fstrings_Split (k + 1) x.1 x.2 = body2 cf (fun f a b K => COt f a b K [Istrings_genSplit k]) (fun b _ σ K => LOt Ty (kps 49) 0 b σ K []) 49 Tryd.f49.ntmps Tryd.f49.results.toList (bd Tryd.f49) (shstrings_Split.enc x).1 (shstrings_Split.enc x).2 (putS FS.dec rsstrings_Split) := by kernel_rfl
theorem okstrings_Split : ∀ k, InstOk (call cf k) (Istrings_Split k)
  | 0 => fun x y e => absurd (show (none : Option _) = some y from e) (by simp)
  | k + 1 => inst_ok (c := cf) (k := k) (f := 49) (fn := Tryd.f49) (body := bd Tryd.f49) (sh := shstrings_Split) (os := rsstrings_Split) rfl Tryd.func49 rfl ⟨rfl, Nat.le_of_ble_eq_true rfl⟩ (COt_ok (alstrings_Split k)) (anstrings_Split k) (fun x => Fstrings_Split (k + 1) x.1 x.2) (ststrings_Split k)

/-! shunt/model.Name -/
def Lmodel_Name_0s (k : Nat) (rec : List Int → Int → Int → Option ((Bool) ⊕ (Unit))) (x : List Int) (x1 : Int) (x2 : Int) : Option ((Bool) ⊕ (Unit)) :=
  if ((decide (x2 < x1)) = true) then
    if ((0 : Int) ≤ x2) then
      Option.bind (x)[(Int.toNat x2)]? fun x5 =>
      if ((decide (x5 ≥ (97 : Int))) = true) then
        if ((decide (x5 ≤ (122 : Int))) = false) then
          if ((decide (x5 ≥ (48 : Int))) = true) then
            if ((decide (x5 ≤ (57 : Int))) = false) then
              if ((!(x5 == (95 : Int))) = true) then
                (some (Sum.inl false))
              else
              rec x x1 (IntKind.wrap .i64 (x2 + (1 : Int)))
            else
            rec x x1 (IntKind.wrap .i64 (x2 + (1 : Int)))
          else
          if ((!(x5 == (95 : Int))) = true) then
            (some (Sum.inl false))
          else
          rec x x1 (IntKind.wrap .i64 (x2 + (1 : Int)))
        else
        rec x x1 (IntKind.wrap .i64 (x2 + (1 : Int)))
      else
      if ((decide (x5 ≥ (48 : Int))) = true) then
        if ((decide (x5 ≤ (57 : Int))) = false) then
          if ((!(x5 == (95 : Int))) = true) then
            (some (Sum.inl false))
          else
          rec x x1 (IntKind.wrap .i64 (x2 + (1 : Int)))
        else
        rec x x1 (IntKind.wrap .i64 (x2 + (1 : Int)))
      else
      if ((!(x5 == (95 : Int))) = true) then
        (some (Sum.inl false))
      else
      rec x x1 (IntKind.wrap .i64 (x2 + (1 : Int)))
    else
    none
  else
  (some (Sum.inr ()))
def Lmodel_Name_0 (k n : Nat) : List Int → Int → Int → Option ((Bool) ⊕ (Unit)) := Nat.rec (fun _ _ _ => none) (fun _ r => Lmodel_Name_0s k r) n
def bmodel_Name (k : Nat) (s : ByteArray) : Option (Bool) :=
  if ((decide ((((ByteArray.size s) : Nat) : Int) < (1 : Int))) = false) then
    if ((decide ((((ByteArray.size s) : Nat) : Int) > (16 : Int))) = true) then
      (some false)
    else
    Option.bind (Lmodel_Name_0 k k (List.map (fun b : UInt8 => ((UInt8.toNat b : Nat) : Int)) (Array.toList (ByteArray.data s))) (((List.length (List.map (fun b : UInt8 => ((UInt8.toNat b : Nat) : Int)) (Array.toList (ByteArray.data s)))) : Nat) : Int) (0 : Int)) fun r4 =>
    eitherK r4
      (fun r4 =>
      (some r4))
      (fun r4 =>
      (some true))
  else
  (some false)
def Fmodel_Name : Nat → ByteArray → Option (Bool)
  | 0, _ => none
  | k + 1, s => bmodel_Name k s
def shmodel_Name : FS := { vs := [.a (.lf .str)], bs := [] }
def rsmodel_Name : List FS := [{ vs := [.a (.lf .bool)], bs := [] }]
def Imodel_Name (k : Nat) : Inst := ⟨65, shmodel_Name, rsmodel_Name, fun x => Fmodel_Name k x⟩
theorem almodel_Name (k : Nat) : AllI (call cf k) [] := True.intro
def hsmodel_Name_0 : List SS := [{ fr := [(14, .a (.lf (.sl (.int .u8)))), (15, .a (.lf (.int .i64))), (16, .a (.lf (.int .i64)))], mem := [], nx := 0 }]
def osmodel_Name_0 : List OS := [⟨none, { fr := [(2, .a (.lf .bool))], mem := [], nx := 0 }⟩, ⟨some 0, { fr := [], mem := [], nx := 0 }⟩]
def LImodel_Name_0 (k : Nat) : LInst := ⟨0, hsmodel_Name_0, osmodel_Name_0, fun x => Lmodel_Name_0 k k x.1 x.2.1 x.2.2⟩
theorem anmodel_Name_0 (k : Nat) : LAll (LOk (R := DS OS.D osmodel_Name_0) (fun b _ σ K => LOt Ty (kps 65) 0 b σ K []) cf (call cf k) (kps 65) Tryd.f65.ntmps k 0) 0 (lb Tryd.f65 0) :=
  And.intro (True.intro) (And.intro (And.intro (True.intro) (True.intro)) (And.intro (And.intro (True.intro) (And.intro (True.intro) (And.intro (And.intro (True.intro) (True.intro)) (True.intro)))) (True.intro)))
theorem stmodel_Name_0 (k n : Nat) (x : DS SS.D hsmodel_Name_0) : Lmodel_Name_0 k (n + 1) x.1 x.2.1 x.2.2 = encSK SS.enc (fun σ => run2 cf (fun f a b K => COt f a b K []) (fun b _ σ K => LOt Ty (kps 65) 0 b σ K []) Tryd.f65.ntmps 0 (lb Tryd.f65 0) σ (nextK Ty (kps 65 0) 0 hsmodel_Name_0 osmodel_Name_0 fun x => Lmodel_Name_0 k n x.1 x.2.1 x.2.2)) hsmodel_Name_0 x := by kernel_rfl
theorem lomodel_Name_0 (k : Nat) : LIOk cf (call cf k) (kps 65) Tryd.f65.ntmps k 0 0 (lb Tryd.f65 0) (LImodel_Name_0 k) :=
  loop_ok (c := cf) (callF := call cf k) (kp := kps 65) (nt := Tryd.f65.ntmps) (k := k) (p := 0) (b := 0) (x0 := lb Tryd.f65 0) (hs := hsmodel_Name_0) (os := osmodel_Name_0) (COt_ok (almodel_Name k)) (anmodel_Name_0 k) (fun n x => Lmodel_Name_0 k n x.1 x.2.1 x.2.2) (fun _ => rfl) (stmodel_Name_0 k)
theorem anmodel_Name (k : Nat) : LAll (LOk (R := DS FS.D rsmodel_Name) (fun b _ σ K => LOt Ty (kps 65) 0 b σ K [LImodel_Name_0 k]) cf (call cf k) (cf.keep 65) Tryd.f65.ntmps k shmodel_Name.bs.length) 0 (bd Tryd.f65) :=
  And.intro (True.intro) (And.intro (And.intro (True.intro) (And.intro (And.intro (True.intro) (True.intro)) (True.intro))) (And.intro (And.intro (True.intro) (LOt_ok (c := cf) (callF := call cf k) (kp := kps 65) (nt := Tryd.f65.ntmps) (k := k) (p := 0) (b := 0) (x0 := lb Tryd.f65 0) (l := [LImodel_Name_0 k]) (And.intro (fun _ => lomodel_Name_0 k) (True.intro)))) (And.intro (True.intro) (True.intro))))
theorem stmodel_Name (k : Nat) (x : shmodel_Name.D) : Fmodel_Name (k + 1) x = body2 cf (fun f a b K => COt f a b K []) (fun b _ σ K => LOt Ty (kps 65) 0 b σ K [LImodel_Name_0 k]) 65 Tryd.f65.ntmps Tryd.f65.results.toList (bd Tryd.f65) (shmodel_Name.enc x).1 (shmodel_Name.enc x).2 (putS FS.dec rsmodel_Name) := by kernel_rfl
theorem okmodel_Name : ∀ k, InstOk (call cf k) (Imodel_Name k)
  | 0 => fun x y e => absurd (show (none : Option _) = some y from e) (by simp)
  | k + 1 => inst_ok (c := cf) (k := k) (f := 65) (fn := Tryd.f65) (body := bd Tryd.f65) (sh := shmodel_Name) (os := rsmodel_Name) rfl Tryd.func65 rfl ⟨rfl, Nat.le_of_ble_eq_true rfl⟩ (COt_ok (almodel_Name k)) (anmodel_Name k) (fun x => Fmodel_Name (k + 1) x) (stmodel_Name k)

/-! shunt/card.Name -/
def bcard_Name (k : Nat) (s : ByteArray) : Option (Bool) :=
  Option.bind (Fmodel_Name k s) fun r4 =>
  (some r4)
def Fcard_Name : Nat → ByteArray → Option (Bool)
  | 0, _ => none
  | k + 1, s => bcard_Name k s
def shcard_Name : FS := { vs := [.a (.lf .str)], bs := [] }
def rscard_Name : List FS := [{ vs := [.a (.lf .bool)], bs := [] }]
def Icard_Name (k : Nat) : Inst := ⟨56, shcard_Name, rscard_Name, fun x => Fcard_Name k x⟩
theorem alcard_Name (k : Nat) : AllI (call cf k) [Imodel_Name k] := And.intro (okmodel_Name k) (True.intro)
theorem ancard_Name (k : Nat) : LAll (LOk (R := DS FS.D rscard_Name) (fun b _ σ K => LOt Ty (kps 56) 0 b σ K []) cf (call cf k) (cf.keep 56) Tryd.f56.ntmps k shcard_Name.bs.length) 0 (bd Tryd.f56) :=
  And.intro (True.intro) (And.intro (True.intro) (True.intro))
theorem stcard_Name (k : Nat) (x : shcard_Name.D) : Fcard_Name (k + 1) x = body2 cf (fun f a b K => COt f a b K [Imodel_Name k]) (fun b _ σ K => LOt Ty (kps 56) 0 b σ K []) 56 Tryd.f56.ntmps Tryd.f56.results.toList (bd Tryd.f56) (shcard_Name.enc x).1 (shcard_Name.enc x).2 (putS FS.dec rscard_Name) := by kernel_rfl
theorem okcard_Name : ∀ k, InstOk (call cf k) (Icard_Name k)
  | 0 => fun x y e => absurd (show (none : Option _) = some y from e) (by simp)
  | k + 1 => inst_ok (c := cf) (k := k) (f := 56) (fn := Tryd.f56) (body := bd Tryd.f56) (sh := shcard_Name) (os := rscard_Name) rfl Tryd.func56 rfl ⟨rfl, Nat.le_of_ble_eq_true rfl⟩ (COt_ok (alcard_Name k)) (ancard_Name k) (fun x => Fcard_Name (k + 1) x) (stcard_Name k)

/-! shunt/flat.long$1 -/
def bflat_long_1 (k : Nat) (p : ByteArray) : Option (Bool) :=
  Option.bind (Fcard_Name k p) fun r4 =>
  (some (!r4))
def Fflat_long_1 : Nat → ByteArray → Option (Bool)
  | 0, _ => none
  | k + 1, p => bflat_long_1 k p
def shflat_long_1 : FS := { vs := [.a (.lf .str)], bs := [] }
def rsflat_long_1 : List FS := [{ vs := [.a (.lf .bool)], bs := [] }]
def Iflat_long_1 (k : Nat) : Inst := ⟨55, shflat_long_1, rsflat_long_1, fun x => Fflat_long_1 k x⟩
theorem alflat_long_1 (k : Nat) : AllI (call cf k) [Icard_Name k] := And.intro (okcard_Name k) (True.intro)
theorem anflat_long_1 (k : Nat) : LAll (LOk (R := DS FS.D rsflat_long_1) (fun b _ σ K => LOt Ty (kps 55) 0 b σ K []) cf (call cf k) (cf.keep 55) Tryd.f55.ntmps k shflat_long_1.bs.length) 0 (bd Tryd.f55) :=
  And.intro (True.intro) (And.intro (True.intro) (True.intro))
theorem stflat_long_1 (k : Nat) (x : shflat_long_1.D) : Fflat_long_1 (k + 1) x = body2 cf (fun f a b K => COt f a b K [Icard_Name k]) (fun b _ σ K => LOt Ty (kps 55) 0 b σ K []) 55 Tryd.f55.ntmps Tryd.f55.results.toList (bd Tryd.f55) (shflat_long_1.enc x).1 (shflat_long_1.enc x).2 (putS FS.dec rsflat_long_1) := by kernel_rfl
theorem okflat_long_1 : ∀ k, InstOk (call cf k) (Iflat_long_1 k)
  | 0 => fun x y e => absurd (show (none : Option _) = some y from e) (by simp)
  | k + 1 => inst_ok (c := cf) (k := k) (f := 55) (fn := Tryd.f55) (body := bd Tryd.f55) (sh := shflat_long_1) (os := rsflat_long_1) rfl Tryd.func55 rfl ⟨rfl, Nat.le_of_ble_eq_true rfl⟩ (COt_ok (alflat_long_1 k)) (anflat_long_1 k) (fun x => Fflat_long_1 (k + 1) x) (stflat_long_1 k)

/-! slices.IndexFunc[[]string,string] -/
def Lslices_IndexFunc_string_string__sel_0s (k : Nat) (rec : List ByteArray → Int → Int → Option ((Int) ⊕ (Unit))) (s : List ByteArray) (x : Int) (x1 : Int) : Option ((Int) ⊕ (Unit)) :=
  if ((decide (x1 < x)) = true) then
    if ((0 : Int) ≤ x1) then
      Option.bind (s)[(Int.toNat x1)]? fun x4 =>
      Option.bind (Fflat_long_1 k x4) fun r4 =>
      if (r4 = true) then
        (some (Sum.inl x1))
      else
      rec s x (IntKind.wrap .i64 (x1 + (1 : Int)))
    else
    none
  else
  (some (Sum.inr ()))
def Lslices_IndexFunc_string_string__sel_0 (k n : Nat) : List ByteArray → Int → Int → Option ((Int) ⊕ (Unit)) := Nat.rec (fun _ _ _ => none) (fun _ r => Lslices_IndexFunc_string_string__sel_0s k r) n
def bslices_IndexFunc_string_string__sel (k : Nat) (s : List ByteArray) : Option (Int) :=
  Option.bind (Lslices_IndexFunc_string_string__sel_0 k k s (((List.length s) : Nat) : Int) (0 : Int)) fun r4 =>
  eitherK r4
    (fun r4 =>
    (some r4))
    (fun r4 =>
    (some (-(1 : Int))))
def Fslices_IndexFunc_string_string__sel : Nat → List ByteArray → Option (Int)
  | 0, _ => none
  | k + 1, s => bslices_IndexFunc_string_string__sel k s
def shslices_IndexFunc_string_string__sel : FS := { vs := [.a (.lf (.sl .str)), .a (.fn 55 [])], bs := [] }
def rsslices_IndexFunc_string_string__sel : List FS := [{ vs := [.a (.lf (.int .i64))], bs := [] }]
def Islices_IndexFunc_string_string__sel (k : Nat) : Inst := ⟨63, shslices_IndexFunc_string_string__sel, rsslices_IndexFunc_string_string__sel, fun x => Fslices_IndexFunc_string_string__sel k x⟩
theorem alslices_IndexFunc_string_string__sel (k : Nat) : AllI (call cf k) [Iflat_long_1 k] := And.intro (okflat_long_1 k) (True.intro)
def hsslices_IndexFunc_string_string__sel_0 : List SS := [{ fr := [(0, .a (.lf (.sl .str))), (1, .a (.fn 55 [])), (7, .a (.lf (.int .i64))), (8, .a (.lf (.int .i64)))], mem := [], nx := 0 }]
def osslices_IndexFunc_string_string__sel_0 : List OS := [⟨none, { fr := [(4, .a (.lf (.int .i64)))], mem := [], nx := 0 }⟩, ⟨some 0, { fr := [], mem := [], nx := 0 }⟩]
def LIslices_IndexFunc_string_string__sel_0 (k : Nat) : LInst := ⟨0, hsslices_IndexFunc_string_string__sel_0, osslices_IndexFunc_string_string__sel_0, fun x => Lslices_IndexFunc_string_string__sel_0 k k x.1 x.2.1 x.2.2⟩
theorem anslices_IndexFunc_string_string__sel_0 (k : Nat) : LAll (LOk (R := DS OS.D osslices_IndexFunc_string_string__sel_0) (fun b _ σ K => LOt Ty (kps 63) 0 b σ K []) cf (call cf k) (kps 63) Tryd.f63.ntmps k 0) 0 (lb Tryd.f63 0) :=
  And.intro (True.intro) (And.intro (And.intro (True.intro) (True.intro)) (And.intro (And.intro (True.intro) (And.intro (True.intro) (And.intro (And.intro (True.intro) (True.intro)) (True.intro)))) (True.intro)))
theorem stslices_IndexFunc_string_string__sel_0 (k n : Nat) (x : DS SS.D hsslices_IndexFunc_string_string__sel_0) : Lslices_IndexFunc_string_string__sel_0 k (n + 1) x.1 x.2.1 x.2.2 = encSK SS.enc (fun σ => run2 cf (fun f a b K => COt f a b K [Iflat_long_1 k]) (fun b _ σ K => LOt Ty (kps 63) 0 b σ K []) Tryd.f63.ntmps 0 (lb Tryd.f63 0) σ (nextK Ty (kps 63 0) 0 hsslices_IndexFunc_string_string__sel_0 osslices_IndexFunc_string_string__sel_0 fun x => Lslices_IndexFunc_string_string__sel_0 k n x.1 x.2.1 x.2.2)) hsslices_IndexFunc_string_string__sel_0 x := by kernel_rfl
theorem loslices_IndexFunc_string_string__sel_0 (k : Nat) : LIOk cf (call cf k) (kps 63) Tryd.f63.ntmps k 0 0 (lb Tryd.f63 0) (LIslices_IndexFunc_string_string__sel_0 k) :=
  loop_ok (c := cf) (callF := call cf k) (kp := kps 63) (nt := Tryd.f63.ntmps) (k := k) (p := 0) (b := 0) (x0 := lb Tryd.f63 0) (hs := hsslices_IndexFunc_string_string__sel_0) (os := osslices_IndexFunc_string_string__sel_0) (COt_ok (alslices_IndexFunc_string_string__sel k)) (anslices_IndexFunc_string_string__sel_0 k) (fun n x => Lslices_IndexFunc_string_string__sel_0 k n x.1 x.2.1 x.2.2) (fun _ => rfl) (stslices_IndexFunc_string_string__sel_0 k)
theorem anslices_IndexFunc_string_string__sel (k : Nat) : LAll (LOk (R := DS FS.D rsslices_IndexFunc_string_string__sel) (fun b _ σ K => LOt Ty (kps 63) 0 b σ K [LIslices_IndexFunc_string_string__sel_0 k]) cf (call cf k) (cf.keep 63) Tryd.f63.ntmps k shslices_IndexFunc_string_string__sel.bs.length) 0 (bd Tryd.f63) :=
  And.intro (True.intro) (And.intro (And.intro (True.intro) (LOt_ok (c := cf) (callF := call cf k) (kp := kps 63) (nt := Tryd.f63.ntmps) (k := k) (p := 0) (b := 0) (x0 := lb Tryd.f63 0) (l := [LIslices_IndexFunc_string_string__sel_0 k]) (And.intro (fun _ => loslices_IndexFunc_string_string__sel_0 k) (True.intro)))) (And.intro (True.intro) (True.intro)))
theorem stslices_IndexFunc_string_string__sel (k : Nat) (x : shslices_IndexFunc_string_string__sel.D) : Fslices_IndexFunc_string_string__sel (k + 1) x = body2 cf (fun f a b K => COt f a b K [Iflat_long_1 k]) (fun b _ σ K => LOt Ty (kps 63) 0 b σ K [LIslices_IndexFunc_string_string__sel_0 k]) 63 Tryd.f63.ntmps Tryd.f63.results.toList (bd Tryd.f63) (shslices_IndexFunc_string_string__sel.enc x).1 (shslices_IndexFunc_string_string__sel.enc x).2 (putS FS.dec rsslices_IndexFunc_string_string__sel) := by kernel_rfl
theorem okslices_IndexFunc_string_string__sel : ∀ k, InstOk (call cf k) (Islices_IndexFunc_string_string__sel k)
  | 0 => fun x y e => absurd (show (none : Option _) = some y from e) (by simp)
  | k + 1 => inst_ok (c := cf) (k := k) (f := 63) (fn := Tryd.f63) (body := bd Tryd.f63) (sh := shslices_IndexFunc_string_string__sel) (os := rsslices_IndexFunc_string_string__sel) rfl Tryd.func63 rfl ⟨rfl, Nat.le_of_ble_eq_true rfl⟩ (COt_ok (alslices_IndexFunc_string_string__sel k)) (anslices_IndexFunc_string_string__sel k) (fun x => Fslices_IndexFunc_string_string__sel (k + 1) x) (stslices_IndexFunc_string_string__sel k)

/-! slices.ContainsFunc[[]string,string] -/
def bslices_ContainsFunc_string_string__sel (k : Nat) (s : List ByteArray) : Option (Bool) :=
  Option.bind (Fslices_IndexFunc_string_string__sel k s) fun r4 =>
  (some (decide (r4 ≥ (0 : Int))))
def Fslices_ContainsFunc_string_string__sel : Nat → List ByteArray → Option (Bool)
  | 0, _ => none
  | k + 1, s => bslices_ContainsFunc_string_string__sel k s
def shslices_ContainsFunc_string_string__sel : FS := { vs := [.a (.lf (.sl .str)), .a (.fn 55 [])], bs := [] }
def rsslices_ContainsFunc_string_string__sel : List FS := [{ vs := [.a (.lf .bool)], bs := [] }]
def Islices_ContainsFunc_string_string__sel (k : Nat) : Inst := ⟨50, shslices_ContainsFunc_string_string__sel, rsslices_ContainsFunc_string_string__sel, fun x => Fslices_ContainsFunc_string_string__sel k x⟩
theorem alslices_ContainsFunc_string_string__sel (k : Nat) : AllI (call cf k) [Islices_IndexFunc_string_string__sel k] := And.intro (okslices_IndexFunc_string_string__sel k) (True.intro)
theorem anslices_ContainsFunc_string_string__sel (k : Nat) : LAll (LOk (R := DS FS.D rsslices_ContainsFunc_string_string__sel) (fun b _ σ K => LOt Ty (kps 50) 0 b σ K []) cf (call cf k) (cf.keep 50) Tryd.f50.ntmps k shslices_ContainsFunc_string_string__sel.bs.length) 0 (bd Tryd.f50) :=
  And.intro (True.intro) (And.intro (True.intro) (True.intro))
theorem stslices_ContainsFunc_string_string__sel (k : Nat) (x : shslices_ContainsFunc_string_string__sel.D) : Fslices_ContainsFunc_string_string__sel (k + 1) x = body2 cf (fun f a b K => COt f a b K [Islices_IndexFunc_string_string__sel k]) (fun b _ σ K => LOt Ty (kps 50) 0 b σ K []) 50 Tryd.f50.ntmps Tryd.f50.results.toList (bd Tryd.f50) (shslices_ContainsFunc_string_string__sel.enc x).1 (shslices_ContainsFunc_string_string__sel.enc x).2 (putS FS.dec rsslices_ContainsFunc_string_string__sel) := by kernel_rfl
theorem okslices_ContainsFunc_string_string__sel : ∀ k, InstOk (call cf k) (Islices_ContainsFunc_string_string__sel k)
  | 0 => fun x y e => absurd (show (none : Option _) = some y from e) (by simp)
  | k + 1 => inst_ok (c := cf) (k := k) (f := 50) (fn := Tryd.f50) (body := bd Tryd.f50) (sh := shslices_ContainsFunc_string_string__sel) (os := rsslices_ContainsFunc_string_string__sel) rfl Tryd.func50 rfl ⟨rfl, Nat.le_of_ble_eq_true rfl⟩ (COt_ok (alslices_ContainsFunc_string_string__sel k)) (anslices_ContainsFunc_string_string__sel k) (fun x => Fslices_ContainsFunc_string_string__sel (k + 1) x) (stslices_ContainsFunc_string_string__sel k)

/-! shunt/flat.long -/
def bflat_long (k : Nat) (s : ByteArray) : Option (Bool) :=
  Option.bind (Fstrings_Split k s (ByteArray.mk (List.toArray (46 :: [])))) fun r3 =>
  if ((decide ((((List.length r3) : Nat) : Int) ≤ (9 : Int))) = true) then
    Option.bind (Fslices_ContainsFunc_string_string__sel k r3) fun r4 =>
    (some (!r4))
  else
  (some false)
def Fflat_long : Nat → ByteArray → Option (Bool)
  | 0, _ => none
  | k + 1, s => bflat_long k s
def shflat_long : FS := { vs := [.a (.lf .str)], bs := [] }
def rsflat_long : List FS := [{ vs := [.a (.lf .bool)], bs := [] }]
def Iflat_long (k : Nat) : Inst := ⟨41, shflat_long, rsflat_long, fun x => Fflat_long k x⟩
theorem alflat_long (k : Nat) : AllI (call cf k) [Istrings_Split k, Islices_ContainsFunc_string_string__sel k] := And.intro (okstrings_Split k) (And.intro (okslices_ContainsFunc_string_string__sel k) (True.intro))
theorem anflat_long (k : Nat) : LAll (LOk (R := DS FS.D rsflat_long) (fun b _ σ K => LOt Ty (kps 41) 0 b σ K []) cf (call cf k) (cf.keep 41) Tryd.f41.ntmps k shflat_long.bs.length) 0 (bd Tryd.f41) :=
  And.intro (True.intro) (And.intro (True.intro) (And.intro (True.intro) (True.intro)))
theorem stflat_long (k : Nat) (x : shflat_long.D) : Fflat_long (k + 1) x = body2 cf (fun f a b K => COt f a b K [Istrings_Split k, Islices_ContainsFunc_string_string__sel k]) (fun b _ σ K => LOt Ty (kps 41) 0 b σ K []) 41 Tryd.f41.ntmps Tryd.f41.results.toList (bd Tryd.f41) (shflat_long.enc x).1 (shflat_long.enc x).2 (putS FS.dec rsflat_long) := by kernel_rfl
theorem okflat_long : ∀ k, InstOk (call cf k) (Iflat_long k)
  | 0 => fun x y e => absurd (show (none : Option _) = some y from e) (by simp)
  | k + 1 => inst_ok (c := cf) (k := k) (f := 41) (fn := Tryd.f41) (body := bd Tryd.f41) (sh := shflat_long) (os := rsflat_long) rfl Tryd.func41 rfl ⟨rfl, Nat.le_of_ble_eq_true rfl⟩ (COt_ok (alflat_long k)) (anflat_long k) (fun x => Fflat_long (k + 1) x) (stflat_long k)

/-! shunt/wave.Valid -/
def Lwave_Valid_0s (k : Nat) (rec : List (Int × Int) → Int → Int → Int → List (Int × Int) → List Int → Option ((Bool × Int × List (Int × Int) × List Int × Int × Int) ⊕ (Int × List (Int × Int) × List Int))) (x : List (Int × Int)) (x1 : Int) (x2 : Int) (w0 : Int) (w1 : List (Int × Int)) (w2 : List Int) : Option ((Bool × Int × List (Int × Int) × List Int × Int × Int) ⊕ (Int × List (Int × Int) × List Int)) :=
  if ((decide (x2 < x1)) = true) then
    if ((0 : Int) ≤ x2) then
      Option.bind (x)[(Int.toNat x2)]? fun x4 =>
      Option.bind (Fnum_Valid k x4.1 x4.2) fun r6 =>
      if ((!r6) = true) then
        (some (Sum.inl (false, w0, w1, w2, x4.1, x4.2)))
      else
      rec x x1 (IntKind.wrap .i64 (x2 + (1 : Int))) w0 w1 w2
    else
    none
  else
  (some (Sum.inr (w0, w1, w2)))
def Lwave_Valid_0 (k n : Nat) : List (Int × Int) → Int → Int → Int → List (Int × Int) → List Int → Option ((Bool × Int × List (Int × Int) × List Int × Int × Int) ⊕ (Int × List (Int × Int) × List Int)) := Nat.rec (fun _ _ _ _ _ _ => none) (fun _ r => Lwave_Valid_0s k r) n
def Lwave_Valid_2s (k : Nat) (rec : List Int → Int → Int → Int → List (Int × Int) → List Int → Option ((Bool × Int × List (Int × Int) × List Int) ⊕ (Int × List (Int × Int) × List Int))) (x : List Int) (x1 : Int) (x2 : Int) (w0 : Int) (w1 : List (Int × Int)) (w2 : List Int) : Option ((Bool × Int × List (Int × Int) × List Int) ⊕ (Int × List (Int × Int) × List Int)) :=
  if ((decide (x2 < x1)) = true) then
    if ((0 : Int) ≤ x2) then
      Option.bind (x)[(Int.toNat x2)]? fun x4 =>
      if ((decide (x4 < (0 : Int))) = false) then
        if ((decide (x4 > (1000000000 : Int))) = true) then
          (some (Sum.inl (false, w0, w1, w2)))
        else
        rec x x1 (IntKind.wrap .i64 (x2 + (1 : Int))) w0 w1 w2
      else
      (some (Sum.inl (false, w0, w1, w2)))
    else
    none
  else
  (some (Sum.inr (w0, w1, w2)))
def Lwave_Valid_2 (k n : Nat) : List Int → Int → Int → Int → List (Int × Int) → List Int → Option ((Bool × Int × List (Int × Int) × List Int) ⊕ (Int × List (Int × Int) × List Int)) := Nat.rec (fun _ _ _ _ _ _ => none) (fun _ r => Lwave_Valid_2s k r) n
def Lwave_Valid_5s (k : Nat) (rec : Int → Int → List (Int × Int) → List Int → Option ((Bool × Int × List (Int × Int) × List Int) ⊕ (Int × List (Int × Int) × List Int))) (i : Int) (w0 : Int) (w1 : List (Int × Int)) (w2 : List Int) : Option ((Bool × Int × List (Int × Int) × List Int) ⊕ (Int × List (Int × Int) × List Int)) :=
  if ((decide (i < (((List.length w2) : Nat) : Int))) = true) then
    if ((0 : Int) ≤ i) then
      Option.bind (w2)[(Int.toNat i)]? fun x4 =>
      if ((0 : Int) ≤ (IntKind.wrap .i64 (i - (1 : Int)))) then
        Option.bind (w2)[(Int.toNat (IntKind.wrap .i64 (i - (1 : Int))))]? fun x5 =>
        if ((decide (x4 ≤ x5)) = true) then
          (some (Sum.inl (false, w0, w1, w2)))
        else
        rec (IntKind.wrap .i64 (i + (1 : Int))) w0 w1 w2
      else
      none
    else
    none
  else
  (some (Sum.inr (w0, w1, w2)))
def Lwave_Valid_5 (k n : Nat) : Int → Int → List (Int × Int) → List Int → Option ((Bool × Int × List (Int × Int) × List Int) ⊕ (Int × List (Int × Int) × List Int)) := Nat.rec (fun _ _ _ _ => none) (fun _ r => Lwave_Valid_5s k r) n
def bwave_Valid (k : Nat) (w0 : Int) (w1 : List (Int × Int)) (w2 : List Int) : Option (Bool) :=
  Option.bind (Lwave_Valid_0 k k w1 (((List.length w1) : Nat) : Int) (0 : Int) w0 w1 w2) fun r6 =>
  eitherK r6
    (fun r6 =>
    (some r6.1))
    (fun r6 =>
    Option.bind (Lwave_Valid_2 k k r6.2.2 (((List.length r6.2.2) : Nat) : Int) (0 : Int) r6.1 r6.2.1 r6.2.2) fun r7 =>
    eitherK r7
      (fun r7 =>
      (some r7.1))
      (fun r7 =>
      if ((r7.1 == (1 : Int)) = true) then
        if (((((List.length r7.2.1) : Nat) : Int) == (1 : Int)) = true) then
          (some ((((List.length r7.2.2) : Nat) : Int) == (0 : Int)))
        else
        (some false)
      else
      if ((r7.1 == (2 : Int)) = true) then
        if (((((List.length r7.2.1) : Nat) : Int) == (2 : Int)) = true) then
          if (((((List.length r7.2.2) : Nat) : Int) == (5 : Int)) = true) then
            Option.bind (r7.2.2)[4]? fun x4 =>
            if ((decide (x4 ≥ (1 : Int))) = true) then
              Option.bind (r7.2.2)[1]? fun x5 =>
              Option.bind (r7.2.2)[2]? fun x6 =>
              Option.bind (r7.2.2)[3]? fun x7 =>
              Option.bind (r7.2.2)[4]? fun x8 =>
              (some (decide ((IntKind.wrap .i64 ((IntKind.wrap .i64 (x5 + x6)) + x7)) ≤ x8)))
            else
            (some false)
          else
          (some false)
        else
        (some false)
      else
      if ((r7.1 == (3 : Int)) = true) then
        Option.bind (Lwave_Valid_5 k k (1 : Int) r7.1 r7.2.1 r7.2.2) fun r8 =>
        eitherK r8
          (fun r8 =>
          (some r8.1))
          (fun r8 =>
          if (((((List.length r8.2.1) : Nat) : Int) == (((List.length r8.2.2) : Nat) : Int)) = true) then
            if ((decide ((((List.length r8.2.1) : Nat) : Int) ≥ (1 : Int))) = true) then
              (some (decide ((((List.length r8.2.1) : Nat) : Int) ≤ (16 : Int))))
            else
            (some false)
          else
          (some false))
      else
      if ((r7.1 == (4 : Int)) = true) then
        if ((decide ((((List.length r7.2.1) : Nat) : Int) ≥ (1 : Int))) = true) then
          if ((decide ((((List.length r7.2.1) : Nat) : Int) ≤ (16 : Int))) = true) then
            (some ((((List.length r7.2.2) : Nat) : Int) == (0 : Int)))
          else
          (some false)
        else
        (some false)
      else
      (some false)))
def Fwave_Valid : Nat → Int → List (Int × Int) → List Int → Option (Bool)
  | 0, _, _, _ => none
  | k + 1, w0, w1, w2 => bwave_Valid k w0 w1 w2
def shwave_Valid : FS := { vs := [.g [.lf (.int .i64), .lf (.sl (.pr (.int .i64) (.int .i64))), .lf (.sl (.int .i64))]], bs := [] }
def rswave_Valid : List FS := [{ vs := [.a (.lf .bool)], bs := [] }]
def Iwave_Valid (k : Nat) : Inst := ⟨57, shwave_Valid, rswave_Valid, fun x => Fwave_Valid k x.1 x.2.1 x.2.2⟩
theorem alwave_Valid (k : Nat) : AllI (call cf k) [Inum_Valid k] := And.intro (oknum_Valid k) (True.intro)
def hswave_Valid_0 : List SS := [{ fr := [(1, .a (.ptr 0 0 0)), (9, .a (.lf (.sl (.pr (.int .i64) (.int .i64))))), (10, .a (.lf (.int .i64))), (11, .a (.lf (.int .i64)))], mem := [(0, some (.raw [[.lf (.int .i64), .lf (.sl (.pr (.int .i64) (.int .i64))), .lf (.sl (.int .i64))]] 3 34 true false false))], nx := 1 }]
def oswave_Valid_0 : List OS := [⟨none, { fr := [(2, .a (.lf .bool))], mem := [(0, some (.raw [[.lf (.int .i64), .lf (.sl (.pr (.int .i64) (.int .i64))), .lf (.sl (.int .i64))]] 3 34 true false false)), (1, some (.raw [[.lf (.int .i64), .lf (.int .i64)]] 2 25 true false false))], nx := 2 }⟩, ⟨some 0, { fr := [(1, .a (.ptr 0 0 0))], mem := [(0, some (.raw [[.lf (.int .i64), .lf (.sl (.pr (.int .i64) (.int .i64))), .lf (.sl (.int .i64))]] 3 34 true false false))], nx := 1 }⟩]
def LIwave_Valid_0 (k : Nat) : LInst := ⟨0, hswave_Valid_0, oswave_Valid_0, fun x => Lwave_Valid_0 k k x.1 x.2.1 x.2.2.1 x.2.2.2.1 x.2.2.2.2.1 x.2.2.2.2.2⟩
theorem anwave_Valid_0 (k : Nat) : LAll (LOk (R := DS OS.D oswave_Valid_0) (fun b _ σ K => LOt Ty (kps 57) 0 b σ K []) cf (call cf k) (kps 57) Tryd.f57.ntmps k 0) 0 (lb Tryd.f57 0) :=
  And.intro (True.intro) (And.intro (And.intro (True.intro) (True.intro)) (And.intro (And.intro (True.intro) (And.intro (True.intro) (And.intro (And.intro (True.intro) (True.intro)) (True.intro)))) (True.intro)))
theorem stwave_Valid_0 (k n : Nat) (x : DS SS.D hswave_Valid_0) : Lwave_Valid_0 k (n + 1) x.1 x.2.1 x.2.2.1 x.2.2.2.1 x.2.2.2.2.1 x.2.2.2.2.2 = encSK SS.enc (fun σ => run2 cf (fun f a b K => COt f a b K [Inum_Valid k]) (fun b _ σ K => LOt Ty (kps 57) 0 b σ K []) Tryd.f57.ntmps 0 (lb Tryd.f57 0) σ (nextK Ty (kps 57 0) 0 hswave_Valid_0 oswave_Valid_0 fun x => Lwave_Valid_0 k n x.1 x.2.1 x.2.2.1 x.2.2.2.1 x.2.2.2.2.1 x.2.2.2.2.2)) hswave_Valid_0 x := by kernel_rfl
theorem lowave_Valid_0 (k : Nat) : LIOk cf (call cf k) (kps 57) Tryd.f57.ntmps k 0 0 (lb Tryd.f57 0) (LIwave_Valid_0 k) :=
  loop_ok (c := cf) (callF := call cf k) (kp := kps 57) (nt := Tryd.f57.ntmps) (k := k) (p := 0) (b := 0) (x0 := lb Tryd.f57 0) (hs := hswave_Valid_0) (os := oswave_Valid_0) (COt_ok (alwave_Valid k)) (anwave_Valid_0 k) (fun n x => Lwave_Valid_0 k n x.1 x.2.1 x.2.2.1 x.2.2.2.1 x.2.2.2.2.1 x.2.2.2.2.2) (fun _ => rfl) (stwave_Valid_0 k)
def hswave_Valid_2 : List SS := [{ fr := [(1, .a (.ptr 0 0 0)), (20, .a (.lf (.sl (.int .i64)))), (21, .a (.lf (.int .i64))), (22, .a (.lf (.int .i64)))], mem := [(0, some (.raw [[.lf (.int .i64), .lf (.sl (.pr (.int .i64) (.int .i64))), .lf (.sl (.int .i64))]] 3 34 true false false))], nx := 1 }]
def oswave_Valid_2 : List OS := [⟨none, { fr := [(2, .a (.lf .bool))], mem := [(0, some (.raw [[.lf (.int .i64), .lf (.sl (.pr (.int .i64) (.int .i64))), .lf (.sl (.int .i64))]] 3 34 true false false))], nx := 1 }⟩, ⟨some 2, { fr := [(1, .a (.ptr 0 0 0))], mem := [(0, some (.raw [[.lf (.int .i64), .lf (.sl (.pr (.int .i64) (.int .i64))), .lf (.sl (.int .i64))]] 3 34 true false false))], nx := 1 }⟩]
def LIwave_Valid_2 (k : Nat) : LInst := ⟨2, hswave_Valid_2, oswave_Valid_2, fun x => Lwave_Valid_2 k k x.1 x.2.1 x.2.2.1 x.2.2.2.1 x.2.2.2.2.1 x.2.2.2.2.2⟩
theorem anwave_Valid_2 (k : Nat) : LAll (LOk (R := DS OS.D oswave_Valid_2) (fun b _ σ K => LOt Ty (kps 57) 0 b σ K [LIwave_Valid_0 k]) cf (call cf k) (kps 57) Tryd.f57.ntmps k 0) 2 (lb Tryd.f57 1) :=
  And.intro (True.intro) (And.intro (And.intro (True.intro) (True.intro)) (And.intro (And.intro (True.intro) (And.intro (True.intro) (And.intro (And.intro (True.intro) (True.intro)) (True.intro)))) (True.intro)))
theorem stwave_Valid_2 (k n : Nat) (x : DS SS.D hswave_Valid_2) : Lwave_Valid_2 k (n + 1) x.1 x.2.1 x.2.2.1 x.2.2.2.1 x.2.2.2.2.1 x.2.2.2.2.2 = encSK SS.enc (fun σ => run2 cf (fun f a b K => COt f a b K [Inum_Valid k]) (fun b _ σ K => LOt Ty (kps 57) 0 b σ K [LIwave_Valid_0 k]) Tryd.f57.ntmps 2 (lb Tryd.f57 1) σ (nextK Ty (kps 57 2) 0 hswave_Valid_2 oswave_Valid_2 fun x => Lwave_Valid_2 k n x.1 x.2.1 x.2.2.1 x.2.2.2.1 x.2.2.2.2.1 x.2.2.2.2.2)) hswave_Valid_2 x := by kernel_rfl
theorem lowave_Valid_2 (k : Nat) : LIOk cf (call cf k) (kps 57) Tryd.f57.ntmps k 0 2 (lb Tryd.f57 1) (LIwave_Valid_2 k) :=
  loop_ok (c := cf) (callF := call cf k) (kp := kps 57) (nt := Tryd.f57.ntmps) (k := k) (p := 0) (b := 2) (x0 := lb Tryd.f57 1) (hs := hswave_Valid_2) (os := oswave_Valid_2) (COt_ok (alwave_Valid k)) (anwave_Valid_2 k) (fun n x => Lwave_Valid_2 k n x.1 x.2.1 x.2.2.1 x.2.2.2.1 x.2.2.2.2.1 x.2.2.2.2.2) (fun _ => rfl) (stwave_Valid_2 k)
def hswave_Valid_5 : List SS := [{ fr := [(1, .a (.ptr 0 0 0)), (7, .a (.lf (.int .i64)))], mem := [(0, some (.raw [[.lf (.int .i64), .lf (.sl (.pr (.int .i64) (.int .i64))), .lf (.sl (.int .i64))]] 3 34 true false false))], nx := 1 }]
def oswave_Valid_5 : List OS := [⟨none, { fr := [(2, .a (.lf .bool))], mem := [(0, some (.raw [[.lf (.int .i64), .lf (.sl (.pr (.int .i64) (.int .i64))), .lf (.sl (.int .i64))]] 3 34 true false false))], nx := 1 }⟩, ⟨some 5, { fr := [(1, .a (.ptr 0 0 0))], mem := [(0, some (.raw [[.lf (.int .i64), .lf (.sl (.pr (.int .i64) (.int .i64))), .lf (.sl (.int .i64))]] 3 34 true false false))], nx := 1 }⟩]
def LIwave_Valid_5 (k : Nat) : LInst := ⟨5, hswave_Valid_5, oswave_Valid_5, fun x => Lwave_Valid_5 k k x.1 x.2.1 x.2.2.1 x.2.2.2⟩
theorem anwave_Valid_5 (k : Nat) : LAll (LOk (R := DS OS.D oswave_Valid_5) (fun b _ σ K => LOt Ty (kps 57) 0 b σ K [LIwave_Valid_0 k, LIwave_Valid_2 k]) cf (call cf k) (kps 57) Tryd.f57.ntmps k 0) 5 (lb Tryd.f57 2) :=
  And.intro (And.intro (True.intro) (And.intro (True.intro) (True.intro))) (And.intro (And.intro (True.intro) (And.intro (And.intro (True.intro) (True.intro)) (True.intro))) (True.intro))
theorem stwave_Valid_5 (k n : Nat) (x : DS SS.D hswave_Valid_5) : Lwave_Valid_5 k (n + 1) x.1 x.2.1 x.2.2.1 x.2.2.2 = encSK SS.enc (fun σ => run2 cf (fun f a b K => COt f a b K [Inum_Valid k]) (fun b _ σ K => LOt Ty (kps 57) 0 b σ K [LIwave_Valid_0 k, LIwave_Valid_2 k]) Tryd.f57.ntmps 5 (lb Tryd.f57 2) σ (nextK Ty (kps 57 5) 0 hswave_Valid_5 oswave_Valid_5 fun x => Lwave_Valid_5 k n x.1 x.2.1 x.2.2.1 x.2.2.2)) hswave_Valid_5 x := by kernel_rfl
theorem lowave_Valid_5 (k : Nat) : LIOk cf (call cf k) (kps 57) Tryd.f57.ntmps k 0 5 (lb Tryd.f57 2) (LIwave_Valid_5 k) :=
  loop_ok (c := cf) (callF := call cf k) (kp := kps 57) (nt := Tryd.f57.ntmps) (k := k) (p := 0) (b := 5) (x0 := lb Tryd.f57 2) (hs := hswave_Valid_5) (os := oswave_Valid_5) (COt_ok (alwave_Valid k)) (anwave_Valid_5 k) (fun n x => Lwave_Valid_5 k n x.1 x.2.1 x.2.2.1 x.2.2.2) (fun _ => rfl) (stwave_Valid_5 k)
theorem anwave_Valid (k : Nat) : LAll (LOk (R := DS FS.D rswave_Valid) (fun b _ σ K => LOt Ty (kps 57) 0 b σ K [LIwave_Valid_0 k, LIwave_Valid_2 k, LIwave_Valid_5 k]) cf (call cf k) (cf.keep 57) Tryd.f57.ntmps k shwave_Valid.bs.length) 0 (bd Tryd.f57) :=
  And.intro (True.intro) (And.intro (And.intro (True.intro) (LOt_ok (c := cf) (callF := call cf k) (kp := kps 57) (nt := Tryd.f57.ntmps) (k := k) (p := 0) (b := 0) (x0 := lb Tryd.f57 0) (l := [LIwave_Valid_0 k, LIwave_Valid_2 k, LIwave_Valid_5 k]) (And.intro (fun _ => lowave_Valid_0 k) (And.intro (fun h => absurd (show (2 : Nat) = 0 from h) (by decide)) (And.intro (fun h => absurd (show (5 : Nat) = 0 from h) (by decide)) (True.intro)))))) (And.intro (And.intro (True.intro) (LOt_ok (c := cf) (callF := call cf k) (kp := kps 57) (nt := Tryd.f57.ntmps) (k := k) (p := 0) (b := 2) (x0 := lb Tryd.f57 1) (l := [LIwave_Valid_0 k, LIwave_Valid_2 k, LIwave_Valid_5 k]) (And.intro (fun h => absurd (show (0 : Nat) = 2 from h) (by decide)) (And.intro (fun _ => lowave_Valid_2 k) (And.intro (fun h => absurd (show (5 : Nat) = 2 from h) (by decide)) (True.intro)))))) (And.intro (And.intro (True.intro) (And.intro (True.intro) (And.intro (And.intro (True.intro) (True.intro)) (And.intro (True.intro) (And.intro (And.intro (True.intro) (True.intro)) (And.intro (True.intro) (And.intro (And.intro (And.intro (True.intro) (LOt_ok (c := cf) (callF := call cf k) (kp := kps 57) (nt := Tryd.f57.ntmps) (k := k) (p := 0) (b := 5) (x0 := lb Tryd.f57 2) (l := [LIwave_Valid_0 k, LIwave_Valid_2 k, LIwave_Valid_5 k]) (And.intro (fun h => absurd (show (0 : Nat) = 5 from h) (by decide)) (And.intro (fun h => absurd (show (2 : Nat) = 5 from h) (by decide)) (And.intro (fun _ => lowave_Valid_5 k) (True.intro)))))) (And.intro (True.intro) (True.intro))) (And.intro (True.intro) (And.intro (And.intro (True.intro) (True.intro)) (True.intro)))))))))) (And.intro (True.intro) (True.intro)))))
theorem stwave_Valid (k : Nat) (x : shwave_Valid.D) : Fwave_Valid (k + 1) x.1 x.2.1 x.2.2 = body2 cf (fun f a b K => COt f a b K [Inum_Valid k]) (fun b _ σ K => LOt Ty (kps 57) 0 b σ K [LIwave_Valid_0 k, LIwave_Valid_2 k, LIwave_Valid_5 k]) 57 Tryd.f57.ntmps Tryd.f57.results.toList (bd Tryd.f57) (shwave_Valid.enc x).1 (shwave_Valid.enc x).2 (putS FS.dec rswave_Valid) := by kernel_rfl
theorem okwave_Valid : ∀ k, InstOk (call cf k) (Iwave_Valid k)
  | 0 => fun x y e => absurd (show (none : Option _) = some y from e) (by simp)
  | k + 1 => inst_ok (c := cf) (k := k) (f := 57) (fn := Tryd.f57) (body := bd Tryd.f57) (sh := shwave_Valid) (os := rswave_Valid) rfl Tryd.func57 rfl ⟨rfl, Nat.le_of_ble_eq_true rfl⟩ (COt_ok (alwave_Valid k)) (anwave_Valid k) (fun x => Fwave_Valid (k + 1) x.1 x.2.1 x.2.2) (stwave_Valid k)

/-! shunt/flat.noModel -/
def bflat_noModel (k : Nat) (m0 : ByteArray) (m1 : Int) (m2 : List (Int × Int)) (m3 : List (Int × Int)) : Option (Bool) :=
  if (((Array.toList (ByteArray.data m0)) == (Array.toList (ByteArray.data (ByteArray.mk (List.toArray []))))) = true) then
    if ((m1 == (0 : Int)) = true) then
      (some ((IntKind.wrap .i64 ((((List.length m2) : Nat) : Int) + (((List.length m3) : Nat) : Int))) == (0 : Int)))
    else
    (some false)
  else
  (some false)
def Fflat_noModel : Nat → ByteArray → Int → List (Int × Int) → List (Int × Int) → Option (Bool)
  | 0, _, _, _, _ => none
  | k + 1, m0, m1, m2, m3 => bflat_noModel k m0 m1 m2 m3
def shflat_noModel : FS := { vs := [.g [.lf .str, .lf (.int .u8), .lf (.sl (.pr (.int .i64) (.int .i64))), .lf (.sl (.pr (.int .i64) (.int .i64)))]], bs := [] }
def rsflat_noModel : List FS := [{ vs := [.a (.lf .bool)], bs := [] }]
def Iflat_noModel (k : Nat) : Inst := ⟨58, shflat_noModel, rsflat_noModel, fun x => Fflat_noModel k x.1 x.2.1 x.2.2.1 x.2.2.2⟩
theorem alflat_noModel (k : Nat) : AllI (call cf k) [] := True.intro
theorem anflat_noModel (k : Nat) : LAll (LOk (R := DS FS.D rsflat_noModel) (fun b _ σ K => LOt Ty (kps 58) 0 b σ K []) cf (call cf k) (cf.keep 58) Tryd.f58.ntmps k shflat_noModel.bs.length) 0 (bd Tryd.f58) :=
  And.intro (True.intro) (And.intro (True.intro) (True.intro))
theorem stflat_noModel (k : Nat) (x : shflat_noModel.D) : Fflat_noModel (k + 1) x.1 x.2.1 x.2.2.1 x.2.2.2 = body2 cf (fun f a b K => COt f a b K []) (fun b _ σ K => LOt Ty (kps 58) 0 b σ K []) 58 Tryd.f58.ntmps Tryd.f58.results.toList (bd Tryd.f58) (shflat_noModel.enc x).1 (shflat_noModel.enc x).2 (putS FS.dec rsflat_noModel) := by kernel_rfl
theorem okflat_noModel : ∀ k, InstOk (call cf k) (Iflat_noModel k)
  | 0 => fun x y e => absurd (show (none : Option _) = some y from e) (by simp)
  | k + 1 => inst_ok (c := cf) (k := k) (f := 58) (fn := Tryd.f58) (body := bd Tryd.f58) (sh := shflat_noModel) (os := rsflat_noModel) rfl Tryd.func58 rfl ⟨rfl, Nat.le_of_ble_eq_true rfl⟩ (COt_ok (alflat_noModel k)) (anflat_noModel k) (fun x => Fflat_noModel (k + 1) x.1 x.2.1 x.2.2.1 x.2.2.2) (stflat_noModel k)

/-! shunt/flat.noWave -/
def bflat_noWave (k : Nat) (w0 : Int) (w1 : List (Int × Int)) (w2 : List Int) : Option (Bool) :=
  if ((w0 == (0 : Int)) = true) then
    (some ((IntKind.wrap .i64 ((((List.length w1) : Nat) : Int) + (((List.length w2) : Nat) : Int))) == (0 : Int)))
  else
  (some false)
def Fflat_noWave : Nat → Int → List (Int × Int) → List Int → Option (Bool)
  | 0, _, _, _ => none
  | k + 1, w0, w1, w2 => bflat_noWave k w0 w1 w2
def shflat_noWave : FS := { vs := [.g [.lf (.int .i64), .lf (.sl (.pr (.int .i64) (.int .i64))), .lf (.sl (.int .i64))]], bs := [] }
def rsflat_noWave : List FS := [{ vs := [.a (.lf .bool)], bs := [] }]
def Iflat_noWave (k : Nat) : Inst := ⟨59, shflat_noWave, rsflat_noWave, fun x => Fflat_noWave k x.1 x.2.1 x.2.2⟩
theorem alflat_noWave (k : Nat) : AllI (call cf k) [] := True.intro
theorem anflat_noWave (k : Nat) : LAll (LOk (R := DS FS.D rsflat_noWave) (fun b _ σ K => LOt Ty (kps 59) 0 b σ K []) cf (call cf k) (cf.keep 59) Tryd.f59.ntmps k shflat_noWave.bs.length) 0 (bd Tryd.f59) :=
  And.intro (True.intro) (And.intro (True.intro) (True.intro))
theorem stflat_noWave (k : Nat) (x : shflat_noWave.D) : Fflat_noWave (k + 1) x.1 x.2.1 x.2.2 = body2 cf (fun f a b K => COt f a b K []) (fun b _ σ K => LOt Ty (kps 59) 0 b σ K []) 59 Tryd.f59.ntmps Tryd.f59.results.toList (bd Tryd.f59) (shflat_noWave.enc x).1 (shflat_noWave.enc x).2 (putS FS.dec rsflat_noWave) := by kernel_rfl
theorem okflat_noWave : ∀ k, InstOk (call cf k) (Iflat_noWave k)
  | 0 => fun x y e => absurd (show (none : Option _) = some y from e) (by simp)
  | k + 1 => inst_ok (c := cf) (k := k) (f := 59) (fn := Tryd.f59) (body := bd Tryd.f59) (sh := shflat_noWave) (os := rsflat_noWave) rfl Tryd.func59 rfl ⟨rfl, Nat.le_of_ble_eq_true rfl⟩ (COt_ok (alflat_noWave k)) (anflat_noWave k) (fun x => Fflat_noWave (k + 1) x.1 x.2.1 x.2.2) (stflat_noWave k)

/-! shunt/big.NewInt -/
def bbig_NewInt (k : Nat) (v : Int) : Option (Bool × List Int) :=
  if ((decide (v < (0 : Int))) = true) then
    Option.bind (Fbig_trim k (List.take 2 ((IntKind.wrap .u32 (IntKind.wrap .u64 ((0 : Int) - (IntKind.wrap .u64 v)))) :: ((IntKind.wrap .u32 (Int.fdiv (IntKind.wrap .u64 ((0 : Int) - (IntKind.wrap .u64 v))) (4294967296 : Int))) :: [])))) fun r11 =>
    (some ((decide (v < (0 : Int))), r11))
  else
  Option.bind (Fbig_trim k (List.take 2 ((IntKind.wrap .u32 (IntKind.wrap .u64 v)) :: ((IntKind.wrap .u32 (Int.fdiv (IntKind.wrap .u64 v) (4294967296 : Int))) :: [])))) fun r11 =>
  (some ((decide (v < (0 : Int))), r11))
def Fbig_NewInt : Nat → Int → Option (Bool × List Int)
  | 0, _ => none
  | k + 1, v => bbig_NewInt k v
def shbig_NewInt : FS := { vs := [.a (.lf (.int .i64))], bs := [] }
def rsbig_NewInt : List FS := [{ vs := [.a (.ptr 0 0 0)], bs := [.raw [[.lf .bool, .lf (.sl (.int .u32))]] 2 112 true false false] }]
def Ibig_NewInt (k : Nat) : Inst := ⟨78, shbig_NewInt, rsbig_NewInt, fun x => Fbig_NewInt k x⟩
theorem albig_NewInt (k : Nat) : AllI (call cf k) [Ibig_trim k] := And.intro (okbig_trim k) (True.intro)
theorem anbig_NewInt (k : Nat) : LAll (LOk (R := DS FS.D rsbig_NewInt) (fun b _ σ K => LOt Ty (kps 78) 0 b σ K []) cf (call cf k) (cf.keep 78) Tryd.f78.ntmps k shbig_NewInt.bs.length) 0 (bd Tryd.f78) :=
  And.intro (True.intro) (And.intro (True.intro) (And.intro (And.intro (True.intro) (And.intro (True.intro) (True.intro))) (And.intro (True.intro) (True.intro))))
theorem stbig_NewInt (k : Nat) (x : shbig_NewInt.D) : Fbig_NewInt (k + 1) x = body2 cf (fun f a b K => COt f a b K [Ibig_trim k]) (fun b _ σ K => LOt Ty (kps 78) 0 b σ K []) 78 Tryd.f78.ntmps Tryd.f78.results.toList (bd Tryd.f78) (shbig_NewInt.enc x).1 (shbig_NewInt.enc x).2 (putS FS.dec rsbig_NewInt) := by kernel_rfl
theorem okbig_NewInt : ∀ k, InstOk (call cf k) (Ibig_NewInt k)
  | 0 => fun x y e => absurd (show (none : Option _) = some y from e) (by simp)
  | k + 1 => inst_ok (c := cf) (k := k) (f := 78) (fn := Tryd.f78) (body := bd Tryd.f78) (sh := shbig_NewInt) (os := rsbig_NewInt) rfl Tryd.func78 rfl ⟨rfl, Nat.le_of_ble_eq_true rfl⟩ (COt_ok (albig_NewInt k)) (anbig_NewInt k) (fun x => Fbig_NewInt (k + 1) x) (stbig_NewInt k)

/-! (*shunt/big.Int).set -/
def bbig_Int_set_paj (k : Nat) (neg : Bool) (w : List Int) (z0 : Bool) (z1 : List Int) : Option (Bool × List Int) :=
  Option.bind (Fbig_trim k w) fun r14 =>
  if (neg = true) then
    (some ((decide ((((List.length r14) : Nat) : Int) > (0 : Int))), r14))
  else
  (some (false, r14))
def Fbig_Int_set_paj : Nat → Bool → List Int → Bool → List Int → Option (Bool × List Int)
  | 0, _, _, _, _ => none
  | k + 1, neg, w, z0, z1 => bbig_Int_set_paj k neg w z0 z1
def shbig_Int_set_paj : FS := { vs := [.a (.ptr 0 0 0), .a (.lf .bool), .a (.lf (.sl (.int .u32)))], bs := [.raw [[.lf .bool, .lf (.sl (.int .u32))]] 2 112 true false false] }
def rsbig_Int_set_paj : List FS := [{ vs := [.a (.ptr 0 0 0)], bs := [.raw [[.lf .bool, .lf (.sl (.int .u32))]] 2 112 true false false] }]
def Ibig_Int_set_paj (k : Nat) : Inst := ⟨88, shbig_Int_set_paj, rsbig_Int_set_paj, fun x => Fbig_Int_set_paj k x.1 x.2.1 x.2.2.1 x.2.2.2⟩
theorem albig_Int_set_paj (k : Nat) : AllI (call cf k) [Ibig_trim k] := And.intro (okbig_trim k) (True.intro)
theorem anbig_Int_set_paj (k : Nat) : LAll (LOk (R := DS FS.D rsbig_Int_set_paj) (fun b _ σ K => LOt Ty (kps 88) 1 b σ K []) cf (call cf k) (cf.keep 88) Tryd.f88.ntmps k shbig_Int_set_paj.bs.length) 0 (bd Tryd.f88) :=
  And.intro (True.intro) (And.intro (True.intro) (And.intro (True.intro) (And.intro (True.intro) (True.intro))))
theorem stbig_Int_set_paj (k : Nat) (x : shbig_Int_set_paj.D) : Fbig_Int_set_paj (k + 1) x.1 x.2.1 x.2.2.1 x.2.2.2 = body2 cf (fun f a b K => COt f a b K [Ibig_trim k]) (fun b _ σ K => LOt Ty (kps 88) 1 b σ K []) 88 Tryd.f88.ntmps Tryd.f88.results.toList (bd Tryd.f88) (shbig_Int_set_paj.enc x).1 (shbig_Int_set_paj.enc x).2 (putS FS.dec rsbig_Int_set_paj) := by kernel_rfl
theorem okbig_Int_set_paj : ∀ k, InstOk (call cf k) (Ibig_Int_set_paj k)
  | 0 => fun x y e => absurd (show (none : Option _) = some y from e) (by simp)
  | k + 1 => inst_ok (c := cf) (k := k) (f := 88) (fn := Tryd.f88) (body := bd Tryd.f88) (sh := shbig_Int_set_paj) (os := rsbig_Int_set_paj) rfl Tryd.func88 rfl ⟨rfl, Nat.le_of_ble_eq_true rfl⟩ (COt_ok (albig_Int_set_paj k)) (anbig_Int_set_paj k) (fun x => Fbig_Int_set_paj (k + 1) x.1 x.2.1 x.2.2.1 x.2.2.2) (stbig_Int_set_paj k)

/-! (*shunt/big.Int).Mul -/
def Lbig_Int_Mul_jod_2s (k : Nat) (rec : Nat → Int → Int → Int → List Int → Int → Int → List Int → Int → Int → Bool → List Int → Bool → List Int → List Int → Option (Nat × Int × Int × List Int × Int × Int × Bool × List Int × Bool × List Int × List Int)) (out1 : Nat) (i : Int) (a : Int) (carry : Int) (x : List Int) (x1 : Int) (x2 : Int) (x3 : List Int) (x4 : Int) (x5 : Int) (x0 : Bool) (x11 : List Int) (y0 : Bool) (y1 : List Int) (outs : List Int) : Option (Nat × Int × Int × List Int × Int × Int × Bool × List Int × Bool × List Int × List Int) :=
  if ((decide (x5 < x4)) = true) then
    if ((0 : Int) ≤ x5) then
      Option.bind (x3)[(Int.toNat x5)]? fun x7 =>
      if (((0 : Int) ≤ (IntKind.wrap .i64 (i + x5))) ∧ ((IntKind.wrap .i64 (i + x5)) < ((out1 : Nat) : Int))) then
        Option.bind (outs)[(0 + (Int.toNat (IntKind.wrap .i64 (i + x5))))]? fun x8 =>
        if (((0 : Int) ≤ (IntKind.wrap .i64 (i + x5))) ∧ ((IntKind.wrap .i64 (i + x5)) < ((out1 : Nat) : Int))) then
          Option.bind (outs)[(0 + (Int.toNat (IntKind.wrap .i64 (i + x5))))]? fun x9 =>
          rec out1 i a (Int.fdiv (IntKind.wrap .u64 ((IntKind.wrap .u64 ((IntKind.wrap .u64 ((IntKind.wrap .u64 a) * (IntKind.wrap .u64 x7))) + (IntKind.wrap .u64 x8))) + carry)) (4294967296 : Int)) x x1 x2 x3 x4 (IntKind.wrap .i64 (x5 + (1 : Int))) x0 x11 y0 y1 (List.set outs (0 + (Int.toNat (IntKind.wrap .i64 (i + x5)))) (IntKind.wrap .u32 (IntKind.wrap .u64 ((IntKind.wrap .u64 ((IntKind.wrap .u64 ((IntKind.wrap .u64 a) * (IntKind.wrap .u64 x7))) + (IntKind.wrap .u64 x8))) + carry))))
        else
        none
      else
      none
    else
    none
  else
  (some (out1, i, carry, x, x1, x2, x0, x11, y0, y1, outs))
def Lbig_Int_Mul_jod_2 (k n : Nat) : Nat → Int → Int → Int → List Int → Int → Int → List Int → Int → Int → Bool → List Int → Bool → List Int → List Int → Option (Nat × Int × Int × List Int × Int × Int × Bool × List Int × Bool × List Int × List Int) := Nat.rec (fun _ _ _ _ _ _ _ _ _ _ _ _ _ _ _ => none) (fun _ r => Lbig_Int_Mul_jod_2s k r) n
def Lbig_Int_Mul_jod_0s (k : Nat) (rec : Nat → List Int → Int → Int → Bool → List Int → Bool → List Int → List Int → Option (Nat × Bool × List Int × Bool × List Int × List Int)) (out1 : Nat) (x : List Int) (x1 : Int) (x2 : Int) (x0 : Bool) (x11 : List Int) (y0 : Bool) (y1 : List Int) (outs : List Int) : Option (Nat × Bool × List Int × Bool × List Int × List Int) :=
  if ((decide (x2 < x1)) = true) then
    if ((0 : Int) ≤ x2) then
      Option.bind (x)[(Int.toNat x2)]? fun x6 =>
      Option.bind (Lbig_Int_Mul_jod_2 k k out1 x2 x6 (0 : Int) x x1 x2 y1 (((List.length y1) : Nat) : Int) (0 : Int) x0 x11 y0 y1 outs) fun r13 =>
      if (((0 : Int) ≤ (IntKind.wrap .i64 (r13.2.1 + (((List.length r13.2.2.2.2.2.2.2.2.2.1) : Nat) : Int)))) ∧ ((IntKind.wrap .i64 (r13.2.1 + (((List.length r13.2.2.2.2.2.2.2.2.2.1) : Nat) : Int))) < ((r13.1 : Nat) : Int))) then
        Option.bind (r13.2.2.2.2.2.2.2.2.2.2)[(0 + (Int.toNat (IntKind.wrap .i64 (r13.2.1 + (((List.length r13.2.2.2.2.2.2.2.2.2.1) : Nat) : Int)))))]? fun x7 =>
        rec r13.1 r13.2.2.2.1 r13.2.2.2.2.1 (IntKind.wrap .i64 (r13.2.2.2.2.2.1 + (1 : Int))) r13.2.2.2.2.2.2.1 r13.2.2.2.2.2.2.2.1 r13.2.2.2.2.2.2.2.2.1 r13.2.2.2.2.2.2.2.2.2.1 (List.set r13.2.2.2.2.2.2.2.2.2.2 (0 + (Int.toNat (IntKind.wrap .i64 (r13.2.1 + (((List.length r13.2.2.2.2.2.2.2.2.2.1) : Nat) : Int))))) (IntKind.wrap .u32 r13.2.2.1))
      else
      none
    else
    none
  else
  (some (out1, x0, x11, y0, y1, outs))
def Lbig_Int_Mul_jod_0 (k n : Nat) : Nat → List Int → Int → Int → Bool → List Int → Bool → List Int → List Int → Option (Nat × Bool × List Int × Bool × List Int × List Int) := Nat.rec (fun _ _ _ _ _ _ _ _ _ => none) (fun _ r => Lbig_Int_Mul_jod_0s k r) n
def bbig_Int_Mul_jod (k : Nat) (x0 : Bool) (x1 : List Int) (y0 : Bool) (y1 : List Int) : Option (Bool × List Int × Bool × List Int) :=
  if (((0 : Int) ≤ (IntKind.wrap .i64 ((((List.length x1) : Nat) : Int) + (((List.length y1) : Nat) : Int)))) ∧ (((IntKind.wrap .i64 ((((List.length x1) : Nat) : Int) + (((List.length y1) : Nat) : Int))) ≤ (IntKind.wrap .i64 ((((List.length x1) : Nat) : Int) + (((List.length y1) : Nat) : Int)))) ∧ (((IntKind.wrap .i64 ((((List.length x1) : Nat) : Int) + (((List.length y1) : Nat) : Int))) * (4 : Int)) ≤ (140737488355328 : Int)))) then
    Option.bind (Lbig_Int_Mul_jod_0 k k (Int.toNat (IntKind.wrap .i64 ((((List.length x1) : Nat) : Int) + (((List.length y1) : Nat) : Int)))) x1 (((List.length x1) : Nat) : Int) (0 : Int) x0 x1 y0 y1 (List.replicate (Int.toNat (IntKind.wrap .i64 ((((List.length x1) : Nat) : Int) + (((List.length y1) : Nat) : Int)))) (0 : Int))) fun r13 =>
    if ((0 + r13.1) ≤ (List.length r13.2.2.2.2.2)) then
      Option.bind (Fbig_Int_set_paj k (!(r13.2.1 == r13.2.2.2.1)) (List.take r13.1 r13.2.2.2.2.2) r13.2.1 r13.2.2.1) fun r14 =>
      (some (r14.1, r14.2, r13.2.2.2.1, r13.2.2.2.2.1))
    else
    none
  else
  none
def Fbig_Int_Mul_jod : Nat → Bool → List Int → Bool → List Int → Option (Bool × List Int × Bool × List Int)
  | 0, _, _, _, _ => none
  | k + 1, x0, x1, y0, y1 => bbig_Int_Mul_jod k x0 x1 y0 y1
def shbig_Int_Mul_jod : FS := { vs := [.a (.ptr 0 0 0), .a (.ptr 0 0 0), .a (.ptr 1 0 0)], bs := [.raw [[.lf .bool, .lf (.sl (.int .u32))]] 2 112 true false false, .raw [[.lf .bool, .lf (.sl (.int .u32))]] 2 112 true false false] }
def rsbig_Int_Mul_jod : List FS := [{ vs := [.a (.ptr 0 0 0)], bs := [.raw [[.lf .bool, .lf (.sl (.int .u32))]] 2 112 true false false, .raw [[.lf .bool, .lf (.sl (.int .u32))]] 2 112 true false false] }]
def Ibig_Int_Mul_jod (k : Nat) : Inst := ⟨79, shbig_Int_Mul_jod, rsbig_Int_Mul_jod, fun x => Fbig_Int_Mul_jod k x.1 x.2.1 x.2.2.1 x.2.2.2⟩
theorem albig_Int_Mul_jod (k : Nat) : AllI (call cf k) [Ibig_Int_set_paj k] := And.intro (okbig_Int_set_paj k) (True.intro)
def hsbig_Int_Mul_jod_2 : List SS := [{ fr := [(0, .a (.ptr 0 0 0)), (1, .a (.ptr 0 0 0)), (2, .a (.ptr 1 0 0)), (7, .a (.smz 2)), (8, .a (.lf (.int .i64))), (9, .a (.lf (.int .u32))), (10, .a (.lf (.int .u64))), (29, .a (.lf (.sl (.int .u32)))), (30, .a (.lf (.int .i64))), (31, .a (.lf (.int .i64))), (39, .a (.lf (.sl (.int .u32)))), (40, .a (.lf (.int .i64))), (41, .a (.lf (.int .i64)))], mem := [(0, some (.raw [[.lf .bool, .lf (.sl (.int .u32))]] 2 112 true false false)), (1, some (.raw [[.lf .bool, .lf (.sl (.int .u32))]] 2 112 true false false)), (2, some (.arr (.int .u32) 1 120 false))], nx := 3 }]
def osbig_Int_Mul_jod_2 : List OS := [⟨some 2, { fr := [(0, .a (.ptr 0 0 0)), (1, .a (.ptr 0 0 0)), (2, .a (.ptr 1 0 0)), (7, .a (.smz 2)), (8, .a (.lf (.int .i64))), (10, .a (.lf (.int .u64))), (29, .a (.lf (.sl (.int .u32)))), (30, .a (.lf (.int .i64))), (31, .a (.lf (.int .i64)))], mem := [(0, some (.raw [[.lf .bool, .lf (.sl (.int .u32))]] 2 112 true false false)), (1, some (.raw [[.lf .bool, .lf (.sl (.int .u32))]] 2 112 true false false)), (2, some (.arr (.int .u32) 1 120 false))], nx := 3 }⟩]
def LIbig_Int_Mul_jod_2 (k : Nat) : LInst := ⟨2, hsbig_Int_Mul_jod_2, osbig_Int_Mul_jod_2, fun x => Lbig_Int_Mul_jod_2 k k x.1 x.2.1 x.2.2.1 x.2.2.2.1 x.2.2.2.2.1 x.2.2.2.2.2.1 x.2.2.2.2.2.2.1 x.2.2.2.2.2.2.2.1 x.2.2.2.2.2.2.2.2.1 x.2.2.2.2.2.2.2.2.2.1 x.2.2.2.2.2.2.2.2.2.2.1 x.2.2.2.2.2.2.2.2.2.2.2.1 x.2.2.2.2.2.2.2.2.2.2.2.2.1 x.2.2.2.2.2.2.2.2.2.2.2.2.2.1 x.2.2.2.2.2.2.2.2.2.2.2.2.2.2⟩
theorem anbig_Int_Mul_jod_2 (k : Nat) : LAll (LOk (R := DS OS.D osbig_Int_Mul_jod_2) (fun b _ σ K => LOt Ty (kps 79) 2 b σ K []) cf (call cf k) (kps 79) Tryd.f79.ntmps k 2) 2 (lb Tryd.f79 1) :=
  And.intro (True.intro) (And.intro (And.intro (True.intro) (True.intro)) (And.intro (And.intro (True.intro) (And.intro (True.intro) (And.intro (True.intro) (True.intro)))) (True.intro)))
theorem stbig_Int_Mul_jod_2 (k n : Nat) (x : DS SS.D hsbig_Int_Mul_jod_2) : Lbig_Int_Mul_jod_2 k (n + 1) x.1 x.2.1 x.2.2.1 x.2.2.2.1 x.2.2.2.2.1 x.2.2.2.2.2.1 x.2.2.2.2.2.2.1 x.2.2.2.2.2.2.2.1 x.2.2.2.2.2.2.2.2.1 x.2.2.2.2.2.2.2.2.2.1 x.2.2.2.2.2.2.2.2.2.2.1 x.2.2.2.2.2.2.2.2.2.2.2.1 x.2.2.2.2.2.2.2.2.2.2.2.2.1 x.2.2.2.2.2.2.2.2.2.2.2.2.2.1 x.2.2.2.2.2.2.2.2.2.2.2.2.2.2 = encSK SS.enc (fun σ => run2 cf (fun f a b K => COt f a b K [Ibig_Int_set_paj k]) (fun b _ σ K => LOt Ty (kps 79) 2 b σ K []) Tryd.f79.ntmps 2 (lb Tryd.f79 1) σ (nextK Ty (kps 79 2) 2 hsbig_Int_Mul_jod_2 osbig_Int_Mul_jod_2 fun x => Lbig_Int_Mul_jod_2 k n x.1 x.2.1 x.2.2.1 x.2.2.2.1 x.2.2.2.2.1 x.2.2.2.2.2.1 x.2.2.2.2.2.2.1 x.2.2.2.2.2.2.2.1 x.2.2.2.2.2.2.2.2.1 x.2.2.2.2.2.2.2.2.2.1 x.2.2.2.2.2.2.2.2.2.2.1 x.2.2.2.2.2.2.2.2.2.2.2.1 x.2.2.2.2.2.2.2.2.2.2.2.2.1 x.2.2.2.2.2.2.2.2.2.2.2.2.2.1 x.2.2.2.2.2.2.2.2.2.2.2.2.2.2)) hsbig_Int_Mul_jod_2 x := by kernel_rfl
theorem lobig_Int_Mul_jod_2 (k : Nat) : LIOk cf (call cf k) (kps 79) Tryd.f79.ntmps k 2 2 (lb Tryd.f79 1) (LIbig_Int_Mul_jod_2 k) :=
  loop_ok (c := cf) (callF := call cf k) (kp := kps 79) (nt := Tryd.f79.ntmps) (k := k) (p := 2) (b := 2) (x0 := lb Tryd.f79 1) (hs := hsbig_Int_Mul_jod_2) (os := osbig_Int_Mul_jod_2) (COt_ok (albig_Int_Mul_jod k)) (anbig_Int_Mul_jod_2 k) (fun n x => Lbig_Int_Mul_jod_2 k n x.1 x.2.1 x.2.2.1 x.2.2.2.1 x.2.2.2.2.1 x.2.2.2.2.2.1 x.2.2.2.2.2.2.1 x.2.2.2.2.2.2.2.1 x.2.2.2.2.2.2.2.2.1 x.2.2.2.2.2.2.2.2.2.1 x.2.2.2.2.2.2.2.2.2.2.1 x.2.2.2.2.2.2.2.2.2.2.2.1 x.2.2.2.2.2.2.2.2.2.2.2.2.1 x.2.2.2.2.2.2.2.2.2.2.2.2.2.1 x.2.2.2.2.2.2.2.2.2.2.2.2.2.2) (fun _ => rfl) (stbig_Int_Mul_jod_2 k)
def hsbig_Int_Mul_jod_0 : List SS := [{ fr := [(0, .a (.ptr 0 0 0)), (1, .a (.ptr 0 0 0)), (2, .a (.ptr 1 0 0)), (7, .a (.smz 2)), (29, .a (.lf (.sl (.int .u32)))), (30, .a (.lf (.int .i64))), (31, .a (.lf (.int .i64)))], mem := [(0, some (.raw [[.lf .bool, .lf (.sl (.int .u32))]] 2 112 true false false)), (1, some (.raw [[.lf .bool, .lf (.sl (.int .u32))]] 2 112 true false false)), (2, some (.arr (.int .u32) 1 120 false))], nx := 3 }]
def osbig_Int_Mul_jod_0 : List OS := [⟨some 0, { fr := [(0, .a (.ptr 0 0 0)), (1, .a (.ptr 0 0 0)), (2, .a (.ptr 1 0 0)), (7, .a (.smz 2))], mem := [(0, some (.raw [[.lf .bool, .lf (.sl (.int .u32))]] 2 112 true false false)), (1, some (.raw [[.lf .bool, .lf (.sl (.int .u32))]] 2 112 true false false)), (2, some (.arr (.int .u32) 1 120 false))], nx := 3 }⟩]
def LIbig_Int_Mul_jod_0 (k : Nat) : LInst := ⟨0, hsbig_Int_Mul_jod_0, osbig_Int_Mul_jod_0, fun x => Lbig_Int_Mul_jod_0 k k x.1 x.2.1 x.2.2.1 x.2.2.2.1 x.2.2.2.2.1 x.2.2.2.2.2.1 x.2.2.2.2.2.2.1 x.2.2.2.2.2.2.2.1 x.2.2.2.2.2.2.2.2⟩
theorem anbig_Int_Mul_jod_0 (k : Nat) : LAll (LOk (R := DS OS.D osbig_Int_Mul_jod_0) (fun b _ σ K => LOt Ty (kps 79) 2 b σ K [LIbig_Int_Mul_jod_2 k]) cf (call cf k) (kps 79) Tryd.f79.ntmps k 2) 0 (lb Tryd.f79 0) :=
  And.intro (True.intro) (And.intro (And.intro (True.intro) (True.intro)) (And.intro (And.intro (True.intro) (And.intro (True.intro) (And.intro (And.intro (True.intro) (LOt_ok (c := cf) (callF := call cf k) (kp := kps 79) (nt := Tryd.f79.ntmps) (k := k) (p := 2) (b := 2) (x0 := lb Tryd.f79 1) (l := [LIbig_Int_Mul_jod_2 k]) (And.intro (fun _ => lobig_Int_Mul_jod_2 k) (True.intro)))) (True.intro)))) (True.intro)))
theorem stbig_Int_Mul_jod_0 (k n : Nat) (x : DS SS.D hsbig_Int_Mul_jod_0) : Lbig_Int_Mul_jod_0 k (n + 1) x.1 x.2.1 x.2.2.1 x.2.2.2.1 x.2.2.2.2.1 x.2.2.2.2.2.1 x.2.2.2.2.2.2.1 x.2.2.2.2.2.2.2.1 x.2.2.2.2.2.2.2.2 = encSK SS.enc (fun σ => run2 cf (fun f a b K => COt f a b K [Ibig_Int_set_paj k]) (fun b _ σ K => LOt Ty (kps 79) 2 b σ K [LIbig_Int_Mul_jod_2 k]) Tryd.f79.ntmps 0 (lb Tryd.f79 0) σ (nextK Ty (kps 79 0) 2 hsbig_Int_Mul_jod_0 osbig_Int_Mul_jod_0 fun x => Lbig_Int_Mul_jod_0 k n x.1 x.2.1 x.2.2.1 x.2.2.2.1 x.2.2.2.2.1 x.2.2.2.2.2.1 x.2.2.2.2.2.2.1 x.2.2.2.2.2.2.2.1 x.2.2.2.2.2.2.2.2)) hsbig_Int_Mul_jod_0 x := by kernel_rfl
theorem lobig_Int_Mul_jod_0 (k : Nat) : LIOk cf (call cf k) (kps 79) Tryd.f79.ntmps k 2 0 (lb Tryd.f79 0) (LIbig_Int_Mul_jod_0 k) :=
  loop_ok (c := cf) (callF := call cf k) (kp := kps 79) (nt := Tryd.f79.ntmps) (k := k) (p := 2) (b := 0) (x0 := lb Tryd.f79 0) (hs := hsbig_Int_Mul_jod_0) (os := osbig_Int_Mul_jod_0) (COt_ok (albig_Int_Mul_jod k)) (anbig_Int_Mul_jod_0 k) (fun n x => Lbig_Int_Mul_jod_0 k n x.1 x.2.1 x.2.2.1 x.2.2.2.1 x.2.2.2.2.1 x.2.2.2.2.2.1 x.2.2.2.2.2.2.1 x.2.2.2.2.2.2.2.1 x.2.2.2.2.2.2.2.2) (fun _ => rfl) (stbig_Int_Mul_jod_0 k)
theorem anbig_Int_Mul_jod (k : Nat) : LAll (LOk (R := DS FS.D rsbig_Int_Mul_jod) (fun b _ σ K => LOt Ty (kps 79) 2 b σ K [LIbig_Int_Mul_jod_2 k, LIbig_Int_Mul_jod_0 k]) cf (call cf k) (cf.keep 79) Tryd.f79.ntmps k shbig_Int_Mul_jod.bs.length) 0 (bd Tryd.f79) :=
  And.intro (True.intro) (And.intro (True.intro) (And.intro (And.intro (True.intro) (LOt_ok (c := cf) (callF := call cf k) (kp := kps 79) (nt := Tryd.f79.ntmps) (k := k) (p := 2) (b := 0) (x0 := lb Tryd.f79 0) (l := [LIbig_Int_Mul_jod_2 k, LIbig_Int_Mul_jod_0 k]) (And.intro (fun h => absurd (show (2 : Nat) = 0 from h) (by decide)) (And.intro (fun _ => lobig_Int_Mul_jod_0 k) (True.intro))))) (And.intro (True.intro) (True.intro))))
theorem stbig_Int_Mul_jod (k : Nat) (x : shbig_Int_Mul_jod.D) : Fbig_Int_Mul_jod (k + 1) x.1 x.2.1 x.2.2.1 x.2.2.2 = body2 cf (fun f a b K => COt f a b K [Ibig_Int_set_paj k]) (fun b _ σ K => LOt Ty (kps 79) 2 b σ K [LIbig_Int_Mul_jod_2 k, LIbig_Int_Mul_jod_0 k]) 79 Tryd.f79.ntmps Tryd.f79.results.toList (bd Tryd.f79) (shbig_Int_Mul_jod.enc x).1 (shbig_Int_Mul_jod.enc x).2 (putS FS.dec rsbig_Int_Mul_jod) := by kernel_rfl
theorem okbig_Int_Mul_jod : ∀ k, InstOk (call cf k) (Ibig_Int_Mul_jod k)
  | 0 => fun x y e => absurd (show (none : Option _) = some y from e) (by simp)
  | k + 1 => inst_ok (c := cf) (k := k) (f := 79) (fn := Tryd.f79) (body := bd Tryd.f79) (sh := shbig_Int_Mul_jod) (os := rsbig_Int_Mul_jod) rfl Tryd.func79 rfl ⟨rfl, Nat.le_of_ble_eq_true rfl⟩ (COt_ok (albig_Int_Mul_jod k)) (anbig_Int_Mul_jod k) (fun x => Fbig_Int_Mul_jod (k + 1) x.1 x.2.1 x.2.2.1 x.2.2.2) (stbig_Int_Mul_jod k)

/-! shunt/big.Ten -/
def Lbig_Ten_0s (k : Nat) (rec : Int → Int → Bool → List Int → Bool → List Int → Option (Bool × List Int × Bool × List Int)) (x : Int) (x1 : Int) (z0 : Bool) (z1 : List Int) (ten0 : Bool) (ten1 : List Int) : Option (Bool × List Int × Bool × List Int) :=
  if ((decide (x1 < x)) = true) then
    Option.bind (Fbig_Int_Mul_jod k z0 z1 ten0 ten1) fun r13 =>
    rec x (IntKind.wrap .i64 (x1 + (1 : Int))) r13.1 r13.2.1 r13.2.2.1 r13.2.2.2
  else
  (some (z0, z1, ten0, ten1))
def Lbig_Ten_0 (k n : Nat) : Int → Int → Bool → List Int → Bool → List Int → Option (Bool × List Int × Bool × List Int) := Nat.rec (fun _ _ _ _ _ _ => none) (fun _ r => Lbig_Ten_0s k r) n
def bbig_Ten (k : Nat) (k1 : Int) : Option (Bool × List Int) :=
  Option.bind (Fbig_NewInt k (1 : Int)) fun r11 =>
  Option.bind (Fbig_NewInt k (10 : Int)) fun r12 =>
  Option.bind (Lbig_Ten_0 k k k1 (0 : Int) r11.1 r11.2 r12.1 r12.2) fun r13 =>
  (some (r13.1, r13.2.1))
def Fbig_Ten : Nat → Int → Option (Bool × List Int)
  | 0, _ => none
  | k + 1, k1 => bbig_Ten k k1
def shbig_Ten : FS := { vs := [.a (.lf (.int .i64))], bs := [] }
def rsbig_Ten : List FS := [{ vs := [.a (.ptr 0 0 0)], bs := [.raw [[.lf .bool, .lf (.sl (.int .u32))]] 2 112 true false false] }]
def Ibig_Ten (k : Nat) : Inst := ⟨76, shbig_Ten, rsbig_Ten, fun x => Fbig_Ten k x⟩
theorem albig_Ten (k : Nat) : AllI (call cf k) [Ibig_NewInt k, Ibig_Int_Mul_jod k] := And.intro (okbig_NewInt k) (And.intro (okbig_Int_Mul_jod k) (True.intro))
def hsbig_Ten_0 : List SS := [{ fr := [(3, .a (.ptr 0 0 0)), (4, .a (.ptr 1 0 0)), (7, .a (.lf (.int .i64))), (8, .a (.lf (.int .i64)))], mem := [(0, some (.raw [[.lf .bool, .lf (.sl (.int .u32))]] 2 112 true false false)), (1, some (.raw [[.lf .bool, .lf (.sl (.int .u32))]] 2 112 true false false))], nx := 2 }]
def osbig_Ten_0 : List OS := [⟨some 0, { fr := [(3, .a (.ptr 0 0 0))], mem := [(0, some (.raw [[.lf .bool, .lf (.sl (.int .u32))]] 2 112 true false false)), (1, some (.raw [[.lf .bool, .lf (.sl (.int .u32))]] 2 112 true false false))], nx := 2 }⟩]
def LIbig_Ten_0 (k : Nat) : LInst := ⟨0, hsbig_Ten_0, osbig_Ten_0, fun x => Lbig_Ten_0 k k x.1 x.2.1 x.2.2.1 x.2.2.2.1 x.2.2.2.2.1 x.2.2.2.2.2⟩
theorem anbig_Ten_0 (k : Nat) : LAll (LOk (R := DS OS.D osbig_Ten_0) (fun b _ σ K => LOt Ty (kps 76) 0 b σ K []) cf (call cf k) (kps 76) Tryd.f76.ntmps k 0) 0 (lb Tryd.f76 0) :=
  And.intro (True.intro) (And.intro (And.intro (True.intro) (True.intro)) (And.intro (True.intro) (True.intro)))
theorem stbig_Ten_0 (k n : Nat) (x : DS SS.D hsbig_Ten_0) : Lbig_Ten_0 k (n + 1) x.1 x.2.1 x.2.2.1 x.2.2.2.1 x.2.2.2.2.1 x.2.2.2.2.2 = encSK SS.enc (fun σ => run2 cf (fun f a b K => COt f a b K [Ibig_NewInt k, Ibig_Int_Mul_jod k]) (fun b _ σ K => LOt Ty (kps 76) 0 b σ K []) Tryd.f76.ntmps 0 (lb Tryd.f76 0) σ (nextK Ty (kps 76 0) 0 hsbig_Ten_0 osbig_Ten_0 fun x => Lbig_Ten_0 k n x.1 x.2.1 x.2.2.1 x.2.2.2.1 x.2.2.2.2.1 x.2.2.2.2.2)) hsbig_Ten_0 x := by kernel_rfl
theorem lobig_Ten_0 (k : Nat) : LIOk cf (call cf k) (kps 76) Tryd.f76.ntmps k 0 0 (lb Tryd.f76 0) (LIbig_Ten_0 k) :=
  loop_ok (c := cf) (callF := call cf k) (kp := kps 76) (nt := Tryd.f76.ntmps) (k := k) (p := 0) (b := 0) (x0 := lb Tryd.f76 0) (hs := hsbig_Ten_0) (os := osbig_Ten_0) (COt_ok (albig_Ten k)) (anbig_Ten_0 k) (fun n x => Lbig_Ten_0 k n x.1 x.2.1 x.2.2.1 x.2.2.2.1 x.2.2.2.2.1 x.2.2.2.2.2) (fun _ => rfl) (stbig_Ten_0 k)
theorem anbig_Ten (k : Nat) : LAll (LOk (R := DS FS.D rsbig_Ten) (fun b _ σ K => LOt Ty (kps 76) 0 b σ K [LIbig_Ten_0 k]) cf (call cf k) (cf.keep 76) Tryd.f76.ntmps k shbig_Ten.bs.length) 0 (bd Tryd.f76) :=
  And.intro (True.intro) (And.intro (True.intro) (And.intro (And.intro (True.intro) (LOt_ok (c := cf) (callF := call cf k) (kp := kps 76) (nt := Tryd.f76.ntmps) (k := k) (p := 0) (b := 0) (x0 := lb Tryd.f76 0) (l := [LIbig_Ten_0 k]) (And.intro (fun _ => lobig_Ten_0 k) (True.intro)))) (And.intro (True.intro) (True.intro))))
theorem stbig_Ten (k : Nat) (x : shbig_Ten.D) : Fbig_Ten (k + 1) x = body2 cf (fun f a b K => COt f a b K [Ibig_NewInt k, Ibig_Int_Mul_jod k]) (fun b _ σ K => LOt Ty (kps 76) 0 b σ K [LIbig_Ten_0 k]) 76 Tryd.f76.ntmps Tryd.f76.results.toList (bd Tryd.f76) (shbig_Ten.enc x).1 (shbig_Ten.enc x).2 (putS FS.dec rsbig_Ten) := by kernel_rfl
theorem okbig_Ten : ∀ k, InstOk (call cf k) (Ibig_Ten k)
  | 0 => fun x y e => absurd (show (none : Option _) = some y from e) (by simp)
  | k + 1 => inst_ok (c := cf) (k := k) (f := 76) (fn := Tryd.f76) (body := bd Tryd.f76) (sh := shbig_Ten) (os := rsbig_Ten) rfl Tryd.func76 rfl ⟨rfl, Nat.le_of_ble_eq_true rfl⟩ (COt_ok (albig_Ten k)) (anbig_Ten k) (fun x => Fbig_Ten (k + 1) x) (stbig_Ten k)

/-! shunt/big.cmp -/
def Lbig_cmp_0s (k : Nat) (rec : List Int → List Int → Int → Option ((Int) ⊕ (Unit))) (a : List Int) (b : List Int) (i : Int) : Option ((Int) ⊕ (Unit)) :=
  if ((decide (i ≥ (0 : Int))) = true) then
    if ((0 : Int) ≤ i) then
      Option.bind (a)[(Int.toNat i)]? fun x6 =>
      if ((0 : Int) ≤ i) then
        Option.bind (b)[(Int.toNat i)]? fun x7 =>
        if ((x6 != x7) = true) then
          if ((0 : Int) ≤ i) then
            Option.bind (a)[(Int.toNat i)]? fun x8 =>
            if ((0 : Int) ≤ i) then
              Option.bind (b)[(Int.toNat i)]? fun x9 =>
              if ((decide (x8 < x9)) = true) then
                (some (Sum.inl (-(1 : Int))))
              else
              (some (Sum.inl (1 : Int)))
            else
            none
          else
          none
        else
        rec a b (IntKind.wrap .i64 (i - (1 : Int)))
      else
      none
    else
    none
  else
  (some (Sum.inr ()))
def Lbig_cmp_0 (k n : Nat) : List Int → List Int → Int → Option ((Int) ⊕ (Unit)) := Nat.rec (fun _ _ _ => none) (fun _ r => Lbig_cmp_0s k r) n
def bbig_cmp (k : Nat) (a : List Int) (b : List Int) : Option (Int) :=
  if (((((List.length a) : Nat) : Int) != (((List.length b) : Nat) : Int)) = true) then
    if ((decide ((((List.length a) : Nat) : Int) < (((List.length b) : Nat) : Int))) = true) then
      (some (-(1 : Int)))
    else
    (some (1 : Int))
  else
  Option.bind (Lbig_cmp_0 k k a b (IntKind.wrap .i64 ((((List.length a) : Nat) : Int) - (1 : Int)))) fun r13 =>
  eitherK r13
    (fun r13 =>
    (some r13))
    (fun r13 =>
    (some (0 : Int)))
def Fbig_cmp : Nat → List Int → List Int → Option (Int)
  | 0, _, _ => none
  | k + 1, a, b => bbig_cmp k a b
def shbig_cmp : FS := { vs := [.a (.lf (.sl (.int .u32))), .a (.lf (.sl (.int .u32)))], bs := [] }
def rsbig_cmp : List FS := [{ vs := [.a (.lf (.int .i64))], bs := [] }]
def Ibig_cmp (k : Nat) : Inst := ⟨90, shbig_cmp, rsbig_cmp, fun x => Fbig_cmp k x.1 x.2⟩
theorem albig_cmp (k : Nat) : AllI (call cf k) [] := True.intro
def hsbig_cmp_0 : List SS := [{ fr := [(0, .a (.lf (.sl (.int .u32)))), (1, .a (.lf (.sl (.int .u32)))), (5, .a (.lf (.int .i64)))], mem := [], nx := 0 }]
def osbig_cmp_0 : List OS := [⟨none, { fr := [(4, .a (.lf (.int .i64)))], mem := [], nx := 0 }⟩, ⟨some 0, { fr := [], mem := [], nx := 0 }⟩]
def LIbig_cmp_0 (k : Nat) : LInst := ⟨0, hsbig_cmp_0, osbig_cmp_0, fun x => Lbig_cmp_0 k k x.1 x.2.1 x.2.2⟩
theorem anbig_cmp_0 (k : Nat) : LAll (LOk (R := DS OS.D osbig_cmp_0) (fun b _ σ K => LOt Ty (kps 90) 0 b σ K []) cf (call cf k) (kps 90) Tryd.f90.ntmps k 0) 0 (lb Tryd.f90 0) :=
  And.intro (And.intro (True.intro) (And.intro (True.intro) (True.intro))) (And.intro (And.intro (True.intro) (And.intro (And.intro (And.intro (True.intro) (And.intro (And.intro (True.intro) (True.intro)) (True.intro))) (And.intro (True.intro) (True.intro))) (True.intro))) (True.intro))
theorem stbig_cmp_0 (k n : Nat) (x : DS SS.D hsbig_cmp_0) : Lbig_cmp_0 k (n + 1) x.1 x.2.1 x.2.2 = encSK SS.enc (fun σ => run2 cf (fun f a b K => COt f a b K []) (fun b _ σ K => LOt Ty (kps 90) 0 b σ K []) Tryd.f90.ntmps 0 (lb Tryd.f90 0) σ (nextK Ty (kps 90 0) 0 hsbig_cmp_0 osbig_cmp_0 fun x => Lbig_cmp_0 k n x.1 x.2.1 x.2.2)) hsbig_cmp_0 x := by kernel_rfl
theorem lobig_cmp_0 (k : Nat) : LIOk cf (call cf k) (kps 90) Tryd.f90.ntmps k 0 0 (lb Tryd.f90 0) (LIbig_cmp_0 k) :=
  loop_ok (c := cf) (callF := call cf k) (kp := kps 90) (nt := Tryd.f90.ntmps) (k := k) (p := 0) (b := 0) (x0 := lb Tryd.f90 0) (hs := hsbig_cmp_0) (os := osbig_cmp_0) (COt_ok (albig_cmp k)) (anbig_cmp_0 k) (fun n x => Lbig_cmp_0 k n x.1 x.2.1 x.2.2) (fun _ => rfl) (stbig_cmp_0 k)
theorem anbig_cmp (k : Nat) : LAll (LOk (R := DS FS.D rsbig_cmp) (fun b _ σ K => LOt Ty (kps 90) 0 b σ K [LIbig_cmp_0 k]) cf (call cf k) (cf.keep 90) Tryd.f90.ntmps k shbig_cmp.bs.length) 0 (bd Tryd.f90) :=
  And.intro (True.intro) (And.intro (And.intro (True.intro) (And.intro (And.intro (And.intro (True.intro) (And.intro (And.intro (True.intro) (True.intro)) (True.intro))) (And.intro (True.intro) (True.intro))) (True.intro))) (And.intro (And.intro (True.intro) (LOt_ok (c := cf) (callF := call cf k) (kp := kps 90) (nt := Tryd.f90.ntmps) (k := k) (p := 0) (b := 0) (x0 := lb Tryd.f90 0) (l := [LIbig_cmp_0 k]) (And.intro (fun _ => lobig_cmp_0 k) (True.intro)))) (And.intro (True.intro) (True.intro))))
theorem stbig_cmp (k : Nat) (x : shbig_cmp.D) : Fbig_cmp (k + 1) x.1 x.2 = body2 cf (fun f a b K => COt f a b K []) (fun b _ σ K => LOt Ty (kps 90) 0 b σ K [LIbig_cmp_0 k]) 90 Tryd.f90.ntmps Tryd.f90.results.toList (bd Tryd.f90) (shbig_cmp.enc x).1 (shbig_cmp.enc x).2 (putS FS.dec rsbig_cmp) := by kernel_rfl
theorem okbig_cmp : ∀ k, InstOk (call cf k) (Ibig_cmp k)
  | 0 => fun x y e => absurd (show (none : Option _) = some y from e) (by simp)
  | k + 1 => inst_ok (c := cf) (k := k) (f := 90) (fn := Tryd.f90) (body := bd Tryd.f90) (sh := shbig_cmp) (os := rsbig_cmp) rfl Tryd.func90 rfl ⟨rfl, Nat.le_of_ble_eq_true rfl⟩ (COt_ok (albig_cmp k)) (anbig_cmp k) (fun x => Fbig_cmp (k + 1) x.1 x.2) (stbig_cmp k)

/-! shunt/big.short -/
def Lbig_short_0s (k : Nat) (rec : List Int → Int → Nat → Int → Int → List Int → Option (Nat × Int × List Int)) (a : List Int) (d : Int) (q : Nat) (r : Int) (i : Int) (qs : List Int) : Option (Nat × Int × List Int) :=
  if ((decide (i ≥ (0 : Int))) = true) then
    if ((0 : Int) ≤ i) then
      Option.bind (a)[(Int.toNat i)]? fun x7 =>
      if ((IntKind.wrap .u64 d) = (0 : Int)) then
        none
      else
      if (((0 : Int) ≤ i) ∧ (i < ((q : Nat) : Int))) then
        Option.bind (qs)[(0 + (Int.toNat i))]? fun x8 =>
        if ((IntKind.wrap .u64 d) = (0 : Int)) then
          none
        else
        rec a d q (Int.tmod (IntKind.wrap .u64 (((BitVec.toNat ((BitVec.ofInt 64 (IntKind.wrap .u64 (r * (4294967296 : Int)))) ||| (BitVec.ofInt 64 (IntKind.wrap .u64 x7)))) : Nat) : Int)) (IntKind.wrap .u64 d)) (IntKind.wrap .i64 (i - (1 : Int))) (List.set qs (0 + (Int.toNat i)) (IntKind.wrap .u32 (IntKind.wrap .u64 (Int.tdiv (IntKind.wrap .u64 (((BitVec.toNat ((BitVec.ofInt 64 (IntKind.wrap .u64 (r * (4294967296 : Int)))) ||| (BitVec.ofInt 64 (IntKind.wrap .u64 x7)))) : Nat) : Int)) (IntKind.wrap .u64 d)))))
      else
      none
    else
    none
  else
  (some (q, r, qs))
def Lbig_short_0 (k n : Nat) : List Int → Int → Nat → Int → Int → List Int → Option (Nat × Int × List Int) := Nat.rec (fun _ _ _ _ _ _ => none) (fun _ r => Lbig_short_0s k r) n
def bbig_short (k : Nat) (a : List Int) (d : Int) : Option (List Int × Int) :=
  if (((0 : Int) ≤ (((List.length a) : Nat) : Int)) ∧ (((((List.length a) : Nat) : Int) ≤ (((List.length a) : Nat) : Int)) ∧ (((((List.length a) : Nat) : Int) * (4 : Int)) ≤ (140737488355328 : Int)))) then
    Option.bind (Lbig_short_0 k k a d (Int.toNat (((List.length a) : Nat) : Int)) (0 : Int) (IntKind.wrap .i64 ((((List.length a) : Nat) : Int) - (1 : Int))) (List.replicate (Int.toNat (((List.length a) : Nat) : Int)) (0 : Int))) fun r14 =>
    if ((0 + r14.1) ≤ (List.length r14.2.2)) then
      (some ((List.take r14.1 r14.2.2), (IntKind.wrap .u32 r14.2.1)))
    else
    none
  else
  none
def Fbig_short : Nat → List Int → Int → Option (List Int × Int)
  | 0, _, _ => none
  | k + 1, a, d => bbig_short k a d
def shbig_short : FS := { vs := [.a (.lf (.sl (.int .u32))), .a (.lf (.int .u32))], bs := [] }
def rsbig_short : List FS := [{ vs := [.a (.lf (.sl (.int .u32))), .a (.lf (.int .u32))], bs := [] }]
def Ibig_short (k : Nat) : Inst := ⟨96, shbig_short, rsbig_short, fun x => Fbig_short k x.1 x.2⟩
theorem albig_short (k : Nat) : AllI (call cf k) [] := True.intro
def hsbig_short_0 : List SS := [{ fr := [(0, .a (.lf (.sl (.int .u32)))), (1, .a (.lf (.int .u32))), (6, .a (.smz 0)), (7, .a (.lf (.int .u64))), (8, .a (.lf (.int .i64)))], mem := [(0, some (.arr (.int .u32) 1 120 false))], nx := 1 }]
def osbig_short_0 : List OS := [⟨some 0, { fr := [(6, .a (.smz 0)), (7, .a (.lf (.int .u64)))], mem := [(0, some (.arr (.int .u32) 1 120 false))], nx := 1 }⟩]
def LIbig_short_0 (k : Nat) : LInst := ⟨0, hsbig_short_0, osbig_short_0, fun x => Lbig_short_0 k k x.1 x.2.1 x.2.2.1 x.2.2.2.1 x.2.2.2.2.1 x.2.2.2.2.2⟩
theorem anbig_short_0 (k : Nat) : LAll (LOk (R := DS OS.D osbig_short_0) (fun b _ σ K => LOt Ty (kps 96) 0 b σ K []) cf (call cf k) (kps 96) Tryd.f96.ntmps k 0) 0 (lb Tryd.f96 0) :=
  And.intro (And.intro (True.intro) (And.intro (True.intro) (True.intro))) (And.intro (And.intro (True.intro) (And.intro (True.intro) (True.intro))) (True.intro))
theorem stbig_short_0 (k n : Nat) (x : DS SS.D hsbig_short_0) : Lbig_short_0 k (n + 1) x.1 x.2.1 x.2.2.1 x.2.2.2.1 x.2.2.2.2.1 x.2.2.2.2.2 = encSK SS.enc (fun σ => run2 cf (fun f a b K => COt f a b K []) (fun b _ σ K => LOt Ty (kps 96) 0 b σ K []) Tryd.f96.ntmps 0 (lb Tryd.f96 0) σ (nextK Ty (kps 96 0) 0 hsbig_short_0 osbig_short_0 fun x => Lbig_short_0 k n x.1 x.2.1 x.2.2.1 x.2.2.2.1 x.2.2.2.2.1 x.2.2.2.2.2)) hsbig_short_0 x := by kernel_rfl
theorem lobig_short_0 (k : Nat) : LIOk cf (call cf k) (kps 96) Tryd.f96.ntmps k 0 0 (lb Tryd.f96 0) (LIbig_short_0 k) :=
  loop_ok (c := cf) (callF := call cf k) (kp := kps 96) (nt := Tryd.f96.ntmps) (k := k) (p := 0) (b := 0) (x0 := lb Tryd.f96 0) (hs := hsbig_short_0) (os := osbig_short_0) (COt_ok (albig_short k)) (anbig_short_0 k) (fun n x => Lbig_short_0 k n x.1 x.2.1 x.2.2.1 x.2.2.2.1 x.2.2.2.2.1 x.2.2.2.2.2) (fun _ => rfl) (stbig_short_0 k)
theorem anbig_short (k : Nat) : LAll (LOk (R := DS FS.D rsbig_short) (fun b _ σ K => LOt Ty (kps 96) 0 b σ K [LIbig_short_0 k]) cf (call cf k) (cf.keep 96) Tryd.f96.ntmps k shbig_short.bs.length) 0 (bd Tryd.f96) :=
  And.intro (True.intro) (And.intro (True.intro) (And.intro (True.intro) (And.intro (And.intro (True.intro) (LOt_ok (c := cf) (callF := call cf k) (kp := kps 96) (nt := Tryd.f96.ntmps) (k := k) (p := 0) (b := 0) (x0 := lb Tryd.f96 0) (l := [LIbig_short_0 k]) (And.intro (fun _ => lobig_short_0 k) (True.intro)))) (And.intro (True.intro) (True.intro)))))
theorem stbig_short (k : Nat) (x : shbig_short.D) : Fbig_short (k + 1) x.1 x.2 = body2 cf (fun f a b K => COt f a b K []) (fun b _ σ K => LOt Ty (kps 96) 0 b σ K [LIbig_short_0 k]) 96 Tryd.f96.ntmps Tryd.f96.results.toList (bd Tryd.f96) (shbig_short.enc x).1 (shbig_short.enc x).2 (putS FS.dec rsbig_short) := by kernel_rfl
theorem okbig_short : ∀ k, InstOk (call cf k) (Ibig_short k)
  | 0 => fun x y e => absurd (show (none : Option _) = some y from e) (by simp)
  | k + 1 => inst_ok (c := cf) (k := k) (f := 96) (fn := Tryd.f96) (body := bd Tryd.f96) (sh := shbig_short) (os := rsbig_short) rfl Tryd.func96 rfl ⟨rfl, Nat.le_of_ble_eq_true rfl⟩ (COt_ok (albig_short k)) (anbig_short k) (fun x => Fbig_short (k + 1) x.1 x.2) (stbig_short k)

/-! shunt/big.shift -/
def Lbig_shift_0s (k : Nat) (rec : Int → Nat → List Int → Int → Int → List Int → Option (Nat × List Int)) (bits : Int) (out1 : Nat) (x : List Int) (x1 : Int) (x2 : Int) (outs : List Int) : Option (Nat × List Int) :=
  if ((decide (x2 < x1)) = true) then
    if ((0 : Int) ≤ x2) then
      Option.bind (x)[(Int.toNat x2)]? fun x6 =>
      if (bits < (0 : Int)) then
        none
      else
      if (((0 : Int) ≤ x2) ∧ (x2 < ((out1 : Nat) : Int))) then
        Option.bind (outs)[(0 + (Int.toNat x2))]? fun x7 =>
        if (((0 : Int) ≤ x2) ∧ (x2 < ((out1 : Nat) : Int))) then
          Option.bind (outs)[(0 + (Int.toNat x2))]? fun x8 =>
          if (((0 : Int) ≤ (IntKind.wrap .i64 (x2 + (1 : Int)))) ∧ ((IntKind.wrap .i64 (x2 + (1 : Int))) < ((out1 : Nat) : Int))) then
            Option.bind ((List.set outs (0 + (Int.toNat x2)) (IntKind.wrap .u32 (((BitVec.toNat ((BitVec.ofInt 32 x7) ||| (BitVec.ofInt 32 (IntKind.wrap .u32 (IntKind.wrap .u64 ((IntKind.wrap .u64 x6) * ((2 : Int) ^ (min (Int.toNat bits) 64)))))))) : Nat) : Int))))[(0 + (Int.toNat (IntKind.wrap .i64 (x2 + (1 : Int)))))]? fun x9 =>
            rec bits out1 x x1 (IntKind.wrap .i64 (x2 + (1 : Int))) (List.set (List.set outs (0 + (Int.toNat x2)) (IntKind.wrap .u32 (((BitVec.toNat ((BitVec.ofInt 32 x7) ||| (BitVec.ofInt 32 (IntKind.wrap .u32 (IntKind.wrap .u64 ((IntKind.wrap .u64 x6) * ((2 : Int) ^ (min (Int.toNat bits) 64)))))))) : Nat) : Int))) (0 + (Int.toNat (IntKind.wrap .i64 (x2 + (1 : Int))))) (IntKind.wrap .u32 (Int.fdiv (IntKind.wrap .u64 ((IntKind.wrap .u64 x6) * ((2 : Int) ^ (min (Int.toNat bits) 64)))) (4294967296 : Int))))
          else
          none
        else
        none
      else
      none
    else
    none
  else
  (some (out1, outs))
def Lbig_shift_0 (k n : Nat) : Int → Nat → List Int → Int → Int → List Int → Option (Nat × List Int) := Nat.rec (fun _ _ _ _ _ _ => none) (fun _ r => Lbig_shift_0s k r) n
def bbig_shift (k : Nat) (a : List Int) (bits : Int) : Option (Nat × List Int) :=
  if (((0 : Int) ≤ (IntKind.wrap .i64 ((((List.length a) : Nat) : Int) + (1 : Int)))) ∧ (((IntKind.wrap .i64 ((((List.length a) : Nat) : Int) + (1 : Int))) ≤ (IntKind.wrap .i64 ((((List.length a) : Nat) : Int) + (1 : Int)))) ∧ (((IntKind.wrap .i64 ((((List.length a) : Nat) : Int) + (1 : Int))) * (4 : Int)) ≤ (140737488355328 : Int)))) then
    Option.bind (Lbig_shift_0 k k bits (Int.toNat (IntKind.wrap .i64 ((((List.length a) : Nat) : Int) + (1 : Int)))) a (((List.length a) : Nat) : Int) (0 : Int) (List.replicate (Int.toNat (IntKind.wrap .i64 ((((List.length a) : Nat) : Int) + (1 : Int)))) (0 : Int))) fun r15 =>
    (some (r15.1, r15.2))
  else
  none
def Fbig_shift : Nat → List Int → Int → Option (Nat × List Int)
  | 0, _, _ => none
  | k + 1, a, bits => bbig_shift k a bits
def shbig_shift : FS := { vs := [.a (.lf (.sl (.int .u32))), .a (.lf (.int .u64))], bs := [] }
def rsbig_shift : List FS := [{ vs := [.a (.smz 0)], bs := [.arr (.int .u32) 1 120 false] }]
def Ibig_shift (k : Nat) : Inst := ⟨98, shbig_shift, rsbig_shift, fun x => Fbig_shift k x.1 x.2⟩
theorem albig_shift (k : Nat) : AllI (call cf k) [] := True.intro
def hsbig_shift_0 : List SS := [{ fr := [(1, .a (.lf (.int .u64))), (5, .a (.smz 0)), (13, .a (.lf (.sl (.int .u32)))), (14, .a (.lf (.int .i64))), (15, .a (.lf (.int .i64)))], mem := [(0, some (.arr (.int .u32) 1 120 false))], nx := 1 }]
def osbig_shift_0 : List OS := [⟨some 0, { fr := [(5, .a (.smz 0))], mem := [(0, some (.arr (.int .u32) 1 120 false))], nx := 1 }⟩]
def LIbig_shift_0 (k : Nat) : LInst := ⟨0, hsbig_shift_0, osbig_shift_0, fun x => Lbig_shift_0 k k x.1 x.2.1 x.2.2.1 x.2.2.2.1 x.2.2.2.2.1 x.2.2.2.2.2⟩
theorem anbig_shift_0 (k : Nat) : LAll (LOk (R := DS OS.D osbig_shift_0) (fun b _ σ K => LOt Ty (kps 98) 0 b σ K []) cf (call cf k) (kps 98) Tryd.f98.ntmps k 0) 0 (lb Tryd.f98 0) :=
  And.intro (True.intro) (And.intro (And.intro (True.intro) (True.intro)) (And.intro (And.intro (True.intro) (And.intro (True.intro) (And.intro (True.intro) (True.intro)))) (True.intro)))
theorem stbig_shift_0 (k n : Nat) (x : DS SS.D hsbig_shift_0) : Lbig_shift_0 k (n + 1) x.1 x.2.1 x.2.2.1 x.2.2.2.1 x.2.2.2.2.1 x.2.2.2.2.2 = encSK SS.enc (fun σ => run2 cf (fun f a b K => COt f a b K []) (fun b _ σ K => LOt Ty (kps 98) 0 b σ K []) Tryd.f98.ntmps 0 (lb Tryd.f98 0) σ (nextK Ty (kps 98 0) 0 hsbig_shift_0 osbig_shift_0 fun x => Lbig_shift_0 k n x.1 x.2.1 x.2.2.1 x.2.2.2.1 x.2.2.2.2.1 x.2.2.2.2.2)) hsbig_shift_0 x := by kernel_rfl
theorem lobig_shift_0 (k : Nat) : LIOk cf (call cf k) (kps 98) Tryd.f98.ntmps k 0 0 (lb Tryd.f98 0) (LIbig_shift_0 k) :=
  loop_ok (c := cf) (callF := call cf k) (kp := kps 98) (nt := Tryd.f98.ntmps) (k := k) (p := 0) (b := 0) (x0 := lb Tryd.f98 0) (hs := hsbig_shift_0) (os := osbig_shift_0) (COt_ok (albig_shift k)) (anbig_shift_0 k) (fun n x => Lbig_shift_0 k n x.1 x.2.1 x.2.2.1 x.2.2.2.1 x.2.2.2.2.1 x.2.2.2.2.2) (fun _ => rfl) (stbig_shift_0 k)
theorem anbig_shift (k : Nat) : LAll (LOk (R := DS FS.D rsbig_shift) (fun b _ σ K => LOt Ty (kps 98) 0 b σ K [LIbig_shift_0 k]) cf (call cf k) (cf.keep 98) Tryd.f98.ntmps k shbig_shift.bs.length) 0 (bd Tryd.f98) :=
  And.intro (True.intro) (And.intro (True.intro) (And.intro (And.intro (True.intro) (LOt_ok (c := cf) (callF := call cf k) (kp := kps 98) (nt := Tryd.f98.ntmps) (k := k) (p := 0) (b := 0) (x0 := lb Tryd.f98 0) (l := [LIbig_shift_0 k]) (And.intro (fun _ => lobig_shift_0 k) (True.intro)))) (And.intro (True.intro) (True.intro))))
theorem stbig_shift (k : Nat) (x : shbig_shift.D) : Fbig_shift (k + 1) x.1 x.2 = body2 cf (fun f a b K => COt f a b K []) (fun b _ σ K => LOt Ty (kps 98) 0 b σ K [LIbig_shift_0 k]) 98 Tryd.f98.ntmps Tryd.f98.results.toList (bd Tryd.f98) (shbig_shift.enc x).1 (shbig_shift.enc x).2 (putS FS.dec rsbig_shift) := by kernel_rfl
theorem okbig_shift : ∀ k, InstOk (call cf k) (Ibig_shift k)
  | 0 => fun x y e => absurd (show (none : Option _) = some y from e) (by simp)
  | k + 1 => inst_ok (c := cf) (k := k) (f := 98) (fn := Tryd.f98) (body := bd Tryd.f98) (sh := shbig_shift) (os := rsbig_shift) rfl Tryd.func98 rfl ⟨rfl, Nat.le_of_ble_eq_true rfl⟩ (COt_ok (albig_shift k)) (anbig_shift k) (fun x => Fbig_shift (k + 1) x.1 x.2) (stbig_shift k)

/-! shunt/big.take -/
def Lbig_take_zvq_0s (k : Nat) (rec : Nat → Nat → Nat → Int → Int → Int → Int → Int → List Int → List Int → Option (Nat × Nat × Nat × Int × Int × List Int × List Int)) (u0 : Nat) (u1 : Nat) (v : Nat) (d : Int) (carry : Int) (borrow : Int) (x : Int) (x1 : Int) (us : List Int) (vs : List Int) : Option (Nat × Nat × Nat × Int × Int × List Int × List Int) :=
  if ((decide (x1 < x)) = true) then
    if ((decide (x1 < ((v : Nat) : Int))) = true) then
      if (((0 : Int) ≤ x1) ∧ (x1 < ((v : Nat) : Int))) then
        Option.bind (vs)[(0 + (Int.toNat x1))]? fun x10 =>
        if (((0 : Int) ≤ x1) ∧ (x1 < ((u1 : Nat) : Int))) then
          Option.bind (us)[(u0 + (Int.toNat x1))]? fun x11 =>
          if ((decide ((IntKind.wrap .u64 x11) < (IntKind.wrap .u64 ((IntKind.wrap .u64 (((BitVec.toNat ((BitVec.ofInt 64 (IntKind.wrap .u64 (carry + (IntKind.wrap .u64 (d * (IntKind.wrap .u64 x10)))))) &&& (BitVec.ofInt 64 (4294967295 : Int)))) : Nat) : Int)) + borrow)))) = true) then
            if (((0 : Int) ≤ x1) ∧ (x1 < ((u1 : Nat) : Int))) then
              Option.bind (us)[(u0 + (Int.toNat x1))]? fun x12 =>
              if (((0 : Int) ≤ x1) ∧ (x1 < ((u1 : Nat) : Int))) then
                Option.bind (us)[(u0 + (Int.toNat x1))]? fun x13 =>
                rec u0 u1 v d (Int.fdiv (IntKind.wrap .u64 (carry + (IntKind.wrap .u64 (d * (IntKind.wrap .u64 x10))))) (4294967296 : Int)) (1 : Int) x (IntKind.wrap .i64 (x1 + (1 : Int))) (List.set us (u0 + (Int.toNat x1)) (IntKind.wrap .u32 (IntKind.wrap .u64 ((IntKind.wrap .u64 x12) - (IntKind.wrap .u64 ((IntKind.wrap .u64 (((BitVec.toNat ((BitVec.ofInt 64 (IntKind.wrap .u64 (carry + (IntKind.wrap .u64 (d * (IntKind.wrap .u64 x10)))))) &&& (BitVec.ofInt 64 (4294967295 : Int)))) : Nat) : Int)) + borrow)))))) vs
              else
              none
            else
            none
          else
          if (((0 : Int) ≤ x1) ∧ (x1 < ((u1 : Nat) : Int))) then
            Option.bind (us)[(u0 + (Int.toNat x1))]? fun x12 =>
            if (((0 : Int) ≤ x1) ∧ (x1 < ((u1 : Nat) : Int))) then
              Option.bind (us)[(u0 + (Int.toNat x1))]? fun x13 =>
              rec u0 u1 v d (Int.fdiv (IntKind.wrap .u64 (carry + (IntKind.wrap .u64 (d * (IntKind.wrap .u64 x10))))) (4294967296 : Int)) (0 : Int) x (IntKind.wrap .i64 (x1 + (1 : Int))) (List.set us (u0 + (Int.toNat x1)) (IntKind.wrap .u32 (IntKind.wrap .u64 ((IntKind.wrap .u64 x12) - (IntKind.wrap .u64 ((IntKind.wrap .u64 (((BitVec.toNat ((BitVec.ofInt 64 (IntKind.wrap .u64 (carry + (IntKind.wrap .u64 (d * (IntKind.wrap .u64 x10)))))) &&& (BitVec.ofInt 64 (4294967295 : Int)))) : Nat) : Int)) + borrow)))))) vs
            else
            none
          else
          none
        else
        none
      else
      none
    else
    if (((0 : Int) ≤ x1) ∧ (x1 < ((u1 : Nat) : Int))) then
      Option.bind (us)[(u0 + (Int.toNat x1))]? fun x10 =>
      if ((decide ((IntKind.wrap .u64 x10) < (IntKind.wrap .u64 ((IntKind.wrap .u64 (((BitVec.toNat ((BitVec.ofInt 64 carry) &&& (BitVec.ofInt 64 (4294967295 : Int)))) : Nat) : Int)) + borrow)))) = true) then
        if (((0 : Int) ≤ x1) ∧ (x1 < ((u1 : Nat) : Int))) then
          Option.bind (us)[(u0 + (Int.toNat x1))]? fun x11 =>
          if (((0 : Int) ≤ x1) ∧ (x1 < ((u1 : Nat) : Int))) then
            Option.bind (us)[(u0 + (Int.toNat x1))]? fun x12 =>
            rec u0 u1 v d (Int.fdiv carry (4294967296 : Int)) (1 : Int) x (IntKind.wrap .i64 (x1 + (1 : Int))) (List.set us (u0 + (Int.toNat x1)) (IntKind.wrap .u32 (IntKind.wrap .u64 ((IntKind.wrap .u64 x11) - (IntKind.wrap .u64 ((IntKind.wrap .u64 (((BitVec.toNat ((BitVec.ofInt 64 carry) &&& (BitVec.ofInt 64 (4294967295 : Int)))) : Nat) : Int)) + borrow)))))) vs
          else
          none
        else
        none
      else
      if (((0 : Int) ≤ x1) ∧ (x1 < ((u1 : Nat) : Int))) then
        Option.bind (us)[(u0 + (Int.toNat x1))]? fun x11 =>
        if (((0 : Int) ≤ x1) ∧ (x1 < ((u1 : Nat) : Int))) then
          Option.bind (us)[(u0 + (Int.toNat x1))]? fun x12 =>
          rec u0 u1 v d (Int.fdiv carry (4294967296 : Int)) (0 : Int) x (IntKind.wrap .i64 (x1 + (1 : Int))) (List.set us (u0 + (Int.toNat x1)) (IntKind.wrap .u32 (IntKind.wrap .u64 ((IntKind.wrap .u64 x11) - (IntKind.wrap .u64 ((IntKind.wrap .u64 (((BitVec.toNat ((BitVec.ofInt 64 carry) &&& (BitVec.ofInt 64 (4294967295 : Int)))) : Nat) : Int)) + borrow)))))) vs
        else
        none
      else
      none
    else
    none
  else
  (some (u0, u1, v, d, borrow, us, vs))
def Lbig_take_zvq_0 (k n : Nat) : Nat → Nat → Nat → Int → Int → Int → Int → Int → List Int → List Int → Option (Nat × Nat × Nat × Int × Int × List Int × List Int) := Nat.rec (fun _ _ _ _ _ _ _ _ _ _ => none) (fun _ r => Lbig_take_zvq_0s k r) n
def Lbig_take_zvq_2s (k : Nat) (rec : Nat → Nat → Nat → Int → Int → Int → Int → List Int → List Int → Option (Int × List Int × List Int)) (u0 : Nat) (u1 : Nat) (v : Nat) (d : Int) (carry : Int) (x : Int) (x1 : Int) (us : List Int) (vs : List Int) : Option (Int × List Int × List Int) :=
  if ((decide (x1 < x)) = true) then
    if (((0 : Int) ≤ x1) ∧ (x1 < ((u1 : Nat) : Int))) then
      Option.bind (us)[(u0 + (Int.toNat x1))]? fun x10 =>
      if ((decide (x1 < ((v : Nat) : Int))) = true) then
        if (((0 : Int) ≤ x1) ∧ (x1 < ((v : Nat) : Int))) then
          Option.bind (vs)[(0 + (Int.toNat x1))]? fun x11 =>
          if (((0 : Int) ≤ x1) ∧ (x1 < ((u1 : Nat) : Int))) then
            Option.bind (us)[(u0 + (Int.toNat x1))]? fun x12 =>
            rec u0 u1 v d (Int.fdiv (IntKind.wrap .u64 ((IntKind.wrap .u64 ((IntKind.wrap .u64 x10) + carry)) + (IntKind.wrap .u64 x11))) (4294967296 : Int)) x (IntKind.wrap .i64 (x1 + (1 : Int))) (List.set us (u0 + (Int.toNat x1)) (IntKind.wrap .u32 (IntKind.wrap .u64 ((IntKind.wrap .u64 ((IntKind.wrap .u64 x10) + carry)) + (IntKind.wrap .u64 x11))))) vs
          else
          none
        else
        none
      else
      if (((0 : Int) ≤ x1) ∧ (x1 < ((u1 : Nat) : Int))) then
        Option.bind (us)[(u0 + (Int.toNat x1))]? fun x11 =>
        rec u0 u1 v d (Int.fdiv (IntKind.wrap .u64 ((IntKind.wrap .u64 x10) + carry)) (4294967296 : Int)) x (IntKind.wrap .i64 (x1 + (1 : Int))) (List.set us (u0 + (Int.toNat x1)) (IntKind.wrap .u32 (IntKind.wrap .u64 ((IntKind.wrap .u64 x10) + carry)))) vs
      else
      none
    else
    none
  else
  (some (d, us, vs))
def Lbig_take_zvq_2 (k n : Nat) : Nat → Nat → Nat → Int → Int → Int → Int → List Int → List Int → Option (Int × List Int × List Int) := Nat.rec (fun _ _ _ _ _ _ _ _ _ => none) (fun _ r => Lbig_take_zvq_2s k r) n
def bbig_take_zvq (k : Nat) (u0 : Nat) (u1 : Nat) (v : Nat) (d : Int) (us : List Int) (vs : List Int) : Option (Int × List Int × List Int) :=
  Option.bind (Lbig_take_zvq_0 k k u0 u1 v d (0 : Int) (0 : Int) ((u1 : Nat) : Int) (0 : Int) us vs) fun r18 =>
  if ((r18.2.2.2.2.1 == (0 : Int)) = true) then
    (some ((IntKind.wrap .u32 r18.2.2.2.1), r18.2.2.2.2.2.1, r18.2.2.2.2.2.2))
  else
  Option.bind (Lbig_take_zvq_2 k k r18.1 r18.2.1 r18.2.2.1 r18.2.2.2.1 (0 : Int) ((r18.2.1 : Nat) : Int) (0 : Int) r18.2.2.2.2.2.1 r18.2.2.2.2.2.2) fun r19 =>
  (some ((IntKind.wrap .u32 (IntKind.wrap .u64 (r19.1 - (1 : Int)))), r19.2.1, r19.2.2))
def Fbig_take_zvq : Nat → Nat → Nat → Nat → Int → List Int → List Int → Option (Int × List Int × List Int)
  | 0, _, _, _, _, _, _ => none
  | k + 1, u0, u1, v, d, us, vs => bbig_take_zvq k u0 u1 v d us vs
def shbig_take_zvq : FS := { vs := [.a (.sms 0), .a (.smz 1), .a (.lf (.int .u64))], bs := [.arr (.int .u32) 1 120 false, .arr (.int .u32) 1 120 false] }
def rsbig_take_zvq : List FS := [{ vs := [.a (.lf (.int .u32))], bs := [.arr (.int .u32) 1 120 false, .arr (.int .u32) 1 120 false] }]
def Ibig_take_zvq (k : Nat) : Inst := ⟨99, shbig_take_zvq, rsbig_take_zvq, fun x => Fbig_take_zvq k x.1 x.2.1 x.2.2.1 x.2.2.2.1 x.2.2.2.2.1 x.2.2.2.2.2⟩
theorem albig_take_zvq (k : Nat) : AllI (call cf k) [] := True.intro
def hsbig_take_zvq_0 : List SS := [{ fr := [(0, .a (.sms 0)), (1, .a (.smz 1)), (2, .a (.lf (.int .u64))), (7, .a (.lf (.int .u64))), (8, .a (.lf (.int .u64))), (14, .a (.lf (.int .i64))), (15, .a (.lf (.int .i64)))], mem := [(0, some (.arr (.int .u32) 1 120 false)), (1, some (.arr (.int .u32) 1 120 false))], nx := 2 }]
def osbig_take_zvq_0 : List OS := [⟨some 0, { fr := [(0, .a (.sms 0)), (1, .a (.smz 1)), (2, .a (.lf (.int .u64))), (8, .a (.lf (.int .u64)))], mem := [(0, some (.arr (.int .u32) 1 120 false)), (1, some (.arr (.int .u32) 1 120 false))], nx := 2 }⟩]
def LIbig_take_zvq_0 (k : Nat) : LInst := ⟨0, hsbig_take_zvq_0, osbig_take_zvq_0, fun x => Lbig_take_zvq_0 k k x.1 x.2.1 x.2.2.1 x.2.2.2.1 x.2.2.2.2.1 x.2.2.2.2.2.1 x.2.2.2.2.2.2.1 x.2.2.2.2.2.2.2.1 x.2.2.2.2.2.2.2.2.1 x.2.2.2.2.2.2.2.2.2⟩
theorem anbig_take_zvq_0 (k : Nat) : LAll (LOk (R := DS OS.D osbig_take_zvq_0) (fun b _ σ K => LOt Ty (kps 99) 2 b σ K []) cf (call cf k) (kps 99) Tryd.f99.ntmps k 2) 0 (lb Tryd.f99 0) :=
  And.intro (True.intro) (And.intro (And.intro (True.intro) (True.intro)) (And.intro (And.intro (True.intro) (And.intro (And.intro (True.intro) (And.intro (True.intro) (True.intro))) (And.intro (True.intro) (And.intro (True.intro) (And.intro (And.intro (True.intro) (And.intro (True.intro) (True.intro))) (And.intro (True.intro) (True.intro))))))) (True.intro)))
theorem stbig_take_zvq_0 (k n : Nat) (x : DS SS.D hsbig_take_zvq_0) : Lbig_take_zvq_0 k (n + 1) x.1 x.2.1 x.2.2.1 x.2.2.2.1 x.2.2.2.2.1 x.2.2.2.2.2.1 x.2.2.2.2.2.2.1 x.2.2.2.2.2.2.2.1 x.2.2.2.2.2.2.2.2.1 x.2.2.2.2.2.2.2.2.2 = encSK SS.enc (fun σ => run2 cf (fun f a b K => COt f a b K []) (fun b _ σ K => LOt Ty (kps 99) 2 b σ K []) Tryd.f99.ntmps 0 (lb Tryd.f99 0) σ (nextK Ty (kps 99 0) 2 hsbig_take_zvq_0 osbig_take_zvq_0 fun x => Lbig_take_zvq_0 k n x.1 x.2.1 x.2.2.1 x.2.2.2.1 x.2.2.2.2.1 x.2.2.2.2.2.1 x.2.2.2.2.2.2.1 x.2.2.2.2.2.2.2.1 x.2.2.2.2.2.2.2.2.1 x.2.2.2.2.2.2.2.2.2)) hsbig_take_zvq_0 x := by kernel_rfl
theorem lobig_take_zvq_0 (k : Nat) : LIOk cf (call cf k) (kps 99) Tryd.f99.ntmps k 2 0 (lb Tryd.f99 0) (LIbig_take_zvq_0 k) :=
  loop_ok (c := cf) (callF := call cf k) (kp := kps 99) (nt := Tryd.f99.ntmps) (k := k) (p := 2) (b := 0) (x0 := lb Tryd.f99 0) (hs := hsbig_take_zvq_0) (os := osbig_take_zvq_0) (COt_ok (albig_take_zvq k)) (anbig_take_zvq_0 k) (fun n x => Lbig_take_zvq_0 k n x.1 x.2.1 x.2.2.1 x.2.2.2.1 x.2.2.2.2.1 x.2.2.2.2.2.1 x.2.2.2.2.2.2.1 x.2.2.2.2.2.2.2.1 x.2.2.2.2.2.2.2.2.1 x.2.2.2.2.2.2.2.2.2) (fun _ => rfl) (stbig_take_zvq_0 k)
def hsbig_take_zvq_2 : List SS := [{ fr := [(0, .a (.sms 0)), (1, .a (.smz 1)), (2, .a (.lf (.int .u64))), (7, .a (.lf (.int .u64))), (61, .a (.lf (.int .i64))), (62, .a (.lf (.int .i64)))], mem := [(0, some (.arr (.int .u32) 1 120 false)), (1, some (.arr (.int .u32) 1 120 false))], nx := 2 }]
def osbig_take_zvq_2 : List OS := [⟨some 2, { fr := [(2, .a (.lf (.int .u64)))], mem := [(0, some (.arr (.int .u32) 1 120 false)), (1, some (.arr (.int .u32) 1 120 false))], nx := 2 }⟩]
def LIbig_take_zvq_2 (k : Nat) : LInst := ⟨2, hsbig_take_zvq_2, osbig_take_zvq_2, fun x => Lbig_take_zvq_2 k k x.1 x.2.1 x.2.2.1 x.2.2.2.1 x.2.2.2.2.1 x.2.2.2.2.2.1 x.2.2.2.2.2.2.1 x.2.2.2.2.2.2.2.1 x.2.2.2.2.2.2.2.2⟩
theorem anbig_take_zvq_2 (k : Nat) : LAll (LOk (R := DS OS.D osbig_take_zvq_2) (fun b _ σ K => LOt Ty (kps 99) 2 b σ K [LIbig_take_zvq_0 k]) cf (call cf k) (kps 99) Tryd.f99.ntmps k 2) 2 (lb Tryd.f99 1) :=
  And.intro (True.intro) (And.intro (And.intro (True.intro) (True.intro)) (And.intro (And.intro (True.intro) (And.intro (True.intro) (And.intro (And.intro (True.intro) (And.intro (True.intro) (True.intro))) (And.intro (True.intro) (True.intro))))) (True.intro)))
theorem stbig_take_zvq_2 (k n : Nat) (x : DS SS.D hsbig_take_zvq_2) : Lbig_take_zvq_2 k (n + 1) x.1 x.2.1 x.2.2.1 x.2.2.2.1 x.2.2.2.2.1 x.2.2.2.2.2.1 x.2.2.2.2.2.2.1 x.2.2.2.2.2.2.2.1 x.2.2.2.2.2.2.2.2 = encSK SS.enc (fun σ => run2 cf (fun f a b K => COt f a b K []) (fun b _ σ K => LOt Ty (kps 99) 2 b σ K [LIbig_take_zvq_0 k]) Tryd.f99.ntmps 2 (lb Tryd.f99 1) σ (nextK Ty (kps 99 2) 2 hsbig_take_zvq_2 osbig_take_zvq_2 fun x => Lbig_take_zvq_2 k n x.1 x.2.1 x.2.2.1 x.2.2.2.1 x.2.2.2.2.1 x.2.2.2.2.2.1 x.2.2.2.2.2.2.1 x.2.2.2.2.2.2.2.1 x.2.2.2.2.2.2.2.2)) hsbig_take_zvq_2 x := by kernel_rfl
theorem lobig_take_zvq_2 (k : Nat) : LIOk cf (call cf k) (kps 99) Tryd.f99.ntmps k 2 2 (lb Tryd.f99 1) (LIbig_take_zvq_2 k) :=
  loop_ok (c := cf) (callF := call cf k) (kp := kps 99) (nt := Tryd.f99.ntmps) (k := k) (p := 2) (b := 2) (x0 := lb Tryd.f99 1) (hs := hsbig_take_zvq_2) (os := osbig_take_zvq_2) (COt_ok (albig_take_zvq k)) (anbig_take_zvq_2 k) (fun n x => Lbig_take_zvq_2 k n x.1 x.2.1 x.2.2.1 x.2.2.2.1 x.2.2.2.2.1 x.2.2.2.2.2.1 x.2.2.2.2.2.2.1 x.2.2.2.2.2.2.2.1 x.2.2.2.2.2.2.2.2) (fun _ => rfl) (stbig_take_zvq_2 k)
theorem anbig_take_zvq (k : Nat) : LAll (LOk (R := DS FS.D rsbig_take_zvq) (fun b _ σ K => LOt Ty (kps 99) 2 b σ K [LIbig_take_zvq_0 k, LIbig_take_zvq_2 k]) cf (call cf k) (cf.keep 99) Tryd.f99.ntmps k shbig_take_zvq.bs.length) 0 (bd Tryd.f99) :=
  And.intro (True.intro) (And.intro (True.intro) (And.intro (And.intro (True.intro) (LOt_ok (c := cf) (callF := call cf k) (kp := kps 99) (nt := Tryd.f99.ntmps) (k := k) (p := 2) (b := 0) (x0 := lb Tryd.f99 0) (l := [LIbig_take_zvq_0 k, LIbig_take_zvq_2 k]) (And.intro (fun _ => lobig_take_zvq_0 k) (And.intro (fun h => absurd (show (2 : Nat) = 0 from h) (by decide)) (True.intro))))) (And.intro (And.intro (True.intro) (And.intro (And.intro (True.intro) (True.intro)) (True.intro))) (And.intro (True.intro) (And.intro (And.intro (True.intro) (LOt_ok (c := cf) (callF := call cf k) (kp := kps 99) (nt := Tryd.f99.ntmps) (k := k) (p := 2) (b := 2) (x0 := lb Tryd.f99 1) (l := [LIbig_take_zvq_0 k, LIbig_take_zvq_2 k]) (And.intro (fun h => absurd (show (0 : Nat) = 2 from h) (by decide)) (And.intro (fun _ => lobig_take_zvq_2 k) (True.intro))))) (And.intro (True.intro) (True.intro)))))))
theorem stbig_take_zvq (k : Nat) (x : shbig_take_zvq.D) : Fbig_take_zvq (k + 1) x.1 x.2.1 x.2.2.1 x.2.2.2.1 x.2.2.2.2.1 x.2.2.2.2.2 = body2 cf (fun f a b K => COt f a b K []) (fun b _ σ K => LOt Ty (kps 99) 2 b σ K [LIbig_take_zvq_0 k, LIbig_take_zvq_2 k]) 99 Tryd.f99.ntmps Tryd.f99.results.toList (bd Tryd.f99) (shbig_take_zvq.enc x).1 (shbig_take_zvq.enc x).2 (putS FS.dec rsbig_take_zvq) := by kernel_rfl
theorem okbig_take_zvq : ∀ k, InstOk (call cf k) (Ibig_take_zvq k)
  | 0 => fun x y e => absurd (show (none : Option _) = some y from e) (by simp)
  | k + 1 => inst_ok (c := cf) (k := k) (f := 99) (fn := Tryd.f99) (body := bd Tryd.f99) (sh := shbig_take_zvq) (os := rsbig_take_zvq) rfl Tryd.func99 rfl ⟨rfl, Nat.le_of_ble_eq_true rfl⟩ (COt_ok (albig_take_zvq k)) (anbig_take_zvq k) (fun x => Fbig_take_zvq (k + 1) x.1 x.2.1 x.2.2.1 x.2.2.2.1 x.2.2.2.2.1 x.2.2.2.2.2) (stbig_take_zvq k)

/-! shunt/big.long -/
def Lbig_long_0s (k : Nat) (rec : List Int → List Int → Int → Option (List Int × List Int × Int)) (a : List Int) (b : List Int) (bits : Int) : Option (List Int × List Int × Int) :=
  if ((0 : Int) ≤ (IntKind.wrap .i64 ((((List.length b) : Nat) : Int) - (1 : Int)))) then
    Option.bind (b)[(Int.toNat (IntKind.wrap .i64 ((((List.length b) : Nat) : Int) - (1 : Int))))]? fun x6 =>
    if (bits < (0 : Int)) then
      none
    else
    if (((Int.fdiv (IntKind.wrap .u32 (x6 * ((2 : Int) ^ (min (Int.toNat bits) 32)))) (2147483648 : Int)) == (0 : Int)) = true) then
      rec a b (IntKind.wrap .u64 (bits + (1 : Int)))
    else
    (some (a, b, bits))
  else
  none
def Lbig_long_0 (k n : Nat) : List Int → List Int → Int → Option (List Int × List Int × Int) := Nat.rec (fun _ _ _ => none) (fun _ r => Lbig_long_0s k r) n
def Lbig_long_4s (k : Nat) (rec : Nat → Int → Int → Nat → Nat → Int → Int → Int → List Int → List Int → List Int → Option (Nat × Int × Int × Nat × Nat × Int × Int × List Int × List Int × List Int)) (q : Nat) (bits : Int) (n : Int) (u : Nat) (v : Nat) (j : Int) (d : Int) (rest : Int) (qs : List Int) (us : List Int) (vs : List Int) : Option (Nat × Int × Int × Nat × Nat × Int × Int × List Int × List Int × List Int) :=
  if ((decide (d > (4294967295 : Int))) = false) then
    if ((decide (rest ≤ (4294967295 : Int))) = true) then
      if (((0 : Int) ≤ (IntKind.wrap .i64 (n - (2 : Int)))) ∧ ((IntKind.wrap .i64 (n - (2 : Int))) < ((v : Nat) : Int))) then
        Option.bind (vs)[(0 + (Int.toNat (IntKind.wrap .i64 (n - (2 : Int)))))]? fun x10 =>
        if (((0 : Int) ≤ (IntKind.wrap .i64 ((IntKind.wrap .i64 (j + n)) - (2 : Int)))) ∧ ((IntKind.wrap .i64 ((IntKind.wrap .i64 (j + n)) - (2 : Int))) < ((u : Nat) : Int))) then
          Option.bind (us)[(0 + (Int.toNat (IntKind.wrap .i64 ((IntKind.wrap .i64 (j + n)) - (2 : Int)))))]? fun x11 =>
          if ((decide ((IntKind.wrap .u64 (d * (IntKind.wrap .u64 x10))) > (IntKind.wrap .u64 (((BitVec.toNat ((BitVec.ofInt 64 (IntKind.wrap .u64 (rest * (4294967296 : Int)))) ||| (BitVec.ofInt 64 (IntKind.wrap .u64 x11)))) : Nat) : Int)))) = true) then
            if (((0 : Int) ≤ (IntKind.wrap .i64 (n - (1 : Int)))) ∧ ((IntKind.wrap .i64 (n - (1 : Int))) < ((v : Nat) : Int))) then
              Option.bind (vs)[(0 + (Int.toNat (IntKind.wrap .i64 (n - (1 : Int)))))]? fun x12 =>
              if ((decide ((IntKind.wrap .u64 (rest + (IntKind.wrap .u64 x12))) > (4294967295 : Int))) = true) then
                (some (q, bits, n, u, v, j, (IntKind.wrap .u64 (d - (1 : Int))), qs, us, vs))
              else
              rec q bits n u v j (IntKind.wrap .u64 (d - (1 : Int))) (IntKind.wrap .u64 (rest + (IntKind.wrap .u64 x12))) qs us vs
            else
            none
          else
          (some (q, bits, n, u, v, j, d, qs, us, vs))
        else
        none
      else
      none
    else
    (some (q, bits, n, u, v, j, d, qs, us, vs))
  else
  if (((0 : Int) ≤ (IntKind.wrap .i64 (n - (1 : Int)))) ∧ ((IntKind.wrap .i64 (n - (1 : Int))) < ((v : Nat) : Int))) then
    Option.bind (vs)[(0 + (Int.toNat (IntKind.wrap .i64 (n - (1 : Int)))))]? fun x10 =>
    if ((decide ((IntKind.wrap .u64 (rest + (IntKind.wrap .u64 x10))) > (4294967295 : Int))) = true) then
      (some (q, bits, n, u, v, j, (IntKind.wrap .u64 (d - (1 : Int))), qs, us, vs))
    else
    rec q bits n u v j (IntKind.wrap .u64 (d - (1 : Int))) (IntKind.wrap .u64 (rest + (IntKind.wrap .u64 x10))) qs us vs
  else
  none
def Lbig_long_4 (k n : Nat) : Nat → Int → Int → Nat → Nat → Int → Int → Int → List Int → List Int → List Int → Option (Nat × Int × Int × Nat × Nat × Int × Int × List Int × List Int × List Int) := Nat.rec (fun _ _ _ _ _ _ _ _ _ _ _ => none) (fun _ r => Lbig_long_4s k r) n
def Lbig_long_2s (k : Nat) (rec : Nat → Int → Int → Nat → Nat → Int → List Int → List Int → List Int → Option (Nat × Int × Int × Nat × List Int × List Int × List Int)) (q : Nat) (bits : Int) (n : Int) (u : Nat) (v : Nat) (j : Int) (qs : List Int) (us : List Int) (vs : List Int) : Option (Nat × Int × Int × Nat × List Int × List Int × List Int) :=
  if ((decide (j ≥ (0 : Int))) = true) then
    if (((0 : Int) ≤ (IntKind.wrap .i64 (j + n))) ∧ ((IntKind.wrap .i64 (j + n)) < ((u : Nat) : Int))) then
      Option.bind (us)[(0 + (Int.toNat (IntKind.wrap .i64 (j + n))))]? fun x6 =>
      if (((0 : Int) ≤ (IntKind.wrap .i64 ((IntKind.wrap .i64 (j + n)) - (1 : Int)))) ∧ ((IntKind.wrap .i64 ((IntKind.wrap .i64 (j + n)) - (1 : Int))) < ((u : Nat) : Int))) then
        Option.bind (us)[(0 + (Int.toNat (IntKind.wrap .i64 ((IntKind.wrap .i64 (j + n)) - (1 : Int)))))]? fun x7 =>
        if (((0 : Int) ≤ (IntKind.wrap .i64 (n - (1 : Int)))) ∧ ((IntKind.wrap .i64 (n - (1 : Int))) < ((v : Nat) : Int))) then
          Option.bind (vs)[(0 + (Int.toNat (IntKind.wrap .i64 (n - (1 : Int)))))]? fun x8 =>
          if ((IntKind.wrap .u64 x8) = (0 : Int)) then
            none
          else
          if (((0 : Int) ≤ (IntKind.wrap .i64 (n - (1 : Int)))) ∧ ((IntKind.wrap .i64 (n - (1 : Int))) < ((v : Nat) : Int))) then
            Option.bind (vs)[(0 + (Int.toNat (IntKind.wrap .i64 (n - (1 : Int)))))]? fun x9 =>
            if ((IntKind.wrap .u64 x9) = (0 : Int)) then
              none
            else
            Option.bind (Lbig_long_4 k k q bits n u v j (IntKind.wrap .u64 (Int.tdiv (IntKind.wrap .u64 (((BitVec.toNat ((BitVec.ofInt 64 (IntKind.wrap .u64 ((IntKind.wrap .u64 x6) * (4294967296 : Int)))) ||| (BitVec.ofInt 64 (IntKind.wrap .u64 x7)))) : Nat) : Int)) (IntKind.wrap .u64 x8))) (Int.tmod (IntKind.wrap .u64 (((BitVec.toNat ((BitVec.ofInt 64 (IntKind.wrap .u64 ((IntKind.wrap .u64 x6) * (4294967296 : Int)))) ||| (BitVec.ofInt 64 (IntKind.wrap .u64 x7)))) : Nat) : Int)) (IntKind.wrap .u64 x9)) qs us vs) fun r17 =>
            if (((0 : Int) ≤ r17.2.2.2.2.2.1) ∧ ((r17.2.2.2.2.2.1 ≤ (IntKind.wrap .i64 ((IntKind.wrap .i64 (r17.2.2.2.2.2.1 + r17.2.2.1)) + (1 : Int)))) ∧ (((0 + (Int.toNat (IntKind.wrap .i64 ((IntKind.wrap .i64 (r17.2.2.2.2.2.1 + r17.2.2.1)) + (1 : Int))))) ≤ (List.length r17.2.2.2.2.2.2.2.2.1)) ∧ ((r17.2.2.2.2.2.1 < (IntKind.wrap .i64 ((IntKind.wrap .i64 (r17.2.2.2.2.2.1 + r17.2.2.1)) + (1 : Int)))) ∨ (false = true))))) then
              Option.bind (Fbig_take_zvq k (0 + (Int.toNat r17.2.2.2.2.2.1)) ((Int.toNat (IntKind.wrap .i64 ((IntKind.wrap .i64 (r17.2.2.2.2.2.1 + r17.2.2.1)) + (1 : Int)))) - (Int.toNat r17.2.2.2.2.2.1)) r17.2.2.2.2.1 r17.2.2.2.2.2.2.1 r17.2.2.2.2.2.2.2.2.1 r17.2.2.2.2.2.2.2.2.2) fun r18 =>
              if (((0 : Int) ≤ r17.2.2.2.2.2.1) ∧ (r17.2.2.2.2.2.1 < ((r17.1 : Nat) : Int))) then
                Option.bind (r17.2.2.2.2.2.2.2.1)[(0 + (Int.toNat r17.2.2.2.2.2.1))]? fun x10 =>
                rec r17.1 r17.2.1 r17.2.2.1 r17.2.2.2.1 r17.2.2.2.2.1 (IntKind.wrap .i64 (r17.2.2.2.2.2.1 - (1 : Int))) (List.set r17.2.2.2.2.2.2.2.1 (0 + (Int.toNat r17.2.2.2.2.2.1)) r18.1) r18.2.1 r18.2.2
              else
              none
            else
            none
          else
          none
        else
        none
      else
      none
    else
    none
  else
  (some (q, bits, n, u, qs, us, vs))
def Lbig_long_2 (k n : Nat) : Nat → Int → Int → Nat → Nat → Int → List Int → List Int → List Int → Option (Nat × Int × Int × Nat × List Int × List Int × List Int) := Nat.rec (fun _ _ _ _ _ _ _ _ _ => none) (fun _ r => Lbig_long_2s k r) n
def Lbig_long_6s (k : Nat) (rec : Nat → Nat → Int → Nat → Int → Int → List Int → List Int → List Int → Option (Nat × Nat × List Int × List Int × List Int)) (q : Nat) (r : Nat) (bits : Int) (u : Nat) (x : Int) (x1 : Int) (qs : List Int) (rs : List Int) (us : List Int) : Option (Nat × Nat × List Int × List Int × List Int) :=
  if ((decide (x1 < x)) = true) then
    if (((0 : Int) ≤ x1) ∧ (x1 < ((u : Nat) : Int))) then
      Option.bind (us)[(0 + (Int.toNat x1))]? fun x6 =>
      if (bits < (0 : Int)) then
        none
      else
      if (((0 : Int) ≤ (IntKind.wrap .i64 (x1 + (1 : Int)))) ∧ ((IntKind.wrap .i64 (x1 + (1 : Int))) < ((u : Nat) : Int))) then
        Option.bind (us)[(0 + (Int.toNat (IntKind.wrap .i64 (x1 + (1 : Int)))))]? fun x7 =>
        if ((IntKind.wrap .u64 ((32 : Int) - bits)) < (0 : Int)) then
          none
        else
        if (((0 : Int) ≤ x1) ∧ (x1 < ((r : Nat) : Int))) then
          Option.bind (rs)[(0 + (Int.toNat x1))]? fun x8 =>
          rec q r bits u x (IntKind.wrap .i64 (x1 + (1 : Int))) qs (List.set rs (0 + (Int.toNat x1)) (IntKind.wrap .u32 (((BitVec.toNat ((BitVec.ofInt 32 (Int.fdiv x6 ((2 : Int) ^ (min (Int.toNat bits) 32)))) ||| (BitVec.ofInt 32 (IntKind.wrap .u32 (IntKind.wrap .u64 ((IntKind.wrap .u64 x7) * ((2 : Int) ^ (min (Int.toNat (IntKind.wrap .u64 ((32 : Int) - bits))) 64)))))))) : Nat) : Int))) us
        else
        none
      else
      none
    else
    none
  else
  (some (q, r, qs, rs, us))
def Lbig_long_6 (k n : Nat) : Nat → Nat → Int → Nat → Int → Int → List Int → List Int → List Int → Option (Nat × Nat × List Int × List Int × List Int) := Nat.rec (fun _ _ _ _ _ _ _ _ _ => none) (fun _ r => Lbig_long_6s k r) n
def bbig_long (k : Nat) (a : List Int) (b : List Int) : Option (List Int × List Int) :=
  Option.bind (Lbig_long_0 k k a b (0 : Int)) fun r14 =>
  Option.bind (Fbig_shift k r14.1 r14.2.2) fun r15 =>
  Option.bind (Fbig_shift k r14.2.1 r14.2.2) fun r16 =>
  if (((0 : Int) ≤ (0 : Int)) ∧ (((0 : Int) ≤ (((List.length r14.2.1) : Nat) : Int)) ∧ (((0 + (Int.toNat (((List.length r14.2.1) : Nat) : Int))) ≤ (List.length r16.2)) ∧ (((0 : Int) < (((List.length r14.2.1) : Nat) : Int)) ∨ (true = true))))) then
    if (((0 : Int) ≤ (IntKind.wrap .i64 (((r15.1 : Nat) : Int) - (((List.length r14.2.1) : Nat) : Int)))) ∧ (((IntKind.wrap .i64 (((r15.1 : Nat) : Int) - (((List.length r14.2.1) : Nat) : Int))) ≤ (IntKind.wrap .i64 (((r15.1 : Nat) : Int) - (((List.length r14.2.1) : Nat) : Int)))) ∧ (((IntKind.wrap .i64 (((r15.1 : Nat) : Int) - (((List.length r14.2.1) : Nat) : Int))) * (4 : Int)) ≤ (140737488355328 : Int)))) then
      Option.bind (Lbig_long_2 k k (Int.toNat (IntKind.wrap .i64 (((r15.1 : Nat) : Int) - (((List.length r14.2.1) : Nat) : Int)))) r14.2.2 (((List.length r14.2.1) : Nat) : Int) r15.1 (Int.toNat (((List.length r14.2.1) : Nat) : Int)) (IntKind.wrap .i64 ((IntKind.wrap .i64 (((r15.1 : Nat) : Int) - (((List.length r14.2.1) : Nat) : Int))) - (1 : Int))) (List.replicate (Int.toNat (IntKind.wrap .i64 (((r15.1 : Nat) : Int) - (((List.length r14.2.1) : Nat) : Int)))) (0 : Int)) r15.2 r16.2) fun r17 =>
      if (((0 : Int) ≤ r17.2.2.1) ∧ ((r17.2.2.1 ≤ r17.2.2.1) ∧ ((r17.2.2.1 * (4 : Int)) ≤ (140737488355328 : Int)))) then
        Option.bind (Lbig_long_6 k k r17.1 (Int.toNat r17.2.2.1) r17.2.1 r17.2.2.2.1 r17.2.2.1 (0 : Int) r17.2.2.2.2.1 (List.replicate (Int.toNat r17.2.2.1) (0 : Int)) r17.2.2.2.2.2.1) fun r18 =>
        if ((0 + r18.1) ≤ (List.length r18.2.2.1)) then
          if ((0 + r18.2.1) ≤ (List.length r18.2.2.2.1)) then
            (some ((List.take r18.1 r18.2.2.1), (List.take r18.2.1 r18.2.2.2.1)))
          else
          none
        else
        none
      else
      none
    else
    none
  else
  none
def Fbig_long : Nat → List Int → List Int → Option (List Int × List Int)
  | 0, _, _ => none
  | k + 1, a, b => bbig_long k a b
def shbig_long : FS := { vs := [.a (.lf (.sl (.int .u32))), .a (.lf (.sl (.int .u32)))], bs := [] }
def rsbig_long : List FS := [{ vs := [.a (.lf (.sl (.int .u32))), .a (.lf (.sl (.int .u32)))], bs := [] }]
def Ibig_long (k : Nat) : Inst := ⟨97, shbig_long, rsbig_long, fun x => Fbig_long k x.1 x.2⟩
theorem albig_long (k : Nat) : AllI (call cf k) [Ibig_shift k, Ibig_take_zvq k] := And.intro (okbig_shift k) (And.intro (okbig_take_zvq k) (True.intro))
def hsbig_long_0 : List SS := [{ fr := [(0, .a (.lf (.sl (.int .u32)))), (1, .a (.lf (.sl (.int .u32)))), (6, .a (.lf (.int .u64)))], mem := [], nx := 0 }]
def osbig_long_0 : List OS := [⟨some 0, { fr := [(0, .a (.lf (.sl (.int .u32)))), (1, .a (.lf (.sl (.int .u32)))), (6, .a (.lf (.int .u64)))], mem := [], nx := 0 }⟩]
def LIbig_long_0 (k : Nat) : LInst := ⟨0, hsbig_long_0, osbig_long_0, fun x => Lbig_long_0 k k x.1 x.2.1 x.2.2⟩
theorem anbig_long_0 (k : Nat) : LAll (LOk (R := DS OS.D osbig_long_0) (fun b _ σ K => LOt Ty (kps 97) 0 b σ K []) cf (call cf k) (kps 97) Tryd.f97.ntmps k 0) 0 (lb Tryd.f97 0) :=
  And.intro (And.intro (True.intro) (And.intro (True.intro) (True.intro))) (True.intro)
theorem stbig_long_0 (k n : Nat) (x : DS SS.D hsbig_long_0) : Lbig_long_0 k (n + 1) x.1 x.2.1 x.2.2 = encSK SS.enc (fun σ => run2 cf (fun f a b K => COt f a b K [Ibig_shift k, Ibig_take_zvq k]) (fun b _ σ K => LOt Ty (kps 97) 0 b σ K []) Tryd.f97.ntmps 0 (lb Tryd.f97 0) σ (nextK Ty (kps 97 0) 0 hsbig_long_0 osbig_long_0 fun x => Lbig_long_0 k n x.1 x.2.1 x.2.2)) hsbig_long_0 x := by kernel_rfl
theorem lobig_long_0 (k : Nat) : LIOk cf (call cf k) (kps 97) Tryd.f97.ntmps k 0 0 (lb Tryd.f97 0) (LIbig_long_0 k) :=
  loop_ok (c := cf) (callF := call cf k) (kp := kps 97) (nt := Tryd.f97.ntmps) (k := k) (p := 0) (b := 0) (x0 := lb Tryd.f97 0) (hs := hsbig_long_0) (os := osbig_long_0) (COt_ok (albig_long k)) (anbig_long_0 k) (fun n x => Lbig_long_0 k n x.1 x.2.1 x.2.2) (fun _ => rfl) (stbig_long_0 k)
def hsbig_long_4 : List SS := [{ fr := [(4, .a (.smz 0)), (6, .a (.lf (.int .u64))), (7, .a (.lf (.int .i64))), (8, .a (.smz 1)), (9, .a (.smz 2)), (10, .a (.lf (.int .i64))), (12, .a (.lf (.int .u64))), (13, .a (.lf (.int .u64)))], mem := [(0, some (.arr (.int .u32) 1 120 false)), (1, some (.arr (.int .u32) 1 120 false)), (2, some (.arr (.int .u32) 1 120 false))], nx := 3 }]
def osbig_long_4 : List OS := [⟨some 4, { fr := [(4, .a (.smz 0)), (6, .a (.lf (.int .u64))), (7, .a (.lf (.int .i64))), (8, .a (.smz 1)), (9, .a (.smz 2)), (10, .a (.lf (.int .i64))), (12, .a (.lf (.int .u64)))], mem := [(0, some (.arr (.int .u32) 1 120 false)), (1, some (.arr (.int .u32) 1 120 false)), (2, some (.arr (.int .u32) 1 120 false))], nx := 3 }⟩]
def LIbig_long_4 (k : Nat) : LInst := ⟨4, hsbig_long_4, osbig_long_4, fun x => Lbig_long_4 k k x.1 x.2.1 x.2.2.1 x.2.2.2.1 x.2.2.2.2.1 x.2.2.2.2.2.1 x.2.2.2.2.2.2.1 x.2.2.2.2.2.2.2.1 x.2.2.2.2.2.2.2.2.1 x.2.2.2.2.2.2.2.2.2.1 x.2.2.2.2.2.2.2.2.2.2⟩
theorem anbig_long_4 (k : Nat) : LAll (LOk (R := DS OS.D osbig_long_4) (fun b _ σ K => LOt Ty (kps 97) 0 b σ K [LIbig_long_0 k]) cf (call cf k) (kps 97) Tryd.f97.ntmps k 0) 4 (lb Tryd.f97 2) :=
  And.intro (And.intro (True.intro) (And.intro (True.intro) (True.intro))) (And.intro (True.intro) (And.intro (True.intro) (And.intro (True.intro) (And.intro (True.intro) (True.intro)))))
theorem stbig_long_4 (k n : Nat) (x : DS SS.D hsbig_long_4) : Lbig_long_4 k (n + 1) x.1 x.2.1 x.2.2.1 x.2.2.2.1 x.2.2.2.2.1 x.2.2.2.2.2.1 x.2.2.2.2.2.2.1 x.2.2.2.2.2.2.2.1 x.2.2.2.2.2.2.2.2.1 x.2.2.2.2.2.2.2.2.2.1 x.2.2.2.2.2.2.2.2.2.2 = encSK SS.enc (fun σ => run2 cf (fun f a b K => COt f a b K [Ibig_shift k, Ibig_take_zvq k]) (fun b _ σ K => LOt Ty (kps 97) 0 b σ K [LIbig_long_0 k]) Tryd.f97.ntmps 4 (lb Tryd.f97 2) σ (nextK Ty (kps 97 4) 0 hsbig_long_4 osbig_long_4 fun x => Lbig_long_4 k n x.1 x.2.1 x.2.2.1 x.2.2.2.1 x.2.2.2.2.1 x.2.2.2.2.2.1 x.2.2.2.2.2.2.1 x.2.2.2.2.2.2.2.1 x.2.2.2.2.2.2.2.2.1 x.2.2.2.2.2.2.2.2.2.1 x.2.2.2.2.2.2.2.2.2.2)) hsbig_long_4 x := by kernel_rfl
theorem lobig_long_4 (k : Nat) : LIOk cf (call cf k) (kps 97) Tryd.f97.ntmps k 0 4 (lb Tryd.f97 2) (LIbig_long_4 k) :=
  loop_ok (c := cf) (callF := call cf k) (kp := kps 97) (nt := Tryd.f97.ntmps) (k := k) (p := 0) (b := 4) (x0 := lb Tryd.f97 2) (hs := hsbig_long_4) (os := osbig_long_4) (COt_ok (albig_long k)) (anbig_long_4 k) (fun n x => Lbig_long_4 k n x.1 x.2.1 x.2.2.1 x.2.2.2.1 x.2.2.2.2.1 x.2.2.2.2.2.1 x.2.2.2.2.2.2.1 x.2.2.2.2.2.2.2.1 x.2.2.2.2.2.2.2.2.1 x.2.2.2.2.2.2.2.2.2.1 x.2.2.2.2.2.2.2.2.2.2) (fun _ => rfl) (stbig_long_4 k)
def hsbig_long_2 : List SS := [{ fr := [(4, .a (.smz 0)), (6, .a (.lf (.int .u64))), (7, .a (.lf (.int .i64))), (8, .a (.smz 1)), (9, .a (.smz 2)), (10, .a (.lf (.int .i64)))], mem := [(0, some (.arr (.int .u32) 1 120 false)), (1, some (.arr (.int .u32) 1 120 false)), (2, some (.arr (.int .u32) 1 120 false))], nx := 3 }]
def osbig_long_2 : List OS := [⟨some 2, { fr := [(4, .a (.smz 0)), (6, .a (.lf (.int .u64))), (7, .a (.lf (.int .i64))), (8, .a (.smz 1))], mem := [(0, some (.arr (.int .u32) 1 120 false)), (1, some (.arr (.int .u32) 1 120 false)), (2, some (.arr (.int .u32) 1 120 false))], nx := 3 }⟩]
def LIbig_long_2 (k : Nat) : LInst := ⟨2, hsbig_long_2, osbig_long_2, fun x => Lbig_long_2 k k x.1 x.2.1 x.2.2.1 x.2.2.2.1 x.2.2.2.2.1 x.2.2.2.2.2.1 x.2.2.2.2.2.2.1 x.2.2.2.2.2.2.2.1 x.2.2.2.2.2.2.2.2⟩
theorem anbig_long_2 (k : Nat) : LAll (LOk (R := DS OS.D osbig_long_2) (fun b _ σ K => LOt Ty (kps 97) 0 b σ K [LIbig_long_0 k, LIbig_long_4 k]) cf (call cf k) (kps 97) Tryd.f97.ntmps k 0) 2 (lb Tryd.f97 1) :=
  And.intro (And.intro (True.intro) (And.intro (True.intro) (True.intro))) (And.intro (And.intro (True.intro) (And.intro (True.intro) (And.intro (LOt_ok (c := cf) (callF := call cf k) (kp := kps 97) (nt := Tryd.f97.ntmps) (k := k) (p := 0) (b := 4) (x0 := lb Tryd.f97 2) (l := [LIbig_long_0 k, LIbig_long_4 k]) (And.intro (fun h => absurd (show (0 : Nat) = 4 from h) (by decide)) (And.intro (fun _ => lobig_long_4 k) (True.intro)))) (True.intro)))) (True.intro))
theorem stbig_long_2 (k n : Nat) (x : DS SS.D hsbig_long_2) : Lbig_long_2 k (n + 1) x.1 x.2.1 x.2.2.1 x.2.2.2.1 x.2.2.2.2.1 x.2.2.2.2.2.1 x.2.2.2.2.2.2.1 x.2.2.2.2.2.2.2.1 x.2.2.2.2.2.2.2.2 = encSK SS.enc (fun σ => run2 cf (fun f a b K => COt f a b K [Ibig_shift k, Ibig_take_zvq k]) (fun b _ σ K => LOt Ty (kps 97) 0 b σ K [LIbig_long_0 k, LIbig_long_4 k]) Tryd.f97.ntmps 2 (lb Tryd.f97 1) σ (nextK Ty (kps 97 2) 0 hsbig_long_2 osbig_long_2 fun x => Lbig_long_2 k n x.1 x.2.1 x.2.2.1 x.2.2.2.1 x.2.2.2.2.1 x.2.2.2.2.2.1 x.2.2.2.2.2.2.1 x.2.2.2.2.2.2.2.1 x.2.2.2.2.2.2.2.2)) hsbig_long_2 x := by kernel_rfl
theorem lobig_long_2 (k : Nat) : LIOk cf (call cf k) (kps 97) Tryd.f97.ntmps k 0 2 (lb Tryd.f97 1) (LIbig_long_2 k) :=
  loop_ok (c := cf) (callF := call cf k) (kp := kps 97) (nt := Tryd.f97.ntmps) (k := k) (p := 0) (b := 2) (x0 := lb Tryd.f97 1) (hs := hsbig_long_2) (os := osbig_long_2) (COt_ok (albig_long k)) (anbig_long_2 k) (fun n x => Lbig_long_2 k n x.1 x.2.1 x.2.2.1 x.2.2.2.1 x.2.2.2.2.1 x.2.2.2.2.2.1 x.2.2.2.2.2.2.1 x.2.2.2.2.2.2.2.1 x.2.2.2.2.2.2.2.2) (fun _ => rfl) (stbig_long_2 k)
def hsbig_long_6 : List SS := [{ fr := [(4, .a (.smz 0)), (5, .a (.smz 1)), (6, .a (.lf (.int .u64))), (8, .a (.smz 2)), (139, .a (.lf (.int .i64))), (140, .a (.lf (.int .i64)))], mem := [(0, some (.arr (.int .u32) 1 120 false)), (1, some (.arr (.int .u32) 1 120 false)), (2, some (.arr (.int .u32) 1 120 false))], nx := 3 }]
def osbig_long_6 : List OS := [⟨some 6, { fr := [(4, .a (.smz 0)), (5, .a (.smz 1))], mem := [(0, some (.arr (.int .u32) 1 120 false)), (1, some (.arr (.int .u32) 1 120 false)), (2, some (.arr (.int .u32) 1 120 false))], nx := 3 }⟩]
def LIbig_long_6 (k : Nat) : LInst := ⟨6, hsbig_long_6, osbig_long_6, fun x => Lbig_long_6 k k x.1 x.2.1 x.2.2.1 x.2.2.2.1 x.2.2.2.2.1 x.2.2.2.2.2.1 x.2.2.2.2.2.2.1 x.2.2.2.2.2.2.2.1 x.2.2.2.2.2.2.2.2⟩
theorem anbig_long_6 (k : Nat) : LAll (LOk (R := DS OS.D osbig_long_6) (fun b _ σ K => LOt Ty (kps 97) 0 b σ K [LIbig_long_0 k, LIbig_long_4 k, LIbig_long_2 k]) cf (call cf k) (kps 97) Tryd.f97.ntmps k 0) 6 (lb Tryd.f97 3) :=
  And.intro (True.intro) (And.intro (And.intro (True.intro) (True.intro)) (And.intro (And.intro (True.intro) (True.intro)) (True.intro)))
theorem stbig_long_6 (k n : Nat) (x : DS SS.D hsbig_long_6) : Lbig_long_6 k (n + 1) x.1 x.2.1 x.2.2.1 x.2.2.2.1 x.2.2.2.2.1 x.2.2.2.2.2.1 x.2.2.2.2.2.2.1 x.2.2.2.2.2.2.2.1 x.2.2.2.2.2.2.2.2 = encSK SS.enc (fun σ => run2 cf (fun f a b K => COt f a b K [Ibig_shift k, Ibig_take_zvq k]) (fun b _ σ K => LOt Ty (kps 97) 0 b σ K [LIbig_long_0 k, LIbig_long_4 k, LIbig_long_2 k]) Tryd.f97.ntmps 6 (lb Tryd.f97 3) σ (nextK Ty (kps 97 6) 0 hsbig_long_6 osbig_long_6 fun x => Lbig_long_6 k n x.1 x.2.1 x.2.2.1 x.2.2.2.1 x.2.2.2.2.1 x.2.2.2.2.2.1 x.2.2.2.2.2.2.1 x.2.2.2.2.2.2.2.1 x.2.2.2.2.2.2.2.2)) hsbig_long_6 x := by kernel_rfl
theorem lobig_long_6 (k : Nat) : LIOk cf (call cf k) (kps 97) Tryd.f97.ntmps k 0 6 (lb Tryd.f97 3) (LIbig_long_6 k) :=
  loop_ok (c := cf) (callF := call cf k) (kp := kps 97) (nt := Tryd.f97.ntmps) (k := k) (p := 0) (b := 6) (x0 := lb Tryd.f97 3) (hs := hsbig_long_6) (os := osbig_long_6) (COt_ok (albig_long k)) (anbig_long_6 k) (fun n x => Lbig_long_6 k n x.1 x.2.1 x.2.2.1 x.2.2.2.1 x.2.2.2.2.1 x.2.2.2.2.2.1 x.2.2.2.2.2.2.1 x.2.2.2.2.2.2.2.1 x.2.2.2.2.2.2.2.2) (fun _ => rfl) (stbig_long_6 k)
theorem anbig_long (k : Nat) : LAll (LOk (R := DS FS.D rsbig_long) (fun b _ σ K => LOt Ty (kps 97) 0 b σ K [LIbig_long_0 k, LIbig_long_4 k, LIbig_long_2 k, LIbig_long_6 k]) cf (call cf k) (cf.keep 97) Tryd.f97.ntmps k shbig_long.bs.length) 0 (bd Tryd.f97) :=
  And.intro (True.intro) (And.intro (True.intro) (And.intro (LOt_ok (c := cf) (callF := call cf k) (kp := kps 97) (nt := Tryd.f97.ntmps) (k := k) (p := 0) (b := 0) (x0 := lb Tryd.f97 0) (l := [LIbig_long_0 k, LIbig_long_4 k, LIbig_long_2 k, LIbig_long_6 k]) (And.intro (fun _ => lobig_long_0 k) (And.intro (fun h => absurd (show (4 : Nat) = 0 from h) (by decide)) (And.intro (fun h => absurd (show (2 : Nat) = 0 from h) (by decide)) (And.intro (fun h => absurd (show (6 : Nat) = 0 from h) (by decide)) (True.intro)))))) (And.intro (True.intro) (And.intro (True.intro) (And.intro (True.intro) (And.intro (And.intro (True.intro) (LOt_ok (c := cf) (callF := call cf k) (kp := kps 97) (nt := Tryd.f97.ntmps) (k := k) (p := 0) (b := 2) (x0 := lb Tryd.f97 1) (l := [LIbig_long_0 k, LIbig_long_4 k, LIbig_long_2 k, LIbig_long_6 k]) (And.intro (fun h => absurd (show (0 : Nat) = 2 from h) (by decide)) (And.intro (fun h => absurd (show (4 : Nat) = 2 from h) (by decide)) (And.intro (fun _ => lobig_long_2 k) (And.intro (fun h => absurd (show (6 : Nat) = 2 from h) (by decide)) (True.intro))))))) (And.intro (True.intro) (And.intro (And.intro (True.intro) (LOt_ok (c := cf) (callF := call cf k) (kp := kps 97) (nt := Tryd.f97.ntmps) (k := k) (p := 0) (b := 6) (x0 := lb Tryd.f97 3) (l := [LIbig_long_0 k, LIbig_long_4 k, LIbig_long_2 k, LIbig_long_6 k]) (And.intro (fun h => absurd (show (0 : Nat) = 6 from h) (by decide)) (And.intro (fun h => absurd (show (4 : Nat) = 6 from h) (by decide)) (And.intro (fun h => absurd (show (2 : Nat) = 6 from h) (by decide)) (And.intro (fun _ => lobig_long_6 k) (True.intro))))))) (And.intro (True.intro) (True.intro))))))))))
theorem stbig_long (k : Nat) (x : shbig_long.D) : Fbig_long (k + 1) x.1 x.2 = body2 cf (fun f a b K => COt f a b K [Ibig_shift k, Ibig_take_zvq k]) (fun b _ σ K => LOt Ty (kps 97) 0 b σ K [LIbig_long_0 k, LIbig_long_4 k, LIbig_long_2 k, LIbig_long_6 k]) 97 Tryd.f97.ntmps Tryd.f97.results.toList (bd Tryd.f97) (shbig_long.enc x).1 (shbig_long.enc x).2 (putS FS.dec rsbig_long) := by kernel_rfl
theorem okbig_long : ∀ k, InstOk (call cf k) (Ibig_long k)
  | 0 => fun x y e => absurd (show (none : Option _) = some y from e) (by simp)
  | k + 1 => inst_ok (c := cf) (k := k) (f := 97) (fn := Tryd.f97) (body := bd Tryd.f97) (sh := shbig_long) (os := rsbig_long) rfl Tryd.func97 rfl ⟨rfl, Nat.le_of_ble_eq_true rfl⟩ (COt_ok (albig_long k)) (anbig_long k) (fun x => Fbig_long (k + 1) x.1 x.2) (stbig_long k)

/-! shunt/big.divide -/
def bbig_divide (k : Nat) (a : List Int) (b : List Int) : Option (List Int × List Int) :=
  Option.bind (Fbig_cmp k a b) fun r13 =>
  if ((decide (r13 < (0 : Int))) = true) then
    (some ([], a))
  else
  if (((((List.length b) : Nat) : Int) == (1 : Int)) = true) then
    Option.bind (b)[0]? fun x6 =>
    Option.bind (Fbig_short k a x6) fun r14 =>
    (some (r14.1, (List.take 1 (r14.2 :: []))))
  else
  Option.bind (Fbig_long k a b) fun r14 =>
  (some (r14.1, r14.2))
def Fbig_divide : Nat → List Int → List Int → Option (List Int × List Int)
  | 0, _, _ => none
  | k + 1, a, b => bbig_divide k a b
def shbig_divide : FS := { vs := [.a (.lf (.sl (.int .u32))), .a (.lf (.sl (.int .u32)))], bs := [] }
def rsbig_divide : List FS := [{ vs := [.a (.lf (.sl (.int .u32))), .a (.lf (.sl (.int .u32)))], bs := [] }]
def Ibig_divide (k : Nat) : Inst := ⟨94, shbig_divide, rsbig_divide, fun x => Fbig_divide k x.1 x.2⟩
theorem albig_divide (k : Nat) : AllI (call cf k) [Ibig_cmp k, Ibig_short k, Ibig_long k] := And.intro (okbig_cmp k) (And.intro (okbig_short k) (And.intro (okbig_long k) (True.intro)))
theorem anbig_divide (k : Nat) : LAll (LOk (R := DS FS.D rsbig_divide) (fun b _ σ K => LOt Ty (kps 94) 0 b σ K []) cf (call cf k) (cf.keep 94) Tryd.f94.ntmps k shbig_divide.bs.length) 0 (bd Tryd.f94) :=
  And.intro (True.intro) (And.intro (And.intro (True.intro) (And.intro (And.intro (True.intro) (True.intro)) (And.intro (True.intro) (And.intro (And.intro (True.intro) (And.intro (True.intro) (True.intro))) (True.intro))))) (And.intro (True.intro) (True.intro)))
theorem stbig_divide (k : Nat) (x : shbig_divide.D) : Fbig_divide (k + 1) x.1 x.2 = body2 cf (fun f a b K => COt f a b K [Ibig_cmp k, Ibig_short k, Ibig_long k]) (fun b _ σ K => LOt Ty (kps 94) 0 b σ K []) 94 Tryd.f94.ntmps Tryd.f94.results.toList (bd Tryd.f94) (shbig_divide.enc x).1 (shbig_divide.enc x).2 (putS FS.dec rsbig_divide) := by kernel_rfl
theorem okbig_divide : ∀ k, InstOk (call cf k) (Ibig_divide k)
  | 0 => fun x y e => absurd (show (none : Option _) = some y from e) (by simp)
  | k + 1 => inst_ok (c := cf) (k := k) (f := 94) (fn := Tryd.f94) (body := bd Tryd.f94) (sh := shbig_divide) (os := rsbig_divide) rfl Tryd.func94 rfl ⟨rfl, Nat.le_of_ble_eq_true rfl⟩ (COt_ok (albig_divide k)) (anbig_divide k) (fun x => Fbig_divide (k + 1) x.1 x.2) (stbig_divide k)

/-! shunt/big.Gcd -/
def Lbig_Gcd_ddu_0s (k : Nat) (rec : List Int → List Int → Bool → List Int → Bool → List Int → Option (List Int × Bool × List Int × Bool × List Int)) (a : List Int) (b : List Int) (m0 : Bool) (m1 : List Int) (m01 : Bool) (m11 : List Int) : Option (List Int × Bool × List Int × Bool × List Int) :=
  if ((decide ((((List.length b) : Nat) : Int) > (0 : Int))) = true) then
    Option.bind (Fbig_divide k a b) fun r13 =>
    if (((0 + (List.length r13.2)) * 4) ≤ 140737488355328) then
      if ((0 + (0 + (List.length r13.2))) ≤ (List.length ((List.take 0 []) ++ r13.2))) then
        Option.bind (Fbig_trim k (List.take (0 + (List.length r13.2)) ((List.take 0 []) ++ r13.2))) fun r14 =>
        rec b r14 m0 m1 m01 m11
      else
      none
    else
    none
  else
  (some (a, m0, m1, m01, m11))
def Lbig_Gcd_ddu_0 (k n : Nat) : List Int → List Int → Bool → List Int → Bool → List Int → Option (List Int × Bool × List Int × Bool × List Int) := Nat.rec (fun _ _ _ _ _ _ => none) (fun _ r => Lbig_Gcd_ddu_0s k r) n
def bbig_Gcd_ddu (k : Nat) (x0 : Bool) (x1 : List Int) (y0 : Bool) (y1 : List Int) : Option (Bool × List Int × Bool × List Int × Bool × List Int) :=
  Option.bind (Lbig_Gcd_ddu_0 k k x1 y1 x0 x1 y0 y1) fun r13 =>
  Option.bind (Fbig_Int_set_cvg k false r13.1 false) fun r14 =>
  (some (r13.2.1, r13.2.2.1, r13.2.2.2.1, r13.2.2.2.2, r14.1, r14.2))
def Fbig_Gcd_ddu : Nat → Bool → List Int → Bool → List Int → Option (Bool × List Int × Bool × List Int × Bool × List Int)
  | 0, _, _, _, _ => none
  | k + 1, x0, x1, y0, y1 => bbig_Gcd_ddu k x0 x1 y0 y1
def shbig_Gcd_ddu : FS := { vs := [.a (.ptr 0 0 0), .a (.ptr 1 0 0)], bs := [.raw [[.lf .bool, .lf (.sl (.int .u32))]] 2 112 true false false, .raw [[.lf .bool, .lf (.sl (.int .u32))]] 2 112 true false false] }
def rsbig_Gcd_ddu : List FS := [{ vs := [.a (.ptr 2 0 0)], bs := [.raw [[.lf .bool, .lf (.sl (.int .u32))]] 2 112 true false false, .raw [[.lf .bool, .lf (.sl (.int .u32))]] 2 112 true false false, .raw [[.lf .bool, .lf (.sl (.int .u32))]] 2 112 true false false] }]
def Ibig_Gcd_ddu (k : Nat) : Inst := ⟨92, shbig_Gcd_ddu, rsbig_Gcd_ddu, fun x => Fbig_Gcd_ddu k x.1 x.2.1 x.2.2.1 x.2.2.2⟩
theorem albig_Gcd_ddu (k : Nat) : AllI (call cf k) [Ibig_divide k, Ibig_trim k, Ibig_Int_set_cvg k] := And.intro (okbig_divide k) (And.intro (okbig_trim k) (And.intro (okbig_Int_set_cvg k) (True.intro)))
def hsbig_Gcd_ddu_0 : List SS := [{ fr := [(5, .a (.lf (.sl (.int .u32)))), (6, .a (.lf (.sl (.int .u32))))], mem := [(0, some (.raw [[.lf .bool, .lf (.sl (.int .u32))]] 2 112 true false false)), (1, some (.raw [[.lf .bool, .lf (.sl (.int .u32))]] 2 112 true false false))], nx := 2 }]
def osbig_Gcd_ddu_0 : List OS := [⟨some 0, { fr := [(5, .a (.lf (.sl (.int .u32))))], mem := [(0, some (.raw [[.lf .bool, .lf (.sl (.int .u32))]] 2 112 true false false)), (1, some (.raw [[.lf .bool, .lf (.sl (.int .u32))]] 2 112 true false false))], nx := 2 }⟩]
def LIbig_Gcd_ddu_0 (k : Nat) : LInst := ⟨0, hsbig_Gcd_ddu_0, osbig_Gcd_ddu_0, fun x => Lbig_Gcd_ddu_0 k k x.1 x.2.1 x.2.2.1 x.2.2.2.1 x.2.2.2.2.1 x.2.2.2.2.2⟩
theorem anbig_Gcd_ddu_0 (k : Nat) : LAll (LOk (R := DS OS.D osbig_Gcd_ddu_0) (fun b _ σ K => LOt Ty (kps 92) 2 b σ K []) cf (call cf k) (kps 92) Tryd.f92.ntmps k 2) 0 (lb Tryd.f92 0) :=
  And.intro (And.intro (True.intro) (And.intro (True.intro) (True.intro))) (And.intro (True.intro) (True.intro))
theorem stbig_Gcd_ddu_0 (k n : Nat) (x : DS SS.D hsbig_Gcd_ddu_0) : Lbig_Gcd_ddu_0 k (n + 1) x.1 x.2.1 x.2.2.1 x.2.2.2.1 x.2.2.2.2.1 x.2.2.2.2.2 = encSK SS.enc (fun σ => run2 cf (fun f a b K => COt f a b K [Ibig_divide k, Ibig_trim k, Ibig_Int_set_cvg k]) (fun b _ σ K => LOt Ty (kps 92) 2 b σ K []) Tryd.f92.ntmps 0 (lb Tryd.f92 0) σ (nextK Ty (kps 92 0) 2 hsbig_Gcd_ddu_0 osbig_Gcd_ddu_0 fun x => Lbig_Gcd_ddu_0 k n x.1 x.2.1 x.2.2.1 x.2.2.2.1 x.2.2.2.2.1 x.2.2.2.2.2)) hsbig_Gcd_ddu_0 x := by kernel_rfl
theorem lobig_Gcd_ddu_0 (k : Nat) : LIOk cf (call cf k) (kps 92) Tryd.f92.ntmps k 2 0 (lb Tryd.f92 0) (LIbig_Gcd_ddu_0 k) :=
  loop_ok (c := cf) (callF := call cf k) (kp := kps 92) (nt := Tryd.f92.ntmps) (k := k) (p := 2) (b := 0) (x0 := lb Tryd.f92 0) (hs := hsbig_Gcd_ddu_0) (os := osbig_Gcd_ddu_0) (COt_ok (albig_Gcd_ddu k)) (anbig_Gcd_ddu_0 k) (fun n x => Lbig_Gcd_ddu_0 k n x.1 x.2.1 x.2.2.1 x.2.2.2.1 x.2.2.2.2.1 x.2.2.2.2.2) (fun _ => rfl) (stbig_Gcd_ddu_0 k)
theorem anbig_Gcd_ddu (k : Nat) : LAll (LOk (R := DS FS.D rsbig_Gcd_ddu) (fun b _ σ K => LOt Ty (kps 92) 2 b σ K [LIbig_Gcd_ddu_0 k]) cf (call cf k) (cf.keep 92) Tryd.f92.ntmps k shbig_Gcd_ddu.bs.length) 0 (bd Tryd.f92) :=
  And.intro (True.intro) (And.intro (True.intro) (And.intro (LOt_ok (c := cf) (callF := call cf k) (kp := kps 92) (nt := Tryd.f92.ntmps) (k := k) (p := 2) (b := 0) (x0 := lb Tryd.f92 0) (l := [LIbig_Gcd_ddu_0 k]) (And.intro (fun _ => lobig_Gcd_ddu_0 k) (True.intro))) (And.intro (True.intro) (True.intro))))
theorem stbig_Gcd_ddu (k : Nat) (x : shbig_Gcd_ddu.D) : Fbig_Gcd_ddu (k + 1) x.1 x.2.1 x.2.2.1 x.2.2.2 = body2 cf (fun f a b K => COt f a b K [Ibig_divide k, Ibig_trim k, Ibig_Int_set_cvg k]) (fun b _ σ K => LOt Ty (kps 92) 2 b σ K [LIbig_Gcd_ddu_0 k]) 92 Tryd.f92.ntmps Tryd.f92.results.toList (bd Tryd.f92) (shbig_Gcd_ddu.enc x).1 (shbig_Gcd_ddu.enc x).2 (putS FS.dec rsbig_Gcd_ddu) := by kernel_rfl
theorem okbig_Gcd_ddu : ∀ k, InstOk (call cf k) (Ibig_Gcd_ddu k)
  | 0 => fun x y e => absurd (show (none : Option _) = some y from e) (by simp)
  | k + 1 => inst_ok (c := cf) (k := k) (f := 92) (fn := Tryd.f92) (body := bd Tryd.f92) (sh := shbig_Gcd_ddu) (os := rsbig_Gcd_ddu) rfl Tryd.func92 rfl ⟨rfl, Nat.le_of_ble_eq_true rfl⟩ (COt_ok (albig_Gcd_ddu k)) (anbig_Gcd_ddu k) (fun x => Fbig_Gcd_ddu (k + 1) x.1 x.2.1 x.2.2.1 x.2.2.2) (stbig_Gcd_ddu k)

/-! (*shunt/big.Int).QuoRem -/
def bbig_Int_QuoRem_gsh (k : Nat) (z : Bool) (x0 : Bool) (x1 : List Int) (y0 : Bool) (y1 : List Int) (r : Bool) : Option (Bool × List Int × Bool × List Int × Bool × List Int × Bool × List Int) :=
  Option.bind (Fbig_divide k x1 y1) fun r14 =>
  Option.bind (Fbig_Int_set_cvg k x0 r14.2 r) fun r15 =>
  Option.bind (Fbig_Int_set_cvg k (!(x0 == y0)) r14.1 z) fun r16 =>
  (some (r16.1, r16.2, x0, x1, y0, y1, r15.1, r15.2))
def Fbig_Int_QuoRem_gsh : Nat → Bool → Bool → List Int → Bool → List Int → Bool → Option (Bool × List Int × Bool × List Int × Bool × List Int × Bool × List Int)
  | 0, _, _, _, _, _, _ => none
  | k + 1, z, x0, x1, y0, y1, r => bbig_Int_QuoRem_gsh k z x0 x1 y0 y1 r
def shbig_Int_QuoRem_gsh : FS := { vs := [.a (.ptr 0 0 0), .a (.ptr 1 0 0), .a (.ptr 2 0 0), .a (.ptr 3 0 0)], bs := [.raw [[.lf .bool, .snil 1 120]] 2 112 true false false, .raw [[.lf .bool, .lf (.sl (.int .u32))]] 2 112 true false false, .raw [[.lf .bool, .lf (.sl (.int .u32))]] 2 112 true false false, .raw [[.lf .bool, .snil 1 120]] 2 112 true false false] }
def rsbig_Int_QuoRem_gsh : List FS := [{ vs := [.a (.ptr 0 0 0), .a (.ptr 3 0 0)], bs := [.raw [[.lf .bool, .lf (.sl (.int .u32))]] 2 112 true false false, .raw [[.lf .bool, .lf (.sl (.int .u32))]] 2 112 true false false, .raw [[.lf .bool, .lf (.sl (.int .u32))]] 2 112 true false false, .raw [[.lf .bool, .lf (.sl (.int .u32))]] 2 112 true false false] }]
def Ibig_Int_QuoRem_gsh (k : Nat) : Inst := ⟨95, shbig_Int_QuoRem_gsh, rsbig_Int_QuoRem_gsh, fun x => Fbig_Int_QuoRem_gsh k x.1 x.2.1 x.2.2.1 x.2.2.2.1 x.2.2.2.2.1 x.2.2.2.2.2⟩
theorem albig_Int_QuoRem_gsh (k : Nat) : AllI (call cf k) [Ibig_divide k, Ibig_Int_set_cvg k] := And.intro (okbig_divide k) (And.intro (okbig_Int_set_cvg k) (True.intro))
theorem anbig_Int_QuoRem_gsh (k : Nat) : LAll (LOk (R := DS FS.D rsbig_Int_QuoRem_gsh) (fun b _ σ K => LOt Ty (kps 95) 4 b σ K []) cf (call cf k) (cf.keep 95) Tryd.f95.ntmps k shbig_Int_QuoRem_gsh.bs.length) 0 (bd Tryd.f95) :=
  And.intro (True.intro) (And.intro (True.intro) (And.intro (True.intro) (And.intro (True.intro) (And.intro (True.intro) (True.intro)))))
theorem stbig_Int_QuoRem_gsh (k : Nat) (x : shbig_Int_QuoRem_gsh.D) : Fbig_Int_QuoRem_gsh (k + 1) x.1 x.2.1 x.2.2.1 x.2.2.2.1 x.2.2.2.2.1 x.2.2.2.2.2 = body2 cf (fun f a b K => COt f a b K [Ibig_divide k, Ibig_Int_set_cvg k]) (fun b _ σ K => LOt Ty (kps 95) 4 b σ K []) 95 Tryd.f95.ntmps Tryd.f95.results.toList (bd Tryd.f95) (shbig_Int_QuoRem_gsh.enc x).1 (shbig_Int_QuoRem_gsh.enc x).2 (putS FS.dec rsbig_Int_QuoRem_gsh) := by kernel_rfl
theorem okbig_Int_QuoRem_gsh : ∀ k, InstOk (call cf k) (Ibig_Int_QuoRem_gsh k)
  | 0 => fun x y e => absurd (show (none : Option _) = some y from e) (by simp)
  | k + 1 => inst_ok (c := cf) (k := k) (f := 95) (fn := Tryd.f95) (body := bd Tryd.f95) (sh := shbig_Int_QuoRem_gsh) (os := rsbig_Int_QuoRem_gsh) rfl Tryd.func95 rfl ⟨rfl, Nat.le_of_ble_eq_true rfl⟩ (COt_ok (albig_Int_QuoRem_gsh k)) (anbig_Int_QuoRem_gsh k) (fun x => Fbig_Int_QuoRem_gsh (k + 1) x.1 x.2.1 x.2.2.1 x.2.2.2.1 x.2.2.2.2.1 x.2.2.2.2.2) (stbig_Int_QuoRem_gsh k)

/-! (*shunt/big.Int).Quo -/
def bbig_Int_Quo_gsh (k : Nat) (z : Bool) (x0 : Bool) (x1 : List Int) (y0 : Bool) (y1 : List Int) : Option (Bool × List Int × Bool × List Int × Bool × List Int) :=
  Option.bind (Fbig_Int_QuoRem_gsh k z x0 x1 y0 y1 false) fun r14 =>
  (some (r14.1, r14.2.1, r14.2.2.1, r14.2.2.2.1, r14.2.2.2.2.1, r14.2.2.2.2.2.1))
def Fbig_Int_Quo_gsh : Nat → Bool → Bool → List Int → Bool → List Int → Option (Bool × List Int × Bool × List Int × Bool × List Int)
  | 0, _, _, _, _, _ => none
  | k + 1, z, x0, x1, y0, y1 => bbig_Int_Quo_gsh k z x0 x1 y0 y1
def shbig_Int_Quo_gsh : FS := { vs := [.a (.ptr 0 0 0), .a (.ptr 1 0 0), .a (.ptr 2 0 0)], bs := [.raw [[.lf .bool, .snil 1 120]] 2 112 true false false, .raw [[.lf .bool, .lf (.sl (.int .u32))]] 2 112 true false false, .raw [[.lf .bool, .lf (.sl (.int .u32))]] 2 112 true false false] }
def rsbig_Int_Quo_gsh : List FS := [{ vs := [.a (.ptr 0 0 0)], bs := [.raw [[.lf .bool, .lf (.sl (.int .u32))]] 2 112 true false false, .raw [[.lf .bool, .lf (.sl (.int .u32))]] 2 112 true false false, .raw [[.lf .bool, .lf (.sl (.int .u32))]] 2 112 true false false] }]
def Ibig_Int_Quo_gsh (k : Nat) : Inst := ⟨93, shbig_Int_Quo_gsh, rsbig_Int_Quo_gsh, fun x => Fbig_Int_Quo_gsh k x.1 x.2.1 x.2.2.1 x.2.2.2.1 x.2.2.2.2⟩
theorem albig_Int_Quo_gsh (k : Nat) : AllI (call cf k) [Ibig_Int_QuoRem_gsh k] := And.intro (okbig_Int_QuoRem_gsh k) (True.intro)
theorem anbig_Int_Quo_gsh (k : Nat) : LAll (LOk (R := DS FS.D rsbig_Int_Quo_gsh) (fun b _ σ K => LOt Ty (kps 93) 3 b σ K []) cf (call cf k) (cf.keep 93) Tryd.f93.ntmps k shbig_Int_Quo_gsh.bs.length) 0 (bd Tryd.f93) :=
  And.intro (True.intro) (And.intro (True.intro) (And.intro (True.intro) (True.intro)))
theorem stbig_Int_Quo_gsh (k : Nat) (x : shbig_Int_Quo_gsh.D) : Fbig_Int_Quo_gsh (k + 1) x.1 x.2.1 x.2.2.1 x.2.2.2.1 x.2.2.2.2 = body2 cf (fun f a b K => COt f a b K [Ibig_Int_QuoRem_gsh k]) (fun b _ σ K => LOt Ty (kps 93) 3 b σ K []) 93 Tryd.f93.ntmps Tryd.f93.results.toList (bd Tryd.f93) (shbig_Int_Quo_gsh.enc x).1 (shbig_Int_Quo_gsh.enc x).2 (putS FS.dec rsbig_Int_Quo_gsh) := by kernel_rfl
theorem okbig_Int_Quo_gsh : ∀ k, InstOk (call cf k) (Ibig_Int_Quo_gsh k)
  | 0 => fun x y e => absurd (show (none : Option _) = some y from e) (by simp)
  | k + 1 => inst_ok (c := cf) (k := k) (f := 93) (fn := Tryd.f93) (body := bd Tryd.f93) (sh := shbig_Int_Quo_gsh) (os := rsbig_Int_Quo_gsh) rfl Tryd.func93 rfl ⟨rfl, Nat.le_of_ble_eq_true rfl⟩ (COt_ok (albig_Int_Quo_gsh k)) (anbig_Int_Quo_gsh k) (fun x => Fbig_Int_Quo_gsh (k + 1) x.1 x.2.1 x.2.2.1 x.2.2.2.1 x.2.2.2.2) (stbig_Int_Quo_gsh k)

/-! (*shunt/big.Rat).frac -/
def bbig_Rat_frac_xda (k : Nat) (z0 : Bool) (z1 : Bool) (n0 : Bool) (n1 : List Int) (d0 : Bool) (d1 : List Int) : Option (Bool × List Int × Bool × List Int × Bool × List Int × Bool × List Int) :=
  Option.bind (Fbig_Gcd_ddu k n0 n1 d0 d1) fun r13 =>
  if (r13.2.2.1 = true) then
    Option.bind (Fbig_Int_Quo_gsh k false r13.1 r13.2.1 true r13.2.2.2.2.2) fun r14 =>
    Option.bind (Fbig_Int_Quo_gsh k false r13.2.2.1 r13.2.2.2.1 r14.2.2.2.2.1 r14.2.2.2.2.2) fun r15 =>
    (some (r14.1, r14.2.1, r15.1, r15.2.1, r14.2.2.1, r14.2.2.2.1, r15.2.2.1, r15.2.2.2.1))
  else
  Option.bind (Fbig_Int_Quo_gsh k false r13.1 r13.2.1 r13.2.2.2.2.1 r13.2.2.2.2.2) fun r14 =>
  Option.bind (Fbig_Int_Quo_gsh k false r13.2.2.1 r13.2.2.2.1 r14.2.2.2.2.1 r14.2.2.2.2.2) fun r15 =>
  (some (r14.1, r14.2.1, r15.1, r15.2.1, r14.2.2.1, r14.2.2.2.1, r15.2.2.1, r15.2.2.2.1))
def Fbig_Rat_frac_xda : Nat → Bool → Bool → Bool → List Int → Bool → List Int → Option (Bool × List Int × Bool × List Int × Bool × List Int × Bool × List Int)
  | 0, _, _, _, _, _, _ => none
  | k + 1, z0, z1, n0, n1, d0, d1 => bbig_Rat_frac_xda k z0 z1 n0 n1 d0 d1
def shbig_Rat_frac_xda : FS := { vs := [.a (.ptr 0 0 0), .a (.ptr 1 0 0), .a (.ptr 2 0 0)], bs := [.raw [[.lf .bool, .snil 1 120, .lf .bool, .snil 1 120]] 4 114 true false false, .raw [[.lf .bool, .lf (.sl (.int .u32))]] 2 112 true false false, .raw [[.lf .bool, .lf (.sl (.int .u32))]] 2 112 true false false] }
def rsbig_Rat_frac_xda : List FS := [{ vs := [.a (.ptr 0 0 0)], bs := [.raw [[.lf .bool, .lf (.sl (.int .u32)), .lf .bool, .lf (.sl (.int .u32))]] 4 114 true false false, .raw [[.lf .bool, .lf (.sl (.int .u32))]] 2 112 true false false, .raw [[.lf .bool, .lf (.sl (.int .u32))]] 2 112 true false false] }]
def Ibig_Rat_frac_xda (k : Nat) : Inst := ⟨86, shbig_Rat_frac_xda, rsbig_Rat_frac_xda, fun x => Fbig_Rat_frac_xda k x.1 x.2.1 x.2.2.1 x.2.2.2.1 x.2.2.2.2.1 x.2.2.2.2.2⟩
theorem albig_Rat_frac_xda (k : Nat) : AllI (call cf k) [Ibig_Gcd_ddu k, Ibig_Int_Quo_gsh k] := And.intro (okbig_Gcd_ddu k) (And.intro (okbig_Int_Quo_gsh k) (True.intro))
theorem anbig_Rat_frac_xda (k : Nat) : LAll (LOk (R := DS FS.D rsbig_Rat_frac_xda) (fun b _ σ K => LOt Ty (kps 86) 3 b σ K []) cf (call cf k) (cf.keep 86) Tryd.f86.ntmps k shbig_Rat_frac_xda.bs.length) 0 (bd Tryd.f86) :=
  And.intro (True.intro) (And.intro (True.intro) (And.intro (And.intro (True.intro) (And.intro (True.intro) (True.intro))) (And.intro (True.intro) (And.intro (True.intro) (And.intro (True.intro) (And.intro (True.intro) (And.intro (True.intro) (True.intro))))))))
theorem stbig_Rat_frac_xda (k : Nat) (x : shbig_Rat_frac_xda.D) : Fbig_Rat_frac_xda (k + 1) x.1 x.2.1 x.2.2.1 x.2.2.2.1 x.2.2.2.2.1 x.2.2.2.2.2 = body2 cf (fun f a b K => COt f a b K [Ibig_Gcd_ddu k, Ibig_Int_Quo_gsh k]) (fun b _ σ K => LOt Ty (kps 86) 3 b σ K []) 86 Tryd.f86.ntmps Tryd.f86.results.toList (bd Tryd.f86) (shbig_Rat_frac_xda.enc x).1 (shbig_Rat_frac_xda.enc x).2 (putS FS.dec rsbig_Rat_frac_xda) := by kernel_rfl
theorem okbig_Rat_frac_xda : ∀ k, InstOk (call cf k) (Ibig_Rat_frac_xda k)
  | 0 => fun x y e => absurd (show (none : Option _) = some y from e) (by simp)
  | k + 1 => inst_ok (c := cf) (k := k) (f := 86) (fn := Tryd.f86) (body := bd Tryd.f86) (sh := shbig_Rat_frac_xda) (os := rsbig_Rat_frac_xda) rfl Tryd.func86 rfl ⟨rfl, Nat.le_of_ble_eq_true rfl⟩ (COt_ok (albig_Rat_frac_xda k)) (anbig_Rat_frac_xda k) (fun x => Fbig_Rat_frac_xda (k + 1) x.1 x.2.1 x.2.2.1 x.2.2.2.1 x.2.2.2.2.1 x.2.2.2.2.2) (stbig_Rat_frac_xda k)

/-! shunt/big.Frac -/
def bbig_Frac_ddu (k : Nat) (n0 : Bool) (n1 : List Int) (d0 : Bool) (d1 : List Int) : Option (Bool × List Int × Bool × List Int × Bool × List Int × Bool × List Int) :=
  Option.bind (Fbig_Rat_frac_xda k false false n0 n1 d0 d1) fun r13 =>
  (some (r13.2.2.2.2.1, r13.2.2.2.2.2.1, r13.2.2.2.2.2.2.1, r13.2.2.2.2.2.2.2, r13.1, r13.2.1, r13.2.2.1, r13.2.2.2.1))
def Fbig_Frac_ddu : Nat → Bool → List Int → Bool → List Int → Option (Bool × List Int × Bool × List Int × Bool × List Int × Bool × List Int)
  | 0, _, _, _, _ => none
  | k + 1, n0, n1, d0, d1 => bbig_Frac_ddu k n0 n1 d0 d1
def shbig_Frac_ddu : FS := { vs := [.a (.ptr 0 0 0), .a (.ptr 1 0 0)], bs := [.raw [[.lf .bool, .lf (.sl (.int .u32))]] 2 112 true false false, .raw [[.lf .bool, .lf (.sl (.int .u32))]] 2 112 true false false] }
def rsbig_Frac_ddu : List FS := [{ vs := [.a (.ptr 2 0 0)], bs := [.raw [[.lf .bool, .lf (.sl (.int .u32))]] 2 112 true false false, .raw [[.lf .bool, .lf (.sl (.int .u32))]] 2 112 true false false, .raw [[.lf .bool, .lf (.sl (.int .u32)), .lf .bool, .lf (.sl (.int .u32))]] 4 114 true false false] }]
def Ibig_Frac_ddu (k : Nat) : Inst := ⟨77, shbig_Frac_ddu, rsbig_Frac_ddu, fun x => Fbig_Frac_ddu k x.1 x.2.1 x.2.2.1 x.2.2.2⟩
theorem albig_Frac_ddu (k : Nat) : AllI (call cf k) [Ibig_Rat_frac_xda k] := And.intro (okbig_Rat_frac_xda k) (True.intro)
theorem anbig_Frac_ddu (k : Nat) : LAll (LOk (R := DS FS.D rsbig_Frac_ddu) (fun b _ σ K => LOt Ty (kps 77) 2 b σ K []) cf (call cf k) (cf.keep 77) Tryd.f77.ntmps k shbig_Frac_ddu.bs.length) 0 (bd Tryd.f77) :=
  And.intro (True.intro) (And.intro (True.intro) (True.intro))
theorem stbig_Frac_ddu (k : Nat) (x : shbig_Frac_ddu.D) : Fbig_Frac_ddu (k + 1) x.1 x.2.1 x.2.2.1 x.2.2.2 = body2 cf (fun f a b K => COt f a b K [Ibig_Rat_frac_xda k]) (fun b _ σ K => LOt Ty (kps 77) 2 b σ K []) 77 Tryd.f77.ntmps Tryd.f77.results.toList (bd Tryd.f77) (shbig_Frac_ddu.enc x).1 (shbig_Frac_ddu.enc x).2 (putS FS.dec rsbig_Frac_ddu) := by kernel_rfl
theorem okbig_Frac_ddu : ∀ k, InstOk (call cf k) (Ibig_Frac_ddu k)
  | 0 => fun x y e => absurd (show (none : Option _) = some y from e) (by simp)
  | k + 1 => inst_ok (c := cf) (k := k) (f := 77) (fn := Tryd.f77) (body := bd Tryd.f77) (sh := shbig_Frac_ddu) (os := rsbig_Frac_ddu) rfl Tryd.func77 rfl ⟨rfl, Nat.le_of_ble_eq_true rfl⟩ (COt_ok (albig_Frac_ddu k)) (anbig_Frac_ddu k) (fun x => Fbig_Frac_ddu (k + 1) x.1 x.2.1 x.2.2.1 x.2.2.2) (stbig_Frac_ddu k)

/-! shunt/num.frac -/
def bnum_frac (k : Nat) (n0 : Int) (n1 : Int) : Option (Bool × List Int × Bool × List Int) :=
  Option.bind (Fbig_Ten k (max n1 (IntKind.wrap .i64 ((0 : Int) - n1)))) fun r11 =>
  if ((decide (n1 < (0 : Int))) = true) then
    Option.bind (Fbig_NewInt k n0) fun r12 =>
    Option.bind (Fbig_Frac_ddu k r12.1 r12.2 r11.1 r11.2) fun r13 =>
    (some (r13.2.2.2.2.1, r13.2.2.2.2.2.1, r13.2.2.2.2.2.2.1, r13.2.2.2.2.2.2.2))
  else
  Option.bind (Fbig_NewInt k n0) fun r12 =>
  Option.bind (Fbig_Int_Mul_jod k r11.1 r11.2 r12.1 r12.2) fun r13 =>
  Option.bind (Fbig_NewInt k (1 : Int)) fun r14 =>
  Option.bind (Fbig_Frac_ddu k r13.1 r13.2.1 r14.1 r14.2) fun r15 =>
  (some (r15.2.2.2.2.1, r15.2.2.2.2.2.1, r15.2.2.2.2.2.2.1, r15.2.2.2.2.2.2.2))
def Fnum_frac : Nat → Int → Int → Option (Bool × List Int × Bool × List Int)
  | 0, _, _ => none
  | k + 1, n0, n1 => bnum_frac k n0 n1
def shnum_frac : FS := { vs := [.g [.lf (.int .i64), .lf (.int .i64)]], bs := [] }
def rsnum_frac : List FS := [{ vs := [.a (.ptr 0 0 0)], bs := [.raw [[.lf .bool, .lf (.sl (.int .u32)), .lf .bool, .lf (.sl (.int .u32))]] 4 114 true false false] }]
def Inum_frac (k : Nat) : Inst := ⟨70, shnum_frac, rsnum_frac, fun x => Fnum_frac k x.1 x.2⟩
theorem alnum_frac (k : Nat) : AllI (call cf k) [Ibig_Ten k, Ibig_NewInt k, Ibig_Frac_ddu k, Ibig_Int_Mul_jod k] := And.intro (okbig_Ten k) (And.intro (okbig_NewInt k) (And.intro (okbig_Frac_ddu k) (And.intro (okbig_Int_Mul_jod k) (True.intro))))
theorem annum_frac (k : Nat) : LAll (LOk (R := DS FS.D rsnum_frac) (fun b _ σ K => LOt Ty (kps 70) 0 b σ K []) cf (call cf k) (cf.keep 70) Tryd.f70.ntmps k shnum_frac.bs.length) 0 (bd Tryd.f70) :=
  And.intro (True.intro) (And.intro (True.intro) (And.intro (And.intro (True.intro) (And.intro (And.intro (True.intro) (True.intro)) (True.intro))) (And.intro (True.intro) (True.intro))))
theorem stnum_frac (k : Nat) (x : shnum_frac.D) : Fnum_frac (k + 1) x.1 x.2 = body2 cf (fun f a b K => COt f a b K [Ibig_Ten k, Ibig_NewInt k, Ibig_Frac_ddu k, Ibig_Int_Mul_jod k]) (fun b _ σ K => LOt Ty (kps 70) 0 b σ K []) 70 Tryd.f70.ntmps Tryd.f70.results.toList (bd Tryd.f70) (shnum_frac.enc x).1 (shnum_frac.enc x).2 (putS FS.dec rsnum_frac) := by kernel_rfl
theorem oknum_frac : ∀ k, InstOk (call cf k) (Inum_frac k)
  | 0 => fun x y e => absurd (show (none : Option _) = some y from e) (by simp)
  | k + 1 => inst_ok (c := cf) (k := k) (f := 70) (fn := Tryd.f70) (body := bd Tryd.f70) (sh := shnum_frac) (os := rsnum_frac) rfl Tryd.func70 rfl ⟨rfl, Nat.le_of_ble_eq_true rfl⟩ (COt_ok (alnum_frac k)) (annum_frac k) (fun x => Fnum_frac (k + 1) x.1 x.2) (stnum_frac k)

/-! shunt/big.Of -/
def bbig_Of (k : Nat) (neg : Bool) (w : List Int) : Option (Bool × List Int) :=
  if (((0 + (List.length w)) * 4) ≤ 140737488355328) then
    if ((0 + (0 + (List.length w))) ≤ (List.length ((List.take 0 []) ++ w))) then
      Option.bind (Fbig_trim k (List.take (0 + (List.length w)) ((List.take 0 []) ++ w))) fun r13 =>
      if (neg = true) then
        (some ((decide ((((List.length r13) : Nat) : Int) > (0 : Int))), r13))
      else
      (some (false, r13))
    else
    none
  else
  none
def Fbig_Of : Nat → Bool → List Int → Option (Bool × List Int)
  | 0, _, _ => none
  | k + 1, neg, w => bbig_Of k neg w
def shbig_Of : FS := { vs := [.a (.lf .bool), .a (.lf (.sl (.int .u32)))], bs := [] }
def rsbig_Of : List FS := [{ vs := [.a (.ptr 0 0 0)], bs := [.raw [[.lf .bool, .lf (.sl (.int .u32))]] 2 112 true false false] }]
def Ibig_Of (k : Nat) : Inst := ⟨89, shbig_Of, rsbig_Of, fun x => Fbig_Of k x.1 x.2⟩
theorem albig_Of (k : Nat) : AllI (call cf k) [Ibig_trim k] := And.intro (okbig_trim k) (True.intro)
theorem anbig_Of (k : Nat) : LAll (LOk (R := DS FS.D rsbig_Of) (fun b _ σ K => LOt Ty (kps 89) 0 b σ K []) cf (call cf k) (cf.keep 89) Tryd.f89.ntmps k shbig_Of.bs.length) 0 (bd Tryd.f89) :=
  And.intro (True.intro) (And.intro (True.intro) (And.intro (True.intro) (And.intro (True.intro) (True.intro))))
theorem stbig_Of (k : Nat) (x : shbig_Of.D) : Fbig_Of (k + 1) x.1 x.2 = body2 cf (fun f a b K => COt f a b K [Ibig_trim k]) (fun b _ σ K => LOt Ty (kps 89) 0 b σ K []) 89 Tryd.f89.ntmps Tryd.f89.results.toList (bd Tryd.f89) (shbig_Of.enc x).1 (shbig_Of.enc x).2 (putS FS.dec rsbig_Of) := by kernel_rfl
theorem okbig_Of : ∀ k, InstOk (call cf k) (Ibig_Of k)
  | 0 => fun x y e => absurd (show (none : Option _) = some y from e) (by simp)
  | k + 1 => inst_ok (c := cf) (k := k) (f := 89) (fn := Tryd.f89) (body := bd Tryd.f89) (sh := shbig_Of) (os := rsbig_Of) rfl Tryd.func89 rfl ⟨rfl, Nat.le_of_ble_eq_true rfl⟩ (COt_ok (albig_Of k)) (anbig_Of k) (fun x => Fbig_Of (k + 1) x.1 x.2) (stbig_Of k)

/-! (*shunt/big.Rat).Denom -/
def bbig_Rat_Denom_plq (k : Nat) (z0 : Bool) (z1 : List Int) (z2 : Bool) (z3 : List Int) : Option (Bool × List Int × Bool × List Int × Bool × List Int) :=
  if (((((List.length z3) : Nat) : Int) == (0 : Int)) = true) then
    Option.bind (Fbig_NewInt k (1 : Int)) fun r13 =>
    (some (z0, z1, z2, z3, r13.1, r13.2))
  else
  Option.bind (Fbig_Of k false z3) fun r13 =>
  (some (z0, z1, z2, z3, r13.1, r13.2))
def Fbig_Rat_Denom_plq : Nat → Bool → List Int → Bool → List Int → Option (Bool × List Int × Bool × List Int × Bool × List Int)
  | 0, _, _, _, _ => none
  | k + 1, z0, z1, z2, z3 => bbig_Rat_Denom_plq k z0 z1 z2 z3
def shbig_Rat_Denom_plq : FS := { vs := [.a (.ptr 0 0 0)], bs := [.raw [[.lf .bool, .lf (.sl (.int .u32)), .lf .bool, .lf (.sl (.int .u32))]] 4 114 true false false] }
def rsbig_Rat_Denom_plq : List FS := [{ vs := [.a (.ptr 1 0 0)], bs := [.raw [[.lf .bool, .lf (.sl (.int .u32)), .lf .bool, .lf (.sl (.int .u32))]] 4 114 true false false, .raw [[.lf .bool, .lf (.sl (.int .u32))]] 2 112 true false false] }]
def Ibig_Rat_Denom_plq (k : Nat) : Inst := ⟨80, shbig_Rat_Denom_plq, rsbig_Rat_Denom_plq, fun x => Fbig_Rat_Denom_plq k x.1 x.2.1 x.2.2.1 x.2.2.2⟩
theorem albig_Rat_Denom_plq (k : Nat) : AllI (call cf k) [Ibig_NewInt k, Ibig_Of k] := And.intro (okbig_NewInt k) (And.intro (okbig_Of k) (True.intro))
theorem anbig_Rat_Denom_plq (k : Nat) : LAll (LOk (R := DS FS.D rsbig_Rat_Denom_plq) (fun b _ σ K => LOt Ty (kps 80) 1 b σ K []) cf (call cf k) (cf.keep 80) Tryd.f80.ntmps k shbig_Rat_Denom_plq.bs.length) 0 (bd Tryd.f80) :=
  And.intro (True.intro) (And.intro (And.intro (True.intro) (And.intro (And.intro (True.intro) (True.intro)) (True.intro))) (And.intro (True.intro) (True.intro)))
theorem stbig_Rat_Denom_plq (k : Nat) (x : shbig_Rat_Denom_plq.D) : Fbig_Rat_Denom_plq (k + 1) x.1 x.2.1 x.2.2.1 x.2.2.2 = body2 cf (fun f a b K => COt f a b K [Ibig_NewInt k, Ibig_Of k]) (fun b _ σ K => LOt Ty (kps 80) 1 b σ K []) 80 Tryd.f80.ntmps Tryd.f80.results.toList (bd Tryd.f80) (shbig_Rat_Denom_plq.enc x).1 (shbig_Rat_Denom_plq.enc x).2 (putS FS.dec rsbig_Rat_Denom_plq) := by kernel_rfl
theorem okbig_Rat_Denom_plq : ∀ k, InstOk (call cf k) (Ibig_Rat_Denom_plq k)
  | 0 => fun x y e => absurd (show (none : Option _) = some y from e) (by simp)
  | k + 1 => inst_ok (c := cf) (k := k) (f := 80) (fn := Tryd.f80) (body := bd Tryd.f80) (sh := shbig_Rat_Denom_plq) (os := rsbig_Rat_Denom_plq) rfl Tryd.func80 rfl ⟨rfl, Nat.le_of_ble_eq_true rfl⟩ (COt_ok (albig_Rat_Denom_plq k)) (anbig_Rat_Denom_plq k) (fun x => Fbig_Rat_Denom_plq (k + 1) x.1 x.2.1 x.2.2.1 x.2.2.2) (stbig_Rat_Denom_plq k)

/-! (*shunt/big.Int).Mul -/
def Lbig_Int_Mul_uoe_2s (k : Nat) (rec : Nat → Int → Int → Int → List Int → Int → Int → List Int → Int → Int → Bool → Bool → List Int → Bool → List Int → Bool → List Int → List Int → Option (Nat × Int × Int × List Int × Int × Int × Bool × Bool × List Int × Bool × List Int × Bool × List Int × List Int)) (out1 : Nat) (i : Int) (a : Int) (carry : Int) (x : List Int) (x1 : Int) (x2 : Int) (x3 : List Int) (x4 : Int) (x5 : Int) (z : Bool) (x0 : Bool) (x11 : List Int) (x21 : Bool) (x31 : List Int) (y0 : Bool) (y1 : List Int) (outs : List Int) : Option (Nat × Int × Int × List Int × Int × Int × Bool × Bool × List Int × Bool × List Int × Bool × List Int × List Int) :=
  if ((decide (x5 < x4)) = true) then
    if ((0 : Int) ≤ x5) then
      Option.bind (x3)[(Int.toNat x5)]? fun x7 =>
      if (((0 : Int) ≤ (IntKind.wrap .i64 (i + x5))) ∧ ((IntKind.wrap .i64 (i + x5)) < ((out1 : Nat) : Int))) then
        Option.bind (outs)[(0 + (Int.toNat (IntKind.wrap .i64 (i + x5))))]? fun x8 =>
        if (((0 : Int) ≤ (IntKind.wrap .i64 (i + x5))) ∧ ((IntKind.wrap .i64 (i + x5)) < ((out1 : Nat) : Int))) then
          Option.bind (outs)[(0 + (Int.toNat (IntKind.wrap .i64 (i + x5))))]? fun x9 =>
          rec out1 i a (Int.fdiv (IntKind.wrap .u64 ((IntKind.wrap .u64 ((IntKind.wrap .u64 ((IntKind.wrap .u64 a) * (IntKind.wrap .u64 x7))) + (IntKind.wrap .u64 x8))) + carry)) (4294967296 : Int)) x x1 x2 x3 x4 (IntKind.wrap .i64 (x5 + (1 : Int))) z x0 x11 x21 x31 y0 y1 (List.set outs (0 + (Int.toNat (IntKind.wrap .i64 (i + x5)))) (IntKind.wrap .u32 (IntKind.wrap .u64 ((IntKind.wrap .u64 ((IntKind.wrap .u64 ((IntKind.wrap .u64 a) * (IntKind.wrap .u64 x7))) + (IntKind.wrap .u64 x8))) + carry))))
        else
        none
      else
      none
    else
    none
  else
  (some (out1, i, carry, x, x1, x2, z, x0, x11, x21, x31, y0, y1, outs))
def Lbig_Int_Mul_uoe_2 (k n : Nat) : Nat → Int → Int → Int → List Int → Int → Int → List Int → Int → Int → Bool → Bool → List Int → Bool → List Int → Bool → List Int → List Int → Option (Nat × Int × Int × List Int × Int × Int × Bool × Bool × List Int × Bool × List Int × Bool × List Int × List Int) := Nat.rec (fun _ _ _ _ _ _ _ _ _ _ _ _ _ _ _ _ _ _ => none) (fun _ r => Lbig_Int_Mul_uoe_2s k r) n
def Lbig_Int_Mul_uoe_0s (k : Nat) (rec : Nat → List Int → Int → Int → Bool → Bool → List Int → Bool → List Int → Bool → List Int → List Int → Option (Nat × Bool × Bool × List Int × Bool × List Int × Bool × List Int × List Int)) (out1 : Nat) (x : List Int) (x1 : Int) (x2 : Int) (z : Bool) (x0 : Bool) (x11 : List Int) (x21 : Bool) (x3 : List Int) (y0 : Bool) (y1 : List Int) (outs : List Int) : Option (Nat × Bool × Bool × List Int × Bool × List Int × Bool × List Int × List Int) :=
  if ((decide (x2 < x1)) = true) then
    if ((0 : Int) ≤ x2) then
      Option.bind (x)[(Int.toNat x2)]? fun x6 =>
      Option.bind (Lbig_Int_Mul_uoe_2 k k out1 x2 x6 (0 : Int) x x1 x2 y1 (((List.length y1) : Nat) : Int) (0 : Int) z x0 x11 x21 x3 y0 y1 outs) fun r14 =>
      if (((0 : Int) ≤ (IntKind.wrap .i64 (r14.2.1 + (((List.length r14.2.2.2.2.2.2.2.2.2.2.2.2.1) : Nat) : Int)))) ∧ ((IntKind.wrap .i64 (r14.2.1 + (((List.length r14.2.2.2.2.2.2.2.2.2.2.2.2.1) : Nat) : Int))) < ((r14.1 : Nat) : Int))) then
        Option.bind (r14.2.2.2.2.2.2.2.2.2.2.2.2.2)[(0 + (Int.toNat (IntKind.wrap .i64 (r14.2.1 + (((List.length r14.2.2.2.2.2.2.2.2.2.2.2.2.1) : Nat) : Int)))))]? fun x7 =>
        rec r14.1 r14.2.2.2.1 r14.2.2.2.2.1 (IntKind.wrap .i64 (r14.2.2.2.2.2.1 + (1 : Int))) r14.2.2.2.2.2.2.1 r14.2.2.2.2.2.2.2.1 r14.2.2.2.2.2.2.2.2.1 r14.2.2.2.2.2.2.2.2.2.1 r14.2.2.2.2.2.2.2.2.2.2.1 r14.2.2.2.2.2.2.2.2.2.2.2.1 r14.2.2.2.2.2.2.2.2.2.2.2.2.1 (List.set r14.2.2.2.2.2.2.2.2.2.2.2.2.2 (0 + (Int.toNat (IntKind.wrap .i64 (r14.2.1 + (((List.length r14.2.2.2.2.2.2.2.2.2.2.2.2.1) : Nat) : Int))))) (IntKind.wrap .u32 r14.2.2.1))
      else
      none
    else
    none
  else
  (some (out1, z, x0, x11, x21, x3, y0, y1, outs))
def Lbig_Int_Mul_uoe_0 (k n : Nat) : Nat → List Int → Int → Int → Bool → Bool → List Int → Bool → List Int → Bool → List Int → List Int → Option (Nat × Bool × Bool × List Int × Bool × List Int × Bool × List Int × List Int) := Nat.rec (fun _ _ _ _ _ _ _ _ _ _ _ _ => none) (fun _ r => Lbig_Int_Mul_uoe_0s k r) n
def bbig_Int_Mul_uoe (k : Nat) (z : Bool) (x0 : Bool) (x1 : List Int) (x2 : Bool) (x3 : List Int) (y0 : Bool) (y1 : List Int) : Option (Bool × List Int × Bool × List Int × Bool × List Int × Bool × List Int) :=
  if (((0 : Int) ≤ (IntKind.wrap .i64 ((((List.length x1) : Nat) : Int) + (((List.length y1) : Nat) : Int)))) ∧ (((IntKind.wrap .i64 ((((List.length x1) : Nat) : Int) + (((List.length y1) : Nat) : Int))) ≤ (IntKind.wrap .i64 ((((List.length x1) : Nat) : Int) + (((List.length y1) : Nat) : Int)))) ∧ (((IntKind.wrap .i64 ((((List.length x1) : Nat) : Int) + (((List.length y1) : Nat) : Int))) * (4 : Int)) ≤ (140737488355328 : Int)))) then
    Option.bind (Lbig_Int_Mul_uoe_0 k k (Int.toNat (IntKind.wrap .i64 ((((List.length x1) : Nat) : Int) + (((List.length y1) : Nat) : Int)))) x1 (((List.length x1) : Nat) : Int) (0 : Int) z x0 x1 x2 x3 y0 y1 (List.replicate (Int.toNat (IntKind.wrap .i64 ((((List.length x1) : Nat) : Int) + (((List.length y1) : Nat) : Int)))) (0 : Int))) fun r14 =>
    if ((0 + r14.1) ≤ (List.length r14.2.2.2.2.2.2.2.2)) then
      Option.bind (Fbig_Int_set_cvg k (!(r14.2.2.1 == r14.2.2.2.2.2.2.1)) (List.take r14.1 r14.2.2.2.2.2.2.2.2) r14.2.1) fun r15 =>
      (some (r15.1, r15.2, r14.2.2.1, r14.2.2.2.1, r14.2.2.2.2.1, r14.2.2.2.2.2.1, r14.2.2.2.2.2.2.1, r14.2.2.2.2.2.2.2.1))
    else
    none
  else
  none
def Fbig_Int_Mul_uoe : Nat → Bool → Bool → List Int → Bool → List Int → Bool → List Int → Option (Bool × List Int × Bool × List Int × Bool × List Int × Bool × List Int)
  | 0, _, _, _, _, _, _, _ => none
  | k + 1, z, x0, x1, x2, x3, y0, y1 => bbig_Int_Mul_uoe k z x0 x1 x2 x3 y0 y1
def shbig_Int_Mul_uoe : FS := { vs := [.a (.ptr 0 0 0), .a (.ptr 1 0 0), .a (.ptr 2 0 0)], bs := [.raw [[.lf .bool, .snil 1 120]] 2 112 true false false, .raw [[.lf .bool, .lf (.sl (.int .u32)), .lf .bool, .lf (.sl (.int .u32))]] 4 114 true false false, .raw [[.lf .bool, .lf (.sl (.int .u32))]] 2 112 true false false] }
def rsbig_Int_Mul_uoe : List FS := [{ vs := [.a (.ptr 0 0 0)], bs := [.raw [[.lf .bool, .lf (.sl (.int .u32))]] 2 112 true false false, .raw [[.lf .bool, .lf (.sl (.int .u32)), .lf .bool, .lf (.sl (.int .u32))]] 4 114 true false false, .raw [[.lf .bool, .lf (.sl (.int .u32))]] 2 112 true false false] }]
def Ibig_Int_Mul_uoe (k : Nat) : Inst := ⟨79, shbig_Int_Mul_uoe, rsbig_Int_Mul_uoe, fun x => Fbig_Int_Mul_uoe k x.1 x.2.1 x.2.2.1 x.2.2.2.1 x.2.2.2.2.1 x.2.2.2.2.2.1 x.2.2.2.2.2.2⟩
theorem albig_Int_Mul_uoe (k : Nat) : AllI (call cf k) [Ibig_Int_set_cvg k] := And.intro (okbig_Int_set_cvg k) (True.intro)
def hsbig_Int_Mul_uoe_2 : List SS := [{ fr := [(0, .a (.ptr 0 0 0)), (1, .a (.ptr 1 0 0)), (2, .a (.ptr 2 0 0)), (7, .a (.smz 3)), (8, .a (.lf (.int .i64))), (9, .a (.lf (.int .u32))), (10, .a (.lf (.int .u64))), (29, .a (.lf (.sl (.int .u32)))), (30, .a (.lf (.int .i64))), (31, .a (.lf (.int .i64))), (39, .a (.lf (.sl (.int .u32)))), (40, .a (.lf (.int .i64))), (41, .a (.lf (.int .i64)))], mem := [(0, some (.raw [[.lf .bool, .snil 1 120]] 2 112 true false false)), (1, some (.raw [[.lf .bool, .lf (.sl (.int .u32)), .lf .bool, .lf (.sl (.int .u32))]] 4 114 true false false)), (2, some (.raw [[.lf .bool, .lf (.sl (.int .u32))]] 2 112 true false false)), (3, some (.arr (.int .u32) 1 120 false))], nx := 4 }]
def osbig_Int_Mul_uoe_2 : List OS := [⟨some 2, { fr := [(0, .a (.ptr 0 0 0)), (1, .a (.ptr 1 0 0)), (2, .a (.ptr 2 0 0)), (7, .a (.smz 3)), (8, .a (.lf (.int .i64))), (10, .a (.lf (.int .u64))), (29, .a (.lf (.sl (.int .u32)))), (30, .a (.lf (.int .i64))), (31, .a (.lf (.int .i64)))], mem := [(0, some (.raw [[.lf .bool, .snil 1 120]] 2 112 true false false)), (1, some (.raw [[.lf .bool, .lf (.sl (.int .u32)), .lf .bool, .lf (.sl (.int .u32))]] 4 114 true false false)), (2, some (.raw [[.lf .bool, .lf (.sl (.int .u32))]] 2 112 true false false)), (3, some (.arr (.int .u32) 1 120 false))], nx := 4 }⟩]
def LIbig_Int_Mul_uoe_2 (k : Nat) : LInst := ⟨2, hsbig_Int_Mul_uoe_2, osbig_Int_Mul_uoe_2, fun x => Lbig_Int_Mul_uoe_2 k k x.1 x.2.1 x.2.2.1 x.2.2.2.1 x.2.2.2.2.1 x.2.2.2.2.2.1 x.2.2.2.2.2.2.1 x.2.2.2.2.2.2.2.1 x.2.2.2.2.2.2.2.2.1 x.2.2.2.2.2.2.2.2.2.1 x.2.2.2.2.2.2.2.2.2.2.1 x.2.2.2.2.2.2.2.2.2.2.2.1 x.2.2.2.2.2.2.2.2.2.2.2.2.1 x.2.2.2.2.2.2.2.2.2.2.2.2.2.1 x.2.2.2.2.2.2.2.2.2.2.2.2.2.2.1 x.2.2.2.2.2.2.2.2.2.2.2.2.2.2.2.1 x.2.2.2.2.2.2.2.2.2.2.2.2.2.2.2.2.1 x.2.2.2.2.2.2.2.2.2.2.2.2.2.2.2.2.2⟩
theorem anbig_Int_Mul_uoe_2 (k : Nat) : LAll (LOk (R := DS OS.D osbig_Int_Mul_uoe_2) (fun b _ σ K => LOt Ty (kps 79) 3 b σ K []) cf (call cf k) (kps 79) Tryd.f79.ntmps k 3) 2 (lb Tryd.f79 1) :=
  And.intro (True.intro) (And.intro (And.intro (True.intro) (True.intro)) (And.intro (And.intro (True.intro) (And.intro (True.intro) (And.intro (True.intro) (True.intro)))) (True.intro)))
theorem stbig_Int_Mul_uoe_2 (k n : Nat) (x : DS SS.D hsbig_Int_Mul_uoe_2) : Lbig_Int_Mul_uoe_2 k (n + 1) x.1 x.2.1 x.2.2.1 x.2.2.2.1 x.2.2.2.2.1 x.2.2.2.2.2.1 x.2.2.2.2.2.2.1 x.2.2.2.2.2.2.2.1 x.2.2.2.2.2.2.2.2.1 x.2.2.2.2.2.2.2.2.2.1 x.2.2.2.2.2.2.2.2.2.2.1 x.2.2.2.2.2.2.2.2.2.2.2.1 x.2.2.2.2.2.2.2.2.2.2.2.2.1 x.2.2.2.2.2.2.2.2.2.2.2.2.2.1 x.2.2.2.2.2.2.2.2.2.2.2.2.2.2.1 x.2.2.2.2.2.2.2.2.2.2.2.2.2.2.2.1 x.2.2.2.2.2.2.2.2.2.2.2.2.2.2.2.2.1 x.2.2.2.2.2.2.2.2.2.2.2.2.2.2.2.2.2 = encSK SS.enc (fun σ => run2 cf (fun f a b K => COt f a b K [Ibig_Int_set_cvg k]) (fun b _ σ K => LOt Ty (kps 79) 3 b σ K []) Tryd.f79.ntmps 2 (lb Tryd.f79 1) σ (nextK Ty (kps 79 2) 3 hsbig_Int_Mul_uoe_2 osbig_Int_Mul_uoe_2 fun x => Lbig_Int_Mul_uoe_2 k n x.1 x.2.1 x.2.2.1 x.2.2.2.1 x.2.2.2.2.1 x.2.2.2.2.2.1 x.2.2.2.2.2.2.1 x.2.2.2.2.2.2.2.1 x.2.2.2.2.2.2.2.2.1 x.2.2.2.2.2.2.2.2.2.1 x.2.2.2.2.2.2.2.2.2.2.1 x.2.2.2.2.2.2.2.2.2.2.2.1 x.2.2.2.2.2.2.2.2.2.2.2.2.1 x.2.2.2.2.2.2.2.2.2.2.2.2.2.1 x.2.2.2.2.2.2.2.2.2.2.2.2.2.2.1 x.2.2.2.2.2.2.2.2.2.2.2.2.2.2.2.1 x.2.2.2.2.2.2.2.2.2.2.2.2.2.2.2.2.1 x.2.2.2.2.2.2.2.2.2.2.2.2.2.2.2.2.2)) hsbig_Int_Mul_uoe_2 x := by kernel_rfl
theorem lobig_Int_Mul_uoe_2 (k : Nat) : LIOk cf (call cf k) (kps 79) Tryd.f79.ntmps k 3 2 (lb Tryd.f79 1) (LIbig_Int_Mul_uoe_2 k) :=
  loop_ok (c := cf) (callF := call cf k) (kp := kps 79) (nt := Tryd.f79.ntmps) (k := k) (p := 3) (b := 2) (x0 := lb Tryd.f79 1) (hs := hsbig_Int_Mul_uoe_2) (os := osbig_Int_Mul_uoe_2) (COt_ok (albig_Int_Mul_uoe k)) (anbig_Int_Mul_uoe_2 k) (fun n x => Lbig_Int_Mul_uoe_2 k n x.1 x.2.1 x.2.2.1 x.2.2.2.1 x.2.2.2.2.1 x.2.2.2.2.2.1 x.2.2.2.2.2.2.1 x.2.2.2.2.2.2.2.1 x.2.2.2.2.2.2.2.2.1 x.2.2.2.2.2.2.2.2.2.1 x.2.2.2.2.2.2.2.2.2.2.1 x.2.2.2.2.2.2.2.2.2.2.2.1 x.2.2.2.2.2.2.2.2.2.2.2.2.1 x.2.2.2.2.2.2.2.2.2.2.2.2.2.1 x.2.2.2.2.2.2.2.2.2.2.2.2.2.2.1 x.2.2.2.2.2.2.2.2.2.2.2.2.2.2.2.1 x.2.2.2.2.2.2.2.2.2.2.2.2.2.2.2.2.1 x.2.2.2.2.2.2.2.2.2.2.2.2.2.2.2.2.2) (fun _ => rfl) (stbig_Int_Mul_uoe_2 k)
def hsbig_Int_Mul_uoe_0 : List SS := [{ fr := [(0, .a (.ptr 0 0 0)), (1, .a (.ptr 1 0 0)), (2, .a (.ptr 2 0 0)), (7, .a (.smz 3)), (29, .a (.lf (.sl (.int .u32)))), (30, .a (.lf (.int .i64))), (31, .a (.lf (.int .i64)))], mem := [(0, some (.raw [[.lf .bool, .snil 1 120]] 2 112 true false false)), (1, some (.raw [[.lf .bool, .lf (.sl (.int .u32)), .lf .bool, .lf (.sl (.int .u32))]] 4 114 true false false)), (2, some (.raw [[.lf .bool, .lf (.sl (.int .u32))]] 2 112 true false false)), (3, some (.arr (.int .u32) 1 120 false))], nx := 4 }]
def osbig_Int_Mul_uoe_0 : List OS := [⟨some 0, { fr := [(0, .a (.ptr 0 0 0)), (1, .a (.ptr 1 0 0)), (2, .a (.ptr 2 0 0)), (7, .a (.smz 3))], mem := [(0, some (.raw [[.lf .bool, .snil 1 120]] 2 112 true false false)), (1, some (.raw [[.lf .bool, .lf (.sl (.int .u32)), .lf .bool, .lf (.sl (.int .u32))]] 4 114 true false false)), (2, some (.raw [[.lf .bool, .lf (.sl (.int .u32))]] 2 112 true false false)), (3, some (.arr (.int .u32) 1 120 false))], nx := 4 }⟩]
def LIbig_Int_Mul_uoe_0 (k : Nat) : LInst := ⟨0, hsbig_Int_Mul_uoe_0, osbig_Int_Mul_uoe_0, fun x => Lbig_Int_Mul_uoe_0 k k x.1 x.2.1 x.2.2.1 x.2.2.2.1 x.2.2.2.2.1 x.2.2.2.2.2.1 x.2.2.2.2.2.2.1 x.2.2.2.2.2.2.2.1 x.2.2.2.2.2.2.2.2.1 x.2.2.2.2.2.2.2.2.2.1 x.2.2.2.2.2.2.2.2.2.2.1 x.2.2.2.2.2.2.2.2.2.2.2⟩
theorem anbig_Int_Mul_uoe_0 (k : Nat) : LAll (LOk (R := DS OS.D osbig_Int_Mul_uoe_0) (fun b _ σ K => LOt Ty (kps 79) 3 b σ K [LIbig_Int_Mul_uoe_2 k]) cf (call cf k) (kps 79) Tryd.f79.ntmps k 3) 0 (lb Tryd.f79 0) :=
  And.intro (True.intro) (And.intro (And.intro (True.intro) (True.intro)) (And.intro (And.intro (True.intro) (And.intro (True.intro) (And.intro (And.intro (True.intro) (LOt_ok (c := cf) (callF := call cf k) (kp := kps 79) (nt := Tryd.f79.ntmps) (k := k) (p := 3) (b := 2) (x0 := lb Tryd.f79 1) (l := [LIbig_Int_Mul_uoe_2 k]) (And.intro (fun _ => lobig_Int_Mul_uoe_2 k) (True.intro)))) (True.intro)))) (True.intro)))
theorem stbig_Int_Mul_uoe_0 (k n : Nat) (x : DS SS.D hsbig_Int_Mul_uoe_0) : Lbig_Int_Mul_uoe_0 k (n + 1) x.1 x.2.1 x.2.2.1 x.2.2.2.1 x.2.2.2.2.1 x.2.2.2.2.2.1 x.2.2.2.2.2.2.1 x.2.2.2.2.2.2.2.1 x.2.2.2.2.2.2.2.2.1 x.2.2.2.2.2.2.2.2.2.1 x.2.2.2.2.2.2.2.2.2.2.1 x.2.2.2.2.2.2.2.2.2.2.2 = encSK SS.enc (fun σ => run2 cf (fun f a b K => COt f a b K [Ibig_Int_set_cvg k]) (fun b _ σ K => LOt Ty (kps 79) 3 b σ K [LIbig_Int_Mul_uoe_2 k]) Tryd.f79.ntmps 0 (lb Tryd.f79 0) σ (nextK Ty (kps 79 0) 3 hsbig_Int_Mul_uoe_0 osbig_Int_Mul_uoe_0 fun x => Lbig_Int_Mul_uoe_0 k n x.1 x.2.1 x.2.2.1 x.2.2.2.1 x.2.2.2.2.1 x.2.2.2.2.2.1 x.2.2.2.2.2.2.1 x.2.2.2.2.2.2.2.1 x.2.2.2.2.2.2.2.2.1 x.2.2.2.2.2.2.2.2.2.1 x.2.2.2.2.2.2.2.2.2.2.1 x.2.2.2.2.2.2.2.2.2.2.2)) hsbig_Int_Mul_uoe_0 x := by kernel_rfl
theorem lobig_Int_Mul_uoe_0 (k : Nat) : LIOk cf (call cf k) (kps 79) Tryd.f79.ntmps k 3 0 (lb Tryd.f79 0) (LIbig_Int_Mul_uoe_0 k) :=
  loop_ok (c := cf) (callF := call cf k) (kp := kps 79) (nt := Tryd.f79.ntmps) (k := k) (p := 3) (b := 0) (x0 := lb Tryd.f79 0) (hs := hsbig_Int_Mul_uoe_0) (os := osbig_Int_Mul_uoe_0) (COt_ok (albig_Int_Mul_uoe k)) (anbig_Int_Mul_uoe_0 k) (fun n x => Lbig_Int_Mul_uoe_0 k n x.1 x.2.1 x.2.2.1 x.2.2.2.1 x.2.2.2.2.1 x.2.2.2.2.2.1 x.2.2.2.2.2.2.1 x.2.2.2.2.2.2.2.1 x.2.2.2.2.2.2.2.2.1 x.2.2.2.2.2.2.2.2.2.1 x.2.2.2.2.2.2.2.2.2.2.1 x.2.2.2.2.2.2.2.2.2.2.2) (fun _ => rfl) (stbig_Int_Mul_uoe_0 k)
theorem anbig_Int_Mul_uoe (k : Nat) : LAll (LOk (R := DS FS.D rsbig_Int_Mul_uoe) (fun b _ σ K => LOt Ty (kps 79) 3 b σ K [LIbig_Int_Mul_uoe_2 k, LIbig_Int_Mul_uoe_0 k]) cf (call cf k) (cf.keep 79) Tryd.f79.ntmps k shbig_Int_Mul_uoe.bs.length) 0 (bd Tryd.f79) :=
  And.intro (True.intro) (And.intro (True.intro) (And.intro (And.intro (True.intro) (LOt_ok (c := cf) (callF := call cf k) (kp := kps 79) (nt := Tryd.f79.ntmps) (k := k) (p := 3) (b := 0) (x0 := lb Tryd.f79 0) (l := [LIbig_Int_Mul_uoe_2 k, LIbig_Int_Mul_uoe_0 k]) (And.intro (fun h => absurd (show (2 : Nat) = 0 from h) (by decide)) (And.intro (fun _ => lobig_Int_Mul_uoe_0 k) (True.intro))))) (And.intro (True.intro) (True.intro))))
theorem stbig_Int_Mul_uoe (k : Nat) (x : shbig_Int_Mul_uoe.D) : Fbig_Int_Mul_uoe (k + 1) x.1 x.2.1 x.2.2.1 x.2.2.2.1 x.2.2.2.2.1 x.2.2.2.2.2.1 x.2.2.2.2.2.2 = body2 cf (fun f a b K => COt f a b K [Ibig_Int_set_cvg k]) (fun b _ σ K => LOt Ty (kps 79) 3 b σ K [LIbig_Int_Mul_uoe_2 k, LIbig_Int_Mul_uoe_0 k]) 79 Tryd.f79.ntmps Tryd.f79.results.toList (bd Tryd.f79) (shbig_Int_Mul_uoe.enc x).1 (shbig_Int_Mul_uoe.enc x).2 (putS FS.dec rsbig_Int_Mul_uoe) := by kernel_rfl
theorem okbig_Int_Mul_uoe : ∀ k, InstOk (call cf k) (Ibig_Int_Mul_uoe k)
  | 0 => fun x y e => absurd (show (none : Option _) = some y from e) (by simp)
  | k + 1 => inst_ok (c := cf) (k := k) (f := 79) (fn := Tryd.f79) (body := bd Tryd.f79) (sh := shbig_Int_Mul_uoe) (os := rsbig_Int_Mul_uoe) rfl Tryd.func79 rfl ⟨rfl, Nat.le_of_ble_eq_true rfl⟩ (COt_ok (albig_Int_Mul_uoe k)) (anbig_Int_Mul_uoe k) (fun x => Fbig_Int_Mul_uoe (k + 1) x.1 x.2.1 x.2.2.1 x.2.2.2.1 x.2.2.2.2.1 x.2.2.2.2.2.1 x.2.2.2.2.2.2) (stbig_Int_Mul_uoe k)

/-! (*shunt/big.Int).Cmp -/
def bbig_Int_Cmp_ddu (k : Nat) (z0 : Bool) (z1 : List Int) (y0 : Bool) (y1 : List Int) : Option (Int × Bool × List Int × Bool × List Int) :=
  if ((!(z0 == y0)) = true) then
    if (z0 = true) then
      (some ((-(1 : Int)), z0, z1, y0, y1))
    else
    (some ((1 : Int), z0, z1, y0, y1))
  else
  Option.bind (Fbig_cmp k z1 y1) fun r17 =>
  if (z0 = true) then
    (some ((IntKind.wrap .i64 ((0 : Int) - r17)), z0, z1, y0, y1))
  else
  (some (r17, z0, z1, y0, y1))
def Fbig_Int_Cmp_ddu : Nat → Bool → List Int → Bool → List Int → Option (Int × Bool × List Int × Bool × List Int)
  | 0, _, _, _, _ => none
  | k + 1, z0, z1, y0, y1 => bbig_Int_Cmp_ddu k z0 z1 y0 y1
def shbig_Int_Cmp_ddu : FS := { vs := [.a (.ptr 0 0 0), .a (.ptr 1 0 0)], bs := [.raw [[.lf .bool, .lf (.sl (.int .u32))]] 2 112 true false false, .raw [[.lf .bool, .lf (.sl (.int .u32))]] 2 112 true false false] }
def rsbig_Int_Cmp_ddu : List FS := [{ vs := [.a (.lf (.int .i64))], bs := [.raw [[.lf .bool, .lf (.sl (.int .u32))]] 2 112 true false false, .raw [[.lf .bool, .lf (.sl (.int .u32))]] 2 112 true false false] }]
def Ibig_Int_Cmp_ddu (k : Nat) : Inst := ⟨81, shbig_Int_Cmp_ddu, rsbig_Int_Cmp_ddu, fun x => Fbig_Int_Cmp_ddu k x.1 x.2.1 x.2.2.1 x.2.2.2⟩
theorem albig_Int_Cmp_ddu (k : Nat) : AllI (call cf k) [Ibig_cmp k] := And.intro (okbig_cmp k) (True.intro)
theorem anbig_Int_Cmp_ddu (k : Nat) : LAll (LOk (R := DS FS.D rsbig_Int_Cmp_ddu) (fun b _ σ K => LOt Ty (kps 81) 2 b σ K []) cf (call cf k) (cf.keep 81) Tryd.f81.ntmps k shbig_Int_Cmp_ddu.bs.length) 0 (bd Tryd.f81) :=
  And.intro (True.intro) (And.intro (And.intro (True.intro) (And.intro (And.intro (And.intro (True.intro) (And.intro (And.intro (True.intro) (True.intro)) (True.intro))) (And.intro (True.intro) (True.intro))) (True.intro))) (And.intro (True.intro) (And.intro (And.intro (True.intro) (And.intro (And.intro (True.intro) (True.intro)) (True.intro))) (And.intro (True.intro) (True.intro)))))
theorem stbig_Int_Cmp_ddu (k : Nat) (x : shbig_Int_Cmp_ddu.D) : Fbig_Int_Cmp_ddu (k + 1) x.1 x.2.1 x.2.2.1 x.2.2.2 = body2 cf (fun f a b K => COt f a b K [Ibig_cmp k]) (fun b _ σ K => LOt Ty (kps 81) 2 b σ K []) 81 Tryd.f81.ntmps Tryd.f81.results.toList (bd Tryd.f81) (shbig_Int_Cmp_ddu.enc x).1 (shbig_Int_Cmp_ddu.enc x).2 (putS FS.dec rsbig_Int_Cmp_ddu) := by kernel_rfl
theorem okbig_Int_Cmp_ddu : ∀ k, InstOk (call cf k) (Ibig_Int_Cmp_ddu k)
  | 0 => fun x y e => absurd (show (none : Option _) = some y from e) (by simp)
  | k + 1 => inst_ok (c := cf) (k := k) (f := 81) (fn := Tryd.f81) (body := bd Tryd.f81) (sh := shbig_Int_Cmp_ddu) (os := rsbig_Int_Cmp_ddu) rfl Tryd.func81 rfl ⟨rfl, Nat.le_of_ble_eq_true rfl⟩ (COt_ok (albig_Int_Cmp_ddu k)) (anbig_Int_Cmp_ddu k) (fun x => Fbig_Int_Cmp_ddu (k + 1) x.1 x.2.1 x.2.2.1 x.2.2.2) (stbig_Int_Cmp_ddu k)

/-! (*shunt/big.Rat).Cmp -/
def bbig_Rat_Cmp_jyb (k : Nat) (z0 : Bool) (z1 : List Int) (z2 : Bool) (z3 : List Int) (y0 : Bool) (y1 : List Int) (y2 : Bool) (y3 : List Int) : Option (Int × Bool × List Int × Bool × List Int × Bool × List Int × Bool × List Int) :=
  Option.bind (Fbig_Rat_Denom_plq k y0 y1 y2 y3) fun r13 =>
  Option.bind (Fbig_Int_Mul_uoe k false z0 z1 z2 z3 r13.2.2.2.2.1 r13.2.2.2.2.2) fun r14 =>
  Option.bind (Fbig_Rat_Denom_plq k r14.2.2.1 r14.2.2.2.1 r14.2.2.2.2.1 r14.2.2.2.2.2.1) fun r15 =>
  Option.bind (Fbig_Int_Mul_uoe k false r13.1 r13.2.1 r13.2.2.1 r13.2.2.2.1 r15.2.2.2.2.1 r15.2.2.2.2.2) fun r16 =>
  Option.bind (Fbig_Int_Cmp_ddu k r14.1 r14.2.1 r16.1 r16.2.1) fun r17 =>
  (some (r17.1, r15.1, r15.2.1, r15.2.2.1, r15.2.2.2.1, r16.2.2.1, r16.2.2.2.1, r16.2.2.2.2.1, r16.2.2.2.2.2.1))
def Fbig_Rat_Cmp_jyb : Nat → Bool → List Int → Bool → List Int → Bool → List Int → Bool → List Int → Option (Int × Bool × List Int × Bool × List Int × Bool × List Int × Bool × List Int)
  | 0, _, _, _, _, _, _, _, _ => none
  | k + 1, z0, z1, z2, z3, y0, y1, y2, y3 => bbig_Rat_Cmp_jyb k z0 z1 z2 z3 y0 y1 y2 y3
def shbig_Rat_Cmp_jyb : FS := { vs := [.a (.ptr 0 0 0), .a (.ptr 1 0 0)], bs := [.raw [[.lf .bool, .lf (.sl (.int .u32)), .lf .bool, .lf (.sl (.int .u32))]] 4 114 true false false, .raw [[.lf .bool, .lf (.sl (.int .u32)), .lf .bool, .lf (.sl (.int .u32))]] 4 114 true false false] }
def rsbig_Rat_Cmp_jyb : List FS := [{ vs := [.a (.lf (.int .i64))], bs := [.raw [[.lf .bool, .lf (.sl (.int .u32)), .lf .bool, .lf (.sl (.int .u32))]] 4 114 true false false, .raw [[.lf .bool, .lf (.sl (.int .u32)), .lf .bool, .lf (.sl (.int .u32))]] 4 114 true false false] }]
def Ibig_Rat_Cmp_jyb (k : Nat) : Inst := ⟨71, shbig_Rat_Cmp_jyb, rsbig_Rat_Cmp_jyb, fun x => Fbig_Rat_Cmp_jyb k x.1 x.2.1 x.2.2.1 x.2.2.2.1 x.2.2.2.2.1 x.2.2.2.2.2.1 x.2.2.2.2.2.2.1 x.2.2.2.2.2.2.2⟩
theorem albig_Rat_Cmp_jyb (k : Nat) : AllI (call cf k) [Ibig_Rat_Denom_plq k, Ibig_Int_Mul_uoe k, Ibig_Int_Cmp_ddu k] := And.intro (okbig_Rat_Denom_plq k) (And.intro (okbig_Int_Mul_uoe k) (And.intro (okbig_Int_Cmp_ddu k) (True.intro)))
theorem anbig_Rat_Cmp_jyb (k : Nat) : LAll (LOk (R := DS FS.D rsbig_Rat_Cmp_jyb) (fun b _ σ K => LOt Ty (kps 71) 2 b σ K []) cf (call cf k) (cf.keep 71) Tryd.f71.ntmps k shbig_Rat_Cmp_jyb.bs.length) 0 (bd Tryd.f71) :=
  And.intro (True.intro) (And.intro (True.intro) (And.intro (True.intro) (And.intro (True.intro) (And.intro (True.intro) (True.intro)))))
theorem stbig_Rat_Cmp_jyb (k : Nat) (x : shbig_Rat_Cmp_jyb.D) : Fbig_Rat_Cmp_jyb (k + 1) x.1 x.2.1 x.2.2.1 x.2.2.2.1 x.2.2.2.2.1 x.2.2.2.2.2.1 x.2.2.2.2.2.2.1 x.2.2.2.2.2.2.2 = body2 cf (fun f a b K => COt f a b K [Ibig_Rat_Denom_plq k, Ibig_Int_Mul_uoe k, Ibig_Int_Cmp_ddu k]) (fun b _ σ K => LOt Ty (kps 71) 2 b σ K []) 71 Tryd.f71.ntmps Tryd.f71.results.toList (bd Tryd.f71) (shbig_Rat_Cmp_jyb.enc x).1 (shbig_Rat_Cmp_jyb.enc x).2 (putS FS.dec rsbig_Rat_Cmp_jyb) := by kernel_rfl
theorem okbig_Rat_Cmp_jyb : ∀ k, InstOk (call cf k) (Ibig_Rat_Cmp_jyb k)
  | 0 => fun x y e => absurd (show (none : Option _) = some y from e) (by simp)
  | k + 1 => inst_ok (c := cf) (k := k) (f := 71) (fn := Tryd.f71) (body := bd Tryd.f71) (sh := shbig_Rat_Cmp_jyb) (os := rsbig_Rat_Cmp_jyb) rfl Tryd.func71 rfl ⟨rfl, Nat.le_of_ble_eq_true rfl⟩ (COt_ok (albig_Rat_Cmp_jyb k)) (anbig_Rat_Cmp_jyb k) (fun x => Fbig_Rat_Cmp_jyb (k + 1) x.1 x.2.1 x.2.2.1 x.2.2.2.1 x.2.2.2.2.1 x.2.2.2.2.2.1 x.2.2.2.2.2.2.1 x.2.2.2.2.2.2.2) (stbig_Rat_Cmp_jyb k)

/-! shunt/num.Cmp -/
def bnum_Cmp (k : Nat) (a0 : Int) (a1 : Int) (b0 : Int) (b1 : Int) : Option (Int × Int) :=
  Option.bind (Fnum_Valid k a0 a1) fun r9 =>
  if ((!r9) = false) then
    Option.bind (Fnum_Valid k b0 b1) fun r10 =>
    if ((!r10) = true) then
      (some ((0 : Int), (30 : Int)))
    else
    Option.bind (Fnum_frac k a0 a1) fun r11 =>
    Option.bind (Fnum_frac k b0 b1) fun r12 =>
    Option.bind (Fbig_Rat_Cmp_jyb k r11.1 r11.2.1 r11.2.2.1 r11.2.2.2 r12.1 r12.2.1 r12.2.2.1 r12.2.2.2) fun r13 =>
    (some (r13.1, (0 : Int)))
  else
  (some ((0 : Int), (30 : Int)))
def Fnum_Cmp : Nat → Int → Int → Int → Int → Option (Int × Int)
  | 0, _, _, _, _ => none
  | k + 1, a0, a1, b0, b1 => bnum_Cmp k a0 a1 b0 b1
def shnum_Cmp : FS := { vs := [.g [.lf (.int .i64), .lf (.int .i64)], .g [.lf (.int .i64), .lf (.int .i64)]], bs := [] }
def rsnum_Cmp : List FS := [{ vs := [.a (.lf (.int .i64)), .a (.lf (.int .i64))], bs := [] }]
def Inum_Cmp (k : Nat) : Inst := ⟨66, shnum_Cmp, rsnum_Cmp, fun x => Fnum_Cmp k x.1 x.2.1 x.2.2.1 x.2.2.2⟩
theorem alnum_Cmp (k : Nat) : AllI (call cf k) [Inum_Valid k, Inum_frac k, Ibig_Rat_Cmp_jyb k] := And.intro (oknum_Valid k) (And.intro (oknum_frac k) (And.intro (okbig_Rat_Cmp_jyb k) (True.intro)))
theorem annum_Cmp (k : Nat) : LAll (LOk (R := DS FS.D rsnum_Cmp) (fun b _ σ K => LOt Ty (kps 66) 0 b σ K []) cf (call cf k) (cf.keep 66) Tryd.f66.ntmps k shnum_Cmp.bs.length) 0 (bd Tryd.f66) :=
  And.intro (True.intro) (And.intro (And.intro (True.intro) (And.intro (And.intro (True.intro) (True.intro)) (True.intro))) (And.intro (True.intro) (True.intro)))
theorem stnum_Cmp (k : Nat) (x : shnum_Cmp.D) : Fnum_Cmp (k + 1) x.1 x.2.1 x.2.2.1 x.2.2.2 = body2 cf (fun f a b K => COt f a b K [Inum_Valid k, Inum_frac k, Ibig_Rat_Cmp_jyb k]) (fun b _ σ K => LOt Ty (kps 66) 0 b σ K []) 66 Tryd.f66.ntmps Tryd.f66.results.toList (bd Tryd.f66) (shnum_Cmp.enc x).1 (shnum_Cmp.enc x).2 (putS FS.dec rsnum_Cmp) := by kernel_rfl
theorem oknum_Cmp : ∀ k, InstOk (call cf k) (Inum_Cmp k)
  | 0 => fun x y e => absurd (show (none : Option _) = some y from e) (by simp)
  | k + 1 => inst_ok (c := cf) (k := k) (f := 66) (fn := Tryd.f66) (body := bd Tryd.f66) (sh := shnum_Cmp) (os := rsnum_Cmp) rfl Tryd.func66 rfl ⟨rfl, Nat.le_of_ble_eq_true rfl⟩ (COt_ok (alnum_Cmp k)) (annum_Cmp k) (fun x => Fnum_Cmp (k + 1) x.1 x.2.1 x.2.2.1 x.2.2.2) (stnum_Cmp k)


end
end Go.Proofs.YtlnailgfialgnaaDoor.Am
