/- Printed functions: each says what the typed machine says of the program -/
import Derived.Test.YtjgpegpjmkgkkaaGreatMA3
import Derived.KernelRfl

set_option linter.unusedVariables false
set_option maxRecDepth 100000
namespace Go.Proofs.YtjgpegpjmkgkkaaGreat.Am
open Go
noncomputable section

/-! shunt/big.trim -/
def Lbig_trim_0s (k : Nat) (rec : List Int → Int → Option (List Int × Int)) (w : List Int) (n : Int) : Option (List Int × Int) :=
  if ((decide (n > (0 : Int))) = true) then
    if ((0 : Int) ≤ (IntKind.wrap .i64 (n - (1 : Int)))) then
      Option.bind (w)[(Int.toNat (IntKind.wrap .i64 (n - (1 : Int))))]? fun x =>
      if ((x == (0 : Int)) = true) then
        rec w (IntKind.wrap .i64 (n - (1 : Int)))
      else
      (some (w, n))
    else
    none
  else
  (some (w, n))
def Lbig_trim_0 (k n : Nat) : List Int → Int → Option (List Int × Int) := Nat.rec (fun _ _ => none) (fun _ r => Lbig_trim_0s k r) n
def bbig_trim (k : Nat) (w : List Int) : Option (List Int) :=
  Option.bind (Lbig_trim_0 k k w (((List.length w) : Nat) : Int)) fun r =>
  if (((0 : Int) ≤ (0 : Int)) ∧ (((0 : Int) ≤ r.2) ∧ (r.2 ≤ (((List.length r.1) : Nat) : Int)))) then
    (some (List.take (Int.toNat r.2) r.1))
  else
  none
def Fbig_trim : Nat → List Int → Option (List Int)
  | 0, _ => none
  | k + 1, w => bbig_trim k w
def shbig_trim : FS := { vs := [.a (.lf (.sl (.int .u32)))], bs := [] }
def rsbig_trim : List FS := [{ vs := [.a (.lf (.sl (.int .u32)))], bs := [] }]
def Ibig_trim (k : Nat) : Inst := ⟨93, shbig_trim, rsbig_trim, fun x => Fbig_trim k x⟩
theorem albig_trim (k : Nat) : AllI (call cf k) [] := True.intro
def hsbig_trim_0 : List SS := [{ fr := [(0, .a (.lf (.sl (.int .u32)))), (3, .a (.lf (.int .i64)))], mem := [], nx := 0 }]
def osbig_trim_0 : List OS := [⟨some 0, { fr := [(0, .a (.lf (.sl (.int .u32)))), (3, .a (.lf (.int .i64)))], mem := [], nx := 0 }⟩]
def LIbig_trim_0 (k : Nat) : LInst := ⟨0, hsbig_trim_0, osbig_trim_0, fun x => Lbig_trim_0 k k x.1 x.2⟩
theorem anbig_trim_0 (k : Nat) : LAll (LOk (R := DS OS.D osbig_trim_0) (fun b _ σ K => LOt Ty (kps 93) 0 b σ K []) cf (call cf k) (kps 93) Tryz.f93.ntmps k 0) 0 (lb Tryz.f93 0) :=
  And.intro (And.intro (True.intro) (And.intro (True.intro) (True.intro))) (True.intro)
theorem stbig_trim_0 (k n : Nat) (x : DS SS.D hsbig_trim_0) : Lbig_trim_0 k (n + 1) x.1 x.2 = encSK SS.enc (fun σ => run2 cf (fun f a b K => COt f a b K []) (fun b _ σ K => LOt Ty (kps 93) 0 b σ K []) Tryz.f93.ntmps 0 (lb Tryz.f93 0) σ (nextK Ty (kps 93 0) 0 hsbig_trim_0 osbig_trim_0 fun x => Lbig_trim_0 k n x.1 x.2)) hsbig_trim_0 x := by kernel_rfl
theorem lobig_trim_0 (k : Nat) : LIOk cf (call cf k) (kps 93) Tryz.f93.ntmps k 0 0 (lb Tryz.f93 0) (LIbig_trim_0 k) :=
  loop_ok (c := cf) (callF := call cf k) (kp := kps 93) (nt := Tryz.f93.ntmps) (k := k) (p := 0) (b := 0) (x0 := lb Tryz.f93 0) (hs := hsbig_trim_0) (os := osbig_trim_0) (COt_ok (albig_trim k)) (anbig_trim_0 k) (fun n x => Lbig_trim_0 k n x.1 x.2) (fun _ => rfl) (stbig_trim_0 k)
theorem anbig_trim (k : Nat) : LAll (LOk (R := DS FS.D rsbig_trim) (fun b _ σ K => LOt Ty (kps 93) 0 b σ K [LIbig_trim_0 k]) cf (call cf k) (cf.keep 93) Tryz.f93.ntmps k shbig_trim.bs.length) 0 (bd Tryz.f93) :=
  And.intro (True.intro) (And.intro (True.intro) (And.intro (LOt_ok (c := cf) (callF := call cf k) (kp := kps 93) (nt := Tryz.f93.ntmps) (k := k) (p := 0) (b := 0) (x0 := lb Tryz.f93 0) (l := [LIbig_trim_0 k]) (And.intro (fun _ => lobig_trim_0 k) (True.intro))) (And.intro (True.intro) (True.intro))))
theorem stbig_trim (k : Nat) (x : shbig_trim.D) : Fbig_trim (k + 1) x = body2 cf (fun f a b K => COt f a b K []) (fun b _ σ K => LOt Ty (kps 93) 0 b σ K [LIbig_trim_0 k]) 93 Tryz.f93.ntmps Tryz.f93.results.toList (bd Tryz.f93) (shbig_trim.enc x).1 (shbig_trim.enc x).2 (putS FS.dec rsbig_trim) := by kernel_rfl
theorem okbig_trim : ∀ k, InstOk (call cf k) (Ibig_trim k)
  | 0 => fun x y e => absurd (show (none : Option _) = some y from e) (by simp)
  | k + 1 => inst_ok (c := cf) (k := k) (f := 93) (fn := Tryz.f93) (body := bd Tryz.f93) (sh := shbig_trim) (os := rsbig_trim) rfl Tryz.func93 rfl ⟨rfl, Nat.le_of_ble_eq_true rfl⟩ (COt_ok (albig_trim k)) (anbig_trim k) (fun x => Fbig_trim (k + 1) x) (stbig_trim k)

/-! shunt/big.NewInt -/
def bbig_NewInt (k : Nat) (v : Int) : Option (Bool × List Int) :=
  if ((decide (v < (0 : Int))) = true) then
    Option.bind (Fbig_trim k (List.take 2 ((IntKind.wrap .u32 (IntKind.wrap .u64 ((0 : Int) - (IntKind.wrap .u64 v)))) :: ((IntKind.wrap .u32 (Int.fdiv (IntKind.wrap .u64 ((0 : Int) - (IntKind.wrap .u64 v))) (4294967296 : Int))) :: [])))) fun r =>
    (some ((decide (v < (0 : Int))), r))
  else
  Option.bind (Fbig_trim k (List.take 2 ((IntKind.wrap .u32 (IntKind.wrap .u64 v)) :: ((IntKind.wrap .u32 (Int.fdiv (IntKind.wrap .u64 v) (4294967296 : Int))) :: [])))) fun r =>
  (some ((decide (v < (0 : Int))), r))
def Fbig_NewInt : Nat → Int → Option (Bool × List Int)
  | 0, _ => none
  | k + 1, v => bbig_NewInt k v
def shbig_NewInt : FS := { vs := [.a (.lf (.int .i64))], bs := [] }
def rsbig_NewInt : List FS := [{ vs := [.a (.ptr 0 0 0)], bs := [.raw [[.lf .bool, .lf (.sl (.int .u32))]] 2 77 true false] }]
def Ibig_NewInt (k : Nat) : Inst := ⟨65, shbig_NewInt, rsbig_NewInt, fun x => Fbig_NewInt k x⟩
theorem albig_NewInt (k : Nat) : AllI (call cf k) [Ibig_trim k] := And.intro (okbig_trim k) (True.intro)
theorem anbig_NewInt (k : Nat) : LAll (LOk (R := DS FS.D rsbig_NewInt) (fun b _ σ K => LOt Ty (kps 65) 0 b σ K []) cf (call cf k) (cf.keep 65) Tryz.f65.ntmps k shbig_NewInt.bs.length) 0 (bd Tryz.f65) :=
  And.intro (True.intro) (And.intro (True.intro) (And.intro (And.intro (True.intro) (And.intro (True.intro) (True.intro))) (And.intro (True.intro) (True.intro))))
theorem stbig_NewInt (k : Nat) (x : shbig_NewInt.D) : Fbig_NewInt (k + 1) x = body2 cf (fun f a b K => COt f a b K [Ibig_trim k]) (fun b _ σ K => LOt Ty (kps 65) 0 b σ K []) 65 Tryz.f65.ntmps Tryz.f65.results.toList (bd Tryz.f65) (shbig_NewInt.enc x).1 (shbig_NewInt.enc x).2 (putS FS.dec rsbig_NewInt) := by kernel_rfl
theorem okbig_NewInt : ∀ k, InstOk (call cf k) (Ibig_NewInt k)
  | 0 => fun x y e => absurd (show (none : Option _) = some y from e) (by simp)
  | k + 1 => inst_ok (c := cf) (k := k) (f := 65) (fn := Tryz.f65) (body := bd Tryz.f65) (sh := shbig_NewInt) (os := rsbig_NewInt) rfl Tryz.func65 rfl ⟨rfl, Nat.le_of_ble_eq_true rfl⟩ (COt_ok (albig_NewInt k)) (anbig_NewInt k) (fun x => Fbig_NewInt (k + 1) x) (stbig_NewInt k)

/-! (*shunt/big.Int).Sign -/
def bbig_Int_Sign_awf (k : Nat) (z0 : Bool) (z1 : List Int) : Option (Int × Bool × List Int) :=
  if (((((List.length z1) : Nat) : Int) == (0 : Int)) = true) then
    (some ((0 : Int), z0, z1))
  else
  if (z0 = true) then
    (some ((-(1 : Int)), z0, z1))
  else
  (some ((1 : Int), z0, z1))
def Fbig_Int_Sign_awf : Nat → Bool → List Int → Option (Int × Bool × List Int)
  | 0, _, _ => none
  | k + 1, z0, z1 => bbig_Int_Sign_awf k z0 z1
def shbig_Int_Sign_awf : FS := { vs := [.a (.ptr 0 0 0)], bs := [.raw [[.lf .bool, .lf (.sl (.int .u32))]] 2 77 true false] }
def rsbig_Int_Sign_awf : List FS := [{ vs := [.a (.lf (.int .i64))], bs := [.raw [[.lf .bool, .lf (.sl (.int .u32))]] 2 77 true false] }]
def Ibig_Int_Sign_awf (k : Nat) : Inst := ⟨70, shbig_Int_Sign_awf, rsbig_Int_Sign_awf, fun x => Fbig_Int_Sign_awf k x.1 x.2⟩
theorem albig_Int_Sign_awf (k : Nat) : AllI (call cf k) [] := True.intro
theorem anbig_Int_Sign_awf (k : Nat) : LAll (LOk (R := DS FS.D rsbig_Int_Sign_awf) (fun b _ σ K => LOt Ty (kps 70) 1 b σ K []) cf (call cf k) (cf.keep 70) Tryz.f70.ntmps k shbig_Int_Sign_awf.bs.length) 0 (bd Tryz.f70) :=
  And.intro (True.intro) (And.intro (And.intro (True.intro) (And.intro (And.intro (True.intro) (True.intro)) (And.intro (True.intro) (And.intro (And.intro (True.intro) (True.intro)) (True.intro))))) (And.intro (True.intro) (True.intro)))
theorem stbig_Int_Sign_awf (k : Nat) (x : shbig_Int_Sign_awf.D) : Fbig_Int_Sign_awf (k + 1) x.1 x.2 = body2 cf (fun f a b K => COt f a b K []) (fun b _ σ K => LOt Ty (kps 70) 1 b σ K []) 70 Tryz.f70.ntmps Tryz.f70.results.toList (bd Tryz.f70) (shbig_Int_Sign_awf.enc x).1 (shbig_Int_Sign_awf.enc x).2 (putS FS.dec rsbig_Int_Sign_awf) := by kernel_rfl
theorem okbig_Int_Sign_awf : ∀ k, InstOk (call cf k) (Ibig_Int_Sign_awf k)
  | 0 => fun x y e => absurd (show (none : Option _) = some y from e) (by simp)
  | k + 1 => inst_ok (c := cf) (k := k) (f := 70) (fn := Tryz.f70) (body := bd Tryz.f70) (sh := shbig_Int_Sign_awf) (os := rsbig_Int_Sign_awf) rfl Tryz.func70 rfl ⟨rfl, Nat.le_of_ble_eq_true rfl⟩ (COt_ok (albig_Int_Sign_awf k)) (anbig_Int_Sign_awf k) (fun x => Fbig_Int_Sign_awf (k + 1) x.1 x.2) (stbig_Int_Sign_awf k)

/-! (*shunt/big.Int).Words -/
def bbig_Int_Words_awf (k : Nat) (z0 : Bool) (z1 : List Int) : Option (Nat × Bool × List Int × List Int) :=
  if (((0 + (List.length z1)) * 4) ≤ 140737488355328) then
    (some ((0 + (List.length z1)), z0, z1, ((List.take 0 []) ++ z1)))
  else
  none
def Fbig_Int_Words_awf : Nat → Bool → List Int → Option (Nat × Bool × List Int × List Int)
  | 0, _, _ => none
  | k + 1, z0, z1 => bbig_Int_Words_awf k z0 z1
def shbig_Int_Words_awf : FS := { vs := [.a (.ptr 0 0 0)], bs := [.raw [[.lf .bool, .lf (.sl (.int .u32))]] 2 77 true false] }
def rsbig_Int_Words_awf : List FS := [{ vs := [.a (.smz 1)], bs := [.raw [[.lf .bool, .lf (.sl (.int .u32))]] 2 77 true false, .arr (.int .u32) 1 40 false] }]
def Ibig_Int_Words_awf (k : Nat) : Inst := ⟨92, shbig_Int_Words_awf, rsbig_Int_Words_awf, fun x => Fbig_Int_Words_awf k x.1 x.2⟩
theorem albig_Int_Words_awf (k : Nat) : AllI (call cf k) [] := True.intro
theorem anbig_Int_Words_awf (k : Nat) : LAll (LOk (R := DS FS.D rsbig_Int_Words_awf) (fun b _ σ K => LOt Ty (kps 92) 1 b σ K []) cf (call cf k) (cf.keep 92) Tryz.f92.ntmps k shbig_Int_Words_awf.bs.length) 0 (bd Tryz.f92) :=
  And.intro (True.intro) (And.intro (True.intro) (True.intro))
theorem stbig_Int_Words_awf (k : Nat) (x : shbig_Int_Words_awf.D) : Fbig_Int_Words_awf (k + 1) x.1 x.2 = body2 cf (fun f a b K => COt f a b K []) (fun b _ σ K => LOt Ty (kps 92) 1 b σ K []) 92 Tryz.f92.ntmps Tryz.f92.results.toList (bd Tryz.f92) (shbig_Int_Words_awf.enc x).1 (shbig_Int_Words_awf.enc x).2 (putS FS.dec rsbig_Int_Words_awf) := by kernel_rfl
theorem okbig_Int_Words_awf : ∀ k, InstOk (call cf k) (Ibig_Int_Words_awf k)
  | 0 => fun x y e => absurd (show (none : Option _) = some y from e) (by simp)
  | k + 1 => inst_ok (c := cf) (k := k) (f := 92) (fn := Tryz.f92) (body := bd Tryz.f92) (sh := shbig_Int_Words_awf) (os := rsbig_Int_Words_awf) rfl Tryz.func92 rfl ⟨rfl, Nat.le_of_ble_eq_true rfl⟩ (COt_ok (albig_Int_Words_awf k)) (anbig_Int_Words_awf k) (fun x => Fbig_Int_Words_awf (k + 1) x.1 x.2) (stbig_Int_Words_awf k)

/-! shunt/wide.Give -/
def bwide_Give_awf (k : Nat) (z0 : Bool) (z1 : List Int) : Option (Bool × Nat × Bool × List Int × List Int) :=
  Option.bind (Fbig_Int_Sign_awf k z0 z1) fun r1 =>
  Option.bind (Fbig_Int_Words_awf k r1.2.1 r1.2.2) fun r2 =>
  (some ((decide (r1.1 < (0 : Int))), r2.1, r2.2.1, r2.2.2.1, r2.2.2.2))
def Fwide_Give_awf : Nat → Bool → List Int → Option (Bool × Nat × Bool × List Int × List Int)
  | 0, _, _ => none
  | k + 1, z0, z1 => bwide_Give_awf k z0 z1
def shwide_Give_awf : FS := { vs := [.a (.ptr 0 0 0)], bs := [.raw [[.lf .bool, .lf (.sl (.int .u32))]] 2 77 true false] }
def rswide_Give_awf : List FS := [{ vs := [.g [.lf .bool, .smz 1]], bs := [.raw [[.lf .bool, .lf (.sl (.int .u32))]] 2 77 true false, .arr (.int .u32) 1 40 false] }]
def Iwide_Give_awf (k : Nat) : Inst := ⟨64, shwide_Give_awf, rswide_Give_awf, fun x => Fwide_Give_awf k x.1 x.2⟩
theorem alwide_Give_awf (k : Nat) : AllI (call cf k) [Ibig_Int_Sign_awf k, Ibig_Int_Words_awf k] := And.intro (okbig_Int_Sign_awf k) (And.intro (okbig_Int_Words_awf k) (True.intro))
theorem anwide_Give_awf (k : Nat) : LAll (LOk (R := DS FS.D rswide_Give_awf) (fun b _ σ K => LOt Ty (kps 64) 1 b σ K []) cf (call cf k) (cf.keep 64) Tryz.f64.ntmps k shwide_Give_awf.bs.length) 0 (bd Tryz.f64) :=
  And.intro (True.intro) (And.intro (True.intro) (True.intro))
theorem stwide_Give_awf (k : Nat) (x : shwide_Give_awf.D) : Fwide_Give_awf (k + 1) x.1 x.2 = body2 cf (fun f a b K => COt f a b K [Ibig_Int_Sign_awf k, Ibig_Int_Words_awf k]) (fun b _ σ K => LOt Ty (kps 64) 1 b σ K []) 64 Tryz.f64.ntmps Tryz.f64.results.toList (bd Tryz.f64) (shwide_Give_awf.enc x).1 (shwide_Give_awf.enc x).2 (putS FS.dec rswide_Give_awf) := by kernel_rfl
theorem okwide_Give_awf : ∀ k, InstOk (call cf k) (Iwide_Give_awf k)
  | 0 => fun x y e => absurd (show (none : Option _) = some y from e) (by simp)
  | k + 1 => inst_ok (c := cf) (k := k) (f := 64) (fn := Tryz.f64) (body := bd Tryz.f64) (sh := shwide_Give_awf) (os := rswide_Give_awf) rfl Tryz.func64 rfl ⟨rfl, Nat.le_of_ble_eq_true rfl⟩ (COt_ok (alwide_Give_awf k)) (anwide_Give_awf k) (fun x => Fwide_Give_awf (k + 1) x.1 x.2) (stwide_Give_awf k)

/-! shunt/limb.Of -/
def blimb_Of (k : Nat) (v : Int) : Option (Bool × List Int) :=
  Option.bind (Fbig_NewInt k v) fun r =>
  Option.bind (Fwide_Give_awf k r.1 r.2) fun r1 =>
  if ((0 + r1.2.1) ≤ (List.length r1.2.2.2.2)) then
    (some (r1.1, (List.take r1.2.1 r1.2.2.2.2)))
  else
  none
def Flimb_Of : Nat → Int → Option (Bool × List Int)
  | 0, _ => none
  | k + 1, v => blimb_Of k v
def shlimb_Of : FS := { vs := [.a (.lf (.int .i64))], bs := [] }
def rslimb_Of : List FS := [{ vs := [.g [.lf .bool, .lf (.sl (.int .u32))]], bs := [] }]
def Ilimb_Of (k : Nat) : Inst := ⟨39, shlimb_Of, rslimb_Of, fun x => Flimb_Of k x⟩
theorem allimb_Of (k : Nat) : AllI (call cf k) [Ibig_NewInt k, Iwide_Give_awf k] := And.intro (okbig_NewInt k) (And.intro (okwide_Give_awf k) (True.intro))
theorem anlimb_Of (k : Nat) : LAll (LOk (R := DS FS.D rslimb_Of) (fun b _ σ K => LOt Ty (kps 39) 0 b σ K []) cf (call cf k) (cf.keep 39) Tryz.f39.ntmps k shlimb_Of.bs.length) 0 (bd Tryz.f39) :=
  And.intro (True.intro) (And.intro (True.intro) (True.intro))
theorem stlimb_Of (k : Nat) (x : shlimb_Of.D) : Flimb_Of (k + 1) x = body2 cf (fun f a b K => COt f a b K [Ibig_NewInt k, Iwide_Give_awf k]) (fun b _ σ K => LOt Ty (kps 39) 0 b σ K []) 39 Tryz.f39.ntmps Tryz.f39.results.toList (bd Tryz.f39) (shlimb_Of.enc x).1 (shlimb_Of.enc x).2 (putS FS.dec rslimb_Of) := by kernel_rfl
theorem oklimb_Of : ∀ k, InstOk (call cf k) (Ilimb_Of k)
  | 0 => fun x y e => absurd (show (none : Option _) = some y from e) (by simp)
  | k + 1 => inst_ok (c := cf) (k := k) (f := 39) (fn := Tryz.f39) (body := bd Tryz.f39) (sh := shlimb_Of) (os := rslimb_Of) rfl Tryz.func39 rfl ⟨rfl, Nat.le_of_ble_eq_true rfl⟩ (COt_ok (allimb_Of k)) (anlimb_Of k) (fun x => Flimb_Of (k + 1) x) (stlimb_Of k)

/-! shunt/limb.Check -/
def blimb_Check (k : Nat) (a0 : Bool) (a1 : List Int) : Option (Int) :=
  if ((decide ((((List.length a1) : Nat) : Int) > (72 : Int))) = false) then
    if (((((List.length a1) : Nat) : Int) == (0 : Int)) = true) then
      if (a0 = false) then
        if ((decide ((((List.length a1) : Nat) : Int) > (0 : Int))) = true) then
          if ((0 : Int) ≤ (IntKind.wrap .i64 ((((List.length a1) : Nat) : Int) - (1 : Int)))) then
            Option.bind (a1)[(Int.toNat (IntKind.wrap .i64 ((((List.length a1) : Nat) : Int) - (1 : Int))))]? fun x =>
            if ((x == (0 : Int)) = true) then
              (some (10 : Int))
            else
            (some (0 : Int))
          else
          none
        else
        (some (0 : Int))
      else
      (some (10 : Int))
    else
    if ((decide ((((List.length a1) : Nat) : Int) > (0 : Int))) = true) then
      if ((0 : Int) ≤ (IntKind.wrap .i64 ((((List.length a1) : Nat) : Int) - (1 : Int)))) then
        Option.bind (a1)[(Int.toNat (IntKind.wrap .i64 ((((List.length a1) : Nat) : Int) - (1 : Int))))]? fun x =>
        if ((x == (0 : Int)) = true) then
          (some (10 : Int))
        else
        (some (0 : Int))
      else
      none
    else
    (some (0 : Int))
  else
  (some (10 : Int))
def Flimb_Check : Nat → Bool → List Int → Option (Int)
  | 0, _, _ => none
  | k + 1, a0, a1 => blimb_Check k a0 a1
def shlimb_Check : FS := { vs := [.g [.lf .bool, .lf (.sl (.int .u32))]], bs := [] }
def rslimb_Check : List FS := [{ vs := [.a (.lf (.int .i64))], bs := [] }]
def Ilimb_Check (k : Nat) : Inst := ⟨43, shlimb_Check, rslimb_Check, fun x => Flimb_Check k x.1 x.2⟩
theorem allimb_Check (k : Nat) : AllI (call cf k) [] := True.intro
theorem anlimb_Check (k : Nat) : LAll (LOk (R := DS FS.D rslimb_Check) (fun b _ σ K => LOt Ty (kps 43) 0 b σ K []) cf (call cf k) (cf.keep 43) Tryz.f43.ntmps k shlimb_Check.bs.length) 0 (bd Tryz.f43) :=
  And.intro (True.intro) (And.intro (True.intro) (And.intro (And.intro (True.intro) (And.intro (And.intro (True.intro) (True.intro)) (True.intro))) (And.intro (True.intro) (True.intro))))
theorem stlimb_Check (k : Nat) (x : shlimb_Check.D) : Flimb_Check (k + 1) x.1 x.2 = body2 cf (fun f a b K => COt f a b K []) (fun b _ σ K => LOt Ty (kps 43) 0 b σ K []) 43 Tryz.f43.ntmps Tryz.f43.results.toList (bd Tryz.f43) (shlimb_Check.enc x).1 (shlimb_Check.enc x).2 (putS FS.dec rslimb_Check) := by kernel_rfl
theorem oklimb_Check : ∀ k, InstOk (call cf k) (Ilimb_Check k)
  | 0 => fun x y e => absurd (show (none : Option _) = some y from e) (by simp)
  | k + 1 => inst_ok (c := cf) (k := k) (f := 43) (fn := Tryz.f43) (body := bd Tryz.f43) (sh := shlimb_Check) (os := rslimb_Check) rfl Tryz.func43 rfl ⟨rfl, Nat.le_of_ble_eq_true rfl⟩ (COt_ok (allimb_Check k)) (anlimb_Check k) (fun x => Flimb_Check (k + 1) x.1 x.2) (stlimb_Check k)

/-! shunt/big.Of -/
def bbig_Of (k : Nat) (neg : Bool) (w : List Int) : Option (Bool × List Int) :=
  if (((0 + (List.length w)) * 4) ≤ 140737488355328) then
    if ((0 + (0 + (List.length w))) ≤ (List.length ((List.take 0 []) ++ w))) then
      Option.bind (Fbig_trim k (List.take (0 + (List.length w)) ((List.take 0 []) ++ w))) fun r4 =>
      if (neg = true) then
        (some ((decide ((((List.length r4) : Nat) : Int) > (0 : Int))), r4))
      else
      (some (false, r4))
    else
    none
  else
  none
def Fbig_Of : Nat → Bool → List Int → Option (Bool × List Int)
  | 0, _, _ => none
  | k + 1, neg, w => bbig_Of k neg w
def shbig_Of : FS := { vs := [.a (.lf .bool), .a (.lf (.sl (.int .u32)))], bs := [] }
def rsbig_Of : List FS := [{ vs := [.a (.ptr 0 0 0)], bs := [.raw [[.lf .bool, .lf (.sl (.int .u32))]] 2 77 true false] }]
def Ibig_Of (k : Nat) : Inst := ⟨71, shbig_Of, rsbig_Of, fun x => Fbig_Of k x.1 x.2⟩
theorem albig_Of (k : Nat) : AllI (call cf k) [Ibig_trim k] := And.intro (okbig_trim k) (True.intro)
theorem anbig_Of (k : Nat) : LAll (LOk (R := DS FS.D rsbig_Of) (fun b _ σ K => LOt Ty (kps 71) 0 b σ K []) cf (call cf k) (cf.keep 71) Tryz.f71.ntmps k shbig_Of.bs.length) 0 (bd Tryz.f71) :=
  And.intro (True.intro) (And.intro (True.intro) (And.intro (True.intro) (And.intro (True.intro) (True.intro))))
theorem stbig_Of (k : Nat) (x : shbig_Of.D) : Fbig_Of (k + 1) x.1 x.2 = body2 cf (fun f a b K => COt f a b K [Ibig_trim k]) (fun b _ σ K => LOt Ty (kps 71) 0 b σ K []) 71 Tryz.f71.ntmps Tryz.f71.results.toList (bd Tryz.f71) (shbig_Of.enc x).1 (shbig_Of.enc x).2 (putS FS.dec rsbig_Of) := by kernel_rfl
theorem okbig_Of : ∀ k, InstOk (call cf k) (Ibig_Of k)
  | 0 => fun x y e => absurd (show (none : Option _) = some y from e) (by simp)
  | k + 1 => inst_ok (c := cf) (k := k) (f := 71) (fn := Tryz.f71) (body := bd Tryz.f71) (sh := shbig_Of) (os := rsbig_Of) rfl Tryz.func71 rfl ⟨rfl, Nat.le_of_ble_eq_true rfl⟩ (COt_ok (albig_Of k)) (anbig_Of k) (fun x => Fbig_Of (k + 1) x.1 x.2) (stbig_Of k)

/-! shunt/wide.Take -/
def bwide_Take (k : Nat) (a0 : Bool) (a1 : List Int) : Option (Bool × List Int) :=
  Option.bind (Fbig_Of k a0 a1) fun r4 =>
  (some (r4.1, r4.2))
def Fwide_Take : Nat → Bool → List Int → Option (Bool × List Int)
  | 0, _, _ => none
  | k + 1, a0, a1 => bwide_Take k a0 a1
def shwide_Take : FS := { vs := [.g [.lf .bool, .lf (.sl (.int .u32))]], bs := [] }
def rswide_Take : List FS := [{ vs := [.a (.ptr 0 0 0)], bs := [.raw [[.lf .bool, .lf (.sl (.int .u32))]] 2 77 true false] }]
def Iwide_Take (k : Nat) : Inst := ⟨42, shwide_Take, rswide_Take, fun x => Fwide_Take k x.1 x.2⟩
theorem alwide_Take (k : Nat) : AllI (call cf k) [Ibig_Of k] := And.intro (okbig_Of k) (True.intro)
theorem anwide_Take (k : Nat) : LAll (LOk (R := DS FS.D rswide_Take) (fun b _ σ K => LOt Ty (kps 42) 0 b σ K []) cf (call cf k) (cf.keep 42) Tryz.f42.ntmps k shwide_Take.bs.length) 0 (bd Tryz.f42) :=
  And.intro (True.intro) (And.intro (True.intro) (True.intro))
theorem stwide_Take (k : Nat) (x : shwide_Take.D) : Fwide_Take (k + 1) x.1 x.2 = body2 cf (fun f a b K => COt f a b K [Ibig_Of k]) (fun b _ σ K => LOt Ty (kps 42) 0 b σ K []) 42 Tryz.f42.ntmps Tryz.f42.results.toList (bd Tryz.f42) (shwide_Take.enc x).1 (shwide_Take.enc x).2 (putS FS.dec rswide_Take) := by kernel_rfl
theorem okwide_Take : ∀ k, InstOk (call cf k) (Iwide_Take k)
  | 0 => fun x y e => absurd (show (none : Option _) = some y from e) (by simp)
  | k + 1 => inst_ok (c := cf) (k := k) (f := 42) (fn := Tryz.f42) (body := bd Tryz.f42) (sh := shwide_Take) (os := rswide_Take) rfl Tryz.func42 rfl ⟨rfl, Nat.le_of_ble_eq_true rfl⟩ (COt_ok (alwide_Take k)) (anwide_Take k) (fun x => Fwide_Take (k + 1) x.1 x.2) (stwide_Take k)

/-! shunt/big.cmp -/
def Lbig_cmp_0s (k : Nat) (rec : List Int → List Int → Int → Option ((Int) ⊕ (Unit))) (a : List Int) (b : List Int) (i : Int) : Option ((Int) ⊕ (Unit)) :=
  if ((decide (i ≥ (0 : Int))) = true) then
    if ((0 : Int) ≤ i) then
      Option.bind (a)[(Int.toNat i)]? fun x =>
      if ((0 : Int) ≤ i) then
        Option.bind (b)[(Int.toNat i)]? fun x2 =>
        if ((x != x2) = true) then
          if ((0 : Int) ≤ i) then
            Option.bind (a)[(Int.toNat i)]? fun x3 =>
            if ((0 : Int) ≤ i) then
              Option.bind (b)[(Int.toNat i)]? fun x4 =>
              if ((decide (x3 < x4)) = true) then
                (some (Sum.inl (-(1 : Int))))
              else
              (some (Sum.inl (1 : Int)))
            else
            none
          else
          none
        else
        rec a b (IntKind.wrap .i64 (i - (1 : Int)))
      else
      none
    else
    none
  else
  (some (Sum.inr ()))
def Lbig_cmp_0 (k n : Nat) : List Int → List Int → Int → Option ((Int) ⊕ (Unit)) := Nat.rec (fun _ _ _ => none) (fun _ r => Lbig_cmp_0s k r) n
def bbig_cmp (k : Nat) (a : List Int) (b : List Int) : Option (Int) :=
  if (((((List.length a) : Nat) : Int) != (((List.length b) : Nat) : Int)) = true) then
    if ((decide ((((List.length a) : Nat) : Int) < (((List.length b) : Nat) : Int))) = true) then
      (some (-(1 : Int)))
    else
    (some (1 : Int))
  else
  Option.bind (Lbig_cmp_0 k k a b (IntKind.wrap .i64 ((((List.length a) : Nat) : Int) - (1 : Int)))) fun r6 =>
  eitherK r6
    (fun r6 =>
    (some r6))
    (fun r6 =>
    (some (0 : Int)))
def Fbig_cmp : Nat → List Int → List Int → Option (Int)
  | 0, _, _ => none
  | k + 1, a, b => bbig_cmp k a b
def shbig_cmp : FS := { vs := [.a (.lf (.sl (.int .u32))), .a (.lf (.sl (.int .u32)))], bs := [] }
def rsbig_cmp : List FS := [{ vs := [.a (.lf (.int .i64))], bs := [] }]
def Ibig_cmp (k : Nat) : Inst := ⟨80, shbig_cmp, rsbig_cmp, fun x => Fbig_cmp k x.1 x.2⟩
theorem albig_cmp (k : Nat) : AllI (call cf k) [] := True.intro
def hsbig_cmp_0 : List SS := [{ fr := [(0, .a (.lf (.sl (.int .u32)))), (1, .a (.lf (.sl (.int .u32)))), (5, .a (.lf (.int .i64)))], mem := [], nx := 0 }]
def osbig_cmp_0 : List OS := [⟨none, { fr := [(4, .a (.lf (.int .i64)))], mem := [], nx := 0 }⟩, ⟨some 0, { fr := [], mem := [], nx := 0 }⟩]
def LIbig_cmp_0 (k : Nat) : LInst := ⟨0, hsbig_cmp_0, osbig_cmp_0, fun x => Lbig_cmp_0 k k x.1 x.2.1 x.2.2⟩
theorem anbig_cmp_0 (k : Nat) : LAll (LOk (R := DS OS.D osbig_cmp_0) (fun b _ σ K => LOt Ty (kps 80) 0 b σ K []) cf (call cf k) (kps 80) Tryz.f80.ntmps k 0) 0 (lb Tryz.f80 0) :=
  And.intro (And.intro (True.intro) (And.intro (True.intro) (True.intro))) (And.intro (And.intro (True.intro) (And.intro (And.intro (And.intro (True.intro) (And.intro (And.intro (True.intro) (True.intro)) (True.intro))) (And.intro (True.intro) (True.intro))) (True.intro))) (True.intro))
theorem stbig_cmp_0 (k n : Nat) (x : DS SS.D hsbig_cmp_0) : Lbig_cmp_0 k (n + 1) x.1 x.2.1 x.2.2 = encSK SS.enc (fun σ => run2 cf (fun f a b K => COt f a b K []) (fun b _ σ K => LOt Ty (kps 80) 0 b σ K []) Tryz.f80.ntmps 0 (lb Tryz.f80 0) σ (nextK Ty (kps 80 0) 0 hsbig_cmp_0 osbig_cmp_0 fun x => Lbig_cmp_0 k n x.1 x.2.1 x.2.2)) hsbig_cmp_0 x := by kernel_rfl
theorem lobig_cmp_0 (k : Nat) : LIOk cf (call cf k) (kps 80) Tryz.f80.ntmps k 0 0 (lb Tryz.f80 0) (LIbig_cmp_0 k) :=
  loop_ok (c := cf) (callF := call cf k) (kp := kps 80) (nt := Tryz.f80.ntmps) (k := k) (p := 0) (b := 0) (x0 := lb Tryz.f80 0) (hs := hsbig_cmp_0) (os := osbig_cmp_0) (COt_ok (albig_cmp k)) (anbig_cmp_0 k) (fun n x => Lbig_cmp_0 k n x.1 x.2.1 x.2.2) (fun _ => rfl) (stbig_cmp_0 k)
theorem anbig_cmp (k : Nat) : LAll (LOk (R := DS FS.D rsbig_cmp) (fun b _ σ K => LOt Ty (kps 80) 0 b σ K [LIbig_cmp_0 k]) cf (call cf k) (cf.keep 80) Tryz.f80.ntmps k shbig_cmp.bs.length) 0 (bd Tryz.f80) :=
  And.intro (True.intro) (And.intro (And.intro (True.intro) (And.intro (And.intro (And.intro (True.intro) (And.intro (And.intro (True.intro) (True.intro)) (True.intro))) (And.intro (True.intro) (True.intro))) (True.intro))) (And.intro (And.intro (True.intro) (LOt_ok (c := cf) (callF := call cf k) (kp := kps 80) (nt := Tryz.f80.ntmps) (k := k) (p := 0) (b := 0) (x0 := lb Tryz.f80 0) (l := [LIbig_cmp_0 k]) (And.intro (fun _ => lobig_cmp_0 k) (True.intro)))) (And.intro (True.intro) (True.intro))))
theorem stbig_cmp (k : Nat) (x : shbig_cmp.D) : Fbig_cmp (k + 1) x.1 x.2 = body2 cf (fun f a b K => COt f a b K []) (fun b _ σ K => LOt Ty (kps 80) 0 b σ K [LIbig_cmp_0 k]) 80 Tryz.f80.ntmps Tryz.f80.results.toList (bd Tryz.f80) (shbig_cmp.enc x).1 (shbig_cmp.enc x).2 (putS FS.dec rsbig_cmp) := by kernel_rfl
theorem okbig_cmp : ∀ k, InstOk (call cf k) (Ibig_cmp k)
  | 0 => fun x y e => absurd (show (none : Option _) = some y from e) (by simp)
  | k + 1 => inst_ok (c := cf) (k := k) (f := 80) (fn := Tryz.f80) (body := bd Tryz.f80) (sh := shbig_cmp) (os := rsbig_cmp) rfl Tryz.func80 rfl ⟨rfl, Nat.le_of_ble_eq_true rfl⟩ (COt_ok (albig_cmp k)) (anbig_cmp k) (fun x => Fbig_cmp (k + 1) x.1 x.2) (stbig_cmp k)

/-! shunt/big.short -/
def Lbig_short_0s (k : Nat) (rec : List Int → Int → Nat → Int → Int → List Int → Option (Nat × Int × List Int)) (a : List Int) (d : Int) (q : Nat) (r : Int) (i : Int) (qs : List Int) : Option (Nat × Int × List Int) :=
  if ((decide (i ≥ (0 : Int))) = true) then
    if ((0 : Int) ≤ i) then
      Option.bind (a)[(Int.toNat i)]? fun x2 =>
      if ((IntKind.wrap .u64 d) = (0 : Int)) then
        none
      else
      if (((0 : Int) ≤ i) ∧ (i < ((q : Nat) : Int))) then
        Option.bind (qs)[(0 + (Int.toNat i))]? fun x3 =>
        if ((IntKind.wrap .u64 d) = (0 : Int)) then
          none
        else
        rec a d q (Int.tmod (IntKind.wrap .u64 (((BitVec.toNat ((BitVec.ofInt 64 (IntKind.wrap .u64 (r * (4294967296 : Int)))) ||| (BitVec.ofInt 64 (IntKind.wrap .u64 x2)))) : Nat) : Int)) (IntKind.wrap .u64 d)) (IntKind.wrap .i64 (i - (1 : Int))) (List.set qs (0 + (Int.toNat i)) (IntKind.wrap .u32 (IntKind.wrap .u64 (Int.tdiv (IntKind.wrap .u64 (((BitVec.toNat ((BitVec.ofInt 64 (IntKind.wrap .u64 (r * (4294967296 : Int)))) ||| (BitVec.ofInt 64 (IntKind.wrap .u64 x2)))) : Nat) : Int)) (IntKind.wrap .u64 d)))))
      else
      none
    else
    none
  else
  (some (q, r, qs))
def Lbig_short_0 (k n : Nat) : List Int → Int → Nat → Int → Int → List Int → Option (Nat × Int × List Int) := Nat.rec (fun _ _ _ _ _ _ => none) (fun _ r => Lbig_short_0s k r) n
def bbig_short (k : Nat) (a : List Int) (d : Int) : Option (List Int × Int) :=
  if (((0 : Int) ≤ (((List.length a) : Nat) : Int)) ∧ (((((List.length a) : Nat) : Int) ≤ (((List.length a) : Nat) : Int)) ∧ (((((List.length a) : Nat) : Int) * (4 : Int)) ≤ (140737488355328 : Int)))) then
    Option.bind (Lbig_short_0 k k a d (Int.toNat (((List.length a) : Nat) : Int)) (0 : Int) (IntKind.wrap .i64 ((((List.length a) : Nat) : Int) - (1 : Int))) (List.replicate (Int.toNat (((List.length a) : Nat) : Int)) (0 : Int))) fun r7 =>
    if ((0 + r7.1) ≤ (List.length r7.2.2)) then
      (some ((List.take r7.1 r7.2.2), (IntKind.wrap .u32 r7.2.1)))
    else
    none
  else
  none
def Fbig_short : Nat → List Int → Int → Option (List Int × Int)
  | 0, _, _ => none
  | k + 1, a, d => bbig_short k a d
def shbig_short : FS := { vs := [.a (.lf (.sl (.int .u32))), .a (.lf (.int .u32))], bs := [] }
def rsbig_short : List FS := [{ vs := [.a (.lf (.sl (.int .u32))), .a (.lf (.int .u32))], bs := [] }]
def Ibig_short (k : Nat) : Inst := ⟨99, shbig_short, rsbig_short, fun x => Fbig_short k x.1 x.2⟩
theorem albig_short (k : Nat) : AllI (call cf k) [] := True.intro
def hsbig_short_0 : List SS := [{ fr := [(0, .a (.lf (.sl (.int .u32)))), (1, .a (.lf (.int .u32))), (6, .a (.smz 0)), (7, .a (.lf (.int .u64))), (8, .a (.lf (.int .i64)))], mem := [(0, some (.arr (.int .u32) 1 40 false))], nx := 1 }]
def osbig_short_0 : List OS := [⟨some 0, { fr := [(6, .a (.smz 0)), (7, .a (.lf (.int .u64)))], mem := [(0, some (.arr (.int .u32) 1 40 false))], nx := 1 }⟩]
def LIbig_short_0 (k : Nat) : LInst := ⟨0, hsbig_short_0, osbig_short_0, fun x => Lbig_short_0 k k x.1 x.2.1 x.2.2.1 x.2.2.2.1 x.2.2.2.2.1 x.2.2.2.2.2⟩
theorem anbig_short_0 (k : Nat) : LAll (LOk (R := DS OS.D osbig_short_0) (fun b _ σ K => LOt Ty (kps 99) 0 b σ K []) cf (call cf k) (kps 99) Tryz.f99.ntmps k 0) 0 (lb Tryz.f99 0) :=
  And.intro (And.intro (True.intro) (And.intro (True.intro) (True.intro))) (And.intro (And.intro (True.intro) (And.intro (True.intro) (True.intro))) (True.intro))
theorem stbig_short_0 (k n : Nat) (x : DS SS.D hsbig_short_0) : Lbig_short_0 k (n + 1) x.1 x.2.1 x.2.2.1 x.2.2.2.1 x.2.2.2.2.1 x.2.2.2.2.2 = encSK SS.enc (fun σ => run2 cf (fun f a b K => COt f a b K []) (fun b _ σ K => LOt Ty (kps 99) 0 b σ K []) Tryz.f99.ntmps 0 (lb Tryz.f99 0) σ (nextK Ty (kps 99 0) 0 hsbig_short_0 osbig_short_0 fun x => Lbig_short_0 k n x.1 x.2.1 x.2.2.1 x.2.2.2.1 x.2.2.2.2.1 x.2.2.2.2.2)) hsbig_short_0 x := by kernel_rfl
theorem lobig_short_0 (k : Nat) : LIOk cf (call cf k) (kps 99) Tryz.f99.ntmps k 0 0 (lb Tryz.f99 0) (LIbig_short_0 k) :=
  loop_ok (c := cf) (callF := call cf k) (kp := kps 99) (nt := Tryz.f99.ntmps) (k := k) (p := 0) (b := 0) (x0 := lb Tryz.f99 0) (hs := hsbig_short_0) (os := osbig_short_0) (COt_ok (albig_short k)) (anbig_short_0 k) (fun n x => Lbig_short_0 k n x.1 x.2.1 x.2.2.1 x.2.2.2.1 x.2.2.2.2.1 x.2.2.2.2.2) (fun _ => rfl) (stbig_short_0 k)
theorem anbig_short (k : Nat) : LAll (LOk (R := DS FS.D rsbig_short) (fun b _ σ K => LOt Ty (kps 99) 0 b σ K [LIbig_short_0 k]) cf (call cf k) (cf.keep 99) Tryz.f99.ntmps k shbig_short.bs.length) 0 (bd Tryz.f99) :=
  And.intro (True.intro) (And.intro (True.intro) (And.intro (True.intro) (And.intro (And.intro (True.intro) (LOt_ok (c := cf) (callF := call cf k) (kp := kps 99) (nt := Tryz.f99.ntmps) (k := k) (p := 0) (b := 0) (x0 := lb Tryz.f99 0) (l := [LIbig_short_0 k]) (And.intro (fun _ => lobig_short_0 k) (True.intro)))) (And.intro (True.intro) (True.intro)))))
theorem stbig_short (k : Nat) (x : shbig_short.D) : Fbig_short (k + 1) x.1 x.2 = body2 cf (fun f a b K => COt f a b K []) (fun b _ σ K => LOt Ty (kps 99) 0 b σ K [LIbig_short_0 k]) 99 Tryz.f99.ntmps Tryz.f99.results.toList (bd Tryz.f99) (shbig_short.enc x).1 (shbig_short.enc x).2 (putS FS.dec rsbig_short) := by kernel_rfl
theorem okbig_short : ∀ k, InstOk (call cf k) (Ibig_short k)
  | 0 => fun x y e => absurd (show (none : Option _) = some y from e) (by simp)
  | k + 1 => inst_ok (c := cf) (k := k) (f := 99) (fn := Tryz.f99) (body := bd Tryz.f99) (sh := shbig_short) (os := rsbig_short) rfl Tryz.func99 rfl ⟨rfl, Nat.le_of_ble_eq_true rfl⟩ (COt_ok (albig_short k)) (anbig_short k) (fun x => Fbig_short (k + 1) x.1 x.2) (stbig_short k)

/-! shunt/big.shift -/
def Lbig_shift_0s (k : Nat) (rec : Int → Nat → List Int → Int → Int → List Int → Option (Nat × List Int)) (bits : Int) (out1 : Nat) (x : List Int) (x1 : Int) (x2 : Int) (outs : List Int) : Option (Nat × List Int) :=
  if ((decide (x2 < x1)) = true) then
    if ((0 : Int) ≤ x2) then
      Option.bind (x)[(Int.toNat x2)]? fun x3 =>
      if (bits < (0 : Int)) then
        none
      else
      if (((0 : Int) ≤ x2) ∧ (x2 < ((out1 : Nat) : Int))) then
        Option.bind (outs)[(0 + (Int.toNat x2))]? fun x4 =>
        if (((0 : Int) ≤ x2) ∧ (x2 < ((out1 : Nat) : Int))) then
          Option.bind (outs)[(0 + (Int.toNat x2))]? fun x5 =>
          if (((0 : Int) ≤ (IntKind.wrap .i64 (x2 + (1 : Int)))) ∧ ((IntKind.wrap .i64 (x2 + (1 : Int))) < ((out1 : Nat) : Int))) then
            Option.bind ((List.set outs (0 + (Int.toNat x2)) (IntKind.wrap .u32 (((BitVec.toNat ((BitVec.ofInt 32 x4) ||| (BitVec.ofInt 32 (IntKind.wrap .u32 (IntKind.wrap .u64 ((IntKind.wrap .u64 x3) * ((2 : Int) ^ (min (Int.toNat bits) 64)))))))) : Nat) : Int))))[(0 + (Int.toNat (IntKind.wrap .i64 (x2 + (1 : Int)))))]? fun x6 =>
            rec bits out1 x x1 (IntKind.wrap .i64 (x2 + (1 : Int))) (List.set (List.set outs (0 + (Int.toNat x2)) (IntKind.wrap .u32 (((BitVec.toNat ((BitVec.ofInt 32 x4) ||| (BitVec.ofInt 32 (IntKind.wrap .u32 (IntKind.wrap .u64 ((IntKind.wrap .u64 x3) * ((2 : Int) ^ (min (Int.toNat bits) 64)))))))) : Nat) : Int))) (0 + (Int.toNat (IntKind.wrap .i64 (x2 + (1 : Int))))) (IntKind.wrap .u32 (Int.fdiv (IntKind.wrap .u64 ((IntKind.wrap .u64 x3) * ((2 : Int) ^ (min (Int.toNat bits) 64)))) (4294967296 : Int))))
          else
          none
        else
        none
      else
      none
    else
    none
  else
  (some (out1, outs))
def Lbig_shift_0 (k n : Nat) : Int → Nat → List Int → Int → Int → List Int → Option (Nat × List Int) := Nat.rec (fun _ _ _ _ _ _ => none) (fun _ r => Lbig_shift_0s k r) n
def bbig_shift (k : Nat) (a : List Int) (bits : Int) : Option (Nat × List Int) :=
  if (((0 : Int) ≤ (IntKind.wrap .i64 ((((List.length a) : Nat) : Int) + (1 : Int)))) ∧ (((IntKind.wrap .i64 ((((List.length a) : Nat) : Int) + (1 : Int))) ≤ (IntKind.wrap .i64 ((((List.length a) : Nat) : Int) + (1 : Int)))) ∧ (((IntKind.wrap .i64 ((((List.length a) : Nat) : Int) + (1 : Int))) * (4 : Int)) ≤ (140737488355328 : Int)))) then
    Option.bind (Lbig_shift_0 k k bits (Int.toNat (IntKind.wrap .i64 ((((List.length a) : Nat) : Int) + (1 : Int)))) a (((List.length a) : Nat) : Int) (0 : Int) (List.replicate (Int.toNat (IntKind.wrap .i64 ((((List.length a) : Nat) : Int) + (1 : Int)))) (0 : Int))) fun r8 =>
    (some (r8.1, r8.2))
  else
  none
def Fbig_shift : Nat → List Int → Int → Option (Nat × List Int)
  | 0, _, _ => none
  | k + 1, a, bits => bbig_shift k a bits
def shbig_shift : FS := { vs := [.a (.lf (.sl (.int .u32))), .a (.lf (.int .u64))], bs := [] }
def rsbig_shift : List FS := [{ vs := [.a (.smz 0)], bs := [.arr (.int .u32) 1 40 false] }]
def Ibig_shift (k : Nat) : Inst := ⟨101, shbig_shift, rsbig_shift, fun x => Fbig_shift k x.1 x.2⟩
theorem albig_shift (k : Nat) : AllI (call cf k) [] := True.intro
def hsbig_shift_0 : List SS := [{ fr := [(1, .a (.lf (.int .u64))), (5, .a (.smz 0)), (13, .a (.lf (.sl (.int .u32)))), (14, .a (.lf (.int .i64))), (15, .a (.lf (.int .i64)))], mem := [(0, some (.arr (.int .u32) 1 40 false))], nx := 1 }]
def osbig_shift_0 : List OS := [⟨some 0, { fr := [(5, .a (.smz 0))], mem := [(0, some (.arr (.int .u32) 1 40 false))], nx := 1 }⟩]
def LIbig_shift_0 (k : Nat) : LInst := ⟨0, hsbig_shift_0, osbig_shift_0, fun x => Lbig_shift_0 k k x.1 x.2.1 x.2.2.1 x.2.2.2.1 x.2.2.2.2.1 x.2.2.2.2.2⟩
theorem anbig_shift_0 (k : Nat) : LAll (LOk (R := DS OS.D osbig_shift_0) (fun b _ σ K => LOt Ty (kps 101) 0 b σ K []) cf (call cf k) (kps 101) Tryz.f101.ntmps k 0) 0 (lb Tryz.f101 0) :=
  And.intro (True.intro) (And.intro (And.intro (True.intro) (True.intro)) (And.intro (And.intro (True.intro) (And.intro (True.intro) (And.intro (True.intro) (True.intro)))) (True.intro)))
theorem stbig_shift_0 (k n : Nat) (x : DS SS.D hsbig_shift_0) : Lbig_shift_0 k (n + 1) x.1 x.2.1 x.2.2.1 x.2.2.2.1 x.2.2.2.2.1 x.2.2.2.2.2 = encSK SS.enc (fun σ => run2 cf (fun f a b K => COt f a b K []) (fun b _ σ K => LOt Ty (kps 101) 0 b σ K []) Tryz.f101.ntmps 0 (lb Tryz.f101 0) σ (nextK Ty (kps 101 0) 0 hsbig_shift_0 osbig_shift_0 fun x => Lbig_shift_0 k n x.1 x.2.1 x.2.2.1 x.2.2.2.1 x.2.2.2.2.1 x.2.2.2.2.2)) hsbig_shift_0 x := by kernel_rfl
theorem lobig_shift_0 (k : Nat) : LIOk cf (call cf k) (kps 101) Tryz.f101.ntmps k 0 0 (lb Tryz.f101 0) (LIbig_shift_0 k) :=
  loop_ok (c := cf) (callF := call cf k) (kp := kps 101) (nt := Tryz.f101.ntmps) (k := k) (p := 0) (b := 0) (x0 := lb Tryz.f101 0) (hs := hsbig_shift_0) (os := osbig_shift_0) (COt_ok (albig_shift k)) (anbig_shift_0 k) (fun n x => Lbig_shift_0 k n x.1 x.2.1 x.2.2.1 x.2.2.2.1 x.2.2.2.2.1 x.2.2.2.2.2) (fun _ => rfl) (stbig_shift_0 k)
theorem anbig_shift (k : Nat) : LAll (LOk (R := DS FS.D rsbig_shift) (fun b _ σ K => LOt Ty (kps 101) 0 b σ K [LIbig_shift_0 k]) cf (call cf k) (cf.keep 101) Tryz.f101.ntmps k shbig_shift.bs.length) 0 (bd Tryz.f101) :=
  And.intro (True.intro) (And.intro (True.intro) (And.intro (And.intro (True.intro) (LOt_ok (c := cf) (callF := call cf k) (kp := kps 101) (nt := Tryz.f101.ntmps) (k := k) (p := 0) (b := 0) (x0 := lb Tryz.f101 0) (l := [LIbig_shift_0 k]) (And.intro (fun _ => lobig_shift_0 k) (True.intro)))) (And.intro (True.intro) (True.intro))))
theorem stbig_shift (k : Nat) (x : shbig_shift.D) : Fbig_shift (k + 1) x.1 x.2 = body2 cf (fun f a b K => COt f a b K []) (fun b _ σ K => LOt Ty (kps 101) 0 b σ K [LIbig_shift_0 k]) 101 Tryz.f101.ntmps Tryz.f101.results.toList (bd Tryz.f101) (shbig_shift.enc x).1 (shbig_shift.enc x).2 (putS FS.dec rsbig_shift) := by kernel_rfl
theorem okbig_shift : ∀ k, InstOk (call cf k) (Ibig_shift k)
  | 0 => fun x y e => absurd (show (none : Option _) = some y from e) (by simp)
  | k + 1 => inst_ok (c := cf) (k := k) (f := 101) (fn := Tryz.f101) (body := bd Tryz.f101) (sh := shbig_shift) (os := rsbig_shift) rfl Tryz.func101 rfl ⟨rfl, Nat.le_of_ble_eq_true rfl⟩ (COt_ok (albig_shift k)) (anbig_shift k) (fun x => Fbig_shift (k + 1) x.1 x.2) (stbig_shift k)

/-! shunt/big.take -/
def Lbig_take_zvq_0s (k : Nat) (rec : Nat → Nat → Nat → Int → Int → Int → Int → Int → List Int → List Int → Option (Nat × Nat × Nat × Int × Int × List Int × List Int)) (u0 : Nat) (u1 : Nat) (v : Nat) (d : Int) (carry : Int) (borrow : Int) (x : Int) (x1 : Int) (us : List Int) (vs : List Int) : Option (Nat × Nat × Nat × Int × Int × List Int × List Int) :=
  if ((decide (x1 < x)) = true) then
    if ((decide (x1 < ((v : Nat) : Int))) = true) then
      if (((0 : Int) ≤ x1) ∧ (x1 < ((v : Nat) : Int))) then
        Option.bind (vs)[(0 + (Int.toNat x1))]? fun x5 =>
        if (((0 : Int) ≤ x1) ∧ (x1 < ((u1 : Nat) : Int))) then
          Option.bind (us)[(u0 + (Int.toNat x1))]? fun x6 =>
          if ((decide ((IntKind.wrap .u64 x6) < (IntKind.wrap .u64 ((IntKind.wrap .u64 (((BitVec.toNat ((BitVec.ofInt 64 (IntKind.wrap .u64 (carry + (IntKind.wrap .u64 (d * (IntKind.wrap .u64 x5)))))) &&& (BitVec.ofInt 64 (4294967295 : Int)))) : Nat) : Int)) + borrow)))) = true) then
            if (((0 : Int) ≤ x1) ∧ (x1 < ((u1 : Nat) : Int))) then
              Option.bind (us)[(u0 + (Int.toNat x1))]? fun x7 =>
              if (((0 : Int) ≤ x1) ∧ (x1 < ((u1 : Nat) : Int))) then
                Option.bind (us)[(u0 + (Int.toNat x1))]? fun x8 =>
                rec u0 u1 v d (Int.fdiv (IntKind.wrap .u64 (carry + (IntKind.wrap .u64 (d * (IntKind.wrap .u64 x5))))) (4294967296 : Int)) (1 : Int) x (IntKind.wrap .i64 (x1 + (1 : Int))) (List.set us (u0 + (Int.toNat x1)) (IntKind.wrap .u32 (IntKind.wrap .u64 ((IntKind.wrap .u64 x7) - (IntKind.wrap .u64 ((IntKind.wrap .u64 (((BitVec.toNat ((BitVec.ofInt 64 (IntKind.wrap .u64 (carry + (IntKind.wrap .u64 (d * (IntKind.wrap .u64 x5)))))) &&& (BitVec.ofInt 64 (4294967295 : Int)))) : Nat) : Int)) + borrow)))))) vs
              else
              none
            else
            none
          else
          if (((0 : Int) ≤ x1) ∧ (x1 < ((u1 : Nat) : Int))) then
            Option.bind (us)[(u0 + (Int.toNat x1))]? fun x7 =>
            if (((0 : Int) ≤ x1) ∧ (x1 < ((u1 : Nat) : Int))) then
              Option.bind (us)[(u0 + (Int.toNat x1))]? fun x8 =>
              rec u0 u1 v d (Int.fdiv (IntKind.wrap .u64 (carry + (IntKind.wrap .u64 (d * (IntKind.wrap .u64 x5))))) (4294967296 : Int)) (0 : Int) x (IntKind.wrap .i64 (x1 + (1 : Int))) (List.set us (u0 + (Int.toNat x1)) (IntKind.wrap .u32 (IntKind.wrap .u64 ((IntKind.wrap .u64 x7) - (IntKind.wrap .u64 ((IntKind.wrap .u64 (((BitVec.toNat ((BitVec.ofInt 64 (IntKind.wrap .u64 (carry + (IntKind.wrap .u64 (d * (IntKind.wrap .u64 x5)))))) &&& (BitVec.ofInt 64 (4294967295 : Int)))) : Nat) : Int)) + borrow)))))) vs
            else
            none
          else
          none
        else
        none
      else
      none
    else
    if (((0 : Int) ≤ x1) ∧ (x1 < ((u1 : Nat) : Int))) then
      Option.bind (us)[(u0 + (Int.toNat x1))]? fun x5 =>
      if ((decide ((IntKind.wrap .u64 x5) < (IntKind.wrap .u64 ((IntKind.wrap .u64 (((BitVec.toNat ((BitVec.ofInt 64 carry) &&& (BitVec.ofInt 64 (4294967295 : Int)))) : Nat) : Int)) + borrow)))) = true) then
        if (((0 : Int) ≤ x1) ∧ (x1 < ((u1 : Nat) : Int))) then
          Option.bind (us)[(u0 + (Int.toNat x1))]? fun x6 =>
          if (((0 : Int) ≤ x1) ∧ (x1 < ((u1 : Nat) : Int))) then
            Option.bind (us)[(u0 + (Int.toNat x1))]? fun x7 =>
            rec u0 u1 v d (Int.fdiv carry (4294967296 : Int)) (1 : Int) x (IntKind.wrap .i64 (x1 + (1 : Int))) (List.set us (u0 + (Int.toNat x1)) (IntKind.wrap .u32 (IntKind.wrap .u64 ((IntKind.wrap .u64 x6) - (IntKind.wrap .u64 ((IntKind.wrap .u64 (((BitVec.toNat ((BitVec.ofInt 64 carry) &&& (BitVec.ofInt 64 (4294967295 : Int)))) : Nat) : Int)) + borrow)))))) vs
          else
          none
        else
        none
      else
      if (((0 : Int) ≤ x1) ∧ (x1 < ((u1 : Nat) : Int))) then
        Option.bind (us)[(u0 + (Int.toNat x1))]? fun x6 =>
        if (((0 : Int) ≤ x1) ∧ (x1 < ((u1 : Nat) : Int))) then
          Option.bind (us)[(u0 + (Int.toNat x1))]? fun x7 =>
          rec u0 u1 v d (Int.fdiv carry (4294967296 : Int)) (0 : Int) x (IntKind.wrap .i64 (x1 + (1 : Int))) (List.set us (u0 + (Int.toNat x1)) (IntKind.wrap .u32 (IntKind.wrap .u64 ((IntKind.wrap .u64 x6) - (IntKind.wrap .u64 ((IntKind.wrap .u64 (((BitVec.toNat ((BitVec.ofInt 64 carry) &&& (BitVec.ofInt 64 (4294967295 : Int)))) : Nat) : Int)) + borrow)))))) vs
        else
        none
      else
      none
    else
    none
  else
  (some (u0, u1, v, d, borrow, us, vs))
def Lbig_take_zvq_0 (k n : Nat) : Nat → Nat → Nat → Int → Int → Int → Int → Int → List Int → List Int → Option (Nat × Nat × Nat × Int × Int × List Int × List Int) := Nat.rec (fun _ _ _ _ _ _ _ _ _ _ => none) (fun _ r => Lbig_take_zvq_0s k r) n
def Lbig_take_zvq_2s (k : Nat) (rec : Nat → Nat → Nat → Int → Int → Int → Int → List Int → List Int → Option (Int × List Int × List Int)) (u0 : Nat) (u1 : Nat) (v : Nat) (d : Int) (carry : Int) (x : Int) (x1 : Int) (us : List Int) (vs : List Int) : Option (Int × List Int × List Int) :=
  if ((decide (x1 < x)) = true) then
    if (((0 : Int) ≤ x1) ∧ (x1 < ((u1 : Nat) : Int))) then
      Option.bind (us)[(u0 + (Int.toNat x1))]? fun x5 =>
      if ((decide (x1 < ((v : Nat) : Int))) = true) then
        if (((0 : Int) ≤ x1) ∧ (x1 < ((v : Nat) : Int))) then
          Option.bind (vs)[(0 + (Int.toNat x1))]? fun x6 =>
          if (((0 : Int) ≤ x1) ∧ (x1 < ((u1 : Nat) : Int))) then
            Option.bind (us)[(u0 + (Int.toNat x1))]? fun x7 =>
            rec u0 u1 v d (Int.fdiv (IntKind.wrap .u64 ((IntKind.wrap .u64 ((IntKind.wrap .u64 x5) + carry)) + (IntKind.wrap .u64 x6))) (4294967296 : Int)) x (IntKind.wrap .i64 (x1 + (1 : Int))) (List.set us (u0 + (Int.toNat x1)) (IntKind.wrap .u32 (IntKind.wrap .u64 ((IntKind.wrap .u64 ((IntKind.wrap .u64 x5) + carry)) + (IntKind.wrap .u64 x6))))) vs
          else
          none
        else
        none
      else
      if (((0 : Int) ≤ x1) ∧ (x1 < ((u1 : Nat) : Int))) then
        Option.bind (us)[(u0 + (Int.toNat x1))]? fun x6 =>
        rec u0 u1 v d (Int.fdiv (IntKind.wrap .u64 ((IntKind.wrap .u64 x5) + carry)) (4294967296 : Int)) x (IntKind.wrap .i64 (x1 + (1 : Int))) (List.set us (u0 + (Int.toNat x1)) (IntKind.wrap .u32 (IntKind.wrap .u64 ((IntKind.wrap .u64 x5) + carry)))) vs
      else
      none
    else
    none
  else
  (some (d, us, vs))
def Lbig_take_zvq_2 (k n : Nat) : Nat → Nat → Nat → Int → Int → Int → Int → List Int → List Int → Option (Int × List Int × List Int) := Nat.rec (fun _ _ _ _ _ _ _ _ _ => none) (fun _ r => Lbig_take_zvq_2s k r) n
def bbig_take_zvq (k : Nat) (u0 : Nat) (u1 : Nat) (v : Nat) (d : Int) (us : List Int) (vs : List Int) : Option (Int × List Int × List Int) :=
  Option.bind (Lbig_take_zvq_0 k k u0 u1 v d (0 : Int) (0 : Int) ((u1 : Nat) : Int) (0 : Int) us vs) fun r11 =>
  if ((r11.2.2.2.2.1 == (0 : Int)) = true) then
    (some ((IntKind.wrap .u32 r11.2.2.2.1), r11.2.2.2.2.2.1, r11.2.2.2.2.2.2))
  else
  Option.bind (Lbig_take_zvq_2 k k r11.1 r11.2.1 r11.2.2.1 r11.2.2.2.1 (0 : Int) ((r11.2.1 : Nat) : Int) (0 : Int) r11.2.2.2.2.2.1 r11.2.2.2.2.2.2) fun r12 =>
  (some ((IntKind.wrap .u32 (IntKind.wrap .u64 (r12.1 - (1 : Int)))), r12.2.1, r12.2.2))
def Fbig_take_zvq : Nat → Nat → Nat → Nat → Int → List Int → List Int → Option (Int × List Int × List Int)
  | 0, _, _, _, _, _, _ => none
  | k + 1, u0, u1, v, d, us, vs => bbig_take_zvq k u0 u1 v d us vs
def shbig_take_zvq : FS := { vs := [.a (.sms 0), .a (.smz 1), .a (.lf (.int .u64))], bs := [.arr (.int .u32) 1 40 false, .arr (.int .u32) 1 40 false] }
def rsbig_take_zvq : List FS := [{ vs := [.a (.lf (.int .u32))], bs := [.arr (.int .u32) 1 40 false, .arr (.int .u32) 1 40 false] }]
def Ibig_take_zvq (k : Nat) : Inst := ⟨102, shbig_take_zvq, rsbig_take_zvq, fun x => Fbig_take_zvq k x.1 x.2.1 x.2.2.1 x.2.2.2.1 x.2.2.2.2.1 x.2.2.2.2.2⟩
theorem albig_take_zvq (k : Nat) : AllI (call cf k) [] := True.intro
def hsbig_take_zvq_0 : List SS := [{ fr := [(0, .a (.sms 0)), (1, .a (.smz 1)), (2, .a (.lf (.int .u64))), (7, .a (.lf (.int .u64))), (8, .a (.lf (.int .u64))), (14, .a (.lf (.int .i64))), (15, .a (.lf (.int .i64)))], mem := [(0, some (.arr (.int .u32) 1 40 false)), (1, some (.arr (.int .u32) 1 40 false))], nx := 2 }]
def osbig_take_zvq_0 : List OS := [⟨some 0, { fr := [(0, .a (.sms 0)), (1, .a (.smz 1)), (2, .a (.lf (.int .u64))), (8, .a (.lf (.int .u64)))], mem := [(0, some (.arr (.int .u32) 1 40 false)), (1, some (.arr (.int .u32) 1 40 false))], nx := 2 }⟩]
def LIbig_take_zvq_0 (k : Nat) : LInst := ⟨0, hsbig_take_zvq_0, osbig_take_zvq_0, fun x => Lbig_take_zvq_0 k k x.1 x.2.1 x.2.2.1 x.2.2.2.1 x.2.2.2.2.1 x.2.2.2.2.2.1 x.2.2.2.2.2.2.1 x.2.2.2.2.2.2.2.1 x.2.2.2.2.2.2.2.2.1 x.2.2.2.2.2.2.2.2.2⟩
theorem anbig_take_zvq_0 (k : Nat) : LAll (LOk (R := DS OS.D osbig_take_zvq_0) (fun b _ σ K => LOt Ty (kps 102) 2 b σ K []) cf (call cf k) (kps 102) Tryz.f102.ntmps k 2) 0 (lb Tryz.f102 0) :=
  And.intro (True.intro) (And.intro (And.intro (True.intro) (True.intro)) (And.intro (And.intro (True.intro) (And.intro (And.intro (True.intro) (And.intro (True.intro) (True.intro))) (And.intro (True.intro) (And.intro (True.intro) (And.intro (And.intro (True.intro) (And.intro (True.intro) (True.intro))) (And.intro (True.intro) (True.intro))))))) (True.intro)))
theorem stbig_take_zvq_0 (k n : Nat) (x : DS SS.D hsbig_take_zvq_0) : Lbig_take_zvq_0 k (n + 1) x.1 x.2.1 x.2.2.1 x.2.2.2.1 x.2.2.2.2.1 x.2.2.2.2.2.1 x.2.2.2.2.2.2.1 x.2.2.2.2.2.2.2.1 x.2.2.2.2.2.2.2.2.1 x.2.2.2.2.2.2.2.2.2 = encSK SS.enc (fun σ => run2 cf (fun f a b K => COt f a b K []) (fun b _ σ K => LOt Ty (kps 102) 2 b σ K []) Tryz.f102.ntmps 0 (lb Tryz.f102 0) σ (nextK Ty (kps 102 0) 2 hsbig_take_zvq_0 osbig_take_zvq_0 fun x => Lbig_take_zvq_0 k n x.1 x.2.1 x.2.2.1 x.2.2.2.1 x.2.2.2.2.1 x.2.2.2.2.2.1 x.2.2.2.2.2.2.1 x.2.2.2.2.2.2.2.1 x.2.2.2.2.2.2.2.2.1 x.2.2.2.2.2.2.2.2.2)) hsbig_take_zvq_0 x := by kernel_rfl
theorem lobig_take_zvq_0 (k : Nat) : LIOk cf (call cf k) (kps 102) Tryz.f102.ntmps k 2 0 (lb Tryz.f102 0) (LIbig_take_zvq_0 k) :=
  loop_ok (c := cf) (callF := call cf k) (kp := kps 102) (nt := Tryz.f102.ntmps) (k := k) (p := 2) (b := 0) (x0 := lb Tryz.f102 0) (hs := hsbig_take_zvq_0) (os := osbig_take_zvq_0) (COt_ok (albig_take_zvq k)) (anbig_take_zvq_0 k) (fun n x => Lbig_take_zvq_0 k n x.1 x.2.1 x.2.2.1 x.2.2.2.1 x.2.2.2.2.1 x.2.2.2.2.2.1 x.2.2.2.2.2.2.1 x.2.2.2.2.2.2.2.1 x.2.2.2.2.2.2.2.2.1 x.2.2.2.2.2.2.2.2.2) (fun _ => rfl) (stbig_take_zvq_0 k)
def hsbig_take_zvq_2 : List SS := [{ fr := [(0, .a (.sms 0)), (1, .a (.smz 1)), (2, .a (.lf (.int .u64))), (7, .a (.lf (.int .u64))), (61, .a (.lf (.int .i64))), (62, .a (.lf (.int .i64)))], mem := [(0, some (.arr (.int .u32) 1 40 false)), (1, some (.arr (.int .u32) 1 40 false))], nx := 2 }]
def osbig_take_zvq_2 : List OS := [⟨some 2, { fr := [(2, .a (.lf (.int .u64)))], mem := [(0, some (.arr (.int .u32) 1 40 false)), (1, some (.arr (.int .u32) 1 40 false))], nx := 2 }⟩]
def LIbig_take_zvq_2 (k : Nat) : LInst := ⟨2, hsbig_take_zvq_2, osbig_take_zvq_2, fun x => Lbig_take_zvq_2 k k x.1 x.2.1 x.2.2.1 x.2.2.2.1 x.2.2.2.2.1 x.2.2.2.2.2.1 x.2.2.2.2.2.2.1 x.2.2.2.2.2.2.2.1 x.2.2.2.2.2.2.2.2⟩
theorem anbig_take_zvq_2 (k : Nat) : LAll (LOk (R := DS OS.D osbig_take_zvq_2) (fun b _ σ K => LOt Ty (kps 102) 2 b σ K [LIbig_take_zvq_0 k]) cf (call cf k) (kps 102) Tryz.f102.ntmps k 2) 2 (lb Tryz.f102 1) :=
  And.intro (True.intro) (And.intro (And.intro (True.intro) (True.intro)) (And.intro (And.intro (True.intro) (And.intro (True.intro) (And.intro (And.intro (True.intro) (And.intro (True.intro) (True.intro))) (And.intro (True.intro) (True.intro))))) (True.intro)))
theorem stbig_take_zvq_2 (k n : Nat) (x : DS SS.D hsbig_take_zvq_2) : Lbig_take_zvq_2 k (n + 1) x.1 x.2.1 x.2.2.1 x.2.2.2.1 x.2.2.2.2.1 x.2.2.2.2.2.1 x.2.2.2.2.2.2.1 x.2.2.2.2.2.2.2.1 x.2.2.2.2.2.2.2.2 = encSK SS.enc (fun σ => run2 cf (fun f a b K => COt f a b K []) (fun b _ σ K => LOt Ty (kps 102) 2 b σ K [LIbig_take_zvq_0 k]) Tryz.f102.ntmps 2 (lb Tryz.f102 1) σ (nextK Ty (kps 102 2) 2 hsbig_take_zvq_2 osbig_take_zvq_2 fun x => Lbig_take_zvq_2 k n x.1 x.2.1 x.2.2.1 x.2.2.2.1 x.2.2.2.2.1 x.2.2.2.2.2.1 x.2.2.2.2.2.2.1 x.2.2.2.2.2.2.2.1 x.2.2.2.2.2.2.2.2)) hsbig_take_zvq_2 x := by kernel_rfl
theorem lobig_take_zvq_2 (k : Nat) : LIOk cf (call cf k) (kps 102) Tryz.f102.ntmps k 2 2 (lb Tryz.f102 1) (LIbig_take_zvq_2 k) :=
  loop_ok (c := cf) (callF := call cf k) (kp := kps 102) (nt := Tryz.f102.ntmps) (k := k) (p := 2) (b := 2) (x0 := lb Tryz.f102 1) (hs := hsbig_take_zvq_2) (os := osbig_take_zvq_2) (COt_ok (albig_take_zvq k)) (anbig_take_zvq_2 k) (fun n x => Lbig_take_zvq_2 k n x.1 x.2.1 x.2.2.1 x.2.2.2.1 x.2.2.2.2.1 x.2.2.2.2.2.1 x.2.2.2.2.2.2.1 x.2.2.2.2.2.2.2.1 x.2.2.2.2.2.2.2.2) (fun _ => rfl) (stbig_take_zvq_2 k)
theorem anbig_take_zvq (k : Nat) : LAll (LOk (R := DS FS.D rsbig_take_zvq) (fun b _ σ K => LOt Ty (kps 102) 2 b σ K [LIbig_take_zvq_0 k, LIbig_take_zvq_2 k]) cf (call cf k) (cf.keep 102) Tryz.f102.ntmps k shbig_take_zvq.bs.length) 0 (bd Tryz.f102) :=
  And.intro (True.intro) (And.intro (True.intro) (And.intro (And.intro (True.intro) (LOt_ok (c := cf) (callF := call cf k) (kp := kps 102) (nt := Tryz.f102.ntmps) (k := k) (p := 2) (b := 0) (x0 := lb Tryz.f102 0) (l := [LIbig_take_zvq_0 k, LIbig_take_zvq_2 k]) (And.intro (fun _ => lobig_take_zvq_0 k) (And.intro (fun h => absurd (show (2 : Nat) = 0 from h) (by decide)) (True.intro))))) (And.intro (And.intro (True.intro) (And.intro (And.intro (True.intro) (True.intro)) (True.intro))) (And.intro (True.intro) (And.intro (And.intro (True.intro) (LOt_ok (c := cf) (callF := call cf k) (kp := kps 102) (nt := Tryz.f102.ntmps) (k := k) (p := 2) (b := 2) (x0 := lb Tryz.f102 1) (l := [LIbig_take_zvq_0 k, LIbig_take_zvq_2 k]) (And.intro (fun h => absurd (show (0 : Nat) = 2 from h) (by decide)) (And.intro (fun _ => lobig_take_zvq_2 k) (True.intro))))) (And.intro (True.intro) (True.intro)))))))
theorem stbig_take_zvq (k : Nat) (x : shbig_take_zvq.D) : Fbig_take_zvq (k + 1) x.1 x.2.1 x.2.2.1 x.2.2.2.1 x.2.2.2.2.1 x.2.2.2.2.2 = body2 cf (fun f a b K => COt f a b K []) (fun b _ σ K => LOt Ty (kps 102) 2 b σ K [LIbig_take_zvq_0 k, LIbig_take_zvq_2 k]) 102 Tryz.f102.ntmps Tryz.f102.results.toList (bd Tryz.f102) (shbig_take_zvq.enc x).1 (shbig_take_zvq.enc x).2 (putS FS.dec rsbig_take_zvq) := by kernel_rfl
theorem okbig_take_zvq : ∀ k, InstOk (call cf k) (Ibig_take_zvq k)
  | 0 => fun x y e => absurd (show (none : Option _) = some y from e) (by simp)
  | k + 1 => inst_ok (c := cf) (k := k) (f := 102) (fn := Tryz.f102) (body := bd Tryz.f102) (sh := shbig_take_zvq) (os := rsbig_take_zvq) rfl Tryz.func102 rfl ⟨rfl, Nat.le_of_ble_eq_true rfl⟩ (COt_ok (albig_take_zvq k)) (anbig_take_zvq k) (fun x => Fbig_take_zvq (k + 1) x.1 x.2.1 x.2.2.1 x.2.2.2.1 x.2.2.2.2.1 x.2.2.2.2.2) (stbig_take_zvq k)

/-! shunt/big.long -/
def Lbig_long_0s (k : Nat) (rec : List Int → List Int → Int → Option (List Int × List Int × Int)) (a : List Int) (b : List Int) (bits : Int) : Option (List Int × List Int × Int) :=
  if ((0 : Int) ≤ (IntKind.wrap .i64 ((((List.length b) : Nat) : Int) - (1 : Int)))) then
    Option.bind (b)[(Int.toNat (IntKind.wrap .i64 ((((List.length b) : Nat) : Int) - (1 : Int))))]? fun x =>
    if (bits < (0 : Int)) then
      none
    else
    if (((Int.fdiv (IntKind.wrap .u32 (x * ((2 : Int) ^ (min (Int.toNat bits) 32)))) (2147483648 : Int)) == (0 : Int)) = true) then
      rec a b (IntKind.wrap .u64 (bits + (1 : Int)))
    else
    (some (a, b, bits))
  else
  none
def Lbig_long_0 (k n : Nat) : List Int → List Int → Int → Option (List Int × List Int × Int) := Nat.rec (fun _ _ _ => none) (fun _ r => Lbig_long_0s k r) n
def Lbig_long_4s (k : Nat) (rec : Nat → Int → Int → Nat → Nat → Int → Int → Int → List Int → List Int → List Int → Option (Nat × Int × Int × Nat × Nat × Int × Int × List Int × List Int × List Int)) (q : Nat) (bits : Int) (n : Int) (u : Nat) (v : Nat) (j : Int) (d : Int) (rest : Int) (qs : List Int) (us : List Int) (vs : List Int) : Option (Nat × Int × Int × Nat × Nat × Int × Int × List Int × List Int × List Int) :=
  if ((decide (d > (4294967295 : Int))) = false) then
    if ((decide (rest ≤ (4294967295 : Int))) = true) then
      if (((0 : Int) ≤ (IntKind.wrap .i64 (n - (2 : Int)))) ∧ ((IntKind.wrap .i64 (n - (2 : Int))) < ((v : Nat) : Int))) then
        Option.bind (vs)[(0 + (Int.toNat (IntKind.wrap .i64 (n - (2 : Int)))))]? fun x5 =>
        if (((0 : Int) ≤ (IntKind.wrap .i64 ((IntKind.wrap .i64 (j + n)) - (2 : Int)))) ∧ ((IntKind.wrap .i64 ((IntKind.wrap .i64 (j + n)) - (2 : Int))) < ((u : Nat) : Int))) then
          Option.bind (us)[(0 + (Int.toNat (IntKind.wrap .i64 ((IntKind.wrap .i64 (j + n)) - (2 : Int)))))]? fun x6 =>
          if ((decide ((IntKind.wrap .u64 (d * (IntKind.wrap .u64 x5))) > (IntKind.wrap .u64 (((BitVec.toNat ((BitVec.ofInt 64 (IntKind.wrap .u64 (rest * (4294967296 : Int)))) ||| (BitVec.ofInt 64 (IntKind.wrap .u64 x6)))) : Nat) : Int)))) = true) then
            if (((0 : Int) ≤ (IntKind.wrap .i64 (n - (1 : Int)))) ∧ ((IntKind.wrap .i64 (n - (1 : Int))) < ((v : Nat) : Int))) then
              Option.bind (vs)[(0 + (Int.toNat (IntKind.wrap .i64 (n - (1 : Int)))))]? fun x7 =>
              if ((decide ((IntKind.wrap .u64 (rest + (IntKind.wrap .u64 x7))) > (4294967295 : Int))) = true) then
                (some (q, bits, n, u, v, j, (IntKind.wrap .u64 (d - (1 : Int))), qs, us, vs))
              else
              rec q bits n u v j (IntKind.wrap .u64 (d - (1 : Int))) (IntKind.wrap .u64 (rest + (IntKind.wrap .u64 x7))) qs us vs
            else
            none
          else
          (some (q, bits, n, u, v, j, d, qs, us, vs))
        else
        none
      else
      none
    else
    (some (q, bits, n, u, v, j, d, qs, us, vs))
  else
  if (((0 : Int) ≤ (IntKind.wrap .i64 (n - (1 : Int)))) ∧ ((IntKind.wrap .i64 (n - (1 : Int))) < ((v : Nat) : Int))) then
    Option.bind (vs)[(0 + (Int.toNat (IntKind.wrap .i64 (n - (1 : Int)))))]? fun x5 =>
    if ((decide ((IntKind.wrap .u64 (rest + (IntKind.wrap .u64 x5))) > (4294967295 : Int))) = true) then
      (some (q, bits, n, u, v, j, (IntKind.wrap .u64 (d - (1 : Int))), qs, us, vs))
    else
    rec q bits n u v j (IntKind.wrap .u64 (d - (1 : Int))) (IntKind.wrap .u64 (rest + (IntKind.wrap .u64 x5))) qs us vs
  else
  none
def Lbig_long_4 (k n : Nat) : Nat → Int → Int → Nat → Nat → Int → Int → Int → List Int → List Int → List Int → Option (Nat × Int × Int × Nat × Nat × Int × Int × List Int × List Int × List Int) := Nat.rec (fun _ _ _ _ _ _ _ _ _ _ _ => none) (fun _ r => Lbig_long_4s k r) n
def Lbig_long_2s (k : Nat) (rec : Nat → Int → Int → Nat → Nat → Int → List Int → List Int → List Int → Option (Nat × Int × Int × Nat × List Int × List Int × List Int)) (q : Nat) (bits : Int) (n : Int) (u : Nat) (v : Nat) (j : Int) (qs : List Int) (us : List Int) (vs : List Int) : Option (Nat × Int × Int × Nat × List Int × List Int × List Int) :=
  if ((decide (j ≥ (0 : Int))) = true) then
    if (((0 : Int) ≤ (IntKind.wrap .i64 (j + n))) ∧ ((IntKind.wrap .i64 (j + n)) < ((u : Nat) : Int))) then
      Option.bind (us)[(0 + (Int.toNat (IntKind.wrap .i64 (j + n))))]? fun x =>
      if (((0 : Int) ≤ (IntKind.wrap .i64 ((IntKind.wrap .i64 (j + n)) - (1 : Int)))) ∧ ((IntKind.wrap .i64 ((IntKind.wrap .i64 (j + n)) - (1 : Int))) < ((u : Nat) : Int))) then
        Option.bind (us)[(0 + (Int.toNat (IntKind.wrap .i64 ((IntKind.wrap .i64 (j + n)) - (1 : Int)))))]? fun x2 =>
        if (((0 : Int) ≤ (IntKind.wrap .i64 (n - (1 : Int)))) ∧ ((IntKind.wrap .i64 (n - (1 : Int))) < ((v : Nat) : Int))) then
          Option.bind (vs)[(0 + (Int.toNat (IntKind.wrap .i64 (n - (1 : Int)))))]? fun x3 =>
          if ((IntKind.wrap .u64 x3) = (0 : Int)) then
            none
          else
          if (((0 : Int) ≤ (IntKind.wrap .i64 (n - (1 : Int)))) ∧ ((IntKind.wrap .i64 (n - (1 : Int))) < ((v : Nat) : Int))) then
            Option.bind (vs)[(0 + (Int.toNat (IntKind.wrap .i64 (n - (1 : Int)))))]? fun x4 =>
            if ((IntKind.wrap .u64 x4) = (0 : Int)) then
              none
            else
            Option.bind (Lbig_long_4 k k q bits n u v j (IntKind.wrap .u64 (Int.tdiv (IntKind.wrap .u64 (((BitVec.toNat ((BitVec.ofInt 64 (IntKind.wrap .u64 ((IntKind.wrap .u64 x) * (4294967296 : Int)))) ||| (BitVec.ofInt 64 (IntKind.wrap .u64 x2)))) : Nat) : Int)) (IntKind.wrap .u64 x3))) (Int.tmod (IntKind.wrap .u64 (((BitVec.toNat ((BitVec.ofInt 64 (IntKind.wrap .u64 ((IntKind.wrap .u64 x) * (4294967296 : Int)))) ||| (BitVec.ofInt 64 (IntKind.wrap .u64 x2)))) : Nat) : Int)) (IntKind.wrap .u64 x4)) qs us vs) fun r10 =>
            if (((0 : Int) ≤ r10.2.2.2.2.2.1) ∧ ((r10.2.2.2.2.2.1 ≤ (IntKind.wrap .i64 ((IntKind.wrap .i64 (r10.2.2.2.2.2.1 + r10.2.2.1)) + (1 : Int)))) ∧ (((0 + (Int.toNat (IntKind.wrap .i64 ((IntKind.wrap .i64 (r10.2.2.2.2.2.1 + r10.2.2.1)) + (1 : Int))))) ≤ (List.length r10.2.2.2.2.2.2.2.2.1)) ∧ ((r10.2.2.2.2.2.1 < (IntKind.wrap .i64 ((IntKind.wrap .i64 (r10.2.2.2.2.2.1 + r10.2.2.1)) + (1 : Int)))) ∨ (false = true))))) then
              Option.bind (Fbig_take_zvq k (0 + (Int.toNat r10.2.2.2.2.2.1)) ((Int.toNat (IntKind.wrap .i64 ((IntKind.wrap .i64 (r10.2.2.2.2.2.1 + r10.2.2.1)) + (1 : Int)))) - (Int.toNat r10.2.2.2.2.2.1)) r10.2.2.2.2.1 r10.2.2.2.2.2.2.1 r10.2.2.2.2.2.2.2.2.1 r10.2.2.2.2.2.2.2.2.2) fun r11 =>
              if (((0 : Int) ≤ r10.2.2.2.2.2.1) ∧ (r10.2.2.2.2.2.1 < ((r10.1 : Nat) : Int))) then
                Option.bind (r10.2.2.2.2.2.2.2.1)[(0 + (Int.toNat r10.2.2.2.2.2.1))]? fun x5 =>
                rec r10.1 r10.2.1 r10.2.2.1 r10.2.2.2.1 r10.2.2.2.2.1 (IntKind.wrap .i64 (r10.2.2.2.2.2.1 - (1 : Int))) (List.set r10.2.2.2.2.2.2.2.1 (0 + (Int.toNat r10.2.2.2.2.2.1)) r11.1) r11.2.1 r11.2.2
              else
              none
            else
            none
          else
          none
        else
        none
      else
      none
    else
    none
  else
  (some (q, bits, n, u, qs, us, vs))
def Lbig_long_2 (k n : Nat) : Nat → Int → Int → Nat → Nat → Int → List Int → List Int → List Int → Option (Nat × Int × Int × Nat × List Int × List Int × List Int) := Nat.rec (fun _ _ _ _ _ _ _ _ _ => none) (fun _ r => Lbig_long_2s k r) n
def Lbig_long_6s (k : Nat) (rec : Nat → Nat → Int → Nat → Int → Int → List Int → List Int → List Int → Option (Nat × Nat × List Int × List Int × List Int)) (q : Nat) (r : Nat) (bits : Int) (u : Nat) (x : Int) (x1 : Int) (qs : List Int) (rs : List Int) (us : List Int) : Option (Nat × Nat × List Int × List Int × List Int) :=
  if ((decide (x1 < x)) = true) then
    if (((0 : Int) ≤ x1) ∧ (x1 < ((u : Nat) : Int))) then
      Option.bind (us)[(0 + (Int.toNat x1))]? fun x2 =>
      if (bits < (0 : Int)) then
        none
      else
      if (((0 : Int) ≤ (IntKind.wrap .i64 (x1 + (1 : Int)))) ∧ ((IntKind.wrap .i64 (x1 + (1 : Int))) < ((u : Nat) : Int))) then
        Option.bind (us)[(0 + (Int.toNat (IntKind.wrap .i64 (x1 + (1 : Int)))))]? fun x3 =>
        if ((IntKind.wrap .u64 ((32 : Int) - bits)) < (0 : Int)) then
          none
        else
        if (((0 : Int) ≤ x1) ∧ (x1 < ((r : Nat) : Int))) then
          Option.bind (rs)[(0 + (Int.toNat x1))]? fun x4 =>
          rec q r bits u x (IntKind.wrap .i64 (x1 + (1 : Int))) qs (List.set rs (0 + (Int.toNat x1)) (IntKind.wrap .u32 (((BitVec.toNat ((BitVec.ofInt 32 (Int.fdiv x2 ((2 : Int) ^ (min (Int.toNat bits) 32)))) ||| (BitVec.ofInt 32 (IntKind.wrap .u32 (IntKind.wrap .u64 ((IntKind.wrap .u64 x3) * ((2 : Int) ^ (min (Int.toNat (IntKind.wrap .u64 ((32 : Int) - bits))) 64)))))))) : Nat) : Int))) us
        else
        none
      else
      none
    else
    none
  else
  (some (q, r, qs, rs, us))
def Lbig_long_6 (k n : Nat) : Nat → Nat → Int → Nat → Int → Int → List Int → List Int → List Int → Option (Nat × Nat × List Int × List Int × List Int) := Nat.rec (fun _ _ _ _ _ _ _ _ _ => none) (fun _ r => Lbig_long_6s k r) n
def bbig_long (k : Nat) (a : List Int) (b : List Int) : Option (List Int × List Int) :=
  Option.bind (Lbig_long_0 k k a b (0 : Int)) fun r7 =>
  Option.bind (Fbig_shift k r7.1 r7.2.2) fun r8 =>
  Option.bind (Fbig_shift k r7.2.1 r7.2.2) fun r9 =>
  if (((0 : Int) ≤ (0 : Int)) ∧ (((0 : Int) ≤ (((List.length r7.2.1) : Nat) : Int)) ∧ (((0 + (Int.toNat (((List.length r7.2.1) : Nat) : Int))) ≤ (List.length r9.2)) ∧ (((0 : Int) < (((List.length r7.2.1) : Nat) : Int)) ∨ (true = true))))) then
    if (((0 : Int) ≤ (IntKind.wrap .i64 (((r8.1 : Nat) : Int) - (((List.length r7.2.1) : Nat) : Int)))) ∧ (((IntKind.wrap .i64 (((r8.1 : Nat) : Int) - (((List.length r7.2.1) : Nat) : Int))) ≤ (IntKind.wrap .i64 (((r8.1 : Nat) : Int) - (((List.length r7.2.1) : Nat) : Int)))) ∧ (((IntKind.wrap .i64 (((r8.1 : Nat) : Int) - (((List.length r7.2.1) : Nat) : Int))) * (4 : Int)) ≤ (140737488355328 : Int)))) then
      Option.bind (Lbig_long_2 k k (Int.toNat (IntKind.wrap .i64 (((r8.1 : Nat) : Int) - (((List.length r7.2.1) : Nat) : Int)))) r7.2.2 (((List.length r7.2.1) : Nat) : Int) r8.1 (Int.toNat (((List.length r7.2.1) : Nat) : Int)) (IntKind.wrap .i64 ((IntKind.wrap .i64 (((r8.1 : Nat) : Int) - (((List.length r7.2.1) : Nat) : Int))) - (1 : Int))) (List.replicate (Int.toNat (IntKind.wrap .i64 (((r8.1 : Nat) : Int) - (((List.length r7.2.1) : Nat) : Int)))) (0 : Int)) r8.2 r9.2) fun r10 =>
      if (((0 : Int) ≤ r10.2.2.1) ∧ ((r10.2.2.1 ≤ r10.2.2.1) ∧ ((r10.2.2.1 * (4 : Int)) ≤ (140737488355328 : Int)))) then
        Option.bind (Lbig_long_6 k k r10.1 (Int.toNat r10.2.2.1) r10.2.1 r10.2.2.2.1 r10.2.2.1 (0 : Int) r10.2.2.2.2.1 (List.replicate (Int.toNat r10.2.2.1) (0 : Int)) r10.2.2.2.2.2.1) fun r11 =>
        if ((0 + r11.1) ≤ (List.length r11.2.2.1)) then
          if ((0 + r11.2.1) ≤ (List.length r11.2.2.2.1)) then
            (some ((List.take r11.1 r11.2.2.1), (List.take r11.2.1 r11.2.2.2.1)))
          else
          none
        else
        none
      else
      none
    else
    none
  else
  none
def Fbig_long : Nat → List Int → List Int → Option (List Int × List Int)
  | 0, _, _ => none
  | k + 1, a, b => bbig_long k a b
def shbig_long : FS := { vs := [.a (.lf (.sl (.int .u32))), .a (.lf (.sl (.int .u32)))], bs := [] }
def rsbig_long : List FS := [{ vs := [.a (.lf (.sl (.int .u32))), .a (.lf (.sl (.int .u32)))], bs := [] }]
def Ibig_long (k : Nat) : Inst := ⟨100, shbig_long, rsbig_long, fun x => Fbig_long k x.1 x.2⟩
theorem albig_long (k : Nat) : AllI (call cf k) [Ibig_shift k, Ibig_take_zvq k] := And.intro (okbig_shift k) (And.intro (okbig_take_zvq k) (True.intro))
def hsbig_long_0 : List SS := [{ fr := [(0, .a (.lf (.sl (.int .u32)))), (1, .a (.lf (.sl (.int .u32)))), (6, .a (.lf (.int .u64)))], mem := [], nx := 0 }]
def osbig_long_0 : List OS := [⟨some 0, { fr := [(0, .a (.lf (.sl (.int .u32)))), (1, .a (.lf (.sl (.int .u32)))), (6, .a (.lf (.int .u64)))], mem := [], nx := 0 }⟩]
def LIbig_long_0 (k : Nat) : LInst := ⟨0, hsbig_long_0, osbig_long_0, fun x => Lbig_long_0 k k x.1 x.2.1 x.2.2⟩
theorem anbig_long_0 (k : Nat) : LAll (LOk (R := DS OS.D osbig_long_0) (fun b _ σ K => LOt Ty (kps 100) 0 b σ K []) cf (call cf k) (kps 100) Tryz.f100.ntmps k 0) 0 (lb Tryz.f100 0) :=
  And.intro (And.intro (True.intro) (And.intro (True.intro) (True.intro))) (True.intro)
theorem stbig_long_0 (k n : Nat) (x : DS SS.D hsbig_long_0) : Lbig_long_0 k (n + 1) x.1 x.2.1 x.2.2 = encSK SS.enc (fun σ => run2 cf (fun f a b K => COt f a b K [Ibig_shift k, Ibig_take_zvq k]) (fun b _ σ K => LOt Ty (kps 100) 0 b σ K []) Tryz.f100.ntmps 0 (lb Tryz.f100 0) σ (nextK Ty (kps 100 0) 0 hsbig_long_0 osbig_long_0 fun x => Lbig_long_0 k n x.1 x.2.1 x.2.2)) hsbig_long_0 x := by kernel_rfl
theorem lobig_long_0 (k : Nat) : LIOk cf (call cf k) (kps 100) Tryz.f100.ntmps k 0 0 (lb Tryz.f100 0) (LIbig_long_0 k) :=
  loop_ok (c := cf) (callF := call cf k) (kp := kps 100) (nt := Tryz.f100.ntmps) (k := k) (p := 0) (b := 0) (x0 := lb Tryz.f100 0) (hs := hsbig_long_0) (os := osbig_long_0) (COt_ok (albig_long k)) (anbig_long_0 k) (fun n x => Lbig_long_0 k n x.1 x.2.1 x.2.2) (fun _ => rfl) (stbig_long_0 k)
def hsbig_long_4 : List SS := [{ fr := [(4, .a (.smz 0)), (6, .a (.lf (.int .u64))), (7, .a (.lf (.int .i64))), (8, .a (.smz 1)), (9, .a (.smz 2)), (10, .a (.lf (.int .i64))), (12, .a (.lf (.int .u64))), (13, .a (.lf (.int .u64)))], mem := [(0, some (.arr (.int .u32) 1 40 false)), (1, some (.arr (.int .u32) 1 40 false)), (2, some (.arr (.int .u32) 1 40 false))], nx := 3 }]
def osbig_long_4 : List OS := [⟨some 4, { fr := [(4, .a (.smz 0)), (6, .a (.lf (.int .u64))), (7, .a (.lf (.int .i64))), (8, .a (.smz 1)), (9, .a (.smz 2)), (10, .a (.lf (.int .i64))), (12, .a (.lf (.int .u64)))], mem := [(0, some (.arr (.int .u32) 1 40 false)), (1, some (.arr (.int .u32) 1 40 false)), (2, some (.arr (.int .u32) 1 40 false))], nx := 3 }⟩]
def LIbig_long_4 (k : Nat) : LInst := ⟨4, hsbig_long_4, osbig_long_4, fun x => Lbig_long_4 k k x.1 x.2.1 x.2.2.1 x.2.2.2.1 x.2.2.2.2.1 x.2.2.2.2.2.1 x.2.2.2.2.2.2.1 x.2.2.2.2.2.2.2.1 x.2.2.2.2.2.2.2.2.1 x.2.2.2.2.2.2.2.2.2.1 x.2.2.2.2.2.2.2.2.2.2⟩
theorem anbig_long_4 (k : Nat) : LAll (LOk (R := DS OS.D osbig_long_4) (fun b _ σ K => LOt Ty (kps 100) 0 b σ K [LIbig_long_0 k]) cf (call cf k) (kps 100) Tryz.f100.ntmps k 0) 4 (lb Tryz.f100 2) :=
  And.intro (And.intro (True.intro) (And.intro (True.intro) (True.intro))) (And.intro (True.intro) (And.intro (True.intro) (And.intro (True.intro) (And.intro (True.intro) (True.intro)))))
theorem stbig_long_4 (k n : Nat) (x : DS SS.D hsbig_long_4) : Lbig_long_4 k (n + 1) x.1 x.2.1 x.2.2.1 x.2.2.2.1 x.2.2.2.2.1 x.2.2.2.2.2.1 x.2.2.2.2.2.2.1 x.2.2.2.2.2.2.2.1 x.2.2.2.2.2.2.2.2.1 x.2.2.2.2.2.2.2.2.2.1 x.2.2.2.2.2.2.2.2.2.2 = encSK SS.enc (fun σ => run2 cf (fun f a b K => COt f a b K [Ibig_shift k, Ibig_take_zvq k]) (fun b _ σ K => LOt Ty (kps 100) 0 b σ K [LIbig_long_0 k]) Tryz.f100.ntmps 4 (lb Tryz.f100 2) σ (nextK Ty (kps 100 4) 0 hsbig_long_4 osbig_long_4 fun x => Lbig_long_4 k n x.1 x.2.1 x.2.2.1 x.2.2.2.1 x.2.2.2.2.1 x.2.2.2.2.2.1 x.2.2.2.2.2.2.1 x.2.2.2.2.2.2.2.1 x.2.2.2.2.2.2.2.2.1 x.2.2.2.2.2.2.2.2.2.1 x.2.2.2.2.2.2.2.2.2.2)) hsbig_long_4 x := by kernel_rfl
theorem lobig_long_4 (k : Nat) : LIOk cf (call cf k) (kps 100) Tryz.f100.ntmps k 0 4 (lb Tryz.f100 2) (LIbig_long_4 k) :=
  loop_ok (c := cf) (callF := call cf k) (kp := kps 100) (nt := Tryz.f100.ntmps) (k := k) (p := 0) (b := 4) (x0 := lb Tryz.f100 2) (hs := hsbig_long_4) (os := osbig_long_4) (COt_ok (albig_long k)) (anbig_long_4 k) (fun n x => Lbig_long_4 k n x.1 x.2.1 x.2.2.1 x.2.2.2.1 x.2.2.2.2.1 x.2.2.2.2.2.1 x.2.2.2.2.2.2.1 x.2.2.2.2.2.2.2.1 x.2.2.2.2.2.2.2.2.1 x.2.2.2.2.2.2.2.2.2.1 x.2.2.2.2.2.2.2.2.2.2) (fun _ => rfl) (stbig_long_4 k)
def hsbig_long_2 : List SS := [{ fr := [(4, .a (.smz 0)), (6, .a (.lf (.int .u64))), (7, .a (.lf (.int .i64))), (8, .a (.smz 1)), (9, .a (.smz 2)), (10, .a (.lf (.int .i64)))], mem := [(0, some (.arr (.int .u32) 1 40 false)), (1, some (.arr (.int .u32) 1 40 false)), (2, some (.arr (.int .u32) 1 40 false))], nx := 3 }]
def osbig_long_2 : List OS := [⟨some 2, { fr := [(4, .a (.smz 0)), (6, .a (.lf (.int .u64))), (7, .a (.lf (.int .i64))), (8, .a (.smz 1))], mem := [(0, some (.arr (.int .u32) 1 40 false)), (1, some (.arr (.int .u32) 1 40 false)), (2, some (.arr (.int .u32) 1 40 false))], nx := 3 }⟩]
def LIbig_long_2 (k : Nat) : LInst := ⟨2, hsbig_long_2, osbig_long_2, fun x => Lbig_long_2 k k x.1 x.2.1 x.2.2.1 x.2.2.2.1 x.2.2.2.2.1 x.2.2.2.2.2.1 x.2.2.2.2.2.2.1 x.2.2.2.2.2.2.2.1 x.2.2.2.2.2.2.2.2⟩
theorem anbig_long_2 (k : Nat) : LAll (LOk (R := DS OS.D osbig_long_2) (fun b _ σ K => LOt Ty (kps 100) 0 b σ K [LIbig_long_0 k, LIbig_long_4 k]) cf (call cf k) (kps 100) Tryz.f100.ntmps k 0) 2 (lb Tryz.f100 1) :=
  And.intro (And.intro (True.intro) (And.intro (True.intro) (True.intro))) (And.intro (And.intro (True.intro) (And.intro (True.intro) (And.intro (LOt_ok (c := cf) (callF := call cf k) (kp := kps 100) (nt := Tryz.f100.ntmps) (k := k) (p := 0) (b := 4) (x0 := lb Tryz.f100 2) (l := [LIbig_long_0 k, LIbig_long_4 k]) (And.intro (fun h => absurd (show (0 : Nat) = 4 from h) (by decide)) (And.intro (fun _ => lobig_long_4 k) (True.intro)))) (True.intro)))) (True.intro))
theorem stbig_long_2 (k n : Nat) (x : DS SS.D hsbig_long_2) : Lbig_long_2 k (n + 1) x.1 x.2.1 x.2.2.1 x.2.2.2.1 x.2.2.2.2.1 x.2.2.2.2.2.1 x.2.2.2.2.2.2.1 x.2.2.2.2.2.2.2.1 x.2.2.2.2.2.2.2.2 = encSK SS.enc (fun σ => run2 cf (fun f a b K => COt f a b K [Ibig_shift k, Ibig_take_zvq k]) (fun b _ σ K => LOt Ty (kps 100) 0 b σ K [LIbig_long_0 k, LIbig_long_4 k]) Tryz.f100.ntmps 2 (lb Tryz.f100 1) σ (nextK Ty (kps 100 2) 0 hsbig_long_2 osbig_long_2 fun x => Lbig_long_2 k n x.1 x.2.1 x.2.2.1 x.2.2.2.1 x.2.2.2.2.1 x.2.2.2.2.2.1 x.2.2.2.2.2.2.1 x.2.2.2.2.2.2.2.1 x.2.2.2.2.2.2.2.2)) hsbig_long_2 x := by kernel_rfl
theorem lobig_long_2 (k : Nat) : LIOk cf (call cf k) (kps 100) Tryz.f100.ntmps k 0 2 (lb Tryz.f100 1) (LIbig_long_2 k) :=
  loop_ok (c := cf) (callF := call cf k) (kp := kps 100) (nt := Tryz.f100.ntmps) (k := k) (p := 0) (b := 2) (x0 := lb Tryz.f100 1) (hs := hsbig_long_2) (os := osbig_long_2) (COt_ok (albig_long k)) (anbig_long_2 k) (fun n x => Lbig_long_2 k n x.1 x.2.1 x.2.2.1 x.2.2.2.1 x.2.2.2.2.1 x.2.2.2.2.2.1 x.2.2.2.2.2.2.1 x.2.2.2.2.2.2.2.1 x.2.2.2.2.2.2.2.2) (fun _ => rfl) (stbig_long_2 k)
def hsbig_long_6 : List SS := [{ fr := [(4, .a (.smz 0)), (5, .a (.smz 1)), (6, .a (.lf (.int .u64))), (8, .a (.smz 2)), (139, .a (.lf (.int .i64))), (140, .a (.lf (.int .i64)))], mem := [(0, some (.arr (.int .u32) 1 40 false)), (1, some (.arr (.int .u32) 1 40 false)), (2, some (.arr (.int .u32) 1 40 false))], nx := 3 }]
def osbig_long_6 : List OS := [⟨some 6, { fr := [(4, .a (.smz 0)), (5, .a (.smz 1))], mem := [(0, some (.arr (.int .u32) 1 40 false)), (1, some (.arr (.int .u32) 1 40 false)), (2, some (.arr (.int .u32) 1 40 false))], nx := 3 }⟩]
def LIbig_long_6 (k : Nat) : LInst := ⟨6, hsbig_long_6, osbig_long_6, fun x => Lbig_long_6 k k x.1 x.2.1 x.2.2.1 x.2.2.2.1 x.2.2.2.2.1 x.2.2.2.2.2.1 x.2.2.2.2.2.2.1 x.2.2.2.2.2.2.2.1 x.2.2.2.2.2.2.2.2⟩
theorem anbig_long_6 (k : Nat) : LAll (LOk (R := DS OS.D osbig_long_6) (fun b _ σ K => LOt Ty (kps 100) 0 b σ K [LIbig_long_0 k, LIbig_long_4 k, LIbig_long_2 k]) cf (call cf k) (kps 100) Tryz.f100.ntmps k 0) 6 (lb Tryz.f100 3) :=
  And.intro (True.intro) (And.intro (And.intro (True.intro) (True.intro)) (And.intro (And.intro (True.intro) (True.intro)) (True.intro)))
theorem stbig_long_6 (k n : Nat) (x : DS SS.D hsbig_long_6) : Lbig_long_6 k (n + 1) x.1 x.2.1 x.2.2.1 x.2.2.2.1 x.2.2.2.2.1 x.2.2.2.2.2.1 x.2.2.2.2.2.2.1 x.2.2.2.2.2.2.2.1 x.2.2.2.2.2.2.2.2 = encSK SS.enc (fun σ => run2 cf (fun f a b K => COt f a b K [Ibig_shift k, Ibig_take_zvq k]) (fun b _ σ K => LOt Ty (kps 100) 0 b σ K [LIbig_long_0 k, LIbig_long_4 k, LIbig_long_2 k]) Tryz.f100.ntmps 6 (lb Tryz.f100 3) σ (nextK Ty (kps 100 6) 0 hsbig_long_6 osbig_long_6 fun x => Lbig_long_6 k n x.1 x.2.1 x.2.2.1 x.2.2.2.1 x.2.2.2.2.1 x.2.2.2.2.2.1 x.2.2.2.2.2.2.1 x.2.2.2.2.2.2.2.1 x.2.2.2.2.2.2.2.2)) hsbig_long_6 x := by kernel_rfl
theorem lobig_long_6 (k : Nat) : LIOk cf (call cf k) (kps 100) Tryz.f100.ntmps k 0 6 (lb Tryz.f100 3) (LIbig_long_6 k) :=
  loop_ok (c := cf) (callF := call cf k) (kp := kps 100) (nt := Tryz.f100.ntmps) (k := k) (p := 0) (b := 6) (x0 := lb Tryz.f100 3) (hs := hsbig_long_6) (os := osbig_long_6) (COt_ok (albig_long k)) (anbig_long_6 k) (fun n x => Lbig_long_6 k n x.1 x.2.1 x.2.2.1 x.2.2.2.1 x.2.2.2.2.1 x.2.2.2.2.2.1 x.2.2.2.2.2.2.1 x.2.2.2.2.2.2.2.1 x.2.2.2.2.2.2.2.2) (fun _ => rfl) (stbig_long_6 k)
theorem anbig_long (k : Nat) : LAll (LOk (R := DS FS.D rsbig_long) (fun b _ σ K => LOt Ty (kps 100) 0 b σ K [LIbig_long_0 k, LIbig_long_4 k, LIbig_long_2 k, LIbig_long_6 k]) cf (call cf k) (cf.keep 100) Tryz.f100.ntmps k shbig_long.bs.length) 0 (bd Tryz.f100) :=
  And.intro (True.intro) (And.intro (True.intro) (And.intro (LOt_ok (c := cf) (callF := call cf k) (kp := kps 100) (nt := Tryz.f100.ntmps) (k := k) (p := 0) (b := 0) (x0 := lb Tryz.f100 0) (l := [LIbig_long_0 k, LIbig_long_4 k, LIbig_long_2 k, LIbig_long_6 k]) (And.intro (fun _ => lobig_long_0 k) (And.intro (fun h => absurd (show (4 : Nat) = 0 from h) (by decide)) (And.intro (fun h => absurd (show (2 : Nat) = 0 from h) (by decide)) (And.intro (fun h => absurd (show (6 : Nat) = 0 from h) (by decide)) (True.intro)))))) (And.intro (True.intro) (And.intro (True.intro) (And.intro (True.intro) (And.intro (And.intro (True.intro) (LOt_ok (c := cf) (callF := call cf k) (kp := kps 100) (nt := Tryz.f100.ntmps) (k := k) (p := 0) (b := 2) (x0 := lb Tryz.f100 1) (l := [LIbig_long_0 k, LIbig_long_4 k, LIbig_long_2 k, LIbig_long_6 k]) (And.intro (fun h => absurd (show (0 : Nat) = 2 from h) (by decide)) (And.intro (fun h => absurd (show (4 : Nat) = 2 from h) (by decide)) (And.intro (fun _ => lobig_long_2 k) (And.intro (fun h => absurd (show (6 : Nat) = 2 from h) (by decide)) (True.intro))))))) (And.intro (True.intro) (And.intro (And.intro (True.intro) (LOt_ok (c := cf) (callF := call cf k) (kp := kps 100) (nt := Tryz.f100.ntmps) (k := k) (p := 0) (b := 6) (x0 := lb Tryz.f100 3) (l := [LIbig_long_0 k, LIbig_long_4 k, LIbig_long_2 k, LIbig_long_6 k]) (And.intro (fun h => absurd (show (0 : Nat) = 6 from h) (by decide)) (And.intro (fun h => absurd (show (4 : Nat) = 6 from h) (by decide)) (And.intro (fun h => absurd (show (2 : Nat) = 6 from h) (by decide)) (And.intro (fun _ => lobig_long_6 k) (True.intro))))))) (And.intro (True.intro) (True.intro))))))))))
theorem stbig_long (k : Nat) (x : shbig_long.D) : Fbig_long (k + 1) x.1 x.2 = body2 cf (fun f a b K => COt f a b K [Ibig_shift k, Ibig_take_zvq k]) (fun b _ σ K => LOt Ty (kps 100) 0 b σ K [LIbig_long_0 k, LIbig_long_4 k, LIbig_long_2 k, LIbig_long_6 k]) 100 Tryz.f100.ntmps Tryz.f100.results.toList (bd Tryz.f100) (shbig_long.enc x).1 (shbig_long.enc x).2 (putS FS.dec rsbig_long) := by kernel_rfl
theorem okbig_long : ∀ k, InstOk (call cf k) (Ibig_long k)
  | 0 => fun x y e => absurd (show (none : Option _) = some y from e) (by simp)
  | k + 1 => inst_ok (c := cf) (k := k) (f := 100) (fn := Tryz.f100) (body := bd Tryz.f100) (sh := shbig_long) (os := rsbig_long) rfl Tryz.func100 rfl ⟨rfl, Nat.le_of_ble_eq_true rfl⟩ (COt_ok (albig_long k)) (anbig_long k) (fun x => Fbig_long (k + 1) x.1 x.2) (stbig_long k)

/-! shunt/big.divide -/
def bbig_divide (k : Nat) (a : List Int) (b : List Int) : Option (List Int × List Int) :=
  Option.bind (Fbig_cmp k a b) fun r6 =>
  if ((decide (r6 < (0 : Int))) = true) then
    (some ([], a))
  else
  if (((((List.length b) : Nat) : Int) == (1 : Int)) = true) then
    Option.bind (b)[0]? fun x =>
    Option.bind (Fbig_short k a x) fun r7 =>
    (some (r7.1, (List.take 1 (r7.2 :: []))))
  else
  Option.bind (Fbig_long k a b) fun r7 =>
  (some (r7.1, r7.2))
def Fbig_divide : Nat → List Int → List Int → Option (List Int × List Int)
  | 0, _, _ => none
  | k + 1, a, b => bbig_divide k a b
def shbig_divide : FS := { vs := [.a (.lf (.sl (.int .u32))), .a (.lf (.sl (.int .u32)))], bs := [] }
def rsbig_divide : List FS := [{ vs := [.a (.lf (.sl (.int .u32))), .a (.lf (.sl (.int .u32)))], bs := [] }]
def Ibig_divide (k : Nat) : Inst := ⟨94, shbig_divide, rsbig_divide, fun x => Fbig_divide k x.1 x.2⟩
theorem albig_divide (k : Nat) : AllI (call cf k) [Ibig_cmp k, Ibig_short k, Ibig_long k] := And.intro (okbig_cmp k) (And.intro (okbig_short k) (And.intro (okbig_long k) (True.intro)))
theorem anbig_divide (k : Nat) : LAll (LOk (R := DS FS.D rsbig_divide) (fun b _ σ K => LOt Ty (kps 94) 0 b σ K []) cf (call cf k) (cf.keep 94) Tryz.f94.ntmps k shbig_divide.bs.length) 0 (bd Tryz.f94) :=
  And.intro (True.intro) (And.intro (And.intro (True.intro) (And.intro (And.intro (True.intro) (True.intro)) (And.intro (True.intro) (And.intro (And.intro (True.intro) (And.intro (True.intro) (True.intro))) (True.intro))))) (And.intro (True.intro) (True.intro)))
theorem stbig_divide (k : Nat) (x : shbig_divide.D) : Fbig_divide (k + 1) x.1 x.2 = body2 cf (fun f a b K => COt f a b K [Ibig_cmp k, Ibig_short k, Ibig_long k]) (fun b _ σ K => LOt Ty (kps 94) 0 b σ K []) 94 Tryz.f94.ntmps Tryz.f94.results.toList (bd Tryz.f94) (shbig_divide.enc x).1 (shbig_divide.enc x).2 (putS FS.dec rsbig_divide) := by kernel_rfl
theorem okbig_divide : ∀ k, InstOk (call cf k) (Ibig_divide k)
  | 0 => fun x y e => absurd (show (none : Option _) = some y from e) (by simp)
  | k + 1 => inst_ok (c := cf) (k := k) (f := 94) (fn := Tryz.f94) (body := bd Tryz.f94) (sh := shbig_divide) (os := rsbig_divide) rfl Tryz.func94 rfl ⟨rfl, Nat.le_of_ble_eq_true rfl⟩ (COt_ok (albig_divide k)) (anbig_divide k) (fun x => Fbig_divide (k + 1) x.1 x.2) (stbig_divide k)

/-! (*shunt/big.Int).set -/
def bbig_Int_set_cvg (k : Nat) (neg : Bool) (w : List Int) (z : Bool) : Option (Bool × List Int) :=
  Option.bind (Fbig_trim k w) fun r7 =>
  if (neg = true) then
    (some ((decide ((((List.length r7) : Nat) : Int) > (0 : Int))), r7))
  else
  (some (false, r7))
def Fbig_Int_set_cvg : Nat → Bool → List Int → Bool → Option (Bool × List Int)
  | 0, _, _, _ => none
  | k + 1, neg, w, z => bbig_Int_set_cvg k neg w z
def shbig_Int_set_cvg : FS := { vs := [.a (.ptr 0 0 0), .a (.lf .bool), .a (.lf (.sl (.int .u32)))], bs := [.raw [[.lf .bool, .snil 1 40]] 2 77 true false] }
def rsbig_Int_set_cvg : List FS := [{ vs := [.a (.ptr 0 0 0)], bs := [.raw [[.lf .bool, .lf (.sl (.int .u32))]] 2 77 true false] }]
def Ibig_Int_set_cvg (k : Nat) : Inst := ⟨75, shbig_Int_set_cvg, rsbig_Int_set_cvg, fun x => Fbig_Int_set_cvg k x.1 x.2.1 x.2.2⟩
theorem albig_Int_set_cvg (k : Nat) : AllI (call cf k) [Ibig_trim k] := And.intro (okbig_trim k) (True.intro)
theorem anbig_Int_set_cvg (k : Nat) : LAll (LOk (R := DS FS.D rsbig_Int_set_cvg) (fun b _ σ K => LOt Ty (kps 75) 1 b σ K []) cf (call cf k) (cf.keep 75) Tryz.f75.ntmps k shbig_Int_set_cvg.bs.length) 0 (bd Tryz.f75) :=
  And.intro (True.intro) (And.intro (True.intro) (And.intro (True.intro) (And.intro (True.intro) (True.intro))))
theorem stbig_Int_set_cvg (k : Nat) (x : shbig_Int_set_cvg.D) : Fbig_Int_set_cvg (k + 1) x.1 x.2.1 x.2.2 = body2 cf (fun f a b K => COt f a b K [Ibig_trim k]) (fun b _ σ K => LOt Ty (kps 75) 1 b σ K []) 75 Tryz.f75.ntmps Tryz.f75.results.toList (bd Tryz.f75) (shbig_Int_set_cvg.enc x).1 (shbig_Int_set_cvg.enc x).2 (putS FS.dec rsbig_Int_set_cvg) := by kernel_rfl
theorem okbig_Int_set_cvg : ∀ k, InstOk (call cf k) (Ibig_Int_set_cvg k)
  | 0 => fun x y e => absurd (show (none : Option _) = some y from e) (by simp)
  | k + 1 => inst_ok (c := cf) (k := k) (f := 75) (fn := Tryz.f75) (body := bd Tryz.f75) (sh := shbig_Int_set_cvg) (os := rsbig_Int_set_cvg) rfl Tryz.func75 rfl ⟨rfl, Nat.le_of_ble_eq_true rfl⟩ (COt_ok (albig_Int_set_cvg k)) (anbig_Int_set_cvg k) (fun x => Fbig_Int_set_cvg (k + 1) x.1 x.2.1 x.2.2) (stbig_Int_set_cvg k)

/-! shunt/big.Gcd -/
def Lbig_Gcd_ddu_0s (k : Nat) (rec : List Int → List Int → Bool → List Int → Bool → List Int → Option (List Int × Bool × List Int × Bool × List Int)) (a : List Int) (b : List Int) (m0 : Bool) (m1 : List Int) (m01 : Bool) (m11 : List Int) : Option (List Int × Bool × List Int × Bool × List Int) :=
  if ((decide ((((List.length b) : Nat) : Int) > (0 : Int))) = true) then
    Option.bind (Fbig_divide k a b) fun r6 =>
    if (((0 + (List.length r6.2)) * 4) ≤ 140737488355328) then
      if ((0 + (0 + (List.length r6.2))) ≤ (List.length ((List.take 0 []) ++ r6.2))) then
        Option.bind (Fbig_trim k (List.take (0 + (List.length r6.2)) ((List.take 0 []) ++ r6.2))) fun r7 =>
        rec b r7 m0 m1 m01 m11
      else
      none
    else
    none
  else
  (some (a, m0, m1, m01, m11))
def Lbig_Gcd_ddu_0 (k n : Nat) : List Int → List Int → Bool → List Int → Bool → List Int → Option (List Int × Bool × List Int × Bool × List Int) := Nat.rec (fun _ _ _ _ _ _ => none) (fun _ r => Lbig_Gcd_ddu_0s k r) n
def bbig_Gcd_ddu (k : Nat) (x0 : Bool) (x1 : List Int) (y0 : Bool) (y1 : List Int) : Option (Bool × List Int × Bool × List Int × Bool × List Int) :=
  Option.bind (Lbig_Gcd_ddu_0 k k x1 y1 x0 x1 y0 y1) fun r6 =>
  Option.bind (Fbig_Int_set_cvg k false r6.1 false) fun r7 =>
  (some (r6.2.1, r6.2.2.1, r6.2.2.2.1, r6.2.2.2.2, r7.1, r7.2))
def Fbig_Gcd_ddu : Nat → Bool → List Int → Bool → List Int → Option (Bool × List Int × Bool × List Int × Bool × List Int)
  | 0, _, _, _, _ => none
  | k + 1, x0, x1, y0, y1 => bbig_Gcd_ddu k x0 x1 y0 y1
def shbig_Gcd_ddu : FS := { vs := [.a (.ptr 0 0 0), .a (.ptr 1 0 0)], bs := [.raw [[.lf .bool, .lf (.sl (.int .u32))]] 2 77 true false, .raw [[.lf .bool, .lf (.sl (.int .u32))]] 2 77 true false] }
def rsbig_Gcd_ddu : List FS := [{ vs := [.a (.ptr 2 0 0)], bs := [.raw [[.lf .bool, .lf (.sl (.int .u32))]] 2 77 true false, .raw [[.lf .bool, .lf (.sl (.int .u32))]] 2 77 true false, .raw [[.lf .bool, .lf (.sl (.int .u32))]] 2 77 true false] }]
def Ibig_Gcd_ddu (k : Nat) : Inst := ⟨73, shbig_Gcd_ddu, rsbig_Gcd_ddu, fun x => Fbig_Gcd_ddu k x.1 x.2.1 x.2.2.1 x.2.2.2⟩
theorem albig_Gcd_ddu (k : Nat) : AllI (call cf k) [Ibig_divide k, Ibig_trim k, Ibig_Int_set_cvg k] := And.intro (okbig_divide k) (And.intro (okbig_trim k) (And.intro (okbig_Int_set_cvg k) (True.intro)))
def hsbig_Gcd_ddu_0 : List SS := [{ fr := [(5, .a (.lf (.sl (.int .u32)))), (6, .a (.lf (.sl (.int .u32))))], mem := [(0, some (.raw [[.lf .bool, .lf (.sl (.int .u32))]] 2 77 true false)), (1, some (.raw [[.lf .bool, .lf (.sl (.int .u32))]] 2 77 true false))], nx := 2 }]
def osbig_Gcd_ddu_0 : List OS := [⟨some 0, { fr := [(5, .a (.lf (.sl (.int .u32))))], mem := [(0, some (.raw [[.lf .bool, .lf (.sl (.int .u32))]] 2 77 true false)), (1, some (.raw [[.lf .bool, .lf (.sl (.int .u32))]] 2 77 true false))], nx := 2 }⟩]
def LIbig_Gcd_ddu_0 (k : Nat) : LInst := ⟨0, hsbig_Gcd_ddu_0, osbig_Gcd_ddu_0, fun x => Lbig_Gcd_ddu_0 k k x.1 x.2.1 x.2.2.1 x.2.2.2.1 x.2.2.2.2.1 x.2.2.2.2.2⟩
theorem anbig_Gcd_ddu_0 (k : Nat) : LAll (LOk (R := DS OS.D osbig_Gcd_ddu_0) (fun b _ σ K => LOt Ty (kps 73) 2 b σ K []) cf (call cf k) (kps 73) Tryz.f73.ntmps k 2) 0 (lb Tryz.f73 0) :=
  And.intro (And.intro (True.intro) (And.intro (True.intro) (True.intro))) (And.intro (True.intro) (True.intro))
theorem stbig_Gcd_ddu_0 (k n : Nat) (x : DS SS.D hsbig_Gcd_ddu_0) : Lbig_Gcd_ddu_0 k (n + 1) x.1 x.2.1 x.2.2.1 x.2.2.2.1 x.2.2.2.2.1 x.2.2.2.2.2 = encSK SS.enc (fun σ => run2 cf (fun f a b K => COt f a b K [Ibig_divide k, Ibig_trim k, Ibig_Int_set_cvg k]) (fun b _ σ K => LOt Ty (kps 73) 2 b σ K []) Tryz.f73.ntmps 0 (lb Tryz.f73 0) σ (nextK Ty (kps 73 0) 2 hsbig_Gcd_ddu_0 osbig_Gcd_ddu_0 fun x => Lbig_Gcd_ddu_0 k n x.1 x.2.1 x.2.2.1 x.2.2.2.1 x.2.2.2.2.1 x.2.2.2.2.2)) hsbig_Gcd_ddu_0 x := by kernel_rfl
theorem lobig_Gcd_ddu_0 (k : Nat) : LIOk cf (call cf k) (kps 73) Tryz.f73.ntmps k 2 0 (lb Tryz.f73 0) (LIbig_Gcd_ddu_0 k) :=
  loop_ok (c := cf) (callF := call cf k) (kp := kps 73) (nt := Tryz.f73.ntmps) (k := k) (p := 2) (b := 0) (x0 := lb Tryz.f73 0) (hs := hsbig_Gcd_ddu_0) (os := osbig_Gcd_ddu_0) (COt_ok (albig_Gcd_ddu k)) (anbig_Gcd_ddu_0 k) (fun n x => Lbig_Gcd_ddu_0 k n x.1 x.2.1 x.2.2.1 x.2.2.2.1 x.2.2.2.2.1 x.2.2.2.2.2) (fun _ => rfl) (stbig_Gcd_ddu_0 k)
theorem anbig_Gcd_ddu (k : Nat) : LAll (LOk (R := DS FS.D rsbig_Gcd_ddu) (fun b _ σ K => LOt Ty (kps 73) 2 b σ K [LIbig_Gcd_ddu_0 k]) cf (call cf k) (cf.keep 73) Tryz.f73.ntmps k shbig_Gcd_ddu.bs.length) 0 (bd Tryz.f73) :=
  And.intro (True.intro) (And.intro (True.intro) (And.intro (LOt_ok (c := cf) (callF := call cf k) (kp := kps 73) (nt := Tryz.f73.ntmps) (k := k) (p := 2) (b := 0) (x0 := lb Tryz.f73 0) (l := [LIbig_Gcd_ddu_0 k]) (And.intro (fun _ => lobig_Gcd_ddu_0 k) (True.intro))) (And.intro (True.intro) (True.intro))))
theorem stbig_Gcd_ddu (k : Nat) (x : shbig_Gcd_ddu.D) : Fbig_Gcd_ddu (k + 1) x.1 x.2.1 x.2.2.1 x.2.2.2 = body2 cf (fun f a b K => COt f a b K [Ibig_divide k, Ibig_trim k, Ibig_Int_set_cvg k]) (fun b _ σ K => LOt Ty (kps 73) 2 b σ K [LIbig_Gcd_ddu_0 k]) 73 Tryz.f73.ntmps Tryz.f73.results.toList (bd Tryz.f73) (shbig_Gcd_ddu.enc x).1 (shbig_Gcd_ddu.enc x).2 (putS FS.dec rsbig_Gcd_ddu) := by kernel_rfl
theorem okbig_Gcd_ddu : ∀ k, InstOk (call cf k) (Ibig_Gcd_ddu k)
  | 0 => fun x y e => absurd (show (none : Option _) = some y from e) (by simp)
  | k + 1 => inst_ok (c := cf) (k := k) (f := 73) (fn := Tryz.f73) (body := bd Tryz.f73) (sh := shbig_Gcd_ddu) (os := rsbig_Gcd_ddu) rfl Tryz.func73 rfl ⟨rfl, Nat.le_of_ble_eq_true rfl⟩ (COt_ok (albig_Gcd_ddu k)) (anbig_Gcd_ddu k) (fun x => Fbig_Gcd_ddu (k + 1) x.1 x.2.1 x.2.2.1 x.2.2.2) (stbig_Gcd_ddu k)

/-! (*shunt/big.Int).QuoRem -/
def bbig_Int_QuoRem_gsh (k : Nat) (z : Bool) (x0 : Bool) (x1 : List Int) (y0 : Bool) (y1 : List Int) (r : Bool) : Option (Bool × List Int × Bool × List Int × Bool × List Int × Bool × List Int) :=
  Option.bind (Fbig_divide k x1 y1) fun r7 =>
  Option.bind (Fbig_Int_set_cvg k x0 r7.2 r) fun r8 =>
  Option.bind (Fbig_Int_set_cvg k (!(x0 == y0)) r7.1 z) fun r9 =>
  (some (r9.1, r9.2, x0, x1, y0, y1, r8.1, r8.2))
def Fbig_Int_QuoRem_gsh : Nat → Bool → Bool → List Int → Bool → List Int → Bool → Option (Bool × List Int × Bool × List Int × Bool × List Int × Bool × List Int)
  | 0, _, _, _, _, _, _ => none
  | k + 1, z, x0, x1, y0, y1, r => bbig_Int_QuoRem_gsh k z x0 x1 y0 y1 r
def shbig_Int_QuoRem_gsh : FS := { vs := [.a (.ptr 0 0 0), .a (.ptr 1 0 0), .a (.ptr 2 0 0), .a (.ptr 3 0 0)], bs := [.raw [[.lf .bool, .snil 1 40]] 2 77 true false, .raw [[.lf .bool, .lf (.sl (.int .u32))]] 2 77 true false, .raw [[.lf .bool, .lf (.sl (.int .u32))]] 2 77 true false, .raw [[.lf .bool, .snil 1 40]] 2 77 true false] }
def rsbig_Int_QuoRem_gsh : List FS := [{ vs := [.a (.ptr 0 0 0), .a (.ptr 3 0 0)], bs := [.raw [[.lf .bool, .lf (.sl (.int .u32))]] 2 77 true false, .raw [[.lf .bool, .lf (.sl (.int .u32))]] 2 77 true false, .raw [[.lf .bool, .lf (.sl (.int .u32))]] 2 77 true false, .raw [[.lf .bool, .lf (.sl (.int .u32))]] 2 77 true false] }]
def Ibig_Int_QuoRem_gsh (k : Nat) : Inst := ⟨67, shbig_Int_QuoRem_gsh, rsbig_Int_QuoRem_gsh, fun x => Fbig_Int_QuoRem_gsh k x.1 x.2.1 x.2.2.1 x.2.2.2.1 x.2.2.2.2.1 x.2.2.2.2.2⟩
theorem albig_Int_QuoRem_gsh (k : Nat) : AllI (call cf k) [Ibig_divide k, Ibig_Int_set_cvg k] := And.intro (okbig_divide k) (And.intro (okbig_Int_set_cvg k) (True.intro))
theorem anbig_Int_QuoRem_gsh (k : Nat) : LAll (LOk (R := DS FS.D rsbig_Int_QuoRem_gsh) (fun b _ σ K => LOt Ty (kps 67) 4 b σ K []) cf (call cf k) (cf.keep 67) Tryz.f67.ntmps k shbig_Int_QuoRem_gsh.bs.length) 0 (bd Tryz.f67) :=
  And.intro (True.intro) (And.intro (True.intro) (And.intro (True.intro) (And.intro (True.intro) (And.intro (True.intro) (True.intro)))))
theorem stbig_Int_QuoRem_gsh (k : Nat) (x : shbig_Int_QuoRem_gsh.D) : Fbig_Int_QuoRem_gsh (k + 1) x.1 x.2.1 x.2.2.1 x.2.2.2.1 x.2.2.2.2.1 x.2.2.2.2.2 = body2 cf (fun f a b K => COt f a b K [Ibig_divide k, Ibig_Int_set_cvg k]) (fun b _ σ K => LOt Ty (kps 67) 4 b σ K []) 67 Tryz.f67.ntmps Tryz.f67.results.toList (bd Tryz.f67) (shbig_Int_QuoRem_gsh.enc x).1 (shbig_Int_QuoRem_gsh.enc x).2 (putS FS.dec rsbig_Int_QuoRem_gsh) := by kernel_rfl
theorem okbig_Int_QuoRem_gsh : ∀ k, InstOk (call cf k) (Ibig_Int_QuoRem_gsh k)
  | 0 => fun x y e => absurd (show (none : Option _) = some y from e) (by simp)
  | k + 1 => inst_ok (c := cf) (k := k) (f := 67) (fn := Tryz.f67) (body := bd Tryz.f67) (sh := shbig_Int_QuoRem_gsh) (os := rsbig_Int_QuoRem_gsh) rfl Tryz.func67 rfl ⟨rfl, Nat.le_of_ble_eq_true rfl⟩ (COt_ok (albig_Int_QuoRem_gsh k)) (anbig_Int_QuoRem_gsh k) (fun x => Fbig_Int_QuoRem_gsh (k + 1) x.1 x.2.1 x.2.2.1 x.2.2.2.1 x.2.2.2.2.1 x.2.2.2.2.2) (stbig_Int_QuoRem_gsh k)

/-! (*shunt/big.Int).Quo -/
def bbig_Int_Quo_gsh (k : Nat) (z : Bool) (x0 : Bool) (x1 : List Int) (y0 : Bool) (y1 : List Int) : Option (Bool × List Int × Bool × List Int × Bool × List Int) :=
  Option.bind (Fbig_Int_QuoRem_gsh k z x0 x1 y0 y1 false) fun r7 =>
  (some (r7.1, r7.2.1, r7.2.2.1, r7.2.2.2.1, r7.2.2.2.2.1, r7.2.2.2.2.2.1))
def Fbig_Int_Quo_gsh : Nat → Bool → Bool → List Int → Bool → List Int → Option (Bool × List Int × Bool × List Int × Bool × List Int)
  | 0, _, _, _, _, _ => none
  | k + 1, z, x0, x1, y0, y1 => bbig_Int_Quo_gsh k z x0 x1 y0 y1
def shbig_Int_Quo_gsh : FS := { vs := [.a (.ptr 0 0 0), .a (.ptr 1 0 0), .a (.ptr 2 0 0)], bs := [.raw [[.lf .bool, .snil 1 40]] 2 77 true false, .raw [[.lf .bool, .lf (.sl (.int .u32))]] 2 77 true false, .raw [[.lf .bool, .lf (.sl (.int .u32))]] 2 77 true false] }
def rsbig_Int_Quo_gsh : List FS := [{ vs := [.a (.ptr 0 0 0)], bs := [.raw [[.lf .bool, .lf (.sl (.int .u32))]] 2 77 true false, .raw [[.lf .bool, .lf (.sl (.int .u32))]] 2 77 true false, .raw [[.lf .bool, .lf (.sl (.int .u32))]] 2 77 true false] }]
def Ibig_Int_Quo_gsh (k : Nat) : Inst := ⟨76, shbig_Int_Quo_gsh, rsbig_Int_Quo_gsh, fun x => Fbig_Int_Quo_gsh k x.1 x.2.1 x.2.2.1 x.2.2.2.1 x.2.2.2.2⟩
theorem albig_Int_Quo_gsh (k : Nat) : AllI (call cf k) [Ibig_Int_QuoRem_gsh k] := And.intro (okbig_Int_QuoRem_gsh k) (True.intro)
theorem anbig_Int_Quo_gsh (k : Nat) : LAll (LOk (R := DS FS.D rsbig_Int_Quo_gsh) (fun b _ σ K => LOt Ty (kps 76) 3 b σ K []) cf (call cf k) (cf.keep 76) Tryz.f76.ntmps k shbig_Int_Quo_gsh.bs.length) 0 (bd Tryz.f76) :=
  And.intro (True.intro) (And.intro (True.intro) (And.intro (True.intro) (True.intro)))
theorem stbig_Int_Quo_gsh (k : Nat) (x : shbig_Int_Quo_gsh.D) : Fbig_Int_Quo_gsh (k + 1) x.1 x.2.1 x.2.2.1 x.2.2.2.1 x.2.2.2.2 = body2 cf (fun f a b K => COt f a b K [Ibig_Int_QuoRem_gsh k]) (fun b _ σ K => LOt Ty (kps 76) 3 b σ K []) 76 Tryz.f76.ntmps Tryz.f76.results.toList (bd Tryz.f76) (shbig_Int_Quo_gsh.enc x).1 (shbig_Int_Quo_gsh.enc x).2 (putS FS.dec rsbig_Int_Quo_gsh) := by kernel_rfl
theorem okbig_Int_Quo_gsh : ∀ k, InstOk (call cf k) (Ibig_Int_Quo_gsh k)
  | 0 => fun x y e => absurd (show (none : Option _) = some y from e) (by simp)
  | k + 1 => inst_ok (c := cf) (k := k) (f := 76) (fn := Tryz.f76) (body := bd Tryz.f76) (sh := shbig_Int_Quo_gsh) (os := rsbig_Int_Quo_gsh) rfl Tryz.func76 rfl ⟨rfl, Nat.le_of_ble_eq_true rfl⟩ (COt_ok (albig_Int_Quo_gsh k)) (anbig_Int_Quo_gsh k) (fun x => Fbig_Int_Quo_gsh (k + 1) x.1 x.2.1 x.2.2.1 x.2.2.2.1 x.2.2.2.2) (stbig_Int_Quo_gsh k)

/-! (*shunt/big.Rat).frac -/
def bbig_Rat_frac_xda (k : Nat) (z0 : Bool) (z1 : Bool) (n0 : Bool) (n1 : List Int) (d0 : Bool) (d1 : List Int) : Option (Bool × List Int × Bool × List Int × Bool × List Int × Bool × List Int) :=
  Option.bind (Fbig_Gcd_ddu k n0 n1 d0 d1) fun r6 =>
  if (r6.2.2.1 = true) then
    Option.bind (Fbig_Int_Quo_gsh k false r6.1 r6.2.1 true r6.2.2.2.2.2) fun r7 =>
    Option.bind (Fbig_Int_Quo_gsh k false r6.2.2.1 r6.2.2.2.1 r7.2.2.2.2.1 r7.2.2.2.2.2) fun r8 =>
    (some (r7.1, r7.2.1, r8.1, r8.2.1, r7.2.2.1, r7.2.2.2.1, r8.2.2.1, r8.2.2.2.1))
  else
  Option.bind (Fbig_Int_Quo_gsh k false r6.1 r6.2.1 r6.2.2.2.2.1 r6.2.2.2.2.2) fun r7 =>
  Option.bind (Fbig_Int_Quo_gsh k false r6.2.2.1 r6.2.2.2.1 r7.2.2.2.2.1 r7.2.2.2.2.2) fun r8 =>
  (some (r7.1, r7.2.1, r8.1, r8.2.1, r7.2.2.1, r7.2.2.2.1, r8.2.2.1, r8.2.2.2.1))
def Fbig_Rat_frac_xda : Nat → Bool → Bool → Bool → List Int → Bool → List Int → Option (Bool × List Int × Bool × List Int × Bool × List Int × Bool × List Int)
  | 0, _, _, _, _, _, _ => none
  | k + 1, z0, z1, n0, n1, d0, d1 => bbig_Rat_frac_xda k z0 z1 n0 n1 d0 d1
def shbig_Rat_frac_xda : FS := { vs := [.a (.ptr 0 0 0), .a (.ptr 1 0 0), .a (.ptr 2 0 0)], bs := [.raw [[.lf .bool, .snil 1 40, .lf .bool, .snil 1 40]] 4 79 true false, .raw [[.lf .bool, .lf (.sl (.int .u32))]] 2 77 true false, .raw [[.lf .bool, .lf (.sl (.int .u32))]] 2 77 true false] }
def rsbig_Rat_frac_xda : List FS := [{ vs := [.a (.ptr 0 0 0)], bs := [.raw [[.lf .bool, .lf (.sl (.int .u32)), .lf .bool, .lf (.sl (.int .u32))]] 4 79 true false, .raw [[.lf .bool, .lf (.sl (.int .u32))]] 2 77 true false, .raw [[.lf .bool, .lf (.sl (.int .u32))]] 2 77 true false] }]
def Ibig_Rat_frac_xda (k : Nat) : Inst := ⟨48, shbig_Rat_frac_xda, rsbig_Rat_frac_xda, fun x => Fbig_Rat_frac_xda k x.1 x.2.1 x.2.2.1 x.2.2.2.1 x.2.2.2.2.1 x.2.2.2.2.2⟩
theorem albig_Rat_frac_xda (k : Nat) : AllI (call cf k) [Ibig_Gcd_ddu k, Ibig_Int_Quo_gsh k] := And.intro (okbig_Gcd_ddu k) (And.intro (okbig_Int_Quo_gsh k) (True.intro))
theorem anbig_Rat_frac_xda (k : Nat) : LAll (LOk (R := DS FS.D rsbig_Rat_frac_xda) (fun b _ σ K => LOt Ty (kps 48) 3 b σ K []) cf (call cf k) (cf.keep 48) Tryz.f48.ntmps k shbig_Rat_frac_xda.bs.length) 0 (bd Tryz.f48) :=
  And.intro (True.intro) (And.intro (True.intro) (And.intro (And.intro (True.intro) (And.intro (True.intro) (True.intro))) (And.intro (True.intro) (And.intro (True.intro) (And.intro (True.intro) (And.intro (True.intro) (And.intro (True.intro) (True.intro))))))))
theorem stbig_Rat_frac_xda (k : Nat) (x : shbig_Rat_frac_xda.D) : Fbig_Rat_frac_xda (k + 1) x.1 x.2.1 x.2.2.1 x.2.2.2.1 x.2.2.2.2.1 x.2.2.2.2.2 = body2 cf (fun f a b K => COt f a b K [Ibig_Gcd_ddu k, Ibig_Int_Quo_gsh k]) (fun b _ σ K => LOt Ty (kps 48) 3 b σ K []) 48 Tryz.f48.ntmps Tryz.f48.results.toList (bd Tryz.f48) (shbig_Rat_frac_xda.enc x).1 (shbig_Rat_frac_xda.enc x).2 (putS FS.dec rsbig_Rat_frac_xda) := by kernel_rfl
theorem okbig_Rat_frac_xda : ∀ k, InstOk (call cf k) (Ibig_Rat_frac_xda k)
  | 0 => fun x y e => absurd (show (none : Option _) = some y from e) (by simp)
  | k + 1 => inst_ok (c := cf) (k := k) (f := 48) (fn := Tryz.f48) (body := bd Tryz.f48) (sh := shbig_Rat_frac_xda) (os := rsbig_Rat_frac_xda) rfl Tryz.func48 rfl ⟨rfl, Nat.le_of_ble_eq_true rfl⟩ (COt_ok (albig_Rat_frac_xda k)) (anbig_Rat_frac_xda k) (fun x => Fbig_Rat_frac_xda (k + 1) x.1 x.2.1 x.2.2.1 x.2.2.2.1 x.2.2.2.2.1 x.2.2.2.2.2) (stbig_Rat_frac_xda k)

/-! shunt/big.Frac -/
def bbig_Frac_ddu (k : Nat) (n0 : Bool) (n1 : List Int) (d0 : Bool) (d1 : List Int) : Option (Bool × List Int × Bool × List Int × Bool × List Int × Bool × List Int) :=
  Option.bind (Fbig_Rat_frac_xda k false false n0 n1 d0 d1) fun r6 =>
  (some (r6.2.2.2.2.1, r6.2.2.2.2.2.1, r6.2.2.2.2.2.2.1, r6.2.2.2.2.2.2.2, r6.1, r6.2.1, r6.2.2.1, r6.2.2.2.1))
def Fbig_Frac_ddu : Nat → Bool → List Int → Bool → List Int → Option (Bool × List Int × Bool × List Int × Bool × List Int × Bool × List Int)
  | 0, _, _, _, _ => none
  | k + 1, n0, n1, d0, d1 => bbig_Frac_ddu k n0 n1 d0 d1
def shbig_Frac_ddu : FS := { vs := [.a (.ptr 0 0 0), .a (.ptr 1 0 0)], bs := [.raw [[.lf .bool, .lf (.sl (.int .u32))]] 2 77 true false, .raw [[.lf .bool, .lf (.sl (.int .u32))]] 2 77 true false] }
def rsbig_Frac_ddu : List FS := [{ vs := [.a (.ptr 2 0 0)], bs := [.raw [[.lf .bool, .lf (.sl (.int .u32))]] 2 77 true false, .raw [[.lf .bool, .lf (.sl (.int .u32))]] 2 77 true false, .raw [[.lf .bool, .lf (.sl (.int .u32)), .lf .bool, .lf (.sl (.int .u32))]] 4 79 true false] }]
def Ibig_Frac_ddu (k : Nat) : Inst := ⟨51, shbig_Frac_ddu, rsbig_Frac_ddu, fun x => Fbig_Frac_ddu k x.1 x.2.1 x.2.2.1 x.2.2.2⟩
theorem albig_Frac_ddu (k : Nat) : AllI (call cf k) [Ibig_Rat_frac_xda k] := And.intro (okbig_Rat_frac_xda k) (True.intro)
theorem anbig_Frac_ddu (k : Nat) : LAll (LOk (R := DS FS.D rsbig_Frac_ddu) (fun b _ σ K => LOt Ty (kps 51) 2 b σ K []) cf (call cf k) (cf.keep 51) Tryz.f51.ntmps k shbig_Frac_ddu.bs.length) 0 (bd Tryz.f51) :=
  And.intro (True.intro) (And.intro (True.intro) (True.intro))
theorem stbig_Frac_ddu (k : Nat) (x : shbig_Frac_ddu.D) : Fbig_Frac_ddu (k + 1) x.1 x.2.1 x.2.2.1 x.2.2.2 = body2 cf (fun f a b K => COt f a b K [Ibig_Rat_frac_xda k]) (fun b _ σ K => LOt Ty (kps 51) 2 b σ K []) 51 Tryz.f51.ntmps Tryz.f51.results.toList (bd Tryz.f51) (shbig_Frac_ddu.enc x).1 (shbig_Frac_ddu.enc x).2 (putS FS.dec rsbig_Frac_ddu) := by kernel_rfl
theorem okbig_Frac_ddu : ∀ k, InstOk (call cf k) (Ibig_Frac_ddu k)
  | 0 => fun x y e => absurd (show (none : Option _) = some y from e) (by simp)
  | k + 1 => inst_ok (c := cf) (k := k) (f := 51) (fn := Tryz.f51) (body := bd Tryz.f51) (sh := shbig_Frac_ddu) (os := rsbig_Frac_ddu) rfl Tryz.func51 rfl ⟨rfl, Nat.le_of_ble_eq_true rfl⟩ (COt_ok (albig_Frac_ddu k)) (anbig_Frac_ddu k) (fun x => Fbig_Frac_ddu (k + 1) x.1 x.2.1 x.2.2.1 x.2.2.2) (stbig_Frac_ddu k)

/-! (*shunt/big.Rat).Num -/
def bbig_Rat_Num_plq (k : Nat) (z0 : Bool) (z1 : List Int) (z2 : Bool) (z3 : List Int) : Option (Bool × List Int × Bool × List Int × Bool × List Int) :=
  Option.bind (Fbig_Of k z0 z1) fun r7 =>
  (some (z0, z1, z2, z3, r7.1, r7.2))
def Fbig_Rat_Num_plq : Nat → Bool → List Int → Bool → List Int → Option (Bool × List Int × Bool × List Int × Bool × List Int)
  | 0, _, _, _, _ => none
  | k + 1, z0, z1, z2, z3 => bbig_Rat_Num_plq k z0 z1 z2 z3
def shbig_Rat_Num_plq : FS := { vs := [.a (.ptr 0 0 0)], bs := [.raw [[.lf .bool, .lf (.sl (.int .u32)), .lf .bool, .lf (.sl (.int .u32))]] 4 79 true false] }
def rsbig_Rat_Num_plq : List FS := [{ vs := [.a (.ptr 1 0 0)], bs := [.raw [[.lf .bool, .lf (.sl (.int .u32)), .lf .bool, .lf (.sl (.int .u32))]] 4 79 true false, .raw [[.lf .bool, .lf (.sl (.int .u32))]] 2 77 true false] }]
def Ibig_Rat_Num_plq (k : Nat) : Inst := ⟨78, shbig_Rat_Num_plq, rsbig_Rat_Num_plq, fun x => Fbig_Rat_Num_plq k x.1 x.2.1 x.2.2.1 x.2.2.2⟩
theorem albig_Rat_Num_plq (k : Nat) : AllI (call cf k) [Ibig_Of k] := And.intro (okbig_Of k) (True.intro)
theorem anbig_Rat_Num_plq (k : Nat) : LAll (LOk (R := DS FS.D rsbig_Rat_Num_plq) (fun b _ σ K => LOt Ty (kps 78) 1 b σ K []) cf (call cf k) (cf.keep 78) Tryz.f78.ntmps k shbig_Rat_Num_plq.bs.length) 0 (bd Tryz.f78) :=
  And.intro (True.intro) (And.intro (True.intro) (True.intro))
theorem stbig_Rat_Num_plq (k : Nat) (x : shbig_Rat_Num_plq.D) : Fbig_Rat_Num_plq (k + 1) x.1 x.2.1 x.2.2.1 x.2.2.2 = body2 cf (fun f a b K => COt f a b K [Ibig_Of k]) (fun b _ σ K => LOt Ty (kps 78) 1 b σ K []) 78 Tryz.f78.ntmps Tryz.f78.results.toList (bd Tryz.f78) (shbig_Rat_Num_plq.enc x).1 (shbig_Rat_Num_plq.enc x).2 (putS FS.dec rsbig_Rat_Num_plq) := by kernel_rfl
theorem okbig_Rat_Num_plq : ∀ k, InstOk (call cf k) (Ibig_Rat_Num_plq k)
  | 0 => fun x y e => absurd (show (none : Option _) = some y from e) (by simp)
  | k + 1 => inst_ok (c := cf) (k := k) (f := 78) (fn := Tryz.f78) (body := bd Tryz.f78) (sh := shbig_Rat_Num_plq) (os := rsbig_Rat_Num_plq) rfl Tryz.func78 rfl ⟨rfl, Nat.le_of_ble_eq_true rfl⟩ (COt_ok (albig_Rat_Num_plq k)) (anbig_Rat_Num_plq k) (fun x => Fbig_Rat_Num_plq (k + 1) x.1 x.2.1 x.2.2.1 x.2.2.2) (stbig_Rat_Num_plq k)

/-! (*shunt/big.Rat).Denom -/
def bbig_Rat_Denom_plq (k : Nat) (z0 : Bool) (z1 : List Int) (z2 : Bool) (z3 : List Int) : Option (Bool × List Int × Bool × List Int × Bool × List Int) :=
  if (((((List.length z3) : Nat) : Int) == (0 : Int)) = true) then
    Option.bind (Fbig_NewInt k (1 : Int)) fun r9 =>
    (some (z0, z1, z2, z3, r9.1, r9.2))
  else
  Option.bind (Fbig_Of k false z3) fun r9 =>
  (some (z0, z1, z2, z3, r9.1, r9.2))
def Fbig_Rat_Denom_plq : Nat → Bool → List Int → Bool → List Int → Option (Bool × List Int × Bool × List Int × Bool × List Int)
  | 0, _, _, _, _ => none
  | k + 1, z0, z1, z2, z3 => bbig_Rat_Denom_plq k z0 z1 z2 z3
def shbig_Rat_Denom_plq : FS := { vs := [.a (.ptr 0 0 0)], bs := [.raw [[.lf .bool, .lf (.sl (.int .u32)), .lf .bool, .lf (.sl (.int .u32))]] 4 79 true false] }
def rsbig_Rat_Denom_plq : List FS := [{ vs := [.a (.ptr 1 0 0)], bs := [.raw [[.lf .bool, .lf (.sl (.int .u32)), .lf .bool, .lf (.sl (.int .u32))]] 4 79 true false, .raw [[.lf .bool, .lf (.sl (.int .u32))]] 2 77 true false] }]
def Ibig_Rat_Denom_plq (k : Nat) : Inst := ⟨47, shbig_Rat_Denom_plq, rsbig_Rat_Denom_plq, fun x => Fbig_Rat_Denom_plq k x.1 x.2.1 x.2.2.1 x.2.2.2⟩
theorem albig_Rat_Denom_plq (k : Nat) : AllI (call cf k) [Ibig_NewInt k, Ibig_Of k] := And.intro (okbig_NewInt k) (And.intro (okbig_Of k) (True.intro))
theorem anbig_Rat_Denom_plq (k : Nat) : LAll (LOk (R := DS FS.D rsbig_Rat_Denom_plq) (fun b _ σ K => LOt Ty (kps 47) 1 b σ K []) cf (call cf k) (cf.keep 47) Tryz.f47.ntmps k shbig_Rat_Denom_plq.bs.length) 0 (bd Tryz.f47) :=
  And.intro (True.intro) (And.intro (And.intro (True.intro) (And.intro (And.intro (True.intro) (True.intro)) (True.intro))) (And.intro (True.intro) (True.intro)))
theorem stbig_Rat_Denom_plq (k : Nat) (x : shbig_Rat_Denom_plq.D) : Fbig_Rat_Denom_plq (k + 1) x.1 x.2.1 x.2.2.1 x.2.2.2 = body2 cf (fun f a b K => COt f a b K [Ibig_NewInt k, Ibig_Of k]) (fun b _ σ K => LOt Ty (kps 47) 1 b σ K []) 47 Tryz.f47.ntmps Tryz.f47.results.toList (bd Tryz.f47) (shbig_Rat_Denom_plq.enc x).1 (shbig_Rat_Denom_plq.enc x).2 (putS FS.dec rsbig_Rat_Denom_plq) := by kernel_rfl
theorem okbig_Rat_Denom_plq : ∀ k, InstOk (call cf k) (Ibig_Rat_Denom_plq k)
  | 0 => fun x y e => absurd (show (none : Option _) = some y from e) (by simp)
  | k + 1 => inst_ok (c := cf) (k := k) (f := 47) (fn := Tryz.f47) (body := bd Tryz.f47) (sh := shbig_Rat_Denom_plq) (os := rsbig_Rat_Denom_plq) rfl Tryz.func47 rfl ⟨rfl, Nat.le_of_ble_eq_true rfl⟩ (COt_ok (albig_Rat_Denom_plq k)) (anbig_Rat_Denom_plq k) (fun x => Fbig_Rat_Denom_plq (k + 1) x.1 x.2.1 x.2.2.1 x.2.2.2) (stbig_Rat_Denom_plq k)

/-! shunt/wide.Frac -/
def bwide_Frac_plq (k : Nat) (z0 : Bool) (z1 : List Int) (z2 : Bool) (z3 : List Int) : Option (Bool × Nat × Bool × Nat × Bool × List Int × Bool × List Int × List Int × List Int) :=
  Option.bind (Fbig_Rat_Num_plq k z0 z1 z2 z3) fun r7 =>
  Option.bind (Fwide_Give_awf k r7.2.2.2.2.1 r7.2.2.2.2.2) fun r8 =>
  Option.bind (Fbig_Rat_Denom_plq k r7.1 r7.2.1 r7.2.2.1 r7.2.2.2.1) fun r9 =>
  Option.bind (Fwide_Give_awf k r9.2.2.2.2.1 r9.2.2.2.2.2) fun r10 =>
  (some (r8.1, r8.2.1, r10.1, r10.2.1, r9.1, r9.2.1, r9.2.2.1, r9.2.2.2.1, r8.2.2.2.2, r10.2.2.2.2))
def Fwide_Frac_plq : Nat → Bool → List Int → Bool → List Int → Option (Bool × Nat × Bool × Nat × Bool × List Int × Bool × List Int × List Int × List Int)
  | 0, _, _, _, _ => none
  | k + 1, z0, z1, z2, z3 => bwide_Frac_plq k z0 z1 z2 z3
def shwide_Frac_plq : FS := { vs := [.a (.ptr 0 0 0)], bs := [.raw [[.lf .bool, .lf (.sl (.int .u32)), .lf .bool, .lf (.sl (.int .u32))]] 4 79 true false] }
def rswide_Frac_plq : List FS := [{ vs := [.g [.lf .bool, .smz 1, .lf .bool, .smz 2]], bs := [.raw [[.lf .bool, .lf (.sl (.int .u32)), .lf .bool, .lf (.sl (.int .u32))]] 4 79 true false, .arr (.int .u32) 1 40 false, .arr (.int .u32) 1 40 false] }]
def Iwide_Frac_plq (k : Nat) : Inst := ⟨74, shwide_Frac_plq, rswide_Frac_plq, fun x => Fwide_Frac_plq k x.1 x.2.1 x.2.2.1 x.2.2.2⟩
theorem alwide_Frac_plq (k : Nat) : AllI (call cf k) [Ibig_Rat_Num_plq k, Iwide_Give_awf k, Ibig_Rat_Denom_plq k] := And.intro (okbig_Rat_Num_plq k) (And.intro (okwide_Give_awf k) (And.intro (okbig_Rat_Denom_plq k) (True.intro)))
theorem anwide_Frac_plq (k : Nat) : LAll (LOk (R := DS FS.D rswide_Frac_plq) (fun b _ σ K => LOt Ty (kps 74) 1 b σ K []) cf (call cf k) (cf.keep 74) Tryz.f74.ntmps k shwide_Frac_plq.bs.length) 0 (bd Tryz.f74) :=
  And.intro (True.intro) (And.intro (True.intro) (True.intro))
theorem stwide_Frac_plq (k : Nat) (x : shwide_Frac_plq.D) : Fwide_Frac_plq (k + 1) x.1 x.2.1 x.2.2.1 x.2.2.2 = body2 cf (fun f a b K => COt f a b K [Ibig_Rat_Num_plq k, Iwide_Give_awf k, Ibig_Rat_Denom_plq k]) (fun b _ σ K => LOt Ty (kps 74) 1 b σ K []) 74 Tryz.f74.ntmps Tryz.f74.results.toList (bd Tryz.f74) (shwide_Frac_plq.enc x).1 (shwide_Frac_plq.enc x).2 (putS FS.dec rswide_Frac_plq) := by kernel_rfl
theorem okwide_Frac_plq : ∀ k, InstOk (call cf k) (Iwide_Frac_plq k)
  | 0 => fun x y e => absurd (show (none : Option _) = some y from e) (by simp)
  | k + 1 => inst_ok (c := cf) (k := k) (f := 74) (fn := Tryz.f74) (body := bd Tryz.f74) (sh := shwide_Frac_plq) (os := rswide_Frac_plq) rfl Tryz.func74 rfl ⟨rfl, Nat.le_of_ble_eq_true rfl⟩ (COt_ok (alwide_Frac_plq k)) (anwide_Frac_plq k) (fun x => Fwide_Frac_plq (k + 1) x.1 x.2.1 x.2.2.1 x.2.2.2) (stwide_Frac_plq k)

/-! shunt/rat.answer -/
def brat_answer_plq (k : Nat) (z0 : Bool) (z1 : List Int) (z2 : Bool) (z3 : List Int) : Option (Bool × Nat × Bool × Nat × Int × Bool × List Int × Bool × List Int × List Int × List Int) :=
  Option.bind (Fwide_Frac_plq k z0 z1 z2 z3) fun r7 =>
  if ((decide (((r7.2.1 : Nat) : Int) > (72 : Int))) = false) then
    if ((decide (((r7.2.2.2.1 : Nat) : Int) > (72 : Int))) = true) then
      (some (false, 0, false, 0, (13 : Int), r7.2.2.2.2.1, r7.2.2.2.2.2.1, r7.2.2.2.2.2.2.1, r7.2.2.2.2.2.2.2.1, [], []))
    else
    (some (r7.1, r7.2.1, r7.2.2.1, r7.2.2.2.1, (0 : Int), r7.2.2.2.2.1, r7.2.2.2.2.2.1, r7.2.2.2.2.2.2.1, r7.2.2.2.2.2.2.2.1, r7.2.2.2.2.2.2.2.2.1, r7.2.2.2.2.2.2.2.2.2))
  else
  (some (false, 0, false, 0, (13 : Int), r7.2.2.2.2.1, r7.2.2.2.2.2.1, r7.2.2.2.2.2.2.1, r7.2.2.2.2.2.2.2.1, [], []))
def Frat_answer_plq : Nat → Bool → List Int → Bool → List Int → Option (Bool × Nat × Bool × Nat × Int × Bool × List Int × Bool × List Int × List Int × List Int)
  | 0, _, _, _, _ => none
  | k + 1, z0, z1, z2, z3 => brat_answer_plq k z0 z1 z2 z3
def shrat_answer_plq : FS := { vs := [.a (.ptr 0 0 0)], bs := [.raw [[.lf .bool, .lf (.sl (.int .u32)), .lf .bool, .lf (.sl (.int .u32))]] 4 79 true false] }
def rsrat_answer_plq : List FS := [{ vs := [.g [.lf .bool, .smz 1, .lf .bool, .smz 2], .a (.lf (.int .i64))], bs := [.raw [[.lf .bool, .lf (.sl (.int .u32)), .lf .bool, .lf (.sl (.int .u32))]] 4 79 true false, .arr (.int .u32) 1 40 false, .arr (.int .u32) 1 40 false] }]
def Irat_answer_plq (k : Nat) : Inst := ⟨45, shrat_answer_plq, rsrat_answer_plq, fun x => Frat_answer_plq k x.1 x.2.1 x.2.2.1 x.2.2.2⟩
theorem alrat_answer_plq (k : Nat) : AllI (call cf k) [Iwide_Frac_plq k] := And.intro (okwide_Frac_plq k) (True.intro)
theorem anrat_answer_plq (k : Nat) : LAll (LOk (R := DS FS.D rsrat_answer_plq) (fun b _ σ K => LOt Ty (kps 45) 1 b σ K []) cf (call cf k) (cf.keep 45) Tryz.f45.ntmps k shrat_answer_plq.bs.length) 0 (bd Tryz.f45) :=
  And.intro (True.intro) (And.intro (True.intro) (And.intro (And.intro (True.intro) (And.intro (And.intro (True.intro) (True.intro)) (True.intro))) (And.intro (True.intro) (True.intro))))
theorem strat_answer_plq (k : Nat) (x : shrat_answer_plq.D) : Frat_answer_plq (k + 1) x.1 x.2.1 x.2.2.1 x.2.2.2 = body2 cf (fun f a b K => COt f a b K [Iwide_Frac_plq k]) (fun b _ σ K => LOt Ty (kps 45) 1 b σ K []) 45 Tryz.f45.ntmps Tryz.f45.results.toList (bd Tryz.f45) (shrat_answer_plq.enc x).1 (shrat_answer_plq.enc x).2 (putS FS.dec rsrat_answer_plq) := by kernel_rfl
theorem okrat_answer_plq : ∀ k, InstOk (call cf k) (Irat_answer_plq k)
  | 0 => fun x y e => absurd (show (none : Option _) = some y from e) (by simp)
  | k + 1 => inst_ok (c := cf) (k := k) (f := 45) (fn := Tryz.f45) (body := bd Tryz.f45) (sh := shrat_answer_plq) (os := rsrat_answer_plq) rfl Tryz.func45 rfl ⟨rfl, Nat.le_of_ble_eq_true rfl⟩ (COt_ok (alrat_answer_plq k)) (anrat_answer_plq k) (fun x => Frat_answer_plq (k + 1) x.1 x.2.1 x.2.2.1 x.2.2.2) (strat_answer_plq k)

/-! shunt/rat.Make -/
def brat_Make (k : Nat) (num0 : Bool) (num1 : List Int) (den0 : Bool) (den1 : List Int) : Option (Bool × List Int × Bool × List Int × Int) :=
  Option.bind (Flimb_Check k num0 num1) fun r2 =>
  if ((r2 != (0 : Int)) = false) then
    Option.bind (Flimb_Check k den0 den1) fun r3 =>
    if ((r3 != (0 : Int)) = true) then
      (some (false, [], false, [], (10 : Int)))
    else
    if (((((List.length den1) : Nat) : Int) == (0 : Int)) = true) then
      (some (false, [], false, [], (11 : Int)))
    else
    Option.bind (Fwide_Take k num0 num1) fun r4 =>
    Option.bind (Fwide_Take k den0 den1) fun r5 =>
    Option.bind (Fbig_Frac_ddu k r4.1 r4.2 r5.1 r5.2) fun r6 =>
    Option.bind (Frat_answer_plq k r6.2.2.2.2.1 r6.2.2.2.2.2.1 r6.2.2.2.2.2.2.1 r6.2.2.2.2.2.2.2) fun r7 =>
    if ((0 + r7.2.1) ≤ (List.length r7.2.2.2.2.2.2.2.2.2.1)) then
      if ((0 + r7.2.2.2.1) ≤ (List.length r7.2.2.2.2.2.2.2.2.2.2)) then
        (some (r7.1, (List.take r7.2.1 r7.2.2.2.2.2.2.2.2.2.1), r7.2.2.1, (List.take r7.2.2.2.1 r7.2.2.2.2.2.2.2.2.2.2), r7.2.2.2.2.1))
      else
      none
    else
    none
  else
  (some (false, [], false, [], (10 : Int)))
def Frat_Make : Nat → Bool → List Int → Bool → List Int → Option (Bool × List Int × Bool × List Int × Int)
  | 0, _, _, _, _ => none
  | k + 1, num0, num1, den0, den1 => brat_Make k num0 num1 den0 den1
def shrat_Make : FS := { vs := [.g [.lf .bool, .lf (.sl (.int .u32))], .g [.lf .bool, .lf (.sl (.int .u32))]], bs := [] }
def rsrat_Make : List FS := [{ vs := [.g [.lf .bool, .lf (.sl (.int .u32)), .lf .bool, .lf (.sl (.int .u32))], .a (.lf (.int .i64))], bs := [] }]
def Irat_Make (k : Nat) : Inst := ⟨38, shrat_Make, rsrat_Make, fun x => Frat_Make k x.1 x.2.1 x.2.2.1 x.2.2.2⟩
theorem alrat_Make (k : Nat) : AllI (call cf k) [Ilimb_Check k, Iwide_Take k, Ibig_Frac_ddu k, Irat_answer_plq k] := And.intro (oklimb_Check k) (And.intro (okwide_Take k) (And.intro (okbig_Frac_ddu k) (And.intro (okrat_answer_plq k) (True.intro))))
theorem anrat_Make (k : Nat) : LAll (LOk (R := DS FS.D rsrat_Make) (fun b _ σ K => LOt Ty (kps 38) 0 b σ K []) cf (call cf k) (cf.keep 38) Tryz.f38.ntmps k shrat_Make.bs.length) 0 (bd Tryz.f38) :=
  And.intro (True.intro) (And.intro (And.intro (True.intro) (And.intro (And.intro (True.intro) (True.intro)) (True.intro))) (And.intro (And.intro (True.intro) (And.intro (And.intro (True.intro) (True.intro)) (True.intro))) (And.intro (True.intro) (True.intro))))
theorem strat_Make (k : Nat) (x : shrat_Make.D) : Frat_Make (k + 1) x.1 x.2.1 x.2.2.1 x.2.2.2 = body2 cf (fun f a b K => COt f a b K [Ilimb_Check k, Iwide_Take k, Ibig_Frac_ddu k, Irat_answer_plq k]) (fun b _ σ K => LOt Ty (kps 38) 0 b σ K []) 38 Tryz.f38.ntmps Tryz.f38.results.toList (bd Tryz.f38) (shrat_Make.enc x).1 (shrat_Make.enc x).2 (putS FS.dec rsrat_Make) := by kernel_rfl
theorem okrat_Make : ∀ k, InstOk (call cf k) (Irat_Make k)
  | 0 => fun x y e => absurd (show (none : Option _) = some y from e) (by simp)
  | k + 1 => inst_ok (c := cf) (k := k) (f := 38) (fn := Tryz.f38) (body := bd Tryz.f38) (sh := shrat_Make) (os := rsrat_Make) rfl Tryz.func38 rfl ⟨rfl, Nat.le_of_ble_eq_true rfl⟩ (COt_ok (alrat_Make k)) (anrat_Make k) (fun x => Frat_Make (k + 1) x.1 x.2.1 x.2.2.1 x.2.2.2) (strat_Make k)

/-! shunt/shuntlaw02.of -/
def bshuntlaw02_of (k : Nat) (n : Int) (d : Int) : Option (Bool × List Int × Bool × List Int) :=
  Option.bind (Flimb_Of k n) fun r =>
  Option.bind (Flimb_Of k d) fun r1 =>
  Option.bind (Frat_Make k r.1 r.2 r1.1 r1.2) fun r2 =>
  (some (r2.1, r2.2.1, r2.2.2.1, r2.2.2.2.1))
def Fshuntlaw02_of : Nat → Int → Int → Option (Bool × List Int × Bool × List Int)
  | 0, _, _ => none
  | k + 1, n, d => bshuntlaw02_of k n d
def shshuntlaw02_of : FS := { vs := [.a (.lf (.int .i64)), .a (.lf (.int .i64))], bs := [] }
def rsshuntlaw02_of : List FS := [{ vs := [.g [.lf .bool, .lf (.sl (.int .u32)), .lf .bool, .lf (.sl (.int .u32))]], bs := [] }]
def Ishuntlaw02_of (k : Nat) : Inst := ⟨16, shshuntlaw02_of, rsshuntlaw02_of, fun x => Fshuntlaw02_of k x.1 x.2⟩
theorem alshuntlaw02_of (k : Nat) : AllI (call cf k) [Ilimb_Of k, Irat_Make k] := And.intro (oklimb_Of k) (And.intro (okrat_Make k) (True.intro))
theorem anshuntlaw02_of (k : Nat) : LAll (LOk (R := DS FS.D rsshuntlaw02_of) (fun b _ σ K => LOt Ty (kps 16) 0 b σ K []) cf (call cf k) (cf.keep 16) Tryz.f16.ntmps k shshuntlaw02_of.bs.length) 0 (bd Tryz.f16) :=
  And.intro (True.intro) (And.intro (True.intro) (And.intro (True.intro) (True.intro)))
theorem stshuntlaw02_of (k : Nat) (x : shshuntlaw02_of.D) : Fshuntlaw02_of (k + 1) x.1 x.2 = body2 cf (fun f a b K => COt f a b K [Ilimb_Of k, Irat_Make k]) (fun b _ σ K => LOt Ty (kps 16) 0 b σ K []) 16 Tryz.f16.ntmps Tryz.f16.results.toList (bd Tryz.f16) (shshuntlaw02_of.enc x).1 (shshuntlaw02_of.enc x).2 (putS FS.dec rsshuntlaw02_of) := by kernel_rfl
theorem okshuntlaw02_of : ∀ k, InstOk (call cf k) (Ishuntlaw02_of k)
  | 0 => fun x y e => absurd (show (none : Option _) = some y from e) (by simp)
  | k + 1 => inst_ok (c := cf) (k := k) (f := 16) (fn := Tryz.f16) (body := bd Tryz.f16) (sh := shshuntlaw02_of) (os := rsshuntlaw02_of) rfl Tryz.func16 rfl ⟨rfl, Nat.le_of_ble_eq_true rfl⟩ (COt_ok (alshuntlaw02_of k)) (anshuntlaw02_of k) (fun x => Fshuntlaw02_of (k + 1) x.1 x.2) (stshuntlaw02_of k)

/-! shunt/limb.both -/
def blimb_both (k : Nat) (a0 : Bool) (a1 : List Int) (b0 : Bool) (b1 : List Int) : Option (Int) :=
  Option.bind (Flimb_Check k a0 a1) fun r6 =>
  if ((r6 != (0 : Int)) = true) then
    (some (10 : Int))
  else
  Option.bind (Flimb_Check k b0 b1) fun r7 =>
  (some r7)
def Flimb_both : Nat → Bool → List Int → Bool → List Int → Option (Int)
  | 0, _, _, _, _ => none
  | k + 1, a0, a1, b0, b1 => blimb_both k a0 a1 b0 b1
def shlimb_both : FS := { vs := [.g [.lf .bool, .lf (.sl (.int .u32))], .g [.lf .bool, .lf (.sl (.int .u32))]], bs := [] }
def rslimb_both : List FS := [{ vs := [.a (.lf (.int .i64))], bs := [] }]
def Ilimb_both (k : Nat) : Inst := ⟨72, shlimb_both, rslimb_both, fun x => Flimb_both k x.1 x.2.1 x.2.2.1 x.2.2.2⟩
theorem allimb_both (k : Nat) : AllI (call cf k) [Ilimb_Check k] := And.intro (oklimb_Check k) (True.intro)
theorem anlimb_both (k : Nat) : LAll (LOk (R := DS FS.D rslimb_both) (fun b _ σ K => LOt Ty (kps 72) 0 b σ K []) cf (call cf k) (cf.keep 72) Tryz.f72.ntmps k shlimb_both.bs.length) 0 (bd Tryz.f72) :=
  And.intro (True.intro) (And.intro (And.intro (True.intro) (And.intro (And.intro (True.intro) (True.intro)) (True.intro))) (And.intro (True.intro) (True.intro)))
theorem stlimb_both (k : Nat) (x : shlimb_both.D) : Flimb_both (k + 1) x.1 x.2.1 x.2.2.1 x.2.2.2 = body2 cf (fun f a b K => COt f a b K [Ilimb_Check k]) (fun b _ σ K => LOt Ty (kps 72) 0 b σ K []) 72 Tryz.f72.ntmps Tryz.f72.results.toList (bd Tryz.f72) (shlimb_both.enc x).1 (shlimb_both.enc x).2 (putS FS.dec rslimb_both) := by kernel_rfl
theorem oklimb_both : ∀ k, InstOk (call cf k) (Ilimb_both k)
  | 0 => fun x y e => absurd (show (none : Option _) = some y from e) (by simp)
  | k + 1 => inst_ok (c := cf) (k := k) (f := 72) (fn := Tryz.f72) (body := bd Tryz.f72) (sh := shlimb_both) (os := rslimb_both) rfl Tryz.func72 rfl ⟨rfl, Nat.le_of_ble_eq_true rfl⟩ (COt_ok (allimb_both k)) (anlimb_both k) (fun x => Flimb_both (k + 1) x.1 x.2.1 x.2.2.1 x.2.2.2) (stlimb_both k)

/-! shunt/limb.Gcd -/
def blimb_Gcd (k : Nat) (a0 : Bool) (a1 : List Int) (b0 : Bool) (b1 : List Int) : Option (Bool × List Int × Int) :=
  Option.bind (Flimb_both k a0 a1 b0 b1) fun r6 =>
  if ((r6 != (0 : Int)) = true) then
    (some (false, [], r6))
  else
  Option.bind (Fwide_Take k a0 a1) fun r7 =>
  Option.bind (Fwide_Take k b0 b1) fun r8 =>
  Option.bind (Fbig_Gcd_ddu k r7.1 r7.2 r8.1 r8.2) fun r9 =>
  Option.bind (Fwide_Give_awf k r9.2.2.2.2.1 r9.2.2.2.2.2) fun r10 =>
  if ((0 + r10.2.1) ≤ (List.length r10.2.2.2.2)) then
    (some (r10.1, (List.take r10.2.1 r10.2.2.2.2), (0 : Int)))
  else
  none
def Flimb_Gcd : Nat → Bool → List Int → Bool → List Int → Option (Bool × List Int × Int)
  | 0, _, _, _, _ => none
  | k + 1, a0, a1, b0, b1 => blimb_Gcd k a0 a1 b0 b1
def shlimb_Gcd : FS := { vs := [.g [.lf .bool, .lf (.sl (.int .u32))], .g [.lf .bool, .lf (.sl (.int .u32))]], bs := [] }
def rslimb_Gcd : List FS := [{ vs := [.g [.lf .bool, .lf (.sl (.int .u32))], .a (.lf (.int .i64))], bs := [] }]
def Ilimb_Gcd (k : Nat) : Inst := ⟨44, shlimb_Gcd, rslimb_Gcd, fun x => Flimb_Gcd k x.1 x.2.1 x.2.2.1 x.2.2.2⟩
theorem allimb_Gcd (k : Nat) : AllI (call cf k) [Ilimb_both k, Iwide_Take k, Ibig_Gcd_ddu k, Iwide_Give_awf k] := And.intro (oklimb_both k) (And.intro (okwide_Take k) (And.intro (okbig_Gcd_ddu k) (And.intro (okwide_Give_awf k) (True.intro))))
theorem anlimb_Gcd (k : Nat) : LAll (LOk (R := DS FS.D rslimb_Gcd) (fun b _ σ K => LOt Ty (kps 44) 0 b σ K []) cf (call cf k) (cf.keep 44) Tryz.f44.ntmps k shlimb_Gcd.bs.length) 0 (bd Tryz.f44) :=
  And.intro (True.intro) (And.intro (And.intro (True.intro) (And.intro (True.intro) (And.intro (And.intro (True.intro) (True.intro)) (True.intro)))) (And.intro (True.intro) (True.intro)))
theorem stlimb_Gcd (k : Nat) (x : shlimb_Gcd.D) : Flimb_Gcd (k + 1) x.1 x.2.1 x.2.2.1 x.2.2.2 = body2 cf (fun f a b K => COt f a b K [Ilimb_both k, Iwide_Take k, Ibig_Gcd_ddu k, Iwide_Give_awf k]) (fun b _ σ K => LOt Ty (kps 44) 0 b σ K []) 44 Tryz.f44.ntmps Tryz.f44.results.toList (bd Tryz.f44) (shlimb_Gcd.enc x).1 (shlimb_Gcd.enc x).2 (putS FS.dec rslimb_Gcd) := by kernel_rfl
theorem oklimb_Gcd : ∀ k, InstOk (call cf k) (Ilimb_Gcd k)
  | 0 => fun x y e => absurd (show (none : Option _) = some y from e) (by simp)
  | k + 1 => inst_ok (c := cf) (k := k) (f := 44) (fn := Tryz.f44) (body := bd Tryz.f44) (sh := shlimb_Gcd) (os := rslimb_Gcd) rfl Tryz.func44 rfl ⟨rfl, Nat.le_of_ble_eq_true rfl⟩ (COt_ok (allimb_Gcd k)) (anlimb_Gcd k) (fun x => Flimb_Gcd (k + 1) x.1 x.2.1 x.2.2.1 x.2.2.2) (stlimb_Gcd k)

/-! shunt/rat.Check -/
def brat_Check (k : Nat) (r0 : Bool) (r1 : List Int) (r2 : Bool) (r3 : List Int) : Option (Int) :=
  Option.bind (Flimb_Check k r0 r1) fun r4 =>
  if ((r4 != (0 : Int)) = false) then
    Option.bind (Flimb_Check k r2 r3) fun r5 =>
    if ((r5 != (0 : Int)) = true) then
      (some (10 : Int))
    else
    if (r2 = false) then
      if (((((List.length r3) : Nat) : Int) == (0 : Int)) = true) then
        (some (20 : Int))
      else
      Option.bind (Flimb_Gcd k r0 r1 r2 r3) fun r6 =>
      if (((((List.length r6.2.1) : Nat) : Int) != (1 : Int)) = false) then
        Option.bind (r6.2.1)[0]? fun x4 =>
        if ((x4 != (1 : Int)) = true) then
          (some (20 : Int))
        else
        (some (0 : Int))
      else
      (some (20 : Int))
    else
    (some (20 : Int))
  else
  (some (10 : Int))
def Frat_Check : Nat → Bool → List Int → Bool → List Int → Option (Int)
  | 0, _, _, _, _ => none
  | k + 1, r0, r1, r2, r3 => brat_Check k r0 r1 r2 r3
def shrat_Check : FS := { vs := [.g [.lf .bool, .lf (.sl (.int .u32)), .lf .bool, .lf (.sl (.int .u32))]], bs := [] }
def rsrat_Check : List FS := [{ vs := [.a (.lf (.int .i64))], bs := [] }]
def Irat_Check (k : Nat) : Inst := ⟨18, shrat_Check, rsrat_Check, fun x => Frat_Check k x.1 x.2.1 x.2.2.1 x.2.2.2⟩
theorem alrat_Check (k : Nat) : AllI (call cf k) [Ilimb_Check k, Ilimb_Gcd k] := And.intro (oklimb_Check k) (And.intro (oklimb_Gcd k) (True.intro))
theorem anrat_Check (k : Nat) : LAll (LOk (R := DS FS.D rsrat_Check) (fun b _ σ K => LOt Ty (kps 18) 0 b σ K []) cf (call cf k) (cf.keep 18) Tryz.f18.ntmps k shrat_Check.bs.length) 0 (bd Tryz.f18) :=
  And.intro (True.intro) (And.intro (And.intro (True.intro) (And.intro (And.intro (True.intro) (True.intro)) (True.intro))) (And.intro (And.intro (True.intro) (And.intro (And.intro (True.intro) (True.intro)) (True.intro))) (And.intro (True.intro) (And.intro (And.intro (True.intro) (And.intro (And.intro (True.intro) (True.intro)) (True.intro))) (And.intro (True.intro) (True.intro))))))
theorem strat_Check (k : Nat) (x : shrat_Check.D) : Frat_Check (k + 1) x.1 x.2.1 x.2.2.1 x.2.2.2 = body2 cf (fun f a b K => COt f a b K [Ilimb_Check k, Ilimb_Gcd k]) (fun b _ σ K => LOt Ty (kps 18) 0 b σ K []) 18 Tryz.f18.ntmps Tryz.f18.results.toList (bd Tryz.f18) (shrat_Check.enc x).1 (shrat_Check.enc x).2 (putS FS.dec rsrat_Check) := by kernel_rfl
theorem okrat_Check : ∀ k, InstOk (call cf k) (Irat_Check k)
  | 0 => fun x y e => absurd (show (none : Option _) = some y from e) (by simp)
  | k + 1 => inst_ok (c := cf) (k := k) (f := 18) (fn := Tryz.f18) (body := bd Tryz.f18) (sh := shrat_Check) (os := rsrat_Check) rfl Tryz.func18 rfl ⟨rfl, Nat.le_of_ble_eq_true rfl⟩ (COt_ok (alrat_Check k)) (anrat_Check k) (fun x => Frat_Check (k + 1) x.1 x.2.1 x.2.2.1 x.2.2.2) (strat_Check k)

/-! shunt/rat.all -/
def Lrat_all_0s (k : Nat) (rec : Int → List ((Bool × List Int) × Bool × List Int) → Int → Int → Option ((Int × Bool × List Int × Bool × List Int) ⊕ (Int))) (worst : Int) (x : List ((Bool × List Int) × Bool × List Int)) (x1 : Int) (x2 : Int) : Option ((Int × Bool × List Int × Bool × List Int) ⊕ (Int)) :=
  if ((decide (x2 < x1)) = true) then
    if ((0 : Int) ≤ x2) then
      Option.bind (x)[(Int.toNat x2)]? fun x3 =>
      Option.bind (Frat_Check k x3.1.1 x3.1.2 x3.2.1 x3.2.2) fun r2 =>
      if ((r2 == (10 : Int)) = true) then
        (some (Sum.inl ((10 : Int), x3.1.1, x3.1.2, x3.2.1, x3.2.2)))
      else
      if ((r2 == (20 : Int)) = true) then
        rec (20 : Int) x x1 (IntKind.wrap .i64 (x2 + (1 : Int)))
      else
      rec worst x x1 (IntKind.wrap .i64 (x2 + (1 : Int)))
    else
    none
  else
  (some (Sum.inr worst))
def Lrat_all_0 (k n : Nat) : Int → List ((Bool × List Int) × Bool × List Int) → Int → Int → Option ((Int × Bool × List Int × Bool × List Int) ⊕ (Int)) := Nat.rec (fun _ _ _ _ => none) (fun _ r => Lrat_all_0s k r) n
def brat_all (k : Nat) (l : List ((Bool × List Int) × Bool × List Int)) : Option (Int) :=
  Option.bind (Lrat_all_0 k k (0 : Int) l (((List.length l) : Nat) : Int) (0 : Int)) fun r2 =>
  eitherK r2
    (fun r2 =>
    (some r2.1))
    (fun r2 =>
    (some r2))
def Frat_all : Nat → List ((Bool × List Int) × Bool × List Int) → Option (Int)
  | 0, _ => none
  | k + 1, l => brat_all k l
def shrat_all : FS := { vs := [.a (.lf (.sl (.pr (.pr .bool (.sl (.int .u32))) (.pr .bool (.sl (.int .u32))))))], bs := [] }
def rsrat_all : List FS := [{ vs := [.a (.lf (.int .i64))], bs := [] }]
def Irat_all (k : Nat) : Inst := ⟨24, shrat_all, rsrat_all, fun x => Frat_all k x⟩
theorem alrat_all (k : Nat) : AllI (call cf k) [Irat_Check k] := And.intro (okrat_Check k) (True.intro)
def hsrat_all_0 : List SS := [{ fr := [(3, .a (.lf (.int .i64))), (6, .a (.lf (.sl (.pr (.pr .bool (.sl (.int .u32))) (.pr .bool (.sl (.int .u32))))))), (7, .a (.lf (.int .i64))), (8, .a (.lf (.int .i64)))], mem := [], nx := 0 }]
def osrat_all_0 : List OS := [⟨none, { fr := [(2, .a (.lf (.int .i64)))], mem := [(0, some (.raw [[.lf .bool, .lf (.sl (.int .u32)), .lf .bool, .lf (.sl (.int .u32))]] 4 26 true false))], nx := 1 }⟩, ⟨some 0, { fr := [(3, .a (.lf (.int .i64)))], mem := [], nx := 0 }⟩]
def LIrat_all_0 (k : Nat) : LInst := ⟨0, hsrat_all_0, osrat_all_0, fun x => Lrat_all_0 k k x.1 x.2.1 x.2.2.1 x.2.2.2⟩
theorem anrat_all_0 (k : Nat) : LAll (LOk (R := DS OS.D osrat_all_0) (fun b _ σ K => LOt Ty (kps 24) 0 b σ K []) cf (call cf k) (kps 24) Tryz.f24.ntmps k 0) 0 (lb Tryz.f24 0) :=
  And.intro (True.intro) (And.intro (And.intro (True.intro) (True.intro)) (And.intro (And.intro (True.intro) (And.intro (True.intro) (And.intro (True.intro) (And.intro (And.intro (True.intro) (True.intro)) (And.intro (True.intro) (And.intro (True.intro) (True.intro))))))) (True.intro)))
theorem strat_all_0 (k n : Nat) (x : DS SS.D hsrat_all_0) : Lrat_all_0 k (n + 1) x.1 x.2.1 x.2.2.1 x.2.2.2 = encSK SS.enc (fun σ => run2 cf (fun f a b K => COt f a b K [Irat_Check k]) (fun b _ σ K => LOt Ty (kps 24) 0 b σ K []) Tryz.f24.ntmps 0 (lb Tryz.f24 0) σ (nextK Ty (kps 24 0) 0 hsrat_all_0 osrat_all_0 fun x => Lrat_all_0 k n x.1 x.2.1 x.2.2.1 x.2.2.2)) hsrat_all_0 x := by kernel_rfl
theorem lorat_all_0 (k : Nat) : LIOk cf (call cf k) (kps 24) Tryz.f24.ntmps k 0 0 (lb Tryz.f24 0) (LIrat_all_0 k) :=
  loop_ok (c := cf) (callF := call cf k) (kp := kps 24) (nt := Tryz.f24.ntmps) (k := k) (p := 0) (b := 0) (x0 := lb Tryz.f24 0) (hs := hsrat_all_0) (os := osrat_all_0) (COt_ok (alrat_all k)) (anrat_all_0 k) (fun n x => Lrat_all_0 k n x.1 x.2.1 x.2.2.1 x.2.2.2) (fun _ => rfl) (strat_all_0 k)
theorem anrat_all (k : Nat) : LAll (LOk (R := DS FS.D rsrat_all) (fun b _ σ K => LOt Ty (kps 24) 0 b σ K [LIrat_all_0 k]) cf (call cf k) (cf.keep 24) Tryz.f24.ntmps k shrat_all.bs.length) 0 (bd Tryz.f24) :=
  And.intro (True.intro) (And.intro (True.intro) (And.intro (And.intro (True.intro) (LOt_ok (c := cf) (callF := call cf k) (kp := kps 24) (nt := Tryz.f24.ntmps) (k := k) (p := 0) (b := 0) (x0 := lb Tryz.f24 0) (l := [LIrat_all_0 k]) (And.intro (fun _ => lorat_all_0 k) (True.intro)))) (And.intro (True.intro) (True.intro))))
theorem strat_all (k : Nat) (x : shrat_all.D) : Frat_all (k + 1) x = body2 cf (fun f a b K => COt f a b K [Irat_Check k]) (fun b _ σ K => LOt Ty (kps 24) 0 b σ K [LIrat_all_0 k]) 24 Tryz.f24.ntmps Tryz.f24.results.toList (bd Tryz.f24) (shrat_all.enc x).1 (shrat_all.enc x).2 (putS FS.dec rsrat_all) := by kernel_rfl
theorem okrat_all : ∀ k, InstOk (call cf k) (Irat_all k)
  | 0 => fun x y e => absurd (show (none : Option _) = some y from e) (by simp)
  | k + 1 => inst_ok (c := cf) (k := k) (f := 24) (fn := Tryz.f24) (body := bd Tryz.f24) (sh := shrat_all) (os := rsrat_all) rfl Tryz.func24 rfl ⟨rfl, Nat.le_of_ble_eq_true rfl⟩ (COt_ok (alrat_all k)) (anrat_all k) (fun x => Frat_all (k + 1) x) (strat_all k)

/-! shunt/wide.Rat -/
def bwide_Rat (k : Nat) (r0 : Bool) (r1 : List Int) (r2 : Bool) (r3 : List Int) : Option (Bool × List Int × Bool × List Int) :=
  Option.bind (Fwide_Take k r0 r1) fun r4 =>
  Option.bind (Fwide_Take k r2 r3) fun r5 =>
  Option.bind (Fbig_Frac_ddu k r4.1 r4.2 r5.1 r5.2) fun r6 =>
  (some (r6.2.2.2.2.1, r6.2.2.2.2.2.1, r6.2.2.2.2.2.2.1, r6.2.2.2.2.2.2.2))
def Fwide_Rat : Nat → Bool → List Int → Bool → List Int → Option (Bool × List Int × Bool × List Int)
  | 0, _, _, _, _ => none
  | k + 1, r0, r1, r2, r3 => bwide_Rat k r0 r1 r2 r3
def shwide_Rat : FS := { vs := [.g [.lf .bool, .lf (.sl (.int .u32)), .lf .bool, .lf (.sl (.int .u32))]], bs := [] }
def rswide_Rat : List FS := [{ vs := [.a (.ptr 0 0 0)], bs := [.raw [[.lf .bool, .lf (.sl (.int .u32)), .lf .bool, .lf (.sl (.int .u32))]] 4 79 true false] }]
def Iwide_Rat (k : Nat) : Inst := ⟨26, shwide_Rat, rswide_Rat, fun x => Fwide_Rat k x.1 x.2.1 x.2.2.1 x.2.2.2⟩
theorem alwide_Rat (k : Nat) : AllI (call cf k) [Iwide_Take k, Ibig_Frac_ddu k] := And.intro (okwide_Take k) (And.intro (okbig_Frac_ddu k) (True.intro))
theorem anwide_Rat (k : Nat) : LAll (LOk (R := DS FS.D rswide_Rat) (fun b _ σ K => LOt Ty (kps 26) 0 b σ K []) cf (call cf k) (cf.keep 26) Tryz.f26.ntmps k shwide_Rat.bs.length) 0 (bd Tryz.f26) :=
  And.intro (True.intro) (And.intro (True.intro) (True.intro))
theorem stwide_Rat (k : Nat) (x : shwide_Rat.D) : Fwide_Rat (k + 1) x.1 x.2.1 x.2.2.1 x.2.2.2 = body2 cf (fun f a b K => COt f a b K [Iwide_Take k, Ibig_Frac_ddu k]) (fun b _ σ K => LOt Ty (kps 26) 0 b σ K []) 26 Tryz.f26.ntmps Tryz.f26.results.toList (bd Tryz.f26) (shwide_Rat.enc x).1 (shwide_Rat.enc x).2 (putS FS.dec rswide_Rat) := by kernel_rfl
theorem okwide_Rat : ∀ k, InstOk (call cf k) (Iwide_Rat k)
  | 0 => fun x y e => absurd (show (none : Option _) = some y from e) (by simp)
  | k + 1 => inst_ok (c := cf) (k := k) (f := 26) (fn := Tryz.f26) (body := bd Tryz.f26) (sh := shwide_Rat) (os := rswide_Rat) rfl Tryz.func26 rfl ⟨rfl, Nat.le_of_ble_eq_true rfl⟩ (COt_ok (alwide_Rat k)) (anwide_Rat k) (fun x => Fwide_Rat (k + 1) x.1 x.2.1 x.2.2.1 x.2.2.2) (stwide_Rat k)

/-! (*shunt/big.Int).Mul -/
def Lbig_Int_Mul_uoe_2s (k : Nat) (rec : Nat → Int → Int → Int → List Int → Int → Int → List Int → Int → Int → Bool → Bool → List Int → Bool → List Int → Bool → List Int → List Int → Option (Nat × Int × Int × List Int × Int × Int × Bool × Bool × List Int × Bool × List Int × Bool × List Int × List Int)) (out1 : Nat) (i : Int) (a : Int) (carry : Int) (x : List Int) (x1 : Int) (x2 : Int) (x3 : List Int) (x4 : Int) (x5 : Int) (z : Bool) (x0 : Bool) (x11 : List Int) (x21 : Bool) (x31 : List Int) (y0 : Bool) (y1 : List Int) (outs : List Int) : Option (Nat × Int × Int × List Int × Int × Int × Bool × Bool × List Int × Bool × List Int × Bool × List Int × List Int) :=
  if ((decide (x5 < x4)) = true) then
    if ((0 : Int) ≤ x5) then
      Option.bind (x3)[(Int.toNat x5)]? fun x6 =>
      if (((0 : Int) ≤ (IntKind.wrap .i64 (i + x5))) ∧ ((IntKind.wrap .i64 (i + x5)) < ((out1 : Nat) : Int))) then
        Option.bind (outs)[(0 + (Int.toNat (IntKind.wrap .i64 (i + x5))))]? fun x7 =>
        if (((0 : Int) ≤ (IntKind.wrap .i64 (i + x5))) ∧ ((IntKind.wrap .i64 (i + x5)) < ((out1 : Nat) : Int))) then
          Option.bind (outs)[(0 + (Int.toNat (IntKind.wrap .i64 (i + x5))))]? fun x8 =>
          rec out1 i a (Int.fdiv (IntKind.wrap .u64 ((IntKind.wrap .u64 ((IntKind.wrap .u64 ((IntKind.wrap .u64 a) * (IntKind.wrap .u64 x6))) + (IntKind.wrap .u64 x7))) + carry)) (4294967296 : Int)) x x1 x2 x3 x4 (IntKind.wrap .i64 (x5 + (1 : Int))) z x0 x11 x21 x31 y0 y1 (List.set outs (0 + (Int.toNat (IntKind.wrap .i64 (i + x5)))) (IntKind.wrap .u32 (IntKind.wrap .u64 ((IntKind.wrap .u64 ((IntKind.wrap .u64 ((IntKind.wrap .u64 a) * (IntKind.wrap .u64 x6))) + (IntKind.wrap .u64 x7))) + carry))))
        else
        none
      else
      none
    else
    none
  else
  (some (out1, i, carry, x, x1, x2, z, x0, x11, x21, x31, y0, y1, outs))
def Lbig_Int_Mul_uoe_2 (k n : Nat) : Nat → Int → Int → Int → List Int → Int → Int → List Int → Int → Int → Bool → Bool → List Int → Bool → List Int → Bool → List Int → List Int → Option (Nat × Int × Int × List Int × Int × Int × Bool × Bool × List Int × Bool × List Int × Bool × List Int × List Int) := Nat.rec (fun _ _ _ _ _ _ _ _ _ _ _ _ _ _ _ _ _ _ => none) (fun _ r => Lbig_Int_Mul_uoe_2s k r) n
def Lbig_Int_Mul_uoe_0s (k : Nat) (rec : Nat → List Int → Int → Int → Bool → Bool → List Int → Bool → List Int → Bool → List Int → List Int → Option (Nat × Bool × Bool × List Int × Bool × List Int × Bool × List Int × List Int)) (out1 : Nat) (x : List Int) (x1 : Int) (x2 : Int) (z : Bool) (x0 : Bool) (x11 : List Int) (x21 : Bool) (x3 : List Int) (y0 : Bool) (y1 : List Int) (outs : List Int) : Option (Nat × Bool × Bool × List Int × Bool × List Int × Bool × List Int × List Int) :=
  if ((decide (x2 < x1)) = true) then
    if ((0 : Int) ≤ x2) then
      Option.bind (x)[(Int.toNat x2)]? fun x4 =>
      Option.bind (Lbig_Int_Mul_uoe_2 k k out1 x2 x4 (0 : Int) x x1 x2 y1 (((List.length y1) : Nat) : Int) (0 : Int) z x0 x11 x21 x3 y0 y1 outs) fun r6 =>
      if (((0 : Int) ≤ (IntKind.wrap .i64 (r6.2.1 + (((List.length r6.2.2.2.2.2.2.2.2.2.2.2.2.1) : Nat) : Int)))) ∧ ((IntKind.wrap .i64 (r6.2.1 + (((List.length r6.2.2.2.2.2.2.2.2.2.2.2.2.1) : Nat) : Int))) < ((r6.1 : Nat) : Int))) then
        Option.bind (r6.2.2.2.2.2.2.2.2.2.2.2.2.2)[(0 + (Int.toNat (IntKind.wrap .i64 (r6.2.1 + (((List.length r6.2.2.2.2.2.2.2.2.2.2.2.2.1) : Nat) : Int)))))]? fun x5 =>
        rec r6.1 r6.2.2.2.1 r6.2.2.2.2.1 (IntKind.wrap .i64 (r6.2.2.2.2.2.1 + (1 : Int))) r6.2.2.2.2.2.2.1 r6.2.2.2.2.2.2.2.1 r6.2.2.2.2.2.2.2.2.1 r6.2.2.2.2.2.2.2.2.2.1 r6.2.2.2.2.2.2.2.2.2.2.1 r6.2.2.2.2.2.2.2.2.2.2.2.1 r6.2.2.2.2.2.2.2.2.2.2.2.2.1 (List.set r6.2.2.2.2.2.2.2.2.2.2.2.2.2 (0 + (Int.toNat (IntKind.wrap .i64 (r6.2.1 + (((List.length r6.2.2.2.2.2.2.2.2.2.2.2.2.1) : Nat) : Int))))) (IntKind.wrap .u32 r6.2.2.1))
      else
      none
    else
    none
  else
  (some (out1, z, x0, x11, x21, x3, y0, y1, outs))
def Lbig_Int_Mul_uoe_0 (k n : Nat) : Nat → List Int → Int → Int → Bool → Bool → List Int → Bool → List Int → Bool → List Int → List Int → Option (Nat × Bool × Bool × List Int × Bool × List Int × Bool × List Int × List Int) := Nat.rec (fun _ _ _ _ _ _ _ _ _ _ _ _ => none) (fun _ r => Lbig_Int_Mul_uoe_0s k r) n
def bbig_Int_Mul_uoe (k : Nat) (z : Bool) (x0 : Bool) (x1 : List Int) (x2 : Bool) (x3 : List Int) (y0 : Bool) (y1 : List Int) : Option (Bool × List Int × Bool × List Int × Bool × List Int × Bool × List Int) :=
  if (((0 : Int) ≤ (IntKind.wrap .i64 ((((List.length x1) : Nat) : Int) + (((List.length y1) : Nat) : Int)))) ∧ (((IntKind.wrap .i64 ((((List.length x1) : Nat) : Int) + (((List.length y1) : Nat) : Int))) ≤ (IntKind.wrap .i64 ((((List.length x1) : Nat) : Int) + (((List.length y1) : Nat) : Int)))) ∧ (((IntKind.wrap .i64 ((((List.length x1) : Nat) : Int) + (((List.length y1) : Nat) : Int))) * (4 : Int)) ≤ (140737488355328 : Int)))) then
    Option.bind (Lbig_Int_Mul_uoe_0 k k (Int.toNat (IntKind.wrap .i64 ((((List.length x1) : Nat) : Int) + (((List.length y1) : Nat) : Int)))) x1 (((List.length x1) : Nat) : Int) (0 : Int) z x0 x1 x2 x3 y0 y1 (List.replicate (Int.toNat (IntKind.wrap .i64 ((((List.length x1) : Nat) : Int) + (((List.length y1) : Nat) : Int)))) (0 : Int))) fun r6 =>
    if ((0 + r6.1) ≤ (List.length r6.2.2.2.2.2.2.2.2)) then
      Option.bind (Fbig_Int_set_cvg k (!(r6.2.2.1 == r6.2.2.2.2.2.2.1)) (List.take r6.1 r6.2.2.2.2.2.2.2.2) r6.2.1) fun r7 =>
      (some (r7.1, r7.2, r6.2.2.1, r6.2.2.2.1, r6.2.2.2.2.1, r6.2.2.2.2.2.1, r6.2.2.2.2.2.2.1, r6.2.2.2.2.2.2.2.1))
    else
    none
  else
  none
def Fbig_Int_Mul_uoe : Nat → Bool → Bool → List Int → Bool → List Int → Bool → List Int → Option (Bool × List Int × Bool × List Int × Bool × List Int × Bool × List Int)
  | 0, _, _, _, _, _, _, _ => none
  | k + 1, z, x0, x1, x2, x3, y0, y1 => bbig_Int_Mul_uoe k z x0 x1 x2 x3 y0 y1
def shbig_Int_Mul_uoe : FS := { vs := [.a (.ptr 0 0 0), .a (.ptr 1 0 0), .a (.ptr 2 0 0)], bs := [.raw [[.lf .bool, .snil 1 40]] 2 77 true false, .raw [[.lf .bool, .lf (.sl (.int .u32)), .lf .bool, .lf (.sl (.int .u32))]] 4 79 true false, .raw [[.lf .bool, .lf (.sl (.int .u32))]] 2 77 true false] }
def rsbig_Int_Mul_uoe : List FS := [{ vs := [.a (.ptr 0 0 0)], bs := [.raw [[.lf .bool, .lf (.sl (.int .u32))]] 2 77 true false, .raw [[.lf .bool, .lf (.sl (.int .u32)), .lf .bool, .lf (.sl (.int .u32))]] 4 79 true false, .raw [[.lf .bool, .lf (.sl (.int .u32))]] 2 77 true false] }]
def Ibig_Int_Mul_uoe (k : Nat) : Inst := ⟨46, shbig_Int_Mul_uoe, rsbig_Int_Mul_uoe, fun x => Fbig_Int_Mul_uoe k x.1 x.2.1 x.2.2.1 x.2.2.2.1 x.2.2.2.2.1 x.2.2.2.2.2.1 x.2.2.2.2.2.2⟩
theorem albig_Int_Mul_uoe (k : Nat) : AllI (call cf k) [Ibig_Int_set_cvg k] := And.intro (okbig_Int_set_cvg k) (True.intro)
def hsbig_Int_Mul_uoe_2 : List SS := [{ fr := [(0, .a (.ptr 0 0 0)), (1, .a (.ptr 1 0 0)), (2, .a (.ptr 2 0 0)), (7, .a (.smz 3)), (8, .a (.lf (.int .i64))), (9, .a (.lf (.int .u32))), (10, .a (.lf (.int .u64))), (29, .a (.lf (.sl (.int .u32)))), (30, .a (.lf (.int .i64))), (31, .a (.lf (.int .i64))), (39, .a (.lf (.sl (.int .u32)))), (40, .a (.lf (.int .i64))), (41, .a (.lf (.int .i64)))], mem := [(0, some (.raw [[.lf .bool, .snil 1 40]] 2 77 true false)), (1, some (.raw [[.lf .bool, .lf (.sl (.int .u32)), .lf .bool, .lf (.sl (.int .u32))]] 4 79 true false)), (2, some (.raw [[.lf .bool, .lf (.sl (.int .u32))]] 2 77 true false)), (3, some (.arr (.int .u32) 1 40 false))], nx := 4 }]
def osbig_Int_Mul_uoe_2 : List OS := [⟨some 2, { fr := [(0, .a (.ptr 0 0 0)), (1, .a (.ptr 1 0 0)), (2, .a (.ptr 2 0 0)), (7, .a (.smz 3)), (8, .a (.lf (.int .i64))), (10, .a (.lf (.int .u64))), (29, .a (.lf (.sl (.int .u32)))), (30, .a (.lf (.int .i64))), (31, .a (.lf (.int .i64)))], mem := [(0, some (.raw [[.lf .bool, .snil 1 40]] 2 77 true false)), (1, some (.raw [[.lf .bool, .lf (.sl (.int .u32)), .lf .bool, .lf (.sl (.int .u32))]] 4 79 true false)), (2, some (.raw [[.lf .bool, .lf (.sl (.int .u32))]] 2 77 true false)), (3, some (.arr (.int .u32) 1 40 false))], nx := 4 }⟩]
def LIbig_Int_Mul_uoe_2 (k : Nat) : LInst := ⟨2, hsbig_Int_Mul_uoe_2, osbig_Int_Mul_uoe_2, fun x => Lbig_Int_Mul_uoe_2 k k x.1 x.2.1 x.2.2.1 x.2.2.2.1 x.2.2.2.2.1 x.2.2.2.2.2.1 x.2.2.2.2.2.2.1 x.2.2.2.2.2.2.2.1 x.2.2.2.2.2.2.2.2.1 x.2.2.2.2.2.2.2.2.2.1 x.2.2.2.2.2.2.2.2.2.2.1 x.2.2.2.2.2.2.2.2.2.2.2.1 x.2.2.2.2.2.2.2.2.2.2.2.2.1 x.2.2.2.2.2.2.2.2.2.2.2.2.2.1 x.2.2.2.2.2.2.2.2.2.2.2.2.2.2.1 x.2.2.2.2.2.2.2.2.2.2.2.2.2.2.2.1 x.2.2.2.2.2.2.2.2.2.2.2.2.2.2.2.2.1 x.2.2.2.2.2.2.2.2.2.2.2.2.2.2.2.2.2⟩
theorem anbig_Int_Mul_uoe_2 (k : Nat) : LAll (LOk (R := DS OS.D osbig_Int_Mul_uoe_2) (fun b _ σ K => LOt Ty (kps 46) 3 b σ K []) cf (call cf k) (kps 46) Tryz.f46.ntmps k 3) 2 (lb Tryz.f46 1) :=
  And.intro (True.intro) (And.intro (And.intro (True.intro) (True.intro)) (And.intro (And.intro (True.intro) (And.intro (True.intro) (And.intro (True.intro) (True.intro)))) (True.intro)))
theorem stbig_Int_Mul_uoe_2 (k n : Nat) (x : DS SS.D hsbig_Int_Mul_uoe_2) : Lbig_Int_Mul_uoe_2 k (n + 1) x.1 x.2.1 x.2.2.1 x.2.2.2.1 x.2.2.2.2.1 x.2.2.2.2.2.1 x.2.2.2.2.2.2.1 x.2.2.2.2.2.2.2.1 x.2.2.2.2.2.2.2.2.1 x.2.2.2.2.2.2.2.2.2.1 x.2.2.2.2.2.2.2.2.2.2.1 x.2.2.2.2.2.2.2.2.2.2.2.1 x.2.2.2.2.2.2.2.2.2.2.2.2.1 x.2.2.2.2.2.2.2.2.2.2.2.2.2.1 x.2.2.2.2.2.2.2.2.2.2.2.2.2.2.1 x.2.2.2.2.2.2.2.2.2.2.2.2.2.2.2.1 x.2.2.2.2.2.2.2.2.2.2.2.2.2.2.2.2.1 x.2.2.2.2.2.2.2.2.2.2.2.2.2.2.2.2.2 = encSK SS.enc (fun σ => run2 cf (fun f a b K => COt f a b K [Ibig_Int_set_cvg k]) (fun b _ σ K => LOt Ty (kps 46) 3 b σ K []) Tryz.f46.ntmps 2 (lb Tryz.f46 1) σ (nextK Ty (kps 46 2) 3 hsbig_Int_Mul_uoe_2 osbig_Int_Mul_uoe_2 fun x => Lbig_Int_Mul_uoe_2 k n x.1 x.2.1 x.2.2.1 x.2.2.2.1 x.2.2.2.2.1 x.2.2.2.2.2.1 x.2.2.2.2.2.2.1 x.2.2.2.2.2.2.2.1 x.2.2.2.2.2.2.2.2.1 x.2.2.2.2.2.2.2.2.2.1 x.2.2.2.2.2.2.2.2.2.2.1 x.2.2.2.2.2.2.2.2.2.2.2.1 x.2.2.2.2.2.2.2.2.2.2.2.2.1 x.2.2.2.2.2.2.2.2.2.2.2.2.2.1 x.2.2.2.2.2.2.2.2.2.2.2.2.2.2.1 x.2.2.2.2.2.2.2.2.2.2.2.2.2.2.2.1 x.2.2.2.2.2.2.2.2.2.2.2.2.2.2.2.2.1 x.2.2.2.2.2.2.2.2.2.2.2.2.2.2.2.2.2)) hsbig_Int_Mul_uoe_2 x := by kernel_rfl
theorem lobig_Int_Mul_uoe_2 (k : Nat) : LIOk cf (call cf k) (kps 46) Tryz.f46.ntmps k 3 2 (lb Tryz.f46 1) (LIbig_Int_Mul_uoe_2 k) :=
  loop_ok (c := cf) (callF := call cf k) (kp := kps 46) (nt := Tryz.f46.ntmps) (k := k) (p := 3) (b := 2) (x0 := lb Tryz.f46 1) (hs := hsbig_Int_Mul_uoe_2) (os := osbig_Int_Mul_uoe_2) (COt_ok (albig_Int_Mul_uoe k)) (anbig_Int_Mul_uoe_2 k) (fun n x => Lbig_Int_Mul_uoe_2 k n x.1 x.2.1 x.2.2.1 x.2.2.2.1 x.2.2.2.2.1 x.2.2.2.2.2.1 x.2.2.2.2.2.2.1 x.2.2.2.2.2.2.2.1 x.2.2.2.2.2.2.2.2.1 x.2.2.2.2.2.2.2.2.2.1 x.2.2.2.2.2.2.2.2.2.2.1 x.2.2.2.2.2.2.2.2.2.2.2.1 x.2.2.2.2.2.2.2.2.2.2.2.2.1 x.2.2.2.2.2.2.2.2.2.2.2.2.2.1 x.2.2.2.2.2.2.2.2.2.2.2.2.2.2.1 x.2.2.2.2.2.2.2.2.2.2.2.2.2.2.2.1 x.2.2.2.2.2.2.2.2.2.2.2.2.2.2.2.2.1 x.2.2.2.2.2.2.2.2.2.2.2.2.2.2.2.2.2) (fun _ => rfl) (stbig_Int_Mul_uoe_2 k)
def hsbig_Int_Mul_uoe_0 : List SS := [{ fr := [(0, .a (.ptr 0 0 0)), (1, .a (.ptr 1 0 0)), (2, .a (.ptr 2 0 0)), (7, .a (.smz 3)), (29, .a (.lf (.sl (.int .u32)))), (30, .a (.lf (.int .i64))), (31, .a (.lf (.int .i64)))], mem := [(0, some (.raw [[.lf .bool, .snil 1 40]] 2 77 true false)), (1, some (.raw [[.lf .bool, .lf (.sl (.int .u32)), .lf .bool, .lf (.sl (.int .u32))]] 4 79 true false)), (2, some (.raw [[.lf .bool, .lf (.sl (.int .u32))]] 2 77 true false)), (3, some (.arr (.int .u32) 1 40 false))], nx := 4 }]
def osbig_Int_Mul_uoe_0 : List OS := [⟨some 0, { fr := [(0, .a (.ptr 0 0 0)), (1, .a (.ptr 1 0 0)), (2, .a (.ptr 2 0 0)), (7, .a (.smz 3))], mem := [(0, some (.raw [[.lf .bool, .snil 1 40]] 2 77 true false)), (1, some (.raw [[.lf .bool, .lf (.sl (.int .u32)), .lf .bool, .lf (.sl (.int .u32))]] 4 79 true false)), (2, some (.raw [[.lf .bool, .lf (.sl (.int .u32))]] 2 77 true false)), (3, some (.arr (.int .u32) 1 40 false))], nx := 4 }⟩]
def LIbig_Int_Mul_uoe_0 (k : Nat) : LInst := ⟨0, hsbig_Int_Mul_uoe_0, osbig_Int_Mul_uoe_0, fun x => Lbig_Int_Mul_uoe_0 k k x.1 x.2.1 x.2.2.1 x.2.2.2.1 x.2.2.2.2.1 x.2.2.2.2.2.1 x.2.2.2.2.2.2.1 x.2.2.2.2.2.2.2.1 x.2.2.2.2.2.2.2.2.1 x.2.2.2.2.2.2.2.2.2.1 x.2.2.2.2.2.2.2.2.2.2.1 x.2.2.2.2.2.2.2.2.2.2.2⟩
theorem anbig_Int_Mul_uoe_0 (k : Nat) : LAll (LOk (R := DS OS.D osbig_Int_Mul_uoe_0) (fun b _ σ K => LOt Ty (kps 46) 3 b σ K [LIbig_Int_Mul_uoe_2 k]) cf (call cf k) (kps 46) Tryz.f46.ntmps k 3) 0 (lb Tryz.f46 0) :=
  And.intro (True.intro) (And.intro (And.intro (True.intro) (True.intro)) (And.intro (And.intro (True.intro) (And.intro (True.intro) (And.intro (And.intro (True.intro) (LOt_ok (c := cf) (callF := call cf k) (kp := kps 46) (nt := Tryz.f46.ntmps) (k := k) (p := 3) (b := 2) (x0 := lb Tryz.f46 1) (l := [LIbig_Int_Mul_uoe_2 k]) (And.intro (fun _ => lobig_Int_Mul_uoe_2 k) (True.intro)))) (True.intro)))) (True.intro)))
theorem stbig_Int_Mul_uoe_0 (k n : Nat) (x : DS SS.D hsbig_Int_Mul_uoe_0) : Lbig_Int_Mul_uoe_0 k (n + 1) x.1 x.2.1 x.2.2.1 x.2.2.2.1 x.2.2.2.2.1 x.2.2.2.2.2.1 x.2.2.2.2.2.2.1 x.2.2.2.2.2.2.2.1 x.2.2.2.2.2.2.2.2.1 x.2.2.2.2.2.2.2.2.2.1 x.2.2.2.2.2.2.2.2.2.2.1 x.2.2.2.2.2.2.2.2.2.2.2 = encSK SS.enc (fun σ => run2 cf (fun f a b K => COt f a b K [Ibig_Int_set_cvg k]) (fun b _ σ K => LOt Ty (kps 46) 3 b σ K [LIbig_Int_Mul_uoe_2 k]) Tryz.f46.ntmps 0 (lb Tryz.f46 0) σ (nextK Ty (kps 46 0) 3 hsbig_Int_Mul_uoe_0 osbig_Int_Mul_uoe_0 fun x => Lbig_Int_Mul_uoe_0 k n x.1 x.2.1 x.2.2.1 x.2.2.2.1 x.2.2.2.2.1 x.2.2.2.2.2.1 x.2.2.2.2.2.2.1 x.2.2.2.2.2.2.2.1 x.2.2.2.2.2.2.2.2.1 x.2.2.2.2.2.2.2.2.2.1 x.2.2.2.2.2.2.2.2.2.2.1 x.2.2.2.2.2.2.2.2.2.2.2)) hsbig_Int_Mul_uoe_0 x := by kernel_rfl
theorem lobig_Int_Mul_uoe_0 (k : Nat) : LIOk cf (call cf k) (kps 46) Tryz.f46.ntmps k 3 0 (lb Tryz.f46 0) (LIbig_Int_Mul_uoe_0 k) :=
  loop_ok (c := cf) (callF := call cf k) (kp := kps 46) (nt := Tryz.f46.ntmps) (k := k) (p := 3) (b := 0) (x0 := lb Tryz.f46 0) (hs := hsbig_Int_Mul_uoe_0) (os := osbig_Int_Mul_uoe_0) (COt_ok (albig_Int_Mul_uoe k)) (anbig_Int_Mul_uoe_0 k) (fun n x => Lbig_Int_Mul_uoe_0 k n x.1 x.2.1 x.2.2.1 x.2.2.2.1 x.2.2.2.2.1 x.2.2.2.2.2.1 x.2.2.2.2.2.2.1 x.2.2.2.2.2.2.2.1 x.2.2.2.2.2.2.2.2.1 x.2.2.2.2.2.2.2.2.2.1 x.2.2.2.2.2.2.2.2.2.2.1 x.2.2.2.2.2.2.2.2.2.2.2) (fun _ => rfl) (stbig_Int_Mul_uoe_0 k)
theorem anbig_Int_Mul_uoe (k : Nat) : LAll (LOk (R := DS FS.D rsbig_Int_Mul_uoe) (fun b _ σ K => LOt Ty (kps 46) 3 b σ K [LIbig_Int_Mul_uoe_2 k, LIbig_Int_Mul_uoe_0 k]) cf (call cf k) (cf.keep 46) Tryz.f46.ntmps k shbig_Int_Mul_uoe.bs.length) 0 (bd Tryz.f46) :=
  And.intro (True.intro) (And.intro (True.intro) (And.intro (And.intro (True.intro) (LOt_ok (c := cf) (callF := call cf k) (kp := kps 46) (nt := Tryz.f46.ntmps) (k := k) (p := 3) (b := 0) (x0 := lb Tryz.f46 0) (l := [LIbig_Int_Mul_uoe_2 k, LIbig_Int_Mul_uoe_0 k]) (And.intro (fun h => absurd (show (2 : Nat) = 0 from h) (by decide)) (And.intro (fun _ => lobig_Int_Mul_uoe_0 k) (True.intro))))) (And.intro (True.intro) (True.intro))))
theorem stbig_Int_Mul_uoe (k : Nat) (x : shbig_Int_Mul_uoe.D) : Fbig_Int_Mul_uoe (k + 1) x.1 x.2.1 x.2.2.1 x.2.2.2.1 x.2.2.2.2.1 x.2.2.2.2.2.1 x.2.2.2.2.2.2 = body2 cf (fun f a b K => COt f a b K [Ibig_Int_set_cvg k]) (fun b _ σ K => LOt Ty (kps 46) 3 b σ K [LIbig_Int_Mul_uoe_2 k, LIbig_Int_Mul_uoe_0 k]) 46 Tryz.f46.ntmps Tryz.f46.results.toList (bd Tryz.f46) (shbig_Int_Mul_uoe.enc x).1 (shbig_Int_Mul_uoe.enc x).2 (putS FS.dec rsbig_Int_Mul_uoe) := by kernel_rfl
theorem okbig_Int_Mul_uoe : ∀ k, InstOk (call cf k) (Ibig_Int_Mul_uoe k)
  | 0 => fun x y e => absurd (show (none : Option _) = some y from e) (by simp)
  | k + 1 => inst_ok (c := cf) (k := k) (f := 46) (fn := Tryz.f46) (body := bd Tryz.f46) (sh := shbig_Int_Mul_uoe) (os := rsbig_Int_Mul_uoe) rfl Tryz.func46 rfl ⟨rfl, Nat.le_of_ble_eq_true rfl⟩ (COt_ok (albig_Int_Mul_uoe k)) (anbig_Int_Mul_uoe k) (fun x => Fbig_Int_Mul_uoe (k + 1) x.1 x.2.1 x.2.2.1 x.2.2.2.1 x.2.2.2.2.1 x.2.2.2.2.2.1 x.2.2.2.2.2.2) (stbig_Int_Mul_uoe k)

/-! (*shunt/big.Int).Mul -/
def Lbig_Int_Mul_gsh_2s (k : Nat) (rec : Nat → Int → Int → Int → List Int → Int → Int → List Int → Int → Int → Bool → Bool → List Int → Bool → List Int → List Int → Option (Nat × Int × Int × List Int × Int × Int × Bool × Bool × List Int × Bool × List Int × List Int)) (out1 : Nat) (i : Int) (a : Int) (carry : Int) (x : List Int) (x1 : Int) (x2 : Int) (x3 : List Int) (x4 : Int) (x5 : Int) (z : Bool) (x0 : Bool) (x11 : List Int) (y0 : Bool) (y1 : List Int) (outs : List Int) : Option (Nat × Int × Int × List Int × Int × Int × Bool × Bool × List Int × Bool × List Int × List Int) :=
  if ((decide (x5 < x4)) = true) then
    if ((0 : Int) ≤ x5) then
      Option.bind (x3)[(Int.toNat x5)]? fun x6 =>
      if (((0 : Int) ≤ (IntKind.wrap .i64 (i + x5))) ∧ ((IntKind.wrap .i64 (i + x5)) < ((out1 : Nat) : Int))) then
        Option.bind (outs)[(0 + (Int.toNat (IntKind.wrap .i64 (i + x5))))]? fun x7 =>
        if (((0 : Int) ≤ (IntKind.wrap .i64 (i + x5))) ∧ ((IntKind.wrap .i64 (i + x5)) < ((out1 : Nat) : Int))) then
          Option.bind (outs)[(0 + (Int.toNat (IntKind.wrap .i64 (i + x5))))]? fun x8 =>
          rec out1 i a (Int.fdiv (IntKind.wrap .u64 ((IntKind.wrap .u64 ((IntKind.wrap .u64 ((IntKind.wrap .u64 a) * (IntKind.wrap .u64 x6))) + (IntKind.wrap .u64 x7))) + carry)) (4294967296 : Int)) x x1 x2 x3 x4 (IntKind.wrap .i64 (x5 + (1 : Int))) z x0 x11 y0 y1 (List.set outs (0 + (Int.toNat (IntKind.wrap .i64 (i + x5)))) (IntKind.wrap .u32 (IntKind.wrap .u64 ((IntKind.wrap .u64 ((IntKind.wrap .u64 ((IntKind.wrap .u64 a) * (IntKind.wrap .u64 x6))) + (IntKind.wrap .u64 x7))) + carry))))
        else
        none
      else
      none
    else
    none
  else
  (some (out1, i, carry, x, x1, x2, z, x0, x11, y0, y1, outs))
def Lbig_Int_Mul_gsh_2 (k n : Nat) : Nat → Int → Int → Int → List Int → Int → Int → List Int → Int → Int → Bool → Bool → List Int → Bool → List Int → List Int → Option (Nat × Int × Int × List Int × Int × Int × Bool × Bool × List Int × Bool × List Int × List Int) := Nat.rec (fun _ _ _ _ _ _ _ _ _ _ _ _ _ _ _ _ => none) (fun _ r => Lbig_Int_Mul_gsh_2s k r) n
def Lbig_Int_Mul_gsh_0s (k : Nat) (rec : Nat → List Int → Int → Int → Bool → Bool → List Int → Bool → List Int → List Int → Option (Nat × Bool × Bool × List Int × Bool × List Int × List Int)) (out1 : Nat) (x : List Int) (x1 : Int) (x2 : Int) (z : Bool) (x0 : Bool) (x11 : List Int) (y0 : Bool) (y1 : List Int) (outs : List Int) : Option (Nat × Bool × Bool × List Int × Bool × List Int × List Int) :=
  if ((decide (x2 < x1)) = true) then
    if ((0 : Int) ≤ x2) then
      Option.bind (x)[(Int.toNat x2)]? fun x4 =>
      Option.bind (Lbig_Int_Mul_gsh_2 k k out1 x2 x4 (0 : Int) x x1 x2 y1 (((List.length y1) : Nat) : Int) (0 : Int) z x0 x11 y0 y1 outs) fun r11 =>
      if (((0 : Int) ≤ (IntKind.wrap .i64 (r11.2.1 + (((List.length r11.2.2.2.2.2.2.2.2.2.2.1) : Nat) : Int)))) ∧ ((IntKind.wrap .i64 (r11.2.1 + (((List.length r11.2.2.2.2.2.2.2.2.2.2.1) : Nat) : Int))) < ((r11.1 : Nat) : Int))) then
        Option.bind (r11.2.2.2.2.2.2.2.2.2.2.2)[(0 + (Int.toNat (IntKind.wrap .i64 (r11.2.1 + (((List.length r11.2.2.2.2.2.2.2.2.2.2.1) : Nat) : Int)))))]? fun x5 =>
        rec r11.1 r11.2.2.2.1 r11.2.2.2.2.1 (IntKind.wrap .i64 (r11.2.2.2.2.2.1 + (1 : Int))) r11.2.2.2.2.2.2.1 r11.2.2.2.2.2.2.2.1 r11.2.2.2.2.2.2.2.2.1 r11.2.2.2.2.2.2.2.2.2.1 r11.2.2.2.2.2.2.2.2.2.2.1 (List.set r11.2.2.2.2.2.2.2.2.2.2.2 (0 + (Int.toNat (IntKind.wrap .i64 (r11.2.1 + (((List.length r11.2.2.2.2.2.2.2.2.2.2.1) : Nat) : Int))))) (IntKind.wrap .u32 r11.2.2.1))
      else
      none
    else
    none
  else
  (some (out1, z, x0, x11, y0, y1, outs))
def Lbig_Int_Mul_gsh_0 (k n : Nat) : Nat → List Int → Int → Int → Bool → Bool → List Int → Bool → List Int → List Int → Option (Nat × Bool × Bool × List Int × Bool × List Int × List Int) := Nat.rec (fun _ _ _ _ _ _ _ _ _ _ => none) (fun _ r => Lbig_Int_Mul_gsh_0s k r) n
def bbig_Int_Mul_gsh (k : Nat) (z : Bool) (x0 : Bool) (x1 : List Int) (y0 : Bool) (y1 : List Int) : Option (Bool × List Int × Bool × List Int × Bool × List Int) :=
  if (((0 : Int) ≤ (IntKind.wrap .i64 ((((List.length x1) : Nat) : Int) + (((List.length y1) : Nat) : Int)))) ∧ (((IntKind.wrap .i64 ((((List.length x1) : Nat) : Int) + (((List.length y1) : Nat) : Int))) ≤ (IntKind.wrap .i64 ((((List.length x1) : Nat) : Int) + (((List.length y1) : Nat) : Int)))) ∧ (((IntKind.wrap .i64 ((((List.length x1) : Nat) : Int) + (((List.length y1) : Nat) : Int))) * (4 : Int)) ≤ (140737488355328 : Int)))) then
    Option.bind (Lbig_Int_Mul_gsh_0 k k (Int.toNat (IntKind.wrap .i64 ((((List.length x1) : Nat) : Int) + (((List.length y1) : Nat) : Int)))) x1 (((List.length x1) : Nat) : Int) (0 : Int) z x0 x1 y0 y1 (List.replicate (Int.toNat (IntKind.wrap .i64 ((((List.length x1) : Nat) : Int) + (((List.length y1) : Nat) : Int)))) (0 : Int))) fun r11 =>
    if ((0 + r11.1) ≤ (List.length r11.2.2.2.2.2.2)) then
      Option.bind (Fbig_Int_set_cvg k (!(r11.2.2.1 == r11.2.2.2.2.1)) (List.take r11.1 r11.2.2.2.2.2.2) r11.2.1) fun r12 =>
      (some (r12.1, r12.2, r11.2.2.1, r11.2.2.2.1, r11.2.2.2.2.1, r11.2.2.2.2.2.1))
    else
    none
  else
  none
def Fbig_Int_Mul_gsh : Nat → Bool → Bool → List Int → Bool → List Int → Option (Bool × List Int × Bool × List Int × Bool × List Int)
  | 0, _, _, _, _, _ => none
  | k + 1, z, x0, x1, y0, y1 => bbig_Int_Mul_gsh k z x0 x1 y0 y1
def shbig_Int_Mul_gsh : FS := { vs := [.a (.ptr 0 0 0), .a (.ptr 1 0 0), .a (.ptr 2 0 0)], bs := [.raw [[.lf .bool, .snil 1 40]] 2 77 true false, .raw [[.lf .bool, .lf (.sl (.int .u32))]] 2 77 true false, .raw [[.lf .bool, .lf (.sl (.int .u32))]] 2 77 true false] }
def rsbig_Int_Mul_gsh : List FS := [{ vs := [.a (.ptr 0 0 0)], bs := [.raw [[.lf .bool, .lf (.sl (.int .u32))]] 2 77 true false, .raw [[.lf .bool, .lf (.sl (.int .u32))]] 2 77 true false, .raw [[.lf .bool, .lf (.sl (.int .u32))]] 2 77 true false] }]
def Ibig_Int_Mul_gsh (k : Nat) : Inst := ⟨46, shbig_Int_Mul_gsh, rsbig_Int_Mul_gsh, fun x => Fbig_Int_Mul_gsh k x.1 x.2.1 x.2.2.1 x.2.2.2.1 x.2.2.2.2⟩
theorem albig_Int_Mul_gsh (k : Nat) : AllI (call cf k) [Ibig_Int_set_cvg k] := And.intro (okbig_Int_set_cvg k) (True.intro)
def hsbig_Int_Mul_gsh_2 : List SS := [{ fr := [(0, .a (.ptr 0 0 0)), (1, .a (.ptr 1 0 0)), (2, .a (.ptr 2 0 0)), (7, .a (.smz 3)), (8, .a (.lf (.int .i64))), (9, .a (.lf (.int .u32))), (10, .a (.lf (.int .u64))), (29, .a (.lf (.sl (.int .u32)))), (30, .a (.lf (.int .i64))), (31, .a (.lf (.int .i64))), (39, .a (.lf (.sl (.int .u32)))), (40, .a (.lf (.int .i64))), (41, .a (.lf (.int .i64)))], mem := [(0, some (.raw [[.lf .bool, .snil 1 40]] 2 77 true false)), (1, some (.raw [[.lf .bool, .lf (.sl (.int .u32))]] 2 77 true false)), (2, some (.raw [[.lf .bool, .lf (.sl (.int .u32))]] 2 77 true false)), (3, some (.arr (.int .u32) 1 40 false))], nx := 4 }]
def osbig_Int_Mul_gsh_2 : List OS := [⟨some 2, { fr := [(0, .a (.ptr 0 0 0)), (1, .a (.ptr 1 0 0)), (2, .a (.ptr 2 0 0)), (7, .a (.smz 3)), (8, .a (.lf (.int .i64))), (10, .a (.lf (.int .u64))), (29, .a (.lf (.sl (.int .u32)))), (30, .a (.lf (.int .i64))), (31, .a (.lf (.int .i64)))], mem := [(0, some (.raw [[.lf .bool, .snil 1 40]] 2 77 true false)), (1, some (.raw [[.lf .bool, .lf (.sl (.int .u32))]] 2 77 true false)), (2, some (.raw [[.lf .bool, .lf (.sl (.int .u32))]] 2 77 true false)), (3, some (.arr (.int .u32) 1 40 false))], nx := 4 }⟩]
def LIbig_Int_Mul_gsh_2 (k : Nat) : LInst := ⟨2, hsbig_Int_Mul_gsh_2, osbig_Int_Mul_gsh_2, fun x => Lbig_Int_Mul_gsh_2 k k x.1 x.2.1 x.2.2.1 x.2.2.2.1 x.2.2.2.2.1 x.2.2.2.2.2.1 x.2.2.2.2.2.2.1 x.2.2.2.2.2.2.2.1 x.2.2.2.2.2.2.2.2.1 x.2.2.2.2.2.2.2.2.2.1 x.2.2.2.2.2.2.2.2.2.2.1 x.2.2.2.2.2.2.2.2.2.2.2.1 x.2.2.2.2.2.2.2.2.2.2.2.2.1 x.2.2.2.2.2.2.2.2.2.2.2.2.2.1 x.2.2.2.2.2.2.2.2.2.2.2.2.2.2.1 x.2.2.2.2.2.2.2.2.2.2.2.2.2.2.2⟩
theorem anbig_Int_Mul_gsh_2 (k : Nat) : LAll (LOk (R := DS OS.D osbig_Int_Mul_gsh_2) (fun b _ σ K => LOt Ty (kps 46) 3 b σ K []) cf (call cf k) (kps 46) Tryz.f46.ntmps k 3) 2 (lb Tryz.f46 1) :=
  And.intro (True.intro) (And.intro (And.intro (True.intro) (True.intro)) (And.intro (And.intro (True.intro) (And.intro (True.intro) (And.intro (True.intro) (True.intro)))) (True.intro)))
theorem stbig_Int_Mul_gsh_2 (k n : Nat) (x : DS SS.D hsbig_Int_Mul_gsh_2) : Lbig_Int_Mul_gsh_2 k (n + 1) x.1 x.2.1 x.2.2.1 x.2.2.2.1 x.2.2.2.2.1 x.2.2.2.2.2.1 x.2.2.2.2.2.2.1 x.2.2.2.2.2.2.2.1 x.2.2.2.2.2.2.2.2.1 x.2.2.2.2.2.2.2.2.2.1 x.2.2.2.2.2.2.2.2.2.2.1 x.2.2.2.2.2.2.2.2.2.2.2.1 x.2.2.2.2.2.2.2.2.2.2.2.2.1 x.2.2.2.2.2.2.2.2.2.2.2.2.2.1 x.2.2.2.2.2.2.2.2.2.2.2.2.2.2.1 x.2.2.2.2.2.2.2.2.2.2.2.2.2.2.2 = encSK SS.enc (fun σ => run2 cf (fun f a b K => COt f a b K [Ibig_Int_set_cvg k]) (fun b _ σ K => LOt Ty (kps 46) 3 b σ K []) Tryz.f46.ntmps 2 (lb Tryz.f46 1) σ (nextK Ty (kps 46 2) 3 hsbig_Int_Mul_gsh_2 osbig_Int_Mul_gsh_2 fun x => Lbig_Int_Mul_gsh_2 k n x.1 x.2.1 x.2.2.1 x.2.2.2.1 x.2.2.2.2.1 x.2.2.2.2.2.1 x.2.2.2.2.2.2.1 x.2.2.2.2.2.2.2.1 x.2.2.2.2.2.2.2.2.1 x.2.2.2.2.2.2.2.2.2.1 x.2.2.2.2.2.2.2.2.2.2.1 x.2.2.2.2.2.2.2.2.2.2.2.1 x.2.2.2.2.2.2.2.2.2.2.2.2.1 x.2.2.2.2.2.2.2.2.2.2.2.2.2.1 x.2.2.2.2.2.2.2.2.2.2.2.2.2.2.1 x.2.2.2.2.2.2.2.2.2.2.2.2.2.2.2)) hsbig_Int_Mul_gsh_2 x := by kernel_rfl
theorem lobig_Int_Mul_gsh_2 (k : Nat) : LIOk cf (call cf k) (kps 46) Tryz.f46.ntmps k 3 2 (lb Tryz.f46 1) (LIbig_Int_Mul_gsh_2 k) :=
  loop_ok (c := cf) (callF := call cf k) (kp := kps 46) (nt := Tryz.f46.ntmps) (k := k) (p := 3) (b := 2) (x0 := lb Tryz.f46 1) (hs := hsbig_Int_Mul_gsh_2) (os := osbig_Int_Mul_gsh_2) (COt_ok (albig_Int_Mul_gsh k)) (anbig_Int_Mul_gsh_2 k) (fun n x => Lbig_Int_Mul_gsh_2 k n x.1 x.2.1 x.2.2.1 x.2.2.2.1 x.2.2.2.2.1 x.2.2.2.2.2.1 x.2.2.2.2.2.2.1 x.2.2.2.2.2.2.2.1 x.2.2.2.2.2.2.2.2.1 x.2.2.2.2.2.2.2.2.2.1 x.2.2.2.2.2.2.2.2.2.2.1 x.2.2.2.2.2.2.2.2.2.2.2.1 x.2.2.2.2.2.2.2.2.2.2.2.2.1 x.2.2.2.2.2.2.2.2.2.2.2.2.2.1 x.2.2.2.2.2.2.2.2.2.2.2.2.2.2.1 x.2.2.2.2.2.2.2.2.2.2.2.2.2.2.2) (fun _ => rfl) (stbig_Int_Mul_gsh_2 k)
def hsbig_Int_Mul_gsh_0 : List SS := [{ fr := [(0, .a (.ptr 0 0 0)), (1, .a (.ptr 1 0 0)), (2, .a (.ptr 2 0 0)), (7, .a (.smz 3)), (29, .a (.lf (.sl (.int .u32)))), (30, .a (.lf (.int .i64))), (31, .a (.lf (.int .i64)))], mem := [(0, some (.raw [[.lf .bool, .snil 1 40]] 2 77 true false)), (1, some (.raw [[.lf .bool, .lf (.sl (.int .u32))]] 2 77 true false)), (2, some (.raw [[.lf .bool, .lf (.sl (.int .u32))]] 2 77 true false)), (3, some (.arr (.int .u32) 1 40 false))], nx := 4 }]
def osbig_Int_Mul_gsh_0 : List OS := [⟨some 0, { fr := [(0, .a (.ptr 0 0 0)), (1, .a (.ptr 1 0 0)), (2, .a (.ptr 2 0 0)), (7, .a (.smz 3))], mem := [(0, some (.raw [[.lf .bool, .snil 1 40]] 2 77 true false)), (1, some (.raw [[.lf .bool, .lf (.sl (.int .u32))]] 2 77 true false)), (2, some (.raw [[.lf .bool, .lf (.sl (.int .u32))]] 2 77 true false)), (3, some (.arr (.int .u32) 1 40 false))], nx := 4 }⟩]
def LIbig_Int_Mul_gsh_0 (k : Nat) : LInst := ⟨0, hsbig_Int_Mul_gsh_0, osbig_Int_Mul_gsh_0, fun x => Lbig_Int_Mul_gsh_0 k k x.1 x.2.1 x.2.2.1 x.2.2.2.1 x.2.2.2.2.1 x.2.2.2.2.2.1 x.2.2.2.2.2.2.1 x.2.2.2.2.2.2.2.1 x.2.2.2.2.2.2.2.2.1 x.2.2.2.2.2.2.2.2.2⟩
theorem anbig_Int_Mul_gsh_0 (k : Nat) : LAll (LOk (R := DS OS.D osbig_Int_Mul_gsh_0) (fun b _ σ K => LOt Ty (kps 46) 3 b σ K [LIbig_Int_Mul_gsh_2 k]) cf (call cf k) (kps 46) Tryz.f46.ntmps k 3) 0 (lb Tryz.f46 0) :=
  And.intro (True.intro) (And.intro (And.intro (True.intro) (True.intro)) (And.intro (And.intro (True.intro) (And.intro (True.intro) (And.intro (And.intro (True.intro) (LOt_ok (c := cf) (callF := call cf k) (kp := kps 46) (nt := Tryz.f46.ntmps) (k := k) (p := 3) (b := 2) (x0 := lb Tryz.f46 1) (l := [LIbig_Int_Mul_gsh_2 k]) (And.intro (fun _ => lobig_Int_Mul_gsh_2 k) (True.intro)))) (True.intro)))) (True.intro)))
theorem stbig_Int_Mul_gsh_0 (k n : Nat) (x : DS SS.D hsbig_Int_Mul_gsh_0) : Lbig_Int_Mul_gsh_0 k (n + 1) x.1 x.2.1 x.2.2.1 x.2.2.2.1 x.2.2.2.2.1 x.2.2.2.2.2.1 x.2.2.2.2.2.2.1 x.2.2.2.2.2.2.2.1 x.2.2.2.2.2.2.2.2.1 x.2.2.2.2.2.2.2.2.2 = encSK SS.enc (fun σ => run2 cf (fun f a b K => COt f a b K [Ibig_Int_set_cvg k]) (fun b _ σ K => LOt Ty (kps 46) 3 b σ K [LIbig_Int_Mul_gsh_2 k]) Tryz.f46.ntmps 0 (lb Tryz.f46 0) σ (nextK Ty (kps 46 0) 3 hsbig_Int_Mul_gsh_0 osbig_Int_Mul_gsh_0 fun x => Lbig_Int_Mul_gsh_0 k n x.1 x.2.1 x.2.2.1 x.2.2.2.1 x.2.2.2.2.1 x.2.2.2.2.2.1 x.2.2.2.2.2.2.1 x.2.2.2.2.2.2.2.1 x.2.2.2.2.2.2.2.2.1 x.2.2.2.2.2.2.2.2.2)) hsbig_Int_Mul_gsh_0 x := by kernel_rfl
theorem lobig_Int_Mul_gsh_0 (k : Nat) : LIOk cf (call cf k) (kps 46) Tryz.f46.ntmps k 3 0 (lb Tryz.f46 0) (LIbig_Int_Mul_gsh_0 k) :=
  loop_ok (c := cf) (callF := call cf k) (kp := kps 46) (nt := Tryz.f46.ntmps) (k := k) (p := 3) (b := 0) (x0 := lb Tryz.f46 0) (hs := hsbig_Int_Mul_gsh_0) (os := osbig_Int_Mul_gsh_0) (COt_ok (albig_Int_Mul_gsh k)) (anbig_Int_Mul_gsh_0 k) (fun n x => Lbig_Int_Mul_gsh_0 k n x.1 x.2.1 x.2.2.1 x.2.2.2.1 x.2.2.2.2.1 x.2.2.2.2.2.1 x.2.2.2.2.2.2.1 x.2.2.2.2.2.2.2.1 x.2.2.2.2.2.2.2.2.1 x.2.2.2.2.2.2.2.2.2) (fun _ => rfl) (stbig_Int_Mul_gsh_0 k)
theorem anbig_Int_Mul_gsh (k : Nat) : LAll (LOk (R := DS FS.D rsbig_Int_Mul_gsh) (fun b _ σ K => LOt Ty (kps 46) 3 b σ K [LIbig_Int_Mul_gsh_2 k, LIbig_Int_Mul_gsh_0 k]) cf (call cf k) (cf.keep 46) Tryz.f46.ntmps k shbig_Int_Mul_gsh.bs.length) 0 (bd Tryz.f46) :=
  And.intro (True.intro) (And.intro (True.intro) (And.intro (And.intro (True.intro) (LOt_ok (c := cf) (callF := call cf k) (kp := kps 46) (nt := Tryz.f46.ntmps) (k := k) (p := 3) (b := 0) (x0 := lb Tryz.f46 0) (l := [LIbig_Int_Mul_gsh_2 k, LIbig_Int_Mul_gsh_0 k]) (And.intro (fun h => absurd (show (2 : Nat) = 0 from h) (by decide)) (And.intro (fun _ => lobig_Int_Mul_gsh_0 k) (True.intro))))) (And.intro (True.intro) (True.intro))))
theorem stbig_Int_Mul_gsh (k : Nat) (x : shbig_Int_Mul_gsh.D) : Fbig_Int_Mul_gsh (k + 1) x.1 x.2.1 x.2.2.1 x.2.2.2.1 x.2.2.2.2 = body2 cf (fun f a b K => COt f a b K [Ibig_Int_set_cvg k]) (fun b _ σ K => LOt Ty (kps 46) 3 b σ K [LIbig_Int_Mul_gsh_2 k, LIbig_Int_Mul_gsh_0 k]) 46 Tryz.f46.ntmps Tryz.f46.results.toList (bd Tryz.f46) (shbig_Int_Mul_gsh.enc x).1 (shbig_Int_Mul_gsh.enc x).2 (putS FS.dec rsbig_Int_Mul_gsh) := by kernel_rfl
theorem okbig_Int_Mul_gsh : ∀ k, InstOk (call cf k) (Ibig_Int_Mul_gsh k)
  | 0 => fun x y e => absurd (show (none : Option _) = some y from e) (by simp)
  | k + 1 => inst_ok (c := cf) (k := k) (f := 46) (fn := Tryz.f46) (body := bd Tryz.f46) (sh := shbig_Int_Mul_gsh) (os := rsbig_Int_Mul_gsh) rfl Tryz.func46 rfl ⟨rfl, Nat.le_of_ble_eq_true rfl⟩ (COt_ok (albig_Int_Mul_gsh k)) (anbig_Int_Mul_gsh k) (fun x => Fbig_Int_Mul_gsh (k + 1) x.1 x.2.1 x.2.2.1 x.2.2.2.1 x.2.2.2.2) (stbig_Int_Mul_gsh k)

/-! shunt/big.add -/
def Lbig_add_0s (k : Nat) (rec : List Int → List Int → Nat → Int → Int → Int → List Int → Option (List Int × Nat × Int × List Int)) (a : List Int) (b : List Int) (out1 : Nat) (carry : Int) (x : Int) (x1 : Int) (outs : List Int) : Option (List Int × Nat × Int × List Int) :=
  if ((decide (x1 < x)) = true) then
    if ((0 : Int) ≤ x1) then
      Option.bind (a)[(Int.toNat x1)]? fun x4 =>
      if ((decide (x1 < (((List.length b) : Nat) : Int))) = true) then
        if ((0 : Int) ≤ x1) then
          Option.bind (b)[(Int.toNat x1)]? fun x5 =>
          if (((0 : Int) ≤ x1) ∧ (x1 < ((out1 : Nat) : Int))) then
            Option.bind (outs)[(0 + (Int.toNat x1))]? fun x6 =>
            rec a b out1 (Int.fdiv (IntKind.wrap .u64 ((IntKind.wrap .u64 ((IntKind.wrap .u64 x4) + carry)) + (IntKind.wrap .u64 x5))) (4294967296 : Int)) x (IntKind.wrap .i64 (x1 + (1 : Int))) (List.set outs (0 + (Int.toNat x1)) (IntKind.wrap .u32 (IntKind.wrap .u64 ((IntKind.wrap .u64 ((IntKind.wrap .u64 x4) + carry)) + (IntKind.wrap .u64 x5)))))
          else
          none
        else
        none
      else
      if (((0 : Int) ≤ x1) ∧ (x1 < ((out1 : Nat) : Int))) then
        Option.bind (outs)[(0 + (Int.toNat x1))]? fun x5 =>
        rec a b out1 (Int.fdiv (IntKind.wrap .u64 ((IntKind.wrap .u64 x4) + carry)) (4294967296 : Int)) x (IntKind.wrap .i64 (x1 + (1 : Int))) (List.set outs (0 + (Int.toNat x1)) (IntKind.wrap .u32 (IntKind.wrap .u64 ((IntKind.wrap .u64 x4) + carry))))
      else
      none
    else
    none
  else
  (some (a, out1, carry, outs))
def Lbig_add_0 (k n : Nat) : List Int → List Int → Nat → Int → Int → Int → List Int → Option (List Int × Nat × Int × List Int) := Nat.rec (fun _ _ _ _ _ _ _ => none) (fun _ r => Lbig_add_0s k r) n
def bbig_add (k : Nat) (a : List Int) (b : List Int) : Option (List Int) :=
  if ((decide ((((List.length a) : Nat) : Int) < (((List.length b) : Nat) : Int))) = true) then
    if (((0 : Int) ≤ (IntKind.wrap .i64 ((((List.length b) : Nat) : Int) + (1 : Int)))) ∧ (((IntKind.wrap .i64 ((((List.length b) : Nat) : Int) + (1 : Int))) ≤ (IntKind.wrap .i64 ((((List.length b) : Nat) : Int) + (1 : Int)))) ∧ (((IntKind.wrap .i64 ((((List.length b) : Nat) : Int) + (1 : Int))) * (4 : Int)) ≤ (140737488355328 : Int)))) then
      Option.bind (Lbig_add_0 k k b a (Int.toNat (IntKind.wrap .i64 ((((List.length b) : Nat) : Int) + (1 : Int)))) (0 : Int) (((List.length b) : Nat) : Int) (0 : Int) (List.replicate (Int.toNat (IntKind.wrap .i64 ((((List.length b) : Nat) : Int) + (1 : Int)))) (0 : Int))) fun r12 =>
      if (((0 : Int) ≤ (((List.length r12.1) : Nat) : Int)) ∧ ((((List.length r12.1) : Nat) : Int) < ((r12.2.1 : Nat) : Int))) then
        Option.bind (r12.2.2.2)[(0 + (Int.toNat (((List.length r12.1) : Nat) : Int)))]? fun x =>
        if ((0 + r12.2.1) ≤ (List.length (List.set r12.2.2.2 (0 + (Int.toNat (((List.length r12.1) : Nat) : Int))) (IntKind.wrap .u32 r12.2.2.1)))) then
          (some (List.take r12.2.1 (List.set r12.2.2.2 (0 + (Int.toNat (((List.length r12.1) : Nat) : Int))) (IntKind.wrap .u32 r12.2.2.1))))
        else
        none
      else
      none
    else
    none
  else
  if (((0 : Int) ≤ (IntKind.wrap .i64 ((((List.length a) : Nat) : Int) + (1 : Int)))) ∧ (((IntKind.wrap .i64 ((((List.length a) : Nat) : Int) + (1 : Int))) ≤ (IntKind.wrap .i64 ((((List.length a) : Nat) : Int) + (1 : Int)))) ∧ (((IntKind.wrap .i64 ((((List.length a) : Nat) : Int) + (1 : Int))) * (4 : Int)) ≤ (140737488355328 : Int)))) then
    Option.bind (Lbig_add_0 k k a b (Int.toNat (IntKind.wrap .i64 ((((List.length a) : Nat) : Int) + (1 : Int)))) (0 : Int) (((List.length a) : Nat) : Int) (0 : Int) (List.replicate (Int.toNat (IntKind.wrap .i64 ((((List.length a) : Nat) : Int) + (1 : Int)))) (0 : Int))) fun r12 =>
    if (((0 : Int) ≤ (((List.length r12.1) : Nat) : Int)) ∧ ((((List.length r12.1) : Nat) : Int) < ((r12.2.1 : Nat) : Int))) then
      Option.bind (r12.2.2.2)[(0 + (Int.toNat (((List.length r12.1) : Nat) : Int)))]? fun x =>
      if ((0 + r12.2.1) ≤ (List.length (List.set r12.2.2.2 (0 + (Int.toNat (((List.length r12.1) : Nat) : Int))) (IntKind.wrap .u32 r12.2.2.1)))) then
        (some (List.take r12.2.1 (List.set r12.2.2.2 (0 + (Int.toNat (((List.length r12.1) : Nat) : Int))) (IntKind.wrap .u32 r12.2.2.1))))
      else
      none
    else
    none
  else
  none
def Fbig_add : Nat → List Int → List Int → Option (List Int)
  | 0, _, _ => none
  | k + 1, a, b => bbig_add k a b
def shbig_add : FS := { vs := [.a (.lf (.sl (.int .u32))), .a (.lf (.sl (.int .u32)))], bs := [] }
def rsbig_add : List FS := [{ vs := [.a (.lf (.sl (.int .u32)))], bs := [] }]
def Ibig_add (k : Nat) : Inst := ⟨95, shbig_add, rsbig_add, fun x => Fbig_add k x.1 x.2⟩
theorem albig_add (k : Nat) : AllI (call cf k) [] := True.intro
def hsbig_add_0 : List SS := [{ fr := [(0, .a (.lf (.sl (.int .u32)))), (1, .a (.lf (.sl (.int .u32)))), (5, .a (.smz 0)), (6, .a (.lf (.int .u64))), (21, .a (.lf (.int .i64))), (22, .a (.lf (.int .i64)))], mem := [(0, some (.arr (.int .u32) 1 40 false))], nx := 1 }]
def osbig_add_0 : List OS := [⟨some 0, { fr := [(0, .a (.lf (.sl (.int .u32)))), (5, .a (.smz 0)), (6, .a (.lf (.int .u64)))], mem := [(0, some (.arr (.int .u32) 1 40 false))], nx := 1 }⟩]
def LIbig_add_0 (k : Nat) : LInst := ⟨0, hsbig_add_0, osbig_add_0, fun x => Lbig_add_0 k k x.1 x.2.1 x.2.2.1 x.2.2.2.1 x.2.2.2.2.1 x.2.2.2.2.2.1 x.2.2.2.2.2.2⟩
theorem anbig_add_0 (k : Nat) : LAll (LOk (R := DS OS.D osbig_add_0) (fun b _ σ K => LOt Ty (kps 95) 0 b σ K []) cf (call cf k) (kps 95) Tryz.f95.ntmps k 0) 0 (lb Tryz.f95 0) :=
  And.intro (True.intro) (And.intro (And.intro (True.intro) (True.intro)) (And.intro (And.intro (True.intro) (And.intro (True.intro) (And.intro (And.intro (True.intro) (And.intro (True.intro) (True.intro))) (And.intro (True.intro) (True.intro))))) (True.intro)))
theorem stbig_add_0 (k n : Nat) (x : DS SS.D hsbig_add_0) : Lbig_add_0 k (n + 1) x.1 x.2.1 x.2.2.1 x.2.2.2.1 x.2.2.2.2.1 x.2.2.2.2.2.1 x.2.2.2.2.2.2 = encSK SS.enc (fun σ => run2 cf (fun f a b K => COt f a b K []) (fun b _ σ K => LOt Ty (kps 95) 0 b σ K []) Tryz.f95.ntmps 0 (lb Tryz.f95 0) σ (nextK Ty (kps 95 0) 0 hsbig_add_0 osbig_add_0 fun x => Lbig_add_0 k n x.1 x.2.1 x.2.2.1 x.2.2.2.1 x.2.2.2.2.1 x.2.2.2.2.2.1 x.2.2.2.2.2.2)) hsbig_add_0 x := by kernel_rfl
theorem lobig_add_0 (k : Nat) : LIOk cf (call cf k) (kps 95) Tryz.f95.ntmps k 0 0 (lb Tryz.f95 0) (LIbig_add_0 k) :=
  loop_ok (c := cf) (callF := call cf k) (kp := kps 95) (nt := Tryz.f95.ntmps) (k := k) (p := 0) (b := 0) (x0 := lb Tryz.f95 0) (hs := hsbig_add_0) (os := osbig_add_0) (COt_ok (albig_add k)) (anbig_add_0 k) (fun n x => Lbig_add_0 k n x.1 x.2.1 x.2.2.1 x.2.2.2.1 x.2.2.2.2.1 x.2.2.2.2.2.1 x.2.2.2.2.2.2) (fun _ => rfl) (stbig_add_0 k)
theorem anbig_add (k : Nat) : LAll (LOk (R := DS FS.D rsbig_add) (fun b _ σ K => LOt Ty (kps 95) 0 b σ K [LIbig_add_0 k]) cf (call cf k) (cf.keep 95) Tryz.f95.ntmps k shbig_add.bs.length) 0 (bd Tryz.f95) :=
  And.intro (True.intro) (And.intro (And.intro (True.intro) (And.intro (True.intro) (True.intro))) (And.intro (True.intro) (And.intro (True.intro) (And.intro (And.intro (True.intro) (LOt_ok (c := cf) (callF := call cf k) (kp := kps 95) (nt := Tryz.f95.ntmps) (k := k) (p := 0) (b := 0) (x0 := lb Tryz.f95 0) (l := [LIbig_add_0 k]) (And.intro (fun _ => lobig_add_0 k) (True.intro)))) (And.intro (True.intro) (And.intro (True.intro) (True.intro)))))))
theorem stbig_add (k : Nat) (x : shbig_add.D) : Fbig_add (k + 1) x.1 x.2 = body2 cf (fun f a b K => COt f a b K []) (fun b _ σ K => LOt Ty (kps 95) 0 b σ K [LIbig_add_0 k]) 95 Tryz.f95.ntmps Tryz.f95.results.toList (bd Tryz.f95) (shbig_add.enc x).1 (shbig_add.enc x).2 (putS FS.dec rsbig_add) := by kernel_rfl
theorem okbig_add : ∀ k, InstOk (call cf k) (Ibig_add k)
  | 0 => fun x y e => absurd (show (none : Option _) = some y from e) (by simp)
  | k + 1 => inst_ok (c := cf) (k := k) (f := 95) (fn := Tryz.f95) (body := bd Tryz.f95) (sh := shbig_add) (os := rsbig_add) rfl Tryz.func95 rfl ⟨rfl, Nat.le_of_ble_eq_true rfl⟩ (COt_ok (albig_add k)) (anbig_add k) (fun x => Fbig_add (k + 1) x.1 x.2) (stbig_add k)

/-! (*shunt/big.Int).set -/
def bbig_Int_set_paj (k : Nat) (neg : Bool) (w : List Int) (z0 : Bool) (z1 : List Int) : Option (Bool × List Int) :=
  Option.bind (Fbig_trim k w) fun r13 =>
  if (neg = true) then
    (some ((decide ((((List.length r13) : Nat) : Int) > (0 : Int))), r13))
  else
  (some (false, r13))
def Fbig_Int_set_paj : Nat → Bool → List Int → Bool → List Int → Option (Bool × List Int)
  | 0, _, _, _, _ => none
  | k + 1, neg, w, z0, z1 => bbig_Int_set_paj k neg w z0 z1
def shbig_Int_set_paj : FS := { vs := [.a (.ptr 0 0 0), .a (.lf .bool), .a (.lf (.sl (.int .u32)))], bs := [.raw [[.lf .bool, .lf (.sl (.int .u32))]] 2 77 true false] }
def rsbig_Int_set_paj : List FS := [{ vs := [.a (.ptr 0 0 0)], bs := [.raw [[.lf .bool, .lf (.sl (.int .u32))]] 2 77 true false] }]
def Ibig_Int_set_paj (k : Nat) : Inst := ⟨75, shbig_Int_set_paj, rsbig_Int_set_paj, fun x => Fbig_Int_set_paj k x.1 x.2.1 x.2.2.1 x.2.2.2⟩
theorem albig_Int_set_paj (k : Nat) : AllI (call cf k) [Ibig_trim k] := And.intro (okbig_trim k) (True.intro)
theorem anbig_Int_set_paj (k : Nat) : LAll (LOk (R := DS FS.D rsbig_Int_set_paj) (fun b _ σ K => LOt Ty (kps 75) 1 b σ K []) cf (call cf k) (cf.keep 75) Tryz.f75.ntmps k shbig_Int_set_paj.bs.length) 0 (bd Tryz.f75) :=
  And.intro (True.intro) (And.intro (True.intro) (And.intro (True.intro) (And.intro (True.intro) (True.intro))))
theorem stbig_Int_set_paj (k : Nat) (x : shbig_Int_set_paj.D) : Fbig_Int_set_paj (k + 1) x.1 x.2.1 x.2.2.1 x.2.2.2 = body2 cf (fun f a b K => COt f a b K [Ibig_trim k]) (fun b _ σ K => LOt Ty (kps 75) 1 b σ K []) 75 Tryz.f75.ntmps Tryz.f75.results.toList (bd Tryz.f75) (shbig_Int_set_paj.enc x).1 (shbig_Int_set_paj.enc x).2 (putS FS.dec rsbig_Int_set_paj) := by kernel_rfl
theorem okbig_Int_set_paj : ∀ k, InstOk (call cf k) (Ibig_Int_set_paj k)
  | 0 => fun x y e => absurd (show (none : Option _) = some y from e) (by simp)
  | k + 1 => inst_ok (c := cf) (k := k) (f := 75) (fn := Tryz.f75) (body := bd Tryz.f75) (sh := shbig_Int_set_paj) (os := rsbig_Int_set_paj) rfl Tryz.func75 rfl ⟨rfl, Nat.le_of_ble_eq_true rfl⟩ (COt_ok (albig_Int_set_paj k)) (anbig_Int_set_paj k) (fun x => Fbig_Int_set_paj (k + 1) x.1 x.2.1 x.2.2.1 x.2.2.2) (stbig_Int_set_paj k)

/-! shunt/big.sub -/
def Lbig_sub_0s (k : Nat) (rec : List Int → List Int → Nat → Int → Int → Int → List Int → Option (Nat × List Int)) (a : List Int) (b : List Int) (out1 : Nat) (borrow : Int) (x : Int) (x1 : Int) (outs : List Int) : Option (Nat × List Int) :=
  if ((decide (x1 < x)) = true) then
    if ((decide (x1 < (((List.length b) : Nat) : Int))) = true) then
      if ((0 : Int) ≤ x1) then
        Option.bind (b)[(Int.toNat x1)]? fun x4 =>
        if ((0 : Int) ≤ x1) then
          Option.bind (a)[(Int.toNat x1)]? fun x5 =>
          if (((0 : Int) ≤ x1) ∧ (x1 < ((out1 : Nat) : Int))) then
            Option.bind (outs)[(0 + (Int.toNat x1))]? fun x6 =>
            if ((0 : Int) ≤ x1) then
              Option.bind (a)[(Int.toNat x1)]? fun x7 =>
              if ((decide ((IntKind.wrap .u64 x7) < (IntKind.wrap .u64 (borrow + (IntKind.wrap .u64 x4))))) = true) then
                rec a b out1 (1 : Int) x (IntKind.wrap .i64 (x1 + (1 : Int))) (List.set outs (0 + (Int.toNat x1)) (IntKind.wrap .u32 (IntKind.wrap .u64 ((IntKind.wrap .u64 x5) - (IntKind.wrap .u64 (borrow + (IntKind.wrap .u64 x4)))))))
              else
              rec a b out1 (0 : Int) x (IntKind.wrap .i64 (x1 + (1 : Int))) (List.set outs (0 + (Int.toNat x1)) (IntKind.wrap .u32 (IntKind.wrap .u64 ((IntKind.wrap .u64 x5) - (IntKind.wrap .u64 (borrow + (IntKind.wrap .u64 x4)))))))
            else
            none
          else
          none
        else
        none
      else
      none
    else
    if ((0 : Int) ≤ x1) then
      Option.bind (a)[(Int.toNat x1)]? fun x4 =>
      if (((0 : Int) ≤ x1) ∧ (x1 < ((out1 : Nat) : Int))) then
        Option.bind (outs)[(0 + (Int.toNat x1))]? fun x5 =>
        if ((0 : Int) ≤ x1) then
          Option.bind (a)[(Int.toNat x1)]? fun x6 =>
          if ((decide ((IntKind.wrap .u64 x6) < borrow)) = true) then
            rec a b out1 (1 : Int) x (IntKind.wrap .i64 (x1 + (1 : Int))) (List.set outs (0 + (Int.toNat x1)) (IntKind.wrap .u32 (IntKind.wrap .u64 ((IntKind.wrap .u64 x4) - borrow))))
          else
          rec a b out1 (0 : Int) x (IntKind.wrap .i64 (x1 + (1 : Int))) (List.set outs (0 + (Int.toNat x1)) (IntKind.wrap .u32 (IntKind.wrap .u64 ((IntKind.wrap .u64 x4) - borrow))))
        else
        none
      else
      none
    else
    none
  else
  (some (out1, outs))
def Lbig_sub_0 (k n : Nat) : List Int → List Int → Nat → Int → Int → Int → List Int → Option (Nat × List Int) := Nat.rec (fun _ _ _ _ _ _ _ => none) (fun _ r => Lbig_sub_0s k r) n
def bbig_sub (k : Nat) (a : List Int) (b : List Int) : Option (List Int) :=
  if (((0 : Int) ≤ (((List.length a) : Nat) : Int)) ∧ (((((List.length a) : Nat) : Int) ≤ (((List.length a) : Nat) : Int)) ∧ (((((List.length a) : Nat) : Int) * (4 : Int)) ≤ (140737488355328 : Int)))) then
    Option.bind (Lbig_sub_0 k k a b (Int.toNat (((List.length a) : Nat) : Int)) (0 : Int) (((List.length a) : Nat) : Int) (0 : Int) (List.replicate (Int.toNat (((List.length a) : Nat) : Int)) (0 : Int))) fun r13 =>
    if ((0 + r13.1) ≤ (List.length r13.2)) then
      (some (List.take r13.1 r13.2))
    else
    none
  else
  none
def Fbig_sub : Nat → List Int → List Int → Option (List Int)
  | 0, _, _ => none
  | k + 1, a, b => bbig_sub k a b
def shbig_sub : FS := { vs := [.a (.lf (.sl (.int .u32))), .a (.lf (.sl (.int .u32)))], bs := [] }
def rsbig_sub : List FS := [{ vs := [.a (.lf (.sl (.int .u32)))], bs := [] }]
def Ibig_sub (k : Nat) : Inst := ⟨96, shbig_sub, rsbig_sub, fun x => Fbig_sub k x.1 x.2⟩
theorem albig_sub (k : Nat) : AllI (call cf k) [] := True.intro
def hsbig_sub_0 : List SS := [{ fr := [(0, .a (.lf (.sl (.int .u32)))), (1, .a (.lf (.sl (.int .u32)))), (5, .a (.smz 0)), (6, .a (.lf (.int .u64))), (13, .a (.lf (.int .i64))), (14, .a (.lf (.int .i64)))], mem := [(0, some (.arr (.int .u32) 1 40 false))], nx := 1 }]
def osbig_sub_0 : List OS := [⟨some 0, { fr := [(5, .a (.smz 0))], mem := [(0, some (.arr (.int .u32) 1 40 false))], nx := 1 }⟩]
def LIbig_sub_0 (k : Nat) : LInst := ⟨0, hsbig_sub_0, osbig_sub_0, fun x => Lbig_sub_0 k k x.1 x.2.1 x.2.2.1 x.2.2.2.1 x.2.2.2.2.1 x.2.2.2.2.2.1 x.2.2.2.2.2.2⟩
theorem anbig_sub_0 (k : Nat) : LAll (LOk (R := DS OS.D osbig_sub_0) (fun b _ σ K => LOt Ty (kps 96) 0 b σ K []) cf (call cf k) (kps 96) Tryz.f96.ntmps k 0) 0 (lb Tryz.f96 0) :=
  And.intro (True.intro) (And.intro (And.intro (True.intro) (True.intro)) (And.intro (And.intro (True.intro) (And.intro (True.intro) (And.intro (And.intro (True.intro) (And.intro (True.intro) (True.intro))) (And.intro (True.intro) (And.intro (True.intro) (And.intro (True.intro) (And.intro (True.intro) (True.intro)))))))) (True.intro)))
theorem stbig_sub_0 (k n : Nat) (x : DS SS.D hsbig_sub_0) : Lbig_sub_0 k (n + 1) x.1 x.2.1 x.2.2.1 x.2.2.2.1 x.2.2.2.2.1 x.2.2.2.2.2.1 x.2.2.2.2.2.2 = encSK SS.enc (fun σ => run2 cf (fun f a b K => COt f a b K []) (fun b _ σ K => LOt Ty (kps 96) 0 b σ K []) Tryz.f96.ntmps 0 (lb Tryz.f96 0) σ (nextK Ty (kps 96 0) 0 hsbig_sub_0 osbig_sub_0 fun x => Lbig_sub_0 k n x.1 x.2.1 x.2.2.1 x.2.2.2.1 x.2.2.2.2.1 x.2.2.2.2.2.1 x.2.2.2.2.2.2)) hsbig_sub_0 x := by kernel_rfl
theorem lobig_sub_0 (k : Nat) : LIOk cf (call cf k) (kps 96) Tryz.f96.ntmps k 0 0 (lb Tryz.f96 0) (LIbig_sub_0 k) :=
  loop_ok (c := cf) (callF := call cf k) (kp := kps 96) (nt := Tryz.f96.ntmps) (k := k) (p := 0) (b := 0) (x0 := lb Tryz.f96 0) (hs := hsbig_sub_0) (os := osbig_sub_0) (COt_ok (albig_sub k)) (anbig_sub_0 k) (fun n x => Lbig_sub_0 k n x.1 x.2.1 x.2.2.1 x.2.2.2.1 x.2.2.2.2.1 x.2.2.2.2.2.1 x.2.2.2.2.2.2) (fun _ => rfl) (stbig_sub_0 k)
theorem anbig_sub (k : Nat) : LAll (LOk (R := DS FS.D rsbig_sub) (fun b _ σ K => LOt Ty (kps 96) 0 b σ K [LIbig_sub_0 k]) cf (call cf k) (cf.keep 96) Tryz.f96.ntmps k shbig_sub.bs.length) 0 (bd Tryz.f96) :=
  And.intro (True.intro) (And.intro (True.intro) (And.intro (True.intro) (And.intro (And.intro (True.intro) (LOt_ok (c := cf) (callF := call cf k) (kp := kps 96) (nt := Tryz.f96.ntmps) (k := k) (p := 0) (b := 0) (x0 := lb Tryz.f96 0) (l := [LIbig_sub_0 k]) (And.intro (fun _ => lobig_sub_0 k) (True.intro)))) (And.intro (True.intro) (True.intro)))))
theorem stbig_sub (k : Nat) (x : shbig_sub.D) : Fbig_sub (k + 1) x.1 x.2 = body2 cf (fun f a b K => COt f a b K []) (fun b _ σ K => LOt Ty (kps 96) 0 b σ K [LIbig_sub_0 k]) 96 Tryz.f96.ntmps Tryz.f96.results.toList (bd Tryz.f96) (shbig_sub.enc x).1 (shbig_sub.enc x).2 (putS FS.dec rsbig_sub) := by kernel_rfl
theorem okbig_sub : ∀ k, InstOk (call cf k) (Ibig_sub k)
  | 0 => fun x y e => absurd (show (none : Option _) = some y from e) (by simp)
  | k + 1 => inst_ok (c := cf) (k := k) (f := 96) (fn := Tryz.f96) (body := bd Tryz.f96) (sh := shbig_sub) (os := rsbig_sub) rfl Tryz.func96 rfl ⟨rfl, Nat.le_of_ble_eq_true rfl⟩ (COt_ok (albig_sub k)) (anbig_sub k) (fun x => Fbig_sub (k + 1) x.1 x.2) (stbig_sub k)

/-! (*shunt/big.Int).sum -/
def bbig_Int_sum_ahd (k : Nat) (yneg : Bool) (y : List Int) (x0 : Bool) (x1 : List Int) : Option (Bool × List Int) :=
  if ((x0 == yneg) = true) then
    Option.bind (Fbig_add k x1 y) fun r12 =>
    Option.bind (Fbig_Int_set_paj k x0 r12 x0 x1) fun r13 =>
    (some (r13.1, r13.2))
  else
  Option.bind (Fbig_cmp k x1 y) fun r12 =>
  if ((decide (r12 ≥ (0 : Int))) = true) then
    Option.bind (Fbig_sub k x1 y) fun r13 =>
    Option.bind (Fbig_Int_set_paj k x0 r13 x0 x1) fun r14 =>
    (some (r14.1, r14.2))
  else
  Option.bind (Fbig_sub k y x1) fun r13 =>
  Option.bind (Fbig_Int_set_paj k yneg r13 x0 x1) fun r14 =>
  (some (r14.1, r14.2))
def Fbig_Int_sum_ahd : Nat → Bool → List Int → Bool → List Int → Option (Bool × List Int)
  | 0, _, _, _, _ => none
  | k + 1, yneg, y, x0, x1 => bbig_Int_sum_ahd k yneg y x0 x1
def shbig_Int_sum_ahd : FS := { vs := [.a (.ptr 0 0 0), .a (.ptr 0 0 0), .a (.lf .bool), .a (.lf (.sl (.int .u32)))], bs := [.raw [[.lf .bool, .lf (.sl (.int .u32))]] 2 77 true false] }
def rsbig_Int_sum_ahd : List FS := [{ vs := [.a (.ptr 0 0 0)], bs := [.raw [[.lf .bool, .lf (.sl (.int .u32))]] 2 77 true false] }]
def Ibig_Int_sum_ahd (k : Nat) : Inst := ⟨77, shbig_Int_sum_ahd, rsbig_Int_sum_ahd, fun x => Fbig_Int_sum_ahd k x.1 x.2.1 x.2.2.1 x.2.2.2⟩
theorem albig_Int_sum_ahd (k : Nat) : AllI (call cf k) [Ibig_add k, Ibig_Int_set_paj k, Ibig_cmp k, Ibig_sub k] := And.intro (okbig_add k) (And.intro (okbig_Int_set_paj k) (And.intro (okbig_cmp k) (And.intro (okbig_sub k) (True.intro))))
theorem anbig_Int_sum_ahd (k : Nat) : LAll (LOk (R := DS FS.D rsbig_Int_sum_ahd) (fun b _ σ K => LOt Ty (kps 77) 1 b σ K []) cf (call cf k) (cf.keep 77) Tryz.f77.ntmps k shbig_Int_sum_ahd.bs.length) 0 (bd Tryz.f77) :=
  And.intro (True.intro) (And.intro (And.intro (True.intro) (And.intro (And.intro (True.intro) (True.intro)) (True.intro))) (And.intro (And.intro (True.intro) (And.intro (And.intro (True.intro) (True.intro)) (True.intro))) (And.intro (True.intro) (True.intro))))
theorem stbig_Int_sum_ahd (k : Nat) (x : shbig_Int_sum_ahd.D) : Fbig_Int_sum_ahd (k + 1) x.1 x.2.1 x.2.2.1 x.2.2.2 = body2 cf (fun f a b K => COt f a b K [Ibig_add k, Ibig_Int_set_paj k, Ibig_cmp k, Ibig_sub k]) (fun b _ σ K => LOt Ty (kps 77) 1 b σ K []) 77 Tryz.f77.ntmps Tryz.f77.results.toList (bd Tryz.f77) (shbig_Int_sum_ahd.enc x).1 (shbig_Int_sum_ahd.enc x).2 (putS FS.dec rsbig_Int_sum_ahd) := by kernel_rfl
theorem okbig_Int_sum_ahd : ∀ k, InstOk (call cf k) (Ibig_Int_sum_ahd k)
  | 0 => fun x y e => absurd (show (none : Option _) = some y from e) (by simp)
  | k + 1 => inst_ok (c := cf) (k := k) (f := 77) (fn := Tryz.f77) (body := bd Tryz.f77) (sh := shbig_Int_sum_ahd) (os := rsbig_Int_sum_ahd) rfl Tryz.func77 rfl ⟨rfl, Nat.le_of_ble_eq_true rfl⟩ (COt_ok (albig_Int_sum_ahd k)) (anbig_Int_sum_ahd k) (fun x => Fbig_Int_sum_ahd (k + 1) x.1 x.2.1 x.2.2.1 x.2.2.2) (stbig_Int_sum_ahd k)

/-! (*shunt/big.Int).Add -/
def bbig_Int_Add_jod (k : Nat) (x0 : Bool) (x1 : List Int) (y0 : Bool) (y1 : List Int) : Option (Bool × List Int × Bool × List Int) :=
  Option.bind (Fbig_Int_sum_ahd k y0 y1 x0 x1) fun r12 =>
  (some (r12.1, r12.2, y0, y1))
def Fbig_Int_Add_jod : Nat → Bool → List Int → Bool → List Int → Option (Bool × List Int × Bool × List Int)
  | 0, _, _, _, _ => none
  | k + 1, x0, x1, y0, y1 => bbig_Int_Add_jod k x0 x1 y0 y1
def shbig_Int_Add_jod : FS := { vs := [.a (.ptr 0 0 0), .a (.ptr 0 0 0), .a (.ptr 1 0 0)], bs := [.raw [[.lf .bool, .lf (.sl (.int .u32))]] 2 77 true false, .raw [[.lf .bool, .lf (.sl (.int .u32))]] 2 77 true false] }
def rsbig_Int_Add_jod : List FS := [{ vs := [.a (.ptr 0 0 0)], bs := [.raw [[.lf .bool, .lf (.sl (.int .u32))]] 2 77 true false, .raw [[.lf .bool, .lf (.sl (.int .u32))]] 2 77 true false] }]
def Ibig_Int_Add_jod (k : Nat) : Inst := ⟨49, shbig_Int_Add_jod, rsbig_Int_Add_jod, fun x => Fbig_Int_Add_jod k x.1 x.2.1 x.2.2.1 x.2.2.2⟩
theorem albig_Int_Add_jod (k : Nat) : AllI (call cf k) [Ibig_Int_sum_ahd k] := And.intro (okbig_Int_sum_ahd k) (True.intro)
theorem anbig_Int_Add_jod (k : Nat) : LAll (LOk (R := DS FS.D rsbig_Int_Add_jod) (fun b _ σ K => LOt Ty (kps 49) 2 b σ K []) cf (call cf k) (cf.keep 49) Tryz.f49.ntmps k shbig_Int_Add_jod.bs.length) 0 (bd Tryz.f49) :=
  And.intro (True.intro) (And.intro (True.intro) (True.intro))
theorem stbig_Int_Add_jod (k : Nat) (x : shbig_Int_Add_jod.D) : Fbig_Int_Add_jod (k + 1) x.1 x.2.1 x.2.2.1 x.2.2.2 = body2 cf (fun f a b K => COt f a b K [Ibig_Int_sum_ahd k]) (fun b _ σ K => LOt Ty (kps 49) 2 b σ K []) 49 Tryz.f49.ntmps Tryz.f49.results.toList (bd Tryz.f49) (shbig_Int_Add_jod.enc x).1 (shbig_Int_Add_jod.enc x).2 (putS FS.dec rsbig_Int_Add_jod) := by kernel_rfl
theorem okbig_Int_Add_jod : ∀ k, InstOk (call cf k) (Ibig_Int_Add_jod k)
  | 0 => fun x y e => absurd (show (none : Option _) = some y from e) (by simp)
  | k + 1 => inst_ok (c := cf) (k := k) (f := 49) (fn := Tryz.f49) (body := bd Tryz.f49) (sh := shbig_Int_Add_jod) (os := rsbig_Int_Add_jod) rfl Tryz.func49 rfl ⟨rfl, Nat.le_of_ble_eq_true rfl⟩ (COt_ok (albig_Int_Add_jod k)) (anbig_Int_Add_jod k) (fun x => Fbig_Int_Add_jod (k + 1) x.1 x.2.1 x.2.2.1 x.2.2.2) (stbig_Int_Add_jod k)

/-! (*shunt/big.Rat).Add -/
def bbig_Rat_Add_cwi (k : Nat) (z0 : Bool) (z1 : Bool) (x0 : Bool) (x1 : List Int) (x2 : Bool) (x3 : List Int) (y0 : Bool) (y1 : List Int) (y2 : Bool) (y3 : List Int) : Option (Bool × List Int × Bool × List Int × Bool × List Int × Bool × List Int × Bool × List Int × Bool × List Int) :=
  Option.bind (Fbig_Rat_Denom_plq k y0 y1 y2 y3) fun r5 =>
  Option.bind (Fbig_Int_Mul_uoe k false x0 x1 x2 x3 r5.2.2.2.2.1 r5.2.2.2.2.2) fun r6 =>
  Option.bind (Fbig_Rat_Denom_plq k r6.2.2.1 r6.2.2.2.1 r6.2.2.2.2.1 r6.2.2.2.2.2.1) fun r7 =>
  Option.bind (Fbig_Int_Mul_uoe k false r5.1 r5.2.1 r5.2.2.1 r5.2.2.2.1 r7.2.2.2.2.1 r7.2.2.2.2.2) fun r8 =>
  Option.bind (Fbig_Rat_Denom_plq k r7.1 r7.2.1 r7.2.2.1 r7.2.2.2.1) fun r9 =>
  Option.bind (Fbig_Rat_Denom_plq k r8.2.2.1 r8.2.2.2.1 r8.2.2.2.2.1 r8.2.2.2.2.2.1) fun r10 =>
  Option.bind (Fbig_Int_Mul_gsh k false r9.2.2.2.2.1 r9.2.2.2.2.2 r10.2.2.2.2.1 r10.2.2.2.2.2) fun r11 =>
  Option.bind (Fbig_Int_Add_jod k r6.1 r6.2.1 r8.1 r8.2.1) fun r12 =>
  Option.bind (Fbig_Rat_frac_xda k z0 z1 r12.1 r12.2.1 r11.1 r11.2.1) fun r13 =>
  (some (r13.1, r13.2.1, r13.2.2.1, r13.2.2.2.1, r9.1, r9.2.1, r9.2.2.1, r9.2.2.2.1, r10.1, r10.2.1, r10.2.2.1, r10.2.2.2.1))
def Fbig_Rat_Add_cwi : Nat → Bool → Bool → Bool → List Int → Bool → List Int → Bool → List Int → Bool → List Int → Option (Bool × List Int × Bool × List Int × Bool × List Int × Bool × List Int × Bool × List Int × Bool × List Int)
  | 0, _, _, _, _, _, _, _, _, _, _ => none
  | k + 1, z0, z1, x0, x1, x2, x3, y0, y1, y2, y3 => bbig_Rat_Add_cwi k z0 z1 x0 x1 x2 x3 y0 y1 y2 y3
def shbig_Rat_Add_cwi : FS := { vs := [.a (.ptr 0 0 0), .a (.ptr 1 0 0), .a (.ptr 2 0 0)], bs := [.raw [[.lf .bool, .snil 1 40, .lf .bool, .snil 1 40]] 4 79 true false, .raw [[.lf .bool, .lf (.sl (.int .u32)), .lf .bool, .lf (.sl (.int .u32))]] 4 79 true false, .raw [[.lf .bool, .lf (.sl (.int .u32)), .lf .bool, .lf (.sl (.int .u32))]] 4 79 true false] }
def rsbig_Rat_Add_cwi : List FS := [{ vs := [.a (.ptr 0 0 0)], bs := [.raw [[.lf .bool, .lf (.sl (.int .u32)), .lf .bool, .lf (.sl (.int .u32))]] 4 79 true false, .raw [[.lf .bool, .lf (.sl (.int .u32)), .lf .bool, .lf (.sl (.int .u32))]] 4 79 true false, .raw [[.lf .bool, .lf (.sl (.int .u32)), .lf .bool, .lf (.sl (.int .u32))]] 4 79 true false] }]
def Ibig_Rat_Add_cwi (k : Nat) : Inst := ⟨21, shbig_Rat_Add_cwi, rsbig_Rat_Add_cwi, fun x => Fbig_Rat_Add_cwi k x.1 x.2.1 x.2.2.1 x.2.2.2.1 x.2.2.2.2.1 x.2.2.2.2.2.1 x.2.2.2.2.2.2.1 x.2.2.2.2.2.2.2.1 x.2.2.2.2.2.2.2.2.1 x.2.2.2.2.2.2.2.2.2⟩
theorem albig_Rat_Add_cwi (k : Nat) : AllI (call cf k) [Ibig_Rat_Denom_plq k, Ibig_Int_Mul_uoe k, Ibig_Int_Mul_gsh k, Ibig_Int_Add_jod k, Ibig_Rat_frac_xda k] := And.intro (okbig_Rat_Denom_plq k) (And.intro (okbig_Int_Mul_uoe k) (And.intro (okbig_Int_Mul_gsh k) (And.intro (okbig_Int_Add_jod k) (And.intro (okbig_Rat_frac_xda k) (True.intro)))))
theorem anbig_Rat_Add_cwi (k : Nat) : LAll (LOk (R := DS FS.D rsbig_Rat_Add_cwi) (fun b _ σ K => LOt Ty (kps 21) 3 b σ K []) cf (call cf k) (cf.keep 21) Tryz.f21.ntmps k shbig_Rat_Add_cwi.bs.length) 0 (bd Tryz.f21) :=
  And.intro (True.intro) (And.intro (True.intro) (And.intro (True.intro) (And.intro (True.intro) (And.intro (True.intro) (And.intro (True.intro) (True.intro))))))
theorem stbig_Rat_Add_cwi (k : Nat) (x : shbig_Rat_Add_cwi.D) : Fbig_Rat_Add_cwi (k + 1) x.1 x.2.1 x.2.2.1 x.2.2.2.1 x.2.2.2.2.1 x.2.2.2.2.2.1 x.2.2.2.2.2.2.1 x.2.2.2.2.2.2.2.1 x.2.2.2.2.2.2.2.2.1 x.2.2.2.2.2.2.2.2.2 = body2 cf (fun f a b K => COt f a b K [Ibig_Rat_Denom_plq k, Ibig_Int_Mul_uoe k, Ibig_Int_Mul_gsh k, Ibig_Int_Add_jod k, Ibig_Rat_frac_xda k]) (fun b _ σ K => LOt Ty (kps 21) 3 b σ K []) 21 Tryz.f21.ntmps Tryz.f21.results.toList (bd Tryz.f21) (shbig_Rat_Add_cwi.enc x).1 (shbig_Rat_Add_cwi.enc x).2 (putS FS.dec rsbig_Rat_Add_cwi) := by kernel_rfl
theorem okbig_Rat_Add_cwi : ∀ k, InstOk (call cf k) (Ibig_Rat_Add_cwi k)
  | 0 => fun x y e => absurd (show (none : Option _) = some y from e) (by simp)
  | k + 1 => inst_ok (c := cf) (k := k) (f := 21) (fn := Tryz.f21) (body := bd Tryz.f21) (sh := shbig_Rat_Add_cwi) (os := rsbig_Rat_Add_cwi) rfl Tryz.func21 rfl ⟨rfl, Nat.le_of_ble_eq_true rfl⟩ (COt_ok (albig_Rat_Add_cwi k)) (anbig_Rat_Add_cwi k) (fun x => Fbig_Rat_Add_cwi (k + 1) x.1 x.2.1 x.2.2.1 x.2.2.2.1 x.2.2.2.2.1 x.2.2.2.2.2.1 x.2.2.2.2.2.2.1 x.2.2.2.2.2.2.2.1 x.2.2.2.2.2.2.2.2.1 x.2.2.2.2.2.2.2.2.2) (stbig_Rat_Add_cwi k)

/-! shunt/rat.two -/
def brat_two_xgr (k : Nat) (a0 : Bool) (a1 : List Int) (a2 : Bool) (a3 : List Int) (b0 : Bool) (b1 : List Int) (b2 : Bool) (b3 : List Int) : Option (Bool × Nat × Bool × Nat × Int × List Int × List Int) :=
  Option.bind (Frat_all k (List.take 2 (((a0, a1), (a2, a3)) :: (((b0, b1), (b2, b3)) :: [])))) fun r2 =>
  if ((r2 != (0 : Int)) = true) then
    (some (false, 0, false, 0, r2, [], []))
  else
  Option.bind (Fwide_Rat k a0 a1 a2 a3) fun r3 =>
  Option.bind (Fwide_Rat k b0 b1 b2 b3) fun r4 =>
  Option.bind (Fbig_Rat_Add_cwi k false false r3.1 r3.2.1 r3.2.2.1 r3.2.2.2 r4.1 r4.2.1 r4.2.2.1 r4.2.2.2) fun r5 =>
  Option.bind (Frat_answer_plq k r5.1 r5.2.1 r5.2.2.1 r5.2.2.2.1) fun r6 =>
  (some (r6.1, r6.2.1, r6.2.2.1, r6.2.2.2.1, r6.2.2.2.2.1, r6.2.2.2.2.2.2.2.2.2.1, r6.2.2.2.2.2.2.2.2.2.2))
def Frat_two_xgr : Nat → Bool → List Int → Bool → List Int → Bool → List Int → Bool → List Int → Option (Bool × Nat × Bool × Nat × Int × List Int × List Int)
  | 0, _, _, _, _, _, _, _, _ => none
  | k + 1, a0, a1, a2, a3, b0, b1, b2, b3 => brat_two_xgr k a0 a1 a2 a3 b0 b1 b2 b3
def shrat_two_xgr : FS := { vs := [.g [.lf .bool, .lf (.sl (.int .u32)), .lf .bool, .lf (.sl (.int .u32))], .g [.lf .bool, .lf (.sl (.int .u32)), .lf .bool, .lf (.sl (.int .u32))], .a (.fn 21)], bs := [] }
def rsrat_two_xgr : List FS := [{ vs := [.g [.lf .bool, .smz 0, .lf .bool, .smz 1], .a (.lf (.int .i64))], bs := [.arr (.int .u32) 1 40 false, .arr (.int .u32) 1 40 false] }]
def Irat_two_xgr (k : Nat) : Inst := ⟨20, shrat_two_xgr, rsrat_two_xgr, fun x => Frat_two_xgr k x.1 x.2.1 x.2.2.1 x.2.2.2.1 x.2.2.2.2.1 x.2.2.2.2.2.1 x.2.2.2.2.2.2.1 x.2.2.2.2.2.2.2⟩
theorem alrat_two_xgr (k : Nat) : AllI (call cf k) [Irat_all k, Iwide_Rat k, Ibig_Rat_Add_cwi k, Irat_answer_plq k] := And.intro (okrat_all k) (And.intro (okwide_Rat k) (And.intro (okbig_Rat_Add_cwi k) (And.intro (okrat_answer_plq k) (True.intro))))
theorem anrat_two_xgr (k : Nat) : LAll (LOk (R := DS FS.D rsrat_two_xgr) (fun b _ σ K => LOt Ty (kps 20) 0 b σ K []) cf (call cf k) (cf.keep 20) Tryz.f20.ntmps k shrat_two_xgr.bs.length) 0 (bd Tryz.f20) :=
  And.intro (True.intro) (And.intro (And.intro (True.intro) (And.intro (True.intro) (And.intro (And.intro (True.intro) (True.intro)) (True.intro)))) (And.intro (True.intro) (True.intro)))
theorem strat_two_xgr (k : Nat) (x : shrat_two_xgr.D) : Frat_two_xgr (k + 1) x.1 x.2.1 x.2.2.1 x.2.2.2.1 x.2.2.2.2.1 x.2.2.2.2.2.1 x.2.2.2.2.2.2.1 x.2.2.2.2.2.2.2 = body2 cf (fun f a b K => COt f a b K [Irat_all k, Iwide_Rat k, Ibig_Rat_Add_cwi k, Irat_answer_plq k]) (fun b _ σ K => LOt Ty (kps 20) 0 b σ K []) 20 Tryz.f20.ntmps Tryz.f20.results.toList (bd Tryz.f20) (shrat_two_xgr.enc x).1 (shrat_two_xgr.enc x).2 (putS FS.dec rsrat_two_xgr) := by kernel_rfl
theorem okrat_two_xgr : ∀ k, InstOk (call cf k) (Irat_two_xgr k)
  | 0 => fun x y e => absurd (show (none : Option _) = some y from e) (by simp)
  | k + 1 => inst_ok (c := cf) (k := k) (f := 20) (fn := Tryz.f20) (body := bd Tryz.f20) (sh := shrat_two_xgr) (os := rsrat_two_xgr) rfl Tryz.func20 rfl ⟨rfl, Nat.le_of_ble_eq_true rfl⟩ (COt_ok (alrat_two_xgr k)) (anrat_two_xgr k) (fun x => Frat_two_xgr (k + 1) x.1 x.2.1 x.2.2.1 x.2.2.2.1 x.2.2.2.2.1 x.2.2.2.2.2.1 x.2.2.2.2.2.2.1 x.2.2.2.2.2.2.2) (strat_two_xgr k)

/-! shunt/rat.Add -/
def brat_Add (k : Nat) (a0 : Bool) (a1 : List Int) (a2 : Bool) (a3 : List Int) (b0 : Bool) (b1 : List Int) (b2 : Bool) (b3 : List Int) : Option (Bool × Nat × Bool × Nat × Int × List Int × List Int) :=
  Option.bind (Frat_two_xgr k a0 a1 a2 a3 b0 b1 b2 b3) fun r2 =>
  (some (r2.1, r2.2.1, r2.2.2.1, r2.2.2.2.1, r2.2.2.2.2.1, r2.2.2.2.2.2.1, r2.2.2.2.2.2.2))
def Frat_Add : Nat → Bool → List Int → Bool → List Int → Bool → List Int → Bool → List Int → Option (Bool × Nat × Bool × Nat × Int × List Int × List Int)
  | 0, _, _, _, _, _, _, _, _ => none
  | k + 1, a0, a1, a2, a3, b0, b1, b2, b3 => brat_Add k a0 a1 a2 a3 b0 b1 b2 b3
def shrat_Add : FS := { vs := [.g [.lf .bool, .lf (.sl (.int .u32)), .lf .bool, .lf (.sl (.int .u32))], .g [.lf .bool, .lf (.sl (.int .u32)), .lf .bool, .lf (.sl (.int .u32))]], bs := [] }
def rsrat_Add : List FS := [{ vs := [.g [.lf .bool, .smz 0, .lf .bool, .smz 1], .a (.lf (.int .i64))], bs := [.arr (.int .u32) 1 40 false, .arr (.int .u32) 1 40 false] }]
def Irat_Add (k : Nat) : Inst := ⟨7, shrat_Add, rsrat_Add, fun x => Frat_Add k x.1 x.2.1 x.2.2.1 x.2.2.2.1 x.2.2.2.2.1 x.2.2.2.2.2.1 x.2.2.2.2.2.2.1 x.2.2.2.2.2.2.2⟩
theorem alrat_Add (k : Nat) : AllI (call cf k) [Irat_two_xgr k] := And.intro (okrat_two_xgr k) (True.intro)
theorem anrat_Add (k : Nat) : LAll (LOk (R := DS FS.D rsrat_Add) (fun b _ σ K => LOt Ty (kps 7) 0 b σ K []) cf (call cf k) (cf.keep 7) Tryz.f7.ntmps k shrat_Add.bs.length) 0 (bd Tryz.f7) :=
  And.intro (True.intro) (And.intro (True.intro) (True.intro))
theorem strat_Add (k : Nat) (x : shrat_Add.D) : Frat_Add (k + 1) x.1 x.2.1 x.2.2.1 x.2.2.2.1 x.2.2.2.2.1 x.2.2.2.2.2.1 x.2.2.2.2.2.2.1 x.2.2.2.2.2.2.2 = body2 cf (fun f a b K => COt f a b K [Irat_two_xgr k]) (fun b _ σ K => LOt Ty (kps 7) 0 b σ K []) 7 Tryz.f7.ntmps Tryz.f7.results.toList (bd Tryz.f7) (shrat_Add.enc x).1 (shrat_Add.enc x).2 (putS FS.dec rsrat_Add) := by kernel_rfl
theorem okrat_Add : ∀ k, InstOk (call cf k) (Irat_Add k)
  | 0 => fun x y e => absurd (show (none : Option _) = some y from e) (by simp)
  | k + 1 => inst_ok (c := cf) (k := k) (f := 7) (fn := Tryz.f7) (body := bd Tryz.f7) (sh := shrat_Add) (os := rsrat_Add) rfl Tryz.func7 rfl ⟨rfl, Nat.le_of_ble_eq_true rfl⟩ (COt_ok (alrat_Add k)) (anrat_Add k) (fun x => Frat_Add (k + 1) x.1 x.2.1 x.2.2.1 x.2.2.2.1 x.2.2.2.2.1 x.2.2.2.2.2.1 x.2.2.2.2.2.2.1 x.2.2.2.2.2.2.2) (strat_Add k)

/-! (*shunt/big.Int).Abs -/
def bbig_Int_Abs_eql (k : Nat) (z : Bool) (x0 : Bool) (x1 : List Int) : Option (Bool × List Int × Bool × List Int) :=
  Option.bind (Fbig_Int_set_cvg k false x1 z) fun r8 =>
  (some (r8.1, r8.2, x0, x1))
def Fbig_Int_Abs_eql : Nat → Bool → Bool → List Int → Option (Bool × List Int × Bool × List Int)
  | 0, _, _, _ => none
  | k + 1, z, x0, x1 => bbig_Int_Abs_eql k z x0 x1
def shbig_Int_Abs_eql : FS := { vs := [.a (.ptr 0 0 0), .a (.ptr 1 0 0)], bs := [.raw [[.lf .bool, .snil 1 40]] 2 77 true false, .raw [[.lf .bool, .lf (.sl (.int .u32))]] 2 77 true false] }
def rsbig_Int_Abs_eql : List FS := [{ vs := [.a (.ptr 0 0 0)], bs := [.raw [[.lf .bool, .lf (.sl (.int .u32))]] 2 77 true false, .raw [[.lf .bool, .lf (.sl (.int .u32))]] 2 77 true false] }]
def Ibig_Int_Abs_eql (k : Nat) : Inst := ⟨68, shbig_Int_Abs_eql, rsbig_Int_Abs_eql, fun x => Fbig_Int_Abs_eql k x.1 x.2.1 x.2.2⟩
theorem albig_Int_Abs_eql (k : Nat) : AllI (call cf k) [Ibig_Int_set_cvg k] := And.intro (okbig_Int_set_cvg k) (True.intro)
theorem anbig_Int_Abs_eql (k : Nat) : LAll (LOk (R := DS FS.D rsbig_Int_Abs_eql) (fun b _ σ K => LOt Ty (kps 68) 2 b σ K []) cf (call cf k) (cf.keep 68) Tryz.f68.ntmps k shbig_Int_Abs_eql.bs.length) 0 (bd Tryz.f68) :=
  And.intro (True.intro) (And.intro (True.intro) (True.intro))
theorem stbig_Int_Abs_eql (k : Nat) (x : shbig_Int_Abs_eql.D) : Fbig_Int_Abs_eql (k + 1) x.1 x.2.1 x.2.2 = body2 cf (fun f a b K => COt f a b K [Ibig_Int_set_cvg k]) (fun b _ σ K => LOt Ty (kps 68) 2 b σ K []) 68 Tryz.f68.ntmps Tryz.f68.results.toList (bd Tryz.f68) (shbig_Int_Abs_eql.enc x).1 (shbig_Int_Abs_eql.enc x).2 (putS FS.dec rsbig_Int_Abs_eql) := by kernel_rfl
theorem okbig_Int_Abs_eql : ∀ k, InstOk (call cf k) (Ibig_Int_Abs_eql k)
  | 0 => fun x y e => absurd (show (none : Option _) = some y from e) (by simp)
  | k + 1 => inst_ok (c := cf) (k := k) (f := 68) (fn := Tryz.f68) (body := bd Tryz.f68) (sh := shbig_Int_Abs_eql) (os := rsbig_Int_Abs_eql) rfl Tryz.func68 rfl ⟨rfl, Nat.le_of_ble_eq_true rfl⟩ (COt_ok (albig_Int_Abs_eql k)) (anbig_Int_Abs_eql k) (fun x => Fbig_Int_Abs_eql (k + 1) x.1 x.2.1 x.2.2) (stbig_Int_Abs_eql k)

/-! (*shunt/big.Int).Add -/
def bbig_Int_Add_aht (k : Nat) (y0 : Bool) (y1 : List Int) : Option (Bool × List Int) :=
  Option.bind (Fbig_Int_sum_ahd k y0 y1 y0 y1) fun r9 =>
  (some (r9.1, r9.2))
def Fbig_Int_Add_aht : Nat → Bool → List Int → Option (Bool × List Int)
  | 0, _, _ => none
  | k + 1, y0, y1 => bbig_Int_Add_aht k y0 y1
def shbig_Int_Add_aht : FS := { vs := [.a (.ptr 0 0 0), .a (.ptr 0 0 0), .a (.ptr 0 0 0)], bs := [.raw [[.lf .bool, .lf (.sl (.int .u32))]] 2 77 true false] }
def rsbig_Int_Add_aht : List FS := [{ vs := [.a (.ptr 0 0 0)], bs := [.raw [[.lf .bool, .lf (.sl (.int .u32))]] 2 77 true false] }]
def Ibig_Int_Add_aht (k : Nat) : Inst := ⟨49, shbig_Int_Add_aht, rsbig_Int_Add_aht, fun x => Fbig_Int_Add_aht k x.1 x.2⟩
theorem albig_Int_Add_aht (k : Nat) : AllI (call cf k) [Ibig_Int_sum_ahd k] := And.intro (okbig_Int_sum_ahd k) (True.intro)
theorem anbig_Int_Add_aht (k : Nat) : LAll (LOk (R := DS FS.D rsbig_Int_Add_aht) (fun b _ σ K => LOt Ty (kps 49) 1 b σ K []) cf (call cf k) (cf.keep 49) Tryz.f49.ntmps k shbig_Int_Add_aht.bs.length) 0 (bd Tryz.f49) :=
  And.intro (True.intro) (And.intro (True.intro) (True.intro))
theorem stbig_Int_Add_aht (k : Nat) (x : shbig_Int_Add_aht.D) : Fbig_Int_Add_aht (k + 1) x.1 x.2 = body2 cf (fun f a b K => COt f a b K [Ibig_Int_sum_ahd k]) (fun b _ σ K => LOt Ty (kps 49) 1 b σ K []) 49 Tryz.f49.ntmps Tryz.f49.results.toList (bd Tryz.f49) (shbig_Int_Add_aht.enc x).1 (shbig_Int_Add_aht.enc x).2 (putS FS.dec rsbig_Int_Add_aht) := by kernel_rfl
theorem okbig_Int_Add_aht : ∀ k, InstOk (call cf k) (Ibig_Int_Add_aht k)
  | 0 => fun x y e => absurd (show (none : Option _) = some y from e) (by simp)
  | k + 1 => inst_ok (c := cf) (k := k) (f := 49) (fn := Tryz.f49) (body := bd Tryz.f49) (sh := shbig_Int_Add_aht) (os := rsbig_Int_Add_aht) rfl Tryz.func49 rfl ⟨rfl, Nat.le_of_ble_eq_true rfl⟩ (COt_ok (albig_Int_Add_aht k)) (anbig_Int_Add_aht k) (fun x => Fbig_Int_Add_aht (k + 1) x.1 x.2) (stbig_Int_Add_aht k)

/-! (*shunt/big.Int).Cmp -/
def bbig_Int_Cmp_ddu (k : Nat) (z0 : Bool) (z1 : List Int) (y0 : Bool) (y1 : List Int) : Option (Int × Bool × List Int × Bool × List Int) :=
  if ((!(z0 == y0)) = true) then
    if (z0 = true) then
      (some ((-(1 : Int)), z0, z1, y0, y1))
    else
    (some ((1 : Int), z0, z1, y0, y1))
  else
  Option.bind (Fbig_cmp k z1 y1) fun r10 =>
  if (z0 = true) then
    (some ((IntKind.wrap .i64 ((0 : Int) - r10)), z0, z1, y0, y1))
  else
  (some (r10, z0, z1, y0, y1))
def Fbig_Int_Cmp_ddu : Nat → Bool → List Int → Bool → List Int → Option (Int × Bool × List Int × Bool × List Int)
  | 0, _, _, _, _ => none
  | k + 1, z0, z1, y0, y1 => bbig_Int_Cmp_ddu k z0 z1 y0 y1
def shbig_Int_Cmp_ddu : FS := { vs := [.a (.ptr 0 0 0), .a (.ptr 1 0 0)], bs := [.raw [[.lf .bool, .lf (.sl (.int .u32))]] 2 77 true false, .raw [[.lf .bool, .lf (.sl (.int .u32))]] 2 77 true false] }
def rsbig_Int_Cmp_ddu : List FS := [{ vs := [.a (.lf (.int .i64))], bs := [.raw [[.lf .bool, .lf (.sl (.int .u32))]] 2 77 true false, .raw [[.lf .bool, .lf (.sl (.int .u32))]] 2 77 true false] }]
def Ibig_Int_Cmp_ddu (k : Nat) : Inst := ⟨52, shbig_Int_Cmp_ddu, rsbig_Int_Cmp_ddu, fun x => Fbig_Int_Cmp_ddu k x.1 x.2.1 x.2.2.1 x.2.2.2⟩
theorem albig_Int_Cmp_ddu (k : Nat) : AllI (call cf k) [Ibig_cmp k] := And.intro (okbig_cmp k) (True.intro)
theorem anbig_Int_Cmp_ddu (k : Nat) : LAll (LOk (R := DS FS.D rsbig_Int_Cmp_ddu) (fun b _ σ K => LOt Ty (kps 52) 2 b σ K []) cf (call cf k) (cf.keep 52) Tryz.f52.ntmps k shbig_Int_Cmp_ddu.bs.length) 0 (bd Tryz.f52) :=
  And.intro (True.intro) (And.intro (And.intro (True.intro) (And.intro (And.intro (And.intro (True.intro) (And.intro (And.intro (True.intro) (True.intro)) (True.intro))) (And.intro (True.intro) (True.intro))) (True.intro))) (And.intro (True.intro) (And.intro (And.intro (True.intro) (And.intro (And.intro (True.intro) (True.intro)) (True.intro))) (And.intro (True.intro) (True.intro)))))
theorem stbig_Int_Cmp_ddu (k : Nat) (x : shbig_Int_Cmp_ddu.D) : Fbig_Int_Cmp_ddu (k + 1) x.1 x.2.1 x.2.2.1 x.2.2.2 = body2 cf (fun f a b K => COt f a b K [Ibig_cmp k]) (fun b _ σ K => LOt Ty (kps 52) 2 b σ K []) 52 Tryz.f52.ntmps Tryz.f52.results.toList (bd Tryz.f52) (shbig_Int_Cmp_ddu.enc x).1 (shbig_Int_Cmp_ddu.enc x).2 (putS FS.dec rsbig_Int_Cmp_ddu) := by kernel_rfl
theorem okbig_Int_Cmp_ddu : ∀ k, InstOk (call cf k) (Ibig_Int_Cmp_ddu k)
  | 0 => fun x y e => absurd (show (none : Option _) = some y from e) (by simp)
  | k + 1 => inst_ok (c := cf) (k := k) (f := 52) (fn := Tryz.f52) (body := bd Tryz.f52) (sh := shbig_Int_Cmp_ddu) (os := rsbig_Int_Cmp_ddu) rfl Tryz.func52 rfl ⟨rfl, Nat.le_of_ble_eq_true rfl⟩ (COt_ok (albig_Int_Cmp_ddu k)) (anbig_Int_Cmp_ddu k) (fun x => Fbig_Int_Cmp_ddu (k + 1) x.1 x.2.1 x.2.2.1 x.2.2.2) (stbig_Int_Cmp_ddu k)

/-! (*shunt/big.Int).Odd -/
def bbig_Int_Odd_awf (k : Nat) (z0 : Bool) (z1 : List Int) : Option (Bool × Bool × List Int) :=
  if ((decide ((((List.length z1) : Nat) : Int) > (0 : Int))) = true) then
    Option.bind (z1)[0]? fun x =>
    (some (((IntKind.wrap .u32 (((BitVec.toNat ((BitVec.ofInt 32 x) &&& (BitVec.ofInt 32 (1 : Int)))) : Nat) : Int)) == (1 : Int)), z0, z1))
  else
  (some (false, z0, z1))
def Fbig_Int_Odd_awf : Nat → Bool → List Int → Option (Bool × Bool × List Int)
  | 0, _, _ => none
  | k + 1, z0, z1 => bbig_Int_Odd_awf k z0 z1
def shbig_Int_Odd_awf : FS := { vs := [.a (.ptr 0 0 0)], bs := [.raw [[.lf .bool, .lf (.sl (.int .u32))]] 2 77 true false] }
def rsbig_Int_Odd_awf : List FS := [{ vs := [.a (.lf .bool)], bs := [.raw [[.lf .bool, .lf (.sl (.int .u32))]] 2 77 true false] }]
def Ibig_Int_Odd_awf (k : Nat) : Inst := ⟨69, shbig_Int_Odd_awf, rsbig_Int_Odd_awf, fun x => Fbig_Int_Odd_awf k x.1 x.2⟩
theorem albig_Int_Odd_awf (k : Nat) : AllI (call cf k) [] := True.intro
theorem anbig_Int_Odd_awf (k : Nat) : LAll (LOk (R := DS FS.D rsbig_Int_Odd_awf) (fun b _ σ K => LOt Ty (kps 69) 1 b σ K []) cf (call cf k) (cf.keep 69) Tryz.f69.ntmps k shbig_Int_Odd_awf.bs.length) 0 (bd Tryz.f69) :=
  And.intro (True.intro) (And.intro (True.intro) (True.intro))
theorem stbig_Int_Odd_awf (k : Nat) (x : shbig_Int_Odd_awf.D) : Fbig_Int_Odd_awf (k + 1) x.1 x.2 = body2 cf (fun f a b K => COt f a b K []) (fun b _ σ K => LOt Ty (kps 69) 1 b σ K []) 69 Tryz.f69.ntmps Tryz.f69.results.toList (bd Tryz.f69) (shbig_Int_Odd_awf.enc x).1 (shbig_Int_Odd_awf.enc x).2 (putS FS.dec rsbig_Int_Odd_awf) := by kernel_rfl
theorem okbig_Int_Odd_awf : ∀ k, InstOk (call cf k) (Ibig_Int_Odd_awf k)
  | 0 => fun x y e => absurd (show (none : Option _) = some y from e) (by simp)
  | k + 1 => inst_ok (c := cf) (k := k) (f := 69) (fn := Tryz.f69) (body := bd Tryz.f69) (sh := shbig_Int_Odd_awf) (os := rsbig_Int_Odd_awf) rfl Tryz.func69 rfl ⟨rfl, Nat.le_of_ble_eq_true rfl⟩ (COt_ok (albig_Int_Odd_awf k)) (anbig_Int_Odd_awf k) (fun x => Fbig_Int_Odd_awf (k + 1) x.1 x.2) (stbig_Int_Odd_awf k)

/-! shunt/rat.Near -/
def brat_Near_ddu (k : Nat) (num0 : Bool) (num1 : List Int) (den0 : Bool) (den1 : List Int) : Option (Bool × List Int × Bool × List Int × Bool × List Int) :=
  Option.bind (Fbig_Int_QuoRem_gsh k false num0 num1 den0 den1 false) fun r7 =>
  Option.bind (Fbig_Int_Abs_eql k false r7.2.2.2.2.2.2.1 r7.2.2.2.2.2.2.2) fun r8 =>
  Option.bind (Fbig_Int_Add_aht k r8.1 r8.2.1) fun r9 =>
  Option.bind (Fbig_Int_Cmp_ddu k r9.1 r9.2 r7.2.2.2.2.1 r7.2.2.2.2.2.1) fun r10 =>
  if ((decide (r10.1 > (0 : Int))) = false) then
    if ((r10.1 == (0 : Int)) = true) then
      Option.bind (Fbig_Int_Odd_awf k r7.1 r7.2.1) fun r11 =>
      if (r11.1 = true) then
        Option.bind (Fbig_Int_Sign_awf k r7.2.2.1 r7.2.2.2.1) fun r12 =>
        Option.bind (Fbig_NewInt k r12.1) fun r13 =>
        Option.bind (Fbig_Int_Add_jod k r11.2.1 r11.2.2 r13.1 r13.2) fun r14 =>
        (some (r12.2.1, r12.2.2, r10.2.2.2.1, r10.2.2.2.2, r14.1, r14.2.1))
      else
      (some (r7.2.2.1, r7.2.2.2.1, r10.2.2.2.1, r10.2.2.2.2, r11.2.1, r11.2.2))
    else
    (some (r7.2.2.1, r7.2.2.2.1, r10.2.2.2.1, r10.2.2.2.2, r7.1, r7.2.1))
  else
  Option.bind (Fbig_Int_Sign_awf k r7.2.2.1 r7.2.2.2.1) fun r11 =>
  Option.bind (Fbig_NewInt k r11.1) fun r12 =>
  Option.bind (Fbig_Int_Add_jod k r7.1 r7.2.1 r12.1 r12.2) fun r13 =>
  (some (r11.2.1, r11.2.2, r10.2.2.2.1, r10.2.2.2.2, r13.1, r13.2.1))
def Frat_Near_ddu : Nat → Bool → List Int → Bool → List Int → Option (Bool × List Int × Bool × List Int × Bool × List Int)
  | 0, _, _, _, _ => none
  | k + 1, num0, num1, den0, den1 => brat_Near_ddu k num0 num1 den0 den1
def shrat_Near_ddu : FS := { vs := [.a (.ptr 0 0 0), .a (.ptr 1 0 0)], bs := [.raw [[.lf .bool, .lf (.sl (.int .u32))]] 2 77 true false, .raw [[.lf .bool, .lf (.sl (.int .u32))]] 2 77 true false] }
def rsrat_Near_ddu : List FS := [{ vs := [.a (.ptr 2 0 0)], bs := [.raw [[.lf .bool, .lf (.sl (.int .u32))]] 2 77 true false, .raw [[.lf .bool, .lf (.sl (.int .u32))]] 2 77 true false, .raw [[.lf .bool, .lf (.sl (.int .u32))]] 2 77 true false] }]
def Irat_Near_ddu (k : Nat) : Inst := ⟨41, shrat_Near_ddu, rsrat_Near_ddu, fun x => Frat_Near_ddu k x.1 x.2.1 x.2.2.1 x.2.2.2⟩
theorem alrat_Near_ddu (k : Nat) : AllI (call cf k) [Ibig_Int_QuoRem_gsh k, Ibig_Int_Abs_eql k, Ibig_Int_Add_aht k, Ibig_Int_Cmp_ddu k, Ibig_Int_Odd_awf k, Ibig_Int_Sign_awf k, Ibig_NewInt k, Ibig_Int_Add_jod k] := And.intro (okbig_Int_QuoRem_gsh k) (And.intro (okbig_Int_Abs_eql k) (And.intro (okbig_Int_Add_aht k) (And.intro (okbig_Int_Cmp_ddu k) (And.intro (okbig_Int_Odd_awf k) (And.intro (okbig_Int_Sign_awf k) (And.intro (okbig_NewInt k) (And.intro (okbig_Int_Add_jod k) (True.intro))))))))
theorem anrat_Near_ddu (k : Nat) : LAll (LOk (R := DS FS.D rsrat_Near_ddu) (fun b _ σ K => LOt Ty (kps 41) 2 b σ K []) cf (call cf k) (cf.keep 41) Tryz.f41.ntmps k shrat_Near_ddu.bs.length) 0 (bd Tryz.f41) :=
  And.intro (True.intro) (And.intro (True.intro) (And.intro (True.intro) (And.intro (And.intro (True.intro) (And.intro (True.intro) (And.intro (True.intro) (True.intro)))) (And.intro (True.intro) (True.intro)))))
theorem strat_Near_ddu (k : Nat) (x : shrat_Near_ddu.D) : Frat_Near_ddu (k + 1) x.1 x.2.1 x.2.2.1 x.2.2.2 = body2 cf (fun f a b K => COt f a b K [Ibig_Int_QuoRem_gsh k, Ibig_Int_Abs_eql k, Ibig_Int_Add_aht k, Ibig_Int_Cmp_ddu k, Ibig_Int_Odd_awf k, Ibig_Int_Sign_awf k, Ibig_NewInt k, Ibig_Int_Add_jod k]) (fun b _ σ K => LOt Ty (kps 41) 2 b σ K []) 41 Tryz.f41.ntmps Tryz.f41.results.toList (bd Tryz.f41) (shrat_Near_ddu.enc x).1 (shrat_Near_ddu.enc x).2 (putS FS.dec rsrat_Near_ddu) := by kernel_rfl
theorem okrat_Near_ddu : ∀ k, InstOk (call cf k) (Irat_Near_ddu k)
  | 0 => fun x y e => absurd (show (none : Option _) = some y from e) (by simp)
  | k + 1 => inst_ok (c := cf) (k := k) (f := 41) (fn := Tryz.f41) (body := bd Tryz.f41) (sh := shrat_Near_ddu) (os := rsrat_Near_ddu) rfl Tryz.func41 rfl ⟨rfl, Nat.le_of_ble_eq_true rfl⟩ (COt_ok (alrat_Near_ddu k)) (anrat_Near_ddu k) (fun x => Frat_Near_ddu (k + 1) x.1 x.2.1 x.2.2.1 x.2.2.2) (strat_Near_ddu k)

/-! (*shunt/big.Int).Int64 -/
def Lbig_Int_Int64_awf_0s (k : Nat) (rec : Int → Int → Bool → List Int → Option (Int × Bool × List Int)) (u : Int) (i : Int) (z0 : Bool) (z1 : List Int) : Option (Int × Bool × List Int) :=
  if ((decide (i ≥ (0 : Int))) = true) then
    if ((0 : Int) ≤ i) then
      Option.bind (z1)[(Int.toNat i)]? fun x =>
      rec (IntKind.wrap .u64 (((BitVec.toNat ((BitVec.ofInt 64 (IntKind.wrap .u64 (u * (4294967296 : Int)))) ||| (BitVec.ofInt 64 (IntKind.wrap .u64 x)))) : Nat) : Int)) (IntKind.wrap .i64 (i - (1 : Int))) z0 z1
    else
    none
  else
  (some (u, z0, z1))
def Lbig_Int_Int64_awf_0 (k n : Nat) : Int → Int → Bool → List Int → Option (Int × Bool × List Int) := Nat.rec (fun _ _ _ _ => none) (fun _ r => Lbig_Int_Int64_awf_0s k r) n
def bbig_Int_Int64_awf (k : Nat) (z0 : Bool) (z1 : List Int) : Option (Int × Bool × Bool × List Int) :=
  if ((decide ((((List.length z1) : Nat) : Int) > (2 : Int))) = true) then
    (some ((0 : Int), false, z0, z1))
  else
  Option.bind (Lbig_Int_Int64_awf_0 k k (0 : Int) (IntKind.wrap .i64 ((((List.length z1) : Nat) : Int) - (1 : Int))) z0 z1) fun r8 =>
  if (r8.2.1 = true) then
    (some ((IntKind.wrap .i64 ((0 : Int) - (IntKind.wrap .i64 r8.1))), (decide (r8.1 ≤ (9223372036854775808 : Int))), r8.2.1, r8.2.2))
  else
  (some ((IntKind.wrap .i64 r8.1), (decide (r8.1 < (9223372036854775808 : Int))), r8.2.1, r8.2.2))
def Fbig_Int_Int64_awf : Nat → Bool → List Int → Option (Int × Bool × Bool × List Int)
  | 0, _, _ => none
  | k + 1, z0, z1 => bbig_Int_Int64_awf k z0 z1
def shbig_Int_Int64_awf : FS := { vs := [.a (.ptr 0 0 0)], bs := [.raw [[.lf .bool, .lf (.sl (.int .u32))]] 2 77 true false] }
def rsbig_Int_Int64_awf : List FS := [{ vs := [.a (.lf (.int .i64)), .a (.lf .bool)], bs := [.raw [[.lf .bool, .lf (.sl (.int .u32))]] 2 77 true false] }]
def Ibig_Int_Int64_awf (k : Nat) : Inst := ⟨66, shbig_Int_Int64_awf, rsbig_Int_Int64_awf, fun x => Fbig_Int_Int64_awf k x.1 x.2⟩
theorem albig_Int_Int64_awf (k : Nat) : AllI (call cf k) [] := True.intro
def hsbig_Int_Int64_awf_0 : List SS := [{ fr := [(0, .a (.ptr 0 0 0)), (4, .a (.lf (.int .u64))), (5, .a (.lf (.int .i64)))], mem := [(0, some (.raw [[.lf .bool, .lf (.sl (.int .u32))]] 2 77 true false))], nx := 1 }]
def osbig_Int_Int64_awf_0 : List OS := [⟨some 0, { fr := [(0, .a (.ptr 0 0 0)), (4, .a (.lf (.int .u64)))], mem := [(0, some (.raw [[.lf .bool, .lf (.sl (.int .u32))]] 2 77 true false))], nx := 1 }⟩]
def LIbig_Int_Int64_awf_0 (k : Nat) : LInst := ⟨0, hsbig_Int_Int64_awf_0, osbig_Int_Int64_awf_0, fun x => Lbig_Int_Int64_awf_0 k k x.1 x.2.1 x.2.2.1 x.2.2.2⟩
theorem anbig_Int_Int64_awf_0 (k : Nat) : LAll (LOk (R := DS OS.D osbig_Int_Int64_awf_0) (fun b _ σ K => LOt Ty (kps 66) 1 b σ K []) cf (call cf k) (kps 66) Tryz.f66.ntmps k 1) 0 (lb Tryz.f66 0) :=
  And.intro (And.intro (True.intro) (And.intro (True.intro) (True.intro))) (And.intro (True.intro) (True.intro))
theorem stbig_Int_Int64_awf_0 (k n : Nat) (x : DS SS.D hsbig_Int_Int64_awf_0) : Lbig_Int_Int64_awf_0 k (n + 1) x.1 x.2.1 x.2.2.1 x.2.2.2 = encSK SS.enc (fun σ => run2 cf (fun f a b K => COt f a b K []) (fun b _ σ K => LOt Ty (kps 66) 1 b σ K []) Tryz.f66.ntmps 0 (lb Tryz.f66 0) σ (nextK Ty (kps 66 0) 1 hsbig_Int_Int64_awf_0 osbig_Int_Int64_awf_0 fun x => Lbig_Int_Int64_awf_0 k n x.1 x.2.1 x.2.2.1 x.2.2.2)) hsbig_Int_Int64_awf_0 x := by kernel_rfl
theorem lobig_Int_Int64_awf_0 (k : Nat) : LIOk cf (call cf k) (kps 66) Tryz.f66.ntmps k 1 0 (lb Tryz.f66 0) (LIbig_Int_Int64_awf_0 k) :=
  loop_ok (c := cf) (callF := call cf k) (kp := kps 66) (nt := Tryz.f66.ntmps) (k := k) (p := 1) (b := 0) (x0 := lb Tryz.f66 0) (hs := hsbig_Int_Int64_awf_0) (os := osbig_Int_Int64_awf_0) (COt_ok (albig_Int_Int64_awf k)) (anbig_Int_Int64_awf_0 k) (fun n x => Lbig_Int_Int64_awf_0 k n x.1 x.2.1 x.2.2.1 x.2.2.2) (fun _ => rfl) (stbig_Int_Int64_awf_0 k)
theorem anbig_Int_Int64_awf (k : Nat) : LAll (LOk (R := DS FS.D rsbig_Int_Int64_awf) (fun b _ σ K => LOt Ty (kps 66) 1 b σ K [LIbig_Int_Int64_awf_0 k]) cf (call cf k) (cf.keep 66) Tryz.f66.ntmps k shbig_Int_Int64_awf.bs.length) 0 (bd Tryz.f66) :=
  And.intro (True.intro) (And.intro (And.intro (True.intro) (And.intro (And.intro (True.intro) (True.intro)) (True.intro))) (And.intro (True.intro) (And.intro (And.intro (True.intro) (LOt_ok (c := cf) (callF := call cf k) (kp := kps 66) (nt := Tryz.f66.ntmps) (k := k) (p := 1) (b := 0) (x0 := lb Tryz.f66 0) (l := [LIbig_Int_Int64_awf_0 k]) (And.intro (fun _ => lobig_Int_Int64_awf_0 k) (True.intro)))) (And.intro (And.intro (True.intro) (And.intro (And.intro (True.intro) (True.intro)) (True.intro))) (And.intro (True.intro) (True.intro))))))
theorem stbig_Int_Int64_awf (k : Nat) (x : shbig_Int_Int64_awf.D) : Fbig_Int_Int64_awf (k + 1) x.1 x.2 = body2 cf (fun f a b K => COt f a b K []) (fun b _ σ K => LOt Ty (kps 66) 1 b σ K [LIbig_Int_Int64_awf_0 k]) 66 Tryz.f66.ntmps Tryz.f66.results.toList (bd Tryz.f66) (shbig_Int_Int64_awf.enc x).1 (shbig_Int_Int64_awf.enc x).2 (putS FS.dec rsbig_Int_Int64_awf) := by kernel_rfl
theorem okbig_Int_Int64_awf : ∀ k, InstOk (call cf k) (Ibig_Int_Int64_awf k)
  | 0 => fun x y e => absurd (show (none : Option _) = some y from e) (by simp)
  | k + 1 => inst_ok (c := cf) (k := k) (f := 66) (fn := Tryz.f66) (body := bd Tryz.f66) (sh := shbig_Int_Int64_awf) (os := rsbig_Int_Int64_awf) rfl Tryz.func66 rfl ⟨rfl, Nat.le_of_ble_eq_true rfl⟩ (COt_ok (albig_Int_Int64_awf k)) (anbig_Int_Int64_awf k) (fun x => Fbig_Int_Int64_awf (k + 1) x.1 x.2) (stbig_Int_Int64_awf k)

/-! shunt/rat.Grid -/
def brat_Grid_awf (k : Nat) (z0 : Bool) (z1 : List Int) : Option (Int × Int × Bool × List Int) :=
  Option.bind (Fbig_Int_Int64_awf k z0 z1) fun r8 =>
  if ((!r8.2.1) = false) then
    if ((decide (r8.1 > (1000000000000000000 : Int))) = false) then
      if ((decide (r8.1 < (-(1000000000000000000 : Int)))) = true) then
        (some ((0 : Int), (4 : Int), r8.2.2.1, r8.2.2.2))
      else
      (some (r8.1, (0 : Int), r8.2.2.1, r8.2.2.2))
    else
    (some ((0 : Int), (4 : Int), r8.2.2.1, r8.2.2.2))
  else
  (some ((0 : Int), (4 : Int), r8.2.2.1, r8.2.2.2))
def Frat_Grid_awf : Nat → Bool → List Int → Option (Int × Int × Bool × List Int)
  | 0, _, _ => none
  | k + 1, z0, z1 => brat_Grid_awf k z0 z1
def shrat_Grid_awf : FS := { vs := [.a (.ptr 0 0 0)], bs := [.raw [[.lf .bool, .lf (.sl (.int .u32))]] 2 77 true false] }
def rsrat_Grid_awf : List FS := [{ vs := [.a (.lf (.int .i64)), .a (.lf (.int .i64))], bs := [.raw [[.lf .bool, .lf (.sl (.int .u32))]] 2 77 true false] }]
def Irat_Grid_awf (k : Nat) : Inst := ⟨40, shrat_Grid_awf, rsrat_Grid_awf, fun x => Frat_Grid_awf k x.1 x.2⟩
theorem alrat_Grid_awf (k : Nat) : AllI (call cf k) [Ibig_Int_Int64_awf k] := And.intro (okbig_Int_Int64_awf k) (True.intro)
theorem anrat_Grid_awf (k : Nat) : LAll (LOk (R := DS FS.D rsrat_Grid_awf) (fun b _ σ K => LOt Ty (kps 40) 1 b σ K []) cf (call cf k) (cf.keep 40) Tryz.f40.ntmps k shrat_Grid_awf.bs.length) 0 (bd Tryz.f40) :=
  And.intro (True.intro) (And.intro (True.intro) (And.intro (And.intro (True.intro) (And.intro (And.intro (True.intro) (True.intro)) (True.intro))) (And.intro (True.intro) (True.intro))))
theorem strat_Grid_awf (k : Nat) (x : shrat_Grid_awf.D) : Frat_Grid_awf (k + 1) x.1 x.2 = body2 cf (fun f a b K => COt f a b K [Ibig_Int_Int64_awf k]) (fun b _ σ K => LOt Ty (kps 40) 1 b σ K []) 40 Tryz.f40.ntmps Tryz.f40.results.toList (bd Tryz.f40) (shrat_Grid_awf.enc x).1 (shrat_Grid_awf.enc x).2 (putS FS.dec rsrat_Grid_awf) := by kernel_rfl
theorem okrat_Grid_awf : ∀ k, InstOk (call cf k) (Irat_Grid_awf k)
  | 0 => fun x y e => absurd (show (none : Option _) = some y from e) (by simp)
  | k + 1 => inst_ok (c := cf) (k := k) (f := 40) (fn := Tryz.f40) (body := bd Tryz.f40) (sh := shrat_Grid_awf) (os := rsrat_Grid_awf) rfl Tryz.func40 rfl ⟨rfl, Nat.le_of_ble_eq_true rfl⟩ (COt_ok (alrat_Grid_awf k)) (anrat_Grid_awf k) (fun x => Frat_Grid_awf (k + 1) x.1 x.2) (strat_Grid_awf k)

/-! shunt/rat.Round -/
def brat_Round (k : Nat) (r0 : Bool) (r1 : List Int) (r2 : Bool) (r3 : List Int) : Option (Int × Int) :=
  Option.bind (Frat_Check k r0 r1 r2 r3) fun r4 =>
  if ((r4 != (0 : Int)) = true) then
    (some ((0 : Int), r4))
  else
  Option.bind (Fwide_Take k r0 r1) fun r5 =>
  Option.bind (Fwide_Take k r2 r3) fun r6 =>
  Option.bind (Frat_Near_ddu k r5.1 r5.2 r6.1 r6.2) fun r7 =>
  Option.bind (Frat_Grid_awf k r7.2.2.2.2.1 r7.2.2.2.2.2) fun r8 =>
  (some (r8.1, r8.2.1))
def Frat_Round : Nat → Bool → List Int → Bool → List Int → Option (Int × Int)
  | 0, _, _, _, _ => none
  | k + 1, r0, r1, r2, r3 => brat_Round k r0 r1 r2 r3
def shrat_Round : FS := { vs := [.g [.lf .bool, .lf (.sl (.int .u32)), .lf .bool, .lf (.sl (.int .u32))]], bs := [] }
def rsrat_Round : List FS := [{ vs := [.a (.lf (.int .i64)), .a (.lf (.int .i64))], bs := [] }]
def Irat_Round (k : Nat) : Inst := ⟨17, shrat_Round, rsrat_Round, fun x => Frat_Round k x.1 x.2.1 x.2.2.1 x.2.2.2⟩
theorem alrat_Round (k : Nat) : AllI (call cf k) [Irat_Check k, Iwide_Take k, Irat_Near_ddu k, Irat_Grid_awf k] := And.intro (okrat_Check k) (And.intro (okwide_Take k) (And.intro (okrat_Near_ddu k) (And.intro (okrat_Grid_awf k) (True.intro))))
theorem anrat_Round (k : Nat) : LAll (LOk (R := DS FS.D rsrat_Round) (fun b _ σ K => LOt Ty (kps 17) 0 b σ K []) cf (call cf k) (cf.keep 17) Tryz.f17.ntmps k shrat_Round.bs.length) 0 (bd Tryz.f17) :=
  And.intro (True.intro) (And.intro (And.intro (True.intro) (And.intro (True.intro) (And.intro (And.intro (True.intro) (True.intro)) (True.intro)))) (And.intro (True.intro) (True.intro)))
theorem strat_Round (k : Nat) (x : shrat_Round.D) : Frat_Round (k + 1) x.1 x.2.1 x.2.2.1 x.2.2.2 = body2 cf (fun f a b K => COt f a b K [Irat_Check k, Iwide_Take k, Irat_Near_ddu k, Irat_Grid_awf k]) (fun b _ σ K => LOt Ty (kps 17) 0 b σ K []) 17 Tryz.f17.ntmps Tryz.f17.results.toList (bd Tryz.f17) (shrat_Round.enc x).1 (shrat_Round.enc x).2 (putS FS.dec rsrat_Round) := by kernel_rfl
theorem okrat_Round : ∀ k, InstOk (call cf k) (Irat_Round k)
  | 0 => fun x y e => absurd (show (none : Option _) = some y from e) (by simp)
  | k + 1 => inst_ok (c := cf) (k := k) (f := 17) (fn := Tryz.f17) (body := bd Tryz.f17) (sh := shrat_Round) (os := rsrat_Round) rfl Tryz.func17 rfl ⟨rfl, Nat.le_of_ble_eq_true rfl⟩ (COt_ok (alrat_Round k)) (anrat_Round k) (fun x => Frat_Round (k + 1) x.1 x.2.1 x.2.2.1 x.2.2.2) (strat_Round k)

/-! shunt/shuntref01.Same -/
def Lshuntref01_Same_0s (k : Nat) (rec : Int → Bool → List Int → Bool → List Int → Option ((Bool × Bool × List Int × Bool × List Int) ⊕ (Bool × List Int × Bool × List Int))) (i : Int) (a0 : Bool) (a1 : List Int) (b0 : Bool) (b1 : List Int) : Option ((Bool × Bool × List Int × Bool × List Int) ⊕ (Bool × List Int × Bool × List Int)) :=
  if ((decide (i < (((List.length a1) : Nat) : Int))) = true) then
    if ((0 : Int) ≤ i) then
      Option.bind (a1)[(Int.toNat i)]? fun x =>
      if ((0 : Int) ≤ i) then
        Option.bind (b1)[(Int.toNat i)]? fun x1 =>
        if ((x != x1) = true) then
          (some (Sum.inl (false, a0, a1, b0, b1)))
        else
        rec (IntKind.wrap .i64 (i + (1 : Int))) a0 a1 b0 b1
      else
      none
    else
    none
  else
  (some (Sum.inr (a0, a1, b0, b1)))
def Lshuntref01_Same_0 (k n : Nat) : Int → Bool → List Int → Bool → List Int → Option ((Bool × Bool × List Int × Bool × List Int) ⊕ (Bool × List Int × Bool × List Int)) := Nat.rec (fun _ _ _ _ _ => none) (fun _ r => Lshuntref01_Same_0s k r) n
def bshuntref01_Same (k : Nat) (a0 : Bool) (a1 : List Int) (b0 : Bool) (b1 : List Int) : Option (Bool) :=
  if ((!(a0 == b0)) = false) then
    if (((((List.length a1) : Nat) : Int) != (((List.length b1) : Nat) : Int)) = true) then
      (some false)
    else
    Option.bind (Lshuntref01_Same_0 k k (0 : Int) a0 a1 b0 b1) fun r6 =>
    eitherK r6
      (fun r6 =>
      (some r6.1))
      (fun r6 =>
      (some true))
  else
  (some false)
def Fshuntref01_Same : Nat → Bool → List Int → Bool → List Int → Option (Bool)
  | 0, _, _, _, _ => none
  | k + 1, a0, a1, b0, b1 => bshuntref01_Same k a0 a1 b0 b1
def shshuntref01_Same : FS := { vs := [.g [.lf .bool, .lf (.sl (.int .u32))], .g [.lf .bool, .lf (.sl (.int .u32))]], bs := [] }
def rsshuntref01_Same : List FS := [{ vs := [.a (.lf .bool)], bs := [] }]
def Ishuntref01_Same (k : Nat) : Inst := ⟨63, shshuntref01_Same, rsshuntref01_Same, fun x => Fshuntref01_Same k x.1 x.2.1 x.2.2.1 x.2.2.2⟩
theorem alshuntref01_Same (k : Nat) : AllI (call cf k) [] := True.intro
def hsshuntref01_Same_0 : List SS := [{ fr := [(2, .a (.ptr 0 0 0)), (3, .a (.ptr 1 0 0)), (5, .a (.lf (.int .i64)))], mem := [(0, some (.raw [[.lf .bool, .lf (.sl (.int .u32))]] 2 24 true false)), (1, some (.raw [[.lf .bool, .lf (.sl (.int .u32))]] 2 24 true false))], nx := 2 }]
def osshuntref01_Same_0 : List OS := [⟨none, { fr := [(4, .a (.lf .bool))], mem := [(0, some (.raw [[.lf .bool, .lf (.sl (.int .u32))]] 2 24 true false)), (1, some (.raw [[.lf .bool, .lf (.sl (.int .u32))]] 2 24 true false))], nx := 2 }⟩, ⟨some 0, { fr := [], mem := [(0, some (.raw [[.lf .bool, .lf (.sl (.int .u32))]] 2 24 true false)), (1, some (.raw [[.lf .bool, .lf (.sl (.int .u32))]] 2 24 true false))], nx := 2 }⟩]
def LIshuntref01_Same_0 (k : Nat) : LInst := ⟨0, hsshuntref01_Same_0, osshuntref01_Same_0, fun x => Lshuntref01_Same_0 k k x.1 x.2.1 x.2.2.1 x.2.2.2.1 x.2.2.2.2⟩
theorem anshuntref01_Same_0 (k : Nat) : LAll (LOk (R := DS OS.D osshuntref01_Same_0) (fun b _ σ K => LOt Ty (kps 63) 0 b σ K []) cf (call cf k) (kps 63) Tryz.f63.ntmps k 0) 0 (lb Tryz.f63 0) :=
  And.intro (And.intro (True.intro) (And.intro (True.intro) (True.intro))) (And.intro (And.intro (True.intro) (And.intro (And.intro (True.intro) (True.intro)) (True.intro))) (True.intro))
theorem stshuntref01_Same_0 (k n : Nat) (x : DS SS.D hsshuntref01_Same_0) : Lshuntref01_Same_0 k (n + 1) x.1 x.2.1 x.2.2.1 x.2.2.2.1 x.2.2.2.2 = encSK SS.enc (fun σ => run2 cf (fun f a b K => COt f a b K []) (fun b _ σ K => LOt Ty (kps 63) 0 b σ K []) Tryz.f63.ntmps 0 (lb Tryz.f63 0) σ (nextK Ty (kps 63 0) 0 hsshuntref01_Same_0 osshuntref01_Same_0 fun x => Lshuntref01_Same_0 k n x.1 x.2.1 x.2.2.1 x.2.2.2.1 x.2.2.2.2)) hsshuntref01_Same_0 x := by kernel_rfl
theorem loshuntref01_Same_0 (k : Nat) : LIOk cf (call cf k) (kps 63) Tryz.f63.ntmps k 0 0 (lb Tryz.f63 0) (LIshuntref01_Same_0 k) :=
  loop_ok (c := cf) (callF := call cf k) (kp := kps 63) (nt := Tryz.f63.ntmps) (k := k) (p := 0) (b := 0) (x0 := lb Tryz.f63 0) (hs := hsshuntref01_Same_0) (os := osshuntref01_Same_0) (COt_ok (alshuntref01_Same k)) (anshuntref01_Same_0 k) (fun n x => Lshuntref01_Same_0 k n x.1 x.2.1 x.2.2.1 x.2.2.2.1 x.2.2.2.2) (fun _ => rfl) (stshuntref01_Same_0 k)
theorem anshuntref01_Same (k : Nat) : LAll (LOk (R := DS FS.D rsshuntref01_Same) (fun b _ σ K => LOt Ty (kps 63) 0 b σ K [LIshuntref01_Same_0 k]) cf (call cf k) (cf.keep 63) Tryz.f63.ntmps k shshuntref01_Same.bs.length) 0 (bd Tryz.f63) :=
  And.intro (True.intro) (And.intro (And.intro (True.intro) (And.intro (And.intro (True.intro) (True.intro)) (True.intro))) (And.intro (And.intro (True.intro) (LOt_ok (c := cf) (callF := call cf k) (kp := kps 63) (nt := Tryz.f63.ntmps) (k := k) (p := 0) (b := 0) (x0 := lb Tryz.f63 0) (l := [LIshuntref01_Same_0 k]) (And.intro (fun _ => loshuntref01_Same_0 k) (True.intro)))) (And.intro (True.intro) (True.intro))))
theorem stshuntref01_Same (k : Nat) (x : shshuntref01_Same.D) : Fshuntref01_Same (k + 1) x.1 x.2.1 x.2.2.1 x.2.2.2 = body2 cf (fun f a b K => COt f a b K []) (fun b _ σ K => LOt Ty (kps 63) 0 b σ K [LIshuntref01_Same_0 k]) 63 Tryz.f63.ntmps Tryz.f63.results.toList (bd Tryz.f63) (shshuntref01_Same.enc x).1 (shshuntref01_Same.enc x).2 (putS FS.dec rsshuntref01_Same) := by kernel_rfl
theorem okshuntref01_Same : ∀ k, InstOk (call cf k) (Ishuntref01_Same k)
  | 0 => fun x y e => absurd (show (none : Option _) = some y from e) (by simp)
  | k + 1 => inst_ok (c := cf) (k := k) (f := 63) (fn := Tryz.f63) (body := bd Tryz.f63) (sh := shshuntref01_Same) (os := rsshuntref01_Same) rfl Tryz.func63 rfl ⟨rfl, Nat.le_of_ble_eq_true rfl⟩ (COt_ok (alshuntref01_Same k)) (anshuntref01_Same k) (fun x => Fshuntref01_Same (k + 1) x.1 x.2.1 x.2.2.1 x.2.2.2) (stshuntref01_Same k)

/-! shunt/shuntref02.Same -/
def bshuntref02_Same (k : Nat) (a0 : Bool) (a1 : List Int) (a2 : Bool) (a3 : List Int) (b0 : Bool) (b1 : List Int) (b2 : Bool) (b3 : List Int) : Option (Bool) :=
  Option.bind (Fshuntref01_Same k a0 a1 b0 b1) fun r6 =>
  if (r6 = true) then
    Option.bind (Fshuntref01_Same k a2 a3 b2 b3) fun r7 =>
    (some r7)
  else
  (some false)
def Fshuntref02_Same : Nat → Bool → List Int → Bool → List Int → Bool → List Int → Bool → List Int → Option (Bool)
  | 0, _, _, _, _, _, _, _, _ => none
  | k + 1, a0, a1, a2, a3, b0, b1, b2, b3 => bshuntref02_Same k a0 a1 a2 a3 b0 b1 b2 b3
def shshuntref02_Same : FS := { vs := [.g [.lf .bool, .lf (.sl (.int .u32)), .lf .bool, .lf (.sl (.int .u32))], .g [.lf .bool, .lf (.sl (.int .u32)), .lf .bool, .lf (.sl (.int .u32))]], bs := [] }
def rsshuntref02_Same : List FS := [{ vs := [.a (.lf .bool)], bs := [] }]
def Ishuntref02_Same (k : Nat) : Inst := ⟨37, shshuntref02_Same, rsshuntref02_Same, fun x => Fshuntref02_Same k x.1 x.2.1 x.2.2.1 x.2.2.2.1 x.2.2.2.2.1 x.2.2.2.2.2.1 x.2.2.2.2.2.2.1 x.2.2.2.2.2.2.2⟩
theorem alshuntref02_Same (k : Nat) : AllI (call cf k) [Ishuntref01_Same k] := And.intro (okshuntref01_Same k) (True.intro)
theorem anshuntref02_Same (k : Nat) : LAll (LOk (R := DS FS.D rsshuntref02_Same) (fun b _ σ K => LOt Ty (kps 37) 0 b σ K []) cf (call cf k) (cf.keep 37) Tryz.f37.ntmps k shshuntref02_Same.bs.length) 0 (bd Tryz.f37) :=
  And.intro (True.intro) (And.intro (True.intro) (True.intro))
theorem stshuntref02_Same (k : Nat) (x : shshuntref02_Same.D) : Fshuntref02_Same (k + 1) x.1 x.2.1 x.2.2.1 x.2.2.2.1 x.2.2.2.2.1 x.2.2.2.2.2.1 x.2.2.2.2.2.2.1 x.2.2.2.2.2.2.2 = body2 cf (fun f a b K => COt f a b K [Ishuntref01_Same k]) (fun b _ σ K => LOt Ty (kps 37) 0 b σ K []) 37 Tryz.f37.ntmps Tryz.f37.results.toList (bd Tryz.f37) (shshuntref02_Same.enc x).1 (shshuntref02_Same.enc x).2 (putS FS.dec rsshuntref02_Same) := by kernel_rfl
theorem okshuntref02_Same : ∀ k, InstOk (call cf k) (Ishuntref02_Same k)
  | 0 => fun x y e => absurd (show (none : Option _) = some y from e) (by simp)
  | k + 1 => inst_ok (c := cf) (k := k) (f := 37) (fn := Tryz.f37) (body := bd Tryz.f37) (sh := shshuntref02_Same) (os := rsshuntref02_Same) rfl Tryz.func37 rfl ⟨rfl, Nat.le_of_ble_eq_true rfl⟩ (COt_ok (alshuntref02_Same k)) (anshuntref02_Same k) (fun x => Fshuntref02_Same (k + 1) x.1 x.2.1 x.2.2.1 x.2.2.2.1 x.2.2.2.2.1 x.2.2.2.2.2.1 x.2.2.2.2.2.2.1 x.2.2.2.2.2.2.2) (stshuntref02_Same k)

/-! shunt/shuntlaw02.same -/
def bshuntlaw02_same (k : Nat) (a0 : Bool) (a1 : List Int) (a2 : Bool) (a3 : List Int) (b0 : Bool) (b1 : List Int) (b2 : Bool) (b3 : List Int) : Option (Bool) :=
  Option.bind (Fshuntref02_Same k a0 a1 a2 a3 b0 b1 b2 b3) fun r6 =>
  (some r6)
def Fshuntlaw02_same : Nat → Bool → List Int → Bool → List Int → Bool → List Int → Bool → List Int → Option (Bool)
  | 0, _, _, _, _, _, _, _, _ => none
  | k + 1, a0, a1, a2, a3, b0, b1, b2, b3 => bshuntlaw02_same k a0 a1 a2 a3 b0 b1 b2 b3
def shshuntlaw02_same : FS := { vs := [.g [.lf .bool, .lf (.sl (.int .u32)), .lf .bool, .lf (.sl (.int .u32))], .g [.lf .bool, .lf (.sl (.int .u32)), .lf .bool, .lf (.sl (.int .u32))]], bs := [] }
def rsshuntlaw02_same : List FS := [{ vs := [.a (.lf .bool)], bs := [] }]
def Ishuntlaw02_same (k : Nat) : Inst := ⟨14, shshuntlaw02_same, rsshuntlaw02_same, fun x => Fshuntlaw02_same k x.1 x.2.1 x.2.2.1 x.2.2.2.1 x.2.2.2.2.1 x.2.2.2.2.2.1 x.2.2.2.2.2.2.1 x.2.2.2.2.2.2.2⟩
theorem alshuntlaw02_same (k : Nat) : AllI (call cf k) [Ishuntref02_Same k] := And.intro (okshuntref02_Same k) (True.intro)
theorem anshuntlaw02_same (k : Nat) : LAll (LOk (R := DS FS.D rsshuntlaw02_same) (fun b _ σ K => LOt Ty (kps 14) 0 b σ K []) cf (call cf k) (cf.keep 14) Tryz.f14.ntmps k shshuntlaw02_same.bs.length) 0 (bd Tryz.f14) :=
  And.intro (True.intro) (And.intro (True.intro) (True.intro))
theorem stshuntlaw02_same (k : Nat) (x : shshuntlaw02_same.D) : Fshuntlaw02_same (k + 1) x.1 x.2.1 x.2.2.1 x.2.2.2.1 x.2.2.2.2.1 x.2.2.2.2.2.1 x.2.2.2.2.2.2.1 x.2.2.2.2.2.2.2 = body2 cf (fun f a b K => COt f a b K [Ishuntref02_Same k]) (fun b _ σ K => LOt Ty (kps 14) 0 b σ K []) 14 Tryz.f14.ntmps Tryz.f14.results.toList (bd Tryz.f14) (shshuntlaw02_same.enc x).1 (shshuntlaw02_same.enc x).2 (putS FS.dec rsshuntlaw02_same) := by kernel_rfl
theorem okshuntlaw02_same : ∀ k, InstOk (call cf k) (Ishuntlaw02_same k)
  | 0 => fun x y e => absurd (show (none : Option _) = some y from e) (by simp)
  | k + 1 => inst_ok (c := cf) (k := k) (f := 14) (fn := Tryz.f14) (body := bd Tryz.f14) (sh := shshuntlaw02_same) (os := rsshuntlaw02_same) rfl Tryz.func14 rfl ⟨rfl, Nat.le_of_ble_eq_true rfl⟩ (COt_ok (alshuntlaw02_same k)) (anshuntlaw02_same k) (fun x => Fshuntlaw02_same (k + 1) x.1 x.2.1 x.2.2.1 x.2.2.2.1 x.2.2.2.2.1 x.2.2.2.2.2.1 x.2.2.2.2.2.2.1 x.2.2.2.2.2.2.2) (stshuntlaw02_same k)


end
end Go.Proofs.YtjgpegpjmkgkkaaGreat.Am
