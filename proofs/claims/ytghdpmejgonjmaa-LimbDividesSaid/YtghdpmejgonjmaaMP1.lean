/- Printed functions: each says what the typed machine says of the program -/
import Derived.Test.YtghdpmejgonjmaaMA3
import Derived.KernelRfl

set_option linter.unusedVariables false
set_option maxRecDepth 100000
namespace Go.Proofs.Ytghdpmejgonjmaa.Am
open Go
noncomputable section

/-! shunt/big.trim -/
def Lbig_trim_0s (k : Nat) (rec : List Int → Int → Option (List Int × Int)) (w : List Int) (n : Int) : Option (List Int × Int) :=
  if ((decide (n > (0 : Int))) = true) then
    if ((0 : Int) ≤ (IntKind.wrap .i64 (n - (1 : Int)))) then
      Option.bind (w)[(Int.toNat (IntKind.wrap .i64 (n - (1 : Int))))]? fun x =>
      if ((x == (0 : Int)) = true) then
        rec w (IntKind.wrap .i64 (n - (1 : Int)))
      else
      (some (w, n))
    else
    none
  else
  (some (w, n))
def Lbig_trim_0 (k n : Nat) : List Int → Int → Option (List Int × Int) := Nat.rec (fun _ _ => none) (fun _ r => Lbig_trim_0s k r) n
def bbig_trim (k : Nat) (w : List Int) : Option (List Int) :=
  Option.bind (Lbig_trim_0 k k w (((List.length w) : Nat) : Int)) fun r =>
  if (((0 : Int) ≤ (0 : Int)) ∧ (((0 : Int) ≤ r.2) ∧ (r.2 ≤ (((List.length r.1) : Nat) : Int)))) then
    (some (List.take (Int.toNat r.2) r.1))
  else
  none
def Fbig_trim : Nat → List Int → Option (List Int)
  | 0, _ => none
  | k + 1, w => bbig_trim k w
def shbig_trim : FS := { vs := [.a (.lf (.sl (.int .u32)))], bs := [] }
def rsbig_trim : List FS := [{ vs := [.a (.lf (.sl (.int .u32)))], bs := [] }]
def Ibig_trim (k : Nat) : Inst := ⟨80, shbig_trim, rsbig_trim, fun x => Fbig_trim k x⟩
theorem albig_trim (k : Nat) : AllI (call cf k) [] := True.intro
def hsbig_trim_0 : List SS := [{ fr := [(0, .a (.lf (.sl (.int .u32)))), (3, .a (.lf (.int .i64)))], mem := [], nx := 0 }]
def osbig_trim_0 : List OS := [⟨some 0, { fr := [(0, .a (.lf (.sl (.int .u32)))), (3, .a (.lf (.int .i64)))], mem := [], nx := 0 }⟩]
def LIbig_trim_0 (k : Nat) : LInst := ⟨0, hsbig_trim_0, osbig_trim_0, fun x => Lbig_trim_0 k k x.1 x.2⟩
theorem anbig_trim_0 (k : Nat) : LAll (LOk (R := DS OS.D osbig_trim_0) (fun b _ σ K => LOt Ty (kps 80) 0 b σ K []) cf (call cf k) (kps 80) Try.f80.ntmps k 0) 0 (lb Try.f80 0) :=
  And.intro (And.intro (True.intro) (And.intro (True.intro) (True.intro))) (True.intro)
theorem stbig_trim_0 (k n : Nat) (x : DS SS.D hsbig_trim_0) : Lbig_trim_0 k (n + 1) x.1 x.2 = encSK SS.enc (fun σ => run2 cf (fun f a b K => COt f a b K []) (fun b _ σ K => LOt Ty (kps 80) 0 b σ K []) Try.f80.ntmps 0 (lb Try.f80 0) σ (nextK Ty (kps 80 0) 0 hsbig_trim_0 osbig_trim_0 fun x => Lbig_trim_0 k n x.1 x.2)) hsbig_trim_0 x := by kernel_rfl
theorem lobig_trim_0 (k : Nat) : LIOk cf (call cf k) (kps 80) Try.f80.ntmps k 0 0 (lb Try.f80 0) (LIbig_trim_0 k) :=
  loop_ok (c := cf) (callF := call cf k) (kp := kps 80) (nt := Try.f80.ntmps) (k := k) (p := 0) (b := 0) (x0 := lb Try.f80 0) (hs := hsbig_trim_0) (os := osbig_trim_0) (COt_ok (albig_trim k)) (anbig_trim_0 k) (fun n x => Lbig_trim_0 k n x.1 x.2) (fun _ => rfl) (stbig_trim_0 k)
theorem anbig_trim (k : Nat) : LAll (LOk (R := DS FS.D rsbig_trim) (fun b _ σ K => LOt Ty (kps 80) 0 b σ K [LIbig_trim_0 k]) cf (call cf k) (cf.keep 80) Try.f80.ntmps k shbig_trim.bs.length) 0 (bd Try.f80) :=
  And.intro (True.intro) (And.intro (True.intro) (And.intro (LOt_ok (c := cf) (callF := call cf k) (kp := kps 80) (nt := Try.f80.ntmps) (k := k) (p := 0) (b := 0) (x0 := lb Try.f80 0) (l := [LIbig_trim_0 k]) (And.intro (fun _ => lobig_trim_0 k) (True.intro))) (And.intro (True.intro) (True.intro))))
theorem stbig_trim (k : Nat) (x : shbig_trim.D) : Fbig_trim (k + 1) x = body2 cf (fun f a b K => COt f a b K []) (fun b _ σ K => LOt Ty (kps 80) 0 b σ K [LIbig_trim_0 k]) 80 Try.f80.ntmps Try.f80.results.toList (bd Try.f80) (shbig_trim.enc x).1 (shbig_trim.enc x).2 (putS FS.dec rsbig_trim) := by kernel_rfl
theorem okbig_trim : ∀ k, InstOk (call cf k) (Ibig_trim k)
  | 0 => fun x y e => absurd (show (none : Option _) = some y from e) (by simp)
  | k + 1 => inst_ok (c := cf) (k := k) (f := 80) (fn := Try.f80) (body := bd Try.f80) (sh := shbig_trim) (os := rsbig_trim) rfl Try.func80 rfl ⟨rfl, Nat.le_of_ble_eq_true rfl⟩ (COt_ok (albig_trim k)) (anbig_trim k) (fun x => Fbig_trim (k + 1) x) (stbig_trim k)

/-! shunt/big.NewInt -/
def bbig_NewInt (k : Nat) (v : Int) : Option (Bool × List Int) :=
  if ((decide (v < (0 : Int))) = true) then
    Option.bind (Fbig_trim k (List.take 2 ((IntKind.wrap .u32 (IntKind.wrap .u64 ((0 : Int) - (IntKind.wrap .u64 v)))) :: ((IntKind.wrap .u32 (Int.fdiv (IntKind.wrap .u64 ((0 : Int) - (IntKind.wrap .u64 v))) (4294967296 : Int))) :: [])))) fun r =>
    (some ((decide (v < (0 : Int))), r))
  else
  Option.bind (Fbig_trim k (List.take 2 ((IntKind.wrap .u32 (IntKind.wrap .u64 v)) :: ((IntKind.wrap .u32 (Int.fdiv (IntKind.wrap .u64 v) (4294967296 : Int))) :: [])))) fun r =>
  (some ((decide (v < (0 : Int))), r))
def Fbig_NewInt : Nat → Int → Option (Bool × List Int)
  | 0, _ => none
  | k + 1, v => bbig_NewInt k v
def shbig_NewInt : FS := { vs := [.a (.lf (.int .i64))], bs := [] }
def rsbig_NewInt : List FS := [{ vs := [.a (.ptr 0 0 0)], bs := [.raw [[.lf .bool, .lf (.sl (.int .u32))]] 2 69 true false] }]
def Ibig_NewInt (k : Nat) : Inst := ⟨56, shbig_NewInt, rsbig_NewInt, fun x => Fbig_NewInt k x⟩
theorem albig_NewInt (k : Nat) : AllI (call cf k) [Ibig_trim k] := And.intro (okbig_trim k) (True.intro)
theorem anbig_NewInt (k : Nat) : LAll (LOk (R := DS FS.D rsbig_NewInt) (fun b _ σ K => LOt Ty (kps 56) 0 b σ K []) cf (call cf k) (cf.keep 56) Try.f56.ntmps k shbig_NewInt.bs.length) 0 (bd Try.f56) :=
  And.intro (True.intro) (And.intro (True.intro) (And.intro (And.intro (True.intro) (And.intro (True.intro) (True.intro))) (And.intro (True.intro) (True.intro))))
theorem stbig_NewInt (k : Nat) (x : shbig_NewInt.D) : Fbig_NewInt (k + 1) x = body2 cf (fun f a b K => COt f a b K [Ibig_trim k]) (fun b _ σ K => LOt Ty (kps 56) 0 b σ K []) 56 Try.f56.ntmps Try.f56.results.toList (bd Try.f56) (shbig_NewInt.enc x).1 (shbig_NewInt.enc x).2 (putS FS.dec rsbig_NewInt) := by kernel_rfl
theorem okbig_NewInt : ∀ k, InstOk (call cf k) (Ibig_NewInt k)
  | 0 => fun x y e => absurd (show (none : Option _) = some y from e) (by simp)
  | k + 1 => inst_ok (c := cf) (k := k) (f := 56) (fn := Try.f56) (body := bd Try.f56) (sh := shbig_NewInt) (os := rsbig_NewInt) rfl Try.func56 rfl ⟨rfl, Nat.le_of_ble_eq_true rfl⟩ (COt_ok (albig_NewInt k)) (anbig_NewInt k) (fun x => Fbig_NewInt (k + 1) x) (stbig_NewInt k)

/-! (*shunt/big.Int).Sign -/
def bbig_Int_Sign_awf (k : Nat) (z0 : Bool) (z1 : List Int) : Option (Int × Bool × List Int) :=
  if (((((List.length z1) : Nat) : Int) == (0 : Int)) = true) then
    (some ((0 : Int), z0, z1))
  else
  if (z0 = true) then
    (some ((-(1 : Int)), z0, z1))
  else
  (some ((1 : Int), z0, z1))
def Fbig_Int_Sign_awf : Nat → Bool → List Int → Option (Int × Bool × List Int)
  | 0, _, _ => none
  | k + 1, z0, z1 => bbig_Int_Sign_awf k z0 z1
def shbig_Int_Sign_awf : FS := { vs := [.a (.ptr 0 0 0)], bs := [.raw [[.lf .bool, .lf (.sl (.int .u32))]] 2 69 true false] }
def rsbig_Int_Sign_awf : List FS := [{ vs := [.a (.lf (.int .i64))], bs := [.raw [[.lf .bool, .lf (.sl (.int .u32))]] 2 69 true false] }]
def Ibig_Int_Sign_awf (k : Nat) : Inst := ⟨69, shbig_Int_Sign_awf, rsbig_Int_Sign_awf, fun x => Fbig_Int_Sign_awf k x.1 x.2⟩
theorem albig_Int_Sign_awf (k : Nat) : AllI (call cf k) [] := True.intro
theorem anbig_Int_Sign_awf (k : Nat) : LAll (LOk (R := DS FS.D rsbig_Int_Sign_awf) (fun b _ σ K => LOt Ty (kps 69) 1 b σ K []) cf (call cf k) (cf.keep 69) Try.f69.ntmps k shbig_Int_Sign_awf.bs.length) 0 (bd Try.f69) :=
  And.intro (True.intro) (And.intro (And.intro (True.intro) (And.intro (And.intro (True.intro) (True.intro)) (And.intro (True.intro) (And.intro (And.intro (True.intro) (True.intro)) (True.intro))))) (And.intro (True.intro) (True.intro)))
theorem stbig_Int_Sign_awf (k : Nat) (x : shbig_Int_Sign_awf.D) : Fbig_Int_Sign_awf (k + 1) x.1 x.2 = body2 cf (fun f a b K => COt f a b K []) (fun b _ σ K => LOt Ty (kps 69) 1 b σ K []) 69 Try.f69.ntmps Try.f69.results.toList (bd Try.f69) (shbig_Int_Sign_awf.enc x).1 (shbig_Int_Sign_awf.enc x).2 (putS FS.dec rsbig_Int_Sign_awf) := by kernel_rfl
theorem okbig_Int_Sign_awf : ∀ k, InstOk (call cf k) (Ibig_Int_Sign_awf k)
  | 0 => fun x y e => absurd (show (none : Option _) = some y from e) (by simp)
  | k + 1 => inst_ok (c := cf) (k := k) (f := 69) (fn := Try.f69) (body := bd Try.f69) (sh := shbig_Int_Sign_awf) (os := rsbig_Int_Sign_awf) rfl Try.func69 rfl ⟨rfl, Nat.le_of_ble_eq_true rfl⟩ (COt_ok (albig_Int_Sign_awf k)) (anbig_Int_Sign_awf k) (fun x => Fbig_Int_Sign_awf (k + 1) x.1 x.2) (stbig_Int_Sign_awf k)

/-! (*shunt/big.Int).Words -/
def bbig_Int_Words_awf (k : Nat) (z0 : Bool) (z1 : List Int) : Option (Nat × Bool × List Int × List Int) :=
  if (((0 + (List.length z1)) * 4) ≤ 140737488355328) then
    (some ((0 + (List.length z1)), z0, z1, ((List.take 0 []) ++ z1)))
  else
  none
def Fbig_Int_Words_awf : Nat → Bool → List Int → Option (Nat × Bool × List Int × List Int)
  | 0, _, _ => none
  | k + 1, z0, z1 => bbig_Int_Words_awf k z0 z1
def shbig_Int_Words_awf : FS := { vs := [.a (.ptr 0 0 0)], bs := [.raw [[.lf .bool, .lf (.sl (.int .u32))]] 2 69 true false] }
def rsbig_Int_Words_awf : List FS := [{ vs := [.a (.smz 1)], bs := [.raw [[.lf .bool, .lf (.sl (.int .u32))]] 2 69 true false, .arr (.int .u32) 1 64 false] }]
def Ibig_Int_Words_awf (k : Nat) : Inst := ⟨70, shbig_Int_Words_awf, rsbig_Int_Words_awf, fun x => Fbig_Int_Words_awf k x.1 x.2⟩
theorem albig_Int_Words_awf (k : Nat) : AllI (call cf k) [] := True.intro
theorem anbig_Int_Words_awf (k : Nat) : LAll (LOk (R := DS FS.D rsbig_Int_Words_awf) (fun b _ σ K => LOt Ty (kps 70) 1 b σ K []) cf (call cf k) (cf.keep 70) Try.f70.ntmps k shbig_Int_Words_awf.bs.length) 0 (bd Try.f70) :=
  And.intro (True.intro) (And.intro (True.intro) (True.intro))
theorem stbig_Int_Words_awf (k : Nat) (x : shbig_Int_Words_awf.D) : Fbig_Int_Words_awf (k + 1) x.1 x.2 = body2 cf (fun f a b K => COt f a b K []) (fun b _ σ K => LOt Ty (kps 70) 1 b σ K []) 70 Try.f70.ntmps Try.f70.results.toList (bd Try.f70) (shbig_Int_Words_awf.enc x).1 (shbig_Int_Words_awf.enc x).2 (putS FS.dec rsbig_Int_Words_awf) := by kernel_rfl
theorem okbig_Int_Words_awf : ∀ k, InstOk (call cf k) (Ibig_Int_Words_awf k)
  | 0 => fun x y e => absurd (show (none : Option _) = some y from e) (by simp)
  | k + 1 => inst_ok (c := cf) (k := k) (f := 70) (fn := Try.f70) (body := bd Try.f70) (sh := shbig_Int_Words_awf) (os := rsbig_Int_Words_awf) rfl Try.func70 rfl ⟨rfl, Nat.le_of_ble_eq_true rfl⟩ (COt_ok (albig_Int_Words_awf k)) (anbig_Int_Words_awf k) (fun x => Fbig_Int_Words_awf (k + 1) x.1 x.2) (stbig_Int_Words_awf k)

/-! shunt/wide.Give -/
def bwide_Give_awf (k : Nat) (z0 : Bool) (z1 : List Int) : Option (Bool × Nat × Bool × List Int × List Int) :=
  Option.bind (Fbig_Int_Sign_awf k z0 z1) fun r1 =>
  Option.bind (Fbig_Int_Words_awf k r1.2.1 r1.2.2) fun r2 =>
  (some ((decide (r1.1 < (0 : Int))), r2.1, r2.2.1, r2.2.2.1, r2.2.2.2))
def Fwide_Give_awf : Nat → Bool → List Int → Option (Bool × Nat × Bool × List Int × List Int)
  | 0, _, _ => none
  | k + 1, z0, z1 => bwide_Give_awf k z0 z1
def shwide_Give_awf : FS := { vs := [.a (.ptr 0 0 0)], bs := [.raw [[.lf .bool, .lf (.sl (.int .u32))]] 2 69 true false] }
def rswide_Give_awf : List FS := [{ vs := [.g [.lf .bool, .smz 1]], bs := [.raw [[.lf .bool, .lf (.sl (.int .u32))]] 2 69 true false, .arr (.int .u32) 1 64 false] }]
def Iwide_Give_awf (k : Nat) : Inst := ⟨41, shwide_Give_awf, rswide_Give_awf, fun x => Fwide_Give_awf k x.1 x.2⟩
theorem alwide_Give_awf (k : Nat) : AllI (call cf k) [Ibig_Int_Sign_awf k, Ibig_Int_Words_awf k] := And.intro (okbig_Int_Sign_awf k) (And.intro (okbig_Int_Words_awf k) (True.intro))
theorem anwide_Give_awf (k : Nat) : LAll (LOk (R := DS FS.D rswide_Give_awf) (fun b _ σ K => LOt Ty (kps 41) 1 b σ K []) cf (call cf k) (cf.keep 41) Try.f41.ntmps k shwide_Give_awf.bs.length) 0 (bd Try.f41) :=
  And.intro (True.intro) (And.intro (True.intro) (True.intro))
theorem stwide_Give_awf (k : Nat) (x : shwide_Give_awf.D) : Fwide_Give_awf (k + 1) x.1 x.2 = body2 cf (fun f a b K => COt f a b K [Ibig_Int_Sign_awf k, Ibig_Int_Words_awf k]) (fun b _ σ K => LOt Ty (kps 41) 1 b σ K []) 41 Try.f41.ntmps Try.f41.results.toList (bd Try.f41) (shwide_Give_awf.enc x).1 (shwide_Give_awf.enc x).2 (putS FS.dec rswide_Give_awf) := by kernel_rfl
theorem okwide_Give_awf : ∀ k, InstOk (call cf k) (Iwide_Give_awf k)
  | 0 => fun x y e => absurd (show (none : Option _) = some y from e) (by simp)
  | k + 1 => inst_ok (c := cf) (k := k) (f := 41) (fn := Try.f41) (body := bd Try.f41) (sh := shwide_Give_awf) (os := rswide_Give_awf) rfl Try.func41 rfl ⟨rfl, Nat.le_of_ble_eq_true rfl⟩ (COt_ok (alwide_Give_awf k)) (anwide_Give_awf k) (fun x => Fwide_Give_awf (k + 1) x.1 x.2) (stwide_Give_awf k)

/-! shunt/limb.Of -/
def blimb_Of (k : Nat) (v : Int) : Option (Bool × List Int) :=
  Option.bind (Fbig_NewInt k v) fun r =>
  Option.bind (Fwide_Give_awf k r.1 r.2) fun r1 =>
  if ((0 + r1.2.1) ≤ (List.length r1.2.2.2.2)) then
    (some (r1.1, (List.take r1.2.1 r1.2.2.2.2)))
  else
  none
def Flimb_Of : Nat → Int → Option (Bool × List Int)
  | 0, _ => none
  | k + 1, v => blimb_Of k v
def shlimb_Of : FS := { vs := [.a (.lf (.int .i64))], bs := [] }
def rslimb_Of : List FS := [{ vs := [.g [.lf .bool, .lf (.sl (.int .u32))]], bs := [] }]
def Ilimb_Of (k : Nat) : Inst := ⟨26, shlimb_Of, rslimb_Of, fun x => Flimb_Of k x⟩
theorem allimb_Of (k : Nat) : AllI (call cf k) [Ibig_NewInt k, Iwide_Give_awf k] := And.intro (okbig_NewInt k) (And.intro (okwide_Give_awf k) (True.intro))
theorem anlimb_Of (k : Nat) : LAll (LOk (R := DS FS.D rslimb_Of) (fun b _ σ K => LOt Ty (kps 26) 0 b σ K []) cf (call cf k) (cf.keep 26) Try.f26.ntmps k shlimb_Of.bs.length) 0 (bd Try.f26) :=
  And.intro (True.intro) (And.intro (True.intro) (True.intro))
theorem stlimb_Of (k : Nat) (x : shlimb_Of.D) : Flimb_Of (k + 1) x = body2 cf (fun f a b K => COt f a b K [Ibig_NewInt k, Iwide_Give_awf k]) (fun b _ σ K => LOt Ty (kps 26) 0 b σ K []) 26 Try.f26.ntmps Try.f26.results.toList (bd Try.f26) (shlimb_Of.enc x).1 (shlimb_Of.enc x).2 (putS FS.dec rslimb_Of) := by kernel_rfl
theorem oklimb_Of : ∀ k, InstOk (call cf k) (Ilimb_Of k)
  | 0 => fun x y e => absurd (show (none : Option _) = some y from e) (by simp)
  | k + 1 => inst_ok (c := cf) (k := k) (f := 26) (fn := Try.f26) (body := bd Try.f26) (sh := shlimb_Of) (os := rslimb_Of) rfl Try.func26 rfl ⟨rfl, Nat.le_of_ble_eq_true rfl⟩ (COt_ok (allimb_Of k)) (anlimb_Of k) (fun x => Flimb_Of (k + 1) x) (stlimb_Of k)

/-! shunt/limb.Check -/
def blimb_Check (k : Nat) (a0 : Bool) (a1 : List Int) : Option (Int) :=
  if ((decide ((((List.length a1) : Nat) : Int) > (72 : Int))) = false) then
    if (((((List.length a1) : Nat) : Int) == (0 : Int)) = true) then
      if (a0 = false) then
        if ((decide ((((List.length a1) : Nat) : Int) > (0 : Int))) = true) then
          if ((0 : Int) ≤ (IntKind.wrap .i64 ((((List.length a1) : Nat) : Int) - (1 : Int)))) then
            Option.bind (a1)[(Int.toNat (IntKind.wrap .i64 ((((List.length a1) : Nat) : Int) - (1 : Int))))]? fun x =>
            if ((x == (0 : Int)) = true) then
              (some (10 : Int))
            else
            (some (0 : Int))
          else
          none
        else
        (some (0 : Int))
      else
      (some (10 : Int))
    else
    if ((decide ((((List.length a1) : Nat) : Int) > (0 : Int))) = true) then
      if ((0 : Int) ≤ (IntKind.wrap .i64 ((((List.length a1) : Nat) : Int) - (1 : Int)))) then
        Option.bind (a1)[(Int.toNat (IntKind.wrap .i64 ((((List.length a1) : Nat) : Int) - (1 : Int))))]? fun x =>
        if ((x == (0 : Int)) = true) then
          (some (10 : Int))
        else
        (some (0 : Int))
      else
      none
    else
    (some (0 : Int))
  else
  (some (10 : Int))
def Flimb_Check : Nat → Bool → List Int → Option (Int)
  | 0, _, _ => none
  | k + 1, a0, a1 => blimb_Check k a0 a1
def shlimb_Check : FS := { vs := [.g [.lf .bool, .lf (.sl (.int .u32))]], bs := [] }
def rslimb_Check : List FS := [{ vs := [.a (.lf (.int .i64))], bs := [] }]
def Ilimb_Check (k : Nat) : Inst := ⟨29, shlimb_Check, rslimb_Check, fun x => Flimb_Check k x.1 x.2⟩
theorem allimb_Check (k : Nat) : AllI (call cf k) [] := True.intro
theorem anlimb_Check (k : Nat) : LAll (LOk (R := DS FS.D rslimb_Check) (fun b _ σ K => LOt Ty (kps 29) 0 b σ K []) cf (call cf k) (cf.keep 29) Try.f29.ntmps k shlimb_Check.bs.length) 0 (bd Try.f29) :=
  And.intro (True.intro) (And.intro (True.intro) (And.intro (And.intro (True.intro) (And.intro (And.intro (True.intro) (True.intro)) (True.intro))) (And.intro (True.intro) (True.intro))))
theorem stlimb_Check (k : Nat) (x : shlimb_Check.D) : Flimb_Check (k + 1) x.1 x.2 = body2 cf (fun f a b K => COt f a b K []) (fun b _ σ K => LOt Ty (kps 29) 0 b σ K []) 29 Try.f29.ntmps Try.f29.results.toList (bd Try.f29) (shlimb_Check.enc x).1 (shlimb_Check.enc x).2 (putS FS.dec rslimb_Check) := by kernel_rfl
theorem oklimb_Check : ∀ k, InstOk (call cf k) (Ilimb_Check k)
  | 0 => fun x y e => absurd (show (none : Option _) = some y from e) (by simp)
  | k + 1 => inst_ok (c := cf) (k := k) (f := 29) (fn := Try.f29) (body := bd Try.f29) (sh := shlimb_Check) (os := rslimb_Check) rfl Try.func29 rfl ⟨rfl, Nat.le_of_ble_eq_true rfl⟩ (COt_ok (allimb_Check k)) (anlimb_Check k) (fun x => Flimb_Check (k + 1) x.1 x.2) (stlimb_Check k)

/-! shunt/limb.both -/
def blimb_both (k : Nat) (a0 : Bool) (a1 : List Int) (b0 : Bool) (b1 : List Int) : Option (Int) :=
  Option.bind (Flimb_Check k a0 a1) fun r2 =>
  if ((r2 != (0 : Int)) = true) then
    (some (10 : Int))
  else
  Option.bind (Flimb_Check k b0 b1) fun r3 =>
  (some r3)
def Flimb_both : Nat → Bool → List Int → Bool → List Int → Option (Int)
  | 0, _, _, _, _ => none
  | k + 1, a0, a1, b0, b1 => blimb_both k a0 a1 b0 b1
def shlimb_both : FS := { vs := [.g [.lf .bool, .lf (.sl (.int .u32))], .g [.lf .bool, .lf (.sl (.int .u32))]], bs := [] }
def rslimb_both : List FS := [{ vs := [.a (.lf (.int .i64))], bs := [] }]
def Ilimb_both (k : Nat) : Inst := ⟨38, shlimb_both, rslimb_both, fun x => Flimb_both k x.1 x.2.1 x.2.2.1 x.2.2.2⟩
theorem allimb_both (k : Nat) : AllI (call cf k) [Ilimb_Check k] := And.intro (oklimb_Check k) (True.intro)
theorem anlimb_both (k : Nat) : LAll (LOk (R := DS FS.D rslimb_both) (fun b _ σ K => LOt Ty (kps 38) 0 b σ K []) cf (call cf k) (cf.keep 38) Try.f38.ntmps k shlimb_both.bs.length) 0 (bd Try.f38) :=
  And.intro (True.intro) (And.intro (And.intro (True.intro) (And.intro (And.intro (True.intro) (True.intro)) (True.intro))) (And.intro (True.intro) (True.intro)))
theorem stlimb_both (k : Nat) (x : shlimb_both.D) : Flimb_both (k + 1) x.1 x.2.1 x.2.2.1 x.2.2.2 = body2 cf (fun f a b K => COt f a b K [Ilimb_Check k]) (fun b _ σ K => LOt Ty (kps 38) 0 b σ K []) 38 Try.f38.ntmps Try.f38.results.toList (bd Try.f38) (shlimb_both.enc x).1 (shlimb_both.enc x).2 (putS FS.dec rslimb_both) := by kernel_rfl
theorem oklimb_both : ∀ k, InstOk (call cf k) (Ilimb_both k)
  | 0 => fun x y e => absurd (show (none : Option _) = some y from e) (by simp)
  | k + 1 => inst_ok (c := cf) (k := k) (f := 38) (fn := Try.f38) (body := bd Try.f38) (sh := shlimb_both) (os := rslimb_both) rfl Try.func38 rfl ⟨rfl, Nat.le_of_ble_eq_true rfl⟩ (COt_ok (allimb_both k)) (anlimb_both k) (fun x => Flimb_both (k + 1) x.1 x.2.1 x.2.2.1 x.2.2.2) (stlimb_both k)

/-! shunt/big.Of -/
def bbig_Of (k : Nat) (neg : Bool) (w : List Int) : Option (Bool × List Int) :=
  if (((0 + (List.length w)) * 4) ≤ 140737488355328) then
    if ((0 + (0 + (List.length w))) ≤ (List.length ((List.take 0 []) ++ w))) then
      Option.bind (Fbig_trim k (List.take (0 + (List.length w)) ((List.take 0 []) ++ w))) fun r3 =>
      if (neg = true) then
        (some ((decide ((((List.length r3) : Nat) : Int) > (0 : Int))), r3))
      else
      (some (false, r3))
    else
    none
  else
  none
def Fbig_Of : Nat → Bool → List Int → Option (Bool × List Int)
  | 0, _, _ => none
  | k + 1, neg, w => bbig_Of k neg w
def shbig_Of : FS := { vs := [.a (.lf .bool), .a (.lf (.sl (.int .u32)))], bs := [] }
def rsbig_Of : List FS := [{ vs := [.a (.ptr 0 0 0)], bs := [.raw [[.lf .bool, .lf (.sl (.int .u32))]] 2 69 true false] }]
def Ibig_Of (k : Nat) : Inst := ⟨68, shbig_Of, rsbig_Of, fun x => Fbig_Of k x.1 x.2⟩
theorem albig_Of (k : Nat) : AllI (call cf k) [Ibig_trim k] := And.intro (okbig_trim k) (True.intro)
theorem anbig_Of (k : Nat) : LAll (LOk (R := DS FS.D rsbig_Of) (fun b _ σ K => LOt Ty (kps 68) 0 b σ K []) cf (call cf k) (cf.keep 68) Try.f68.ntmps k shbig_Of.bs.length) 0 (bd Try.f68) :=
  And.intro (True.intro) (And.intro (True.intro) (And.intro (True.intro) (And.intro (True.intro) (True.intro))))
theorem stbig_Of (k : Nat) (x : shbig_Of.D) : Fbig_Of (k + 1) x.1 x.2 = body2 cf (fun f a b K => COt f a b K [Ibig_trim k]) (fun b _ σ K => LOt Ty (kps 68) 0 b σ K []) 68 Try.f68.ntmps Try.f68.results.toList (bd Try.f68) (shbig_Of.enc x).1 (shbig_Of.enc x).2 (putS FS.dec rsbig_Of) := by kernel_rfl
theorem okbig_Of : ∀ k, InstOk (call cf k) (Ibig_Of k)
  | 0 => fun x y e => absurd (show (none : Option _) = some y from e) (by simp)
  | k + 1 => inst_ok (c := cf) (k := k) (f := 68) (fn := Try.f68) (body := bd Try.f68) (sh := shbig_Of) (os := rsbig_Of) rfl Try.func68 rfl ⟨rfl, Nat.le_of_ble_eq_true rfl⟩ (COt_ok (albig_Of k)) (anbig_Of k) (fun x => Fbig_Of (k + 1) x.1 x.2) (stbig_Of k)

/-! shunt/wide.Take -/
def bwide_Take (k : Nat) (a0 : Bool) (a1 : List Int) : Option (Bool × List Int) :=
  Option.bind (Fbig_Of k a0 a1) fun r3 =>
  (some (r3.1, r3.2))
def Fwide_Take : Nat → Bool → List Int → Option (Bool × List Int)
  | 0, _, _ => none
  | k + 1, a0, a1 => bwide_Take k a0 a1
def shwide_Take : FS := { vs := [.g [.lf .bool, .lf (.sl (.int .u32))]], bs := [] }
def rswide_Take : List FS := [{ vs := [.a (.ptr 0 0 0)], bs := [.raw [[.lf .bool, .lf (.sl (.int .u32))]] 2 69 true false] }]
def Iwide_Take (k : Nat) : Inst := ⟨40, shwide_Take, rswide_Take, fun x => Fwide_Take k x.1 x.2⟩
theorem alwide_Take (k : Nat) : AllI (call cf k) [Ibig_Of k] := And.intro (okbig_Of k) (True.intro)
theorem anwide_Take (k : Nat) : LAll (LOk (R := DS FS.D rswide_Take) (fun b _ σ K => LOt Ty (kps 40) 0 b σ K []) cf (call cf k) (cf.keep 40) Try.f40.ntmps k shwide_Take.bs.length) 0 (bd Try.f40) :=
  And.intro (True.intro) (And.intro (True.intro) (True.intro))
theorem stwide_Take (k : Nat) (x : shwide_Take.D) : Fwide_Take (k + 1) x.1 x.2 = body2 cf (fun f a b K => COt f a b K [Ibig_Of k]) (fun b _ σ K => LOt Ty (kps 40) 0 b σ K []) 40 Try.f40.ntmps Try.f40.results.toList (bd Try.f40) (shwide_Take.enc x).1 (shwide_Take.enc x).2 (putS FS.dec rswide_Take) := by kernel_rfl
theorem okwide_Take : ∀ k, InstOk (call cf k) (Iwide_Take k)
  | 0 => fun x y e => absurd (show (none : Option _) = some y from e) (by simp)
  | k + 1 => inst_ok (c := cf) (k := k) (f := 40) (fn := Try.f40) (body := bd Try.f40) (sh := shwide_Take) (os := rswide_Take) rfl Try.func40 rfl ⟨rfl, Nat.le_of_ble_eq_true rfl⟩ (COt_ok (alwide_Take k)) (anwide_Take k) (fun x => Fwide_Take (k + 1) x.1 x.2) (stwide_Take k)

/-! shunt/big.add -/
def Lbig_add_0s (k : Nat) (rec : List Int → List Int → Nat → Int → Int → Int → List Int → Option (List Int × Nat × Int × List Int)) (a : List Int) (b : List Int) (out1 : Nat) (carry : Int) (x : Int) (x1 : Int) (outs : List Int) : Option (List Int × Nat × Int × List Int) :=
  if ((decide (x1 < x)) = true) then
    if ((0 : Int) ≤ x1) then
      Option.bind (a)[(Int.toNat x1)]? fun x2 =>
      if ((decide (x1 < (((List.length b) : Nat) : Int))) = true) then
        if ((0 : Int) ≤ x1) then
          Option.bind (b)[(Int.toNat x1)]? fun x3 =>
          if (((0 : Int) ≤ x1) ∧ (x1 < ((out1 : Nat) : Int))) then
            Option.bind (outs)[(0 + (Int.toNat x1))]? fun x4 =>
            rec a b out1 (Int.fdiv (IntKind.wrap .u64 ((IntKind.wrap .u64 ((IntKind.wrap .u64 x2) + carry)) + (IntKind.wrap .u64 x3))) (4294967296 : Int)) x (IntKind.wrap .i64 (x1 + (1 : Int))) (List.set outs (0 + (Int.toNat x1)) (IntKind.wrap .u32 (IntKind.wrap .u64 ((IntKind.wrap .u64 ((IntKind.wrap .u64 x2) + carry)) + (IntKind.wrap .u64 x3)))))
          else
          none
        else
        none
      else
      if (((0 : Int) ≤ x1) ∧ (x1 < ((out1 : Nat) : Int))) then
        Option.bind (outs)[(0 + (Int.toNat x1))]? fun x3 =>
        rec a b out1 (Int.fdiv (IntKind.wrap .u64 ((IntKind.wrap .u64 x2) + carry)) (4294967296 : Int)) x (IntKind.wrap .i64 (x1 + (1 : Int))) (List.set outs (0 + (Int.toNat x1)) (IntKind.wrap .u32 (IntKind.wrap .u64 ((IntKind.wrap .u64 x2) + carry))))
      else
      none
    else
    none
  else
  (some (a, out1, carry, outs))
def Lbig_add_0 (k n : Nat) : List Int → List Int → Nat → Int → Int → Int → List Int → Option (List Int × Nat × Int × List Int) := Nat.rec (fun _ _ _ _ _ _ _ => none) (fun _ r => Lbig_add_0s k r) n
def bbig_add (k : Nat) (a : List Int) (b : List Int) : Option (List Int) :=
  if ((decide ((((List.length a) : Nat) : Int) < (((List.length b) : Nat) : Int))) = true) then
    if (((0 : Int) ≤ (IntKind.wrap .i64 ((((List.length b) : Nat) : Int) + (1 : Int)))) ∧ (((IntKind.wrap .i64 ((((List.length b) : Nat) : Int) + (1 : Int))) ≤ (IntKind.wrap .i64 ((((List.length b) : Nat) : Int) + (1 : Int)))) ∧ (((IntKind.wrap .i64 ((((List.length b) : Nat) : Int) + (1 : Int))) * (4 : Int)) ≤ (140737488355328 : Int)))) then
      Option.bind (Lbig_add_0 k k b a (Int.toNat (IntKind.wrap .i64 ((((List.length b) : Nat) : Int) + (1 : Int)))) (0 : Int) (((List.length b) : Nat) : Int) (0 : Int) (List.replicate (Int.toNat (IntKind.wrap .i64 ((((List.length b) : Nat) : Int) + (1 : Int)))) (0 : Int))) fun r5 =>
      if (((0 : Int) ≤ (((List.length r5.1) : Nat) : Int)) ∧ ((((List.length r5.1) : Nat) : Int) < ((r5.2.1 : Nat) : Int))) then
        Option.bind (r5.2.2.2)[(0 + (Int.toNat (((List.length r5.1) : Nat) : Int)))]? fun x =>
        if ((0 + r5.2.1) ≤ (List.length (List.set r5.2.2.2 (0 + (Int.toNat (((List.length r5.1) : Nat) : Int))) (IntKind.wrap .u32 r5.2.2.1)))) then
          (some (List.take r5.2.1 (List.set r5.2.2.2 (0 + (Int.toNat (((List.length r5.1) : Nat) : Int))) (IntKind.wrap .u32 r5.2.2.1))))
        else
        none
      else
      none
    else
    none
  else
  if (((0 : Int) ≤ (IntKind.wrap .i64 ((((List.length a) : Nat) : Int) + (1 : Int)))) ∧ (((IntKind.wrap .i64 ((((List.length a) : Nat) : Int) + (1 : Int))) ≤ (IntKind.wrap .i64 ((((List.length a) : Nat) : Int) + (1 : Int)))) ∧ (((IntKind.wrap .i64 ((((List.length a) : Nat) : Int) + (1 : Int))) * (4 : Int)) ≤ (140737488355328 : Int)))) then
    Option.bind (Lbig_add_0 k k a b (Int.toNat (IntKind.wrap .i64 ((((List.length a) : Nat) : Int) + (1 : Int)))) (0 : Int) (((List.length a) : Nat) : Int) (0 : Int) (List.replicate (Int.toNat (IntKind.wrap .i64 ((((List.length a) : Nat) : Int) + (1 : Int)))) (0 : Int))) fun r5 =>
    if (((0 : Int) ≤ (((List.length r5.1) : Nat) : Int)) ∧ ((((List.length r5.1) : Nat) : Int) < ((r5.2.1 : Nat) : Int))) then
      Option.bind (r5.2.2.2)[(0 + (Int.toNat (((List.length r5.1) : Nat) : Int)))]? fun x =>
      if ((0 + r5.2.1) ≤ (List.length (List.set r5.2.2.2 (0 + (Int.toNat (((List.length r5.1) : Nat) : Int))) (IntKind.wrap .u32 r5.2.2.1)))) then
        (some (List.take r5.2.1 (List.set r5.2.2.2 (0 + (Int.toNat (((List.length r5.1) : Nat) : Int))) (IntKind.wrap .u32 r5.2.2.1))))
      else
      none
    else
    none
  else
  none
def Fbig_add : Nat → List Int → List Int → Option (List Int)
  | 0, _, _ => none
  | k + 1, a, b => bbig_add k a b
def shbig_add : FS := { vs := [.a (.lf (.sl (.int .u32))), .a (.lf (.sl (.int .u32)))], bs := [] }
def rsbig_add : List FS := [{ vs := [.a (.lf (.sl (.int .u32)))], bs := [] }]
def Ibig_add (k : Nat) : Inst := ⟨85, shbig_add, rsbig_add, fun x => Fbig_add k x.1 x.2⟩
theorem albig_add (k : Nat) : AllI (call cf k) [] := True.intro
def hsbig_add_0 : List SS := [{ fr := [(0, .a (.lf (.sl (.int .u32)))), (1, .a (.lf (.sl (.int .u32)))), (5, .a (.smz 0)), (6, .a (.lf (.int .u64))), (21, .a (.lf (.int .i64))), (22, .a (.lf (.int .i64)))], mem := [(0, some (.arr (.int .u32) 1 64 false))], nx := 1 }]
def osbig_add_0 : List OS := [⟨some 0, { fr := [(0, .a (.lf (.sl (.int .u32)))), (5, .a (.smz 0)), (6, .a (.lf (.int .u64)))], mem := [(0, some (.arr (.int .u32) 1 64 false))], nx := 1 }⟩]
def LIbig_add_0 (k : Nat) : LInst := ⟨0, hsbig_add_0, osbig_add_0, fun x => Lbig_add_0 k k x.1 x.2.1 x.2.2.1 x.2.2.2.1 x.2.2.2.2.1 x.2.2.2.2.2.1 x.2.2.2.2.2.2⟩
theorem anbig_add_0 (k : Nat) : LAll (LOk (R := DS OS.D osbig_add_0) (fun b _ σ K => LOt Ty (kps 85) 0 b σ K []) cf (call cf k) (kps 85) Try.f85.ntmps k 0) 0 (lb Try.f85 0) :=
  And.intro (True.intro) (And.intro (And.intro (True.intro) (True.intro)) (And.intro (And.intro (True.intro) (And.intro (True.intro) (And.intro (And.intro (True.intro) (And.intro (True.intro) (True.intro))) (And.intro (True.intro) (True.intro))))) (True.intro)))
theorem stbig_add_0 (k n : Nat) (x : DS SS.D hsbig_add_0) : Lbig_add_0 k (n + 1) x.1 x.2.1 x.2.2.1 x.2.2.2.1 x.2.2.2.2.1 x.2.2.2.2.2.1 x.2.2.2.2.2.2 = encSK SS.enc (fun σ => run2 cf (fun f a b K => COt f a b K []) (fun b _ σ K => LOt Ty (kps 85) 0 b σ K []) Try.f85.ntmps 0 (lb Try.f85 0) σ (nextK Ty (kps 85 0) 0 hsbig_add_0 osbig_add_0 fun x => Lbig_add_0 k n x.1 x.2.1 x.2.2.1 x.2.2.2.1 x.2.2.2.2.1 x.2.2.2.2.2.1 x.2.2.2.2.2.2)) hsbig_add_0 x := by kernel_rfl
theorem lobig_add_0 (k : Nat) : LIOk cf (call cf k) (kps 85) Try.f85.ntmps k 0 0 (lb Try.f85 0) (LIbig_add_0 k) :=
  loop_ok (c := cf) (callF := call cf k) (kp := kps 85) (nt := Try.f85.ntmps) (k := k) (p := 0) (b := 0) (x0 := lb Try.f85 0) (hs := hsbig_add_0) (os := osbig_add_0) (COt_ok (albig_add k)) (anbig_add_0 k) (fun n x => Lbig_add_0 k n x.1 x.2.1 x.2.2.1 x.2.2.2.1 x.2.2.2.2.1 x.2.2.2.2.2.1 x.2.2.2.2.2.2) (fun _ => rfl) (stbig_add_0 k)
theorem anbig_add (k : Nat) : LAll (LOk (R := DS FS.D rsbig_add) (fun b _ σ K => LOt Ty (kps 85) 0 b σ K [LIbig_add_0 k]) cf (call cf k) (cf.keep 85) Try.f85.ntmps k shbig_add.bs.length) 0 (bd Try.f85) :=
  And.intro (True.intro) (And.intro (And.intro (True.intro) (And.intro (True.intro) (True.intro))) (And.intro (True.intro) (And.intro (True.intro) (And.intro (And.intro (True.intro) (LOt_ok (c := cf) (callF := call cf k) (kp := kps 85) (nt := Try.f85.ntmps) (k := k) (p := 0) (b := 0) (x0 := lb Try.f85 0) (l := [LIbig_add_0 k]) (And.intro (fun _ => lobig_add_0 k) (True.intro)))) (And.intro (True.intro) (And.intro (True.intro) (True.intro)))))))
theorem stbig_add (k : Nat) (x : shbig_add.D) : Fbig_add (k + 1) x.1 x.2 = body2 cf (fun f a b K => COt f a b K []) (fun b _ σ K => LOt Ty (kps 85) 0 b σ K [LIbig_add_0 k]) 85 Try.f85.ntmps Try.f85.results.toList (bd Try.f85) (shbig_add.enc x).1 (shbig_add.enc x).2 (putS FS.dec rsbig_add) := by kernel_rfl
theorem okbig_add : ∀ k, InstOk (call cf k) (Ibig_add k)
  | 0 => fun x y e => absurd (show (none : Option _) = some y from e) (by simp)
  | k + 1 => inst_ok (c := cf) (k := k) (f := 85) (fn := Try.f85) (body := bd Try.f85) (sh := shbig_add) (os := rsbig_add) rfl Try.func85 rfl ⟨rfl, Nat.le_of_ble_eq_true rfl⟩ (COt_ok (albig_add k)) (anbig_add k) (fun x => Fbig_add (k + 1) x.1 x.2) (stbig_add k)

/-! (*shunt/big.Int).set -/
def bbig_Int_set_cvg (k : Nat) (neg : Bool) (w : List Int) (z : Bool) : Option (Bool × List Int) :=
  Option.bind (Fbig_trim k w) fun r6 =>
  if (neg = true) then
    (some ((decide ((((List.length r6) : Nat) : Int) > (0 : Int))), r6))
  else
  (some (false, r6))
def Fbig_Int_set_cvg : Nat → Bool → List Int → Bool → Option (Bool × List Int)
  | 0, _, _, _ => none
  | k + 1, neg, w, z => bbig_Int_set_cvg k neg w z
def shbig_Int_set_cvg : FS := { vs := [.a (.ptr 0 0 0), .a (.lf .bool), .a (.lf (.sl (.int .u32)))], bs := [.raw [[.lf .bool, .snil 1 64]] 2 69 true false] }
def rsbig_Int_set_cvg : List FS := [{ vs := [.a (.ptr 0 0 0)], bs := [.raw [[.lf .bool, .lf (.sl (.int .u32))]] 2 69 true false] }]
def Ibig_Int_set_cvg (k : Nat) : Inst := ⟨67, shbig_Int_set_cvg, rsbig_Int_set_cvg, fun x => Fbig_Int_set_cvg k x.1 x.2.1 x.2.2⟩
theorem albig_Int_set_cvg (k : Nat) : AllI (call cf k) [Ibig_trim k] := And.intro (okbig_trim k) (True.intro)
theorem anbig_Int_set_cvg (k : Nat) : LAll (LOk (R := DS FS.D rsbig_Int_set_cvg) (fun b _ σ K => LOt Ty (kps 67) 1 b σ K []) cf (call cf k) (cf.keep 67) Try.f67.ntmps k shbig_Int_set_cvg.bs.length) 0 (bd Try.f67) :=
  And.intro (True.intro) (And.intro (True.intro) (And.intro (True.intro) (And.intro (True.intro) (True.intro))))
theorem stbig_Int_set_cvg (k : Nat) (x : shbig_Int_set_cvg.D) : Fbig_Int_set_cvg (k + 1) x.1 x.2.1 x.2.2 = body2 cf (fun f a b K => COt f a b K [Ibig_trim k]) (fun b _ σ K => LOt Ty (kps 67) 1 b σ K []) 67 Try.f67.ntmps Try.f67.results.toList (bd Try.f67) (shbig_Int_set_cvg.enc x).1 (shbig_Int_set_cvg.enc x).2 (putS FS.dec rsbig_Int_set_cvg) := by kernel_rfl
theorem okbig_Int_set_cvg : ∀ k, InstOk (call cf k) (Ibig_Int_set_cvg k)
  | 0 => fun x y e => absurd (show (none : Option _) = some y from e) (by simp)
  | k + 1 => inst_ok (c := cf) (k := k) (f := 67) (fn := Try.f67) (body := bd Try.f67) (sh := shbig_Int_set_cvg) (os := rsbig_Int_set_cvg) rfl Try.func67 rfl ⟨rfl, Nat.le_of_ble_eq_true rfl⟩ (COt_ok (albig_Int_set_cvg k)) (anbig_Int_set_cvg k) (fun x => Fbig_Int_set_cvg (k + 1) x.1 x.2.1 x.2.2) (stbig_Int_set_cvg k)

/-! shunt/big.cmp -/
def Lbig_cmp_0s (k : Nat) (rec : List Int → List Int → Int → Option ((Int) ⊕ (Unit))) (a : List Int) (b : List Int) (i : Int) : Option ((Int) ⊕ (Unit)) :=
  if ((decide (i ≥ (0 : Int))) = true) then
    if ((0 : Int) ≤ i) then
      Option.bind (a)[(Int.toNat i)]? fun x =>
      if ((0 : Int) ≤ i) then
        Option.bind (b)[(Int.toNat i)]? fun x2 =>
        if ((x != x2) = true) then
          if ((0 : Int) ≤ i) then
            Option.bind (a)[(Int.toNat i)]? fun x3 =>
            if ((0 : Int) ≤ i) then
              Option.bind (b)[(Int.toNat i)]? fun x4 =>
              if ((decide (x3 < x4)) = true) then
                (some (Sum.inl (-(1 : Int))))
              else
              (some (Sum.inl (1 : Int)))
            else
            none
          else
          none
        else
        rec a b (IntKind.wrap .i64 (i - (1 : Int)))
      else
      none
    else
    none
  else
  (some (Sum.inr ()))
def Lbig_cmp_0 (k n : Nat) : List Int → List Int → Int → Option ((Int) ⊕ (Unit)) := Nat.rec (fun _ _ _ => none) (fun _ r => Lbig_cmp_0s k r) n
def bbig_cmp (k : Nat) (a : List Int) (b : List Int) : Option (Int) :=
  if (((((List.length a) : Nat) : Int) != (((List.length b) : Nat) : Int)) = true) then
    if ((decide ((((List.length a) : Nat) : Int) < (((List.length b) : Nat) : Int))) = true) then
      (some (-(1 : Int)))
    else
    (some (1 : Int))
  else
  Option.bind (Lbig_cmp_0 k k a b (IntKind.wrap .i64 ((((List.length a) : Nat) : Int) - (1 : Int)))) fun r5 =>
  eitherK r5
    (fun r5 =>
    (some r5))
    (fun r5 =>
    (some (0 : Int)))
def Fbig_cmp : Nat → List Int → List Int → Option (Int)
  | 0, _, _ => none
  | k + 1, a, b => bbig_cmp k a b
def shbig_cmp : FS := { vs := [.a (.lf (.sl (.int .u32))), .a (.lf (.sl (.int .u32)))], bs := [] }
def rsbig_cmp : List FS := [{ vs := [.a (.lf (.int .i64))], bs := [] }]
def Ibig_cmp (k : Nat) : Inst := ⟨83, shbig_cmp, rsbig_cmp, fun x => Fbig_cmp k x.1 x.2⟩
theorem albig_cmp (k : Nat) : AllI (call cf k) [] := True.intro
def hsbig_cmp_0 : List SS := [{ fr := [(0, .a (.lf (.sl (.int .u32)))), (1, .a (.lf (.sl (.int .u32)))), (5, .a (.lf (.int .i64)))], mem := [], nx := 0 }]
def osbig_cmp_0 : List OS := [⟨none, { fr := [(4, .a (.lf (.int .i64)))], mem := [], nx := 0 }⟩, ⟨some 0, { fr := [], mem := [], nx := 0 }⟩]
def LIbig_cmp_0 (k : Nat) : LInst := ⟨0, hsbig_cmp_0, osbig_cmp_0, fun x => Lbig_cmp_0 k k x.1 x.2.1 x.2.2⟩
theorem anbig_cmp_0 (k : Nat) : LAll (LOk (R := DS OS.D osbig_cmp_0) (fun b _ σ K => LOt Ty (kps 83) 0 b σ K []) cf (call cf k) (kps 83) Try.f83.ntmps k 0) 0 (lb Try.f83 0) :=
  And.intro (And.intro (True.intro) (And.intro (True.intro) (True.intro))) (And.intro (And.intro (True.intro) (And.intro (And.intro (And.intro (True.intro) (And.intro (And.intro (True.intro) (True.intro)) (True.intro))) (And.intro (True.intro) (True.intro))) (True.intro))) (True.intro))
theorem stbig_cmp_0 (k n : Nat) (x : DS SS.D hsbig_cmp_0) : Lbig_cmp_0 k (n + 1) x.1 x.2.1 x.2.2 = encSK SS.enc (fun σ => run2 cf (fun f a b K => COt f a b K []) (fun b _ σ K => LOt Ty (kps 83) 0 b σ K []) Try.f83.ntmps 0 (lb Try.f83 0) σ (nextK Ty (kps 83 0) 0 hsbig_cmp_0 osbig_cmp_0 fun x => Lbig_cmp_0 k n x.1 x.2.1 x.2.2)) hsbig_cmp_0 x := by kernel_rfl
theorem lobig_cmp_0 (k : Nat) : LIOk cf (call cf k) (kps 83) Try.f83.ntmps k 0 0 (lb Try.f83 0) (LIbig_cmp_0 k) :=
  loop_ok (c := cf) (callF := call cf k) (kp := kps 83) (nt := Try.f83.ntmps) (k := k) (p := 0) (b := 0) (x0 := lb Try.f83 0) (hs := hsbig_cmp_0) (os := osbig_cmp_0) (COt_ok (albig_cmp k)) (anbig_cmp_0 k) (fun n x => Lbig_cmp_0 k n x.1 x.2.1 x.2.2) (fun _ => rfl) (stbig_cmp_0 k)
theorem anbig_cmp (k : Nat) : LAll (LOk (R := DS FS.D rsbig_cmp) (fun b _ σ K => LOt Ty (kps 83) 0 b σ K [LIbig_cmp_0 k]) cf (call cf k) (cf.keep 83) Try.f83.ntmps k shbig_cmp.bs.length) 0 (bd Try.f83) :=
  And.intro (True.intro) (And.intro (And.intro (True.intro) (And.intro (And.intro (And.intro (True.intro) (And.intro (And.intro (True.intro) (True.intro)) (True.intro))) (And.intro (True.intro) (True.intro))) (True.intro))) (And.intro (And.intro (True.intro) (LOt_ok (c := cf) (callF := call cf k) (kp := kps 83) (nt := Try.f83.ntmps) (k := k) (p := 0) (b := 0) (x0 := lb Try.f83 0) (l := [LIbig_cmp_0 k]) (And.intro (fun _ => lobig_cmp_0 k) (True.intro)))) (And.intro (True.intro) (True.intro))))
theorem stbig_cmp (k : Nat) (x : shbig_cmp.D) : Fbig_cmp (k + 1) x.1 x.2 = body2 cf (fun f a b K => COt f a b K []) (fun b _ σ K => LOt Ty (kps 83) 0 b σ K [LIbig_cmp_0 k]) 83 Try.f83.ntmps Try.f83.results.toList (bd Try.f83) (shbig_cmp.enc x).1 (shbig_cmp.enc x).2 (putS FS.dec rsbig_cmp) := by kernel_rfl
theorem okbig_cmp : ∀ k, InstOk (call cf k) (Ibig_cmp k)
  | 0 => fun x y e => absurd (show (none : Option _) = some y from e) (by simp)
  | k + 1 => inst_ok (c := cf) (k := k) (f := 83) (fn := Try.f83) (body := bd Try.f83) (sh := shbig_cmp) (os := rsbig_cmp) rfl Try.func83 rfl ⟨rfl, Nat.le_of_ble_eq_true rfl⟩ (COt_ok (albig_cmp k)) (anbig_cmp k) (fun x => Fbig_cmp (k + 1) x.1 x.2) (stbig_cmp k)

/-! shunt/big.sub -/
def Lbig_sub_0s (k : Nat) (rec : List Int → List Int → Nat → Int → Int → Int → List Int → Option (Nat × List Int)) (a : List Int) (b : List Int) (out1 : Nat) (borrow : Int) (x : Int) (x1 : Int) (outs : List Int) : Option (Nat × List Int) :=
  if ((decide (x1 < x)) = true) then
    if ((decide (x1 < (((List.length b) : Nat) : Int))) = true) then
      if ((0 : Int) ≤ x1) then
        Option.bind (b)[(Int.toNat x1)]? fun x2 =>
        if ((0 : Int) ≤ x1) then
          Option.bind (a)[(Int.toNat x1)]? fun x3 =>
          if (((0 : Int) ≤ x1) ∧ (x1 < ((out1 : Nat) : Int))) then
            Option.bind (outs)[(0 + (Int.toNat x1))]? fun x4 =>
            if ((0 : Int) ≤ x1) then
              Option.bind (a)[(Int.toNat x1)]? fun x5 =>
              if ((decide ((IntKind.wrap .u64 x5) < (IntKind.wrap .u64 (borrow + (IntKind.wrap .u64 x2))))) = true) then
                rec a b out1 (1 : Int) x (IntKind.wrap .i64 (x1 + (1 : Int))) (List.set outs (0 + (Int.toNat x1)) (IntKind.wrap .u32 (IntKind.wrap .u64 ((IntKind.wrap .u64 x3) - (IntKind.wrap .u64 (borrow + (IntKind.wrap .u64 x2)))))))
              else
              rec a b out1 (0 : Int) x (IntKind.wrap .i64 (x1 + (1 : Int))) (List.set outs (0 + (Int.toNat x1)) (IntKind.wrap .u32 (IntKind.wrap .u64 ((IntKind.wrap .u64 x3) - (IntKind.wrap .u64 (borrow + (IntKind.wrap .u64 x2)))))))
            else
            none
          else
          none
        else
        none
      else
      none
    else
    if ((0 : Int) ≤ x1) then
      Option.bind (a)[(Int.toNat x1)]? fun x2 =>
      if (((0 : Int) ≤ x1) ∧ (x1 < ((out1 : Nat) : Int))) then
        Option.bind (outs)[(0 + (Int.toNat x1))]? fun x3 =>
        if ((0 : Int) ≤ x1) then
          Option.bind (a)[(Int.toNat x1)]? fun x4 =>
          if ((decide ((IntKind.wrap .u64 x4) < borrow)) = true) then
            rec a b out1 (1 : Int) x (IntKind.wrap .i64 (x1 + (1 : Int))) (List.set outs (0 + (Int.toNat x1)) (IntKind.wrap .u32 (IntKind.wrap .u64 ((IntKind.wrap .u64 x2) - borrow))))
          else
          rec a b out1 (0 : Int) x (IntKind.wrap .i64 (x1 + (1 : Int))) (List.set outs (0 + (Int.toNat x1)) (IntKind.wrap .u32 (IntKind.wrap .u64 ((IntKind.wrap .u64 x2) - borrow))))
        else
        none
      else
      none
    else
    none
  else
  (some (out1, outs))
def Lbig_sub_0 (k n : Nat) : List Int → List Int → Nat → Int → Int → Int → List Int → Option (Nat × List Int) := Nat.rec (fun _ _ _ _ _ _ _ => none) (fun _ r => Lbig_sub_0s k r) n
def bbig_sub (k : Nat) (a : List Int) (b : List Int) : Option (List Int) :=
  if (((0 : Int) ≤ (((List.length a) : Nat) : Int)) ∧ (((((List.length a) : Nat) : Int) ≤ (((List.length a) : Nat) : Int)) ∧ (((((List.length a) : Nat) : Int) * (4 : Int)) ≤ (140737488355328 : Int)))) then
    Option.bind (Lbig_sub_0 k k a b (Int.toNat (((List.length a) : Nat) : Int)) (0 : Int) (((List.length a) : Nat) : Int) (0 : Int) (List.replicate (Int.toNat (((List.length a) : Nat) : Int)) (0 : Int))) fun r6 =>
    if ((0 + r6.1) ≤ (List.length r6.2)) then
      (some (List.take r6.1 r6.2))
    else
    none
  else
  none
def Fbig_sub : Nat → List Int → List Int → Option (List Int)
  | 0, _, _ => none
  | k + 1, a, b => bbig_sub k a b
def shbig_sub : FS := { vs := [.a (.lf (.sl (.int .u32))), .a (.lf (.sl (.int .u32)))], bs := [] }
def rsbig_sub : List FS := [{ vs := [.a (.lf (.sl (.int .u32)))], bs := [] }]
def Ibig_sub (k : Nat) : Inst := ⟨86, shbig_sub, rsbig_sub, fun x => Fbig_sub k x.1 x.2⟩
theorem albig_sub (k : Nat) : AllI (call cf k) [] := True.intro
def hsbig_sub_0 : List SS := [{ fr := [(0, .a (.lf (.sl (.int .u32)))), (1, .a (.lf (.sl (.int .u32)))), (5, .a (.smz 0)), (6, .a (.lf (.int .u64))), (13, .a (.lf (.int .i64))), (14, .a (.lf (.int .i64)))], mem := [(0, some (.arr (.int .u32) 1 64 false))], nx := 1 }]
def osbig_sub_0 : List OS := [⟨some 0, { fr := [(5, .a (.smz 0))], mem := [(0, some (.arr (.int .u32) 1 64 false))], nx := 1 }⟩]
def LIbig_sub_0 (k : Nat) : LInst := ⟨0, hsbig_sub_0, osbig_sub_0, fun x => Lbig_sub_0 k k x.1 x.2.1 x.2.2.1 x.2.2.2.1 x.2.2.2.2.1 x.2.2.2.2.2.1 x.2.2.2.2.2.2⟩
theorem anbig_sub_0 (k : Nat) : LAll (LOk (R := DS OS.D osbig_sub_0) (fun b _ σ K => LOt Ty (kps 86) 0 b σ K []) cf (call cf k) (kps 86) Try.f86.ntmps k 0) 0 (lb Try.f86 0) :=
  And.intro (True.intro) (And.intro (And.intro (True.intro) (True.intro)) (And.intro (And.intro (True.intro) (And.intro (True.intro) (And.intro (And.intro (True.intro) (And.intro (True.intro) (True.intro))) (And.intro (True.intro) (And.intro (True.intro) (And.intro (True.intro) (And.intro (True.intro) (True.intro)))))))) (True.intro)))
theorem stbig_sub_0 (k n : Nat) (x : DS SS.D hsbig_sub_0) : Lbig_sub_0 k (n + 1) x.1 x.2.1 x.2.2.1 x.2.2.2.1 x.2.2.2.2.1 x.2.2.2.2.2.1 x.2.2.2.2.2.2 = encSK SS.enc (fun σ => run2 cf (fun f a b K => COt f a b K []) (fun b _ σ K => LOt Ty (kps 86) 0 b σ K []) Try.f86.ntmps 0 (lb Try.f86 0) σ (nextK Ty (kps 86 0) 0 hsbig_sub_0 osbig_sub_0 fun x => Lbig_sub_0 k n x.1 x.2.1 x.2.2.1 x.2.2.2.1 x.2.2.2.2.1 x.2.2.2.2.2.1 x.2.2.2.2.2.2)) hsbig_sub_0 x := by kernel_rfl
theorem lobig_sub_0 (k : Nat) : LIOk cf (call cf k) (kps 86) Try.f86.ntmps k 0 0 (lb Try.f86 0) (LIbig_sub_0 k) :=
  loop_ok (c := cf) (callF := call cf k) (kp := kps 86) (nt := Try.f86.ntmps) (k := k) (p := 0) (b := 0) (x0 := lb Try.f86 0) (hs := hsbig_sub_0) (os := osbig_sub_0) (COt_ok (albig_sub k)) (anbig_sub_0 k) (fun n x => Lbig_sub_0 k n x.1 x.2.1 x.2.2.1 x.2.2.2.1 x.2.2.2.2.1 x.2.2.2.2.2.1 x.2.2.2.2.2.2) (fun _ => rfl) (stbig_sub_0 k)
theorem anbig_sub (k : Nat) : LAll (LOk (R := DS FS.D rsbig_sub) (fun b _ σ K => LOt Ty (kps 86) 0 b σ K [LIbig_sub_0 k]) cf (call cf k) (cf.keep 86) Try.f86.ntmps k shbig_sub.bs.length) 0 (bd Try.f86) :=
  And.intro (True.intro) (And.intro (True.intro) (And.intro (True.intro) (And.intro (And.intro (True.intro) (LOt_ok (c := cf) (callF := call cf k) (kp := kps 86) (nt := Try.f86.ntmps) (k := k) (p := 0) (b := 0) (x0 := lb Try.f86 0) (l := [LIbig_sub_0 k]) (And.intro (fun _ => lobig_sub_0 k) (True.intro)))) (And.intro (True.intro) (True.intro)))))
theorem stbig_sub (k : Nat) (x : shbig_sub.D) : Fbig_sub (k + 1) x.1 x.2 = body2 cf (fun f a b K => COt f a b K []) (fun b _ σ K => LOt Ty (kps 86) 0 b σ K [LIbig_sub_0 k]) 86 Try.f86.ntmps Try.f86.results.toList (bd Try.f86) (shbig_sub.enc x).1 (shbig_sub.enc x).2 (putS FS.dec rsbig_sub) := by kernel_rfl
theorem okbig_sub : ∀ k, InstOk (call cf k) (Ibig_sub k)
  | 0 => fun x y e => absurd (show (none : Option _) = some y from e) (by simp)
  | k + 1 => inst_ok (c := cf) (k := k) (f := 86) (fn := Try.f86) (body := bd Try.f86) (sh := shbig_sub) (os := rsbig_sub) rfl Try.func86 rfl ⟨rfl, Nat.le_of_ble_eq_true rfl⟩ (COt_ok (albig_sub k)) (anbig_sub k) (fun x => Fbig_sub (k + 1) x.1 x.2) (stbig_sub k)

/-! (*shunt/big.Int).sum -/
def bbig_Int_sum_bot (k : Nat) (yneg : Bool) (y : List Int) (z : Bool) (x0 : Bool) (x1 : List Int) : Option (Bool × List Int × Bool × List Int) :=
  if ((x0 == yneg) = true) then
    Option.bind (Fbig_add k x1 y) fun r5 =>
    Option.bind (Fbig_Int_set_cvg k x0 r5 z) fun r6 =>
    (some (r6.1, r6.2, x0, x1))
  else
  Option.bind (Fbig_cmp k x1 y) fun r5 =>
  if ((decide (r5 ≥ (0 : Int))) = true) then
    Option.bind (Fbig_sub k x1 y) fun r6 =>
    Option.bind (Fbig_Int_set_cvg k x0 r6 z) fun r7 =>
    (some (r7.1, r7.2, x0, x1))
  else
  Option.bind (Fbig_sub k y x1) fun r6 =>
  Option.bind (Fbig_Int_set_cvg k yneg r6 z) fun r7 =>
  (some (r7.1, r7.2, x0, x1))
def Fbig_Int_sum_bot : Nat → Bool → List Int → Bool → Bool → List Int → Option (Bool × List Int × Bool × List Int)
  | 0, _, _, _, _, _ => none
  | k + 1, yneg, y, z, x0, x1 => bbig_Int_sum_bot k yneg y z x0 x1
def shbig_Int_sum_bot : FS := { vs := [.a (.ptr 0 0 0), .a (.ptr 1 0 0), .a (.lf .bool), .a (.lf (.sl (.int .u32)))], bs := [.raw [[.lf .bool, .snil 1 64]] 2 69 true false, .raw [[.lf .bool, .lf (.sl (.int .u32))]] 2 69 true false] }
def rsbig_Int_sum_bot : List FS := [{ vs := [.a (.ptr 0 0 0)], bs := [.raw [[.lf .bool, .lf (.sl (.int .u32))]] 2 69 true false, .raw [[.lf .bool, .lf (.sl (.int .u32))]] 2 69 true false] }]
def Ibig_Int_sum_bot (k : Nat) : Inst := ⟨82, shbig_Int_sum_bot, rsbig_Int_sum_bot, fun x => Fbig_Int_sum_bot k x.1 x.2.1 x.2.2.1 x.2.2.2.1 x.2.2.2.2⟩
theorem albig_Int_sum_bot (k : Nat) : AllI (call cf k) [Ibig_add k, Ibig_Int_set_cvg k, Ibig_cmp k, Ibig_sub k] := And.intro (okbig_add k) (And.intro (okbig_Int_set_cvg k) (And.intro (okbig_cmp k) (And.intro (okbig_sub k) (True.intro))))
theorem anbig_Int_sum_bot (k : Nat) : LAll (LOk (R := DS FS.D rsbig_Int_sum_bot) (fun b _ σ K => LOt Ty (kps 82) 2 b σ K []) cf (call cf k) (cf.keep 82) Try.f82.ntmps k shbig_Int_sum_bot.bs.length) 0 (bd Try.f82) :=
  And.intro (True.intro) (And.intro (And.intro (True.intro) (And.intro (And.intro (True.intro) (True.intro)) (True.intro))) (And.intro (And.intro (True.intro) (And.intro (And.intro (True.intro) (True.intro)) (True.intro))) (And.intro (True.intro) (True.intro))))
theorem stbig_Int_sum_bot (k : Nat) (x : shbig_Int_sum_bot.D) : Fbig_Int_sum_bot (k + 1) x.1 x.2.1 x.2.2.1 x.2.2.2.1 x.2.2.2.2 = body2 cf (fun f a b K => COt f a b K [Ibig_add k, Ibig_Int_set_cvg k, Ibig_cmp k, Ibig_sub k]) (fun b _ σ K => LOt Ty (kps 82) 2 b σ K []) 82 Try.f82.ntmps Try.f82.results.toList (bd Try.f82) (shbig_Int_sum_bot.enc x).1 (shbig_Int_sum_bot.enc x).2 (putS FS.dec rsbig_Int_sum_bot) := by kernel_rfl
theorem okbig_Int_sum_bot : ∀ k, InstOk (call cf k) (Ibig_Int_sum_bot k)
  | 0 => fun x y e => absurd (show (none : Option _) = some y from e) (by simp)
  | k + 1 => inst_ok (c := cf) (k := k) (f := 82) (fn := Try.f82) (body := bd Try.f82) (sh := shbig_Int_sum_bot) (os := rsbig_Int_sum_bot) rfl Try.func82 rfl ⟨rfl, Nat.le_of_ble_eq_true rfl⟩ (COt_ok (albig_Int_sum_bot k)) (anbig_Int_sum_bot k) (fun x => Fbig_Int_sum_bot (k + 1) x.1 x.2.1 x.2.2.1 x.2.2.2.1 x.2.2.2.2) (stbig_Int_sum_bot k)

/-! (*shunt/big.Int).Add -/
def bbig_Int_Add_gsh (k : Nat) (z : Bool) (x0 : Bool) (x1 : List Int) (y0 : Bool) (y1 : List Int) : Option (Bool × List Int × Bool × List Int × Bool × List Int) :=
  Option.bind (Fbig_Int_sum_bot k y0 y1 z x0 x1) fun r5 =>
  (some (r5.1, r5.2.1, r5.2.2.1, r5.2.2.2, y0, y1))
def Fbig_Int_Add_gsh : Nat → Bool → Bool → List Int → Bool → List Int → Option (Bool × List Int × Bool × List Int × Bool × List Int)
  | 0, _, _, _, _, _ => none
  | k + 1, z, x0, x1, y0, y1 => bbig_Int_Add_gsh k z x0 x1 y0 y1
def shbig_Int_Add_gsh : FS := { vs := [.a (.ptr 0 0 0), .a (.ptr 1 0 0), .a (.ptr 2 0 0)], bs := [.raw [[.lf .bool, .snil 1 64]] 2 69 true false, .raw [[.lf .bool, .lf (.sl (.int .u32))]] 2 69 true false, .raw [[.lf .bool, .lf (.sl (.int .u32))]] 2 69 true false] }
def rsbig_Int_Add_gsh : List FS := [{ vs := [.a (.ptr 0 0 0)], bs := [.raw [[.lf .bool, .lf (.sl (.int .u32))]] 2 69 true false, .raw [[.lf .bool, .lf (.sl (.int .u32))]] 2 69 true false, .raw [[.lf .bool, .lf (.sl (.int .u32))]] 2 69 true false] }]
def Ibig_Int_Add_gsh (k : Nat) : Inst := ⟨58, shbig_Int_Add_gsh, rsbig_Int_Add_gsh, fun x => Fbig_Int_Add_gsh k x.1 x.2.1 x.2.2.1 x.2.2.2.1 x.2.2.2.2⟩
theorem albig_Int_Add_gsh (k : Nat) : AllI (call cf k) [Ibig_Int_sum_bot k] := And.intro (okbig_Int_sum_bot k) (True.intro)
theorem anbig_Int_Add_gsh (k : Nat) : LAll (LOk (R := DS FS.D rsbig_Int_Add_gsh) (fun b _ σ K => LOt Ty (kps 58) 3 b σ K []) cf (call cf k) (cf.keep 58) Try.f58.ntmps k shbig_Int_Add_gsh.bs.length) 0 (bd Try.f58) :=
  And.intro (True.intro) (And.intro (True.intro) (True.intro))
theorem stbig_Int_Add_gsh (k : Nat) (x : shbig_Int_Add_gsh.D) : Fbig_Int_Add_gsh (k + 1) x.1 x.2.1 x.2.2.1 x.2.2.2.1 x.2.2.2.2 = body2 cf (fun f a b K => COt f a b K [Ibig_Int_sum_bot k]) (fun b _ σ K => LOt Ty (kps 58) 3 b σ K []) 58 Try.f58.ntmps Try.f58.results.toList (bd Try.f58) (shbig_Int_Add_gsh.enc x).1 (shbig_Int_Add_gsh.enc x).2 (putS FS.dec rsbig_Int_Add_gsh) := by kernel_rfl
theorem okbig_Int_Add_gsh : ∀ k, InstOk (call cf k) (Ibig_Int_Add_gsh k)
  | 0 => fun x y e => absurd (show (none : Option _) = some y from e) (by simp)
  | k + 1 => inst_ok (c := cf) (k := k) (f := 58) (fn := Try.f58) (body := bd Try.f58) (sh := shbig_Int_Add_gsh) (os := rsbig_Int_Add_gsh) rfl Try.func58 rfl ⟨rfl, Nat.le_of_ble_eq_true rfl⟩ (COt_ok (albig_Int_Add_gsh k)) (anbig_Int_Add_gsh k) (fun x => Fbig_Int_Add_gsh (k + 1) x.1 x.2.1 x.2.2.1 x.2.2.2.1 x.2.2.2.2) (stbig_Int_Add_gsh k)

/-! shunt/limb.answer -/
def blimb_answer_awf (k : Nat) (z0 : Bool) (z1 : List Int) : Option (Bool × Nat × Int × Bool × List Int × List Int) :=
  Option.bind (Fwide_Give_awf k z0 z1) fun r6 =>
  if ((decide (((r6.2.1 : Nat) : Int) > (72 : Int))) = true) then
    (some (false, 0, (13 : Int), r6.2.2.1, r6.2.2.2.1, []))
  else
  (some (r6.1, r6.2.1, (0 : Int), r6.2.2.1, r6.2.2.2.1, r6.2.2.2.2))
def Flimb_answer_awf : Nat → Bool → List Int → Option (Bool × Nat × Int × Bool × List Int × List Int)
  | 0, _, _ => none
  | k + 1, z0, z1 => blimb_answer_awf k z0 z1
def shlimb_answer_awf : FS := { vs := [.a (.ptr 0 0 0)], bs := [.raw [[.lf .bool, .lf (.sl (.int .u32))]] 2 69 true false] }
def rslimb_answer_awf : List FS := [{ vs := [.g [.lf .bool, .smz 1], .a (.lf (.int .i64))], bs := [.raw [[.lf .bool, .lf (.sl (.int .u32))]] 2 69 true false, .arr (.int .u32) 1 64 false] }]
def Ilimb_answer_awf (k : Nat) : Inst := ⟨57, shlimb_answer_awf, rslimb_answer_awf, fun x => Flimb_answer_awf k x.1 x.2⟩
theorem allimb_answer_awf (k : Nat) : AllI (call cf k) [Iwide_Give_awf k] := And.intro (okwide_Give_awf k) (True.intro)
theorem anlimb_answer_awf (k : Nat) : LAll (LOk (R := DS FS.D rslimb_answer_awf) (fun b _ σ K => LOt Ty (kps 57) 1 b σ K []) cf (call cf k) (cf.keep 57) Try.f57.ntmps k shlimb_answer_awf.bs.length) 0 (bd Try.f57) :=
  And.intro (True.intro) (And.intro (True.intro) (And.intro (And.intro (True.intro) (And.intro (And.intro (True.intro) (True.intro)) (True.intro))) (And.intro (True.intro) (True.intro))))
theorem stlimb_answer_awf (k : Nat) (x : shlimb_answer_awf.D) : Flimb_answer_awf (k + 1) x.1 x.2 = body2 cf (fun f a b K => COt f a b K [Iwide_Give_awf k]) (fun b _ σ K => LOt Ty (kps 57) 1 b σ K []) 57 Try.f57.ntmps Try.f57.results.toList (bd Try.f57) (shlimb_answer_awf.enc x).1 (shlimb_answer_awf.enc x).2 (putS FS.dec rslimb_answer_awf) := by kernel_rfl
theorem oklimb_answer_awf : ∀ k, InstOk (call cf k) (Ilimb_answer_awf k)
  | 0 => fun x y e => absurd (show (none : Option _) = some y from e) (by simp)
  | k + 1 => inst_ok (c := cf) (k := k) (f := 57) (fn := Try.f57) (body := bd Try.f57) (sh := shlimb_answer_awf) (os := rslimb_answer_awf) rfl Try.func57 rfl ⟨rfl, Nat.le_of_ble_eq_true rfl⟩ (COt_ok (allimb_answer_awf k)) (anlimb_answer_awf k) (fun x => Flimb_answer_awf (k + 1) x.1 x.2) (stlimb_answer_awf k)

/-! shunt/limb.Add -/
def blimb_Add (k : Nat) (a0 : Bool) (a1 : List Int) (b0 : Bool) (b1 : List Int) : Option (Bool × Nat × Int × List Int) :=
  Option.bind (Flimb_both k a0 a1 b0 b1) fun r2 =>
  if ((r2 != (0 : Int)) = true) then
    (some (false, 0, r2, []))
  else
  Option.bind (Fwide_Take k a0 a1) fun r3 =>
  Option.bind (Fwide_Take k b0 b1) fun r4 =>
  Option.bind (Fbig_Int_Add_gsh k false r3.1 r3.2 r4.1 r4.2) fun r5 =>
  Option.bind (Flimb_answer_awf k r5.1 r5.2.1) fun r6 =>
  (some (r6.1, r6.2.1, r6.2.2.1, r6.2.2.2.2.2))
def Flimb_Add : Nat → Bool → List Int → Bool → List Int → Option (Bool × Nat × Int × List Int)
  | 0, _, _, _, _ => none
  | k + 1, a0, a1, b0, b1 => blimb_Add k a0 a1 b0 b1
def shlimb_Add : FS := { vs := [.g [.lf .bool, .lf (.sl (.int .u32))], .g [.lf .bool, .lf (.sl (.int .u32))]], bs := [] }
def rslimb_Add : List FS := [{ vs := [.g [.lf .bool, .smz 0], .a (.lf (.int .i64))], bs := [.arr (.int .u32) 1 64 false] }]
def Ilimb_Add (k : Nat) : Inst := ⟨31, shlimb_Add, rslimb_Add, fun x => Flimb_Add k x.1 x.2.1 x.2.2.1 x.2.2.2⟩
theorem allimb_Add (k : Nat) : AllI (call cf k) [Ilimb_both k, Iwide_Take k, Ibig_Int_Add_gsh k, Ilimb_answer_awf k] := And.intro (oklimb_both k) (And.intro (okwide_Take k) (And.intro (okbig_Int_Add_gsh k) (And.intro (oklimb_answer_awf k) (True.intro))))
theorem anlimb_Add (k : Nat) : LAll (LOk (R := DS FS.D rslimb_Add) (fun b _ σ K => LOt Ty (kps 31) 0 b σ K []) cf (call cf k) (cf.keep 31) Try.f31.ntmps k shlimb_Add.bs.length) 0 (bd Try.f31) :=
  And.intro (True.intro) (And.intro (And.intro (True.intro) (And.intro (True.intro) (And.intro (And.intro (True.intro) (True.intro)) (True.intro)))) (And.intro (True.intro) (True.intro)))
theorem stlimb_Add (k : Nat) (x : shlimb_Add.D) : Flimb_Add (k + 1) x.1 x.2.1 x.2.2.1 x.2.2.2 = body2 cf (fun f a b K => COt f a b K [Ilimb_both k, Iwide_Take k, Ibig_Int_Add_gsh k, Ilimb_answer_awf k]) (fun b _ σ K => LOt Ty (kps 31) 0 b σ K []) 31 Try.f31.ntmps Try.f31.results.toList (bd Try.f31) (shlimb_Add.enc x).1 (shlimb_Add.enc x).2 (putS FS.dec rslimb_Add) := by kernel_rfl
theorem oklimb_Add : ∀ k, InstOk (call cf k) (Ilimb_Add k)
  | 0 => fun x y e => absurd (show (none : Option _) = some y from e) (by simp)
  | k + 1 => inst_ok (c := cf) (k := k) (f := 31) (fn := Try.f31) (body := bd Try.f31) (sh := shlimb_Add) (os := rslimb_Add) rfl Try.func31 rfl ⟨rfl, Nat.le_of_ble_eq_true rfl⟩ (COt_ok (allimb_Add k)) (anlimb_Add k) (fun x => Flimb_Add (k + 1) x.1 x.2.1 x.2.2.1 x.2.2.2) (stlimb_Add k)

/-! shunt/big.short -/
def Lbig_short_0s (k : Nat) (rec : List Int → Int → Nat → Int → Int → List Int → Option (Nat × Int × List Int)) (a : List Int) (d : Int) (q : Nat) (r : Int) (i : Int) (qs : List Int) : Option (Nat × Int × List Int) :=
  if ((decide (i ≥ (0 : Int))) = true) then
    if ((0 : Int) ≤ i) then
      Option.bind (a)[(Int.toNat i)]? fun x2 =>
      if ((IntKind.wrap .u64 d) = (0 : Int)) then
        none
      else
      if (((0 : Int) ≤ i) ∧ (i < ((q : Nat) : Int))) then
        Option.bind (qs)[(0 + (Int.toNat i))]? fun x3 =>
        if ((IntKind.wrap .u64 d) = (0 : Int)) then
          none
        else
        rec a d q (Int.tmod (IntKind.wrap .u64 (((BitVec.toNat ((BitVec.ofInt 64 (IntKind.wrap .u64 (r * (4294967296 : Int)))) ||| (BitVec.ofInt 64 (IntKind.wrap .u64 x2)))) : Nat) : Int)) (IntKind.wrap .u64 d)) (IntKind.wrap .i64 (i - (1 : Int))) (List.set qs (0 + (Int.toNat i)) (IntKind.wrap .u32 (IntKind.wrap .u64 (Int.tdiv (IntKind.wrap .u64 (((BitVec.toNat ((BitVec.ofInt 64 (IntKind.wrap .u64 (r * (4294967296 : Int)))) ||| (BitVec.ofInt 64 (IntKind.wrap .u64 x2)))) : Nat) : Int)) (IntKind.wrap .u64 d)))))
      else
      none
    else
    none
  else
  (some (q, r, qs))
def Lbig_short_0 (k n : Nat) : List Int → Int → Nat → Int → Int → List Int → Option (Nat × Int × List Int) := Nat.rec (fun _ _ _ _ _ _ => none) (fun _ r => Lbig_short_0s k r) n
def bbig_short (k : Nat) (a : List Int) (d : Int) : Option (List Int × Int) :=
  if (((0 : Int) ≤ (((List.length a) : Nat) : Int)) ∧ (((((List.length a) : Nat) : Int) ≤ (((List.length a) : Nat) : Int)) ∧ (((((List.length a) : Nat) : Int) * (4 : Int)) ≤ (140737488355328 : Int)))) then
    Option.bind (Lbig_short_0 k k a d (Int.toNat (((List.length a) : Nat) : Int)) (0 : Int) (IntKind.wrap .i64 ((((List.length a) : Nat) : Int) - (1 : Int))) (List.replicate (Int.toNat (((List.length a) : Nat) : Int)) (0 : Int))) fun r9 =>
    if ((0 + r9.1) ≤ (List.length r9.2.2)) then
      (some ((List.take r9.1 r9.2.2), (IntKind.wrap .u32 r9.2.1)))
    else
    none
  else
  none
def Fbig_short : Nat → List Int → Int → Option (List Int × Int)
  | 0, _, _ => none
  | k + 1, a, d => bbig_short k a d
def shbig_short : FS := { vs := [.a (.lf (.sl (.int .u32))), .a (.lf (.int .u32))], bs := [] }
def rsbig_short : List FS := [{ vs := [.a (.lf (.sl (.int .u32))), .a (.lf (.int .u32))], bs := [] }]
def Ibig_short (k : Nat) : Inst := ⟨81, shbig_short, rsbig_short, fun x => Fbig_short k x.1 x.2⟩
theorem albig_short (k : Nat) : AllI (call cf k) [] := True.intro
def hsbig_short_0 : List SS := [{ fr := [(0, .a (.lf (.sl (.int .u32)))), (1, .a (.lf (.int .u32))), (6, .a (.smz 0)), (7, .a (.lf (.int .u64))), (8, .a (.lf (.int .i64)))], mem := [(0, some (.arr (.int .u32) 1 64 false))], nx := 1 }]
def osbig_short_0 : List OS := [⟨some 0, { fr := [(6, .a (.smz 0)), (7, .a (.lf (.int .u64)))], mem := [(0, some (.arr (.int .u32) 1 64 false))], nx := 1 }⟩]
def LIbig_short_0 (k : Nat) : LInst := ⟨0, hsbig_short_0, osbig_short_0, fun x => Lbig_short_0 k k x.1 x.2.1 x.2.2.1 x.2.2.2.1 x.2.2.2.2.1 x.2.2.2.2.2⟩
theorem anbig_short_0 (k : Nat) : LAll (LOk (R := DS OS.D osbig_short_0) (fun b _ σ K => LOt Ty (kps 81) 0 b σ K []) cf (call cf k) (kps 81) Try.f81.ntmps k 0) 0 (lb Try.f81 0) :=
  And.intro (And.intro (True.intro) (And.intro (True.intro) (True.intro))) (And.intro (And.intro (True.intro) (And.intro (True.intro) (True.intro))) (True.intro))
theorem stbig_short_0 (k n : Nat) (x : DS SS.D hsbig_short_0) : Lbig_short_0 k (n + 1) x.1 x.2.1 x.2.2.1 x.2.2.2.1 x.2.2.2.2.1 x.2.2.2.2.2 = encSK SS.enc (fun σ => run2 cf (fun f a b K => COt f a b K []) (fun b _ σ K => LOt Ty (kps 81) 0 b σ K []) Try.f81.ntmps 0 (lb Try.f81 0) σ (nextK Ty (kps 81 0) 0 hsbig_short_0 osbig_short_0 fun x => Lbig_short_0 k n x.1 x.2.1 x.2.2.1 x.2.2.2.1 x.2.2.2.2.1 x.2.2.2.2.2)) hsbig_short_0 x := by kernel_rfl
theorem lobig_short_0 (k : Nat) : LIOk cf (call cf k) (kps 81) Try.f81.ntmps k 0 0 (lb Try.f81 0) (LIbig_short_0 k) :=
  loop_ok (c := cf) (callF := call cf k) (kp := kps 81) (nt := Try.f81.ntmps) (k := k) (p := 0) (b := 0) (x0 := lb Try.f81 0) (hs := hsbig_short_0) (os := osbig_short_0) (COt_ok (albig_short k)) (anbig_short_0 k) (fun n x => Lbig_short_0 k n x.1 x.2.1 x.2.2.1 x.2.2.2.1 x.2.2.2.2.1 x.2.2.2.2.2) (fun _ => rfl) (stbig_short_0 k)
theorem anbig_short (k : Nat) : LAll (LOk (R := DS FS.D rsbig_short) (fun b _ σ K => LOt Ty (kps 81) 0 b σ K [LIbig_short_0 k]) cf (call cf k) (cf.keep 81) Try.f81.ntmps k shbig_short.bs.length) 0 (bd Try.f81) :=
  And.intro (True.intro) (And.intro (True.intro) (And.intro (True.intro) (And.intro (And.intro (True.intro) (LOt_ok (c := cf) (callF := call cf k) (kp := kps 81) (nt := Try.f81.ntmps) (k := k) (p := 0) (b := 0) (x0 := lb Try.f81 0) (l := [LIbig_short_0 k]) (And.intro (fun _ => lobig_short_0 k) (True.intro)))) (And.intro (True.intro) (True.intro)))))
theorem stbig_short (k : Nat) (x : shbig_short.D) : Fbig_short (k + 1) x.1 x.2 = body2 cf (fun f a b K => COt f a b K []) (fun b _ σ K => LOt Ty (kps 81) 0 b σ K [LIbig_short_0 k]) 81 Try.f81.ntmps Try.f81.results.toList (bd Try.f81) (shbig_short.enc x).1 (shbig_short.enc x).2 (putS FS.dec rsbig_short) := by kernel_rfl
theorem okbig_short : ∀ k, InstOk (call cf k) (Ibig_short k)
  | 0 => fun x y e => absurd (show (none : Option _) = some y from e) (by simp)
  | k + 1 => inst_ok (c := cf) (k := k) (f := 81) (fn := Try.f81) (body := bd Try.f81) (sh := shbig_short) (os := rsbig_short) rfl Try.func81 rfl ⟨rfl, Nat.le_of_ble_eq_true rfl⟩ (COt_ok (albig_short k)) (anbig_short k) (fun x => Fbig_short (k + 1) x.1 x.2) (stbig_short k)

/-! shunt/big.shift -/
def Lbig_shift_0s (k : Nat) (rec : Int → Nat → List Int → Int → Int → List Int → Option (Nat × List Int)) (bits : Int) (out1 : Nat) (x : List Int) (x1 : Int) (x2 : Int) (outs : List Int) : Option (Nat × List Int) :=
  if ((decide (x2 < x1)) = true) then
    if ((0 : Int) ≤ x2) then
      Option.bind (x)[(Int.toNat x2)]? fun x3 =>
      if (bits < (0 : Int)) then
        none
      else
      if (((0 : Int) ≤ x2) ∧ (x2 < ((out1 : Nat) : Int))) then
        Option.bind (outs)[(0 + (Int.toNat x2))]? fun x4 =>
        if (((0 : Int) ≤ x2) ∧ (x2 < ((out1 : Nat) : Int))) then
          Option.bind (outs)[(0 + (Int.toNat x2))]? fun x5 =>
          if (((0 : Int) ≤ (IntKind.wrap .i64 (x2 + (1 : Int)))) ∧ ((IntKind.wrap .i64 (x2 + (1 : Int))) < ((out1 : Nat) : Int))) then
            Option.bind ((List.set outs (0 + (Int.toNat x2)) (IntKind.wrap .u32 (((BitVec.toNat ((BitVec.ofInt 32 x4) ||| (BitVec.ofInt 32 (IntKind.wrap .u32 (IntKind.wrap .u64 ((IntKind.wrap .u64 x3) * ((2 : Int) ^ (min (Int.toNat bits) 64)))))))) : Nat) : Int))))[(0 + (Int.toNat (IntKind.wrap .i64 (x2 + (1 : Int)))))]? fun x6 =>
            rec bits out1 x x1 (IntKind.wrap .i64 (x2 + (1 : Int))) (List.set (List.set outs (0 + (Int.toNat x2)) (IntKind.wrap .u32 (((BitVec.toNat ((BitVec.ofInt 32 x4) ||| (BitVec.ofInt 32 (IntKind.wrap .u32 (IntKind.wrap .u64 ((IntKind.wrap .u64 x3) * ((2 : Int) ^ (min (Int.toNat bits) 64)))))))) : Nat) : Int))) (0 + (Int.toNat (IntKind.wrap .i64 (x2 + (1 : Int))))) (IntKind.wrap .u32 (Int.fdiv (IntKind.wrap .u64 ((IntKind.wrap .u64 x3) * ((2 : Int) ^ (min (Int.toNat bits) 64)))) (4294967296 : Int))))
          else
          none
        else
        none
      else
      none
    else
    none
  else
  (some (out1, outs))
def Lbig_shift_0 (k n : Nat) : Int → Nat → List Int → Int → Int → List Int → Option (Nat × List Int) := Nat.rec (fun _ _ _ _ _ _ => none) (fun _ r => Lbig_shift_0s k r) n
def bbig_shift (k : Nat) (a : List Int) (bits : Int) : Option (Nat × List Int) :=
  if (((0 : Int) ≤ (IntKind.wrap .i64 ((((List.length a) : Nat) : Int) + (1 : Int)))) ∧ (((IntKind.wrap .i64 ((((List.length a) : Nat) : Int) + (1 : Int))) ≤ (IntKind.wrap .i64 ((((List.length a) : Nat) : Int) + (1 : Int)))) ∧ (((IntKind.wrap .i64 ((((List.length a) : Nat) : Int) + (1 : Int))) * (4 : Int)) ≤ (140737488355328 : Int)))) then
    Option.bind (Lbig_shift_0 k k bits (Int.toNat (IntKind.wrap .i64 ((((List.length a) : Nat) : Int) + (1 : Int)))) a (((List.length a) : Nat) : Int) (0 : Int) (List.replicate (Int.toNat (IntKind.wrap .i64 ((((List.length a) : Nat) : Int) + (1 : Int)))) (0 : Int))) fun r10 =>
    (some (r10.1, r10.2))
  else
  none
def Fbig_shift : Nat → List Int → Int → Option (Nat × List Int)
  | 0, _, _ => none
  | k + 1, a, bits => bbig_shift k a bits
def shbig_shift : FS := { vs := [.a (.lf (.sl (.int .u32))), .a (.lf (.int .u64))], bs := [] }
def rsbig_shift : List FS := [{ vs := [.a (.smz 0)], bs := [.arr (.int .u32) 1 64 false] }]
def Ibig_shift (k : Nat) : Inst := ⟨87, shbig_shift, rsbig_shift, fun x => Fbig_shift k x.1 x.2⟩
theorem albig_shift (k : Nat) : AllI (call cf k) [] := True.intro
def hsbig_shift_0 : List SS := [{ fr := [(1, .a (.lf (.int .u64))), (5, .a (.smz 0)), (13, .a (.lf (.sl (.int .u32)))), (14, .a (.lf (.int .i64))), (15, .a (.lf (.int .i64)))], mem := [(0, some (.arr (.int .u32) 1 64 false))], nx := 1 }]
def osbig_shift_0 : List OS := [⟨some 0, { fr := [(5, .a (.smz 0))], mem := [(0, some (.arr (.int .u32) 1 64 false))], nx := 1 }⟩]
def LIbig_shift_0 (k : Nat) : LInst := ⟨0, hsbig_shift_0, osbig_shift_0, fun x => Lbig_shift_0 k k x.1 x.2.1 x.2.2.1 x.2.2.2.1 x.2.2.2.2.1 x.2.2.2.2.2⟩
theorem anbig_shift_0 (k : Nat) : LAll (LOk (R := DS OS.D osbig_shift_0) (fun b _ σ K => LOt Ty (kps 87) 0 b σ K []) cf (call cf k) (kps 87) Try.f87.ntmps k 0) 0 (lb Try.f87 0) :=
  And.intro (True.intro) (And.intro (And.intro (True.intro) (True.intro)) (And.intro (And.intro (True.intro) (And.intro (True.intro) (And.intro (True.intro) (True.intro)))) (True.intro)))
theorem stbig_shift_0 (k n : Nat) (x : DS SS.D hsbig_shift_0) : Lbig_shift_0 k (n + 1) x.1 x.2.1 x.2.2.1 x.2.2.2.1 x.2.2.2.2.1 x.2.2.2.2.2 = encSK SS.enc (fun σ => run2 cf (fun f a b K => COt f a b K []) (fun b _ σ K => LOt Ty (kps 87) 0 b σ K []) Try.f87.ntmps 0 (lb Try.f87 0) σ (nextK Ty (kps 87 0) 0 hsbig_shift_0 osbig_shift_0 fun x => Lbig_shift_0 k n x.1 x.2.1 x.2.2.1 x.2.2.2.1 x.2.2.2.2.1 x.2.2.2.2.2)) hsbig_shift_0 x := by kernel_rfl
theorem lobig_shift_0 (k : Nat) : LIOk cf (call cf k) (kps 87) Try.f87.ntmps k 0 0 (lb Try.f87 0) (LIbig_shift_0 k) :=
  loop_ok (c := cf) (callF := call cf k) (kp := kps 87) (nt := Try.f87.ntmps) (k := k) (p := 0) (b := 0) (x0 := lb Try.f87 0) (hs := hsbig_shift_0) (os := osbig_shift_0) (COt_ok (albig_shift k)) (anbig_shift_0 k) (fun n x => Lbig_shift_0 k n x.1 x.2.1 x.2.2.1 x.2.2.2.1 x.2.2.2.2.1 x.2.2.2.2.2) (fun _ => rfl) (stbig_shift_0 k)
theorem anbig_shift (k : Nat) : LAll (LOk (R := DS FS.D rsbig_shift) (fun b _ σ K => LOt Ty (kps 87) 0 b σ K [LIbig_shift_0 k]) cf (call cf k) (cf.keep 87) Try.f87.ntmps k shbig_shift.bs.length) 0 (bd Try.f87) :=
  And.intro (True.intro) (And.intro (True.intro) (And.intro (And.intro (True.intro) (LOt_ok (c := cf) (callF := call cf k) (kp := kps 87) (nt := Try.f87.ntmps) (k := k) (p := 0) (b := 0) (x0 := lb Try.f87 0) (l := [LIbig_shift_0 k]) (And.intro (fun _ => lobig_shift_0 k) (True.intro)))) (And.intro (True.intro) (True.intro))))
theorem stbig_shift (k : Nat) (x : shbig_shift.D) : Fbig_shift (k + 1) x.1 x.2 = body2 cf (fun f a b K => COt f a b K []) (fun b _ σ K => LOt Ty (kps 87) 0 b σ K [LIbig_shift_0 k]) 87 Try.f87.ntmps Try.f87.results.toList (bd Try.f87) (shbig_shift.enc x).1 (shbig_shift.enc x).2 (putS FS.dec rsbig_shift) := by kernel_rfl
theorem okbig_shift : ∀ k, InstOk (call cf k) (Ibig_shift k)
  | 0 => fun x y e => absurd (show (none : Option _) = some y from e) (by simp)
  | k + 1 => inst_ok (c := cf) (k := k) (f := 87) (fn := Try.f87) (body := bd Try.f87) (sh := shbig_shift) (os := rsbig_shift) rfl Try.func87 rfl ⟨rfl, Nat.le_of_ble_eq_true rfl⟩ (COt_ok (albig_shift k)) (anbig_shift k) (fun x => Fbig_shift (k + 1) x.1 x.2) (stbig_shift k)

/-! shunt/big.take -/
def Lbig_take_zvq_0s (k : Nat) (rec : Nat → Nat → Nat → Int → Int → Int → Int → Int → List Int → List Int → Option (Nat × Nat × Nat × Int × Int × List Int × List Int)) (u0 : Nat) (u1 : Nat) (v : Nat) (d : Int) (carry : Int) (borrow : Int) (x : Int) (x1 : Int) (us : List Int) (vs : List Int) : Option (Nat × Nat × Nat × Int × Int × List Int × List Int) :=
  if ((decide (x1 < x)) = true) then
    if ((decide (x1 < ((v : Nat) : Int))) = true) then
      if (((0 : Int) ≤ x1) ∧ (x1 < ((v : Nat) : Int))) then
        Option.bind (vs)[(0 + (Int.toNat x1))]? fun x5 =>
        if (((0 : Int) ≤ x1) ∧ (x1 < ((u1 : Nat) : Int))) then
          Option.bind (us)[(u0 + (Int.toNat x1))]? fun x6 =>
          if ((decide ((IntKind.wrap .u64 x6) < (IntKind.wrap .u64 ((IntKind.wrap .u64 (((BitVec.toNat ((BitVec.ofInt 64 (IntKind.wrap .u64 (carry + (IntKind.wrap .u64 (d * (IntKind.wrap .u64 x5)))))) &&& (BitVec.ofInt 64 (4294967295 : Int)))) : Nat) : Int)) + borrow)))) = true) then
            if (((0 : Int) ≤ x1) ∧ (x1 < ((u1 : Nat) : Int))) then
              Option.bind (us)[(u0 + (Int.toNat x1))]? fun x7 =>
              if (((0 : Int) ≤ x1) ∧ (x1 < ((u1 : Nat) : Int))) then
                Option.bind (us)[(u0 + (Int.toNat x1))]? fun x8 =>
                rec u0 u1 v d (Int.fdiv (IntKind.wrap .u64 (carry + (IntKind.wrap .u64 (d * (IntKind.wrap .u64 x5))))) (4294967296 : Int)) (1 : Int) x (IntKind.wrap .i64 (x1 + (1 : Int))) (List.set us (u0 + (Int.toNat x1)) (IntKind.wrap .u32 (IntKind.wrap .u64 ((IntKind.wrap .u64 x7) - (IntKind.wrap .u64 ((IntKind.wrap .u64 (((BitVec.toNat ((BitVec.ofInt 64 (IntKind.wrap .u64 (carry + (IntKind.wrap .u64 (d * (IntKind.wrap .u64 x5)))))) &&& (BitVec.ofInt 64 (4294967295 : Int)))) : Nat) : Int)) + borrow)))))) vs
              else
              none
            else
            none
          else
          if (((0 : Int) ≤ x1) ∧ (x1 < ((u1 : Nat) : Int))) then
            Option.bind (us)[(u0 + (Int.toNat x1))]? fun x7 =>
            if (((0 : Int) ≤ x1) ∧ (x1 < ((u1 : Nat) : Int))) then
              Option.bind (us)[(u0 + (Int.toNat x1))]? fun x8 =>
              rec u0 u1 v d (Int.fdiv (IntKind.wrap .u64 (carry + (IntKind.wrap .u64 (d * (IntKind.wrap .u64 x5))))) (4294967296 : Int)) (0 : Int) x (IntKind.wrap .i64 (x1 + (1 : Int))) (List.set us (u0 + (Int.toNat x1)) (IntKind.wrap .u32 (IntKind.wrap .u64 ((IntKind.wrap .u64 x7) - (IntKind.wrap .u64 ((IntKind.wrap .u64 (((BitVec.toNat ((BitVec.ofInt 64 (IntKind.wrap .u64 (carry + (IntKind.wrap .u64 (d * (IntKind.wrap .u64 x5)))))) &&& (BitVec.ofInt 64 (4294967295 : Int)))) : Nat) : Int)) + borrow)))))) vs
            else
            none
          else
          none
        else
        none
      else
      none
    else
    if (((0 : Int) ≤ x1) ∧ (x1 < ((u1 : Nat) : Int))) then
      Option.bind (us)[(u0 + (Int.toNat x1))]? fun x5 =>
      if ((decide ((IntKind.wrap .u64 x5) < (IntKind.wrap .u64 ((IntKind.wrap .u64 (((BitVec.toNat ((BitVec.ofInt 64 carry) &&& (BitVec.ofInt 64 (4294967295 : Int)))) : Nat) : Int)) + borrow)))) = true) then
        if (((0 : Int) ≤ x1) ∧ (x1 < ((u1 : Nat) : Int))) then
          Option.bind (us)[(u0 + (Int.toNat x1))]? fun x6 =>
          if (((0 : Int) ≤ x1) ∧ (x1 < ((u1 : Nat) : Int))) then
            Option.bind (us)[(u0 + (Int.toNat x1))]? fun x7 =>
            rec u0 u1 v d (Int.fdiv carry (4294967296 : Int)) (1 : Int) x (IntKind.wrap .i64 (x1 + (1 : Int))) (List.set us (u0 + (Int.toNat x1)) (IntKind.wrap .u32 (IntKind.wrap .u64 ((IntKind.wrap .u64 x6) - (IntKind.wrap .u64 ((IntKind.wrap .u64 (((BitVec.toNat ((BitVec.ofInt 64 carry) &&& (BitVec.ofInt 64 (4294967295 : Int)))) : Nat) : Int)) + borrow)))))) vs
          else
          none
        else
        none
      else
      if (((0 : Int) ≤ x1) ∧ (x1 < ((u1 : Nat) : Int))) then
        Option.bind (us)[(u0 + (Int.toNat x1))]? fun x6 =>
        if (((0 : Int) ≤ x1) ∧ (x1 < ((u1 : Nat) : Int))) then
          Option.bind (us)[(u0 + (Int.toNat x1))]? fun x7 =>
          rec u0 u1 v d (Int.fdiv carry (4294967296 : Int)) (0 : Int) x (IntKind.wrap .i64 (x1 + (1 : Int))) (List.set us (u0 + (Int.toNat x1)) (IntKind.wrap .u32 (IntKind.wrap .u64 ((IntKind.wrap .u64 x6) - (IntKind.wrap .u64 ((IntKind.wrap .u64 (((BitVec.toNat ((BitVec.ofInt 64 carry) &&& (BitVec.ofInt 64 (4294967295 : Int)))) : Nat) : Int)) + borrow)))))) vs
        else
        none
      else
      none
    else
    none
  else
  (some (u0, u1, v, d, borrow, us, vs))
def Lbig_take_zvq_0 (k n : Nat) : Nat → Nat → Nat → Int → Int → Int → Int → Int → List Int → List Int → Option (Nat × Nat × Nat × Int × Int × List Int × List Int) := Nat.rec (fun _ _ _ _ _ _ _ _ _ _ => none) (fun _ r => Lbig_take_zvq_0s k r) n
def Lbig_take_zvq_2s (k : Nat) (rec : Nat → Nat → Nat → Int → Int → Int → Int → List Int → List Int → Option (Int × List Int × List Int)) (u0 : Nat) (u1 : Nat) (v : Nat) (d : Int) (carry : Int) (x : Int) (x1 : Int) (us : List Int) (vs : List Int) : Option (Int × List Int × List Int) :=
  if ((decide (x1 < x)) = true) then
    if (((0 : Int) ≤ x1) ∧ (x1 < ((u1 : Nat) : Int))) then
      Option.bind (us)[(u0 + (Int.toNat x1))]? fun x5 =>
      if ((decide (x1 < ((v : Nat) : Int))) = true) then
        if (((0 : Int) ≤ x1) ∧ (x1 < ((v : Nat) : Int))) then
          Option.bind (vs)[(0 + (Int.toNat x1))]? fun x6 =>
          if (((0 : Int) ≤ x1) ∧ (x1 < ((u1 : Nat) : Int))) then
            Option.bind (us)[(u0 + (Int.toNat x1))]? fun x7 =>
            rec u0 u1 v d (Int.fdiv (IntKind.wrap .u64 ((IntKind.wrap .u64 ((IntKind.wrap .u64 x5) + carry)) + (IntKind.wrap .u64 x6))) (4294967296 : Int)) x (IntKind.wrap .i64 (x1 + (1 : Int))) (List.set us (u0 + (Int.toNat x1)) (IntKind.wrap .u32 (IntKind.wrap .u64 ((IntKind.wrap .u64 ((IntKind.wrap .u64 x5) + carry)) + (IntKind.wrap .u64 x6))))) vs
          else
          none
        else
        none
      else
      if (((0 : Int) ≤ x1) ∧ (x1 < ((u1 : Nat) : Int))) then
        Option.bind (us)[(u0 + (Int.toNat x1))]? fun x6 =>
        rec u0 u1 v d (Int.fdiv (IntKind.wrap .u64 ((IntKind.wrap .u64 x5) + carry)) (4294967296 : Int)) x (IntKind.wrap .i64 (x1 + (1 : Int))) (List.set us (u0 + (Int.toNat x1)) (IntKind.wrap .u32 (IntKind.wrap .u64 ((IntKind.wrap .u64 x5) + carry)))) vs
      else
      none
    else
    none
  else
  (some (d, us, vs))
def Lbig_take_zvq_2 (k n : Nat) : Nat → Nat → Nat → Int → Int → Int → Int → List Int → List Int → Option (Int × List Int × List Int) := Nat.rec (fun _ _ _ _ _ _ _ _ _ => none) (fun _ r => Lbig_take_zvq_2s k r) n
def bbig_take_zvq (k : Nat) (u0 : Nat) (u1 : Nat) (v : Nat) (d : Int) (us : List Int) (vs : List Int) : Option (Int × List Int × List Int) :=
  Option.bind (Lbig_take_zvq_0 k k u0 u1 v d (0 : Int) (0 : Int) ((u1 : Nat) : Int) (0 : Int) us vs) fun r13 =>
  if ((r13.2.2.2.2.1 == (0 : Int)) = true) then
    (some ((IntKind.wrap .u32 r13.2.2.2.1), r13.2.2.2.2.2.1, r13.2.2.2.2.2.2))
  else
  Option.bind (Lbig_take_zvq_2 k k r13.1 r13.2.1 r13.2.2.1 r13.2.2.2.1 (0 : Int) ((r13.2.1 : Nat) : Int) (0 : Int) r13.2.2.2.2.2.1 r13.2.2.2.2.2.2) fun r14 =>
  (some ((IntKind.wrap .u32 (IntKind.wrap .u64 (r14.1 - (1 : Int)))), r14.2.1, r14.2.2))
def Fbig_take_zvq : Nat → Nat → Nat → Nat → Int → List Int → List Int → Option (Int × List Int × List Int)
  | 0, _, _, _, _, _, _ => none
  | k + 1, u0, u1, v, d, us, vs => bbig_take_zvq k u0 u1 v d us vs
def shbig_take_zvq : FS := { vs := [.a (.sms 0), .a (.smz 1), .a (.lf (.int .u64))], bs := [.arr (.int .u32) 1 64 false, .arr (.int .u32) 1 64 false] }
def rsbig_take_zvq : List FS := [{ vs := [.a (.lf (.int .u32))], bs := [.arr (.int .u32) 1 64 false, .arr (.int .u32) 1 64 false] }]
def Ibig_take_zvq (k : Nat) : Inst := ⟨88, shbig_take_zvq, rsbig_take_zvq, fun x => Fbig_take_zvq k x.1 x.2.1 x.2.2.1 x.2.2.2.1 x.2.2.2.2.1 x.2.2.2.2.2⟩
theorem albig_take_zvq (k : Nat) : AllI (call cf k) [] := True.intro
def hsbig_take_zvq_0 : List SS := [{ fr := [(0, .a (.sms 0)), (1, .a (.smz 1)), (2, .a (.lf (.int .u64))), (7, .a (.lf (.int .u64))), (8, .a (.lf (.int .u64))), (14, .a (.lf (.int .i64))), (15, .a (.lf (.int .i64)))], mem := [(0, some (.arr (.int .u32) 1 64 false)), (1, some (.arr (.int .u32) 1 64 false))], nx := 2 }]
def osbig_take_zvq_0 : List OS := [⟨some 0, { fr := [(0, .a (.sms 0)), (1, .a (.smz 1)), (2, .a (.lf (.int .u64))), (8, .a (.lf (.int .u64)))], mem := [(0, some (.arr (.int .u32) 1 64 false)), (1, some (.arr (.int .u32) 1 64 false))], nx := 2 }⟩]
def LIbig_take_zvq_0 (k : Nat) : LInst := ⟨0, hsbig_take_zvq_0, osbig_take_zvq_0, fun x => Lbig_take_zvq_0 k k x.1 x.2.1 x.2.2.1 x.2.2.2.1 x.2.2.2.2.1 x.2.2.2.2.2.1 x.2.2.2.2.2.2.1 x.2.2.2.2.2.2.2.1 x.2.2.2.2.2.2.2.2.1 x.2.2.2.2.2.2.2.2.2⟩
theorem anbig_take_zvq_0 (k : Nat) : LAll (LOk (R := DS OS.D osbig_take_zvq_0) (fun b _ σ K => LOt Ty (kps 88) 2 b σ K []) cf (call cf k) (kps 88) Try.f88.ntmps k 2) 0 (lb Try.f88 0) :=
  And.intro (True.intro) (And.intro (And.intro (True.intro) (True.intro)) (And.intro (And.intro (True.intro) (And.intro (And.intro (True.intro) (And.intro (True.intro) (True.intro))) (And.intro (True.intro) (And.intro (True.intro) (And.intro (And.intro (True.intro) (And.intro (True.intro) (True.intro))) (And.intro (True.intro) (True.intro))))))) (True.intro)))
theorem stbig_take_zvq_0 (k n : Nat) (x : DS SS.D hsbig_take_zvq_0) : Lbig_take_zvq_0 k (n + 1) x.1 x.2.1 x.2.2.1 x.2.2.2.1 x.2.2.2.2.1 x.2.2.2.2.2.1 x.2.2.2.2.2.2.1 x.2.2.2.2.2.2.2.1 x.2.2.2.2.2.2.2.2.1 x.2.2.2.2.2.2.2.2.2 = encSK SS.enc (fun σ => run2 cf (fun f a b K => COt f a b K []) (fun b _ σ K => LOt Ty (kps 88) 2 b σ K []) Try.f88.ntmps 0 (lb Try.f88 0) σ (nextK Ty (kps 88 0) 2 hsbig_take_zvq_0 osbig_take_zvq_0 fun x => Lbig_take_zvq_0 k n x.1 x.2.1 x.2.2.1 x.2.2.2.1 x.2.2.2.2.1 x.2.2.2.2.2.1 x.2.2.2.2.2.2.1 x.2.2.2.2.2.2.2.1 x.2.2.2.2.2.2.2.2.1 x.2.2.2.2.2.2.2.2.2)) hsbig_take_zvq_0 x := by kernel_rfl
theorem lobig_take_zvq_0 (k : Nat) : LIOk cf (call cf k) (kps 88) Try.f88.ntmps k 2 0 (lb Try.f88 0) (LIbig_take_zvq_0 k) :=
  loop_ok (c := cf) (callF := call cf k) (kp := kps 88) (nt := Try.f88.ntmps) (k := k) (p := 2) (b := 0) (x0 := lb Try.f88 0) (hs := hsbig_take_zvq_0) (os := osbig_take_zvq_0) (COt_ok (albig_take_zvq k)) (anbig_take_zvq_0 k) (fun n x => Lbig_take_zvq_0 k n x.1 x.2.1 x.2.2.1 x.2.2.2.1 x.2.2.2.2.1 x.2.2.2.2.2.1 x.2.2.2.2.2.2.1 x.2.2.2.2.2.2.2.1 x.2.2.2.2.2.2.2.2.1 x.2.2.2.2.2.2.2.2.2) (fun _ => rfl) (stbig_take_zvq_0 k)
def hsbig_take_zvq_2 : List SS := [{ fr := [(0, .a (.sms 0)), (1, .a (.smz 1)), (2, .a (.lf (.int .u64))), (7, .a (.lf (.int .u64))), (61, .a (.lf (.int .i64))), (62, .a (.lf (.int .i64)))], mem := [(0, some (.arr (.int .u32) 1 64 false)), (1, some (.arr (.int .u32) 1 64 false))], nx := 2 }]
def osbig_take_zvq_2 : List OS := [⟨some 2, { fr := [(2, .a (.lf (.int .u64)))], mem := [(0, some (.arr (.int .u32) 1 64 false)), (1, some (.arr (.int .u32) 1 64 false))], nx := 2 }⟩]
def LIbig_take_zvq_2 (k : Nat) : LInst := ⟨2, hsbig_take_zvq_2, osbig_take_zvq_2, fun x => Lbig_take_zvq_2 k k x.1 x.2.1 x.2.2.1 x.2.2.2.1 x.2.2.2.2.1 x.2.2.2.2.2.1 x.2.2.2.2.2.2.1 x.2.2.2.2.2.2.2.1 x.2.2.2.2.2.2.2.2⟩
theorem anbig_take_zvq_2 (k : Nat) : LAll (LOk (R := DS OS.D osbig_take_zvq_2) (fun b _ σ K => LOt Ty (kps 88) 2 b σ K [LIbig_take_zvq_0 k]) cf (call cf k) (kps 88) Try.f88.ntmps k 2) 2 (lb Try.f88 1) :=
  And.intro (True.intro) (And.intro (And.intro (True.intro) (True.intro)) (And.intro (And.intro (True.intro) (And.intro (True.intro) (And.intro (And.intro (True.intro) (And.intro (True.intro) (True.intro))) (And.intro (True.intro) (True.intro))))) (True.intro)))
theorem stbig_take_zvq_2 (k n : Nat) (x : DS SS.D hsbig_take_zvq_2) : Lbig_take_zvq_2 k (n + 1) x.1 x.2.1 x.2.2.1 x.2.2.2.1 x.2.2.2.2.1 x.2.2.2.2.2.1 x.2.2.2.2.2.2.1 x.2.2.2.2.2.2.2.1 x.2.2.2.2.2.2.2.2 = encSK SS.enc (fun σ => run2 cf (fun f a b K => COt f a b K []) (fun b _ σ K => LOt Ty (kps 88) 2 b σ K [LIbig_take_zvq_0 k]) Try.f88.ntmps 2 (lb Try.f88 1) σ (nextK Ty (kps 88 2) 2 hsbig_take_zvq_2 osbig_take_zvq_2 fun x => Lbig_take_zvq_2 k n x.1 x.2.1 x.2.2.1 x.2.2.2.1 x.2.2.2.2.1 x.2.2.2.2.2.1 x.2.2.2.2.2.2.1 x.2.2.2.2.2.2.2.1 x.2.2.2.2.2.2.2.2)) hsbig_take_zvq_2 x := by kernel_rfl
theorem lobig_take_zvq_2 (k : Nat) : LIOk cf (call cf k) (kps 88) Try.f88.ntmps k 2 2 (lb Try.f88 1) (LIbig_take_zvq_2 k) :=
  loop_ok (c := cf) (callF := call cf k) (kp := kps 88) (nt := Try.f88.ntmps) (k := k) (p := 2) (b := 2) (x0 := lb Try.f88 1) (hs := hsbig_take_zvq_2) (os := osbig_take_zvq_2) (COt_ok (albig_take_zvq k)) (anbig_take_zvq_2 k) (fun n x => Lbig_take_zvq_2 k n x.1 x.2.1 x.2.2.1 x.2.2.2.1 x.2.2.2.2.1 x.2.2.2.2.2.1 x.2.2.2.2.2.2.1 x.2.2.2.2.2.2.2.1 x.2.2.2.2.2.2.2.2) (fun _ => rfl) (stbig_take_zvq_2 k)
theorem anbig_take_zvq (k : Nat) : LAll (LOk (R := DS FS.D rsbig_take_zvq) (fun b _ σ K => LOt Ty (kps 88) 2 b σ K [LIbig_take_zvq_0 k, LIbig_take_zvq_2 k]) cf (call cf k) (cf.keep 88) Try.f88.ntmps k shbig_take_zvq.bs.length) 0 (bd Try.f88) :=
  And.intro (True.intro) (And.intro (True.intro) (And.intro (And.intro (True.intro) (LOt_ok (c := cf) (callF := call cf k) (kp := kps 88) (nt := Try.f88.ntmps) (k := k) (p := 2) (b := 0) (x0 := lb Try.f88 0) (l := [LIbig_take_zvq_0 k, LIbig_take_zvq_2 k]) (And.intro (fun _ => lobig_take_zvq_0 k) (And.intro (fun h => absurd (show (2 : Nat) = 0 from h) (by decide)) (True.intro))))) (And.intro (And.intro (True.intro) (And.intro (And.intro (True.intro) (True.intro)) (True.intro))) (And.intro (True.intro) (And.intro (And.intro (True.intro) (LOt_ok (c := cf) (callF := call cf k) (kp := kps 88) (nt := Try.f88.ntmps) (k := k) (p := 2) (b := 2) (x0 := lb Try.f88 1) (l := [LIbig_take_zvq_0 k, LIbig_take_zvq_2 k]) (And.intro (fun h => absurd (show (0 : Nat) = 2 from h) (by decide)) (And.intro (fun _ => lobig_take_zvq_2 k) (True.intro))))) (And.intro (True.intro) (True.intro)))))))
theorem stbig_take_zvq (k : Nat) (x : shbig_take_zvq.D) : Fbig_take_zvq (k + 1) x.1 x.2.1 x.2.2.1 x.2.2.2.1 x.2.2.2.2.1 x.2.2.2.2.2 = body2 cf (fun f a b K => COt f a b K []) (fun b _ σ K => LOt Ty (kps 88) 2 b σ K [LIbig_take_zvq_0 k, LIbig_take_zvq_2 k]) 88 Try.f88.ntmps Try.f88.results.toList (bd Try.f88) (shbig_take_zvq.enc x).1 (shbig_take_zvq.enc x).2 (putS FS.dec rsbig_take_zvq) := by kernel_rfl
theorem okbig_take_zvq : ∀ k, InstOk (call cf k) (Ibig_take_zvq k)
  | 0 => fun x y e => absurd (show (none : Option _) = some y from e) (by simp)
  | k + 1 => inst_ok (c := cf) (k := k) (f := 88) (fn := Try.f88) (body := bd Try.f88) (sh := shbig_take_zvq) (os := rsbig_take_zvq) rfl Try.func88 rfl ⟨rfl, Nat.le_of_ble_eq_true rfl⟩ (COt_ok (albig_take_zvq k)) (anbig_take_zvq k) (fun x => Fbig_take_zvq (k + 1) x.1 x.2.1 x.2.2.1 x.2.2.2.1 x.2.2.2.2.1 x.2.2.2.2.2) (stbig_take_zvq k)

/-! shunt/big.long -/
def Lbig_long_0s (k : Nat) (rec : List Int → List Int → Int → Option (List Int × List Int × Int)) (a : List Int) (b : List Int) (bits : Int) : Option (List Int × List Int × Int) :=
  if ((0 : Int) ≤ (IntKind.wrap .i64 ((((List.length b) : Nat) : Int) - (1 : Int)))) then
    Option.bind (b)[(Int.toNat (IntKind.wrap .i64 ((((List.length b) : Nat) : Int) - (1 : Int))))]? fun x =>
    if (bits < (0 : Int)) then
      none
    else
    if (((Int.fdiv (IntKind.wrap .u32 (x * ((2 : Int) ^ (min (Int.toNat bits) 32)))) (2147483648 : Int)) == (0 : Int)) = true) then
      rec a b (IntKind.wrap .u64 (bits + (1 : Int)))
    else
    (some (a, b, bits))
  else
  none
def Lbig_long_0 (k n : Nat) : List Int → List Int → Int → Option (List Int × List Int × Int) := Nat.rec (fun _ _ _ => none) (fun _ r => Lbig_long_0s k r) n
def Lbig_long_4s (k : Nat) (rec : Nat → Int → Int → Nat → Nat → Int → Int → Int → List Int → List Int → List Int → Option (Nat × Int × Int × Nat × Nat × Int × Int × List Int × List Int × List Int)) (q : Nat) (bits : Int) (n : Int) (u : Nat) (v : Nat) (j : Int) (d : Int) (rest : Int) (qs : List Int) (us : List Int) (vs : List Int) : Option (Nat × Int × Int × Nat × Nat × Int × Int × List Int × List Int × List Int) :=
  if ((decide (d > (4294967295 : Int))) = false) then
    if ((decide (rest ≤ (4294967295 : Int))) = true) then
      if (((0 : Int) ≤ (IntKind.wrap .i64 (n - (2 : Int)))) ∧ ((IntKind.wrap .i64 (n - (2 : Int))) < ((v : Nat) : Int))) then
        Option.bind (vs)[(0 + (Int.toNat (IntKind.wrap .i64 (n - (2 : Int)))))]? fun x5 =>
        if (((0 : Int) ≤ (IntKind.wrap .i64 ((IntKind.wrap .i64 (j + n)) - (2 : Int)))) ∧ ((IntKind.wrap .i64 ((IntKind.wrap .i64 (j + n)) - (2 : Int))) < ((u : Nat) : Int))) then
          Option.bind (us)[(0 + (Int.toNat (IntKind.wrap .i64 ((IntKind.wrap .i64 (j + n)) - (2 : Int)))))]? fun x6 =>
          if ((decide ((IntKind.wrap .u64 (d * (IntKind.wrap .u64 x5))) > (IntKind.wrap .u64 (((BitVec.toNat ((BitVec.ofInt 64 (IntKind.wrap .u64 (rest * (4294967296 : Int)))) ||| (BitVec.ofInt 64 (IntKind.wrap .u64 x6)))) : Nat) : Int)))) = true) then
            if (((0 : Int) ≤ (IntKind.wrap .i64 (n - (1 : Int)))) ∧ ((IntKind.wrap .i64 (n - (1 : Int))) < ((v : Nat) : Int))) then
              Option.bind (vs)[(0 + (Int.toNat (IntKind.wrap .i64 (n - (1 : Int)))))]? fun x7 =>
              if ((decide ((IntKind.wrap .u64 (rest + (IntKind.wrap .u64 x7))) > (4294967295 : Int))) = true) then
                (some (q, bits, n, u, v, j, (IntKind.wrap .u64 (d - (1 : Int))), qs, us, vs))
              else
              rec q bits n u v j (IntKind.wrap .u64 (d - (1 : Int))) (IntKind.wrap .u64 (rest + (IntKind.wrap .u64 x7))) qs us vs
            else
            none
          else
          (some (q, bits, n, u, v, j, d, qs, us, vs))
        else
        none
      else
      none
    else
    (some (q, bits, n, u, v, j, d, qs, us, vs))
  else
  if (((0 : Int) ≤ (IntKind.wrap .i64 (n - (1 : Int)))) ∧ ((IntKind.wrap .i64 (n - (1 : Int))) < ((v : Nat) : Int))) then
    Option.bind (vs)[(0 + (Int.toNat (IntKind.wrap .i64 (n - (1 : Int)))))]? fun x5 =>
    if ((decide ((IntKind.wrap .u64 (rest + (IntKind.wrap .u64 x5))) > (4294967295 : Int))) = true) then
      (some (q, bits, n, u, v, j, (IntKind.wrap .u64 (d - (1 : Int))), qs, us, vs))
    else
    rec q bits n u v j (IntKind.wrap .u64 (d - (1 : Int))) (IntKind.wrap .u64 (rest + (IntKind.wrap .u64 x5))) qs us vs
  else
  none
def Lbig_long_4 (k n : Nat) : Nat → Int → Int → Nat → Nat → Int → Int → Int → List Int → List Int → List Int → Option (Nat × Int × Int × Nat × Nat × Int × Int × List Int × List Int × List Int) := Nat.rec (fun _ _ _ _ _ _ _ _ _ _ _ => none) (fun _ r => Lbig_long_4s k r) n
def Lbig_long_2s (k : Nat) (rec : Nat → Int → Int → Nat → Nat → Int → List Int → List Int → List Int → Option (Nat × Int × Int × Nat × List Int × List Int × List Int)) (q : Nat) (bits : Int) (n : Int) (u : Nat) (v : Nat) (j : Int) (qs : List Int) (us : List Int) (vs : List Int) : Option (Nat × Int × Int × Nat × List Int × List Int × List Int) :=
  if ((decide (j ≥ (0 : Int))) = true) then
    if (((0 : Int) ≤ (IntKind.wrap .i64 (j + n))) ∧ ((IntKind.wrap .i64 (j + n)) < ((u : Nat) : Int))) then
      Option.bind (us)[(0 + (Int.toNat (IntKind.wrap .i64 (j + n))))]? fun x =>
      if (((0 : Int) ≤ (IntKind.wrap .i64 ((IntKind.wrap .i64 (j + n)) - (1 : Int)))) ∧ ((IntKind.wrap .i64 ((IntKind.wrap .i64 (j + n)) - (1 : Int))) < ((u : Nat) : Int))) then
        Option.bind (us)[(0 + (Int.toNat (IntKind.wrap .i64 ((IntKind.wrap .i64 (j + n)) - (1 : Int)))))]? fun x2 =>
        if (((0 : Int) ≤ (IntKind.wrap .i64 (n - (1 : Int)))) ∧ ((IntKind.wrap .i64 (n - (1 : Int))) < ((v : Nat) : Int))) then
          Option.bind (vs)[(0 + (Int.toNat (IntKind.wrap .i64 (n - (1 : Int)))))]? fun x3 =>
          if ((IntKind.wrap .u64 x3) = (0 : Int)) then
            none
          else
          if (((0 : Int) ≤ (IntKind.wrap .i64 (n - (1 : Int)))) ∧ ((IntKind.wrap .i64 (n - (1 : Int))) < ((v : Nat) : Int))) then
            Option.bind (vs)[(0 + (Int.toNat (IntKind.wrap .i64 (n - (1 : Int)))))]? fun x4 =>
            if ((IntKind.wrap .u64 x4) = (0 : Int)) then
              none
            else
            Option.bind (Lbig_long_4 k k q bits n u v j (IntKind.wrap .u64 (Int.tdiv (IntKind.wrap .u64 (((BitVec.toNat ((BitVec.ofInt 64 (IntKind.wrap .u64 ((IntKind.wrap .u64 x) * (4294967296 : Int)))) ||| (BitVec.ofInt 64 (IntKind.wrap .u64 x2)))) : Nat) : Int)) (IntKind.wrap .u64 x3))) (Int.tmod (IntKind.wrap .u64 (((BitVec.toNat ((BitVec.ofInt 64 (IntKind.wrap .u64 ((IntKind.wrap .u64 x) * (4294967296 : Int)))) ||| (BitVec.ofInt 64 (IntKind.wrap .u64 x2)))) : Nat) : Int)) (IntKind.wrap .u64 x4)) qs us vs) fun r12 =>
            if (((0 : Int) ≤ r12.2.2.2.2.2.1) ∧ ((r12.2.2.2.2.2.1 ≤ (IntKind.wrap .i64 ((IntKind.wrap .i64 (r12.2.2.2.2.2.1 + r12.2.2.1)) + (1 : Int)))) ∧ (((0 + (Int.toNat (IntKind.wrap .i64 ((IntKind.wrap .i64 (r12.2.2.2.2.2.1 + r12.2.2.1)) + (1 : Int))))) ≤ (List.length r12.2.2.2.2.2.2.2.2.1)) ∧ ((r12.2.2.2.2.2.1 < (IntKind.wrap .i64 ((IntKind.wrap .i64 (r12.2.2.2.2.2.1 + r12.2.2.1)) + (1 : Int)))) ∨ (false = true))))) then
              Option.bind (Fbig_take_zvq k (0 + (Int.toNat r12.2.2.2.2.2.1)) ((Int.toNat (IntKind.wrap .i64 ((IntKind.wrap .i64 (r12.2.2.2.2.2.1 + r12.2.2.1)) + (1 : Int)))) - (Int.toNat r12.2.2.2.2.2.1)) r12.2.2.2.2.1 r12.2.2.2.2.2.2.1 r12.2.2.2.2.2.2.2.2.1 r12.2.2.2.2.2.2.2.2.2) fun r13 =>
              if (((0 : Int) ≤ r12.2.2.2.2.2.1) ∧ (r12.2.2.2.2.2.1 < ((r12.1 : Nat) : Int))) then
                Option.bind (r12.2.2.2.2.2.2.2.1)[(0 + (Int.toNat r12.2.2.2.2.2.1))]? fun x5 =>
                rec r12.1 r12.2.1 r12.2.2.1 r12.2.2.2.1 r12.2.2.2.2.1 (IntKind.wrap .i64 (r12.2.2.2.2.2.1 - (1 : Int))) (List.set r12.2.2.2.2.2.2.2.1 (0 + (Int.toNat r12.2.2.2.2.2.1)) r13.1) r13.2.1 r13.2.2
              else
              none
            else
            none
          else
          none
        else
        none
      else
      none
    else
    none
  else
  (some (q, bits, n, u, qs, us, vs))
def Lbig_long_2 (k n : Nat) : Nat → Int → Int → Nat → Nat → Int → List Int → List Int → List Int → Option (Nat × Int × Int × Nat × List Int × List Int × List Int) := Nat.rec (fun _ _ _ _ _ _ _ _ _ => none) (fun _ r => Lbig_long_2s k r) n
def Lbig_long_6s (k : Nat) (rec : Nat → Nat → Int → Nat → Int → Int → List Int → List Int → List Int → Option (Nat × Nat × List Int × List Int × List Int)) (q : Nat) (r : Nat) (bits : Int) (u : Nat) (x : Int) (x1 : Int) (qs : List Int) (rs : List Int) (us : List Int) : Option (Nat × Nat × List Int × List Int × List Int) :=
  if ((decide (x1 < x)) = true) then
    if (((0 : Int) ≤ x1) ∧ (x1 < ((u : Nat) : Int))) then
      Option.bind (us)[(0 + (Int.toNat x1))]? fun x2 =>
      if (bits < (0 : Int)) then
        none
      else
      if (((0 : Int) ≤ (IntKind.wrap .i64 (x1 + (1 : Int)))) ∧ ((IntKind.wrap .i64 (x1 + (1 : Int))) < ((u : Nat) : Int))) then
        Option.bind (us)[(0 + (Int.toNat (IntKind.wrap .i64 (x1 + (1 : Int)))))]? fun x3 =>
        if ((IntKind.wrap .u64 ((32 : Int) - bits)) < (0 : Int)) then
          none
        else
        if (((0 : Int) ≤ x1) ∧ (x1 < ((r : Nat) : Int))) then
          Option.bind (rs)[(0 + (Int.toNat x1))]? fun x4 =>
          rec q r bits u x (IntKind.wrap .i64 (x1 + (1 : Int))) qs (List.set rs (0 + (Int.toNat x1)) (IntKind.wrap .u32 (((BitVec.toNat ((BitVec.ofInt 32 (Int.fdiv x2 ((2 : Int) ^ (min (Int.toNat bits) 32)))) ||| (BitVec.ofInt 32 (IntKind.wrap .u32 (IntKind.wrap .u64 ((IntKind.wrap .u64 x3) * ((2 : Int) ^ (min (Int.toNat (IntKind.wrap .u64 ((32 : Int) - bits))) 64)))))))) : Nat) : Int))) us
        else
        none
      else
      none
    else
    none
  else
  (some (q, r, qs, rs, us))
def Lbig_long_6 (k n : Nat) : Nat → Nat → Int → Nat → Int → Int → List Int → List Int → List Int → Option (Nat × Nat × List Int × List Int × List Int) := Nat.rec (fun _ _ _ _ _ _ _ _ _ => none) (fun _ r => Lbig_long_6s k r) n
def bbig_long (k : Nat) (a : List Int) (b : List Int) : Option (List Int × List Int) :=
  Option.bind (Lbig_long_0 k k a b (0 : Int)) fun r9 =>
  Option.bind (Fbig_shift k r9.1 r9.2.2) fun r10 =>
  Option.bind (Fbig_shift k r9.2.1 r9.2.2) fun r11 =>
  if (((0 : Int) ≤ (0 : Int)) ∧ (((0 : Int) ≤ (((List.length r9.2.1) : Nat) : Int)) ∧ (((0 + (Int.toNat (((List.length r9.2.1) : Nat) : Int))) ≤ (List.length r11.2)) ∧ (((0 : Int) < (((List.length r9.2.1) : Nat) : Int)) ∨ (true = true))))) then
    if (((0 : Int) ≤ (IntKind.wrap .i64 (((r10.1 : Nat) : Int) - (((List.length r9.2.1) : Nat) : Int)))) ∧ (((IntKind.wrap .i64 (((r10.1 : Nat) : Int) - (((List.length r9.2.1) : Nat) : Int))) ≤ (IntKind.wrap .i64 (((r10.1 : Nat) : Int) - (((List.length r9.2.1) : Nat) : Int)))) ∧ (((IntKind.wrap .i64 (((r10.1 : Nat) : Int) - (((List.length r9.2.1) : Nat) : Int))) * (4 : Int)) ≤ (140737488355328 : Int)))) then
      Option.bind (Lbig_long_2 k k (Int.toNat (IntKind.wrap .i64 (((r10.1 : Nat) : Int) - (((List.length r9.2.1) : Nat) : Int)))) r9.2.2 (((List.length r9.2.1) : Nat) : Int) r10.1 (Int.toNat (((List.length r9.2.1) : Nat) : Int)) (IntKind.wrap .i64 ((IntKind.wrap .i64 (((r10.1 : Nat) : Int) - (((List.length r9.2.1) : Nat) : Int))) - (1 : Int))) (List.replicate (Int.toNat (IntKind.wrap .i64 (((r10.1 : Nat) : Int) - (((List.length r9.2.1) : Nat) : Int)))) (0 : Int)) r10.2 r11.2) fun r12 =>
      if (((0 : Int) ≤ r12.2.2.1) ∧ ((r12.2.2.1 ≤ r12.2.2.1) ∧ ((r12.2.2.1 * (4 : Int)) ≤ (140737488355328 : Int)))) then
        Option.bind (Lbig_long_6 k k r12.1 (Int.toNat r12.2.2.1) r12.2.1 r12.2.2.2.1 r12.2.2.1 (0 : Int) r12.2.2.2.2.1 (List.replicate (Int.toNat r12.2.2.1) (0 : Int)) r12.2.2.2.2.2.1) fun r13 =>
        if ((0 + r13.1) ≤ (List.length r13.2.2.1)) then
          if ((0 + r13.2.1) ≤ (List.length r13.2.2.2.1)) then
            (some ((List.take r13.1 r13.2.2.1), (List.take r13.2.1 r13.2.2.2.1)))
          else
          none
        else
        none
      else
      none
    else
    none
  else
  none
def Fbig_long : Nat → List Int → List Int → Option (List Int × List Int)
  | 0, _, _ => none
  | k + 1, a, b => bbig_long k a b
def shbig_long : FS := { vs := [.a (.lf (.sl (.int .u32))), .a (.lf (.sl (.int .u32)))], bs := [] }
def rsbig_long : List FS := [{ vs := [.a (.lf (.sl (.int .u32))), .a (.lf (.sl (.int .u32)))], bs := [] }]
def Ibig_long (k : Nat) : Inst := ⟨84, shbig_long, rsbig_long, fun x => Fbig_long k x.1 x.2⟩
theorem albig_long (k : Nat) : AllI (call cf k) [Ibig_shift k, Ibig_take_zvq k] := And.intro (okbig_shift k) (And.intro (okbig_take_zvq k) (True.intro))
def hsbig_long_0 : List SS := [{ fr := [(0, .a (.lf (.sl (.int .u32)))), (1, .a (.lf (.sl (.int .u32)))), (6, .a (.lf (.int .u64)))], mem := [], nx := 0 }]
def osbig_long_0 : List OS := [⟨some 0, { fr := [(0, .a (.lf (.sl (.int .u32)))), (1, .a (.lf (.sl (.int .u32)))), (6, .a (.lf (.int .u64)))], mem := [], nx := 0 }⟩]
def LIbig_long_0 (k : Nat) : LInst := ⟨0, hsbig_long_0, osbig_long_0, fun x => Lbig_long_0 k k x.1 x.2.1 x.2.2⟩
theorem anbig_long_0 (k : Nat) : LAll (LOk (R := DS OS.D osbig_long_0) (fun b _ σ K => LOt Ty (kps 84) 0 b σ K []) cf (call cf k) (kps 84) Try.f84.ntmps k 0) 0 (lb Try.f84 0) :=
  And.intro (And.intro (True.intro) (And.intro (True.intro) (True.intro))) (True.intro)
theorem stbig_long_0 (k n : Nat) (x : DS SS.D hsbig_long_0) : Lbig_long_0 k (n + 1) x.1 x.2.1 x.2.2 = encSK SS.enc (fun σ => run2 cf (fun f a b K => COt f a b K [Ibig_shift k, Ibig_take_zvq k]) (fun b _ σ K => LOt Ty (kps 84) 0 b σ K []) Try.f84.ntmps 0 (lb Try.f84 0) σ (nextK Ty (kps 84 0) 0 hsbig_long_0 osbig_long_0 fun x => Lbig_long_0 k n x.1 x.2.1 x.2.2)) hsbig_long_0 x := by kernel_rfl
theorem lobig_long_0 (k : Nat) : LIOk cf (call cf k) (kps 84) Try.f84.ntmps k 0 0 (lb Try.f84 0) (LIbig_long_0 k) :=
  loop_ok (c := cf) (callF := call cf k) (kp := kps 84) (nt := Try.f84.ntmps) (k := k) (p := 0) (b := 0) (x0 := lb Try.f84 0) (hs := hsbig_long_0) (os := osbig_long_0) (COt_ok (albig_long k)) (anbig_long_0 k) (fun n x => Lbig_long_0 k n x.1 x.2.1 x.2.2) (fun _ => rfl) (stbig_long_0 k)
def hsbig_long_4 : List SS := [{ fr := [(4, .a (.smz 0)), (6, .a (.lf (.int .u64))), (7, .a (.lf (.int .i64))), (8, .a (.smz 1)), (9, .a (.smz 2)), (10, .a (.lf (.int .i64))), (12, .a (.lf (.int .u64))), (13, .a (.lf (.int .u64)))], mem := [(0, some (.arr (.int .u32) 1 64 false)), (1, some (.arr (.int .u32) 1 64 false)), (2, some (.arr (.int .u32) 1 64 false))], nx := 3 }]
def osbig_long_4 : List OS := [⟨some 4, { fr := [(4, .a (.smz 0)), (6, .a (.lf (.int .u64))), (7, .a (.lf (.int .i64))), (8, .a (.smz 1)), (9, .a (.smz 2)), (10, .a (.lf (.int .i64))), (12, .a (.lf (.int .u64)))], mem := [(0, some (.arr (.int .u32) 1 64 false)), (1, some (.arr (.int .u32) 1 64 false)), (2, some (.arr (.int .u32) 1 64 false))], nx := 3 }⟩]
def LIbig_long_4 (k : Nat) : LInst := ⟨4, hsbig_long_4, osbig_long_4, fun x => Lbig_long_4 k k x.1 x.2.1 x.2.2.1 x.2.2.2.1 x.2.2.2.2.1 x.2.2.2.2.2.1 x.2.2.2.2.2.2.1 x.2.2.2.2.2.2.2.1 x.2.2.2.2.2.2.2.2.1 x.2.2.2.2.2.2.2.2.2.1 x.2.2.2.2.2.2.2.2.2.2⟩
theorem anbig_long_4 (k : Nat) : LAll (LOk (R := DS OS.D osbig_long_4) (fun b _ σ K => LOt Ty (kps 84) 0 b σ K [LIbig_long_0 k]) cf (call cf k) (kps 84) Try.f84.ntmps k 0) 4 (lb Try.f84 2) :=
  And.intro (And.intro (True.intro) (And.intro (True.intro) (True.intro))) (And.intro (True.intro) (And.intro (True.intro) (And.intro (True.intro) (And.intro (True.intro) (True.intro)))))
theorem stbig_long_4 (k n : Nat) (x : DS SS.D hsbig_long_4) : Lbig_long_4 k (n + 1) x.1 x.2.1 x.2.2.1 x.2.2.2.1 x.2.2.2.2.1 x.2.2.2.2.2.1 x.2.2.2.2.2.2.1 x.2.2.2.2.2.2.2.1 x.2.2.2.2.2.2.2.2.1 x.2.2.2.2.2.2.2.2.2.1 x.2.2.2.2.2.2.2.2.2.2 = encSK SS.enc (fun σ => run2 cf (fun f a b K => COt f a b K [Ibig_shift k, Ibig_take_zvq k]) (fun b _ σ K => LOt Ty (kps 84) 0 b σ K [LIbig_long_0 k]) Try.f84.ntmps 4 (lb Try.f84 2) σ (nextK Ty (kps 84 4) 0 hsbig_long_4 osbig_long_4 fun x => Lbig_long_4 k n x.1 x.2.1 x.2.2.1 x.2.2.2.1 x.2.2.2.2.1 x.2.2.2.2.2.1 x.2.2.2.2.2.2.1 x.2.2.2.2.2.2.2.1 x.2.2.2.2.2.2.2.2.1 x.2.2.2.2.2.2.2.2.2.1 x.2.2.2.2.2.2.2.2.2.2)) hsbig_long_4 x := by kernel_rfl
theorem lobig_long_4 (k : Nat) : LIOk cf (call cf k) (kps 84) Try.f84.ntmps k 0 4 (lb Try.f84 2) (LIbig_long_4 k) :=
  loop_ok (c := cf) (callF := call cf k) (kp := kps 84) (nt := Try.f84.ntmps) (k := k) (p := 0) (b := 4) (x0 := lb Try.f84 2) (hs := hsbig_long_4) (os := osbig_long_4) (COt_ok (albig_long k)) (anbig_long_4 k) (fun n x => Lbig_long_4 k n x.1 x.2.1 x.2.2.1 x.2.2.2.1 x.2.2.2.2.1 x.2.2.2.2.2.1 x.2.2.2.2.2.2.1 x.2.2.2.2.2.2.2.1 x.2.2.2.2.2.2.2.2.1 x.2.2.2.2.2.2.2.2.2.1 x.2.2.2.2.2.2.2.2.2.2) (fun _ => rfl) (stbig_long_4 k)
def hsbig_long_2 : List SS := [{ fr := [(4, .a (.smz 0)), (6, .a (.lf (.int .u64))), (7, .a (.lf (.int .i64))), (8, .a (.smz 1)), (9, .a (.smz 2)), (10, .a (.lf (.int .i64)))], mem := [(0, some (.arr (.int .u32) 1 64 false)), (1, some (.arr (.int .u32) 1 64 false)), (2, some (.arr (.int .u32) 1 64 false))], nx := 3 }]
def osbig_long_2 : List OS := [⟨some 2, { fr := [(4, .a (.smz 0)), (6, .a (.lf (.int .u64))), (7, .a (.lf (.int .i64))), (8, .a (.smz 1))], mem := [(0, some (.arr (.int .u32) 1 64 false)), (1, some (.arr (.int .u32) 1 64 false)), (2, some (.arr (.int .u32) 1 64 false))], nx := 3 }⟩]
def LIbig_long_2 (k : Nat) : LInst := ⟨2, hsbig_long_2, osbig_long_2, fun x => Lbig_long_2 k k x.1 x.2.1 x.2.2.1 x.2.2.2.1 x.2.2.2.2.1 x.2.2.2.2.2.1 x.2.2.2.2.2.2.1 x.2.2.2.2.2.2.2.1 x.2.2.2.2.2.2.2.2⟩
theorem anbig_long_2 (k : Nat) : LAll (LOk (R := DS OS.D osbig_long_2) (fun b _ σ K => LOt Ty (kps 84) 0 b σ K [LIbig_long_0 k, LIbig_long_4 k]) cf (call cf k) (kps 84) Try.f84.ntmps k 0) 2 (lb Try.f84 1) :=
  And.intro (And.intro (True.intro) (And.intro (True.intro) (True.intro))) (And.intro (And.intro (True.intro) (And.intro (True.intro) (And.intro (LOt_ok (c := cf) (callF := call cf k) (kp := kps 84) (nt := Try.f84.ntmps) (k := k) (p := 0) (b := 4) (x0 := lb Try.f84 2) (l := [LIbig_long_0 k, LIbig_long_4 k]) (And.intro (fun h => absurd (show (0 : Nat) = 4 from h) (by decide)) (And.intro (fun _ => lobig_long_4 k) (True.intro)))) (True.intro)))) (True.intro))
theorem stbig_long_2 (k n : Nat) (x : DS SS.D hsbig_long_2) : Lbig_long_2 k (n + 1) x.1 x.2.1 x.2.2.1 x.2.2.2.1 x.2.2.2.2.1 x.2.2.2.2.2.1 x.2.2.2.2.2.2.1 x.2.2.2.2.2.2.2.1 x.2.2.2.2.2.2.2.2 = encSK SS.enc (fun σ => run2 cf (fun f a b K => COt f a b K [Ibig_shift k, Ibig_take_zvq k]) (fun b _ σ K => LOt Ty (kps 84) 0 b σ K [LIbig_long_0 k, LIbig_long_4 k]) Try.f84.ntmps 2 (lb Try.f84 1) σ (nextK Ty (kps 84 2) 0 hsbig_long_2 osbig_long_2 fun x => Lbig_long_2 k n x.1 x.2.1 x.2.2.1 x.2.2.2.1 x.2.2.2.2.1 x.2.2.2.2.2.1 x.2.2.2.2.2.2.1 x.2.2.2.2.2.2.2.1 x.2.2.2.2.2.2.2.2)) hsbig_long_2 x := by kernel_rfl
theorem lobig_long_2 (k : Nat) : LIOk cf (call cf k) (kps 84) Try.f84.ntmps k 0 2 (lb Try.f84 1) (LIbig_long_2 k) :=
  loop_ok (c := cf) (callF := call cf k) (kp := kps 84) (nt := Try.f84.ntmps) (k := k) (p := 0) (b := 2) (x0 := lb Try.f84 1) (hs := hsbig_long_2) (os := osbig_long_2) (COt_ok (albig_long k)) (anbig_long_2 k) (fun n x => Lbig_long_2 k n x.1 x.2.1 x.2.2.1 x.2.2.2.1 x.2.2.2.2.1 x.2.2.2.2.2.1 x.2.2.2.2.2.2.1 x.2.2.2.2.2.2.2.1 x.2.2.2.2.2.2.2.2) (fun _ => rfl) (stbig_long_2 k)
def hsbig_long_6 : List SS := [{ fr := [(4, .a (.smz 0)), (5, .a (.smz 1)), (6, .a (.lf (.int .u64))), (8, .a (.smz 2)), (139, .a (.lf (.int .i64))), (140, .a (.lf (.int .i64)))], mem := [(0, some (.arr (.int .u32) 1 64 false)), (1, some (.arr (.int .u32) 1 64 false)), (2, some (.arr (.int .u32) 1 64 false))], nx := 3 }]
def osbig_long_6 : List OS := [⟨some 6, { fr := [(4, .a (.smz 0)), (5, .a (.smz 1))], mem := [(0, some (.arr (.int .u32) 1 64 false)), (1, some (.arr (.int .u32) 1 64 false)), (2, some (.arr (.int .u32) 1 64 false))], nx := 3 }⟩]
def LIbig_long_6 (k : Nat) : LInst := ⟨6, hsbig_long_6, osbig_long_6, fun x => Lbig_long_6 k k x.1 x.2.1 x.2.2.1 x.2.2.2.1 x.2.2.2.2.1 x.2.2.2.2.2.1 x.2.2.2.2.2.2.1 x.2.2.2.2.2.2.2.1 x.2.2.2.2.2.2.2.2⟩
theorem anbig_long_6 (k : Nat) : LAll (LOk (R := DS OS.D osbig_long_6) (fun b _ σ K => LOt Ty (kps 84) 0 b σ K [LIbig_long_0 k, LIbig_long_4 k, LIbig_long_2 k]) cf (call cf k) (kps 84) Try.f84.ntmps k 0) 6 (lb Try.f84 3) :=
  And.intro (True.intro) (And.intro (And.intro (True.intro) (True.intro)) (And.intro (And.intro (True.intro) (True.intro)) (True.intro)))
theorem stbig_long_6 (k n : Nat) (x : DS SS.D hsbig_long_6) : Lbig_long_6 k (n + 1) x.1 x.2.1 x.2.2.1 x.2.2.2.1 x.2.2.2.2.1 x.2.2.2.2.2.1 x.2.2.2.2.2.2.1 x.2.2.2.2.2.2.2.1 x.2.2.2.2.2.2.2.2 = encSK SS.enc (fun σ => run2 cf (fun f a b K => COt f a b K [Ibig_shift k, Ibig_take_zvq k]) (fun b _ σ K => LOt Ty (kps 84) 0 b σ K [LIbig_long_0 k, LIbig_long_4 k, LIbig_long_2 k]) Try.f84.ntmps 6 (lb Try.f84 3) σ (nextK Ty (kps 84 6) 0 hsbig_long_6 osbig_long_6 fun x => Lbig_long_6 k n x.1 x.2.1 x.2.2.1 x.2.2.2.1 x.2.2.2.2.1 x.2.2.2.2.2.1 x.2.2.2.2.2.2.1 x.2.2.2.2.2.2.2.1 x.2.2.2.2.2.2.2.2)) hsbig_long_6 x := by kernel_rfl
theorem lobig_long_6 (k : Nat) : LIOk cf (call cf k) (kps 84) Try.f84.ntmps k 0 6 (lb Try.f84 3) (LIbig_long_6 k) :=
  loop_ok (c := cf) (callF := call cf k) (kp := kps 84) (nt := Try.f84.ntmps) (k := k) (p := 0) (b := 6) (x0 := lb Try.f84 3) (hs := hsbig_long_6) (os := osbig_long_6) (COt_ok (albig_long k)) (anbig_long_6 k) (fun n x => Lbig_long_6 k n x.1 x.2.1 x.2.2.1 x.2.2.2.1 x.2.2.2.2.1 x.2.2.2.2.2.1 x.2.2.2.2.2.2.1 x.2.2.2.2.2.2.2.1 x.2.2.2.2.2.2.2.2) (fun _ => rfl) (stbig_long_6 k)
theorem anbig_long (k : Nat) : LAll (LOk (R := DS FS.D rsbig_long) (fun b _ σ K => LOt Ty (kps 84) 0 b σ K [LIbig_long_0 k, LIbig_long_4 k, LIbig_long_2 k, LIbig_long_6 k]) cf (call cf k) (cf.keep 84) Try.f84.ntmps k shbig_long.bs.length) 0 (bd Try.f84) :=
  And.intro (True.intro) (And.intro (True.intro) (And.intro (LOt_ok (c := cf) (callF := call cf k) (kp := kps 84) (nt := Try.f84.ntmps) (k := k) (p := 0) (b := 0) (x0 := lb Try.f84 0) (l := [LIbig_long_0 k, LIbig_long_4 k, LIbig_long_2 k, LIbig_long_6 k]) (And.intro (fun _ => lobig_long_0 k) (And.intro (fun h => absurd (show (4 : Nat) = 0 from h) (by decide)) (And.intro (fun h => absurd (show (2 : Nat) = 0 from h) (by decide)) (And.intro (fun h => absurd (show (6 : Nat) = 0 from h) (by decide)) (True.intro)))))) (And.intro (True.intro) (And.intro (True.intro) (And.intro (True.intro) (And.intro (And.intro (True.intro) (LOt_ok (c := cf) (callF := call cf k) (kp := kps 84) (nt := Try.f84.ntmps) (k := k) (p := 0) (b := 2) (x0 := lb Try.f84 1) (l := [LIbig_long_0 k, LIbig_long_4 k, LIbig_long_2 k, LIbig_long_6 k]) (And.intro (fun h => absurd (show (0 : Nat) = 2 from h) (by decide)) (And.intro (fun h => absurd (show (4 : Nat) = 2 from h) (by decide)) (And.intro (fun _ => lobig_long_2 k) (And.intro (fun h => absurd (show (6 : Nat) = 2 from h) (by decide)) (True.intro))))))) (And.intro (True.intro) (And.intro (And.intro (True.intro) (LOt_ok (c := cf) (callF := call cf k) (kp := kps 84) (nt := Try.f84.ntmps) (k := k) (p := 0) (b := 6) (x0 := lb Try.f84 3) (l := [LIbig_long_0 k, LIbig_long_4 k, LIbig_long_2 k, LIbig_long_6 k]) (And.intro (fun h => absurd (show (0 : Nat) = 6 from h) (by decide)) (And.intro (fun h => absurd (show (4 : Nat) = 6 from h) (by decide)) (And.intro (fun h => absurd (show (2 : Nat) = 6 from h) (by decide)) (And.intro (fun _ => lobig_long_6 k) (True.intro))))))) (And.intro (True.intro) (True.intro))))))))))
theorem stbig_long (k : Nat) (x : shbig_long.D) : Fbig_long (k + 1) x.1 x.2 = body2 cf (fun f a b K => COt f a b K [Ibig_shift k, Ibig_take_zvq k]) (fun b _ σ K => LOt Ty (kps 84) 0 b σ K [LIbig_long_0 k, LIbig_long_4 k, LIbig_long_2 k, LIbig_long_6 k]) 84 Try.f84.ntmps Try.f84.results.toList (bd Try.f84) (shbig_long.enc x).1 (shbig_long.enc x).2 (putS FS.dec rsbig_long) := by kernel_rfl
theorem okbig_long : ∀ k, InstOk (call cf k) (Ibig_long k)
  | 0 => fun x y e => absurd (show (none : Option _) = some y from e) (by simp)
  | k + 1 => inst_ok (c := cf) (k := k) (f := 84) (fn := Try.f84) (body := bd Try.f84) (sh := shbig_long) (os := rsbig_long) rfl Try.func84 rfl ⟨rfl, Nat.le_of_ble_eq_true rfl⟩ (COt_ok (albig_long k)) (anbig_long k) (fun x => Fbig_long (k + 1) x.1 x.2) (stbig_long k)

/-! shunt/big.divide -/
def bbig_divide (k : Nat) (a : List Int) (b : List Int) : Option (List Int × List Int) :=
  Option.bind (Fbig_cmp k a b) fun r8 =>
  if ((decide (r8 < (0 : Int))) = true) then
    (some ([], a))
  else
  if (((((List.length b) : Nat) : Int) == (1 : Int)) = true) then
    Option.bind (b)[0]? fun x =>
    Option.bind (Fbig_short k a x) fun r9 =>
    (some (r9.1, (List.take 1 (r9.2 :: []))))
  else
  Option.bind (Fbig_long k a b) fun r9 =>
  (some (r9.1, r9.2))
def Fbig_divide : Nat → List Int → List Int → Option (List Int × List Int)
  | 0, _, _ => none
  | k + 1, a, b => bbig_divide k a b
def shbig_divide : FS := { vs := [.a (.lf (.sl (.int .u32))), .a (.lf (.sl (.int .u32)))], bs := [] }
def rsbig_divide : List FS := [{ vs := [.a (.lf (.sl (.int .u32))), .a (.lf (.sl (.int .u32)))], bs := [] }]
def Ibig_divide (k : Nat) : Inst := ⟨66, shbig_divide, rsbig_divide, fun x => Fbig_divide k x.1 x.2⟩
theorem albig_divide (k : Nat) : AllI (call cf k) [Ibig_cmp k, Ibig_short k, Ibig_long k] := And.intro (okbig_cmp k) (And.intro (okbig_short k) (And.intro (okbig_long k) (True.intro)))
theorem anbig_divide (k : Nat) : LAll (LOk (R := DS FS.D rsbig_divide) (fun b _ σ K => LOt Ty (kps 66) 0 b σ K []) cf (call cf k) (cf.keep 66) Try.f66.ntmps k shbig_divide.bs.length) 0 (bd Try.f66) :=
  And.intro (True.intro) (And.intro (And.intro (True.intro) (And.intro (And.intro (True.intro) (True.intro)) (And.intro (True.intro) (And.intro (And.intro (True.intro) (And.intro (True.intro) (True.intro))) (True.intro))))) (And.intro (True.intro) (True.intro)))
theorem stbig_divide (k : Nat) (x : shbig_divide.D) : Fbig_divide (k + 1) x.1 x.2 = body2 cf (fun f a b K => COt f a b K [Ibig_cmp k, Ibig_short k, Ibig_long k]) (fun b _ σ K => LOt Ty (kps 66) 0 b σ K []) 66 Try.f66.ntmps Try.f66.results.toList (bd Try.f66) (shbig_divide.enc x).1 (shbig_divide.enc x).2 (putS FS.dec rsbig_divide) := by kernel_rfl
theorem okbig_divide : ∀ k, InstOk (call cf k) (Ibig_divide k)
  | 0 => fun x y e => absurd (show (none : Option _) = some y from e) (by simp)
  | k + 1 => inst_ok (c := cf) (k := k) (f := 66) (fn := Try.f66) (body := bd Try.f66) (sh := shbig_divide) (os := rsbig_divide) rfl Try.func66 rfl ⟨rfl, Nat.le_of_ble_eq_true rfl⟩ (COt_ok (albig_divide k)) (anbig_divide k) (fun x => Fbig_divide (k + 1) x.1 x.2) (stbig_divide k)

/-! (*shunt/big.Int).QuoRem -/
def bbig_Int_QuoRem_gsh (k : Nat) (z : Bool) (x0 : Bool) (x1 : List Int) (y0 : Bool) (y1 : List Int) (r : Bool) : Option (Bool × List Int × Bool × List Int × Bool × List Int × Bool × List Int) :=
  Option.bind (Fbig_divide k x1 y1) fun r8 =>
  Option.bind (Fbig_Int_set_cvg k x0 r8.2 r) fun r9 =>
  Option.bind (Fbig_Int_set_cvg k (!(x0 == y0)) r8.1 z) fun r10 =>
  (some (r10.1, r10.2, x0, x1, y0, y1, r9.1, r9.2))
def Fbig_Int_QuoRem_gsh : Nat → Bool → Bool → List Int → Bool → List Int → Bool → Option (Bool × List Int × Bool × List Int × Bool × List Int × Bool × List Int)
  | 0, _, _, _, _, _, _ => none
  | k + 1, z, x0, x1, y0, y1, r => bbig_Int_QuoRem_gsh k z x0 x1 y0 y1 r
def shbig_Int_QuoRem_gsh : FS := { vs := [.a (.ptr 0 0 0), .a (.ptr 1 0 0), .a (.ptr 2 0 0), .a (.ptr 3 0 0)], bs := [.raw [[.lf .bool, .snil 1 64]] 2 69 true false, .raw [[.lf .bool, .lf (.sl (.int .u32))]] 2 69 true false, .raw [[.lf .bool, .lf (.sl (.int .u32))]] 2 69 true false, .raw [[.lf .bool, .snil 1 64]] 2 69 true false] }
def rsbig_Int_QuoRem_gsh : List FS := [{ vs := [.a (.ptr 0 0 0), .a (.ptr 3 0 0)], bs := [.raw [[.lf .bool, .lf (.sl (.int .u32))]] 2 69 true false, .raw [[.lf .bool, .lf (.sl (.int .u32))]] 2 69 true false, .raw [[.lf .bool, .lf (.sl (.int .u32))]] 2 69 true false, .raw [[.lf .bool, .lf (.sl (.int .u32))]] 2 69 true false] }]
def Ibig_Int_QuoRem_gsh (k : Nat) : Inst := ⟨39, shbig_Int_QuoRem_gsh, rsbig_Int_QuoRem_gsh, fun x => Fbig_Int_QuoRem_gsh k x.1 x.2.1 x.2.2.1 x.2.2.2.1 x.2.2.2.2.1 x.2.2.2.2.2⟩
theorem albig_Int_QuoRem_gsh (k : Nat) : AllI (call cf k) [Ibig_divide k, Ibig_Int_set_cvg k] := And.intro (okbig_divide k) (And.intro (okbig_Int_set_cvg k) (True.intro))
theorem anbig_Int_QuoRem_gsh (k : Nat) : LAll (LOk (R := DS FS.D rsbig_Int_QuoRem_gsh) (fun b _ σ K => LOt Ty (kps 39) 4 b σ K []) cf (call cf k) (cf.keep 39) Try.f39.ntmps k shbig_Int_QuoRem_gsh.bs.length) 0 (bd Try.f39) :=
  And.intro (True.intro) (And.intro (True.intro) (And.intro (True.intro) (And.intro (True.intro) (And.intro (True.intro) (True.intro)))))
theorem stbig_Int_QuoRem_gsh (k : Nat) (x : shbig_Int_QuoRem_gsh.D) : Fbig_Int_QuoRem_gsh (k + 1) x.1 x.2.1 x.2.2.1 x.2.2.2.1 x.2.2.2.2.1 x.2.2.2.2.2 = body2 cf (fun f a b K => COt f a b K [Ibig_divide k, Ibig_Int_set_cvg k]) (fun b _ σ K => LOt Ty (kps 39) 4 b σ K []) 39 Try.f39.ntmps Try.f39.results.toList (bd Try.f39) (shbig_Int_QuoRem_gsh.enc x).1 (shbig_Int_QuoRem_gsh.enc x).2 (putS FS.dec rsbig_Int_QuoRem_gsh) := by kernel_rfl
theorem okbig_Int_QuoRem_gsh : ∀ k, InstOk (call cf k) (Ibig_Int_QuoRem_gsh k)
  | 0 => fun x y e => absurd (show (none : Option _) = some y from e) (by simp)
  | k + 1 => inst_ok (c := cf) (k := k) (f := 39) (fn := Try.f39) (body := bd Try.f39) (sh := shbig_Int_QuoRem_gsh) (os := rsbig_Int_QuoRem_gsh) rfl Try.func39 rfl ⟨rfl, Nat.le_of_ble_eq_true rfl⟩ (COt_ok (albig_Int_QuoRem_gsh k)) (anbig_Int_QuoRem_gsh k) (fun x => Fbig_Int_QuoRem_gsh (k + 1) x.1 x.2.1 x.2.2.1 x.2.2.2.1 x.2.2.2.2.1 x.2.2.2.2.2) (stbig_Int_QuoRem_gsh k)

/-! shunt/limb.QuoRem -/
def blimb_QuoRem (k : Nat) (a0 : Bool) (a1 : List Int) (b0 : Bool) (b1 : List Int) : Option (Bool × List Int × Bool × List Int × Int) :=
  Option.bind (Flimb_both k a0 a1 b0 b1) fun r5 =>
  if ((r5 != (0 : Int)) = true) then
    (some (false, [], false, [], r5))
  else
  if (((((List.length b1) : Nat) : Int) == (0 : Int)) = true) then
    (some (false, [], false, [], (11 : Int)))
  else
  Option.bind (Fwide_Take k a0 a1) fun r6 =>
  Option.bind (Fwide_Take k b0 b1) fun r7 =>
  Option.bind (Fbig_Int_QuoRem_gsh k false r6.1 r6.2 r7.1 r7.2 false) fun r8 =>
  Option.bind (Fwide_Give_awf k r8.1 r8.2.1) fun r9 =>
  Option.bind (Fwide_Give_awf k r8.2.2.2.2.2.2.1 r8.2.2.2.2.2.2.2) fun r10 =>
  if ((0 + r9.2.1) ≤ (List.length r9.2.2.2.2)) then
    if ((0 + r10.2.1) ≤ (List.length r10.2.2.2.2)) then
      (some (r9.1, (List.take r9.2.1 r9.2.2.2.2), r10.1, (List.take r10.2.1 r10.2.2.2.2), (0 : Int)))
    else
    none
  else
  none
def Flimb_QuoRem : Nat → Bool → List Int → Bool → List Int → Option (Bool × List Int × Bool × List Int × Int)
  | 0, _, _, _, _ => none
  | k + 1, a0, a1, b0, b1 => blimb_QuoRem k a0 a1 b0 b1
def shlimb_QuoRem : FS := { vs := [.g [.lf .bool, .lf (.sl (.int .u32))], .g [.lf .bool, .lf (.sl (.int .u32))]], bs := [] }
def rslimb_QuoRem : List FS := [{ vs := [.g [.lf .bool, .lf (.sl (.int .u32))], .g [.lf .bool, .lf (.sl (.int .u32))], .a (.lf (.int .i64))], bs := [] }]
def Ilimb_QuoRem (k : Nat) : Inst := ⟨14, shlimb_QuoRem, rslimb_QuoRem, fun x => Flimb_QuoRem k x.1 x.2.1 x.2.2.1 x.2.2.2⟩
theorem allimb_QuoRem (k : Nat) : AllI (call cf k) [Ilimb_both k, Iwide_Take k, Ibig_Int_QuoRem_gsh k, Iwide_Give_awf k] := And.intro (oklimb_both k) (And.intro (okwide_Take k) (And.intro (okbig_Int_QuoRem_gsh k) (And.intro (okwide_Give_awf k) (True.intro))))
theorem anlimb_QuoRem (k : Nat) : LAll (LOk (R := DS FS.D rslimb_QuoRem) (fun b _ σ K => LOt Ty (kps 14) 0 b σ K []) cf (call cf k) (cf.keep 14) Try.f14.ntmps k shlimb_QuoRem.bs.length) 0 (bd Try.f14) :=
  And.intro (True.intro) (And.intro (And.intro (True.intro) (And.intro (True.intro) (And.intro (And.intro (True.intro) (True.intro)) (True.intro)))) (And.intro (And.intro (True.intro) (And.intro (And.intro (True.intro) (True.intro)) (True.intro))) (And.intro (True.intro) (And.intro (True.intro) (True.intro)))))
theorem stlimb_QuoRem (k : Nat) (x : shlimb_QuoRem.D) : Flimb_QuoRem (k + 1) x.1 x.2.1 x.2.2.1 x.2.2.2 = body2 cf (fun f a b K => COt f a b K [Ilimb_both k, Iwide_Take k, Ibig_Int_QuoRem_gsh k, Iwide_Give_awf k]) (fun b _ σ K => LOt Ty (kps 14) 0 b σ K []) 14 Try.f14.ntmps Try.f14.results.toList (bd Try.f14) (shlimb_QuoRem.enc x).1 (shlimb_QuoRem.enc x).2 (putS FS.dec rslimb_QuoRem) := by kernel_rfl
theorem oklimb_QuoRem : ∀ k, InstOk (call cf k) (Ilimb_QuoRem k)
  | 0 => fun x y e => absurd (show (none : Option _) = some y from e) (by simp)
  | k + 1 => inst_ok (c := cf) (k := k) (f := 14) (fn := Try.f14) (body := bd Try.f14) (sh := shlimb_QuoRem) (os := rslimb_QuoRem) rfl Try.func14 rfl ⟨rfl, Nat.le_of_ble_eq_true rfl⟩ (COt_ok (allimb_QuoRem k)) (anlimb_QuoRem k) (fun x => Flimb_QuoRem (k + 1) x.1 x.2.1 x.2.2.1 x.2.2.2) (stlimb_QuoRem k)

/-! (*shunt/big.Int).String -/
def Lbig_Int_String_awf_2s (k : Nat) (rec : Nat → List Int → Int → Int → Bool → List Int → List Int → Option (Nat × List Int × Bool × List Int × List Int)) (out1 : Nat) (a : List Int) (r : Int) (i : Int) (z0 : Bool) (z1 : List Int) (outs : List Int) : Option (Nat × List Int × Bool × List Int × List Int) :=
  if ((decide (i < (9 : Int))) = true) then
    if ((decide (r > (0 : Int))) = false) then
      if ((decide ((((List.length a) : Nat) : Int) > (0 : Int))) = true) then
        if (out1 ≤ (List.length outs)) then
          if (((out1 + (List.length (List.take 1 ((IntKind.wrap .u8 (IntKind.wrap .u32 ((48 : Int) + (Int.tmod r (10 : Int))))) :: [])))) * 1) ≤ 140737488355328) then
            rec (out1 + (List.length (List.take 1 ((IntKind.wrap .u8 (IntKind.wrap .u32 ((48 : Int) + (Int.tmod r (10 : Int))))) :: [])))) a (IntKind.wrap .u32 (Int.tdiv r (10 : Int))) (IntKind.wrap .i64 (i + (1 : Int))) z0 z1 ((List.take out1 outs) ++ (List.take 1 ((IntKind.wrap .u8 (IntKind.wrap .u32 ((48 : Int) + (Int.tmod r (10 : Int))))) :: [])))
          else
          none
        else
        none
      else
      (some (out1, a, z0, z1, outs))
    else
    if (out1 ≤ (List.length outs)) then
      if (((out1 + (List.length (List.take 1 ((IntKind.wrap .u8 (IntKind.wrap .u32 ((48 : Int) + (Int.tmod r (10 : Int))))) :: [])))) * 1) ≤ 140737488355328) then
        rec (out1 + (List.length (List.take 1 ((IntKind.wrap .u8 (IntKind.wrap .u32 ((48 : Int) + (Int.tmod r (10 : Int))))) :: [])))) a (IntKind.wrap .u32 (Int.tdiv r (10 : Int))) (IntKind.wrap .i64 (i + (1 : Int))) z0 z1 ((List.take out1 outs) ++ (List.take 1 ((IntKind.wrap .u8 (IntKind.wrap .u32 ((48 : Int) + (Int.tmod r (10 : Int))))) :: [])))
      else
      none
    else
    none
  else
  (some (out1, a, z0, z1, outs))
def Lbig_Int_String_awf_2 (k n : Nat) : Nat → List Int → Int → Int → Bool → List Int → List Int → Option (Nat × List Int × Bool × List Int × List Int) := Nat.rec (fun _ _ _ _ _ _ _ => none) (fun _ r => Lbig_Int_String_awf_2s k r) n
def Lbig_Int_String_awf_0s (k : Nat) (rec : Nat → List Int → Bool → List Int → List Int → Option (Nat × Bool × List Int × List Int)) (out1 : Nat) (a : List Int) (z0 : Bool) (z1 : List Int) (outs : List Int) : Option (Nat × Bool × List Int × List Int) :=
  if ((decide ((((List.length a) : Nat) : Int) > (0 : Int))) = true) then
    Option.bind (Fbig_short k a (1000000000 : Int)) fun r8 =>
    Option.bind (Fbig_trim k r8.1) fun r9 =>
    Option.bind (Lbig_Int_String_awf_2 k k out1 r9 r8.2 (0 : Int) z0 z1 outs) fun r10 =>
    rec r10.1 r10.2.1 r10.2.2.1 r10.2.2.2.1 r10.2.2.2.2
  else
  (some (out1, z0, z1, outs))
def Lbig_Int_String_awf_0 (k n : Nat) : Nat → List Int → Bool → List Int → List Int → Option (Nat × Bool × List Int × List Int) := Nat.rec (fun _ _ _ _ _ => none) (fun _ r => Lbig_Int_String_awf_0s k r) n
def Lbig_Int_String_awf_4s (k : Nat) (rec : Nat → Int → Int → Bool → List Int → List Int → Option (Nat × Bool × List Int × List Int)) (out1 : Nat) (i : Int) (j : Int) (m0 : Bool) (m1 : List Int) (outs : List Int) : Option (Nat × Bool × List Int × List Int) :=
  if ((decide (i < j)) = true) then
    if (((0 : Int) ≤ j) ∧ (j < ((out1 : Nat) : Int))) then
      Option.bind (outs)[(0 + (Int.toNat j))]? fun x =>
      if (((0 : Int) ≤ i) ∧ (i < ((out1 : Nat) : Int))) then
        Option.bind (outs)[(0 + (Int.toNat i))]? fun x1 =>
        if (((0 : Int) ≤ i) ∧ (i < ((out1 : Nat) : Int))) then
          Option.bind (outs)[(0 + (Int.toNat i))]? fun x2 =>
          if (((0 : Int) ≤ j) ∧ (j < ((out1 : Nat) : Int))) then
            Option.bind ((List.set outs (0 + (Int.toNat i)) x))[(0 + (Int.toNat j))]? fun x3 =>
            rec out1 (IntKind.wrap .i64 (i + (1 : Int))) (IntKind.wrap .i64 (j - (1 : Int))) m0 m1 (List.set (List.set outs (0 + (Int.toNat i)) x) (0 + (Int.toNat j)) x1)
          else
          none
        else
        none
      else
      none
    else
    none
  else
  (some (out1, m0, m1, outs))
def Lbig_Int_String_awf_4 (k n : Nat) : Nat → Int → Int → Bool → List Int → List Int → Option (Nat × Bool × List Int × List Int) := Nat.rec (fun _ _ _ _ _ _ => none) (fun _ r => Lbig_Int_String_awf_4s k r) n
def bbig_Int_String_awf (k : Nat) (z0 : Bool) (z1 : List Int) : Option (ByteArray × Bool × List Int) :=
  if (((((List.length z1) : Nat) : Int) == (0 : Int)) = true) then
    (some ((ByteArray.mk (List.toArray (48 :: []))), z0, z1))
  else
  Option.bind (Lbig_Int_String_awf_0 k k 0 z1 z0 z1 []) fun r8 =>
  if (r8.2.1 = true) then
    if (r8.1 ≤ (List.length r8.2.2.2)) then
      if (((r8.1 + 1) * 1) ≤ 140737488355328) then
        Option.bind (Lbig_Int_String_awf_4 k k (r8.1 + 1) (0 : Int) (IntKind.wrap .i64 ((((r8.1 + 1) : Nat) : Int) - (1 : Int))) r8.2.1 r8.2.2.1 ((List.take r8.1 r8.2.2.2) ++ (List.take 1 ((45 : Int) :: [])))) fun r9 =>
        if ((0 + r9.1) ≤ (List.length r9.2.2.2)) then
          (some ((ByteArray.mk (List.toArray (List.map (fun n => n.toNat.toUInt8) (List.take r9.1 r9.2.2.2)))), r9.2.1, r9.2.2.1))
        else
        none
      else
      none
    else
    none
  else
  Option.bind (Lbig_Int_String_awf_4 k k r8.1 (0 : Int) (IntKind.wrap .i64 (((r8.1 : Nat) : Int) - (1 : Int))) r8.2.1 r8.2.2.1 r8.2.2.2) fun r9 =>
  if ((0 + r9.1) ≤ (List.length r9.2.2.2)) then
    (some ((ByteArray.mk (List.toArray (List.map (fun n => n.toNat.toUInt8) (List.take r9.1 r9.2.2.2)))), r9.2.1, r9.2.2.1))
  else
  none
def Fbig_Int_String_awf : Nat → Bool → List Int → Option (ByteArray × Bool × List Int)
  | 0, _, _ => none
  | k + 1, z0, z1 => bbig_Int_String_awf k z0 z1
def shbig_Int_String_awf : FS := { vs := [.a (.ptr 0 0 0)], bs := [.raw [[.lf .bool, .lf (.sl (.int .u32))]] 2 69 true false] }
def rsbig_Int_String_awf : List FS := [{ vs := [.a (.lf .str)], bs := [.raw [[.lf .bool, .lf (.sl (.int .u32))]] 2 69 true false] }]
def Ibig_Int_String_awf (k : Nat) : Inst := ⟨54, shbig_Int_String_awf, rsbig_Int_String_awf, fun x => Fbig_Int_String_awf k x.1 x.2⟩
theorem albig_Int_String_awf (k : Nat) : AllI (call cf k) [Ibig_short k, Ibig_trim k] := And.intro (okbig_short k) (And.intro (okbig_trim k) (True.intro))
def hsbig_Int_String_awf_2 : List SS := [{ fr := [(0, .a (.ptr 0 0 0)), (3, .a (.smz 1)), (4, .a (.lf (.sl (.int .u32)))), (6, .a (.lf (.int .u32))), (7, .a (.lf (.int .i64)))], mem := [(0, some (.raw [[.lf .bool, .lf (.sl (.int .u32))]] 2 69 true false)), (1, some (.arr (.int .u8) 1 5 false))], nx := 2 }]
def osbig_Int_String_awf_2 : List OS := [⟨some 2, { fr := [(0, .a (.ptr 0 0 0)), (3, .a (.smz 1)), (4, .a (.lf (.sl (.int .u32))))], mem := [(0, some (.raw [[.lf .bool, .lf (.sl (.int .u32))]] 2 69 true false)), (1, some (.arr (.int .u8) 1 5 false))], nx := 2 }⟩]
def LIbig_Int_String_awf_2 (k : Nat) : LInst := ⟨2, hsbig_Int_String_awf_2, osbig_Int_String_awf_2, fun x => Lbig_Int_String_awf_2 k k x.1 x.2.1 x.2.2.1 x.2.2.2.1 x.2.2.2.2.1 x.2.2.2.2.2.1 x.2.2.2.2.2.2⟩
theorem anbig_Int_String_awf_2 (k : Nat) : LAll (LOk (R := DS OS.D osbig_Int_String_awf_2) (fun b _ σ K => LOt Ty (kps 54) 1 b σ K []) cf (call cf k) (kps 54) Try.f54.ntmps k 1) 2 (lb Try.f54 1) :=
  And.intro (And.intro (True.intro) (And.intro (True.intro) (True.intro))) (And.intro (And.intro (True.intro) (True.intro)) (True.intro))
theorem stbig_Int_String_awf_2 (k n : Nat) (x : DS SS.D hsbig_Int_String_awf_2) : Lbig_Int_String_awf_2 k (n + 1) x.1 x.2.1 x.2.2.1 x.2.2.2.1 x.2.2.2.2.1 x.2.2.2.2.2.1 x.2.2.2.2.2.2 = encSK SS.enc (fun σ => run2 cf (fun f a b K => COt f a b K [Ibig_short k, Ibig_trim k]) (fun b _ σ K => LOt Ty (kps 54) 1 b σ K []) Try.f54.ntmps 2 (lb Try.f54 1) σ (nextK Ty (kps 54 2) 1 hsbig_Int_String_awf_2 osbig_Int_String_awf_2 fun x => Lbig_Int_String_awf_2 k n x.1 x.2.1 x.2.2.1 x.2.2.2.1 x.2.2.2.2.1 x.2.2.2.2.2.1 x.2.2.2.2.2.2)) hsbig_Int_String_awf_2 x := by kernel_rfl
theorem lobig_Int_String_awf_2 (k : Nat) : LIOk cf (call cf k) (kps 54) Try.f54.ntmps k 1 2 (lb Try.f54 1) (LIbig_Int_String_awf_2 k) :=
  loop_ok (c := cf) (callF := call cf k) (kp := kps 54) (nt := Try.f54.ntmps) (k := k) (p := 1) (b := 2) (x0 := lb Try.f54 1) (hs := hsbig_Int_String_awf_2) (os := osbig_Int_String_awf_2) (COt_ok (albig_Int_String_awf k)) (anbig_Int_String_awf_2 k) (fun n x => Lbig_Int_String_awf_2 k n x.1 x.2.1 x.2.2.1 x.2.2.2.1 x.2.2.2.2.1 x.2.2.2.2.2.1 x.2.2.2.2.2.2) (fun _ => rfl) (stbig_Int_String_awf_2 k)
def hsbig_Int_String_awf_0 : List SS := [{ fr := [(0, .a (.ptr 0 0 0)), (3, .a (.smz 1)), (4, .a (.lf (.sl (.int .u32))))], mem := [(0, some (.raw [[.lf .bool, .lf (.sl (.int .u32))]] 2 69 true false)), (1, some (.arr (.int .u8) 1 5 false))], nx := 2 }]
def osbig_Int_String_awf_0 : List OS := [⟨some 0, { fr := [(0, .a (.ptr 0 0 0)), (3, .a (.smz 1))], mem := [(0, some (.raw [[.lf .bool, .lf (.sl (.int .u32))]] 2 69 true false)), (1, some (.arr (.int .u8) 1 5 false))], nx := 2 }⟩]
def LIbig_Int_String_awf_0 (k : Nat) : LInst := ⟨0, hsbig_Int_String_awf_0, osbig_Int_String_awf_0, fun x => Lbig_Int_String_awf_0 k k x.1 x.2.1 x.2.2.1 x.2.2.2.1 x.2.2.2.2⟩
theorem anbig_Int_String_awf_0 (k : Nat) : LAll (LOk (R := DS OS.D osbig_Int_String_awf_0) (fun b _ σ K => LOt Ty (kps 54) 1 b σ K [LIbig_Int_String_awf_2 k]) cf (call cf k) (kps 54) Try.f54.ntmps k 1) 0 (lb Try.f54 0) :=
  And.intro (And.intro (True.intro) (And.intro (True.intro) (True.intro))) (And.intro (True.intro) (And.intro (True.intro) (And.intro (True.intro) (LOt_ok (c := cf) (callF := call cf k) (kp := kps 54) (nt := Try.f54.ntmps) (k := k) (p := 1) (b := 2) (x0 := lb Try.f54 1) (l := [LIbig_Int_String_awf_2 k]) (And.intro (fun _ => lobig_Int_String_awf_2 k) (True.intro))))))
theorem stbig_Int_String_awf_0 (k n : Nat) (x : DS SS.D hsbig_Int_String_awf_0) : Lbig_Int_String_awf_0 k (n + 1) x.1 x.2.1 x.2.2.1 x.2.2.2.1 x.2.2.2.2 = encSK SS.enc (fun σ => run2 cf (fun f a b K => COt f a b K [Ibig_short k, Ibig_trim k]) (fun b _ σ K => LOt Ty (kps 54) 1 b σ K [LIbig_Int_String_awf_2 k]) Try.f54.ntmps 0 (lb Try.f54 0) σ (nextK Ty (kps 54 0) 1 hsbig_Int_String_awf_0 osbig_Int_String_awf_0 fun x => Lbig_Int_String_awf_0 k n x.1 x.2.1 x.2.2.1 x.2.2.2.1 x.2.2.2.2)) hsbig_Int_String_awf_0 x := by kernel_rfl
theorem lobig_Int_String_awf_0 (k : Nat) : LIOk cf (call cf k) (kps 54) Try.f54.ntmps k 1 0 (lb Try.f54 0) (LIbig_Int_String_awf_0 k) :=
  loop_ok (c := cf) (callF := call cf k) (kp := kps 54) (nt := Try.f54.ntmps) (k := k) (p := 1) (b := 0) (x0 := lb Try.f54 0) (hs := hsbig_Int_String_awf_0) (os := osbig_Int_String_awf_0) (COt_ok (albig_Int_String_awf k)) (anbig_Int_String_awf_0 k) (fun n x => Lbig_Int_String_awf_0 k n x.1 x.2.1 x.2.2.1 x.2.2.2.1 x.2.2.2.2) (fun _ => rfl) (stbig_Int_String_awf_0 k)
def hsbig_Int_String_awf_4 : List SS := [{ fr := [(3, .a (.smz 1)), (8, .a (.lf (.int .i64))), (9, .a (.lf (.int .i64)))], mem := [(0, some (.raw [[.lf .bool, .lf (.sl (.int .u32))]] 2 69 true false)), (1, some (.arr (.int .u8) 1 5 false))], nx := 2 }]
def osbig_Int_String_awf_4 : List OS := [⟨some 4, { fr := [(3, .a (.smz 1))], mem := [(0, some (.raw [[.lf .bool, .lf (.sl (.int .u32))]] 2 69 true false)), (1, some (.arr (.int .u8) 1 5 false))], nx := 2 }⟩]
def LIbig_Int_String_awf_4 (k : Nat) : LInst := ⟨4, hsbig_Int_String_awf_4, osbig_Int_String_awf_4, fun x => Lbig_Int_String_awf_4 k k x.1 x.2.1 x.2.2.1 x.2.2.2.1 x.2.2.2.2.1 x.2.2.2.2.2⟩
theorem anbig_Int_String_awf_4 (k : Nat) : LAll (LOk (R := DS OS.D osbig_Int_String_awf_4) (fun b _ σ K => LOt Ty (kps 54) 1 b σ K [LIbig_Int_String_awf_2 k, LIbig_Int_String_awf_0 k]) cf (call cf k) (kps 54) Try.f54.ntmps k 1) 4 (lb Try.f54 2) :=
  And.intro (And.intro (True.intro) (And.intro (True.intro) (True.intro))) (And.intro (True.intro) (True.intro))
theorem stbig_Int_String_awf_4 (k n : Nat) (x : DS SS.D hsbig_Int_String_awf_4) : Lbig_Int_String_awf_4 k (n + 1) x.1 x.2.1 x.2.2.1 x.2.2.2.1 x.2.2.2.2.1 x.2.2.2.2.2 = encSK SS.enc (fun σ => run2 cf (fun f a b K => COt f a b K [Ibig_short k, Ibig_trim k]) (fun b _ σ K => LOt Ty (kps 54) 1 b σ K [LIbig_Int_String_awf_2 k, LIbig_Int_String_awf_0 k]) Try.f54.ntmps 4 (lb Try.f54 2) σ (nextK Ty (kps 54 4) 1 hsbig_Int_String_awf_4 osbig_Int_String_awf_4 fun x => Lbig_Int_String_awf_4 k n x.1 x.2.1 x.2.2.1 x.2.2.2.1 x.2.2.2.2.1 x.2.2.2.2.2)) hsbig_Int_String_awf_4 x := by kernel_rfl
theorem lobig_Int_String_awf_4 (k : Nat) : LIOk cf (call cf k) (kps 54) Try.f54.ntmps k 1 4 (lb Try.f54 2) (LIbig_Int_String_awf_4 k) :=
  loop_ok (c := cf) (callF := call cf k) (kp := kps 54) (nt := Try.f54.ntmps) (k := k) (p := 1) (b := 4) (x0 := lb Try.f54 2) (hs := hsbig_Int_String_awf_4) (os := osbig_Int_String_awf_4) (COt_ok (albig_Int_String_awf k)) (anbig_Int_String_awf_4 k) (fun n x => Lbig_Int_String_awf_4 k n x.1 x.2.1 x.2.2.1 x.2.2.2.1 x.2.2.2.2.1 x.2.2.2.2.2) (fun _ => rfl) (stbig_Int_String_awf_4 k)
theorem anbig_Int_String_awf (k : Nat) : LAll (LOk (R := DS FS.D rsbig_Int_String_awf) (fun b _ σ K => LOt Ty (kps 54) 1 b σ K [LIbig_Int_String_awf_2 k, LIbig_Int_String_awf_0 k, LIbig_Int_String_awf_4 k]) cf (call cf k) (cf.keep 54) Try.f54.ntmps k shbig_Int_String_awf.bs.length) 0 (bd Try.f54) :=
  And.intro (True.intro) (And.intro (And.intro (True.intro) (And.intro (And.intro (True.intro) (True.intro)) (True.intro))) (And.intro (True.intro) (And.intro (And.intro (True.intro) (LOt_ok (c := cf) (callF := call cf k) (kp := kps 54) (nt := Try.f54.ntmps) (k := k) (p := 1) (b := 0) (x0 := lb Try.f54 0) (l := [LIbig_Int_String_awf_2 k, LIbig_Int_String_awf_0 k, LIbig_Int_String_awf_4 k]) (And.intro (fun h => absurd (show (2 : Nat) = 0 from h) (by decide)) (And.intro (fun _ => lobig_Int_String_awf_0 k) (And.intro (fun h => absurd (show (4 : Nat) = 0 from h) (by decide)) (True.intro)))))) (And.intro (And.intro (True.intro) (And.intro (True.intro) (True.intro))) (And.intro (And.intro (True.intro) (LOt_ok (c := cf) (callF := call cf k) (kp := kps 54) (nt := Try.f54.ntmps) (k := k) (p := 1) (b := 4) (x0 := lb Try.f54 2) (l := [LIbig_Int_String_awf_2 k, LIbig_Int_String_awf_0 k, LIbig_Int_String_awf_4 k]) (And.intro (fun h => absurd (show (2 : Nat) = 4 from h) (by decide)) (And.intro (fun h => absurd (show (0 : Nat) = 4 from h) (by decide)) (And.intro (fun _ => lobig_Int_String_awf_4 k) (True.intro)))))) (And.intro (True.intro) (True.intro)))))))
theorem stbig_Int_String_awf (k : Nat) (x : shbig_Int_String_awf.D) : Fbig_Int_String_awf (k + 1) x.1 x.2 = body2 cf (fun f a b K => COt f a b K [Ibig_short k, Ibig_trim k]) (fun b _ σ K => LOt Ty (kps 54) 1 b σ K [LIbig_Int_String_awf_2 k, LIbig_Int_String_awf_0 k, LIbig_Int_String_awf_4 k]) 54 Try.f54.ntmps Try.f54.results.toList (bd Try.f54) (shbig_Int_String_awf.enc x).1 (shbig_Int_String_awf.enc x).2 (putS FS.dec rsbig_Int_String_awf) := by kernel_rfl
theorem okbig_Int_String_awf : ∀ k, InstOk (call cf k) (Ibig_Int_String_awf k)
  | 0 => fun x y e => absurd (show (none : Option _) = some y from e) (by simp)
  | k + 1 => inst_ok (c := cf) (k := k) (f := 54) (fn := Try.f54) (body := bd Try.f54) (sh := shbig_Int_String_awf) (os := rsbig_Int_String_awf) rfl Try.func54 rfl ⟨rfl, Nat.le_of_ble_eq_true rfl⟩ (COt_ok (albig_Int_String_awf k)) (anbig_Int_String_awf k) (fun x => Fbig_Int_String_awf (k + 1) x.1 x.2) (stbig_Int_String_awf k)

/-! shunt/limb.Text -/
def blimb_Text (k : Nat) (a0 : Bool) (a1 : List Int) : Option (ByteArray × Int) :=
  Option.bind (Flimb_Check k a0 a1) fun r6 =>
  if ((r6 != (0 : Int)) = true) then
    (some ((ByteArray.mk (List.toArray [])), r6))
  else
  Option.bind (Fwide_Take k a0 a1) fun r7 =>
  Option.bind (Fbig_Int_String_awf k r7.1 r7.2) fun r8 =>
  (some (r8.1, (0 : Int)))
def Flimb_Text : Nat → Bool → List Int → Option (ByteArray × Int)
  | 0, _, _ => none
  | k + 1, a0, a1 => blimb_Text k a0 a1
def shlimb_Text : FS := { vs := [.g [.lf .bool, .lf (.sl (.int .u32))]], bs := [] }
def rslimb_Text : List FS := [{ vs := [.a (.lf .str), .a (.lf (.int .i64))], bs := [] }]
def Ilimb_Text (k : Nat) : Inst := ⟨24, shlimb_Text, rslimb_Text, fun x => Flimb_Text k x.1 x.2⟩
theorem allimb_Text (k : Nat) : AllI (call cf k) [Ilimb_Check k, Iwide_Take k, Ibig_Int_String_awf k] := And.intro (oklimb_Check k) (And.intro (okwide_Take k) (And.intro (okbig_Int_String_awf k) (True.intro)))
theorem anlimb_Text (k : Nat) : LAll (LOk (R := DS FS.D rslimb_Text) (fun b _ σ K => LOt Ty (kps 24) 0 b σ K []) cf (call cf k) (cf.keep 24) Try.f24.ntmps k shlimb_Text.bs.length) 0 (bd Try.f24) :=
  And.intro (True.intro) (And.intro (And.intro (True.intro) (And.intro (True.intro) (And.intro (And.intro (True.intro) (True.intro)) (True.intro)))) (And.intro (True.intro) (True.intro)))
theorem stlimb_Text (k : Nat) (x : shlimb_Text.D) : Flimb_Text (k + 1) x.1 x.2 = body2 cf (fun f a b K => COt f a b K [Ilimb_Check k, Iwide_Take k, Ibig_Int_String_awf k]) (fun b _ σ K => LOt Ty (kps 24) 0 b σ K []) 24 Try.f24.ntmps Try.f24.results.toList (bd Try.f24) (shlimb_Text.enc x).1 (shlimb_Text.enc x).2 (putS FS.dec rslimb_Text) := by kernel_rfl
theorem oklimb_Text : ∀ k, InstOk (call cf k) (Ilimb_Text k)
  | 0 => fun x y e => absurd (show (none : Option _) = some y from e) (by simp)
  | k + 1 => inst_ok (c := cf) (k := k) (f := 24) (fn := Try.f24) (body := bd Try.f24) (sh := shlimb_Text) (os := rslimb_Text) rfl Try.func24 rfl ⟨rfl, Nat.le_of_ble_eq_true rfl⟩ (COt_ok (allimb_Text k)) (anlimb_Text k) (fun x => Flimb_Text (k + 1) x.1 x.2) (stlimb_Text k)

/-! shunt/shuntref01.Same -/
def Lshuntref01_Same_0s (k : Nat) (rec : Int → Bool → List Int → Bool → List Int → Option ((Bool × Bool × List Int × Bool × List Int) ⊕ (Bool × List Int × Bool × List Int))) (i : Int) (a0 : Bool) (a1 : List Int) (b0 : Bool) (b1 : List Int) : Option ((Bool × Bool × List Int × Bool × List Int) ⊕ (Bool × List Int × Bool × List Int)) :=
  if ((decide (i < (((List.length a1) : Nat) : Int))) = true) then
    if ((0 : Int) ≤ i) then
      Option.bind (a1)[(Int.toNat i)]? fun x1 =>
      if ((0 : Int) ≤ i) then
        Option.bind (b1)[(Int.toNat i)]? fun x2 =>
        if ((x1 != x2) = true) then
          (some (Sum.inl (false, a0, a1, b0, b1)))
        else
        rec (IntKind.wrap .i64 (i + (1 : Int))) a0 a1 b0 b1
      else
      none
    else
    none
  else
  (some (Sum.inr (a0, a1, b0, b1)))
def Lshuntref01_Same_0 (k n : Nat) : Int → Bool → List Int → Bool → List Int → Option ((Bool × Bool × List Int × Bool × List Int) ⊕ (Bool × List Int × Bool × List Int)) := Nat.rec (fun _ _ _ _ _ => none) (fun _ r => Lshuntref01_Same_0s k r) n
def bshuntref01_Same (k : Nat) (a0 : Bool) (a1 : List Int) (b0 : Bool) (b1 : List Int) : Option (Bool) :=
  if ((!(a0 == b0)) = false) then
    if (((((List.length a1) : Nat) : Int) != (((List.length b1) : Nat) : Int)) = true) then
      (some false)
    else
    Option.bind (Lshuntref01_Same_0 k k (0 : Int) a0 a1 b0 b1) fun r8 =>
    eitherK r8
      (fun r8 =>
      (some r8.1))
      (fun r8 =>
      (some true))
  else
  (some false)
def Fshuntref01_Same : Nat → Bool → List Int → Bool → List Int → Option (Bool)
  | 0, _, _, _, _ => none
  | k + 1, a0, a1, b0, b1 => bshuntref01_Same k a0 a1 b0 b1
def shshuntref01_Same : FS := { vs := [.g [.lf .bool, .lf (.sl (.int .u32))], .g [.lf .bool, .lf (.sl (.int .u32))]], bs := [] }
def rsshuntref01_Same : List FS := [{ vs := [.a (.lf .bool)], bs := [] }]
def Ishuntref01_Same (k : Nat) : Inst := ⟨51, shshuntref01_Same, rsshuntref01_Same, fun x => Fshuntref01_Same k x.1 x.2.1 x.2.2.1 x.2.2.2⟩
theorem alshuntref01_Same (k : Nat) : AllI (call cf k) [] := True.intro
def hsshuntref01_Same_0 : List SS := [{ fr := [(2, .a (.ptr 0 0 0)), (3, .a (.ptr 1 0 0)), (5, .a (.lf (.int .i64)))], mem := [(0, some (.raw [[.lf .bool, .lf (.sl (.int .u32))]] 2 24 true false)), (1, some (.raw [[.lf .bool, .lf (.sl (.int .u32))]] 2 24 true false))], nx := 2 }]
def osshuntref01_Same_0 : List OS := [⟨none, { fr := [(4, .a (.lf .bool))], mem := [(0, some (.raw [[.lf .bool, .lf (.sl (.int .u32))]] 2 24 true false)), (1, some (.raw [[.lf .bool, .lf (.sl (.int .u32))]] 2 24 true false))], nx := 2 }⟩, ⟨some 0, { fr := [], mem := [(0, some (.raw [[.lf .bool, .lf (.sl (.int .u32))]] 2 24 true false)), (1, some (.raw [[.lf .bool, .lf (.sl (.int .u32))]] 2 24 true false))], nx := 2 }⟩]
def LIshuntref01_Same_0 (k : Nat) : LInst := ⟨0, hsshuntref01_Same_0, osshuntref01_Same_0, fun x => Lshuntref01_Same_0 k k x.1 x.2.1 x.2.2.1 x.2.2.2.1 x.2.2.2.2⟩
theorem anshuntref01_Same_0 (k : Nat) : LAll (LOk (R := DS OS.D osshuntref01_Same_0) (fun b _ σ K => LOt Ty (kps 51) 0 b σ K []) cf (call cf k) (kps 51) Try.f51.ntmps k 0) 0 (lb Try.f51 0) :=
  And.intro (And.intro (True.intro) (And.intro (True.intro) (True.intro))) (And.intro (And.intro (True.intro) (And.intro (And.intro (True.intro) (True.intro)) (True.intro))) (True.intro))
theorem stshuntref01_Same_0 (k n : Nat) (x : DS SS.D hsshuntref01_Same_0) : Lshuntref01_Same_0 k (n + 1) x.1 x.2.1 x.2.2.1 x.2.2.2.1 x.2.2.2.2 = encSK SS.enc (fun σ => run2 cf (fun f a b K => COt f a b K []) (fun b _ σ K => LOt Ty (kps 51) 0 b σ K []) Try.f51.ntmps 0 (lb Try.f51 0) σ (nextK Ty (kps 51 0) 0 hsshuntref01_Same_0 osshuntref01_Same_0 fun x => Lshuntref01_Same_0 k n x.1 x.2.1 x.2.2.1 x.2.2.2.1 x.2.2.2.2)) hsshuntref01_Same_0 x := by kernel_rfl
theorem loshuntref01_Same_0 (k : Nat) : LIOk cf (call cf k) (kps 51) Try.f51.ntmps k 0 0 (lb Try.f51 0) (LIshuntref01_Same_0 k) :=
  loop_ok (c := cf) (callF := call cf k) (kp := kps 51) (nt := Try.f51.ntmps) (k := k) (p := 0) (b := 0) (x0 := lb Try.f51 0) (hs := hsshuntref01_Same_0) (os := osshuntref01_Same_0) (COt_ok (alshuntref01_Same k)) (anshuntref01_Same_0 k) (fun n x => Lshuntref01_Same_0 k n x.1 x.2.1 x.2.2.1 x.2.2.2.1 x.2.2.2.2) (fun _ => rfl) (stshuntref01_Same_0 k)
theorem anshuntref01_Same (k : Nat) : LAll (LOk (R := DS FS.D rsshuntref01_Same) (fun b _ σ K => LOt Ty (kps 51) 0 b σ K [LIshuntref01_Same_0 k]) cf (call cf k) (cf.keep 51) Try.f51.ntmps k shshuntref01_Same.bs.length) 0 (bd Try.f51) :=
  And.intro (True.intro) (And.intro (And.intro (True.intro) (And.intro (And.intro (True.intro) (True.intro)) (True.intro))) (And.intro (And.intro (True.intro) (LOt_ok (c := cf) (callF := call cf k) (kp := kps 51) (nt := Try.f51.ntmps) (k := k) (p := 0) (b := 0) (x0 := lb Try.f51 0) (l := [LIshuntref01_Same_0 k]) (And.intro (fun _ => loshuntref01_Same_0 k) (True.intro)))) (And.intro (True.intro) (True.intro))))
theorem stshuntref01_Same (k : Nat) (x : shshuntref01_Same.D) : Fshuntref01_Same (k + 1) x.1 x.2.1 x.2.2.1 x.2.2.2 = body2 cf (fun f a b K => COt f a b K []) (fun b _ σ K => LOt Ty (kps 51) 0 b σ K [LIshuntref01_Same_0 k]) 51 Try.f51.ntmps Try.f51.results.toList (bd Try.f51) (shshuntref01_Same.enc x).1 (shshuntref01_Same.enc x).2 (putS FS.dec rsshuntref01_Same) := by kernel_rfl
theorem okshuntref01_Same : ∀ k, InstOk (call cf k) (Ishuntref01_Same k)
  | 0 => fun x y e => absurd (show (none : Option _) = some y from e) (by simp)
  | k + 1 => inst_ok (c := cf) (k := k) (f := 51) (fn := Try.f51) (body := bd Try.f51) (sh := shshuntref01_Same) (os := rsshuntref01_Same) rfl Try.func51 rfl ⟨rfl, Nat.le_of_ble_eq_true rfl⟩ (COt_ok (alshuntref01_Same k)) (anshuntref01_Same k) (fun x => Fshuntref01_Same (k + 1) x.1 x.2.1 x.2.2.1 x.2.2.2) (stshuntref01_Same k)

/-! shunt/shuntlaw01.same -/
def bshuntlaw01_same (k : Nat) (a0 : Bool) (a1 : List Int) (b0 : Bool) (b1 : List Int) : Option (Bool) :=
  Option.bind (Fshuntref01_Same k a0 a1 b0 b1) fun r8 =>
  (some r8)
def Fshuntlaw01_same : Nat → Bool → List Int → Bool → List Int → Option (Bool)
  | 0, _, _, _, _ => none
  | k + 1, a0, a1, b0, b1 => bshuntlaw01_same k a0 a1 b0 b1
def shshuntlaw01_same : FS := { vs := [.g [.lf .bool, .lf (.sl (.int .u32))], .g [.lf .bool, .lf (.sl (.int .u32))]], bs := [] }
def rsshuntlaw01_same : List FS := [{ vs := [.a (.lf .bool)], bs := [] }]
def Ishuntlaw01_same (k : Nat) : Inst := ⟨19, shshuntlaw01_same, rsshuntlaw01_same, fun x => Fshuntlaw01_same k x.1 x.2.1 x.2.2.1 x.2.2.2⟩
theorem alshuntlaw01_same (k : Nat) : AllI (call cf k) [Ishuntref01_Same k] := And.intro (okshuntref01_Same k) (True.intro)
theorem anshuntlaw01_same (k : Nat) : LAll (LOk (R := DS FS.D rsshuntlaw01_same) (fun b _ σ K => LOt Ty (kps 19) 0 b σ K []) cf (call cf k) (cf.keep 19) Try.f19.ntmps k shshuntlaw01_same.bs.length) 0 (bd Try.f19) :=
  And.intro (True.intro) (And.intro (True.intro) (True.intro))
theorem stshuntlaw01_same (k : Nat) (x : shshuntlaw01_same.D) : Fshuntlaw01_same (k + 1) x.1 x.2.1 x.2.2.1 x.2.2.2 = body2 cf (fun f a b K => COt f a b K [Ishuntref01_Same k]) (fun b _ σ K => LOt Ty (kps 19) 0 b σ K []) 19 Try.f19.ntmps Try.f19.results.toList (bd Try.f19) (shshuntlaw01_same.enc x).1 (shshuntlaw01_same.enc x).2 (putS FS.dec rsshuntlaw01_same) := by kernel_rfl
theorem okshuntlaw01_same : ∀ k, InstOk (call cf k) (Ishuntlaw01_same k)
  | 0 => fun x y e => absurd (show (none : Option _) = some y from e) (by simp)
  | k + 1 => inst_ok (c := cf) (k := k) (f := 19) (fn := Try.f19) (body := bd Try.f19) (sh := shshuntlaw01_same) (os := rsshuntlaw01_same) rfl Try.func19 rfl ⟨rfl, Nat.le_of_ble_eq_true rfl⟩ (COt_ok (alshuntlaw01_same k)) (anshuntlaw01_same k) (fun x => Fshuntlaw01_same (k + 1) x.1 x.2.1 x.2.2.1 x.2.2.2) (stshuntlaw01_same k)

/-! shunt/shuntlaw01.awake -/
def bshuntlaw01_awake (k : Nat) : Option (Bool) :=
  Option.bind (Flimb_Of k (4294967295 : Int)) fun r =>
  Option.bind (Flimb_Of k (1 : Int)) fun r1 =>
  Option.bind (Flimb_Add k r.1 r.2 r1.1 r1.2) fun r2 =>
  Option.bind (Flimb_Of k (-(7 : Int))) fun r3 =>
  Option.bind (Flimb_Of k (2 : Int)) fun r4 =>
  Option.bind (Flimb_QuoRem k r3.1 r3.2 r4.1 r4.2) fun r5 =>
  if ((0 + r2.2.1) ≤ (List.length r2.2.2.2)) then
    Option.bind (Flimb_Text k r2.1 (List.take r2.2.1 r2.2.2.2)) fun r6 =>
    if ((r2.2.2.1 == (0 : Int)) = true) then
      if ((r5.2.2.2.2 == (0 : Int)) = true) then
        if ((r6.2 == (0 : Int)) = true) then
          if ((((r2.2.1 : Nat) : Int) == (2 : Int)) = true) then
            if (((0 : Int) ≤ (1 : Int)) ∧ ((1 : Int) < ((r2.2.1 : Nat) : Int))) then
              Option.bind (r2.2.2.2)[1]? fun x =>
              if ((x == (1 : Int)) = true) then
                if (((Array.toList (ByteArray.data r6.1)) == (Array.toList (ByteArray.data (ByteArray.mk (List.toArray (52 :: (50 :: (57 :: (52 :: (57 :: (54 :: (55 :: (50 :: (57 :: (54 :: []))))))))))))))) = true) then
                  Option.bind (Flimb_Of k (-(3 : Int))) fun r7 =>
                  Option.bind (Fshuntlaw01_same k r5.1 r5.2.1 r7.1 r7.2) fun r8 =>
                  if (r8 = true) then
                    Option.bind (Flimb_Of k (-(1 : Int))) fun r9 =>
                    Option.bind (Fshuntlaw01_same k r5.2.2.1 r5.2.2.2.1 r9.1 r9.2) fun r10 =>
                    if (r10 = true) then
                      Option.bind (Flimb_Check k true []) fun r11 =>
                      (some (r11 == (10 : Int)))
                    else
                    (some false)
                  else
                  (some false)
                else
                (some false)
              else
              (some false)
            else
            none
          else
          (some false)
        else
        (some false)
      else
      (some false)
    else
    (some false)
  else
  none
def Fshuntlaw01_awake : Nat → Option (Bool)
  | 0 => none
  | k + 1 => bshuntlaw01_awake k
def shshuntlaw01_awake : FS := { vs := [], bs := [] }
def rsshuntlaw01_awake : List FS := [{ vs := [.a (.lf .bool)], bs := [] }]
def Ishuntlaw01_awake (k : Nat) : Inst := ⟨11, shshuntlaw01_awake, rsshuntlaw01_awake, fun x => Fshuntlaw01_awake k⟩
theorem alshuntlaw01_awake (k : Nat) : AllI (call cf k) [Ilimb_Of k, Ilimb_Add k, Ilimb_QuoRem k, Ilimb_Text k, Ishuntlaw01_same k, Ilimb_Check k] := And.intro (oklimb_Of k) (And.intro (oklimb_Add k) (And.intro (oklimb_QuoRem k) (And.intro (oklimb_Text k) (And.intro (okshuntlaw01_same k) (And.intro (oklimb_Check k) (True.intro))))))
theorem anshuntlaw01_awake (k : Nat) : LAll (LOk (R := DS FS.D rsshuntlaw01_awake) (fun b _ σ K => LOt Ty (kps 11) 0 b σ K []) cf (call cf k) (cf.keep 11) Try.f11.ntmps k shshuntlaw01_awake.bs.length) 0 (bd Try.f11) :=
  And.intro (True.intro) (And.intro (True.intro) (And.intro (True.intro) (And.intro (True.intro) (And.intro (True.intro) (True.intro)))))
theorem stshuntlaw01_awake (k : Nat) (x : shshuntlaw01_awake.D) : Fshuntlaw01_awake (k + 1) = body2 cf (fun f a b K => COt f a b K [Ilimb_Of k, Ilimb_Add k, Ilimb_QuoRem k, Ilimb_Text k, Ishuntlaw01_same k, Ilimb_Check k]) (fun b _ σ K => LOt Ty (kps 11) 0 b σ K []) 11 Try.f11.ntmps Try.f11.results.toList (bd Try.f11) (shshuntlaw01_awake.enc x).1 (shshuntlaw01_awake.enc x).2 (putS FS.dec rsshuntlaw01_awake) := by kernel_rfl
theorem okshuntlaw01_awake : ∀ k, InstOk (call cf k) (Ishuntlaw01_awake k)
  | 0 => fun x y e => absurd (show (none : Option _) = some y from e) (by simp)
  | k + 1 => inst_ok (c := cf) (k := k) (f := 11) (fn := Try.f11) (body := bd Try.f11) (sh := shshuntlaw01_awake) (os := rsshuntlaw01_awake) rfl Try.func11 rfl ⟨rfl, Nat.le_of_ble_eq_true rfl⟩ (COt_ok (alshuntlaw01_awake k)) (anshuntlaw01_awake k) (fun x => Fshuntlaw01_awake (k + 1)) (stshuntlaw01_awake k)

/-! shunt/shuntlaw01.long -/
def bshuntlaw01_long (k : Nat) (a0 : Bool) (a1 : List Int) : Option (Bool) :=
  (some (decide ((((List.length a1) : Nat) : Int) > (80 : Int))))
def Fshuntlaw01_long : Nat → Bool → List Int → Option (Bool)
  | 0, _, _ => none
  | k + 1, a0, a1 => bshuntlaw01_long k a0 a1
def shshuntlaw01_long : FS := { vs := [.g [.lf .bool, .lf (.sl (.int .u32))]], bs := [] }
def rsshuntlaw01_long : List FS := [{ vs := [.a (.lf .bool)], bs := [] }]
def Ishuntlaw01_long (k : Nat) : Inst := ⟨12, shshuntlaw01_long, rsshuntlaw01_long, fun x => Fshuntlaw01_long k x.1 x.2⟩
theorem alshuntlaw01_long (k : Nat) : AllI (call cf k) [] := True.intro
theorem anshuntlaw01_long (k : Nat) : LAll (LOk (R := DS FS.D rsshuntlaw01_long) (fun b _ σ K => LOt Ty (kps 12) 0 b σ K []) cf (call cf k) (cf.keep 12) Try.f12.ntmps k shshuntlaw01_long.bs.length) 0 (bd Try.f12) :=
  And.intro (True.intro) (And.intro (True.intro) (True.intro))
theorem stshuntlaw01_long (k : Nat) (x : shshuntlaw01_long.D) : Fshuntlaw01_long (k + 1) x.1 x.2 = body2 cf (fun f a b K => COt f a b K []) (fun b _ σ K => LOt Ty (kps 12) 0 b σ K []) 12 Try.f12.ntmps Try.f12.results.toList (bd Try.f12) (shshuntlaw01_long.enc x).1 (shshuntlaw01_long.enc x).2 (putS FS.dec rsshuntlaw01_long) := by kernel_rfl
theorem okshuntlaw01_long : ∀ k, InstOk (call cf k) (Ishuntlaw01_long k)
  | 0 => fun x y e => absurd (show (none : Option _) = some y from e) (by simp)
  | k + 1 => inst_ok (c := cf) (k := k) (f := 12) (fn := Try.f12) (body := bd Try.f12) (sh := shshuntlaw01_long) (os := rsshuntlaw01_long) rfl Try.func12 rfl ⟨rfl, Nat.le_of_ble_eq_true rfl⟩ (COt_ok (alshuntlaw01_long k)) (anshuntlaw01_long k) (fun x => Fshuntlaw01_long (k + 1) x.1 x.2) (stshuntlaw01_long k)

/-! shunt/shuntlaw01.lent -/
def bshuntlaw01_lent (k : Nat) (a0 : Bool) (a1 : List Int) : Option (Bool × Nat × List Int) :=
  if (((0 + (List.length a1)) * 4) ≤ 140737488355328) then
    if ((0 + (List.length a1)) ≤ (List.length ((List.take 0 []) ++ a1))) then
      if ((((0 + (List.length a1)) + 1) * 4) ≤ 140737488355328) then
        if (((0 : Int) ≤ (0 : Int)) ∧ (((0 : Int) ≤ (((List.length a1) : Nat) : Int)) ∧ (((0 + (Int.toNat (((List.length a1) : Nat) : Int))) ≤ (List.length ((List.take (0 + (List.length a1)) ((List.take 0 []) ++ a1)) ++ (List.take 1 ((11259375 : Int) :: []))))) ∧ (((0 : Int) < (((List.length a1) : Nat) : Int)) ∨ (true = true))))) then
          (some (a0, (Int.toNat (((List.length a1) : Nat) : Int)), ((List.take (0 + (List.length a1)) ((List.take 0 []) ++ a1)) ++ (List.take 1 ((11259375 : Int) :: [])))))
        else
        none
      else
      none
    else
    none
  else
  none
def Fshuntlaw01_lent : Nat → Bool → List Int → Option (Bool × Nat × List Int)
  | 0, _, _ => none
  | k + 1, a0, a1 => bshuntlaw01_lent k a0 a1
def shshuntlaw01_lent : FS := { vs := [.g [.lf .bool, .lf (.sl (.int .u32))]], bs := [] }
def rsshuntlaw01_lent : List FS := [{ vs := [.g [.lf .bool, .smz 0]], bs := [.arr (.int .u32) 1 64 false] }]
def Ishuntlaw01_lent (k : Nat) : Inst := ⟨13, shshuntlaw01_lent, rsshuntlaw01_lent, fun x => Fshuntlaw01_lent k x.1 x.2⟩
theorem alshuntlaw01_lent (k : Nat) : AllI (call cf k) [] := True.intro
theorem anshuntlaw01_lent (k : Nat) : LAll (LOk (R := DS FS.D rsshuntlaw01_lent) (fun b _ σ K => LOt Ty (kps 13) 0 b σ K []) cf (call cf k) (cf.keep 13) Try.f13.ntmps k shshuntlaw01_lent.bs.length) 0 (bd Try.f13) :=
  And.intro (True.intro) (And.intro (True.intro) (True.intro))
theorem stshuntlaw01_lent (k : Nat) (x : shshuntlaw01_lent.D) : Fshuntlaw01_lent (k + 1) x.1 x.2 = body2 cf (fun f a b K => COt f a b K []) (fun b _ σ K => LOt Ty (kps 13) 0 b σ K []) 13 Try.f13.ntmps Try.f13.results.toList (bd Try.f13) (shshuntlaw01_lent.enc x).1 (shshuntlaw01_lent.enc x).2 (putS FS.dec rsshuntlaw01_lent) := by kernel_rfl
theorem okshuntlaw01_lent : ∀ k, InstOk (call cf k) (Ishuntlaw01_lent k)
  | 0 => fun x y e => absurd (show (none : Option _) = some y from e) (by simp)
  | k + 1 => inst_ok (c := cf) (k := k) (f := 13) (fn := Try.f13) (body := bd Try.f13) (sh := shshuntlaw01_lent) (os := rsshuntlaw01_lent) rfl Try.func13 rfl ⟨rfl, Nat.le_of_ble_eq_true rfl⟩ (COt_ok (alshuntlaw01_lent k)) (anshuntlaw01_lent k) (fun x => Fshuntlaw01_lent (k + 1) x.1 x.2) (stshuntlaw01_lent k)

/-! shunt/shuntref01.Right -/
def bshuntref01_Right (k : Nat) (a0 : Bool) (a1 : List Int) : Option (Bool) :=
  if ((decide ((((List.length a1) : Nat) : Int) > (72 : Int))) = true) then
    (some false)
  else
  if (((((List.length a1) : Nat) : Int) == (0 : Int)) = true) then
    (some (!a0))
  else
  if ((0 : Int) ≤ (IntKind.wrap .i64 ((((List.length a1) : Nat) : Int) - (1 : Int)))) then
    Option.bind (a1)[(Int.toNat (IntKind.wrap .i64 ((((List.length a1) : Nat) : Int) - (1 : Int))))]? fun x =>
    (some (x != (0 : Int)))
  else
  none
def Fshuntref01_Right : Nat → Bool → List Int → Option (Bool)
  | 0, _, _ => none
  | k + 1, a0, a1 => bshuntref01_Right k a0 a1
def shshuntref01_Right : FS := { vs := [.g [.lf .bool, .lf (.sl (.int .u32))]], bs := [] }
def rsshuntref01_Right : List FS := [{ vs := [.a (.lf .bool)], bs := [] }]
def Ishuntref01_Right (k : Nat) : Inst := ⟨21, shshuntref01_Right, rsshuntref01_Right, fun x => Fshuntref01_Right k x.1 x.2⟩
theorem alshuntref01_Right (k : Nat) : AllI (call cf k) [] := True.intro
theorem anshuntref01_Right (k : Nat) : LAll (LOk (R := DS FS.D rsshuntref01_Right) (fun b _ σ K => LOt Ty (kps 21) 0 b σ K []) cf (call cf k) (cf.keep 21) Try.f21.ntmps k shshuntref01_Right.bs.length) 0 (bd Try.f21) :=
  And.intro (True.intro) (And.intro (True.intro) (And.intro (And.intro (True.intro) (And.intro (And.intro (True.intro) (True.intro)) (True.intro))) (And.intro (And.intro (True.intro) (And.intro (And.intro (True.intro) (True.intro)) (True.intro))) (And.intro (True.intro) (True.intro)))))
theorem stshuntref01_Right (k : Nat) (x : shshuntref01_Right.D) : Fshuntref01_Right (k + 1) x.1 x.2 = body2 cf (fun f a b K => COt f a b K []) (fun b _ σ K => LOt Ty (kps 21) 0 b σ K []) 21 Try.f21.ntmps Try.f21.results.toList (bd Try.f21) (shshuntref01_Right.enc x).1 (shshuntref01_Right.enc x).2 (putS FS.dec rsshuntref01_Right) := by kernel_rfl
theorem okshuntref01_Right : ∀ k, InstOk (call cf k) (Ishuntref01_Right k)
  | 0 => fun x y e => absurd (show (none : Option _) = some y from e) (by simp)
  | k + 1 => inst_ok (c := cf) (k := k) (f := 21) (fn := Try.f21) (body := bd Try.f21) (sh := shshuntref01_Right) (os := rsshuntref01_Right) rfl Try.func21 rfl ⟨rfl, Nat.le_of_ble_eq_true rfl⟩ (COt_ok (alshuntref01_Right k)) (anshuntref01_Right k) (fun x => Fshuntref01_Right (k + 1) x.1 x.2) (stshuntref01_Right k)

/-! shunt/shuntref01.trim -/
def Lshuntref01_trim_mfi_0s (k : Nat) (rec : Nat → Int → List Int → Option (Nat × Int × List Int)) (d : Nat) (n : Int) (ds : List Int) : Option (Nat × Int × List Int) :=
  if ((decide (n > (0 : Int))) = true) then
    if (((0 : Int) ≤ (IntKind.wrap .i64 (n - (1 : Int)))) ∧ ((IntKind.wrap .i64 (n - (1 : Int))) < ((d : Nat) : Int))) then
      Option.bind (ds)[(0 + (Int.toNat (IntKind.wrap .i64 (n - (1 : Int)))))]? fun x =>
      if ((x == (0 : Int)) = true) then
        rec d (IntKind.wrap .i64 (n - (1 : Int))) ds
      else
      (some (d, n, ds))
    else
    none
  else
  (some (d, n, ds))
def Lshuntref01_trim_mfi_0 (k n : Nat) : Nat → Int → List Int → Option (Nat × Int × List Int) := Nat.rec (fun _ _ _ => none) (fun _ r => Lshuntref01_trim_mfi_0s k r) n
def bshuntref01_trim_mfi (k : Nat) (d : Nat) (ds : List Int) : Option (Nat × List Int) :=
  Option.bind (Lshuntref01_trim_mfi_0 k k d ((d : Nat) : Int) ds) fun r9 =>
  if (((0 : Int) ≤ (0 : Int)) ∧ (((0 : Int) ≤ r9.2.1) ∧ (((0 + (Int.toNat r9.2.1)) ≤ (List.length r9.2.2)) ∧ (((0 : Int) < r9.2.1) ∨ (true = true))))) then
    (some ((Int.toNat r9.2.1), r9.2.2))
  else
  none
def Fshuntref01_trim_mfi : Nat → Nat → List Int → Option (Nat × List Int)
  | 0, _, _ => none
  | k + 1, d, ds => bshuntref01_trim_mfi k d ds
def shshuntref01_trim_mfi : FS := { vs := [.a (.smz 0)], bs := [.arr (.int .i64) 1 3 false] }
def rsshuntref01_trim_mfi : List FS := [{ vs := [.a (.smz 0)], bs := [.arr (.int .i64) 1 3 false] }]
def Ishuntref01_trim_mfi (k : Nat) : Inst := ⟨71, shshuntref01_trim_mfi, rsshuntref01_trim_mfi, fun x => Fshuntref01_trim_mfi k x.1 x.2⟩
theorem alshuntref01_trim_mfi (k : Nat) : AllI (call cf k) [] := True.intro
def hsshuntref01_trim_mfi_0 : List SS := [{ fr := [(0, .a (.smz 0)), (3, .a (.lf (.int .i64)))], mem := [(0, some (.arr (.int .i64) 1 3 false))], nx := 1 }]
def osshuntref01_trim_mfi_0 : List OS := [⟨some 0, { fr := [(0, .a (.smz 0)), (3, .a (.lf (.int .i64)))], mem := [(0, some (.arr (.int .i64) 1 3 false))], nx := 1 }⟩]
def LIshuntref01_trim_mfi_0 (k : Nat) : LInst := ⟨0, hsshuntref01_trim_mfi_0, osshuntref01_trim_mfi_0, fun x => Lshuntref01_trim_mfi_0 k k x.1 x.2.1 x.2.2⟩
theorem anshuntref01_trim_mfi_0 (k : Nat) : LAll (LOk (R := DS OS.D osshuntref01_trim_mfi_0) (fun b _ σ K => LOt Ty (kps 71) 1 b σ K []) cf (call cf k) (kps 71) Try.f71.ntmps k 1) 0 (lb Try.f71 0) :=
  And.intro (And.intro (True.intro) (And.intro (True.intro) (True.intro))) (True.intro)
theorem stshuntref01_trim_mfi_0 (k n : Nat) (x : DS SS.D hsshuntref01_trim_mfi_0) : Lshuntref01_trim_mfi_0 k (n + 1) x.1 x.2.1 x.2.2 = encSK SS.enc (fun σ => run2 cf (fun f a b K => COt f a b K []) (fun b _ σ K => LOt Ty (kps 71) 1 b σ K []) Try.f71.ntmps 0 (lb Try.f71 0) σ (nextK Ty (kps 71 0) 1 hsshuntref01_trim_mfi_0 osshuntref01_trim_mfi_0 fun x => Lshuntref01_trim_mfi_0 k n x.1 x.2.1 x.2.2)) hsshuntref01_trim_mfi_0 x := by kernel_rfl
theorem loshuntref01_trim_mfi_0 (k : Nat) : LIOk cf (call cf k) (kps 71) Try.f71.ntmps k 1 0 (lb Try.f71 0) (LIshuntref01_trim_mfi_0 k) :=
  loop_ok (c := cf) (callF := call cf k) (kp := kps 71) (nt := Try.f71.ntmps) (k := k) (p := 1) (b := 0) (x0 := lb Try.f71 0) (hs := hsshuntref01_trim_mfi_0) (os := osshuntref01_trim_mfi_0) (COt_ok (alshuntref01_trim_mfi k)) (anshuntref01_trim_mfi_0 k) (fun n x => Lshuntref01_trim_mfi_0 k n x.1 x.2.1 x.2.2) (fun _ => rfl) (stshuntref01_trim_mfi_0 k)
theorem anshuntref01_trim_mfi (k : Nat) : LAll (LOk (R := DS FS.D rsshuntref01_trim_mfi) (fun b _ σ K => LOt Ty (kps 71) 1 b σ K [LIshuntref01_trim_mfi_0 k]) cf (call cf k) (cf.keep 71) Try.f71.ntmps k shshuntref01_trim_mfi.bs.length) 0 (bd Try.f71) :=
  And.intro (True.intro) (And.intro (True.intro) (And.intro (LOt_ok (c := cf) (callF := call cf k) (kp := kps 71) (nt := Try.f71.ntmps) (k := k) (p := 1) (b := 0) (x0 := lb Try.f71 0) (l := [LIshuntref01_trim_mfi_0 k]) (And.intro (fun _ => loshuntref01_trim_mfi_0 k) (True.intro))) (And.intro (True.intro) (True.intro))))
theorem stshuntref01_trim_mfi (k : Nat) (x : shshuntref01_trim_mfi.D) : Fshuntref01_trim_mfi (k + 1) x.1 x.2 = body2 cf (fun f a b K => COt f a b K []) (fun b _ σ K => LOt Ty (kps 71) 1 b σ K [LIshuntref01_trim_mfi_0 k]) 71 Try.f71.ntmps Try.f71.results.toList (bd Try.f71) (shshuntref01_trim_mfi.enc x).1 (shshuntref01_trim_mfi.enc x).2 (putS FS.dec rsshuntref01_trim_mfi) := by kernel_rfl
theorem okshuntref01_trim_mfi : ∀ k, InstOk (call cf k) (Ishuntref01_trim_mfi k)
  | 0 => fun x y e => absurd (show (none : Option _) = some y from e) (by simp)
  | k + 1 => inst_ok (c := cf) (k := k) (f := 71) (fn := Try.f71) (body := bd Try.f71) (sh := shshuntref01_trim_mfi) (os := rsshuntref01_trim_mfi) rfl Try.func71 rfl ⟨rfl, Nat.le_of_ble_eq_true rfl⟩ (COt_ok (alshuntref01_trim_mfi k)) (anshuntref01_trim_mfi k) (fun x => Fshuntref01_trim_mfi (k + 1) x.1 x.2) (stshuntref01_trim_mfi k)

/-! shunt/shuntref01.Take -/
def Lshuntref01_Take_0s (k : Nat) (rec : Nat → Int → Bool → List Int → Bool → Nat → List Int → List Int → Option (Nat × Bool × List Int × Bool × Nat × List Int × List Int)) (d : Nat) (i : Int) (a0 : Bool) (a1 : List Int) (x0 : Bool) (x1 : Nat) (ds : List Int) (m : List Int) : Option (Nat × Bool × List Int × Bool × Nat × List Int × List Int) :=
  if ((decide (i < (((List.length a1) : Nat) : Int))) = true) then
    if ((0 : Int) ≤ i) then
      Option.bind (a1)[(Int.toNat i)]? fun x =>
      if ((0 : Int) ≤ i) then
        Option.bind (a1)[(Int.toNat i)]? fun x2 =>
        if (d ≤ (List.length ds)) then
          if (((d + (List.length (List.take 2 ((IntKind.wrap .i64 (Int.tmod x (65536 : Int))) :: ((IntKind.wrap .i64 (IntKind.wrap .u32 (Int.tdiv x2 (65536 : Int)))) :: []))))) * 8) ≤ 140737488355328) then
            rec (d + (List.length (List.take 2 ((IntKind.wrap .i64 (Int.tmod x (65536 : Int))) :: ((IntKind.wrap .i64 (IntKind.wrap .u32 (Int.tdiv x2 (65536 : Int)))) :: []))))) (IntKind.wrap .i64 (i + (1 : Int))) a0 a1 x0 x1 ((List.take d ds) ++ (List.take 2 ((IntKind.wrap .i64 (Int.tmod x (65536 : Int))) :: ((IntKind.wrap .i64 (IntKind.wrap .u32 (Int.tdiv x2 (65536 : Int)))) :: [])))) m
          else
          none
        else
        none
      else
      none
    else
    none
  else
  (some (d, a0, a1, x0, x1, ds, m))
def Lshuntref01_Take_0 (k n : Nat) : Nat → Int → Bool → List Int → Bool → Nat → List Int → List Int → Option (Nat × Bool × List Int × Bool × Nat × List Int × List Int) := Nat.rec (fun _ _ _ _ _ _ _ _ => none) (fun _ r => Lshuntref01_Take_0s k r) n
def bshuntref01_Take (k : Nat) (a0 : Bool) (a1 : List Int) : Option (Bool × List Int) :=
  Option.bind (Lshuntref01_Take_0 k k 0 (0 : Int) a0 a1 false 0 [] []) fun r8 =>
  Option.bind (Fshuntref01_trim_mfi k r8.1 r8.2.2.2.2.2.1) fun r9 =>
  if (r8.2.1 = true) then
    if ((0 + r9.1) ≤ (List.length r9.2)) then
      (some ((decide (((r9.1 : Nat) : Int) > (0 : Int))), (List.take r9.1 r9.2)))
    else
    none
  else
  if ((0 + r9.1) ≤ (List.length r9.2)) then
    (some (false, (List.take r9.1 r9.2)))
  else
  none
def Fshuntref01_Take : Nat → Bool → List Int → Option (Bool × List Int)
  | 0, _, _ => none
  | k + 1, a0, a1 => bshuntref01_Take k a0 a1
def shshuntref01_Take : FS := { vs := [.g [.lf .bool, .lf (.sl (.int .u32))]], bs := [] }
def rsshuntref01_Take : List FS := [{ vs := [.g [.lf .bool, .lf (.sl (.int .i64))]], bs := [] }]
def Ishuntref01_Take (k : Nat) : Inst := ⟨43, shshuntref01_Take, rsshuntref01_Take, fun x => Fshuntref01_Take k x.1 x.2⟩
theorem alshuntref01_Take (k : Nat) : AllI (call cf k) [Ishuntref01_trim_mfi k] := And.intro (okshuntref01_trim_mfi k) (True.intro)
def hsshuntref01_Take_0 : List SS := [{ fr := [(1, .a (.ptr 0 0 0)), (2, .a (.ptr 1 0 0)), (3, .a (.smz 2)), (4, .a (.lf (.int .i64)))], mem := [(0, some (.raw [[.lf .bool, .lf (.sl (.int .u32))]] 2 24 true false)), (1, some (.raw [[.lf .bool, .smz 3]] 2 50 false false)), (2, some (.arr (.int .i64) 1 3 false)), (3, some (.arr (.int .i64) 1 3 false))], nx := 4 }]
def osshuntref01_Take_0 : List OS := [⟨some 0, { fr := [(1, .a (.ptr 0 0 0)), (2, .a (.ptr 1 0 0)), (3, .a (.smz 2))], mem := [(0, some (.raw [[.lf .bool, .lf (.sl (.int .u32))]] 2 24 true false)), (1, some (.raw [[.lf .bool, .smz 3]] 2 50 false false)), (2, some (.arr (.int .i64) 1 3 false)), (3, some (.arr (.int .i64) 1 3 false))], nx := 4 }⟩]
def LIshuntref01_Take_0 (k : Nat) : LInst := ⟨0, hsshuntref01_Take_0, osshuntref01_Take_0, fun x => Lshuntref01_Take_0 k k x.1 x.2.1 x.2.2.1 x.2.2.2.1 x.2.2.2.2.1 x.2.2.2.2.2.1 x.2.2.2.2.2.2.1 x.2.2.2.2.2.2.2⟩
theorem anshuntref01_Take_0 (k : Nat) : LAll (LOk (R := DS OS.D osshuntref01_Take_0) (fun b _ σ K => LOt Ty (kps 43) 0 b σ K []) cf (call cf k) (kps 43) Try.f43.ntmps k 0) 0 (lb Try.f43 0) :=
  And.intro (And.intro (True.intro) (And.intro (True.intro) (True.intro))) (And.intro (True.intro) (True.intro))
theorem stshuntref01_Take_0 (k n : Nat) (x : DS SS.D hsshuntref01_Take_0) : Lshuntref01_Take_0 k (n + 1) x.1 x.2.1 x.2.2.1 x.2.2.2.1 x.2.2.2.2.1 x.2.2.2.2.2.1 x.2.2.2.2.2.2.1 x.2.2.2.2.2.2.2 = encSK SS.enc (fun σ => run2 cf (fun f a b K => COt f a b K [Ishuntref01_trim_mfi k]) (fun b _ σ K => LOt Ty (kps 43) 0 b σ K []) Try.f43.ntmps 0 (lb Try.f43 0) σ (nextK Ty (kps 43 0) 0 hsshuntref01_Take_0 osshuntref01_Take_0 fun x => Lshuntref01_Take_0 k n x.1 x.2.1 x.2.2.1 x.2.2.2.1 x.2.2.2.2.1 x.2.2.2.2.2.1 x.2.2.2.2.2.2.1 x.2.2.2.2.2.2.2)) hsshuntref01_Take_0 x := by kernel_rfl
theorem loshuntref01_Take_0 (k : Nat) : LIOk cf (call cf k) (kps 43) Try.f43.ntmps k 0 0 (lb Try.f43 0) (LIshuntref01_Take_0 k) :=
  loop_ok (c := cf) (callF := call cf k) (kp := kps 43) (nt := Try.f43.ntmps) (k := k) (p := 0) (b := 0) (x0 := lb Try.f43 0) (hs := hsshuntref01_Take_0) (os := osshuntref01_Take_0) (COt_ok (alshuntref01_Take k)) (anshuntref01_Take_0 k) (fun n x => Lshuntref01_Take_0 k n x.1 x.2.1 x.2.2.1 x.2.2.2.1 x.2.2.2.2.1 x.2.2.2.2.2.1 x.2.2.2.2.2.2.1 x.2.2.2.2.2.2.2) (fun _ => rfl) (stshuntref01_Take_0 k)
theorem anshuntref01_Take (k : Nat) : LAll (LOk (R := DS FS.D rsshuntref01_Take) (fun b _ σ K => LOt Ty (kps 43) 0 b σ K [LIshuntref01_Take_0 k]) cf (call cf k) (cf.keep 43) Try.f43.ntmps k shshuntref01_Take.bs.length) 0 (bd Try.f43) :=
  And.intro (True.intro) (And.intro (True.intro) (And.intro (And.intro (True.intro) (LOt_ok (c := cf) (callF := call cf k) (kp := kps 43) (nt := Try.f43.ntmps) (k := k) (p := 0) (b := 0) (x0 := lb Try.f43 0) (l := [LIshuntref01_Take_0 k]) (And.intro (fun _ => loshuntref01_Take_0 k) (True.intro)))) (And.intro (True.intro) (And.intro (True.intro) (True.intro)))))
theorem stshuntref01_Take (k : Nat) (x : shshuntref01_Take.D) : Fshuntref01_Take (k + 1) x.1 x.2 = body2 cf (fun f a b K => COt f a b K [Ishuntref01_trim_mfi k]) (fun b _ σ K => LOt Ty (kps 43) 0 b σ K [LIshuntref01_Take_0 k]) 43 Try.f43.ntmps Try.f43.results.toList (bd Try.f43) (shshuntref01_Take.enc x).1 (shshuntref01_Take.enc x).2 (putS FS.dec rsshuntref01_Take) := by kernel_rfl
theorem okshuntref01_Take : ∀ k, InstOk (call cf k) (Ishuntref01_Take k)
  | 0 => fun x y e => absurd (show (none : Option _) = some y from e) (by simp)
  | k + 1 => inst_ok (c := cf) (k := k) (f := 43) (fn := Try.f43) (body := bd Try.f43) (sh := shshuntref01_Take) (os := rsshuntref01_Take) rfl Try.func43 rfl ⟨rfl, Nat.le_of_ble_eq_true rfl⟩ (COt_ok (alshuntref01_Take k)) (anshuntref01_Take k) (fun x => Fshuntref01_Take (k + 1) x.1 x.2) (stshuntref01_Take k)

/-! shunt/shuntref01.mags -/
def Lshuntref01_mags_0s (k : Nat) (rec : List Int → List Int → Int → Option ((Int) ⊕ (Unit))) (a : List Int) (b : List Int) (i : Int) : Option ((Int) ⊕ (Unit)) :=
  if ((decide (i ≥ (0 : Int))) = true) then
    if ((0 : Int) ≤ i) then
      Option.bind (a)[(Int.toNat i)]? fun x2 =>
      if ((0 : Int) ≤ i) then
        Option.bind (b)[(Int.toNat i)]? fun x3 =>
        if ((decide (x2 < x3)) = true) then
          (some (Sum.inl (-(1 : Int))))
        else
        if ((0 : Int) ≤ i) then
          Option.bind (a)[(Int.toNat i)]? fun x4 =>
          if ((0 : Int) ≤ i) then
            Option.bind (b)[(Int.toNat i)]? fun x5 =>
            if ((decide (x4 > x5)) = true) then
              (some (Sum.inl (1 : Int)))
            else
            rec a b (IntKind.wrap .i64 (i - (1 : Int)))
          else
          none
        else
        none
      else
      none
    else
    none
  else
  (some (Sum.inr ()))
def Lshuntref01_mags_0 (k n : Nat) : List Int → List Int → Int → Option ((Int) ⊕ (Unit)) := Nat.rec (fun _ _ _ => none) (fun _ r => Lshuntref01_mags_0s k r) n
def bshuntref01_mags (k : Nat) (a : List Int) (b : List Int) : Option (Int) :=
  if (((((List.length a) : Nat) : Int) != (((List.length b) : Nat) : Int)) = true) then
    if ((decide ((((List.length a) : Nat) : Int) < (((List.length b) : Nat) : Int))) = true) then
      (some (-(1 : Int)))
    else
    (some (1 : Int))
  else
  Option.bind (Lshuntref01_mags_0 k k a b (IntKind.wrap .i64 ((((List.length a) : Nat) : Int) - (1 : Int)))) fun r11 =>
  eitherK r11
    (fun r11 =>
    (some r11))
    (fun r11 =>
    (some (0 : Int)))
def Fshuntref01_mags : Nat → List Int → List Int → Option (Int)
  | 0, _, _ => none
  | k + 1, a, b => bshuntref01_mags k a b
def shshuntref01_mags : FS := { vs := [.a (.lf (.sl (.int .i64))), .a (.lf (.sl (.int .i64)))], bs := [] }
def rsshuntref01_mags : List FS := [{ vs := [.a (.lf (.int .i64))], bs := [] }]
def Ishuntref01_mags (k : Nat) : Inst := ⟨77, shshuntref01_mags, rsshuntref01_mags, fun x => Fshuntref01_mags k x.1 x.2⟩
theorem alshuntref01_mags (k : Nat) : AllI (call cf k) [] := True.intro
def hsshuntref01_mags_0 : List SS := [{ fr := [(0, .a (.lf (.sl (.int .i64)))), (1, .a (.lf (.sl (.int .i64)))), (5, .a (.lf (.int .i64)))], mem := [], nx := 0 }]
def osshuntref01_mags_0 : List OS := [⟨none, { fr := [(4, .a (.lf (.int .i64)))], mem := [], nx := 0 }⟩, ⟨some 0, { fr := [], mem := [], nx := 0 }⟩]
def LIshuntref01_mags_0 (k : Nat) : LInst := ⟨0, hsshuntref01_mags_0, osshuntref01_mags_0, fun x => Lshuntref01_mags_0 k k x.1 x.2.1 x.2.2⟩
theorem anshuntref01_mags_0 (k : Nat) : LAll (LOk (R := DS OS.D osshuntref01_mags_0) (fun b _ σ K => LOt Ty (kps 77) 0 b σ K []) cf (call cf k) (kps 77) Try.f77.ntmps k 0) 0 (lb Try.f77 0) :=
  And.intro (And.intro (True.intro) (And.intro (True.intro) (True.intro))) (And.intro (And.intro (And.intro (True.intro) (And.intro (And.intro (True.intro) (True.intro)) (True.intro))) (And.intro (True.intro) (And.intro (And.intro (True.intro) (True.intro)) (True.intro)))) (True.intro))
theorem stshuntref01_mags_0 (k n : Nat) (x : DS SS.D hsshuntref01_mags_0) : Lshuntref01_mags_0 k (n + 1) x.1 x.2.1 x.2.2 = encSK SS.enc (fun σ => run2 cf (fun f a b K => COt f a b K []) (fun b _ σ K => LOt Ty (kps 77) 0 b σ K []) Try.f77.ntmps 0 (lb Try.f77 0) σ (nextK Ty (kps 77 0) 0 hsshuntref01_mags_0 osshuntref01_mags_0 fun x => Lshuntref01_mags_0 k n x.1 x.2.1 x.2.2)) hsshuntref01_mags_0 x := by kernel_rfl
theorem loshuntref01_mags_0 (k : Nat) : LIOk cf (call cf k) (kps 77) Try.f77.ntmps k 0 0 (lb Try.f77 0) (LIshuntref01_mags_0 k) :=
  loop_ok (c := cf) (callF := call cf k) (kp := kps 77) (nt := Try.f77.ntmps) (k := k) (p := 0) (b := 0) (x0 := lb Try.f77 0) (hs := hsshuntref01_mags_0) (os := osshuntref01_mags_0) (COt_ok (alshuntref01_mags k)) (anshuntref01_mags_0 k) (fun n x => Lshuntref01_mags_0 k n x.1 x.2.1 x.2.2) (fun _ => rfl) (stshuntref01_mags_0 k)
theorem anshuntref01_mags (k : Nat) : LAll (LOk (R := DS FS.D rsshuntref01_mags) (fun b _ σ K => LOt Ty (kps 77) 0 b σ K [LIshuntref01_mags_0 k]) cf (call cf k) (cf.keep 77) Try.f77.ntmps k shshuntref01_mags.bs.length) 0 (bd Try.f77) :=
  And.intro (True.intro) (And.intro (And.intro (True.intro) (And.intro (And.intro (And.intro (True.intro) (And.intro (And.intro (True.intro) (True.intro)) (True.intro))) (And.intro (True.intro) (True.intro))) (True.intro))) (And.intro (And.intro (True.intro) (LOt_ok (c := cf) (callF := call cf k) (kp := kps 77) (nt := Try.f77.ntmps) (k := k) (p := 0) (b := 0) (x0 := lb Try.f77 0) (l := [LIshuntref01_mags_0 k]) (And.intro (fun _ => loshuntref01_mags_0 k) (True.intro)))) (And.intro (True.intro) (True.intro))))
theorem stshuntref01_mags (k : Nat) (x : shshuntref01_mags.D) : Fshuntref01_mags (k + 1) x.1 x.2 = body2 cf (fun f a b K => COt f a b K []) (fun b _ σ K => LOt Ty (kps 77) 0 b σ K [LIshuntref01_mags_0 k]) 77 Try.f77.ntmps Try.f77.results.toList (bd Try.f77) (shshuntref01_mags.enc x).1 (shshuntref01_mags.enc x).2 (putS FS.dec rsshuntref01_mags) := by kernel_rfl
theorem okshuntref01_mags : ∀ k, InstOk (call cf k) (Ishuntref01_mags k)
  | 0 => fun x y e => absurd (show (none : Option _) = some y from e) (by simp)
  | k + 1 => inst_ok (c := cf) (k := k) (f := 77) (fn := Try.f77) (body := bd Try.f77) (sh := shshuntref01_mags) (os := rsshuntref01_mags) rfl Try.func77 rfl ⟨rfl, Nat.le_of_ble_eq_true rfl⟩ (COt_ok (alshuntref01_mags k)) (anshuntref01_mags k) (fun x => Fshuntref01_mags (k + 1) x.1 x.2) (stshuntref01_mags k)

/-! shunt/shuntref01.Small -/
def Lshuntref01_Small_0s (k : Nat) (rec : Int → Bool → Nat → Bool → Nat → List Int → List Int → Option (Bool × Nat × Bool × Nat × List Int × List Int)) (v : Int) (x0 : Bool) (x1 : Nat) (a0 : Bool) (a1 : Nat) (m : List Int) (m1 : List Int) : Option (Bool × Nat × Bool × Nat × List Int × List Int) :=
  if ((decide (v > (0 : Int))) = true) then
    if (a1 ≤ (List.length m1)) then
      if (((a1 + (List.length (List.take 1 ((Int.tmod v (65536 : Int)) :: [])))) * 8) ≤ 140737488355328) then
        rec (IntKind.wrap .i64 (Int.tdiv v (65536 : Int))) x0 x1 a0 (a1 + (List.length (List.take 1 ((Int.tmod v (65536 : Int)) :: [])))) m ((List.take a1 m1) ++ (List.take 1 ((Int.tmod v (65536 : Int)) :: [])))
      else
      none
    else
    none
  else
  (some (x0, x1, a0, a1, m, m1))
def Lshuntref01_Small_0 (k n : Nat) : Int → Bool → Nat → Bool → Nat → List Int → List Int → Option (Bool × Nat × Bool × Nat × List Int × List Int) := Nat.rec (fun _ _ _ _ _ _ _ => none) (fun _ r => Lshuntref01_Small_0s k r) n
def bshuntref01_Small (k : Nat) (v : Int) : Option (Bool × List Int) :=
  if ((decide (v < (0 : Int))) = true) then
    Option.bind (Lshuntref01_Small_0 k k (IntKind.wrap .i64 ((0 : Int) - v)) false 0 true 0 [] []) fun r12 =>
    if ((0 + r12.2.2.2.1) ≤ (List.length r12.2.2.2.2.2)) then
      (some (r12.2.2.1, (List.take r12.2.2.2.1 r12.2.2.2.2.2)))
    else
    none
  else
  Option.bind (Lshuntref01_Small_0 k k v false 0 false 0 [] []) fun r12 =>
  if ((0 + r12.2.2.2.1) ≤ (List.length r12.2.2.2.2.2)) then
    (some (r12.2.2.1, (List.take r12.2.2.2.1 r12.2.2.2.2.2)))
  else
  none
def Fshuntref01_Small : Nat → Int → Option (Bool × List Int)
  | 0, _ => none
  | k + 1, v => bshuntref01_Small k v
def shshuntref01_Small : FS := { vs := [.a (.lf (.int .i64))], bs := [] }
def rsshuntref01_Small : List FS := [{ vs := [.g [.lf .bool, .lf (.sl (.int .i64))]], bs := [] }]
def Ishuntref01_Small (k : Nat) : Inst := ⟨74, shshuntref01_Small, rsshuntref01_Small, fun x => Fshuntref01_Small k x⟩
theorem alshuntref01_Small (k : Nat) : AllI (call cf k) [] := True.intro
def hsshuntref01_Small_0 : List SS := [{ fr := [(0, .a (.lf (.int .i64))), (2, .a (.ptr 0 0 0)), (3, .a (.ptr 1 0 0))], mem := [(0, some (.raw [[.lf .bool, .smz 2]] 2 50 false false)), (1, some (.raw [[.lf .bool, .smz 3]] 2 50 false false)), (2, some (.arr (.int .i64) 1 3 false)), (3, some (.arr (.int .i64) 1 3 false))], nx := 4 }]
def osshuntref01_Small_0 : List OS := [⟨some 0, { fr := [(2, .a (.ptr 0 0 0)), (3, .a (.ptr 1 0 0))], mem := [(0, some (.raw [[.lf .bool, .smz 2]] 2 50 false false)), (1, some (.raw [[.lf .bool, .smz 3]] 2 50 false false)), (2, some (.arr (.int .i64) 1 3 false)), (3, some (.arr (.int .i64) 1 3 false))], nx := 4 }⟩]
def LIshuntref01_Small_0 (k : Nat) : LInst := ⟨0, hsshuntref01_Small_0, osshuntref01_Small_0, fun x => Lshuntref01_Small_0 k k x.1 x.2.1 x.2.2.1 x.2.2.2.1 x.2.2.2.2.1 x.2.2.2.2.2.1 x.2.2.2.2.2.2⟩
theorem anshuntref01_Small_0 (k : Nat) : LAll (LOk (R := DS OS.D osshuntref01_Small_0) (fun b _ σ K => LOt Ty (kps 74) 0 b σ K []) cf (call cf k) (kps 74) Try.f74.ntmps k 0) 0 (lb Try.f74 0) :=
  And.intro (And.intro (True.intro) (And.intro (True.intro) (True.intro))) (And.intro (True.intro) (True.intro))
theorem stshuntref01_Small_0 (k n : Nat) (x : DS SS.D hsshuntref01_Small_0) : Lshuntref01_Small_0 k (n + 1) x.1 x.2.1 x.2.2.1 x.2.2.2.1 x.2.2.2.2.1 x.2.2.2.2.2.1 x.2.2.2.2.2.2 = encSK SS.enc (fun σ => run2 cf (fun f a b K => COt f a b K []) (fun b _ σ K => LOt Ty (kps 74) 0 b σ K []) Try.f74.ntmps 0 (lb Try.f74 0) σ (nextK Ty (kps 74 0) 0 hsshuntref01_Small_0 osshuntref01_Small_0 fun x => Lshuntref01_Small_0 k n x.1 x.2.1 x.2.2.1 x.2.2.2.1 x.2.2.2.2.1 x.2.2.2.2.2.1 x.2.2.2.2.2.2)) hsshuntref01_Small_0 x := by kernel_rfl
theorem loshuntref01_Small_0 (k : Nat) : LIOk cf (call cf k) (kps 74) Try.f74.ntmps k 0 0 (lb Try.f74 0) (LIshuntref01_Small_0 k) :=
  loop_ok (c := cf) (callF := call cf k) (kp := kps 74) (nt := Try.f74.ntmps) (k := k) (p := 0) (b := 0) (x0 := lb Try.f74 0) (hs := hsshuntref01_Small_0) (os := osshuntref01_Small_0) (COt_ok (alshuntref01_Small k)) (anshuntref01_Small_0 k) (fun n x => Lshuntref01_Small_0 k n x.1 x.2.1 x.2.2.1 x.2.2.2.1 x.2.2.2.2.1 x.2.2.2.2.2.1 x.2.2.2.2.2.2) (fun _ => rfl) (stshuntref01_Small_0 k)
theorem anshuntref01_Small (k : Nat) : LAll (LOk (R := DS FS.D rsshuntref01_Small) (fun b _ σ K => LOt Ty (kps 74) 0 b σ K [LIshuntref01_Small_0 k]) cf (call cf k) (cf.keep 74) Try.f74.ntmps k shshuntref01_Small.bs.length) 0 (bd Try.f74) :=
  And.intro (True.intro) (And.intro (True.intro) (And.intro (And.intro (True.intro) (And.intro (And.intro (True.intro) (True.intro)) (True.intro))) (And.intro (LOt_ok (c := cf) (callF := call cf k) (kp := kps 74) (nt := Try.f74.ntmps) (k := k) (p := 0) (b := 0) (x0 := lb Try.f74 0) (l := [LIshuntref01_Small_0 k]) (And.intro (fun _ => loshuntref01_Small_0 k) (True.intro))) (And.intro (True.intro) (True.intro)))))
theorem stshuntref01_Small (k : Nat) (x : shshuntref01_Small.D) : Fshuntref01_Small (k + 1) x = body2 cf (fun f a b K => COt f a b K []) (fun b _ σ K => LOt Ty (kps 74) 0 b σ K [LIshuntref01_Small_0 k]) 74 Try.f74.ntmps Try.f74.results.toList (bd Try.f74) (shshuntref01_Small.enc x).1 (shshuntref01_Small.enc x).2 (putS FS.dec rsshuntref01_Small) := by kernel_rfl
theorem okshuntref01_Small : ∀ k, InstOk (call cf k) (Ishuntref01_Small k)
  | 0 => fun x y e => absurd (show (none : Option _) = some y from e) (by simp)
  | k + 1 => inst_ok (c := cf) (k := k) (f := 74) (fn := Try.f74) (body := bd Try.f74) (sh := shshuntref01_Small) (os := rsshuntref01_Small) rfl Try.func74 rfl ⟨rfl, Nat.le_of_ble_eq_true rfl⟩ (COt_ok (alshuntref01_Small k)) (anshuntref01_Small k) (fun x => Fshuntref01_Small (k + 1) x) (stshuntref01_Small k)

/-! shunt/shuntref01.Times -/
def Lshuntref01_Times_2s (k : Nat) (rec : Nat → Int → Int → Int → Bool → List Int → Bool → List Int → Bool → Nat → List Int → List Int → Option (Nat × Int × Int × Bool × List Int × Bool × List Int × Bool × Nat × List Int × List Int)) (d : Nat) (i : Int) (carry : Int) (j : Int) (a0 : Bool) (a1 : List Int) (b0 : Bool) (b1 : List Int) (x0 : Bool) (x1 : Nat) (ds : List Int) (m : List Int) : Option (Nat × Int × Int × Bool × List Int × Bool × List Int × Bool × Nat × List Int × List Int) :=
  if ((decide (j < (((List.length b1) : Nat) : Int))) = true) then
    if (((0 : Int) ≤ (IntKind.wrap .i64 (i + j))) ∧ ((IntKind.wrap .i64 (i + j)) < ((d : Nat) : Int))) then
      Option.bind (ds)[(0 + (Int.toNat (IntKind.wrap .i64 (i + j))))]? fun x2 =>
      if ((0 : Int) ≤ i) then
        Option.bind (a1)[(Int.toNat i)]? fun x3 =>
        if ((0 : Int) ≤ j) then
          Option.bind (b1)[(Int.toNat j)]? fun x4 =>
          if (((0 : Int) ≤ (IntKind.wrap .i64 (i + j))) ∧ ((IntKind.wrap .i64 (i + j)) < ((d : Nat) : Int))) then
            Option.bind (ds)[(0 + (Int.toNat (IntKind.wrap .i64 (i + j))))]? fun x5 =>
            rec d i (IntKind.wrap .i64 (Int.tdiv (IntKind.wrap .i64 ((IntKind.wrap .i64 (x2 + (IntKind.wrap .i64 (x3 * x4)))) + carry)) (65536 : Int))) (IntKind.wrap .i64 (j + (1 : Int))) a0 a1 b0 b1 x0 x1 (List.set ds (0 + (Int.toNat (IntKind.wrap .i64 (i + j)))) (Int.tmod (IntKind.wrap .i64 ((IntKind.wrap .i64 (x2 + (IntKind.wrap .i64 (x3 * x4)))) + carry)) (65536 : Int))) m
          else
          none
        else
        none
      else
      none
    else
    none
  else
  (some (d, i, carry, a0, a1, b0, b1, x0, x1, ds, m))
def Lshuntref01_Times_2 (k n : Nat) : Nat → Int → Int → Int → Bool → List Int → Bool → List Int → Bool → Nat → List Int → List Int → Option (Nat × Int × Int × Bool × List Int × Bool × List Int × Bool × Nat × List Int × List Int) := Nat.rec (fun _ _ _ _ _ _ _ _ _ _ _ _ => none) (fun _ r => Lshuntref01_Times_2s k r) n
def Lshuntref01_Times_0s (k : Nat) (rec : Nat → Int → Bool → List Int → Bool → List Int → Bool → Nat → List Int → List Int → Option (Nat × Bool × List Int × Bool × List Int × Bool × Nat × List Int × List Int)) (d : Nat) (i : Int) (a0 : Bool) (a1 : List Int) (b0 : Bool) (b1 : List Int) (x0 : Bool) (x1 : Nat) (ds : List Int) (m : List Int) : Option (Nat × Bool × List Int × Bool × List Int × Bool × Nat × List Int × List Int) :=
  if ((decide (i < (((List.length a1) : Nat) : Int))) = true) then
    Option.bind (Lshuntref01_Times_2 k k d i (0 : Int) (0 : Int) a0 a1 b0 b1 x0 x1 ds m) fun r13 =>
    if (((0 : Int) ≤ (IntKind.wrap .i64 (r13.2.1 + (((List.length r13.2.2.2.2.2.2.1) : Nat) : Int)))) ∧ ((IntKind.wrap .i64 (r13.2.1 + (((List.length r13.2.2.2.2.2.2.1) : Nat) : Int))) < ((r13.1 : Nat) : Int))) then
      Option.bind (r13.2.2.2.2.2.2.2.2.2.1)[(0 + (Int.toNat (IntKind.wrap .i64 (r13.2.1 + (((List.length r13.2.2.2.2.2.2.1) : Nat) : Int)))))]? fun x2 =>
      if (((0 : Int) ≤ (IntKind.wrap .i64 (r13.2.1 + (((List.length r13.2.2.2.2.2.2.1) : Nat) : Int)))) ∧ ((IntKind.wrap .i64 (r13.2.1 + (((List.length r13.2.2.2.2.2.2.1) : Nat) : Int))) < ((r13.1 : Nat) : Int))) then
        Option.bind (r13.2.2.2.2.2.2.2.2.2.1)[(0 + (Int.toNat (IntKind.wrap .i64 (r13.2.1 + (((List.length r13.2.2.2.2.2.2.1) : Nat) : Int)))))]? fun x3 =>
        rec r13.1 (IntKind.wrap .i64 (r13.2.1 + (1 : Int))) r13.2.2.2.1 r13.2.2.2.2.1 r13.2.2.2.2.2.1 r13.2.2.2.2.2.2.1 r13.2.2.2.2.2.2.2.1 r13.2.2.2.2.2.2.2.2.1 (List.set r13.2.2.2.2.2.2.2.2.2.1 (0 + (Int.toNat (IntKind.wrap .i64 (r13.2.1 + (((List.length r13.2.2.2.2.2.2.1) : Nat) : Int))))) (IntKind.wrap .i64 (x2 + r13.2.2.1))) r13.2.2.2.2.2.2.2.2.2.2
      else
      none
    else
    none
  else
  (some (d, a0, a1, b0, b1, x0, x1, ds, m))
def Lshuntref01_Times_0 (k n : Nat) : Nat → Int → Bool → List Int → Bool → List Int → Bool → Nat → List Int → List Int → Option (Nat × Bool × List Int × Bool × List Int × Bool × Nat × List Int × List Int) := Nat.rec (fun _ _ _ _ _ _ _ _ _ _ => none) (fun _ r => Lshuntref01_Times_0s k r) n
def bshuntref01_Times (k : Nat) (a0 : Bool) (a1 : List Int) (b0 : Bool) (b1 : List Int) : Option (Bool × List Int) :=
  if (((0 : Int) ≤ (IntKind.wrap .i64 ((((List.length a1) : Nat) : Int) + (((List.length b1) : Nat) : Int)))) ∧ (((IntKind.wrap .i64 ((((List.length a1) : Nat) : Int) + (((List.length b1) : Nat) : Int))) ≤ (IntKind.wrap .i64 ((((List.length a1) : Nat) : Int) + (((List.length b1) : Nat) : Int)))) ∧ (((IntKind.wrap .i64 ((((List.length a1) : Nat) : Int) + (((List.length b1) : Nat) : Int))) * (8 : Int)) ≤ (140737488355328 : Int)))) then
    Option.bind (Lshuntref01_Times_0 k k (Int.toNat (IntKind.wrap .i64 ((((List.length a1) : Nat) : Int) + (((List.length b1) : Nat) : Int)))) (0 : Int) a0 a1 b0 b1 false 0 (List.replicate (Int.toNat (IntKind.wrap .i64 ((((List.length a1) : Nat) : Int) + (((List.length b1) : Nat) : Int)))) (0 : Int)) []) fun r13 =>
    Option.bind (Fshuntref01_trim_mfi k r13.1 r13.2.2.2.2.2.2.2.1) fun r14 =>
    if ((!(r13.2.1 == r13.2.2.2.1)) = true) then
      if ((0 + r14.1) ≤ (List.length r14.2)) then
        (some ((decide (((r14.1 : Nat) : Int) > (0 : Int))), (List.take r14.1 r14.2)))
      else
      none
    else
    if ((0 + r14.1) ≤ (List.length r14.2)) then
      (some (false, (List.take r14.1 r14.2)))
    else
    none
  else
  none
def Fshuntref01_Times : Nat → Bool → List Int → Bool → List Int → Option (Bool × List Int)
  | 0, _, _, _, _ => none
  | k + 1, a0, a1, b0, b1 => bshuntref01_Times k a0 a1 b0 b1
def shshuntref01_Times : FS := { vs := [.g [.lf .bool, .lf (.sl (.int .i64))], .g [.lf .bool, .lf (.sl (.int .i64))]], bs := [] }
def rsshuntref01_Times : List FS := [{ vs := [.g [.lf .bool, .lf (.sl (.int .i64))]], bs := [] }]
def Ishuntref01_Times (k : Nat) : Inst := ⟨47, shshuntref01_Times, rsshuntref01_Times, fun x => Fshuntref01_Times k x.1 x.2.1 x.2.2.1 x.2.2.2⟩
theorem alshuntref01_Times (k : Nat) : AllI (call cf k) [Ishuntref01_trim_mfi k] := And.intro (okshuntref01_trim_mfi k) (True.intro)
def hsshuntref01_Times_2 : List SS := [{ fr := [(2, .a (.ptr 0 0 0)), (3, .a (.ptr 1 0 0)), (4, .a (.ptr 2 0 0)), (5, .a (.smz 3)), (6, .a (.lf (.int .i64))), (7, .a (.lf (.int .i64))), (8, .a (.lf (.int .i64)))], mem := [(0, some (.raw [[.lf .bool, .lf (.sl (.int .i64))]] 2 50 true false)), (1, some (.raw [[.lf .bool, .lf (.sl (.int .i64))]] 2 50 true false)), (2, some (.raw [[.lf .bool, .smz 4]] 2 50 false false)), (3, some (.arr (.int .i64) 1 3 false)), (4, some (.arr (.int .i64) 1 3 false))], nx := 5 }]
def osshuntref01_Times_2 : List OS := [⟨some 2, { fr := [(2, .a (.ptr 0 0 0)), (3, .a (.ptr 1 0 0)), (4, .a (.ptr 2 0 0)), (5, .a (.smz 3)), (6, .a (.lf (.int .i64))), (7, .a (.lf (.int .i64)))], mem := [(0, some (.raw [[.lf .bool, .lf (.sl (.int .i64))]] 2 50 true false)), (1, some (.raw [[.lf .bool, .lf (.sl (.int .i64))]] 2 50 true false)), (2, some (.raw [[.lf .bool, .smz 4]] 2 50 false false)), (3, some (.arr (.int .i64) 1 3 false)), (4, some (.arr (.int .i64) 1 3 false))], nx := 5 }⟩]
def LIshuntref01_Times_2 (k : Nat) : LInst := ⟨2, hsshuntref01_Times_2, osshuntref01_Times_2, fun x => Lshuntref01_Times_2 k k x.1 x.2.1 x.2.2.1 x.2.2.2.1 x.2.2.2.2.1 x.2.2.2.2.2.1 x.2.2.2.2.2.2.1 x.2.2.2.2.2.2.2.1 x.2.2.2.2.2.2.2.2.1 x.2.2.2.2.2.2.2.2.2.1 x.2.2.2.2.2.2.2.2.2.2.1 x.2.2.2.2.2.2.2.2.2.2.2⟩
theorem anshuntref01_Times_2 (k : Nat) : LAll (LOk (R := DS OS.D osshuntref01_Times_2) (fun b _ σ K => LOt Ty (kps 47) 0 b σ K []) cf (call cf k) (kps 47) Try.f47.ntmps k 0) 2 (lb Try.f47 1) :=
  And.intro (And.intro (True.intro) (And.intro (True.intro) (True.intro))) (And.intro (And.intro (True.intro) (And.intro (True.intro) (True.intro))) (True.intro))
theorem stshuntref01_Times_2 (k n : Nat) (x : DS SS.D hsshuntref01_Times_2) : Lshuntref01_Times_2 k (n + 1) x.1 x.2.1 x.2.2.1 x.2.2.2.1 x.2.2.2.2.1 x.2.2.2.2.2.1 x.2.2.2.2.2.2.1 x.2.2.2.2.2.2.2.1 x.2.2.2.2.2.2.2.2.1 x.2.2.2.2.2.2.2.2.2.1 x.2.2.2.2.2.2.2.2.2.2.1 x.2.2.2.2.2.2.2.2.2.2.2 = encSK SS.enc (fun σ => run2 cf (fun f a b K => COt f a b K [Ishuntref01_trim_mfi k]) (fun b _ σ K => LOt Ty (kps 47) 0 b σ K []) Try.f47.ntmps 2 (lb Try.f47 1) σ (nextK Ty (kps 47 2) 0 hsshuntref01_Times_2 osshuntref01_Times_2 fun x => Lshuntref01_Times_2 k n x.1 x.2.1 x.2.2.1 x.2.2.2.1 x.2.2.2.2.1 x.2.2.2.2.2.1 x.2.2.2.2.2.2.1 x.2.2.2.2.2.2.2.1 x.2.2.2.2.2.2.2.2.1 x.2.2.2.2.2.2.2.2.2.1 x.2.2.2.2.2.2.2.2.2.2.1 x.2.2.2.2.2.2.2.2.2.2.2)) hsshuntref01_Times_2 x := by kernel_rfl
theorem loshuntref01_Times_2 (k : Nat) : LIOk cf (call cf k) (kps 47) Try.f47.ntmps k 0 2 (lb Try.f47 1) (LIshuntref01_Times_2 k) :=
  loop_ok (c := cf) (callF := call cf k) (kp := kps 47) (nt := Try.f47.ntmps) (k := k) (p := 0) (b := 2) (x0 := lb Try.f47 1) (hs := hsshuntref01_Times_2) (os := osshuntref01_Times_2) (COt_ok (alshuntref01_Times k)) (anshuntref01_Times_2 k) (fun n x => Lshuntref01_Times_2 k n x.1 x.2.1 x.2.2.1 x.2.2.2.1 x.2.2.2.2.1 x.2.2.2.2.2.1 x.2.2.2.2.2.2.1 x.2.2.2.2.2.2.2.1 x.2.2.2.2.2.2.2.2.1 x.2.2.2.2.2.2.2.2.2.1 x.2.2.2.2.2.2.2.2.2.2.1 x.2.2.2.2.2.2.2.2.2.2.2) (fun _ => rfl) (stshuntref01_Times_2 k)
def hsshuntref01_Times_0 : List SS := [{ fr := [(2, .a (.ptr 0 0 0)), (3, .a (.ptr 1 0 0)), (4, .a (.ptr 2 0 0)), (5, .a (.smz 3)), (6, .a (.lf (.int .i64)))], mem := [(0, some (.raw [[.lf .bool, .lf (.sl (.int .i64))]] 2 50 true false)), (1, some (.raw [[.lf .bool, .lf (.sl (.int .i64))]] 2 50 true false)), (2, some (.raw [[.lf .bool, .smz 4]] 2 50 false false)), (3, some (.arr (.int .i64) 1 3 false)), (4, some (.arr (.int .i64) 1 3 false))], nx := 5 }]
def osshuntref01_Times_0 : List OS := [⟨some 0, { fr := [(2, .a (.ptr 0 0 0)), (3, .a (.ptr 1 0 0)), (4, .a (.ptr 2 0 0)), (5, .a (.smz 3))], mem := [(0, some (.raw [[.lf .bool, .lf (.sl (.int .i64))]] 2 50 true false)), (1, some (.raw [[.lf .bool, .lf (.sl (.int .i64))]] 2 50 true false)), (2, some (.raw [[.lf .bool, .smz 4]] 2 50 false false)), (3, some (.arr (.int .i64) 1 3 false)), (4, some (.arr (.int .i64) 1 3 false))], nx := 5 }⟩]
def LIshuntref01_Times_0 (k : Nat) : LInst := ⟨0, hsshuntref01_Times_0, osshuntref01_Times_0, fun x => Lshuntref01_Times_0 k k x.1 x.2.1 x.2.2.1 x.2.2.2.1 x.2.2.2.2.1 x.2.2.2.2.2.1 x.2.2.2.2.2.2.1 x.2.2.2.2.2.2.2.1 x.2.2.2.2.2.2.2.2.1 x.2.2.2.2.2.2.2.2.2⟩
theorem anshuntref01_Times_0 (k : Nat) : LAll (LOk (R := DS OS.D osshuntref01_Times_0) (fun b _ σ K => LOt Ty (kps 47) 0 b σ K [LIshuntref01_Times_2 k]) cf (call cf k) (kps 47) Try.f47.ntmps k 0) 0 (lb Try.f47 0) :=
  And.intro (And.intro (True.intro) (And.intro (True.intro) (True.intro))) (And.intro (And.intro (True.intro) (And.intro (And.intro (True.intro) (LOt_ok (c := cf) (callF := call cf k) (kp := kps 47) (nt := Try.f47.ntmps) (k := k) (p := 0) (b := 2) (x0 := lb Try.f47 1) (l := [LIshuntref01_Times_2 k]) (And.intro (fun _ => loshuntref01_Times_2 k) (True.intro)))) (True.intro))) (True.intro))
theorem stshuntref01_Times_0 (k n : Nat) (x : DS SS.D hsshuntref01_Times_0) : Lshuntref01_Times_0 k (n + 1) x.1 x.2.1 x.2.2.1 x.2.2.2.1 x.2.2.2.2.1 x.2.2.2.2.2.1 x.2.2.2.2.2.2.1 x.2.2.2.2.2.2.2.1 x.2.2.2.2.2.2.2.2.1 x.2.2.2.2.2.2.2.2.2 = encSK SS.enc (fun σ => run2 cf (fun f a b K => COt f a b K [Ishuntref01_trim_mfi k]) (fun b _ σ K => LOt Ty (kps 47) 0 b σ K [LIshuntref01_Times_2 k]) Try.f47.ntmps 0 (lb Try.f47 0) σ (nextK Ty (kps 47 0) 0 hsshuntref01_Times_0 osshuntref01_Times_0 fun x => Lshuntref01_Times_0 k n x.1 x.2.1 x.2.2.1 x.2.2.2.1 x.2.2.2.2.1 x.2.2.2.2.2.1 x.2.2.2.2.2.2.1 x.2.2.2.2.2.2.2.1 x.2.2.2.2.2.2.2.2.1 x.2.2.2.2.2.2.2.2.2)) hsshuntref01_Times_0 x := by kernel_rfl
theorem loshuntref01_Times_0 (k : Nat) : LIOk cf (call cf k) (kps 47) Try.f47.ntmps k 0 0 (lb Try.f47 0) (LIshuntref01_Times_0 k) :=
  loop_ok (c := cf) (callF := call cf k) (kp := kps 47) (nt := Try.f47.ntmps) (k := k) (p := 0) (b := 0) (x0 := lb Try.f47 0) (hs := hsshuntref01_Times_0) (os := osshuntref01_Times_0) (COt_ok (alshuntref01_Times k)) (anshuntref01_Times_0 k) (fun n x => Lshuntref01_Times_0 k n x.1 x.2.1 x.2.2.1 x.2.2.2.1 x.2.2.2.2.1 x.2.2.2.2.2.1 x.2.2.2.2.2.2.1 x.2.2.2.2.2.2.2.1 x.2.2.2.2.2.2.2.2.1 x.2.2.2.2.2.2.2.2.2) (fun _ => rfl) (stshuntref01_Times_0 k)
theorem anshuntref01_Times (k : Nat) : LAll (LOk (R := DS FS.D rsshuntref01_Times) (fun b _ σ K => LOt Ty (kps 47) 0 b σ K [LIshuntref01_Times_2 k, LIshuntref01_Times_0 k]) cf (call cf k) (cf.keep 47) Try.f47.ntmps k shshuntref01_Times.bs.length) 0 (bd Try.f47) :=
  And.intro (True.intro) (And.intro (True.intro) (And.intro (And.intro (True.intro) (LOt_ok (c := cf) (callF := call cf k) (kp := kps 47) (nt := Try.f47.ntmps) (k := k) (p := 0) (b := 0) (x0 := lb Try.f47 0) (l := [LIshuntref01_Times_2 k, LIshuntref01_Times_0 k]) (And.intro (fun h => absurd (show (2 : Nat) = 0 from h) (by decide)) (And.intro (fun _ => loshuntref01_Times_0 k) (True.intro))))) (And.intro (True.intro) (And.intro (True.intro) (True.intro)))))
theorem stshuntref01_Times (k : Nat) (x : shshuntref01_Times.D) : Fshuntref01_Times (k + 1) x.1 x.2.1 x.2.2.1 x.2.2.2 = body2 cf (fun f a b K => COt f a b K [Ishuntref01_trim_mfi k]) (fun b _ σ K => LOt Ty (kps 47) 0 b σ K [LIshuntref01_Times_2 k, LIshuntref01_Times_0 k]) 47 Try.f47.ntmps Try.f47.results.toList (bd Try.f47) (shshuntref01_Times.enc x).1 (shshuntref01_Times.enc x).2 (putS FS.dec rsshuntref01_Times) := by kernel_rfl
theorem okshuntref01_Times : ∀ k, InstOk (call cf k) (Ishuntref01_Times k)
  | 0 => fun x y e => absurd (show (none : Option _) = some y from e) (by simp)
  | k + 1 => inst_ok (c := cf) (k := k) (f := 47) (fn := Try.f47) (body := bd Try.f47) (sh := shshuntref01_Times) (os := rsshuntref01_Times) rfl Try.func47 rfl ⟨rfl, Nat.le_of_ble_eq_true rfl⟩ (COt_ok (alshuntref01_Times k)) (anshuntref01_Times k) (fun x => Fshuntref01_Times (k + 1) x.1 x.2.1 x.2.2.1 x.2.2.2) (stshuntref01_Times k)

/-! shunt/shuntref01.digit -/
def Lshuntref01_digit_0s (k : Nat) (rec : List Int → List Int → Int → Int → Option (Int)) (r : List Int) (b : List Int) (low : Int) (high : Int) : Option (Int) :=
  if ((decide (low < high)) = true) then
    Option.bind (Fshuntref01_Small k (IntKind.wrap .i64 (Int.tdiv (IntKind.wrap .i64 ((IntKind.wrap .i64 (low + high)) + (1 : Int))) (2 : Int)))) fun r12 =>
    Option.bind (Fshuntref01_Times k false b r12.1 r12.2) fun r13 =>
    Option.bind (Fshuntref01_mags k r13.2 r) fun r14 =>
    if ((decide (r14 ≤ (0 : Int))) = true) then
      rec r b (IntKind.wrap .i64 (Int.tdiv (IntKind.wrap .i64 ((IntKind.wrap .i64 (low + high)) + (1 : Int))) (2 : Int))) high
    else
    rec r b low (IntKind.wrap .i64 ((IntKind.wrap .i64 (Int.tdiv (IntKind.wrap .i64 ((IntKind.wrap .i64 (low + high)) + (1 : Int))) (2 : Int))) - (1 : Int)))
  else
  (some low)
def Lshuntref01_digit_0 (k n : Nat) : List Int → List Int → Int → Int → Option (Int) := Nat.rec (fun _ _ _ _ => none) (fun _ r => Lshuntref01_digit_0s k r) n
def bshuntref01_digit (k : Nat) (r : List Int) (b : List Int) : Option (Int) :=
  Option.bind (Fshuntref01_mags k r b) fun r11 =>
  if ((decide (r11 < (0 : Int))) = true) then
    (some (0 : Int))
  else
  Option.bind (Lshuntref01_digit_0 k k r b (0 : Int) (65535 : Int)) fun r12 =>
  (some r12)
def Fshuntref01_digit : Nat → List Int → List Int → Option (Int)
  | 0, _, _ => none
  | k + 1, r, b => bshuntref01_digit k r b
def shshuntref01_digit : FS := { vs := [.a (.lf (.sl (.int .i64))), .a (.lf (.sl (.int .i64)))], bs := [] }
def rsshuntref01_digit : List FS := [{ vs := [.a (.lf (.int .i64))], bs := [] }]
def Ishuntref01_digit (k : Nat) : Inst := ⟨72, shshuntref01_digit, rsshuntref01_digit, fun x => Fshuntref01_digit k x.1 x.2⟩
theorem alshuntref01_digit (k : Nat) : AllI (call cf k) [Ishuntref01_mags k, Ishuntref01_Small k, Ishuntref01_Times k] := And.intro (okshuntref01_mags k) (And.intro (okshuntref01_Small k) (And.intro (okshuntref01_Times k) (True.intro)))
def hsshuntref01_digit_0 : List SS := [{ fr := [(0, .a (.lf (.sl (.int .i64)))), (1, .a (.lf (.sl (.int .i64)))), (5, .a (.lf (.int .i64))), (6, .a (.lf (.int .i64)))], mem := [], nx := 0 }]
def osshuntref01_digit_0 : List OS := [⟨some 0, { fr := [(5, .a (.lf (.int .i64)))], mem := [], nx := 0 }⟩]
def LIshuntref01_digit_0 (k : Nat) : LInst := ⟨0, hsshuntref01_digit_0, osshuntref01_digit_0, fun x => Lshuntref01_digit_0 k k x.1 x.2.1 x.2.2.1 x.2.2.2⟩
theorem anshuntref01_digit_0 (k : Nat) : LAll (LOk (R := DS OS.D osshuntref01_digit_0) (fun b _ σ K => LOt Ty (kps 72) 0 b σ K []) cf (call cf k) (kps 72) Try.f72.ntmps k 0) 0 (lb Try.f72 0) :=
  And.intro (And.intro (True.intro) (And.intro (True.intro) (True.intro))) (And.intro (True.intro) (And.intro (True.intro) (And.intro (True.intro) (True.intro))))
theorem stshuntref01_digit_0 (k n : Nat) (x : DS SS.D hsshuntref01_digit_0) : Lshuntref01_digit_0 k (n + 1) x.1 x.2.1 x.2.2.1 x.2.2.2 = encSK SS.enc (fun σ => run2 cf (fun f a b K => COt f a b K [Ishuntref01_mags k, Ishuntref01_Small k, Ishuntref01_Times k]) (fun b _ σ K => LOt Ty (kps 72) 0 b σ K []) Try.f72.ntmps 0 (lb Try.f72 0) σ (nextK Ty (kps 72 0) 0 hsshuntref01_digit_0 osshuntref01_digit_0 fun x => Lshuntref01_digit_0 k n x.1 x.2.1 x.2.2.1 x.2.2.2)) hsshuntref01_digit_0 x := by kernel_rfl
theorem loshuntref01_digit_0 (k : Nat) : LIOk cf (call cf k) (kps 72) Try.f72.ntmps k 0 0 (lb Try.f72 0) (LIshuntref01_digit_0 k) :=
  loop_ok (c := cf) (callF := call cf k) (kp := kps 72) (nt := Try.f72.ntmps) (k := k) (p := 0) (b := 0) (x0 := lb Try.f72 0) (hs := hsshuntref01_digit_0) (os := osshuntref01_digit_0) (COt_ok (alshuntref01_digit k)) (anshuntref01_digit_0 k) (fun n x => Lshuntref01_digit_0 k n x.1 x.2.1 x.2.2.1 x.2.2.2) (fun _ => rfl) (stshuntref01_digit_0 k)
theorem anshuntref01_digit (k : Nat) : LAll (LOk (R := DS FS.D rsshuntref01_digit) (fun b _ σ K => LOt Ty (kps 72) 0 b σ K [LIshuntref01_digit_0 k]) cf (call cf k) (cf.keep 72) Try.f72.ntmps k shshuntref01_digit.bs.length) 0 (bd Try.f72) :=
  And.intro (True.intro) (And.intro (True.intro) (And.intro (And.intro (True.intro) (And.intro (And.intro (True.intro) (True.intro)) (True.intro))) (And.intro (LOt_ok (c := cf) (callF := call cf k) (kp := kps 72) (nt := Try.f72.ntmps) (k := k) (p := 0) (b := 0) (x0 := lb Try.f72 0) (l := [LIshuntref01_digit_0 k]) (And.intro (fun _ => loshuntref01_digit_0 k) (True.intro))) (And.intro (True.intro) (True.intro)))))
theorem stshuntref01_digit (k : Nat) (x : shshuntref01_digit.D) : Fshuntref01_digit (k + 1) x.1 x.2 = body2 cf (fun f a b K => COt f a b K [Ishuntref01_mags k, Ishuntref01_Small k, Ishuntref01_Times k]) (fun b _ σ K => LOt Ty (kps 72) 0 b σ K [LIshuntref01_digit_0 k]) 72 Try.f72.ntmps Try.f72.results.toList (bd Try.f72) (shshuntref01_digit.enc x).1 (shshuntref01_digit.enc x).2 (putS FS.dec rsshuntref01_digit) := by kernel_rfl
theorem okshuntref01_digit : ∀ k, InstOk (call cf k) (Ishuntref01_digit k)
  | 0 => fun x y e => absurd (show (none : Option _) = some y from e) (by simp)
  | k + 1 => inst_ok (c := cf) (k := k) (f := 72) (fn := Try.f72) (body := bd Try.f72) (sh := shshuntref01_digit) (os := rsshuntref01_digit) rfl Try.func72 rfl ⟨rfl, Nat.le_of_ble_eq_true rfl⟩ (COt_ok (alshuntref01_digit k)) (anshuntref01_digit k) (fun x => Fshuntref01_digit (k + 1) x.1 x.2) (stshuntref01_digit k)

/-! shunt/shuntref01.minus -/
def Lshuntref01_minus_0s (k : Nat) (rec : List Int → List Int → Nat → Int → Int → List Int → Option (Nat × List Int)) (a : List Int) (b : List Int) (d : Nat) (borrow : Int) (i : Int) (ds : List Int) : Option (Nat × List Int) :=
  if ((decide (i < (((List.length a) : Nat) : Int))) = true) then
    if ((0 : Int) ≤ i) then
      Option.bind (a)[(Int.toNat i)]? fun x2 =>
      if ((decide (i < (((List.length b) : Nat) : Int))) = true) then
        if ((0 : Int) ≤ i) then
          Option.bind (b)[(Int.toNat i)]? fun x3 =>
          if ((decide ((IntKind.wrap .i64 ((IntKind.wrap .i64 (x2 - borrow)) - x3)) < (0 : Int))) = true) then
            if (d ≤ (List.length ds)) then
              if (((d + (List.length (List.take 1 ((IntKind.wrap .i64 ((IntKind.wrap .i64 ((IntKind.wrap .i64 (x2 - borrow)) - x3)) + (65536 : Int))) :: [])))) * 8) ≤ 140737488355328) then
                rec a b (d + (List.length (List.take 1 ((IntKind.wrap .i64 ((IntKind.wrap .i64 ((IntKind.wrap .i64 (x2 - borrow)) - x3)) + (65536 : Int))) :: [])))) (1 : Int) (IntKind.wrap .i64 (i + (1 : Int))) ((List.take d ds) ++ (List.take 1 ((IntKind.wrap .i64 ((IntKind.wrap .i64 ((IntKind.wrap .i64 (x2 - borrow)) - x3)) + (65536 : Int))) :: [])))
              else
              none
            else
            none
          else
          if (d ≤ (List.length ds)) then
            if (((d + (List.length (List.take 1 ((IntKind.wrap .i64 ((IntKind.wrap .i64 (x2 - borrow)) - x3)) :: [])))) * 8) ≤ 140737488355328) then
              rec a b (d + (List.length (List.take 1 ((IntKind.wrap .i64 ((IntKind.wrap .i64 (x2 - borrow)) - x3)) :: [])))) (0 : Int) (IntKind.wrap .i64 (i + (1 : Int))) ((List.take d ds) ++ (List.take 1 ((IntKind.wrap .i64 ((IntKind.wrap .i64 (x2 - borrow)) - x3)) :: [])))
            else
            none
          else
          none
        else
        none
      else
      if ((decide ((IntKind.wrap .i64 (x2 - borrow)) < (0 : Int))) = true) then
        if (d ≤ (List.length ds)) then
          if (((d + (List.length (List.take 1 ((IntKind.wrap .i64 ((IntKind.wrap .i64 (x2 - borrow)) + (65536 : Int))) :: [])))) * 8) ≤ 140737488355328) then
            rec a b (d + (List.length (List.take 1 ((IntKind.wrap .i64 ((IntKind.wrap .i64 (x2 - borrow)) + (65536 : Int))) :: [])))) (1 : Int) (IntKind.wrap .i64 (i + (1 : Int))) ((List.take d ds) ++ (List.take 1 ((IntKind.wrap .i64 ((IntKind.wrap .i64 (x2 - borrow)) + (65536 : Int))) :: [])))
          else
          none
        else
        none
      else
      if (d ≤ (List.length ds)) then
        if (((d + (List.length (List.take 1 ((IntKind.wrap .i64 (x2 - borrow)) :: [])))) * 8) ≤ 140737488355328) then
          rec a b (d + (List.length (List.take 1 ((IntKind.wrap .i64 (x2 - borrow)) :: [])))) (0 : Int) (IntKind.wrap .i64 (i + (1 : Int))) ((List.take d ds) ++ (List.take 1 ((IntKind.wrap .i64 (x2 - borrow)) :: [])))
        else
        none
      else
      none
    else
    none
  else
  (some (d, ds))
def Lshuntref01_minus_0 (k n : Nat) : List Int → List Int → Nat → Int → Int → List Int → Option (Nat × List Int) := Nat.rec (fun _ _ _ _ _ _ => none) (fun _ r => Lshuntref01_minus_0s k r) n
def bshuntref01_minus (k : Nat) (a : List Int) (b : List Int) : Option (List Int) :=
  Option.bind (Lshuntref01_minus_0 k k a b 0 (0 : Int) (0 : Int) []) fun r14 =>
  Option.bind (Fshuntref01_trim_mfi k r14.1 r14.2) fun r15 =>
  if ((0 + r15.1) ≤ (List.length r15.2)) then
    (some (List.take r15.1 r15.2))
  else
  none
def Fshuntref01_minus : Nat → List Int → List Int → Option (List Int)
  | 0, _, _ => none
  | k + 1, a, b => bshuntref01_minus k a b
def shshuntref01_minus : FS := { vs := [.a (.lf (.sl (.int .i64))), .a (.lf (.sl (.int .i64)))], bs := [] }
def rsshuntref01_minus : List FS := [{ vs := [.a (.lf (.sl (.int .i64)))], bs := [] }]
def Ishuntref01_minus (k : Nat) : Inst := ⟨73, shshuntref01_minus, rsshuntref01_minus, fun x => Fshuntref01_minus k x.1 x.2⟩
theorem alshuntref01_minus (k : Nat) : AllI (call cf k) [Ishuntref01_trim_mfi k] := And.intro (okshuntref01_trim_mfi k) (True.intro)
def hsshuntref01_minus_0 : List SS := [{ fr := [(0, .a (.lf (.sl (.int .i64)))), (1, .a (.lf (.sl (.int .i64)))), (5, .a (.smz 0)), (6, .a (.lf (.int .i64))), (7, .a (.lf (.int .i64)))], mem := [(0, some (.arr (.int .i64) 1 3 false))], nx := 1 }]
def osshuntref01_minus_0 : List OS := [⟨some 0, { fr := [(5, .a (.smz 0))], mem := [(0, some (.arr (.int .i64) 1 3 false))], nx := 1 }⟩]
def LIshuntref01_minus_0 (k : Nat) : LInst := ⟨0, hsshuntref01_minus_0, osshuntref01_minus_0, fun x => Lshuntref01_minus_0 k k x.1 x.2.1 x.2.2.1 x.2.2.2.1 x.2.2.2.2.1 x.2.2.2.2.2⟩
theorem anshuntref01_minus_0 (k : Nat) : LAll (LOk (R := DS OS.D osshuntref01_minus_0) (fun b _ σ K => LOt Ty (kps 73) 0 b σ K []) cf (call cf k) (kps 73) Try.f73.ntmps k 0) 0 (lb Try.f73 0) :=
  And.intro (And.intro (True.intro) (And.intro (True.intro) (True.intro))) (And.intro (And.intro (True.intro) (And.intro (And.intro (True.intro) (And.intro (True.intro) (True.intro))) (And.intro (True.intro) (And.intro (And.intro (True.intro) (And.intro (And.intro (True.intro) (True.intro)) (True.intro))) (True.intro))))) (True.intro))
theorem stshuntref01_minus_0 (k n : Nat) (x : DS SS.D hsshuntref01_minus_0) : Lshuntref01_minus_0 k (n + 1) x.1 x.2.1 x.2.2.1 x.2.2.2.1 x.2.2.2.2.1 x.2.2.2.2.2 = encSK SS.enc (fun σ => run2 cf (fun f a b K => COt f a b K [Ishuntref01_trim_mfi k]) (fun b _ σ K => LOt Ty (kps 73) 0 b σ K []) Try.f73.ntmps 0 (lb Try.f73 0) σ (nextK Ty (kps 73 0) 0 hsshuntref01_minus_0 osshuntref01_minus_0 fun x => Lshuntref01_minus_0 k n x.1 x.2.1 x.2.2.1 x.2.2.2.1 x.2.2.2.2.1 x.2.2.2.2.2)) hsshuntref01_minus_0 x := by kernel_rfl
theorem loshuntref01_minus_0 (k : Nat) : LIOk cf (call cf k) (kps 73) Try.f73.ntmps k 0 0 (lb Try.f73 0) (LIshuntref01_minus_0 k) :=
  loop_ok (c := cf) (callF := call cf k) (kp := kps 73) (nt := Try.f73.ntmps) (k := k) (p := 0) (b := 0) (x0 := lb Try.f73 0) (hs := hsshuntref01_minus_0) (os := osshuntref01_minus_0) (COt_ok (alshuntref01_minus k)) (anshuntref01_minus_0 k) (fun n x => Lshuntref01_minus_0 k n x.1 x.2.1 x.2.2.1 x.2.2.2.1 x.2.2.2.2.1 x.2.2.2.2.2) (fun _ => rfl) (stshuntref01_minus_0 k)
theorem anshuntref01_minus (k : Nat) : LAll (LOk (R := DS FS.D rsshuntref01_minus) (fun b _ σ K => LOt Ty (kps 73) 0 b σ K [LIshuntref01_minus_0 k]) cf (call cf k) (cf.keep 73) Try.f73.ntmps k shshuntref01_minus.bs.length) 0 (bd Try.f73) :=
  And.intro (True.intro) (And.intro (True.intro) (And.intro (True.intro) (And.intro (And.intro (True.intro) (LOt_ok (c := cf) (callF := call cf k) (kp := kps 73) (nt := Try.f73.ntmps) (k := k) (p := 0) (b := 0) (x0 := lb Try.f73 0) (l := [LIshuntref01_minus_0 k]) (And.intro (fun _ => loshuntref01_minus_0 k) (True.intro)))) (And.intro (True.intro) (True.intro)))))
theorem stshuntref01_minus (k : Nat) (x : shshuntref01_minus.D) : Fshuntref01_minus (k + 1) x.1 x.2 = body2 cf (fun f a b K => COt f a b K [Ishuntref01_trim_mfi k]) (fun b _ σ K => LOt Ty (kps 73) 0 b σ K [LIshuntref01_minus_0 k]) 73 Try.f73.ntmps Try.f73.results.toList (bd Try.f73) (shshuntref01_minus.enc x).1 (shshuntref01_minus.enc x).2 (putS FS.dec rsshuntref01_minus) := by kernel_rfl
theorem okshuntref01_minus : ∀ k, InstOk (call cf k) (Ishuntref01_minus k)
  | 0 => fun x y e => absurd (show (none : Option _) = some y from e) (by simp)
  | k + 1 => inst_ok (c := cf) (k := k) (f := 73) (fn := Try.f73) (body := bd Try.f73) (sh := shshuntref01_minus) (os := rsshuntref01_minus) rfl Try.func73 rfl ⟨rfl, Nat.le_of_ble_eq_true rfl⟩ (COt_ok (alshuntref01_minus k)) (anshuntref01_minus k) (fun x => Fshuntref01_minus (k + 1) x.1 x.2) (stshuntref01_minus k)

/-! shunt/shuntref01.Divide -/
def Lshuntref01_Divide_0s (k : Nat) (rec : ((Nat × Nat × Int × Bool × List Int × Bool × List Int × Bool × Nat × Bool × Nat × List Int × List Int × List Int × List Int) ⊕ (Nat × List Int × Int × Bool × List Int × Bool × List Int × Bool × Nat × Bool × Nat × List Int × List Int × List Int)) → Option ((Nat × Nat × Bool × List Int × Bool × List Int × Bool × Nat × Bool × Nat × List Int × List Int × List Int × List Int) ⊕ (Nat × List Int × Bool × List Int × Bool × List Int × Bool × Nat × Bool × Nat × List Int × List Int × List Int))) (x : (Nat × Nat × Int × Bool × List Int × Bool × List Int × Bool × Nat × Bool × Nat × List Int × List Int × List Int × List Int) ⊕ (Nat × List Int × Int × Bool × List Int × Bool × List Int × Bool × Nat × Bool × Nat × List Int × List Int × List Int)) : Option ((Nat × Nat × Bool × List Int × Bool × List Int × Bool × Nat × Bool × Nat × List Int × List Int × List Int × List Int) ⊕ (Nat × List Int × Bool × List Int × Bool × List Int × Bool × Nat × Bool × Nat × List Int × List Int × List Int)) :=
  eitherK x
  (fun x =>
  if ((decide (x.2.2.1 ≥ (0 : Int))) = true) then
    if ((0 : Int) ≤ x.2.2.1) then
      Option.bind (x.2.2.2.2.1)[(Int.toNat x.2.2.1)]? fun x1 =>
      if ((0 + x.2.1) ≤ (List.length x.2.2.2.2.2.2.2.2.2.2.2.2.1)) then
        if (((1 + (List.length (List.take x.2.1 x.2.2.2.2.2.2.2.2.2.2.2.2.1))) * 8) ≤ 140737488355328) then
          Option.bind (Fshuntref01_trim_mfi k (1 + (List.length (List.take x.2.1 x.2.2.2.2.2.2.2.2.2.2.2.2.1))) ((List.take 1 (x1 :: [])) ++ (List.take x.2.1 x.2.2.2.2.2.2.2.2.2.2.2.2.1))) fun r10 =>
          if ((0 + r10.1) ≤ (List.length r10.2)) then
            Option.bind (Fshuntref01_digit k (List.take r10.1 r10.2) x.2.2.2.2.2.2.1) fun r11 =>
            if ((decide (r11 > (0 : Int))) = true) then
              Option.bind (Fshuntref01_Small k r11) fun r12 =>
              Option.bind (Fshuntref01_Times k false x.2.2.2.2.2.2.1 r12.1 r12.2) fun r13 =>
              if ((0 + r10.1) ≤ (List.length r10.2)) then
                Option.bind (Fshuntref01_minus k (List.take r10.1 r10.2) r13.2) fun r14 =>
                if (((0 : Int) ≤ x.2.2.1) ∧ (x.2.2.1 < ((x.1 : Nat) : Int))) then
                  Option.bind (x.2.2.2.2.2.2.2.2.2.2.2.1)[(0 + (Int.toNat x.2.2.1))]? fun x2 =>
                  rec (Sum.inr (x.1, r14, (IntKind.wrap .i64 (x.2.2.1 - (1 : Int))), x.2.2.2.1, x.2.2.2.2.1, x.2.2.2.2.2.1, x.2.2.2.2.2.2.1, x.2.2.2.2.2.2.2.1, x.2.2.2.2.2.2.2.2.1, x.2.2.2.2.2.2.2.2.2.1, x.2.2.2.2.2.2.2.2.2.2.1, (List.set x.2.2.2.2.2.2.2.2.2.2.2.1 (0 + (Int.toNat x.2.2.1)) r11), x.2.2.2.2.2.2.2.2.2.2.2.2.2.1, x.2.2.2.2.2.2.2.2.2.2.2.2.2.2))
                else
                none
              else
              none
            else
            if (((0 : Int) ≤ x.2.2.1) ∧ (x.2.2.1 < ((x.1 : Nat) : Int))) then
              Option.bind (x.2.2.2.2.2.2.2.2.2.2.2.1)[(0 + (Int.toNat x.2.2.1))]? fun x2 =>
              rec (Sum.inl (x.1, r10.1, (IntKind.wrap .i64 (x.2.2.1 - (1 : Int))), x.2.2.2.1, x.2.2.2.2.1, x.2.2.2.2.2.1, x.2.2.2.2.2.2.1, x.2.2.2.2.2.2.2.1, x.2.2.2.2.2.2.2.2.1, x.2.2.2.2.2.2.2.2.2.1, x.2.2.2.2.2.2.2.2.2.2.1, (List.set x.2.2.2.2.2.2.2.2.2.2.2.1 (0 + (Int.toNat x.2.2.1)) r11), r10.2, x.2.2.2.2.2.2.2.2.2.2.2.2.2.1, x.2.2.2.2.2.2.2.2.2.2.2.2.2.2))
            else
            none
          else
          none
        else
        none
      else
      none
    else
    none
  else
  (some (Sum.inl (x.1, x.2.1, x.2.2.2.1, x.2.2.2.2.1, x.2.2.2.2.2.1, x.2.2.2.2.2.2.1, x.2.2.2.2.2.2.2.1, x.2.2.2.2.2.2.2.2.1, x.2.2.2.2.2.2.2.2.2.1, x.2.2.2.2.2.2.2.2.2.2.1, x.2.2.2.2.2.2.2.2.2.2.2.1, x.2.2.2.2.2.2.2.2.2.2.2.2.1, x.2.2.2.2.2.2.2.2.2.2.2.2.2.1, x.2.2.2.2.2.2.2.2.2.2.2.2.2.2))))
  (fun x =>
  if ((decide (x.2.2.1 ≥ (0 : Int))) = true) then
    if ((0 : Int) ≤ x.2.2.1) then
      Option.bind (x.2.2.2.2.1)[(Int.toNat x.2.2.1)]? fun x1 =>
      if (((1 + (List.length x.2.1)) * 8) ≤ 140737488355328) then
        Option.bind (Fshuntref01_trim_mfi k (1 + (List.length x.2.1)) ((List.take 1 (x1 :: [])) ++ x.2.1)) fun r10 =>
        if ((0 + r10.1) ≤ (List.length r10.2)) then
          Option.bind (Fshuntref01_digit k (List.take r10.1 r10.2) x.2.2.2.2.2.2.1) fun r11 =>
          if ((decide (r11 > (0 : Int))) = true) then
            Option.bind (Fshuntref01_Small k r11) fun r12 =>
            Option.bind (Fshuntref01_Times k false x.2.2.2.2.2.2.1 r12.1 r12.2) fun r13 =>
            if ((0 + r10.1) ≤ (List.length r10.2)) then
              Option.bind (Fshuntref01_minus k (List.take r10.1 r10.2) r13.2) fun r14 =>
              if (((0 : Int) ≤ x.2.2.1) ∧ (x.2.2.1 < ((x.1 : Nat) : Int))) then
                Option.bind (x.2.2.2.2.2.2.2.2.2.2.2.1)[(0 + (Int.toNat x.2.2.1))]? fun x2 =>
                rec (Sum.inr (x.1, r14, (IntKind.wrap .i64 (x.2.2.1 - (1 : Int))), x.2.2.2.1, x.2.2.2.2.1, x.2.2.2.2.2.1, x.2.2.2.2.2.2.1, x.2.2.2.2.2.2.2.1, x.2.2.2.2.2.2.2.2.1, x.2.2.2.2.2.2.2.2.2.1, x.2.2.2.2.2.2.2.2.2.2.1, (List.set x.2.2.2.2.2.2.2.2.2.2.2.1 (0 + (Int.toNat x.2.2.1)) r11), x.2.2.2.2.2.2.2.2.2.2.2.2.1, x.2.2.2.2.2.2.2.2.2.2.2.2.2))
              else
              none
            else
            none
          else
          if (((0 : Int) ≤ x.2.2.1) ∧ (x.2.2.1 < ((x.1 : Nat) : Int))) then
            Option.bind (x.2.2.2.2.2.2.2.2.2.2.2.1)[(0 + (Int.toNat x.2.2.1))]? fun x2 =>
            rec (Sum.inl (x.1, r10.1, (IntKind.wrap .i64 (x.2.2.1 - (1 : Int))), x.2.2.2.1, x.2.2.2.2.1, x.2.2.2.2.2.1, x.2.2.2.2.2.2.1, x.2.2.2.2.2.2.2.1, x.2.2.2.2.2.2.2.2.1, x.2.2.2.2.2.2.2.2.2.1, x.2.2.2.2.2.2.2.2.2.2.1, (List.set x.2.2.2.2.2.2.2.2.2.2.2.1 (0 + (Int.toNat x.2.2.1)) r11), r10.2, x.2.2.2.2.2.2.2.2.2.2.2.2.1, x.2.2.2.2.2.2.2.2.2.2.2.2.2))
          else
          none
        else
        none
      else
      none
    else
    none
  else
  (some (Sum.inr (x.1, x.2.1, x.2.2.2.1, x.2.2.2.2.1, x.2.2.2.2.2.1, x.2.2.2.2.2.2.1, x.2.2.2.2.2.2.2.1, x.2.2.2.2.2.2.2.2.1, x.2.2.2.2.2.2.2.2.2.1, x.2.2.2.2.2.2.2.2.2.2.1, x.2.2.2.2.2.2.2.2.2.2.2.1, x.2.2.2.2.2.2.2.2.2.2.2.2.1, x.2.2.2.2.2.2.2.2.2.2.2.2.2))))
def Lshuntref01_Divide_0 (k n : Nat) : ((Nat × Nat × Int × Bool × List Int × Bool × List Int × Bool × Nat × Bool × Nat × List Int × List Int × List Int × List Int) ⊕ (Nat × List Int × Int × Bool × List Int × Bool × List Int × Bool × Nat × Bool × Nat × List Int × List Int × List Int)) → Option ((Nat × Nat × Bool × List Int × Bool × List Int × Bool × Nat × Bool × Nat × List Int × List Int × List Int × List Int) ⊕ (Nat × List Int × Bool × List Int × Bool × List Int × Bool × Nat × Bool × Nat × List Int × List Int × List Int)) := Nat.rec (fun _ => none) (fun _ r => Lshuntref01_Divide_0s k r) n
def bshuntref01_Divide (k : Nat) (a0 : Bool) (a1 : List Int) (b0 : Bool) (b1 : List Int) : Option (Bool × List Int × Bool × List Int) :=
  if (((0 : Int) ≤ (((List.length a1) : Nat) : Int)) ∧ (((((List.length a1) : Nat) : Int) ≤ (((List.length a1) : Nat) : Int)) ∧ (((((List.length a1) : Nat) : Int) * (8 : Int)) ≤ (140737488355328 : Int)))) then
    Option.bind (Lshuntref01_Divide_0 k k (Sum.inl ((Int.toNat (((List.length a1) : Nat) : Int)), 0, (IntKind.wrap .i64 ((((List.length a1) : Nat) : Int) - (1 : Int))), a0, a1, b0, b1, false, 0, false, 0, (List.replicate (Int.toNat (((List.length a1) : Nat) : Int)) (0 : Int)), [], [], []))) fun r10 =>
    eitherK r10
      (fun r10 =>
      Option.bind (Fshuntref01_trim_mfi k r10.1 r10.2.2.2.2.2.2.2.2.2.2.1) fun r11 =>
      if ((!(r10.2.2.1 == r10.2.2.2.2.1)) = true) then
        if (r10.2.2.1 = true) then
          if ((0 + r11.1) ≤ (List.length r11.2)) then
            if ((0 + r10.2.1) ≤ (List.length r10.2.2.2.2.2.2.2.2.2.2.2.1)) then
              (some ((decide (((r11.1 : Nat) : Int) > (0 : Int))), (List.take r11.1 r11.2), (decide (((r10.2.1 : Nat) : Int) > (0 : Int))), (List.take r10.2.1 r10.2.2.2.2.2.2.2.2.2.2.2.1)))
            else
            none
          else
          none
        else
        if ((0 + r11.1) ≤ (List.length r11.2)) then
          if ((0 + r10.2.1) ≤ (List.length r10.2.2.2.2.2.2.2.2.2.2.2.1)) then
            (some ((decide (((r11.1 : Nat) : Int) > (0 : Int))), (List.take r11.1 r11.2), false, (List.take r10.2.1 r10.2.2.2.2.2.2.2.2.2.2.2.1)))
          else
          none
        else
        none
      else
      if (r10.2.2.1 = true) then
        if ((0 + r11.1) ≤ (List.length r11.2)) then
          if ((0 + r10.2.1) ≤ (List.length r10.2.2.2.2.2.2.2.2.2.2.2.1)) then
            (some (false, (List.take r11.1 r11.2), (decide (((r10.2.1 : Nat) : Int) > (0 : Int))), (List.take r10.2.1 r10.2.2.2.2.2.2.2.2.2.2.2.1)))
          else
          none
        else
        none
      else
      if ((0 + r11.1) ≤ (List.length r11.2)) then
        if ((0 + r10.2.1) ≤ (List.length r10.2.2.2.2.2.2.2.2.2.2.2.1)) then
          (some (false, (List.take r11.1 r11.2), false, (List.take r10.2.1 r10.2.2.2.2.2.2.2.2.2.2.2.1)))
        else
        none
      else
      none)
      (fun r10 =>
      Option.bind (Fshuntref01_trim_mfi k r10.1 r10.2.2.2.2.2.2.2.2.2.2.1) fun r11 =>
      if ((!(r10.2.2.1 == r10.2.2.2.2.1)) = true) then
        if (r10.2.2.1 = true) then
          if ((0 + r11.1) ≤ (List.length r11.2)) then
            (some ((decide (((r11.1 : Nat) : Int) > (0 : Int))), (List.take r11.1 r11.2), (decide ((((List.length r10.2.1) : Nat) : Int) > (0 : Int))), r10.2.1))
          else
          none
        else
        if ((0 + r11.1) ≤ (List.length r11.2)) then
          (some ((decide (((r11.1 : Nat) : Int) > (0 : Int))), (List.take r11.1 r11.2), false, r10.2.1))
        else
        none
      else
      if (r10.2.2.1 = true) then
        if ((0 + r11.1) ≤ (List.length r11.2)) then
          (some (false, (List.take r11.1 r11.2), (decide ((((List.length r10.2.1) : Nat) : Int) > (0 : Int))), r10.2.1))
        else
        none
      else
      if ((0 + r11.1) ≤ (List.length r11.2)) then
        (some (false, (List.take r11.1 r11.2), false, r10.2.1))
      else
      none)
  else
  none
def Fshuntref01_Divide : Nat → Bool → List Int → Bool → List Int → Option (Bool × List Int × Bool × List Int)
  | 0, _, _, _, _ => none
  | k + 1, a0, a1, b0, b1 => bshuntref01_Divide k a0 a1 b0 b1
def shshuntref01_Divide : FS := { vs := [.g [.lf .bool, .lf (.sl (.int .i64))], .g [.lf .bool, .lf (.sl (.int .i64))]], bs := [] }
def rsshuntref01_Divide : List FS := [{ vs := [.g [.lf .bool, .lf (.sl (.int .i64))], .g [.lf .bool, .lf (.sl (.int .i64))]], bs := [] }]
def Ishuntref01_Divide (k : Nat) : Inst := ⟨42, shshuntref01_Divide, rsshuntref01_Divide, fun x => Fshuntref01_Divide k x.1 x.2.1 x.2.2.1 x.2.2.2⟩
theorem alshuntref01_Divide (k : Nat) : AllI (call cf k) [Ishuntref01_trim_mfi k, Ishuntref01_digit k, Ishuntref01_Small k, Ishuntref01_Times k, Ishuntref01_minus k] := And.intro (okshuntref01_trim_mfi k) (And.intro (okshuntref01_digit k) (And.intro (okshuntref01_Small k) (And.intro (okshuntref01_Times k) (And.intro (okshuntref01_minus k) (True.intro)))))
def hsshuntref01_Divide_0 : List SS := [{ fr := [(2, .a (.ptr 0 0 0)), (3, .a (.ptr 1 0 0)), (4, .a (.ptr 2 0 0)), (5, .a (.ptr 3 0 0)), (6, .a (.smz 4)), (7, .a (.smz 5)), (8, .a (.lf (.int .i64)))], mem := [(0, some (.raw [[.lf .bool, .lf (.sl (.int .i64))]] 2 50 true false)), (1, some (.raw [[.lf .bool, .lf (.sl (.int .i64))]] 2 50 true false)), (2, some (.raw [[.lf .bool, .smz 6]] 2 50 false false)), (3, some (.raw [[.lf .bool, .smz 7]] 2 50 false false)), (4, some (.arr (.int .i64) 1 3 false)), (5, some (.arr (.int .i64) 1 3 false)), (6, some (.arr (.int .i64) 1 3 false)), (7, some (.arr (.int .i64) 1 3 false))], nx := 8 }, { fr := [(2, .a (.ptr 0 0 0)), (3, .a (.ptr 1 0 0)), (4, .a (.ptr 2 0 0)), (5, .a (.ptr 3 0 0)), (6, .a (.smz 4)), (7, .a (.lf (.sl (.int .i64)))), (8, .a (.lf (.int .i64)))], mem := [(0, some (.raw [[.lf .bool, .lf (.sl (.int .i64))]] 2 50 true false)), (1, some (.raw [[.lf .bool, .lf (.sl (.int .i64))]] 2 50 true false)), (2, some (.raw [[.lf .bool, .smz 5]] 2 50 false false)), (3, some (.raw [[.lf .bool, .smz 6]] 2 50 false false)), (4, some (.arr (.int .i64) 1 3 false)), (5, some (.arr (.int .i64) 1 3 false)), (6, some (.arr (.int .i64) 1 3 false))], nx := 7 }]
def osshuntref01_Divide_0 : List OS := [⟨some 0, { fr := [(2, .a (.ptr 0 0 0)), (3, .a (.ptr 1 0 0)), (4, .a (.ptr 2 0 0)), (5, .a (.ptr 3 0 0)), (6, .a (.smz 4)), (7, .a (.smz 5))], mem := [(0, some (.raw [[.lf .bool, .lf (.sl (.int .i64))]] 2 50 true false)), (1, some (.raw [[.lf .bool, .lf (.sl (.int .i64))]] 2 50 true false)), (2, some (.raw [[.lf .bool, .smz 6]] 2 50 false false)), (3, some (.raw [[.lf .bool, .smz 7]] 2 50 false false)), (4, some (.arr (.int .i64) 1 3 false)), (5, some (.arr (.int .i64) 1 3 false)), (6, some (.arr (.int .i64) 1 3 false)), (7, some (.arr (.int .i64) 1 3 false))], nx := 8 }⟩, ⟨some 0, { fr := [(2, .a (.ptr 0 0 0)), (3, .a (.ptr 1 0 0)), (4, .a (.ptr 2 0 0)), (5, .a (.ptr 3 0 0)), (6, .a (.smz 4)), (7, .a (.lf (.sl (.int .i64))))], mem := [(0, some (.raw [[.lf .bool, .lf (.sl (.int .i64))]] 2 50 true false)), (1, some (.raw [[.lf .bool, .lf (.sl (.int .i64))]] 2 50 true false)), (2, some (.raw [[.lf .bool, .smz 5]] 2 50 false false)), (3, some (.raw [[.lf .bool, .smz 6]] 2 50 false false)), (4, some (.arr (.int .i64) 1 3 false)), (5, some (.arr (.int .i64) 1 3 false)), (6, some (.arr (.int .i64) 1 3 false))], nx := 7 }⟩]
def LIshuntref01_Divide_0 (k : Nat) : LInst := ⟨0, hsshuntref01_Divide_0, osshuntref01_Divide_0, fun x => Lshuntref01_Divide_0 k k x⟩
theorem anshuntref01_Divide_0 (k : Nat) : LAll (LOk (R := DS OS.D osshuntref01_Divide_0) (fun b _ σ K => LOt Ty (kps 42) 0 b σ K []) cf (call cf k) (kps 42) Try.f42.ntmps k 0) 0 (lb Try.f42 0) :=
  And.intro (And.intro (True.intro) (And.intro (True.intro) (True.intro))) (And.intro (And.intro (True.intro) (And.intro (True.intro) (And.intro (True.intro) (And.intro (And.intro (True.intro) (And.intro (True.intro) (True.intro))) (True.intro))))) (True.intro))
theorem stshuntref01_Divide_0 (k n : Nat) (x : DS SS.D hsshuntref01_Divide_0) : Lshuntref01_Divide_0 k (n + 1) x = encSK SS.enc (fun σ => run2 cf (fun f a b K => COt f a b K [Ishuntref01_trim_mfi k, Ishuntref01_digit k, Ishuntref01_Small k, Ishuntref01_Times k, Ishuntref01_minus k]) (fun b _ σ K => LOt Ty (kps 42) 0 b σ K []) Try.f42.ntmps 0 (lb Try.f42 0) σ (nextK Ty (kps 42 0) 0 hsshuntref01_Divide_0 osshuntref01_Divide_0 fun x => Lshuntref01_Divide_0 k n x)) hsshuntref01_Divide_0 x := by kernel_rfl
theorem loshuntref01_Divide_0 (k : Nat) : LIOk cf (call cf k) (kps 42) Try.f42.ntmps k 0 0 (lb Try.f42 0) (LIshuntref01_Divide_0 k) :=
  loop_ok (c := cf) (callF := call cf k) (kp := kps 42) (nt := Try.f42.ntmps) (k := k) (p := 0) (b := 0) (x0 := lb Try.f42 0) (hs := hsshuntref01_Divide_0) (os := osshuntref01_Divide_0) (COt_ok (alshuntref01_Divide k)) (anshuntref01_Divide_0 k) (fun n x => Lshuntref01_Divide_0 k n x) (fun _ => rfl) (stshuntref01_Divide_0 k)
theorem anshuntref01_Divide (k : Nat) : LAll (LOk (R := DS FS.D rsshuntref01_Divide) (fun b _ σ K => LOt Ty (kps 42) 0 b σ K [LIshuntref01_Divide_0 k]) cf (call cf k) (cf.keep 42) Try.f42.ntmps k shshuntref01_Divide.bs.length) 0 (bd Try.f42) :=
  And.intro (True.intro) (And.intro (True.intro) (And.intro (True.intro) (And.intro (And.intro (True.intro) (LOt_ok (c := cf) (callF := call cf k) (kp := kps 42) (nt := Try.f42.ntmps) (k := k) (p := 0) (b := 0) (x0 := lb Try.f42 0) (l := [LIshuntref01_Divide_0 k]) (And.intro (fun _ => loshuntref01_Divide_0 k) (True.intro)))) (And.intro (True.intro) (And.intro (True.intro) (True.intro))))))
theorem stshuntref01_Divide (k : Nat) (x : shshuntref01_Divide.D) : Fshuntref01_Divide (k + 1) x.1 x.2.1 x.2.2.1 x.2.2.2 = body2 cf (fun f a b K => COt f a b K [Ishuntref01_trim_mfi k, Ishuntref01_digit k, Ishuntref01_Small k, Ishuntref01_Times k, Ishuntref01_minus k]) (fun b _ σ K => LOt Ty (kps 42) 0 b σ K [LIshuntref01_Divide_0 k]) 42 Try.f42.ntmps Try.f42.results.toList (bd Try.f42) (shshuntref01_Divide.enc x).1 (shshuntref01_Divide.enc x).2 (putS FS.dec rsshuntref01_Divide) := by kernel_rfl
theorem okshuntref01_Divide : ∀ k, InstOk (call cf k) (Ishuntref01_Divide k)
  | 0 => fun x y e => absurd (show (none : Option _) = some y from e) (by simp)
  | k + 1 => inst_ok (c := cf) (k := k) (f := 42) (fn := Try.f42) (body := bd Try.f42) (sh := shshuntref01_Divide) (os := rsshuntref01_Divide) rfl Try.func42 rfl ⟨rfl, Nat.le_of_ble_eq_true rfl⟩ (COt_ok (alshuntref01_Divide k)) (anshuntref01_Divide k) (fun x => Fshuntref01_Divide (k + 1) x.1 x.2.1 x.2.2.1 x.2.2.2) (stshuntref01_Divide k)

/-! shunt/shuntref01.Give -/
def Lshuntref01_Give_0s (k : Nat) (rec : Int → Bool → List Int → Bool → Nat → Bool → Nat → List Int → List Int → Option (Bool × List Int × Bool × Nat × Bool × Nat × List Int × List Int)) (i : Int) (a0 : Bool) (a1 : List Int) (x0 : Bool) (x1 : Nat) (out0 : Bool) (out1 : Nat) (m : List Int) (m1 : List Int) : Option (Bool × List Int × Bool × Nat × Bool × Nat × List Int × List Int) :=
  if ((decide (i < (((List.length a1) : Nat) : Int))) = true) then
    if ((0 : Int) ≤ i) then
      Option.bind (a1)[(Int.toNat i)]? fun x =>
      if ((decide ((IntKind.wrap .i64 (i + (1 : Int))) < (((List.length a1) : Nat) : Int))) = true) then
        if ((0 : Int) ≤ (IntKind.wrap .i64 (i + (1 : Int)))) then
          Option.bind (a1)[(Int.toNat (IntKind.wrap .i64 (i + (1 : Int))))]? fun x2 =>
          if (out1 ≤ (List.length m1)) then
            if (((out1 + (List.length (List.take 1 ((IntKind.wrap .u32 ((IntKind.wrap .u32 x) + (IntKind.wrap .u32 ((IntKind.wrap .u32 x2) * (65536 : Int))))) :: [])))) * 4) ≤ 140737488355328) then
              rec (IntKind.wrap .i64 (i + (2 : Int))) a0 a1 x0 x1 out0 (out1 + (List.length (List.take 1 ((IntKind.wrap .u32 ((IntKind.wrap .u32 x) + (IntKind.wrap .u32 ((IntKind.wrap .u32 x2) * (65536 : Int))))) :: [])))) m ((List.take out1 m1) ++ (List.take 1 ((IntKind.wrap .u32 ((IntKind.wrap .u32 x) + (IntKind.wrap .u32 ((IntKind.wrap .u32 x2) * (65536 : Int))))) :: [])))
            else
            none
          else
          none
        else
        none
      else
      if (out1 ≤ (List.length m1)) then
        if (((out1 + (List.length (List.take 1 ((IntKind.wrap .u32 x) :: [])))) * 4) ≤ 140737488355328) then
          rec (IntKind.wrap .i64 (i + (2 : Int))) a0 a1 x0 x1 out0 (out1 + (List.length (List.take 1 ((IntKind.wrap .u32 x) :: [])))) m ((List.take out1 m1) ++ (List.take 1 ((IntKind.wrap .u32 x) :: [])))
        else
        none
      else
      none
    else
    none
  else
  (some (a0, a1, x0, x1, out0, out1, m, m1))
def Lshuntref01_Give_0 (k n : Nat) : Int → Bool → List Int → Bool → Nat → Bool → Nat → List Int → List Int → Option (Bool × List Int × Bool × Nat × Bool × Nat × List Int × List Int) := Nat.rec (fun _ _ _ _ _ _ _ _ _ => none) (fun _ r => Lshuntref01_Give_0s k r) n
def bshuntref01_Give (k : Nat) (a0 : Bool) (a1 : List Int) : Option (Bool × List Int) :=
  Option.bind (Lshuntref01_Give_0 k k (0 : Int) a0 a1 false 0 a0 0 [] []) fun r11 =>
  if ((0 + r11.2.2.2.2.2.1) ≤ (List.length r11.2.2.2.2.2.2.2)) then
    (some (r11.2.2.2.2.1, (List.take r11.2.2.2.2.2.1 r11.2.2.2.2.2.2.2)))
  else
  none
def Fshuntref01_Give : Nat → Bool → List Int → Option (Bool × List Int)
  | 0, _, _ => none
  | k + 1, a0, a1 => bshuntref01_Give k a0 a1
def shshuntref01_Give : FS := { vs := [.g [.lf .bool, .lf (.sl (.int .i64))]], bs := [] }
def rsshuntref01_Give : List FS := [{ vs := [.g [.lf .bool, .lf (.sl (.int .u32))]], bs := [] }]
def Ishuntref01_Give (k : Nat) : Inst := ⟨27, shshuntref01_Give, rsshuntref01_Give, fun x => Fshuntref01_Give k x.1 x.2⟩
theorem alshuntref01_Give (k : Nat) : AllI (call cf k) [] := True.intro
def hsshuntref01_Give_0 : List SS := [{ fr := [(1, .a (.ptr 0 0 0)), (2, .a (.ptr 1 0 0)), (3, .a (.ptr 2 0 0)), (4, .a (.lf (.int .i64)))], mem := [(0, some (.raw [[.lf .bool, .lf (.sl (.int .i64))]] 2 50 true false)), (1, some (.raw [[.lf .bool, .smz 3]] 2 24 false false)), (2, some (.raw [[.lf .bool, .smz 4]] 2 24 false false)), (3, some (.arr (.int .u32) 1 64 false)), (4, some (.arr (.int .u32) 1 64 false))], nx := 5 }]
def osshuntref01_Give_0 : List OS := [⟨some 0, { fr := [(2, .a (.ptr 1 0 0)), (3, .a (.ptr 2 0 0))], mem := [(0, some (.raw [[.lf .bool, .lf (.sl (.int .i64))]] 2 50 true false)), (1, some (.raw [[.lf .bool, .smz 3]] 2 24 false false)), (2, some (.raw [[.lf .bool, .smz 4]] 2 24 false false)), (3, some (.arr (.int .u32) 1 64 false)), (4, some (.arr (.int .u32) 1 64 false))], nx := 5 }⟩]
def LIshuntref01_Give_0 (k : Nat) : LInst := ⟨0, hsshuntref01_Give_0, osshuntref01_Give_0, fun x => Lshuntref01_Give_0 k k x.1 x.2.1 x.2.2.1 x.2.2.2.1 x.2.2.2.2.1 x.2.2.2.2.2.1 x.2.2.2.2.2.2.1 x.2.2.2.2.2.2.2.1 x.2.2.2.2.2.2.2.2⟩
theorem anshuntref01_Give_0 (k : Nat) : LAll (LOk (R := DS OS.D osshuntref01_Give_0) (fun b _ σ K => LOt Ty (kps 27) 0 b σ K []) cf (call cf k) (kps 27) Try.f27.ntmps k 0) 0 (lb Try.f27 0) :=
  And.intro (And.intro (True.intro) (And.intro (True.intro) (True.intro))) (And.intro (And.intro (True.intro) (And.intro (And.intro (True.intro) (And.intro (True.intro) (True.intro))) (True.intro))) (True.intro))
theorem stshuntref01_Give_0 (k n : Nat) (x : DS SS.D hsshuntref01_Give_0) : Lshuntref01_Give_0 k (n + 1) x.1 x.2.1 x.2.2.1 x.2.2.2.1 x.2.2.2.2.1 x.2.2.2.2.2.1 x.2.2.2.2.2.2.1 x.2.2.2.2.2.2.2.1 x.2.2.2.2.2.2.2.2 = encSK SS.enc (fun σ => run2 cf (fun f a b K => COt f a b K []) (fun b _ σ K => LOt Ty (kps 27) 0 b σ K []) Try.f27.ntmps 0 (lb Try.f27 0) σ (nextK Ty (kps 27 0) 0 hsshuntref01_Give_0 osshuntref01_Give_0 fun x => Lshuntref01_Give_0 k n x.1 x.2.1 x.2.2.1 x.2.2.2.1 x.2.2.2.2.1 x.2.2.2.2.2.1 x.2.2.2.2.2.2.1 x.2.2.2.2.2.2.2.1 x.2.2.2.2.2.2.2.2)) hsshuntref01_Give_0 x := by kernel_rfl
theorem loshuntref01_Give_0 (k : Nat) : LIOk cf (call cf k) (kps 27) Try.f27.ntmps k 0 0 (lb Try.f27 0) (LIshuntref01_Give_0 k) :=
  loop_ok (c := cf) (callF := call cf k) (kp := kps 27) (nt := Try.f27.ntmps) (k := k) (p := 0) (b := 0) (x0 := lb Try.f27 0) (hs := hsshuntref01_Give_0) (os := osshuntref01_Give_0) (COt_ok (alshuntref01_Give k)) (anshuntref01_Give_0 k) (fun n x => Lshuntref01_Give_0 k n x.1 x.2.1 x.2.2.1 x.2.2.2.1 x.2.2.2.2.1 x.2.2.2.2.2.1 x.2.2.2.2.2.2.1 x.2.2.2.2.2.2.2.1 x.2.2.2.2.2.2.2.2) (fun _ => rfl) (stshuntref01_Give_0 k)
theorem anshuntref01_Give (k : Nat) : LAll (LOk (R := DS FS.D rsshuntref01_Give) (fun b _ σ K => LOt Ty (kps 27) 0 b σ K [LIshuntref01_Give_0 k]) cf (call cf k) (cf.keep 27) Try.f27.ntmps k shshuntref01_Give.bs.length) 0 (bd Try.f27) :=
  And.intro (True.intro) (And.intro (True.intro) (And.intro (And.intro (True.intro) (LOt_ok (c := cf) (callF := call cf k) (kp := kps 27) (nt := Try.f27.ntmps) (k := k) (p := 0) (b := 0) (x0 := lb Try.f27 0) (l := [LIshuntref01_Give_0 k]) (And.intro (fun _ => loshuntref01_Give_0 k) (True.intro)))) (And.intro (True.intro) (True.intro))))
theorem stshuntref01_Give (k : Nat) (x : shshuntref01_Give.D) : Fshuntref01_Give (k + 1) x.1 x.2 = body2 cf (fun f a b K => COt f a b K []) (fun b _ σ K => LOt Ty (kps 27) 0 b σ K [LIshuntref01_Give_0 k]) 27 Try.f27.ntmps Try.f27.results.toList (bd Try.f27) (shshuntref01_Give.enc x).1 (shshuntref01_Give.enc x).2 (putS FS.dec rsshuntref01_Give) := by kernel_rfl
theorem okshuntref01_Give : ∀ k, InstOk (call cf k) (Ishuntref01_Give k)
  | 0 => fun x y e => absurd (show (none : Option _) = some y from e) (by simp)
  | k + 1 => inst_ok (c := cf) (k := k) (f := 27) (fn := Try.f27) (body := bd Try.f27) (sh := shshuntref01_Give) (os := rsshuntref01_Give) rfl Try.func27 rfl ⟨rfl, Nat.le_of_ble_eq_true rfl⟩ (COt_ok (alshuntref01_Give k)) (anshuntref01_Give k) (fun x => Fshuntref01_Give (k + 1) x.1 x.2) (stshuntref01_Give k)

/-! shunt/shuntref01.QuoRem -/
def bshuntref01_QuoRem (k : Nat) (a0 : Bool) (a1 : List Int) (b0 : Bool) (b1 : List Int) : Option (Bool × List Int × Bool × List Int × Int) :=
  Option.bind (Fshuntref01_Right k a0 a1) fun r6 =>
  if ((!r6) = false) then
    Option.bind (Fshuntref01_Right k b0 b1) fun r7 =>
    if ((!r7) = true) then
      (some (false, [], false, [], (10 : Int)))
    else
    if (((((List.length b1) : Nat) : Int) == (0 : Int)) = true) then
      (some (false, [], false, [], (11 : Int)))
    else
    Option.bind (Fshuntref01_Take k a0 a1) fun r8 =>
    Option.bind (Fshuntref01_Take k b0 b1) fun r9 =>
    Option.bind (Fshuntref01_Divide k r8.1 r8.2 r9.1 r9.2) fun r10 =>
    Option.bind (Fshuntref01_Give k r10.1 r10.2.1) fun r11 =>
    Option.bind (Fshuntref01_Give k r10.2.2.1 r10.2.2.2) fun r12 =>
    (some (r11.1, r11.2, r12.1, r12.2, (0 : Int)))
  else
  (some (false, [], false, [], (10 : Int)))
def Fshuntref01_QuoRem : Nat → Bool → List Int → Bool → List Int → Option (Bool × List Int × Bool × List Int × Int)
  | 0, _, _, _, _ => none
  | k + 1, a0, a1, b0, b1 => bshuntref01_QuoRem k a0 a1 b0 b1
def shshuntref01_QuoRem : FS := { vs := [.g [.lf .bool, .lf (.sl (.int .u32))], .g [.lf .bool, .lf (.sl (.int .u32))]], bs := [] }
def rsshuntref01_QuoRem : List FS := [{ vs := [.g [.lf .bool, .lf (.sl (.int .u32))], .g [.lf .bool, .lf (.sl (.int .u32))], .a (.lf (.int .i64))], bs := [] }]
def Ishuntref01_QuoRem (k : Nat) : Inst := ⟨15, shshuntref01_QuoRem, rsshuntref01_QuoRem, fun x => Fshuntref01_QuoRem k x.1 x.2.1 x.2.2.1 x.2.2.2⟩
theorem alshuntref01_QuoRem (k : Nat) : AllI (call cf k) [Ishuntref01_Right k, Ishuntref01_Take k, Ishuntref01_Divide k, Ishuntref01_Give k] := And.intro (okshuntref01_Right k) (And.intro (okshuntref01_Take k) (And.intro (okshuntref01_Divide k) (And.intro (okshuntref01_Give k) (True.intro))))
theorem anshuntref01_QuoRem (k : Nat) : LAll (LOk (R := DS FS.D rsshuntref01_QuoRem) (fun b _ σ K => LOt Ty (kps 15) 0 b σ K []) cf (call cf k) (cf.keep 15) Try.f15.ntmps k shshuntref01_QuoRem.bs.length) 0 (bd Try.f15) :=
  And.intro (True.intro) (And.intro (And.intro (True.intro) (And.intro (And.intro (True.intro) (True.intro)) (True.intro))) (And.intro (And.intro (True.intro) (And.intro (And.intro (True.intro) (True.intro)) (True.intro))) (And.intro (True.intro) (And.intro (True.intro) (True.intro)))))
theorem stshuntref01_QuoRem (k : Nat) (x : shshuntref01_QuoRem.D) : Fshuntref01_QuoRem (k + 1) x.1 x.2.1 x.2.2.1 x.2.2.2 = body2 cf (fun f a b K => COt f a b K [Ishuntref01_Right k, Ishuntref01_Take k, Ishuntref01_Divide k, Ishuntref01_Give k]) (fun b _ σ K => LOt Ty (kps 15) 0 b σ K []) 15 Try.f15.ntmps Try.f15.results.toList (bd Try.f15) (shshuntref01_QuoRem.enc x).1 (shshuntref01_QuoRem.enc x).2 (putS FS.dec rsshuntref01_QuoRem) := by kernel_rfl
theorem okshuntref01_QuoRem : ∀ k, InstOk (call cf k) (Ishuntref01_QuoRem k)
  | 0 => fun x y e => absurd (show (none : Option _) = some y from e) (by simp)
  | k + 1 => inst_ok (c := cf) (k := k) (f := 15) (fn := Try.f15) (body := bd Try.f15) (sh := shshuntref01_QuoRem) (os := rsshuntref01_QuoRem) rfl Try.func15 rfl ⟨rfl, Nat.le_of_ble_eq_true rfl⟩ (COt_ok (alshuntref01_QuoRem k)) (anshuntref01_QuoRem k) (fun x => Fshuntref01_QuoRem (k + 1) x.1 x.2.1 x.2.2.1 x.2.2.2) (stshuntref01_QuoRem k)

end
end Go.Proofs.Ytghdpmejgonjmaa.Am
