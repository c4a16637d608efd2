/- Printed functions: each says what the typed machine says of the program -/
import Derived.Test.YtjgpegpjmkgkkaaGreatMP1
import Derived.KernelRfl

set_option linter.unusedVariables false
set_option maxRecDepth 100000
namespace Go.Proofs.YtjgpegpjmkgkkaaGreat.Am
open Go
noncomputable section

/-! shunt/shuntlaw02.awake -/
def bshuntlaw02_awake (k : Nat) : Option (Bool) :=
  Option.bind (Fshuntlaw02_of k (1 : Int) (2 : Int)) fun r =>
  Option.bind (Fshuntlaw02_of k (2 : Int) (6 : Int)) fun r1 =>
  Option.bind (Frat_Add k r.1 r.2.1 r.2.2.1 r.2.2.2 r1.1 r1.2.1 r1.2.2.1 r1.2.2.2) fun r2 =>
  Option.bind (Fshuntlaw02_of k (-(3 : Int)) (2 : Int)) fun r3 =>
  Option.bind (Frat_Round k r3.1 r3.2.1 r3.2.2.1 r3.2.2.2) fun r4 =>
  if ((r2.2.2.2.2.1 == (0 : Int)) = true) then
    if ((r4.2 == (0 : Int)) = true) then
      if ((r4.1 == (-(2 : Int))) = true) then
        Option.bind (Fshuntlaw02_of k (5 : Int) (6 : Int)) fun r5 =>
        if ((0 + r2.2.1) ≤ (List.length r2.2.2.2.2.2.1)) then
          if ((0 + r2.2.2.2.1) ≤ (List.length r2.2.2.2.2.2.2)) then
            Option.bind (Fshuntlaw02_same k r2.1 (List.take r2.2.1 r2.2.2.2.2.2.1) r2.2.2.1 (List.take r2.2.2.2.1 r2.2.2.2.2.2.2) r5.1 r5.2.1 r5.2.2.1 r5.2.2.2) fun r6 =>
            if (r6 = true) then
              if ((((r2.2.2.2.1 : Nat) : Int) == (1 : Int)) = true) then
                if (((0 : Int) ≤ (0 : Int)) ∧ ((0 : Int) < ((r2.2.2.2.1 : Nat) : Int))) then
                  Option.bind (r2.2.2.2.2.2.2)[0]? fun x =>
                  if ((x == (6 : Int)) = true) then
                    Option.bind (Frat_Check k false [] false []) fun r7 =>
                    (some (r7 == (20 : Int)))
                  else
                  (some false)
                else
                none
              else
              (some false)
            else
            (some false)
          else
          none
        else
        none
      else
      (some false)
    else
    (some false)
  else
  (some false)
def Fshuntlaw02_awake : Nat → Option (Bool)
  | 0 => none
  | k + 1 => bshuntlaw02_awake k
def shshuntlaw02_awake : FS := { vs := [], bs := [] }
def rsshuntlaw02_awake : List FS := [{ vs := [.a (.lf .bool)], bs := [] }]
def Ishuntlaw02_awake (k : Nat) : Inst := ⟨4, shshuntlaw02_awake, rsshuntlaw02_awake, fun x => Fshuntlaw02_awake k⟩
theorem alshuntlaw02_awake (k : Nat) : AllI (call cf k) [Ishuntlaw02_of k, Irat_Add k, Irat_Round k, Ishuntlaw02_same k, Irat_Check k] := And.intro (okshuntlaw02_of k) (And.intro (okrat_Add k) (And.intro (okrat_Round k) (And.intro (okshuntlaw02_same k) (And.intro (okrat_Check k) (True.intro)))))
theorem anshuntlaw02_awake (k : Nat) : LAll (LOk (R := DS FS.D rsshuntlaw02_awake) (fun b _ σ K => LOt Ty (kps 4) 0 b σ K []) cf (call cf k) (cf.keep 4) Tryz.f4.ntmps k shshuntlaw02_awake.bs.length) 0 (bd Tryz.f4) :=
  And.intro (True.intro) (And.intro (True.intro) (And.intro (True.intro) (And.intro (True.intro) (True.intro))))
theorem stshuntlaw02_awake (k : Nat) (x : shshuntlaw02_awake.D) : Fshuntlaw02_awake (k + 1) = body2 cf (fun f a b K => COt f a b K [Ishuntlaw02_of k, Irat_Add k, Irat_Round k, Ishuntlaw02_same k, Irat_Check k]) (fun b _ σ K => LOt Ty (kps 4) 0 b σ K []) 4 Tryz.f4.ntmps Tryz.f4.results.toList (bd Tryz.f4) (shshuntlaw02_awake.enc x).1 (shshuntlaw02_awake.enc x).2 (putS FS.dec rsshuntlaw02_awake) := by kernel_rfl
theorem okshuntlaw02_awake : ∀ k, InstOk (call cf k) (Ishuntlaw02_awake k)
  | 0 => fun x y e => absurd (show (none : Option _) = some y from e) (by simp)
  | k + 1 => inst_ok (c := cf) (k := k) (f := 4) (fn := Tryz.f4) (body := bd Tryz.f4) (sh := shshuntlaw02_awake) (os := rsshuntlaw02_awake) rfl Tryz.func4 rfl ⟨rfl, Nat.le_of_ble_eq_true rfl⟩ (COt_ok (alshuntlaw02_awake k)) (anshuntlaw02_awake k) (fun x => Fshuntlaw02_awake (k + 1)) (stshuntlaw02_awake k)

/-! shunt/shuntlaw02.long -/
def Lshuntlaw02_long_0s (k : Nat) (rec : Int → List (Bool × List Int) → Int → Int → Option (Int)) (n : Int) (x : List (Bool × List Int)) (x1 : Int) (x2 : Int) : Option (Int) :=
  if ((decide (x2 < x1)) = true) then
    if ((0 : Int) ≤ x2) then
      Option.bind (x)[(Int.toNat x2)]? fun x3 =>
      rec (IntKind.wrap .i64 (n + (min (((List.length x3.2) : Nat) : Int) (1000 : Int)))) x x1 (IntKind.wrap .i64 (x2 + (1 : Int)))
    else
    none
  else
  (some n)
def Lshuntlaw02_long_0 (k n : Nat) : Int → List (Bool × List Int) → Int → Int → Option (Int) := Nat.rec (fun _ _ _ _ => none) (fun _ r => Lshuntlaw02_long_0s k r) n
def bshuntlaw02_long (k : Nat) (l : List (Bool × List Int)) : Option (Bool) :=
  Option.bind (Lshuntlaw02_long_0 k k (0 : Int) l (((List.length l) : Nat) : Int) (0 : Int)) fun r1 =>
  (some (decide (r1 > (160 : Int))))
def Fshuntlaw02_long : Nat → List (Bool × List Int) → Option (Bool)
  | 0, _ => none
  | k + 1, l => bshuntlaw02_long k l
def shshuntlaw02_long : FS := { vs := [.a (.lf (.sl (.pr .bool (.sl (.int .u32)))))], bs := [] }
def rsshuntlaw02_long : List FS := [{ vs := [.a (.lf .bool)], bs := [] }]
def Ishuntlaw02_long (k : Nat) : Inst := ⟨5, shshuntlaw02_long, rsshuntlaw02_long, fun x => Fshuntlaw02_long k x⟩
theorem alshuntlaw02_long (k : Nat) : AllI (call cf k) [] := True.intro
def hsshuntlaw02_long_0 : List SS := [{ fr := [(3, .a (.lf (.int .i64))), (6, .a (.lf (.sl (.pr .bool (.sl (.int .u32)))))), (7, .a (.lf (.int .i64))), (8, .a (.lf (.int .i64)))], mem := [], nx := 0 }]
def osshuntlaw02_long_0 : List OS := [⟨some 0, { fr := [(3, .a (.lf (.int .i64)))], mem := [], nx := 0 }⟩]
def LIshuntlaw02_long_0 (k : Nat) : LInst := ⟨0, hsshuntlaw02_long_0, osshuntlaw02_long_0, fun x => Lshuntlaw02_long_0 k k x.1 x.2.1 x.2.2.1 x.2.2.2⟩
theorem anshuntlaw02_long_0 (k : Nat) : LAll (LOk (R := DS OS.D osshuntlaw02_long_0) (fun b _ σ K => LOt Ty (kps 5) 0 b σ K []) cf (call cf k) (kps 5) Tryz.f5.ntmps k 0) 0 (lb Tryz.f5 0) :=
  And.intro (True.intro) (And.intro (And.intro (True.intro) (True.intro)) (And.intro (And.intro (True.intro) (True.intro)) (True.intro)))
theorem stshuntlaw02_long_0 (k n : Nat) (x : DS SS.D hsshuntlaw02_long_0) : Lshuntlaw02_long_0 k (n + 1) x.1 x.2.1 x.2.2.1 x.2.2.2 = encSK SS.enc (fun σ => run2 cf (fun f a b K => COt f a b K []) (fun b _ σ K => LOt Ty (kps 5) 0 b σ K []) Tryz.f5.ntmps 0 (lb Tryz.f5 0) σ (nextK Ty (kps 5 0) 0 hsshuntlaw02_long_0 osshuntlaw02_long_0 fun x => Lshuntlaw02_long_0 k n x.1 x.2.1 x.2.2.1 x.2.2.2)) hsshuntlaw02_long_0 x := by kernel_rfl
theorem loshuntlaw02_long_0 (k : Nat) : LIOk cf (call cf k) (kps 5) Tryz.f5.ntmps k 0 0 (lb Tryz.f5 0) (LIshuntlaw02_long_0 k) :=
  loop_ok (c := cf) (callF := call cf k) (kp := kps 5) (nt := Tryz.f5.ntmps) (k := k) (p := 0) (b := 0) (x0 := lb Tryz.f5 0) (hs := hsshuntlaw02_long_0) (os := osshuntlaw02_long_0) (COt_ok (alshuntlaw02_long k)) (anshuntlaw02_long_0 k) (fun n x => Lshuntlaw02_long_0 k n x.1 x.2.1 x.2.2.1 x.2.2.2) (fun _ => rfl) (stshuntlaw02_long_0 k)
theorem anshuntlaw02_long (k : Nat) : LAll (LOk (R := DS FS.D rsshuntlaw02_long) (fun b _ σ K => LOt Ty (kps 5) 0 b σ K [LIshuntlaw02_long_0 k]) cf (call cf k) (cf.keep 5) Tryz.f5.ntmps k shshuntlaw02_long.bs.length) 0 (bd Tryz.f5) :=
  And.intro (True.intro) (And.intro (True.intro) (And.intro (And.intro (True.intro) (LOt_ok (c := cf) (callF := call cf k) (kp := kps 5) (nt := Tryz.f5.ntmps) (k := k) (p := 0) (b := 0) (x0 := lb Tryz.f5 0) (l := [LIshuntlaw02_long_0 k]) (And.intro (fun _ => loshuntlaw02_long_0 k) (True.intro)))) (And.intro (True.intro) (True.intro))))
theorem stshuntlaw02_long (k : Nat) (x : shshuntlaw02_long.D) : Fshuntlaw02_long (k + 1) x = body2 cf (fun f a b K => COt f a b K []) (fun b _ σ K => LOt Ty (kps 5) 0 b σ K [LIshuntlaw02_long_0 k]) 5 Tryz.f5.ntmps Tryz.f5.results.toList (bd Tryz.f5) (shshuntlaw02_long.enc x).1 (shshuntlaw02_long.enc x).2 (putS FS.dec rsshuntlaw02_long) := by kernel_rfl
theorem okshuntlaw02_long : ∀ k, InstOk (call cf k) (Ishuntlaw02_long k)
  | 0 => fun x y e => absurd (show (none : Option _) = some y from e) (by simp)
  | k + 1 => inst_ok (c := cf) (k := k) (f := 5) (fn := Tryz.f5) (body := bd Tryz.f5) (sh := shshuntlaw02_long) (os := rsshuntlaw02_long) rfl Tryz.func5 rfl ⟨rfl, Nat.le_of_ble_eq_true rfl⟩ (COt_ok (alshuntlaw02_long k)) (anshuntlaw02_long k) (fun x => Fshuntlaw02_long (k + 1) x) (stshuntlaw02_long k)

/-! shunt/shuntlaw02.lentInt -/
def bshuntlaw02_lentInt (k : Nat) (a0 : Bool) (a1 : List Int) : Option (Bool × Nat × List Int) :=
  if (((0 + (List.length a1)) * 4) ≤ 140737488355328) then
    if ((0 + (List.length a1)) ≤ (List.length ((List.take 0 []) ++ a1))) then
      if ((((0 + (List.length a1)) + 1) * 4) ≤ 140737488355328) then
        if (((0 : Int) ≤ (0 : Int)) ∧ (((0 : Int) ≤ (((List.length a1) : Nat) : Int)) ∧ (((0 + (Int.toNat (((List.length a1) : Nat) : Int))) ≤ (List.length ((List.take (0 + (List.length a1)) ((List.take 0 []) ++ a1)) ++ (List.take 1 ((11259375 : Int) :: []))))) ∧ (((0 : Int) < (((List.length a1) : Nat) : Int)) ∨ (true = true))))) then
          (some (a0, (Int.toNat (((List.length a1) : Nat) : Int)), ((List.take (0 + (List.length a1)) ((List.take 0 []) ++ a1)) ++ (List.take 1 ((11259375 : Int) :: [])))))
        else
        none
      else
      none
    else
    none
  else
  none
def Fshuntlaw02_lentInt : Nat → Bool → List Int → Option (Bool × Nat × List Int)
  | 0, _, _ => none
  | k + 1, a0, a1 => bshuntlaw02_lentInt k a0 a1
def shshuntlaw02_lentInt : FS := { vs := [.g [.lf .bool, .lf (.sl (.int .u32))]], bs := [] }
def rsshuntlaw02_lentInt : List FS := [{ vs := [.g [.lf .bool, .smz 0]], bs := [.arr (.int .u32) 1 40 false] }]
def Ishuntlaw02_lentInt (k : Nat) : Inst := ⟨19, shshuntlaw02_lentInt, rsshuntlaw02_lentInt, fun x => Fshuntlaw02_lentInt k x.1 x.2⟩
theorem alshuntlaw02_lentInt (k : Nat) : AllI (call cf k) [] := True.intro
theorem anshuntlaw02_lentInt (k : Nat) : LAll (LOk (R := DS FS.D rsshuntlaw02_lentInt) (fun b _ σ K => LOt Ty (kps 19) 0 b σ K []) cf (call cf k) (cf.keep 19) Tryz.f19.ntmps k shshuntlaw02_lentInt.bs.length) 0 (bd Tryz.f19) :=
  And.intro (True.intro) (And.intro (True.intro) (True.intro))
theorem stshuntlaw02_lentInt (k : Nat) (x : shshuntlaw02_lentInt.D) : Fshuntlaw02_lentInt (k + 1) x.1 x.2 = body2 cf (fun f a b K => COt f a b K []) (fun b _ σ K => LOt Ty (kps 19) 0 b σ K []) 19 Tryz.f19.ntmps Tryz.f19.results.toList (bd Tryz.f19) (shshuntlaw02_lentInt.enc x).1 (shshuntlaw02_lentInt.enc x).2 (putS FS.dec rsshuntlaw02_lentInt) := by kernel_rfl
theorem okshuntlaw02_lentInt : ∀ k, InstOk (call cf k) (Ishuntlaw02_lentInt k)
  | 0 => fun x y e => absurd (show (none : Option _) = some y from e) (by simp)
  | k + 1 => inst_ok (c := cf) (k := k) (f := 19) (fn := Tryz.f19) (body := bd Tryz.f19) (sh := shshuntlaw02_lentInt) (os := rsshuntlaw02_lentInt) rfl Tryz.func19 rfl ⟨rfl, Nat.le_of_ble_eq_true rfl⟩ (COt_ok (alshuntlaw02_lentInt k)) (anshuntlaw02_lentInt k) (fun x => Fshuntlaw02_lentInt (k + 1) x.1 x.2) (stshuntlaw02_lentInt k)

/-! shunt/shuntlaw02.lent -/
def bshuntlaw02_lent (k : Nat) (r0 : Bool) (r1 : List Int) (r2 : Bool) (r3 : List Int) : Option (Bool × Nat × Bool × Nat × List Int × List Int) :=
  Option.bind (Fshuntlaw02_lentInt k r0 r1) fun r4 =>
  Option.bind (Fshuntlaw02_lentInt k r2 r3) fun r5 =>
  (some (r4.1, r4.2.1, r5.1, r5.2.1, r4.2.2, r5.2.2))
def Fshuntlaw02_lent : Nat → Bool → List Int → Bool → List Int → Option (Bool × Nat × Bool × Nat × List Int × List Int)
  | 0, _, _, _, _ => none
  | k + 1, r0, r1, r2, r3 => bshuntlaw02_lent k r0 r1 r2 r3
def shshuntlaw02_lent : FS := { vs := [.g [.lf .bool, .lf (.sl (.int .u32)), .lf .bool, .lf (.sl (.int .u32))]], bs := [] }
def rsshuntlaw02_lent : List FS := [{ vs := [.g [.lf .bool, .smz 0, .lf .bool, .smz 1]], bs := [.arr (.int .u32) 1 40 false, .arr (.int .u32) 1 40 false] }]
def Ishuntlaw02_lent (k : Nat) : Inst := ⟨6, shshuntlaw02_lent, rsshuntlaw02_lent, fun x => Fshuntlaw02_lent k x.1 x.2.1 x.2.2.1 x.2.2.2⟩
theorem alshuntlaw02_lent (k : Nat) : AllI (call cf k) [Ishuntlaw02_lentInt k] := And.intro (okshuntlaw02_lentInt k) (True.intro)
theorem anshuntlaw02_lent (k : Nat) : LAll (LOk (R := DS FS.D rsshuntlaw02_lent) (fun b _ σ K => LOt Ty (kps 6) 0 b σ K []) cf (call cf k) (cf.keep 6) Tryz.f6.ntmps k shshuntlaw02_lent.bs.length) 0 (bd Tryz.f6) :=
  And.intro (True.intro) (And.intro (True.intro) (True.intro))
theorem stshuntlaw02_lent (k : Nat) (x : shshuntlaw02_lent.D) : Fshuntlaw02_lent (k + 1) x.1 x.2.1 x.2.2.1 x.2.2.2 = body2 cf (fun f a b K => COt f a b K [Ishuntlaw02_lentInt k]) (fun b _ σ K => LOt Ty (kps 6) 0 b σ K []) 6 Tryz.f6.ntmps Tryz.f6.results.toList (bd Tryz.f6) (shshuntlaw02_lent.enc x).1 (shshuntlaw02_lent.enc x).2 (putS FS.dec rsshuntlaw02_lent) := by kernel_rfl
theorem okshuntlaw02_lent : ∀ k, InstOk (call cf k) (Ishuntlaw02_lent k)
  | 0 => fun x y e => absurd (show (none : Option _) = some y from e) (by simp)
  | k + 1 => inst_ok (c := cf) (k := k) (f := 6) (fn := Tryz.f6) (body := bd Tryz.f6) (sh := shshuntlaw02_lent) (os := rsshuntlaw02_lent) rfl Tryz.func6 rfl ⟨rfl, Nat.le_of_ble_eq_true rfl⟩ (COt_ok (alshuntlaw02_lent k)) (anshuntlaw02_lent k) (fun x => Fshuntlaw02_lent (k + 1) x.1 x.2.1 x.2.2.1 x.2.2.2) (stshuntlaw02_lent k)

/-! (*shunt/big.Int).Neg -/
def bbig_Int_Neg_xoq (k : Nat) (x0 : Bool) (x1 : List Int) : Option (Bool × List Int) :=
  Option.bind (Fbig_Int_set_paj k (!x0) x1 x0 x1) fun r10 =>
  (some (r10.1, r10.2))
def Fbig_Int_Neg_xoq : Nat → Bool → List Int → Option (Bool × List Int)
  | 0, _, _ => none
  | k + 1, x0, x1 => bbig_Int_Neg_xoq k x0 x1
def shbig_Int_Neg_xoq : FS := { vs := [.a (.ptr 0 0 0), .a (.ptr 0 0 0)], bs := [.raw [[.lf .bool, .lf (.sl (.int .u32))]] 2 77 true false] }
def rsbig_Int_Neg_xoq : List FS := [{ vs := [.a (.ptr 0 0 0)], bs := [.raw [[.lf .bool, .lf (.sl (.int .u32))]] 2 77 true false] }]
def Ibig_Int_Neg_xoq (k : Nat) : Inst := ⟨79, shbig_Int_Neg_xoq, rsbig_Int_Neg_xoq, fun x => Fbig_Int_Neg_xoq k x.1 x.2⟩
theorem albig_Int_Neg_xoq (k : Nat) : AllI (call cf k) [Ibig_Int_set_paj k] := And.intro (okbig_Int_set_paj k) (True.intro)
theorem anbig_Int_Neg_xoq (k : Nat) : LAll (LOk (R := DS FS.D rsbig_Int_Neg_xoq) (fun b _ σ K => LOt Ty (kps 79) 1 b σ K []) cf (call cf k) (cf.keep 79) Tryz.f79.ntmps k shbig_Int_Neg_xoq.bs.length) 0 (bd Tryz.f79) :=
  And.intro (True.intro) (And.intro (True.intro) (True.intro))
theorem stbig_Int_Neg_xoq (k : Nat) (x : shbig_Int_Neg_xoq.D) : Fbig_Int_Neg_xoq (k + 1) x.1 x.2 = body2 cf (fun f a b K => COt f a b K [Ibig_Int_set_paj k]) (fun b _ σ K => LOt Ty (kps 79) 1 b σ K []) 79 Tryz.f79.ntmps Tryz.f79.results.toList (bd Tryz.f79) (shbig_Int_Neg_xoq.enc x).1 (shbig_Int_Neg_xoq.enc x).2 (putS FS.dec rsbig_Int_Neg_xoq) := by kernel_rfl
theorem okbig_Int_Neg_xoq : ∀ k, InstOk (call cf k) (Ibig_Int_Neg_xoq k)
  | 0 => fun x y e => absurd (show (none : Option _) = some y from e) (by simp)
  | k + 1 => inst_ok (c := cf) (k := k) (f := 79) (fn := Tryz.f79) (body := bd Tryz.f79) (sh := shbig_Int_Neg_xoq) (os := rsbig_Int_Neg_xoq) rfl Tryz.func79 rfl ⟨rfl, Nat.le_of_ble_eq_true rfl⟩ (COt_ok (albig_Int_Neg_xoq k)) (anbig_Int_Neg_xoq k) (fun x => Fbig_Int_Neg_xoq (k + 1) x.1 x.2) (stbig_Int_Neg_xoq k)

/-! (*shunt/big.Rat).Neg -/
def bbig_Rat_Neg_yrp (k : Nat) (z0 : Bool) (z1 : Bool) (x0 : Bool) (x1 : List Int) (x2 : Bool) (x3 : List Int) : Option (Bool × List Int × Bool × List Int × Bool × List Int × Bool × List Int) :=
  Option.bind (Fbig_Rat_Num_plq k x0 x1 x2 x3) fun r8 =>
  Option.bind (Fbig_Rat_Denom_plq k r8.1 r8.2.1 r8.2.2.1 r8.2.2.2.1) fun r9 =>
  Option.bind (Fbig_Int_Neg_xoq k r8.2.2.2.2.1 r8.2.2.2.2.2) fun r10 =>
  (some (r10.1, r10.2, r9.2.2.2.2.1, r9.2.2.2.2.2, r9.1, r9.2.1, r9.2.2.1, r9.2.2.2.1))
def Fbig_Rat_Neg_yrp : Nat → Bool → Bool → Bool → List Int → Bool → List Int → Option (Bool × List Int × Bool × List Int × Bool × List Int × Bool × List Int)
  | 0, _, _, _, _, _, _ => none
  | k + 1, z0, z1, x0, x1, x2, x3 => bbig_Rat_Neg_yrp k z0 z1 x0 x1 x2 x3
def shbig_Rat_Neg_yrp : FS := { vs := [.a (.ptr 0 0 0), .a (.ptr 1 0 0)], bs := [.raw [[.lf .bool, .snil 1 40, .lf .bool, .snil 1 40]] 4 79 true false, .raw [[.lf .bool, .lf (.sl (.int .u32)), .lf .bool, .lf (.sl (.int .u32))]] 4 79 true false] }
def rsbig_Rat_Neg_yrp : List FS := [{ vs := [.a (.ptr 0 0 0)], bs := [.raw [[.lf .bool, .lf (.sl (.int .u32)), .lf .bool, .lf (.sl (.int .u32))]] 4 79 true false, .raw [[.lf .bool, .lf (.sl (.int .u32)), .lf .bool, .lf (.sl (.int .u32))]] 4 79 true false] }]
def Ibig_Rat_Neg_yrp (k : Nat) : Inst := ⟨50, shbig_Rat_Neg_yrp, rsbig_Rat_Neg_yrp, fun x => Fbig_Rat_Neg_yrp k x.1 x.2.1 x.2.2.1 x.2.2.2.1 x.2.2.2.2.1 x.2.2.2.2.2⟩
theorem albig_Rat_Neg_yrp (k : Nat) : AllI (call cf k) [Ibig_Rat_Num_plq k, Ibig_Rat_Denom_plq k, Ibig_Int_Neg_xoq k] := And.intro (okbig_Rat_Num_plq k) (And.intro (okbig_Rat_Denom_plq k) (And.intro (okbig_Int_Neg_xoq k) (True.intro)))
theorem anbig_Rat_Neg_yrp (k : Nat) : LAll (LOk (R := DS FS.D rsbig_Rat_Neg_yrp) (fun b _ σ K => LOt Ty (kps 50) 2 b σ K []) cf (call cf k) (cf.keep 50) Tryz.f50.ntmps k shbig_Rat_Neg_yrp.bs.length) 0 (bd Tryz.f50) :=
  And.intro (True.intro) (And.intro (True.intro) (And.intro (True.intro) (And.intro (True.intro) (True.intro))))
theorem stbig_Rat_Neg_yrp (k : Nat) (x : shbig_Rat_Neg_yrp.D) : Fbig_Rat_Neg_yrp (k + 1) x.1 x.2.1 x.2.2.1 x.2.2.2.1 x.2.2.2.2.1 x.2.2.2.2.2 = body2 cf (fun f a b K => COt f a b K [Ibig_Rat_Num_plq k, Ibig_Rat_Denom_plq k, Ibig_Int_Neg_xoq k]) (fun b _ σ K => LOt Ty (kps 50) 2 b σ K []) 50 Tryz.f50.ntmps Tryz.f50.results.toList (bd Tryz.f50) (shbig_Rat_Neg_yrp.enc x).1 (shbig_Rat_Neg_yrp.enc x).2 (putS FS.dec rsbig_Rat_Neg_yrp) := by kernel_rfl
theorem okbig_Rat_Neg_yrp : ∀ k, InstOk (call cf k) (Ibig_Rat_Neg_yrp k)
  | 0 => fun x y e => absurd (show (none : Option _) = some y from e) (by simp)
  | k + 1 => inst_ok (c := cf) (k := k) (f := 50) (fn := Tryz.f50) (body := bd Tryz.f50) (sh := shbig_Rat_Neg_yrp) (os := rsbig_Rat_Neg_yrp) rfl Tryz.func50 rfl ⟨rfl, Nat.le_of_ble_eq_true rfl⟩ (COt_ok (albig_Rat_Neg_yrp k)) (anbig_Rat_Neg_yrp k) (fun x => Fbig_Rat_Neg_yrp (k + 1) x.1 x.2.1 x.2.2.1 x.2.2.2.1 x.2.2.2.2.1 x.2.2.2.2.2) (stbig_Rat_Neg_yrp k)

/-! (*shunt/big.Rat).Sub -/
def bbig_Rat_Sub_cwi (k : Nat) (z0 : Bool) (z1 : Bool) (x0 : Bool) (x1 : List Int) (x2 : Bool) (x3 : List Int) (y0 : Bool) (y1 : List Int) (y2 : Bool) (y3 : List Int) : Option (Bool × List Int × Bool × List Int × Bool × List Int × Bool × List Int × Bool × List Int × Bool × List Int) :=
  Option.bind (Fbig_Rat_Neg_yrp k false false y0 y1 y2 y3) fun r8 =>
  Option.bind (Fbig_Rat_Add_cwi k z0 z1 x0 x1 x2 x3 r8.1 r8.2.1 r8.2.2.1 r8.2.2.2.1) fun r9 =>
  (some (r9.1, r9.2.1, r9.2.2.1, r9.2.2.2.1, r9.2.2.2.2.1, r9.2.2.2.2.2.1, r9.2.2.2.2.2.2.1, r9.2.2.2.2.2.2.2.1, r8.2.2.2.2.1, r8.2.2.2.2.2.1, r8.2.2.2.2.2.2.1, r8.2.2.2.2.2.2.2))
def Fbig_Rat_Sub_cwi : Nat → Bool → Bool → Bool → List Int → Bool → List Int → Bool → List Int → Bool → List Int → Option (Bool × List Int × Bool × List Int × Bool × List Int × Bool × List Int × Bool × List Int × Bool × List Int)
  | 0, _, _, _, _, _, _, _, _, _, _ => none
  | k + 1, z0, z1, x0, x1, x2, x3, y0, y1, y2, y3 => bbig_Rat_Sub_cwi k z0 z1 x0 x1 x2 x3 y0 y1 y2 y3
def shbig_Rat_Sub_cwi : FS := { vs := [.a (.ptr 0 0 0), .a (.ptr 1 0 0), .a (.ptr 2 0 0)], bs := [.raw [[.lf .bool, .snil 1 40, .lf .bool, .snil 1 40]] 4 79 true false, .raw [[.lf .bool, .lf (.sl (.int .u32)), .lf .bool, .lf (.sl (.int .u32))]] 4 79 true false, .raw [[.lf .bool, .lf (.sl (.int .u32)), .lf .bool, .lf (.sl (.int .u32))]] 4 79 true false] }
def rsbig_Rat_Sub_cwi : List FS := [{ vs := [.a (.ptr 0 0 0)], bs := [.raw [[.lf .bool, .lf (.sl (.int .u32)), .lf .bool, .lf (.sl (.int .u32))]] 4 79 true false, .raw [[.lf .bool, .lf (.sl (.int .u32)), .lf .bool, .lf (.sl (.int .u32))]] 4 79 true false, .raw [[.lf .bool, .lf (.sl (.int .u32)), .lf .bool, .lf (.sl (.int .u32))]] 4 79 true false] }]
def Ibig_Rat_Sub_cwi (k : Nat) : Inst := ⟨22, shbig_Rat_Sub_cwi, rsbig_Rat_Sub_cwi, fun x => Fbig_Rat_Sub_cwi k x.1 x.2.1 x.2.2.1 x.2.2.2.1 x.2.2.2.2.1 x.2.2.2.2.2.1 x.2.2.2.2.2.2.1 x.2.2.2.2.2.2.2.1 x.2.2.2.2.2.2.2.2.1 x.2.2.2.2.2.2.2.2.2⟩
theorem albig_Rat_Sub_cwi (k : Nat) : AllI (call cf k) [Ibig_Rat_Neg_yrp k, Ibig_Rat_Add_cwi k] := And.intro (okbig_Rat_Neg_yrp k) (And.intro (okbig_Rat_Add_cwi k) (True.intro))
theorem anbig_Rat_Sub_cwi (k : Nat) : LAll (LOk (R := DS FS.D rsbig_Rat_Sub_cwi) (fun b _ σ K => LOt Ty (kps 22) 3 b σ K []) cf (call cf k) (cf.keep 22) Tryz.f22.ntmps k shbig_Rat_Sub_cwi.bs.length) 0 (bd Tryz.f22) :=
  And.intro (True.intro) (And.intro (True.intro) (True.intro))
theorem stbig_Rat_Sub_cwi (k : Nat) (x : shbig_Rat_Sub_cwi.D) : Fbig_Rat_Sub_cwi (k + 1) x.1 x.2.1 x.2.2.1 x.2.2.2.1 x.2.2.2.2.1 x.2.2.2.2.2.1 x.2.2.2.2.2.2.1 x.2.2.2.2.2.2.2.1 x.2.2.2.2.2.2.2.2.1 x.2.2.2.2.2.2.2.2.2 = body2 cf (fun f a b K => COt f a b K [Ibig_Rat_Neg_yrp k, Ibig_Rat_Add_cwi k]) (fun b _ σ K => LOt Ty (kps 22) 3 b σ K []) 22 Tryz.f22.ntmps Tryz.f22.results.toList (bd Tryz.f22) (shbig_Rat_Sub_cwi.enc x).1 (shbig_Rat_Sub_cwi.enc x).2 (putS FS.dec rsbig_Rat_Sub_cwi) := by kernel_rfl
theorem okbig_Rat_Sub_cwi : ∀ k, InstOk (call cf k) (Ibig_Rat_Sub_cwi k)
  | 0 => fun x y e => absurd (show (none : Option _) = some y from e) (by simp)
  | k + 1 => inst_ok (c := cf) (k := k) (f := 22) (fn := Tryz.f22) (body := bd Tryz.f22) (sh := shbig_Rat_Sub_cwi) (os := rsbig_Rat_Sub_cwi) rfl Tryz.func22 rfl ⟨rfl, Nat.le_of_ble_eq_true rfl⟩ (COt_ok (albig_Rat_Sub_cwi k)) (anbig_Rat_Sub_cwi k) (fun x => Fbig_Rat_Sub_cwi (k + 1) x.1 x.2.1 x.2.2.1 x.2.2.2.1 x.2.2.2.2.1 x.2.2.2.2.2.1 x.2.2.2.2.2.2.1 x.2.2.2.2.2.2.2.1 x.2.2.2.2.2.2.2.2.1 x.2.2.2.2.2.2.2.2.2) (stbig_Rat_Sub_cwi k)

/-! shunt/rat.two -/
def brat_two_jru (k : Nat) (a0 : Bool) (a1 : List Int) (a2 : Bool) (a3 : List Int) (b0 : Bool) (b1 : List Int) (b2 : Bool) (b3 : List Int) : Option (Bool × Nat × Bool × Nat × Int × List Int × List Int) :=
  Option.bind (Frat_all k (List.take 2 (((a0, a1), (a2, a3)) :: (((b0, b1), (b2, b3)) :: [])))) fun r5 =>
  if ((r5 != (0 : Int)) = true) then
    (some (false, 0, false, 0, r5, [], []))
  else
  Option.bind (Fwide_Rat k a0 a1 a2 a3) fun r6 =>
  Option.bind (Fwide_Rat k b0 b1 b2 b3) fun r7 =>
  Option.bind (Fbig_Rat_Sub_cwi k false false r6.1 r6.2.1 r6.2.2.1 r6.2.2.2 r7.1 r7.2.1 r7.2.2.1 r7.2.2.2) fun r8 =>
  Option.bind (Frat_answer_plq k r8.1 r8.2.1 r8.2.2.1 r8.2.2.2.1) fun r9 =>
  (some (r9.1, r9.2.1, r9.2.2.1, r9.2.2.2.1, r9.2.2.2.2.1, r9.2.2.2.2.2.2.2.2.2.1, r9.2.2.2.2.2.2.2.2.2.2))
def Frat_two_jru : Nat → Bool → List Int → Bool → List Int → Bool → List Int → Bool → List Int → Option (Bool × Nat × Bool × Nat × Int × List Int × List Int)
  | 0, _, _, _, _, _, _, _, _ => none
  | k + 1, a0, a1, a2, a3, b0, b1, b2, b3 => brat_two_jru k a0 a1 a2 a3 b0 b1 b2 b3
def shrat_two_jru : FS := { vs := [.g [.lf .bool, .lf (.sl (.int .u32)), .lf .bool, .lf (.sl (.int .u32))], .g [.lf .bool, .lf (.sl (.int .u32)), .lf .bool, .lf (.sl (.int .u32))], .a (.fn 22)], bs := [] }
def rsrat_two_jru : List FS := [{ vs := [.g [.lf .bool, .smz 0, .lf .bool, .smz 1], .a (.lf (.int .i64))], bs := [.arr (.int .u32) 1 40 false, .arr (.int .u32) 1 40 false] }]
def Irat_two_jru (k : Nat) : Inst := ⟨20, shrat_two_jru, rsrat_two_jru, fun x => Frat_two_jru k x.1 x.2.1 x.2.2.1 x.2.2.2.1 x.2.2.2.2.1 x.2.2.2.2.2.1 x.2.2.2.2.2.2.1 x.2.2.2.2.2.2.2⟩
theorem alrat_two_jru (k : Nat) : AllI (call cf k) [Irat_all k, Iwide_Rat k, Ibig_Rat_Sub_cwi k, Irat_answer_plq k] := And.intro (okrat_all k) (And.intro (okwide_Rat k) (And.intro (okbig_Rat_Sub_cwi k) (And.intro (okrat_answer_plq k) (True.intro))))
theorem anrat_two_jru (k : Nat) : LAll (LOk (R := DS FS.D rsrat_two_jru) (fun b _ σ K => LOt Ty (kps 20) 0 b σ K []) cf (call cf k) (cf.keep 20) Tryz.f20.ntmps k shrat_two_jru.bs.length) 0 (bd Tryz.f20) :=
  And.intro (True.intro) (And.intro (And.intro (True.intro) (And.intro (True.intro) (And.intro (And.intro (True.intro) (True.intro)) (True.intro)))) (And.intro (True.intro) (True.intro)))
theorem strat_two_jru (k : Nat) (x : shrat_two_jru.D) : Frat_two_jru (k + 1) x.1 x.2.1 x.2.2.1 x.2.2.2.1 x.2.2.2.2.1 x.2.2.2.2.2.1 x.2.2.2.2.2.2.1 x.2.2.2.2.2.2.2 = body2 cf (fun f a b K => COt f a b K [Irat_all k, Iwide_Rat k, Ibig_Rat_Sub_cwi k, Irat_answer_plq k]) (fun b _ σ K => LOt Ty (kps 20) 0 b σ K []) 20 Tryz.f20.ntmps Tryz.f20.results.toList (bd Tryz.f20) (shrat_two_jru.enc x).1 (shrat_two_jru.enc x).2 (putS FS.dec rsrat_two_jru) := by kernel_rfl
theorem okrat_two_jru : ∀ k, InstOk (call cf k) (Irat_two_jru k)
  | 0 => fun x y e => absurd (show (none : Option _) = some y from e) (by simp)
  | k + 1 => inst_ok (c := cf) (k := k) (f := 20) (fn := Tryz.f20) (body := bd Tryz.f20) (sh := shrat_two_jru) (os := rsrat_two_jru) rfl Tryz.func20 rfl ⟨rfl, Nat.le_of_ble_eq_true rfl⟩ (COt_ok (alrat_two_jru k)) (anrat_two_jru k) (fun x => Frat_two_jru (k + 1) x.1 x.2.1 x.2.2.1 x.2.2.2.1 x.2.2.2.2.1 x.2.2.2.2.2.1 x.2.2.2.2.2.2.1 x.2.2.2.2.2.2.2) (strat_two_jru k)

/-! shunt/rat.Sub -/
def brat_Sub (k : Nat) (a0 : Bool) (a1 : List Int) (a2 : Bool) (a3 : List Int) (b0 : Bool) (b1 : List Int) (b2 : Bool) (b3 : List Int) : Option (Bool × List Int × Bool × List Int × Int) :=
  Option.bind (Frat_two_jru k a0 a1 a2 a3 b0 b1 b2 b3) fun r5 =>
  if ((0 + r5.2.1) ≤ (List.length r5.2.2.2.2.2.1)) then
    if ((0 + r5.2.2.2.1) ≤ (List.length r5.2.2.2.2.2.2)) then
      (some (r5.1, (List.take r5.2.1 r5.2.2.2.2.2.1), r5.2.2.1, (List.take r5.2.2.2.1 r5.2.2.2.2.2.2), r5.2.2.2.2.1))
    else
    none
  else
  none
def Frat_Sub : Nat → Bool → List Int → Bool → List Int → Bool → List Int → Bool → List Int → Option (Bool × List Int × Bool × List Int × Int)
  | 0, _, _, _, _, _, _, _, _ => none
  | k + 1, a0, a1, a2, a3, b0, b1, b2, b3 => brat_Sub k a0 a1 a2 a3 b0 b1 b2 b3
def shrat_Sub : FS := { vs := [.g [.lf .bool, .lf (.sl (.int .u32)), .lf .bool, .lf (.sl (.int .u32))], .g [.lf .bool, .lf (.sl (.int .u32)), .lf .bool, .lf (.sl (.int .u32))]], bs := [] }
def rsrat_Sub : List FS := [{ vs := [.g [.lf .bool, .lf (.sl (.int .u32)), .lf .bool, .lf (.sl (.int .u32))], .a (.lf (.int .i64))], bs := [] }]
def Irat_Sub (k : Nat) : Inst := ⟨8, shrat_Sub, rsrat_Sub, fun x => Frat_Sub k x.1 x.2.1 x.2.2.1 x.2.2.2.1 x.2.2.2.2.1 x.2.2.2.2.2.1 x.2.2.2.2.2.2.1 x.2.2.2.2.2.2.2⟩
theorem alrat_Sub (k : Nat) : AllI (call cf k) [Irat_two_jru k] := And.intro (okrat_two_jru k) (True.intro)
theorem anrat_Sub (k : Nat) : LAll (LOk (R := DS FS.D rsrat_Sub) (fun b _ σ K => LOt Ty (kps 8) 0 b σ K []) cf (call cf k) (cf.keep 8) Tryz.f8.ntmps k shrat_Sub.bs.length) 0 (bd Tryz.f8) :=
  And.intro (True.intro) (And.intro (True.intro) (True.intro))
theorem strat_Sub (k : Nat) (x : shrat_Sub.D) : Frat_Sub (k + 1) x.1 x.2.1 x.2.2.1 x.2.2.2.1 x.2.2.2.2.1 x.2.2.2.2.2.1 x.2.2.2.2.2.2.1 x.2.2.2.2.2.2.2 = body2 cf (fun f a b K => COt f a b K [Irat_two_jru k]) (fun b _ σ K => LOt Ty (kps 8) 0 b σ K []) 8 Tryz.f8.ntmps Tryz.f8.results.toList (bd Tryz.f8) (shrat_Sub.enc x).1 (shrat_Sub.enc x).2 (putS FS.dec rsrat_Sub) := by kernel_rfl
theorem okrat_Sub : ∀ k, InstOk (call cf k) (Irat_Sub k)
  | 0 => fun x y e => absurd (show (none : Option _) = some y from e) (by simp)
  | k + 1 => inst_ok (c := cf) (k := k) (f := 8) (fn := Tryz.f8) (body := bd Tryz.f8) (sh := shrat_Sub) (os := rsrat_Sub) rfl Tryz.func8 rfl ⟨rfl, Nat.le_of_ble_eq_true rfl⟩ (COt_ok (alrat_Sub k)) (anrat_Sub k) (fun x => Frat_Sub (k + 1) x.1 x.2.1 x.2.2.1 x.2.2.2.1 x.2.2.2.2.1 x.2.2.2.2.2.1 x.2.2.2.2.2.2.1 x.2.2.2.2.2.2.2) (strat_Sub k)

/-! (*shunt/big.Int).Mul -/
def Lbig_Int_Mul_uiu_2s (k : Nat) (rec : Nat → Int → Int → Int → List Int → Int → Int → List Int → Int → Int → Bool → Bool → List Int → Bool → List Int → Bool → List Int → Bool → List Int → List Int → Option (Nat × Int × Int × List Int × Int × Int × Bool × Bool × List Int × Bool × List Int × Bool × List Int × Bool × List Int × List Int)) (out1 : Nat) (i : Int) (a : Int) (carry : Int) (x : List Int) (x1 : Int) (x2 : Int) (x3 : List Int) (x4 : Int) (x5 : Int) (z : Bool) (x0 : Bool) (x11 : List Int) (x21 : Bool) (x31 : List Int) (y0 : Bool) (y1 : List Int) (y2 : Bool) (y3 : List Int) (outs : List Int) : Option (Nat × Int × Int × List Int × Int × Int × Bool × Bool × List Int × Bool × List Int × Bool × List Int × Bool × List Int × List Int) :=
  if ((decide (x5 < x4)) = true) then
    if ((0 : Int) ≤ x5) then
      Option.bind (x3)[(Int.toNat x5)]? fun x6 =>
      if (((0 : Int) ≤ (IntKind.wrap .i64 (i + x5))) ∧ ((IntKind.wrap .i64 (i + x5)) < ((out1 : Nat) : Int))) then
        Option.bind (outs)[(0 + (Int.toNat (IntKind.wrap .i64 (i + x5))))]? fun x7 =>
        if (((0 : Int) ≤ (IntKind.wrap .i64 (i + x5))) ∧ ((IntKind.wrap .i64 (i + x5)) < ((out1 : Nat) : Int))) then
          Option.bind (outs)[(0 + (Int.toNat (IntKind.wrap .i64 (i + x5))))]? fun x8 =>
          rec out1 i a (Int.fdiv (IntKind.wrap .u64 ((IntKind.wrap .u64 ((IntKind.wrap .u64 ((IntKind.wrap .u64 a) * (IntKind.wrap .u64 x6))) + (IntKind.wrap .u64 x7))) + carry)) (4294967296 : Int)) x x1 x2 x3 x4 (IntKind.wrap .i64 (x5 + (1 : Int))) z x0 x11 x21 x31 y0 y1 y2 y3 (List.set outs (0 + (Int.toNat (IntKind.wrap .i64 (i + x5)))) (IntKind.wrap .u32 (IntKind.wrap .u64 ((IntKind.wrap .u64 ((IntKind.wrap .u64 ((IntKind.wrap .u64 a) * (IntKind.wrap .u64 x6))) + (IntKind.wrap .u64 x7))) + carry))))
        else
        none
      else
      none
    else
    none
  else
  (some (out1, i, carry, x, x1, x2, z, x0, x11, x21, x31, y0, y1, y2, y3, outs))
def Lbig_Int_Mul_uiu_2 (k n : Nat) : Nat → Int → Int → Int → List Int → Int → Int → List Int → Int → Int → Bool → Bool → List Int → Bool → List Int → Bool → List Int → Bool → List Int → List Int → Option (Nat × Int × Int × List Int × Int × Int × Bool × Bool × List Int × Bool × List Int × Bool × List Int × Bool × List Int × List Int) := Nat.rec (fun _ _ _ _ _ _ _ _ _ _ _ _ _ _ _ _ _ _ _ _ => none) (fun _ r => Lbig_Int_Mul_uiu_2s k r) n
def Lbig_Int_Mul_uiu_0s (k : Nat) (rec : Nat → List Int → Int → Int → Bool → Bool → List Int → Bool → List Int → Bool → List Int → Bool → List Int → List Int → Option (Nat × Bool × Bool × List Int × Bool × List Int × Bool × List Int × Bool × List Int × List Int)) (out1 : Nat) (x : List Int) (x1 : Int) (x2 : Int) (z : Bool) (x0 : Bool) (x11 : List Int) (x21 : Bool) (x3 : List Int) (y0 : Bool) (y1 : List Int) (y2 : Bool) (y3 : List Int) (outs : List Int) : Option (Nat × Bool × Bool × List Int × Bool × List Int × Bool × List Int × Bool × List Int × List Int) :=
  if ((decide (x2 < x1)) = true) then
    if ((0 : Int) ≤ x2) then
      Option.bind (x)[(Int.toNat x2)]? fun x4 =>
      Option.bind (Lbig_Int_Mul_uiu_2 k k out1 x2 x4 (0 : Int) x x1 x2 y1 (((List.length y1) : Nat) : Int) (0 : Int) z x0 x11 x21 x3 y0 y1 y2 y3 outs) fun r9 =>
      if (((0 : Int) ≤ (IntKind.wrap .i64 (r9.2.1 + (((List.length r9.2.2.2.2.2.2.2.2.2.2.2.2.1) : Nat) : Int)))) ∧ ((IntKind.wrap .i64 (r9.2.1 + (((List.length r9.2.2.2.2.2.2.2.2.2.2.2.2.1) : Nat) : Int))) < ((r9.1 : Nat) : Int))) then
        Option.bind (r9.2.2.2.2.2.2.2.2.2.2.2.2.2.2.2)[(0 + (Int.toNat (IntKind.wrap .i64 (r9.2.1 + (((List.length r9.2.2.2.2.2.2.2.2.2.2.2.2.1) : Nat) : Int)))))]? fun x5 =>
        rec r9.1 r9.2.2.2.1 r9.2.2.2.2.1 (IntKind.wrap .i64 (r9.2.2.2.2.2.1 + (1 : Int))) r9.2.2.2.2.2.2.1 r9.2.2.2.2.2.2.2.1 r9.2.2.2.2.2.2.2.2.1 r9.2.2.2.2.2.2.2.2.2.1 r9.2.2.2.2.2.2.2.2.2.2.1 r9.2.2.2.2.2.2.2.2.2.2.2.1 r9.2.2.2.2.2.2.2.2.2.2.2.2.1 r9.2.2.2.2.2.2.2.2.2.2.2.2.2.1 r9.2.2.2.2.2.2.2.2.2.2.2.2.2.2.1 (List.set r9.2.2.2.2.2.2.2.2.2.2.2.2.2.2.2 (0 + (Int.toNat (IntKind.wrap .i64 (r9.2.1 + (((List.length r9.2.2.2.2.2.2.2.2.2.2.2.2.1) : Nat) : Int))))) (IntKind.wrap .u32 r9.2.2.1))
      else
      none
    else
    none
  else
  (some (out1, z, x0, x11, x21, x3, y0, y1, y2, y3, outs))
def Lbig_Int_Mul_uiu_0 (k n : Nat) : Nat → List Int → Int → Int → Bool → Bool → List Int → Bool → List Int → Bool → List Int → Bool → List Int → List Int → Option (Nat × Bool × Bool × List Int × Bool × List Int × Bool × List Int × Bool × List Int × List Int) := Nat.rec (fun _ _ _ _ _ _ _ _ _ _ _ _ _ _ => none) (fun _ r => Lbig_Int_Mul_uiu_0s k r) n
def bbig_Int_Mul_uiu (k : Nat) (z : Bool) (x0 : Bool) (x1 : List Int) (x2 : Bool) (x3 : List Int) (y0 : Bool) (y1 : List Int) (y2 : Bool) (y3 : List Int) : Option (Bool × List Int × Bool × List Int × Bool × List Int × Bool × List Int × Bool × List Int) :=
  if (((0 : Int) ≤ (IntKind.wrap .i64 ((((List.length x1) : Nat) : Int) + (((List.length y1) : Nat) : Int)))) ∧ (((IntKind.wrap .i64 ((((List.length x1) : Nat) : Int) + (((List.length y1) : Nat) : Int))) ≤ (IntKind.wrap .i64 ((((List.length x1) : Nat) : Int) + (((List.length y1) : Nat) : Int)))) ∧ (((IntKind.wrap .i64 ((((List.length x1) : Nat) : Int) + (((List.length y1) : Nat) : Int))) * (4 : Int)) ≤ (140737488355328 : Int)))) then
    Option.bind (Lbig_Int_Mul_uiu_0 k k (Int.toNat (IntKind.wrap .i64 ((((List.length x1) : Nat) : Int) + (((List.length y1) : Nat) : Int)))) x1 (((List.length x1) : Nat) : Int) (0 : Int) z x0 x1 x2 x3 y0 y1 y2 y3 (List.replicate (Int.toNat (IntKind.wrap .i64 ((((List.length x1) : Nat) : Int) + (((List.length y1) : Nat) : Int)))) (0 : Int))) fun r9 =>
    if ((0 + r9.1) ≤ (List.length r9.2.2.2.2.2.2.2.2.2.2)) then
      Option.bind (Fbig_Int_set_cvg k (!(r9.2.2.1 == r9.2.2.2.2.2.2.1)) (List.take r9.1 r9.2.2.2.2.2.2.2.2.2.2) r9.2.1) fun r10 =>
      (some (r10.1, r10.2, r9.2.2.1, r9.2.2.2.1, r9.2.2.2.2.1, r9.2.2.2.2.2.1, r9.2.2.2.2.2.2.1, r9.2.2.2.2.2.2.2.1, r9.2.2.2.2.2.2.2.2.1, r9.2.2.2.2.2.2.2.2.2.1))
    else
    none
  else
  none
def Fbig_Int_Mul_uiu : Nat → Bool → Bool → List Int → Bool → List Int → Bool → List Int → Bool → List Int → Option (Bool × List Int × Bool × List Int × Bool × List Int × Bool × List Int × Bool × List Int)
  | 0, _, _, _, _, _, _, _, _, _ => none
  | k + 1, z, x0, x1, x2, x3, y0, y1, y2, y3 => bbig_Int_Mul_uiu k z x0 x1 x2 x3 y0 y1 y2 y3
def shbig_Int_Mul_uiu : FS := { vs := [.a (.ptr 0 0 0), .a (.ptr 1 0 0), .a (.ptr 2 0 0)], bs := [.raw [[.lf .bool, .snil 1 40]] 2 77 true false, .raw [[.lf .bool, .lf (.sl (.int .u32)), .lf .bool, .lf (.sl (.int .u32))]] 4 79 true false, .raw [[.lf .bool, .lf (.sl (.int .u32)), .lf .bool, .lf (.sl (.int .u32))]] 4 79 true false] }
def rsbig_Int_Mul_uiu : List FS := [{ vs := [.a (.ptr 0 0 0)], bs := [.raw [[.lf .bool, .lf (.sl (.int .u32))]] 2 77 true false, .raw [[.lf .bool, .lf (.sl (.int .u32)), .lf .bool, .lf (.sl (.int .u32))]] 4 79 true false, .raw [[.lf .bool, .lf (.sl (.int .u32)), .lf .bool, .lf (.sl (.int .u32))]] 4 79 true false] }]
def Ibig_Int_Mul_uiu (k : Nat) : Inst := ⟨46, shbig_Int_Mul_uiu, rsbig_Int_Mul_uiu, fun x => Fbig_Int_Mul_uiu k x.1 x.2.1 x.2.2.1 x.2.2.2.1 x.2.2.2.2.1 x.2.2.2.2.2.1 x.2.2.2.2.2.2.1 x.2.2.2.2.2.2.2.1 x.2.2.2.2.2.2.2.2⟩
theorem albig_Int_Mul_uiu (k : Nat) : AllI (call cf k) [Ibig_Int_set_cvg k] := And.intro (okbig_Int_set_cvg k) (True.intro)
def hsbig_Int_Mul_uiu_2 : List SS := [{ fr := [(0, .a (.ptr 0 0 0)), (1, .a (.ptr 1 0 0)), (2, .a (.ptr 2 0 0)), (7, .a (.smz 3)), (8, .a (.lf (.int .i64))), (9, .a (.lf (.int .u32))), (10, .a (.lf (.int .u64))), (29, .a (.lf (.sl (.int .u32)))), (30, .a (.lf (.int .i64))), (31, .a (.lf (.int .i64))), (39, .a (.lf (.sl (.int .u32)))), (40, .a (.lf (.int .i64))), (41, .a (.lf (.int .i64)))], mem := [(0, some (.raw [[.lf .bool, .snil 1 40]] 2 77 true false)), (1, some (.raw [[.lf .bool, .lf (.sl (.int .u32)), .lf .bool, .lf (.sl (.int .u32))]] 4 79 true false)), (2, some (.raw [[.lf .bool, .lf (.sl (.int .u32)), .lf .bool, .lf (.sl (.int .u32))]] 4 79 true false)), (3, some (.arr (.int .u32) 1 40 false))], nx := 4 }]
def osbig_Int_Mul_uiu_2 : List OS := [⟨some 2, { fr := [(0, .a (.ptr 0 0 0)), (1, .a (.ptr 1 0 0)), (2, .a (.ptr 2 0 0)), (7, .a (.smz 3)), (8, .a (.lf (.int .i64))), (10, .a (.lf (.int .u64))), (29, .a (.lf (.sl (.int .u32)))), (30, .a (.lf (.int .i64))), (31, .a (.lf (.int .i64)))], mem := [(0, some (.raw [[.lf .bool, .snil 1 40]] 2 77 true false)), (1, some (.raw [[.lf .bool, .lf (.sl (.int .u32)), .lf .bool, .lf (.sl (.int .u32))]] 4 79 true false)), (2, some (.raw [[.lf .bool, .lf (.sl (.int .u32)), .lf .bool, .lf (.sl (.int .u32))]] 4 79 true false)), (3, some (.arr (.int .u32) 1 40 false))], nx := 4 }⟩]
def LIbig_Int_Mul_uiu_2 (k : Nat) : LInst := ⟨2, hsbig_Int_Mul_uiu_2, osbig_Int_Mul_uiu_2, fun x => Lbig_Int_Mul_uiu_2 k k x.1 x.2.1 x.2.2.1 x.2.2.2.1 x.2.2.2.2.1 x.2.2.2.2.2.1 x.2.2.2.2.2.2.1 x.2.2.2.2.2.2.2.1 x.2.2.2.2.2.2.2.2.1 x.2.2.2.2.2.2.2.2.2.1 x.2.2.2.2.2.2.2.2.2.2.1 x.2.2.2.2.2.2.2.2.2.2.2.1 x.2.2.2.2.2.2.2.2.2.2.2.2.1 x.2.2.2.2.2.2.2.2.2.2.2.2.2.1 x.2.2.2.2.2.2.2.2.2.2.2.2.2.2.1 x.2.2.2.2.2.2.2.2.2.2.2.2.2.2.2.1 x.2.2.2.2.2.2.2.2.2.2.2.2.2.2.2.2.1 x.2.2.2.2.2.2.2.2.2.2.2.2.2.2.2.2.2.1 x.2.2.2.2.2.2.2.2.2.2.2.2.2.2.2.2.2.2.1 x.2.2.2.2.2.2.2.2.2.2.2.2.2.2.2.2.2.2.2⟩
theorem anbig_Int_Mul_uiu_2 (k : Nat) : LAll (LOk (R := DS OS.D osbig_Int_Mul_uiu_2) (fun b _ σ K => LOt Ty (kps 46) 3 b σ K []) cf (call cf k) (kps 46) Tryz.f46.ntmps k 3) 2 (lb Tryz.f46 1) :=
  And.intro (True.intro) (And.intro (And.intro (True.intro) (True.intro)) (And.intro (And.intro (True.intro) (And.intro (True.intro) (And.intro (True.intro) (True.intro)))) (True.intro)))
theorem stbig_Int_Mul_uiu_2 (k n : Nat) (x : DS SS.D hsbig_Int_Mul_uiu_2) : Lbig_Int_Mul_uiu_2 k (n + 1) x.1 x.2.1 x.2.2.1 x.2.2.2.1 x.2.2.2.2.1 x.2.2.2.2.2.1 x.2.2.2.2.2.2.1 x.2.2.2.2.2.2.2.1 x.2.2.2.2.2.2.2.2.1 x.2.2.2.2.2.2.2.2.2.1 x.2.2.2.2.2.2.2.2.2.2.1 x.2.2.2.2.2.2.2.2.2.2.2.1 x.2.2.2.2.2.2.2.2.2.2.2.2.1 x.2.2.2.2.2.2.2.2.2.2.2.2.2.1 x.2.2.2.2.2.2.2.2.2.2.2.2.2.2.1 x.2.2.2.2.2.2.2.2.2.2.2.2.2.2.2.1 x.2.2.2.2.2.2.2.2.2.2.2.2.2.2.2.2.1 x.2.2.2.2.2.2.2.2.2.2.2.2.2.2.2.2.2.1 x.2.2.2.2.2.2.2.2.2.2.2.2.2.2.2.2.2.2.1 x.2.2.2.2.2.2.2.2.2.2.2.2.2.2.2.2.2.2.2 = encSK SS.enc (fun σ => run2 cf (fun f a b K => COt f a b K [Ibig_Int_set_cvg k]) (fun b _ σ K => LOt Ty (kps 46) 3 b σ K []) Tryz.f46.ntmps 2 (lb Tryz.f46 1) σ (nextK Ty (kps 46 2) 3 hsbig_Int_Mul_uiu_2 osbig_Int_Mul_uiu_2 fun x => Lbig_Int_Mul_uiu_2 k n x.1 x.2.1 x.2.2.1 x.2.2.2.1 x.2.2.2.2.1 x.2.2.2.2.2.1 x.2.2.2.2.2.2.1 x.2.2.2.2.2.2.2.1 x.2.2.2.2.2.2.2.2.1 x.2.2.2.2.2.2.2.2.2.1 x.2.2.2.2.2.2.2.2.2.2.1 x.2.2.2.2.2.2.2.2.2.2.2.1 x.2.2.2.2.2.2.2.2.2.2.2.2.1 x.2.2.2.2.2.2.2.2.2.2.2.2.2.1 x.2.2.2.2.2.2.2.2.2.2.2.2.2.2.1 x.2.2.2.2.2.2.2.2.2.2.2.2.2.2.2.1 x.2.2.2.2.2.2.2.2.2.2.2.2.2.2.2.2.1 x.2.2.2.2.2.2.2.2.2.2.2.2.2.2.2.2.2.1 x.2.2.2.2.2.2.2.2.2.2.2.2.2.2.2.2.2.2.1 x.2.2.2.2.2.2.2.2.2.2.2.2.2.2.2.2.2.2.2)) hsbig_Int_Mul_uiu_2 x := by kernel_rfl
theorem lobig_Int_Mul_uiu_2 (k : Nat) : LIOk cf (call cf k) (kps 46) Tryz.f46.ntmps k 3 2 (lb Tryz.f46 1) (LIbig_Int_Mul_uiu_2 k) :=
  loop_ok (c := cf) (callF := call cf k) (kp := kps 46) (nt := Tryz.f46.ntmps) (k := k) (p := 3) (b := 2) (x0 := lb Tryz.f46 1) (hs := hsbig_Int_Mul_uiu_2) (os := osbig_Int_Mul_uiu_2) (COt_ok (albig_Int_Mul_uiu k)) (anbig_Int_Mul_uiu_2 k) (fun n x => Lbig_Int_Mul_uiu_2 k n x.1 x.2.1 x.2.2.1 x.2.2.2.1 x.2.2.2.2.1 x.2.2.2.2.2.1 x.2.2.2.2.2.2.1 x.2.2.2.2.2.2.2.1 x.2.2.2.2.2.2.2.2.1 x.2.2.2.2.2.2.2.2.2.1 x.2.2.2.2.2.2.2.2.2.2.1 x.2.2.2.2.2.2.2.2.2.2.2.1 x.2.2.2.2.2.2.2.2.2.2.2.2.1 x.2.2.2.2.2.2.2.2.2.2.2.2.2.1 x.2.2.2.2.2.2.2.2.2.2.2.2.2.2.1 x.2.2.2.2.2.2.2.2.2.2.2.2.2.2.2.1 x.2.2.2.2.2.2.2.2.2.2.2.2.2.2.2.2.1 x.2.2.2.2.2.2.2.2.2.2.2.2.2.2.2.2.2.1 x.2.2.2.2.2.2.2.2.2.2.2.2.2.2.2.2.2.2.1 x.2.2.2.2.2.2.2.2.2.2.2.2.2.2.2.2.2.2.2) (fun _ => rfl) (stbig_Int_Mul_uiu_2 k)
def hsbig_Int_Mul_uiu_0 : List SS := [{ fr := [(0, .a (.ptr 0 0 0)), (1, .a (.ptr 1 0 0)), (2, .a (.ptr 2 0 0)), (7, .a (.smz 3)), (29, .a (.lf (.sl (.int .u32)))), (30, .a (.lf (.int .i64))), (31, .a (.lf (.int .i64)))], mem := [(0, some (.raw [[.lf .bool, .snil 1 40]] 2 77 true false)), (1, some (.raw [[.lf .bool, .lf (.sl (.int .u32)), .lf .bool, .lf (.sl (.int .u32))]] 4 79 true false)), (2, some (.raw [[.lf .bool, .lf (.sl (.int .u32)), .lf .bool, .lf (.sl (.int .u32))]] 4 79 true false)), (3, some (.arr (.int .u32) 1 40 false))], nx := 4 }]
def osbig_Int_Mul_uiu_0 : List OS := [⟨some 0, { fr := [(0, .a (.ptr 0 0 0)), (1, .a (.ptr 1 0 0)), (2, .a (.ptr 2 0 0)), (7, .a (.smz 3))], mem := [(0, some (.raw [[.lf .bool, .snil 1 40]] 2 77 true false)), (1, some (.raw [[.lf .bool, .lf (.sl (.int .u32)), .lf .bool, .lf (.sl (.int .u32))]] 4 79 true false)), (2, some (.raw [[.lf .bool, .lf (.sl (.int .u32)), .lf .bool, .lf (.sl (.int .u32))]] 4 79 true false)), (3, some (.arr (.int .u32) 1 40 false))], nx := 4 }⟩]
def LIbig_Int_Mul_uiu_0 (k : Nat) : LInst := ⟨0, hsbig_Int_Mul_uiu_0, osbig_Int_Mul_uiu_0, fun x => Lbig_Int_Mul_uiu_0 k k x.1 x.2.1 x.2.2.1 x.2.2.2.1 x.2.2.2.2.1 x.2.2.2.2.2.1 x.2.2.2.2.2.2.1 x.2.2.2.2.2.2.2.1 x.2.2.2.2.2.2.2.2.1 x.2.2.2.2.2.2.2.2.2.1 x.2.2.2.2.2.2.2.2.2.2.1 x.2.2.2.2.2.2.2.2.2.2.2.1 x.2.2.2.2.2.2.2.2.2.2.2.2.1 x.2.2.2.2.2.2.2.2.2.2.2.2.2⟩
theorem anbig_Int_Mul_uiu_0 (k : Nat) : LAll (LOk (R := DS OS.D osbig_Int_Mul_uiu_0) (fun b _ σ K => LOt Ty (kps 46) 3 b σ K [LIbig_Int_Mul_uiu_2 k]) cf (call cf k) (kps 46) Tryz.f46.ntmps k 3) 0 (lb Tryz.f46 0) :=
  And.intro (True.intro) (And.intro (And.intro (True.intro) (True.intro)) (And.intro (And.intro (True.intro) (And.intro (True.intro) (And.intro (And.intro (True.intro) (LOt_ok (c := cf) (callF := call cf k) (kp := kps 46) (nt := Tryz.f46.ntmps) (k := k) (p := 3) (b := 2) (x0 := lb Tryz.f46 1) (l := [LIbig_Int_Mul_uiu_2 k]) (And.intro (fun _ => lobig_Int_Mul_uiu_2 k) (True.intro)))) (True.intro)))) (True.intro)))
theorem stbig_Int_Mul_uiu_0 (k n : Nat) (x : DS SS.D hsbig_Int_Mul_uiu_0) : Lbig_Int_Mul_uiu_0 k (n + 1) x.1 x.2.1 x.2.2.1 x.2.2.2.1 x.2.2.2.2.1 x.2.2.2.2.2.1 x.2.2.2.2.2.2.1 x.2.2.2.2.2.2.2.1 x.2.2.2.2.2.2.2.2.1 x.2.2.2.2.2.2.2.2.2.1 x.2.2.2.2.2.2.2.2.2.2.1 x.2.2.2.2.2.2.2.2.2.2.2.1 x.2.2.2.2.2.2.2.2.2.2.2.2.1 x.2.2.2.2.2.2.2.2.2.2.2.2.2 = encSK SS.enc (fun σ => run2 cf (fun f a b K => COt f a b K [Ibig_Int_set_cvg k]) (fun b _ σ K => LOt Ty (kps 46) 3 b σ K [LIbig_Int_Mul_uiu_2 k]) Tryz.f46.ntmps 0 (lb Tryz.f46 0) σ (nextK Ty (kps 46 0) 3 hsbig_Int_Mul_uiu_0 osbig_Int_Mul_uiu_0 fun x => Lbig_Int_Mul_uiu_0 k n x.1 x.2.1 x.2.2.1 x.2.2.2.1 x.2.2.2.2.1 x.2.2.2.2.2.1 x.2.2.2.2.2.2.1 x.2.2.2.2.2.2.2.1 x.2.2.2.2.2.2.2.2.1 x.2.2.2.2.2.2.2.2.2.1 x.2.2.2.2.2.2.2.2.2.2.1 x.2.2.2.2.2.2.2.2.2.2.2.1 x.2.2.2.2.2.2.2.2.2.2.2.2.1 x.2.2.2.2.2.2.2.2.2.2.2.2.2)) hsbig_Int_Mul_uiu_0 x := by kernel_rfl
theorem lobig_Int_Mul_uiu_0 (k : Nat) : LIOk cf (call cf k) (kps 46) Tryz.f46.ntmps k 3 0 (lb Tryz.f46 0) (LIbig_Int_Mul_uiu_0 k) :=
  loop_ok (c := cf) (callF := call cf k) (kp := kps 46) (nt := Tryz.f46.ntmps) (k := k) (p := 3) (b := 0) (x0 := lb Tryz.f46 0) (hs := hsbig_Int_Mul_uiu_0) (os := osbig_Int_Mul_uiu_0) (COt_ok (albig_Int_Mul_uiu k)) (anbig_Int_Mul_uiu_0 k) (fun n x => Lbig_Int_Mul_uiu_0 k n x.1 x.2.1 x.2.2.1 x.2.2.2.1 x.2.2.2.2.1 x.2.2.2.2.2.1 x.2.2.2.2.2.2.1 x.2.2.2.2.2.2.2.1 x.2.2.2.2.2.2.2.2.1 x.2.2.2.2.2.2.2.2.2.1 x.2.2.2.2.2.2.2.2.2.2.1 x.2.2.2.2.2.2.2.2.2.2.2.1 x.2.2.2.2.2.2.2.2.2.2.2.2.1 x.2.2.2.2.2.2.2.2.2.2.2.2.2) (fun _ => rfl) (stbig_Int_Mul_uiu_0 k)
theorem anbig_Int_Mul_uiu (k : Nat) : LAll (LOk (R := DS FS.D rsbig_Int_Mul_uiu) (fun b _ σ K => LOt Ty (kps 46) 3 b σ K [LIbig_Int_Mul_uiu_2 k, LIbig_Int_Mul_uiu_0 k]) cf (call cf k) (cf.keep 46) Tryz.f46.ntmps k shbig_Int_Mul_uiu.bs.length) 0 (bd Tryz.f46) :=
  And.intro (True.intro) (And.intro (True.intro) (And.intro (And.intro (True.intro) (LOt_ok (c := cf) (callF := call cf k) (kp := kps 46) (nt := Tryz.f46.ntmps) (k := k) (p := 3) (b := 0) (x0 := lb Tryz.f46 0) (l := [LIbig_Int_Mul_uiu_2 k, LIbig_Int_Mul_uiu_0 k]) (And.intro (fun h => absurd (show (2 : Nat) = 0 from h) (by decide)) (And.intro (fun _ => lobig_Int_Mul_uiu_0 k) (True.intro))))) (And.intro (True.intro) (True.intro))))
theorem stbig_Int_Mul_uiu (k : Nat) (x : shbig_Int_Mul_uiu.D) : Fbig_Int_Mul_uiu (k + 1) x.1 x.2.1 x.2.2.1 x.2.2.2.1 x.2.2.2.2.1 x.2.2.2.2.2.1 x.2.2.2.2.2.2.1 x.2.2.2.2.2.2.2.1 x.2.2.2.2.2.2.2.2 = body2 cf (fun f a b K => COt f a b K [Ibig_Int_set_cvg k]) (fun b _ σ K => LOt Ty (kps 46) 3 b σ K [LIbig_Int_Mul_uiu_2 k, LIbig_Int_Mul_uiu_0 k]) 46 Tryz.f46.ntmps Tryz.f46.results.toList (bd Tryz.f46) (shbig_Int_Mul_uiu.enc x).1 (shbig_Int_Mul_uiu.enc x).2 (putS FS.dec rsbig_Int_Mul_uiu) := by kernel_rfl
theorem okbig_Int_Mul_uiu : ∀ k, InstOk (call cf k) (Ibig_Int_Mul_uiu k)
  | 0 => fun x y e => absurd (show (none : Option _) = some y from e) (by simp)
  | k + 1 => inst_ok (c := cf) (k := k) (f := 46) (fn := Tryz.f46) (body := bd Tryz.f46) (sh := shbig_Int_Mul_uiu) (os := rsbig_Int_Mul_uiu) rfl Tryz.func46 rfl ⟨rfl, Nat.le_of_ble_eq_true rfl⟩ (COt_ok (albig_Int_Mul_uiu k)) (anbig_Int_Mul_uiu k) (fun x => Fbig_Int_Mul_uiu (k + 1) x.1 x.2.1 x.2.2.1 x.2.2.2.1 x.2.2.2.2.1 x.2.2.2.2.2.1 x.2.2.2.2.2.2.1 x.2.2.2.2.2.2.2.1 x.2.2.2.2.2.2.2.2) (stbig_Int_Mul_uiu k)

/-! (*shunt/big.Rat).Mul -/
def bbig_Rat_Mul_cwi (k : Nat) (z0 : Bool) (z1 : Bool) (x0 : Bool) (x1 : List Int) (x2 : Bool) (x3 : List Int) (y0 : Bool) (y1 : List Int) (y2 : Bool) (y3 : List Int) : Option (Bool × List Int × Bool × List Int × Bool × List Int × Bool × List Int × Bool × List Int × Bool × List Int) :=
  Option.bind (Fbig_Int_Mul_uiu k false x0 x1 x2 x3 y0 y1 y2 y3) fun r9 =>
  Option.bind (Fbig_Rat_Denom_plq k r9.2.2.1 r9.2.2.2.1 r9.2.2.2.2.1 r9.2.2.2.2.2.1) fun r10 =>
  Option.bind (Fbig_Rat_Denom_plq k r9.2.2.2.2.2.2.1 r9.2.2.2.2.2.2.2.1 r9.2.2.2.2.2.2.2.2.1 r9.2.2.2.2.2.2.2.2.2) fun r11 =>
  Option.bind (Fbig_Int_Mul_gsh k false r10.2.2.2.2.1 r10.2.2.2.2.2 r11.2.2.2.2.1 r11.2.2.2.2.2) fun r12 =>
  Option.bind (Fbig_Rat_frac_xda k z0 z1 r9.1 r9.2.1 r12.1 r12.2.1) fun r13 =>
  (some (r13.1, r13.2.1, r13.2.2.1, r13.2.2.2.1, r10.1, r10.2.1, r10.2.2.1, r10.2.2.2.1, r11.1, r11.2.1, r11.2.2.1, r11.2.2.2.1))
def Fbig_Rat_Mul_cwi : Nat → Bool → Bool → Bool → List Int → Bool → List Int → Bool → List Int → Bool → List Int → Option (Bool × List Int × Bool × List Int × Bool × List Int × Bool × List Int × Bool × List Int × Bool × List Int)
  | 0, _, _, _, _, _, _, _, _, _, _ => none
  | k + 1, z0, z1, x0, x1, x2, x3, y0, y1, y2, y3 => bbig_Rat_Mul_cwi k z0 z1 x0 x1 x2 x3 y0 y1 y2 y3
def shbig_Rat_Mul_cwi : FS := { vs := [.a (.ptr 0 0 0), .a (.ptr 1 0 0), .a (.ptr 2 0 0)], bs := [.raw [[.lf .bool, .snil 1 40, .lf .bool, .snil 1 40]] 4 79 true false, .raw [[.lf .bool, .lf (.sl (.int .u32)), .lf .bool, .lf (.sl (.int .u32))]] 4 79 true false, .raw [[.lf .bool, .lf (.sl (.int .u32)), .lf .bool, .lf (.sl (.int .u32))]] 4 79 true false] }
def rsbig_Rat_Mul_cwi : List FS := [{ vs := [.a (.ptr 0 0 0)], bs := [.raw [[.lf .bool, .lf (.sl (.int .u32)), .lf .bool, .lf (.sl (.int .u32))]] 4 79 true false, .raw [[.lf .bool, .lf (.sl (.int .u32)), .lf .bool, .lf (.sl (.int .u32))]] 4 79 true false, .raw [[.lf .bool, .lf (.sl (.int .u32)), .lf .bool, .lf (.sl (.int .u32))]] 4 79 true false] }]
def Ibig_Rat_Mul_cwi (k : Nat) : Inst := ⟨23, shbig_Rat_Mul_cwi, rsbig_Rat_Mul_cwi, fun x => Fbig_Rat_Mul_cwi k x.1 x.2.1 x.2.2.1 x.2.2.2.1 x.2.2.2.2.1 x.2.2.2.2.2.1 x.2.2.2.2.2.2.1 x.2.2.2.2.2.2.2.1 x.2.2.2.2.2.2.2.2.1 x.2.2.2.2.2.2.2.2.2⟩
theorem albig_Rat_Mul_cwi (k : Nat) : AllI (call cf k) [Ibig_Int_Mul_uiu k, Ibig_Rat_Denom_plq k, Ibig_Int_Mul_gsh k, Ibig_Rat_frac_xda k] := And.intro (okbig_Int_Mul_uiu k) (And.intro (okbig_Rat_Denom_plq k) (And.intro (okbig_Int_Mul_gsh k) (And.intro (okbig_Rat_frac_xda k) (True.intro))))
theorem anbig_Rat_Mul_cwi (k : Nat) : LAll (LOk (R := DS FS.D rsbig_Rat_Mul_cwi) (fun b _ σ K => LOt Ty (kps 23) 3 b σ K []) cf (call cf k) (cf.keep 23) Tryz.f23.ntmps k shbig_Rat_Mul_cwi.bs.length) 0 (bd Tryz.f23) :=
  And.intro (True.intro) (And.intro (True.intro) (And.intro (True.intro) (And.intro (True.intro) (And.intro (True.intro) (True.intro)))))
theorem stbig_Rat_Mul_cwi (k : Nat) (x : shbig_Rat_Mul_cwi.D) : Fbig_Rat_Mul_cwi (k + 1) x.1 x.2.1 x.2.2.1 x.2.2.2.1 x.2.2.2.2.1 x.2.2.2.2.2.1 x.2.2.2.2.2.2.1 x.2.2.2.2.2.2.2.1 x.2.2.2.2.2.2.2.2.1 x.2.2.2.2.2.2.2.2.2 = body2 cf (fun f a b K => COt f a b K [Ibig_Int_Mul_uiu k, Ibig_Rat_Denom_plq k, Ibig_Int_Mul_gsh k, Ibig_Rat_frac_xda k]) (fun b _ σ K => LOt Ty (kps 23) 3 b σ K []) 23 Tryz.f23.ntmps Tryz.f23.results.toList (bd Tryz.f23) (shbig_Rat_Mul_cwi.enc x).1 (shbig_Rat_Mul_cwi.enc x).2 (putS FS.dec rsbig_Rat_Mul_cwi) := by kernel_rfl
theorem okbig_Rat_Mul_cwi : ∀ k, InstOk (call cf k) (Ibig_Rat_Mul_cwi k)
  | 0 => fun x y e => absurd (show (none : Option _) = some y from e) (by simp)
  | k + 1 => inst_ok (c := cf) (k := k) (f := 23) (fn := Tryz.f23) (body := bd Tryz.f23) (sh := shbig_Rat_Mul_cwi) (os := rsbig_Rat_Mul_cwi) rfl Tryz.func23 rfl ⟨rfl, Nat.le_of_ble_eq_true rfl⟩ (COt_ok (albig_Rat_Mul_cwi k)) (anbig_Rat_Mul_cwi k) (fun x => Fbig_Rat_Mul_cwi (k + 1) x.1 x.2.1 x.2.2.1 x.2.2.2.1 x.2.2.2.2.1 x.2.2.2.2.2.1 x.2.2.2.2.2.2.1 x.2.2.2.2.2.2.2.1 x.2.2.2.2.2.2.2.2.1 x.2.2.2.2.2.2.2.2.2) (stbig_Rat_Mul_cwi k)

/-! shunt/rat.two -/
def brat_two_ikf (k : Nat) (a0 : Bool) (a1 : List Int) (a2 : Bool) (a3 : List Int) (b0 : Bool) (b1 : List Int) (b2 : Bool) (b3 : List Int) : Option (Bool × Nat × Bool × Nat × Int × List Int × List Int) :=
  Option.bind (Frat_all k (List.take 2 (((a0, a1), (a2, a3)) :: (((b0, b1), (b2, b3)) :: [])))) fun r6 =>
  if ((r6 != (0 : Int)) = true) then
    (some (false, 0, false, 0, r6, [], []))
  else
  Option.bind (Fwide_Rat k a0 a1 a2 a3) fun r7 =>
  Option.bind (Fwide_Rat k b0 b1 b2 b3) fun r8 =>
  Option.bind (Fbig_Rat_Mul_cwi k false false r7.1 r7.2.1 r7.2.2.1 r7.2.2.2 r8.1 r8.2.1 r8.2.2.1 r8.2.2.2) fun r9 =>
  Option.bind (Frat_answer_plq k r9.1 r9.2.1 r9.2.2.1 r9.2.2.2.1) fun r10 =>
  (some (r10.1, r10.2.1, r10.2.2.1, r10.2.2.2.1, r10.2.2.2.2.1, r10.2.2.2.2.2.2.2.2.2.1, r10.2.2.2.2.2.2.2.2.2.2))
def Frat_two_ikf : Nat → Bool → List Int → Bool → List Int → Bool → List Int → Bool → List Int → Option (Bool × Nat × Bool × Nat × Int × List Int × List Int)
  | 0, _, _, _, _, _, _, _, _ => none
  | k + 1, a0, a1, a2, a3, b0, b1, b2, b3 => brat_two_ikf k a0 a1 a2 a3 b0 b1 b2 b3
def shrat_two_ikf : FS := { vs := [.g [.lf .bool, .lf (.sl (.int .u32)), .lf .bool, .lf (.sl (.int .u32))], .g [.lf .bool, .lf (.sl (.int .u32)), .lf .bool, .lf (.sl (.int .u32))], .a (.fn 23)], bs := [] }
def rsrat_two_ikf : List FS := [{ vs := [.g [.lf .bool, .smz 0, .lf .bool, .smz 1], .a (.lf (.int .i64))], bs := [.arr (.int .u32) 1 40 false, .arr (.int .u32) 1 40 false] }]
def Irat_two_ikf (k : Nat) : Inst := ⟨20, shrat_two_ikf, rsrat_two_ikf, fun x => Frat_two_ikf k x.1 x.2.1 x.2.2.1 x.2.2.2.1 x.2.2.2.2.1 x.2.2.2.2.2.1 x.2.2.2.2.2.2.1 x.2.2.2.2.2.2.2⟩
theorem alrat_two_ikf (k : Nat) : AllI (call cf k) [Irat_all k, Iwide_Rat k, Ibig_Rat_Mul_cwi k, Irat_answer_plq k] := And.intro (okrat_all k) (And.intro (okwide_Rat k) (And.intro (okbig_Rat_Mul_cwi k) (And.intro (okrat_answer_plq k) (True.intro))))
theorem anrat_two_ikf (k : Nat) : LAll (LOk (R := DS FS.D rsrat_two_ikf) (fun b _ σ K => LOt Ty (kps 20) 0 b σ K []) cf (call cf k) (cf.keep 20) Tryz.f20.ntmps k shrat_two_ikf.bs.length) 0 (bd Tryz.f20) :=
  And.intro (True.intro) (And.intro (And.intro (True.intro) (And.intro (True.intro) (And.intro (And.intro (True.intro) (True.intro)) (True.intro)))) (And.intro (True.intro) (True.intro)))
theorem strat_two_ikf (k : Nat) (x : shrat_two_ikf.D) : Frat_two_ikf (k + 1) x.1 x.2.1 x.2.2.1 x.2.2.2.1 x.2.2.2.2.1 x.2.2.2.2.2.1 x.2.2.2.2.2.2.1 x.2.2.2.2.2.2.2 = body2 cf (fun f a b K => COt f a b K [Irat_all k, Iwide_Rat k, Ibig_Rat_Mul_cwi k, Irat_answer_plq k]) (fun b _ σ K => LOt Ty (kps 20) 0 b σ K []) 20 Tryz.f20.ntmps Tryz.f20.results.toList (bd Tryz.f20) (shrat_two_ikf.enc x).1 (shrat_two_ikf.enc x).2 (putS FS.dec rsrat_two_ikf) := by kernel_rfl
theorem okrat_two_ikf : ∀ k, InstOk (call cf k) (Irat_two_ikf k)
  | 0 => fun x y e => absurd (show (none : Option _) = some y from e) (by simp)
  | k + 1 => inst_ok (c := cf) (k := k) (f := 20) (fn := Tryz.f20) (body := bd Tryz.f20) (sh := shrat_two_ikf) (os := rsrat_two_ikf) rfl Tryz.func20 rfl ⟨rfl, Nat.le_of_ble_eq_true rfl⟩ (COt_ok (alrat_two_ikf k)) (anrat_two_ikf k) (fun x => Frat_two_ikf (k + 1) x.1 x.2.1 x.2.2.1 x.2.2.2.1 x.2.2.2.2.1 x.2.2.2.2.2.1 x.2.2.2.2.2.2.1 x.2.2.2.2.2.2.2) (strat_two_ikf k)

/-! shunt/rat.Mul -/
def brat_Mul (k : Nat) (a0 : Bool) (a1 : List Int) (a2 : Bool) (a3 : List Int) (b0 : Bool) (b1 : List Int) (b2 : Bool) (b3 : List Int) : Option (Bool × List Int × Bool × List Int × Int) :=
  Option.bind (Frat_two_ikf k a0 a1 a2 a3 b0 b1 b2 b3) fun r6 =>
  if ((0 + r6.2.1) ≤ (List.length r6.2.2.2.2.2.1)) then
    if ((0 + r6.2.2.2.1) ≤ (List.length r6.2.2.2.2.2.2)) then
      (some (r6.1, (List.take r6.2.1 r6.2.2.2.2.2.1), r6.2.2.1, (List.take r6.2.2.2.1 r6.2.2.2.2.2.2), r6.2.2.2.2.1))
    else
    none
  else
  none
def Frat_Mul : Nat → Bool → List Int → Bool → List Int → Bool → List Int → Bool → List Int → Option (Bool × List Int × Bool × List Int × Int)
  | 0, _, _, _, _, _, _, _, _ => none
  | k + 1, a0, a1, a2, a3, b0, b1, b2, b3 => brat_Mul k a0 a1 a2 a3 b0 b1 b2 b3
def shrat_Mul : FS := { vs := [.g [.lf .bool, .lf (.sl (.int .u32)), .lf .bool, .lf (.sl (.int .u32))], .g [.lf .bool, .lf (.sl (.int .u32)), .lf .bool, .lf (.sl (.int .u32))]], bs := [] }
def rsrat_Mul : List FS := [{ vs := [.g [.lf .bool, .lf (.sl (.int .u32)), .lf .bool, .lf (.sl (.int .u32))], .a (.lf (.int .i64))], bs := [] }]
def Irat_Mul (k : Nat) : Inst := ⟨9, shrat_Mul, rsrat_Mul, fun x => Frat_Mul k x.1 x.2.1 x.2.2.1 x.2.2.2.1 x.2.2.2.2.1 x.2.2.2.2.2.1 x.2.2.2.2.2.2.1 x.2.2.2.2.2.2.2⟩
theorem alrat_Mul (k : Nat) : AllI (call cf k) [Irat_two_ikf k] := And.intro (okrat_two_ikf k) (True.intro)
theorem anrat_Mul (k : Nat) : LAll (LOk (R := DS FS.D rsrat_Mul) (fun b _ σ K => LOt Ty (kps 9) 0 b σ K []) cf (call cf k) (cf.keep 9) Tryz.f9.ntmps k shrat_Mul.bs.length) 0 (bd Tryz.f9) :=
  And.intro (True.intro) (And.intro (True.intro) (True.intro))
theorem strat_Mul (k : Nat) (x : shrat_Mul.D) : Frat_Mul (k + 1) x.1 x.2.1 x.2.2.1 x.2.2.2.1 x.2.2.2.2.1 x.2.2.2.2.2.1 x.2.2.2.2.2.2.1 x.2.2.2.2.2.2.2 = body2 cf (fun f a b K => COt f a b K [Irat_two_ikf k]) (fun b _ σ K => LOt Ty (kps 9) 0 b σ K []) 9 Tryz.f9.ntmps Tryz.f9.results.toList (bd Tryz.f9) (shrat_Mul.enc x).1 (shrat_Mul.enc x).2 (putS FS.dec rsrat_Mul) := by kernel_rfl
theorem okrat_Mul : ∀ k, InstOk (call cf k) (Irat_Mul k)
  | 0 => fun x y e => absurd (show (none : Option _) = some y from e) (by simp)
  | k + 1 => inst_ok (c := cf) (k := k) (f := 9) (fn := Tryz.f9) (body := bd Tryz.f9) (sh := shrat_Mul) (os := rsrat_Mul) rfl Tryz.func9 rfl ⟨rfl, Nat.le_of_ble_eq_true rfl⟩ (COt_ok (alrat_Mul k)) (anrat_Mul k) (fun x => Frat_Mul (k + 1) x.1 x.2.1 x.2.2.1 x.2.2.2.1 x.2.2.2.2.1 x.2.2.2.2.2.1 x.2.2.2.2.2.2.1 x.2.2.2.2.2.2.2) (strat_Mul k)

/-! (*shunt/big.Int).Mul -/
def Lbig_Int_Mul_gak_2s (k : Nat) (rec : Nat → Int → Int → Int → List Int → Int → Int → List Int → Int → Int → Bool → Bool → List Int → Bool → List Int → Bool → List Int → List Int → Option (Nat × Int × Int × List Int × Int × Int × Bool × Bool × List Int × Bool × List Int × Bool × List Int × List Int)) (out1 : Nat) (i : Int) (a : Int) (carry : Int) (x : List Int) (x1 : Int) (x2 : Int) (x3 : List Int) (x4 : Int) (x5 : Int) (z : Bool) (x0 : Bool) (x11 : List Int) (y0 : Bool) (y1 : List Int) (y2 : Bool) (y3 : List Int) (outs : List Int) : Option (Nat × Int × Int × List Int × Int × Int × Bool × Bool × List Int × Bool × List Int × Bool × List Int × List Int) :=
  if ((decide (x5 < x4)) = true) then
    if ((0 : Int) ≤ x5) then
      Option.bind (x3)[(Int.toNat x5)]? fun x6 =>
      if (((0 : Int) ≤ (IntKind.wrap .i64 (i + x5))) ∧ ((IntKind.wrap .i64 (i + x5)) < ((out1 : Nat) : Int))) then
        Option.bind (outs)[(0 + (Int.toNat (IntKind.wrap .i64 (i + x5))))]? fun x7 =>
        if (((0 : Int) ≤ (IntKind.wrap .i64 (i + x5))) ∧ ((IntKind.wrap .i64 (i + x5)) < ((out1 : Nat) : Int))) then
          Option.bind (outs)[(0 + (Int.toNat (IntKind.wrap .i64 (i + x5))))]? fun x8 =>
          rec out1 i a (Int.fdiv (IntKind.wrap .u64 ((IntKind.wrap .u64 ((IntKind.wrap .u64 ((IntKind.wrap .u64 a) * (IntKind.wrap .u64 x6))) + (IntKind.wrap .u64 x7))) + carry)) (4294967296 : Int)) x x1 x2 x3 x4 (IntKind.wrap .i64 (x5 + (1 : Int))) z x0 x11 y0 y1 y2 y3 (List.set outs (0 + (Int.toNat (IntKind.wrap .i64 (i + x5)))) (IntKind.wrap .u32 (IntKind.wrap .u64 ((IntKind.wrap .u64 ((IntKind.wrap .u64 ((IntKind.wrap .u64 a) * (IntKind.wrap .u64 x6))) + (IntKind.wrap .u64 x7))) + carry))))
        else
        none
      else
      none
    else
    none
  else
  (some (out1, i, carry, x, x1, x2, z, x0, x11, y0, y1, y2, y3, outs))
def Lbig_Int_Mul_gak_2 (k n : Nat) : Nat → Int → Int → Int → List Int → Int → Int → List Int → Int → Int → Bool → Bool → List Int → Bool → List Int → Bool → List Int → List Int → Option (Nat × Int × Int × List Int × Int × Int × Bool × Bool × List Int × Bool × List Int × Bool × List Int × List Int) := Nat.rec (fun _ _ _ _ _ _ _ _ _ _ _ _ _ _ _ _ _ _ => none) (fun _ r => Lbig_Int_Mul_gak_2s k r) n
def Lbig_Int_Mul_gak_0s (k : Nat) (rec : Nat → List Int → Int → Int → Bool → Bool → List Int → Bool → List Int → Bool → List Int → List Int → Option (Nat × Bool × Bool × List Int × Bool × List Int × Bool × List Int × List Int)) (out1 : Nat) (x : List Int) (x1 : Int) (x2 : Int) (z : Bool) (x0 : Bool) (x11 : List Int) (y0 : Bool) (y1 : List Int) (y2 : Bool) (y3 : List Int) (outs : List Int) : Option (Nat × Bool × Bool × List Int × Bool × List Int × Bool × List Int × List Int) :=
  if ((decide (x2 < x1)) = true) then
    if ((0 : Int) ≤ x2) then
      Option.bind (x)[(Int.toNat x2)]? fun x4 =>
      Option.bind (Lbig_Int_Mul_gak_2 k k out1 x2 x4 (0 : Int) x x1 x2 y1 (((List.length y1) : Nat) : Int) (0 : Int) z x0 x11 y0 y1 y2 y3 outs) fun r14 =>
      if (((0 : Int) ≤ (IntKind.wrap .i64 (r14.2.1 + (((List.length r14.2.2.2.2.2.2.2.2.2.2.1) : Nat) : Int)))) ∧ ((IntKind.wrap .i64 (r14.2.1 + (((List.length r14.2.2.2.2.2.2.2.2.2.2.1) : Nat) : Int))) < ((r14.1 : Nat) : Int))) then
        Option.bind (r14.2.2.2.2.2.2.2.2.2.2.2.2.2)[(0 + (Int.toNat (IntKind.wrap .i64 (r14.2.1 + (((List.length r14.2.2.2.2.2.2.2.2.2.2.1) : Nat) : Int)))))]? fun x5 =>
        rec r14.1 r14.2.2.2.1 r14.2.2.2.2.1 (IntKind.wrap .i64 (r14.2.2.2.2.2.1 + (1 : Int))) r14.2.2.2.2.2.2.1 r14.2.2.2.2.2.2.2.1 r14.2.2.2.2.2.2.2.2.1 r14.2.2.2.2.2.2.2.2.2.1 r14.2.2.2.2.2.2.2.2.2.2.1 r14.2.2.2.2.2.2.2.2.2.2.2.1 r14.2.2.2.2.2.2.2.2.2.2.2.2.1 (List.set r14.2.2.2.2.2.2.2.2.2.2.2.2.2 (0 + (Int.toNat (IntKind.wrap .i64 (r14.2.1 + (((List.length r14.2.2.2.2.2.2.2.2.2.2.1) : Nat) : Int))))) (IntKind.wrap .u32 r14.2.2.1))
      else
      none
    else
    none
  else
  (some (out1, z, x0, x11, y0, y1, y2, y3, outs))
def Lbig_Int_Mul_gak_0 (k n : Nat) : Nat → List Int → Int → Int → Bool → Bool → List Int → Bool → List Int → Bool → List Int → List Int → Option (Nat × Bool × Bool × List Int × Bool × List Int × Bool × List Int × List Int) := Nat.rec (fun _ _ _ _ _ _ _ _ _ _ _ _ => none) (fun _ r => Lbig_Int_Mul_gak_0s k r) n
def bbig_Int_Mul_gak (k : Nat) (z : Bool) (x0 : Bool) (x1 : List Int) (y0 : Bool) (y1 : List Int) (y2 : Bool) (y3 : List Int) : Option (Bool × List Int × Bool × List Int × Bool × List Int × Bool × List Int) :=
  if (((0 : Int) ≤ (IntKind.wrap .i64 ((((List.length x1) : Nat) : Int) + (((List.length y1) : Nat) : Int)))) ∧ (((IntKind.wrap .i64 ((((List.length x1) : Nat) : Int) + (((List.length y1) : Nat) : Int))) ≤ (IntKind.wrap .i64 ((((List.length x1) : Nat) : Int) + (((List.length y1) : Nat) : Int)))) ∧ (((IntKind.wrap .i64 ((((List.length x1) : Nat) : Int) + (((List.length y1) : Nat) : Int))) * (4 : Int)) ≤ (140737488355328 : Int)))) then
    Option.bind (Lbig_Int_Mul_gak_0 k k (Int.toNat (IntKind.wrap .i64 ((((List.length x1) : Nat) : Int) + (((List.length y1) : Nat) : Int)))) x1 (((List.length x1) : Nat) : Int) (0 : Int) z x0 x1 y0 y1 y2 y3 (List.replicate (Int.toNat (IntKind.wrap .i64 ((((List.length x1) : Nat) : Int) + (((List.length y1) : Nat) : Int)))) (0 : Int))) fun r14 =>
    if ((0 + r14.1) ≤ (List.length r14.2.2.2.2.2.2.2.2)) then
      Option.bind (Fbig_Int_set_cvg k (!(r14.2.2.1 == r14.2.2.2.2.1)) (List.take r14.1 r14.2.2.2.2.2.2.2.2) r14.2.1) fun r15 =>
      (some (r15.1, r15.2, r14.2.2.1, r14.2.2.2.1, r14.2.2.2.2.1, r14.2.2.2.2.2.1, r14.2.2.2.2.2.2.1, r14.2.2.2.2.2.2.2.1))
    else
    none
  else
  none
def Fbig_Int_Mul_gak : Nat → Bool → Bool → List Int → Bool → List Int → Bool → List Int → Option (Bool × List Int × Bool × List Int × Bool × List Int × Bool × List Int)
  | 0, _, _, _, _, _, _, _ => none
  | k + 1, z, x0, x1, y0, y1, y2, y3 => bbig_Int_Mul_gak k z x0 x1 y0 y1 y2 y3
def shbig_Int_Mul_gak : FS := { vs := [.a (.ptr 0 0 0), .a (.ptr 1 0 0), .a (.ptr 2 0 0)], bs := [.raw [[.lf .bool, .snil 1 40]] 2 77 true false, .raw [[.lf .bool, .lf (.sl (.int .u32))]] 2 77 true false, .raw [[.lf .bool, .lf (.sl (.int .u32)), .lf .bool, .lf (.sl (.int .u32))]] 4 79 true false] }
def rsbig_Int_Mul_gak : List FS := [{ vs := [.a (.ptr 0 0 0)], bs := [.raw [[.lf .bool, .lf (.sl (.int .u32))]] 2 77 true false, .raw [[.lf .bool, .lf (.sl (.int .u32))]] 2 77 true false, .raw [[.lf .bool, .lf (.sl (.int .u32)), .lf .bool, .lf (.sl (.int .u32))]] 4 79 true false] }]
def Ibig_Int_Mul_gak (k : Nat) : Inst := ⟨46, shbig_Int_Mul_gak, rsbig_Int_Mul_gak, fun x => Fbig_Int_Mul_gak k x.1 x.2.1 x.2.2.1 x.2.2.2.1 x.2.2.2.2.1 x.2.2.2.2.2.1 x.2.2.2.2.2.2⟩
theorem albig_Int_Mul_gak (k : Nat) : AllI (call cf k) [Ibig_Int_set_cvg k] := And.intro (okbig_Int_set_cvg k) (True.intro)
def hsbig_Int_Mul_gak_2 : List SS := [{ fr := [(0, .a (.ptr 0 0 0)), (1, .a (.ptr 1 0 0)), (2, .a (.ptr 2 0 0)), (7, .a (.smz 3)), (8, .a (.lf (.int .i64))), (9, .a (.lf (.int .u32))), (10, .a (.lf (.int .u64))), (29, .a (.lf (.sl (.int .u32)))), (30, .a (.lf (.int .i64))), (31, .a (.lf (.int .i64))), (39, .a (.lf (.sl (.int .u32)))), (40, .a (.lf (.int .i64))), (41, .a (.lf (.int .i64)))], mem := [(0, some (.raw [[.lf .bool, .snil 1 40]] 2 77 true false)), (1, some (.raw [[.lf .bool, .lf (.sl (.int .u32))]] 2 77 true false)), (2, some (.raw [[.lf .bool, .lf (.sl (.int .u32)), .lf .bool, .lf (.sl (.int .u32))]] 4 79 true false)), (3, some (.arr (.int .u32) 1 40 false))], nx := 4 }]
def osbig_Int_Mul_gak_2 : List OS := [⟨some 2, { fr := [(0, .a (.ptr 0 0 0)), (1, .a (.ptr 1 0 0)), (2, .a (.ptr 2 0 0)), (7, .a (.smz 3)), (8, .a (.lf (.int .i64))), (10, .a (.lf (.int .u64))), (29, .a (.lf (.sl (.int .u32)))), (30, .a (.lf (.int .i64))), (31, .a (.lf (.int .i64)))], mem := [(0, some (.raw [[.lf .bool, .snil 1 40]] 2 77 true false)), (1, some (.raw [[.lf .bool, .lf (.sl (.int .u32))]] 2 77 true false)), (2, some (.raw [[.lf .bool, .lf (.sl (.int .u32)), .lf .bool, .lf (.sl (.int .u32))]] 4 79 true false)), (3, some (.arr (.int .u32) 1 40 false))], nx := 4 }⟩]
def LIbig_Int_Mul_gak_2 (k : Nat) : LInst := ⟨2, hsbig_Int_Mul_gak_2, osbig_Int_Mul_gak_2, fun x => Lbig_Int_Mul_gak_2 k k x.1 x.2.1 x.2.2.1 x.2.2.2.1 x.2.2.2.2.1 x.2.2.2.2.2.1 x.2.2.2.2.2.2.1 x.2.2.2.2.2.2.2.1 x.2.2.2.2.2.2.2.2.1 x.2.2.2.2.2.2.2.2.2.1 x.2.2.2.2.2.2.2.2.2.2.1 x.2.2.2.2.2.2.2.2.2.2.2.1 x.2.2.2.2.2.2.2.2.2.2.2.2.1 x.2.2.2.2.2.2.2.2.2.2.2.2.2.1 x.2.2.2.2.2.2.2.2.2.2.2.2.2.2.1 x.2.2.2.2.2.2.2.2.2.2.2.2.2.2.2.1 x.2.2.2.2.2.2.2.2.2.2.2.2.2.2.2.2.1 x.2.2.2.2.2.2.2.2.2.2.2.2.2.2.2.2.2⟩
theorem anbig_Int_Mul_gak_2 (k : Nat) : LAll (LOk (R := DS OS.D osbig_Int_Mul_gak_2) (fun b _ σ K => LOt Ty (kps 46) 3 b σ K []) cf (call cf k) (kps 46) Tryz.f46.ntmps k 3) 2 (lb Tryz.f46 1) :=
  And.intro (True.intro) (And.intro (And.intro (True.intro) (True.intro)) (And.intro (And.intro (True.intro) (And.intro (True.intro) (And.intro (True.intro) (True.intro)))) (True.intro)))
theorem stbig_Int_Mul_gak_2 (k n : Nat) (x : DS SS.D hsbig_Int_Mul_gak_2) : Lbig_Int_Mul_gak_2 k (n + 1) x.1 x.2.1 x.2.2.1 x.2.2.2.1 x.2.2.2.2.1 x.2.2.2.2.2.1 x.2.2.2.2.2.2.1 x.2.2.2.2.2.2.2.1 x.2.2.2.2.2.2.2.2.1 x.2.2.2.2.2.2.2.2.2.1 x.2.2.2.2.2.2.2.2.2.2.1 x.2.2.2.2.2.2.2.2.2.2.2.1 x.2.2.2.2.2.2.2.2.2.2.2.2.1 x.2.2.2.2.2.2.2.2.2.2.2.2.2.1 x.2.2.2.2.2.2.2.2.2.2.2.2.2.2.1 x.2.2.2.2.2.2.2.2.2.2.2.2.2.2.2.1 x.2.2.2.2.2.2.2.2.2.2.2.2.2.2.2.2.1 x.2.2.2.2.2.2.2.2.2.2.2.2.2.2.2.2.2 = encSK SS.enc (fun σ => run2 cf (fun f a b K => COt f a b K [Ibig_Int_set_cvg k]) (fun b _ σ K => LOt Ty (kps 46) 3 b σ K []) Tryz.f46.ntmps 2 (lb Tryz.f46 1) σ (nextK Ty (kps 46 2) 3 hsbig_Int_Mul_gak_2 osbig_Int_Mul_gak_2 fun x => Lbig_Int_Mul_gak_2 k n x.1 x.2.1 x.2.2.1 x.2.2.2.1 x.2.2.2.2.1 x.2.2.2.2.2.1 x.2.2.2.2.2.2.1 x.2.2.2.2.2.2.2.1 x.2.2.2.2.2.2.2.2.1 x.2.2.2.2.2.2.2.2.2.1 x.2.2.2.2.2.2.2.2.2.2.1 x.2.2.2.2.2.2.2.2.2.2.2.1 x.2.2.2.2.2.2.2.2.2.2.2.2.1 x.2.2.2.2.2.2.2.2.2.2.2.2.2.1 x.2.2.2.2.2.2.2.2.2.2.2.2.2.2.1 x.2.2.2.2.2.2.2.2.2.2.2.2.2.2.2.1 x.2.2.2.2.2.2.2.2.2.2.2.2.2.2.2.2.1 x.2.2.2.2.2.2.2.2.2.2.2.2.2.2.2.2.2)) hsbig_Int_Mul_gak_2 x := by kernel_rfl
theorem lobig_Int_Mul_gak_2 (k : Nat) : LIOk cf (call cf k) (kps 46) Tryz.f46.ntmps k 3 2 (lb Tryz.f46 1) (LIbig_Int_Mul_gak_2 k) :=
  loop_ok (c := cf) (callF := call cf k) (kp := kps 46) (nt := Tryz.f46.ntmps) (k := k) (p := 3) (b := 2) (x0 := lb Tryz.f46 1) (hs := hsbig_Int_Mul_gak_2) (os := osbig_Int_Mul_gak_2) (COt_ok (albig_Int_Mul_gak k)) (anbig_Int_Mul_gak_2 k) (fun n x => Lbig_Int_Mul_gak_2 k n x.1 x.2.1 x.2.2.1 x.2.2.2.1 x.2.2.2.2.1 x.2.2.2.2.2.1 x.2.2.2.2.2.2.1 x.2.2.2.2.2.2.2.1 x.2.2.2.2.2.2.2.2.1 x.2.2.2.2.2.2.2.2.2.1 x.2.2.2.2.2.2.2.2.2.2.1 x.2.2.2.2.2.2.2.2.2.2.2.1 x.2.2.2.2.2.2.2.2.2.2.2.2.1 x.2.2.2.2.2.2.2.2.2.2.2.2.2.1 x.2.2.2.2.2.2.2.2.2.2.2.2.2.2.1 x.2.2.2.2.2.2.2.2.2.2.2.2.2.2.2.1 x.2.2.2.2.2.2.2.2.2.2.2.2.2.2.2.2.1 x.2.2.2.2.2.2.2.2.2.2.2.2.2.2.2.2.2) (fun _ => rfl) (stbig_Int_Mul_gak_2 k)
def hsbig_Int_Mul_gak_0 : List SS := [{ fr := [(0, .a (.ptr 0 0 0)), (1, .a (.ptr 1 0 0)), (2, .a (.ptr 2 0 0)), (7, .a (.smz 3)), (29, .a (.lf (.sl (.int .u32)))), (30, .a (.lf (.int .i64))), (31, .a (.lf (.int .i64)))], mem := [(0, some (.raw [[.lf .bool, .snil 1 40]] 2 77 true false)), (1, some (.raw [[.lf .bool, .lf (.sl (.int .u32))]] 2 77 true false)), (2, some (.raw [[.lf .bool, .lf (.sl (.int .u32)), .lf .bool, .lf (.sl (.int .u32))]] 4 79 true false)), (3, some (.arr (.int .u32) 1 40 false))], nx := 4 }]
def osbig_Int_Mul_gak_0 : List OS := [⟨some 0, { fr := [(0, .a (.ptr 0 0 0)), (1, .a (.ptr 1 0 0)), (2, .a (.ptr 2 0 0)), (7, .a (.smz 3))], mem := [(0, some (.raw [[.lf .bool, .snil 1 40]] 2 77 true false)), (1, some (.raw [[.lf .bool, .lf (.sl (.int .u32))]] 2 77 true false)), (2, some (.raw [[.lf .bool, .lf (.sl (.int .u32)), .lf .bool, .lf (.sl (.int .u32))]] 4 79 true false)), (3, some (.arr (.int .u32) 1 40 false))], nx := 4 }⟩]
def LIbig_Int_Mul_gak_0 (k : Nat) : LInst := ⟨0, hsbig_Int_Mul_gak_0, osbig_Int_Mul_gak_0, fun x => Lbig_Int_Mul_gak_0 k k x.1 x.2.1 x.2.2.1 x.2.2.2.1 x.2.2.2.2.1 x.2.2.2.2.2.1 x.2.2.2.2.2.2.1 x.2.2.2.2.2.2.2.1 x.2.2.2.2.2.2.2.2.1 x.2.2.2.2.2.2.2.2.2.1 x.2.2.2.2.2.2.2.2.2.2.1 x.2.2.2.2.2.2.2.2.2.2.2⟩
theorem anbig_Int_Mul_gak_0 (k : Nat) : LAll (LOk (R := DS OS.D osbig_Int_Mul_gak_0) (fun b _ σ K => LOt Ty (kps 46) 3 b σ K [LIbig_Int_Mul_gak_2 k]) cf (call cf k) (kps 46) Tryz.f46.ntmps k 3) 0 (lb Tryz.f46 0) :=
  And.intro (True.intro) (And.intro (And.intro (True.intro) (True.intro)) (And.intro (And.intro (True.intro) (And.intro (True.intro) (And.intro (And.intro (True.intro) (LOt_ok (c := cf) (callF := call cf k) (kp := kps 46) (nt := Tryz.f46.ntmps) (k := k) (p := 3) (b := 2) (x0 := lb Tryz.f46 1) (l := [LIbig_Int_Mul_gak_2 k]) (And.intro (fun _ => lobig_Int_Mul_gak_2 k) (True.intro)))) (True.intro)))) (True.intro)))
theorem stbig_Int_Mul_gak_0 (k n : Nat) (x : DS SS.D hsbig_Int_Mul_gak_0) : Lbig_Int_Mul_gak_0 k (n + 1) x.1 x.2.1 x.2.2.1 x.2.2.2.1 x.2.2.2.2.1 x.2.2.2.2.2.1 x.2.2.2.2.2.2.1 x.2.2.2.2.2.2.2.1 x.2.2.2.2.2.2.2.2.1 x.2.2.2.2.2.2.2.2.2.1 x.2.2.2.2.2.2.2.2.2.2.1 x.2.2.2.2.2.2.2.2.2.2.2 = encSK SS.enc (fun σ => run2 cf (fun f a b K => COt f a b K [Ibig_Int_set_cvg k]) (fun b _ σ K => LOt Ty (kps 46) 3 b σ K [LIbig_Int_Mul_gak_2 k]) Tryz.f46.ntmps 0 (lb Tryz.f46 0) σ (nextK Ty (kps 46 0) 3 hsbig_Int_Mul_gak_0 osbig_Int_Mul_gak_0 fun x => Lbig_Int_Mul_gak_0 k n x.1 x.2.1 x.2.2.1 x.2.2.2.1 x.2.2.2.2.1 x.2.2.2.2.2.1 x.2.2.2.2.2.2.1 x.2.2.2.2.2.2.2.1 x.2.2.2.2.2.2.2.2.1 x.2.2.2.2.2.2.2.2.2.1 x.2.2.2.2.2.2.2.2.2.2.1 x.2.2.2.2.2.2.2.2.2.2.2)) hsbig_Int_Mul_gak_0 x := by kernel_rfl
theorem lobig_Int_Mul_gak_0 (k : Nat) : LIOk cf (call cf k) (kps 46) Tryz.f46.ntmps k 3 0 (lb Tryz.f46 0) (LIbig_Int_Mul_gak_0 k) :=
  loop_ok (c := cf) (callF := call cf k) (kp := kps 46) (nt := Tryz.f46.ntmps) (k := k) (p := 3) (b := 0) (x0 := lb Tryz.f46 0) (hs := hsbig_Int_Mul_gak_0) (os := osbig_Int_Mul_gak_0) (COt_ok (albig_Int_Mul_gak k)) (anbig_Int_Mul_gak_0 k) (fun n x => Lbig_Int_Mul_gak_0 k n x.1 x.2.1 x.2.2.1 x.2.2.2.1 x.2.2.2.2.1 x.2.2.2.2.2.1 x.2.2.2.2.2.2.1 x.2.2.2.2.2.2.2.1 x.2.2.2.2.2.2.2.2.1 x.2.2.2.2.2.2.2.2.2.1 x.2.2.2.2.2.2.2.2.2.2.1 x.2.2.2.2.2.2.2.2.2.2.2) (fun _ => rfl) (stbig_Int_Mul_gak_0 k)
theorem anbig_Int_Mul_gak (k : Nat) : LAll (LOk (R := DS FS.D rsbig_Int_Mul_gak) (fun b _ σ K => LOt Ty (kps 46) 3 b σ K [LIbig_Int_Mul_gak_2 k, LIbig_Int_Mul_gak_0 k]) cf (call cf k) (cf.keep 46) Tryz.f46.ntmps k shbig_Int_Mul_gak.bs.length) 0 (bd Tryz.f46) :=
  And.intro (True.intro) (And.intro (True.intro) (And.intro (And.intro (True.intro) (LOt_ok (c := cf) (callF := call cf k) (kp := kps 46) (nt := Tryz.f46.ntmps) (k := k) (p := 3) (b := 0) (x0 := lb Tryz.f46 0) (l := [LIbig_Int_Mul_gak_2 k, LIbig_Int_Mul_gak_0 k]) (And.intro (fun h => absurd (show (2 : Nat) = 0 from h) (by decide)) (And.intro (fun _ => lobig_Int_Mul_gak_0 k) (True.intro))))) (And.intro (True.intro) (True.intro))))
theorem stbig_Int_Mul_gak (k : Nat) (x : shbig_Int_Mul_gak.D) : Fbig_Int_Mul_gak (k + 1) x.1 x.2.1 x.2.2.1 x.2.2.2.1 x.2.2.2.2.1 x.2.2.2.2.2.1 x.2.2.2.2.2.2 = body2 cf (fun f a b K => COt f a b K [Ibig_Int_set_cvg k]) (fun b _ σ K => LOt Ty (kps 46) 3 b σ K [LIbig_Int_Mul_gak_2 k, LIbig_Int_Mul_gak_0 k]) 46 Tryz.f46.ntmps Tryz.f46.results.toList (bd Tryz.f46) (shbig_Int_Mul_gak.enc x).1 (shbig_Int_Mul_gak.enc x).2 (putS FS.dec rsbig_Int_Mul_gak) := by kernel_rfl
theorem okbig_Int_Mul_gak : ∀ k, InstOk (call cf k) (Ibig_Int_Mul_gak k)
  | 0 => fun x y e => absurd (show (none : Option _) = some y from e) (by simp)
  | k + 1 => inst_ok (c := cf) (k := k) (f := 46) (fn := Tryz.f46) (body := bd Tryz.f46) (sh := shbig_Int_Mul_gak) (os := rsbig_Int_Mul_gak) rfl Tryz.func46 rfl ⟨rfl, Nat.le_of_ble_eq_true rfl⟩ (COt_ok (albig_Int_Mul_gak k)) (anbig_Int_Mul_gak k) (fun x => Fbig_Int_Mul_gak (k + 1) x.1 x.2.1 x.2.2.1 x.2.2.2.1 x.2.2.2.2.1 x.2.2.2.2.2.1 x.2.2.2.2.2.2) (stbig_Int_Mul_gak k)

/-! (*shunt/big.Rat).Quo -/
def bbig_Rat_Quo_cwi (k : Nat) (z0 : Bool) (z1 : Bool) (x0 : Bool) (x1 : List Int) (x2 : Bool) (x3 : List Int) (y0 : Bool) (y1 : List Int) (y2 : Bool) (y3 : List Int) : Option (Bool × List Int × Bool × List Int × Bool × List Int × Bool × List Int × Bool × List Int × Bool × List Int) :=
  Option.bind (Fbig_Rat_Denom_plq k y0 y1 y2 y3) fun r11 =>
  Option.bind (Fbig_Int_Mul_uoe k false x0 x1 x2 x3 r11.2.2.2.2.1 r11.2.2.2.2.2) fun r12 =>
  Option.bind (Fbig_Rat_Denom_plq k r12.2.2.1 r12.2.2.2.1 r12.2.2.2.2.1 r12.2.2.2.2.2.1) fun r13 =>
  Option.bind (Fbig_Int_Mul_gak k false r13.2.2.2.2.1 r13.2.2.2.2.2 r11.1 r11.2.1 r11.2.2.1 r11.2.2.2.1) fun r14 =>
  Option.bind (Fbig_Rat_frac_xda k z0 z1 r12.1 r12.2.1 r14.1 r14.2.1) fun r15 =>
  (some (r15.1, r15.2.1, r15.2.2.1, r15.2.2.2.1, r13.1, r13.2.1, r13.2.2.1, r13.2.2.2.1, r14.2.2.2.2.1, r14.2.2.2.2.2.1, r14.2.2.2.2.2.2.1, r14.2.2.2.2.2.2.2))
def Fbig_Rat_Quo_cwi : Nat → Bool → Bool → Bool → List Int → Bool → List Int → Bool → List Int → Bool → List Int → Option (Bool × List Int × Bool × List Int × Bool × List Int × Bool × List Int × Bool × List Int × Bool × List Int)
  | 0, _, _, _, _, _, _, _, _, _, _ => none
  | k + 1, z0, z1, x0, x1, x2, x3, y0, y1, y2, y3 => bbig_Rat_Quo_cwi k z0 z1 x0 x1 x2 x3 y0 y1 y2 y3
def shbig_Rat_Quo_cwi : FS := { vs := [.a (.ptr 0 0 0), .a (.ptr 1 0 0), .a (.ptr 2 0 0)], bs := [.raw [[.lf .bool, .snil 1 40, .lf .bool, .snil 1 40]] 4 79 true false, .raw [[.lf .bool, .lf (.sl (.int .u32)), .lf .bool, .lf (.sl (.int .u32))]] 4 79 true false, .raw [[.lf .bool, .lf (.sl (.int .u32)), .lf .bool, .lf (.sl (.int .u32))]] 4 79 true false] }
def rsbig_Rat_Quo_cwi : List FS := [{ vs := [.a (.ptr 0 0 0)], bs := [.raw [[.lf .bool, .lf (.sl (.int .u32)), .lf .bool, .lf (.sl (.int .u32))]] 4 79 true false, .raw [[.lf .bool, .lf (.sl (.int .u32)), .lf .bool, .lf (.sl (.int .u32))]] 4 79 true false, .raw [[.lf .bool, .lf (.sl (.int .u32)), .lf .bool, .lf (.sl (.int .u32))]] 4 79 true false] }]
def Ibig_Rat_Quo_cwi (k : Nat) : Inst := ⟨25, shbig_Rat_Quo_cwi, rsbig_Rat_Quo_cwi, fun x => Fbig_Rat_Quo_cwi k x.1 x.2.1 x.2.2.1 x.2.2.2.1 x.2.2.2.2.1 x.2.2.2.2.2.1 x.2.2.2.2.2.2.1 x.2.2.2.2.2.2.2.1 x.2.2.2.2.2.2.2.2.1 x.2.2.2.2.2.2.2.2.2⟩
theorem albig_Rat_Quo_cwi (k : Nat) : AllI (call cf k) [Ibig_Rat_Denom_plq k, Ibig_Int_Mul_uoe k, Ibig_Int_Mul_gak k, Ibig_Rat_frac_xda k] := And.intro (okbig_Rat_Denom_plq k) (And.intro (okbig_Int_Mul_uoe k) (And.intro (okbig_Int_Mul_gak k) (And.intro (okbig_Rat_frac_xda k) (True.intro))))
theorem anbig_Rat_Quo_cwi (k : Nat) : LAll (LOk (R := DS FS.D rsbig_Rat_Quo_cwi) (fun b _ σ K => LOt Ty (kps 25) 3 b σ K []) cf (call cf k) (cf.keep 25) Tryz.f25.ntmps k shbig_Rat_Quo_cwi.bs.length) 0 (bd Tryz.f25) :=
  And.intro (True.intro) (And.intro (True.intro) (And.intro (True.intro) (And.intro (True.intro) (And.intro (True.intro) (True.intro)))))
theorem stbig_Rat_Quo_cwi (k : Nat) (x : shbig_Rat_Quo_cwi.D) : Fbig_Rat_Quo_cwi (k + 1) x.1 x.2.1 x.2.2.1 x.2.2.2.1 x.2.2.2.2.1 x.2.2.2.2.2.1 x.2.2.2.2.2.2.1 x.2.2.2.2.2.2.2.1 x.2.2.2.2.2.2.2.2.1 x.2.2.2.2.2.2.2.2.2 = body2 cf (fun f a b K => COt f a b K [Ibig_Rat_Denom_plq k, Ibig_Int_Mul_uoe k, Ibig_Int_Mul_gak k, Ibig_Rat_frac_xda k]) (fun b _ σ K => LOt Ty (kps 25) 3 b σ K []) 25 Tryz.f25.ntmps Tryz.f25.results.toList (bd Tryz.f25) (shbig_Rat_Quo_cwi.enc x).1 (shbig_Rat_Quo_cwi.enc x).2 (putS FS.dec rsbig_Rat_Quo_cwi) := by kernel_rfl
theorem okbig_Rat_Quo_cwi : ∀ k, InstOk (call cf k) (Ibig_Rat_Quo_cwi k)
  | 0 => fun x y e => absurd (show (none : Option _) = some y from e) (by simp)
  | k + 1 => inst_ok (c := cf) (k := k) (f := 25) (fn := Tryz.f25) (body := bd Tryz.f25) (sh := shbig_Rat_Quo_cwi) (os := rsbig_Rat_Quo_cwi) rfl Tryz.func25 rfl ⟨rfl, Nat.le_of_ble_eq_true rfl⟩ (COt_ok (albig_Rat_Quo_cwi k)) (anbig_Rat_Quo_cwi k) (fun x => Fbig_Rat_Quo_cwi (k + 1) x.1 x.2.1 x.2.2.1 x.2.2.2.1 x.2.2.2.2.1 x.2.2.2.2.2.1 x.2.2.2.2.2.2.1 x.2.2.2.2.2.2.2.1 x.2.2.2.2.2.2.2.2.1 x.2.2.2.2.2.2.2.2.2) (stbig_Rat_Quo_cwi k)

/-! shunt/rat.two -/
def brat_two_bnj (k : Nat) (a0 : Bool) (a1 : List Int) (a2 : Bool) (a3 : List Int) (b0 : Bool) (b1 : List Int) (b2 : Bool) (b3 : List Int) : Option (Bool × Nat × Bool × Nat × Int × List Int × List Int) :=
  Option.bind (Frat_all k (List.take 2 (((a0, a1), (a2, a3)) :: (((b0, b1), (b2, b3)) :: [])))) fun r8 =>
  if ((r8 != (0 : Int)) = true) then
    (some (false, 0, false, 0, r8, [], []))
  else
  Option.bind (Fwide_Rat k a0 a1 a2 a3) fun r9 =>
  Option.bind (Fwide_Rat k b0 b1 b2 b3) fun r10 =>
  Option.bind (Fbig_Rat_Quo_cwi k false false r9.1 r9.2.1 r9.2.2.1 r9.2.2.2 r10.1 r10.2.1 r10.2.2.1 r10.2.2.2) fun r11 =>
  Option.bind (Frat_answer_plq k r11.1 r11.2.1 r11.2.2.1 r11.2.2.2.1) fun r12 =>
  (some (r12.1, r12.2.1, r12.2.2.1, r12.2.2.2.1, r12.2.2.2.2.1, r12.2.2.2.2.2.2.2.2.2.1, r12.2.2.2.2.2.2.2.2.2.2))
def Frat_two_bnj : Nat → Bool → List Int → Bool → List Int → Bool → List Int → Bool → List Int → Option (Bool × Nat × Bool × Nat × Int × List Int × List Int)
  | 0, _, _, _, _, _, _, _, _ => none
  | k + 1, a0, a1, a2, a3, b0, b1, b2, b3 => brat_two_bnj k a0 a1 a2 a3 b0 b1 b2 b3
def shrat_two_bnj : FS := { vs := [.g [.lf .bool, .lf (.sl (.int .u32)), .lf .bool, .lf (.sl (.int .u32))], .g [.lf .bool, .lf (.sl (.int .u32)), .lf .bool, .lf (.sl (.int .u32))], .a (.fn 25)], bs := [] }
def rsrat_two_bnj : List FS := [{ vs := [.g [.lf .bool, .smz 0, .lf .bool, .smz 1], .a (.lf (.int .i64))], bs := [.arr (.int .u32) 1 40 false, .arr (.int .u32) 1 40 false] }]
def Irat_two_bnj (k : Nat) : Inst := ⟨20, shrat_two_bnj, rsrat_two_bnj, fun x => Frat_two_bnj k x.1 x.2.1 x.2.2.1 x.2.2.2.1 x.2.2.2.2.1 x.2.2.2.2.2.1 x.2.2.2.2.2.2.1 x.2.2.2.2.2.2.2⟩
theorem alrat_two_bnj (k : Nat) : AllI (call cf k) [Irat_all k, Iwide_Rat k, Ibig_Rat_Quo_cwi k, Irat_answer_plq k] := And.intro (okrat_all k) (And.intro (okwide_Rat k) (And.intro (okbig_Rat_Quo_cwi k) (And.intro (okrat_answer_plq k) (True.intro))))
theorem anrat_two_bnj (k : Nat) : LAll (LOk (R := DS FS.D rsrat_two_bnj) (fun b _ σ K => LOt Ty (kps 20) 0 b σ K []) cf (call cf k) (cf.keep 20) Tryz.f20.ntmps k shrat_two_bnj.bs.length) 0 (bd Tryz.f20) :=
  And.intro (True.intro) (And.intro (And.intro (True.intro) (And.intro (True.intro) (And.intro (And.intro (True.intro) (True.intro)) (True.intro)))) (And.intro (True.intro) (True.intro)))
theorem strat_two_bnj (k : Nat) (x : shrat_two_bnj.D) : Frat_two_bnj (k + 1) x.1 x.2.1 x.2.2.1 x.2.2.2.1 x.2.2.2.2.1 x.2.2.2.2.2.1 x.2.2.2.2.2.2.1 x.2.2.2.2.2.2.2 = body2 cf (fun f a b K => COt f a b K [Irat_all k, Iwide_Rat k, Ibig_Rat_Quo_cwi k, Irat_answer_plq k]) (fun b _ σ K => LOt Ty (kps 20) 0 b σ K []) 20 Tryz.f20.ntmps Tryz.f20.results.toList (bd Tryz.f20) (shrat_two_bnj.enc x).1 (shrat_two_bnj.enc x).2 (putS FS.dec rsrat_two_bnj) := by kernel_rfl
theorem okrat_two_bnj : ∀ k, InstOk (call cf k) (Irat_two_bnj k)
  | 0 => fun x y e => absurd (show (none : Option _) = some y from e) (by simp)
  | k + 1 => inst_ok (c := cf) (k := k) (f := 20) (fn := Tryz.f20) (body := bd Tryz.f20) (sh := shrat_two_bnj) (os := rsrat_two_bnj) rfl Tryz.func20 rfl ⟨rfl, Nat.le_of_ble_eq_true rfl⟩ (COt_ok (alrat_two_bnj k)) (anrat_two_bnj k) (fun x => Frat_two_bnj (k + 1) x.1 x.2.1 x.2.2.1 x.2.2.2.1 x.2.2.2.2.1 x.2.2.2.2.2.1 x.2.2.2.2.2.2.1 x.2.2.2.2.2.2.2) (strat_two_bnj k)

/-! shunt/rat.Div -/
def brat_Div (k : Nat) (a0 : Bool) (a1 : List Int) (a2 : Bool) (a3 : List Int) (b0 : Bool) (b1 : List Int) (b2 : Bool) (b3 : List Int) : Option (Bool × List Int × Bool × List Int × Int) :=
  Option.bind (Frat_all k (List.take 2 (((a0, a1), (a2, a3)) :: (((b0, b1), (b2, b3)) :: [])))) fun r7 =>
  if ((r7 != (0 : Int)) = true) then
    (some (false, [], false, [], r7))
  else
  if (((((List.length b1) : Nat) : Int) == (0 : Int)) = true) then
    (some (false, [], false, [], (11 : Int)))
  else
  Option.bind (Frat_two_bnj k a0 a1 a2 a3 b0 b1 b2 b3) fun r8 =>
  if ((0 + r8.2.1) ≤ (List.length r8.2.2.2.2.2.1)) then
    if ((0 + r8.2.2.2.1) ≤ (List.length r8.2.2.2.2.2.2)) then
      (some (r8.1, (List.take r8.2.1 r8.2.2.2.2.2.1), r8.2.2.1, (List.take r8.2.2.2.1 r8.2.2.2.2.2.2), r8.2.2.2.2.1))
    else
    none
  else
  none
def Frat_Div : Nat → Bool → List Int → Bool → List Int → Bool → List Int → Bool → List Int → Option (Bool × List Int × Bool × List Int × Int)
  | 0, _, _, _, _, _, _, _, _ => none
  | k + 1, a0, a1, a2, a3, b0, b1, b2, b3 => brat_Div k a0 a1 a2 a3 b0 b1 b2 b3
def shrat_Div : FS := { vs := [.g [.lf .bool, .lf (.sl (.int .u32)), .lf .bool, .lf (.sl (.int .u32))], .g [.lf .bool, .lf (.sl (.int .u32)), .lf .bool, .lf (.sl (.int .u32))]], bs := [] }
def rsrat_Div : List FS := [{ vs := [.g [.lf .bool, .lf (.sl (.int .u32)), .lf .bool, .lf (.sl (.int .u32))], .a (.lf (.int .i64))], bs := [] }]
def Irat_Div (k : Nat) : Inst := ⟨10, shrat_Div, rsrat_Div, fun x => Frat_Div k x.1 x.2.1 x.2.2.1 x.2.2.2.1 x.2.2.2.2.1 x.2.2.2.2.2.1 x.2.2.2.2.2.2.1 x.2.2.2.2.2.2.2⟩
theorem alrat_Div (k : Nat) : AllI (call cf k) [Irat_all k, Irat_two_bnj k] := And.intro (okrat_all k) (And.intro (okrat_two_bnj k) (True.intro))
theorem anrat_Div (k : Nat) : LAll (LOk (R := DS FS.D rsrat_Div) (fun b _ σ K => LOt Ty (kps 10) 0 b σ K []) cf (call cf k) (cf.keep 10) Tryz.f10.ntmps k shrat_Div.bs.length) 0 (bd Tryz.f10) :=
  And.intro (True.intro) (And.intro (And.intro (True.intro) (And.intro (True.intro) (And.intro (And.intro (True.intro) (True.intro)) (True.intro)))) (And.intro (And.intro (True.intro) (And.intro (And.intro (True.intro) (True.intro)) (True.intro))) (And.intro (True.intro) (True.intro))))
theorem strat_Div (k : Nat) (x : shrat_Div.D) : Frat_Div (k + 1) x.1 x.2.1 x.2.2.1 x.2.2.2.1 x.2.2.2.2.1 x.2.2.2.2.2.1 x.2.2.2.2.2.2.1 x.2.2.2.2.2.2.2 = body2 cf (fun f a b K => COt f a b K [Irat_all k, Irat_two_bnj k]) (fun b _ σ K => LOt Ty (kps 10) 0 b σ K []) 10 Tryz.f10.ntmps Tryz.f10.results.toList (bd Tryz.f10) (shrat_Div.enc x).1 (shrat_Div.enc x).2 (putS FS.dec rsrat_Div) := by kernel_rfl
theorem okrat_Div : ∀ k, InstOk (call cf k) (Irat_Div k)
  | 0 => fun x y e => absurd (show (none : Option _) = some y from e) (by simp)
  | k + 1 => inst_ok (c := cf) (k := k) (f := 10) (fn := Tryz.f10) (body := bd Tryz.f10) (sh := shrat_Div) (os := rsrat_Div) rfl Tryz.func10 rfl ⟨rfl, Nat.le_of_ble_eq_true rfl⟩ (COt_ok (alrat_Div k)) (anrat_Div k) (fun x => Frat_Div (k + 1) x.1 x.2.1 x.2.2.1 x.2.2.2.1 x.2.2.2.2.1 x.2.2.2.2.2.1 x.2.2.2.2.2.2.1 x.2.2.2.2.2.2.2) (strat_Div k)

/-! (*shunt/big.Rat).Cmp -/
def bbig_Rat_Cmp_jyb (k : Nat) (z0 : Bool) (z1 : List Int) (z2 : Bool) (z3 : List Int) (y0 : Bool) (y1 : List Int) (y2 : Bool) (y3 : List Int) : Option (Int × Bool × List Int × Bool × List Int × Bool × List Int × Bool × List Int) :=
  Option.bind (Fbig_Rat_Denom_plq k y0 y1 y2 y3) fun r11 =>
  Option.bind (Fbig_Int_Mul_uoe k false z0 z1 z2 z3 r11.2.2.2.2.1 r11.2.2.2.2.2) fun r12 =>
  Option.bind (Fbig_Rat_Denom_plq k r12.2.2.1 r12.2.2.2.1 r12.2.2.2.2.1 r12.2.2.2.2.2.1) fun r13 =>
  Option.bind (Fbig_Int_Mul_uoe k false r11.1 r11.2.1 r11.2.2.1 r11.2.2.2.1 r13.2.2.2.2.1 r13.2.2.2.2.2) fun r14 =>
  Option.bind (Fbig_Int_Cmp_ddu k r12.1 r12.2.1 r14.1 r14.2.1) fun r15 =>
  (some (r15.1, r13.1, r13.2.1, r13.2.2.1, r13.2.2.2.1, r14.2.2.1, r14.2.2.2.1, r14.2.2.2.2.1, r14.2.2.2.2.2.1))
def Fbig_Rat_Cmp_jyb : Nat → Bool → List Int → Bool → List Int → Bool → List Int → Bool → List Int → Option (Int × Bool × List Int × Bool × List Int × Bool × List Int × Bool × List Int)
  | 0, _, _, _, _, _, _, _, _ => none
  | k + 1, z0, z1, z2, z3, y0, y1, y2, y3 => bbig_Rat_Cmp_jyb k z0 z1 z2 z3 y0 y1 y2 y3
def shbig_Rat_Cmp_jyb : FS := { vs := [.a (.ptr 0 0 0), .a (.ptr 1 0 0)], bs := [.raw [[.lf .bool, .lf (.sl (.int .u32)), .lf .bool, .lf (.sl (.int .u32))]] 4 79 true false, .raw [[.lf .bool, .lf (.sl (.int .u32)), .lf .bool, .lf (.sl (.int .u32))]] 4 79 true false] }
def rsbig_Rat_Cmp_jyb : List FS := [{ vs := [.a (.lf (.int .i64))], bs := [.raw [[.lf .bool, .lf (.sl (.int .u32)), .lf .bool, .lf (.sl (.int .u32))]] 4 79 true false, .raw [[.lf .bool, .lf (.sl (.int .u32)), .lf .bool, .lf (.sl (.int .u32))]] 4 79 true false] }]
def Ibig_Rat_Cmp_jyb (k : Nat) : Inst := ⟨27, shbig_Rat_Cmp_jyb, rsbig_Rat_Cmp_jyb, fun x => Fbig_Rat_Cmp_jyb k x.1 x.2.1 x.2.2.1 x.2.2.2.1 x.2.2.2.2.1 x.2.2.2.2.2.1 x.2.2.2.2.2.2.1 x.2.2.2.2.2.2.2⟩
theorem albig_Rat_Cmp_jyb (k : Nat) : AllI (call cf k) [Ibig_Rat_Denom_plq k, Ibig_Int_Mul_uoe k, Ibig_Int_Cmp_ddu k] := And.intro (okbig_Rat_Denom_plq k) (And.intro (okbig_Int_Mul_uoe k) (And.intro (okbig_Int_Cmp_ddu k) (True.intro)))
theorem anbig_Rat_Cmp_jyb (k : Nat) : LAll (LOk (R := DS FS.D rsbig_Rat_Cmp_jyb) (fun b _ σ K => LOt Ty (kps 27) 2 b σ K []) cf (call cf k) (cf.keep 27) Tryz.f27.ntmps k shbig_Rat_Cmp_jyb.bs.length) 0 (bd Tryz.f27) :=
  And.intro (True.intro) (And.intro (True.intro) (And.intro (True.intro) (And.intro (True.intro) (And.intro (True.intro) (True.intro)))))
theorem stbig_Rat_Cmp_jyb (k : Nat) (x : shbig_Rat_Cmp_jyb.D) : Fbig_Rat_Cmp_jyb (k + 1) x.1 x.2.1 x.2.2.1 x.2.2.2.1 x.2.2.2.2.1 x.2.2.2.2.2.1 x.2.2.2.2.2.2.1 x.2.2.2.2.2.2.2 = body2 cf (fun f a b K => COt f a b K [Ibig_Rat_Denom_plq k, Ibig_Int_Mul_uoe k, Ibig_Int_Cmp_ddu k]) (fun b _ σ K => LOt Ty (kps 27) 2 b σ K []) 27 Tryz.f27.ntmps Tryz.f27.results.toList (bd Tryz.f27) (shbig_Rat_Cmp_jyb.enc x).1 (shbig_Rat_Cmp_jyb.enc x).2 (putS FS.dec rsbig_Rat_Cmp_jyb) := by kernel_rfl
theorem okbig_Rat_Cmp_jyb : ∀ k, InstOk (call cf k) (Ibig_Rat_Cmp_jyb k)
  | 0 => fun x y e => absurd (show (none : Option _) = some y from e) (by simp)
  | k + 1 => inst_ok (c := cf) (k := k) (f := 27) (fn := Tryz.f27) (body := bd Tryz.f27) (sh := shbig_Rat_Cmp_jyb) (os := rsbig_Rat_Cmp_jyb) rfl Tryz.func27 rfl ⟨rfl, Nat.le_of_ble_eq_true rfl⟩ (COt_ok (albig_Rat_Cmp_jyb k)) (anbig_Rat_Cmp_jyb k) (fun x => Fbig_Rat_Cmp_jyb (k + 1) x.1 x.2.1 x.2.2.1 x.2.2.2.1 x.2.2.2.2.1 x.2.2.2.2.2.1 x.2.2.2.2.2.2.1 x.2.2.2.2.2.2.2) (stbig_Rat_Cmp_jyb k)

/-! shunt/rat.Cmp -/
def brat_Cmp (k : Nat) (a0 : Bool) (a1 : List Int) (a2 : Bool) (a3 : List Int) (b0 : Bool) (b1 : List Int) (b2 : Bool) (b3 : List Int) : Option (Int × Int) :=
  Option.bind (Frat_all k (List.take 2 (((a0, a1), (a2, a3)) :: (((b0, b1), (b2, b3)) :: [])))) fun r8 =>
  if ((r8 != (0 : Int)) = true) then
    (some ((0 : Int), r8))
  else
  Option.bind (Fwide_Rat k a0 a1 a2 a3) fun r9 =>
  Option.bind (Fwide_Rat k b0 b1 b2 b3) fun r10 =>
  Option.bind (Fbig_Rat_Cmp_jyb k r9.1 r9.2.1 r9.2.2.1 r9.2.2.2 r10.1 r10.2.1 r10.2.2.1 r10.2.2.2) fun r11 =>
  (some (r11.1, (0 : Int)))
def Frat_Cmp : Nat → Bool → List Int → Bool → List Int → Bool → List Int → Bool → List Int → Option (Int × Int)
  | 0, _, _, _, _, _, _, _, _ => none
  | k + 1, a0, a1, a2, a3, b0, b1, b2, b3 => brat_Cmp k a0 a1 a2 a3 b0 b1 b2 b3
def shrat_Cmp : FS := { vs := [.g [.lf .bool, .lf (.sl (.int .u32)), .lf .bool, .lf (.sl (.int .u32))], .g [.lf .bool, .lf (.sl (.int .u32)), .lf .bool, .lf (.sl (.int .u32))]], bs := [] }
def rsrat_Cmp : List FS := [{ vs := [.a (.lf (.int .i64)), .a (.lf (.int .i64))], bs := [] }]
def Irat_Cmp (k : Nat) : Inst := ⟨11, shrat_Cmp, rsrat_Cmp, fun x => Frat_Cmp k x.1 x.2.1 x.2.2.1 x.2.2.2.1 x.2.2.2.2.1 x.2.2.2.2.2.1 x.2.2.2.2.2.2.1 x.2.2.2.2.2.2.2⟩
theorem alrat_Cmp (k : Nat) : AllI (call cf k) [Irat_all k, Iwide_Rat k, Ibig_Rat_Cmp_jyb k] := And.intro (okrat_all k) (And.intro (okwide_Rat k) (And.intro (okbig_Rat_Cmp_jyb k) (True.intro)))
theorem anrat_Cmp (k : Nat) : LAll (LOk (R := DS FS.D rsrat_Cmp) (fun b _ σ K => LOt Ty (kps 11) 0 b σ K []) cf (call cf k) (cf.keep 11) Tryz.f11.ntmps k shrat_Cmp.bs.length) 0 (bd Tryz.f11) :=
  And.intro (True.intro) (And.intro (And.intro (True.intro) (And.intro (True.intro) (And.intro (And.intro (True.intro) (True.intro)) (True.intro)))) (And.intro (True.intro) (True.intro)))
theorem strat_Cmp (k : Nat) (x : shrat_Cmp.D) : Frat_Cmp (k + 1) x.1 x.2.1 x.2.2.1 x.2.2.2.1 x.2.2.2.2.1 x.2.2.2.2.2.1 x.2.2.2.2.2.2.1 x.2.2.2.2.2.2.2 = body2 cf (fun f a b K => COt f a b K [Irat_all k, Iwide_Rat k, Ibig_Rat_Cmp_jyb k]) (fun b _ σ K => LOt Ty (kps 11) 0 b σ K []) 11 Tryz.f11.ntmps Tryz.f11.results.toList (bd Tryz.f11) (shrat_Cmp.enc x).1 (shrat_Cmp.enc x).2 (putS FS.dec rsrat_Cmp) := by kernel_rfl
theorem okrat_Cmp : ∀ k, InstOk (call cf k) (Irat_Cmp k)
  | 0 => fun x y e => absurd (show (none : Option _) = some y from e) (by simp)
  | k + 1 => inst_ok (c := cf) (k := k) (f := 11) (fn := Tryz.f11) (body := bd Tryz.f11) (sh := shrat_Cmp) (os := rsrat_Cmp) rfl Tryz.func11 rfl ⟨rfl, Nat.le_of_ble_eq_true rfl⟩ (COt_ok (alrat_Cmp k)) (anrat_Cmp k) (fun x => Frat_Cmp (k + 1) x.1 x.2.1 x.2.2.1 x.2.2.2.1 x.2.2.2.2.1 x.2.2.2.2.2.1 x.2.2.2.2.2.2.1 x.2.2.2.2.2.2.2) (strat_Cmp k)

/-! shunt/shuntref01.Right -/
def bshuntref01_Right (k : Nat) (a0 : Bool) (a1 : List Int) : Option (Bool) :=
  if ((decide ((((List.length a1) : Nat) : Int) > (72 : Int))) = true) then
    (some false)
  else
  if (((((List.length a1) : Nat) : Int) == (0 : Int)) = true) then
    (some (!a0))
  else
  if ((0 : Int) ≤ (IntKind.wrap .i64 ((((List.length a1) : Nat) : Int) - (1 : Int)))) then
    Option.bind (a1)[(Int.toNat (IntKind.wrap .i64 ((((List.length a1) : Nat) : Int) - (1 : Int))))]? fun x1 =>
    (some (x1 != (0 : Int)))
  else
  none
def Fshuntref01_Right : Nat → Bool → List Int → Option (Bool)
  | 0, _, _ => none
  | k + 1, a0, a1 => bshuntref01_Right k a0 a1
def shshuntref01_Right : FS := { vs := [.g [.lf .bool, .lf (.sl (.int .u32))]], bs := [] }
def rsshuntref01_Right : List FS := [{ vs := [.a (.lf .bool)], bs := [] }]
def Ishuntref01_Right (k : Nat) : Inst := ⟨81, shshuntref01_Right, rsshuntref01_Right, fun x => Fshuntref01_Right k x.1 x.2⟩
theorem alshuntref01_Right (k : Nat) : AllI (call cf k) [] := True.intro
theorem anshuntref01_Right (k : Nat) : LAll (LOk (R := DS FS.D rsshuntref01_Right) (fun b _ σ K => LOt Ty (kps 81) 0 b σ K []) cf (call cf k) (cf.keep 81) Tryz.f81.ntmps k shshuntref01_Right.bs.length) 0 (bd Tryz.f81) :=
  And.intro (True.intro) (And.intro (True.intro) (And.intro (And.intro (True.intro) (And.intro (And.intro (True.intro) (True.intro)) (True.intro))) (And.intro (And.intro (True.intro) (And.intro (And.intro (True.intro) (True.intro)) (True.intro))) (And.intro (True.intro) (True.intro)))))
theorem stshuntref01_Right (k : Nat) (x : shshuntref01_Right.D) : Fshuntref01_Right (k + 1) x.1 x.2 = body2 cf (fun f a b K => COt f a b K []) (fun b _ σ K => LOt Ty (kps 81) 0 b σ K []) 81 Tryz.f81.ntmps Tryz.f81.results.toList (bd Tryz.f81) (shshuntref01_Right.enc x).1 (shshuntref01_Right.enc x).2 (putS FS.dec rsshuntref01_Right) := by kernel_rfl
theorem okshuntref01_Right : ∀ k, InstOk (call cf k) (Ishuntref01_Right k)
  | 0 => fun x y e => absurd (show (none : Option _) = some y from e) (by simp)
  | k + 1 => inst_ok (c := cf) (k := k) (f := 81) (fn := Tryz.f81) (body := bd Tryz.f81) (sh := shshuntref01_Right) (os := rsshuntref01_Right) rfl Tryz.func81 rfl ⟨rfl, Nat.le_of_ble_eq_true rfl⟩ (COt_ok (alshuntref01_Right k)) (anshuntref01_Right k) (fun x => Fshuntref01_Right (k + 1) x.1 x.2) (stshuntref01_Right k)

/-! shunt/shuntref01.trim -/
def Lshuntref01_trim_mfi_0s (k : Nat) (rec : Nat → Int → List Int → Option (Nat × Int × List Int)) (d : Nat) (n : Int) (ds : List Int) : Option (Nat × Int × List Int) :=
  if ((decide (n > (0 : Int))) = true) then
    if (((0 : Int) ≤ (IntKind.wrap .i64 (n - (1 : Int)))) ∧ ((IntKind.wrap .i64 (n - (1 : Int))) < ((d : Nat) : Int))) then
      Option.bind (ds)[(0 + (Int.toNat (IntKind.wrap .i64 (n - (1 : Int)))))]? fun x1 =>
      if ((x1 == (0 : Int)) = true) then
        rec d (IntKind.wrap .i64 (n - (1 : Int))) ds
      else
      (some (d, n, ds))
    else
    none
  else
  (some (d, n, ds))
def Lshuntref01_trim_mfi_0 (k n : Nat) : Nat → Int → List Int → Option (Nat × Int × List Int) := Nat.rec (fun _ _ _ => none) (fun _ r => Lshuntref01_trim_mfi_0s k r) n
def bshuntref01_trim_mfi (k : Nat) (d : Nat) (ds : List Int) : Option (Nat × List Int) :=
  Option.bind (Lshuntref01_trim_mfi_0 k k d ((d : Nat) : Int) ds) fun r12 =>
  if (((0 : Int) ≤ (0 : Int)) ∧ (((0 : Int) ≤ r12.2.1) ∧ (((0 + (Int.toNat r12.2.1)) ≤ (List.length r12.2.2)) ∧ (((0 : Int) < r12.2.1) ∨ (true = true))))) then
    (some ((Int.toNat r12.2.1), r12.2.2))
  else
  none
def Fshuntref01_trim_mfi : Nat → Nat → List Int → Option (Nat × List Int)
  | 0, _, _ => none
  | k + 1, d, ds => bshuntref01_trim_mfi k d ds
def shshuntref01_trim_mfi : FS := { vs := [.a (.smz 0)], bs := [.arr (.int .i64) 1 3 false] }
def rsshuntref01_trim_mfi : List FS := [{ vs := [.a (.smz 0)], bs := [.arr (.int .i64) 1 3 false] }]
def Ishuntref01_trim_mfi (k : Nat) : Inst := ⟨84, shshuntref01_trim_mfi, rsshuntref01_trim_mfi, fun x => Fshuntref01_trim_mfi k x.1 x.2⟩
theorem alshuntref01_trim_mfi (k : Nat) : AllI (call cf k) [] := True.intro
def hsshuntref01_trim_mfi_0 : List SS := [{ fr := [(0, .a (.smz 0)), (3, .a (.lf (.int .i64)))], mem := [(0, some (.arr (.int .i64) 1 3 false))], nx := 1 }]
def osshuntref01_trim_mfi_0 : List OS := [⟨some 0, { fr := [(0, .a (.smz 0)), (3, .a (.lf (.int .i64)))], mem := [(0, some (.arr (.int .i64) 1 3 false))], nx := 1 }⟩]
def LIshuntref01_trim_mfi_0 (k : Nat) : LInst := ⟨0, hsshuntref01_trim_mfi_0, osshuntref01_trim_mfi_0, fun x => Lshuntref01_trim_mfi_0 k k x.1 x.2.1 x.2.2⟩
theorem anshuntref01_trim_mfi_0 (k : Nat) : LAll (LOk (R := DS OS.D osshuntref01_trim_mfi_0) (fun b _ σ K => LOt Ty (kps 84) 1 b σ K []) cf (call cf k) (kps 84) Tryz.f84.ntmps k 1) 0 (lb Tryz.f84 0) :=
  And.intro (And.intro (True.intro) (And.intro (True.intro) (True.intro))) (True.intro)
theorem stshuntref01_trim_mfi_0 (k n : Nat) (x : DS SS.D hsshuntref01_trim_mfi_0) : Lshuntref01_trim_mfi_0 k (n + 1) x.1 x.2.1 x.2.2 = encSK SS.enc (fun σ => run2 cf (fun f a b K => COt f a b K []) (fun b _ σ K => LOt Ty (kps 84) 1 b σ K []) Tryz.f84.ntmps 0 (lb Tryz.f84 0) σ (nextK Ty (kps 84 0) 1 hsshuntref01_trim_mfi_0 osshuntref01_trim_mfi_0 fun x => Lshuntref01_trim_mfi_0 k n x.1 x.2.1 x.2.2)) hsshuntref01_trim_mfi_0 x := by kernel_rfl
theorem loshuntref01_trim_mfi_0 (k : Nat) : LIOk cf (call cf k) (kps 84) Tryz.f84.ntmps k 1 0 (lb Tryz.f84 0) (LIshuntref01_trim_mfi_0 k) :=
  loop_ok (c := cf) (callF := call cf k) (kp := kps 84) (nt := Tryz.f84.ntmps) (k := k) (p := 1) (b := 0) (x0 := lb Tryz.f84 0) (hs := hsshuntref01_trim_mfi_0) (os := osshuntref01_trim_mfi_0) (COt_ok (alshuntref01_trim_mfi k)) (anshuntref01_trim_mfi_0 k) (fun n x => Lshuntref01_trim_mfi_0 k n x.1 x.2.1 x.2.2) (fun _ => rfl) (stshuntref01_trim_mfi_0 k)
theorem anshuntref01_trim_mfi (k : Nat) : LAll (LOk (R := DS FS.D rsshuntref01_trim_mfi) (fun b _ σ K => LOt Ty (kps 84) 1 b σ K [LIshuntref01_trim_mfi_0 k]) cf (call cf k) (cf.keep 84) Tryz.f84.ntmps k shshuntref01_trim_mfi.bs.length) 0 (bd Tryz.f84) :=
  And.intro (True.intro) (And.intro (True.intro) (And.intro (LOt_ok (c := cf) (callF := call cf k) (kp := kps 84) (nt := Tryz.f84.ntmps) (k := k) (p := 1) (b := 0) (x0 := lb Tryz.f84 0) (l := [LIshuntref01_trim_mfi_0 k]) (And.intro (fun _ => loshuntref01_trim_mfi_0 k) (True.intro))) (And.intro (True.intro) (True.intro))))
theorem stshuntref01_trim_mfi (k : Nat) (x : shshuntref01_trim_mfi.D) : Fshuntref01_trim_mfi (k + 1) x.1 x.2 = body2 cf (fun f a b K => COt f a b K []) (fun b _ σ K => LOt Ty (kps 84) 1 b σ K [LIshuntref01_trim_mfi_0 k]) 84 Tryz.f84.ntmps Tryz.f84.results.toList (bd Tryz.f84) (shshuntref01_trim_mfi.enc x).1 (shshuntref01_trim_mfi.enc x).2 (putS FS.dec rsshuntref01_trim_mfi) := by kernel_rfl
theorem okshuntref01_trim_mfi : ∀ k, InstOk (call cf k) (Ishuntref01_trim_mfi k)
  | 0 => fun x y e => absurd (show (none : Option _) = some y from e) (by simp)
  | k + 1 => inst_ok (c := cf) (k := k) (f := 84) (fn := Tryz.f84) (body := bd Tryz.f84) (sh := shshuntref01_trim_mfi) (os := rsshuntref01_trim_mfi) rfl Tryz.func84 rfl ⟨rfl, Nat.le_of_ble_eq_true rfl⟩ (COt_ok (alshuntref01_trim_mfi k)) (anshuntref01_trim_mfi k) (fun x => Fshuntref01_trim_mfi (k + 1) x.1 x.2) (stshuntref01_trim_mfi k)

/-! shunt/shuntref01.Take -/
def Lshuntref01_Take_0s (k : Nat) (rec : Nat → Int → Bool → List Int → Bool → Nat → List Int → List Int → Option (Nat × Bool × List Int × Bool × Nat × List Int × List Int)) (d : Nat) (i : Int) (a0 : Bool) (a1 : List Int) (x0 : Bool) (x1 : Nat) (ds : List Int) (m : List Int) : Option (Nat × Bool × List Int × Bool × Nat × List Int × List Int) :=
  if ((decide (i < (((List.length a1) : Nat) : Int))) = true) then
    if ((0 : Int) ≤ i) then
      Option.bind (a1)[(Int.toNat i)]? fun x2 =>
      if ((0 : Int) ≤ i) then
        Option.bind (a1)[(Int.toNat i)]? fun x3 =>
        if (d ≤ (List.length ds)) then
          if (((d + (List.length (List.take 2 ((IntKind.wrap .i64 (Int.tmod x2 (65536 : Int))) :: ((IntKind.wrap .i64 (IntKind.wrap .u32 (Int.tdiv x3 (65536 : Int)))) :: []))))) * 8) ≤ 140737488355328) then
            rec (d + (List.length (List.take 2 ((IntKind.wrap .i64 (Int.tmod x2 (65536 : Int))) :: ((IntKind.wrap .i64 (IntKind.wrap .u32 (Int.tdiv x3 (65536 : Int)))) :: []))))) (IntKind.wrap .i64 (i + (1 : Int))) a0 a1 x0 x1 ((List.take d ds) ++ (List.take 2 ((IntKind.wrap .i64 (Int.tmod x2 (65536 : Int))) :: ((IntKind.wrap .i64 (IntKind.wrap .u32 (Int.tdiv x3 (65536 : Int)))) :: [])))) m
          else
          none
        else
        none
      else
      none
    else
    none
  else
  (some (d, a0, a1, x0, x1, ds, m))
def Lshuntref01_Take_0 (k n : Nat) : Nat → Int → Bool → List Int → Bool → Nat → List Int → List Int → Option (Nat × Bool × List Int × Bool × Nat × List Int × List Int) := Nat.rec (fun _ _ _ _ _ _ _ _ => none) (fun _ r => Lshuntref01_Take_0s k r) n
def bshuntref01_Take (k : Nat) (a0 : Bool) (a1 : List Int) : Option (Bool × List Int) :=
  Option.bind (Lshuntref01_Take_0 k k 0 (0 : Int) a0 a1 false 0 [] []) fun r11 =>
  Option.bind (Fshuntref01_trim_mfi k r11.1 r11.2.2.2.2.2.1) fun r12 =>
  if (r11.2.1 = true) then
    if ((0 + r12.1) ≤ (List.length r12.2)) then
      (some ((decide (((r12.1 : Nat) : Int) > (0 : Int))), (List.take r12.1 r12.2)))
    else
    none
  else
  if ((0 + r12.1) ≤ (List.length r12.2)) then
    (some (false, (List.take r12.1 r12.2)))
  else
  none
def Fshuntref01_Take : Nat → Bool → List Int → Option (Bool × List Int)
  | 0, _, _ => none
  | k + 1, a0, a1 => bshuntref01_Take k a0 a1
def shshuntref01_Take : FS := { vs := [.g [.lf .bool, .lf (.sl (.int .u32))]], bs := [] }
def rsshuntref01_Take : List FS := [{ vs := [.g [.lf .bool, .lf (.sl (.int .i64))]], bs := [] }]
def Ishuntref01_Take (k : Nat) : Inst := ⟨54, shshuntref01_Take, rsshuntref01_Take, fun x => Fshuntref01_Take k x.1 x.2⟩
theorem alshuntref01_Take (k : Nat) : AllI (call cf k) [Ishuntref01_trim_mfi k] := And.intro (okshuntref01_trim_mfi k) (True.intro)
def hsshuntref01_Take_0 : List SS := [{ fr := [(1, .a (.ptr 0 0 0)), (2, .a (.ptr 1 0 0)), (3, .a (.smz 2)), (4, .a (.lf (.int .i64)))], mem := [(0, some (.raw [[.lf .bool, .lf (.sl (.int .u32))]] 2 24 true false)), (1, some (.raw [[.lf .bool, .smz 3]] 2 58 false false)), (2, some (.arr (.int .i64) 1 3 false)), (3, some (.arr (.int .i64) 1 3 false))], nx := 4 }]
def osshuntref01_Take_0 : List OS := [⟨some 0, { fr := [(1, .a (.ptr 0 0 0)), (2, .a (.ptr 1 0 0)), (3, .a (.smz 2))], mem := [(0, some (.raw [[.lf .bool, .lf (.sl (.int .u32))]] 2 24 true false)), (1, some (.raw [[.lf .bool, .smz 3]] 2 58 false false)), (2, some (.arr (.int .i64) 1 3 false)), (3, some (.arr (.int .i64) 1 3 false))], nx := 4 }⟩]
def LIshuntref01_Take_0 (k : Nat) : LInst := ⟨0, hsshuntref01_Take_0, osshuntref01_Take_0, fun x => Lshuntref01_Take_0 k k x.1 x.2.1 x.2.2.1 x.2.2.2.1 x.2.2.2.2.1 x.2.2.2.2.2.1 x.2.2.2.2.2.2.1 x.2.2.2.2.2.2.2⟩
theorem anshuntref01_Take_0 (k : Nat) : LAll (LOk (R := DS OS.D osshuntref01_Take_0) (fun b _ σ K => LOt Ty (kps 54) 0 b σ K []) cf (call cf k) (kps 54) Tryz.f54.ntmps k 0) 0 (lb Tryz.f54 0) :=
  And.intro (And.intro (True.intro) (And.intro (True.intro) (True.intro))) (And.intro (True.intro) (True.intro))
theorem stshuntref01_Take_0 (k n : Nat) (x : DS SS.D hsshuntref01_Take_0) : Lshuntref01_Take_0 k (n + 1) x.1 x.2.1 x.2.2.1 x.2.2.2.1 x.2.2.2.2.1 x.2.2.2.2.2.1 x.2.2.2.2.2.2.1 x.2.2.2.2.2.2.2 = encSK SS.enc (fun σ => run2 cf (fun f a b K => COt f a b K [Ishuntref01_trim_mfi k]) (fun b _ σ K => LOt Ty (kps 54) 0 b σ K []) Tryz.f54.ntmps 0 (lb Tryz.f54 0) σ (nextK Ty (kps 54 0) 0 hsshuntref01_Take_0 osshuntref01_Take_0 fun x => Lshuntref01_Take_0 k n x.1 x.2.1 x.2.2.1 x.2.2.2.1 x.2.2.2.2.1 x.2.2.2.2.2.1 x.2.2.2.2.2.2.1 x.2.2.2.2.2.2.2)) hsshuntref01_Take_0 x := by kernel_rfl
theorem loshuntref01_Take_0 (k : Nat) : LIOk cf (call cf k) (kps 54) Tryz.f54.ntmps k 0 0 (lb Tryz.f54 0) (LIshuntref01_Take_0 k) :=
  loop_ok (c := cf) (callF := call cf k) (kp := kps 54) (nt := Tryz.f54.ntmps) (k := k) (p := 0) (b := 0) (x0 := lb Tryz.f54 0) (hs := hsshuntref01_Take_0) (os := osshuntref01_Take_0) (COt_ok (alshuntref01_Take k)) (anshuntref01_Take_0 k) (fun n x => Lshuntref01_Take_0 k n x.1 x.2.1 x.2.2.1 x.2.2.2.1 x.2.2.2.2.1 x.2.2.2.2.2.1 x.2.2.2.2.2.2.1 x.2.2.2.2.2.2.2) (fun _ => rfl) (stshuntref01_Take_0 k)
theorem anshuntref01_Take (k : Nat) : LAll (LOk (R := DS FS.D rsshuntref01_Take) (fun b _ σ K => LOt Ty (kps 54) 0 b σ K [LIshuntref01_Take_0 k]) cf (call cf k) (cf.keep 54) Tryz.f54.ntmps k shshuntref01_Take.bs.length) 0 (bd Tryz.f54) :=
  And.intro (True.intro) (And.intro (True.intro) (And.intro (And.intro (True.intro) (LOt_ok (c := cf) (callF := call cf k) (kp := kps 54) (nt := Tryz.f54.ntmps) (k := k) (p := 0) (b := 0) (x0 := lb Tryz.f54 0) (l := [LIshuntref01_Take_0 k]) (And.intro (fun _ => loshuntref01_Take_0 k) (True.intro)))) (And.intro (True.intro) (And.intro (True.intro) (True.intro)))))
theorem stshuntref01_Take (k : Nat) (x : shshuntref01_Take.D) : Fshuntref01_Take (k + 1) x.1 x.2 = body2 cf (fun f a b K => COt f a b K [Ishuntref01_trim_mfi k]) (fun b _ σ K => LOt Ty (kps 54) 0 b σ K [LIshuntref01_Take_0 k]) 54 Tryz.f54.ntmps Tryz.f54.results.toList (bd Tryz.f54) (shshuntref01_Take.enc x).1 (shshuntref01_Take.enc x).2 (putS FS.dec rsshuntref01_Take) := by kernel_rfl
theorem okshuntref01_Take : ∀ k, InstOk (call cf k) (Ishuntref01_Take k)
  | 0 => fun x y e => absurd (show (none : Option _) = some y from e) (by simp)
  | k + 1 => inst_ok (c := cf) (k := k) (f := 54) (fn := Tryz.f54) (body := bd Tryz.f54) (sh := shshuntref01_Take) (os := rsshuntref01_Take) rfl Tryz.func54 rfl ⟨rfl, Nat.le_of_ble_eq_true rfl⟩ (COt_ok (alshuntref01_Take k)) (anshuntref01_Take k) (fun x => Fshuntref01_Take (k + 1) x.1 x.2) (stshuntref01_Take k)

/-! shunt/shuntref01.Abs -/
def bshuntref01_Abs (k : Nat) (a0 : Bool) (a1 : List Int) : Option (Bool × List Int) :=
  (some (false, a1))
def Fshuntref01_Abs : Nat → Bool → List Int → Option (Bool × List Int)
  | 0, _, _ => none
  | k + 1, a0, a1 => bshuntref01_Abs k a0 a1
def shshuntref01_Abs : FS := { vs := [.g [.lf .bool, .lf (.sl (.int .i64))]], bs := [] }
def rsshuntref01_Abs : List FS := [{ vs := [.g [.lf .bool, .lf (.sl (.int .i64))]], bs := [] }]
def Ishuntref01_Abs (k : Nat) : Inst := ⟨97, shshuntref01_Abs, rsshuntref01_Abs, fun x => Fshuntref01_Abs k x.1 x.2⟩
theorem alshuntref01_Abs (k : Nat) : AllI (call cf k) [] := True.intro
theorem anshuntref01_Abs (k : Nat) : LAll (LOk (R := DS FS.D rsshuntref01_Abs) (fun b _ σ K => LOt Ty (kps 97) 0 b σ K []) cf (call cf k) (cf.keep 97) Tryz.f97.ntmps k shshuntref01_Abs.bs.length) 0 (bd Tryz.f97) :=
  And.intro (True.intro) (And.intro (True.intro) (True.intro))
theorem stshuntref01_Abs (k : Nat) (x : shshuntref01_Abs.D) : Fshuntref01_Abs (k + 1) x.1 x.2 = body2 cf (fun f a b K => COt f a b K []) (fun b _ σ K => LOt Ty (kps 97) 0 b σ K []) 97 Tryz.f97.ntmps Tryz.f97.results.toList (bd Tryz.f97) (shshuntref01_Abs.enc x).1 (shshuntref01_Abs.enc x).2 (putS FS.dec rsshuntref01_Abs) := by kernel_rfl
theorem okshuntref01_Abs : ∀ k, InstOk (call cf k) (Ishuntref01_Abs k)
  | 0 => fun x y e => absurd (show (none : Option _) = some y from e) (by simp)
  | k + 1 => inst_ok (c := cf) (k := k) (f := 97) (fn := Tryz.f97) (body := bd Tryz.f97) (sh := shshuntref01_Abs) (os := rsshuntref01_Abs) rfl Tryz.func97 rfl ⟨rfl, Nat.le_of_ble_eq_true rfl⟩ (COt_ok (alshuntref01_Abs k)) (anshuntref01_Abs k) (fun x => Fshuntref01_Abs (k + 1) x.1 x.2) (stshuntref01_Abs k)

/-! shunt/shuntref01.mags -/
def Lshuntref01_mags_0s (k : Nat) (rec : List Int → List Int → Int → Option ((Int) ⊕ (Unit))) (a : List Int) (b : List Int) (i : Int) : Option ((Int) ⊕ (Unit)) :=
  if ((decide (i ≥ (0 : Int))) = true) then
    if ((0 : Int) ≤ i) then
      Option.bind (a)[(Int.toNat i)]? fun x3 =>
      if ((0 : Int) ≤ i) then
        Option.bind (b)[(Int.toNat i)]? fun x4 =>
        if ((decide (x3 < x4)) = true) then
          (some (Sum.inl (-(1 : Int))))
        else
        if ((0 : Int) ≤ i) then
          Option.bind (a)[(Int.toNat i)]? fun x5 =>
          if ((0 : Int) ≤ i) then
            Option.bind (b)[(Int.toNat i)]? fun x6 =>
            if ((decide (x5 > x6)) = true) then
              (some (Sum.inl (1 : Int)))
            else
            rec a b (IntKind.wrap .i64 (i - (1 : Int)))
          else
          none
        else
        none
      else
      none
    else
    none
  else
  (some (Sum.inr ()))
def Lshuntref01_mags_0 (k n : Nat) : List Int → List Int → Int → Option ((Int) ⊕ (Unit)) := Nat.rec (fun _ _ _ => none) (fun _ r => Lshuntref01_mags_0s k r) n
def bshuntref01_mags (k : Nat) (a : List Int) (b : List Int) : Option (Int) :=
  if (((((List.length a) : Nat) : Int) != (((List.length b) : Nat) : Int)) = true) then
    if ((decide ((((List.length a) : Nat) : Int) < (((List.length b) : Nat) : Int))) = true) then
      (some (-(1 : Int)))
    else
    (some (1 : Int))
  else
  Option.bind (Lshuntref01_mags_0 k k a b (IntKind.wrap .i64 ((((List.length a) : Nat) : Int) - (1 : Int)))) fun r16 =>
  eitherK r16
    (fun r16 =>
    (some r16))
    (fun r16 =>
    (some (0 : Int)))
def Fshuntref01_mags : Nat → List Int → List Int → Option (Int)
  | 0, _, _ => none
  | k + 1, a, b => bshuntref01_mags k a b
def shshuntref01_mags : FS := { vs := [.a (.lf (.sl (.int .i64))), .a (.lf (.sl (.int .i64)))], bs := [] }
def rsshuntref01_mags : List FS := [{ vs := [.a (.lf (.int .i64))], bs := [] }]
def Ishuntref01_mags (k : Nat) : Inst := ⟨89, shshuntref01_mags, rsshuntref01_mags, fun x => Fshuntref01_mags k x.1 x.2⟩
theorem alshuntref01_mags (k : Nat) : AllI (call cf k) [] := True.intro
def hsshuntref01_mags_0 : List SS := [{ fr := [(0, .a (.lf (.sl (.int .i64)))), (1, .a (.lf (.sl (.int .i64)))), (5, .a (.lf (.int .i64)))], mem := [], nx := 0 }]
def osshuntref01_mags_0 : List OS := [⟨none, { fr := [(4, .a (.lf (.int .i64)))], mem := [], nx := 0 }⟩, ⟨some 0, { fr := [], mem := [], nx := 0 }⟩]
def LIshuntref01_mags_0 (k : Nat) : LInst := ⟨0, hsshuntref01_mags_0, osshuntref01_mags_0, fun x => Lshuntref01_mags_0 k k x.1 x.2.1 x.2.2⟩
theorem anshuntref01_mags_0 (k : Nat) : LAll (LOk (R := DS OS.D osshuntref01_mags_0) (fun b _ σ K => LOt Ty (kps 89) 0 b σ K []) cf (call cf k) (kps 89) Tryz.f89.ntmps k 0) 0 (lb Tryz.f89 0) :=
  And.intro (And.intro (True.intro) (And.intro (True.intro) (True.intro))) (And.intro (And.intro (And.intro (True.intro) (And.intro (And.intro (True.intro) (True.intro)) (True.intro))) (And.intro (True.intro) (And.intro (And.intro (True.intro) (True.intro)) (True.intro)))) (True.intro))
theorem stshuntref01_mags_0 (k n : Nat) (x : DS SS.D hsshuntref01_mags_0) : Lshuntref01_mags_0 k (n + 1) x.1 x.2.1 x.2.2 = encSK SS.enc (fun σ => run2 cf (fun f a b K => COt f a b K []) (fun b _ σ K => LOt Ty (kps 89) 0 b σ K []) Tryz.f89.ntmps 0 (lb Tryz.f89 0) σ (nextK Ty (kps 89 0) 0 hsshuntref01_mags_0 osshuntref01_mags_0 fun x => Lshuntref01_mags_0 k n x.1 x.2.1 x.2.2)) hsshuntref01_mags_0 x := by kernel_rfl
theorem loshuntref01_mags_0 (k : Nat) : LIOk cf (call cf k) (kps 89) Tryz.f89.ntmps k 0 0 (lb Tryz.f89 0) (LIshuntref01_mags_0 k) :=
  loop_ok (c := cf) (callF := call cf k) (kp := kps 89) (nt := Tryz.f89.ntmps) (k := k) (p := 0) (b := 0) (x0 := lb Tryz.f89 0) (hs := hsshuntref01_mags_0) (os := osshuntref01_mags_0) (COt_ok (alshuntref01_mags k)) (anshuntref01_mags_0 k) (fun n x => Lshuntref01_mags_0 k n x.1 x.2.1 x.2.2) (fun _ => rfl) (stshuntref01_mags_0 k)
theorem anshuntref01_mags (k : Nat) : LAll (LOk (R := DS FS.D rsshuntref01_mags) (fun b _ σ K => LOt Ty (kps 89) 0 b σ K [LIshuntref01_mags_0 k]) cf (call cf k) (cf.keep 89) Tryz.f89.ntmps k shshuntref01_mags.bs.length) 0 (bd Tryz.f89) :=
  And.intro (True.intro) (And.intro (And.intro (True.intro) (And.intro (And.intro (And.intro (True.intro) (And.intro (And.intro (True.intro) (True.intro)) (True.intro))) (And.intro (True.intro) (True.intro))) (True.intro))) (And.intro (And.intro (True.intro) (LOt_ok (c := cf) (callF := call cf k) (kp := kps 89) (nt := Tryz.f89.ntmps) (k := k) (p := 0) (b := 0) (x0 := lb Tryz.f89 0) (l := [LIshuntref01_mags_0 k]) (And.intro (fun _ => loshuntref01_mags_0 k) (True.intro)))) (And.intro (True.intro) (True.intro))))
theorem stshuntref01_mags (k : Nat) (x : shshuntref01_mags.D) : Fshuntref01_mags (k + 1) x.1 x.2 = body2 cf (fun f a b K => COt f a b K []) (fun b _ σ K => LOt Ty (kps 89) 0 b σ K [LIshuntref01_mags_0 k]) 89 Tryz.f89.ntmps Tryz.f89.results.toList (bd Tryz.f89) (shshuntref01_mags.enc x).1 (shshuntref01_mags.enc x).2 (putS FS.dec rsshuntref01_mags) := by kernel_rfl
theorem okshuntref01_mags : ∀ k, InstOk (call cf k) (Ishuntref01_mags k)
  | 0 => fun x y e => absurd (show (none : Option _) = some y from e) (by simp)
  | k + 1 => inst_ok (c := cf) (k := k) (f := 89) (fn := Tryz.f89) (body := bd Tryz.f89) (sh := shshuntref01_mags) (os := rsshuntref01_mags) rfl Tryz.func89 rfl ⟨rfl, Nat.le_of_ble_eq_true rfl⟩ (COt_ok (alshuntref01_mags k)) (anshuntref01_mags k) (fun x => Fshuntref01_mags (k + 1) x.1 x.2) (stshuntref01_mags k)

/-! shunt/shuntref01.Small -/
def Lshuntref01_Small_0s (k : Nat) (rec : Int → Bool → Nat → Bool → Nat → List Int → List Int → Option (Bool × Nat × Bool × Nat × List Int × List Int)) (v : Int) (x0 : Bool) (x1 : Nat) (a0 : Bool) (a1 : Nat) (m : List Int) (m1 : List Int) : Option (Bool × Nat × Bool × Nat × List Int × List Int) :=
  if ((decide (v > (0 : Int))) = true) then
    if (a1 ≤ (List.length m1)) then
      if (((a1 + (List.length (List.take 1 ((Int.tmod v (65536 : Int)) :: [])))) * 8) ≤ 140737488355328) then
        rec (IntKind.wrap .i64 (Int.tdiv v (65536 : Int))) x0 x1 a0 (a1 + (List.length (List.take 1 ((Int.tmod v (65536 : Int)) :: [])))) m ((List.take a1 m1) ++ (List.take 1 ((Int.tmod v (65536 : Int)) :: [])))
      else
      none
    else
    none
  else
  (some (x0, x1, a0, a1, m, m1))
def Lshuntref01_Small_0 (k n : Nat) : Int → Bool → Nat → Bool → Nat → List Int → List Int → Option (Bool × Nat × Bool × Nat × List Int × List Int) := Nat.rec (fun _ _ _ _ _ _ _ => none) (fun _ r => Lshuntref01_Small_0s k r) n
def bshuntref01_Small (k : Nat) (v : Int) : Option (Bool × List Int) :=
  if ((decide (v < (0 : Int))) = true) then
    Option.bind (Lshuntref01_Small_0 k k (IntKind.wrap .i64 ((0 : Int) - v)) false 0 true 0 [] []) fun r17 =>
    if ((0 + r17.2.2.2.1) ≤ (List.length r17.2.2.2.2.2)) then
      (some (r17.2.2.1, (List.take r17.2.2.2.1 r17.2.2.2.2.2)))
    else
    none
  else
  Option.bind (Lshuntref01_Small_0 k k v false 0 false 0 [] []) fun r17 =>
  if ((0 + r17.2.2.2.1) ≤ (List.length r17.2.2.2.2.2)) then
    (some (r17.2.2.1, (List.take r17.2.2.2.1 r17.2.2.2.2.2)))
  else
  none
def Fshuntref01_Small : Nat → Int → Option (Bool × List Int)
  | 0, _ => none
  | k + 1, v => bshuntref01_Small k v
def shshuntref01_Small : FS := { vs := [.a (.lf (.int .i64))], bs := [] }
def rsshuntref01_Small : List FS := [{ vs := [.g [.lf .bool, .lf (.sl (.int .i64))]], bs := [] }]
def Ishuntref01_Small (k : Nat) : Inst := ⟨83, shshuntref01_Small, rsshuntref01_Small, fun x => Fshuntref01_Small k x⟩
theorem alshuntref01_Small (k : Nat) : AllI (call cf k) [] := True.intro
def hsshuntref01_Small_0 : List SS := [{ fr := [(0, .a (.lf (.int .i64))), (2, .a (.ptr 0 0 0)), (3, .a (.ptr 1 0 0))], mem := [(0, some (.raw [[.lf .bool, .smz 2]] 2 58 false false)), (1, some (.raw [[.lf .bool, .smz 3]] 2 58 false false)), (2, some (.arr (.int .i64) 1 3 false)), (3, some (.arr (.int .i64) 1 3 false))], nx := 4 }]
def osshuntref01_Small_0 : List OS := [⟨some 0, { fr := [(2, .a (.ptr 0 0 0)), (3, .a (.ptr 1 0 0))], mem := [(0, some (.raw [[.lf .bool, .smz 2]] 2 58 false false)), (1, some (.raw [[.lf .bool, .smz 3]] 2 58 false false)), (2, some (.arr (.int .i64) 1 3 false)), (3, some (.arr (.int .i64) 1 3 false))], nx := 4 }⟩]
def LIshuntref01_Small_0 (k : Nat) : LInst := ⟨0, hsshuntref01_Small_0, osshuntref01_Small_0, fun x => Lshuntref01_Small_0 k k x.1 x.2.1 x.2.2.1 x.2.2.2.1 x.2.2.2.2.1 x.2.2.2.2.2.1 x.2.2.2.2.2.2⟩
theorem anshuntref01_Small_0 (k : Nat) : LAll (LOk (R := DS OS.D osshuntref01_Small_0) (fun b _ σ K => LOt Ty (kps 83) 0 b σ K []) cf (call cf k) (kps 83) Tryz.f83.ntmps k 0) 0 (lb Tryz.f83 0) :=
  And.intro (And.intro (True.intro) (And.intro (True.intro) (True.intro))) (And.intro (True.intro) (True.intro))
theorem stshuntref01_Small_0 (k n : Nat) (x : DS SS.D hsshuntref01_Small_0) : Lshuntref01_Small_0 k (n + 1) x.1 x.2.1 x.2.2.1 x.2.2.2.1 x.2.2.2.2.1 x.2.2.2.2.2.1 x.2.2.2.2.2.2 = encSK SS.enc (fun σ => run2 cf (fun f a b K => COt f a b K []) (fun b _ σ K => LOt Ty (kps 83) 0 b σ K []) Tryz.f83.ntmps 0 (lb Tryz.f83 0) σ (nextK Ty (kps 83 0) 0 hsshuntref01_Small_0 osshuntref01_Small_0 fun x => Lshuntref01_Small_0 k n x.1 x.2.1 x.2.2.1 x.2.2.2.1 x.2.2.2.2.1 x.2.2.2.2.2.1 x.2.2.2.2.2.2)) hsshuntref01_Small_0 x := by kernel_rfl
theorem loshuntref01_Small_0 (k : Nat) : LIOk cf (call cf k) (kps 83) Tryz.f83.ntmps k 0 0 (lb Tryz.f83 0) (LIshuntref01_Small_0 k) :=
  loop_ok (c := cf) (callF := call cf k) (kp := kps 83) (nt := Tryz.f83.ntmps) (k := k) (p := 0) (b := 0) (x0 := lb Tryz.f83 0) (hs := hsshuntref01_Small_0) (os := osshuntref01_Small_0) (COt_ok (alshuntref01_Small k)) (anshuntref01_Small_0 k) (fun n x => Lshuntref01_Small_0 k n x.1 x.2.1 x.2.2.1 x.2.2.2.1 x.2.2.2.2.1 x.2.2.2.2.2.1 x.2.2.2.2.2.2) (fun _ => rfl) (stshuntref01_Small_0 k)
theorem anshuntref01_Small (k : Nat) : LAll (LOk (R := DS FS.D rsshuntref01_Small) (fun b _ σ K => LOt Ty (kps 83) 0 b σ K [LIshuntref01_Small_0 k]) cf (call cf k) (cf.keep 83) Tryz.f83.ntmps k shshuntref01_Small.bs.length) 0 (bd Tryz.f83) :=
  And.intro (True.intro) (And.intro (True.intro) (And.intro (And.intro (True.intro) (And.intro (And.intro (True.intro) (True.intro)) (True.intro))) (And.intro (LOt_ok (c := cf) (callF := call cf k) (kp := kps 83) (nt := Tryz.f83.ntmps) (k := k) (p := 0) (b := 0) (x0 := lb Tryz.f83 0) (l := [LIshuntref01_Small_0 k]) (And.intro (fun _ => loshuntref01_Small_0 k) (True.intro))) (And.intro (True.intro) (True.intro)))))
theorem stshuntref01_Small (k : Nat) (x : shshuntref01_Small.D) : Fshuntref01_Small (k + 1) x = body2 cf (fun f a b K => COt f a b K []) (fun b _ σ K => LOt Ty (kps 83) 0 b σ K [LIshuntref01_Small_0 k]) 83 Tryz.f83.ntmps Tryz.f83.results.toList (bd Tryz.f83) (shshuntref01_Small.enc x).1 (shshuntref01_Small.enc x).2 (putS FS.dec rsshuntref01_Small) := by kernel_rfl
theorem okshuntref01_Small : ∀ k, InstOk (call cf k) (Ishuntref01_Small k)
  | 0 => fun x y e => absurd (show (none : Option _) = some y from e) (by simp)
  | k + 1 => inst_ok (c := cf) (k := k) (f := 83) (fn := Tryz.f83) (body := bd Tryz.f83) (sh := shshuntref01_Small) (os := rsshuntref01_Small) rfl Tryz.func83 rfl ⟨rfl, Nat.le_of_ble_eq_true rfl⟩ (COt_ok (alshuntref01_Small k)) (anshuntref01_Small k) (fun x => Fshuntref01_Small (k + 1) x) (stshuntref01_Small k)

/-! shunt/shuntref01.Times -/
def Lshuntref01_Times_2s (k : Nat) (rec : Nat → Int → Int → Int → Bool → List Int → Bool → List Int → Bool → Nat → List Int → List Int → Option (Nat × Int × Int × Bool × List Int × Bool × List Int × Bool × Nat × List Int × List Int)) (d : Nat) (i : Int) (carry : Int) (j : Int) (a0 : Bool) (a1 : List Int) (b0 : Bool) (b1 : List Int) (x0 : Bool) (x1 : Nat) (ds : List Int) (m : List Int) : Option (Nat × Int × Int × Bool × List Int × Bool × List Int × Bool × Nat × List Int × List Int) :=
  if ((decide (j < (((List.length b1) : Nat) : Int))) = true) then
    if (((0 : Int) ≤ (IntKind.wrap .i64 (i + j))) ∧ ((IntKind.wrap .i64 (i + j)) < ((d : Nat) : Int))) then
      Option.bind (ds)[(0 + (Int.toNat (IntKind.wrap .i64 (i + j))))]? fun x3 =>
      if ((0 : Int) ≤ i) then
        Option.bind (a1)[(Int.toNat i)]? fun x4 =>
        if ((0 : Int) ≤ j) then
          Option.bind (b1)[(Int.toNat j)]? fun x5 =>
          if (((0 : Int) ≤ (IntKind.wrap .i64 (i + j))) ∧ ((IntKind.wrap .i64 (i + j)) < ((d : Nat) : Int))) then
            Option.bind (ds)[(0 + (Int.toNat (IntKind.wrap .i64 (i + j))))]? fun x6 =>
            rec d i (IntKind.wrap .i64 (Int.tdiv (IntKind.wrap .i64 ((IntKind.wrap .i64 (x3 + (IntKind.wrap .i64 (x4 * x5)))) + carry)) (65536 : Int))) (IntKind.wrap .i64 (j + (1 : Int))) a0 a1 b0 b1 x0 x1 (List.set ds (0 + (Int.toNat (IntKind.wrap .i64 (i + j)))) (Int.tmod (IntKind.wrap .i64 ((IntKind.wrap .i64 (x3 + (IntKind.wrap .i64 (x4 * x5)))) + carry)) (65536 : Int))) m
          else
          none
        else
        none
      else
      none
    else
    none
  else
  (some (d, i, carry, a0, a1, b0, b1, x0, x1, ds, m))
def Lshuntref01_Times_2 (k n : Nat) : Nat → Int → Int → Int → Bool → List Int → Bool → List Int → Bool → Nat → List Int → List Int → Option (Nat × Int × Int × Bool × List Int × Bool × List Int × Bool × Nat × List Int × List Int) := Nat.rec (fun _ _ _ _ _ _ _ _ _ _ _ _ => none) (fun _ r => Lshuntref01_Times_2s k r) n
def Lshuntref01_Times_0s (k : Nat) (rec : Nat → Int → Bool → List Int → Bool → List Int → Bool → Nat → List Int → List Int → Option (Nat × Bool × List Int × Bool × List Int × Bool × Nat × List Int × List Int)) (d : Nat) (i : Int) (a0 : Bool) (a1 : List Int) (b0 : Bool) (b1 : List Int) (x0 : Bool) (x1 : Nat) (ds : List Int) (m : List Int) : Option (Nat × Bool × List Int × Bool × List Int × Bool × Nat × List Int × List Int) :=
  if ((decide (i < (((List.length a1) : Nat) : Int))) = true) then
    Option.bind (Lshuntref01_Times_2 k k d i (0 : Int) (0 : Int) a0 a1 b0 b1 x0 x1 ds m) fun r18 =>
    if (((0 : Int) ≤ (IntKind.wrap .i64 (r18.2.1 + (((List.length r18.2.2.2.2.2.2.1) : Nat) : Int)))) ∧ ((IntKind.wrap .i64 (r18.2.1 + (((List.length r18.2.2.2.2.2.2.1) : Nat) : Int))) < ((r18.1 : Nat) : Int))) then
      Option.bind (r18.2.2.2.2.2.2.2.2.2.1)[(0 + (Int.toNat (IntKind.wrap .i64 (r18.2.1 + (((List.length r18.2.2.2.2.2.2.1) : Nat) : Int)))))]? fun x3 =>
      if (((0 : Int) ≤ (IntKind.wrap .i64 (r18.2.1 + (((List.length r18.2.2.2.2.2.2.1) : Nat) : Int)))) ∧ ((IntKind.wrap .i64 (r18.2.1 + (((List.length r18.2.2.2.2.2.2.1) : Nat) : Int))) < ((r18.1 : Nat) : Int))) then
        Option.bind (r18.2.2.2.2.2.2.2.2.2.1)[(0 + (Int.toNat (IntKind.wrap .i64 (r18.2.1 + (((List.length r18.2.2.2.2.2.2.1) : Nat) : Int)))))]? fun x4 =>
        rec r18.1 (IntKind.wrap .i64 (r18.2.1 + (1 : Int))) r18.2.2.2.1 r18.2.2.2.2.1 r18.2.2.2.2.2.1 r18.2.2.2.2.2.2.1 r18.2.2.2.2.2.2.2.1 r18.2.2.2.2.2.2.2.2.1 (List.set r18.2.2.2.2.2.2.2.2.2.1 (0 + (Int.toNat (IntKind.wrap .i64 (r18.2.1 + (((List.length r18.2.2.2.2.2.2.1) : Nat) : Int))))) (IntKind.wrap .i64 (x3 + r18.2.2.1))) r18.2.2.2.2.2.2.2.2.2.2
      else
      none
    else
    none
  else
  (some (d, a0, a1, b0, b1, x0, x1, ds, m))
def Lshuntref01_Times_0 (k n : Nat) : Nat → Int → Bool → List Int → Bool → List Int → Bool → Nat → List Int → List Int → Option (Nat × Bool × List Int × Bool × List Int × Bool × Nat × List Int × List Int) := Nat.rec (fun _ _ _ _ _ _ _ _ _ _ => none) (fun _ r => Lshuntref01_Times_0s k r) n
def bshuntref01_Times (k : Nat) (a0 : Bool) (a1 : List Int) (b0 : Bool) (b1 : List Int) : Option (Bool × List Int) :=
  if (((0 : Int) ≤ (IntKind.wrap .i64 ((((List.length a1) : Nat) : Int) + (((List.length b1) : Nat) : Int)))) ∧ (((IntKind.wrap .i64 ((((List.length a1) : Nat) : Int) + (((List.length b1) : Nat) : Int))) ≤ (IntKind.wrap .i64 ((((List.length a1) : Nat) : Int) + (((List.length b1) : Nat) : Int)))) ∧ (((IntKind.wrap .i64 ((((List.length a1) : Nat) : Int) + (((List.length b1) : Nat) : Int))) * (8 : Int)) ≤ (140737488355328 : Int)))) then
    Option.bind (Lshuntref01_Times_0 k k (Int.toNat (IntKind.wrap .i64 ((((List.length a1) : Nat) : Int) + (((List.length b1) : Nat) : Int)))) (0 : Int) a0 a1 b0 b1 false 0 (List.replicate (Int.toNat (IntKind.wrap .i64 ((((List.length a1) : Nat) : Int) + (((List.length b1) : Nat) : Int)))) (0 : Int)) []) fun r18 =>
    Option.bind (Fshuntref01_trim_mfi k r18.1 r18.2.2.2.2.2.2.2.1) fun r19 =>
    if ((!(r18.2.1 == r18.2.2.2.1)) = true) then
      if ((0 + r19.1) ≤ (List.length r19.2)) then
        (some ((decide (((r19.1 : Nat) : Int) > (0 : Int))), (List.take r19.1 r19.2)))
      else
      none
    else
    if ((0 + r19.1) ≤ (List.length r19.2)) then
      (some (false, (List.take r19.1 r19.2)))
    else
    none
  else
  none
def Fshuntref01_Times : Nat → Bool → List Int → Bool → List Int → Option (Bool × List Int)
  | 0, _, _, _, _ => none
  | k + 1, a0, a1, b0, b1 => bshuntref01_Times k a0 a1 b0 b1
def shshuntref01_Times : FS := { vs := [.g [.lf .bool, .lf (.sl (.int .i64))], .g [.lf .bool, .lf (.sl (.int .i64))]], bs := [] }
def rsshuntref01_Times : List FS := [{ vs := [.g [.lf .bool, .lf (.sl (.int .i64))]], bs := [] }]
def Ishuntref01_Times (k : Nat) : Inst := ⟨59, shshuntref01_Times, rsshuntref01_Times, fun x => Fshuntref01_Times k x.1 x.2.1 x.2.2.1 x.2.2.2⟩
theorem alshuntref01_Times (k : Nat) : AllI (call cf k) [Ishuntref01_trim_mfi k] := And.intro (okshuntref01_trim_mfi k) (True.intro)
def hsshuntref01_Times_2 : List SS := [{ fr := [(2, .a (.ptr 0 0 0)), (3, .a (.ptr 1 0 0)), (4, .a (.ptr 2 0 0)), (5, .a (.smz 3)), (6, .a (.lf (.int .i64))), (7, .a (.lf (.int .i64))), (8, .a (.lf (.int .i64)))], mem := [(0, some (.raw [[.lf .bool, .lf (.sl (.int .i64))]] 2 58 true false)), (1, some (.raw [[.lf .bool, .lf (.sl (.int .i64))]] 2 58 true false)), (2, some (.raw [[.lf .bool, .smz 4]] 2 58 false false)), (3, some (.arr (.int .i64) 1 3 false)), (4, some (.arr (.int .i64) 1 3 false))], nx := 5 }]
def osshuntref01_Times_2 : List OS := [⟨some 2, { fr := [(2, .a (.ptr 0 0 0)), (3, .a (.ptr 1 0 0)), (4, .a (.ptr 2 0 0)), (5, .a (.smz 3)), (6, .a (.lf (.int .i64))), (7, .a (.lf (.int .i64)))], mem := [(0, some (.raw [[.lf .bool, .lf (.sl (.int .i64))]] 2 58 true false)), (1, some (.raw [[.lf .bool, .lf (.sl (.int .i64))]] 2 58 true false)), (2, some (.raw [[.lf .bool, .smz 4]] 2 58 false false)), (3, some (.arr (.int .i64) 1 3 false)), (4, some (.arr (.int .i64) 1 3 false))], nx := 5 }⟩]
def LIshuntref01_Times_2 (k : Nat) : LInst := ⟨2, hsshuntref01_Times_2, osshuntref01_Times_2, fun x => Lshuntref01_Times_2 k k x.1 x.2.1 x.2.2.1 x.2.2.2.1 x.2.2.2.2.1 x.2.2.2.2.2.1 x.2.2.2.2.2.2.1 x.2.2.2.2.2.2.2.1 x.2.2.2.2.2.2.2.2.1 x.2.2.2.2.2.2.2.2.2.1 x.2.2.2.2.2.2.2.2.2.2.1 x.2.2.2.2.2.2.2.2.2.2.2⟩
theorem anshuntref01_Times_2 (k : Nat) : LAll (LOk (R := DS OS.D osshuntref01_Times_2) (fun b _ σ K => LOt Ty (kps 59) 0 b σ K []) cf (call cf k) (kps 59) Tryz.f59.ntmps k 0) 2 (lb Tryz.f59 1) :=
  And.intro (And.intro (True.intro) (And.intro (True.intro) (True.intro))) (And.intro (And.intro (True.intro) (And.intro (True.intro) (True.intro))) (True.intro))
theorem stshuntref01_Times_2 (k n : Nat) (x : DS SS.D hsshuntref01_Times_2) : Lshuntref01_Times_2 k (n + 1) x.1 x.2.1 x.2.2.1 x.2.2.2.1 x.2.2.2.2.1 x.2.2.2.2.2.1 x.2.2.2.2.2.2.1 x.2.2.2.2.2.2.2.1 x.2.2.2.2.2.2.2.2.1 x.2.2.2.2.2.2.2.2.2.1 x.2.2.2.2.2.2.2.2.2.2.1 x.2.2.2.2.2.2.2.2.2.2.2 = encSK SS.enc (fun σ => run2 cf (fun f a b K => COt f a b K [Ishuntref01_trim_mfi k]) (fun b _ σ K => LOt Ty (kps 59) 0 b σ K []) Tryz.f59.ntmps 2 (lb Tryz.f59 1) σ (nextK Ty (kps 59 2) 0 hsshuntref01_Times_2 osshuntref01_Times_2 fun x => Lshuntref01_Times_2 k n x.1 x.2.1 x.2.2.1 x.2.2.2.1 x.2.2.2.2.1 x.2.2.2.2.2.1 x.2.2.2.2.2.2.1 x.2.2.2.2.2.2.2.1 x.2.2.2.2.2.2.2.2.1 x.2.2.2.2.2.2.2.2.2.1 x.2.2.2.2.2.2.2.2.2.2.1 x.2.2.2.2.2.2.2.2.2.2.2)) hsshuntref01_Times_2 x := by kernel_rfl
theorem loshuntref01_Times_2 (k : Nat) : LIOk cf (call cf k) (kps 59) Tryz.f59.ntmps k 0 2 (lb Tryz.f59 1) (LIshuntref01_Times_2 k) :=
  loop_ok (c := cf) (callF := call cf k) (kp := kps 59) (nt := Tryz.f59.ntmps) (k := k) (p := 0) (b := 2) (x0 := lb Tryz.f59 1) (hs := hsshuntref01_Times_2) (os := osshuntref01_Times_2) (COt_ok (alshuntref01_Times k)) (anshuntref01_Times_2 k) (fun n x => Lshuntref01_Times_2 k n x.1 x.2.1 x.2.2.1 x.2.2.2.1 x.2.2.2.2.1 x.2.2.2.2.2.1 x.2.2.2.2.2.2.1 x.2.2.2.2.2.2.2.1 x.2.2.2.2.2.2.2.2.1 x.2.2.2.2.2.2.2.2.2.1 x.2.2.2.2.2.2.2.2.2.2.1 x.2.2.2.2.2.2.2.2.2.2.2) (fun _ => rfl) (stshuntref01_Times_2 k)
def hsshuntref01_Times_0 : List SS := [{ fr := [(2, .a (.ptr 0 0 0)), (3, .a (.ptr 1 0 0)), (4, .a (.ptr 2 0 0)), (5, .a (.smz 3)), (6, .a (.lf (.int .i64)))], mem := [(0, some (.raw [[.lf .bool, .lf (.sl (.int .i64))]] 2 58 true false)), (1, some (.raw [[.lf .bool, .lf (.sl (.int .i64))]] 2 58 true false)), (2, some (.raw [[.lf .bool, .smz 4]] 2 58 false false)), (3, some (.arr (.int .i64) 1 3 false)), (4, some (.arr (.int .i64) 1 3 false))], nx := 5 }]
def osshuntref01_Times_0 : List OS := [⟨some 0, { fr := [(2, .a (.ptr 0 0 0)), (3, .a (.ptr 1 0 0)), (4, .a (.ptr 2 0 0)), (5, .a (.smz 3))], mem := [(0, some (.raw [[.lf .bool, .lf (.sl (.int .i64))]] 2 58 true false)), (1, some (.raw [[.lf .bool, .lf (.sl (.int .i64))]] 2 58 true false)), (2, some (.raw [[.lf .bool, .smz 4]] 2 58 false false)), (3, some (.arr (.int .i64) 1 3 false)), (4, some (.arr (.int .i64) 1 3 false))], nx := 5 }⟩]
def LIshuntref01_Times_0 (k : Nat) : LInst := ⟨0, hsshuntref01_Times_0, osshuntref01_Times_0, fun x => Lshuntref01_Times_0 k k x.1 x.2.1 x.2.2.1 x.2.2.2.1 x.2.2.2.2.1 x.2.2.2.2.2.1 x.2.2.2.2.2.2.1 x.2.2.2.2.2.2.2.1 x.2.2.2.2.2.2.2.2.1 x.2.2.2.2.2.2.2.2.2⟩
theorem anshuntref01_Times_0 (k : Nat) : LAll (LOk (R := DS OS.D osshuntref01_Times_0) (fun b _ σ K => LOt Ty (kps 59) 0 b σ K [LIshuntref01_Times_2 k]) cf (call cf k) (kps 59) Tryz.f59.ntmps k 0) 0 (lb Tryz.f59 0) :=
  And.intro (And.intro (True.intro) (And.intro (True.intro) (True.intro))) (And.intro (And.intro (True.intro) (And.intro (And.intro (True.intro) (LOt_ok (c := cf) (callF := call cf k) (kp := kps 59) (nt := Tryz.f59.ntmps) (k := k) (p := 0) (b := 2) (x0 := lb Tryz.f59 1) (l := [LIshuntref01_Times_2 k]) (And.intro (fun _ => loshuntref01_Times_2 k) (True.intro)))) (True.intro))) (True.intro))
theorem stshuntref01_Times_0 (k n : Nat) (x : DS SS.D hsshuntref01_Times_0) : Lshuntref01_Times_0 k (n + 1) x.1 x.2.1 x.2.2.1 x.2.2.2.1 x.2.2.2.2.1 x.2.2.2.2.2.1 x.2.2.2.2.2.2.1 x.2.2.2.2.2.2.2.1 x.2.2.2.2.2.2.2.2.1 x.2.2.2.2.2.2.2.2.2 = encSK SS.enc (fun σ => run2 cf (fun f a b K => COt f a b K [Ishuntref01_trim_mfi k]) (fun b _ σ K => LOt Ty (kps 59) 0 b σ K [LIshuntref01_Times_2 k]) Tryz.f59.ntmps 0 (lb Tryz.f59 0) σ (nextK Ty (kps 59 0) 0 hsshuntref01_Times_0 osshuntref01_Times_0 fun x => Lshuntref01_Times_0 k n x.1 x.2.1 x.2.2.1 x.2.2.2.1 x.2.2.2.2.1 x.2.2.2.2.2.1 x.2.2.2.2.2.2.1 x.2.2.2.2.2.2.2.1 x.2.2.2.2.2.2.2.2.1 x.2.2.2.2.2.2.2.2.2)) hsshuntref01_Times_0 x := by kernel_rfl
theorem loshuntref01_Times_0 (k : Nat) : LIOk cf (call cf k) (kps 59) Tryz.f59.ntmps k 0 0 (lb Tryz.f59 0) (LIshuntref01_Times_0 k) :=
  loop_ok (c := cf) (callF := call cf k) (kp := kps 59) (nt := Tryz.f59.ntmps) (k := k) (p := 0) (b := 0) (x0 := lb Tryz.f59 0) (hs := hsshuntref01_Times_0) (os := osshuntref01_Times_0) (COt_ok (alshuntref01_Times k)) (anshuntref01_Times_0 k) (fun n x => Lshuntref01_Times_0 k n x.1 x.2.1 x.2.2.1 x.2.2.2.1 x.2.2.2.2.1 x.2.2.2.2.2.1 x.2.2.2.2.2.2.1 x.2.2.2.2.2.2.2.1 x.2.2.2.2.2.2.2.2.1 x.2.2.2.2.2.2.2.2.2) (fun _ => rfl) (stshuntref01_Times_0 k)
theorem anshuntref01_Times (k : Nat) : LAll (LOk (R := DS FS.D rsshuntref01_Times) (fun b _ σ K => LOt Ty (kps 59) 0 b σ K [LIshuntref01_Times_2 k, LIshuntref01_Times_0 k]) cf (call cf k) (cf.keep 59) Tryz.f59.ntmps k shshuntref01_Times.bs.length) 0 (bd Tryz.f59) :=
  And.intro (True.intro) (And.intro (True.intro) (And.intro (And.intro (True.intro) (LOt_ok (c := cf) (callF := call cf k) (kp := kps 59) (nt := Tryz.f59.ntmps) (k := k) (p := 0) (b := 0) (x0 := lb Tryz.f59 0) (l := [LIshuntref01_Times_2 k, LIshuntref01_Times_0 k]) (And.intro (fun h => absurd (show (2 : Nat) = 0 from h) (by decide)) (And.intro (fun _ => loshuntref01_Times_0 k) (True.intro))))) (And.intro (True.intro) (And.intro (True.intro) (True.intro)))))
theorem stshuntref01_Times (k : Nat) (x : shshuntref01_Times.D) : Fshuntref01_Times (k + 1) x.1 x.2.1 x.2.2.1 x.2.2.2 = body2 cf (fun f a b K => COt f a b K [Ishuntref01_trim_mfi k]) (fun b _ σ K => LOt Ty (kps 59) 0 b σ K [LIshuntref01_Times_2 k, LIshuntref01_Times_0 k]) 59 Tryz.f59.ntmps Tryz.f59.results.toList (bd Tryz.f59) (shshuntref01_Times.enc x).1 (shshuntref01_Times.enc x).2 (putS FS.dec rsshuntref01_Times) := by kernel_rfl
theorem okshuntref01_Times : ∀ k, InstOk (call cf k) (Ishuntref01_Times k)
  | 0 => fun x y e => absurd (show (none : Option _) = some y from e) (by simp)
  | k + 1 => inst_ok (c := cf) (k := k) (f := 59) (fn := Tryz.f59) (body := bd Tryz.f59) (sh := shshuntref01_Times) (os := rsshuntref01_Times) rfl Tryz.func59 rfl ⟨rfl, Nat.le_of_ble_eq_true rfl⟩ (COt_ok (alshuntref01_Times k)) (anshuntref01_Times k) (fun x => Fshuntref01_Times (k + 1) x.1 x.2.1 x.2.2.1 x.2.2.2) (stshuntref01_Times k)

/-! shunt/shuntref01.digit -/
def Lshuntref01_digit_0s (k : Nat) (rec : List Int → List Int → Int → Int → Option (Int)) (r : List Int) (b : List Int) (low : Int) (high : Int) : Option (Int) :=
  if ((decide (low < high)) = true) then
    Option.bind (Fshuntref01_Small k (IntKind.wrap .i64 (Int.tdiv (IntKind.wrap .i64 ((IntKind.wrap .i64 (low + high)) + (1 : Int))) (2 : Int)))) fun r17 =>
    Option.bind (Fshuntref01_Times k false b r17.1 r17.2) fun r18 =>
    Option.bind (Fshuntref01_mags k r18.2 r) fun r19 =>
    if ((decide (r19 ≤ (0 : Int))) = true) then
      rec r b (IntKind.wrap .i64 (Int.tdiv (IntKind.wrap .i64 ((IntKind.wrap .i64 (low + high)) + (1 : Int))) (2 : Int))) high
    else
    rec r b low (IntKind.wrap .i64 ((IntKind.wrap .i64 (Int.tdiv (IntKind.wrap .i64 ((IntKind.wrap .i64 (low + high)) + (1 : Int))) (2 : Int))) - (1 : Int)))
  else
  (some low)
def Lshuntref01_digit_0 (k n : Nat) : List Int → List Int → Int → Int → Option (Int) := Nat.rec (fun _ _ _ _ => none) (fun _ r => Lshuntref01_digit_0s k r) n
def bshuntref01_digit (k : Nat) (r : List Int) (b : List Int) : Option (Int) :=
  Option.bind (Fshuntref01_mags k r b) fun r16 =>
  if ((decide (r16 < (0 : Int))) = true) then
    (some (0 : Int))
  else
  Option.bind (Lshuntref01_digit_0 k k r b (0 : Int) (65535 : Int)) fun r17 =>
  (some r17)
def Fshuntref01_digit : Nat → List Int → List Int → Option (Int)
  | 0, _, _ => none
  | k + 1, r, b => bshuntref01_digit k r b
def shshuntref01_digit : FS := { vs := [.a (.lf (.sl (.int .i64))), .a (.lf (.sl (.int .i64)))], bs := [] }
def rsshuntref01_digit : List FS := [{ vs := [.a (.lf (.int .i64))], bs := [] }]
def Ishuntref01_digit (k : Nat) : Inst := ⟨98, shshuntref01_digit, rsshuntref01_digit, fun x => Fshuntref01_digit k x.1 x.2⟩
theorem alshuntref01_digit (k : Nat) : AllI (call cf k) [Ishuntref01_mags k, Ishuntref01_Small k, Ishuntref01_Times k] := And.intro (okshuntref01_mags k) (And.intro (okshuntref01_Small k) (And.intro (okshuntref01_Times k) (True.intro)))
def hsshuntref01_digit_0 : List SS := [{ fr := [(0, .a (.lf (.sl (.int .i64)))), (1, .a (.lf (.sl (.int .i64)))), (5, .a (.lf (.int .i64))), (6, .a (.lf (.int .i64)))], mem := [], nx := 0 }]
def osshuntref01_digit_0 : List OS := [⟨some 0, { fr := [(5, .a (.lf (.int .i64)))], mem := [], nx := 0 }⟩]
def LIshuntref01_digit_0 (k : Nat) : LInst := ⟨0, hsshuntref01_digit_0, osshuntref01_digit_0, fun x => Lshuntref01_digit_0 k k x.1 x.2.1 x.2.2.1 x.2.2.2⟩
theorem anshuntref01_digit_0 (k : Nat) : LAll (LOk (R := DS OS.D osshuntref01_digit_0) (fun b _ σ K => LOt Ty (kps 98) 0 b σ K []) cf (call cf k) (kps 98) Tryz.f98.ntmps k 0) 0 (lb Tryz.f98 0) :=
  And.intro (And.intro (True.intro) (And.intro (True.intro) (True.intro))) (And.intro (True.intro) (And.intro (True.intro) (And.intro (True.intro) (True.intro))))
theorem stshuntref01_digit_0 (k n : Nat) (x : DS SS.D hsshuntref01_digit_0) : Lshuntref01_digit_0 k (n + 1) x.1 x.2.1 x.2.2.1 x.2.2.2 = encSK SS.enc (fun σ => run2 cf (fun f a b K => COt f a b K [Ishuntref01_mags k, Ishuntref01_Small k, Ishuntref01_Times k]) (fun b _ σ K => LOt Ty (kps 98) 0 b σ K []) Tryz.f98.ntmps 0 (lb Tryz.f98 0) σ (nextK Ty (kps 98 0) 0 hsshuntref01_digit_0 osshuntref01_digit_0 fun x => Lshuntref01_digit_0 k n x.1 x.2.1 x.2.2.1 x.2.2.2)) hsshuntref01_digit_0 x := by kernel_rfl
theorem loshuntref01_digit_0 (k : Nat) : LIOk cf (call cf k) (kps 98) Tryz.f98.ntmps k 0 0 (lb Tryz.f98 0) (LIshuntref01_digit_0 k) :=
  loop_ok (c := cf) (callF := call cf k) (kp := kps 98) (nt := Tryz.f98.ntmps) (k := k) (p := 0) (b := 0) (x0 := lb Tryz.f98 0) (hs := hsshuntref01_digit_0) (os := osshuntref01_digit_0) (COt_ok (alshuntref01_digit k)) (anshuntref01_digit_0 k) (fun n x => Lshuntref01_digit_0 k n x.1 x.2.1 x.2.2.1 x.2.2.2) (fun _ => rfl) (stshuntref01_digit_0 k)
theorem anshuntref01_digit (k : Nat) : LAll (LOk (R := DS FS.D rsshuntref01_digit) (fun b _ σ K => LOt Ty (kps 98) 0 b σ K [LIshuntref01_digit_0 k]) cf (call cf k) (cf.keep 98) Tryz.f98.ntmps k shshuntref01_digit.bs.length) 0 (bd Tryz.f98) :=
  And.intro (True.intro) (And.intro (True.intro) (And.intro (And.intro (True.intro) (And.intro (And.intro (True.intro) (True.intro)) (True.intro))) (And.intro (LOt_ok (c := cf) (callF := call cf k) (kp := kps 98) (nt := Tryz.f98.ntmps) (k := k) (p := 0) (b := 0) (x0 := lb Tryz.f98 0) (l := [LIshuntref01_digit_0 k]) (And.intro (fun _ => loshuntref01_digit_0 k) (True.intro))) (And.intro (True.intro) (True.intro)))))
theorem stshuntref01_digit (k : Nat) (x : shshuntref01_digit.D) : Fshuntref01_digit (k + 1) x.1 x.2 = body2 cf (fun f a b K => COt f a b K [Ishuntref01_mags k, Ishuntref01_Small k, Ishuntref01_Times k]) (fun b _ σ K => LOt Ty (kps 98) 0 b σ K [LIshuntref01_digit_0 k]) 98 Tryz.f98.ntmps Tryz.f98.results.toList (bd Tryz.f98) (shshuntref01_digit.enc x).1 (shshuntref01_digit.enc x).2 (putS FS.dec rsshuntref01_digit) := by kernel_rfl
theorem okshuntref01_digit : ∀ k, InstOk (call cf k) (Ishuntref01_digit k)
  | 0 => fun x y e => absurd (show (none : Option _) = some y from e) (by simp)
  | k + 1 => inst_ok (c := cf) (k := k) (f := 98) (fn := Tryz.f98) (body := bd Tryz.f98) (sh := shshuntref01_digit) (os := rsshuntref01_digit) rfl Tryz.func98 rfl ⟨rfl, Nat.le_of_ble_eq_true rfl⟩ (COt_ok (alshuntref01_digit k)) (anshuntref01_digit k) (fun x => Fshuntref01_digit (k + 1) x.1 x.2) (stshuntref01_digit k)

/-! shunt/shuntref01.minus -/
def Lshuntref01_minus_0s (k : Nat) (rec : List Int → List Int → Nat → Int → Int → List Int → Option (Nat × List Int)) (a : List Int) (b : List Int) (d : Nat) (borrow : Int) (i : Int) (ds : List Int) : Option (Nat × List Int) :=
  if ((decide (i < (((List.length a) : Nat) : Int))) = true) then
    if ((0 : Int) ≤ i) then
      Option.bind (a)[(Int.toNat i)]? fun x3 =>
      if ((decide (i < (((List.length b) : Nat) : Int))) = true) then
        if ((0 : Int) ≤ i) then
          Option.bind (b)[(Int.toNat i)]? fun x4 =>
          if ((decide ((IntKind.wrap .i64 ((IntKind.wrap .i64 (x3 - borrow)) - x4)) < (0 : Int))) = true) then
            if (d ≤ (List.length ds)) then
              if (((d + (List.length (List.take 1 ((IntKind.wrap .i64 ((IntKind.wrap .i64 ((IntKind.wrap .i64 (x3 - borrow)) - x4)) + (65536 : Int))) :: [])))) * 8) ≤ 140737488355328) then
                rec a b (d + (List.length (List.take 1 ((IntKind.wrap .i64 ((IntKind.wrap .i64 ((IntKind.wrap .i64 (x3 - borrow)) - x4)) + (65536 : Int))) :: [])))) (1 : Int) (IntKind.wrap .i64 (i + (1 : Int))) ((List.take d ds) ++ (List.take 1 ((IntKind.wrap .i64 ((IntKind.wrap .i64 ((IntKind.wrap .i64 (x3 - borrow)) - x4)) + (65536 : Int))) :: [])))
              else
              none
            else
            none
          else
          if (d ≤ (List.length ds)) then
            if (((d + (List.length (List.take 1 ((IntKind.wrap .i64 ((IntKind.wrap .i64 (x3 - borrow)) - x4)) :: [])))) * 8) ≤ 140737488355328) then
              rec a b (d + (List.length (List.take 1 ((IntKind.wrap .i64 ((IntKind.wrap .i64 (x3 - borrow)) - x4)) :: [])))) (0 : Int) (IntKind.wrap .i64 (i + (1 : Int))) ((List.take d ds) ++ (List.take 1 ((IntKind.wrap .i64 ((IntKind.wrap .i64 (x3 - borrow)) - x4)) :: [])))
            else
            none
          else
          none
        else
        none
      else
      if ((decide ((IntKind.wrap .i64 (x3 - borrow)) < (0 : Int))) = true) then
        if (d ≤ (List.length ds)) then
          if (((d + (List.length (List.take 1 ((IntKind.wrap .i64 ((IntKind.wrap .i64 (x3 - borrow)) + (65536 : Int))) :: [])))) * 8) ≤ 140737488355328) then
            rec a b (d + (List.length (List.take 1 ((IntKind.wrap .i64 ((IntKind.wrap .i64 (x3 - borrow)) + (65536 : Int))) :: [])))) (1 : Int) (IntKind.wrap .i64 (i + (1 : Int))) ((List.take d ds) ++ (List.take 1 ((IntKind.wrap .i64 ((IntKind.wrap .i64 (x3 - borrow)) + (65536 : Int))) :: [])))
          else
          none
        else
        none
      else
      if (d ≤ (List.length ds)) then
        if (((d + (List.length (List.take 1 ((IntKind.wrap .i64 (x3 - borrow)) :: [])))) * 8) ≤ 140737488355328) then
          rec a b (d + (List.length (List.take 1 ((IntKind.wrap .i64 (x3 - borrow)) :: [])))) (0 : Int) (IntKind.wrap .i64 (i + (1 : Int))) ((List.take d ds) ++ (List.take 1 ((IntKind.wrap .i64 (x3 - borrow)) :: [])))
        else
        none
      else
      none
    else
    none
  else
  (some (d, ds))
def Lshuntref01_minus_0 (k n : Nat) : List Int → List Int → Nat → Int → Int → List Int → Option (Nat × List Int) := Nat.rec (fun _ _ _ _ _ _ => none) (fun _ r => Lshuntref01_minus_0s k r) n
def bshuntref01_minus (k : Nat) (a : List Int) (b : List Int) : Option (List Int) :=
  Option.bind (Lshuntref01_minus_0 k k a b 0 (0 : Int) (0 : Int) []) fun r19 =>
  Option.bind (Fshuntref01_trim_mfi k r19.1 r19.2) fun r20 =>
  if ((0 + r20.1) ≤ (List.length r20.2)) then
    (some (List.take r20.1 r20.2))
  else
  none
def Fshuntref01_minus : Nat → List Int → List Int → Option (List Int)
  | 0, _, _ => none
  | k + 1, a, b => bshuntref01_minus k a b
def shshuntref01_minus : FS := { vs := [.a (.lf (.sl (.int .i64))), .a (.lf (.sl (.int .i64)))], bs := [] }
def rsshuntref01_minus : List FS := [{ vs := [.a (.lf (.sl (.int .i64)))], bs := [] }]
def Ishuntref01_minus (k : Nat) : Inst := ⟨90, shshuntref01_minus, rsshuntref01_minus, fun x => Fshuntref01_minus k x.1 x.2⟩
theorem alshuntref01_minus (k : Nat) : AllI (call cf k) [Ishuntref01_trim_mfi k] := And.intro (okshuntref01_trim_mfi k) (True.intro)
def hsshuntref01_minus_0 : List SS := [{ fr := [(0, .a (.lf (.sl (.int .i64)))), (1, .a (.lf (.sl (.int .i64)))), (5, .a (.smz 0)), (6, .a (.lf (.int .i64))), (7, .a (.lf (.int .i64)))], mem := [(0, some (.arr (.int .i64) 1 3 false))], nx := 1 }]
def osshuntref01_minus_0 : List OS := [⟨some 0, { fr := [(5, .a (.smz 0))], mem := [(0, some (.arr (.int .i64) 1 3 false))], nx := 1 }⟩]
def LIshuntref01_minus_0 (k : Nat) : LInst := ⟨0, hsshuntref01_minus_0, osshuntref01_minus_0, fun x => Lshuntref01_minus_0 k k x.1 x.2.1 x.2.2.1 x.2.2.2.1 x.2.2.2.2.1 x.2.2.2.2.2⟩
theorem anshuntref01_minus_0 (k : Nat) : LAll (LOk (R := DS OS.D osshuntref01_minus_0) (fun b _ σ K => LOt Ty (kps 90) 0 b σ K []) cf (call cf k) (kps 90) Tryz.f90.ntmps k 0) 0 (lb Tryz.f90 0) :=
  And.intro (And.intro (True.intro) (And.intro (True.intro) (True.intro))) (And.intro (And.intro (True.intro) (And.intro (And.intro (True.intro) (And.intro (True.intro) (True.intro))) (And.intro (True.intro) (And.intro (And.intro (True.intro) (And.intro (And.intro (True.intro) (True.intro)) (True.intro))) (True.intro))))) (True.intro))
theorem stshuntref01_minus_0 (k n : Nat) (x : DS SS.D hsshuntref01_minus_0) : Lshuntref01_minus_0 k (n + 1) x.1 x.2.1 x.2.2.1 x.2.2.2.1 x.2.2.2.2.1 x.2.2.2.2.2 = encSK SS.enc (fun σ => run2 cf (fun f a b K => COt f a b K [Ishuntref01_trim_mfi k]) (fun b _ σ K => LOt Ty (kps 90) 0 b σ K []) Tryz.f90.ntmps 0 (lb Tryz.f90 0) σ (nextK Ty (kps 90 0) 0 hsshuntref01_minus_0 osshuntref01_minus_0 fun x => Lshuntref01_minus_0 k n x.1 x.2.1 x.2.2.1 x.2.2.2.1 x.2.2.2.2.1 x.2.2.2.2.2)) hsshuntref01_minus_0 x := by kernel_rfl
theorem loshuntref01_minus_0 (k : Nat) : LIOk cf (call cf k) (kps 90) Tryz.f90.ntmps k 0 0 (lb Tryz.f90 0) (LIshuntref01_minus_0 k) :=
  loop_ok (c := cf) (callF := call cf k) (kp := kps 90) (nt := Tryz.f90.ntmps) (k := k) (p := 0) (b := 0) (x0 := lb Tryz.f90 0) (hs := hsshuntref01_minus_0) (os := osshuntref01_minus_0) (COt_ok (alshuntref01_minus k)) (anshuntref01_minus_0 k) (fun n x => Lshuntref01_minus_0 k n x.1 x.2.1 x.2.2.1 x.2.2.2.1 x.2.2.2.2.1 x.2.2.2.2.2) (fun _ => rfl) (stshuntref01_minus_0 k)
theorem anshuntref01_minus (k : Nat) : LAll (LOk (R := DS FS.D rsshuntref01_minus) (fun b _ σ K => LOt Ty (kps 90) 0 b σ K [LIshuntref01_minus_0 k]) cf (call cf k) (cf.keep 90) Tryz.f90.ntmps k shshuntref01_minus.bs.length) 0 (bd Tryz.f90) :=
  And.intro (True.intro) (And.intro (True.intro) (And.intro (True.intro) (And.intro (And.intro (True.intro) (LOt_ok (c := cf) (callF := call cf k) (kp := kps 90) (nt := Tryz.f90.ntmps) (k := k) (p := 0) (b := 0) (x0 := lb Tryz.f90 0) (l := [LIshuntref01_minus_0 k]) (And.intro (fun _ => loshuntref01_minus_0 k) (True.intro)))) (And.intro (True.intro) (True.intro)))))
theorem stshuntref01_minus (k : Nat) (x : shshuntref01_minus.D) : Fshuntref01_minus (k + 1) x.1 x.2 = body2 cf (fun f a b K => COt f a b K [Ishuntref01_trim_mfi k]) (fun b _ σ K => LOt Ty (kps 90) 0 b σ K [LIshuntref01_minus_0 k]) 90 Tryz.f90.ntmps Tryz.f90.results.toList (bd Tryz.f90) (shshuntref01_minus.enc x).1 (shshuntref01_minus.enc x).2 (putS FS.dec rsshuntref01_minus) := by kernel_rfl
theorem okshuntref01_minus : ∀ k, InstOk (call cf k) (Ishuntref01_minus k)
  | 0 => fun x y e => absurd (show (none : Option _) = some y from e) (by simp)
  | k + 1 => inst_ok (c := cf) (k := k) (f := 90) (fn := Tryz.f90) (body := bd Tryz.f90) (sh := shshuntref01_minus) (os := rsshuntref01_minus) rfl Tryz.func90 rfl ⟨rfl, Nat.le_of_ble_eq_true rfl⟩ (COt_ok (alshuntref01_minus k)) (anshuntref01_minus k) (fun x => Fshuntref01_minus (k + 1) x.1 x.2) (stshuntref01_minus k)

/-! shunt/shuntref01.Divide -/
def Lshuntref01_Divide_0s (k : Nat) (rec : ((Nat × Nat × Int × Bool × List Int × Bool × List Int × Bool × Nat × Bool × Nat × List Int × List Int × List Int × List Int) ⊕ (Nat × List Int × Int × Bool × List Int × Bool × List Int × Bool × Nat × Bool × Nat × List Int × List Int × List Int)) → Option ((Nat × Nat × Bool × List Int × Bool × List Int × Bool × Nat × Bool × Nat × List Int × List Int × List Int × List Int) ⊕ (Nat × List Int × Bool × List Int × Bool × List Int × Bool × Nat × Bool × Nat × List Int × List Int × List Int))) (x : (Nat × Nat × Int × Bool × List Int × Bool × List Int × Bool × Nat × Bool × Nat × List Int × List Int × List Int × List Int) ⊕ (Nat × List Int × Int × Bool × List Int × Bool × List Int × Bool × Nat × Bool × Nat × List Int × List Int × List Int)) : Option ((Nat × Nat × Bool × List Int × Bool × List Int × Bool × Nat × Bool × Nat × List Int × List Int × List Int × List Int) ⊕ (Nat × List Int × Bool × List Int × Bool × List Int × Bool × Nat × Bool × Nat × List Int × List Int × List Int)) :=
  eitherK x
  (fun x =>
  if ((decide (x.2.2.1 ≥ (0 : Int))) = true) then
    if ((0 : Int) ≤ x.2.2.1) then
      Option.bind (x.2.2.2.2.1)[(Int.toNat x.2.2.1)]? fun x2 =>
      if ((0 + x.2.1) ≤ (List.length x.2.2.2.2.2.2.2.2.2.2.2.2.1)) then
        if (((1 + (List.length (List.take x.2.1 x.2.2.2.2.2.2.2.2.2.2.2.2.1))) * 8) ≤ 140737488355328) then
          Option.bind (Fshuntref01_trim_mfi k (1 + (List.length (List.take x.2.1 x.2.2.2.2.2.2.2.2.2.2.2.2.1))) ((List.take 1 (x2 :: [])) ++ (List.take x.2.1 x.2.2.2.2.2.2.2.2.2.2.2.2.1))) fun r15 =>
          if ((0 + r15.1) ≤ (List.length r15.2)) then
            Option.bind (Fshuntref01_digit k (List.take r15.1 r15.2) x.2.2.2.2.2.2.1) fun r16 =>
            if ((decide (r16 > (0 : Int))) = true) then
              Option.bind (Fshuntref01_Small k r16) fun r17 =>
              Option.bind (Fshuntref01_Times k false x.2.2.2.2.2.2.1 r17.1 r17.2) fun r18 =>
              if ((0 + r15.1) ≤ (List.length r15.2)) then
                Option.bind (Fshuntref01_minus k (List.take r15.1 r15.2) r18.2) fun r19 =>
                if (((0 : Int) ≤ x.2.2.1) ∧ (x.2.2.1 < ((x.1 : Nat) : Int))) then
                  Option.bind (x.2.2.2.2.2.2.2.2.2.2.2.1)[(0 + (Int.toNat x.2.2.1))]? fun x3 =>
                  rec (Sum.inr (x.1, r19, (IntKind.wrap .i64 (x.2.2.1 - (1 : Int))), x.2.2.2.1, x.2.2.2.2.1, x.2.2.2.2.2.1, x.2.2.2.2.2.2.1, x.2.2.2.2.2.2.2.1, x.2.2.2.2.2.2.2.2.1, x.2.2.2.2.2.2.2.2.2.1, x.2.2.2.2.2.2.2.2.2.2.1, (List.set x.2.2.2.2.2.2.2.2.2.2.2.1 (0 + (Int.toNat x.2.2.1)) r16), x.2.2.2.2.2.2.2.2.2.2.2.2.2.1, x.2.2.2.2.2.2.2.2.2.2.2.2.2.2))
                else
                none
              else
              none
            else
            if (((0 : Int) ≤ x.2.2.1) ∧ (x.2.2.1 < ((x.1 : Nat) : Int))) then
              Option.bind (x.2.2.2.2.2.2.2.2.2.2.2.1)[(0 + (Int.toNat x.2.2.1))]? fun x3 =>
              rec (Sum.inl (x.1, r15.1, (IntKind.wrap .i64 (x.2.2.1 - (1 : Int))), x.2.2.2.1, x.2.2.2.2.1, x.2.2.2.2.2.1, x.2.2.2.2.2.2.1, x.2.2.2.2.2.2.2.1, x.2.2.2.2.2.2.2.2.1, x.2.2.2.2.2.2.2.2.2.1, x.2.2.2.2.2.2.2.2.2.2.1, (List.set x.2.2.2.2.2.2.2.2.2.2.2.1 (0 + (Int.toNat x.2.2.1)) r16), r15.2, x.2.2.2.2.2.2.2.2.2.2.2.2.2.1, x.2.2.2.2.2.2.2.2.2.2.2.2.2.2))
            else
            none
          else
          none
        else
        none
      else
      none
    else
    none
  else
  (some (Sum.inl (x.1, x.2.1, x.2.2.2.1, x.2.2.2.2.1, x.2.2.2.2.2.1, x.2.2.2.2.2.2.1, x.2.2.2.2.2.2.2.1, x.2.2.2.2.2.2.2.2.1, x.2.2.2.2.2.2.2.2.2.1, x.2.2.2.2.2.2.2.2.2.2.1, x.2.2.2.2.2.2.2.2.2.2.2.1, x.2.2.2.2.2.2.2.2.2.2.2.2.1, x.2.2.2.2.2.2.2.2.2.2.2.2.2.1, x.2.2.2.2.2.2.2.2.2.2.2.2.2.2))))
  (fun x =>
  if ((decide (x.2.2.1 ≥ (0 : Int))) = true) then
    if ((0 : Int) ≤ x.2.2.1) then
      Option.bind (x.2.2.2.2.1)[(Int.toNat x.2.2.1)]? fun x2 =>
      if (((1 + (List.length x.2.1)) * 8) ≤ 140737488355328) then
        Option.bind (Fshuntref01_trim_mfi k (1 + (List.length x.2.1)) ((List.take 1 (x2 :: [])) ++ x.2.1)) fun r15 =>
        if ((0 + r15.1) ≤ (List.length r15.2)) then
          Option.bind (Fshuntref01_digit k (List.take r15.1 r15.2) x.2.2.2.2.2.2.1) fun r16 =>
          if ((decide (r16 > (0 : Int))) = true) then
            Option.bind (Fshuntref01_Small k r16) fun r17 =>
            Option.bind (Fshuntref01_Times k false x.2.2.2.2.2.2.1 r17.1 r17.2) fun r18 =>
            if ((0 + r15.1) ≤ (List.length r15.2)) then
              Option.bind (Fshuntref01_minus k (List.take r15.1 r15.2) r18.2) fun r19 =>
              if (((0 : Int) ≤ x.2.2.1) ∧ (x.2.2.1 < ((x.1 : Nat) : Int))) then
                Option.bind (x.2.2.2.2.2.2.2.2.2.2.2.1)[(0 + (Int.toNat x.2.2.1))]? fun x3 =>
                rec (Sum.inr (x.1, r19, (IntKind.wrap .i64 (x.2.2.1 - (1 : Int))), x.2.2.2.1, x.2.2.2.2.1, x.2.2.2.2.2.1, x.2.2.2.2.2.2.1, x.2.2.2.2.2.2.2.1, x.2.2.2.2.2.2.2.2.1, x.2.2.2.2.2.2.2.2.2.1, x.2.2.2.2.2.2.2.2.2.2.1, (List.set x.2.2.2.2.2.2.2.2.2.2.2.1 (0 + (Int.toNat x.2.2.1)) r16), x.2.2.2.2.2.2.2.2.2.2.2.2.1, x.2.2.2.2.2.2.2.2.2.2.2.2.2))
              else
              none
            else
            none
          else
          if (((0 : Int) ≤ x.2.2.1) ∧ (x.2.2.1 < ((x.1 : Nat) : Int))) then
            Option.bind (x.2.2.2.2.2.2.2.2.2.2.2.1)[(0 + (Int.toNat x.2.2.1))]? fun x3 =>
            rec (Sum.inl (x.1, r15.1, (IntKind.wrap .i64 (x.2.2.1 - (1 : Int))), x.2.2.2.1, x.2.2.2.2.1, x.2.2.2.2.2.1, x.2.2.2.2.2.2.1, x.2.2.2.2.2.2.2.1, x.2.2.2.2.2.2.2.2.1, x.2.2.2.2.2.2.2.2.2.1, x.2.2.2.2.2.2.2.2.2.2.1, (List.set x.2.2.2.2.2.2.2.2.2.2.2.1 (0 + (Int.toNat x.2.2.1)) r16), r15.2, x.2.2.2.2.2.2.2.2.2.2.2.2.1, x.2.2.2.2.2.2.2.2.2.2.2.2.2))
          else
          none
        else
        none
      else
      none
    else
    none
  else
  (some (Sum.inr (x.1, x.2.1, x.2.2.2.1, x.2.2.2.2.1, x.2.2.2.2.2.1, x.2.2.2.2.2.2.1, x.2.2.2.2.2.2.2.1, x.2.2.2.2.2.2.2.2.1, x.2.2.2.2.2.2.2.2.2.1, x.2.2.2.2.2.2.2.2.2.2.1, x.2.2.2.2.2.2.2.2.2.2.2.1, x.2.2.2.2.2.2.2.2.2.2.2.2.1, x.2.2.2.2.2.2.2.2.2.2.2.2.2))))
def Lshuntref01_Divide_0 (k n : Nat) : ((Nat × Nat × Int × Bool × List Int × Bool × List Int × Bool × Nat × Bool × Nat × List Int × List Int × List Int × List Int) ⊕ (Nat × List Int × Int × Bool × List Int × Bool × List Int × Bool × Nat × Bool × Nat × List Int × List Int × List Int)) → Option ((Nat × Nat × Bool × List Int × Bool × List Int × Bool × Nat × Bool × Nat × List Int × List Int × List Int × List Int) ⊕ (Nat × List Int × Bool × List Int × Bool × List Int × Bool × Nat × Bool × Nat × List Int × List Int × List Int)) := Nat.rec (fun _ => none) (fun _ r => Lshuntref01_Divide_0s k r) n
def bshuntref01_Divide (k : Nat) (a0 : Bool) (a1 : List Int) (b0 : Bool) (b1 : List Int) : Option (Bool × List Int × Bool × List Int) :=
  if (((0 : Int) ≤ (((List.length a1) : Nat) : Int)) ∧ (((((List.length a1) : Nat) : Int) ≤ (((List.length a1) : Nat) : Int)) ∧ (((((List.length a1) : Nat) : Int) * (8 : Int)) ≤ (140737488355328 : Int)))) then
    Option.bind (Lshuntref01_Divide_0 k k (Sum.inl ((Int.toNat (((List.length a1) : Nat) : Int)), 0, (IntKind.wrap .i64 ((((List.length a1) : Nat) : Int) - (1 : Int))), a0, a1, b0, b1, false, 0, false, 0, (List.replicate (Int.toNat (((List.length a1) : Nat) : Int)) (0 : Int)), [], [], []))) fun r15 =>
    eitherK r15
      (fun r15 =>
      Option.bind (Fshuntref01_trim_mfi k r15.1 r15.2.2.2.2.2.2.2.2.2.2.1) fun r16 =>
      if ((!(r15.2.2.1 == r15.2.2.2.2.1)) = true) then
        if (r15.2.2.1 = true) then
          if ((0 + r16.1) ≤ (List.length r16.2)) then
            if ((0 + r15.2.1) ≤ (List.length r15.2.2.2.2.2.2.2.2.2.2.2.1)) then
              (some ((decide (((r16.1 : Nat) : Int) > (0 : Int))), (List.take r16.1 r16.2), (decide (((r15.2.1 : Nat) : Int) > (0 : Int))), (List.take r15.2.1 r15.2.2.2.2.2.2.2.2.2.2.2.1)))
            else
            none
          else
          none
        else
        if ((0 + r16.1) ≤ (List.length r16.2)) then
          if ((0 + r15.2.1) ≤ (List.length r15.2.2.2.2.2.2.2.2.2.2.2.1)) then
            (some ((decide (((r16.1 : Nat) : Int) > (0 : Int))), (List.take r16.1 r16.2), false, (List.take r15.2.1 r15.2.2.2.2.2.2.2.2.2.2.2.1)))
          else
          none
        else
        none
      else
      if (r15.2.2.1 = true) then
        if ((0 + r16.1) ≤ (List.length r16.2)) then
          if ((0 + r15.2.1) ≤ (List.length r15.2.2.2.2.2.2.2.2.2.2.2.1)) then
            (some (false, (List.take r16.1 r16.2), (decide (((r15.2.1 : Nat) : Int) > (0 : Int))), (List.take r15.2.1 r15.2.2.2.2.2.2.2.2.2.2.2.1)))
          else
          none
        else
        none
      else
      if ((0 + r16.1) ≤ (List.length r16.2)) then
        if ((0 + r15.2.1) ≤ (List.length r15.2.2.2.2.2.2.2.2.2.2.2.1)) then
          (some (false, (List.take r16.1 r16.2), false, (List.take r15.2.1 r15.2.2.2.2.2.2.2.2.2.2.2.1)))
        else
        none
      else
      none)
      (fun r15 =>
      Option.bind (Fshuntref01_trim_mfi k r15.1 r15.2.2.2.2.2.2.2.2.2.2.1) fun r16 =>
      if ((!(r15.2.2.1 == r15.2.2.2.2.1)) = true) then
        if (r15.2.2.1 = true) then
          if ((0 + r16.1) ≤ (List.length r16.2)) then
            (some ((decide (((r16.1 : Nat) : Int) > (0 : Int))), (List.take r16.1 r16.2), (decide ((((List.length r15.2.1) : Nat) : Int) > (0 : Int))), r15.2.1))
          else
          none
        else
        if ((0 + r16.1) ≤ (List.length r16.2)) then
          (some ((decide (((r16.1 : Nat) : Int) > (0 : Int))), (List.take r16.1 r16.2), false, r15.2.1))
        else
        none
      else
      if (r15.2.2.1 = true) then
        if ((0 + r16.1) ≤ (List.length r16.2)) then
          (some (false, (List.take r16.1 r16.2), (decide ((((List.length r15.2.1) : Nat) : Int) > (0 : Int))), r15.2.1))
        else
        none
      else
      if ((0 + r16.1) ≤ (List.length r16.2)) then
        (some (false, (List.take r16.1 r16.2), false, r15.2.1))
      else
      none)
  else
  none
def Fshuntref01_Divide : Nat → Bool → List Int → Bool → List Int → Option (Bool × List Int × Bool × List Int)
  | 0, _, _, _, _ => none
  | k + 1, a0, a1, b0, b1 => bshuntref01_Divide k a0 a1 b0 b1
def shshuntref01_Divide : FS := { vs := [.g [.lf .bool, .lf (.sl (.int .i64))], .g [.lf .bool, .lf (.sl (.int .i64))]], bs := [] }
def rsshuntref01_Divide : List FS := [{ vs := [.g [.lf .bool, .lf (.sl (.int .i64))], .g [.lf .bool, .lf (.sl (.int .i64))]], bs := [] }]
def Ishuntref01_Divide (k : Nat) : Inst := ⟨87, shshuntref01_Divide, rsshuntref01_Divide, fun x => Fshuntref01_Divide k x.1 x.2.1 x.2.2.1 x.2.2.2⟩
theorem alshuntref01_Divide (k : Nat) : AllI (call cf k) [Ishuntref01_trim_mfi k, Ishuntref01_digit k, Ishuntref01_Small k, Ishuntref01_Times k, Ishuntref01_minus k] := And.intro (okshuntref01_trim_mfi k) (And.intro (okshuntref01_digit k) (And.intro (okshuntref01_Small k) (And.intro (okshuntref01_Times k) (And.intro (okshuntref01_minus k) (True.intro)))))
def hsshuntref01_Divide_0 : List SS := [{ fr := [(2, .a (.ptr 0 0 0)), (3, .a (.ptr 1 0 0)), (4, .a (.ptr 2 0 0)), (5, .a (.ptr 3 0 0)), (6, .a (.smz 4)), (7, .a (.smz 5)), (8, .a (.lf (.int .i64)))], mem := [(0, some (.raw [[.lf .bool, .lf (.sl (.int .i64))]] 2 58 true false)), (1, some (.raw [[.lf .bool, .lf (.sl (.int .i64))]] 2 58 true false)), (2, some (.raw [[.lf .bool, .smz 6]] 2 58 false false)), (3, some (.raw [[.lf .bool, .smz 7]] 2 58 false false)), (4, some (.arr (.int .i64) 1 3 false)), (5, some (.arr (.int .i64) 1 3 false)), (6, some (.arr (.int .i64) 1 3 false)), (7, some (.arr (.int .i64) 1 3 false))], nx := 8 }, { fr := [(2, .a (.ptr 0 0 0)), (3, .a (.ptr 1 0 0)), (4, .a (.ptr 2 0 0)), (5, .a (.ptr 3 0 0)), (6, .a (.smz 4)), (7, .a (.lf (.sl (.int .i64)))), (8, .a (.lf (.int .i64)))], mem := [(0, some (.raw [[.lf .bool, .lf (.sl (.int .i64))]] 2 58 true false)), (1, some (.raw [[.lf .bool, .lf (.sl (.int .i64))]] 2 58 true false)), (2, some (.raw [[.lf .bool, .smz 5]] 2 58 false false)), (3, some (.raw [[.lf .bool, .smz 6]] 2 58 false false)), (4, some (.arr (.int .i64) 1 3 false)), (5, some (.arr (.int .i64) 1 3 false)), (6, some (.arr (.int .i64) 1 3 false))], nx := 7 }]
def osshuntref01_Divide_0 : List OS := [⟨some 0, { fr := [(2, .a (.ptr 0 0 0)), (3, .a (.ptr 1 0 0)), (4, .a (.ptr 2 0 0)), (5, .a (.ptr 3 0 0)), (6, .a (.smz 4)), (7, .a (.smz 5))], mem := [(0, some (.raw [[.lf .bool, .lf (.sl (.int .i64))]] 2 58 true false)), (1, some (.raw [[.lf .bool, .lf (.sl (.int .i64))]] 2 58 true false)), (2, some (.raw [[.lf .bool, .smz 6]] 2 58 false false)), (3, some (.raw [[.lf .bool, .smz 7]] 2 58 false false)), (4, some (.arr (.int .i64) 1 3 false)), (5, some (.arr (.int .i64) 1 3 false)), (6, some (.arr (.int .i64) 1 3 false)), (7, some (.arr (.int .i64) 1 3 false))], nx := 8 }⟩, ⟨some 0, { fr := [(2, .a (.ptr 0 0 0)), (3, .a (.ptr 1 0 0)), (4, .a (.ptr 2 0 0)), (5, .a (.ptr 3 0 0)), (6, .a (.smz 4)), (7, .a (.lf (.sl (.int .i64))))], mem := [(0, some (.raw [[.lf .bool, .lf (.sl (.int .i64))]] 2 58 true false)), (1, some (.raw [[.lf .bool, .lf (.sl (.int .i64))]] 2 58 true false)), (2, some (.raw [[.lf .bool, .smz 5]] 2 58 false false)), (3, some (.raw [[.lf .bool, .smz 6]] 2 58 false false)), (4, some (.arr (.int .i64) 1 3 false)), (5, some (.arr (.int .i64) 1 3 false)), (6, some (.arr (.int .i64) 1 3 false))], nx := 7 }⟩]
def LIshuntref01_Divide_0 (k : Nat) : LInst := ⟨0, hsshuntref01_Divide_0, osshuntref01_Divide_0, fun x => Lshuntref01_Divide_0 k k x⟩
theorem anshuntref01_Divide_0 (k : Nat) : LAll (LOk (R := DS OS.D osshuntref01_Divide_0) (fun b _ σ K => LOt Ty (kps 87) 0 b σ K []) cf (call cf k) (kps 87) Tryz.f87.ntmps k 0) 0 (lb Tryz.f87 0) :=
  And.intro (And.intro (True.intro) (And.intro (True.intro) (True.intro))) (And.intro (And.intro (True.intro) (And.intro (True.intro) (And.intro (True.intro) (And.intro (And.intro (True.intro) (And.intro (True.intro) (True.intro))) (True.intro))))) (True.intro))
theorem stshuntref01_Divide_0 (k n : Nat) (x : DS SS.D hsshuntref01_Divide_0) : Lshuntref01_Divide_0 k (n + 1) x = encSK SS.enc (fun σ => run2 cf (fun f a b K => COt f a b K [Ishuntref01_trim_mfi k, Ishuntref01_digit k, Ishuntref01_Small k, Ishuntref01_Times k, Ishuntref01_minus k]) (fun b _ σ K => LOt Ty (kps 87) 0 b σ K []) Tryz.f87.ntmps 0 (lb Tryz.f87 0) σ (nextK Ty (kps 87 0) 0 hsshuntref01_Divide_0 osshuntref01_Divide_0 fun x => Lshuntref01_Divide_0 k n x)) hsshuntref01_Divide_0 x := by kernel_rfl
theorem loshuntref01_Divide_0 (k : Nat) : LIOk cf (call cf k) (kps 87) Tryz.f87.ntmps k 0 0 (lb Tryz.f87 0) (LIshuntref01_Divide_0 k) :=
  loop_ok (c := cf) (callF := call cf k) (kp := kps 87) (nt := Tryz.f87.ntmps) (k := k) (p := 0) (b := 0) (x0 := lb Tryz.f87 0) (hs := hsshuntref01_Divide_0) (os := osshuntref01_Divide_0) (COt_ok (alshuntref01_Divide k)) (anshuntref01_Divide_0 k) (fun n x => Lshuntref01_Divide_0 k n x) (fun _ => rfl) (stshuntref01_Divide_0 k)
theorem anshuntref01_Divide (k : Nat) : LAll (LOk (R := DS FS.D rsshuntref01_Divide) (fun b _ σ K => LOt Ty (kps 87) 0 b σ K [LIshuntref01_Divide_0 k]) cf (call cf k) (cf.keep 87) Tryz.f87.ntmps k shshuntref01_Divide.bs.length) 0 (bd Tryz.f87) :=
  And.intro (True.intro) (And.intro (True.intro) (And.intro (True.intro) (And.intro (And.intro (True.intro) (LOt_ok (c := cf) (callF := call cf k) (kp := kps 87) (nt := Tryz.f87.ntmps) (k := k) (p := 0) (b := 0) (x0 := lb Tryz.f87 0) (l := [LIshuntref01_Divide_0 k]) (And.intro (fun _ => loshuntref01_Divide_0 k) (True.intro)))) (And.intro (True.intro) (And.intro (True.intro) (True.intro))))))
theorem stshuntref01_Divide (k : Nat) (x : shshuntref01_Divide.D) : Fshuntref01_Divide (k + 1) x.1 x.2.1 x.2.2.1 x.2.2.2 = body2 cf (fun f a b K => COt f a b K [Ishuntref01_trim_mfi k, Ishuntref01_digit k, Ishuntref01_Small k, Ishuntref01_Times k, Ishuntref01_minus k]) (fun b _ σ K => LOt Ty (kps 87) 0 b σ K [LIshuntref01_Divide_0 k]) 87 Tryz.f87.ntmps Tryz.f87.results.toList (bd Tryz.f87) (shshuntref01_Divide.enc x).1 (shshuntref01_Divide.enc x).2 (putS FS.dec rsshuntref01_Divide) := by kernel_rfl
theorem okshuntref01_Divide : ∀ k, InstOk (call cf k) (Ishuntref01_Divide k)
  | 0 => fun x y e => absurd (show (none : Option _) = some y from e) (by simp)
  | k + 1 => inst_ok (c := cf) (k := k) (f := 87) (fn := Tryz.f87) (body := bd Tryz.f87) (sh := shshuntref01_Divide) (os := rsshuntref01_Divide) rfl Tryz.func87 rfl ⟨rfl, Nat.le_of_ble_eq_true rfl⟩ (COt_ok (alshuntref01_Divide k)) (anshuntref01_Divide k) (fun x => Fshuntref01_Divide (k + 1) x.1 x.2.1 x.2.2.1 x.2.2.2) (stshuntref01_Divide k)

/-! shunt/shuntref01.Common -/
def Lshuntref01_Common_0s (k : Nat) (rec : Bool → List Int → Bool → List Int → Bool → Nat → List Int → Option (Bool × List Int × Bool × List Int × Bool × Nat × List Int)) (a0 : Bool) (a1 : List Int) (b0 : Bool) (b1 : List Int) (x0 : Bool) (x1 : Nat) (m : List Int) : Option (Bool × List Int × Bool × List Int × Bool × Nat × List Int) :=
  if ((decide ((((List.length b1) : Nat) : Int) > (0 : Int))) = true) then
    Option.bind (Fshuntref01_Divide k a0 a1 b0 b1) fun r15 =>
    rec b0 b1 r15.2.2.1 r15.2.2.2 x0 x1 m
  else
  (some (a0, a1, b0, b1, x0, x1, m))
def Lshuntref01_Common_0 (k n : Nat) : Bool → List Int → Bool → List Int → Bool → Nat → List Int → Option (Bool × List Int × Bool × List Int × Bool × Nat × List Int) := Nat.rec (fun _ _ _ _ _ _ _ => none) (fun _ r => Lshuntref01_Common_0s k r) n
def bshuntref01_Common (k : Nat) (a0 : Bool) (a1 : List Int) (b0 : Bool) (b1 : List Int) : Option (Bool × List Int) :=
  Option.bind (Fshuntref01_Abs k a0 a1) fun r13 =>
  Option.bind (Fshuntref01_Abs k b0 b1) fun r14 =>
  Option.bind (Lshuntref01_Common_0 k k r13.1 r13.2 r14.1 r14.2 false 0 []) fun r15 =>
  (some (r15.1, r15.2.1))
def Fshuntref01_Common : Nat → Bool → List Int → Bool → List Int → Option (Bool × List Int)
  | 0, _, _, _, _ => none
  | k + 1, a0, a1, b0, b1 => bshuntref01_Common k a0 a1 b0 b1
def shshuntref01_Common : FS := { vs := [.g [.lf .bool, .lf (.sl (.int .i64))], .g [.lf .bool, .lf (.sl (.int .i64))]], bs := [] }
def rsshuntref01_Common : List FS := [{ vs := [.g [.lf .bool, .lf (.sl (.int .i64))]], bs := [] }]
def Ishuntref01_Common (k : Nat) : Inst := ⟨82, shshuntref01_Common, rsshuntref01_Common, fun x => Fshuntref01_Common k x.1 x.2.1 x.2.2.1 x.2.2.2⟩
theorem alshuntref01_Common (k : Nat) : AllI (call cf k) [Ishuntref01_Abs k, Ishuntref01_Divide k] := And.intro (okshuntref01_Abs k) (And.intro (okshuntref01_Divide k) (True.intro))
def hsshuntref01_Common_0 : List SS := [{ fr := [(2, .a (.ptr 0 0 0)), (3, .a (.ptr 1 0 0)), (4, .a (.ptr 2 0 0))], mem := [(0, some (.raw [[.lf .bool, .lf (.sl (.int .i64))]] 2 58 true false)), (1, some (.raw [[.lf .bool, .lf (.sl (.int .i64))]] 2 58 true false)), (2, some (.raw [[.lf .bool, .smz 3]] 2 58 false false)), (3, some (.arr (.int .i64) 1 3 false))], nx := 4 }]
def osshuntref01_Common_0 : List OS := [⟨some 0, { fr := [(2, .a (.ptr 0 0 0)), (4, .a (.ptr 2 0 0))], mem := [(0, some (.raw [[.lf .bool, .lf (.sl (.int .i64))]] 2 58 true false)), (1, some (.raw [[.lf .bool, .lf (.sl (.int .i64))]] 2 58 true false)), (2, some (.raw [[.lf .bool, .smz 3]] 2 58 false false)), (3, some (.arr (.int .i64) 1 3 false))], nx := 4 }⟩]
def LIshuntref01_Common_0 (k : Nat) : LInst := ⟨0, hsshuntref01_Common_0, osshuntref01_Common_0, fun x => Lshuntref01_Common_0 k k x.1 x.2.1 x.2.2.1 x.2.2.2.1 x.2.2.2.2.1 x.2.2.2.2.2.1 x.2.2.2.2.2.2⟩
theorem anshuntref01_Common_0 (k : Nat) : LAll (LOk (R := DS OS.D osshuntref01_Common_0) (fun b _ σ K => LOt Ty (kps 82) 0 b σ K []) cf (call cf k) (kps 82) Tryz.f82.ntmps k 0) 0 (lb Tryz.f82 0) :=
  And.intro (And.intro (True.intro) (And.intro (True.intro) (True.intro))) (And.intro (True.intro) (True.intro))
theorem stshuntref01_Common_0 (k n : Nat) (x : DS SS.D hsshuntref01_Common_0) : Lshuntref01_Common_0 k (n + 1) x.1 x.2.1 x.2.2.1 x.2.2.2.1 x.2.2.2.2.1 x.2.2.2.2.2.1 x.2.2.2.2.2.2 = encSK SS.enc (fun σ => run2 cf (fun f a b K => COt f a b K [Ishuntref01_Abs k, Ishuntref01_Divide k]) (fun b _ σ K => LOt Ty (kps 82) 0 b σ K []) Tryz.f82.ntmps 0 (lb Tryz.f82 0) σ (nextK Ty (kps 82 0) 0 hsshuntref01_Common_0 osshuntref01_Common_0 fun x => Lshuntref01_Common_0 k n x.1 x.2.1 x.2.2.1 x.2.2.2.1 x.2.2.2.2.1 x.2.2.2.2.2.1 x.2.2.2.2.2.2)) hsshuntref01_Common_0 x := by kernel_rfl
theorem loshuntref01_Common_0 (k : Nat) : LIOk cf (call cf k) (kps 82) Tryz.f82.ntmps k 0 0 (lb Tryz.f82 0) (LIshuntref01_Common_0 k) :=
  loop_ok (c := cf) (callF := call cf k) (kp := kps 82) (nt := Tryz.f82.ntmps) (k := k) (p := 0) (b := 0) (x0 := lb Tryz.f82 0) (hs := hsshuntref01_Common_0) (os := osshuntref01_Common_0) (COt_ok (alshuntref01_Common k)) (anshuntref01_Common_0 k) (fun n x => Lshuntref01_Common_0 k n x.1 x.2.1 x.2.2.1 x.2.2.2.1 x.2.2.2.2.1 x.2.2.2.2.2.1 x.2.2.2.2.2.2) (fun _ => rfl) (stshuntref01_Common_0 k)
theorem anshuntref01_Common (k : Nat) : LAll (LOk (R := DS FS.D rsshuntref01_Common) (fun b _ σ K => LOt Ty (kps 82) 0 b σ K [LIshuntref01_Common_0 k]) cf (call cf k) (cf.keep 82) Tryz.f82.ntmps k shshuntref01_Common.bs.length) 0 (bd Tryz.f82) :=
  And.intro (True.intro) (And.intro (True.intro) (And.intro (LOt_ok (c := cf) (callF := call cf k) (kp := kps 82) (nt := Tryz.f82.ntmps) (k := k) (p := 0) (b := 0) (x0 := lb Tryz.f82 0) (l := [LIshuntref01_Common_0 k]) (And.intro (fun _ => loshuntref01_Common_0 k) (True.intro))) (And.intro (True.intro) (True.intro))))
theorem stshuntref01_Common (k : Nat) (x : shshuntref01_Common.D) : Fshuntref01_Common (k + 1) x.1 x.2.1 x.2.2.1 x.2.2.2 = body2 cf (fun f a b K => COt f a b K [Ishuntref01_Abs k, Ishuntref01_Divide k]) (fun b _ σ K => LOt Ty (kps 82) 0 b σ K [LIshuntref01_Common_0 k]) 82 Tryz.f82.ntmps Tryz.f82.results.toList (bd Tryz.f82) (shshuntref01_Common.enc x).1 (shshuntref01_Common.enc x).2 (putS FS.dec rsshuntref01_Common) := by kernel_rfl
theorem okshuntref01_Common : ∀ k, InstOk (call cf k) (Ishuntref01_Common k)
  | 0 => fun x y e => absurd (show (none : Option _) = some y from e) (by simp)
  | k + 1 => inst_ok (c := cf) (k := k) (f := 82) (fn := Tryz.f82) (body := bd Tryz.f82) (sh := shshuntref01_Common) (os := rsshuntref01_Common) rfl Tryz.func82 rfl ⟨rfl, Nat.le_of_ble_eq_true rfl⟩ (COt_ok (alshuntref01_Common k)) (anshuntref01_Common k) (fun x => Fshuntref01_Common (k + 1) x.1 x.2.1 x.2.2.1 x.2.2.2) (stshuntref01_Common k)

/-! shunt/shuntref01.Minus -/
def bshuntref01_Minus (k : Nat) (a0 : Bool) (a1 : List Int) : Option (Bool × List Int) :=
  if (((((List.length a1) : Nat) : Int) == (0 : Int)) = true) then
    (some (false, []))
  else
  (some ((!a0), a1))
def Fshuntref01_Minus : Nat → Bool → List Int → Option (Bool × List Int)
  | 0, _, _ => none
  | k + 1, a0, a1 => bshuntref01_Minus k a0 a1
def shshuntref01_Minus : FS := { vs := [.g [.lf .bool, .lf (.sl (.int .i64))]], bs := [] }
def rsshuntref01_Minus : List FS := [{ vs := [.g [.lf .bool, .lf (.sl (.int .i64))]], bs := [] }]
def Ishuntref01_Minus (k : Nat) : Inst := ⟨86, shshuntref01_Minus, rsshuntref01_Minus, fun x => Fshuntref01_Minus k x.1 x.2⟩
theorem alshuntref01_Minus (k : Nat) : AllI (call cf k) [] := True.intro
theorem anshuntref01_Minus (k : Nat) : LAll (LOk (R := DS FS.D rsshuntref01_Minus) (fun b _ σ K => LOt Ty (kps 86) 0 b σ K []) cf (call cf k) (cf.keep 86) Tryz.f86.ntmps k shshuntref01_Minus.bs.length) 0 (bd Tryz.f86) :=
  And.intro (True.intro) (And.intro (And.intro (True.intro) (And.intro (And.intro (True.intro) (True.intro)) (True.intro))) (And.intro (True.intro) (True.intro)))
theorem stshuntref01_Minus (k : Nat) (x : shshuntref01_Minus.D) : Fshuntref01_Minus (k + 1) x.1 x.2 = body2 cf (fun f a b K => COt f a b K []) (fun b _ σ K => LOt Ty (kps 86) 0 b σ K []) 86 Tryz.f86.ntmps Tryz.f86.results.toList (bd Tryz.f86) (shshuntref01_Minus.enc x).1 (shshuntref01_Minus.enc x).2 (putS FS.dec rsshuntref01_Minus) := by kernel_rfl
theorem okshuntref01_Minus : ∀ k, InstOk (call cf k) (Ishuntref01_Minus k)
  | 0 => fun x y e => absurd (show (none : Option _) = some y from e) (by simp)
  | k + 1 => inst_ok (c := cf) (k := k) (f := 86) (fn := Tryz.f86) (body := bd Tryz.f86) (sh := shshuntref01_Minus) (os := rsshuntref01_Minus) rfl Tryz.func86 rfl ⟨rfl, Nat.le_of_ble_eq_true rfl⟩ (COt_ok (alshuntref01_Minus k)) (anshuntref01_Minus k) (fun x => Fshuntref01_Minus (k + 1) x.1 x.2) (stshuntref01_Minus k)

/-! shunt/shuntref01.plus -/
def Lshuntref01_plus_0s (k : Nat) (rec : List Int → List Int → Nat → Int → Int → List Int → Option (Nat × List Int)) (a : List Int) (b : List Int) (d : Nat) (carry : Int) (i : Int) (ds : List Int) : Option (Nat × List Int) :=
  if ((decide (i < (((List.length a) : Nat) : Int))) = false) then
    if ((decide (i < (((List.length b) : Nat) : Int))) = false) then
      if ((decide (carry > (0 : Int))) = true) then
        if ((decide (i < (((List.length a) : Nat) : Int))) = true) then
          if ((0 : Int) ≤ i) then
            Option.bind (a)[(Int.toNat i)]? fun x1 =>
            if ((decide (i < (((List.length b) : Nat) : Int))) = true) then
              if ((0 : Int) ≤ i) then
                Option.bind (b)[(Int.toNat i)]? fun x2 =>
                if (d ≤ (List.length ds)) then
                  if (((d + (List.length (List.take 1 ((Int.tmod (IntKind.wrap .i64 ((IntKind.wrap .i64 (carry + x1)) + x2)) (65536 : Int)) :: [])))) * 8) ≤ 140737488355328) then
                    rec a b (d + (List.length (List.take 1 ((Int.tmod (IntKind.wrap .i64 ((IntKind.wrap .i64 (carry + x1)) + x2)) (65536 : Int)) :: [])))) (IntKind.wrap .i64 (Int.tdiv (IntKind.wrap .i64 ((IntKind.wrap .i64 (carry + x1)) + x2)) (65536 : Int))) (IntKind.wrap .i64 (i + (1 : Int))) ((List.take d ds) ++ (List.take 1 ((Int.tmod (IntKind.wrap .i64 ((IntKind.wrap .i64 (carry + x1)) + x2)) (65536 : Int)) :: [])))
                  else
                  none
                else
                none
              else
              none
            else
            if (d ≤ (List.length ds)) then
              if (((d + (List.length (List.take 1 ((Int.tmod (IntKind.wrap .i64 (carry + x1)) (65536 : Int)) :: [])))) * 8) ≤ 140737488355328) then
                rec a b (d + (List.length (List.take 1 ((Int.tmod (IntKind.wrap .i64 (carry + x1)) (65536 : Int)) :: [])))) (IntKind.wrap .i64 (Int.tdiv (IntKind.wrap .i64 (carry + x1)) (65536 : Int))) (IntKind.wrap .i64 (i + (1 : Int))) ((List.take d ds) ++ (List.take 1 ((Int.tmod (IntKind.wrap .i64 (carry + x1)) (65536 : Int)) :: [])))
              else
              none
            else
            none
          else
          none
        else
        if ((decide (i < (((List.length b) : Nat) : Int))) = true) then
          if ((0 : Int) ≤ i) then
            Option.bind (b)[(Int.toNat i)]? fun x1 =>
            if (d ≤ (List.length ds)) then
              if (((d + (List.length (List.take 1 ((Int.tmod (IntKind.wrap .i64 (carry + x1)) (65536 : Int)) :: [])))) * 8) ≤ 140737488355328) then
                rec a b (d + (List.length (List.take 1 ((Int.tmod (IntKind.wrap .i64 (carry + x1)) (65536 : Int)) :: [])))) (IntKind.wrap .i64 (Int.tdiv (IntKind.wrap .i64 (carry + x1)) (65536 : Int))) (IntKind.wrap .i64 (i + (1 : Int))) ((List.take d ds) ++ (List.take 1 ((Int.tmod (IntKind.wrap .i64 (carry + x1)) (65536 : Int)) :: [])))
              else
              none
            else
            none
          else
          none
        else
        if (d ≤ (List.length ds)) then
          if (((d + (List.length (List.take 1 ((Int.tmod carry (65536 : Int)) :: [])))) * 8) ≤ 140737488355328) then
            rec a b (d + (List.length (List.take 1 ((Int.tmod carry (65536 : Int)) :: [])))) (IntKind.wrap .i64 (Int.tdiv carry (65536 : Int))) (IntKind.wrap .i64 (i + (1 : Int))) ((List.take d ds) ++ (List.take 1 ((Int.tmod carry (65536 : Int)) :: [])))
          else
          none
        else
        none
      else
      (some (d, ds))
    else
    if ((decide (i < (((List.length a) : Nat) : Int))) = true) then
      if ((0 : Int) ≤ i) then
        Option.bind (a)[(Int.toNat i)]? fun x1 =>
        if ((decide (i < (((List.length b) : Nat) : Int))) = true) then
          if ((0 : Int) ≤ i) then
            Option.bind (b)[(Int.toNat i)]? fun x2 =>
            if (d ≤ (List.length ds)) then
              if (((d + (List.length (List.take 1 ((Int.tmod (IntKind.wrap .i64 ((IntKind.wrap .i64 (carry + x1)) + x2)) (65536 : Int)) :: [])))) * 8) ≤ 140737488355328) then
                rec a b (d + (List.length (List.take 1 ((Int.tmod (IntKind.wrap .i64 ((IntKind.wrap .i64 (carry + x1)) + x2)) (65536 : Int)) :: [])))) (IntKind.wrap .i64 (Int.tdiv (IntKind.wrap .i64 ((IntKind.wrap .i64 (carry + x1)) + x2)) (65536 : Int))) (IntKind.wrap .i64 (i + (1 : Int))) ((List.take d ds) ++ (List.take 1 ((Int.tmod (IntKind.wrap .i64 ((IntKind.wrap .i64 (carry + x1)) + x2)) (65536 : Int)) :: [])))
              else
              none
            else
            none
          else
          none
        else
        if (d ≤ (List.length ds)) then
          if (((d + (List.length (List.take 1 ((Int.tmod (IntKind.wrap .i64 (carry + x1)) (65536 : Int)) :: [])))) * 8) ≤ 140737488355328) then
            rec a b (d + (List.length (List.take 1 ((Int.tmod (IntKind.wrap .i64 (carry + x1)) (65536 : Int)) :: [])))) (IntKind.wrap .i64 (Int.tdiv (IntKind.wrap .i64 (carry + x1)) (65536 : Int))) (IntKind.wrap .i64 (i + (1 : Int))) ((List.take d ds) ++ (List.take 1 ((Int.tmod (IntKind.wrap .i64 (carry + x1)) (65536 : Int)) :: [])))
          else
          none
        else
        none
      else
      none
    else
    if ((decide (i < (((List.length b) : Nat) : Int))) = true) then
      if ((0 : Int) ≤ i) then
        Option.bind (b)[(Int.toNat i)]? fun x1 =>
        if (d ≤ (List.length ds)) then
          if (((d + (List.length (List.take 1 ((Int.tmod (IntKind.wrap .i64 (carry + x1)) (65536 : Int)) :: [])))) * 8) ≤ 140737488355328) then
            rec a b (d + (List.length (List.take 1 ((Int.tmod (IntKind.wrap .i64 (carry + x1)) (65536 : Int)) :: [])))) (IntKind.wrap .i64 (Int.tdiv (IntKind.wrap .i64 (carry + x1)) (65536 : Int))) (IntKind.wrap .i64 (i + (1 : Int))) ((List.take d ds) ++ (List.take 1 ((Int.tmod (IntKind.wrap .i64 (carry + x1)) (65536 : Int)) :: [])))
          else
          none
        else
        none
      else
      none
    else
    if (d ≤ (List.length ds)) then
      if (((d + (List.length (List.take 1 ((Int.tmod carry (65536 : Int)) :: [])))) * 8) ≤ 140737488355328) then
        rec a b (d + (List.length (List.take 1 ((Int.tmod carry (65536 : Int)) :: [])))) (IntKind.wrap .i64 (Int.tdiv carry (65536 : Int))) (IntKind.wrap .i64 (i + (1 : Int))) ((List.take d ds) ++ (List.take 1 ((Int.tmod carry (65536 : Int)) :: [])))
      else
      none
    else
    none
  else
  if ((decide (i < (((List.length a) : Nat) : Int))) = true) then
    if ((0 : Int) ≤ i) then
      Option.bind (a)[(Int.toNat i)]? fun x1 =>
      if ((decide (i < (((List.length b) : Nat) : Int))) = true) then
        if ((0 : Int) ≤ i) then
          Option.bind (b)[(Int.toNat i)]? fun x2 =>
          if (d ≤ (List.length ds)) then
            if (((d + (List.length (List.take 1 ((Int.tmod (IntKind.wrap .i64 ((IntKind.wrap .i64 (carry + x1)) + x2)) (65536 : Int)) :: [])))) * 8) ≤ 140737488355328) then
              rec a b (d + (List.length (List.take 1 ((Int.tmod (IntKind.wrap .i64 ((IntKind.wrap .i64 (carry + x1)) + x2)) (65536 : Int)) :: [])))) (IntKind.wrap .i64 (Int.tdiv (IntKind.wrap .i64 ((IntKind.wrap .i64 (carry + x1)) + x2)) (65536 : Int))) (IntKind.wrap .i64 (i + (1 : Int))) ((List.take d ds) ++ (List.take 1 ((Int.tmod (IntKind.wrap .i64 ((IntKind.wrap .i64 (carry + x1)) + x2)) (65536 : Int)) :: [])))
            else
            none
          else
          none
        else
        none
      else
      if (d ≤ (List.length ds)) then
        if (((d + (List.length (List.take 1 ((Int.tmod (IntKind.wrap .i64 (carry + x1)) (65536 : Int)) :: [])))) * 8) ≤ 140737488355328) then
          rec a b (d + (List.length (List.take 1 ((Int.tmod (IntKind.wrap .i64 (carry + x1)) (65536 : Int)) :: [])))) (IntKind.wrap .i64 (Int.tdiv (IntKind.wrap .i64 (carry + x1)) (65536 : Int))) (IntKind.wrap .i64 (i + (1 : Int))) ((List.take d ds) ++ (List.take 1 ((Int.tmod (IntKind.wrap .i64 (carry + x1)) (65536 : Int)) :: [])))
        else
        none
      else
      none
    else
    none
  else
  if ((decide (i < (((List.length b) : Nat) : Int))) = true) then
    if ((0 : Int) ≤ i) then
      Option.bind (b)[(Int.toNat i)]? fun x1 =>
      if (d ≤ (List.length ds)) then
        if (((d + (List.length (List.take 1 ((Int.tmod (IntKind.wrap .i64 (carry + x1)) (65536 : Int)) :: [])))) * 8) ≤ 140737488355328) then
          rec a b (d + (List.length (List.take 1 ((Int.tmod (IntKind.wrap .i64 (carry + x1)) (65536 : Int)) :: [])))) (IntKind.wrap .i64 (Int.tdiv (IntKind.wrap .i64 (carry + x1)) (65536 : Int))) (IntKind.wrap .i64 (i + (1 : Int))) ((List.take d ds) ++ (List.take 1 ((Int.tmod (IntKind.wrap .i64 (carry + x1)) (65536 : Int)) :: [])))
        else
        none
      else
      none
    else
    none
  else
  if (d ≤ (List.length ds)) then
    if (((d + (List.length (List.take 1 ((Int.tmod carry (65536 : Int)) :: [])))) * 8) ≤ 140737488355328) then
      rec a b (d + (List.length (List.take 1 ((Int.tmod carry (65536 : Int)) :: [])))) (IntKind.wrap .i64 (Int.tdiv carry (65536 : Int))) (IntKind.wrap .i64 (i + (1 : Int))) ((List.take d ds) ++ (List.take 1 ((Int.tmod carry (65536 : Int)) :: [])))
    else
    none
  else
  none
def Lshuntref01_plus_0 (k n : Nat) : List Int → List Int → Nat → Int → Int → List Int → Option (Nat × List Int) := Nat.rec (fun _ _ _ _ _ _ => none) (fun _ r => Lshuntref01_plus_0s k r) n
def bshuntref01_plus (k : Nat) (a : List Int) (b : List Int) : Option (List Int) :=
  Option.bind (Lshuntref01_plus_0 k k a b 0 (0 : Int) (0 : Int) []) fun r16 =>
  Option.bind (Fshuntref01_trim_mfi k r16.1 r16.2) fun r17 =>
  if ((0 + r17.1) ≤ (List.length r17.2)) then
    (some (List.take r17.1 r17.2))
  else
  none
def Fshuntref01_plus : Nat → List Int → List Int → Option (List Int)
  | 0, _, _ => none
  | k + 1, a, b => bshuntref01_plus k a b
def shshuntref01_plus : FS := { vs := [.a (.lf (.sl (.int .i64))), .a (.lf (.sl (.int .i64)))], bs := [] }
def rsshuntref01_plus : List FS := [{ vs := [.a (.lf (.sl (.int .i64)))], bs := [] }]
def Ishuntref01_plus (k : Nat) : Inst := ⟨88, shshuntref01_plus, rsshuntref01_plus, fun x => Fshuntref01_plus k x.1 x.2⟩
theorem alshuntref01_plus (k : Nat) : AllI (call cf k) [Ishuntref01_trim_mfi k] := And.intro (okshuntref01_trim_mfi k) (True.intro)
def hsshuntref01_plus_0 : List SS := [{ fr := [(0, .a (.lf (.sl (.int .i64)))), (1, .a (.lf (.sl (.int .i64)))), (5, .a (.smz 0)), (6, .a (.lf (.int .i64))), (7, .a (.lf (.int .i64)))], mem := [(0, some (.arr (.int .i64) 1 3 false))], nx := 1 }]
def osshuntref01_plus_0 : List OS := [⟨some 0, { fr := [(5, .a (.smz 0))], mem := [(0, some (.arr (.int .i64) 1 3 false))], nx := 1 }⟩]
def LIshuntref01_plus_0 (k : Nat) : LInst := ⟨0, hsshuntref01_plus_0, osshuntref01_plus_0, fun x => Lshuntref01_plus_0 k k x.1 x.2.1 x.2.2.1 x.2.2.2.1 x.2.2.2.2.1 x.2.2.2.2.2⟩
theorem anshuntref01_plus_0 (k : Nat) : LAll (LOk (R := DS OS.D osshuntref01_plus_0) (fun b _ σ K => LOt Ty (kps 88) 0 b σ K []) cf (call cf k) (kps 88) Tryz.f88.ntmps k 0) 0 (lb Tryz.f88 0) :=
  And.intro (And.intro (True.intro) (And.intro (True.intro) (True.intro))) (And.intro (And.intro (True.intro) (And.intro (And.intro (True.intro) (And.intro (True.intro) (True.intro))) (And.intro (And.intro (True.intro) (And.intro (True.intro) (True.intro))) (And.intro (True.intro) (True.intro))))) (True.intro))
theorem stshuntref01_plus_0 (k n : Nat) (x : DS SS.D hsshuntref01_plus_0) : Lshuntref01_plus_0 k (n + 1) x.1 x.2.1 x.2.2.1 x.2.2.2.1 x.2.2.2.2.1 x.2.2.2.2.2 = encSK SS.enc (fun σ => run2 cf (fun f a b K => COt f a b K [Ishuntref01_trim_mfi k]) (fun b _ σ K => LOt Ty (kps 88) 0 b σ K []) Tryz.f88.ntmps 0 (lb Tryz.f88 0) σ (nextK Ty (kps 88 0) 0 hsshuntref01_plus_0 osshuntref01_plus_0 fun x => Lshuntref01_plus_0 k n x.1 x.2.1 x.2.2.1 x.2.2.2.1 x.2.2.2.2.1 x.2.2.2.2.2)) hsshuntref01_plus_0 x := by kernel_rfl
theorem loshuntref01_plus_0 (k : Nat) : LIOk cf (call cf k) (kps 88) Tryz.f88.ntmps k 0 0 (lb Tryz.f88 0) (LIshuntref01_plus_0 k) :=
  loop_ok (c := cf) (callF := call cf k) (kp := kps 88) (nt := Tryz.f88.ntmps) (k := k) (p := 0) (b := 0) (x0 := lb Tryz.f88 0) (hs := hsshuntref01_plus_0) (os := osshuntref01_plus_0) (COt_ok (alshuntref01_plus k)) (anshuntref01_plus_0 k) (fun n x => Lshuntref01_plus_0 k n x.1 x.2.1 x.2.2.1 x.2.2.2.1 x.2.2.2.2.1 x.2.2.2.2.2) (fun _ => rfl) (stshuntref01_plus_0 k)
theorem anshuntref01_plus (k : Nat) : LAll (LOk (R := DS FS.D rsshuntref01_plus) (fun b _ σ K => LOt Ty (kps 88) 0 b σ K [LIshuntref01_plus_0 k]) cf (call cf k) (cf.keep 88) Tryz.f88.ntmps k shshuntref01_plus.bs.length) 0 (bd Tryz.f88) :=
  And.intro (True.intro) (And.intro (True.intro) (And.intro (True.intro) (And.intro (And.intro (True.intro) (LOt_ok (c := cf) (callF := call cf k) (kp := kps 88) (nt := Tryz.f88.ntmps) (k := k) (p := 0) (b := 0) (x0 := lb Tryz.f88 0) (l := [LIshuntref01_plus_0 k]) (And.intro (fun _ => loshuntref01_plus_0 k) (True.intro)))) (And.intro (True.intro) (True.intro)))))
theorem stshuntref01_plus (k : Nat) (x : shshuntref01_plus.D) : Fshuntref01_plus (k + 1) x.1 x.2 = body2 cf (fun f a b K => COt f a b K [Ishuntref01_trim_mfi k]) (fun b _ σ K => LOt Ty (kps 88) 0 b σ K [LIshuntref01_plus_0 k]) 88 Tryz.f88.ntmps Tryz.f88.results.toList (bd Tryz.f88) (shshuntref01_plus.enc x).1 (shshuntref01_plus.enc x).2 (putS FS.dec rsshuntref01_plus) := by kernel_rfl
theorem okshuntref01_plus : ∀ k, InstOk (call cf k) (Ishuntref01_plus k)
  | 0 => fun x y e => absurd (show (none : Option _) = some y from e) (by simp)
  | k + 1 => inst_ok (c := cf) (k := k) (f := 88) (fn := Tryz.f88) (body := bd Tryz.f88) (sh := shshuntref01_plus) (os := rsshuntref01_plus) rfl Tryz.func88 rfl ⟨rfl, Nat.le_of_ble_eq_true rfl⟩ (COt_ok (alshuntref01_plus k)) (anshuntref01_plus k) (fun x => Fshuntref01_plus (k + 1) x.1 x.2) (stshuntref01_plus k)

/-! shunt/shuntref01.Plus -/
def bshuntref01_Plus (k : Nat) (a0 : Bool) (a1 : List Int) (b0 : Bool) (b1 : List Int) : Option (Bool × List Int) :=
  if ((a0 == b0) = true) then
    Option.bind (Fshuntref01_plus k a1 b1) fun r16 =>
    if (a0 = true) then
      (some ((decide ((((List.length r16) : Nat) : Int) > (0 : Int))), r16))
    else
    (some (false, r16))
  else
  Option.bind (Fshuntref01_mags k a1 b1) fun r16 =>
  if ((decide (r16 ≥ (0 : Int))) = true) then
    Option.bind (Fshuntref01_minus k a1 b1) fun r17 =>
    if (a0 = true) then
      (some ((decide ((((List.length r17) : Nat) : Int) > (0 : Int))), r17))
    else
    (some (false, r17))
  else
  Option.bind (Fshuntref01_minus k b1 a1) fun r17 =>
  (some (b0, r17))
def Fshuntref01_Plus : Nat → Bool → List Int → Bool → List Int → Option (Bool × List Int)
  | 0, _, _, _, _ => none
  | k + 1, a0, a1, b0, b1 => bshuntref01_Plus k a0 a1 b0 b1
def shshuntref01_Plus : FS := { vs := [.g [.lf .bool, .lf (.sl (.int .i64))], .g [.lf .bool, .lf (.sl (.int .i64))]], bs := [] }
def rsshuntref01_Plus : List FS := [{ vs := [.g [.lf .bool, .lf (.sl (.int .i64))]], bs := [] }]
def Ishuntref01_Plus (k : Nat) : Inst := ⟨58, shshuntref01_Plus, rsshuntref01_Plus, fun x => Fshuntref01_Plus k x.1 x.2.1 x.2.2.1 x.2.2.2⟩
theorem alshuntref01_Plus (k : Nat) : AllI (call cf k) [Ishuntref01_plus k, Ishuntref01_mags k, Ishuntref01_minus k] := And.intro (okshuntref01_plus k) (And.intro (okshuntref01_mags k) (And.intro (okshuntref01_minus k) (True.intro)))
theorem anshuntref01_Plus (k : Nat) : LAll (LOk (R := DS FS.D rsshuntref01_Plus) (fun b _ σ K => LOt Ty (kps 58) 0 b σ K []) cf (call cf k) (cf.keep 58) Tryz.f58.ntmps k shshuntref01_Plus.bs.length) 0 (bd Tryz.f58) :=
  And.intro (True.intro) (And.intro (And.intro (True.intro) (And.intro (And.intro (True.intro) (And.intro (True.intro) (True.intro))) (True.intro))) (And.intro (And.intro (True.intro) (And.intro (And.intro (True.intro) (And.intro (True.intro) (True.intro))) (True.intro))) (And.intro (True.intro) (True.intro))))
theorem stshuntref01_Plus (k : Nat) (x : shshuntref01_Plus.D) : Fshuntref01_Plus (k + 1) x.1 x.2.1 x.2.2.1 x.2.2.2 = body2 cf (fun f a b K => COt f a b K [Ishuntref01_plus k, Ishuntref01_mags k, Ishuntref01_minus k]) (fun b _ σ K => LOt Ty (kps 58) 0 b σ K []) 58 Tryz.f58.ntmps Tryz.f58.results.toList (bd Tryz.f58) (shshuntref01_Plus.enc x).1 (shshuntref01_Plus.enc x).2 (putS FS.dec rsshuntref01_Plus) := by kernel_rfl
theorem okshuntref01_Plus : ∀ k, InstOk (call cf k) (Ishuntref01_Plus k)
  | 0 => fun x y e => absurd (show (none : Option _) = some y from e) (by simp)
  | k + 1 => inst_ok (c := cf) (k := k) (f := 58) (fn := Tryz.f58) (body := bd Tryz.f58) (sh := shshuntref01_Plus) (os := rsshuntref01_Plus) rfl Tryz.func58 rfl ⟨rfl, Nat.le_of_ble_eq_true rfl⟩ (COt_ok (alshuntref01_Plus k)) (anshuntref01_Plus k) (fun x => Fshuntref01_Plus (k + 1) x.1 x.2.1 x.2.2.1 x.2.2.2) (stshuntref01_Plus k)

/-! shunt/shuntref01.Less -/
def bshuntref01_Less (k : Nat) (a0 : Bool) (a1 : List Int) (b0 : Bool) (b1 : List Int) : Option (Bool × List Int) :=
  Option.bind (Fshuntref01_Minus k b0 b1) fun r15 =>
  Option.bind (Fshuntref01_Plus k a0 a1 r15.1 r15.2) fun r16 =>
  (some (r16.1, r16.2))
def Fshuntref01_Less : Nat → Bool → List Int → Bool → List Int → Option (Bool × List Int)
  | 0, _, _, _, _ => none
  | k + 1, a0, a1, b0, b1 => bshuntref01_Less k a0 a1 b0 b1
def shshuntref01_Less : FS := { vs := [.g [.lf .bool, .lf (.sl (.int .i64))], .g [.lf .bool, .lf (.sl (.int .i64))]], bs := [] }
def rsshuntref01_Less : List FS := [{ vs := [.g [.lf .bool, .lf (.sl (.int .i64))]], bs := [] }]
def Ishuntref01_Less (k : Nat) : Inst := ⟨91, shshuntref01_Less, rsshuntref01_Less, fun x => Fshuntref01_Less k x.1 x.2.1 x.2.2.1 x.2.2.2⟩
theorem alshuntref01_Less (k : Nat) : AllI (call cf k) [Ishuntref01_Minus k, Ishuntref01_Plus k] := And.intro (okshuntref01_Minus k) (And.intro (okshuntref01_Plus k) (True.intro))
theorem anshuntref01_Less (k : Nat) : LAll (LOk (R := DS FS.D rsshuntref01_Less) (fun b _ σ K => LOt Ty (kps 91) 0 b σ K []) cf (call cf k) (cf.keep 91) Tryz.f91.ntmps k shshuntref01_Less.bs.length) 0 (bd Tryz.f91) :=
  And.intro (True.intro) (And.intro (True.intro) (True.intro))
theorem stshuntref01_Less (k : Nat) (x : shshuntref01_Less.D) : Fshuntref01_Less (k + 1) x.1 x.2.1 x.2.2.1 x.2.2.2 = body2 cf (fun f a b K => COt f a b K [Ishuntref01_Minus k, Ishuntref01_Plus k]) (fun b _ σ K => LOt Ty (kps 91) 0 b σ K []) 91 Tryz.f91.ntmps Tryz.f91.results.toList (bd Tryz.f91) (shshuntref01_Less.enc x).1 (shshuntref01_Less.enc x).2 (putS FS.dec rsshuntref01_Less) := by kernel_rfl
theorem okshuntref01_Less : ∀ k, InstOk (call cf k) (Ishuntref01_Less k)
  | 0 => fun x y e => absurd (show (none : Option _) = some y from e) (by simp)
  | k + 1 => inst_ok (c := cf) (k := k) (f := 91) (fn := Tryz.f91) (body := bd Tryz.f91) (sh := shshuntref01_Less) (os := rsshuntref01_Less) rfl Tryz.func91 rfl ⟨rfl, Nat.le_of_ble_eq_true rfl⟩ (COt_ok (alshuntref01_Less k)) (anshuntref01_Less k) (fun x => Fshuntref01_Less (k + 1) x.1 x.2.1 x.2.2.1 x.2.2.2) (stshuntref01_Less k)

/-! shunt/shuntref01.Sign -/
def bshuntref01_Sign (k : Nat) (a0 : Bool) (a1 : List Int) : Option (Int) :=
  if (((((List.length a1) : Nat) : Int) == (0 : Int)) = true) then
    (some (0 : Int))
  else
  if (a0 = true) then
    (some (-(1 : Int)))
  else
  (some (1 : Int))
def Fshuntref01_Sign : Nat → Bool → List Int → Option (Int)
  | 0, _, _ => none
  | k + 1, a0, a1 => bshuntref01_Sign k a0 a1
def shshuntref01_Sign : FS := { vs := [.g [.lf .bool, .lf (.sl (.int .i64))]], bs := [] }
def rsshuntref01_Sign : List FS := [{ vs := [.a (.lf (.int .i64))], bs := [] }]
def Ishuntref01_Sign (k : Nat) : Inst := ⟨61, shshuntref01_Sign, rsshuntref01_Sign, fun x => Fshuntref01_Sign k x.1 x.2⟩
theorem alshuntref01_Sign (k : Nat) : AllI (call cf k) [] := True.intro
theorem anshuntref01_Sign (k : Nat) : LAll (LOk (R := DS FS.D rsshuntref01_Sign) (fun b _ σ K => LOt Ty (kps 61) 0 b σ K []) cf (call cf k) (cf.keep 61) Tryz.f61.ntmps k shshuntref01_Sign.bs.length) 0 (bd Tryz.f61) :=
  And.intro (True.intro) (And.intro (And.intro (True.intro) (And.intro (And.intro (True.intro) (True.intro)) (True.intro))) (And.intro (And.intro (True.intro) (And.intro (And.intro (True.intro) (True.intro)) (True.intro))) (And.intro (True.intro) (True.intro))))
theorem stshuntref01_Sign (k : Nat) (x : shshuntref01_Sign.D) : Fshuntref01_Sign (k + 1) x.1 x.2 = body2 cf (fun f a b K => COt f a b K []) (fun b _ σ K => LOt Ty (kps 61) 0 b σ K []) 61 Tryz.f61.ntmps Tryz.f61.results.toList (bd Tryz.f61) (shshuntref01_Sign.enc x).1 (shshuntref01_Sign.enc x).2 (putS FS.dec rsshuntref01_Sign) := by kernel_rfl
theorem okshuntref01_Sign : ∀ k, InstOk (call cf k) (Ishuntref01_Sign k)
  | 0 => fun x y e => absurd (show (none : Option _) = some y from e) (by simp)
  | k + 1 => inst_ok (c := cf) (k := k) (f := 61) (fn := Tryz.f61) (body := bd Tryz.f61) (sh := shshuntref01_Sign) (os := rsshuntref01_Sign) rfl Tryz.func61 rfl ⟨rfl, Nat.le_of_ble_eq_true rfl⟩ (COt_ok (alshuntref01_Sign k)) (anshuntref01_Sign k) (fun x => Fshuntref01_Sign (k + 1) x.1 x.2) (stshuntref01_Sign k)

/-! shunt/shuntref01.Held -/
def bshuntref01_Held (k : Nat) (a0 : Bool) (a1 : List Int) (b0 : Bool) (b1 : List Int) : Option (Int) :=
  Option.bind (Fshuntref01_Less k a0 a1 b0 b1) fun r15 =>
  Option.bind (Fshuntref01_Sign k r15.1 r15.2) fun r16 =>
  (some r16)
def Fshuntref01_Held : Nat → Bool → List Int → Bool → List Int → Option (Int)
  | 0, _, _, _, _ => none
  | k + 1, a0, a1, b0, b1 => bshuntref01_Held k a0 a1 b0 b1
def shshuntref01_Held : FS := { vs := [.g [.lf .bool, .lf (.sl (.int .i64))], .g [.lf .bool, .lf (.sl (.int .i64))]], bs := [] }
def rsshuntref01_Held : List FS := [{ vs := [.a (.lf (.int .i64))], bs := [] }]
def Ishuntref01_Held (k : Nat) : Inst := ⟨62, shshuntref01_Held, rsshuntref01_Held, fun x => Fshuntref01_Held k x.1 x.2.1 x.2.2.1 x.2.2.2⟩
theorem alshuntref01_Held (k : Nat) : AllI (call cf k) [Ishuntref01_Less k, Ishuntref01_Sign k] := And.intro (okshuntref01_Less k) (And.intro (okshuntref01_Sign k) (True.intro))
theorem anshuntref01_Held (k : Nat) : LAll (LOk (R := DS FS.D rsshuntref01_Held) (fun b _ σ K => LOt Ty (kps 62) 0 b σ K []) cf (call cf k) (cf.keep 62) Tryz.f62.ntmps k shshuntref01_Held.bs.length) 0 (bd Tryz.f62) :=
  And.intro (True.intro) (And.intro (True.intro) (True.intro))
theorem stshuntref01_Held (k : Nat) (x : shshuntref01_Held.D) : Fshuntref01_Held (k + 1) x.1 x.2.1 x.2.2.1 x.2.2.2 = body2 cf (fun f a b K => COt f a b K [Ishuntref01_Less k, Ishuntref01_Sign k]) (fun b _ σ K => LOt Ty (kps 62) 0 b σ K []) 62 Tryz.f62.ntmps Tryz.f62.results.toList (bd Tryz.f62) (shshuntref01_Held.enc x).1 (shshuntref01_Held.enc x).2 (putS FS.dec rsshuntref01_Held) := by kernel_rfl
theorem okshuntref01_Held : ∀ k, InstOk (call cf k) (Ishuntref01_Held k)
  | 0 => fun x y e => absurd (show (none : Option _) = some y from e) (by simp)
  | k + 1 => inst_ok (c := cf) (k := k) (f := 62) (fn := Tryz.f62) (body := bd Tryz.f62) (sh := shshuntref01_Held) (os := rsshuntref01_Held) rfl Tryz.func62 rfl ⟨rfl, Nat.le_of_ble_eq_true rfl⟩ (COt_ok (alshuntref01_Held k)) (anshuntref01_Held k) (fun x => Fshuntref01_Held (k + 1) x.1 x.2.1 x.2.2.1 x.2.2.2) (stshuntref01_Held k)

/-! shunt/shuntref02.Fault -/
def bshuntref02_Fault (k : Nat) (r0 : Bool) (r1 : List Int) (r2 : Bool) (r3 : List Int) : Option (Int) :=
  Option.bind (Fshuntref01_Right k r0 r1) fun r9 =>
  if ((!r9) = false) then
    Option.bind (Fshuntref01_Right k r2 r3) fun r10 =>
    if ((!r10) = true) then
      (some (10 : Int))
    else
    if (r2 = false) then
      if (((((List.length r3) : Nat) : Int) == (0 : Int)) = false) then
        Option.bind (Fshuntref01_Take k r0 r1) fun r11 =>
        Option.bind (Fshuntref01_Take k r2 r3) fun r12 =>
        Option.bind (Fshuntref01_Common k r11.1 r11.2 r12.1 r12.2) fun r13 =>
        Option.bind (Fshuntref01_Small k (1 : Int)) fun r14 =>
        Option.bind (Fshuntref01_Held k r13.1 r13.2 r14.1 r14.2) fun r15 =>
        if ((r15 != (0 : Int)) = true) then
          (some (20 : Int))
        else
        (some (0 : Int))
      else
      (some (20 : Int))
    else
    (some (20 : Int))
  else
  (some (10 : Int))
def Fshuntref02_Fault : Nat → Bool → List Int → Bool → List Int → Option (Int)
  | 0, _, _, _, _ => none
  | k + 1, r0, r1, r2, r3 => bshuntref02_Fault k r0 r1 r2 r3
def shshuntref02_Fault : FS := { vs := [.g [.lf .bool, .lf (.sl (.int .u32)), .lf .bool, .lf (.sl (.int .u32))]], bs := [] }
def rsshuntref02_Fault : List FS := [{ vs := [.a (.lf (.int .i64))], bs := [] }]
def Ishuntref02_Fault (k : Nat) : Inst := ⟨53, shshuntref02_Fault, rsshuntref02_Fault, fun x => Fshuntref02_Fault k x.1 x.2.1 x.2.2.1 x.2.2.2⟩
theorem alshuntref02_Fault (k : Nat) : AllI (call cf k) [Ishuntref01_Right k, Ishuntref01_Take k, Ishuntref01_Common k, Ishuntref01_Small k, Ishuntref01_Held k] := And.intro (okshuntref01_Right k) (And.intro (okshuntref01_Take k) (And.intro (okshuntref01_Common k) (And.intro (okshuntref01_Small k) (And.intro (okshuntref01_Held k) (True.intro)))))
theorem anshuntref02_Fault (k : Nat) : LAll (LOk (R := DS FS.D rsshuntref02_Fault) (fun b _ σ K => LOt Ty (kps 53) 0 b σ K []) cf (call cf k) (cf.keep 53) Tryz.f53.ntmps k shshuntref02_Fault.bs.length) 0 (bd Tryz.f53) :=
  And.intro (True.intro) (And.intro (And.intro (True.intro) (And.intro (And.intro (True.intro) (True.intro)) (True.intro))) (And.intro (And.intro (True.intro) (And.intro (And.intro (True.intro) (True.intro)) (True.intro))) (And.intro (True.intro) (True.intro))))
theorem stshuntref02_Fault (k : Nat) (x : shshuntref02_Fault.D) : Fshuntref02_Fault (k + 1) x.1 x.2.1 x.2.2.1 x.2.2.2 = body2 cf (fun f a b K => COt f a b K [Ishuntref01_Right k, Ishuntref01_Take k, Ishuntref01_Common k, Ishuntref01_Small k, Ishuntref01_Held k]) (fun b _ σ K => LOt Ty (kps 53) 0 b σ K []) 53 Tryz.f53.ntmps Tryz.f53.results.toList (bd Tryz.f53) (shshuntref02_Fault.enc x).1 (shshuntref02_Fault.enc x).2 (putS FS.dec rsshuntref02_Fault) := by kernel_rfl
theorem okshuntref02_Fault : ∀ k, InstOk (call cf k) (Ishuntref02_Fault k)
  | 0 => fun x y e => absurd (show (none : Option _) = some y from e) (by simp)
  | k + 1 => inst_ok (c := cf) (k := k) (f := 53) (fn := Tryz.f53) (body := bd Tryz.f53) (sh := shshuntref02_Fault) (os := rsshuntref02_Fault) rfl Tryz.func53 rfl ⟨rfl, Nat.le_of_ble_eq_true rfl⟩ (COt_ok (alshuntref02_Fault k)) (anshuntref02_Fault k) (fun x => Fshuntref02_Fault (k + 1) x.1 x.2.1 x.2.2.1 x.2.2.2) (stshuntref02_Fault k)

/-! shunt/shuntref02.Faults -/
def Lshuntref02_Faults_0s (k : Nat) (rec : List ((Bool × List Int) × Bool × List Int) → Int → Int → Option ((Int) ⊕ (Int))) (l : List ((Bool × List Int) × Bool × List Int)) (e : Int) (i : Int) : Option ((Int) ⊕ (Int)) :=
  if ((decide (i < (((List.length l) : Nat) : Int))) = true) then
    if ((0 : Int) ≤ i) then
      Option.bind (l)[(Int.toNat i)]? fun x =>
      Option.bind (Fshuntref02_Fault k x.1.1 x.1.2 x.2.1 x.2.2) fun r9 =>
      if ((r9 == (10 : Int)) = true) then
        (some (Sum.inl (10 : Int)))
      else
      if ((r9 != (0 : Int)) = true) then
        rec l r9 (IntKind.wrap .i64 (i + (1 : Int)))
      else
      rec l e (IntKind.wrap .i64 (i + (1 : Int)))
    else
    none
  else
  (some (Sum.inr e))
def Lshuntref02_Faults_0 (k n : Nat) : List ((Bool × List Int) × Bool × List Int) → Int → Int → Option ((Int) ⊕ (Int)) := Nat.rec (fun _ _ _ => none) (fun _ r => Lshuntref02_Faults_0s k r) n
def bshuntref02_Faults (k : Nat) (l : List ((Bool × List Int) × Bool × List Int)) : Option (Int) :=
  Option.bind (Lshuntref02_Faults_0 k k l (0 : Int) (0 : Int)) fun r9 =>
  eitherK r9
    (fun r9 =>
    (some r9))
    (fun r9 =>
    (some r9))
def Fshuntref02_Faults : Nat → List ((Bool × List Int) × Bool × List Int) → Option (Int)
  | 0, _ => none
  | k + 1, l => bshuntref02_Faults k l
def shshuntref02_Faults : FS := { vs := [.a (.lf (.sl (.pr (.pr .bool (.sl (.int .u32))) (.pr .bool (.sl (.int .u32))))))], bs := [] }
def rsshuntref02_Faults : List FS := [{ vs := [.a (.lf (.int .i64))], bs := [] }]
def Ishuntref02_Faults (k : Nat) : Inst := ⟨28, shshuntref02_Faults, rsshuntref02_Faults, fun x => Fshuntref02_Faults k x⟩
theorem alshuntref02_Faults (k : Nat) : AllI (call cf k) [Ishuntref02_Fault k] := And.intro (okshuntref02_Fault k) (True.intro)
def hsshuntref02_Faults_0 : List SS := [{ fr := [(0, .a (.lf (.sl (.pr (.pr .bool (.sl (.int .u32))) (.pr .bool (.sl (.int .u32))))))), (3, .a (.lf (.int .i64))), (4, .a (.lf (.int .i64)))], mem := [], nx := 0 }]
def osshuntref02_Faults_0 : List OS := [⟨none, { fr := [(2, .a (.lf (.int .i64)))], mem := [], nx := 0 }⟩, ⟨some 0, { fr := [(3, .a (.lf (.int .i64)))], mem := [], nx := 0 }⟩]
def LIshuntref02_Faults_0 (k : Nat) : LInst := ⟨0, hsshuntref02_Faults_0, osshuntref02_Faults_0, fun x => Lshuntref02_Faults_0 k k x.1 x.2.1 x.2.2⟩
theorem anshuntref02_Faults_0 (k : Nat) : LAll (LOk (R := DS OS.D osshuntref02_Faults_0) (fun b _ σ K => LOt Ty (kps 28) 0 b σ K []) cf (call cf k) (kps 28) Tryz.f28.ntmps k 0) 0 (lb Tryz.f28 0) :=
  And.intro (And.intro (True.intro) (And.intro (True.intro) (True.intro))) (And.intro (And.intro (True.intro) (And.intro (And.intro (True.intro) (And.intro (And.intro (True.intro) (True.intro)) (True.intro))) (And.intro (True.intro) (And.intro (True.intro) (True.intro))))) (True.intro))
theorem stshuntref02_Faults_0 (k n : Nat) (x : DS SS.D hsshuntref02_Faults_0) : Lshuntref02_Faults_0 k (n + 1) x.1 x.2.1 x.2.2 = encSK SS.enc (fun σ => run2 cf (fun f a b K => COt f a b K [Ishuntref02_Fault k]) (fun b _ σ K => LOt Ty (kps 28) 0 b σ K []) Tryz.f28.ntmps 0 (lb Tryz.f28 0) σ (nextK Ty (kps 28 0) 0 hsshuntref02_Faults_0 osshuntref02_Faults_0 fun x => Lshuntref02_Faults_0 k n x.1 x.2.1 x.2.2)) hsshuntref02_Faults_0 x := by kernel_rfl
theorem loshuntref02_Faults_0 (k : Nat) : LIOk cf (call cf k) (kps 28) Tryz.f28.ntmps k 0 0 (lb Tryz.f28 0) (LIshuntref02_Faults_0 k) :=
  loop_ok (c := cf) (callF := call cf k) (kp := kps 28) (nt := Tryz.f28.ntmps) (k := k) (p := 0) (b := 0) (x0 := lb Tryz.f28 0) (hs := hsshuntref02_Faults_0) (os := osshuntref02_Faults_0) (COt_ok (alshuntref02_Faults k)) (anshuntref02_Faults_0 k) (fun n x => Lshuntref02_Faults_0 k n x.1 x.2.1 x.2.2) (fun _ => rfl) (stshuntref02_Faults_0 k)
theorem anshuntref02_Faults (k : Nat) : LAll (LOk (R := DS FS.D rsshuntref02_Faults) (fun b _ σ K => LOt Ty (kps 28) 0 b σ K [LIshuntref02_Faults_0 k]) cf (call cf k) (cf.keep 28) Tryz.f28.ntmps k shshuntref02_Faults.bs.length) 0 (bd Tryz.f28) :=
  And.intro (True.intro) (And.intro (True.intro) (And.intro (And.intro (True.intro) (LOt_ok (c := cf) (callF := call cf k) (kp := kps 28) (nt := Tryz.f28.ntmps) (k := k) (p := 0) (b := 0) (x0 := lb Tryz.f28 0) (l := [LIshuntref02_Faults_0 k]) (And.intro (fun _ => loshuntref02_Faults_0 k) (True.intro)))) (And.intro (True.intro) (True.intro))))
theorem stshuntref02_Faults (k : Nat) (x : shshuntref02_Faults.D) : Fshuntref02_Faults (k + 1) x = body2 cf (fun f a b K => COt f a b K [Ishuntref02_Fault k]) (fun b _ σ K => LOt Ty (kps 28) 0 b σ K [LIshuntref02_Faults_0 k]) 28 Tryz.f28.ntmps Tryz.f28.results.toList (bd Tryz.f28) (shshuntref02_Faults.enc x).1 (shshuntref02_Faults.enc x).2 (putS FS.dec rsshuntref02_Faults) := by kernel_rfl
theorem okshuntref02_Faults : ∀ k, InstOk (call cf k) (Ishuntref02_Faults k)
  | 0 => fun x y e => absurd (show (none : Option _) = some y from e) (by simp)
  | k + 1 => inst_ok (c := cf) (k := k) (f := 28) (fn := Tryz.f28) (body := bd Tryz.f28) (sh := shshuntref02_Faults) (os := rsshuntref02_Faults) rfl Tryz.func28 rfl ⟨rfl, Nat.le_of_ble_eq_true rfl⟩ (COt_ok (alshuntref02_Faults k)) (anshuntref02_Faults k) (fun x => Fshuntref02_Faults (k + 1) x) (stshuntref02_Faults k)

/-! shunt/shuntref02.Take -/
def bshuntref02_Take (k : Nat) (r0 : Bool) (r1 : List Int) (r2 : Bool) (r3 : List Int) : Option (Bool × List Int × Bool × List Int) :=
  Option.bind (Fshuntref01_Take k r0 r1) fun r10 =>
  Option.bind (Fshuntref01_Take k r2 r3) fun r11 =>
  (some (r10.1, r10.2, r11.1, r11.2))
def Fshuntref02_Take : Nat → Bool → List Int → Bool → List Int → Option (Bool × List Int × Bool × List Int)
  | 0, _, _, _, _ => none
  | k + 1, r0, r1, r2, r3 => bshuntref02_Take k r0 r1 r2 r3
def shshuntref02_Take : FS := { vs := [.g [.lf .bool, .lf (.sl (.int .u32)), .lf .bool, .lf (.sl (.int .u32))]], bs := [] }
def rsshuntref02_Take : List FS := [{ vs := [.g [.lf .bool, .lf (.sl (.int .i64)), .lf .bool, .lf (.sl (.int .i64))]], bs := [] }]
def Ishuntref02_Take (k : Nat) : Inst := ⟨29, shshuntref02_Take, rsshuntref02_Take, fun x => Fshuntref02_Take k x.1 x.2.1 x.2.2.1 x.2.2.2⟩
theorem alshuntref02_Take (k : Nat) : AllI (call cf k) [Ishuntref01_Take k] := And.intro (okshuntref01_Take k) (True.intro)
theorem anshuntref02_Take (k : Nat) : LAll (LOk (R := DS FS.D rsshuntref02_Take) (fun b _ σ K => LOt Ty (kps 29) 0 b σ K []) cf (call cf k) (cf.keep 29) Tryz.f29.ntmps k shshuntref02_Take.bs.length) 0 (bd Tryz.f29) :=
  And.intro (True.intro) (And.intro (True.intro) (True.intro))
theorem stshuntref02_Take (k : Nat) (x : shshuntref02_Take.D) : Fshuntref02_Take (k + 1) x.1 x.2.1 x.2.2.1 x.2.2.2 = body2 cf (fun f a b K => COt f a b K [Ishuntref01_Take k]) (fun b _ σ K => LOt Ty (kps 29) 0 b σ K []) 29 Tryz.f29.ntmps Tryz.f29.results.toList (bd Tryz.f29) (shshuntref02_Take.enc x).1 (shshuntref02_Take.enc x).2 (putS FS.dec rsshuntref02_Take) := by kernel_rfl
theorem okshuntref02_Take : ∀ k, InstOk (call cf k) (Ishuntref02_Take k)
  | 0 => fun x y e => absurd (show (none : Option _) = some y from e) (by simp)
  | k + 1 => inst_ok (c := cf) (k := k) (f := 29) (fn := Tryz.f29) (body := bd Tryz.f29) (sh := shshuntref02_Take) (os := rsshuntref02_Take) rfl Tryz.func29 rfl ⟨rfl, Nat.le_of_ble_eq_true rfl⟩ (COt_ok (alshuntref02_Take k)) (anshuntref02_Take k) (fun x => Fshuntref02_Take (k + 1) x.1 x.2.1 x.2.2.1 x.2.2.2) (stshuntref02_Take k)

/-! shunt/shuntref02.Lowest -/
def bshuntref02_Lowest (k : Nat) (num0 : Bool) (num1 : List Int) (den0 : Bool) (den1 : List Int) : Option (Bool × List Int × Bool × List Int) :=
  Option.bind (Fshuntref01_Sign k den0 den1) fun r16 =>
  if ((decide (r16 < (0 : Int))) = true) then
    Option.bind (Fshuntref01_Minus k num0 num1) fun r17 =>
    Option.bind (Fshuntref01_Minus k den0 den1) fun r18 =>
    Option.bind (Fshuntref01_Common k r17.1 r17.2 r18.1 r18.2) fun r19 =>
    Option.bind (Fshuntref01_Divide k r17.1 r17.2 r19.1 r19.2) fun r20 =>
    Option.bind (Fshuntref01_Divide k r18.1 r18.2 r19.1 r19.2) fun r21 =>
    (some (r20.1, r20.2.1, r21.1, r21.2.1))
  else
  Option.bind (Fshuntref01_Common k num0 num1 den0 den1) fun r17 =>
  Option.bind (Fshuntref01_Divide k num0 num1 r17.1 r17.2) fun r18 =>
  Option.bind (Fshuntref01_Divide k den0 den1 r17.1 r17.2) fun r19 =>
  (some (r18.1, r18.2.1, r19.1, r19.2.1))
def Fshuntref02_Lowest : Nat → Bool → List Int → Bool → List Int → Option (Bool × List Int × Bool × List Int)
  | 0, _, _, _, _ => none
  | k + 1, num0, num1, den0, den1 => bshuntref02_Lowest k num0 num1 den0 den1
def shshuntref02_Lowest : FS := { vs := [.g [.lf .bool, .lf (.sl (.int .i64))], .g [.lf .bool, .lf (.sl (.int .i64))]], bs := [] }
def rsshuntref02_Lowest : List FS := [{ vs := [.g [.lf .bool, .lf (.sl (.int .i64)), .lf .bool, .lf (.sl (.int .i64))]], bs := [] }]
def Ishuntref02_Lowest (k : Nat) : Inst := ⟨57, shshuntref02_Lowest, rsshuntref02_Lowest, fun x => Fshuntref02_Lowest k x.1 x.2.1 x.2.2.1 x.2.2.2⟩
theorem alshuntref02_Lowest (k : Nat) : AllI (call cf k) [Ishuntref01_Sign k, Ishuntref01_Minus k, Ishuntref01_Common k, Ishuntref01_Divide k] := And.intro (okshuntref01_Sign k) (And.intro (okshuntref01_Minus k) (And.intro (okshuntref01_Common k) (And.intro (okshuntref01_Divide k) (True.intro))))
theorem anshuntref02_Lowest (k : Nat) : LAll (LOk (R := DS FS.D rsshuntref02_Lowest) (fun b _ σ K => LOt Ty (kps 57) 0 b σ K []) cf (call cf k) (cf.keep 57) Tryz.f57.ntmps k shshuntref02_Lowest.bs.length) 0 (bd Tryz.f57) :=
  And.intro (True.intro) (And.intro (And.intro (True.intro) (And.intro (True.intro) (True.intro))) (And.intro (True.intro) (And.intro (True.intro) (And.intro (True.intro) (And.intro (True.intro) (True.intro))))))
theorem stshuntref02_Lowest (k : Nat) (x : shshuntref02_Lowest.D) : Fshuntref02_Lowest (k + 1) x.1 x.2.1 x.2.2.1 x.2.2.2 = body2 cf (fun f a b K => COt f a b K [Ishuntref01_Sign k, Ishuntref01_Minus k, Ishuntref01_Common k, Ishuntref01_Divide k]) (fun b _ σ K => LOt Ty (kps 57) 0 b σ K []) 57 Tryz.f57.ntmps Tryz.f57.results.toList (bd Tryz.f57) (shshuntref02_Lowest.enc x).1 (shshuntref02_Lowest.enc x).2 (putS FS.dec rsshuntref02_Lowest) := by kernel_rfl
theorem okshuntref02_Lowest : ∀ k, InstOk (call cf k) (Ishuntref02_Lowest k)
  | 0 => fun x y e => absurd (show (none : Option _) = some y from e) (by simp)
  | k + 1 => inst_ok (c := cf) (k := k) (f := 57) (fn := Tryz.f57) (body := bd Tryz.f57) (sh := shshuntref02_Lowest) (os := rsshuntref02_Lowest) rfl Tryz.func57 rfl ⟨rfl, Nat.le_of_ble_eq_true rfl⟩ (COt_ok (alshuntref02_Lowest k)) (anshuntref02_Lowest k) (fun x => Fshuntref02_Lowest (k + 1) x.1 x.2.1 x.2.2.1 x.2.2.2) (stshuntref02_Lowest k)

/-! shunt/shuntref02.Plus -/
def bshuntref02_Plus (k : Nat) (a0 : Bool) (a1 : List Int) (a2 : Bool) (a3 : List Int) (b0 : Bool) (b1 : List Int) (b2 : Bool) (b3 : List Int) : Option (Bool × List Int × Bool × List Int) :=
  Option.bind (Fshuntref01_Times k a0 a1 b2 b3) fun r12 =>
  Option.bind (Fshuntref01_Times k b0 b1 a2 a3) fun r13 =>
  Option.bind (Fshuntref01_Plus k r12.1 r12.2 r13.1 r13.2) fun r14 =>
  Option.bind (Fshuntref01_Times k a2 a3 b2 b3) fun r15 =>
  Option.bind (Fshuntref02_Lowest k r14.1 r14.2 r15.1 r15.2) fun r16 =>
  (some (r16.1, r16.2.1, r16.2.2.1, r16.2.2.2))
def Fshuntref02_Plus : Nat → Bool → List Int → Bool → List Int → Bool → List Int → Bool → List Int → Option (Bool × List Int × Bool × List Int)
  | 0, _, _, _, _, _, _, _, _ => none
  | k + 1, a0, a1, a2, a3, b0, b1, b2, b3 => bshuntref02_Plus k a0 a1 a2 a3 b0 b1 b2 b3
def shshuntref02_Plus : FS := { vs := [.g [.lf .bool, .lf (.sl (.int .i64)), .lf .bool, .lf (.sl (.int .i64))], .g [.lf .bool, .lf (.sl (.int .i64)), .lf .bool, .lf (.sl (.int .i64))]], bs := [] }
def rsshuntref02_Plus : List FS := [{ vs := [.g [.lf .bool, .lf (.sl (.int .i64)), .lf .bool, .lf (.sl (.int .i64))]], bs := [] }]
def Ishuntref02_Plus (k : Nat) : Inst := ⟨31, shshuntref02_Plus, rsshuntref02_Plus, fun x => Fshuntref02_Plus k x.1 x.2.1 x.2.2.1 x.2.2.2.1 x.2.2.2.2.1 x.2.2.2.2.2.1 x.2.2.2.2.2.2.1 x.2.2.2.2.2.2.2⟩
theorem alshuntref02_Plus (k : Nat) : AllI (call cf k) [Ishuntref01_Times k, Ishuntref01_Plus k, Ishuntref02_Lowest k] := And.intro (okshuntref01_Times k) (And.intro (okshuntref01_Plus k) (And.intro (okshuntref02_Lowest k) (True.intro)))
theorem anshuntref02_Plus (k : Nat) : LAll (LOk (R := DS FS.D rsshuntref02_Plus) (fun b _ σ K => LOt Ty (kps 31) 0 b σ K []) cf (call cf k) (cf.keep 31) Tryz.f31.ntmps k shshuntref02_Plus.bs.length) 0 (bd Tryz.f31) :=
  And.intro (True.intro) (And.intro (True.intro) (True.intro))
theorem stshuntref02_Plus (k : Nat) (x : shshuntref02_Plus.D) : Fshuntref02_Plus (k + 1) x.1 x.2.1 x.2.2.1 x.2.2.2.1 x.2.2.2.2.1 x.2.2.2.2.2.1 x.2.2.2.2.2.2.1 x.2.2.2.2.2.2.2 = body2 cf (fun f a b K => COt f a b K [Ishuntref01_Times k, Ishuntref01_Plus k, Ishuntref02_Lowest k]) (fun b _ σ K => LOt Ty (kps 31) 0 b σ K []) 31 Tryz.f31.ntmps Tryz.f31.results.toList (bd Tryz.f31) (shshuntref02_Plus.enc x).1 (shshuntref02_Plus.enc x).2 (putS FS.dec rsshuntref02_Plus) := by kernel_rfl
theorem okshuntref02_Plus : ∀ k, InstOk (call cf k) (Ishuntref02_Plus k)
  | 0 => fun x y e => absurd (show (none : Option _) = some y from e) (by simp)
  | k + 1 => inst_ok (c := cf) (k := k) (f := 31) (fn := Tryz.f31) (body := bd Tryz.f31) (sh := shshuntref02_Plus) (os := rsshuntref02_Plus) rfl Tryz.func31 rfl ⟨rfl, Nat.le_of_ble_eq_true rfl⟩ (COt_ok (alshuntref02_Plus k)) (anshuntref02_Plus k) (fun x => Fshuntref02_Plus (k + 1) x.1 x.2.1 x.2.2.1 x.2.2.2.1 x.2.2.2.2.1 x.2.2.2.2.2.1 x.2.2.2.2.2.2.1 x.2.2.2.2.2.2.2) (stshuntref02_Plus k)

/-! shunt/shuntref01.Length -/
def bshuntref01_Length (k : Nat) (a0 : Bool) (a1 : List Int) : Option (Int) :=
  (some (IntKind.wrap .i64 (Int.tdiv (IntKind.wrap .i64 ((((List.length a1) : Nat) : Int) + (1 : Int))) (2 : Int))))
def Fshuntref01_Length : Nat → Bool → List Int → Option (Int)
  | 0, _, _ => none
  | k + 1, a0, a1 => bshuntref01_Length k a0 a1
def shshuntref01_Length : FS := { vs := [.g [.lf .bool, .lf (.sl (.int .i64))]], bs := [] }
def rsshuntref01_Length : List FS := [{ vs := [.a (.lf (.int .i64))], bs := [] }]
def Ishuntref01_Length (k : Nat) : Inst := ⟨55, shshuntref01_Length, rsshuntref01_Length, fun x => Fshuntref01_Length k x.1 x.2⟩
theorem alshuntref01_Length (k : Nat) : AllI (call cf k) [] := True.intro
theorem anshuntref01_Length (k : Nat) : LAll (LOk (R := DS FS.D rsshuntref01_Length) (fun b _ σ K => LOt Ty (kps 55) 0 b σ K []) cf (call cf k) (cf.keep 55) Tryz.f55.ntmps k shshuntref01_Length.bs.length) 0 (bd Tryz.f55) :=
  And.intro (True.intro) (And.intro (True.intro) (True.intro))
theorem stshuntref01_Length (k : Nat) (x : shshuntref01_Length.D) : Fshuntref01_Length (k + 1) x.1 x.2 = body2 cf (fun f a b K => COt f a b K []) (fun b _ σ K => LOt Ty (kps 55) 0 b σ K []) 55 Tryz.f55.ntmps Tryz.f55.results.toList (bd Tryz.f55) (shshuntref01_Length.enc x).1 (shshuntref01_Length.enc x).2 (putS FS.dec rsshuntref01_Length) := by kernel_rfl
theorem okshuntref01_Length : ∀ k, InstOk (call cf k) (Ishuntref01_Length k)
  | 0 => fun x y e => absurd (show (none : Option _) = some y from e) (by simp)
  | k + 1 => inst_ok (c := cf) (k := k) (f := 55) (fn := Tryz.f55) (body := bd Tryz.f55) (sh := shshuntref01_Length) (os := rsshuntref01_Length) rfl Tryz.func55 rfl ⟨rfl, Nat.le_of_ble_eq_true rfl⟩ (COt_ok (alshuntref01_Length k)) (anshuntref01_Length k) (fun x => Fshuntref01_Length (k + 1) x.1 x.2) (stshuntref01_Length k)

/-! shunt/shuntref01.Give -/
def Lshuntref01_Give_0s (k : Nat) (rec : Int → Bool → List Int → Bool → Nat → Bool → Nat → List Int → List Int → Option (Bool × List Int × Bool × Nat × Bool × Nat × List Int × List Int)) (i : Int) (a0 : Bool) (a1 : List Int) (x0 : Bool) (x1 : Nat) (out0 : Bool) (out1 : Nat) (m : List Int) (m1 : List Int) : Option (Bool × List Int × Bool × Nat × Bool × Nat × List Int × List Int) :=
  if ((decide (i < (((List.length a1) : Nat) : Int))) = true) then
    if ((0 : Int) ≤ i) then
      Option.bind (a1)[(Int.toNat i)]? fun x =>
      if ((decide ((IntKind.wrap .i64 (i + (1 : Int))) < (((List.length a1) : Nat) : Int))) = true) then
        if ((0 : Int) ≤ (IntKind.wrap .i64 (i + (1 : Int)))) then
          Option.bind (a1)[(Int.toNat (IntKind.wrap .i64 (i + (1 : Int))))]? fun x2 =>
          if (out1 ≤ (List.length m1)) then
            if (((out1 + (List.length (List.take 1 ((IntKind.wrap .u32 ((IntKind.wrap .u32 x) + (IntKind.wrap .u32 ((IntKind.wrap .u32 x2) * (65536 : Int))))) :: [])))) * 4) ≤ 140737488355328) then
              rec (IntKind.wrap .i64 (i + (2 : Int))) a0 a1 x0 x1 out0 (out1 + (List.length (List.take 1 ((IntKind.wrap .u32 ((IntKind.wrap .u32 x) + (IntKind.wrap .u32 ((IntKind.wrap .u32 x2) * (65536 : Int))))) :: [])))) m ((List.take out1 m1) ++ (List.take 1 ((IntKind.wrap .u32 ((IntKind.wrap .u32 x) + (IntKind.wrap .u32 ((IntKind.wrap .u32 x2) * (65536 : Int))))) :: [])))
            else
            none
          else
          none
        else
        none
      else
      if (out1 ≤ (List.length m1)) then
        if (((out1 + (List.length (List.take 1 ((IntKind.wrap .u32 x) :: [])))) * 4) ≤ 140737488355328) then
          rec (IntKind.wrap .i64 (i + (2 : Int))) a0 a1 x0 x1 out0 (out1 + (List.length (List.take 1 ((IntKind.wrap .u32 x) :: [])))) m ((List.take out1 m1) ++ (List.take 1 ((IntKind.wrap .u32 x) :: [])))
        else
        none
      else
      none
    else
    none
  else
  (some (a0, a1, x0, x1, out0, out1, m, m1))
def Lshuntref01_Give_0 (k n : Nat) : Int → Bool → List Int → Bool → Nat → Bool → Nat → List Int → List Int → Option (Bool × List Int × Bool × Nat × Bool × Nat × List Int × List Int) := Nat.rec (fun _ _ _ _ _ _ _ _ _ => none) (fun _ r => Lshuntref01_Give_0s k r) n
def bshuntref01_Give (k : Nat) (a0 : Bool) (a1 : List Int) : Option (Bool × List Int) :=
  Option.bind (Lshuntref01_Give_0 k k (0 : Int) a0 a1 false 0 a0 0 [] []) fun r15 =>
  if ((0 + r15.2.2.2.2.2.1) ≤ (List.length r15.2.2.2.2.2.2.2)) then
    (some (r15.2.2.2.2.1, (List.take r15.2.2.2.2.2.1 r15.2.2.2.2.2.2.2)))
  else
  none
def Fshuntref01_Give : Nat → Bool → List Int → Option (Bool × List Int)
  | 0, _, _ => none
  | k + 1, a0, a1 => bshuntref01_Give k a0 a1
def shshuntref01_Give : FS := { vs := [.g [.lf .bool, .lf (.sl (.int .i64))]], bs := [] }
def rsshuntref01_Give : List FS := [{ vs := [.g [.lf .bool, .lf (.sl (.int .u32))]], bs := [] }]
def Ishuntref01_Give (k : Nat) : Inst := ⟨85, shshuntref01_Give, rsshuntref01_Give, fun x => Fshuntref01_Give k x.1 x.2⟩
theorem alshuntref01_Give (k : Nat) : AllI (call cf k) [] := True.intro
def hsshuntref01_Give_0 : List SS := [{ fr := [(1, .a (.ptr 0 0 0)), (2, .a (.ptr 1 0 0)), (3, .a (.ptr 2 0 0)), (4, .a (.lf (.int .i64)))], mem := [(0, some (.raw [[.lf .bool, .lf (.sl (.int .i64))]] 2 58 true false)), (1, some (.raw [[.lf .bool, .smz 3]] 2 24 false false)), (2, some (.raw [[.lf .bool, .smz 4]] 2 24 false false)), (3, some (.arr (.int .u32) 1 40 false)), (4, some (.arr (.int .u32) 1 40 false))], nx := 5 }]
def osshuntref01_Give_0 : List OS := [⟨some 0, { fr := [(2, .a (.ptr 1 0 0)), (3, .a (.ptr 2 0 0))], mem := [(0, some (.raw [[.lf .bool, .lf (.sl (.int .i64))]] 2 58 true false)), (1, some (.raw [[.lf .bool, .smz 3]] 2 24 false false)), (2, some (.raw [[.lf .bool, .smz 4]] 2 24 false false)), (3, some (.arr (.int .u32) 1 40 false)), (4, some (.arr (.int .u32) 1 40 false))], nx := 5 }⟩]
def LIshuntref01_Give_0 (k : Nat) : LInst := ⟨0, hsshuntref01_Give_0, osshuntref01_Give_0, fun x => Lshuntref01_Give_0 k k x.1 x.2.1 x.2.2.1 x.2.2.2.1 x.2.2.2.2.1 x.2.2.2.2.2.1 x.2.2.2.2.2.2.1 x.2.2.2.2.2.2.2.1 x.2.2.2.2.2.2.2.2⟩
theorem anshuntref01_Give_0 (k : Nat) : LAll (LOk (R := DS OS.D osshuntref01_Give_0) (fun b _ σ K => LOt Ty (kps 85) 0 b σ K []) cf (call cf k) (kps 85) Tryz.f85.ntmps k 0) 0 (lb Tryz.f85 0) :=
  And.intro (And.intro (True.intro) (And.intro (True.intro) (True.intro))) (And.intro (And.intro (True.intro) (And.intro (And.intro (True.intro) (And.intro (True.intro) (True.intro))) (True.intro))) (True.intro))
theorem stshuntref01_Give_0 (k n : Nat) (x : DS SS.D hsshuntref01_Give_0) : Lshuntref01_Give_0 k (n + 1) x.1 x.2.1 x.2.2.1 x.2.2.2.1 x.2.2.2.2.1 x.2.2.2.2.2.1 x.2.2.2.2.2.2.1 x.2.2.2.2.2.2.2.1 x.2.2.2.2.2.2.2.2 = encSK SS.enc (fun σ => run2 cf (fun f a b K => COt f a b K []) (fun b _ σ K => LOt Ty (kps 85) 0 b σ K []) Tryz.f85.ntmps 0 (lb Tryz.f85 0) σ (nextK Ty (kps 85 0) 0 hsshuntref01_Give_0 osshuntref01_Give_0 fun x => Lshuntref01_Give_0 k n x.1 x.2.1 x.2.2.1 x.2.2.2.1 x.2.2.2.2.1 x.2.2.2.2.2.1 x.2.2.2.2.2.2.1 x.2.2.2.2.2.2.2.1 x.2.2.2.2.2.2.2.2)) hsshuntref01_Give_0 x := by kernel_rfl
theorem loshuntref01_Give_0 (k : Nat) : LIOk cf (call cf k) (kps 85) Tryz.f85.ntmps k 0 0 (lb Tryz.f85 0) (LIshuntref01_Give_0 k) :=
  loop_ok (c := cf) (callF := call cf k) (kp := kps 85) (nt := Tryz.f85.ntmps) (k := k) (p := 0) (b := 0) (x0 := lb Tryz.f85 0) (hs := hsshuntref01_Give_0) (os := osshuntref01_Give_0) (COt_ok (alshuntref01_Give k)) (anshuntref01_Give_0 k) (fun n x => Lshuntref01_Give_0 k n x.1 x.2.1 x.2.2.1 x.2.2.2.1 x.2.2.2.2.1 x.2.2.2.2.2.1 x.2.2.2.2.2.2.1 x.2.2.2.2.2.2.2.1 x.2.2.2.2.2.2.2.2) (fun _ => rfl) (stshuntref01_Give_0 k)
theorem anshuntref01_Give (k : Nat) : LAll (LOk (R := DS FS.D rsshuntref01_Give) (fun b _ σ K => LOt Ty (kps 85) 0 b σ K [LIshuntref01_Give_0 k]) cf (call cf k) (cf.keep 85) Tryz.f85.ntmps k shshuntref01_Give.bs.length) 0 (bd Tryz.f85) :=
  And.intro (True.intro) (And.intro (True.intro) (And.intro (And.intro (True.intro) (LOt_ok (c := cf) (callF := call cf k) (kp := kps 85) (nt := Tryz.f85.ntmps) (k := k) (p := 0) (b := 0) (x0 := lb Tryz.f85 0) (l := [LIshuntref01_Give_0 k]) (And.intro (fun _ => loshuntref01_Give_0 k) (True.intro)))) (And.intro (True.intro) (True.intro))))
theorem stshuntref01_Give (k : Nat) (x : shshuntref01_Give.D) : Fshuntref01_Give (k + 1) x.1 x.2 = body2 cf (fun f a b K => COt f a b K []) (fun b _ σ K => LOt Ty (kps 85) 0 b σ K [LIshuntref01_Give_0 k]) 85 Tryz.f85.ntmps Tryz.f85.results.toList (bd Tryz.f85) (shshuntref01_Give.enc x).1 (shshuntref01_Give.enc x).2 (putS FS.dec rsshuntref01_Give) := by kernel_rfl
theorem okshuntref01_Give : ∀ k, InstOk (call cf k) (Ishuntref01_Give k)
  | 0 => fun x y e => absurd (show (none : Option _) = some y from e) (by simp)
  | k + 1 => inst_ok (c := cf) (k := k) (f := 85) (fn := Tryz.f85) (body := bd Tryz.f85) (sh := shshuntref01_Give) (os := rsshuntref01_Give) rfl Tryz.func85 rfl ⟨rfl, Nat.le_of_ble_eq_true rfl⟩ (COt_ok (alshuntref01_Give k)) (anshuntref01_Give k) (fun x => Fshuntref01_Give (k + 1) x.1 x.2) (stshuntref01_Give k)

/-! shunt/shuntref02.Give -/
def bshuntref02_Give (k : Nat) (a0 : Bool) (a1 : List Int) (a2 : Bool) (a3 : List Int) : Option (Bool × List Int × Bool × List Int) :=
  Option.bind (Fshuntref01_Give k a0 a1) fun r15 =>
  Option.bind (Fshuntref01_Give k a2 a3) fun r16 =>
  (some (r15.1, r15.2, r16.1, r16.2))
def Fshuntref02_Give : Nat → Bool → List Int → Bool → List Int → Option (Bool × List Int × Bool × List Int)
  | 0, _, _, _, _ => none
  | k + 1, a0, a1, a2, a3 => bshuntref02_Give k a0 a1 a2 a3
def shshuntref02_Give : FS := { vs := [.g [.lf .bool, .lf (.sl (.int .i64)), .lf .bool, .lf (.sl (.int .i64))]], bs := [] }
def rsshuntref02_Give : List FS := [{ vs := [.g [.lf .bool, .lf (.sl (.int .u32)), .lf .bool, .lf (.sl (.int .u32))]], bs := [] }]
def Ishuntref02_Give (k : Nat) : Inst := ⟨56, shshuntref02_Give, rsshuntref02_Give, fun x => Fshuntref02_Give k x.1 x.2.1 x.2.2.1 x.2.2.2⟩
theorem alshuntref02_Give (k : Nat) : AllI (call cf k) [Ishuntref01_Give k] := And.intro (okshuntref01_Give k) (True.intro)
theorem anshuntref02_Give (k : Nat) : LAll (LOk (R := DS FS.D rsshuntref02_Give) (fun b _ σ K => LOt Ty (kps 56) 0 b σ K []) cf (call cf k) (cf.keep 56) Tryz.f56.ntmps k shshuntref02_Give.bs.length) 0 (bd Tryz.f56) :=
  And.intro (True.intro) (And.intro (True.intro) (True.intro))
theorem stshuntref02_Give (k : Nat) (x : shshuntref02_Give.D) : Fshuntref02_Give (k + 1) x.1 x.2.1 x.2.2.1 x.2.2.2 = body2 cf (fun f a b K => COt f a b K [Ishuntref01_Give k]) (fun b _ σ K => LOt Ty (kps 56) 0 b σ K []) 56 Tryz.f56.ntmps Tryz.f56.results.toList (bd Tryz.f56) (shshuntref02_Give.enc x).1 (shshuntref02_Give.enc x).2 (putS FS.dec rsshuntref02_Give) := by kernel_rfl
theorem okshuntref02_Give : ∀ k, InstOk (call cf k) (Ishuntref02_Give k)
  | 0 => fun x y e => absurd (show (none : Option _) = some y from e) (by simp)
  | k + 1 => inst_ok (c := cf) (k := k) (f := 56) (fn := Tryz.f56) (body := bd Tryz.f56) (sh := shshuntref02_Give) (os := rsshuntref02_Give) rfl Tryz.func56 rfl ⟨rfl, Nat.le_of_ble_eq_true rfl⟩ (COt_ok (alshuntref02_Give k)) (anshuntref02_Give k) (fun x => Fshuntref02_Give (k + 1) x.1 x.2.1 x.2.2.1 x.2.2.2) (stshuntref02_Give k)

/-! shunt/shuntref02.told -/
def bshuntref02_told (k : Nat) (a0 : Bool) (a1 : List Int) (a2 : Bool) (a3 : List Int) : Option (Bool × List Int × Bool × List Int × Int) :=
  Option.bind (Fshuntref01_Length k a0 a1) fun r13 =>
  if ((decide (r13 > (72 : Int))) = false) then
    Option.bind (Fshuntref01_Length k a2 a3) fun r14 =>
    if ((decide (r14 > (72 : Int))) = true) then
      (some (false, [], false, [], (13 : Int)))
    else
    Option.bind (Fshuntref02_Give k a0 a1 a2 a3) fun r15 =>
    (some (r15.1, r15.2.1, r15.2.2.1, r15.2.2.2, (0 : Int)))
  else
  (some (false, [], false, [], (13 : Int)))
def Fshuntref02_told : Nat → Bool → List Int → Bool → List Int → Option (Bool × List Int × Bool × List Int × Int)
  | 0, _, _, _, _ => none
  | k + 1, a0, a1, a2, a3 => bshuntref02_told k a0 a1 a2 a3
def shshuntref02_told : FS := { vs := [.g [.lf .bool, .lf (.sl (.int .i64)), .lf .bool, .lf (.sl (.int .i64))]], bs := [] }
def rsshuntref02_told : List FS := [{ vs := [.g [.lf .bool, .lf (.sl (.int .u32)), .lf .bool, .lf (.sl (.int .u32))], .a (.lf (.int .i64))], bs := [] }]
def Ishuntref02_told (k : Nat) : Inst := ⟨30, shshuntref02_told, rsshuntref02_told, fun x => Fshuntref02_told k x.1 x.2.1 x.2.2.1 x.2.2.2⟩
theorem alshuntref02_told (k : Nat) : AllI (call cf k) [Ishuntref01_Length k, Ishuntref02_Give k] := And.intro (okshuntref01_Length k) (And.intro (okshuntref02_Give k) (True.intro))
theorem anshuntref02_told (k : Nat) : LAll (LOk (R := DS FS.D rsshuntref02_told) (fun b _ σ K => LOt Ty (kps 30) 0 b σ K []) cf (call cf k) (cf.keep 30) Tryz.f30.ntmps k shshuntref02_told.bs.length) 0 (bd Tryz.f30) :=
  And.intro (True.intro) (And.intro (And.intro (True.intro) (And.intro (And.intro (True.intro) (True.intro)) (True.intro))) (And.intro (True.intro) (True.intro)))
theorem stshuntref02_told (k : Nat) (x : shshuntref02_told.D) : Fshuntref02_told (k + 1) x.1 x.2.1 x.2.2.1 x.2.2.2 = body2 cf (fun f a b K => COt f a b K [Ishuntref01_Length k, Ishuntref02_Give k]) (fun b _ σ K => LOt Ty (kps 30) 0 b σ K []) 30 Tryz.f30.ntmps Tryz.f30.results.toList (bd Tryz.f30) (shshuntref02_told.enc x).1 (shshuntref02_told.enc x).2 (putS FS.dec rsshuntref02_told) := by kernel_rfl
theorem okshuntref02_told : ∀ k, InstOk (call cf k) (Ishuntref02_told k)
  | 0 => fun x y e => absurd (show (none : Option _) = some y from e) (by simp)
  | k + 1 => inst_ok (c := cf) (k := k) (f := 30) (fn := Tryz.f30) (body := bd Tryz.f30) (sh := shshuntref02_told) (os := rsshuntref02_told) rfl Tryz.func30 rfl ⟨rfl, Nat.le_of_ble_eq_true rfl⟩ (COt_ok (alshuntref02_told k)) (anshuntref02_told k) (fun x => Fshuntref02_told (k + 1) x.1 x.2.1 x.2.2.1 x.2.2.2) (stshuntref02_told k)

/-! shunt/shuntref02.Minus -/
def bshuntref02_Minus (k : Nat) (a0 : Bool) (a1 : List Int) (a2 : Bool) (a3 : List Int) : Option (Bool × List Int × Bool × List Int) :=
  Option.bind (Fshuntref01_Minus k a0 a1) fun r12 =>
  (some (r12.1, r12.2, a2, a3))
def Fshuntref02_Minus : Nat → Bool → List Int → Bool → List Int → Option (Bool × List Int × Bool × List Int)
  | 0, _, _, _, _ => none
  | k + 1, a0, a1, a2, a3 => bshuntref02_Minus k a0 a1 a2 a3
def shshuntref02_Minus : FS := { vs := [.g [.lf .bool, .lf (.sl (.int .i64)), .lf .bool, .lf (.sl (.int .i64))]], bs := [] }
def rsshuntref02_Minus : List FS := [{ vs := [.g [.lf .bool, .lf (.sl (.int .i64)), .lf .bool, .lf (.sl (.int .i64))]], bs := [] }]
def Ishuntref02_Minus (k : Nat) : Inst := ⟨60, shshuntref02_Minus, rsshuntref02_Minus, fun x => Fshuntref02_Minus k x.1 x.2.1 x.2.2.1 x.2.2.2⟩
theorem alshuntref02_Minus (k : Nat) : AllI (call cf k) [Ishuntref01_Minus k] := And.intro (okshuntref01_Minus k) (True.intro)
theorem anshuntref02_Minus (k : Nat) : LAll (LOk (R := DS FS.D rsshuntref02_Minus) (fun b _ σ K => LOt Ty (kps 60) 0 b σ K []) cf (call cf k) (cf.keep 60) Tryz.f60.ntmps k shshuntref02_Minus.bs.length) 0 (bd Tryz.f60) :=
  And.intro (True.intro) (And.intro (True.intro) (True.intro))
theorem stshuntref02_Minus (k : Nat) (x : shshuntref02_Minus.D) : Fshuntref02_Minus (k + 1) x.1 x.2.1 x.2.2.1 x.2.2.2 = body2 cf (fun f a b K => COt f a b K [Ishuntref01_Minus k]) (fun b _ σ K => LOt Ty (kps 60) 0 b σ K []) 60 Tryz.f60.ntmps Tryz.f60.results.toList (bd Tryz.f60) (shshuntref02_Minus.enc x).1 (shshuntref02_Minus.enc x).2 (putS FS.dec rsshuntref02_Minus) := by kernel_rfl
theorem okshuntref02_Minus : ∀ k, InstOk (call cf k) (Ishuntref02_Minus k)
  | 0 => fun x y e => absurd (show (none : Option _) = some y from e) (by simp)
  | k + 1 => inst_ok (c := cf) (k := k) (f := 60) (fn := Tryz.f60) (body := bd Tryz.f60) (sh := shshuntref02_Minus) (os := rsshuntref02_Minus) rfl Tryz.func60 rfl ⟨rfl, Nat.le_of_ble_eq_true rfl⟩ (COt_ok (alshuntref02_Minus k)) (anshuntref02_Minus k) (fun x => Fshuntref02_Minus (k + 1) x.1 x.2.1 x.2.2.1 x.2.2.2) (stshuntref02_Minus k)

/-! shunt/shuntref02.Less -/
def bshuntref02_Less (k : Nat) (a0 : Bool) (a1 : List Int) (a2 : Bool) (a3 : List Int) (b0 : Bool) (b1 : List Int) (b2 : Bool) (b3 : List Int) : Option (Bool × List Int × Bool × List Int) :=
  Option.bind (Fshuntref02_Minus k b0 b1 b2 b3) fun r12 =>
  Option.bind (Fshuntref02_Plus k a0 a1 a2 a3 r12.1 r12.2.1 r12.2.2.1 r12.2.2.2) fun r13 =>
  (some (r13.1, r13.2.1, r13.2.2.1, r13.2.2.2))
def Fshuntref02_Less : Nat → Bool → List Int → Bool → List Int → Bool → List Int → Bool → List Int → Option (Bool × List Int × Bool × List Int)
  | 0, _, _, _, _, _, _, _, _ => none
  | k + 1, a0, a1, a2, a3, b0, b1, b2, b3 => bshuntref02_Less k a0 a1 a2 a3 b0 b1 b2 b3
def shshuntref02_Less : FS := { vs := [.g [.lf .bool, .lf (.sl (.int .i64)), .lf .bool, .lf (.sl (.int .i64))], .g [.lf .bool, .lf (.sl (.int .i64)), .lf .bool, .lf (.sl (.int .i64))]], bs := [] }
def rsshuntref02_Less : List FS := [{ vs := [.g [.lf .bool, .lf (.sl (.int .i64)), .lf .bool, .lf (.sl (.int .i64))]], bs := [] }]
def Ishuntref02_Less (k : Nat) : Inst := ⟨32, shshuntref02_Less, rsshuntref02_Less, fun x => Fshuntref02_Less k x.1 x.2.1 x.2.2.1 x.2.2.2.1 x.2.2.2.2.1 x.2.2.2.2.2.1 x.2.2.2.2.2.2.1 x.2.2.2.2.2.2.2⟩
theorem alshuntref02_Less (k : Nat) : AllI (call cf k) [Ishuntref02_Minus k, Ishuntref02_Plus k] := And.intro (okshuntref02_Minus k) (And.intro (okshuntref02_Plus k) (True.intro))
theorem anshuntref02_Less (k : Nat) : LAll (LOk (R := DS FS.D rsshuntref02_Less) (fun b _ σ K => LOt Ty (kps 32) 0 b σ K []) cf (call cf k) (cf.keep 32) Tryz.f32.ntmps k shshuntref02_Less.bs.length) 0 (bd Tryz.f32) :=
  And.intro (True.intro) (And.intro (True.intro) (True.intro))
theorem stshuntref02_Less (k : Nat) (x : shshuntref02_Less.D) : Fshuntref02_Less (k + 1) x.1 x.2.1 x.2.2.1 x.2.2.2.1 x.2.2.2.2.1 x.2.2.2.2.2.1 x.2.2.2.2.2.2.1 x.2.2.2.2.2.2.2 = body2 cf (fun f a b K => COt f a b K [Ishuntref02_Minus k, Ishuntref02_Plus k]) (fun b _ σ K => LOt Ty (kps 32) 0 b σ K []) 32 Tryz.f32.ntmps Tryz.f32.results.toList (bd Tryz.f32) (shshuntref02_Less.enc x).1 (shshuntref02_Less.enc x).2 (putS FS.dec rsshuntref02_Less) := by kernel_rfl
theorem okshuntref02_Less : ∀ k, InstOk (call cf k) (Ishuntref02_Less k)
  | 0 => fun x y e => absurd (show (none : Option _) = some y from e) (by simp)
  | k + 1 => inst_ok (c := cf) (k := k) (f := 32) (fn := Tryz.f32) (body := bd Tryz.f32) (sh := shshuntref02_Less) (os := rsshuntref02_Less) rfl Tryz.func32 rfl ⟨rfl, Nat.le_of_ble_eq_true rfl⟩ (COt_ok (alshuntref02_Less k)) (anshuntref02_Less k) (fun x => Fshuntref02_Less (k + 1) x.1 x.2.1 x.2.2.1 x.2.2.2.1 x.2.2.2.2.1 x.2.2.2.2.2.1 x.2.2.2.2.2.2.1 x.2.2.2.2.2.2.2) (stshuntref02_Less k)

/-! shunt/shuntref02.Times -/
def bshuntref02_Times (k : Nat) (a0 : Bool) (a1 : List Int) (a2 : Bool) (a3 : List Int) (b0 : Bool) (b1 : List Int) (b2 : Bool) (b3 : List Int) : Option (Bool × List Int × Bool × List Int) :=
  Option.bind (Fshuntref01_Times k a0 a1 b0 b1) fun r12 =>
  Option.bind (Fshuntref01_Times k a2 a3 b2 b3) fun r13 =>
  Option.bind (Fshuntref02_Lowest k r12.1 r12.2 r13.1 r13.2) fun r14 =>
  (some (r14.1, r14.2.1, r14.2.2.1, r14.2.2.2))
def Fshuntref02_Times : Nat → Bool → List Int → Bool → List Int → Bool → List Int → Bool → List Int → Option (Bool × List Int × Bool × List Int)
  | 0, _, _, _, _, _, _, _, _ => none
  | k + 1, a0, a1, a2, a3, b0, b1, b2, b3 => bshuntref02_Times k a0 a1 a2 a3 b0 b1 b2 b3
def shshuntref02_Times : FS := { vs := [.g [.lf .bool, .lf (.sl (.int .i64)), .lf .bool, .lf (.sl (.int .i64))], .g [.lf .bool, .lf (.sl (.int .i64)), .lf .bool, .lf (.sl (.int .i64))]], bs := [] }
def rsshuntref02_Times : List FS := [{ vs := [.g [.lf .bool, .lf (.sl (.int .i64)), .lf .bool, .lf (.sl (.int .i64))]], bs := [] }]
def Ishuntref02_Times (k : Nat) : Inst := ⟨33, shshuntref02_Times, rsshuntref02_Times, fun x => Fshuntref02_Times k x.1 x.2.1 x.2.2.1 x.2.2.2.1 x.2.2.2.2.1 x.2.2.2.2.2.1 x.2.2.2.2.2.2.1 x.2.2.2.2.2.2.2⟩
theorem alshuntref02_Times (k : Nat) : AllI (call cf k) [Ishuntref01_Times k, Ishuntref02_Lowest k] := And.intro (okshuntref01_Times k) (And.intro (okshuntref02_Lowest k) (True.intro))
theorem anshuntref02_Times (k : Nat) : LAll (LOk (R := DS FS.D rsshuntref02_Times) (fun b _ σ K => LOt Ty (kps 33) 0 b σ K []) cf (call cf k) (cf.keep 33) Tryz.f33.ntmps k shshuntref02_Times.bs.length) 0 (bd Tryz.f33) :=
  And.intro (True.intro) (And.intro (True.intro) (True.intro))
theorem stshuntref02_Times (k : Nat) (x : shshuntref02_Times.D) : Fshuntref02_Times (k + 1) x.1 x.2.1 x.2.2.1 x.2.2.2.1 x.2.2.2.2.1 x.2.2.2.2.2.1 x.2.2.2.2.2.2.1 x.2.2.2.2.2.2.2 = body2 cf (fun f a b K => COt f a b K [Ishuntref01_Times k, Ishuntref02_Lowest k]) (fun b _ σ K => LOt Ty (kps 33) 0 b σ K []) 33 Tryz.f33.ntmps Tryz.f33.results.toList (bd Tryz.f33) (shshuntref02_Times.enc x).1 (shshuntref02_Times.enc x).2 (putS FS.dec rsshuntref02_Times) := by kernel_rfl
theorem okshuntref02_Times : ∀ k, InstOk (call cf k) (Ishuntref02_Times k)
  | 0 => fun x y e => absurd (show (none : Option _) = some y from e) (by simp)
  | k + 1 => inst_ok (c := cf) (k := k) (f := 33) (fn := Tryz.f33) (body := bd Tryz.f33) (sh := shshuntref02_Times) (os := rsshuntref02_Times) rfl Tryz.func33 rfl ⟨rfl, Nat.le_of_ble_eq_true rfl⟩ (COt_ok (alshuntref02_Times k)) (anshuntref02_Times k) (fun x => Fshuntref02_Times (k + 1) x.1 x.2.1 x.2.2.1 x.2.2.2.1 x.2.2.2.2.1 x.2.2.2.2.2.1 x.2.2.2.2.2.2.1 x.2.2.2.2.2.2.2) (stshuntref02_Times k)


end
end Go.Proofs.YtjgpegpjmkgkkaaGreat.Am
