/- Printed functions: each says what the typed machine says of the program -/
import Derived.Test.YtjgpegpjmkgkkaaMP1
import Derived.KernelRfl

set_option linter.unusedVariables false
set_option maxRecDepth 100000
namespace Go.Proofs.Ytjgpegpjmkgkkaa.Am
open Go
noncomputable section

/-! shunt/shuntlaw02.awake -/
def bshuntlaw02_awake (k : Nat) : Option (Bool) :=
  Option.bind (Fshuntlaw02_of k (1 : Int) (2 : Int)) fun r =>
  Option.bind (Fshuntlaw02_of k (2 : Int) (6 : Int)) fun r1 =>
  Option.bind (Frat_Add k r.1 r.2.1 r.2.2.1 r.2.2.2 r1.1 r1.2.1 r1.2.2.1 r1.2.2.2) fun r2 =>
  Option.bind (Fshuntlaw02_of k (-(3 : Int)) (2 : Int)) fun r3 =>
  Option.bind (Frat_Round k r3.1 r3.2.1 r3.2.2.1 r3.2.2.2) fun r4 =>
  if ((r2.2.2.2.2 == (0 : Int)) = true) then
    if ((r4.2 == (0 : Int)) = true) then
      if ((r4.1 == (-(2 : Int))) = true) then
        Option.bind (Fshuntlaw02_of k (5 : Int) (6 : Int)) fun r5 =>
        Option.bind (Fshuntlaw02_same k r2.1 r2.2.1 r2.2.2.1 r2.2.2.2.1 r5.1 r5.2.1 r5.2.2.1 r5.2.2.2) fun r6 =>
        if (r6 = true) then
          if (((((List.length r2.2.2.2.1) : Nat) : Int) == (1 : Int)) = true) then
            Option.bind (r2.2.2.2.1)[0]? fun x =>
            if ((x == (6 : Int)) = true) then
              Option.bind (Frat_Check k false [] false []) fun r7 =>
              (some (r7 == (20 : Int)))
            else
            (some false)
          else
          (some false)
        else
        (some false)
      else
      (some false)
    else
    (some false)
  else
  (some false)
def Fshuntlaw02_awake : Nat → Option (Bool)
  | 0 => none
  | k + 1 => bshuntlaw02_awake k
def shshuntlaw02_awake : FS := { vs := [], bs := [] }
def rsshuntlaw02_awake : List FS := [{ vs := [.a (.lf .bool)], bs := [] }]
def Ishuntlaw02_awake (k : Nat) : Inst := ⟨9, shshuntlaw02_awake, rsshuntlaw02_awake, fun x => Fshuntlaw02_awake k⟩
theorem alshuntlaw02_awake (k : Nat) : AllI (call cf k) [Ishuntlaw02_of k, Irat_Add k, Irat_Round k, Ishuntlaw02_same k, Irat_Check k] := And.intro (okshuntlaw02_of k) (And.intro (okrat_Add k) (And.intro (okrat_Round k) (And.intro (okshuntlaw02_same k) (And.intro (okrat_Check k) (True.intro)))))
theorem anshuntlaw02_awake (k : Nat) : LAll (LOk (R := DS FS.D rsshuntlaw02_awake) (fun b _ σ K => LOt Ty (kps 9) 0 b σ K []) cf (call cf k) (cf.keep 9) Try.f9.ntmps k shshuntlaw02_awake.bs.length) 0 (bd Try.f9) :=
  And.intro (True.intro) (And.intro (True.intro) (And.intro (True.intro) (And.intro (True.intro) (True.intro))))
theorem stshuntlaw02_awake (k : Nat) (x : shshuntlaw02_awake.D) : Fshuntlaw02_awake (k + 1) = body2 cf (fun f a b K => COt f a b K [Ishuntlaw02_of k, Irat_Add k, Irat_Round k, Ishuntlaw02_same k, Irat_Check k]) (fun b _ σ K => LOt Ty (kps 9) 0 b σ K []) 9 Try.f9.ntmps Try.f9.results.toList (bd Try.f9) (shshuntlaw02_awake.enc x).1 (shshuntlaw02_awake.enc x).2 (putS FS.dec rsshuntlaw02_awake) := by kernel_rfl
theorem okshuntlaw02_awake : ∀ k, InstOk (call cf k) (Ishuntlaw02_awake k)
  | 0 => fun x y e => absurd (show (none : Option _) = some y from e) (by simp)
  | k + 1 => inst_ok (c := cf) (k := k) (f := 9) (fn := Try.f9) (body := bd Try.f9) (sh := shshuntlaw02_awake) (os := rsshuntlaw02_awake) rfl Try.func9 rfl ⟨rfl, Nat.le_of_ble_eq_true rfl⟩ (COt_ok (alshuntlaw02_awake k)) (anshuntlaw02_awake k) (fun x => Fshuntlaw02_awake (k + 1)) (stshuntlaw02_awake k)

/-! shunt/shuntref01.Right -/
def bshuntref01_Right (k : Nat) (a0 : Bool) (a1 : List Int) : Option (Bool) :=
  if ((decide ((((List.length a1) : Nat) : Int) > (72 : Int))) = true) then
    (some false)
  else
  if (((((List.length a1) : Nat) : Int) == (0 : Int)) = true) then
    (some (!a0))
  else
  if ((0 : Int) ≤ (IntKind.wrap .i64 ((((List.length a1) : Nat) : Int) - (1 : Int)))) then
    Option.bind (a1)[(Int.toNat (IntKind.wrap .i64 ((((List.length a1) : Nat) : Int) - (1 : Int))))]? fun x =>
    (some (x != (0 : Int)))
  else
  none
def Fshuntref01_Right : Nat → Bool → List Int → Option (Bool)
  | 0, _, _ => none
  | k + 1, a0, a1 => bshuntref01_Right k a0 a1
def shshuntref01_Right : FS := { vs := [.g [.lf .bool, .lf (.sl (.int .u32))]], bs := [] }
def rsshuntref01_Right : List FS := [{ vs := [.a (.lf .bool)], bs := [] }]
def Ishuntref01_Right (k : Nat) : Inst := ⟨11, shshuntref01_Right, rsshuntref01_Right, fun x => Fshuntref01_Right k x.1 x.2⟩
theorem alshuntref01_Right (k : Nat) : AllI (call cf k) [] := True.intro
theorem anshuntref01_Right (k : Nat) : LAll (LOk (R := DS FS.D rsshuntref01_Right) (fun b _ σ K => LOt Ty (kps 11) 0 b σ K []) cf (call cf k) (cf.keep 11) Try.f11.ntmps k shshuntref01_Right.bs.length) 0 (bd Try.f11) :=
  And.intro (True.intro) (And.intro (True.intro) (And.intro (And.intro (True.intro) (And.intro (And.intro (True.intro) (True.intro)) (True.intro))) (And.intro (And.intro (True.intro) (And.intro (And.intro (True.intro) (True.intro)) (True.intro))) (And.intro (True.intro) (True.intro)))))
theorem stshuntref01_Right (k : Nat) (x : shshuntref01_Right.D) : Fshuntref01_Right (k + 1) x.1 x.2 = body2 cf (fun f a b K => COt f a b K []) (fun b _ σ K => LOt Ty (kps 11) 0 b σ K []) 11 Try.f11.ntmps Try.f11.results.toList (bd Try.f11) (shshuntref01_Right.enc x).1 (shshuntref01_Right.enc x).2 (putS FS.dec rsshuntref01_Right) := by kernel_rfl
theorem okshuntref01_Right : ∀ k, InstOk (call cf k) (Ishuntref01_Right k)
  | 0 => fun x y e => absurd (show (none : Option _) = some y from e) (by simp)
  | k + 1 => inst_ok (c := cf) (k := k) (f := 11) (fn := Try.f11) (body := bd Try.f11) (sh := shshuntref01_Right) (os := rsshuntref01_Right) rfl Try.func11 rfl ⟨rfl, Nat.le_of_ble_eq_true rfl⟩ (COt_ok (alshuntref01_Right k)) (anshuntref01_Right k) (fun x => Fshuntref01_Right (k + 1) x.1 x.2) (stshuntref01_Right k)

/-! shunt/shuntref01.trim -/
def Lshuntref01_trim_mfi_0s (k : Nat) (rec : Nat → Int → List Int → Option (Nat × Int × List Int)) (d : Nat) (n : Int) (ds : List Int) : Option (Nat × Int × List Int) :=
  if ((decide (n > (0 : Int))) = true) then
    if (((0 : Int) ≤ (IntKind.wrap .i64 (n - (1 : Int)))) ∧ ((IntKind.wrap .i64 (n - (1 : Int))) < ((d : Nat) : Int))) then
      Option.bind (ds)[(0 + (Int.toNat (IntKind.wrap .i64 (n - (1 : Int)))))]? fun x =>
      if ((x == (0 : Int)) = true) then
        rec d (IntKind.wrap .i64 (n - (1 : Int))) ds
      else
      (some (d, n, ds))
    else
    none
  else
  (some (d, n, ds))
def Lshuntref01_trim_mfi_0 (k n : Nat) : Nat → Int → List Int → Option (Nat × Int × List Int) := Nat.rec (fun _ _ _ => none) (fun _ r => Lshuntref01_trim_mfi_0s k r) n
def bshuntref01_trim_mfi (k : Nat) (d : Nat) (ds : List Int) : Option (Nat × List Int) :=
  Option.bind (Lshuntref01_trim_mfi_0 k k d ((d : Nat) : Int) ds) fun r7 =>
  if (((0 : Int) ≤ (0 : Int)) ∧ (((0 : Int) ≤ r7.2.1) ∧ (((0 + (Int.toNat r7.2.1)) ≤ (List.length r7.2.2)) ∧ (((0 : Int) < r7.2.1) ∨ (true = true))))) then
    (some ((Int.toNat r7.2.1), r7.2.2))
  else
  none
def Fshuntref01_trim_mfi : Nat → Nat → List Int → Option (Nat × List Int)
  | 0, _, _ => none
  | k + 1, d, ds => bshuntref01_trim_mfi k d ds
def shshuntref01_trim_mfi : FS := { vs := [.a (.smz 0)], bs := [.arr (.int .i64) 1 3 false] }
def rsshuntref01_trim_mfi : List FS := [{ vs := [.a (.smz 0)], bs := [.arr (.int .i64) 1 3 false] }]
def Ishuntref01_trim_mfi (k : Nat) : Inst := ⟨77, shshuntref01_trim_mfi, rsshuntref01_trim_mfi, fun x => Fshuntref01_trim_mfi k x.1 x.2⟩
theorem alshuntref01_trim_mfi (k : Nat) : AllI (call cf k) [] := True.intro
def hsshuntref01_trim_mfi_0 : List SS := [{ fr := [(0, .a (.smz 0)), (3, .a (.lf (.int .i64)))], mem := [(0, some (.arr (.int .i64) 1 3 false))], nx := 1 }]
def osshuntref01_trim_mfi_0 : List OS := [⟨some 0, { fr := [(0, .a (.smz 0)), (3, .a (.lf (.int .i64)))], mem := [(0, some (.arr (.int .i64) 1 3 false))], nx := 1 }⟩]
def LIshuntref01_trim_mfi_0 (k : Nat) : LInst := ⟨0, hsshuntref01_trim_mfi_0, osshuntref01_trim_mfi_0, fun x => Lshuntref01_trim_mfi_0 k k x.1 x.2.1 x.2.2⟩
theorem anshuntref01_trim_mfi_0 (k : Nat) : LAll (LOk (R := DS OS.D osshuntref01_trim_mfi_0) (fun b _ σ K => LOt Ty (kps 77) 1 b σ K []) cf (call cf k) (kps 77) Try.f77.ntmps k 1) 0 (lb Try.f77 0) :=
  And.intro (And.intro (True.intro) (And.intro (True.intro) (True.intro))) (True.intro)
theorem stshuntref01_trim_mfi_0 (k n : Nat) (x : DS SS.D hsshuntref01_trim_mfi_0) : Lshuntref01_trim_mfi_0 k (n + 1) x.1 x.2.1 x.2.2 = encSK SS.enc (fun σ => run2 cf (fun f a b K => COt f a b K []) (fun b _ σ K => LOt Ty (kps 77) 1 b σ K []) Try.f77.ntmps 0 (lb Try.f77 0) σ (nextK Ty (kps 77 0) 1 hsshuntref01_trim_mfi_0 osshuntref01_trim_mfi_0 fun x => Lshuntref01_trim_mfi_0 k n x.1 x.2.1 x.2.2)) hsshuntref01_trim_mfi_0 x := by kernel_rfl
theorem loshuntref01_trim_mfi_0 (k : Nat) : LIOk cf (call cf k) (kps 77) Try.f77.ntmps k 1 0 (lb Try.f77 0) (LIshuntref01_trim_mfi_0 k) :=
  loop_ok (c := cf) (callF := call cf k) (kp := kps 77) (nt := Try.f77.ntmps) (k := k) (p := 1) (b := 0) (x0 := lb Try.f77 0) (hs := hsshuntref01_trim_mfi_0) (os := osshuntref01_trim_mfi_0) (COt_ok (alshuntref01_trim_mfi k)) (anshuntref01_trim_mfi_0 k) (fun n x => Lshuntref01_trim_mfi_0 k n x.1 x.2.1 x.2.2) (fun _ => rfl) (stshuntref01_trim_mfi_0 k)
theorem anshuntref01_trim_mfi (k : Nat) : LAll (LOk (R := DS FS.D rsshuntref01_trim_mfi) (fun b _ σ K => LOt Ty (kps 77) 1 b σ K [LIshuntref01_trim_mfi_0 k]) cf (call cf k) (cf.keep 77) Try.f77.ntmps k shshuntref01_trim_mfi.bs.length) 0 (bd Try.f77) :=
  And.intro (True.intro) (And.intro (True.intro) (And.intro (LOt_ok (c := cf) (callF := call cf k) (kp := kps 77) (nt := Try.f77.ntmps) (k := k) (p := 1) (b := 0) (x0 := lb Try.f77 0) (l := [LIshuntref01_trim_mfi_0 k]) (And.intro (fun _ => loshuntref01_trim_mfi_0 k) (True.intro))) (And.intro (True.intro) (True.intro))))
theorem stshuntref01_trim_mfi (k : Nat) (x : shshuntref01_trim_mfi.D) : Fshuntref01_trim_mfi (k + 1) x.1 x.2 = body2 cf (fun f a b K => COt f a b K []) (fun b _ σ K => LOt Ty (kps 77) 1 b σ K [LIshuntref01_trim_mfi_0 k]) 77 Try.f77.ntmps Try.f77.results.toList (bd Try.f77) (shshuntref01_trim_mfi.enc x).1 (shshuntref01_trim_mfi.enc x).2 (putS FS.dec rsshuntref01_trim_mfi) := by kernel_rfl
theorem okshuntref01_trim_mfi : ∀ k, InstOk (call cf k) (Ishuntref01_trim_mfi k)
  | 0 => fun x y e => absurd (show (none : Option _) = some y from e) (by simp)
  | k + 1 => inst_ok (c := cf) (k := k) (f := 77) (fn := Try.f77) (body := bd Try.f77) (sh := shshuntref01_trim_mfi) (os := rsshuntref01_trim_mfi) rfl Try.func77 rfl ⟨rfl, Nat.le_of_ble_eq_true rfl⟩ (COt_ok (alshuntref01_trim_mfi k)) (anshuntref01_trim_mfi k) (fun x => Fshuntref01_trim_mfi (k + 1) x.1 x.2) (stshuntref01_trim_mfi k)

/-! shunt/shuntref01.Take -/
def Lshuntref01_Take_0s (k : Nat) (rec : Nat → Int → Bool → List Int → Bool → Nat → List Int → List Int → Option (Nat × Bool × List Int × Bool × Nat × List Int × List Int)) (d : Nat) (i : Int) (a0 : Bool) (a1 : List Int) (x0 : Bool) (x1 : Nat) (ds : List Int) (m : List Int) : Option (Nat × Bool × List Int × Bool × Nat × List Int × List Int) :=
  if ((decide (i < (((List.length a1) : Nat) : Int))) = true) then
    if ((0 : Int) ≤ i) then
      Option.bind (a1)[(Int.toNat i)]? fun x =>
      if ((0 : Int) ≤ i) then
        Option.bind (a1)[(Int.toNat i)]? fun x2 =>
        if (d ≤ (List.length ds)) then
          if (((d + (List.length (List.take 2 ((IntKind.wrap .i64 (Int.tmod x (65536 : Int))) :: ((IntKind.wrap .i64 (IntKind.wrap .u32 (Int.tdiv x2 (65536 : Int)))) :: []))))) * 8) ≤ 140737488355328) then
            rec (d + (List.length (List.take 2 ((IntKind.wrap .i64 (Int.tmod x (65536 : Int))) :: ((IntKind.wrap .i64 (IntKind.wrap .u32 (Int.tdiv x2 (65536 : Int)))) :: []))))) (IntKind.wrap .i64 (i + (1 : Int))) a0 a1 x0 x1 ((List.take d ds) ++ (List.take 2 ((IntKind.wrap .i64 (Int.tmod x (65536 : Int))) :: ((IntKind.wrap .i64 (IntKind.wrap .u32 (Int.tdiv x2 (65536 : Int)))) :: [])))) m
          else
          none
        else
        none
      else
      none
    else
    none
  else
  (some (d, a0, a1, x0, x1, ds, m))
def Lshuntref01_Take_0 (k n : Nat) : Nat → Int → Bool → List Int → Bool → Nat → List Int → List Int → Option (Nat × Bool × List Int × Bool × Nat × List Int × List Int) := Nat.rec (fun _ _ _ _ _ _ _ _ => none) (fun _ r => Lshuntref01_Take_0s k r) n
def bshuntref01_Take (k : Nat) (a0 : Bool) (a1 : List Int) : Option (Bool × List Int) :=
  Option.bind (Lshuntref01_Take_0 k k 0 (0 : Int) a0 a1 false 0 [] []) fun r6 =>
  Option.bind (Fshuntref01_trim_mfi k r6.1 r6.2.2.2.2.2.1) fun r7 =>
  if (r6.2.1 = true) then
    if ((0 + r7.1) ≤ (List.length r7.2)) then
      (some ((decide (((r7.1 : Nat) : Int) > (0 : Int))), (List.take r7.1 r7.2)))
    else
    none
  else
  if ((0 + r7.1) ≤ (List.length r7.2)) then
    (some (false, (List.take r7.1 r7.2)))
  else
  none
def Fshuntref01_Take : Nat → Bool → List Int → Option (Bool × List Int)
  | 0, _, _ => none
  | k + 1, a0, a1 => bshuntref01_Take k a0 a1
def shshuntref01_Take : FS := { vs := [.g [.lf .bool, .lf (.sl (.int .u32))]], bs := [] }
def rsshuntref01_Take : List FS := [{ vs := [.g [.lf .bool, .lf (.sl (.int .i64))]], bs := [] }]
def Ishuntref01_Take (k : Nat) : Inst := ⟨37, shshuntref01_Take, rsshuntref01_Take, fun x => Fshuntref01_Take k x.1 x.2⟩
theorem alshuntref01_Take (k : Nat) : AllI (call cf k) [Ishuntref01_trim_mfi k] := And.intro (okshuntref01_trim_mfi k) (True.intro)
def hsshuntref01_Take_0 : List SS := [{ fr := [(1, .a (.ptr 0 0 0)), (2, .a (.ptr 1 0 0)), (3, .a (.smz 2)), (4, .a (.lf (.int .i64)))], mem := [(0, some (.raw [[.lf .bool, .lf (.sl (.int .u32))]] 2 24 true false)), (1, some (.raw [[.lf .bool, .smz 3]] 2 65 false false)), (2, some (.arr (.int .i64) 1 3 false)), (3, some (.arr (.int .i64) 1 3 false))], nx := 4 }]
def osshuntref01_Take_0 : List OS := [⟨some 0, { fr := [(1, .a (.ptr 0 0 0)), (2, .a (.ptr 1 0 0)), (3, .a (.smz 2))], mem := [(0, some (.raw [[.lf .bool, .lf (.sl (.int .u32))]] 2 24 true false)), (1, some (.raw [[.lf .bool, .smz 3]] 2 65 false false)), (2, some (.arr (.int .i64) 1 3 false)), (3, some (.arr (.int .i64) 1 3 false))], nx := 4 }⟩]
def LIshuntref01_Take_0 (k : Nat) : LInst := ⟨0, hsshuntref01_Take_0, osshuntref01_Take_0, fun x => Lshuntref01_Take_0 k k x.1 x.2.1 x.2.2.1 x.2.2.2.1 x.2.2.2.2.1 x.2.2.2.2.2.1 x.2.2.2.2.2.2.1 x.2.2.2.2.2.2.2⟩
theorem anshuntref01_Take_0 (k : Nat) : LAll (LOk (R := DS OS.D osshuntref01_Take_0) (fun b _ σ K => LOt Ty (kps 37) 0 b σ K []) cf (call cf k) (kps 37) Try.f37.ntmps k 0) 0 (lb Try.f37 0) :=
  And.intro (And.intro (True.intro) (And.intro (True.intro) (True.intro))) (And.intro (True.intro) (True.intro))
theorem stshuntref01_Take_0 (k n : Nat) (x : DS SS.D hsshuntref01_Take_0) : Lshuntref01_Take_0 k (n + 1) x.1 x.2.1 x.2.2.1 x.2.2.2.1 x.2.2.2.2.1 x.2.2.2.2.2.1 x.2.2.2.2.2.2.1 x.2.2.2.2.2.2.2 = encSK SS.enc (fun σ => run2 cf (fun f a b K => COt f a b K [Ishuntref01_trim_mfi k]) (fun b _ σ K => LOt Ty (kps 37) 0 b σ K []) Try.f37.ntmps 0 (lb Try.f37 0) σ (nextK Ty (kps 37 0) 0 hsshuntref01_Take_0 osshuntref01_Take_0 fun x => Lshuntref01_Take_0 k n x.1 x.2.1 x.2.2.1 x.2.2.2.1 x.2.2.2.2.1 x.2.2.2.2.2.1 x.2.2.2.2.2.2.1 x.2.2.2.2.2.2.2)) hsshuntref01_Take_0 x := by kernel_rfl
theorem loshuntref01_Take_0 (k : Nat) : LIOk cf (call cf k) (kps 37) Try.f37.ntmps k 0 0 (lb Try.f37 0) (LIshuntref01_Take_0 k) :=
  loop_ok (c := cf) (callF := call cf k) (kp := kps 37) (nt := Try.f37.ntmps) (k := k) (p := 0) (b := 0) (x0 := lb Try.f37 0) (hs := hsshuntref01_Take_0) (os := osshuntref01_Take_0) (COt_ok (alshuntref01_Take k)) (anshuntref01_Take_0 k) (fun n x => Lshuntref01_Take_0 k n x.1 x.2.1 x.2.2.1 x.2.2.2.1 x.2.2.2.2.1 x.2.2.2.2.2.1 x.2.2.2.2.2.2.1 x.2.2.2.2.2.2.2) (fun _ => rfl) (stshuntref01_Take_0 k)
theorem anshuntref01_Take (k : Nat) : LAll (LOk (R := DS FS.D rsshuntref01_Take) (fun b _ σ K => LOt Ty (kps 37) 0 b σ K [LIshuntref01_Take_0 k]) cf (call cf k) (cf.keep 37) Try.f37.ntmps k shshuntref01_Take.bs.length) 0 (bd Try.f37) :=
  And.intro (True.intro) (And.intro (True.intro) (And.intro (And.intro (True.intro) (LOt_ok (c := cf) (callF := call cf k) (kp := kps 37) (nt := Try.f37.ntmps) (k := k) (p := 0) (b := 0) (x0 := lb Try.f37 0) (l := [LIshuntref01_Take_0 k]) (And.intro (fun _ => loshuntref01_Take_0 k) (True.intro)))) (And.intro (True.intro) (And.intro (True.intro) (True.intro)))))
theorem stshuntref01_Take (k : Nat) (x : shshuntref01_Take.D) : Fshuntref01_Take (k + 1) x.1 x.2 = body2 cf (fun f a b K => COt f a b K [Ishuntref01_trim_mfi k]) (fun b _ σ K => LOt Ty (kps 37) 0 b σ K [LIshuntref01_Take_0 k]) 37 Try.f37.ntmps Try.f37.results.toList (bd Try.f37) (shshuntref01_Take.enc x).1 (shshuntref01_Take.enc x).2 (putS FS.dec rsshuntref01_Take) := by kernel_rfl
theorem okshuntref01_Take : ∀ k, InstOk (call cf k) (Ishuntref01_Take k)
  | 0 => fun x y e => absurd (show (none : Option _) = some y from e) (by simp)
  | k + 1 => inst_ok (c := cf) (k := k) (f := 37) (fn := Try.f37) (body := bd Try.f37) (sh := shshuntref01_Take) (os := rsshuntref01_Take) rfl Try.func37 rfl ⟨rfl, Nat.le_of_ble_eq_true rfl⟩ (COt_ok (alshuntref01_Take k)) (anshuntref01_Take k) (fun x => Fshuntref01_Take (k + 1) x.1 x.2) (stshuntref01_Take k)

/-! shunt/shuntref01.Abs -/
def bshuntref01_Abs (k : Nat) (a0 : Bool) (a1 : List Int) : Option (Bool × List Int) :=
  (some (false, a1))
def Fshuntref01_Abs : Nat → Bool → List Int → Option (Bool × List Int)
  | 0, _, _ => none
  | k + 1, a0, a1 => bshuntref01_Abs k a0 a1
def shshuntref01_Abs : FS := { vs := [.g [.lf .bool, .lf (.sl (.int .i64))]], bs := [] }
def rsshuntref01_Abs : List FS := [{ vs := [.g [.lf .bool, .lf (.sl (.int .i64))]], bs := [] }]
def Ishuntref01_Abs (k : Nat) : Inst := ⟨75, shshuntref01_Abs, rsshuntref01_Abs, fun x => Fshuntref01_Abs k x.1 x.2⟩
theorem alshuntref01_Abs (k : Nat) : AllI (call cf k) [] := True.intro
theorem anshuntref01_Abs (k : Nat) : LAll (LOk (R := DS FS.D rsshuntref01_Abs) (fun b _ σ K => LOt Ty (kps 75) 0 b σ K []) cf (call cf k) (cf.keep 75) Try.f75.ntmps k shshuntref01_Abs.bs.length) 0 (bd Try.f75) :=
  And.intro (True.intro) (And.intro (True.intro) (True.intro))
theorem stshuntref01_Abs (k : Nat) (x : shshuntref01_Abs.D) : Fshuntref01_Abs (k + 1) x.1 x.2 = body2 cf (fun f a b K => COt f a b K []) (fun b _ σ K => LOt Ty (kps 75) 0 b σ K []) 75 Try.f75.ntmps Try.f75.results.toList (bd Try.f75) (shshuntref01_Abs.enc x).1 (shshuntref01_Abs.enc x).2 (putS FS.dec rsshuntref01_Abs) := by kernel_rfl
theorem okshuntref01_Abs : ∀ k, InstOk (call cf k) (Ishuntref01_Abs k)
  | 0 => fun x y e => absurd (show (none : Option _) = some y from e) (by simp)
  | k + 1 => inst_ok (c := cf) (k := k) (f := 75) (fn := Try.f75) (body := bd Try.f75) (sh := shshuntref01_Abs) (os := rsshuntref01_Abs) rfl Try.func75 rfl ⟨rfl, Nat.le_of_ble_eq_true rfl⟩ (COt_ok (alshuntref01_Abs k)) (anshuntref01_Abs k) (fun x => Fshuntref01_Abs (k + 1) x.1 x.2) (stshuntref01_Abs k)

/-! shunt/shuntref01.mags -/
def Lshuntref01_mags_0s (k : Nat) (rec : List Int → List Int → Int → Option ((Int) ⊕ (Unit))) (a : List Int) (b : List Int) (i : Int) : Option ((Int) ⊕ (Unit)) :=
  if ((decide (i ≥ (0 : Int))) = true) then
    if ((0 : Int) ≤ i) then
      Option.bind (a)[(Int.toNat i)]? fun x2 =>
      if ((0 : Int) ≤ i) then
        Option.bind (b)[(Int.toNat i)]? fun x3 =>
        if ((decide (x2 < x3)) = true) then
          (some (Sum.inl (-(1 : Int))))
        else
        if ((0 : Int) ≤ i) then
          Option.bind (a)[(Int.toNat i)]? fun x4 =>
          if ((0 : Int) ≤ i) then
            Option.bind (b)[(Int.toNat i)]? fun x5 =>
            if ((decide (x4 > x5)) = true) then
              (some (Sum.inl (1 : Int)))
            else
            rec a b (IntKind.wrap .i64 (i - (1 : Int)))
          else
          none
        else
        none
      else
      none
    else
    none
  else
  (some (Sum.inr ()))
def Lshuntref01_mags_0 (k n : Nat) : List Int → List Int → Int → Option ((Int) ⊕ (Unit)) := Nat.rec (fun _ _ _ => none) (fun _ r => Lshuntref01_mags_0s k r) n
def bshuntref01_mags (k : Nat) (a : List Int) (b : List Int) : Option (Int) :=
  if (((((List.length a) : Nat) : Int) != (((List.length b) : Nat) : Int)) = true) then
    if ((decide ((((List.length a) : Nat) : Int) < (((List.length b) : Nat) : Int))) = true) then
      (some (-(1 : Int)))
    else
    (some (1 : Int))
  else
  Option.bind (Lshuntref01_mags_0 k k a b (IntKind.wrap .i64 ((((List.length a) : Nat) : Int) - (1 : Int)))) fun r11 =>
  eitherK r11
    (fun r11 =>
    (some r11))
    (fun r11 =>
    (some (0 : Int)))
def Fshuntref01_mags : Nat → List Int → List Int → Option (Int)
  | 0, _, _ => none
  | k + 1, a, b => bshuntref01_mags k a b
def shshuntref01_mags : FS := { vs := [.a (.lf (.sl (.int .i64))), .a (.lf (.sl (.int .i64)))], bs := [] }
def rsshuntref01_mags : List FS := [{ vs := [.a (.lf (.int .i64))], bs := [] }]
def Ishuntref01_mags (k : Nat) : Inst := ⟨109, shshuntref01_mags, rsshuntref01_mags, fun x => Fshuntref01_mags k x.1 x.2⟩
theorem alshuntref01_mags (k : Nat) : AllI (call cf k) [] := True.intro
def hsshuntref01_mags_0 : List SS := [{ fr := [(0, .a (.lf (.sl (.int .i64)))), (1, .a (.lf (.sl (.int .i64)))), (5, .a (.lf (.int .i64)))], mem := [], nx := 0 }]
def osshuntref01_mags_0 : List OS := [⟨none, { fr := [(4, .a (.lf (.int .i64)))], mem := [], nx := 0 }⟩, ⟨some 0, { fr := [], mem := [], nx := 0 }⟩]
def LIshuntref01_mags_0 (k : Nat) : LInst := ⟨0, hsshuntref01_mags_0, osshuntref01_mags_0, fun x => Lshuntref01_mags_0 k k x.1 x.2.1 x.2.2⟩
theorem anshuntref01_mags_0 (k : Nat) : LAll (LOk (R := DS OS.D osshuntref01_mags_0) (fun b _ σ K => LOt Ty (kps 109) 0 b σ K []) cf (call cf k) (kps 109) Try.f109.ntmps k 0) 0 (lb Try.f109 0) :=
  And.intro (And.intro (True.intro) (And.intro (True.intro) (True.intro))) (And.intro (And.intro (And.intro (True.intro) (And.intro (And.intro (True.intro) (True.intro)) (True.intro))) (And.intro (True.intro) (And.intro (And.intro (True.intro) (True.intro)) (True.intro)))) (True.intro))
theorem stshuntref01_mags_0 (k n : Nat) (x : DS SS.D hsshuntref01_mags_0) : Lshuntref01_mags_0 k (n + 1) x.1 x.2.1 x.2.2 = encSK SS.enc (fun σ => run2 cf (fun f a b K => COt f a b K []) (fun b _ σ K => LOt Ty (kps 109) 0 b σ K []) Try.f109.ntmps 0 (lb Try.f109 0) σ (nextK Ty (kps 109 0) 0 hsshuntref01_mags_0 osshuntref01_mags_0 fun x => Lshuntref01_mags_0 k n x.1 x.2.1 x.2.2)) hsshuntref01_mags_0 x := by kernel_rfl
theorem loshuntref01_mags_0 (k : Nat) : LIOk cf (call cf k) (kps 109) Try.f109.ntmps k 0 0 (lb Try.f109 0) (LIshuntref01_mags_0 k) :=
  loop_ok (c := cf) (callF := call cf k) (kp := kps 109) (nt := Try.f109.ntmps) (k := k) (p := 0) (b := 0) (x0 := lb Try.f109 0) (hs := hsshuntref01_mags_0) (os := osshuntref01_mags_0) (COt_ok (alshuntref01_mags k)) (anshuntref01_mags_0 k) (fun n x => Lshuntref01_mags_0 k n x.1 x.2.1 x.2.2) (fun _ => rfl) (stshuntref01_mags_0 k)
theorem anshuntref01_mags (k : Nat) : LAll (LOk (R := DS FS.D rsshuntref01_mags) (fun b _ σ K => LOt Ty (kps 109) 0 b σ K [LIshuntref01_mags_0 k]) cf (call cf k) (cf.keep 109) Try.f109.ntmps k shshuntref01_mags.bs.length) 0 (bd Try.f109) :=
  And.intro (True.intro) (And.intro (And.intro (True.intro) (And.intro (And.intro (And.intro (True.intro) (And.intro (And.intro (True.intro) (True.intro)) (True.intro))) (And.intro (True.intro) (True.intro))) (True.intro))) (And.intro (And.intro (True.intro) (LOt_ok (c := cf) (callF := call cf k) (kp := kps 109) (nt := Try.f109.ntmps) (k := k) (p := 0) (b := 0) (x0 := lb Try.f109 0) (l := [LIshuntref01_mags_0 k]) (And.intro (fun _ => loshuntref01_mags_0 k) (True.intro)))) (And.intro (True.intro) (True.intro))))
theorem stshuntref01_mags (k : Nat) (x : shshuntref01_mags.D) : Fshuntref01_mags (k + 1) x.1 x.2 = body2 cf (fun f a b K => COt f a b K []) (fun b _ σ K => LOt Ty (kps 109) 0 b σ K [LIshuntref01_mags_0 k]) 109 Try.f109.ntmps Try.f109.results.toList (bd Try.f109) (shshuntref01_mags.enc x).1 (shshuntref01_mags.enc x).2 (putS FS.dec rsshuntref01_mags) := by kernel_rfl
theorem okshuntref01_mags : ∀ k, InstOk (call cf k) (Ishuntref01_mags k)
  | 0 => fun x y e => absurd (show (none : Option _) = some y from e) (by simp)
  | k + 1 => inst_ok (c := cf) (k := k) (f := 109) (fn := Try.f109) (body := bd Try.f109) (sh := shshuntref01_mags) (os := rsshuntref01_mags) rfl Try.func109 rfl ⟨rfl, Nat.le_of_ble_eq_true rfl⟩ (COt_ok (alshuntref01_mags k)) (anshuntref01_mags k) (fun x => Fshuntref01_mags (k + 1) x.1 x.2) (stshuntref01_mags k)

/-! shunt/shuntref01.Small -/
def Lshuntref01_Small_0s (k : Nat) (rec : Int → Bool → Nat → Bool → Nat → List Int → List Int → Option (Bool × Nat × Bool × Nat × List Int × List Int)) (v : Int) (x0 : Bool) (x1 : Nat) (a0 : Bool) (a1 : Nat) (m : List Int) (m1 : List Int) : Option (Bool × Nat × Bool × Nat × List Int × List Int) :=
  if ((decide (v > (0 : Int))) = true) then
    if (a1 ≤ (List.length m1)) then
      if (((a1 + (List.length (List.take 1 ((Int.tmod v (65536 : Int)) :: [])))) * 8) ≤ 140737488355328) then
        rec (IntKind.wrap .i64 (Int.tdiv v (65536 : Int))) x0 x1 a0 (a1 + (List.length (List.take 1 ((Int.tmod v (65536 : Int)) :: [])))) m ((List.take a1 m1) ++ (List.take 1 ((Int.tmod v (65536 : Int)) :: [])))
      else
      none
    else
    none
  else
  (some (x0, x1, a0, a1, m, m1))
def Lshuntref01_Small_0 (k n : Nat) : Int → Bool → Nat → Bool → Nat → List Int → List Int → Option (Bool × Nat × Bool × Nat × List Int × List Int) := Nat.rec (fun _ _ _ _ _ _ _ => none) (fun _ r => Lshuntref01_Small_0s k r) n
def bshuntref01_Small (k : Nat) (v : Int) : Option (Bool × List Int) :=
  if ((decide (v < (0 : Int))) = true) then
    Option.bind (Lshuntref01_Small_0 k k (IntKind.wrap .i64 ((0 : Int) - v)) false 0 true 0 [] []) fun r12 =>
    if ((0 + r12.2.2.2.1) ≤ (List.length r12.2.2.2.2.2)) then
      (some (r12.2.2.1, (List.take r12.2.2.2.1 r12.2.2.2.2.2)))
    else
    none
  else
  Option.bind (Lshuntref01_Small_0 k k v false 0 false 0 [] []) fun r12 =>
  if ((0 + r12.2.2.2.1) ≤ (List.length r12.2.2.2.2.2)) then
    (some (r12.2.2.1, (List.take r12.2.2.2.1 r12.2.2.2.2.2)))
  else
  none
def Fshuntref01_Small : Nat → Int → Option (Bool × List Int)
  | 0, _ => none
  | k + 1, v => bshuntref01_Small k v
def shshuntref01_Small : FS := { vs := [.a (.lf (.int .i64))], bs := [] }
def rsshuntref01_Small : List FS := [{ vs := [.g [.lf .bool, .lf (.sl (.int .i64))]], bs := [] }]
def Ishuntref01_Small (k : Nat) : Inst := ⟨38, shshuntref01_Small, rsshuntref01_Small, fun x => Fshuntref01_Small k x⟩
theorem alshuntref01_Small (k : Nat) : AllI (call cf k) [] := True.intro
def hsshuntref01_Small_0 : List SS := [{ fr := [(0, .a (.lf (.int .i64))), (2, .a (.ptr 0 0 0)), (3, .a (.ptr 1 0 0))], mem := [(0, some (.raw [[.lf .bool, .smz 2]] 2 65 false false)), (1, some (.raw [[.lf .bool, .smz 3]] 2 65 false false)), (2, some (.arr (.int .i64) 1 3 false)), (3, some (.arr (.int .i64) 1 3 false))], nx := 4 }]
def osshuntref01_Small_0 : List OS := [⟨some 0, { fr := [(2, .a (.ptr 0 0 0)), (3, .a (.ptr 1 0 0))], mem := [(0, some (.raw [[.lf .bool, .smz 2]] 2 65 false false)), (1, some (.raw [[.lf .bool, .smz 3]] 2 65 false false)), (2, some (.arr (.int .i64) 1 3 false)), (3, some (.arr (.int .i64) 1 3 false))], nx := 4 }⟩]
def LIshuntref01_Small_0 (k : Nat) : LInst := ⟨0, hsshuntref01_Small_0, osshuntref01_Small_0, fun x => Lshuntref01_Small_0 k k x.1 x.2.1 x.2.2.1 x.2.2.2.1 x.2.2.2.2.1 x.2.2.2.2.2.1 x.2.2.2.2.2.2⟩
theorem anshuntref01_Small_0 (k : Nat) : LAll (LOk (R := DS OS.D osshuntref01_Small_0) (fun b _ σ K => LOt Ty (kps 38) 0 b σ K []) cf (call cf k) (kps 38) Try.f38.ntmps k 0) 0 (lb Try.f38 0) :=
  And.intro (And.intro (True.intro) (And.intro (True.intro) (True.intro))) (And.intro (True.intro) (True.intro))
theorem stshuntref01_Small_0 (k n : Nat) (x : DS SS.D hsshuntref01_Small_0) : Lshuntref01_Small_0 k (n + 1) x.1 x.2.1 x.2.2.1 x.2.2.2.1 x.2.2.2.2.1 x.2.2.2.2.2.1 x.2.2.2.2.2.2 = encSK SS.enc (fun σ => run2 cf (fun f a b K => COt f a b K []) (fun b _ σ K => LOt Ty (kps 38) 0 b σ K []) Try.f38.ntmps 0 (lb Try.f38 0) σ (nextK Ty (kps 38 0) 0 hsshuntref01_Small_0 osshuntref01_Small_0 fun x => Lshuntref01_Small_0 k n x.1 x.2.1 x.2.2.1 x.2.2.2.1 x.2.2.2.2.1 x.2.2.2.2.2.1 x.2.2.2.2.2.2)) hsshuntref01_Small_0 x := by kernel_rfl
theorem loshuntref01_Small_0 (k : Nat) : LIOk cf (call cf k) (kps 38) Try.f38.ntmps k 0 0 (lb Try.f38 0) (LIshuntref01_Small_0 k) :=
  loop_ok (c := cf) (callF := call cf k) (kp := kps 38) (nt := Try.f38.ntmps) (k := k) (p := 0) (b := 0) (x0 := lb Try.f38 0) (hs := hsshuntref01_Small_0) (os := osshuntref01_Small_0) (COt_ok (alshuntref01_Small k)) (anshuntref01_Small_0 k) (fun n x => Lshuntref01_Small_0 k n x.1 x.2.1 x.2.2.1 x.2.2.2.1 x.2.2.2.2.1 x.2.2.2.2.2.1 x.2.2.2.2.2.2) (fun _ => rfl) (stshuntref01_Small_0 k)
theorem anshuntref01_Small (k : Nat) : LAll (LOk (R := DS FS.D rsshuntref01_Small) (fun b _ σ K => LOt Ty (kps 38) 0 b σ K [LIshuntref01_Small_0 k]) cf (call cf k) (cf.keep 38) Try.f38.ntmps k shshuntref01_Small.bs.length) 0 (bd Try.f38) :=
  And.intro (True.intro) (And.intro (True.intro) (And.intro (And.intro (True.intro) (And.intro (And.intro (True.intro) (True.intro)) (True.intro))) (And.intro (LOt_ok (c := cf) (callF := call cf k) (kp := kps 38) (nt := Try.f38.ntmps) (k := k) (p := 0) (b := 0) (x0 := lb Try.f38 0) (l := [LIshuntref01_Small_0 k]) (And.intro (fun _ => loshuntref01_Small_0 k) (True.intro))) (And.intro (True.intro) (True.intro)))))
theorem stshuntref01_Small (k : Nat) (x : shshuntref01_Small.D) : Fshuntref01_Small (k + 1) x = body2 cf (fun f a b K => COt f a b K []) (fun b _ σ K => LOt Ty (kps 38) 0 b σ K [LIshuntref01_Small_0 k]) 38 Try.f38.ntmps Try.f38.results.toList (bd Try.f38) (shshuntref01_Small.enc x).1 (shshuntref01_Small.enc x).2 (putS FS.dec rsshuntref01_Small) := by kernel_rfl
theorem okshuntref01_Small : ∀ k, InstOk (call cf k) (Ishuntref01_Small k)
  | 0 => fun x y e => absurd (show (none : Option _) = some y from e) (by simp)
  | k + 1 => inst_ok (c := cf) (k := k) (f := 38) (fn := Try.f38) (body := bd Try.f38) (sh := shshuntref01_Small) (os := rsshuntref01_Small) rfl Try.func38 rfl ⟨rfl, Nat.le_of_ble_eq_true rfl⟩ (COt_ok (alshuntref01_Small k)) (anshuntref01_Small k) (fun x => Fshuntref01_Small (k + 1) x) (stshuntref01_Small k)

/-! shunt/shuntref01.Times -/
def Lshuntref01_Times_2s (k : Nat) (rec : Nat → Int → Int → Int → Bool → List Int → Bool → List Int → Bool → Nat → List Int → List Int → Option (Nat × Int × Int × Bool × List Int × Bool × List Int × Bool × Nat × List Int × List Int)) (d : Nat) (i : Int) (carry : Int) (j : Int) (a0 : Bool) (a1 : List Int) (b0 : Bool) (b1 : List Int) (x0 : Bool) (x1 : Nat) (ds : List Int) (m : List Int) : Option (Nat × Int × Int × Bool × List Int × Bool × List Int × Bool × Nat × List Int × List Int) :=
  if ((decide (j < (((List.length b1) : Nat) : Int))) = true) then
    if (((0 : Int) ≤ (IntKind.wrap .i64 (i + j))) ∧ ((IntKind.wrap .i64 (i + j)) < ((d : Nat) : Int))) then
      Option.bind (ds)[(0 + (Int.toNat (IntKind.wrap .i64 (i + j))))]? fun x2 =>
      if ((0 : Int) ≤ i) then
        Option.bind (a1)[(Int.toNat i)]? fun x3 =>
        if ((0 : Int) ≤ j) then
          Option.bind (b1)[(Int.toNat j)]? fun x4 =>
          if (((0 : Int) ≤ (IntKind.wrap .i64 (i + j))) ∧ ((IntKind.wrap .i64 (i + j)) < ((d : Nat) : Int))) then
            Option.bind (ds)[(0 + (Int.toNat (IntKind.wrap .i64 (i + j))))]? fun x5 =>
            rec d i (IntKind.wrap .i64 (Int.tdiv (IntKind.wrap .i64 ((IntKind.wrap .i64 (x2 + (IntKind.wrap .i64 (x3 * x4)))) + carry)) (65536 : Int))) (IntKind.wrap .i64 (j + (1 : Int))) a0 a1 b0 b1 x0 x1 (List.set ds (0 + (Int.toNat (IntKind.wrap .i64 (i + j)))) (Int.tmod (IntKind.wrap .i64 ((IntKind.wrap .i64 (x2 + (IntKind.wrap .i64 (x3 * x4)))) + carry)) (65536 : Int))) m
          else
          none
        else
        none
      else
      none
    else
    none
  else
  (some (d, i, carry, a0, a1, b0, b1, x0, x1, ds, m))
def Lshuntref01_Times_2 (k n : Nat) : Nat → Int → Int → Int → Bool → List Int → Bool → List Int → Bool → Nat → List Int → List Int → Option (Nat × Int × Int × Bool × List Int × Bool × List Int × Bool × Nat × List Int × List Int) := Nat.rec (fun _ _ _ _ _ _ _ _ _ _ _ _ => none) (fun _ r => Lshuntref01_Times_2s k r) n
def Lshuntref01_Times_0s (k : Nat) (rec : Nat → Int → Bool → List Int → Bool → List Int → Bool → Nat → List Int → List Int → Option (Nat × Bool × List Int × Bool × List Int × Bool × Nat × List Int × List Int)) (d : Nat) (i : Int) (a0 : Bool) (a1 : List Int) (b0 : Bool) (b1 : List Int) (x0 : Bool) (x1 : Nat) (ds : List Int) (m : List Int) : Option (Nat × Bool × List Int × Bool × List Int × Bool × Nat × List Int × List Int) :=
  if ((decide (i < (((List.length a1) : Nat) : Int))) = true) then
    Option.bind (Lshuntref01_Times_2 k k d i (0 : Int) (0 : Int) a0 a1 b0 b1 x0 x1 ds m) fun r13 =>
    if (((0 : Int) ≤ (IntKind.wrap .i64 (r13.2.1 + (((List.length r13.2.2.2.2.2.2.1) : Nat) : Int)))) ∧ ((IntKind.wrap .i64 (r13.2.1 + (((List.length r13.2.2.2.2.2.2.1) : Nat) : Int))) < ((r13.1 : Nat) : Int))) then
      Option.bind (r13.2.2.2.2.2.2.2.2.2.1)[(0 + (Int.toNat (IntKind.wrap .i64 (r13.2.1 + (((List.length r13.2.2.2.2.2.2.1) : Nat) : Int)))))]? fun x2 =>
      if (((0 : Int) ≤ (IntKind.wrap .i64 (r13.2.1 + (((List.length r13.2.2.2.2.2.2.1) : Nat) : Int)))) ∧ ((IntKind.wrap .i64 (r13.2.1 + (((List.length r13.2.2.2.2.2.2.1) : Nat) : Int))) < ((r13.1 : Nat) : Int))) then
        Option.bind (r13.2.2.2.2.2.2.2.2.2.1)[(0 + (Int.toNat (IntKind.wrap .i64 (r13.2.1 + (((List.length r13.2.2.2.2.2.2.1) : Nat) : Int)))))]? fun x3 =>
        rec r13.1 (IntKind.wrap .i64 (r13.2.1 + (1 : Int))) r13.2.2.2.1 r13.2.2.2.2.1 r13.2.2.2.2.2.1 r13.2.2.2.2.2.2.1 r13.2.2.2.2.2.2.2.1 r13.2.2.2.2.2.2.2.2.1 (List.set r13.2.2.2.2.2.2.2.2.2.1 (0 + (Int.toNat (IntKind.wrap .i64 (r13.2.1 + (((List.length r13.2.2.2.2.2.2.1) : Nat) : Int))))) (IntKind.wrap .i64 (x2 + r13.2.2.1))) r13.2.2.2.2.2.2.2.2.2.2
      else
      none
    else
    none
  else
  (some (d, a0, a1, b0, b1, x0, x1, ds, m))
def Lshuntref01_Times_0 (k n : Nat) : Nat → Int → Bool → List Int → Bool → List Int → Bool → Nat → List Int → List Int → Option (Nat × Bool × List Int × Bool × List Int × Bool × Nat × List Int × List Int) := Nat.rec (fun _ _ _ _ _ _ _ _ _ _ => none) (fun _ r => Lshuntref01_Times_0s k r) n
def bshuntref01_Times (k : Nat) (a0 : Bool) (a1 : List Int) (b0 : Bool) (b1 : List Int) : Option (Bool × List Int) :=
  if (((0 : Int) ≤ (IntKind.wrap .i64 ((((List.length a1) : Nat) : Int) + (((List.length b1) : Nat) : Int)))) ∧ (((IntKind.wrap .i64 ((((List.length a1) : Nat) : Int) + (((List.length b1) : Nat) : Int))) ≤ (IntKind.wrap .i64 ((((List.length a1) : Nat) : Int) + (((List.length b1) : Nat) : Int)))) ∧ (((IntKind.wrap .i64 ((((List.length a1) : Nat) : Int) + (((List.length b1) : Nat) : Int))) * (8 : Int)) ≤ (140737488355328 : Int)))) then
    Option.bind (Lshuntref01_Times_0 k k (Int.toNat (IntKind.wrap .i64 ((((List.length a1) : Nat) : Int) + (((List.length b1) : Nat) : Int)))) (0 : Int) a0 a1 b0 b1 false 0 (List.replicate (Int.toNat (IntKind.wrap .i64 ((((List.length a1) : Nat) : Int) + (((List.length b1) : Nat) : Int)))) (0 : Int)) []) fun r13 =>
    Option.bind (Fshuntref01_trim_mfi k r13.1 r13.2.2.2.2.2.2.2.1) fun r14 =>
    if ((!(r13.2.1 == r13.2.2.2.1)) = true) then
      if ((0 + r14.1) ≤ (List.length r14.2)) then
        (some ((decide (((r14.1 : Nat) : Int) > (0 : Int))), (List.take r14.1 r14.2)))
      else
      none
    else
    if ((0 + r14.1) ≤ (List.length r14.2)) then
      (some (false, (List.take r14.1 r14.2)))
    else
    none
  else
  none
def Fshuntref01_Times : Nat → Bool → List Int → Bool → List Int → Option (Bool × List Int)
  | 0, _, _, _, _ => none
  | k + 1, a0, a1, b0, b1 => bshuntref01_Times k a0 a1 b0 b1
def shshuntref01_Times : FS := { vs := [.g [.lf .bool, .lf (.sl (.int .i64))], .g [.lf .bool, .lf (.sl (.int .i64))]], bs := [] }
def rsshuntref01_Times : List FS := [{ vs := [.g [.lf .bool, .lf (.sl (.int .i64))]], bs := [] }]
def Ishuntref01_Times (k : Nat) : Inst := ⟨94, shshuntref01_Times, rsshuntref01_Times, fun x => Fshuntref01_Times k x.1 x.2.1 x.2.2.1 x.2.2.2⟩
theorem alshuntref01_Times (k : Nat) : AllI (call cf k) [Ishuntref01_trim_mfi k] := And.intro (okshuntref01_trim_mfi k) (True.intro)
def hsshuntref01_Times_2 : List SS := [{ fr := [(2, .a (.ptr 0 0 0)), (3, .a (.ptr 1 0 0)), (4, .a (.ptr 2 0 0)), (5, .a (.smz 3)), (6, .a (.lf (.int .i64))), (7, .a (.lf (.int .i64))), (8, .a (.lf (.int .i64)))], mem := [(0, some (.raw [[.lf .bool, .lf (.sl (.int .i64))]] 2 65 true false)), (1, some (.raw [[.lf .bool, .lf (.sl (.int .i64))]] 2 65 true false)), (2, some (.raw [[.lf .bool, .smz 4]] 2 65 false false)), (3, some (.arr (.int .i64) 1 3 false)), (4, some (.arr (.int .i64) 1 3 false))], nx := 5 }]
def osshuntref01_Times_2 : List OS := [⟨some 2, { fr := [(2, .a (.ptr 0 0 0)), (3, .a (.ptr 1 0 0)), (4, .a (.ptr 2 0 0)), (5, .a (.smz 3)), (6, .a (.lf (.int .i64))), (7, .a (.lf (.int .i64)))], mem := [(0, some (.raw [[.lf .bool, .lf (.sl (.int .i64))]] 2 65 true false)), (1, some (.raw [[.lf .bool, .lf (.sl (.int .i64))]] 2 65 true false)), (2, some (.raw [[.lf .bool, .smz 4]] 2 65 false false)), (3, some (.arr (.int .i64) 1 3 false)), (4, some (.arr (.int .i64) 1 3 false))], nx := 5 }⟩]
def LIshuntref01_Times_2 (k : Nat) : LInst := ⟨2, hsshuntref01_Times_2, osshuntref01_Times_2, fun x => Lshuntref01_Times_2 k k x.1 x.2.1 x.2.2.1 x.2.2.2.1 x.2.2.2.2.1 x.2.2.2.2.2.1 x.2.2.2.2.2.2.1 x.2.2.2.2.2.2.2.1 x.2.2.2.2.2.2.2.2.1 x.2.2.2.2.2.2.2.2.2.1 x.2.2.2.2.2.2.2.2.2.2.1 x.2.2.2.2.2.2.2.2.2.2.2⟩
theorem anshuntref01_Times_2 (k : Nat) : LAll (LOk (R := DS OS.D osshuntref01_Times_2) (fun b _ σ K => LOt Ty (kps 94) 0 b σ K []) cf (call cf k) (kps 94) Try.f94.ntmps k 0) 2 (lb Try.f94 1) :=
  And.intro (And.intro (True.intro) (And.intro (True.intro) (True.intro))) (And.intro (And.intro (True.intro) (And.intro (True.intro) (True.intro))) (True.intro))
theorem stshuntref01_Times_2 (k n : Nat) (x : DS SS.D hsshuntref01_Times_2) : Lshuntref01_Times_2 k (n + 1) x.1 x.2.1 x.2.2.1 x.2.2.2.1 x.2.2.2.2.1 x.2.2.2.2.2.1 x.2.2.2.2.2.2.1 x.2.2.2.2.2.2.2.1 x.2.2.2.2.2.2.2.2.1 x.2.2.2.2.2.2.2.2.2.1 x.2.2.2.2.2.2.2.2.2.2.1 x.2.2.2.2.2.2.2.2.2.2.2 = encSK SS.enc (fun σ => run2 cf (fun f a b K => COt f a b K [Ishuntref01_trim_mfi k]) (fun b _ σ K => LOt Ty (kps 94) 0 b σ K []) Try.f94.ntmps 2 (lb Try.f94 1) σ (nextK Ty (kps 94 2) 0 hsshuntref01_Times_2 osshuntref01_Times_2 fun x => Lshuntref01_Times_2 k n x.1 x.2.1 x.2.2.1 x.2.2.2.1 x.2.2.2.2.1 x.2.2.2.2.2.1 x.2.2.2.2.2.2.1 x.2.2.2.2.2.2.2.1 x.2.2.2.2.2.2.2.2.1 x.2.2.2.2.2.2.2.2.2.1 x.2.2.2.2.2.2.2.2.2.2.1 x.2.2.2.2.2.2.2.2.2.2.2)) hsshuntref01_Times_2 x := by kernel_rfl
theorem loshuntref01_Times_2 (k : Nat) : LIOk cf (call cf k) (kps 94) Try.f94.ntmps k 0 2 (lb Try.f94 1) (LIshuntref01_Times_2 k) :=
  loop_ok (c := cf) (callF := call cf k) (kp := kps 94) (nt := Try.f94.ntmps) (k := k) (p := 0) (b := 2) (x0 := lb Try.f94 1) (hs := hsshuntref01_Times_2) (os := osshuntref01_Times_2) (COt_ok (alshuntref01_Times k)) (anshuntref01_Times_2 k) (fun n x => Lshuntref01_Times_2 k n x.1 x.2.1 x.2.2.1 x.2.2.2.1 x.2.2.2.2.1 x.2.2.2.2.2.1 x.2.2.2.2.2.2.1 x.2.2.2.2.2.2.2.1 x.2.2.2.2.2.2.2.2.1 x.2.2.2.2.2.2.2.2.2.1 x.2.2.2.2.2.2.2.2.2.2.1 x.2.2.2.2.2.2.2.2.2.2.2) (fun _ => rfl) (stshuntref01_Times_2 k)
def hsshuntref01_Times_0 : List SS := [{ fr := [(2, .a (.ptr 0 0 0)), (3, .a (.ptr 1 0 0)), (4, .a (.ptr 2 0 0)), (5, .a (.smz 3)), (6, .a (.lf (.int .i64)))], mem := [(0, some (.raw [[.lf .bool, .lf (.sl (.int .i64))]] 2 65 true false)), (1, some (.raw [[.lf .bool, .lf (.sl (.int .i64))]] 2 65 true false)), (2, some (.raw [[.lf .bool, .smz 4]] 2 65 false false)), (3, some (.arr (.int .i64) 1 3 false)), (4, some (.arr (.int .i64) 1 3 false))], nx := 5 }]
def osshuntref01_Times_0 : List OS := [⟨some 0, { fr := [(2, .a (.ptr 0 0 0)), (3, .a (.ptr 1 0 0)), (4, .a (.ptr 2 0 0)), (5, .a (.smz 3))], mem := [(0, some (.raw [[.lf .bool, .lf (.sl (.int .i64))]] 2 65 true false)), (1, some (.raw [[.lf .bool, .lf (.sl (.int .i64))]] 2 65 true false)), (2, some (.raw [[.lf .bool, .smz 4]] 2 65 false false)), (3, some (.arr (.int .i64) 1 3 false)), (4, some (.arr (.int .i64) 1 3 false))], nx := 5 }⟩]
def LIshuntref01_Times_0 (k : Nat) : LInst := ⟨0, hsshuntref01_Times_0, osshuntref01_Times_0, fun x => Lshuntref01_Times_0 k k x.1 x.2.1 x.2.2.1 x.2.2.2.1 x.2.2.2.2.1 x.2.2.2.2.2.1 x.2.2.2.2.2.2.1 x.2.2.2.2.2.2.2.1 x.2.2.2.2.2.2.2.2.1 x.2.2.2.2.2.2.2.2.2⟩
theorem anshuntref01_Times_0 (k : Nat) : LAll (LOk (R := DS OS.D osshuntref01_Times_0) (fun b _ σ K => LOt Ty (kps 94) 0 b σ K [LIshuntref01_Times_2 k]) cf (call cf k) (kps 94) Try.f94.ntmps k 0) 0 (lb Try.f94 0) :=
  And.intro (And.intro (True.intro) (And.intro (True.intro) (True.intro))) (And.intro (And.intro (True.intro) (And.intro (And.intro (True.intro) (LOt_ok (c := cf) (callF := call cf k) (kp := kps 94) (nt := Try.f94.ntmps) (k := k) (p := 0) (b := 2) (x0 := lb Try.f94 1) (l := [LIshuntref01_Times_2 k]) (And.intro (fun _ => loshuntref01_Times_2 k) (True.intro)))) (True.intro))) (True.intro))
theorem stshuntref01_Times_0 (k n : Nat) (x : DS SS.D hsshuntref01_Times_0) : Lshuntref01_Times_0 k (n + 1) x.1 x.2.1 x.2.2.1 x.2.2.2.1 x.2.2.2.2.1 x.2.2.2.2.2.1 x.2.2.2.2.2.2.1 x.2.2.2.2.2.2.2.1 x.2.2.2.2.2.2.2.2.1 x.2.2.2.2.2.2.2.2.2 = encSK SS.enc (fun σ => run2 cf (fun f a b K => COt f a b K [Ishuntref01_trim_mfi k]) (fun b _ σ K => LOt Ty (kps 94) 0 b σ K [LIshuntref01_Times_2 k]) Try.f94.ntmps 0 (lb Try.f94 0) σ (nextK Ty (kps 94 0) 0 hsshuntref01_Times_0 osshuntref01_Times_0 fun x => Lshuntref01_Times_0 k n x.1 x.2.1 x.2.2.1 x.2.2.2.1 x.2.2.2.2.1 x.2.2.2.2.2.1 x.2.2.2.2.2.2.1 x.2.2.2.2.2.2.2.1 x.2.2.2.2.2.2.2.2.1 x.2.2.2.2.2.2.2.2.2)) hsshuntref01_Times_0 x := by kernel_rfl
theorem loshuntref01_Times_0 (k : Nat) : LIOk cf (call cf k) (kps 94) Try.f94.ntmps k 0 0 (lb Try.f94 0) (LIshuntref01_Times_0 k) :=
  loop_ok (c := cf) (callF := call cf k) (kp := kps 94) (nt := Try.f94.ntmps) (k := k) (p := 0) (b := 0) (x0 := lb Try.f94 0) (hs := hsshuntref01_Times_0) (os := osshuntref01_Times_0) (COt_ok (alshuntref01_Times k)) (anshuntref01_Times_0 k) (fun n x => Lshuntref01_Times_0 k n x.1 x.2.1 x.2.2.1 x.2.2.2.1 x.2.2.2.2.1 x.2.2.2.2.2.1 x.2.2.2.2.2.2.1 x.2.2.2.2.2.2.2.1 x.2.2.2.2.2.2.2.2.1 x.2.2.2.2.2.2.2.2.2) (fun _ => rfl) (stshuntref01_Times_0 k)
theorem anshuntref01_Times (k : Nat) : LAll (LOk (R := DS FS.D rsshuntref01_Times) (fun b _ σ K => LOt Ty (kps 94) 0 b σ K [LIshuntref01_Times_2 k, LIshuntref01_Times_0 k]) cf (call cf k) (cf.keep 94) Try.f94.ntmps k shshuntref01_Times.bs.length) 0 (bd Try.f94) :=
  And.intro (True.intro) (And.intro (True.intro) (And.intro (And.intro (True.intro) (LOt_ok (c := cf) (callF := call cf k) (kp := kps 94) (nt := Try.f94.ntmps) (k := k) (p := 0) (b := 0) (x0 := lb Try.f94 0) (l := [LIshuntref01_Times_2 k, LIshuntref01_Times_0 k]) (And.intro (fun h => absurd (show (2 : Nat) = 0 from h) (by decide)) (And.intro (fun _ => loshuntref01_Times_0 k) (True.intro))))) (And.intro (True.intro) (And.intro (True.intro) (True.intro)))))
theorem stshuntref01_Times (k : Nat) (x : shshuntref01_Times.D) : Fshuntref01_Times (k + 1) x.1 x.2.1 x.2.2.1 x.2.2.2 = body2 cf (fun f a b K => COt f a b K [Ishuntref01_trim_mfi k]) (fun b _ σ K => LOt Ty (kps 94) 0 b σ K [LIshuntref01_Times_2 k, LIshuntref01_Times_0 k]) 94 Try.f94.ntmps Try.f94.results.toList (bd Try.f94) (shshuntref01_Times.enc x).1 (shshuntref01_Times.enc x).2 (putS FS.dec rsshuntref01_Times) := by kernel_rfl
theorem okshuntref01_Times : ∀ k, InstOk (call cf k) (Ishuntref01_Times k)
  | 0 => fun x y e => absurd (show (none : Option _) = some y from e) (by simp)
  | k + 1 => inst_ok (c := cf) (k := k) (f := 94) (fn := Try.f94) (body := bd Try.f94) (sh := shshuntref01_Times) (os := rsshuntref01_Times) rfl Try.func94 rfl ⟨rfl, Nat.le_of_ble_eq_true rfl⟩ (COt_ok (alshuntref01_Times k)) (anshuntref01_Times k) (fun x => Fshuntref01_Times (k + 1) x.1 x.2.1 x.2.2.1 x.2.2.2) (stshuntref01_Times k)

/-! shunt/shuntref01.digit -/
def Lshuntref01_digit_0s (k : Nat) (rec : List Int → List Int → Int → Int → Option (Int)) (r : List Int) (b : List Int) (low : Int) (high : Int) : Option (Int) :=
  if ((decide (low < high)) = true) then
    Option.bind (Fshuntref01_Small k (IntKind.wrap .i64 (Int.tdiv (IntKind.wrap .i64 ((IntKind.wrap .i64 (low + high)) + (1 : Int))) (2 : Int)))) fun r12 =>
    Option.bind (Fshuntref01_Times k false b r12.1 r12.2) fun r13 =>
    Option.bind (Fshuntref01_mags k r13.2 r) fun r14 =>
    if ((decide (r14 ≤ (0 : Int))) = true) then
      rec r b (IntKind.wrap .i64 (Int.tdiv (IntKind.wrap .i64 ((IntKind.wrap .i64 (low + high)) + (1 : Int))) (2 : Int))) high
    else
    rec r b low (IntKind.wrap .i64 ((IntKind.wrap .i64 (Int.tdiv (IntKind.wrap .i64 ((IntKind.wrap .i64 (low + high)) + (1 : Int))) (2 : Int))) - (1 : Int)))
  else
  (some low)
def Lshuntref01_digit_0 (k n : Nat) : List Int → List Int → Int → Int → Option (Int) := Nat.rec (fun _ _ _ _ => none) (fun _ r => Lshuntref01_digit_0s k r) n
def bshuntref01_digit (k : Nat) (r : List Int) (b : List Int) : Option (Int) :=
  Option.bind (Fshuntref01_mags k r b) fun r11 =>
  if ((decide (r11 < (0 : Int))) = true) then
    (some (0 : Int))
  else
  Option.bind (Lshuntref01_digit_0 k k r b (0 : Int) (65535 : Int)) fun r12 =>
  (some r12)
def Fshuntref01_digit : Nat → List Int → List Int → Option (Int)
  | 0, _, _ => none
  | k + 1, r, b => bshuntref01_digit k r b
def shshuntref01_digit : FS := { vs := [.a (.lf (.sl (.int .i64))), .a (.lf (.sl (.int .i64)))], bs := [] }
def rsshuntref01_digit : List FS := [{ vs := [.a (.lf (.int .i64))], bs := [] }]
def Ishuntref01_digit (k : Nat) : Inst := ⟨99, shshuntref01_digit, rsshuntref01_digit, fun x => Fshuntref01_digit k x.1 x.2⟩
theorem alshuntref01_digit (k : Nat) : AllI (call cf k) [Ishuntref01_mags k, Ishuntref01_Small k, Ishuntref01_Times k] := And.intro (okshuntref01_mags k) (And.intro (okshuntref01_Small k) (And.intro (okshuntref01_Times k) (True.intro)))
def hsshuntref01_digit_0 : List SS := [{ fr := [(0, .a (.lf (.sl (.int .i64)))), (1, .a (.lf (.sl (.int .i64)))), (5, .a (.lf (.int .i64))), (6, .a (.lf (.int .i64)))], mem := [], nx := 0 }]
def osshuntref01_digit_0 : List OS := [⟨some 0, { fr := [(5, .a (.lf (.int .i64)))], mem := [], nx := 0 }⟩]
def LIshuntref01_digit_0 (k : Nat) : LInst := ⟨0, hsshuntref01_digit_0, osshuntref01_digit_0, fun x => Lshuntref01_digit_0 k k x.1 x.2.1 x.2.2.1 x.2.2.2⟩
theorem anshuntref01_digit_0 (k : Nat) : LAll (LOk (R := DS OS.D osshuntref01_digit_0) (fun b _ σ K => LOt Ty (kps 99) 0 b σ K []) cf (call cf k) (kps 99) Try.f99.ntmps k 0) 0 (lb Try.f99 0) :=
  And.intro (And.intro (True.intro) (And.intro (True.intro) (True.intro))) (And.intro (True.intro) (And.intro (True.intro) (And.intro (True.intro) (True.intro))))
theorem stshuntref01_digit_0 (k n : Nat) (x : DS SS.D hsshuntref01_digit_0) : Lshuntref01_digit_0 k (n + 1) x.1 x.2.1 x.2.2.1 x.2.2.2 = encSK SS.enc (fun σ => run2 cf (fun f a b K => COt f a b K [Ishuntref01_mags k, Ishuntref01_Small k, Ishuntref01_Times k]) (fun b _ σ K => LOt Ty (kps 99) 0 b σ K []) Try.f99.ntmps 0 (lb Try.f99 0) σ (nextK Ty (kps 99 0) 0 hsshuntref01_digit_0 osshuntref01_digit_0 fun x => Lshuntref01_digit_0 k n x.1 x.2.1 x.2.2.1 x.2.2.2)) hsshuntref01_digit_0 x := by kernel_rfl
theorem loshuntref01_digit_0 (k : Nat) : LIOk cf (call cf k) (kps 99) Try.f99.ntmps k 0 0 (lb Try.f99 0) (LIshuntref01_digit_0 k) :=
  loop_ok (c := cf) (callF := call cf k) (kp := kps 99) (nt := Try.f99.ntmps) (k := k) (p := 0) (b := 0) (x0 := lb Try.f99 0) (hs := hsshuntref01_digit_0) (os := osshuntref01_digit_0) (COt_ok (alshuntref01_digit k)) (anshuntref01_digit_0 k) (fun n x => Lshuntref01_digit_0 k n x.1 x.2.1 x.2.2.1 x.2.2.2) (fun _ => rfl) (stshuntref01_digit_0 k)
theorem anshuntref01_digit (k : Nat) : LAll (LOk (R := DS FS.D rsshuntref01_digit) (fun b _ σ K => LOt Ty (kps 99) 0 b σ K [LIshuntref01_digit_0 k]) cf (call cf k) (cf.keep 99) Try.f99.ntmps k shshuntref01_digit.bs.length) 0 (bd Try.f99) :=
  And.intro (True.intro) (And.intro (True.intro) (And.intro (And.intro (True.intro) (And.intro (And.intro (True.intro) (True.intro)) (True.intro))) (And.intro (LOt_ok (c := cf) (callF := call cf k) (kp := kps 99) (nt := Try.f99.ntmps) (k := k) (p := 0) (b := 0) (x0 := lb Try.f99 0) (l := [LIshuntref01_digit_0 k]) (And.intro (fun _ => loshuntref01_digit_0 k) (True.intro))) (And.intro (True.intro) (True.intro)))))
theorem stshuntref01_digit (k : Nat) (x : shshuntref01_digit.D) : Fshuntref01_digit (k + 1) x.1 x.2 = body2 cf (fun f a b K => COt f a b K [Ishuntref01_mags k, Ishuntref01_Small k, Ishuntref01_Times k]) (fun b _ σ K => LOt Ty (kps 99) 0 b σ K [LIshuntref01_digit_0 k]) 99 Try.f99.ntmps Try.f99.results.toList (bd Try.f99) (shshuntref01_digit.enc x).1 (shshuntref01_digit.enc x).2 (putS FS.dec rsshuntref01_digit) := by kernel_rfl
theorem okshuntref01_digit : ∀ k, InstOk (call cf k) (Ishuntref01_digit k)
  | 0 => fun x y e => absurd (show (none : Option _) = some y from e) (by simp)
  | k + 1 => inst_ok (c := cf) (k := k) (f := 99) (fn := Try.f99) (body := bd Try.f99) (sh := shshuntref01_digit) (os := rsshuntref01_digit) rfl Try.func99 rfl ⟨rfl, Nat.le_of_ble_eq_true rfl⟩ (COt_ok (alshuntref01_digit k)) (anshuntref01_digit k) (fun x => Fshuntref01_digit (k + 1) x.1 x.2) (stshuntref01_digit k)

/-! shunt/shuntref01.minus -/
def Lshuntref01_minus_0s (k : Nat) (rec : List Int → List Int → Nat → Int → Int → List Int → Option (Nat × List Int)) (a : List Int) (b : List Int) (d : Nat) (borrow : Int) (i : Int) (ds : List Int) : Option (Nat × List Int) :=
  if ((decide (i < (((List.length a) : Nat) : Int))) = true) then
    if ((0 : Int) ≤ i) then
      Option.bind (a)[(Int.toNat i)]? fun x2 =>
      if ((decide (i < (((List.length b) : Nat) : Int))) = true) then
        if ((0 : Int) ≤ i) then
          Option.bind (b)[(Int.toNat i)]? fun x3 =>
          if ((decide ((IntKind.wrap .i64 ((IntKind.wrap .i64 (x2 - borrow)) - x3)) < (0 : Int))) = true) then
            if (d ≤ (List.length ds)) then
              if (((d + (List.length (List.take 1 ((IntKind.wrap .i64 ((IntKind.wrap .i64 ((IntKind.wrap .i64 (x2 - borrow)) - x3)) + (65536 : Int))) :: [])))) * 8) ≤ 140737488355328) then
                rec a b (d + (List.length (List.take 1 ((IntKind.wrap .i64 ((IntKind.wrap .i64 ((IntKind.wrap .i64 (x2 - borrow)) - x3)) + (65536 : Int))) :: [])))) (1 : Int) (IntKind.wrap .i64 (i + (1 : Int))) ((List.take d ds) ++ (List.take 1 ((IntKind.wrap .i64 ((IntKind.wrap .i64 ((IntKind.wrap .i64 (x2 - borrow)) - x3)) + (65536 : Int))) :: [])))
              else
              none
            else
            none
          else
          if (d ≤ (List.length ds)) then
            if (((d + (List.length (List.take 1 ((IntKind.wrap .i64 ((IntKind.wrap .i64 (x2 - borrow)) - x3)) :: [])))) * 8) ≤ 140737488355328) then
              rec a b (d + (List.length (List.take 1 ((IntKind.wrap .i64 ((IntKind.wrap .i64 (x2 - borrow)) - x3)) :: [])))) (0 : Int) (IntKind.wrap .i64 (i + (1 : Int))) ((List.take d ds) ++ (List.take 1 ((IntKind.wrap .i64 ((IntKind.wrap .i64 (x2 - borrow)) - x3)) :: [])))
            else
            none
          else
          none
        else
        none
      else
      if ((decide ((IntKind.wrap .i64 (x2 - borrow)) < (0 : Int))) = true) then
        if (d ≤ (List.length ds)) then
          if (((d + (List.length (List.take 1 ((IntKind.wrap .i64 ((IntKind.wrap .i64 (x2 - borrow)) + (65536 : Int))) :: [])))) * 8) ≤ 140737488355328) then
            rec a b (d + (List.length (List.take 1 ((IntKind.wrap .i64 ((IntKind.wrap .i64 (x2 - borrow)) + (65536 : Int))) :: [])))) (1 : Int) (IntKind.wrap .i64 (i + (1 : Int))) ((List.take d ds) ++ (List.take 1 ((IntKind.wrap .i64 ((IntKind.wrap .i64 (x2 - borrow)) + (65536 : Int))) :: [])))
          else
          none
        else
        none
      else
      if (d ≤ (List.length ds)) then
        if (((d + (List.length (List.take 1 ((IntKind.wrap .i64 (x2 - borrow)) :: [])))) * 8) ≤ 140737488355328) then
          rec a b (d + (List.length (List.take 1 ((IntKind.wrap .i64 (x2 - borrow)) :: [])))) (0 : Int) (IntKind.wrap .i64 (i + (1 : Int))) ((List.take d ds) ++ (List.take 1 ((IntKind.wrap .i64 (x2 - borrow)) :: [])))
        else
        none
      else
      none
    else
    none
  else
  (some (d, ds))
def Lshuntref01_minus_0 (k n : Nat) : List Int → List Int → Nat → Int → Int → List Int → Option (Nat × List Int) := Nat.rec (fun _ _ _ _ _ _ => none) (fun _ r => Lshuntref01_minus_0s k r) n
def bshuntref01_minus (k : Nat) (a : List Int) (b : List Int) : Option (List Int) :=
  Option.bind (Lshuntref01_minus_0 k k a b 0 (0 : Int) (0 : Int) []) fun r14 =>
  Option.bind (Fshuntref01_trim_mfi k r14.1 r14.2) fun r15 =>
  if ((0 + r15.1) ≤ (List.length r15.2)) then
    (some (List.take r15.1 r15.2))
  else
  none
def Fshuntref01_minus : Nat → List Int → List Int → Option (List Int)
  | 0, _, _ => none
  | k + 1, a, b => bshuntref01_minus k a b
def shshuntref01_minus : FS := { vs := [.a (.lf (.sl (.int .i64))), .a (.lf (.sl (.int .i64)))], bs := [] }
def rsshuntref01_minus : List FS := [{ vs := [.a (.lf (.sl (.int .i64)))], bs := [] }]
def Ishuntref01_minus (k : Nat) : Inst := ⟨100, shshuntref01_minus, rsshuntref01_minus, fun x => Fshuntref01_minus k x.1 x.2⟩
theorem alshuntref01_minus (k : Nat) : AllI (call cf k) [Ishuntref01_trim_mfi k] := And.intro (okshuntref01_trim_mfi k) (True.intro)
def hsshuntref01_minus_0 : List SS := [{ fr := [(0, .a (.lf (.sl (.int .i64)))), (1, .a (.lf (.sl (.int .i64)))), (5, .a (.smz 0)), (6, .a (.lf (.int .i64))), (7, .a (.lf (.int .i64)))], mem := [(0, some (.arr (.int .i64) 1 3 false))], nx := 1 }]
def osshuntref01_minus_0 : List OS := [⟨some 0, { fr := [(5, .a (.smz 0))], mem := [(0, some (.arr (.int .i64) 1 3 false))], nx := 1 }⟩]
def LIshuntref01_minus_0 (k : Nat) : LInst := ⟨0, hsshuntref01_minus_0, osshuntref01_minus_0, fun x => Lshuntref01_minus_0 k k x.1 x.2.1 x.2.2.1 x.2.2.2.1 x.2.2.2.2.1 x.2.2.2.2.2⟩
theorem anshuntref01_minus_0 (k : Nat) : LAll (LOk (R := DS OS.D osshuntref01_minus_0) (fun b _ σ K => LOt Ty (kps 100) 0 b σ K []) cf (call cf k) (kps 100) Try.f100.ntmps k 0) 0 (lb Try.f100 0) :=
  And.intro (And.intro (True.intro) (And.intro (True.intro) (True.intro))) (And.intro (And.intro (True.intro) (And.intro (And.intro (True.intro) (And.intro (True.intro) (True.intro))) (And.intro (True.intro) (And.intro (And.intro (True.intro) (And.intro (And.intro (True.intro) (True.intro)) (True.intro))) (True.intro))))) (True.intro))
theorem stshuntref01_minus_0 (k n : Nat) (x : DS SS.D hsshuntref01_minus_0) : Lshuntref01_minus_0 k (n + 1) x.1 x.2.1 x.2.2.1 x.2.2.2.1 x.2.2.2.2.1 x.2.2.2.2.2 = encSK SS.enc (fun σ => run2 cf (fun f a b K => COt f a b K [Ishuntref01_trim_mfi k]) (fun b _ σ K => LOt Ty (kps 100) 0 b σ K []) Try.f100.ntmps 0 (lb Try.f100 0) σ (nextK Ty (kps 100 0) 0 hsshuntref01_minus_0 osshuntref01_minus_0 fun x => Lshuntref01_minus_0 k n x.1 x.2.1 x.2.2.1 x.2.2.2.1 x.2.2.2.2.1 x.2.2.2.2.2)) hsshuntref01_minus_0 x := by kernel_rfl
theorem loshuntref01_minus_0 (k : Nat) : LIOk cf (call cf k) (kps 100) Try.f100.ntmps k 0 0 (lb Try.f100 0) (LIshuntref01_minus_0 k) :=
  loop_ok (c := cf) (callF := call cf k) (kp := kps 100) (nt := Try.f100.ntmps) (k := k) (p := 0) (b := 0) (x0 := lb Try.f100 0) (hs := hsshuntref01_minus_0) (os := osshuntref01_minus_0) (COt_ok (alshuntref01_minus k)) (anshuntref01_minus_0 k) (fun n x => Lshuntref01_minus_0 k n x.1 x.2.1 x.2.2.1 x.2.2.2.1 x.2.2.2.2.1 x.2.2.2.2.2) (fun _ => rfl) (stshuntref01_minus_0 k)
theorem anshuntref01_minus (k : Nat) : LAll (LOk (R := DS FS.D rsshuntref01_minus) (fun b _ σ K => LOt Ty (kps 100) 0 b σ K [LIshuntref01_minus_0 k]) cf (call cf k) (cf.keep 100) Try.f100.ntmps k shshuntref01_minus.bs.length) 0 (bd Try.f100) :=
  And.intro (True.intro) (And.intro (True.intro) (And.intro (True.intro) (And.intro (And.intro (True.intro) (LOt_ok (c := cf) (callF := call cf k) (kp := kps 100) (nt := Try.f100.ntmps) (k := k) (p := 0) (b := 0) (x0 := lb Try.f100 0) (l := [LIshuntref01_minus_0 k]) (And.intro (fun _ => loshuntref01_minus_0 k) (True.intro)))) (And.intro (True.intro) (True.intro)))))
theorem stshuntref01_minus (k : Nat) (x : shshuntref01_minus.D) : Fshuntref01_minus (k + 1) x.1 x.2 = body2 cf (fun f a b K => COt f a b K [Ishuntref01_trim_mfi k]) (fun b _ σ K => LOt Ty (kps 100) 0 b σ K [LIshuntref01_minus_0 k]) 100 Try.f100.ntmps Try.f100.results.toList (bd Try.f100) (shshuntref01_minus.enc x).1 (shshuntref01_minus.enc x).2 (putS FS.dec rsshuntref01_minus) := by kernel_rfl
theorem okshuntref01_minus : ∀ k, InstOk (call cf k) (Ishuntref01_minus k)
  | 0 => fun x y e => absurd (show (none : Option _) = some y from e) (by simp)
  | k + 1 => inst_ok (c := cf) (k := k) (f := 100) (fn := Try.f100) (body := bd Try.f100) (sh := shshuntref01_minus) (os := rsshuntref01_minus) rfl Try.func100 rfl ⟨rfl, Nat.le_of_ble_eq_true rfl⟩ (COt_ok (alshuntref01_minus k)) (anshuntref01_minus k) (fun x => Fshuntref01_minus (k + 1) x.1 x.2) (stshuntref01_minus k)

/-! shunt/shuntref01.Divide -/
def Lshuntref01_Divide_0s (k : Nat) (rec : ((Nat × Nat × Int × Bool × List Int × Bool × List Int × Bool × Nat × Bool × Nat × List Int × List Int × List Int × List Int) ⊕ (Nat × List Int × Int × Bool × List Int × Bool × List Int × Bool × Nat × Bool × Nat × List Int × List Int × List Int)) → Option ((Nat × Nat × Bool × List Int × Bool × List Int × Bool × Nat × Bool × Nat × List Int × List Int × List Int × List Int) ⊕ (Nat × List Int × Bool × List Int × Bool × List Int × Bool × Nat × Bool × Nat × List Int × List Int × List Int))) (x : (Nat × Nat × Int × Bool × List Int × Bool × List Int × Bool × Nat × Bool × Nat × List Int × List Int × List Int × List Int) ⊕ (Nat × List Int × Int × Bool × List Int × Bool × List Int × Bool × Nat × Bool × Nat × List Int × List Int × List Int)) : Option ((Nat × Nat × Bool × List Int × Bool × List Int × Bool × Nat × Bool × Nat × List Int × List Int × List Int × List Int) ⊕ (Nat × List Int × Bool × List Int × Bool × List Int × Bool × Nat × Bool × Nat × List Int × List Int × List Int)) :=
  eitherK x
  (fun x =>
  if ((decide (x.2.2.1 ≥ (0 : Int))) = true) then
    if ((0 : Int) ≤ x.2.2.1) then
      Option.bind (x.2.2.2.2.1)[(Int.toNat x.2.2.1)]? fun x2 =>
      if ((0 + x.2.1) ≤ (List.length x.2.2.2.2.2.2.2.2.2.2.2.2.1)) then
        if (((1 + (List.length (List.take x.2.1 x.2.2.2.2.2.2.2.2.2.2.2.2.1))) * 8) ≤ 140737488355328) then
          Option.bind (Fshuntref01_trim_mfi k (1 + (List.length (List.take x.2.1 x.2.2.2.2.2.2.2.2.2.2.2.2.1))) ((List.take 1 (x2 :: [])) ++ (List.take x.2.1 x.2.2.2.2.2.2.2.2.2.2.2.2.1))) fun r10 =>
          if ((0 + r10.1) ≤ (List.length r10.2)) then
            Option.bind (Fshuntref01_digit k (List.take r10.1 r10.2) x.2.2.2.2.2.2.1) fun r11 =>
            if ((decide (r11 > (0 : Int))) = true) then
              Option.bind (Fshuntref01_Small k r11) fun r12 =>
              Option.bind (Fshuntref01_Times k false x.2.2.2.2.2.2.1 r12.1 r12.2) fun r13 =>
              if ((0 + r10.1) ≤ (List.length r10.2)) then
                Option.bind (Fshuntref01_minus k (List.take r10.1 r10.2) r13.2) fun r14 =>
                if (((0 : Int) ≤ x.2.2.1) ∧ (x.2.2.1 < ((x.1 : Nat) : Int))) then
                  Option.bind (x.2.2.2.2.2.2.2.2.2.2.2.1)[(0 + (Int.toNat x.2.2.1))]? fun x3 =>
                  rec (Sum.inr (x.1, r14, (IntKind.wrap .i64 (x.2.2.1 - (1 : Int))), x.2.2.2.1, x.2.2.2.2.1, x.2.2.2.2.2.1, x.2.2.2.2.2.2.1, x.2.2.2.2.2.2.2.1, x.2.2.2.2.2.2.2.2.1, x.2.2.2.2.2.2.2.2.2.1, x.2.2.2.2.2.2.2.2.2.2.1, (List.set x.2.2.2.2.2.2.2.2.2.2.2.1 (0 + (Int.toNat x.2.2.1)) r11), x.2.2.2.2.2.2.2.2.2.2.2.2.2.1, x.2.2.2.2.2.2.2.2.2.2.2.2.2.2))
                else
                none
              else
              none
            else
            if (((0 : Int) ≤ x.2.2.1) ∧ (x.2.2.1 < ((x.1 : Nat) : Int))) then
              Option.bind (x.2.2.2.2.2.2.2.2.2.2.2.1)[(0 + (Int.toNat x.2.2.1))]? fun x3 =>
              rec (Sum.inl (x.1, r10.1, (IntKind.wrap .i64 (x.2.2.1 - (1 : Int))), x.2.2.2.1, x.2.2.2.2.1, x.2.2.2.2.2.1, x.2.2.2.2.2.2.1, x.2.2.2.2.2.2.2.1, x.2.2.2.2.2.2.2.2.1, x.2.2.2.2.2.2.2.2.2.1, x.2.2.2.2.2.2.2.2.2.2.1, (List.set x.2.2.2.2.2.2.2.2.2.2.2.1 (0 + (Int.toNat x.2.2.1)) r11), r10.2, x.2.2.2.2.2.2.2.2.2.2.2.2.2.1, x.2.2.2.2.2.2.2.2.2.2.2.2.2.2))
            else
            none
          else
          none
        else
        none
      else
      none
    else
    none
  else
  (some (Sum.inl (x.1, x.2.1, x.2.2.2.1, x.2.2.2.2.1, x.2.2.2.2.2.1, x.2.2.2.2.2.2.1, x.2.2.2.2.2.2.2.1, x.2.2.2.2.2.2.2.2.1, x.2.2.2.2.2.2.2.2.2.1, x.2.2.2.2.2.2.2.2.2.2.1, x.2.2.2.2.2.2.2.2.2.2.2.1, x.2.2.2.2.2.2.2.2.2.2.2.2.1, x.2.2.2.2.2.2.2.2.2.2.2.2.2.1, x.2.2.2.2.2.2.2.2.2.2.2.2.2.2))))
  (fun x =>
  if ((decide (x.2.2.1 ≥ (0 : Int))) = true) then
    if ((0 : Int) ≤ x.2.2.1) then
      Option.bind (x.2.2.2.2.1)[(Int.toNat x.2.2.1)]? fun x2 =>
      if (((1 + (List.length x.2.1)) * 8) ≤ 140737488355328) then
        Option.bind (Fshuntref01_trim_mfi k (1 + (List.length x.2.1)) ((List.take 1 (x2 :: [])) ++ x.2.1)) fun r10 =>
        if ((0 + r10.1) ≤ (List.length r10.2)) then
          Option.bind (Fshuntref01_digit k (List.take r10.1 r10.2) x.2.2.2.2.2.2.1) fun r11 =>
          if ((decide (r11 > (0 : Int))) = true) then
            Option.bind (Fshuntref01_Small k r11) fun r12 =>
            Option.bind (Fshuntref01_Times k false x.2.2.2.2.2.2.1 r12.1 r12.2) fun r13 =>
            if ((0 + r10.1) ≤ (List.length r10.2)) then
              Option.bind (Fshuntref01_minus k (List.take r10.1 r10.2) r13.2) fun r14 =>
              if (((0 : Int) ≤ x.2.2.1) ∧ (x.2.2.1 < ((x.1 : Nat) : Int))) then
                Option.bind (x.2.2.2.2.2.2.2.2.2.2.2.1)[(0 + (Int.toNat x.2.2.1))]? fun x3 =>
                rec (Sum.inr (x.1, r14, (IntKind.wrap .i64 (x.2.2.1 - (1 : Int))), x.2.2.2.1, x.2.2.2.2.1, x.2.2.2.2.2.1, x.2.2.2.2.2.2.1, x.2.2.2.2.2.2.2.1, x.2.2.2.2.2.2.2.2.1, x.2.2.2.2.2.2.2.2.2.1, x.2.2.2.2.2.2.2.2.2.2.1, (List.set x.2.2.2.2.2.2.2.2.2.2.2.1 (0 + (Int.toNat x.2.2.1)) r11), x.2.2.2.2.2.2.2.2.2.2.2.2.1, x.2.2.2.2.2.2.2.2.2.2.2.2.2))
              else
              none
            else
            none
          else
          if (((0 : Int) ≤ x.2.2.1) ∧ (x.2.2.1 < ((x.1 : Nat) : Int))) then
            Option.bind (x.2.2.2.2.2.2.2.2.2.2.2.1)[(0 + (Int.toNat x.2.2.1))]? fun x3 =>
            rec (Sum.inl (x.1, r10.1, (IntKind.wrap .i64 (x.2.2.1 - (1 : Int))), x.2.2.2.1, x.2.2.2.2.1, x.2.2.2.2.2.1, x.2.2.2.2.2.2.1, x.2.2.2.2.2.2.2.1, x.2.2.2.2.2.2.2.2.1, x.2.2.2.2.2.2.2.2.2.1, x.2.2.2.2.2.2.2.2.2.2.1, (List.set x.2.2.2.2.2.2.2.2.2.2.2.1 (0 + (Int.toNat x.2.2.1)) r11), r10.2, x.2.2.2.2.2.2.2.2.2.2.2.2.1, x.2.2.2.2.2.2.2.2.2.2.2.2.2))
          else
          none
        else
        none
      else
      none
    else
    none
  else
  (some (Sum.inr (x.1, x.2.1, x.2.2.2.1, x.2.2.2.2.1, x.2.2.2.2.2.1, x.2.2.2.2.2.2.1, x.2.2.2.2.2.2.2.1, x.2.2.2.2.2.2.2.2.1, x.2.2.2.2.2.2.2.2.2.1, x.2.2.2.2.2.2.2.2.2.2.1, x.2.2.2.2.2.2.2.2.2.2.2.1, x.2.2.2.2.2.2.2.2.2.2.2.2.1, x.2.2.2.2.2.2.2.2.2.2.2.2.2))))
def Lshuntref01_Divide_0 (k n : Nat) : ((Nat × Nat × Int × Bool × List Int × Bool × List Int × Bool × Nat × Bool × Nat × List Int × List Int × List Int × List Int) ⊕ (Nat × List Int × Int × Bool × List Int × Bool × List Int × Bool × Nat × Bool × Nat × List Int × List Int × List Int)) → Option ((Nat × Nat × Bool × List Int × Bool × List Int × Bool × Nat × Bool × Nat × List Int × List Int × List Int × List Int) ⊕ (Nat × List Int × Bool × List Int × Bool × List Int × Bool × Nat × Bool × Nat × List Int × List Int × List Int)) := Nat.rec (fun _ => none) (fun _ r => Lshuntref01_Divide_0s k r) n
def bshuntref01_Divide (k : Nat) (a0 : Bool) (a1 : List Int) (b0 : Bool) (b1 : List Int) : Option (Bool × List Int × Bool × List Int) :=
  if (((0 : Int) ≤ (((List.length a1) : Nat) : Int)) ∧ (((((List.length a1) : Nat) : Int) ≤ (((List.length a1) : Nat) : Int)) ∧ (((((List.length a1) : Nat) : Int) * (8 : Int)) ≤ (140737488355328 : Int)))) then
    Option.bind (Lshuntref01_Divide_0 k k (Sum.inl ((Int.toNat (((List.length a1) : Nat) : Int)), 0, (IntKind.wrap .i64 ((((List.length a1) : Nat) : Int) - (1 : Int))), a0, a1, b0, b1, false, 0, false, 0, (List.replicate (Int.toNat (((List.length a1) : Nat) : Int)) (0 : Int)), [], [], []))) fun r10 =>
    eitherK r10
      (fun r10 =>
      Option.bind (Fshuntref01_trim_mfi k r10.1 r10.2.2.2.2.2.2.2.2.2.2.1) fun r11 =>
      if ((!(r10.2.2.1 == r10.2.2.2.2.1)) = true) then
        if (r10.2.2.1 = true) then
          if ((0 + r11.1) ≤ (List.length r11.2)) then
            if ((0 + r10.2.1) ≤ (List.length r10.2.2.2.2.2.2.2.2.2.2.2.1)) then
              (some ((decide (((r11.1 : Nat) : Int) > (0 : Int))), (List.take r11.1 r11.2), (decide (((r10.2.1 : Nat) : Int) > (0 : Int))), (List.take r10.2.1 r10.2.2.2.2.2.2.2.2.2.2.2.1)))
            else
            none
          else
          none
        else
        if ((0 + r11.1) ≤ (List.length r11.2)) then
          if ((0 + r10.2.1) ≤ (List.length r10.2.2.2.2.2.2.2.2.2.2.2.1)) then
            (some ((decide (((r11.1 : Nat) : Int) > (0 : Int))), (List.take r11.1 r11.2), false, (List.take r10.2.1 r10.2.2.2.2.2.2.2.2.2.2.2.1)))
          else
          none
        else
        none
      else
      if (r10.2.2.1 = true) then
        if ((0 + r11.1) ≤ (List.length r11.2)) then
          if ((0 + r10.2.1) ≤ (List.length r10.2.2.2.2.2.2.2.2.2.2.2.1)) then
            (some (false, (List.take r11.1 r11.2), (decide (((r10.2.1 : Nat) : Int) > (0 : Int))), (List.take r10.2.1 r10.2.2.2.2.2.2.2.2.2.2.2.1)))
          else
          none
        else
        none
      else
      if ((0 + r11.1) ≤ (List.length r11.2)) then
        if ((0 + r10.2.1) ≤ (List.length r10.2.2.2.2.2.2.2.2.2.2.2.1)) then
          (some (false, (List.take r11.1 r11.2), false, (List.take r10.2.1 r10.2.2.2.2.2.2.2.2.2.2.2.1)))
        else
        none
      else
      none)
      (fun r10 =>
      Option.bind (Fshuntref01_trim_mfi k r10.1 r10.2.2.2.2.2.2.2.2.2.2.1) fun r11 =>
      if ((!(r10.2.2.1 == r10.2.2.2.2.1)) = true) then
        if (r10.2.2.1 = true) then
          if ((0 + r11.1) ≤ (List.length r11.2)) then
            (some ((decide (((r11.1 : Nat) : Int) > (0 : Int))), (List.take r11.1 r11.2), (decide ((((List.length r10.2.1) : Nat) : Int) > (0 : Int))), r10.2.1))
          else
          none
        else
        if ((0 + r11.1) ≤ (List.length r11.2)) then
          (some ((decide (((r11.1 : Nat) : Int) > (0 : Int))), (List.take r11.1 r11.2), false, r10.2.1))
        else
        none
      else
      if (r10.2.2.1 = true) then
        if ((0 + r11.1) ≤ (List.length r11.2)) then
          (some (false, (List.take r11.1 r11.2), (decide ((((List.length r10.2.1) : Nat) : Int) > (0 : Int))), r10.2.1))
        else
        none
      else
      if ((0 + r11.1) ≤ (List.length r11.2)) then
        (some (false, (List.take r11.1 r11.2), false, r10.2.1))
      else
      none)
  else
  none
def Fshuntref01_Divide : Nat → Bool → List Int → Bool → List Int → Option (Bool × List Int × Bool × List Int)
  | 0, _, _, _, _ => none
  | k + 1, a0, a1, b0, b1 => bshuntref01_Divide k a0 a1 b0 b1
def shshuntref01_Divide : FS := { vs := [.g [.lf .bool, .lf (.sl (.int .i64))], .g [.lf .bool, .lf (.sl (.int .i64))]], bs := [] }
def rsshuntref01_Divide : List FS := [{ vs := [.g [.lf .bool, .lf (.sl (.int .i64))], .g [.lf .bool, .lf (.sl (.int .i64))]], bs := [] }]
def Ishuntref01_Divide (k : Nat) : Inst := ⟨76, shshuntref01_Divide, rsshuntref01_Divide, fun x => Fshuntref01_Divide k x.1 x.2.1 x.2.2.1 x.2.2.2⟩
theorem alshuntref01_Divide (k : Nat) : AllI (call cf k) [Ishuntref01_trim_mfi k, Ishuntref01_digit k, Ishuntref01_Small k, Ishuntref01_Times k, Ishuntref01_minus k] := And.intro (okshuntref01_trim_mfi k) (And.intro (okshuntref01_digit k) (And.intro (okshuntref01_Small k) (And.intro (okshuntref01_Times k) (And.intro (okshuntref01_minus k) (True.intro)))))
def hsshuntref01_Divide_0 : List SS := [{ fr := [(2, .a (.ptr 0 0 0)), (3, .a (.ptr 1 0 0)), (4, .a (.ptr 2 0 0)), (5, .a (.ptr 3 0 0)), (6, .a (.smz 4)), (7, .a (.smz 5)), (8, .a (.lf (.int .i64)))], mem := [(0, some (.raw [[.lf .bool, .lf (.sl (.int .i64))]] 2 65 true false)), (1, some (.raw [[.lf .bool, .lf (.sl (.int .i64))]] 2 65 true false)), (2, some (.raw [[.lf .bool, .smz 6]] 2 65 false false)), (3, some (.raw [[.lf .bool, .smz 7]] 2 65 false false)), (4, some (.arr (.int .i64) 1 3 false)), (5, some (.arr (.int .i64) 1 3 false)), (6, some (.arr (.int .i64) 1 3 false)), (7, some (.arr (.int .i64) 1 3 false))], nx := 8 }, { fr := [(2, .a (.ptr 0 0 0)), (3, .a (.ptr 1 0 0)), (4, .a (.ptr 2 0 0)), (5, .a (.ptr 3 0 0)), (6, .a (.smz 4)), (7, .a (.lf (.sl (.int .i64)))), (8, .a (.lf (.int .i64)))], mem := [(0, some (.raw [[.lf .bool, .lf (.sl (.int .i64))]] 2 65 true false)), (1, some (.raw [[.lf .bool, .lf (.sl (.int .i64))]] 2 65 true false)), (2, some (.raw [[.lf .bool, .smz 5]] 2 65 false false)), (3, some (.raw [[.lf .bool, .smz 6]] 2 65 false false)), (4, some (.arr (.int .i64) 1 3 false)), (5, some (.arr (.int .i64) 1 3 false)), (6, some (.arr (.int .i64) 1 3 false))], nx := 7 }]
def osshuntref01_Divide_0 : List OS := [⟨some 0, { fr := [(2, .a (.ptr 0 0 0)), (3, .a (.ptr 1 0 0)), (4, .a (.ptr 2 0 0)), (5, .a (.ptr 3 0 0)), (6, .a (.smz 4)), (7, .a (.smz 5))], mem := [(0, some (.raw [[.lf .bool, .lf (.sl (.int .i64))]] 2 65 true false)), (1, some (.raw [[.lf .bool, .lf (.sl (.int .i64))]] 2 65 true false)), (2, some (.raw [[.lf .bool, .smz 6]] 2 65 false false)), (3, some (.raw [[.lf .bool, .smz 7]] 2 65 false false)), (4, some (.arr (.int .i64) 1 3 false)), (5, some (.arr (.int .i64) 1 3 false)), (6, some (.arr (.int .i64) 1 3 false)), (7, some (.arr (.int .i64) 1 3 false))], nx := 8 }⟩, ⟨some 0, { fr := [(2, .a (.ptr 0 0 0)), (3, .a (.ptr 1 0 0)), (4, .a (.ptr 2 0 0)), (5, .a (.ptr 3 0 0)), (6, .a (.smz 4)), (7, .a (.lf (.sl (.int .i64))))], mem := [(0, some (.raw [[.lf .bool, .lf (.sl (.int .i64))]] 2 65 true false)), (1, some (.raw [[.lf .bool, .lf (.sl (.int .i64))]] 2 65 true false)), (2, some (.raw [[.lf .bool, .smz 5]] 2 65 false false)), (3, some (.raw [[.lf .bool, .smz 6]] 2 65 false false)), (4, some (.arr (.int .i64) 1 3 false)), (5, some (.arr (.int .i64) 1 3 false)), (6, some (.arr (.int .i64) 1 3 false))], nx := 7 }⟩]
def LIshuntref01_Divide_0 (k : Nat) : LInst := ⟨0, hsshuntref01_Divide_0, osshuntref01_Divide_0, fun x => Lshuntref01_Divide_0 k k x⟩
theorem anshuntref01_Divide_0 (k : Nat) : LAll (LOk (R := DS OS.D osshuntref01_Divide_0) (fun b _ σ K => LOt Ty (kps 76) 0 b σ K []) cf (call cf k) (kps 76) Try.f76.ntmps k 0) 0 (lb Try.f76 0) :=
  And.intro (And.intro (True.intro) (And.intro (True.intro) (True.intro))) (And.intro (And.intro (True.intro) (And.intro (True.intro) (And.intro (True.intro) (And.intro (And.intro (True.intro) (And.intro (True.intro) (True.intro))) (True.intro))))) (True.intro))
theorem stshuntref01_Divide_0 (k n : Nat) (x : DS SS.D hsshuntref01_Divide_0) : Lshuntref01_Divide_0 k (n + 1) x = encSK SS.enc (fun σ => run2 cf (fun f a b K => COt f a b K [Ishuntref01_trim_mfi k, Ishuntref01_digit k, Ishuntref01_Small k, Ishuntref01_Times k, Ishuntref01_minus k]) (fun b _ σ K => LOt Ty (kps 76) 0 b σ K []) Try.f76.ntmps 0 (lb Try.f76 0) σ (nextK Ty (kps 76 0) 0 hsshuntref01_Divide_0 osshuntref01_Divide_0 fun x => Lshuntref01_Divide_0 k n x)) hsshuntref01_Divide_0 x := by kernel_rfl
theorem loshuntref01_Divide_0 (k : Nat) : LIOk cf (call cf k) (kps 76) Try.f76.ntmps k 0 0 (lb Try.f76 0) (LIshuntref01_Divide_0 k) :=
  loop_ok (c := cf) (callF := call cf k) (kp := kps 76) (nt := Try.f76.ntmps) (k := k) (p := 0) (b := 0) (x0 := lb Try.f76 0) (hs := hsshuntref01_Divide_0) (os := osshuntref01_Divide_0) (COt_ok (alshuntref01_Divide k)) (anshuntref01_Divide_0 k) (fun n x => Lshuntref01_Divide_0 k n x) (fun _ => rfl) (stshuntref01_Divide_0 k)
theorem anshuntref01_Divide (k : Nat) : LAll (LOk (R := DS FS.D rsshuntref01_Divide) (fun b _ σ K => LOt Ty (kps 76) 0 b σ K [LIshuntref01_Divide_0 k]) cf (call cf k) (cf.keep 76) Try.f76.ntmps k shshuntref01_Divide.bs.length) 0 (bd Try.f76) :=
  And.intro (True.intro) (And.intro (True.intro) (And.intro (True.intro) (And.intro (And.intro (True.intro) (LOt_ok (c := cf) (callF := call cf k) (kp := kps 76) (nt := Try.f76.ntmps) (k := k) (p := 0) (b := 0) (x0 := lb Try.f76 0) (l := [LIshuntref01_Divide_0 k]) (And.intro (fun _ => loshuntref01_Divide_0 k) (True.intro)))) (And.intro (True.intro) (And.intro (True.intro) (True.intro))))))
theorem stshuntref01_Divide (k : Nat) (x : shshuntref01_Divide.D) : Fshuntref01_Divide (k + 1) x.1 x.2.1 x.2.2.1 x.2.2.2 = body2 cf (fun f a b K => COt f a b K [Ishuntref01_trim_mfi k, Ishuntref01_digit k, Ishuntref01_Small k, Ishuntref01_Times k, Ishuntref01_minus k]) (fun b _ σ K => LOt Ty (kps 76) 0 b σ K [LIshuntref01_Divide_0 k]) 76 Try.f76.ntmps Try.f76.results.toList (bd Try.f76) (shshuntref01_Divide.enc x).1 (shshuntref01_Divide.enc x).2 (putS FS.dec rsshuntref01_Divide) := by kernel_rfl
theorem okshuntref01_Divide : ∀ k, InstOk (call cf k) (Ishuntref01_Divide k)
  | 0 => fun x y e => absurd (show (none : Option _) = some y from e) (by simp)
  | k + 1 => inst_ok (c := cf) (k := k) (f := 76) (fn := Try.f76) (body := bd Try.f76) (sh := shshuntref01_Divide) (os := rsshuntref01_Divide) rfl Try.func76 rfl ⟨rfl, Nat.le_of_ble_eq_true rfl⟩ (COt_ok (alshuntref01_Divide k)) (anshuntref01_Divide k) (fun x => Fshuntref01_Divide (k + 1) x.1 x.2.1 x.2.2.1 x.2.2.2) (stshuntref01_Divide k)

/-! shunt/shuntref01.Common -/
def Lshuntref01_Common_0s (k : Nat) (rec : Bool → List Int → Bool → List Int → Bool → Nat → List Int → Option (Bool × List Int × Bool × List Int × Bool × Nat × List Int)) (a0 : Bool) (a1 : List Int) (b0 : Bool) (b1 : List Int) (x0 : Bool) (x1 : Nat) (m : List Int) : Option (Bool × List Int × Bool × List Int × Bool × Nat × List Int) :=
  if ((decide ((((List.length b1) : Nat) : Int) > (0 : Int))) = true) then
    Option.bind (Fshuntref01_Divide k a0 a1 b0 b1) fun r10 =>
    rec b0 b1 r10.2.2.1 r10.2.2.2 x0 x1 m
  else
  (some (a0, a1, b0, b1, x0, x1, m))
def Lshuntref01_Common_0 (k n : Nat) : Bool → List Int → Bool → List Int → Bool → Nat → List Int → Option (Bool × List Int × Bool × List Int × Bool × Nat × List Int) := Nat.rec (fun _ _ _ _ _ _ _ => none) (fun _ r => Lshuntref01_Common_0s k r) n
def bshuntref01_Common (k : Nat) (a0 : Bool) (a1 : List Int) (b0 : Bool) (b1 : List Int) : Option (Bool × List Int) :=
  Option.bind (Fshuntref01_Abs k a0 a1) fun r8 =>
  Option.bind (Fshuntref01_Abs k b0 b1) fun r9 =>
  Option.bind (Lshuntref01_Common_0 k k r8.1 r8.2 r9.1 r9.2 false 0 []) fun r10 =>
  (some (r10.1, r10.2.1))
def Fshuntref01_Common : Nat → Bool → List Int → Bool → List Int → Option (Bool × List Int)
  | 0, _, _, _, _ => none
  | k + 1, a0, a1, b0, b1 => bshuntref01_Common k a0 a1 b0 b1
def shshuntref01_Common : FS := { vs := [.g [.lf .bool, .lf (.sl (.int .i64))], .g [.lf .bool, .lf (.sl (.int .i64))]], bs := [] }
def rsshuntref01_Common : List FS := [{ vs := [.g [.lf .bool, .lf (.sl (.int .i64))]], bs := [] }]
def Ishuntref01_Common (k : Nat) : Inst := ⟨36, shshuntref01_Common, rsshuntref01_Common, fun x => Fshuntref01_Common k x.1 x.2.1 x.2.2.1 x.2.2.2⟩
theorem alshuntref01_Common (k : Nat) : AllI (call cf k) [Ishuntref01_Abs k, Ishuntref01_Divide k] := And.intro (okshuntref01_Abs k) (And.intro (okshuntref01_Divide k) (True.intro))
def hsshuntref01_Common_0 : List SS := [{ fr := [(2, .a (.ptr 0 0 0)), (3, .a (.ptr 1 0 0)), (4, .a (.ptr 2 0 0))], mem := [(0, some (.raw [[.lf .bool, .lf (.sl (.int .i64))]] 2 65 true false)), (1, some (.raw [[.lf .bool, .lf (.sl (.int .i64))]] 2 65 true false)), (2, some (.raw [[.lf .bool, .smz 3]] 2 65 false false)), (3, some (.arr (.int .i64) 1 3 false))], nx := 4 }]
def osshuntref01_Common_0 : List OS := [⟨some 0, { fr := [(2, .a (.ptr 0 0 0)), (4, .a (.ptr 2 0 0))], mem := [(0, some (.raw [[.lf .bool, .lf (.sl (.int .i64))]] 2 65 true false)), (1, some (.raw [[.lf .bool, .lf (.sl (.int .i64))]] 2 65 true false)), (2, some (.raw [[.lf .bool, .smz 3]] 2 65 false false)), (3, some (.arr (.int .i64) 1 3 false))], nx := 4 }⟩]
def LIshuntref01_Common_0 (k : Nat) : LInst := ⟨0, hsshuntref01_Common_0, osshuntref01_Common_0, fun x => Lshuntref01_Common_0 k k x.1 x.2.1 x.2.2.1 x.2.2.2.1 x.2.2.2.2.1 x.2.2.2.2.2.1 x.2.2.2.2.2.2⟩
theorem anshuntref01_Common_0 (k : Nat) : LAll (LOk (R := DS OS.D osshuntref01_Common_0) (fun b _ σ K => LOt Ty (kps 36) 0 b σ K []) cf (call cf k) (kps 36) Try.f36.ntmps k 0) 0 (lb Try.f36 0) :=
  And.intro (And.intro (True.intro) (And.intro (True.intro) (True.intro))) (And.intro (True.intro) (True.intro))
theorem stshuntref01_Common_0 (k n : Nat) (x : DS SS.D hsshuntref01_Common_0) : Lshuntref01_Common_0 k (n + 1) x.1 x.2.1 x.2.2.1 x.2.2.2.1 x.2.2.2.2.1 x.2.2.2.2.2.1 x.2.2.2.2.2.2 = encSK SS.enc (fun σ => run2 cf (fun f a b K => COt f a b K [Ishuntref01_Abs k, Ishuntref01_Divide k]) (fun b _ σ K => LOt Ty (kps 36) 0 b σ K []) Try.f36.ntmps 0 (lb Try.f36 0) σ (nextK Ty (kps 36 0) 0 hsshuntref01_Common_0 osshuntref01_Common_0 fun x => Lshuntref01_Common_0 k n x.1 x.2.1 x.2.2.1 x.2.2.2.1 x.2.2.2.2.1 x.2.2.2.2.2.1 x.2.2.2.2.2.2)) hsshuntref01_Common_0 x := by kernel_rfl
theorem loshuntref01_Common_0 (k : Nat) : LIOk cf (call cf k) (kps 36) Try.f36.ntmps k 0 0 (lb Try.f36 0) (LIshuntref01_Common_0 k) :=
  loop_ok (c := cf) (callF := call cf k) (kp := kps 36) (nt := Try.f36.ntmps) (k := k) (p := 0) (b := 0) (x0 := lb Try.f36 0) (hs := hsshuntref01_Common_0) (os := osshuntref01_Common_0) (COt_ok (alshuntref01_Common k)) (anshuntref01_Common_0 k) (fun n x => Lshuntref01_Common_0 k n x.1 x.2.1 x.2.2.1 x.2.2.2.1 x.2.2.2.2.1 x.2.2.2.2.2.1 x.2.2.2.2.2.2) (fun _ => rfl) (stshuntref01_Common_0 k)
theorem anshuntref01_Common (k : Nat) : LAll (LOk (R := DS FS.D rsshuntref01_Common) (fun b _ σ K => LOt Ty (kps 36) 0 b σ K [LIshuntref01_Common_0 k]) cf (call cf k) (cf.keep 36) Try.f36.ntmps k shshuntref01_Common.bs.length) 0 (bd Try.f36) :=
  And.intro (True.intro) (And.intro (True.intro) (And.intro (LOt_ok (c := cf) (callF := call cf k) (kp := kps 36) (nt := Try.f36.ntmps) (k := k) (p := 0) (b := 0) (x0 := lb Try.f36 0) (l := [LIshuntref01_Common_0 k]) (And.intro (fun _ => loshuntref01_Common_0 k) (True.intro))) (And.intro (True.intro) (True.intro))))
theorem stshuntref01_Common (k : Nat) (x : shshuntref01_Common.D) : Fshuntref01_Common (k + 1) x.1 x.2.1 x.2.2.1 x.2.2.2 = body2 cf (fun f a b K => COt f a b K [Ishuntref01_Abs k, Ishuntref01_Divide k]) (fun b _ σ K => LOt Ty (kps 36) 0 b σ K [LIshuntref01_Common_0 k]) 36 Try.f36.ntmps Try.f36.results.toList (bd Try.f36) (shshuntref01_Common.enc x).1 (shshuntref01_Common.enc x).2 (putS FS.dec rsshuntref01_Common) := by kernel_rfl
theorem okshuntref01_Common : ∀ k, InstOk (call cf k) (Ishuntref01_Common k)
  | 0 => fun x y e => absurd (show (none : Option _) = some y from e) (by simp)
  | k + 1 => inst_ok (c := cf) (k := k) (f := 36) (fn := Try.f36) (body := bd Try.f36) (sh := shshuntref01_Common) (os := rsshuntref01_Common) rfl Try.func36 rfl ⟨rfl, Nat.le_of_ble_eq_true rfl⟩ (COt_ok (alshuntref01_Common k)) (anshuntref01_Common k) (fun x => Fshuntref01_Common (k + 1) x.1 x.2.1 x.2.2.1 x.2.2.2) (stshuntref01_Common k)

/-! shunt/shuntref01.Minus -/
def bshuntref01_Minus (k : Nat) (a0 : Bool) (a1 : List Int) : Option (Bool × List Int) :=
  if (((((List.length a1) : Nat) : Int) == (0 : Int)) = true) then
    (some (false, []))
  else
  (some ((!a0), a1))
def Fshuntref01_Minus : Nat → Bool → List Int → Option (Bool × List Int)
  | 0, _, _ => none
  | k + 1, a0, a1 => bshuntref01_Minus k a0 a1
def shshuntref01_Minus : FS := { vs := [.g [.lf .bool, .lf (.sl (.int .i64))]], bs := [] }
def rsshuntref01_Minus : List FS := [{ vs := [.g [.lf .bool, .lf (.sl (.int .i64))]], bs := [] }]
def Ishuntref01_Minus (k : Nat) : Inst := ⟨83, shshuntref01_Minus, rsshuntref01_Minus, fun x => Fshuntref01_Minus k x.1 x.2⟩
theorem alshuntref01_Minus (k : Nat) : AllI (call cf k) [] := True.intro
theorem anshuntref01_Minus (k : Nat) : LAll (LOk (R := DS FS.D rsshuntref01_Minus) (fun b _ σ K => LOt Ty (kps 83) 0 b σ K []) cf (call cf k) (cf.keep 83) Try.f83.ntmps k shshuntref01_Minus.bs.length) 0 (bd Try.f83) :=
  And.intro (True.intro) (And.intro (And.intro (True.intro) (And.intro (And.intro (True.intro) (True.intro)) (True.intro))) (And.intro (True.intro) (True.intro)))
theorem stshuntref01_Minus (k : Nat) (x : shshuntref01_Minus.D) : Fshuntref01_Minus (k + 1) x.1 x.2 = body2 cf (fun f a b K => COt f a b K []) (fun b _ σ K => LOt Ty (kps 83) 0 b σ K []) 83 Try.f83.ntmps Try.f83.results.toList (bd Try.f83) (shshuntref01_Minus.enc x).1 (shshuntref01_Minus.enc x).2 (putS FS.dec rsshuntref01_Minus) := by kernel_rfl
theorem okshuntref01_Minus : ∀ k, InstOk (call cf k) (Ishuntref01_Minus k)
  | 0 => fun x y e => absurd (show (none : Option _) = some y from e) (by simp)
  | k + 1 => inst_ok (c := cf) (k := k) (f := 83) (fn := Try.f83) (body := bd Try.f83) (sh := shshuntref01_Minus) (os := rsshuntref01_Minus) rfl Try.func83 rfl ⟨rfl, Nat.le_of_ble_eq_true rfl⟩ (COt_ok (alshuntref01_Minus k)) (anshuntref01_Minus k) (fun x => Fshuntref01_Minus (k + 1) x.1 x.2) (stshuntref01_Minus k)

/-! shunt/shuntref01.plus -/
def Lshuntref01_plus_0s (k : Nat) (rec : List Int → List Int → Nat → Int → Int → List Int → Option (Nat × List Int)) (a : List Int) (b : List Int) (d : Nat) (carry : Int) (i : Int) (ds : List Int) : Option (Nat × List Int) :=
  if ((decide (i < (((List.length a) : Nat) : Int))) = false) then
    if ((decide (i < (((List.length b) : Nat) : Int))) = false) then
      if ((decide (carry > (0 : Int))) = true) then
        if ((decide (i < (((List.length a) : Nat) : Int))) = true) then
          if ((0 : Int) ≤ i) then
            Option.bind (a)[(Int.toNat i)]? fun x =>
            if ((decide (i < (((List.length b) : Nat) : Int))) = true) then
              if ((0 : Int) ≤ i) then
                Option.bind (b)[(Int.toNat i)]? fun x1 =>
                if (d ≤ (List.length ds)) then
                  if (((d + (List.length (List.take 1 ((Int.tmod (IntKind.wrap .i64 ((IntKind.wrap .i64 (carry + x)) + x1)) (65536 : Int)) :: [])))) * 8) ≤ 140737488355328) then
                    rec a b (d + (List.length (List.take 1 ((Int.tmod (IntKind.wrap .i64 ((IntKind.wrap .i64 (carry + x)) + x1)) (65536 : Int)) :: [])))) (IntKind.wrap .i64 (Int.tdiv (IntKind.wrap .i64 ((IntKind.wrap .i64 (carry + x)) + x1)) (65536 : Int))) (IntKind.wrap .i64 (i + (1 : Int))) ((List.take d ds) ++ (List.take 1 ((Int.tmod (IntKind.wrap .i64 ((IntKind.wrap .i64 (carry + x)) + x1)) (65536 : Int)) :: [])))
                  else
                  none
                else
                none
              else
              none
            else
            if (d ≤ (List.length ds)) then
              if (((d + (List.length (List.take 1 ((Int.tmod (IntKind.wrap .i64 (carry + x)) (65536 : Int)) :: [])))) * 8) ≤ 140737488355328) then
                rec a b (d + (List.length (List.take 1 ((Int.tmod (IntKind.wrap .i64 (carry + x)) (65536 : Int)) :: [])))) (IntKind.wrap .i64 (Int.tdiv (IntKind.wrap .i64 (carry + x)) (65536 : Int))) (IntKind.wrap .i64 (i + (1 : Int))) ((List.take d ds) ++ (List.take 1 ((Int.tmod (IntKind.wrap .i64 (carry + x)) (65536 : Int)) :: [])))
              else
              none
            else
            none
          else
          none
        else
        if ((decide (i < (((List.length b) : Nat) : Int))) = true) then
          if ((0 : Int) ≤ i) then
            Option.bind (b)[(Int.toNat i)]? fun x =>
            if (d ≤ (List.length ds)) then
              if (((d + (List.length (List.take 1 ((Int.tmod (IntKind.wrap .i64 (carry + x)) (65536 : Int)) :: [])))) * 8) ≤ 140737488355328) then
                rec a b (d + (List.length (List.take 1 ((Int.tmod (IntKind.wrap .i64 (carry + x)) (65536 : Int)) :: [])))) (IntKind.wrap .i64 (Int.tdiv (IntKind.wrap .i64 (carry + x)) (65536 : Int))) (IntKind.wrap .i64 (i + (1 : Int))) ((List.take d ds) ++ (List.take 1 ((Int.tmod (IntKind.wrap .i64 (carry + x)) (65536 : Int)) :: [])))
              else
              none
            else
            none
          else
          none
        else
        if (d ≤ (List.length ds)) then
          if (((d + (List.length (List.take 1 ((Int.tmod carry (65536 : Int)) :: [])))) * 8) ≤ 140737488355328) then
            rec a b (d + (List.length (List.take 1 ((Int.tmod carry (65536 : Int)) :: [])))) (IntKind.wrap .i64 (Int.tdiv carry (65536 : Int))) (IntKind.wrap .i64 (i + (1 : Int))) ((List.take d ds) ++ (List.take 1 ((Int.tmod carry (65536 : Int)) :: [])))
          else
          none
        else
        none
      else
      (some (d, ds))
    else
    if ((decide (i < (((List.length a) : Nat) : Int))) = true) then
      if ((0 : Int) ≤ i) then
        Option.bind (a)[(Int.toNat i)]? fun x =>
        if ((decide (i < (((List.length b) : Nat) : Int))) = true) then
          if ((0 : Int) ≤ i) then
            Option.bind (b)[(Int.toNat i)]? fun x1 =>
            if (d ≤ (List.length ds)) then
              if (((d + (List.length (List.take 1 ((Int.tmod (IntKind.wrap .i64 ((IntKind.wrap .i64 (carry + x)) + x1)) (65536 : Int)) :: [])))) * 8) ≤ 140737488355328) then
                rec a b (d + (List.length (List.take 1 ((Int.tmod (IntKind.wrap .i64 ((IntKind.wrap .i64 (carry + x)) + x1)) (65536 : Int)) :: [])))) (IntKind.wrap .i64 (Int.tdiv (IntKind.wrap .i64 ((IntKind.wrap .i64 (carry + x)) + x1)) (65536 : Int))) (IntKind.wrap .i64 (i + (1 : Int))) ((List.take d ds) ++ (List.take 1 ((Int.tmod (IntKind.wrap .i64 ((IntKind.wrap .i64 (carry + x)) + x1)) (65536 : Int)) :: [])))
              else
              none
            else
            none
          else
          none
        else
        if (d ≤ (List.length ds)) then
          if (((d + (List.length (List.take 1 ((Int.tmod (IntKind.wrap .i64 (carry + x)) (65536 : Int)) :: [])))) * 8) ≤ 140737488355328) then
            rec a b (d + (List.length (List.take 1 ((Int.tmod (IntKind.wrap .i64 (carry + x)) (65536 : Int)) :: [])))) (IntKind.wrap .i64 (Int.tdiv (IntKind.wrap .i64 (carry + x)) (65536 : Int))) (IntKind.wrap .i64 (i + (1 : Int))) ((List.take d ds) ++ (List.take 1 ((Int.tmod (IntKind.wrap .i64 (carry + x)) (65536 : Int)) :: [])))
          else
          none
        else
        none
      else
      none
    else
    if ((decide (i < (((List.length b) : Nat) : Int))) = true) then
      if ((0 : Int) ≤ i) then
        Option.bind (b)[(Int.toNat i)]? fun x =>
        if (d ≤ (List.length ds)) then
          if (((d + (List.length (List.take 1 ((Int.tmod (IntKind.wrap .i64 (carry + x)) (65536 : Int)) :: [])))) * 8) ≤ 140737488355328) then
            rec a b (d + (List.length (List.take 1 ((Int.tmod (IntKind.wrap .i64 (carry + x)) (65536 : Int)) :: [])))) (IntKind.wrap .i64 (Int.tdiv (IntKind.wrap .i64 (carry + x)) (65536 : Int))) (IntKind.wrap .i64 (i + (1 : Int))) ((List.take d ds) ++ (List.take 1 ((Int.tmod (IntKind.wrap .i64 (carry + x)) (65536 : Int)) :: [])))
          else
          none
        else
        none
      else
      none
    else
    if (d ≤ (List.length ds)) then
      if (((d + (List.length (List.take 1 ((Int.tmod carry (65536 : Int)) :: [])))) * 8) ≤ 140737488355328) then
        rec a b (d + (List.length (List.take 1 ((Int.tmod carry (65536 : Int)) :: [])))) (IntKind.wrap .i64 (Int.tdiv carry (65536 : Int))) (IntKind.wrap .i64 (i + (1 : Int))) ((List.take d ds) ++ (List.take 1 ((Int.tmod carry (65536 : Int)) :: [])))
      else
      none
    else
    none
  else
  if ((decide (i < (((List.length a) : Nat) : Int))) = true) then
    if ((0 : Int) ≤ i) then
      Option.bind (a)[(Int.toNat i)]? fun x =>
      if ((decide (i < (((List.length b) : Nat) : Int))) = true) then
        if ((0 : Int) ≤ i) then
          Option.bind (b)[(Int.toNat i)]? fun x1 =>
          if (d ≤ (List.length ds)) then
            if (((d + (List.length (List.take 1 ((Int.tmod (IntKind.wrap .i64 ((IntKind.wrap .i64 (carry + x)) + x1)) (65536 : Int)) :: [])))) * 8) ≤ 140737488355328) then
              rec a b (d + (List.length (List.take 1 ((Int.tmod (IntKind.wrap .i64 ((IntKind.wrap .i64 (carry + x)) + x1)) (65536 : Int)) :: [])))) (IntKind.wrap .i64 (Int.tdiv (IntKind.wrap .i64 ((IntKind.wrap .i64 (carry + x)) + x1)) (65536 : Int))) (IntKind.wrap .i64 (i + (1 : Int))) ((List.take d ds) ++ (List.take 1 ((Int.tmod (IntKind.wrap .i64 ((IntKind.wrap .i64 (carry + x)) + x1)) (65536 : Int)) :: [])))
            else
            none
          else
          none
        else
        none
      else
      if (d ≤ (List.length ds)) then
        if (((d + (List.length (List.take 1 ((Int.tmod (IntKind.wrap .i64 (carry + x)) (65536 : Int)) :: [])))) * 8) ≤ 140737488355328) then
          rec a b (d + (List.length (List.take 1 ((Int.tmod (IntKind.wrap .i64 (carry + x)) (65536 : Int)) :: [])))) (IntKind.wrap .i64 (Int.tdiv (IntKind.wrap .i64 (carry + x)) (65536 : Int))) (IntKind.wrap .i64 (i + (1 : Int))) ((List.take d ds) ++ (List.take 1 ((Int.tmod (IntKind.wrap .i64 (carry + x)) (65536 : Int)) :: [])))
        else
        none
      else
      none
    else
    none
  else
  if ((decide (i < (((List.length b) : Nat) : Int))) = true) then
    if ((0 : Int) ≤ i) then
      Option.bind (b)[(Int.toNat i)]? fun x =>
      if (d ≤ (List.length ds)) then
        if (((d + (List.length (List.take 1 ((Int.tmod (IntKind.wrap .i64 (carry + x)) (65536 : Int)) :: [])))) * 8) ≤ 140737488355328) then
          rec a b (d + (List.length (List.take 1 ((Int.tmod (IntKind.wrap .i64 (carry + x)) (65536 : Int)) :: [])))) (IntKind.wrap .i64 (Int.tdiv (IntKind.wrap .i64 (carry + x)) (65536 : Int))) (IntKind.wrap .i64 (i + (1 : Int))) ((List.take d ds) ++ (List.take 1 ((Int.tmod (IntKind.wrap .i64 (carry + x)) (65536 : Int)) :: [])))
        else
        none
      else
      none
    else
    none
  else
  if (d ≤ (List.length ds)) then
    if (((d + (List.length (List.take 1 ((Int.tmod carry (65536 : Int)) :: [])))) * 8) ≤ 140737488355328) then
      rec a b (d + (List.length (List.take 1 ((Int.tmod carry (65536 : Int)) :: [])))) (IntKind.wrap .i64 (Int.tdiv carry (65536 : Int))) (IntKind.wrap .i64 (i + (1 : Int))) ((List.take d ds) ++ (List.take 1 ((Int.tmod carry (65536 : Int)) :: [])))
    else
    none
  else
  none
def Lshuntref01_plus_0 (k n : Nat) : List Int → List Int → Nat → Int → Int → List Int → Option (Nat × List Int) := Nat.rec (fun _ _ _ _ _ _ => none) (fun _ r => Lshuntref01_plus_0s k r) n
def bshuntref01_plus (k : Nat) (a : List Int) (b : List Int) : Option (List Int) :=
  Option.bind (Lshuntref01_plus_0 k k a b 0 (0 : Int) (0 : Int) []) fun r11 =>
  Option.bind (Fshuntref01_trim_mfi k r11.1 r11.2) fun r12 =>
  if ((0 + r12.1) ≤ (List.length r12.2)) then
    (some (List.take r12.1 r12.2))
  else
  none
def Fshuntref01_plus : Nat → List Int → List Int → Option (List Int)
  | 0, _, _ => none
  | k + 1, a, b => bshuntref01_plus k a b
def shshuntref01_plus : FS := { vs := [.a (.lf (.sl (.int .i64))), .a (.lf (.sl (.int .i64)))], bs := [] }
def rsshuntref01_plus : List FS := [{ vs := [.a (.lf (.sl (.int .i64)))], bs := [] }]
def Ishuntref01_plus (k : Nat) : Inst := ⟨108, shshuntref01_plus, rsshuntref01_plus, fun x => Fshuntref01_plus k x.1 x.2⟩
theorem alshuntref01_plus (k : Nat) : AllI (call cf k) [Ishuntref01_trim_mfi k] := And.intro (okshuntref01_trim_mfi k) (True.intro)
def hsshuntref01_plus_0 : List SS := [{ fr := [(0, .a (.lf (.sl (.int .i64)))), (1, .a (.lf (.sl (.int .i64)))), (5, .a (.smz 0)), (6, .a (.lf (.int .i64))), (7, .a (.lf (.int .i64)))], mem := [(0, some (.arr (.int .i64) 1 3 false))], nx := 1 }]
def osshuntref01_plus_0 : List OS := [⟨some 0, { fr := [(5, .a (.smz 0))], mem := [(0, some (.arr (.int .i64) 1 3 false))], nx := 1 }⟩]
def LIshuntref01_plus_0 (k : Nat) : LInst := ⟨0, hsshuntref01_plus_0, osshuntref01_plus_0, fun x => Lshuntref01_plus_0 k k x.1 x.2.1 x.2.2.1 x.2.2.2.1 x.2.2.2.2.1 x.2.2.2.2.2⟩
theorem anshuntref01_plus_0 (k : Nat) : LAll (LOk (R := DS OS.D osshuntref01_plus_0) (fun b _ σ K => LOt Ty (kps 108) 0 b σ K []) cf (call cf k) (kps 108) Try.f108.ntmps k 0) 0 (lb Try.f108 0) :=
  And.intro (And.intro (True.intro) (And.intro (True.intro) (True.intro))) (And.intro (And.intro (True.intro) (And.intro (And.intro (True.intro) (And.intro (True.intro) (True.intro))) (And.intro (And.intro (True.intro) (And.intro (True.intro) (True.intro))) (And.intro (True.intro) (True.intro))))) (True.intro))
theorem stshuntref01_plus_0 (k n : Nat) (x : DS SS.D hsshuntref01_plus_0) : Lshuntref01_plus_0 k (n + 1) x.1 x.2.1 x.2.2.1 x.2.2.2.1 x.2.2.2.2.1 x.2.2.2.2.2 = encSK SS.enc (fun σ => run2 cf (fun f a b K => COt f a b K [Ishuntref01_trim_mfi k]) (fun b _ σ K => LOt Ty (kps 108) 0 b σ K []) Try.f108.ntmps 0 (lb Try.f108 0) σ (nextK Ty (kps 108 0) 0 hsshuntref01_plus_0 osshuntref01_plus_0 fun x => Lshuntref01_plus_0 k n x.1 x.2.1 x.2.2.1 x.2.2.2.1 x.2.2.2.2.1 x.2.2.2.2.2)) hsshuntref01_plus_0 x := by kernel_rfl
theorem loshuntref01_plus_0 (k : Nat) : LIOk cf (call cf k) (kps 108) Try.f108.ntmps k 0 0 (lb Try.f108 0) (LIshuntref01_plus_0 k) :=
  loop_ok (c := cf) (callF := call cf k) (kp := kps 108) (nt := Try.f108.ntmps) (k := k) (p := 0) (b := 0) (x0 := lb Try.f108 0) (hs := hsshuntref01_plus_0) (os := osshuntref01_plus_0) (COt_ok (alshuntref01_plus k)) (anshuntref01_plus_0 k) (fun n x => Lshuntref01_plus_0 k n x.1 x.2.1 x.2.2.1 x.2.2.2.1 x.2.2.2.2.1 x.2.2.2.2.2) (fun _ => rfl) (stshuntref01_plus_0 k)
theorem anshuntref01_plus (k : Nat) : LAll (LOk (R := DS FS.D rsshuntref01_plus) (fun b _ σ K => LOt Ty (kps 108) 0 b σ K [LIshuntref01_plus_0 k]) cf (call cf k) (cf.keep 108) Try.f108.ntmps k shshuntref01_plus.bs.length) 0 (bd Try.f108) :=
  And.intro (True.intro) (And.intro (True.intro) (And.intro (True.intro) (And.intro (And.intro (True.intro) (LOt_ok (c := cf) (callF := call cf k) (kp := kps 108) (nt := Try.f108.ntmps) (k := k) (p := 0) (b := 0) (x0 := lb Try.f108 0) (l := [LIshuntref01_plus_0 k]) (And.intro (fun _ => loshuntref01_plus_0 k) (True.intro)))) (And.intro (True.intro) (True.intro)))))
theorem stshuntref01_plus (k : Nat) (x : shshuntref01_plus.D) : Fshuntref01_plus (k + 1) x.1 x.2 = body2 cf (fun f a b K => COt f a b K [Ishuntref01_trim_mfi k]) (fun b _ σ K => LOt Ty (kps 108) 0 b σ K [LIshuntref01_plus_0 k]) 108 Try.f108.ntmps Try.f108.results.toList (bd Try.f108) (shshuntref01_plus.enc x).1 (shshuntref01_plus.enc x).2 (putS FS.dec rsshuntref01_plus) := by kernel_rfl
theorem okshuntref01_plus : ∀ k, InstOk (call cf k) (Ishuntref01_plus k)
  | 0 => fun x y e => absurd (show (none : Option _) = some y from e) (by simp)
  | k + 1 => inst_ok (c := cf) (k := k) (f := 108) (fn := Try.f108) (body := bd Try.f108) (sh := shshuntref01_plus) (os := rsshuntref01_plus) rfl Try.func108 rfl ⟨rfl, Nat.le_of_ble_eq_true rfl⟩ (COt_ok (alshuntref01_plus k)) (anshuntref01_plus k) (fun x => Fshuntref01_plus (k + 1) x.1 x.2) (stshuntref01_plus k)

/-! shunt/shuntref01.Plus -/
def bshuntref01_Plus (k : Nat) (a0 : Bool) (a1 : List Int) (b0 : Bool) (b1 : List Int) : Option (Bool × List Int) :=
  if ((a0 == b0) = true) then
    Option.bind (Fshuntref01_plus k a1 b1) fun r11 =>
    if (a0 = true) then
      (some ((decide ((((List.length r11) : Nat) : Int) > (0 : Int))), r11))
    else
    (some (false, r11))
  else
  Option.bind (Fshuntref01_mags k a1 b1) fun r11 =>
  if ((decide (r11 ≥ (0 : Int))) = true) then
    Option.bind (Fshuntref01_minus k a1 b1) fun r12 =>
    if (a0 = true) then
      (some ((decide ((((List.length r12) : Nat) : Int) > (0 : Int))), r12))
    else
    (some (false, r12))
  else
  Option.bind (Fshuntref01_minus k b1 a1) fun r12 =>
  (some (b0, r12))
def Fshuntref01_Plus : Nat → Bool → List Int → Bool → List Int → Option (Bool × List Int)
  | 0, _, _, _, _ => none
  | k + 1, a0, a1, b0, b1 => bshuntref01_Plus k a0 a1 b0 b1
def shshuntref01_Plus : FS := { vs := [.g [.lf .bool, .lf (.sl (.int .i64))], .g [.lf .bool, .lf (.sl (.int .i64))]], bs := [] }
def rsshuntref01_Plus : List FS := [{ vs := [.g [.lf .bool, .lf (.sl (.int .i64))]], bs := [] }]
def Ishuntref01_Plus (k : Nat) : Inst := ⟨98, shshuntref01_Plus, rsshuntref01_Plus, fun x => Fshuntref01_Plus k x.1 x.2.1 x.2.2.1 x.2.2.2⟩
theorem alshuntref01_Plus (k : Nat) : AllI (call cf k) [Ishuntref01_plus k, Ishuntref01_mags k, Ishuntref01_minus k] := And.intro (okshuntref01_plus k) (And.intro (okshuntref01_mags k) (And.intro (okshuntref01_minus k) (True.intro)))
theorem anshuntref01_Plus (k : Nat) : LAll (LOk (R := DS FS.D rsshuntref01_Plus) (fun b _ σ K => LOt Ty (kps 98) 0 b σ K []) cf (call cf k) (cf.keep 98) Try.f98.ntmps k shshuntref01_Plus.bs.length) 0 (bd Try.f98) :=
  And.intro (True.intro) (And.intro (And.intro (True.intro) (And.intro (And.intro (True.intro) (And.intro (True.intro) (True.intro))) (True.intro))) (And.intro (And.intro (True.intro) (And.intro (And.intro (True.intro) (And.intro (True.intro) (True.intro))) (True.intro))) (And.intro (True.intro) (True.intro))))
theorem stshuntref01_Plus (k : Nat) (x : shshuntref01_Plus.D) : Fshuntref01_Plus (k + 1) x.1 x.2.1 x.2.2.1 x.2.2.2 = body2 cf (fun f a b K => COt f a b K [Ishuntref01_plus k, Ishuntref01_mags k, Ishuntref01_minus k]) (fun b _ σ K => LOt Ty (kps 98) 0 b σ K []) 98 Try.f98.ntmps Try.f98.results.toList (bd Try.f98) (shshuntref01_Plus.enc x).1 (shshuntref01_Plus.enc x).2 (putS FS.dec rsshuntref01_Plus) := by kernel_rfl
theorem okshuntref01_Plus : ∀ k, InstOk (call cf k) (Ishuntref01_Plus k)
  | 0 => fun x y e => absurd (show (none : Option _) = some y from e) (by simp)
  | k + 1 => inst_ok (c := cf) (k := k) (f := 98) (fn := Try.f98) (body := bd Try.f98) (sh := shshuntref01_Plus) (os := rsshuntref01_Plus) rfl Try.func98 rfl ⟨rfl, Nat.le_of_ble_eq_true rfl⟩ (COt_ok (alshuntref01_Plus k)) (anshuntref01_Plus k) (fun x => Fshuntref01_Plus (k + 1) x.1 x.2.1 x.2.2.1 x.2.2.2) (stshuntref01_Plus k)

/-! shunt/shuntref01.Less -/
def bshuntref01_Less (k : Nat) (a0 : Bool) (a1 : List Int) (b0 : Bool) (b1 : List Int) : Option (Bool × List Int) :=
  Option.bind (Fshuntref01_Minus k b0 b1) fun r10 =>
  Option.bind (Fshuntref01_Plus k a0 a1 r10.1 r10.2) fun r11 =>
  (some (r11.1, r11.2))
def Fshuntref01_Less : Nat → Bool → List Int → Bool → List Int → Option (Bool × List Int)
  | 0, _, _, _, _ => none
  | k + 1, a0, a1, b0, b1 => bshuntref01_Less k a0 a1 b0 b1
def shshuntref01_Less : FS := { vs := [.g [.lf .bool, .lf (.sl (.int .i64))], .g [.lf .bool, .lf (.sl (.int .i64))]], bs := [] }
def rsshuntref01_Less : List FS := [{ vs := [.g [.lf .bool, .lf (.sl (.int .i64))]], bs := [] }]
def Ishuntref01_Less (k : Nat) : Inst := ⟨74, shshuntref01_Less, rsshuntref01_Less, fun x => Fshuntref01_Less k x.1 x.2.1 x.2.2.1 x.2.2.2⟩
theorem alshuntref01_Less (k : Nat) : AllI (call cf k) [Ishuntref01_Minus k, Ishuntref01_Plus k] := And.intro (okshuntref01_Minus k) (And.intro (okshuntref01_Plus k) (True.intro))
theorem anshuntref01_Less (k : Nat) : LAll (LOk (R := DS FS.D rsshuntref01_Less) (fun b _ σ K => LOt Ty (kps 74) 0 b σ K []) cf (call cf k) (cf.keep 74) Try.f74.ntmps k shshuntref01_Less.bs.length) 0 (bd Try.f74) :=
  And.intro (True.intro) (And.intro (True.intro) (True.intro))
theorem stshuntref01_Less (k : Nat) (x : shshuntref01_Less.D) : Fshuntref01_Less (k + 1) x.1 x.2.1 x.2.2.1 x.2.2.2 = body2 cf (fun f a b K => COt f a b K [Ishuntref01_Minus k, Ishuntref01_Plus k]) (fun b _ σ K => LOt Ty (kps 74) 0 b σ K []) 74 Try.f74.ntmps Try.f74.results.toList (bd Try.f74) (shshuntref01_Less.enc x).1 (shshuntref01_Less.enc x).2 (putS FS.dec rsshuntref01_Less) := by kernel_rfl
theorem okshuntref01_Less : ∀ k, InstOk (call cf k) (Ishuntref01_Less k)
  | 0 => fun x y e => absurd (show (none : Option _) = some y from e) (by simp)
  | k + 1 => inst_ok (c := cf) (k := k) (f := 74) (fn := Try.f74) (body := bd Try.f74) (sh := shshuntref01_Less) (os := rsshuntref01_Less) rfl Try.func74 rfl ⟨rfl, Nat.le_of_ble_eq_true rfl⟩ (COt_ok (alshuntref01_Less k)) (anshuntref01_Less k) (fun x => Fshuntref01_Less (k + 1) x.1 x.2.1 x.2.2.1 x.2.2.2) (stshuntref01_Less k)

/-! shunt/shuntref01.Sign -/
def bshuntref01_Sign (k : Nat) (a0 : Bool) (a1 : List Int) : Option (Int) :=
  if (((((List.length a1) : Nat) : Int) == (0 : Int)) = true) then
    (some (0 : Int))
  else
  if (a0 = true) then
    (some (-(1 : Int)))
  else
  (some (1 : Int))
def Fshuntref01_Sign : Nat → Bool → List Int → Option (Int)
  | 0, _, _ => none
  | k + 1, a0, a1 => bshuntref01_Sign k a0 a1
def shshuntref01_Sign : FS := { vs := [.g [.lf .bool, .lf (.sl (.int .i64))]], bs := [] }
def rsshuntref01_Sign : List FS := [{ vs := [.a (.lf (.int .i64))], bs := [] }]
def Ishuntref01_Sign (k : Nat) : Inst := ⟨73, shshuntref01_Sign, rsshuntref01_Sign, fun x => Fshuntref01_Sign k x.1 x.2⟩
theorem alshuntref01_Sign (k : Nat) : AllI (call cf k) [] := True.intro
theorem anshuntref01_Sign (k : Nat) : LAll (LOk (R := DS FS.D rsshuntref01_Sign) (fun b _ σ K => LOt Ty (kps 73) 0 b σ K []) cf (call cf k) (cf.keep 73) Try.f73.ntmps k shshuntref01_Sign.bs.length) 0 (bd Try.f73) :=
  And.intro (True.intro) (And.intro (And.intro (True.intro) (And.intro (And.intro (True.intro) (True.intro)) (True.intro))) (And.intro (And.intro (True.intro) (And.intro (And.intro (True.intro) (True.intro)) (True.intro))) (And.intro (True.intro) (True.intro))))
theorem stshuntref01_Sign (k : Nat) (x : shshuntref01_Sign.D) : Fshuntref01_Sign (k + 1) x.1 x.2 = body2 cf (fun f a b K => COt f a b K []) (fun b _ σ K => LOt Ty (kps 73) 0 b σ K []) 73 Try.f73.ntmps Try.f73.results.toList (bd Try.f73) (shshuntref01_Sign.enc x).1 (shshuntref01_Sign.enc x).2 (putS FS.dec rsshuntref01_Sign) := by kernel_rfl
theorem okshuntref01_Sign : ∀ k, InstOk (call cf k) (Ishuntref01_Sign k)
  | 0 => fun x y e => absurd (show (none : Option _) = some y from e) (by simp)
  | k + 1 => inst_ok (c := cf) (k := k) (f := 73) (fn := Try.f73) (body := bd Try.f73) (sh := shshuntref01_Sign) (os := rsshuntref01_Sign) rfl Try.func73 rfl ⟨rfl, Nat.le_of_ble_eq_true rfl⟩ (COt_ok (alshuntref01_Sign k)) (anshuntref01_Sign k) (fun x => Fshuntref01_Sign (k + 1) x.1 x.2) (stshuntref01_Sign k)

/-! shunt/shuntref01.Held -/
def bshuntref01_Held (k : Nat) (a0 : Bool) (a1 : List Int) (b0 : Bool) (b1 : List Int) : Option (Int) :=
  Option.bind (Fshuntref01_Less k a0 a1 b0 b1) fun r10 =>
  Option.bind (Fshuntref01_Sign k r10.1 r10.2) fun r11 =>
  (some r11)
def Fshuntref01_Held : Nat → Bool → List Int → Bool → List Int → Option (Int)
  | 0, _, _, _, _ => none
  | k + 1, a0, a1, b0, b1 => bshuntref01_Held k a0 a1 b0 b1
def shshuntref01_Held : FS := { vs := [.g [.lf .bool, .lf (.sl (.int .i64))], .g [.lf .bool, .lf (.sl (.int .i64))]], bs := [] }
def rsshuntref01_Held : List FS := [{ vs := [.a (.lf (.int .i64))], bs := [] }]
def Ishuntref01_Held (k : Nat) : Inst := ⟨35, shshuntref01_Held, rsshuntref01_Held, fun x => Fshuntref01_Held k x.1 x.2.1 x.2.2.1 x.2.2.2⟩
theorem alshuntref01_Held (k : Nat) : AllI (call cf k) [Ishuntref01_Less k, Ishuntref01_Sign k] := And.intro (okshuntref01_Less k) (And.intro (okshuntref01_Sign k) (True.intro))
theorem anshuntref01_Held (k : Nat) : LAll (LOk (R := DS FS.D rsshuntref01_Held) (fun b _ σ K => LOt Ty (kps 35) 0 b σ K []) cf (call cf k) (cf.keep 35) Try.f35.ntmps k shshuntref01_Held.bs.length) 0 (bd Try.f35) :=
  And.intro (True.intro) (And.intro (True.intro) (True.intro))
theorem stshuntref01_Held (k : Nat) (x : shshuntref01_Held.D) : Fshuntref01_Held (k + 1) x.1 x.2.1 x.2.2.1 x.2.2.2 = body2 cf (fun f a b K => COt f a b K [Ishuntref01_Less k, Ishuntref01_Sign k]) (fun b _ σ K => LOt Ty (kps 35) 0 b σ K []) 35 Try.f35.ntmps Try.f35.results.toList (bd Try.f35) (shshuntref01_Held.enc x).1 (shshuntref01_Held.enc x).2 (putS FS.dec rsshuntref01_Held) := by kernel_rfl
theorem okshuntref01_Held : ∀ k, InstOk (call cf k) (Ishuntref01_Held k)
  | 0 => fun x y e => absurd (show (none : Option _) = some y from e) (by simp)
  | k + 1 => inst_ok (c := cf) (k := k) (f := 35) (fn := Try.f35) (body := bd Try.f35) (sh := shshuntref01_Held) (os := rsshuntref01_Held) rfl Try.func35 rfl ⟨rfl, Nat.le_of_ble_eq_true rfl⟩ (COt_ok (alshuntref01_Held k)) (anshuntref01_Held k) (fun x => Fshuntref01_Held (k + 1) x.1 x.2.1 x.2.2.1 x.2.2.2) (stshuntref01_Held k)

/-! shunt/shuntref02.Fault -/
def bshuntref02_Fault (k : Nat) (r0 : Bool) (r1 : List Int) (r2 : Bool) (r3 : List Int) : Option (Int) :=
  Option.bind (Fshuntref01_Right k r0 r1) fun r4 =>
  if ((!r4) = false) then
    Option.bind (Fshuntref01_Right k r2 r3) fun r5 =>
    if ((!r5) = true) then
      (some (10 : Int))
    else
    if (r2 = false) then
      if (((((List.length r3) : Nat) : Int) == (0 : Int)) = false) then
        Option.bind (Fshuntref01_Take k r0 r1) fun r6 =>
        Option.bind (Fshuntref01_Take k r2 r3) fun r7 =>
        Option.bind (Fshuntref01_Common k r6.1 r6.2 r7.1 r7.2) fun r8 =>
        Option.bind (Fshuntref01_Small k (1 : Int)) fun r9 =>
        Option.bind (Fshuntref01_Held k r8.1 r8.2 r9.1 r9.2) fun r10 =>
        if ((r10 != (0 : Int)) = true) then
          (some (20 : Int))
        else
        (some (0 : Int))
      else
      (some (20 : Int))
    else
    (some (20 : Int))
  else
  (some (10 : Int))
def Fshuntref02_Fault : Nat → Bool → List Int → Bool → List Int → Option (Int)
  | 0, _, _, _, _ => none
  | k + 1, r0, r1, r2, r3 => bshuntref02_Fault k r0 r1 r2 r3
def shshuntref02_Fault : FS := { vs := [.g [.lf .bool, .lf (.sl (.int .u32)), .lf .bool, .lf (.sl (.int .u32))]], bs := [] }
def rsshuntref02_Fault : List FS := [{ vs := [.a (.lf (.int .i64))], bs := [] }]
def Ishuntref02_Fault (k : Nat) : Inst := ⟨10, shshuntref02_Fault, rsshuntref02_Fault, fun x => Fshuntref02_Fault k x.1 x.2.1 x.2.2.1 x.2.2.2⟩
theorem alshuntref02_Fault (k : Nat) : AllI (call cf k) [Ishuntref01_Right k, Ishuntref01_Take k, Ishuntref01_Common k, Ishuntref01_Small k, Ishuntref01_Held k] := And.intro (okshuntref01_Right k) (And.intro (okshuntref01_Take k) (And.intro (okshuntref01_Common k) (And.intro (okshuntref01_Small k) (And.intro (okshuntref01_Held k) (True.intro)))))
theorem anshuntref02_Fault (k : Nat) : LAll (LOk (R := DS FS.D rsshuntref02_Fault) (fun b _ σ K => LOt Ty (kps 10) 0 b σ K []) cf (call cf k) (cf.keep 10) Try.f10.ntmps k shshuntref02_Fault.bs.length) 0 (bd Try.f10) :=
  And.intro (True.intro) (And.intro (And.intro (True.intro) (And.intro (And.intro (True.intro) (True.intro)) (True.intro))) (And.intro (And.intro (True.intro) (And.intro (And.intro (True.intro) (True.intro)) (True.intro))) (And.intro (True.intro) (True.intro))))
theorem stshuntref02_Fault (k : Nat) (x : shshuntref02_Fault.D) : Fshuntref02_Fault (k + 1) x.1 x.2.1 x.2.2.1 x.2.2.2 = body2 cf (fun f a b K => COt f a b K [Ishuntref01_Right k, Ishuntref01_Take k, Ishuntref01_Common k, Ishuntref01_Small k, Ishuntref01_Held k]) (fun b _ σ K => LOt Ty (kps 10) 0 b σ K []) 10 Try.f10.ntmps Try.f10.results.toList (bd Try.f10) (shshuntref02_Fault.enc x).1 (shshuntref02_Fault.enc x).2 (putS FS.dec rsshuntref02_Fault) := by kernel_rfl
theorem okshuntref02_Fault : ∀ k, InstOk (call cf k) (Ishuntref02_Fault k)
  | 0 => fun x y e => absurd (show (none : Option _) = some y from e) (by simp)
  | k + 1 => inst_ok (c := cf) (k := k) (f := 10) (fn := Try.f10) (body := bd Try.f10) (sh := shshuntref02_Fault) (os := rsshuntref02_Fault) rfl Try.func10 rfl ⟨rfl, Nat.le_of_ble_eq_true rfl⟩ (COt_ok (alshuntref02_Fault k)) (anshuntref02_Fault k) (fun x => Fshuntref02_Fault (k + 1) x.1 x.2.1 x.2.2.1 x.2.2.2) (stshuntref02_Fault k)

/-! shunt/shuntlaw02.long -/
def Lshuntlaw02_long_0s (k : Nat) (rec : Int → List (Bool × List Int) → Int → Int → Option (Int)) (n : Int) (x : List (Bool × List Int)) (x1 : Int) (x2 : Int) : Option (Int) :=
  if ((decide (x2 < x1)) = true) then
    if ((0 : Int) ≤ x2) then
      Option.bind (x)[(Int.toNat x2)]? fun x3 =>
      rec (IntKind.wrap .i64 (n + (min (((List.length x3.2) : Nat) : Int) (1000 : Int)))) x x1 (IntKind.wrap .i64 (x2 + (1 : Int)))
    else
    none
  else
  (some n)
def Lshuntlaw02_long_0 (k n : Nat) : Int → List (Bool × List Int) → Int → Int → Option (Int) := Nat.rec (fun _ _ _ _ => none) (fun _ r => Lshuntlaw02_long_0s k r) n
def bshuntlaw02_long (k : Nat) (l : List (Bool × List Int)) : Option (Bool) :=
  Option.bind (Lshuntlaw02_long_0 k k (0 : Int) l (((List.length l) : Nat) : Int) (0 : Int)) fun r4 =>
  (some (decide (r4 > (160 : Int))))
def Fshuntlaw02_long : Nat → List (Bool × List Int) → Option (Bool)
  | 0, _ => none
  | k + 1, l => bshuntlaw02_long k l
def shshuntlaw02_long : FS := { vs := [.a (.lf (.sl (.pr .bool (.sl (.int .u32)))))], bs := [] }
def rsshuntlaw02_long : List FS := [{ vs := [.a (.lf .bool)], bs := [] }]
def Ishuntlaw02_long (k : Nat) : Inst := ⟨16, shshuntlaw02_long, rsshuntlaw02_long, fun x => Fshuntlaw02_long k x⟩
theorem alshuntlaw02_long (k : Nat) : AllI (call cf k) [] := True.intro
def hsshuntlaw02_long_0 : List SS := [{ fr := [(3, .a (.lf (.int .i64))), (6, .a (.lf (.sl (.pr .bool (.sl (.int .u32)))))), (7, .a (.lf (.int .i64))), (8, .a (.lf (.int .i64)))], mem := [], nx := 0 }]
def osshuntlaw02_long_0 : List OS := [⟨some 0, { fr := [(3, .a (.lf (.int .i64)))], mem := [], nx := 0 }⟩]
def LIshuntlaw02_long_0 (k : Nat) : LInst := ⟨0, hsshuntlaw02_long_0, osshuntlaw02_long_0, fun x => Lshuntlaw02_long_0 k k x.1 x.2.1 x.2.2.1 x.2.2.2⟩
theorem anshuntlaw02_long_0 (k : Nat) : LAll (LOk (R := DS OS.D osshuntlaw02_long_0) (fun b _ σ K => LOt Ty (kps 16) 0 b σ K []) cf (call cf k) (kps 16) Try.f16.ntmps k 0) 0 (lb Try.f16 0) :=
  And.intro (True.intro) (And.intro (And.intro (True.intro) (True.intro)) (And.intro (And.intro (True.intro) (True.intro)) (True.intro)))
theorem stshuntlaw02_long_0 (k n : Nat) (x : DS SS.D hsshuntlaw02_long_0) : Lshuntlaw02_long_0 k (n + 1) x.1 x.2.1 x.2.2.1 x.2.2.2 = encSK SS.enc (fun σ => run2 cf (fun f a b K => COt f a b K []) (fun b _ σ K => LOt Ty (kps 16) 0 b σ K []) Try.f16.ntmps 0 (lb Try.f16 0) σ (nextK Ty (kps 16 0) 0 hsshuntlaw02_long_0 osshuntlaw02_long_0 fun x => Lshuntlaw02_long_0 k n x.1 x.2.1 x.2.2.1 x.2.2.2)) hsshuntlaw02_long_0 x := by kernel_rfl
theorem loshuntlaw02_long_0 (k : Nat) : LIOk cf (call cf k) (kps 16) Try.f16.ntmps k 0 0 (lb Try.f16 0) (LIshuntlaw02_long_0 k) :=
  loop_ok (c := cf) (callF := call cf k) (kp := kps 16) (nt := Try.f16.ntmps) (k := k) (p := 0) (b := 0) (x0 := lb Try.f16 0) (hs := hsshuntlaw02_long_0) (os := osshuntlaw02_long_0) (COt_ok (alshuntlaw02_long k)) (anshuntlaw02_long_0 k) (fun n x => Lshuntlaw02_long_0 k n x.1 x.2.1 x.2.2.1 x.2.2.2) (fun _ => rfl) (stshuntlaw02_long_0 k)
theorem anshuntlaw02_long (k : Nat) : LAll (LOk (R := DS FS.D rsshuntlaw02_long) (fun b _ σ K => LOt Ty (kps 16) 0 b σ K [LIshuntlaw02_long_0 k]) cf (call cf k) (cf.keep 16) Try.f16.ntmps k shshuntlaw02_long.bs.length) 0 (bd Try.f16) :=
  And.intro (True.intro) (And.intro (True.intro) (And.intro (And.intro (True.intro) (LOt_ok (c := cf) (callF := call cf k) (kp := kps 16) (nt := Try.f16.ntmps) (k := k) (p := 0) (b := 0) (x0 := lb Try.f16 0) (l := [LIshuntlaw02_long_0 k]) (And.intro (fun _ => loshuntlaw02_long_0 k) (True.intro)))) (And.intro (True.intro) (True.intro))))
theorem stshuntlaw02_long (k : Nat) (x : shshuntlaw02_long.D) : Fshuntlaw02_long (k + 1) x = body2 cf (fun f a b K => COt f a b K []) (fun b _ σ K => LOt Ty (kps 16) 0 b σ K [LIshuntlaw02_long_0 k]) 16 Try.f16.ntmps Try.f16.results.toList (bd Try.f16) (shshuntlaw02_long.enc x).1 (shshuntlaw02_long.enc x).2 (putS FS.dec rsshuntlaw02_long) := by kernel_rfl
theorem okshuntlaw02_long : ∀ k, InstOk (call cf k) (Ishuntlaw02_long k)
  | 0 => fun x y e => absurd (show (none : Option _) = some y from e) (by simp)
  | k + 1 => inst_ok (c := cf) (k := k) (f := 16) (fn := Try.f16) (body := bd Try.f16) (sh := shshuntlaw02_long) (os := rsshuntlaw02_long) rfl Try.func16 rfl ⟨rfl, Nat.le_of_ble_eq_true rfl⟩ (COt_ok (alshuntlaw02_long k)) (anshuntlaw02_long k) (fun x => Fshuntlaw02_long (k + 1) x) (stshuntlaw02_long k)

/-! shunt/shuntref02.Lowest -/
def bshuntref02_Lowest (k : Nat) (num0 : Bool) (num1 : List Int) (den0 : Bool) (den1 : List Int) : Option (Bool × List Int × Bool × List Int) :=
  Option.bind (Fshuntref01_Sign k den0 den1) fun r10 =>
  if ((decide (r10 < (0 : Int))) = true) then
    Option.bind (Fshuntref01_Minus k num0 num1) fun r11 =>
    Option.bind (Fshuntref01_Minus k den0 den1) fun r12 =>
    Option.bind (Fshuntref01_Common k r11.1 r11.2 r12.1 r12.2) fun r13 =>
    Option.bind (Fshuntref01_Divide k r11.1 r11.2 r13.1 r13.2) fun r14 =>
    Option.bind (Fshuntref01_Divide k r12.1 r12.2 r13.1 r13.2) fun r15 =>
    (some (r14.1, r14.2.1, r15.1, r15.2.1))
  else
  Option.bind (Fshuntref01_Common k num0 num1 den0 den1) fun r11 =>
  Option.bind (Fshuntref01_Divide k num0 num1 r11.1 r11.2) fun r12 =>
  Option.bind (Fshuntref01_Divide k den0 den1 r11.1 r11.2) fun r13 =>
  (some (r12.1, r12.2.1, r13.1, r13.2.1))
def Fshuntref02_Lowest : Nat → Bool → List Int → Bool → List Int → Option (Bool × List Int × Bool × List Int)
  | 0, _, _, _, _ => none
  | k + 1, num0, num1, den0, den1 => bshuntref02_Lowest k num0 num1 den0 den1
def shshuntref02_Lowest : FS := { vs := [.g [.lf .bool, .lf (.sl (.int .i64))], .g [.lf .bool, .lf (.sl (.int .i64))]], bs := [] }
def rsshuntref02_Lowest : List FS := [{ vs := [.g [.lf .bool, .lf (.sl (.int .i64)), .lf .bool, .lf (.sl (.int .i64))]], bs := [] }]
def Ishuntref02_Lowest (k : Nat) : Inst := ⟨48, shshuntref02_Lowest, rsshuntref02_Lowest, fun x => Fshuntref02_Lowest k x.1 x.2.1 x.2.2.1 x.2.2.2⟩
theorem alshuntref02_Lowest (k : Nat) : AllI (call cf k) [Ishuntref01_Sign k, Ishuntref01_Minus k, Ishuntref01_Common k, Ishuntref01_Divide k] := And.intro (okshuntref01_Sign k) (And.intro (okshuntref01_Minus k) (And.intro (okshuntref01_Common k) (And.intro (okshuntref01_Divide k) (True.intro))))
theorem anshuntref02_Lowest (k : Nat) : LAll (LOk (R := DS FS.D rsshuntref02_Lowest) (fun b _ σ K => LOt Ty (kps 48) 0 b σ K []) cf (call cf k) (cf.keep 48) Try.f48.ntmps k shshuntref02_Lowest.bs.length) 0 (bd Try.f48) :=
  And.intro (True.intro) (And.intro (And.intro (True.intro) (And.intro (True.intro) (True.intro))) (And.intro (True.intro) (And.intro (True.intro) (And.intro (True.intro) (And.intro (True.intro) (True.intro))))))
theorem stshuntref02_Lowest (k : Nat) (x : shshuntref02_Lowest.D) : Fshuntref02_Lowest (k + 1) x.1 x.2.1 x.2.2.1 x.2.2.2 = body2 cf (fun f a b K => COt f a b K [Ishuntref01_Sign k, Ishuntref01_Minus k, Ishuntref01_Common k, Ishuntref01_Divide k]) (fun b _ σ K => LOt Ty (kps 48) 0 b σ K []) 48 Try.f48.ntmps Try.f48.results.toList (bd Try.f48) (shshuntref02_Lowest.enc x).1 (shshuntref02_Lowest.enc x).2 (putS FS.dec rsshuntref02_Lowest) := by kernel_rfl
theorem okshuntref02_Lowest : ∀ k, InstOk (call cf k) (Ishuntref02_Lowest k)
  | 0 => fun x y e => absurd (show (none : Option _) = some y from e) (by simp)
  | k + 1 => inst_ok (c := cf) (k := k) (f := 48) (fn := Try.f48) (body := bd Try.f48) (sh := shshuntref02_Lowest) (os := rsshuntref02_Lowest) rfl Try.func48 rfl ⟨rfl, Nat.le_of_ble_eq_true rfl⟩ (COt_ok (alshuntref02_Lowest k)) (anshuntref02_Lowest k) (fun x => Fshuntref02_Lowest (k + 1) x.1 x.2.1 x.2.2.1 x.2.2.2) (stshuntref02_Lowest k)

/-! shunt/shuntref01.Length -/
def bshuntref01_Length (k : Nat) (a0 : Bool) (a1 : List Int) : Option (Int) :=
  (some (IntKind.wrap .i64 (Int.tdiv (IntKind.wrap .i64 ((((List.length a1) : Nat) : Int) + (1 : Int))) (2 : Int))))
def Fshuntref01_Length : Nat → Bool → List Int → Option (Int)
  | 0, _, _ => none
  | k + 1, a0, a1 => bshuntref01_Length k a0 a1
def shshuntref01_Length : FS := { vs := [.g [.lf .bool, .lf (.sl (.int .i64))]], bs := [] }
def rsshuntref01_Length : List FS := [{ vs := [.a (.lf (.int .i64))], bs := [] }]
def Ishuntref01_Length (k : Nat) : Inst := ⟨58, shshuntref01_Length, rsshuntref01_Length, fun x => Fshuntref01_Length k x.1 x.2⟩
theorem alshuntref01_Length (k : Nat) : AllI (call cf k) [] := True.intro
theorem anshuntref01_Length (k : Nat) : LAll (LOk (R := DS FS.D rsshuntref01_Length) (fun b _ σ K => LOt Ty (kps 58) 0 b σ K []) cf (call cf k) (cf.keep 58) Try.f58.ntmps k shshuntref01_Length.bs.length) 0 (bd Try.f58) :=
  And.intro (True.intro) (And.intro (True.intro) (True.intro))
theorem stshuntref01_Length (k : Nat) (x : shshuntref01_Length.D) : Fshuntref01_Length (k + 1) x.1 x.2 = body2 cf (fun f a b K => COt f a b K []) (fun b _ σ K => LOt Ty (kps 58) 0 b σ K []) 58 Try.f58.ntmps Try.f58.results.toList (bd Try.f58) (shshuntref01_Length.enc x).1 (shshuntref01_Length.enc x).2 (putS FS.dec rsshuntref01_Length) := by kernel_rfl
theorem okshuntref01_Length : ∀ k, InstOk (call cf k) (Ishuntref01_Length k)
  | 0 => fun x y e => absurd (show (none : Option _) = some y from e) (by simp)
  | k + 1 => inst_ok (c := cf) (k := k) (f := 58) (fn := Try.f58) (body := bd Try.f58) (sh := shshuntref01_Length) (os := rsshuntref01_Length) rfl Try.func58 rfl ⟨rfl, Nat.le_of_ble_eq_true rfl⟩ (COt_ok (alshuntref01_Length k)) (anshuntref01_Length k) (fun x => Fshuntref01_Length (k + 1) x.1 x.2) (stshuntref01_Length k)

/-! shunt/shuntref01.Give -/
def Lshuntref01_Give_0s (k : Nat) (rec : Int → Bool → List Int → Bool → Nat → Bool → Nat → List Int → List Int → Option (Bool × List Int × Bool × Nat × Bool × Nat × List Int × List Int)) (i : Int) (a0 : Bool) (a1 : List Int) (x0 : Bool) (x1 : Nat) (out0 : Bool) (out1 : Nat) (m : List Int) (m1 : List Int) : Option (Bool × List Int × Bool × Nat × Bool × Nat × List Int × List Int) :=
  if ((decide (i < (((List.length a1) : Nat) : Int))) = true) then
    if ((0 : Int) ≤ i) then
      Option.bind (a1)[(Int.toNat i)]? fun x =>
      if ((decide ((IntKind.wrap .i64 (i + (1 : Int))) < (((List.length a1) : Nat) : Int))) = true) then
        if ((0 : Int) ≤ (IntKind.wrap .i64 (i + (1 : Int)))) then
          Option.bind (a1)[(Int.toNat (IntKind.wrap .i64 (i + (1 : Int))))]? fun x2 =>
          if (out1 ≤ (List.length m1)) then
            if (((out1 + (List.length (List.take 1 ((IntKind.wrap .u32 ((IntKind.wrap .u32 x) + (IntKind.wrap .u32 ((IntKind.wrap .u32 x2) * (65536 : Int))))) :: [])))) * 4) ≤ 140737488355328) then
              rec (IntKind.wrap .i64 (i + (2 : Int))) a0 a1 x0 x1 out0 (out1 + (List.length (List.take 1 ((IntKind.wrap .u32 ((IntKind.wrap .u32 x) + (IntKind.wrap .u32 ((IntKind.wrap .u32 x2) * (65536 : Int))))) :: [])))) m ((List.take out1 m1) ++ (List.take 1 ((IntKind.wrap .u32 ((IntKind.wrap .u32 x) + (IntKind.wrap .u32 ((IntKind.wrap .u32 x2) * (65536 : Int))))) :: [])))
            else
            none
          else
          none
        else
        none
      else
      if (out1 ≤ (List.length m1)) then
        if (((out1 + (List.length (List.take 1 ((IntKind.wrap .u32 x) :: [])))) * 4) ≤ 140737488355328) then
          rec (IntKind.wrap .i64 (i + (2 : Int))) a0 a1 x0 x1 out0 (out1 + (List.length (List.take 1 ((IntKind.wrap .u32 x) :: [])))) m ((List.take out1 m1) ++ (List.take 1 ((IntKind.wrap .u32 x) :: [])))
        else
        none
      else
      none
    else
    none
  else
  (some (a0, a1, x0, x1, out0, out1, m, m1))
def Lshuntref01_Give_0 (k n : Nat) : Int → Bool → List Int → Bool → Nat → Bool → Nat → List Int → List Int → Option (Bool × List Int × Bool × Nat × Bool × Nat × List Int × List Int) := Nat.rec (fun _ _ _ _ _ _ _ _ _ => none) (fun _ r => Lshuntref01_Give_0s k r) n
def bshuntref01_Give (k : Nat) (a0 : Bool) (a1 : List Int) : Option (Bool × List Int) :=
  Option.bind (Lshuntref01_Give_0 k k (0 : Int) a0 a1 false 0 a0 0 [] []) fun r13 =>
  if ((0 + r13.2.2.2.2.2.1) ≤ (List.length r13.2.2.2.2.2.2.2)) then
    (some (r13.2.2.2.2.1, (List.take r13.2.2.2.2.2.1 r13.2.2.2.2.2.2.2)))
  else
  none
def Fshuntref01_Give : Nat → Bool → List Int → Option (Bool × List Int)
  | 0, _, _ => none
  | k + 1, a0, a1 => bshuntref01_Give k a0 a1
def shshuntref01_Give : FS := { vs := [.g [.lf .bool, .lf (.sl (.int .i64))]], bs := [] }
def rsshuntref01_Give : List FS := [{ vs := [.g [.lf .bool, .lf (.sl (.int .u32))]], bs := [] }]
def Ishuntref01_Give (k : Nat) : Inst := ⟨59, shshuntref01_Give, rsshuntref01_Give, fun x => Fshuntref01_Give k x.1 x.2⟩
theorem alshuntref01_Give (k : Nat) : AllI (call cf k) [] := True.intro
def hsshuntref01_Give_0 : List SS := [{ fr := [(1, .a (.ptr 0 0 0)), (2, .a (.ptr 1 0 0)), (3, .a (.ptr 2 0 0)), (4, .a (.lf (.int .i64)))], mem := [(0, some (.raw [[.lf .bool, .lf (.sl (.int .i64))]] 2 65 true false)), (1, some (.raw [[.lf .bool, .smz 3]] 2 24 false false)), (2, some (.raw [[.lf .bool, .smz 4]] 2 24 false false)), (3, some (.arr (.int .u32) 1 61 false)), (4, some (.arr (.int .u32) 1 61 false))], nx := 5 }]
def osshuntref01_Give_0 : List OS := [⟨some 0, { fr := [(2, .a (.ptr 1 0 0)), (3, .a (.ptr 2 0 0))], mem := [(0, some (.raw [[.lf .bool, .lf (.sl (.int .i64))]] 2 65 true false)), (1, some (.raw [[.lf .bool, .smz 3]] 2 24 false false)), (2, some (.raw [[.lf .bool, .smz 4]] 2 24 false false)), (3, some (.arr (.int .u32) 1 61 false)), (4, some (.arr (.int .u32) 1 61 false))], nx := 5 }⟩]
def LIshuntref01_Give_0 (k : Nat) : LInst := ⟨0, hsshuntref01_Give_0, osshuntref01_Give_0, fun x => Lshuntref01_Give_0 k k x.1 x.2.1 x.2.2.1 x.2.2.2.1 x.2.2.2.2.1 x.2.2.2.2.2.1 x.2.2.2.2.2.2.1 x.2.2.2.2.2.2.2.1 x.2.2.2.2.2.2.2.2⟩
theorem anshuntref01_Give_0 (k : Nat) : LAll (LOk (R := DS OS.D osshuntref01_Give_0) (fun b _ σ K => LOt Ty (kps 59) 0 b σ K []) cf (call cf k) (kps 59) Try.f59.ntmps k 0) 0 (lb Try.f59 0) :=
  And.intro (And.intro (True.intro) (And.intro (True.intro) (True.intro))) (And.intro (And.intro (True.intro) (And.intro (And.intro (True.intro) (And.intro (True.intro) (True.intro))) (True.intro))) (True.intro))
theorem stshuntref01_Give_0 (k n : Nat) (x : DS SS.D hsshuntref01_Give_0) : Lshuntref01_Give_0 k (n + 1) x.1 x.2.1 x.2.2.1 x.2.2.2.1 x.2.2.2.2.1 x.2.2.2.2.2.1 x.2.2.2.2.2.2.1 x.2.2.2.2.2.2.2.1 x.2.2.2.2.2.2.2.2 = encSK SS.enc (fun σ => run2 cf (fun f a b K => COt f a b K []) (fun b _ σ K => LOt Ty (kps 59) 0 b σ K []) Try.f59.ntmps 0 (lb Try.f59 0) σ (nextK Ty (kps 59 0) 0 hsshuntref01_Give_0 osshuntref01_Give_0 fun x => Lshuntref01_Give_0 k n x.1 x.2.1 x.2.2.1 x.2.2.2.1 x.2.2.2.2.1 x.2.2.2.2.2.1 x.2.2.2.2.2.2.1 x.2.2.2.2.2.2.2.1 x.2.2.2.2.2.2.2.2)) hsshuntref01_Give_0 x := by kernel_rfl
theorem loshuntref01_Give_0 (k : Nat) : LIOk cf (call cf k) (kps 59) Try.f59.ntmps k 0 0 (lb Try.f59 0) (LIshuntref01_Give_0 k) :=
  loop_ok (c := cf) (callF := call cf k) (kp := kps 59) (nt := Try.f59.ntmps) (k := k) (p := 0) (b := 0) (x0 := lb Try.f59 0) (hs := hsshuntref01_Give_0) (os := osshuntref01_Give_0) (COt_ok (alshuntref01_Give k)) (anshuntref01_Give_0 k) (fun n x => Lshuntref01_Give_0 k n x.1 x.2.1 x.2.2.1 x.2.2.2.1 x.2.2.2.2.1 x.2.2.2.2.2.1 x.2.2.2.2.2.2.1 x.2.2.2.2.2.2.2.1 x.2.2.2.2.2.2.2.2) (fun _ => rfl) (stshuntref01_Give_0 k)
theorem anshuntref01_Give (k : Nat) : LAll (LOk (R := DS FS.D rsshuntref01_Give) (fun b _ σ K => LOt Ty (kps 59) 0 b σ K [LIshuntref01_Give_0 k]) cf (call cf k) (cf.keep 59) Try.f59.ntmps k shshuntref01_Give.bs.length) 0 (bd Try.f59) :=
  And.intro (True.intro) (And.intro (True.intro) (And.intro (And.intro (True.intro) (LOt_ok (c := cf) (callF := call cf k) (kp := kps 59) (nt := Try.f59.ntmps) (k := k) (p := 0) (b := 0) (x0 := lb Try.f59 0) (l := [LIshuntref01_Give_0 k]) (And.intro (fun _ => loshuntref01_Give_0 k) (True.intro)))) (And.intro (True.intro) (True.intro))))
theorem stshuntref01_Give (k : Nat) (x : shshuntref01_Give.D) : Fshuntref01_Give (k + 1) x.1 x.2 = body2 cf (fun f a b K => COt f a b K []) (fun b _ σ K => LOt Ty (kps 59) 0 b σ K [LIshuntref01_Give_0 k]) 59 Try.f59.ntmps Try.f59.results.toList (bd Try.f59) (shshuntref01_Give.enc x).1 (shshuntref01_Give.enc x).2 (putS FS.dec rsshuntref01_Give) := by kernel_rfl
theorem okshuntref01_Give : ∀ k, InstOk (call cf k) (Ishuntref01_Give k)
  | 0 => fun x y e => absurd (show (none : Option _) = some y from e) (by simp)
  | k + 1 => inst_ok (c := cf) (k := k) (f := 59) (fn := Try.f59) (body := bd Try.f59) (sh := shshuntref01_Give) (os := rsshuntref01_Give) rfl Try.func59 rfl ⟨rfl, Nat.le_of_ble_eq_true rfl⟩ (COt_ok (alshuntref01_Give k)) (anshuntref01_Give k) (fun x => Fshuntref01_Give (k + 1) x.1 x.2) (stshuntref01_Give k)

/-! shunt/shuntref02.Give -/
def bshuntref02_Give (k : Nat) (a0 : Bool) (a1 : List Int) (a2 : Bool) (a3 : List Int) : Option (Bool × List Int × Bool × List Int) :=
  Option.bind (Fshuntref01_Give k a0 a1) fun r13 =>
  Option.bind (Fshuntref01_Give k a2 a3) fun r14 =>
  (some (r13.1, r13.2, r14.1, r14.2))
def Fshuntref02_Give : Nat → Bool → List Int → Bool → List Int → Option (Bool × List Int × Bool × List Int)
  | 0, _, _, _, _ => none
  | k + 1, a0, a1, a2, a3 => bshuntref02_Give k a0 a1 a2 a3
def shshuntref02_Give : FS := { vs := [.g [.lf .bool, .lf (.sl (.int .i64)), .lf .bool, .lf (.sl (.int .i64))]], bs := [] }
def rsshuntref02_Give : List FS := [{ vs := [.g [.lf .bool, .lf (.sl (.int .u32)), .lf .bool, .lf (.sl (.int .u32))]], bs := [] }]
def Ishuntref02_Give (k : Nat) : Inst := ⟨82, shshuntref02_Give, rsshuntref02_Give, fun x => Fshuntref02_Give k x.1 x.2.1 x.2.2.1 x.2.2.2⟩
theorem alshuntref02_Give (k : Nat) : AllI (call cf k) [Ishuntref01_Give k] := And.intro (okshuntref01_Give k) (True.intro)
theorem anshuntref02_Give (k : Nat) : LAll (LOk (R := DS FS.D rsshuntref02_Give) (fun b _ σ K => LOt Ty (kps 82) 0 b σ K []) cf (call cf k) (cf.keep 82) Try.f82.ntmps k shshuntref02_Give.bs.length) 0 (bd Try.f82) :=
  And.intro (True.intro) (And.intro (True.intro) (True.intro))
theorem stshuntref02_Give (k : Nat) (x : shshuntref02_Give.D) : Fshuntref02_Give (k + 1) x.1 x.2.1 x.2.2.1 x.2.2.2 = body2 cf (fun f a b K => COt f a b K [Ishuntref01_Give k]) (fun b _ σ K => LOt Ty (kps 82) 0 b σ K []) 82 Try.f82.ntmps Try.f82.results.toList (bd Try.f82) (shshuntref02_Give.enc x).1 (shshuntref02_Give.enc x).2 (putS FS.dec rsshuntref02_Give) := by kernel_rfl
theorem okshuntref02_Give : ∀ k, InstOk (call cf k) (Ishuntref02_Give k)
  | 0 => fun x y e => absurd (show (none : Option _) = some y from e) (by simp)
  | k + 1 => inst_ok (c := cf) (k := k) (f := 82) (fn := Try.f82) (body := bd Try.f82) (sh := shshuntref02_Give) (os := rsshuntref02_Give) rfl Try.func82 rfl ⟨rfl, Nat.le_of_ble_eq_true rfl⟩ (COt_ok (alshuntref02_Give k)) (anshuntref02_Give k) (fun x => Fshuntref02_Give (k + 1) x.1 x.2.1 x.2.2.1 x.2.2.2) (stshuntref02_Give k)

/-! shunt/shuntref02.told -/
def bshuntref02_told (k : Nat) (a0 : Bool) (a1 : List Int) (a2 : Bool) (a3 : List Int) : Option (Bool × List Int × Bool × List Int × Int) :=
  Option.bind (Fshuntref01_Length k a0 a1) fun r11 =>
  if ((decide (r11 > (72 : Int))) = false) then
    Option.bind (Fshuntref01_Length k a2 a3) fun r12 =>
    if ((decide (r12 > (72 : Int))) = true) then
      (some (false, [], false, [], (13 : Int)))
    else
    Option.bind (Fshuntref02_Give k a0 a1 a2 a3) fun r13 =>
    (some (r13.1, r13.2.1, r13.2.2.1, r13.2.2.2, (0 : Int)))
  else
  (some (false, [], false, [], (13 : Int)))
def Fshuntref02_told : Nat → Bool → List Int → Bool → List Int → Option (Bool × List Int × Bool × List Int × Int)
  | 0, _, _, _, _ => none
  | k + 1, a0, a1, a2, a3 => bshuntref02_told k a0 a1 a2 a3
def shshuntref02_told : FS := { vs := [.g [.lf .bool, .lf (.sl (.int .i64)), .lf .bool, .lf (.sl (.int .i64))]], bs := [] }
def rsshuntref02_told : List FS := [{ vs := [.g [.lf .bool, .lf (.sl (.int .u32)), .lf .bool, .lf (.sl (.int .u32))], .a (.lf (.int .i64))], bs := [] }]
def Ishuntref02_told (k : Nat) : Inst := ⟨47, shshuntref02_told, rsshuntref02_told, fun x => Fshuntref02_told k x.1 x.2.1 x.2.2.1 x.2.2.2⟩
theorem alshuntref02_told (k : Nat) : AllI (call cf k) [Ishuntref01_Length k, Ishuntref02_Give k] := And.intro (okshuntref01_Length k) (And.intro (okshuntref02_Give k) (True.intro))
theorem anshuntref02_told (k : Nat) : LAll (LOk (R := DS FS.D rsshuntref02_told) (fun b _ σ K => LOt Ty (kps 47) 0 b σ K []) cf (call cf k) (cf.keep 47) Try.f47.ntmps k shshuntref02_told.bs.length) 0 (bd Try.f47) :=
  And.intro (True.intro) (And.intro (And.intro (True.intro) (And.intro (And.intro (True.intro) (True.intro)) (True.intro))) (And.intro (True.intro) (True.intro)))
theorem stshuntref02_told (k : Nat) (x : shshuntref02_told.D) : Fshuntref02_told (k + 1) x.1 x.2.1 x.2.2.1 x.2.2.2 = body2 cf (fun f a b K => COt f a b K [Ishuntref01_Length k, Ishuntref02_Give k]) (fun b _ σ K => LOt Ty (kps 47) 0 b σ K []) 47 Try.f47.ntmps Try.f47.results.toList (bd Try.f47) (shshuntref02_told.enc x).1 (shshuntref02_told.enc x).2 (putS FS.dec rsshuntref02_told) := by kernel_rfl
theorem okshuntref02_told : ∀ k, InstOk (call cf k) (Ishuntref02_told k)
  | 0 => fun x y e => absurd (show (none : Option _) = some y from e) (by simp)
  | k + 1 => inst_ok (c := cf) (k := k) (f := 47) (fn := Try.f47) (body := bd Try.f47) (sh := shshuntref02_told) (os := rsshuntref02_told) rfl Try.func47 rfl ⟨rfl, Nat.le_of_ble_eq_true rfl⟩ (COt_ok (alshuntref02_told k)) (anshuntref02_told k) (fun x => Fshuntref02_told (k + 1) x.1 x.2.1 x.2.2.1 x.2.2.2) (stshuntref02_told k)

/-! shunt/shuntref02.Make -/
def bshuntref02_Make (k : Nat) (num0 : Bool) (num1 : List Int) (den0 : Bool) (den1 : List Int) : Option (Bool × List Int × Bool × List Int × Int) :=
  Option.bind (Fshuntref01_Right k num0 num1) fun r6 =>
  if ((!r6) = false) then
    Option.bind (Fshuntref01_Right k den0 den1) fun r7 =>
    if ((!r7) = true) then
      (some (false, [], false, [], (10 : Int)))
    else
    if (((((List.length den1) : Nat) : Int) == (0 : Int)) = true) then
      (some (false, [], false, [], (11 : Int)))
    else
    Option.bind (Fshuntref01_Take k num0 num1) fun r8 =>
    Option.bind (Fshuntref01_Take k den0 den1) fun r9 =>
    Option.bind (Fshuntref02_Lowest k r8.1 r8.2 r9.1 r9.2) fun r10 =>
    Option.bind (Fshuntref02_told k r10.1 r10.2.1 r10.2.2.1 r10.2.2.2) fun r11 =>
    (some (r11.1, r11.2.1, r11.2.2.1, r11.2.2.2.1, r11.2.2.2.2))
  else
  (some (false, [], false, [], (10 : Int)))
def Fshuntref02_Make : Nat → Bool → List Int → Bool → List Int → Option (Bool × List Int × Bool × List Int × Int)
  | 0, _, _, _, _ => none
  | k + 1, num0, num1, den0, den1 => bshuntref02_Make k num0 num1 den0 den1
def shshuntref02_Make : FS := { vs := [.g [.lf .bool, .lf (.sl (.int .u32))], .g [.lf .bool, .lf (.sl (.int .u32))]], bs := [] }
def rsshuntref02_Make : List FS := [{ vs := [.g [.lf .bool, .lf (.sl (.int .u32)), .lf .bool, .lf (.sl (.int .u32))], .a (.lf (.int .i64))], bs := [] }]
def Ishuntref02_Make (k : Nat) : Inst := ⟨17, shshuntref02_Make, rsshuntref02_Make, fun x => Fshuntref02_Make k x.1 x.2.1 x.2.2.1 x.2.2.2⟩
theorem alshuntref02_Make (k : Nat) : AllI (call cf k) [Ishuntref01_Right k, Ishuntref01_Take k, Ishuntref02_Lowest k, Ishuntref02_told k] := And.intro (okshuntref01_Right k) (And.intro (okshuntref01_Take k) (And.intro (okshuntref02_Lowest k) (And.intro (okshuntref02_told k) (True.intro))))
theorem anshuntref02_Make (k : Nat) : LAll (LOk (R := DS FS.D rsshuntref02_Make) (fun b _ σ K => LOt Ty (kps 17) 0 b σ K []) cf (call cf k) (cf.keep 17) Try.f17.ntmps k shshuntref02_Make.bs.length) 0 (bd Try.f17) :=
  And.intro (True.intro) (And.intro (And.intro (True.intro) (And.intro (And.intro (True.intro) (True.intro)) (True.intro))) (And.intro (And.intro (True.intro) (And.intro (And.intro (True.intro) (True.intro)) (True.intro))) (And.intro (True.intro) (True.intro))))
theorem stshuntref02_Make (k : Nat) (x : shshuntref02_Make.D) : Fshuntref02_Make (k + 1) x.1 x.2.1 x.2.2.1 x.2.2.2 = body2 cf (fun f a b K => COt f a b K [Ishuntref01_Right k, Ishuntref01_Take k, Ishuntref02_Lowest k, Ishuntref02_told k]) (fun b _ σ K => LOt Ty (kps 17) 0 b σ K []) 17 Try.f17.ntmps Try.f17.results.toList (bd Try.f17) (shshuntref02_Make.enc x).1 (shshuntref02_Make.enc x).2 (putS FS.dec rsshuntref02_Make) := by kernel_rfl
theorem okshuntref02_Make : ∀ k, InstOk (call cf k) (Ishuntref02_Make k)
  | 0 => fun x y e => absurd (show (none : Option _) = some y from e) (by simp)
  | k + 1 => inst_ok (c := cf) (k := k) (f := 17) (fn := Try.f17) (body := bd Try.f17) (sh := shshuntref02_Make) (os := rsshuntref02_Make) rfl Try.func17 rfl ⟨rfl, Nat.le_of_ble_eq_true rfl⟩ (COt_ok (alshuntref02_Make k)) (anshuntref02_Make k) (fun x => Fshuntref02_Make (k + 1) x.1 x.2.1 x.2.2.1 x.2.2.2) (stshuntref02_Make k)

/-! shunt/shuntref02.Take -/
def bshuntref02_Take (k : Nat) (r0 : Bool) (r1 : List Int) (r2 : Bool) (r3 : List Int) : Option (Bool × List Int × Bool × List Int) :=
  Option.bind (Fshuntref01_Take k r0 r1) fun r9 =>
  Option.bind (Fshuntref01_Take k r2 r3) fun r10 =>
  (some (r9.1, r9.2, r10.1, r10.2))
def Fshuntref02_Take : Nat → Bool → List Int → Bool → List Int → Option (Bool × List Int × Bool × List Int)
  | 0, _, _, _, _ => none
  | k + 1, r0, r1, r2, r3 => bshuntref02_Take k r0 r1 r2 r3
def shshuntref02_Take : FS := { vs := [.g [.lf .bool, .lf (.sl (.int .u32)), .lf .bool, .lf (.sl (.int .u32))]], bs := [] }
def rsshuntref02_Take : List FS := [{ vs := [.g [.lf .bool, .lf (.sl (.int .i64)), .lf .bool, .lf (.sl (.int .i64))]], bs := [] }]
def Ishuntref02_Take (k : Nat) : Inst := ⟨52, shshuntref02_Take, rsshuntref02_Take, fun x => Fshuntref02_Take k x.1 x.2.1 x.2.2.1 x.2.2.2⟩
theorem alshuntref02_Take (k : Nat) : AllI (call cf k) [Ishuntref01_Take k] := And.intro (okshuntref01_Take k) (True.intro)
theorem anshuntref02_Take (k : Nat) : LAll (LOk (R := DS FS.D rsshuntref02_Take) (fun b _ σ K => LOt Ty (kps 52) 0 b σ K []) cf (call cf k) (cf.keep 52) Try.f52.ntmps k shshuntref02_Take.bs.length) 0 (bd Try.f52) :=
  And.intro (True.intro) (And.intro (True.intro) (True.intro))
theorem stshuntref02_Take (k : Nat) (x : shshuntref02_Take.D) : Fshuntref02_Take (k + 1) x.1 x.2.1 x.2.2.1 x.2.2.2 = body2 cf (fun f a b K => COt f a b K [Ishuntref01_Take k]) (fun b _ σ K => LOt Ty (kps 52) 0 b σ K []) 52 Try.f52.ntmps Try.f52.results.toList (bd Try.f52) (shshuntref02_Take.enc x).1 (shshuntref02_Take.enc x).2 (putS FS.dec rsshuntref02_Take) := by kernel_rfl
theorem okshuntref02_Take : ∀ k, InstOk (call cf k) (Ishuntref02_Take k)
  | 0 => fun x y e => absurd (show (none : Option _) = some y from e) (by simp)
  | k + 1 => inst_ok (c := cf) (k := k) (f := 52) (fn := Try.f52) (body := bd Try.f52) (sh := shshuntref02_Take) (os := rsshuntref02_Take) rfl Try.func52 rfl ⟨rfl, Nat.le_of_ble_eq_true rfl⟩ (COt_ok (alshuntref02_Take k)) (anshuntref02_Take k) (fun x => Fshuntref02_Take (k + 1) x.1 x.2.1 x.2.2.1 x.2.2.2) (stshuntref02_Take k)

/-! shunt/shuntref02.Near -/
def bshuntref02_Near (k : Nat) (a0 : Bool) (a1 : List Int) (a2 : Bool) (a3 : List Int) : Option (Bool × List Int) :=
  Option.bind (Fshuntref01_Small k (2 : Int)) fun r10 =>
  Option.bind (Fshuntref01_Divide k a0 a1 a2 a3) fun r11 =>
  Option.bind (Fshuntref01_Abs k r11.2.2.1 r11.2.2.2) fun r12 =>
  Option.bind (Fshuntref01_Times k r12.1 r12.2 r10.1 r10.2) fun r13 =>
  Option.bind (Fshuntref01_Held k r13.1 r13.2 a2 a3) fun r14 =>
  Option.bind (Fshuntref01_Divide k r11.1 r11.2.1 r10.1 r10.2) fun r15 =>
  if ((decide (r14 > (0 : Int))) = false) then
    if ((r14 == (0 : Int)) = true) then
      Option.bind (Fshuntref01_Sign k r15.2.2.1 r15.2.2.2) fun r16 =>
      if ((r16 != (0 : Int)) = true) then
        Option.bind (Fshuntref01_Sign k a0 a1) fun r17 =>
        if ((decide (r17 < (0 : Int))) = true) then
          Option.bind (Fshuntref01_Small k (1 : Int)) fun r18 =>
          Option.bind (Fshuntref01_Less k r11.1 r11.2.1 r18.1 r18.2) fun r19 =>
          (some (r19.1, r19.2))
        else
        Option.bind (Fshuntref01_Small k (1 : Int)) fun r18 =>
        Option.bind (Fshuntref01_Plus k r11.1 r11.2.1 r18.1 r18.2) fun r19 =>
        (some (r19.1, r19.2))
      else
      (some (r11.1, r11.2.1))
    else
    (some (r11.1, r11.2.1))
  else
  Option.bind (Fshuntref01_Sign k a0 a1) fun r16 =>
  if ((decide (r16 < (0 : Int))) = true) then
    Option.bind (Fshuntref01_Small k (1 : Int)) fun r17 =>
    Option.bind (Fshuntref01_Less k r11.1 r11.2.1 r17.1 r17.2) fun r18 =>
    (some (r18.1, r18.2))
  else
  Option.bind (Fshuntref01_Small k (1 : Int)) fun r17 =>
  Option.bind (Fshuntref01_Plus k r11.1 r11.2.1 r17.1 r17.2) fun r18 =>
  (some (r18.1, r18.2))
def Fshuntref02_Near : Nat → Bool → List Int → Bool → List Int → Option (Bool × List Int)
  | 0, _, _, _, _ => none
  | k + 1, a0, a1, a2, a3 => bshuntref02_Near k a0 a1 a2 a3
def shshuntref02_Near : FS := { vs := [.g [.lf .bool, .lf (.sl (.int .i64)), .lf .bool, .lf (.sl (.int .i64))]], bs := [] }
def rsshuntref02_Near : List FS := [{ vs := [.g [.lf .bool, .lf (.sl (.int .i64))]], bs := [] }]
def Ishuntref02_Near (k : Nat) : Inst := ⟨90, shshuntref02_Near, rsshuntref02_Near, fun x => Fshuntref02_Near k x.1 x.2.1 x.2.2.1 x.2.2.2⟩
theorem alshuntref02_Near (k : Nat) : AllI (call cf k) [Ishuntref01_Small k, Ishuntref01_Divide k, Ishuntref01_Abs k, Ishuntref01_Times k, Ishuntref01_Held k, Ishuntref01_Sign k, Ishuntref01_Less k, Ishuntref01_Plus k] := And.intro (okshuntref01_Small k) (And.intro (okshuntref01_Divide k) (And.intro (okshuntref01_Abs k) (And.intro (okshuntref01_Times k) (And.intro (okshuntref01_Held k) (And.intro (okshuntref01_Sign k) (And.intro (okshuntref01_Less k) (And.intro (okshuntref01_Plus k) (True.intro))))))))
theorem anshuntref02_Near (k : Nat) : LAll (LOk (R := DS FS.D rsshuntref02_Near) (fun b _ σ K => LOt Ty (kps 90) 0 b σ K []) cf (call cf k) (cf.keep 90) Try.f90.ntmps k shshuntref02_Near.bs.length) 0 (bd Try.f90) :=
  And.intro (True.intro) (And.intro (True.intro) (And.intro (True.intro) (And.intro (True.intro) (And.intro (True.intro) (And.intro (True.intro) (And.intro (And.intro (True.intro) (And.intro (And.intro (And.intro (True.intro) (And.intro (And.intro (True.intro) (True.intro)) (True.intro))) (And.intro (True.intro) (True.intro))) (True.intro))) (And.intro (True.intro) (True.intro))))))))
theorem stshuntref02_Near (k : Nat) (x : shshuntref02_Near.D) : Fshuntref02_Near (k + 1) x.1 x.2.1 x.2.2.1 x.2.2.2 = body2 cf (fun f a b K => COt f a b K [Ishuntref01_Small k, Ishuntref01_Divide k, Ishuntref01_Abs k, Ishuntref01_Times k, Ishuntref01_Held k, Ishuntref01_Sign k, Ishuntref01_Less k, Ishuntref01_Plus k]) (fun b _ σ K => LOt Ty (kps 90) 0 b σ K []) 90 Try.f90.ntmps Try.f90.results.toList (bd Try.f90) (shshuntref02_Near.enc x).1 (shshuntref02_Near.enc x).2 (putS FS.dec rsshuntref02_Near) := by kernel_rfl
theorem okshuntref02_Near : ∀ k, InstOk (call cf k) (Ishuntref02_Near k)
  | 0 => fun x y e => absurd (show (none : Option _) = some y from e) (by simp)
  | k + 1 => inst_ok (c := cf) (k := k) (f := 90) (fn := Try.f90) (body := bd Try.f90) (sh := shshuntref02_Near) (os := rsshuntref02_Near) rfl Try.func90 rfl ⟨rfl, Nat.le_of_ble_eq_true rfl⟩ (COt_ok (alshuntref02_Near k)) (anshuntref02_Near k) (fun x => Fshuntref02_Near (k + 1) x.1 x.2.1 x.2.2.1 x.2.2.2) (stshuntref02_Near k)

/-! shunt/shuntref01.Wide -/
def Lshuntref01_Wide_0s (k : Nat) (rec : Int → Bool → Nat → Bool → Nat → List Int → List Int → Option (Bool × Nat × Bool × Nat × List Int × List Int)) (u : Int) (x0 : Bool) (x1 : Nat) (a0 : Bool) (a1 : Nat) (m : List Int) (m1 : List Int) : Option (Bool × Nat × Bool × Nat × List Int × List Int) :=
  if ((decide (u > (0 : Int))) = true) then
    if (a1 ≤ (List.length m1)) then
      if (((a1 + (List.length (List.take 1 ((IntKind.wrap .i64 (Int.tmod u (65536 : Int))) :: [])))) * 8) ≤ 140737488355328) then
        rec (IntKind.wrap .u64 (Int.tdiv u (65536 : Int))) x0 x1 a0 (a1 + (List.length (List.take 1 ((IntKind.wrap .i64 (Int.tmod u (65536 : Int))) :: [])))) m ((List.take a1 m1) ++ (List.take 1 ((IntKind.wrap .i64 (Int.tmod u (65536 : Int))) :: [])))
      else
      none
    else
    none
  else
  (some (x0, x1, a0, a1, m, m1))
def Lshuntref01_Wide_0 (k n : Nat) : Int → Bool → Nat → Bool → Nat → List Int → List Int → Option (Bool × Nat × Bool × Nat × List Int × List Int) := Nat.rec (fun _ _ _ _ _ _ _ => none) (fun _ r => Lshuntref01_Wide_0s k r) n
def bshuntref01_Wide (k : Nat) (v : Int) : Option (Bool × List Int) :=
  if ((decide (v < (0 : Int))) = true) then
    Option.bind (Lshuntref01_Wide_0 k k (IntKind.wrap .u64 ((0 : Int) - (IntKind.wrap .u64 v))) false 0 true 0 [] []) fun r11 =>
    if ((0 + r11.2.2.2.1) ≤ (List.length r11.2.2.2.2.2)) then
      (some (r11.2.2.1, (List.take r11.2.2.2.1 r11.2.2.2.2.2)))
    else
    none
  else
  Option.bind (Lshuntref01_Wide_0 k k (IntKind.wrap .u64 v) false 0 false 0 [] []) fun r11 =>
  if ((0 + r11.2.2.2.1) ≤ (List.length r11.2.2.2.2.2)) then
    (some (r11.2.2.1, (List.take r11.2.2.2.1 r11.2.2.2.2.2)))
  else
  none
def Fshuntref01_Wide : Nat → Int → Option (Bool × List Int)
  | 0, _ => none
  | k + 1, v => bshuntref01_Wide k v
def shshuntref01_Wide : FS := { vs := [.a (.lf (.int .i64))], bs := [] }
def rsshuntref01_Wide : List FS := [{ vs := [.g [.lf .bool, .lf (.sl (.int .i64))]], bs := [] }]
def Ishuntref01_Wide (k : Nat) : Inst := ⟨104, shshuntref01_Wide, rsshuntref01_Wide, fun x => Fshuntref01_Wide k x⟩
theorem alshuntref01_Wide (k : Nat) : AllI (call cf k) [] := True.intro
def hsshuntref01_Wide_0 : List SS := [{ fr := [(2, .a (.ptr 0 0 0)), (3, .a (.ptr 1 0 0)), (4, .a (.lf (.int .u64)))], mem := [(0, some (.raw [[.lf .bool, .smz 2]] 2 65 false false)), (1, some (.raw [[.lf .bool, .smz 3]] 2 65 false false)), (2, some (.arr (.int .i64) 1 3 false)), (3, some (.arr (.int .i64) 1 3 false))], nx := 4 }]
def osshuntref01_Wide_0 : List OS := [⟨some 0, { fr := [(2, .a (.ptr 0 0 0)), (3, .a (.ptr 1 0 0))], mem := [(0, some (.raw [[.lf .bool, .smz 2]] 2 65 false false)), (1, some (.raw [[.lf .bool, .smz 3]] 2 65 false false)), (2, some (.arr (.int .i64) 1 3 false)), (3, some (.arr (.int .i64) 1 3 false))], nx := 4 }⟩]
def LIshuntref01_Wide_0 (k : Nat) : LInst := ⟨0, hsshuntref01_Wide_0, osshuntref01_Wide_0, fun x => Lshuntref01_Wide_0 k k x.1 x.2.1 x.2.2.1 x.2.2.2.1 x.2.2.2.2.1 x.2.2.2.2.2.1 x.2.2.2.2.2.2⟩
theorem anshuntref01_Wide_0 (k : Nat) : LAll (LOk (R := DS OS.D osshuntref01_Wide_0) (fun b _ σ K => LOt Ty (kps 104) 0 b σ K []) cf (call cf k) (kps 104) Try.f104.ntmps k 0) 0 (lb Try.f104 0) :=
  And.intro (And.intro (True.intro) (And.intro (True.intro) (True.intro))) (And.intro (True.intro) (True.intro))
theorem stshuntref01_Wide_0 (k n : Nat) (x : DS SS.D hsshuntref01_Wide_0) : Lshuntref01_Wide_0 k (n + 1) x.1 x.2.1 x.2.2.1 x.2.2.2.1 x.2.2.2.2.1 x.2.2.2.2.2.1 x.2.2.2.2.2.2 = encSK SS.enc (fun σ => run2 cf (fun f a b K => COt f a b K []) (fun b _ σ K => LOt Ty (kps 104) 0 b σ K []) Try.f104.ntmps 0 (lb Try.f104 0) σ (nextK Ty (kps 104 0) 0 hsshuntref01_Wide_0 osshuntref01_Wide_0 fun x => Lshuntref01_Wide_0 k n x.1 x.2.1 x.2.2.1 x.2.2.2.1 x.2.2.2.2.1 x.2.2.2.2.2.1 x.2.2.2.2.2.2)) hsshuntref01_Wide_0 x := by kernel_rfl
theorem loshuntref01_Wide_0 (k : Nat) : LIOk cf (call cf k) (kps 104) Try.f104.ntmps k 0 0 (lb Try.f104 0) (LIshuntref01_Wide_0 k) :=
  loop_ok (c := cf) (callF := call cf k) (kp := kps 104) (nt := Try.f104.ntmps) (k := k) (p := 0) (b := 0) (x0 := lb Try.f104 0) (hs := hsshuntref01_Wide_0) (os := osshuntref01_Wide_0) (COt_ok (alshuntref01_Wide k)) (anshuntref01_Wide_0 k) (fun n x => Lshuntref01_Wide_0 k n x.1 x.2.1 x.2.2.1 x.2.2.2.1 x.2.2.2.2.1 x.2.2.2.2.2.1 x.2.2.2.2.2.2) (fun _ => rfl) (stshuntref01_Wide_0 k)
theorem anshuntref01_Wide (k : Nat) : LAll (LOk (R := DS FS.D rsshuntref01_Wide) (fun b _ σ K => LOt Ty (kps 104) 0 b σ K [LIshuntref01_Wide_0 k]) cf (call cf k) (cf.keep 104) Try.f104.ntmps k shshuntref01_Wide.bs.length) 0 (bd Try.f104) :=
  And.intro (True.intro) (And.intro (True.intro) (And.intro (True.intro) (And.intro (And.intro (True.intro) (And.intro (And.intro (True.intro) (True.intro)) (True.intro))) (And.intro (LOt_ok (c := cf) (callF := call cf k) (kp := kps 104) (nt := Try.f104.ntmps) (k := k) (p := 0) (b := 0) (x0 := lb Try.f104 0) (l := [LIshuntref01_Wide_0 k]) (And.intro (fun _ => loshuntref01_Wide_0 k) (True.intro))) (And.intro (True.intro) (True.intro))))))
theorem stshuntref01_Wide (k : Nat) (x : shshuntref01_Wide.D) : Fshuntref01_Wide (k + 1) x = body2 cf (fun f a b K => COt f a b K []) (fun b _ σ K => LOt Ty (kps 104) 0 b σ K [LIshuntref01_Wide_0 k]) 104 Try.f104.ntmps Try.f104.results.toList (bd Try.f104) (shshuntref01_Wide.enc x).1 (shshuntref01_Wide.enc x).2 (putS FS.dec rsshuntref01_Wide) := by kernel_rfl
theorem okshuntref01_Wide : ∀ k, InstOk (call cf k) (Ishuntref01_Wide k)
  | 0 => fun x y e => absurd (show (none : Option _) = some y from e) (by simp)
  | k + 1 => inst_ok (c := cf) (k := k) (f := 104) (fn := Try.f104) (body := bd Try.f104) (sh := shshuntref01_Wide) (os := rsshuntref01_Wide) rfl Try.func104 rfl ⟨rfl, Nat.le_of_ble_eq_true rfl⟩ (COt_ok (alshuntref01_Wide k)) (anshuntref01_Wide k) (fun x => Fshuntref01_Wide (k + 1) x) (stshuntref01_Wide k)

/-! shunt/shuntref01.Whole -/
def Lshuntref01_Whole_0s (k : Nat) (rec : Int → Int → Bool → List Int → Option (Int × Bool × List Int)) (u : Int) (i : Int) (a0 : Bool) (a1 : List Int) : Option (Int × Bool × List Int) :=
  if ((decide (i ≥ (0 : Int))) = true) then
    if ((0 : Int) ≤ i) then
      Option.bind (a1)[(Int.toNat i)]? fun x =>
      rec (IntKind.wrap .u64 ((IntKind.wrap .u64 (u * (65536 : Int))) + (IntKind.wrap .u64 x))) (IntKind.wrap .i64 (i - (1 : Int))) a0 a1
    else
    none
  else
  (some (u, a0, a1))
def Lshuntref01_Whole_0 (k n : Nat) : Int → Int → Bool → List Int → Option (Int × Bool × List Int) := Nat.rec (fun _ _ _ _ => none) (fun _ r => Lshuntref01_Whole_0s k r) n
def bshuntref01_Whole (k : Nat) (a0 : Bool) (a1 : List Int) : Option (Int × Bool) :=
  Option.bind (Fshuntref01_Wide k (-(9223372036854775808 : Int))) fun r11 =>
  Option.bind (Fshuntref01_Held k a0 a1 r11.1 r11.2) fun r12 =>
  if ((decide (r12 < (0 : Int))) = false) then
    Option.bind (Fshuntref01_Wide k (9223372036854775807 : Int)) fun r13 =>
    Option.bind (Fshuntref01_Held k a0 a1 r13.1 r13.2) fun r14 =>
    if ((decide (r14 > (0 : Int))) = true) then
      (some ((0 : Int), false))
    else
    Option.bind (Lshuntref01_Whole_0 k k (0 : Int) (IntKind.wrap .i64 ((((List.length a1) : Nat) : Int) - (1 : Int))) a0 a1) fun r15 =>
    if (r15.2.1 = true) then
      (some ((IntKind.wrap .i64 (IntKind.wrap .u64 ((0 : Int) - r15.1))), true))
    else
    (some ((IntKind.wrap .i64 r15.1), true))
  else
  (some ((0 : Int), false))
def Fshuntref01_Whole : Nat → Bool → List Int → Option (Int × Bool)
  | 0, _, _ => none
  | k + 1, a0, a1 => bshuntref01_Whole k a0 a1
def shshuntref01_Whole : FS := { vs := [.g [.lf .bool, .lf (.sl (.int .i64))]], bs := [] }
def rsshuntref01_Whole : List FS := [{ vs := [.a (.lf (.int .i64)), .a (.lf .bool)], bs := [] }]
def Ishuntref01_Whole (k : Nat) : Inst := ⟨89, shshuntref01_Whole, rsshuntref01_Whole, fun x => Fshuntref01_Whole k x.1 x.2⟩
theorem alshuntref01_Whole (k : Nat) : AllI (call cf k) [Ishuntref01_Wide k, Ishuntref01_Held k] := And.intro (okshuntref01_Wide k) (And.intro (okshuntref01_Held k) (True.intro))
def hsshuntref01_Whole_0 : List SS := [{ fr := [(1, .a (.ptr 0 0 0)), (4, .a (.lf (.int .u64))), (5, .a (.lf (.int .i64)))], mem := [(0, some (.raw [[.lf .bool, .lf (.sl (.int .i64))]] 2 65 true false))], nx := 1 }]
def osshuntref01_Whole_0 : List OS := [⟨some 0, { fr := [(1, .a (.ptr 0 0 0)), (4, .a (.lf (.int .u64)))], mem := [(0, some (.raw [[.lf .bool, .lf (.sl (.int .i64))]] 2 65 true false))], nx := 1 }⟩]
def LIshuntref01_Whole_0 (k : Nat) : LInst := ⟨0, hsshuntref01_Whole_0, osshuntref01_Whole_0, fun x => Lshuntref01_Whole_0 k k x.1 x.2.1 x.2.2.1 x.2.2.2⟩
theorem anshuntref01_Whole_0 (k : Nat) : LAll (LOk (R := DS OS.D osshuntref01_Whole_0) (fun b _ σ K => LOt Ty (kps 89) 0 b σ K []) cf (call cf k) (kps 89) Try.f89.ntmps k 0) 0 (lb Try.f89 0) :=
  And.intro (And.intro (True.intro) (And.intro (True.intro) (True.intro))) (And.intro (True.intro) (True.intro))
theorem stshuntref01_Whole_0 (k n : Nat) (x : DS SS.D hsshuntref01_Whole_0) : Lshuntref01_Whole_0 k (n + 1) x.1 x.2.1 x.2.2.1 x.2.2.2 = encSK SS.enc (fun σ => run2 cf (fun f a b K => COt f a b K [Ishuntref01_Wide k, Ishuntref01_Held k]) (fun b _ σ K => LOt Ty (kps 89) 0 b σ K []) Try.f89.ntmps 0 (lb Try.f89 0) σ (nextK Ty (kps 89 0) 0 hsshuntref01_Whole_0 osshuntref01_Whole_0 fun x => Lshuntref01_Whole_0 k n x.1 x.2.1 x.2.2.1 x.2.2.2)) hsshuntref01_Whole_0 x := by kernel_rfl
theorem loshuntref01_Whole_0 (k : Nat) : LIOk cf (call cf k) (kps 89) Try.f89.ntmps k 0 0 (lb Try.f89 0) (LIshuntref01_Whole_0 k) :=
  loop_ok (c := cf) (callF := call cf k) (kp := kps 89) (nt := Try.f89.ntmps) (k := k) (p := 0) (b := 0) (x0 := lb Try.f89 0) (hs := hsshuntref01_Whole_0) (os := osshuntref01_Whole_0) (COt_ok (alshuntref01_Whole k)) (anshuntref01_Whole_0 k) (fun n x => Lshuntref01_Whole_0 k n x.1 x.2.1 x.2.2.1 x.2.2.2) (fun _ => rfl) (stshuntref01_Whole_0 k)
theorem anshuntref01_Whole (k : Nat) : LAll (LOk (R := DS FS.D rsshuntref01_Whole) (fun b _ σ K => LOt Ty (kps 89) 0 b σ K [LIshuntref01_Whole_0 k]) cf (call cf k) (cf.keep 89) Try.f89.ntmps k shshuntref01_Whole.bs.length) 0 (bd Try.f89) :=
  And.intro (True.intro) (And.intro (And.intro (True.intro) (And.intro (And.intro (True.intro) (True.intro)) (True.intro))) (And.intro (True.intro) (And.intro (And.intro (True.intro) (LOt_ok (c := cf) (callF := call cf k) (kp := kps 89) (nt := Try.f89.ntmps) (k := k) (p := 0) (b := 0) (x0 := lb Try.f89 0) (l := [LIshuntref01_Whole_0 k]) (And.intro (fun _ => loshuntref01_Whole_0 k) (True.intro)))) (And.intro (And.intro (True.intro) (And.intro (True.intro) (True.intro))) (And.intro (True.intro) (True.intro))))))
theorem stshuntref01_Whole (k : Nat) (x : shshuntref01_Whole.D) : Fshuntref01_Whole (k + 1) x.1 x.2 = body2 cf (fun f a b K => COt f a b K [Ishuntref01_Wide k, Ishuntref01_Held k]) (fun b _ σ K => LOt Ty (kps 89) 0 b σ K [LIshuntref01_Whole_0 k]) 89 Try.f89.ntmps Try.f89.results.toList (bd Try.f89) (shshuntref01_Whole.enc x).1 (shshuntref01_Whole.enc x).2 (putS FS.dec rsshuntref01_Whole) := by kernel_rfl
theorem okshuntref01_Whole : ∀ k, InstOk (call cf k) (Ishuntref01_Whole k)
  | 0 => fun x y e => absurd (show (none : Option _) = some y from e) (by simp)
  | k + 1 => inst_ok (c := cf) (k := k) (f := 89) (fn := Try.f89) (body := bd Try.f89) (sh := shshuntref01_Whole) (os := rsshuntref01_Whole) rfl Try.func89 rfl ⟨rfl, Nat.le_of_ble_eq_true rfl⟩ (COt_ok (alshuntref01_Whole k)) (anshuntref01_Whole k) (fun x => Fshuntref01_Whole (k + 1) x.1 x.2) (stshuntref01_Whole k)

/-! shunt/shuntref02.Grid -/
def bshuntref02_Grid (k : Nat) (a0 : Bool) (a1 : List Int) (a2 : Bool) (a3 : List Int) : Option (Int × Int) :=
  Option.bind (Fshuntref02_Near k a0 a1 a2 a3) fun r10 =>
  Option.bind (Fshuntref01_Whole k r10.1 r10.2) fun r11 =>
  if ((!r11.2) = false) then
    if ((decide (r11.1 > (1000000000000000000 : Int))) = false) then
      if ((decide (r11.1 < (-(1000000000000000000 : Int)))) = true) then
        (some ((0 : Int), (4 : Int)))
      else
      (some (r11.1, (0 : Int)))
    else
    (some ((0 : Int), (4 : Int)))
  else
  (some ((0 : Int), (4 : Int)))
def Fshuntref02_Grid : Nat → Bool → List Int → Bool → List Int → Option (Int × Int)
  | 0, _, _, _, _ => none
  | k + 1, a0, a1, a2, a3 => bshuntref02_Grid k a0 a1 a2 a3
def shshuntref02_Grid : FS := { vs := [.g [.lf .bool, .lf (.sl (.int .i64)), .lf .bool, .lf (.sl (.int .i64))]], bs := [] }
def rsshuntref02_Grid : List FS := [{ vs := [.a (.lf (.int .i64)), .a (.lf (.int .i64))], bs := [] }]
def Ishuntref02_Grid (k : Nat) : Inst := ⟨51, shshuntref02_Grid, rsshuntref02_Grid, fun x => Fshuntref02_Grid k x.1 x.2.1 x.2.2.1 x.2.2.2⟩
theorem alshuntref02_Grid (k : Nat) : AllI (call cf k) [Ishuntref02_Near k, Ishuntref01_Whole k] := And.intro (okshuntref02_Near k) (And.intro (okshuntref01_Whole k) (True.intro))
theorem anshuntref02_Grid (k : Nat) : LAll (LOk (R := DS FS.D rsshuntref02_Grid) (fun b _ σ K => LOt Ty (kps 51) 0 b σ K []) cf (call cf k) (cf.keep 51) Try.f51.ntmps k shshuntref02_Grid.bs.length) 0 (bd Try.f51) :=
  And.intro (True.intro) (And.intro (True.intro) (And.intro (And.intro (True.intro) (And.intro (And.intro (True.intro) (True.intro)) (True.intro))) (And.intro (True.intro) (True.intro))))
theorem stshuntref02_Grid (k : Nat) (x : shshuntref02_Grid.D) : Fshuntref02_Grid (k + 1) x.1 x.2.1 x.2.2.1 x.2.2.2 = body2 cf (fun f a b K => COt f a b K [Ishuntref02_Near k, Ishuntref01_Whole k]) (fun b _ σ K => LOt Ty (kps 51) 0 b σ K []) 51 Try.f51.ntmps Try.f51.results.toList (bd Try.f51) (shshuntref02_Grid.enc x).1 (shshuntref02_Grid.enc x).2 (putS FS.dec rsshuntref02_Grid) := by kernel_rfl
theorem okshuntref02_Grid : ∀ k, InstOk (call cf k) (Ishuntref02_Grid k)
  | 0 => fun x y e => absurd (show (none : Option _) = some y from e) (by simp)
  | k + 1 => inst_ok (c := cf) (k := k) (f := 51) (fn := Try.f51) (body := bd Try.f51) (sh := shshuntref02_Grid) (os := rsshuntref02_Grid) rfl Try.func51 rfl ⟨rfl, Nat.le_of_ble_eq_true rfl⟩ (COt_ok (alshuntref02_Grid k)) (anshuntref02_Grid k) (fun x => Fshuntref02_Grid (k + 1) x.1 x.2.1 x.2.2.1 x.2.2.2) (stshuntref02_Grid k)

/-! shunt/shuntref02.Round -/
def bshuntref02_Round (k : Nat) (r0 : Bool) (r1 : List Int) (r2 : Bool) (r3 : List Int) : Option (Int × Int) :=
  Option.bind (Fshuntref02_Fault k r0 r1 r2 r3) fun r8 =>
  if ((r8 != (0 : Int)) = true) then
    (some ((0 : Int), r8))
  else
  Option.bind (Fshuntref02_Take k r0 r1 r2 r3) fun r9 =>
  Option.bind (Fshuntref02_Grid k r9.1 r9.2.1 r9.2.2.1 r9.2.2.2) fun r10 =>
  (some (r10.1, r10.2))
def Fshuntref02_Round : Nat → Bool → List Int → Bool → List Int → Option (Int × Int)
  | 0, _, _, _, _ => none
  | k + 1, r0, r1, r2, r3 => bshuntref02_Round k r0 r1 r2 r3
def shshuntref02_Round : FS := { vs := [.g [.lf .bool, .lf (.sl (.int .u32)), .lf .bool, .lf (.sl (.int .u32))]], bs := [] }
def rsshuntref02_Round : List FS := [{ vs := [.a (.lf (.int .i64)), .a (.lf (.int .i64))], bs := [] }]
def Ishuntref02_Round (k : Nat) : Inst := ⟨19, shshuntref02_Round, rsshuntref02_Round, fun x => Fshuntref02_Round k x.1 x.2.1 x.2.2.1 x.2.2.2⟩
theorem alshuntref02_Round (k : Nat) : AllI (call cf k) [Ishuntref02_Fault k, Ishuntref02_Take k, Ishuntref02_Grid k] := And.intro (okshuntref02_Fault k) (And.intro (okshuntref02_Take k) (And.intro (okshuntref02_Grid k) (True.intro)))
theorem anshuntref02_Round (k : Nat) : LAll (LOk (R := DS FS.D rsshuntref02_Round) (fun b _ σ K => LOt Ty (kps 19) 0 b σ K []) cf (call cf k) (cf.keep 19) Try.f19.ntmps k shshuntref02_Round.bs.length) 0 (bd Try.f19) :=
  And.intro (True.intro) (And.intro (True.intro) (And.intro (And.intro (True.intro) (And.intro (And.intro (True.intro) (True.intro)) (True.intro))) (And.intro (True.intro) (True.intro))))
theorem stshuntref02_Round (k : Nat) (x : shshuntref02_Round.D) : Fshuntref02_Round (k + 1) x.1 x.2.1 x.2.2.1 x.2.2.2 = body2 cf (fun f a b K => COt f a b K [Ishuntref02_Fault k, Ishuntref02_Take k, Ishuntref02_Grid k]) (fun b _ σ K => LOt Ty (kps 19) 0 b σ K []) 19 Try.f19.ntmps Try.f19.results.toList (bd Try.f19) (shshuntref02_Round.enc x).1 (shshuntref02_Round.enc x).2 (putS FS.dec rsshuntref02_Round) := by kernel_rfl
theorem okshuntref02_Round : ∀ k, InstOk (call cf k) (Ishuntref02_Round k)
  | 0 => fun x y e => absurd (show (none : Option _) = some y from e) (by simp)
  | k + 1 => inst_ok (c := cf) (k := k) (f := 19) (fn := Try.f19) (body := bd Try.f19) (sh := shshuntref02_Round) (os := rsshuntref02_Round) rfl Try.func19 rfl ⟨rfl, Nat.le_of_ble_eq_true rfl⟩ (COt_ok (alshuntref02_Round k)) (anshuntref02_Round k) (fun x => Fshuntref02_Round (k + 1) x.1 x.2.1 x.2.2.1 x.2.2.2) (stshuntref02_Round k)

/-! (*shunt/big.Int).Mul -/
def Lbig_Int_Mul_jod_2s (k : Nat) (rec : Nat → Int → Int → Int → List Int → Int → Int → List Int → Int → Int → Bool → List Int → Bool → List Int → List Int → Option (Nat × Int × Int × List Int × Int × Int × Bool × List Int × Bool × List Int × List Int)) (out1 : Nat) (i : Int) (a : Int) (carry : Int) (x : List Int) (x1 : Int) (x2 : Int) (x3 : List Int) (x4 : Int) (x5 : Int) (x0 : Bool) (x11 : List Int) (y0 : Bool) (y1 : List Int) (outs : List Int) : Option (Nat × Int × Int × List Int × Int × Int × Bool × List Int × Bool × List Int × List Int) :=
  if ((decide (x5 < x4)) = true) then
    if ((0 : Int) ≤ x5) then
      Option.bind (x3)[(Int.toNat x5)]? fun x6 =>
      if (((0 : Int) ≤ (IntKind.wrap .i64 (i + x5))) ∧ ((IntKind.wrap .i64 (i + x5)) < ((out1 : Nat) : Int))) then
        Option.bind (outs)[(0 + (Int.toNat (IntKind.wrap .i64 (i + x5))))]? fun x7 =>
        if (((0 : Int) ≤ (IntKind.wrap .i64 (i + x5))) ∧ ((IntKind.wrap .i64 (i + x5)) < ((out1 : Nat) : Int))) then
          Option.bind (outs)[(0 + (Int.toNat (IntKind.wrap .i64 (i + x5))))]? fun x8 =>
          rec out1 i a (Int.fdiv (IntKind.wrap .u64 ((IntKind.wrap .u64 ((IntKind.wrap .u64 ((IntKind.wrap .u64 a) * (IntKind.wrap .u64 x6))) + (IntKind.wrap .u64 x7))) + carry)) (4294967296 : Int)) x x1 x2 x3 x4 (IntKind.wrap .i64 (x5 + (1 : Int))) x0 x11 y0 y1 (List.set outs (0 + (Int.toNat (IntKind.wrap .i64 (i + x5)))) (IntKind.wrap .u32 (IntKind.wrap .u64 ((IntKind.wrap .u64 ((IntKind.wrap .u64 ((IntKind.wrap .u64 a) * (IntKind.wrap .u64 x6))) + (IntKind.wrap .u64 x7))) + carry))))
        else
        none
      else
      none
    else
    none
  else
  (some (out1, i, carry, x, x1, x2, x0, x11, y0, y1, outs))
def Lbig_Int_Mul_jod_2 (k n : Nat) : Nat → Int → Int → Int → List Int → Int → Int → List Int → Int → Int → Bool → List Int → Bool → List Int → List Int → Option (Nat × Int × Int × List Int × Int × Int × Bool × List Int × Bool × List Int × List Int) := Nat.rec (fun _ _ _ _ _ _ _ _ _ _ _ _ _ _ _ => none) (fun _ r => Lbig_Int_Mul_jod_2s k r) n
def Lbig_Int_Mul_jod_0s (k : Nat) (rec : Nat → List Int → Int → Int → Bool → List Int → Bool → List Int → List Int → Option (Nat × Bool × List Int × Bool × List Int × List Int)) (out1 : Nat) (x : List Int) (x1 : Int) (x2 : Int) (x0 : Bool) (x11 : List Int) (y0 : Bool) (y1 : List Int) (outs : List Int) : Option (Nat × Bool × List Int × Bool × List Int × List Int) :=
  if ((decide (x2 < x1)) = true) then
    if ((0 : Int) ≤ x2) then
      Option.bind (x)[(Int.toNat x2)]? fun x3 =>
      Option.bind (Lbig_Int_Mul_jod_2 k k out1 x2 x3 (0 : Int) x x1 x2 y1 (((List.length y1) : Nat) : Int) (0 : Int) x0 x11 y0 y1 outs) fun r13 =>
      if (((0 : Int) ≤ (IntKind.wrap .i64 (r13.2.1 + (((List.length r13.2.2.2.2.2.2.2.2.2.1) : Nat) : Int)))) ∧ ((IntKind.wrap .i64 (r13.2.1 + (((List.length r13.2.2.2.2.2.2.2.2.2.1) : Nat) : Int))) < ((r13.1 : Nat) : Int))) then
        Option.bind (r13.2.2.2.2.2.2.2.2.2.2)[(0 + (Int.toNat (IntKind.wrap .i64 (r13.2.1 + (((List.length r13.2.2.2.2.2.2.2.2.2.1) : Nat) : Int)))))]? fun x4 =>
        rec r13.1 r13.2.2.2.1 r13.2.2.2.2.1 (IntKind.wrap .i64 (r13.2.2.2.2.2.1 + (1 : Int))) r13.2.2.2.2.2.2.1 r13.2.2.2.2.2.2.2.1 r13.2.2.2.2.2.2.2.2.1 r13.2.2.2.2.2.2.2.2.2.1 (List.set r13.2.2.2.2.2.2.2.2.2.2 (0 + (Int.toNat (IntKind.wrap .i64 (r13.2.1 + (((List.length r13.2.2.2.2.2.2.2.2.2.1) : Nat) : Int))))) (IntKind.wrap .u32 r13.2.2.1))
      else
      none
    else
    none
  else
  (some (out1, x0, x11, y0, y1, outs))
def Lbig_Int_Mul_jod_0 (k n : Nat) : Nat → List Int → Int → Int → Bool → List Int → Bool → List Int → List Int → Option (Nat × Bool × List Int × Bool × List Int × List Int) := Nat.rec (fun _ _ _ _ _ _ _ _ _ => none) (fun _ r => Lbig_Int_Mul_jod_0s k r) n
def bbig_Int_Mul_jod (k : Nat) (x0 : Bool) (x1 : List Int) (y0 : Bool) (y1 : List Int) : Option (Bool × List Int × Bool × List Int) :=
  if (((0 : Int) ≤ (IntKind.wrap .i64 ((((List.length x1) : Nat) : Int) + (((List.length y1) : Nat) : Int)))) ∧ (((IntKind.wrap .i64 ((((List.length x1) : Nat) : Int) + (((List.length y1) : Nat) : Int))) ≤ (IntKind.wrap .i64 ((((List.length x1) : Nat) : Int) + (((List.length y1) : Nat) : Int)))) ∧ (((IntKind.wrap .i64 ((((List.length x1) : Nat) : Int) + (((List.length y1) : Nat) : Int))) * (4 : Int)) ≤ (140737488355328 : Int)))) then
    Option.bind (Lbig_Int_Mul_jod_0 k k (Int.toNat (IntKind.wrap .i64 ((((List.length x1) : Nat) : Int) + (((List.length y1) : Nat) : Int)))) x1 (((List.length x1) : Nat) : Int) (0 : Int) x0 x1 y0 y1 (List.replicate (Int.toNat (IntKind.wrap .i64 ((((List.length x1) : Nat) : Int) + (((List.length y1) : Nat) : Int)))) (0 : Int))) fun r13 =>
    if ((0 + r13.1) ≤ (List.length r13.2.2.2.2.2)) then
      Option.bind (Fbig_Int_set_paj k (!(r13.2.1 == r13.2.2.2.1)) (List.take r13.1 r13.2.2.2.2.2) r13.2.1 r13.2.2.1) fun r14 =>
      (some (r14.1, r14.2, r13.2.2.2.1, r13.2.2.2.2.1))
    else
    none
  else
  none
def Fbig_Int_Mul_jod : Nat → Bool → List Int → Bool → List Int → Option (Bool × List Int × Bool × List Int)
  | 0, _, _, _, _ => none
  | k + 1, x0, x1, y0, y1 => bbig_Int_Mul_jod k x0 x1 y0 y1
def shbig_Int_Mul_jod : FS := { vs := [.a (.ptr 0 0 0), .a (.ptr 0 0 0), .a (.ptr 1 0 0)], bs := [.raw [[.lf .bool, .lf (.sl (.int .u32))]] 2 78 true false, .raw [[.lf .bool, .lf (.sl (.int .u32))]] 2 78 true false] }
def rsbig_Int_Mul_jod : List FS := [{ vs := [.a (.ptr 0 0 0)], bs := [.raw [[.lf .bool, .lf (.sl (.int .u32))]] 2 78 true false, .raw [[.lf .bool, .lf (.sl (.int .u32))]] 2 78 true false] }]
def Ibig_Int_Mul_jod (k : Nat) : Inst := ⟨45, shbig_Int_Mul_jod, rsbig_Int_Mul_jod, fun x => Fbig_Int_Mul_jod k x.1 x.2.1 x.2.2.1 x.2.2.2⟩
theorem albig_Int_Mul_jod (k : Nat) : AllI (call cf k) [Ibig_Int_set_paj k] := And.intro (okbig_Int_set_paj k) (True.intro)
def hsbig_Int_Mul_jod_2 : List SS := [{ fr := [(0, .a (.ptr 0 0 0)), (1, .a (.ptr 0 0 0)), (2, .a (.ptr 1 0 0)), (7, .a (.smz 2)), (8, .a (.lf (.int .i64))), (9, .a (.lf (.int .u32))), (10, .a (.lf (.int .u64))), (29, .a (.lf (.sl (.int .u32)))), (30, .a (.lf (.int .i64))), (31, .a (.lf (.int .i64))), (39, .a (.lf (.sl (.int .u32)))), (40, .a (.lf (.int .i64))), (41, .a (.lf (.int .i64)))], mem := [(0, some (.raw [[.lf .bool, .lf (.sl (.int .u32))]] 2 78 true false)), (1, some (.raw [[.lf .bool, .lf (.sl (.int .u32))]] 2 78 true false)), (2, some (.arr (.int .u32) 1 61 false))], nx := 3 }]
def osbig_Int_Mul_jod_2 : List OS := [⟨some 2, { fr := [(0, .a (.ptr 0 0 0)), (1, .a (.ptr 0 0 0)), (2, .a (.ptr 1 0 0)), (7, .a (.smz 2)), (8, .a (.lf (.int .i64))), (10, .a (.lf (.int .u64))), (29, .a (.lf (.sl (.int .u32)))), (30, .a (.lf (.int .i64))), (31, .a (.lf (.int .i64)))], mem := [(0, some (.raw [[.lf .bool, .lf (.sl (.int .u32))]] 2 78 true false)), (1, some (.raw [[.lf .bool, .lf (.sl (.int .u32))]] 2 78 true false)), (2, some (.arr (.int .u32) 1 61 false))], nx := 3 }⟩]
def LIbig_Int_Mul_jod_2 (k : Nat) : LInst := ⟨2, hsbig_Int_Mul_jod_2, osbig_Int_Mul_jod_2, fun x => Lbig_Int_Mul_jod_2 k k x.1 x.2.1 x.2.2.1 x.2.2.2.1 x.2.2.2.2.1 x.2.2.2.2.2.1 x.2.2.2.2.2.2.1 x.2.2.2.2.2.2.2.1 x.2.2.2.2.2.2.2.2.1 x.2.2.2.2.2.2.2.2.2.1 x.2.2.2.2.2.2.2.2.2.2.1 x.2.2.2.2.2.2.2.2.2.2.2.1 x.2.2.2.2.2.2.2.2.2.2.2.2.1 x.2.2.2.2.2.2.2.2.2.2.2.2.2.1 x.2.2.2.2.2.2.2.2.2.2.2.2.2.2⟩
theorem anbig_Int_Mul_jod_2 (k : Nat) : LAll (LOk (R := DS OS.D osbig_Int_Mul_jod_2) (fun b _ σ K => LOt Ty (kps 45) 2 b σ K []) cf (call cf k) (kps 45) Try.f45.ntmps k 2) 2 (lb Try.f45 1) :=
  And.intro (True.intro) (And.intro (And.intro (True.intro) (True.intro)) (And.intro (And.intro (True.intro) (And.intro (True.intro) (And.intro (True.intro) (True.intro)))) (True.intro)))
theorem stbig_Int_Mul_jod_2 (k n : Nat) (x : DS SS.D hsbig_Int_Mul_jod_2) : Lbig_Int_Mul_jod_2 k (n + 1) x.1 x.2.1 x.2.2.1 x.2.2.2.1 x.2.2.2.2.1 x.2.2.2.2.2.1 x.2.2.2.2.2.2.1 x.2.2.2.2.2.2.2.1 x.2.2.2.2.2.2.2.2.1 x.2.2.2.2.2.2.2.2.2.1 x.2.2.2.2.2.2.2.2.2.2.1 x.2.2.2.2.2.2.2.2.2.2.2.1 x.2.2.2.2.2.2.2.2.2.2.2.2.1 x.2.2.2.2.2.2.2.2.2.2.2.2.2.1 x.2.2.2.2.2.2.2.2.2.2.2.2.2.2 = encSK SS.enc (fun σ => run2 cf (fun f a b K => COt f a b K [Ibig_Int_set_paj k]) (fun b _ σ K => LOt Ty (kps 45) 2 b σ K []) Try.f45.ntmps 2 (lb Try.f45 1) σ (nextK Ty (kps 45 2) 2 hsbig_Int_Mul_jod_2 osbig_Int_Mul_jod_2 fun x => Lbig_Int_Mul_jod_2 k n x.1 x.2.1 x.2.2.1 x.2.2.2.1 x.2.2.2.2.1 x.2.2.2.2.2.1 x.2.2.2.2.2.2.1 x.2.2.2.2.2.2.2.1 x.2.2.2.2.2.2.2.2.1 x.2.2.2.2.2.2.2.2.2.1 x.2.2.2.2.2.2.2.2.2.2.1 x.2.2.2.2.2.2.2.2.2.2.2.1 x.2.2.2.2.2.2.2.2.2.2.2.2.1 x.2.2.2.2.2.2.2.2.2.2.2.2.2.1 x.2.2.2.2.2.2.2.2.2.2.2.2.2.2)) hsbig_Int_Mul_jod_2 x := by kernel_rfl
theorem lobig_Int_Mul_jod_2 (k : Nat) : LIOk cf (call cf k) (kps 45) Try.f45.ntmps k 2 2 (lb Try.f45 1) (LIbig_Int_Mul_jod_2 k) :=
  loop_ok (c := cf) (callF := call cf k) (kp := kps 45) (nt := Try.f45.ntmps) (k := k) (p := 2) (b := 2) (x0 := lb Try.f45 1) (hs := hsbig_Int_Mul_jod_2) (os := osbig_Int_Mul_jod_2) (COt_ok (albig_Int_Mul_jod k)) (anbig_Int_Mul_jod_2 k) (fun n x => Lbig_Int_Mul_jod_2 k n x.1 x.2.1 x.2.2.1 x.2.2.2.1 x.2.2.2.2.1 x.2.2.2.2.2.1 x.2.2.2.2.2.2.1 x.2.2.2.2.2.2.2.1 x.2.2.2.2.2.2.2.2.1 x.2.2.2.2.2.2.2.2.2.1 x.2.2.2.2.2.2.2.2.2.2.1 x.2.2.2.2.2.2.2.2.2.2.2.1 x.2.2.2.2.2.2.2.2.2.2.2.2.1 x.2.2.2.2.2.2.2.2.2.2.2.2.2.1 x.2.2.2.2.2.2.2.2.2.2.2.2.2.2) (fun _ => rfl) (stbig_Int_Mul_jod_2 k)
def hsbig_Int_Mul_jod_0 : List SS := [{ fr := [(0, .a (.ptr 0 0 0)), (1, .a (.ptr 0 0 0)), (2, .a (.ptr 1 0 0)), (7, .a (.smz 2)), (29, .a (.lf (.sl (.int .u32)))), (30, .a (.lf (.int .i64))), (31, .a (.lf (.int .i64)))], mem := [(0, some (.raw [[.lf .bool, .lf (.sl (.int .u32))]] 2 78 true false)), (1, some (.raw [[.lf .bool, .lf (.sl (.int .u32))]] 2 78 true false)), (2, some (.arr (.int .u32) 1 61 false))], nx := 3 }]
def osbig_Int_Mul_jod_0 : List OS := [⟨some 0, { fr := [(0, .a (.ptr 0 0 0)), (1, .a (.ptr 0 0 0)), (2, .a (.ptr 1 0 0)), (7, .a (.smz 2))], mem := [(0, some (.raw [[.lf .bool, .lf (.sl (.int .u32))]] 2 78 true false)), (1, some (.raw [[.lf .bool, .lf (.sl (.int .u32))]] 2 78 true false)), (2, some (.arr (.int .u32) 1 61 false))], nx := 3 }⟩]
def LIbig_Int_Mul_jod_0 (k : Nat) : LInst := ⟨0, hsbig_Int_Mul_jod_0, osbig_Int_Mul_jod_0, fun x => Lbig_Int_Mul_jod_0 k k x.1 x.2.1 x.2.2.1 x.2.2.2.1 x.2.2.2.2.1 x.2.2.2.2.2.1 x.2.2.2.2.2.2.1 x.2.2.2.2.2.2.2.1 x.2.2.2.2.2.2.2.2⟩
theorem anbig_Int_Mul_jod_0 (k : Nat) : LAll (LOk (R := DS OS.D osbig_Int_Mul_jod_0) (fun b _ σ K => LOt Ty (kps 45) 2 b σ K [LIbig_Int_Mul_jod_2 k]) cf (call cf k) (kps 45) Try.f45.ntmps k 2) 0 (lb Try.f45 0) :=
  And.intro (True.intro) (And.intro (And.intro (True.intro) (True.intro)) (And.intro (And.intro (True.intro) (And.intro (True.intro) (And.intro (And.intro (True.intro) (LOt_ok (c := cf) (callF := call cf k) (kp := kps 45) (nt := Try.f45.ntmps) (k := k) (p := 2) (b := 2) (x0 := lb Try.f45 1) (l := [LIbig_Int_Mul_jod_2 k]) (And.intro (fun _ => lobig_Int_Mul_jod_2 k) (True.intro)))) (True.intro)))) (True.intro)))
theorem stbig_Int_Mul_jod_0 (k n : Nat) (x : DS SS.D hsbig_Int_Mul_jod_0) : Lbig_Int_Mul_jod_0 k (n + 1) x.1 x.2.1 x.2.2.1 x.2.2.2.1 x.2.2.2.2.1 x.2.2.2.2.2.1 x.2.2.2.2.2.2.1 x.2.2.2.2.2.2.2.1 x.2.2.2.2.2.2.2.2 = encSK SS.enc (fun σ => run2 cf (fun f a b K => COt f a b K [Ibig_Int_set_paj k]) (fun b _ σ K => LOt Ty (kps 45) 2 b σ K [LIbig_Int_Mul_jod_2 k]) Try.f45.ntmps 0 (lb Try.f45 0) σ (nextK Ty (kps 45 0) 2 hsbig_Int_Mul_jod_0 osbig_Int_Mul_jod_0 fun x => Lbig_Int_Mul_jod_0 k n x.1 x.2.1 x.2.2.1 x.2.2.2.1 x.2.2.2.2.1 x.2.2.2.2.2.1 x.2.2.2.2.2.2.1 x.2.2.2.2.2.2.2.1 x.2.2.2.2.2.2.2.2)) hsbig_Int_Mul_jod_0 x := by kernel_rfl
theorem lobig_Int_Mul_jod_0 (k : Nat) : LIOk cf (call cf k) (kps 45) Try.f45.ntmps k 2 0 (lb Try.f45 0) (LIbig_Int_Mul_jod_0 k) :=
  loop_ok (c := cf) (callF := call cf k) (kp := kps 45) (nt := Try.f45.ntmps) (k := k) (p := 2) (b := 0) (x0 := lb Try.f45 0) (hs := hsbig_Int_Mul_jod_0) (os := osbig_Int_Mul_jod_0) (COt_ok (albig_Int_Mul_jod k)) (anbig_Int_Mul_jod_0 k) (fun n x => Lbig_Int_Mul_jod_0 k n x.1 x.2.1 x.2.2.1 x.2.2.2.1 x.2.2.2.2.1 x.2.2.2.2.2.1 x.2.2.2.2.2.2.1 x.2.2.2.2.2.2.2.1 x.2.2.2.2.2.2.2.2) (fun _ => rfl) (stbig_Int_Mul_jod_0 k)
theorem anbig_Int_Mul_jod (k : Nat) : LAll (LOk (R := DS FS.D rsbig_Int_Mul_jod) (fun b _ σ K => LOt Ty (kps 45) 2 b σ K [LIbig_Int_Mul_jod_2 k, LIbig_Int_Mul_jod_0 k]) cf (call cf k) (cf.keep 45) Try.f45.ntmps k shbig_Int_Mul_jod.bs.length) 0 (bd Try.f45) :=
  And.intro (True.intro) (And.intro (True.intro) (And.intro (And.intro (True.intro) (LOt_ok (c := cf) (callF := call cf k) (kp := kps 45) (nt := Try.f45.ntmps) (k := k) (p := 2) (b := 0) (x0 := lb Try.f45 0) (l := [LIbig_Int_Mul_jod_2 k, LIbig_Int_Mul_jod_0 k]) (And.intro (fun h => absurd (show (2 : Nat) = 0 from h) (by decide)) (And.intro (fun _ => lobig_Int_Mul_jod_0 k) (True.intro))))) (And.intro (True.intro) (True.intro))))
theorem stbig_Int_Mul_jod (k : Nat) (x : shbig_Int_Mul_jod.D) : Fbig_Int_Mul_jod (k + 1) x.1 x.2.1 x.2.2.1 x.2.2.2 = body2 cf (fun f a b K => COt f a b K [Ibig_Int_set_paj k]) (fun b _ σ K => LOt Ty (kps 45) 2 b σ K [LIbig_Int_Mul_jod_2 k, LIbig_Int_Mul_jod_0 k]) 45 Try.f45.ntmps Try.f45.results.toList (bd Try.f45) (shbig_Int_Mul_jod.enc x).1 (shbig_Int_Mul_jod.enc x).2 (putS FS.dec rsbig_Int_Mul_jod) := by kernel_rfl
theorem okbig_Int_Mul_jod : ∀ k, InstOk (call cf k) (Ibig_Int_Mul_jod k)
  | 0 => fun x y e => absurd (show (none : Option _) = some y from e) (by simp)
  | k + 1 => inst_ok (c := cf) (k := k) (f := 45) (fn := Try.f45) (body := bd Try.f45) (sh := shbig_Int_Mul_jod) (os := rsbig_Int_Mul_jod) rfl Try.func45 rfl ⟨rfl, Nat.le_of_ble_eq_true rfl⟩ (COt_ok (albig_Int_Mul_jod k)) (anbig_Int_Mul_jod k) (fun x => Fbig_Int_Mul_jod (k + 1) x.1 x.2.1 x.2.2.1 x.2.2.2) (stbig_Int_Mul_jod k)

/-! (*shunt/big.Int).Limbs -/
def bbig_Int_Limbs_awf (k : Nat) (z0 : Bool) (z1 : List Int) : Option (Int × Bool × List Int) :=
  (some ((((List.length z1) : Nat) : Int), z0, z1))
def Fbig_Int_Limbs_awf : Nat → Bool → List Int → Option (Int × Bool × List Int)
  | 0, _, _ => none
  | k + 1, z0, z1 => bbig_Int_Limbs_awf k z0 z1
def shbig_Int_Limbs_awf : FS := { vs := [.a (.ptr 0 0 0)], bs := [.raw [[.lf .bool, .lf (.sl (.int .u32))]] 2 78 true false] }
def rsbig_Int_Limbs_awf : List FS := [{ vs := [.a (.lf (.int .i64))], bs := [.raw [[.lf .bool, .lf (.sl (.int .u32))]] 2 78 true false] }]
def Ibig_Int_Limbs_awf (k : Nat) : Inst := ⟨92, shbig_Int_Limbs_awf, rsbig_Int_Limbs_awf, fun x => Fbig_Int_Limbs_awf k x.1 x.2⟩
theorem albig_Int_Limbs_awf (k : Nat) : AllI (call cf k) [] := True.intro
theorem anbig_Int_Limbs_awf (k : Nat) : LAll (LOk (R := DS FS.D rsbig_Int_Limbs_awf) (fun b _ σ K => LOt Ty (kps 92) 1 b σ K []) cf (call cf k) (cf.keep 92) Try.f92.ntmps k shbig_Int_Limbs_awf.bs.length) 0 (bd Try.f92) :=
  And.intro (True.intro) (And.intro (True.intro) (True.intro))
theorem stbig_Int_Limbs_awf (k : Nat) (x : shbig_Int_Limbs_awf.D) : Fbig_Int_Limbs_awf (k + 1) x.1 x.2 = body2 cf (fun f a b K => COt f a b K []) (fun b _ σ K => LOt Ty (kps 92) 1 b σ K []) 92 Try.f92.ntmps Try.f92.results.toList (bd Try.f92) (shbig_Int_Limbs_awf.enc x).1 (shbig_Int_Limbs_awf.enc x).2 (putS FS.dec rsbig_Int_Limbs_awf) := by kernel_rfl
theorem okbig_Int_Limbs_awf : ∀ k, InstOk (call cf k) (Ibig_Int_Limbs_awf k)
  | 0 => fun x y e => absurd (show (none : Option _) = some y from e) (by simp)
  | k + 1 => inst_ok (c := cf) (k := k) (f := 92) (fn := Try.f92) (body := bd Try.f92) (sh := shbig_Int_Limbs_awf) (os := rsbig_Int_Limbs_awf) rfl Try.func92 rfl ⟨rfl, Nat.le_of_ble_eq_true rfl⟩ (COt_ok (albig_Int_Limbs_awf k)) (anbig_Int_Limbs_awf k) (fun x => Fbig_Int_Limbs_awf (k + 1) x.1 x.2) (stbig_Int_Limbs_awf k)

/-! shunt/wide.Limbs -/
def bwide_Limbs_awf (k : Nat) (z0 : Bool) (z1 : List Int) : Option (Int × Bool × List Int) :=
  Option.bind (Fbig_Int_Limbs_awf k z0 z1) fun r17 =>
  (some (r17.1, r17.2.1, r17.2.2))
def Fwide_Limbs_awf : Nat → Bool → List Int → Option (Int × Bool × List Int)
  | 0, _, _ => none
  | k + 1, z0, z1 => bwide_Limbs_awf k z0 z1
def shwide_Limbs_awf : FS := { vs := [.a (.ptr 0 0 0)], bs := [.raw [[.lf .bool, .lf (.sl (.int .u32))]] 2 78 true false] }
def rswide_Limbs_awf : List FS := [{ vs := [.a (.lf (.int .i64))], bs := [.raw [[.lf .bool, .lf (.sl (.int .u32))]] 2 78 true false] }]
def Iwide_Limbs_awf (k : Nat) : Inst := ⟨55, shwide_Limbs_awf, rswide_Limbs_awf, fun x => Fwide_Limbs_awf k x.1 x.2⟩
theorem alwide_Limbs_awf (k : Nat) : AllI (call cf k) [Ibig_Int_Limbs_awf k] := And.intro (okbig_Int_Limbs_awf k) (True.intro)
theorem anwide_Limbs_awf (k : Nat) : LAll (LOk (R := DS FS.D rswide_Limbs_awf) (fun b _ σ K => LOt Ty (kps 55) 1 b σ K []) cf (call cf k) (cf.keep 55) Try.f55.ntmps k shwide_Limbs_awf.bs.length) 0 (bd Try.f55) :=
  And.intro (True.intro) (And.intro (True.intro) (True.intro))
theorem stwide_Limbs_awf (k : Nat) (x : shwide_Limbs_awf.D) : Fwide_Limbs_awf (k + 1) x.1 x.2 = body2 cf (fun f a b K => COt f a b K [Ibig_Int_Limbs_awf k]) (fun b _ σ K => LOt Ty (kps 55) 1 b σ K []) 55 Try.f55.ntmps Try.f55.results.toList (bd Try.f55) (shwide_Limbs_awf.enc x).1 (shwide_Limbs_awf.enc x).2 (putS FS.dec rswide_Limbs_awf) := by kernel_rfl
theorem okwide_Limbs_awf : ∀ k, InstOk (call cf k) (Iwide_Limbs_awf k)
  | 0 => fun x y e => absurd (show (none : Option _) = some y from e) (by simp)
  | k + 1 => inst_ok (c := cf) (k := k) (f := 55) (fn := Try.f55) (body := bd Try.f55) (sh := shwide_Limbs_awf) (os := rswide_Limbs_awf) rfl Try.func55 rfl ⟨rfl, Nat.le_of_ble_eq_true rfl⟩ (COt_ok (alwide_Limbs_awf k)) (anwide_Limbs_awf k) (fun x => Fwide_Limbs_awf (k + 1) x.1 x.2) (stwide_Limbs_awf k)

/-! shunt/rat.Whole -/
def brat_Whole (k : Nat) (r0 : Bool) (r1 : List Int) (r2 : Bool) (r3 : List Int) (by0 : Bool) (by1 : List Int) : Option (Bool × List Int × Int) :=
  Option.bind (Frat_Check k r0 r1 r2 r3) fun r9 =>
  if ((r9 == (10 : Int)) = false) then
    Option.bind (Flimb_Check k by0 by1) fun r10 =>
    if ((r10 != (0 : Int)) = true) then
      (some (false, [], (10 : Int)))
    else
    if ((r9 != (0 : Int)) = true) then
      (some (false, [], r9))
    else
    Option.bind (Fwide_Take k by0 by1) fun r11 =>
    Option.bind (Fwide_Take k r0 r1) fun r12 =>
    Option.bind (Fbig_Int_Mul_jod k r11.1 r11.2 r12.1 r12.2) fun r13 =>
    Option.bind (Fwide_Take k r2 r3) fun r14 =>
    Option.bind (Fbig_Int_QuoRem_gsh k false r13.1 r13.2.1 r14.1 r14.2 false) fun r15 =>
    Option.bind (Fbig_Int_Sign_awf k r15.2.2.2.2.2.2.1 r15.2.2.2.2.2.2.2) fun r16 =>
    if ((r16.1 != (0 : Int)) = true) then
      (some (false, [], (12 : Int)))
    else
    Option.bind (Fwide_Limbs_awf k r15.1 r15.2.1) fun r17 =>
    if ((decide (r17.1 > (72 : Int))) = true) then
      (some (false, [], (13 : Int)))
    else
    Option.bind (Fwide_Give_awf k r17.2.1 r17.2.2) fun r18 =>
    if ((0 + r18.2.1) ≤ (List.length r18.2.2.2.2)) then
      (some (r18.1, (List.take r18.2.1 r18.2.2.2.2), (0 : Int)))
    else
    none
  else
  (some (false, [], (10 : Int)))
def Frat_Whole : Nat → Bool → List Int → Bool → List Int → Bool → List Int → Option (Bool × List Int × Int)
  | 0, _, _, _, _, _, _ => none
  | k + 1, r0, r1, r2, r3, by0, by1 => brat_Whole k r0 r1 r2 r3 by0 by1
def shrat_Whole : FS := { vs := [.g [.lf .bool, .lf (.sl (.int .u32)), .lf .bool, .lf (.sl (.int .u32))], .g [.lf .bool, .lf (.sl (.int .u32))]], bs := [] }
def rsrat_Whole : List FS := [{ vs := [.g [.lf .bool, .lf (.sl (.int .u32))], .a (.lf (.int .i64))], bs := [] }]
def Irat_Whole (k : Nat) : Inst := ⟨20, shrat_Whole, rsrat_Whole, fun x => Frat_Whole k x.1 x.2.1 x.2.2.1 x.2.2.2.1 x.2.2.2.2.1 x.2.2.2.2.2⟩
theorem alrat_Whole (k : Nat) : AllI (call cf k) [Irat_Check k, Ilimb_Check k, Iwide_Take k, Ibig_Int_Mul_jod k, Ibig_Int_QuoRem_gsh k, Ibig_Int_Sign_awf k, Iwide_Limbs_awf k, Iwide_Give_awf k] := And.intro (okrat_Check k) (And.intro (oklimb_Check k) (And.intro (okwide_Take k) (And.intro (okbig_Int_Mul_jod k) (And.intro (okbig_Int_QuoRem_gsh k) (And.intro (okbig_Int_Sign_awf k) (And.intro (okwide_Limbs_awf k) (And.intro (okwide_Give_awf k) (True.intro))))))))
theorem anrat_Whole (k : Nat) : LAll (LOk (R := DS FS.D rsrat_Whole) (fun b _ σ K => LOt Ty (kps 20) 0 b σ K []) cf (call cf k) (cf.keep 20) Try.f20.ntmps k shrat_Whole.bs.length) 0 (bd Try.f20) :=
  And.intro (True.intro) (And.intro (True.intro) (And.intro (And.intro (True.intro) (And.intro (And.intro (True.intro) (True.intro)) (True.intro))) (And.intro (And.intro (True.intro) (And.intro (And.intro (True.intro) (True.intro)) (True.intro))) (And.intro (True.intro) (And.intro (True.intro) (And.intro (And.intro (True.intro) (And.intro (And.intro (True.intro) (True.intro)) (True.intro))) (And.intro (And.intro (True.intro) (And.intro (And.intro (True.intro) (True.intro)) (True.intro))) (And.intro (True.intro) (True.intro)))))))))
theorem strat_Whole (k : Nat) (x : shrat_Whole.D) : Frat_Whole (k + 1) x.1 x.2.1 x.2.2.1 x.2.2.2.1 x.2.2.2.2.1 x.2.2.2.2.2 = body2 cf (fun f a b K => COt f a b K [Irat_Check k, Ilimb_Check k, Iwide_Take k, Ibig_Int_Mul_jod k, Ibig_Int_QuoRem_gsh k, Ibig_Int_Sign_awf k, Iwide_Limbs_awf k, Iwide_Give_awf k]) (fun b _ σ K => LOt Ty (kps 20) 0 b σ K []) 20 Try.f20.ntmps Try.f20.results.toList (bd Try.f20) (shrat_Whole.enc x).1 (shrat_Whole.enc x).2 (putS FS.dec rsrat_Whole) := by kernel_rfl
theorem okrat_Whole : ∀ k, InstOk (call cf k) (Irat_Whole k)
  | 0 => fun x y e => absurd (show (none : Option _) = some y from e) (by simp)
  | k + 1 => inst_ok (c := cf) (k := k) (f := 20) (fn := Try.f20) (body := bd Try.f20) (sh := shrat_Whole) (os := rsrat_Whole) rfl Try.func20 rfl ⟨rfl, Nat.le_of_ble_eq_true rfl⟩ (COt_ok (alrat_Whole k)) (anrat_Whole k) (fun x => Frat_Whole (k + 1) x.1 x.2.1 x.2.2.1 x.2.2.2.1 x.2.2.2.2.1 x.2.2.2.2.2) (strat_Whole k)

/-! shunt/shuntref02.Times -/
def bshuntref02_Times (k : Nat) (a0 : Bool) (a1 : List Int) (a2 : Bool) (a3 : List Int) (b0 : Bool) (b1 : List Int) (b2 : Bool) (b3 : List Int) : Option (Bool × List Int × Bool × List Int) :=
  Option.bind (Fshuntref01_Times k a0 a1 b0 b1) fun r15 =>
  Option.bind (Fshuntref01_Times k a2 a3 b2 b3) fun r16 =>
  Option.bind (Fshuntref02_Lowest k r15.1 r15.2 r16.1 r16.2) fun r17 =>
  (some (r17.1, r17.2.1, r17.2.2.1, r17.2.2.2))
def Fshuntref02_Times : Nat → Bool → List Int → Bool → List Int → Bool → List Int → Bool → List Int → Option (Bool × List Int × Bool × List Int)
  | 0, _, _, _, _, _, _, _, _ => none
  | k + 1, a0, a1, a2, a3, b0, b1, b2, b3 => bshuntref02_Times k a0 a1 a2 a3 b0 b1 b2 b3
def shshuntref02_Times : FS := { vs := [.g [.lf .bool, .lf (.sl (.int .i64)), .lf .bool, .lf (.sl (.int .i64))], .g [.lf .bool, .lf (.sl (.int .i64)), .lf .bool, .lf (.sl (.int .i64))]], bs := [] }
def rsshuntref02_Times : List FS := [{ vs := [.g [.lf .bool, .lf (.sl (.int .i64)), .lf .bool, .lf (.sl (.int .i64))]], bs := [] }]
def Ishuntref02_Times (k : Nat) : Inst := ⟨57, shshuntref02_Times, rsshuntref02_Times, fun x => Fshuntref02_Times k x.1 x.2.1 x.2.2.1 x.2.2.2.1 x.2.2.2.2.1 x.2.2.2.2.2.1 x.2.2.2.2.2.2.1 x.2.2.2.2.2.2.2⟩
theorem alshuntref02_Times (k : Nat) : AllI (call cf k) [Ishuntref01_Times k, Ishuntref02_Lowest k] := And.intro (okshuntref01_Times k) (And.intro (okshuntref02_Lowest k) (True.intro))
theorem anshuntref02_Times (k : Nat) : LAll (LOk (R := DS FS.D rsshuntref02_Times) (fun b _ σ K => LOt Ty (kps 57) 0 b σ K []) cf (call cf k) (cf.keep 57) Try.f57.ntmps k shshuntref02_Times.bs.length) 0 (bd Try.f57) :=
  And.intro (True.intro) (And.intro (True.intro) (True.intro))
theorem stshuntref02_Times (k : Nat) (x : shshuntref02_Times.D) : Fshuntref02_Times (k + 1) x.1 x.2.1 x.2.2.1 x.2.2.2.1 x.2.2.2.2.1 x.2.2.2.2.2.1 x.2.2.2.2.2.2.1 x.2.2.2.2.2.2.2 = body2 cf (fun f a b K => COt f a b K [Ishuntref01_Times k, Ishuntref02_Lowest k]) (fun b _ σ K => LOt Ty (kps 57) 0 b σ K []) 57 Try.f57.ntmps Try.f57.results.toList (bd Try.f57) (shshuntref02_Times.enc x).1 (shshuntref02_Times.enc x).2 (putS FS.dec rsshuntref02_Times) := by kernel_rfl
theorem okshuntref02_Times : ∀ k, InstOk (call cf k) (Ishuntref02_Times k)
  | 0 => fun x y e => absurd (show (none : Option _) = some y from e) (by simp)
  | k + 1 => inst_ok (c := cf) (k := k) (f := 57) (fn := Try.f57) (body := bd Try.f57) (sh := shshuntref02_Times) (os := rsshuntref02_Times) rfl Try.func57 rfl ⟨rfl, Nat.le_of_ble_eq_true rfl⟩ (COt_ok (alshuntref02_Times k)) (anshuntref02_Times k) (fun x => Fshuntref02_Times (k + 1) x.1 x.2.1 x.2.2.1 x.2.2.2.1 x.2.2.2.2.1 x.2.2.2.2.2.1 x.2.2.2.2.2.2.1 x.2.2.2.2.2.2.2) (stshuntref02_Times k)

/-! shunt/shuntref02.Whole -/
def bshuntref02_Whole (k : Nat) (r0 : Bool) (r1 : List Int) (r2 : Bool) (r3 : List Int) (by0 : Bool) (by1 : List Int) : Option (Bool × List Int × Int) :=
  Option.bind (Fshuntref02_Fault k r0 r1 r2 r3) fun r10 =>
  if ((r10 == (10 : Int)) = false) then
    Option.bind (Fshuntref01_Right k by0 by1) fun r11 =>
    if ((!r11) = true) then
      (some (false, [], (10 : Int)))
    else
    if ((r10 != (0 : Int)) = true) then
      (some (false, [], r10))
    else
    Option.bind (Fshuntref02_Take k r0 r1 r2 r3) fun r12 =>
    Option.bind (Fshuntref01_Take k by0 by1) fun r13 =>
    Option.bind (Fshuntref01_Small k (1 : Int)) fun r14 =>
    Option.bind (Fshuntref02_Times k r12.1 r12.2.1 r12.2.2.1 r12.2.2.2 r13.1 r13.2 r14.1 r14.2) fun r15 =>
    Option.bind (Fshuntref01_Small k (1 : Int)) fun r16 =>
    Option.bind (Fshuntref01_Held k r15.2.2.1 r15.2.2.2 r16.1 r16.2) fun r17 =>
    if ((r17 != (0 : Int)) = true) then
      (some (false, [], (12 : Int)))
    else
    Option.bind (Fshuntref01_Length k r15.1 r15.2.1) fun r18 =>
    if ((decide (r18 > (72 : Int))) = true) then
      (some (false, [], (13 : Int)))
    else
    Option.bind (Fshuntref01_Give k r15.1 r15.2.1) fun r19 =>
    (some (r19.1, r19.2, (0 : Int)))
  else
  (some (false, [], (10 : Int)))
def Fshuntref02_Whole : Nat → Bool → List Int → Bool → List Int → Bool → List Int → Option (Bool × List Int × Int)
  | 0, _, _, _, _, _, _ => none
  | k + 1, r0, r1, r2, r3, by0, by1 => bshuntref02_Whole k r0 r1 r2 r3 by0 by1
def shshuntref02_Whole : FS := { vs := [.g [.lf .bool, .lf (.sl (.int .u32)), .lf .bool, .lf (.sl (.int .u32))], .g [.lf .bool, .lf (.sl (.int .u32))]], bs := [] }
def rsshuntref02_Whole : List FS := [{ vs := [.g [.lf .bool, .lf (.sl (.int .u32))], .a (.lf (.int .i64))], bs := [] }]
def Ishuntref02_Whole (k : Nat) : Inst := ⟨21, shshuntref02_Whole, rsshuntref02_Whole, fun x => Fshuntref02_Whole k x.1 x.2.1 x.2.2.1 x.2.2.2.1 x.2.2.2.2.1 x.2.2.2.2.2⟩
theorem alshuntref02_Whole (k : Nat) : AllI (call cf k) [Ishuntref02_Fault k, Ishuntref01_Right k, Ishuntref02_Take k, Ishuntref01_Take k, Ishuntref01_Small k, Ishuntref02_Times k, Ishuntref01_Held k, Ishuntref01_Length k, Ishuntref01_Give k] := And.intro (okshuntref02_Fault k) (And.intro (okshuntref01_Right k) (And.intro (okshuntref02_Take k) (And.intro (okshuntref01_Take k) (And.intro (okshuntref01_Small k) (And.intro (okshuntref02_Times k) (And.intro (okshuntref01_Held k) (And.intro (okshuntref01_Length k) (And.intro (okshuntref01_Give k) (True.intro)))))))))
theorem anshuntref02_Whole (k : Nat) : LAll (LOk (R := DS FS.D rsshuntref02_Whole) (fun b _ σ K => LOt Ty (kps 21) 0 b σ K []) cf (call cf k) (cf.keep 21) Try.f21.ntmps k shshuntref02_Whole.bs.length) 0 (bd Try.f21) :=
  And.intro (True.intro) (And.intro (True.intro) (And.intro (And.intro (True.intro) (And.intro (And.intro (True.intro) (True.intro)) (True.intro))) (And.intro (And.intro (True.intro) (And.intro (And.intro (True.intro) (True.intro)) (True.intro))) (And.intro (True.intro) (And.intro (And.intro (True.intro) (And.intro (And.intro (True.intro) (True.intro)) (True.intro))) (And.intro (And.intro (True.intro) (And.intro (And.intro (True.intro) (True.intro)) (True.intro))) (And.intro (True.intro) (True.intro))))))))
theorem stshuntref02_Whole (k : Nat) (x : shshuntref02_Whole.D) : Fshuntref02_Whole (k + 1) x.1 x.2.1 x.2.2.1 x.2.2.2.1 x.2.2.2.2.1 x.2.2.2.2.2 = body2 cf (fun f a b K => COt f a b K [Ishuntref02_Fault k, Ishuntref01_Right k, Ishuntref02_Take k, Ishuntref01_Take k, Ishuntref01_Small k, Ishuntref02_Times k, Ishuntref01_Held k, Ishuntref01_Length k, Ishuntref01_Give k]) (fun b _ σ K => LOt Ty (kps 21) 0 b σ K []) 21 Try.f21.ntmps Try.f21.results.toList (bd Try.f21) (shshuntref02_Whole.enc x).1 (shshuntref02_Whole.enc x).2 (putS FS.dec rsshuntref02_Whole) := by kernel_rfl
theorem okshuntref02_Whole : ∀ k, InstOk (call cf k) (Ishuntref02_Whole k)
  | 0 => fun x y e => absurd (show (none : Option _) = some y from e) (by simp)
  | k + 1 => inst_ok (c := cf) (k := k) (f := 21) (fn := Try.f21) (body := bd Try.f21) (sh := shshuntref02_Whole) (os := rsshuntref02_Whole) rfl Try.func21 rfl ⟨rfl, Nat.le_of_ble_eq_true rfl⟩ (COt_ok (alshuntref02_Whole k)) (anshuntref02_Whole k) (fun x => Fshuntref02_Whole (k + 1) x.1 x.2.1 x.2.2.1 x.2.2.2.1 x.2.2.2.2.1 x.2.2.2.2.2) (stshuntref02_Whole k)

/-! shunt/shuntlaw02.RatOnes -/
def bshuntlaw02_RatOnes (k : Nat) (num0 : Bool) (num1 : List Int) (den0 : Bool) (den1 : List Int) (r0 : Bool) (r1 : List Int) (r2 : Bool) (r3 : List Int) : Option (Bool) :=
  Option.bind (Fshuntlaw02_awake k) fun r =>
  if ((!r) = true) then
    (some false)
  else
  Option.bind (Fshuntlaw02_long k (List.take 4 ((num0, num1) :: ((den0, den1) :: ((r0, r1) :: ((r2, r3) :: [])))))) fun r4 =>
  if (r4 = true) then
    (some true)
  else
  Option.bind (Frat_Make k num0 num1 den0 den1) fun r5 =>
  Option.bind (Fshuntref02_Make k num0 num1 den0 den1) fun r6 =>
  Option.bind (Frat_Round k r0 r1 r2 r3) fun r7 =>
  Option.bind (Fshuntref02_Round k r0 r1 r2 r3) fun r8 =>
  Option.bind (Frat_Whole k r0 r1 r2 r3 num0 num1) fun r9 =>
  Option.bind (Fshuntref02_Whole k r0 r1 r2 r3 num0 num1) fun r10 =>
  Option.bind (Fshuntlaw02_same k r5.1 r5.2.1 r5.2.2.1 r5.2.2.2.1 r6.1 r6.2.1 r6.2.2.1 r6.2.2.2.1) fun r11 =>
  if (r11 = true) then
    if ((r5.2.2.2.2 == r6.2.2.2.2) = true) then
      if ((r7.1 == r8.1) = true) then
        if ((r7.2 == r8.2) = true) then
          Option.bind (Fshuntref01_Same k r9.1 r9.2.1 r10.1 r10.2.1) fun r12 =>
          if (r12 = true) then
            if ((r9.2.2 == r10.2.2) = true) then
              Option.bind (Frat_Check k r0 r1 r2 r3) fun r13 =>
              Option.bind (Fshuntref02_Fault k r0 r1 r2 r3) fun r14 =>
              (some (r13 == r14))
            else
            (some false)
          else
          (some false)
        else
        (some false)
      else
      (some false)
    else
    (some false)
  else
  (some false)
def Fshuntlaw02_RatOnes : Nat → Bool → List Int → Bool → List Int → Bool → List Int → Bool → List Int → Option (Bool)
  | 0, _, _, _, _, _, _, _, _ => none
  | k + 1, num0, num1, den0, den1, r0, r1, r2, r3 => bshuntlaw02_RatOnes k num0 num1 den0 den1 r0 r1 r2 r3
def shshuntlaw02_RatOnes : FS := { vs := [.g [.lf .bool, .lf (.sl (.int .u32))], .g [.lf .bool, .lf (.sl (.int .u32))], .g [.lf .bool, .lf (.sl (.int .u32)), .lf .bool, .lf (.sl (.int .u32))]], bs := [] }
def rsshuntlaw02_RatOnes : List FS := [{ vs := [.a (.lf .bool)], bs := [] }]
def Ishuntlaw02_RatOnes (k : Nat) : Inst := ⟨4, shshuntlaw02_RatOnes, rsshuntlaw02_RatOnes, fun x => Fshuntlaw02_RatOnes k x.1 x.2.1 x.2.2.1 x.2.2.2.1 x.2.2.2.2.1 x.2.2.2.2.2.1 x.2.2.2.2.2.2.1 x.2.2.2.2.2.2.2⟩
theorem alshuntlaw02_RatOnes (k : Nat) : AllI (call cf k) [Ishuntlaw02_awake k, Ishuntlaw02_long k, Irat_Make k, Ishuntref02_Make k, Irat_Round k, Ishuntref02_Round k, Irat_Whole k, Ishuntref02_Whole k, Ishuntlaw02_same k, Ishuntref01_Same k, Irat_Check k, Ishuntref02_Fault k] := And.intro (okshuntlaw02_awake k) (And.intro (okshuntlaw02_long k) (And.intro (okrat_Make k) (And.intro (okshuntref02_Make k) (And.intro (okrat_Round k) (And.intro (okshuntref02_Round k) (And.intro (okrat_Whole k) (And.intro (okshuntref02_Whole k) (And.intro (okshuntlaw02_same k) (And.intro (okshuntref01_Same k) (And.intro (okrat_Check k) (And.intro (okshuntref02_Fault k) (True.intro))))))))))))
theorem anshuntlaw02_RatOnes (k : Nat) : LAll (LOk (R := DS FS.D rsshuntlaw02_RatOnes) (fun b _ σ K => LOt Ty (kps 4) 0 b σ K []) cf (call cf k) (cf.keep 4) Try.f4.ntmps k shshuntlaw02_RatOnes.bs.length) 0 (bd Try.f4) :=
  And.intro (True.intro) (And.intro (And.intro (True.intro) (And.intro (And.intro (True.intro) (True.intro)) (True.intro))) (And.intro (And.intro (True.intro) (And.intro (And.intro (True.intro) (True.intro)) (True.intro))) (And.intro (True.intro) (And.intro (True.intro) (And.intro (True.intro) (And.intro (True.intro) (And.intro (True.intro) (And.intro (True.intro) (And.intro (True.intro) (True.intro))))))))))
theorem stshuntlaw02_RatOnes (k : Nat) (x : shshuntlaw02_RatOnes.D) : Fshuntlaw02_RatOnes (k + 1) x.1 x.2.1 x.2.2.1 x.2.2.2.1 x.2.2.2.2.1 x.2.2.2.2.2.1 x.2.2.2.2.2.2.1 x.2.2.2.2.2.2.2 = body2 cf (fun f a b K => COt f a b K [Ishuntlaw02_awake k, Ishuntlaw02_long k, Irat_Make k, Ishuntref02_Make k, Irat_Round k, Ishuntref02_Round k, Irat_Whole k, Ishuntref02_Whole k, Ishuntlaw02_same k, Ishuntref01_Same k, Irat_Check k, Ishuntref02_Fault k]) (fun b _ σ K => LOt Ty (kps 4) 0 b σ K []) 4 Try.f4.ntmps Try.f4.results.toList (bd Try.f4) (shshuntlaw02_RatOnes.enc x).1 (shshuntlaw02_RatOnes.enc x).2 (putS FS.dec rsshuntlaw02_RatOnes) := by kernel_rfl
theorem okshuntlaw02_RatOnes : ∀ k, InstOk (call cf k) (Ishuntlaw02_RatOnes k)
  | 0 => fun x y e => absurd (show (none : Option _) = some y from e) (by simp)
  | k + 1 => inst_ok (c := cf) (k := k) (f := 4) (fn := Try.f4) (body := bd Try.f4) (sh := shshuntlaw02_RatOnes) (os := rsshuntlaw02_RatOnes) rfl Try.func4 rfl ⟨rfl, Nat.le_of_ble_eq_true rfl⟩ (COt_ok (alshuntlaw02_RatOnes k)) (anshuntlaw02_RatOnes k) (fun x => Fshuntlaw02_RatOnes (k + 1) x.1 x.2.1 x.2.2.1 x.2.2.2.1 x.2.2.2.2.1 x.2.2.2.2.2.1 x.2.2.2.2.2.2.1 x.2.2.2.2.2.2.2) (stshuntlaw02_RatOnes k)


end
end Go.Proofs.Ytjgpegpjmkgkkaa.Am
