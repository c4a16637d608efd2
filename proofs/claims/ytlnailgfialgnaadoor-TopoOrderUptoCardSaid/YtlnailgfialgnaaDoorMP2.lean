/- Printed functions: each says what the typed machine says of the program -/
import Derived.Test.YtlnailgfialgnaaDoorMP1
import Derived.KernelRfl

set_option linter.unusedVariables false
set_option maxRecDepth 100000
namespace Go.Proofs.YtlnailgfialgnaaDoor.Am
open Go
noncomputable section

/-! shunt/model.Valid -/
def Lmodel_Valid_2s (k : Nat) (rec : List (Int × Int) → List (Int × Int) → Int → List (Int × Int) → Int → Int → ByteArray → Int → List (Int × Int) → List (Int × Int) → Option ((Bool × ByteArray × Int × List (Int × Int) × List (Int × Int) × Int × Int) ⊕ (List (Int × Int) × List (Int × Int) × Int × ByteArray × Int × List (Int × Int) × List (Int × Int)))) (x0 : List (Int × Int)) (x1 : List (Int × Int)) (x : Int) (x2 : List (Int × Int)) (x3 : Int) (x4 : Int) (m0 : ByteArray) (m1 : Int) (m2 : List (Int × Int)) (m3 : List (Int × Int)) : Option ((Bool × ByteArray × Int × List (Int × Int) × List (Int × Int) × Int × Int) ⊕ (List (Int × Int) × List (Int × Int) × Int × ByteArray × Int × List (Int × Int) × List (Int × Int))) :=
  if ((decide (x4 < x3)) = true) then
    if ((0 : Int) ≤ x4) then
      Option.bind (x2)[(Int.toNat x4)]? fun x5 =>
      Option.bind (Fnum_Valid k x5.1 x5.2) fun r8 =>
      if ((!r8) = true) then
        (some (Sum.inl (false, m0, m1, m2, m3, x5.1, x5.2)))
      else
      rec x0 x1 x x2 x3 (IntKind.wrap .i64 (x4 + (1 : Int))) m0 m1 m2 m3
    else
    none
  else
  (some (Sum.inr (x0, x1, x, m0, m1, m2, m3)))
def Lmodel_Valid_2 (k n : Nat) : List (Int × Int) → List (Int × Int) → Int → List (Int × Int) → Int → Int → ByteArray → Int → List (Int × Int) → List (Int × Int) → Option ((Bool × ByteArray × Int × List (Int × Int) × List (Int × Int) × Int × Int) ⊕ (List (Int × Int) × List (Int × Int) × Int × ByteArray × Int × List (Int × Int) × List (Int × Int))) := Nat.rec (fun _ _ _ _ _ _ _ _ _ _ => none) (fun _ r => Lmodel_Valid_2s k r) n
def Lmodel_Valid_0s (k : Nat) (rec : List (Int × Int) → List (Int × Int) → Int → ByteArray → Int → List (Int × Int) → List (Int × Int) → Option ((Bool × ByteArray × Int × List (Int × Int) × List (Int × Int) × Int × Int) ⊕ (ByteArray × Int × List (Int × Int) × List (Int × Int)))) (x0 : List (Int × Int)) (x1 : List (Int × Int)) (x : Int) (m0 : ByteArray) (m1 : Int) (m2 : List (Int × Int)) (m3 : List (Int × Int)) : Option ((Bool × ByteArray × Int × List (Int × Int) × List (Int × Int) × Int × Int) ⊕ (ByteArray × Int × List (Int × Int) × List (Int × Int))) :=
  if ((decide (x < (2 : Int))) = true) then
    if (x = (0 : Int)) then
      Option.bind (Lmodel_Valid_2 k k x0 x1 x x0 (((List.length x0) : Nat) : Int) (0 : Int) m0 m1 m2 m3) fun r8 =>
      eitherK r8
        (fun r8 =>
        (some (Sum.inl (r8.1, r8.2.1, r8.2.2.1, r8.2.2.2.1, r8.2.2.2.2.1, r8.2.2.2.2.2.1, r8.2.2.2.2.2.2))))
        (fun r8 =>
        rec r8.1 r8.2.1 (IntKind.wrap .i64 (r8.2.2.1 + (1 : Int))) r8.2.2.2.1 r8.2.2.2.2.1 r8.2.2.2.2.2.1 r8.2.2.2.2.2.2)
    else
    if ((x - (1 : Int)) = (0 : Int)) then
      Option.bind (Lmodel_Valid_2 k k x0 x1 x x1 (((List.length x1) : Nat) : Int) (0 : Int) m0 m1 m2 m3) fun r8 =>
      eitherK r8
        (fun r8 =>
        (some (Sum.inl (r8.1, r8.2.1, r8.2.2.1, r8.2.2.2.1, r8.2.2.2.2.1, r8.2.2.2.2.2.1, r8.2.2.2.2.2.2))))
        (fun r8 =>
        rec r8.1 r8.2.1 (IntKind.wrap .i64 (r8.2.2.1 + (1 : Int))) r8.2.2.2.1 r8.2.2.2.2.1 r8.2.2.2.2.2.1 r8.2.2.2.2.2.2)
    else
    none
  else
  (some (Sum.inr (m0, m1, m2, m3)))
def Lmodel_Valid_0 (k n : Nat) : List (Int × Int) → List (Int × Int) → Int → ByteArray → Int → List (Int × Int) → List (Int × Int) → Option ((Bool × ByteArray × Int × List (Int × Int) × List (Int × Int) × Int × Int) ⊕ (ByteArray × Int × List (Int × Int) × List (Int × Int))) := Nat.rec (fun _ _ _ _ _ _ _ => none) (fun _ r => Lmodel_Valid_0s k r) n
def Lmodel_Valid_5s (k : Nat) (rec : Int → ByteArray → Int → List (Int × Int) → List (Int × Int) → Option ((Bool × ByteArray × Int × List (Int × Int) × List (Int × Int)) ⊕ (ByteArray × Int × List (Int × Int) × List (Int × Int)))) (i : Int) (m0 : ByteArray) (m1 : Int) (m2 : List (Int × Int)) (m3 : List (Int × Int)) : Option ((Bool × ByteArray × Int × List (Int × Int) × List (Int × Int)) ⊕ (ByteArray × Int × List (Int × Int) × List (Int × Int))) :=
  if ((decide (i < (((List.length m3) : Nat) : Int))) = true) then
    if ((0 : Int) ≤ (IntKind.wrap .i64 (i - (1 : Int)))) then
      Option.bind (m3)[(Int.toNat (IntKind.wrap .i64 (i - (1 : Int))))]? fun x4 =>
      if ((0 : Int) ≤ i) then
        Option.bind (m3)[(Int.toNat i)]? fun x5 =>
        Option.bind (Fnum_Cmp k x4.1 x4.2 x5.1 x5.2) fun r9 =>
        if ((decide (r9.1 ≥ (0 : Int))) = true) then
          (some (Sum.inl (false, m0, m1, m2, m3)))
        else
        rec (IntKind.wrap .i64 (i + (1 : Int))) m0 m1 m2 m3
      else
      none
    else
    none
  else
  (some (Sum.inr (m0, m1, m2, m3)))
def Lmodel_Valid_5 (k n : Nat) : Int → ByteArray → Int → List (Int × Int) → List (Int × Int) → Option ((Bool × ByteArray × Int × List (Int × Int) × List (Int × Int)) ⊕ (ByteArray × Int × List (Int × Int) × List (Int × Int))) := Nat.rec (fun _ _ _ _ _ => none) (fun _ r => Lmodel_Valid_5s k r) n
def bmodel_Valid (k : Nat) (m0 : ByteArray) (m1 : Int) (m2 : List (Int × Int)) (m3 : List (Int × Int)) : Option (Bool) :=
  Option.bind (Fmodel_Name k m0) fun r7 =>
  if ((!r7) = true) then
    (some false)
  else
  Option.bind (Lmodel_Valid_0 k k m2 m3 (0 : Int) m0 m1 m2 m3) fun r8 =>
  eitherK r8
    (fun r8 =>
    (some r8.1))
    (fun r8 =>
    if ((r8.2.1 == (115 : Int)) = true) then
      if (((((List.length r8.2.2.1) : Nat) : Int) == (2 : Int)) = true) then
        (some ((((List.length r8.2.2.2) : Nat) : Int) == (1 : Int)))
      else
      (some false)
    else
    if ((r8.2.1 == (100 : Int)) = true) then
      if ((decide ((((List.length r8.2.2.1) : Nat) : Int) < (1 : Int))) = false) then
        if ((decide ((((List.length r8.2.2.1) : Nat) : Int) > (4 : Int))) = false) then
          if (((((List.length r8.2.2.2) : Nat) : Int) != (IntKind.wrap .i64 ((((List.length r8.2.2.1) : Nat) : Int) - (1 : Int)))) = true) then
            (some false)
          else
          Option.bind (Lmodel_Valid_5 k k (1 : Int) r8.1 r8.2.1 r8.2.2.1 r8.2.2.2) fun r9 =>
          eitherK r9
            (fun r9 =>
            (some r9.1))
            (fun r9 =>
            (some true))
        else
        (some false)
      else
      (some false)
    else
    (some false))
def Fmodel_Valid : Nat → ByteArray → Int → List (Int × Int) → List (Int × Int) → Option (Bool)
  | 0, _, _, _, _ => none
  | k + 1, m0, m1, m2, m3 => bmodel_Valid k m0 m1 m2 m3
def shmodel_Valid : FS := { vs := [.g [.lf .str, .lf (.int .u8), .lf (.sl (.pr (.int .i64) (.int .i64))), .lf (.sl (.pr (.int .i64) (.int .i64)))]], bs := [] }
def rsmodel_Valid : List FS := [{ vs := [.a (.lf .bool)], bs := [] }]
def Imodel_Valid (k : Nat) : Inst := ⟨60, shmodel_Valid, rsmodel_Valid, fun x => Fmodel_Valid k x.1 x.2.1 x.2.2.1 x.2.2.2⟩
theorem almodel_Valid (k : Nat) : AllI (call cf k) [Imodel_Name k, Inum_Valid k, Inum_Cmp k] := And.intro (okmodel_Name k) (And.intro (oknum_Valid k) (And.intro (oknum_Cmp k) (True.intro)))
def hsmodel_Valid_2 : List SS := [{ fr := [(1, .a (.ptr 0 0 0)), (18, .g [.lf (.sl (.pr (.int .i64) (.int .i64))), .lf (.sl (.pr (.int .i64) (.int .i64)))]), (19, .a (.lf (.int .i64))), (22, .a (.lf (.sl (.pr (.int .i64) (.int .i64))))), (23, .a (.lf (.int .i64))), (24, .a (.lf (.int .i64)))], mem := [(0, some (.raw [[.lf .str, .lf (.int .u8), .lf (.sl (.pr (.int .i64) (.int .i64))), .lf (.sl (.pr (.int .i64) (.int .i64)))]] 4 36 true false false))], nx := 1 }]
def osmodel_Valid_2 : List OS := [⟨none, { fr := [(2, .a (.lf .bool))], mem := [(0, some (.raw [[.lf .str, .lf (.int .u8), .lf (.sl (.pr (.int .i64) (.int .i64))), .lf (.sl (.pr (.int .i64) (.int .i64)))]] 4 36 true false false)), (1, some (.raw [[.lf (.int .i64), .lf (.int .i64)]] 2 25 true false false))], nx := 2 }⟩, ⟨some 2, { fr := [(1, .a (.ptr 0 0 0)), (18, .g [.lf (.sl (.pr (.int .i64) (.int .i64))), .lf (.sl (.pr (.int .i64) (.int .i64)))]), (19, .a (.lf (.int .i64)))], mem := [(0, some (.raw [[.lf .str, .lf (.int .u8), .lf (.sl (.pr (.int .i64) (.int .i64))), .lf (.sl (.pr (.int .i64) (.int .i64)))]] 4 36 true false false))], nx := 1 }⟩]
def LImodel_Valid_2 (k : Nat) : LInst := ⟨2, hsmodel_Valid_2, osmodel_Valid_2, fun x => Lmodel_Valid_2 k k x.1 x.2.1 x.2.2.1 x.2.2.2.1 x.2.2.2.2.1 x.2.2.2.2.2.1 x.2.2.2.2.2.2.1 x.2.2.2.2.2.2.2.1 x.2.2.2.2.2.2.2.2.1 x.2.2.2.2.2.2.2.2.2⟩
theorem anmodel_Valid_2 (k : Nat) : LAll (LOk (R := DS OS.D osmodel_Valid_2) (fun b _ σ K => LOt Ty (kps 60) 0 b σ K []) cf (call cf k) (kps 60) Tryd.f60.ntmps k 0) 2 (lb Tryd.f60 1) :=
  And.intro (True.intro) (And.intro (And.intro (True.intro) (True.intro)) (And.intro (And.intro (True.intro) (And.intro (True.intro) (And.intro (And.intro (True.intro) (True.intro)) (True.intro)))) (True.intro)))
theorem stmodel_Valid_2 (k n : Nat) (x : DS SS.D hsmodel_Valid_2) : Lmodel_Valid_2 k (n + 1) x.1 x.2.1 x.2.2.1 x.2.2.2.1 x.2.2.2.2.1 x.2.2.2.2.2.1 x.2.2.2.2.2.2.1 x.2.2.2.2.2.2.2.1 x.2.2.2.2.2.2.2.2.1 x.2.2.2.2.2.2.2.2.2 = encSK SS.enc (fun σ => run2 cf (fun f a b K => COt f a b K [Imodel_Name k, Inum_Valid k, Inum_Cmp k]) (fun b _ σ K => LOt Ty (kps 60) 0 b σ K []) Tryd.f60.ntmps 2 (lb Tryd.f60 1) σ (nextK Ty (kps 60 2) 0 hsmodel_Valid_2 osmodel_Valid_2 fun x => Lmodel_Valid_2 k n x.1 x.2.1 x.2.2.1 x.2.2.2.1 x.2.2.2.2.1 x.2.2.2.2.2.1 x.2.2.2.2.2.2.1 x.2.2.2.2.2.2.2.1 x.2.2.2.2.2.2.2.2.1 x.2.2.2.2.2.2.2.2.2)) hsmodel_Valid_2 x := by kernel_rfl
theorem lomodel_Valid_2 (k : Nat) : LIOk cf (call cf k) (kps 60) Tryd.f60.ntmps k 0 2 (lb Tryd.f60 1) (LImodel_Valid_2 k) :=
  loop_ok (c := cf) (callF := call cf k) (kp := kps 60) (nt := Tryd.f60.ntmps) (k := k) (p := 0) (b := 2) (x0 := lb Tryd.f60 1) (hs := hsmodel_Valid_2) (os := osmodel_Valid_2) (COt_ok (almodel_Valid k)) (anmodel_Valid_2 k) (fun n x => Lmodel_Valid_2 k n x.1 x.2.1 x.2.2.1 x.2.2.2.1 x.2.2.2.2.1 x.2.2.2.2.2.1 x.2.2.2.2.2.2.1 x.2.2.2.2.2.2.2.1 x.2.2.2.2.2.2.2.2.1 x.2.2.2.2.2.2.2.2.2) (fun _ => rfl) (stmodel_Valid_2 k)
def hsmodel_Valid_0 : List SS := [{ fr := [(1, .a (.ptr 0 0 0)), (18, .g [.lf (.sl (.pr (.int .i64) (.int .i64))), .lf (.sl (.pr (.int .i64) (.int .i64)))]), (19, .a (.lf (.int .i64)))], mem := [(0, some (.raw [[.lf .str, .lf (.int .u8), .lf (.sl (.pr (.int .i64) (.int .i64))), .lf (.sl (.pr (.int .i64) (.int .i64)))]] 4 36 true false false))], nx := 1 }]
def osmodel_Valid_0 : List OS := [⟨none, { fr := [(2, .a (.lf .bool))], mem := [(0, some (.raw [[.lf .str, .lf (.int .u8), .lf (.sl (.pr (.int .i64) (.int .i64))), .lf (.sl (.pr (.int .i64) (.int .i64)))]] 4 36 true false false)), (1, some (.raw [[.lf (.int .i64), .lf (.int .i64)]] 2 25 true false false))], nx := 2 }⟩, ⟨some 0, { fr := [(1, .a (.ptr 0 0 0))], mem := [(0, some (.raw [[.lf .str, .lf (.int .u8), .lf (.sl (.pr (.int .i64) (.int .i64))), .lf (.sl (.pr (.int .i64) (.int .i64)))]] 4 36 true false false))], nx := 1 }⟩]
def LImodel_Valid_0 (k : Nat) : LInst := ⟨0, hsmodel_Valid_0, osmodel_Valid_0, fun x => Lmodel_Valid_0 k k x.1 x.2.1 x.2.2.1 x.2.2.2.1 x.2.2.2.2.1 x.2.2.2.2.2.1 x.2.2.2.2.2.2⟩
theorem anmodel_Valid_0 (k : Nat) : LAll (LOk (R := DS OS.D osmodel_Valid_0) (fun b _ σ K => LOt Ty (kps 60) 0 b σ K [LImodel_Valid_2 k]) cf (call cf k) (kps 60) Tryd.f60.ntmps k 0) 0 (lb Tryd.f60 0) :=
  And.intro (True.intro) (And.intro (And.intro (True.intro) (True.intro)) (And.intro (And.intro (True.intro) (And.intro (True.intro) (LOt_ok (c := cf) (callF := call cf k) (kp := kps 60) (nt := Tryd.f60.ntmps) (k := k) (p := 0) (b := 2) (x0 := lb Tryd.f60 1) (l := [LImodel_Valid_2 k]) (And.intro (fun _ => lomodel_Valid_2 k) (True.intro))))) (True.intro)))
theorem stmodel_Valid_0 (k n : Nat) (x : DS SS.D hsmodel_Valid_0) : Lmodel_Valid_0 k (n + 1) x.1 x.2.1 x.2.2.1 x.2.2.2.1 x.2.2.2.2.1 x.2.2.2.2.2.1 x.2.2.2.2.2.2 = encSK SS.enc (fun σ => run2 cf (fun f a b K => COt f a b K [Imodel_Name k, Inum_Valid k, Inum_Cmp k]) (fun b _ σ K => LOt Ty (kps 60) 0 b σ K [LImodel_Valid_2 k]) Tryd.f60.ntmps 0 (lb Tryd.f60 0) σ (nextK Ty (kps 60 0) 0 hsmodel_Valid_0 osmodel_Valid_0 fun x => Lmodel_Valid_0 k n x.1 x.2.1 x.2.2.1 x.2.2.2.1 x.2.2.2.2.1 x.2.2.2.2.2.1 x.2.2.2.2.2.2)) hsmodel_Valid_0 x := by kernel_rfl
theorem lomodel_Valid_0 (k : Nat) : LIOk cf (call cf k) (kps 60) Tryd.f60.ntmps k 0 0 (lb Tryd.f60 0) (LImodel_Valid_0 k) :=
  loop_ok (c := cf) (callF := call cf k) (kp := kps 60) (nt := Tryd.f60.ntmps) (k := k) (p := 0) (b := 0) (x0 := lb Tryd.f60 0) (hs := hsmodel_Valid_0) (os := osmodel_Valid_0) (COt_ok (almodel_Valid k)) (anmodel_Valid_0 k) (fun n x => Lmodel_Valid_0 k n x.1 x.2.1 x.2.2.1 x.2.2.2.1 x.2.2.2.2.1 x.2.2.2.2.2.1 x.2.2.2.2.2.2) (fun _ => rfl) (stmodel_Valid_0 k)
def hsmodel_Valid_5 : List SS := [{ fr := [(1, .a (.ptr 0 0 0)), (7, .a (.lf (.int .i64)))], mem := [(0, some (.raw [[.lf .str, .lf (.int .u8), .lf (.sl (.pr (.int .i64) (.int .i64))), .lf (.sl (.pr (.int .i64) (.int .i64)))]] 4 36 true false false))], nx := 1 }]
def osmodel_Valid_5 : List OS := [⟨none, { fr := [(2, .a (.lf .bool))], mem := [(0, some (.raw [[.lf .str, .lf (.int .u8), .lf (.sl (.pr (.int .i64) (.int .i64))), .lf (.sl (.pr (.int .i64) (.int .i64)))]] 4 36 true false false))], nx := 1 }⟩, ⟨some 5, { fr := [], mem := [(0, some (.raw [[.lf .str, .lf (.int .u8), .lf (.sl (.pr (.int .i64) (.int .i64))), .lf (.sl (.pr (.int .i64) (.int .i64)))]] 4 36 true false false))], nx := 1 }⟩]
def LImodel_Valid_5 (k : Nat) : LInst := ⟨5, hsmodel_Valid_5, osmodel_Valid_5, fun x => Lmodel_Valid_5 k k x.1 x.2.1 x.2.2.1 x.2.2.2.1 x.2.2.2.2⟩
theorem anmodel_Valid_5 (k : Nat) : LAll (LOk (R := DS OS.D osmodel_Valid_5) (fun b _ σ K => LOt Ty (kps 60) 0 b σ K [LImodel_Valid_2 k, LImodel_Valid_0 k]) cf (call cf k) (kps 60) Tryd.f60.ntmps k 0) 5 (lb Tryd.f60 2) :=
  And.intro (And.intro (True.intro) (And.intro (True.intro) (True.intro))) (And.intro (And.intro (True.intro) (And.intro (True.intro) (And.intro (And.intro (True.intro) (True.intro)) (True.intro)))) (True.intro))
theorem stmodel_Valid_5 (k n : Nat) (x : DS SS.D hsmodel_Valid_5) : Lmodel_Valid_5 k (n + 1) x.1 x.2.1 x.2.2.1 x.2.2.2.1 x.2.2.2.2 = encSK SS.enc (fun σ => run2 cf (fun f a b K => COt f a b K [Imodel_Name k, Inum_Valid k, Inum_Cmp k]) (fun b _ σ K => LOt Ty (kps 60) 0 b σ K [LImodel_Valid_2 k, LImodel_Valid_0 k]) Tryd.f60.ntmps 5 (lb Tryd.f60 2) σ (nextK Ty (kps 60 5) 0 hsmodel_Valid_5 osmodel_Valid_5 fun x => Lmodel_Valid_5 k n x.1 x.2.1 x.2.2.1 x.2.2.2.1 x.2.2.2.2)) hsmodel_Valid_5 x := by kernel_rfl
theorem lomodel_Valid_5 (k : Nat) : LIOk cf (call cf k) (kps 60) Tryd.f60.ntmps k 0 5 (lb Tryd.f60 2) (LImodel_Valid_5 k) :=
  loop_ok (c := cf) (callF := call cf k) (kp := kps 60) (nt := Tryd.f60.ntmps) (k := k) (p := 0) (b := 5) (x0 := lb Tryd.f60 2) (hs := hsmodel_Valid_5) (os := osmodel_Valid_5) (COt_ok (almodel_Valid k)) (anmodel_Valid_5 k) (fun n x => Lmodel_Valid_5 k n x.1 x.2.1 x.2.2.1 x.2.2.2.1 x.2.2.2.2) (fun _ => rfl) (stmodel_Valid_5 k)
theorem anmodel_Valid (k : Nat) : LAll (LOk (R := DS FS.D rsmodel_Valid) (fun b _ σ K => LOt Ty (kps 60) 0 b σ K [LImodel_Valid_2 k, LImodel_Valid_0 k, LImodel_Valid_5 k]) cf (call cf k) (cf.keep 60) Tryd.f60.ntmps k shmodel_Valid.bs.length) 0 (bd Tryd.f60) :=
  And.intro (True.intro) (And.intro (And.intro (True.intro) (And.intro (And.intro (True.intro) (True.intro)) (True.intro))) (And.intro (And.intro (True.intro) (LOt_ok (c := cf) (callF := call cf k) (kp := kps 60) (nt := Tryd.f60.ntmps) (k := k) (p := 0) (b := 0) (x0 := lb Tryd.f60 0) (l := [LImodel_Valid_2 k, LImodel_Valid_0 k, LImodel_Valid_5 k]) (And.intro (fun h => absurd (show (2 : Nat) = 0 from h) (by decide)) (And.intro (fun _ => lomodel_Valid_0 k) (And.intro (fun h => absurd (show (5 : Nat) = 0 from h) (by decide)) (True.intro)))))) (And.intro (And.intro (True.intro) (And.intro (True.intro) (And.intro (And.intro (True.intro) (True.intro)) (And.intro (True.intro) (And.intro (And.intro (And.intro (True.intro) (And.intro (And.intro (True.intro) (True.intro)) (True.intro))) (And.intro (And.intro (True.intro) (LOt_ok (c := cf) (callF := call cf k) (kp := kps 60) (nt := Tryd.f60.ntmps) (k := k) (p := 0) (b := 5) (x0 := lb Tryd.f60 2) (l := [LImodel_Valid_2 k, LImodel_Valid_0 k, LImodel_Valid_5 k]) (And.intro (fun h => absurd (show (2 : Nat) = 5 from h) (by decide)) (And.intro (fun h => absurd (show (0 : Nat) = 5 from h) (by decide)) (And.intro (fun _ => lomodel_Valid_5 k) (True.intro)))))) (And.intro (True.intro) (True.intro)))) (True.intro)))))) (And.intro (True.intro) (True.intro)))))
theorem stmodel_Valid (k : Nat) (x : shmodel_Valid.D) : Fmodel_Valid (k + 1) x.1 x.2.1 x.2.2.1 x.2.2.2 = body2 cf (fun f a b K => COt f a b K [Imodel_Name k, Inum_Valid k, Inum_Cmp k]) (fun b _ σ K => LOt Ty (kps 60) 0 b σ K [LImodel_Valid_2 k, LImodel_Valid_0 k, LImodel_Valid_5 k]) 60 Tryd.f60.ntmps Tryd.f60.results.toList (bd Tryd.f60) (shmodel_Valid.enc x).1 (shmodel_Valid.enc x).2 (putS FS.dec rsmodel_Valid) := by kernel_rfl
theorem okmodel_Valid : ∀ k, InstOk (call cf k) (Imodel_Valid k)
  | 0 => fun x y e => absurd (show (none : Option _) = some y from e) (by simp)
  | k + 1 => inst_ok (c := cf) (k := k) (f := 60) (fn := Tryd.f60) (body := bd Tryd.f60) (sh := shmodel_Valid) (os := rsmodel_Valid) rfl Tryd.func60 rfl ⟨rfl, Nat.le_of_ble_eq_true rfl⟩ (COt_ok (almodel_Valid k)) (anmodel_Valid k) (fun x => Fmodel_Valid (k + 1) x.1 x.2.1 x.2.2.1 x.2.2.2) (stmodel_Valid k)

/-! shunt/flat.right -/
def Lflat_right_0s (k : Nat) (rec : List Int → Int → Int → List ByteArray → List (Int × ByteArray × List Int × Int × (Int × Int) × (Int × List (Int × Int) × List Int) × ByteArray × Int × List (Int × Int) × List (Int × Int)) → Int → Int → Int → Int → ByteArray → List Int → Int → Int → Int → Int → List (Int × Int) → List Int → ByteArray → Int → List (Int × Int) → List (Int × Int) → Option ((Bool × List ByteArray × List (Int × ByteArray × List Int × Int × (Int × Int) × (Int × List (Int × Int) × List Int) × ByteArray × Int × List (Int × Int) × List (Int × Int)) × Int × Int × Int × Int × ByteArray × List Int × Int × Int × Int × Int × List (Int × Int) × List Int × ByteArray × Int × List (Int × Int) × List (Int × Int)) ⊕ (List ByteArray × List (Int × ByteArray × List Int × Int × (Int × Int) × (Int × List (Int × Int) × List Int) × ByteArray × Int × List (Int × Int) × List (Int × Int)) × Int × Int × Int × Int × ByteArray × List Int × Int × Int × Int × Int × List (Int × Int) × List Int × ByteArray × Int × List (Int × Int) × List (Int × Int)))) (x : List Int) (x1 : Int) (x2 : Int) (f0 : List ByteArray) (f1 : List (Int × ByteArray × List Int × Int × (Int × Int) × (Int × List (Int × Int) × List Int) × ByteArray × Int × List (Int × Int) × List (Int × Int))) (f2 : Int) (f3 : Int) (f4 : Int) (d0 : Int) (d1 : ByteArray) (d2 : List Int) (d3 : Int) (d4 : Int) (d5 : Int) (d6 : Int) (d7 : List (Int × Int)) (d8 : List Int) (d9 : ByteArray) (d10 : Int) (d11 : List (Int × Int)) (d12 : List (Int × Int)) : Option ((Bool × List ByteArray × List (Int × ByteArray × List Int × Int × (Int × Int) × (Int × List (Int × Int) × List Int) × ByteArray × Int × List (Int × Int) × List (Int × Int)) × Int × Int × Int × Int × ByteArray × List Int × Int × Int × Int × Int × List (Int × Int) × List Int × ByteArray × Int × List (Int × Int) × List (Int × Int)) ⊕ (List ByteArray × List (Int × ByteArray × List Int × Int × (Int × Int) × (Int × List (Int × Int) × List Int) × ByteArray × Int × List (Int × Int) × List (Int × Int)) × Int × Int × Int × Int × ByteArray × List Int × Int × Int × Int × Int × List (Int × Int) × List Int × ByteArray × Int × List (Int × Int) × List (Int × Int))) :=
  if ((decide (x2 < x1)) = true) then
    if ((0 : Int) ≤ x2) then
      Option.bind (x)[(Int.toNat x2)]? fun x4 =>
      if ((decide (x4 < (0 : Int))) = false) then
        if ((decide (x4 ≥ (((List.length f0) : Nat) : Int))) = true) then
          (some (Sum.inl (false, f0, f1, f2, f3, f4, d0, d1, d2, d3, d4, d5, d6, d7, d8, d9, d10, d11, d12)))
        else
        rec x x1 (IntKind.wrap .i64 (x2 + (1 : Int))) f0 f1 f2 f3 f4 d0 d1 d2 d3 d4 d5 d6 d7 d8 d9 d10 d11 d12
      else
      (some (Sum.inl (false, f0, f1, f2, f3, f4, d0, d1, d2, d3, d4, d5, d6, d7, d8, d9, d10, d11, d12)))
    else
    none
  else
  (some (Sum.inr (f0, f1, f2, f3, f4, d0, d1, d2, d3, d4, d5, d6, d7, d8, d9, d10, d11, d12)))
def Lflat_right_0 (k n : Nat) : List Int → Int → Int → List ByteArray → List (Int × ByteArray × List Int × Int × (Int × Int) × (Int × List (Int × Int) × List Int) × ByteArray × Int × List (Int × Int) × List (Int × Int)) → Int → Int → Int → Int → ByteArray → List Int → Int → Int → Int → Int → List (Int × Int) → List Int → ByteArray → Int → List (Int × Int) → List (Int × Int) → Option ((Bool × List ByteArray × List (Int × ByteArray × List Int × Int × (Int × Int) × (Int × List (Int × Int) × List Int) × ByteArray × Int × List (Int × Int) × List (Int × Int)) × Int × Int × Int × Int × ByteArray × List Int × Int × Int × Int × Int × List (Int × Int) × List Int × ByteArray × Int × List (Int × Int) × List (Int × Int)) ⊕ (List ByteArray × List (Int × ByteArray × List Int × Int × (Int × Int) × (Int × List (Int × Int) × List Int) × ByteArray × Int × List (Int × Int) × List (Int × Int)) × Int × Int × Int × Int × ByteArray × List Int × Int × Int × Int × Int × List (Int × Int) × List Int × ByteArray × Int × List (Int × Int) × List (Int × Int))) := Nat.rec (fun _ _ _ _ _ _ _ _ _ _ _ _ _ _ _ _ _ _ _ _ _ => none) (fun _ r => Lflat_right_0s k r) n
def bflat_right (k : Nat) (f0 : List ByteArray) (f1 : List (Int × ByteArray × List Int × Int × (Int × Int) × (Int × List (Int × Int) × List Int) × ByteArray × Int × List (Int × Int) × List (Int × Int))) (f2 : Int) (f3 : Int) (f4 : Int) (d0 : Int) (d1 : ByteArray) (d2 : List Int) (d3 : Int) (d4 : Int) (d5 : Int) (d6 : Int) (d7 : List (Int × Int)) (d8 : List Int) (d9 : ByteArray) (d10 : Int) (d11 : List (Int × Int)) (d12 : List (Int × Int)) : Option (Bool) :=
  if (((mapG (.int .u8) (.int .i64) (mapS (.int .u8) (.int .i64) (mapS (.int .u8) (.int .i64) (mapS (.int .u8) (.int .i64) (mapS (.int .u8) (.int .i64) (mapS (.int .u8) (.int .i64) (mapS (.int .u8) (.int .i64) (mapS (.int .u8) (.int .i64) (mapS (.int .u8) (.int .i64) (mapS (.int .u8) (.int .i64) (mapS (.int .u8) (.int .i64) (mapS (.int .u8) (.int .i64) (mapS (.int .u8) (.int .i64) [] (114 : Int) (2 : Int)) (99 : Int) (2 : Int)) (108 : Int) (2 : Int)) (118 : Int) (2 : Int)) (105 : Int) (2 : Int)) (101 : Int) (4 : Int)) (103 : Int) (4 : Int)) (102 : Int) (2 : Int)) (104 : Int) (2 : Int)) (116 : Int) (4 : Int)) (100 : Int) (2 : Int)) (115 : Int) (4 : Int)) d0 (0 : Int)) == (0 : Int)) = false) then
    if (((((List.length d2) : Nat) : Int) != (mapG (.int .u8) (.int .i64) (mapS (.int .u8) (.int .i64) (mapS (.int .u8) (.int .i64) (mapS (.int .u8) (.int .i64) (mapS (.int .u8) (.int .i64) (mapS (.int .u8) (.int .i64) (mapS (.int .u8) (.int .i64) (mapS (.int .u8) (.int .i64) (mapS (.int .u8) (.int .i64) (mapS (.int .u8) (.int .i64) (mapS (.int .u8) (.int .i64) (mapS (.int .u8) (.int .i64) (mapS (.int .u8) (.int .i64) [] (114 : Int) (2 : Int)) (99 : Int) (2 : Int)) (108 : Int) (2 : Int)) (118 : Int) (2 : Int)) (105 : Int) (2 : Int)) (101 : Int) (4 : Int)) (103 : Int) (4 : Int)) (102 : Int) (2 : Int)) (104 : Int) (2 : Int)) (116 : Int) (4 : Int)) (100 : Int) (2 : Int)) (115 : Int) (4 : Int)) d0 (0 : Int))) = false) then
      Option.bind (Fflat_long k d1) fun r4 =>
      if ((!r4) = true) then
        (some false)
      else
      Option.bind (Lflat_right_0 k k d2 (((List.length d2) : Nat) : Int) (0 : Int) f0 f1 f2 f3 f4 d0 d1 d2 d3 d4 d5 d6 d7 d8 d9 d10 d11 d12) fun r5 =>
      eitherK r5
        (fun r5 =>
        (some r5.1))
        (fun r5 =>
        if ((r5.2.2.2.2.2.1 == (118 : Int)) = true) then
          Option.bind (Fwave_Valid k r5.2.2.2.2.2.2.2.2.2.2.2.1 r5.2.2.2.2.2.2.2.2.2.2.2.2.1 r5.2.2.2.2.2.2.2.2.2.2.2.2.2.1) fun r6 =>
          if (r6 = true) then
            if ((r5.2.2.2.2.2.2.2.2.2.1 == (0 : Int)) = true) then
              if ((r5.2.2.2.2.2.2.2.2.2.2.1 == (0 : Int)) = true) then
                Option.bind (Fflat_noModel k r5.2.2.2.2.2.2.2.2.2.2.2.2.2.2.1 r5.2.2.2.2.2.2.2.2.2.2.2.2.2.2.2.1 r5.2.2.2.2.2.2.2.2.2.2.2.2.2.2.2.2.1 r5.2.2.2.2.2.2.2.2.2.2.2.2.2.2.2.2.2) fun r7 =>
                if (r7 = true) then
                  (some (r5.2.2.2.2.2.2.2.2.1 == (0 : Int)))
                else
                (some false)
              else
              (some false)
            else
            (some false)
          else
          (some false)
        else
        if ((r5.2.2.2.2.2.1 == (105 : Int)) = true) then
          Option.bind (Fwave_Valid k r5.2.2.2.2.2.2.2.2.2.2.2.1 r5.2.2.2.2.2.2.2.2.2.2.2.2.1 r5.2.2.2.2.2.2.2.2.2.2.2.2.2.1) fun r6 =>
          if (r6 = true) then
            if ((r5.2.2.2.2.2.2.2.2.2.1 == (0 : Int)) = true) then
              if ((r5.2.2.2.2.2.2.2.2.2.2.1 == (0 : Int)) = true) then
                Option.bind (Fflat_noModel k r5.2.2.2.2.2.2.2.2.2.2.2.2.2.2.1 r5.2.2.2.2.2.2.2.2.2.2.2.2.2.2.2.1 r5.2.2.2.2.2.2.2.2.2.2.2.2.2.2.2.2.1 r5.2.2.2.2.2.2.2.2.2.2.2.2.2.2.2.2.2) fun r7 =>
                if (r7 = true) then
                  (some (r5.2.2.2.2.2.2.2.2.1 == (0 : Int)))
                else
                (some false)
              else
              (some false)
            else
            (some false)
          else
          (some false)
        else
        if ((r5.2.2.2.2.2.1 == (100 : Int)) = true) then
          Option.bind (Fflat_noWave k r5.2.2.2.2.2.2.2.2.2.2.2.1 r5.2.2.2.2.2.2.2.2.2.2.2.2.1 r5.2.2.2.2.2.2.2.2.2.2.2.2.2.1) fun r6 =>
          if (r6 = true) then
            if ((r5.2.2.2.2.2.2.2.2.2.1 == (0 : Int)) = true) then
              if ((r5.2.2.2.2.2.2.2.2.2.2.1 == (0 : Int)) = true) then
                Option.bind (Fmodel_Valid k r5.2.2.2.2.2.2.2.2.2.2.2.2.2.2.1 r5.2.2.2.2.2.2.2.2.2.2.2.2.2.2.2.1 r5.2.2.2.2.2.2.2.2.2.2.2.2.2.2.2.2.1 r5.2.2.2.2.2.2.2.2.2.2.2.2.2.2.2.2.2) fun r7 =>
                if (r7 = true) then
                  if ((r5.2.2.2.2.2.2.2.2.2.2.2.2.2.2.2.1 == r5.2.2.2.2.2.1) = true) then
                    (some (r5.2.2.2.2.2.2.2.2.1 == (0 : Int)))
                  else
                  (some false)
                else
                (some false)
              else
              (some false)
            else
            (some false)
          else
          (some false)
        else
        if ((r5.2.2.2.2.2.1 == (115 : Int)) = true) then
          Option.bind (Fflat_noWave k r5.2.2.2.2.2.2.2.2.2.2.2.1 r5.2.2.2.2.2.2.2.2.2.2.2.2.1 r5.2.2.2.2.2.2.2.2.2.2.2.2.2.1) fun r6 =>
          if (r6 = true) then
            if ((r5.2.2.2.2.2.2.2.2.2.1 == (0 : Int)) = true) then
              if ((r5.2.2.2.2.2.2.2.2.2.2.1 == (0 : Int)) = true) then
                Option.bind (Fmodel_Valid k r5.2.2.2.2.2.2.2.2.2.2.2.2.2.2.1 r5.2.2.2.2.2.2.2.2.2.2.2.2.2.2.2.1 r5.2.2.2.2.2.2.2.2.2.2.2.2.2.2.2.2.1 r5.2.2.2.2.2.2.2.2.2.2.2.2.2.2.2.2.2) fun r7 =>
                if (r7 = true) then
                  if ((r5.2.2.2.2.2.2.2.2.2.2.2.2.2.2.2.1 == r5.2.2.2.2.2.1) = true) then
                    (some (r5.2.2.2.2.2.2.2.2.1 == (0 : Int)))
                  else
                  (some false)
                else
                (some false)
              else
              (some false)
            else
            (some false)
          else
          (some false)
        else
        if ((r5.2.2.2.2.2.1 == (102 : Int)) = true) then
          if ((decide (r5.2.2.2.2.2.2.2.2.1 < (0 : Int))) = false) then
            if ((decide (r5.2.2.2.2.2.2.2.2.1 ≥ (((List.length r5.2.1) : Nat) : Int))) = false) then
              if ((0 : Int) ≤ r5.2.2.2.2.2.2.2.2.1) then
                Option.bind (r5.2.1)[(Int.toNat r5.2.2.2.2.2.2.2.2.1)]? fun x4 =>
                if ((x4.1 != (118 : Int)) = true) then
                  (some false)
                else
                if ((r5.2.2.2.2.2.1 == (114 : Int)) = false) then
                  if ((r5.2.2.2.2.2.1 == (99 : Int)) = false) then
                    Option.bind (Fnum_Valid k r5.2.2.2.2.2.2.2.2.2.1 r5.2.2.2.2.2.2.2.2.2.2.1) fun r6 =>
                    if (r6 = true) then
                      if ((r5.2.2.2.2.2.2.2.2.2.1 != (0 : Int)) = false) then
                        if ((!(r5.2.2.2.2.2.1 == (108 : Int))) = true) then
                          Option.bind (Fflat_noWave k r5.2.2.2.2.2.2.2.2.2.2.2.1 r5.2.2.2.2.2.2.2.2.2.2.2.2.1 r5.2.2.2.2.2.2.2.2.2.2.2.2.2.1) fun r7 =>
                          if (r7 = true) then
                            Option.bind (Fflat_noModel k r5.2.2.2.2.2.2.2.2.2.2.2.2.2.2.1 r5.2.2.2.2.2.2.2.2.2.2.2.2.2.2.2.1 r5.2.2.2.2.2.2.2.2.2.2.2.2.2.2.2.2.1 r5.2.2.2.2.2.2.2.2.2.2.2.2.2.2.2.2.2) fun r8 =>
                            (some r8)
                          else
                          (some false)
                        else
                        (some false)
                      else
                      Option.bind (Fflat_noWave k r5.2.2.2.2.2.2.2.2.2.2.2.1 r5.2.2.2.2.2.2.2.2.2.2.2.2.1 r5.2.2.2.2.2.2.2.2.2.2.2.2.2.1) fun r7 =>
                      if (r7 = true) then
                        Option.bind (Fflat_noModel k r5.2.2.2.2.2.2.2.2.2.2.2.2.2.2.1 r5.2.2.2.2.2.2.2.2.2.2.2.2.2.2.2.1 r5.2.2.2.2.2.2.2.2.2.2.2.2.2.2.2.2.1 r5.2.2.2.2.2.2.2.2.2.2.2.2.2.2.2.2.2) fun r8 =>
                        (some r8)
                      else
                      (some false)
                    else
                    (some false)
                  else
                  Option.bind (Fnum_Valid k r5.2.2.2.2.2.2.2.2.2.1 r5.2.2.2.2.2.2.2.2.2.2.1) fun r6 =>
                  if (r6 = true) then
                    if ((r5.2.2.2.2.2.2.2.2.2.1 != (0 : Int)) = false) then
                      (some false)
                    else
                    Option.bind (Fflat_noWave k r5.2.2.2.2.2.2.2.2.2.2.2.1 r5.2.2.2.2.2.2.2.2.2.2.2.2.1 r5.2.2.2.2.2.2.2.2.2.2.2.2.2.1) fun r7 =>
                    if (r7 = true) then
                      Option.bind (Fflat_noModel k r5.2.2.2.2.2.2.2.2.2.2.2.2.2.2.1 r5.2.2.2.2.2.2.2.2.2.2.2.2.2.2.2.1 r5.2.2.2.2.2.2.2.2.2.2.2.2.2.2.2.2.1 r5.2.2.2.2.2.2.2.2.2.2.2.2.2.2.2.2.2) fun r8 =>
                      (some r8)
                    else
                    (some false)
                  else
                  (some false)
                else
                Option.bind (Fnum_Valid k r5.2.2.2.2.2.2.2.2.2.1 r5.2.2.2.2.2.2.2.2.2.2.1) fun r6 =>
                if (r6 = true) then
                  if ((r5.2.2.2.2.2.2.2.2.2.1 != (0 : Int)) = false) then
                    (some false)
                  else
                  Option.bind (Fflat_noWave k r5.2.2.2.2.2.2.2.2.2.2.2.1 r5.2.2.2.2.2.2.2.2.2.2.2.2.1 r5.2.2.2.2.2.2.2.2.2.2.2.2.2.1) fun r7 =>
                  if (r7 = true) then
                    Option.bind (Fflat_noModel k r5.2.2.2.2.2.2.2.2.2.2.2.2.2.2.1 r5.2.2.2.2.2.2.2.2.2.2.2.2.2.2.2.1 r5.2.2.2.2.2.2.2.2.2.2.2.2.2.2.2.2.1 r5.2.2.2.2.2.2.2.2.2.2.2.2.2.2.2.2.2) fun r8 =>
                    (some r8)
                  else
                  (some false)
                else
                (some false)
              else
              none
            else
            (some false)
          else
          (some false)
        else
        if ((r5.2.2.2.2.2.1 == (104 : Int)) = true) then
          if ((decide (r5.2.2.2.2.2.2.2.2.1 < (0 : Int))) = false) then
            if ((decide (r5.2.2.2.2.2.2.2.2.1 ≥ (((List.length r5.2.1) : Nat) : Int))) = false) then
              if ((0 : Int) ≤ r5.2.2.2.2.2.2.2.2.1) then
                Option.bind (r5.2.1)[(Int.toNat r5.2.2.2.2.2.2.2.2.1)]? fun x4 =>
                if ((x4.1 != (118 : Int)) = true) then
                  (some false)
                else
                if ((r5.2.2.2.2.2.1 == (114 : Int)) = false) then
                  if ((r5.2.2.2.2.2.1 == (99 : Int)) = false) then
                    Option.bind (Fnum_Valid k r5.2.2.2.2.2.2.2.2.2.1 r5.2.2.2.2.2.2.2.2.2.2.1) fun r6 =>
                    if (r6 = true) then
                      if ((r5.2.2.2.2.2.2.2.2.2.1 != (0 : Int)) = false) then
                        if ((!(r5.2.2.2.2.2.1 == (108 : Int))) = true) then
                          Option.bind (Fflat_noWave k r5.2.2.2.2.2.2.2.2.2.2.2.1 r5.2.2.2.2.2.2.2.2.2.2.2.2.1 r5.2.2.2.2.2.2.2.2.2.2.2.2.2.1) fun r7 =>
                          if (r7 = true) then
                            Option.bind (Fflat_noModel k r5.2.2.2.2.2.2.2.2.2.2.2.2.2.2.1 r5.2.2.2.2.2.2.2.2.2.2.2.2.2.2.2.1 r5.2.2.2.2.2.2.2.2.2.2.2.2.2.2.2.2.1 r5.2.2.2.2.2.2.2.2.2.2.2.2.2.2.2.2.2) fun r8 =>
                            (some r8)
                          else
                          (some false)
                        else
                        (some false)
                      else
                      Option.bind (Fflat_noWave k r5.2.2.2.2.2.2.2.2.2.2.2.1 r5.2.2.2.2.2.2.2.2.2.2.2.2.1 r5.2.2.2.2.2.2.2.2.2.2.2.2.2.1) fun r7 =>
                      if (r7 = true) then
                        Option.bind (Fflat_noModel k r5.2.2.2.2.2.2.2.2.2.2.2.2.2.2.1 r5.2.2.2.2.2.2.2.2.2.2.2.2.2.2.2.1 r5.2.2.2.2.2.2.2.2.2.2.2.2.2.2.2.2.1 r5.2.2.2.2.2.2.2.2.2.2.2.2.2.2.2.2.2) fun r8 =>
                        (some r8)
                      else
                      (some false)
                    else
                    (some false)
                  else
                  Option.bind (Fnum_Valid k r5.2.2.2.2.2.2.2.2.2.1 r5.2.2.2.2.2.2.2.2.2.2.1) fun r6 =>
                  if (r6 = true) then
                    if ((r5.2.2.2.2.2.2.2.2.2.1 != (0 : Int)) = false) then
                      (some false)
                    else
                    Option.bind (Fflat_noWave k r5.2.2.2.2.2.2.2.2.2.2.2.1 r5.2.2.2.2.2.2.2.2.2.2.2.2.1 r5.2.2.2.2.2.2.2.2.2.2.2.2.2.1) fun r7 =>
                    if (r7 = true) then
                      Option.bind (Fflat_noModel k r5.2.2.2.2.2.2.2.2.2.2.2.2.2.2.1 r5.2.2.2.2.2.2.2.2.2.2.2.2.2.2.2.1 r5.2.2.2.2.2.2.2.2.2.2.2.2.2.2.2.2.1 r5.2.2.2.2.2.2.2.2.2.2.2.2.2.2.2.2.2) fun r8 =>
                      (some r8)
                    else
                    (some false)
                  else
                  (some false)
                else
                Option.bind (Fnum_Valid k r5.2.2.2.2.2.2.2.2.2.1 r5.2.2.2.2.2.2.2.2.2.2.1) fun r6 =>
                if (r6 = true) then
                  if ((r5.2.2.2.2.2.2.2.2.2.1 != (0 : Int)) = false) then
                    (some false)
                  else
                  Option.bind (Fflat_noWave k r5.2.2.2.2.2.2.2.2.2.2.2.1 r5.2.2.2.2.2.2.2.2.2.2.2.2.1 r5.2.2.2.2.2.2.2.2.2.2.2.2.2.1) fun r7 =>
                  if (r7 = true) then
                    Option.bind (Fflat_noModel k r5.2.2.2.2.2.2.2.2.2.2.2.2.2.2.1 r5.2.2.2.2.2.2.2.2.2.2.2.2.2.2.2.1 r5.2.2.2.2.2.2.2.2.2.2.2.2.2.2.2.2.1 r5.2.2.2.2.2.2.2.2.2.2.2.2.2.2.2.2.2) fun r8 =>
                    (some r8)
                  else
                  (some false)
                else
                (some false)
              else
              none
            else
            (some false)
          else
          (some false)
        else
        if ((r5.2.2.2.2.2.2.2.2.1 != (0 : Int)) = true) then
          (some false)
        else
        if ((r5.2.2.2.2.2.1 == (114 : Int)) = false) then
          if ((r5.2.2.2.2.2.1 == (99 : Int)) = false) then
            Option.bind (Fnum_Valid k r5.2.2.2.2.2.2.2.2.2.1 r5.2.2.2.2.2.2.2.2.2.2.1) fun r6 =>
            if (r6 = true) then
              if ((r5.2.2.2.2.2.2.2.2.2.1 != (0 : Int)) = false) then
                if ((!(r5.2.2.2.2.2.1 == (108 : Int))) = true) then
                  Option.bind (Fflat_noWave k r5.2.2.2.2.2.2.2.2.2.2.2.1 r5.2.2.2.2.2.2.2.2.2.2.2.2.1 r5.2.2.2.2.2.2.2.2.2.2.2.2.2.1) fun r7 =>
                  if (r7 = true) then
                    Option.bind (Fflat_noModel k r5.2.2.2.2.2.2.2.2.2.2.2.2.2.2.1 r5.2.2.2.2.2.2.2.2.2.2.2.2.2.2.2.1 r5.2.2.2.2.2.2.2.2.2.2.2.2.2.2.2.2.1 r5.2.2.2.2.2.2.2.2.2.2.2.2.2.2.2.2.2) fun r8 =>
                    (some r8)
                  else
                  (some false)
                else
                (some false)
              else
              Option.bind (Fflat_noWave k r5.2.2.2.2.2.2.2.2.2.2.2.1 r5.2.2.2.2.2.2.2.2.2.2.2.2.1 r5.2.2.2.2.2.2.2.2.2.2.2.2.2.1) fun r7 =>
              if (r7 = true) then
                Option.bind (Fflat_noModel k r5.2.2.2.2.2.2.2.2.2.2.2.2.2.2.1 r5.2.2.2.2.2.2.2.2.2.2.2.2.2.2.2.1 r5.2.2.2.2.2.2.2.2.2.2.2.2.2.2.2.2.1 r5.2.2.2.2.2.2.2.2.2.2.2.2.2.2.2.2.2) fun r8 =>
                (some r8)
              else
              (some false)
            else
            (some false)
          else
          Option.bind (Fnum_Valid k r5.2.2.2.2.2.2.2.2.2.1 r5.2.2.2.2.2.2.2.2.2.2.1) fun r6 =>
          if (r6 = true) then
            if ((r5.2.2.2.2.2.2.2.2.2.1 != (0 : Int)) = false) then
              (some false)
            else
            Option.bind (Fflat_noWave k r5.2.2.2.2.2.2.2.2.2.2.2.1 r5.2.2.2.2.2.2.2.2.2.2.2.2.1 r5.2.2.2.2.2.2.2.2.2.2.2.2.2.1) fun r7 =>
            if (r7 = true) then
              Option.bind (Fflat_noModel k r5.2.2.2.2.2.2.2.2.2.2.2.2.2.2.1 r5.2.2.2.2.2.2.2.2.2.2.2.2.2.2.2.1 r5.2.2.2.2.2.2.2.2.2.2.2.2.2.2.2.2.1 r5.2.2.2.2.2.2.2.2.2.2.2.2.2.2.2.2.2) fun r8 =>
              (some r8)
            else
            (some false)
          else
          (some false)
        else
        Option.bind (Fnum_Valid k r5.2.2.2.2.2.2.2.2.2.1 r5.2.2.2.2.2.2.2.2.2.2.1) fun r6 =>
        if (r6 = true) then
          if ((r5.2.2.2.2.2.2.2.2.2.1 != (0 : Int)) = false) then
            (some false)
          else
          Option.bind (Fflat_noWave k r5.2.2.2.2.2.2.2.2.2.2.2.1 r5.2.2.2.2.2.2.2.2.2.2.2.2.1 r5.2.2.2.2.2.2.2.2.2.2.2.2.2.1) fun r7 =>
          if (r7 = true) then
            Option.bind (Fflat_noModel k r5.2.2.2.2.2.2.2.2.2.2.2.2.2.2.1 r5.2.2.2.2.2.2.2.2.2.2.2.2.2.2.2.1 r5.2.2.2.2.2.2.2.2.2.2.2.2.2.2.2.2.1 r5.2.2.2.2.2.2.2.2.2.2.2.2.2.2.2.2.2) fun r8 =>
            (some r8)
          else
          (some false)
        else
        (some false))
    else
    (some false)
  else
  (some false)
def Fflat_right : Nat → List ByteArray → List (Int × ByteArray × List Int × Int × (Int × Int) × (Int × List (Int × Int) × List Int) × ByteArray × Int × List (Int × Int) × List (Int × Int)) → Int → Int → Int → Int → ByteArray → List Int → Int → Int → Int → Int → List (Int × Int) → List Int → ByteArray → Int → List (Int × Int) → List (Int × Int) → Option (Bool)
  | 0, _, _, _, _, _, _, _, _, _, _, _, _, _, _, _, _, _, _ => none
  | k + 1, f0, f1, f2, f3, f4, d0, d1, d2, d3, d4, d5, d6, d7, d8, d9, d10, d11, d12 => bflat_right k f0 f1 f2 f3 f4 d0 d1 d2 d3 d4 d5 d6 d7 d8 d9 d10 d11 d12
def shflat_right : FS := { vs := [.g [.lf (.sl .str), .lf (.sl (.pr (.int .u8) (.pr .str (.pr (.sl (.int .i64)) (.pr (.int .i64) (.pr (.pr (.int .i64) (.int .i64)) (.pr (.pr (.int .i64) (.pr (.sl (.pr (.int .i64) (.int .i64))) (.sl (.int .i64)))) (.pr .str (.pr (.int .u8) (.pr (.sl (.pr (.int .i64) (.int .i64))) (.sl (.pr (.int .i64) (.int .i64))))))))))))), .lf (.int .i64), .lf (.int .i64), .lf (.int .i64)], .g [.lf (.int .u8), .lf .str, .lf (.sl (.int .i64)), .lf (.int .i64), .lf (.int .i64), .lf (.int .i64), .lf (.int .i64), .lf (.sl (.pr (.int .i64) (.int .i64))), .lf (.sl (.int .i64)), .lf .str, .lf (.int .u8), .lf (.sl (.pr (.int .i64) (.int .i64))), .lf (.sl (.pr (.int .i64) (.int .i64)))]], bs := [] }
def rsflat_right : List FS := [{ vs := [.a (.lf .bool)], bs := [] }]
def Iflat_right (k : Nat) : Inst := ⟨42, shflat_right, rsflat_right, fun x => Fflat_right k x.1 x.2.1 x.2.2.1 x.2.2.2.1 x.2.2.2.2.1 x.2.2.2.2.2.1 x.2.2.2.2.2.2.1 x.2.2.2.2.2.2.2.1 x.2.2.2.2.2.2.2.2.1 x.2.2.2.2.2.2.2.2.2.1 x.2.2.2.2.2.2.2.2.2.2.1 x.2.2.2.2.2.2.2.2.2.2.2.1 x.2.2.2.2.2.2.2.2.2.2.2.2.1 x.2.2.2.2.2.2.2.2.2.2.2.2.2.1 x.2.2.2.2.2.2.2.2.2.2.2.2.2.2.1 x.2.2.2.2.2.2.2.2.2.2.2.2.2.2.2.1 x.2.2.2.2.2.2.2.2.2.2.2.2.2.2.2.2.1 x.2.2.2.2.2.2.2.2.2.2.2.2.2.2.2.2.2⟩
theorem alflat_right (k : Nat) : AllI (call cf k) [Iflat_long k, Iwave_Valid k, Iflat_noModel k, Iflat_noWave k, Imodel_Valid k, Inum_Valid k] := And.intro (okflat_long k) (And.intro (okwave_Valid k) (And.intro (okflat_noModel k) (And.intro (okflat_noWave k) (And.intro (okmodel_Valid k) (And.intro (oknum_Valid k) (True.intro))))))
def hsflat_right_0 : List SS := [{ fr := [(2, .a (.ptr 0 0 0)), (3, .a (.ptr 1 0 0)), (30, .a (.lf (.sl (.int .i64)))), (31, .a (.lf (.int .i64))), (32, .a (.lf (.int .i64)))], mem := [(0, some (.raw [[.lf (.sl .str), .lf (.sl (.pr (.int .u8) (.pr .str (.pr (.sl (.int .i64)) (.pr (.int .i64) (.pr (.pr (.int .i64) (.int .i64)) (.pr (.pr (.int .i64) (.pr (.sl (.pr (.int .i64) (.int .i64))) (.sl (.int .i64)))) (.pr .str (.pr (.int .u8) (.pr (.sl (.pr (.int .i64) (.int .i64))) (.sl (.pr (.int .i64) (.int .i64))))))))))))), .lf (.int .i64), .lf (.int .i64), .lf (.int .i64)]] 5 27 true false false)), (1, some (.raw [[.lf (.int .u8), .lf .str, .lf (.sl (.int .i64)), .lf (.int .i64), .lf (.int .i64), .lf (.int .i64), .lf (.int .i64), .lf (.sl (.pr (.int .i64) (.int .i64))), .lf (.sl (.int .i64)), .lf .str, .lf (.int .u8), .lf (.sl (.pr (.int .i64) (.int .i64))), .lf (.sl (.pr (.int .i64) (.int .i64)))]] 13 38 true false false))], nx := 2 }]
def osflat_right_0 : List OS := [⟨none, { fr := [(4, .a (.lf .bool))], mem := [(0, some (.raw [[.lf (.sl .str), .lf (.sl (.pr (.int .u8) (.pr .str (.pr (.sl (.int .i64)) (.pr (.int .i64) (.pr (.pr (.int .i64) (.int .i64)) (.pr (.pr (.int .i64) (.pr (.sl (.pr (.int .i64) (.int .i64))) (.sl (.int .i64)))) (.pr .str (.pr (.int .u8) (.pr (.sl (.pr (.int .i64) (.int .i64))) (.sl (.pr (.int .i64) (.int .i64))))))))))))), .lf (.int .i64), .lf (.int .i64), .lf (.int .i64)]] 5 27 true false false)), (1, some (.raw [[.lf (.int .u8), .lf .str, .lf (.sl (.int .i64)), .lf (.int .i64), .lf (.int .i64), .lf (.int .i64), .lf (.int .i64), .lf (.sl (.pr (.int .i64) (.int .i64))), .lf (.sl (.int .i64)), .lf .str, .lf (.int .u8), .lf (.sl (.pr (.int .i64) (.int .i64))), .lf (.sl (.pr (.int .i64) (.int .i64)))]] 13 38 true false false))], nx := 2 }⟩, ⟨some 0, { fr := [(2, .a (.ptr 0 0 0)), (3, .a (.ptr 1 0 0))], mem := [(0, some (.raw [[.lf (.sl .str), .lf (.sl (.pr (.int .u8) (.pr .str (.pr (.sl (.int .i64)) (.pr (.int .i64) (.pr (.pr (.int .i64) (.int .i64)) (.pr (.pr (.int .i64) (.pr (.sl (.pr (.int .i64) (.int .i64))) (.sl (.int .i64)))) (.pr .str (.pr (.int .u8) (.pr (.sl (.pr (.int .i64) (.int .i64))) (.sl (.pr (.int .i64) (.int .i64))))))))))))), .lf (.int .i64), .lf (.int .i64), .lf (.int .i64)]] 5 27 true false false)), (1, some (.raw [[.lf (.int .u8), .lf .str, .lf (.sl (.int .i64)), .lf (.int .i64), .lf (.int .i64), .lf (.int .i64), .lf (.int .i64), .lf (.sl (.pr (.int .i64) (.int .i64))), .lf (.sl (.int .i64)), .lf .str, .lf (.int .u8), .lf (.sl (.pr (.int .i64) (.int .i64))), .lf (.sl (.pr (.int .i64) (.int .i64)))]] 13 38 true false false))], nx := 2 }⟩]
def LIflat_right_0 (k : Nat) : LInst := ⟨0, hsflat_right_0, osflat_right_0, fun x => Lflat_right_0 k k x.1 x.2.1 x.2.2.1 x.2.2.2.1 x.2.2.2.2.1 x.2.2.2.2.2.1 x.2.2.2.2.2.2.1 x.2.2.2.2.2.2.2.1 x.2.2.2.2.2.2.2.2.1 x.2.2.2.2.2.2.2.2.2.1 x.2.2.2.2.2.2.2.2.2.2.1 x.2.2.2.2.2.2.2.2.2.2.2.1 x.2.2.2.2.2.2.2.2.2.2.2.2.1 x.2.2.2.2.2.2.2.2.2.2.2.2.2.1 x.2.2.2.2.2.2.2.2.2.2.2.2.2.2.1 x.2.2.2.2.2.2.2.2.2.2.2.2.2.2.2.1 x.2.2.2.2.2.2.2.2.2.2.2.2.2.2.2.2.1 x.2.2.2.2.2.2.2.2.2.2.2.2.2.2.2.2.2.1 x.2.2.2.2.2.2.2.2.2.2.2.2.2.2.2.2.2.2.1 x.2.2.2.2.2.2.2.2.2.2.2.2.2.2.2.2.2.2.2.1 x.2.2.2.2.2.2.2.2.2.2.2.2.2.2.2.2.2.2.2.2⟩
theorem anflat_right_0 (k : Nat) : LAll (LOk (R := DS OS.D osflat_right_0) (fun b _ σ K => LOt Ty (kps 42) 0 b σ K []) cf (call cf k) (kps 42) Tryd.f42.ntmps k 0) 0 (lb Tryd.f42 0) :=
  And.intro (True.intro) (And.intro (And.intro (True.intro) (True.intro)) (And.intro (And.intro (True.intro) (And.intro (True.intro) (And.intro (And.intro (True.intro) (True.intro)) (True.intro)))) (True.intro)))
theorem stflat_right_0 (k n : Nat) (x : DS SS.D hsflat_right_0) : Lflat_right_0 k (n + 1) x.1 x.2.1 x.2.2.1 x.2.2.2.1 x.2.2.2.2.1 x.2.2.2.2.2.1 x.2.2.2.2.2.2.1 x.2.2.2.2.2.2.2.1 x.2.2.2.2.2.2.2.2.1 x.2.2.2.2.2.2.2.2.2.1 x.2.2.2.2.2.2.2.2.2.2.1 x.2.2.2.2.2.2.2.2.2.2.2.1 x.2.2.2.2.2.2.2.2.2.2.2.2.1 x.2.2.2.2.2.2.2.2.2.2.2.2.2.1 x.2.2.2.2.2.2.2.2.2.2.2.2.2.2.1 x.2.2.2.2.2.2.2.2.2.2.2.2.2.2.2.1 x.2.2.2.2.2.2.2.2.2.2.2.2.2.2.2.2.1 x.2.2.2.2.2.2.2.2.2.2.2.2.2.2.2.2.2.1 x.2.2.2.2.2.2.2.2.2.2.2.2.2.2.2.2.2.2.1 x.2.2.2.2.2.2.2.2.2.2.2.2.2.2.2.2.2.2.2.1 x.2.2.2.2.2.2.2.2.2.2.2.2.2.2.2.2.2.2.2.2 = encSK SS.enc (fun σ => run2 cf (fun f a b K => COt f a b K [Iflat_long k, Iwave_Valid k, Iflat_noModel k, Iflat_noWave k, Imodel_Valid k, Inum_Valid k]) (fun b _ σ K => LOt Ty (kps 42) 0 b σ K []) Tryd.f42.ntmps 0 (lb Tryd.f42 0) σ (nextK Ty (kps 42 0) 0 hsflat_right_0 osflat_right_0 fun x => Lflat_right_0 k n x.1 x.2.1 x.2.2.1 x.2.2.2.1 x.2.2.2.2.1 x.2.2.2.2.2.1 x.2.2.2.2.2.2.1 x.2.2.2.2.2.2.2.1 x.2.2.2.2.2.2.2.2.1 x.2.2.2.2.2.2.2.2.2.1 x.2.2.2.2.2.2.2.2.2.2.1 x.2.2.2.2.2.2.2.2.2.2.2.1 x.2.2.2.2.2.2.2.2.2.2.2.2.1 x.2.2.2.2.2.2.2.2.2.2.2.2.2.1 x.2.2.2.2.2.2.2.2.2.2.2.2.2.2.1 x.2.2.2.2.2.2.2.2.2.2.2.2.2.2.2.1 x.2.2.2.2.2.2.2.2.2.2.2.2.2.2.2.2.1 x.2.2.2.2.2.2.2.2.2.2.2.2.2.2.2.2.2.1 x.2.2.2.2.2.2.2.2.2.2.2.2.2.2.2.2.2.2.1 x.2.2.2.2.2.2.2.2.2.2.2.2.2.2.2.2.2.2.2.1 x.2.2.2.2.2.2.2.2.2.2.2.2.2.2.2.2.2.2.2.2)) hsflat_right_0 x := by kernel_rfl
theorem loflat_right_0 (k : Nat) : LIOk cf (call cf k) (kps 42) Tryd.f42.ntmps k 0 0 (lb Tryd.f42 0) (LIflat_right_0 k) :=
  loop_ok (c := cf) (callF := call cf k) (kp := kps 42) (nt := Tryd.f42.ntmps) (k := k) (p := 0) (b := 0) (x0 := lb Tryd.f42 0) (hs := hsflat_right_0) (os := osflat_right_0) (COt_ok (alflat_right k)) (anflat_right_0 k) (fun n x => Lflat_right_0 k n x.1 x.2.1 x.2.2.1 x.2.2.2.1 x.2.2.2.2.1 x.2.2.2.2.2.1 x.2.2.2.2.2.2.1 x.2.2.2.2.2.2.2.1 x.2.2.2.2.2.2.2.2.1 x.2.2.2.2.2.2.2.2.2.1 x.2.2.2.2.2.2.2.2.2.2.1 x.2.2.2.2.2.2.2.2.2.2.2.1 x.2.2.2.2.2.2.2.2.2.2.2.2.1 x.2.2.2.2.2.2.2.2.2.2.2.2.2.1 x.2.2.2.2.2.2.2.2.2.2.2.2.2.2.1 x.2.2.2.2.2.2.2.2.2.2.2.2.2.2.2.1 x.2.2.2.2.2.2.2.2.2.2.2.2.2.2.2.2.1 x.2.2.2.2.2.2.2.2.2.2.2.2.2.2.2.2.2.1 x.2.2.2.2.2.2.2.2.2.2.2.2.2.2.2.2.2.2.1 x.2.2.2.2.2.2.2.2.2.2.2.2.2.2.2.2.2.2.2.1 x.2.2.2.2.2.2.2.2.2.2.2.2.2.2.2.2.2.2.2.2) (fun _ => rfl) (stflat_right_0 k)
theorem anflat_right (k : Nat) : LAll (LOk (R := DS FS.D rsflat_right) (fun b _ σ K => LOt Ty (kps 42) 0 b σ K [LIflat_right_0 k]) cf (call cf k) (cf.keep 42) Tryd.f42.ntmps k shflat_right.bs.length) 0 (bd Tryd.f42) :=
  And.intro (True.intro) (And.intro (True.intro) (And.intro (And.intro (True.intro) (And.intro (And.intro (True.intro) (True.intro)) (True.intro))) (And.intro (And.intro (True.intro) (LOt_ok (c := cf) (callF := call cf k) (kp := kps 42) (nt := Tryd.f42.ntmps) (k := k) (p := 0) (b := 0) (x0 := lb Tryd.f42 0) (l := [LIflat_right_0 k]) (And.intro (fun _ => loflat_right_0 k) (True.intro)))) (And.intro (And.intro (True.intro) (And.intro (And.intro (True.intro) (And.intro (True.intro) (True.intro))) (And.intro (And.intro (True.intro) (True.intro)) (And.intro (And.intro (True.intro) (And.intro (True.intro) (True.intro))) (And.intro (And.intro (True.intro) (True.intro)) (And.intro (And.intro (True.intro) (And.intro (True.intro) (True.intro))) (And.intro (And.intro (True.intro) (And.intro (And.intro (True.intro) (True.intro)) (True.intro))) (And.intro (True.intro) (And.intro (And.intro (True.intro) (True.intro)) (True.intro)))))))))) (And.intro (True.intro) (And.intro (True.intro) (True.intro)))))))
theorem stflat_right (k : Nat) (x : shflat_right.D) : Fflat_right (k + 1) x.1 x.2.1 x.2.2.1 x.2.2.2.1 x.2.2.2.2.1 x.2.2.2.2.2.1 x.2.2.2.2.2.2.1 x.2.2.2.2.2.2.2.1 x.2.2.2.2.2.2.2.2.1 x.2.2.2.2.2.2.2.2.2.1 x.2.2.2.2.2.2.2.2.2.2.1 x.2.2.2.2.2.2.2.2.2.2.2.1 x.2.2.2.2.2.2.2.2.2.2.2.2.1 x.2.2.2.2.2.2.2.2.2.2.2.2.2.1 x.2.2.2.2.2.2.2.2.2.2.2.2.2.2.1 x.2.2.2.2.2.2.2.2.2.2.2.2.2.2.2.1 x.2.2.2.2.2.2.2.2.2.2.2.2.2.2.2.2.1 x.2.2.2.2.2.2.2.2.2.2.2.2.2.2.2.2.2 = body2 cf (fun f a b K => COt f a b K [Iflat_long k, Iwave_Valid k, Iflat_noModel k, Iflat_noWave k, Imodel_Valid k, Inum_Valid k]) (fun b _ σ K => LOt Ty (kps 42) 0 b σ K [LIflat_right_0 k]) 42 Tryd.f42.ntmps Tryd.f42.results.toList (bd Tryd.f42) (shflat_right.enc x).1 (shflat_right.enc x).2 (putS FS.dec rsflat_right) := by kernel_rfl
theorem okflat_right : ∀ k, InstOk (call cf k) (Iflat_right k)
  | 0 => fun x y e => absurd (show (none : Option _) = some y from e) (by simp)
  | k + 1 => inst_ok (c := cf) (k := k) (f := 42) (fn := Tryd.f42) (body := bd Tryd.f42) (sh := shflat_right) (os := rsflat_right) rfl Tryd.func42 rfl ⟨rfl, Nat.le_of_ble_eq_true rfl⟩ (COt_ok (alflat_right k)) (anflat_right k) (fun x => Fflat_right (k + 1) x.1 x.2.1 x.2.2.1 x.2.2.2.1 x.2.2.2.2.1 x.2.2.2.2.2.1 x.2.2.2.2.2.2.1 x.2.2.2.2.2.2.2.1 x.2.2.2.2.2.2.2.2.1 x.2.2.2.2.2.2.2.2.2.1 x.2.2.2.2.2.2.2.2.2.2.1 x.2.2.2.2.2.2.2.2.2.2.2.1 x.2.2.2.2.2.2.2.2.2.2.2.2.1 x.2.2.2.2.2.2.2.2.2.2.2.2.2.1 x.2.2.2.2.2.2.2.2.2.2.2.2.2.2.1 x.2.2.2.2.2.2.2.2.2.2.2.2.2.2.2.1 x.2.2.2.2.2.2.2.2.2.2.2.2.2.2.2.2.1 x.2.2.2.2.2.2.2.2.2.2.2.2.2.2.2.2.2) (stflat_right k)

/-! strings.IndexByte -/
def bstrings_IndexByte (k : Nat) (s : ByteArray) (c : Int) : Option (Int) :=
  (some (idxB s c))
def Fstrings_IndexByte : Nat → ByteArray → Int → Option (Int)
  | 0, _, _ => none
  | k + 1, s, c => bstrings_IndexByte k s c
def shstrings_IndexByte : FS := { vs := [.a (.lf .str), .a (.lf (.int .u8))], bs := [] }
def rsstrings_IndexByte : List FS := [{ vs := [.a (.lf (.int .i64))], bs := [] }]
def Istrings_IndexByte (k : Nat) : Inst := ⟨22, shstrings_IndexByte, rsstrings_IndexByte, fun x => Fstrings_IndexByte k x.1 x.2⟩
theorem alstrings_IndexByte (k : Nat) : AllI (call cf k) [] := True.intro
theorem ststrings_IndexByte (k : Nat) (x : shstrings_IndexByte.D) : Fstrings_IndexByte (k + 1) x.1 x.2 = (kIndexByte) (DS FS.D rsstrings_IndexByte) (shstrings_IndexByte.enc x).1 (shstrings_IndexByte.enc x).2 (putS FS.dec rsstrings_IndexByte) := by kernel_rfl
theorem okstrings_IndexByte : ∀ k, InstOk (call cf k) (Istrings_IndexByte k)
  | 0 => fun x y e => absurd (show (none : Option _) = some y from e) (by simp)
  | k + 1 => inst_okX (c := cf) (k := k) (f := 22) (g := gIndexByte) (G := kIndexByte) (sh := shstrings_IndexByte) (os := rsstrings_IndexByte) rfl (kIndexByte_at) (fun x => Fstrings_IndexByte (k + 1) x.1 x.2) (ststrings_IndexByte k)

/-! shunt/flat.count -/
def Lflat_count_0s (k : Nat) (rec : Int → Nat → List (Int × ByteArray × List Int × Int × (Int × Int) × (Int × List (Int × Int) × List Int) × ByteArray × Int × List (Int × Int) × List (Int × Int)) → Int → Int → List Int → Option (Int × Nat × List Int)) (n : Int) (branch : Nat) (x : List (Int × ByteArray × List Int × Int × (Int × Int) × (Int × List (Int × Int) × List Int) × ByteArray × Int × List (Int × Int) × List (Int × Int))) (x1 : Int) (x2 : Int) (branchs : List Int) : Option (Int × Nat × List Int) :=
  if ((decide (x2 < x1)) = true) then
    if ((0 : Int) ≤ x2) then
      Option.bind (x)[(Int.toNat x2)]? fun x3 =>
      Option.bind (Fstrings_IndexByte k (ByteArray.mk (List.toArray (118 :: (101 :: (104 :: (99 :: (108 :: (116 :: [])))))))) x3.1) fun r6 =>
      if ((decide (r6 ≥ (0 : Int))) = true) then
        if (branch ≤ (List.length branchs)) then
          if (((branch + (List.length (List.take 1 (n :: [])))) * 8) ≤ 140737488355328) then
            rec (IntKind.wrap .i64 (n + (1 : Int))) (branch + (List.length (List.take 1 (n :: [])))) x x1 (IntKind.wrap .i64 (x2 + (1 : Int))) ((List.take branch branchs) ++ (List.take 1 (n :: [])))
          else
          none
        else
        none
      else
      if (branch ≤ (List.length branchs)) then
        if (((branch + 1) * 8) ≤ 140737488355328) then
          rec n (branch + 1) x x1 (IntKind.wrap .i64 (x2 + (1 : Int))) ((List.take branch branchs) ++ (List.take 1 ((-(1 : Int)) :: [])))
        else
        none
      else
      none
    else
    none
  else
  (some (n, branch, branchs))
def Lflat_count_0 (k n : Nat) : Int → Nat → List (Int × ByteArray × List Int × Int × (Int × Int) × (Int × List (Int × Int) × List Int) × ByteArray × Int × List (Int × Int) × List (Int × Int)) → Int → Int → List Int → Option (Int × Nat × List Int) := Nat.rec (fun _ _ _ _ _ _ => none) (fun _ r => Lflat_count_0s k r) n
def bflat_count (k : Nat) (f0 : List ByteArray) (f1 : List (Int × ByteArray × List Int × Int × (Int × Int) × (Int × List (Int × Int) × List Int) × ByteArray × Int × List (Int × Int) × List (Int × Int))) (f2 : Int) (f3 : Int) (f4 : Int) : Option (Int × List Int) :=
  Option.bind (Lflat_count_0 k k (IntKind.wrap .i64 ((((List.length f0) : Nat) : Int) - (1 : Int))) 0 f1 (((List.length f1) : Nat) : Int) (0 : Int) []) fun r6 =>
  if ((0 + r6.2.1) ≤ (List.length r6.2.2)) then
    (some (r6.1, (List.take r6.2.1 r6.2.2)))
  else
  none
def Fflat_count : Nat → List ByteArray → List (Int × ByteArray × List Int × Int × (Int × Int) × (Int × List (Int × Int) × List Int) × ByteArray × Int × List (Int × Int) × List (Int × Int)) → Int → Int → Int → Option (Int × List Int)
  | 0, _, _, _, _, _ => none
  | k + 1, f0, f1, f2, f3, f4 => bflat_count k f0 f1 f2 f3 f4
def shflat_count : FS := { vs := [.g [.lf (.sl .str), .lf (.sl (.pr (.int .u8) (.pr .str (.pr (.sl (.int .i64)) (.pr (.int .i64) (.pr (.pr (.int .i64) (.int .i64)) (.pr (.pr (.int .i64) (.pr (.sl (.pr (.int .i64) (.int .i64))) (.sl (.int .i64)))) (.pr .str (.pr (.int .u8) (.pr (.sl (.pr (.int .i64) (.int .i64))) (.sl (.pr (.int .i64) (.int .i64))))))))))))), .lf (.int .i64), .lf (.int .i64), .lf (.int .i64)]], bs := [] }
def rsflat_count : List FS := [{ vs := [.a (.lf (.int .i64)), .a (.lf (.sl (.int .i64)))], bs := [] }]
def Iflat_count (k : Nat) : Inst := ⟨43, shflat_count, rsflat_count, fun x => Fflat_count k x.1 x.2.1 x.2.2.1 x.2.2.2.1 x.2.2.2.2⟩
theorem alflat_count (k : Nat) : AllI (call cf k) [Istrings_IndexByte k] := And.intro (okstrings_IndexByte k) (True.intro)
def hsflat_count_0 : List SS := [{ fr := [(4, .a (.lf (.int .i64))), (5, .a (.smz 0)), (14, .a (.lf (.sl (.pr (.int .u8) (.pr .str (.pr (.sl (.int .i64)) (.pr (.int .i64) (.pr (.pr (.int .i64) (.int .i64)) (.pr (.pr (.int .i64) (.pr (.sl (.pr (.int .i64) (.int .i64))) (.sl (.int .i64)))) (.pr .str (.pr (.int .u8) (.pr (.sl (.pr (.int .i64) (.int .i64))) (.sl (.pr (.int .i64) (.int .i64))))))))))))))), (15, .a (.lf (.int .i64))), (16, .a (.lf (.int .i64)))], mem := [(0, some (.arr (.int .i64) 1 3 false))], nx := 1 }]
def osflat_count_0 : List OS := [⟨some 0, { fr := [(4, .a (.lf (.int .i64))), (5, .a (.smz 0))], mem := [(0, some (.arr (.int .i64) 1 3 false))], nx := 1 }⟩]
def LIflat_count_0 (k : Nat) : LInst := ⟨0, hsflat_count_0, osflat_count_0, fun x => Lflat_count_0 k k x.1 x.2.1 x.2.2.1 x.2.2.2.1 x.2.2.2.2.1 x.2.2.2.2.2⟩
theorem anflat_count_0 (k : Nat) : LAll (LOk (R := DS OS.D osflat_count_0) (fun b _ σ K => LOt Ty (kps 43) 0 b σ K []) cf (call cf k) (kps 43) Tryd.f43.ntmps k 0) 0 (lb Tryd.f43 0) :=
  And.intro (True.intro) (And.intro (And.intro (True.intro) (True.intro)) (And.intro (And.intro (True.intro) (And.intro (True.intro) (And.intro (And.intro (True.intro) (And.intro (And.intro (True.intro) (True.intro)) (True.intro))) (True.intro)))) (True.intro)))
theorem stflat_count_0 (k n : Nat) (x : DS SS.D hsflat_count_0) : Lflat_count_0 k (n + 1) x.1 x.2.1 x.2.2.1 x.2.2.2.1 x.2.2.2.2.1 x.2.2.2.2.2 = encSK SS.enc (fun σ => run2 cf (fun f a b K => COt f a b K [Istrings_IndexByte k]) (fun b _ σ K => LOt Ty (kps 43) 0 b σ K []) Tryd.f43.ntmps 0 (lb Tryd.f43 0) σ (nextK Ty (kps 43 0) 0 hsflat_count_0 osflat_count_0 fun x => Lflat_count_0 k n x.1 x.2.1 x.2.2.1 x.2.2.2.1 x.2.2.2.2.1 x.2.2.2.2.2)) hsflat_count_0 x := by kernel_rfl
theorem loflat_count_0 (k : Nat) : LIOk cf (call cf k) (kps 43) Tryd.f43.ntmps k 0 0 (lb Tryd.f43 0) (LIflat_count_0 k) :=
  loop_ok (c := cf) (callF := call cf k) (kp := kps 43) (nt := Tryd.f43.ntmps) (k := k) (p := 0) (b := 0) (x0 := lb Tryd.f43 0) (hs := hsflat_count_0) (os := osflat_count_0) (COt_ok (alflat_count k)) (anflat_count_0 k) (fun n x => Lflat_count_0 k n x.1 x.2.1 x.2.2.1 x.2.2.2.1 x.2.2.2.2.1 x.2.2.2.2.2) (fun _ => rfl) (stflat_count_0 k)
theorem anflat_count (k : Nat) : LAll (LOk (R := DS FS.D rsflat_count) (fun b _ σ K => LOt Ty (kps 43) 0 b σ K [LIflat_count_0 k]) cf (call cf k) (cf.keep 43) Tryd.f43.ntmps k shflat_count.bs.length) 0 (bd Tryd.f43) :=
  And.intro (True.intro) (And.intro (True.intro) (And.intro (True.intro) (And.intro (And.intro (True.intro) (LOt_ok (c := cf) (callF := call cf k) (kp := kps 43) (nt := Tryd.f43.ntmps) (k := k) (p := 0) (b := 0) (x0 := lb Tryd.f43 0) (l := [LIflat_count_0 k]) (And.intro (fun _ => loflat_count_0 k) (True.intro)))) (And.intro (True.intro) (True.intro)))))
theorem stflat_count (k : Nat) (x : shflat_count.D) : Fflat_count (k + 1) x.1 x.2.1 x.2.2.1 x.2.2.2.1 x.2.2.2.2 = body2 cf (fun f a b K => COt f a b K [Istrings_IndexByte k]) (fun b _ σ K => LOt Ty (kps 43) 0 b σ K [LIflat_count_0 k]) 43 Tryd.f43.ntmps Tryd.f43.results.toList (bd Tryd.f43) (shflat_count.enc x).1 (shflat_count.enc x).2 (putS FS.dec rsflat_count) := by kernel_rfl
theorem okflat_count : ∀ k, InstOk (call cf k) (Iflat_count k)
  | 0 => fun x y e => absurd (show (none : Option _) = some y from e) (by simp)
  | k + 1 => inst_ok (c := cf) (k := k) (f := 43) (fn := Tryd.f43) (body := bd Tryd.f43) (sh := shflat_count) (os := rsflat_count) rfl Tryd.func43 rfl ⟨rfl, Nat.le_of_ble_eq_true rfl⟩ (COt_ok (alflat_count k)) (anflat_count k) (fun x => Fflat_count (k + 1) x.1 x.2.1 x.2.2.1 x.2.2.2.1 x.2.2.2.2) (stflat_count k)

/-! shunt/flat.Check -/
def Lflat_Check_0s (k : Nat) (rec : List ByteArray → Int → Int → List ByteArray → List (Int × ByteArray × List Int × Int × (Int × Int) × (Int × List (Int × Int) × List Int) × ByteArray × Int × List (Int × Int) × List (Int × Int)) → Int → Int → Int → Option ((Int × List ByteArray × List (Int × ByteArray × List Int × Int × (Int × Int) × (Int × List (Int × Int) × List Int) × ByteArray × Int × List (Int × Int) × List (Int × Int)) × Int × Int × Int) ⊕ (List ByteArray × List (Int × ByteArray × List Int × Int × (Int × Int) × (Int × List (Int × Int) × List Int) × ByteArray × Int × List (Int × Int) × List (Int × Int)) × Int × Int × Int))) (x : List ByteArray) (x1 : Int) (x2 : Int) (f0 : List ByteArray) (f1 : List (Int × ByteArray × List Int × Int × (Int × Int) × (Int × List (Int × Int) × List Int) × ByteArray × Int × List (Int × Int) × List (Int × Int))) (f2 : Int) (f3 : Int) (f4 : Int) : Option ((Int × List ByteArray × List (Int × ByteArray × List Int × Int × (Int × Int) × (Int × List (Int × Int) × List Int) × ByteArray × Int × List (Int × Int) × List (Int × Int)) × Int × Int × Int) ⊕ (List ByteArray × List (Int × ByteArray × List Int × Int × (Int × Int) × (Int × List (Int × Int) × List Int) × ByteArray × Int × List (Int × Int) × List (Int × Int)) × Int × Int × Int)) :=
  if ((decide (x2 < x1)) = true) then
    if ((0 : Int) ≤ x2) then
      Option.bind (x)[(Int.toNat x2)]? fun x3 =>
      Option.bind (Fflat_long k x3) fun r3 =>
      if ((!r3) = true) then
        (some (Sum.inl ((90 : Int), f0, f1, f2, f3, f4)))
      else
      rec x x1 (IntKind.wrap .i64 (x2 + (1 : Int))) f0 f1 f2 f3 f4
    else
    none
  else
  (some (Sum.inr (f0, f1, f2, f3, f4)))
def Lflat_Check_0 (k n : Nat) : List ByteArray → Int → Int → List ByteArray → List (Int × ByteArray × List Int × Int × (Int × Int) × (Int × List (Int × Int) × List Int) × ByteArray × Int × List (Int × Int) × List (Int × Int)) → Int → Int → Int → Option ((Int × List ByteArray × List (Int × ByteArray × List Int × Int × (Int × Int) × (Int × List (Int × Int) × List Int) × ByteArray × Int × List (Int × Int) × List (Int × Int)) × Int × Int × Int) ⊕ (List ByteArray × List (Int × ByteArray × List Int × Int × (Int × Int) × (Int × List (Int × Int) × List Int) × ByteArray × Int × List (Int × Int) × List (Int × Int)) × Int × Int × Int)) := Nat.rec (fun _ _ _ _ _ _ _ _ => none) (fun _ r => Lflat_Check_0s k r) n
def Lflat_Check_2s (k : Nat) (rec : Nat → List (Int × ByteArray × List Int × Int × (Int × Int) × (Int × List (Int × Int) × List Int) × ByteArray × Int × List (Int × Int) × List (Int × Int)) → Int → Int → List ByteArray → List (Int × ByteArray × List Int × Int × (Int × Int) × (Int × List (Int × Int) × List Int) × ByteArray × Int × List (Int × Int) × List (Int × Int)) → Int → Int → Int → List ByteArray → Option ((Int × List ByteArray × List (Int × ByteArray × List Int × Int × (Int × Int) × (Int × List (Int × Int) × List Int) × ByteArray × Int × List (Int × Int) × List (Int × Int)) × Int × Int × Int × List ByteArray × Int × ByteArray × List Int × Int × Int × Int × Int × List (Int × Int) × List Int × ByteArray × Int × List (Int × Int) × List (Int × Int)) ⊕ (Nat × List ByteArray × List (Int × ByteArray × List Int × Int × (Int × Int) × (Int × List (Int × Int) × List Int) × ByteArray × Int × List (Int × Int) × List (Int × Int)) × Int × Int × Int × List ByteArray))) (names : Nat) (x : List (Int × ByteArray × List Int × Int × (Int × Int) × (Int × List (Int × Int) × List Int) × ByteArray × Int × List (Int × Int) × List (Int × Int))) (x1 : Int) (x2 : Int) (f0 : List ByteArray) (f1 : List (Int × ByteArray × List Int × Int × (Int × Int) × (Int × List (Int × Int) × List Int) × ByteArray × Int × List (Int × Int) × List (Int × Int))) (f2 : Int) (f3 : Int) (f4 : Int) (namess : List ByteArray) : Option ((Int × List ByteArray × List (Int × ByteArray × List Int × Int × (Int × Int) × (Int × List (Int × Int) × List Int) × ByteArray × Int × List (Int × Int) × List (Int × Int)) × Int × Int × Int × List ByteArray × Int × ByteArray × List Int × Int × Int × Int × Int × List (Int × Int) × List Int × ByteArray × Int × List (Int × Int) × List (Int × Int)) ⊕ (Nat × List ByteArray × List (Int × ByteArray × List Int × Int × (Int × Int) × (Int × List (Int × Int) × List Int) × ByteArray × Int × List (Int × Int) × List (Int × Int)) × Int × Int × Int × List ByteArray)) :=
  if ((decide (x2 < x1)) = true) then
    if ((0 : Int) ≤ x2) then
      Option.bind (x)[(Int.toNat x2)]? fun x3 =>
      Option.bind (Fflat_right k f0 f1 f2 f3 f4 x3.1 x3.2.1 x3.2.2.1 x3.2.2.2.1 x3.2.2.2.2.1.1 x3.2.2.2.2.1.2 x3.2.2.2.2.2.1.1 x3.2.2.2.2.2.1.2.1 x3.2.2.2.2.2.1.2.2 x3.2.2.2.2.2.2.1 x3.2.2.2.2.2.2.2.1 x3.2.2.2.2.2.2.2.2.1 x3.2.2.2.2.2.2.2.2.2) fun r4 =>
      if ((!r4) = true) then
        (some (Sum.inl ((90 : Int), f0, f1, f2, f3, f4, namess, x3.1, x3.2.1, x3.2.2.1, x3.2.2.2.1, x3.2.2.2.2.1.1, x3.2.2.2.2.1.2, x3.2.2.2.2.2.1.1, x3.2.2.2.2.2.1.2.1, x3.2.2.2.2.2.1.2.2, x3.2.2.2.2.2.2.1, x3.2.2.2.2.2.2.2.1, x3.2.2.2.2.2.2.2.2.1, x3.2.2.2.2.2.2.2.2.2)))
      else
      if (names ≤ (List.length namess)) then
        if (((names + (List.length (List.take 1 (x3.2.1 :: [])))) * 16) ≤ 140737488355328) then
          rec (names + (List.length (List.take 1 (x3.2.1 :: [])))) x x1 (IntKind.wrap .i64 (x2 + (1 : Int))) f0 f1 f2 f3 f4 ((List.take names namess) ++ (List.take 1 (x3.2.1 :: [])))
        else
        none
      else
      none
    else
    none
  else
  (some (Sum.inr (names, f0, f1, f2, f3, f4, namess)))
def Lflat_Check_2 (k n : Nat) : Nat → List (Int × ByteArray × List Int × Int × (Int × Int) × (Int × List (Int × Int) × List Int) × ByteArray × Int × List (Int × Int) × List (Int × Int)) → Int → Int → List ByteArray → List (Int × ByteArray × List Int × Int × (Int × Int) × (Int × List (Int × Int) × List Int) × ByteArray × Int × List (Int × Int) × List (Int × Int)) → Int → Int → Int → List ByteArray → Option ((Int × List ByteArray × List (Int × ByteArray × List Int × Int × (Int × Int) × (Int × List (Int × Int) × List Int) × ByteArray × Int × List (Int × Int) × List (Int × Int)) × Int × Int × Int × List ByteArray × Int × ByteArray × List Int × Int × Int × Int × Int × List (Int × Int) × List Int × ByteArray × Int × List (Int × Int) × List (Int × Int)) ⊕ (Nat × List ByteArray × List (Int × ByteArray × List Int × Int × (Int × Int) × (Int × List (Int × Int) × List Int) × ByteArray × Int × List (Int × Int) × List (Int × Int)) × Int × Int × Int × List ByteArray)) := Nat.rec (fun _ _ _ _ _ _ _ _ _ _ => none) (fun _ r => Lflat_Check_2s k r) n
def bflat_Check (k : Nat) (f0 : List ByteArray) (f1 : List (Int × ByteArray × List Int × Int × (Int × Int) × (Int × List (Int × Int) × List Int) × ByteArray × Int × List (Int × Int) × List (Int × Int))) (f2 : Int) (f3 : Int) (f4 : Int) : Option (Int) :=
  Option.bind (Fnum_Valid k f2 f3) fun r1 =>
  if ((!r1) = false) then
    if ((decide (f2 ≤ (0 : Int))) = false) then
      if ((f4 != (1 : Int)) = true) then
        if ((f4 != (2 : Int)) = true) then
          (some (90 : Int))
        else
        if ((decide ((((List.length f0) : Nat) : Int) < (1 : Int))) = false) then
          if ((decide ((((List.length f0) : Nat) : Int) > (32 : Int))) = false) then
            Option.bind (f0)[0]? fun x =>
            if ((!((Array.toList (ByteArray.data x)) == (Array.toList (ByteArray.data (ByteArray.mk (List.toArray (48 :: []))))))) = false) then
              if ((decide ((((List.length f1) : Nat) : Int) > (64 : Int))) = false) then
                Option.bind (Fflat_twice k f0) fun r2 =>
                if (r2 = true) then
                  (some (90 : Int))
                else
                Option.bind (Lflat_Check_0 k k f0 (((List.length f0) : Nat) : Int) (0 : Int) f0 f1 f2 f3 f4) fun r3 =>
                eitherK r3
                  (fun r3 =>
                  (some r3.1))
                  (fun r3 =>
                  Option.bind (Lflat_Check_2 k k 0 r3.2.1 (((List.length r3.2.1) : Nat) : Int) (0 : Int) r3.1 r3.2.1 r3.2.2.1 r3.2.2.2.1 r3.2.2.2.2 []) fun r4 =>
                  eitherK r4
                    (fun r4 =>
                    (some r4.1))
                    (fun r4 =>
                    if ((0 + r4.1) ≤ (List.length r4.2.2.2.2.2.2)) then
                      Option.bind (Fflat_twice k (List.take r4.1 r4.2.2.2.2.2.2)) fun r5 =>
                      if (r5 = true) then
                        (some (90 : Int))
                      else
                      Option.bind (Fflat_count k r4.2.1 r4.2.2.1 r4.2.2.2.1 r4.2.2.2.2.1 r4.2.2.2.2.2.1) fun r6 =>
                      if ((decide (r6.1 > (48 : Int))) = true) then
                        (some (5 : Int))
                      else
                      (some (0 : Int))
                    else
                    none))
              else
              (some (90 : Int))
            else
            (some (90 : Int))
          else
          (some (90 : Int))
        else
        (some (90 : Int))
      else
      if ((decide ((((List.length f0) : Nat) : Int) < (1 : Int))) = false) then
        if ((decide ((((List.length f0) : Nat) : Int) > (32 : Int))) = false) then
          Option.bind (f0)[0]? fun x =>
          if ((!((Array.toList (ByteArray.data x)) == (Array.toList (ByteArray.data (ByteArray.mk (List.toArray (48 :: []))))))) = false) then
            if ((decide ((((List.length f1) : Nat) : Int) > (64 : Int))) = false) then
              Option.bind (Fflat_twice k f0) fun r2 =>
              if (r2 = true) then
                (some (90 : Int))
              else
              Option.bind (Lflat_Check_0 k k f0 (((List.length f0) : Nat) : Int) (0 : Int) f0 f1 f2 f3 f4) fun r3 =>
              eitherK r3
                (fun r3 =>
                (some r3.1))
                (fun r3 =>
                Option.bind (Lflat_Check_2 k k 0 r3.2.1 (((List.length r3.2.1) : Nat) : Int) (0 : Int) r3.1 r3.2.1 r3.2.2.1 r3.2.2.2.1 r3.2.2.2.2 []) fun r4 =>
                eitherK r4
                  (fun r4 =>
                  (some r4.1))
                  (fun r4 =>
                  if ((0 + r4.1) ≤ (List.length r4.2.2.2.2.2.2)) then
                    Option.bind (Fflat_twice k (List.take r4.1 r4.2.2.2.2.2.2)) fun r5 =>
                    if (r5 = true) then
                      (some (90 : Int))
                    else
                    Option.bind (Fflat_count k r4.2.1 r4.2.2.1 r4.2.2.2.1 r4.2.2.2.2.1 r4.2.2.2.2.2.1) fun r6 =>
                    if ((decide (r6.1 > (48 : Int))) = true) then
                      (some (5 : Int))
                    else
                    (some (0 : Int))
                  else
                  none))
            else
            (some (90 : Int))
          else
          (some (90 : Int))
        else
        (some (90 : Int))
      else
      (some (90 : Int))
    else
    (some (90 : Int))
  else
  (some (90 : Int))
def Fflat_Check : Nat → List ByteArray → List (Int × ByteArray × List Int × Int × (Int × Int) × (Int × List (Int × Int) × List Int) × ByteArray × Int × List (Int × Int) × List (Int × Int)) → Int → Int → Int → Option (Int)
  | 0, _, _, _, _, _ => none
  | k + 1, f0, f1, f2, f3, f4 => bflat_Check k f0 f1 f2 f3 f4
def shflat_Check : FS := { vs := [.g [.lf (.sl .str), .lf (.sl (.pr (.int .u8) (.pr .str (.pr (.sl (.int .i64)) (.pr (.int .i64) (.pr (.pr (.int .i64) (.int .i64)) (.pr (.pr (.int .i64) (.pr (.sl (.pr (.int .i64) (.int .i64))) (.sl (.int .i64)))) (.pr .str (.pr (.int .u8) (.pr (.sl (.pr (.int .i64) (.int .i64))) (.sl (.pr (.int .i64) (.int .i64))))))))))))), .lf (.int .i64), .lf (.int .i64), .lf (.int .i64)]], bs := [] }
def rsflat_Check : List FS := [{ vs := [.a (.lf (.int .i64))], bs := [] }]
def Iflat_Check (k : Nat) : Inst := ⟨30, shflat_Check, rsflat_Check, fun x => Fflat_Check k x.1 x.2.1 x.2.2.1 x.2.2.2.1 x.2.2.2.2⟩
theorem alflat_Check (k : Nat) : AllI (call cf k) [Inum_Valid k, Iflat_twice k, Iflat_long k, Iflat_right k, Iflat_count k] := And.intro (oknum_Valid k) (And.intro (okflat_twice k) (And.intro (okflat_long k) (And.intro (okflat_right k) (And.intro (okflat_count k) (True.intro)))))
def hsflat_Check_0 : List SS := [{ fr := [(1, .a (.ptr 0 0 0)), (59, .a (.lf (.sl .str))), (60, .a (.lf (.int .i64))), (61, .a (.lf (.int .i64)))], mem := [(0, some (.raw [[.lf (.sl .str), .lf (.sl (.pr (.int .u8) (.pr .str (.pr (.sl (.int .i64)) (.pr (.int .i64) (.pr (.pr (.int .i64) (.int .i64)) (.pr (.pr (.int .i64) (.pr (.sl (.pr (.int .i64) (.int .i64))) (.sl (.int .i64)))) (.pr .str (.pr (.int .u8) (.pr (.sl (.pr (.int .i64) (.int .i64))) (.sl (.pr (.int .i64) (.int .i64))))))))))))), .lf (.int .i64), .lf (.int .i64), .lf (.int .i64)]] 5 27 true false false))], nx := 1 }]
def osflat_Check_0 : List OS := [⟨none, { fr := [(2, .a (.lf (.int .i64)))], mem := [(0, some (.raw [[.lf (.sl .str), .lf (.sl (.pr (.int .u8) (.pr .str (.pr (.sl (.int .i64)) (.pr (.int .i64) (.pr (.pr (.int .i64) (.int .i64)) (.pr (.pr (.int .i64) (.pr (.sl (.pr (.int .i64) (.int .i64))) (.sl (.int .i64)))) (.pr .str (.pr (.int .u8) (.pr (.sl (.pr (.int .i64) (.int .i64))) (.sl (.pr (.int .i64) (.int .i64))))))))))))), .lf (.int .i64), .lf (.int .i64), .lf (.int .i64)]] 5 27 true false false))], nx := 1 }⟩, ⟨some 0, { fr := [(1, .a (.ptr 0 0 0))], mem := [(0, some (.raw [[.lf (.sl .str), .lf (.sl (.pr (.int .u8) (.pr .str (.pr (.sl (.int .i64)) (.pr (.int .i64) (.pr (.pr (.int .i64) (.int .i64)) (.pr (.pr (.int .i64) (.pr (.sl (.pr (.int .i64) (.int .i64))) (.sl (.int .i64)))) (.pr .str (.pr (.int .u8) (.pr (.sl (.pr (.int .i64) (.int .i64))) (.sl (.pr (.int .i64) (.int .i64))))))))))))), .lf (.int .i64), .lf (.int .i64), .lf (.int .i64)]] 5 27 true false false))], nx := 1 }⟩]
def LIflat_Check_0 (k : Nat) : LInst := ⟨0, hsflat_Check_0, osflat_Check_0, fun x => Lflat_Check_0 k k x.1 x.2.1 x.2.2.1 x.2.2.2.1 x.2.2.2.2.1 x.2.2.2.2.2.1 x.2.2.2.2.2.2.1 x.2.2.2.2.2.2.2⟩
theorem anflat_Check_0 (k : Nat) : LAll (LOk (R := DS OS.D osflat_Check_0) (fun b _ σ K => LOt Ty (kps 30) 0 b σ K []) cf (call cf k) (kps 30) Tryd.f30.ntmps k 0) 0 (lb Tryd.f30 0) :=
  And.intro (True.intro) (And.intro (And.intro (True.intro) (True.intro)) (And.intro (And.intro (True.intro) (And.intro (True.intro) (And.intro (And.intro (True.intro) (True.intro)) (True.intro)))) (True.intro)))
theorem stflat_Check_0 (k n : Nat) (x : DS SS.D hsflat_Check_0) : Lflat_Check_0 k (n + 1) x.1 x.2.1 x.2.2.1 x.2.2.2.1 x.2.2.2.2.1 x.2.2.2.2.2.1 x.2.2.2.2.2.2.1 x.2.2.2.2.2.2.2 = encSK SS.enc (fun σ => run2 cf (fun f a b K => COt f a b K [Inum_Valid k, Iflat_twice k, Iflat_long k, Iflat_right k, Iflat_count k]) (fun b _ σ K => LOt Ty (kps 30) 0 b σ K []) Tryd.f30.ntmps 0 (lb Tryd.f30 0) σ (nextK Ty (kps 30 0) 0 hsflat_Check_0 osflat_Check_0 fun x => Lflat_Check_0 k n x.1 x.2.1 x.2.2.1 x.2.2.2.1 x.2.2.2.2.1 x.2.2.2.2.2.1 x.2.2.2.2.2.2.1 x.2.2.2.2.2.2.2)) hsflat_Check_0 x := by kernel_rfl
theorem loflat_Check_0 (k : Nat) : LIOk cf (call cf k) (kps 30) Tryd.f30.ntmps k 0 0 (lb Tryd.f30 0) (LIflat_Check_0 k) :=
  loop_ok (c := cf) (callF := call cf k) (kp := kps 30) (nt := Tryd.f30.ntmps) (k := k) (p := 0) (b := 0) (x0 := lb Tryd.f30 0) (hs := hsflat_Check_0) (os := osflat_Check_0) (COt_ok (alflat_Check k)) (anflat_Check_0 k) (fun n x => Lflat_Check_0 k n x.1 x.2.1 x.2.2.1 x.2.2.2.1 x.2.2.2.2.1 x.2.2.2.2.2.1 x.2.2.2.2.2.2.1 x.2.2.2.2.2.2.2) (fun _ => rfl) (stflat_Check_0 k)
def hsflat_Check_2 : List SS := [{ fr := [(1, .a (.ptr 0 0 0)), (5, .a (.smz 1)), (70, .a (.lf (.sl (.pr (.int .u8) (.pr .str (.pr (.sl (.int .i64)) (.pr (.int .i64) (.pr (.pr (.int .i64) (.int .i64)) (.pr (.pr (.int .i64) (.pr (.sl (.pr (.int .i64) (.int .i64))) (.sl (.int .i64)))) (.pr .str (.pr (.int .u8) (.pr (.sl (.pr (.int .i64) (.int .i64))) (.sl (.pr (.int .i64) (.int .i64))))))))))))))), (71, .a (.lf (.int .i64))), (72, .a (.lf (.int .i64)))], mem := [(0, some (.raw [[.lf (.sl .str), .lf (.sl (.pr (.int .u8) (.pr .str (.pr (.sl (.int .i64)) (.pr (.int .i64) (.pr (.pr (.int .i64) (.int .i64)) (.pr (.pr (.int .i64) (.pr (.sl (.pr (.int .i64) (.int .i64))) (.sl (.int .i64)))) (.pr .str (.pr (.int .u8) (.pr (.sl (.pr (.int .i64) (.int .i64))) (.sl (.pr (.int .i64) (.int .i64))))))))))))), .lf (.int .i64), .lf (.int .i64), .lf (.int .i64)]] 5 27 true false false)), (1, some (.arr .str 1 9 false))], nx := 2 }]
def osflat_Check_2 : List OS := [⟨none, { fr := [(2, .a (.lf (.int .i64)))], mem := [(0, some (.raw [[.lf (.sl .str), .lf (.sl (.pr (.int .u8) (.pr .str (.pr (.sl (.int .i64)) (.pr (.int .i64) (.pr (.pr (.int .i64) (.int .i64)) (.pr (.pr (.int .i64) (.pr (.sl (.pr (.int .i64) (.int .i64))) (.sl (.int .i64)))) (.pr .str (.pr (.int .u8) (.pr (.sl (.pr (.int .i64) (.int .i64))) (.sl (.pr (.int .i64) (.int .i64))))))))))))), .lf (.int .i64), .lf (.int .i64), .lf (.int .i64)]] 5 27 true false false)), (1, some (.arr .str 1 9 false)), (2, some (.raw [[.lf (.int .u8), .lf .str, .lf (.sl (.int .i64)), .lf (.int .i64), .lf (.int .i64), .lf (.int .i64), .lf (.int .i64), .lf (.sl (.pr (.int .i64) (.int .i64))), .lf (.sl (.int .i64)), .lf .str, .lf (.int .u8), .lf (.sl (.pr (.int .i64) (.int .i64))), .lf (.sl (.pr (.int .i64) (.int .i64)))]] 13 38 true false false))], nx := 3 }⟩, ⟨some 2, { fr := [(1, .a (.ptr 0 0 0)), (5, .a (.smz 1))], mem := [(0, some (.raw [[.lf (.sl .str), .lf (.sl (.pr (.int .u8) (.pr .str (.pr (.sl (.int .i64)) (.pr (.int .i64) (.pr (.pr (.int .i64) (.int .i64)) (.pr (.pr (.int .i64) (.pr (.sl (.pr (.int .i64) (.int .i64))) (.sl (.int .i64)))) (.pr .str (.pr (.int .u8) (.pr (.sl (.pr (.int .i64) (.int .i64))) (.sl (.pr (.int .i64) (.int .i64))))))))))))), .lf (.int .i64), .lf (.int .i64), .lf (.int .i64)]] 5 27 true false false)), (1, some (.arr .str 1 9 false))], nx := 2 }⟩]
def LIflat_Check_2 (k : Nat) : LInst := ⟨2, hsflat_Check_2, osflat_Check_2, fun x => Lflat_Check_2 k k x.1 x.2.1 x.2.2.1 x.2.2.2.1 x.2.2.2.2.1 x.2.2.2.2.2.1 x.2.2.2.2.2.2.1 x.2.2.2.2.2.2.2.1 x.2.2.2.2.2.2.2.2.1 x.2.2.2.2.2.2.2.2.2⟩
theorem anflat_Check_2 (k : Nat) : LAll (LOk (R := DS OS.D osflat_Check_2) (fun b _ σ K => LOt Ty (kps 30) 0 b σ K [LIflat_Check_0 k]) cf (call cf k) (kps 30) Tryd.f30.ntmps k 0) 2 (lb Tryd.f30 1) :=
  And.intro (True.intro) (And.intro (And.intro (True.intro) (True.intro)) (And.intro (And.intro (True.intro) (And.intro (And.intro (True.intro) (And.intro (And.intro (True.intro) (True.intro)) (True.intro))) (True.intro))) (True.intro)))
theorem stflat_Check_2 (k n : Nat) (x : DS SS.D hsflat_Check_2) : Lflat_Check_2 k (n + 1) x.1 x.2.1 x.2.2.1 x.2.2.2.1 x.2.2.2.2.1 x.2.2.2.2.2.1 x.2.2.2.2.2.2.1 x.2.2.2.2.2.2.2.1 x.2.2.2.2.2.2.2.2.1 x.2.2.2.2.2.2.2.2.2 = encSK SS.enc (fun σ => run2 cf (fun f a b K => COt f a b K [Inum_Valid k, Iflat_twice k, Iflat_long k, Iflat_right k, Iflat_count k]) (fun b _ σ K => LOt Ty (kps 30) 0 b σ K [LIflat_Check_0 k]) Tryd.f30.ntmps 2 (lb Tryd.f30 1) σ (nextK Ty (kps 30 2) 0 hsflat_Check_2 osflat_Check_2 fun x => Lflat_Check_2 k n x.1 x.2.1 x.2.2.1 x.2.2.2.1 x.2.2.2.2.1 x.2.2.2.2.2.1 x.2.2.2.2.2.2.1 x.2.2.2.2.2.2.2.1 x.2.2.2.2.2.2.2.2.1 x.2.2.2.2.2.2.2.2.2)) hsflat_Check_2 x := by kernel_rfl
theorem loflat_Check_2 (k : Nat) : LIOk cf (call cf k) (kps 30) Tryd.f30.ntmps k 0 2 (lb Tryd.f30 1) (LIflat_Check_2 k) :=
  loop_ok (c := cf) (callF := call cf k) (kp := kps 30) (nt := Tryd.f30.ntmps) (k := k) (p := 0) (b := 2) (x0 := lb Tryd.f30 1) (hs := hsflat_Check_2) (os := osflat_Check_2) (COt_ok (alflat_Check k)) (anflat_Check_2 k) (fun n x => Lflat_Check_2 k n x.1 x.2.1 x.2.2.1 x.2.2.2.1 x.2.2.2.2.1 x.2.2.2.2.2.1 x.2.2.2.2.2.2.1 x.2.2.2.2.2.2.2.1 x.2.2.2.2.2.2.2.2.1 x.2.2.2.2.2.2.2.2.2) (fun _ => rfl) (stflat_Check_2 k)
theorem anflat_Check (k : Nat) : LAll (LOk (R := DS FS.D rsflat_Check) (fun b _ σ K => LOt Ty (kps 30) 0 b σ K [LIflat_Check_0 k, LIflat_Check_2 k]) cf (call cf k) (cf.keep 30) Tryd.f30.ntmps k shflat_Check.bs.length) 0 (bd Tryd.f30) :=
  And.intro (True.intro) (And.intro (And.intro (True.intro) (And.intro (And.intro (True.intro) (True.intro)) (True.intro))) (And.intro (And.intro (True.intro) (And.intro (And.intro (True.intro) (True.intro)) (True.intro))) (And.intro (And.intro (True.intro) (LOt_ok (c := cf) (callF := call cf k) (kp := kps 30) (nt := Tryd.f30.ntmps) (k := k) (p := 0) (b := 0) (x0 := lb Tryd.f30 0) (l := [LIflat_Check_0 k, LIflat_Check_2 k]) (And.intro (fun _ => loflat_Check_0 k) (And.intro (fun h => absurd (show (2 : Nat) = 0 from h) (by decide)) (True.intro))))) (And.intro (True.intro) (And.intro (And.intro (True.intro) (LOt_ok (c := cf) (callF := call cf k) (kp := kps 30) (nt := Tryd.f30.ntmps) (k := k) (p := 0) (b := 2) (x0 := lb Tryd.f30 1) (l := [LIflat_Check_0 k, LIflat_Check_2 k]) (And.intro (fun h => absurd (show (0 : Nat) = 2 from h) (by decide)) (And.intro (fun _ => loflat_Check_2 k) (True.intro))))) (And.intro (And.intro (True.intro) (And.intro (And.intro (True.intro) (True.intro)) (True.intro))) (And.intro (And.intro (True.intro) (And.intro (True.intro) (And.intro (And.intro (True.intro) (True.intro)) (True.intro)))) (And.intro (True.intro) (True.intro)))))))))
theorem stflat_Check (k : Nat) (x : shflat_Check.D) : Fflat_Check (k + 1) x.1 x.2.1 x.2.2.1 x.2.2.2.1 x.2.2.2.2 = body2 cf (fun f a b K => COt f a b K [Inum_Valid k, Iflat_twice k, Iflat_long k, Iflat_right k, Iflat_count k]) (fun b _ σ K => LOt Ty (kps 30) 0 b σ K [LIflat_Check_0 k, LIflat_Check_2 k]) 30 Tryd.f30.ntmps Tryd.f30.results.toList (bd Tryd.f30) (shflat_Check.enc x).1 (shflat_Check.enc x).2 (putS FS.dec rsflat_Check) := by kernel_rfl
theorem okflat_Check : ∀ k, InstOk (call cf k) (Iflat_Check k)
  | 0 => fun x y e => absurd (show (none : Option _) = some y from e) (by simp)
  | k + 1 => inst_ok (c := cf) (k := k) (f := 30) (fn := Tryd.f30) (body := bd Tryd.f30) (sh := shflat_Check) (os := rsflat_Check) rfl Tryd.func30 rfl ⟨rfl, Nat.le_of_ble_eq_true rfl⟩ (COt_ok (alflat_Check k)) (anflat_Check k) (fun x => Fflat_Check (k + 1) x.1 x.2.1 x.2.2.1 x.2.2.2.1 x.2.2.2.2) (stflat_Check k)


end
end Go.Proofs.YtlnailgfialgnaaDoor.Am

/- Printed functions: each says what the typed machine says of the program -/
set_option linter.unusedVariables false
set_option maxRecDepth 100000
namespace Go.Proofs.YtlnailgfialgnaaDoor.Am
open Go
noncomputable section

/-! shunt/topo.look -/
def btopo_look (k : Nat) (f0 : List ByteArray) (f1 : List (Int × ByteArray × List Int × Int × (Int × Int) × (Int × List (Int × Int) × List Int) × ByteArray × Int × List (Int × Int) × List (Int × Int))) (f2 : Int) (f3 : Int) (f4 : Int) (mode : Int) : Option (Int) :=
  Option.bind (Fflat_Check k f0 f1 f2 f3 f4) fun r =>
  if ((r != (0 : Int)) = true) then
    (some r)
  else
  if ((mode != (1 : Int)) = true) then
    if ((mode != (2 : Int)) = true) then
      (some (110 : Int))
    else
    (some (0 : Int))
  else
  (some (0 : Int))
def Ftopo_look : Nat → List ByteArray → List (Int × ByteArray × List Int × Int × (Int × Int) × (Int × List (Int × Int) × List Int) × ByteArray × Int × List (Int × Int) × List (Int × Int)) → Int → Int → Int → Int → Option (Int)
  | 0, _, _, _, _, _, _ => none
  | k + 1, f0, f1, f2, f3, f4, mode => btopo_look k f0 f1 f2 f3 f4 mode
def shtopo_look : FS := { vs := [.g [.lf (.sl .str), .lf (.sl (.pr (.int .u8) (.pr .str (.pr (.sl (.int .i64)) (.pr (.int .i64) (.pr (.pr (.int .i64) (.int .i64)) (.pr (.pr (.int .i64) (.pr (.sl (.pr (.int .i64) (.int .i64))) (.sl (.int .i64)))) (.pr .str (.pr (.int .u8) (.pr (.sl (.pr (.int .i64) (.int .i64))) (.sl (.pr (.int .i64) (.int .i64))))))))))))), .lf (.int .i64), .lf (.int .i64), .lf (.int .i64)], .a (.lf (.int .i64))], bs := [] }
def rstopo_look : List FS := [{ vs := [.a (.lf (.int .i64))], bs := [] }]
def Itopo_look (k : Nat) : Inst := ⟨20, shtopo_look, rstopo_look, fun x => Ftopo_look k x.1 x.2.1 x.2.2.1 x.2.2.2.1 x.2.2.2.2.1 x.2.2.2.2.2⟩
theorem altopo_look (k : Nat) : AllI (call cf k) [Iflat_Check k] := And.intro (okflat_Check k) (True.intro)
theorem antopo_look (k : Nat) : LAll (LOk (R := DS FS.D rstopo_look) (fun b _ σ K => LOt Ty (kps 20) 0 b σ K []) cf (call cf k) (cf.keep 20) Tryd.f20.ntmps k shtopo_look.bs.length) 0 (bd Tryd.f20) :=
  And.intro (True.intro) (And.intro (And.intro (True.intro) (And.intro (True.intro) (And.intro (And.intro (True.intro) (True.intro)) (True.intro)))) (And.intro (And.intro (True.intro) (And.intro (And.intro (True.intro) (True.intro)) (True.intro))) (And.intro (True.intro) (True.intro))))
theorem sttopo_look (k : Nat) (x : shtopo_look.D) : Ftopo_look (k + 1) x.1 x.2.1 x.2.2.1 x.2.2.2.1 x.2.2.2.2.1 x.2.2.2.2.2 = body2 cf (fun f a b K => COt f a b K [Iflat_Check k]) (fun b _ σ K => LOt Ty (kps 20) 0 b σ K []) 20 Tryd.f20.ntmps Tryd.f20.results.toList (bd Tryd.f20) (shtopo_look.enc x).1 (shtopo_look.enc x).2 (putS FS.dec rstopo_look) := by kernel_rfl
theorem oktopo_look : ∀ k, InstOk (call cf k) (Itopo_look k)
  | 0 => fun x y e => absurd (show (none : Option _) = some y from e) (by simp)
  | k + 1 => inst_ok (c := cf) (k := k) (f := 20) (fn := Tryd.f20) (body := bd Tryd.f20) (sh := shtopo_look) (os := rstopo_look) rfl Tryd.func20 rfl ⟨rfl, Nat.le_of_ble_eq_true rfl⟩ (COt_ok (altopo_look k)) (antopo_look k) (fun x => Ftopo_look (k + 1) x.1 x.2.1 x.2.2.1 x.2.2.2.1 x.2.2.2.2.1 x.2.2.2.2.2) (sttopo_look k)

/-! shunt/topo.newSets -/
def Ltopo_newSets_0s (k : Nat) (rec : Nat → Int → Int → List Int → Option (Nat × List Int)) (s : Nat) (x : Int) (x1 : Int) (ss : List Int) : Option (Nat × List Int) :=
  if ((decide (x1 < x)) = true) then
    if (((0 : Int) ≤ x1) ∧ (x1 < ((s : Nat) : Int))) then
      Option.bind (ss)[(0 + (Int.toNat x1))]? fun x2 =>
      rec s x (IntKind.wrap .i64 (x1 + (1 : Int))) (List.set ss (0 + (Int.toNat x1)) x1)
    else
    none
  else
  (some (s, ss))
def Ltopo_newSets_0 (k n : Nat) : Nat → Int → Int → List Int → Option (Nat × List Int) := Nat.rec (fun _ _ _ _ => none) (fun _ r => Ltopo_newSets_0s k r) n
def btopo_newSets (k : Nat) (n : Int) : Option (Nat × List Int) :=
  if (((0 : Int) ≤ n) ∧ ((n ≤ n) ∧ ((n * (8 : Int)) ≤ (140737488355328 : Int)))) then
    Option.bind (Ltopo_newSets_0 k k (Int.toNat n) n (0 : Int) (List.replicate (Int.toNat n) (0 : Int))) fun r1 =>
    (some (r1.1, r1.2))
  else
  none
def Ftopo_newSets : Nat → Int → Option (Nat × List Int)
  | 0, _ => none
  | k + 1, n => btopo_newSets k n
def shtopo_newSets : FS := { vs := [.a (.lf (.int .i64))], bs := [] }
def rstopo_newSets : List FS := [{ vs := [.a (.smz 0)], bs := [.arr (.int .i64) 1 3 false] }]
def Itopo_newSets (k : Nat) : Inst := ⟨21, shtopo_newSets, rstopo_newSets, fun x => Ftopo_newSets k x⟩
theorem altopo_newSets (k : Nat) : AllI (call cf k) [] := True.intro
def hstopo_newSets_0 : List SS := [{ fr := [(3, .a (.smz 0)), (7, .a (.lf (.int .i64))), (8, .a (.lf (.int .i64)))], mem := [(0, some (.arr (.int .i64) 1 3 false))], nx := 1 }]
def ostopo_newSets_0 : List OS := [⟨some 0, { fr := [(3, .a (.smz 0))], mem := [(0, some (.arr (.int .i64) 1 3 false))], nx := 1 }⟩]
def LItopo_newSets_0 (k : Nat) : LInst := ⟨0, hstopo_newSets_0, ostopo_newSets_0, fun x => Ltopo_newSets_0 k k x.1 x.2.1 x.2.2.1 x.2.2.2⟩
theorem antopo_newSets_0 (k : Nat) : LAll (LOk (R := DS OS.D ostopo_newSets_0) (fun b _ σ K => LOt Ty (kps 21) 0 b σ K []) cf (call cf k) (kps 21) Tryd.f21.ntmps k 0) 0 (lb Tryd.f21 0) :=
  And.intro (True.intro) (And.intro (And.intro (True.intro) (True.intro)) (And.intro (And.intro (True.intro) (True.intro)) (True.intro)))
theorem sttopo_newSets_0 (k n : Nat) (x : DS SS.D hstopo_newSets_0) : Ltopo_newSets_0 k (n + 1) x.1 x.2.1 x.2.2.1 x.2.2.2 = encSK SS.enc (fun σ => run2 cf (fun f a b K => COt f a b K []) (fun b _ σ K => LOt Ty (kps 21) 0 b σ K []) Tryd.f21.ntmps 0 (lb Tryd.f21 0) σ (nextK Ty (kps 21 0) 0 hstopo_newSets_0 ostopo_newSets_0 fun x => Ltopo_newSets_0 k n x.1 x.2.1 x.2.2.1 x.2.2.2)) hstopo_newSets_0 x := by kernel_rfl
theorem lotopo_newSets_0 (k : Nat) : LIOk cf (call cf k) (kps 21) Tryd.f21.ntmps k 0 0 (lb Tryd.f21 0) (LItopo_newSets_0 k) :=
  loop_ok (c := cf) (callF := call cf k) (kp := kps 21) (nt := Tryd.f21.ntmps) (k := k) (p := 0) (b := 0) (x0 := lb Tryd.f21 0) (hs := hstopo_newSets_0) (os := ostopo_newSets_0) (COt_ok (altopo_newSets k)) (antopo_newSets_0 k) (fun n x => Ltopo_newSets_0 k n x.1 x.2.1 x.2.2.1 x.2.2.2) (fun _ => rfl) (sttopo_newSets_0 k)
theorem antopo_newSets (k : Nat) : LAll (LOk (R := DS FS.D rstopo_newSets) (fun b _ σ K => LOt Ty (kps 21) 0 b σ K [LItopo_newSets_0 k]) cf (call cf k) (cf.keep 21) Tryd.f21.ntmps k shtopo_newSets.bs.length) 0 (bd Tryd.f21) :=
  And.intro (True.intro) (And.intro (True.intro) (And.intro (And.intro (True.intro) (LOt_ok (c := cf) (callF := call cf k) (kp := kps 21) (nt := Tryd.f21.ntmps) (k := k) (p := 0) (b := 0) (x0 := lb Tryd.f21 0) (l := [LItopo_newSets_0 k]) (And.intro (fun _ => lotopo_newSets_0 k) (True.intro)))) (And.intro (True.intro) (True.intro))))
theorem sttopo_newSets (k : Nat) (x : shtopo_newSets.D) : Ftopo_newSets (k + 1) x = body2 cf (fun f a b K => COt f a b K []) (fun b _ σ K => LOt Ty (kps 21) 0 b σ K [LItopo_newSets_0 k]) 21 Tryd.f21.ntmps Tryd.f21.results.toList (bd Tryd.f21) (shtopo_newSets.enc x).1 (shtopo_newSets.enc x).2 (putS FS.dec rstopo_newSets) := by kernel_rfl
theorem oktopo_newSets : ∀ k, InstOk (call cf k) (Itopo_newSets k)
  | 0 => fun x y e => absurd (show (none : Option _) = some y from e) (by simp)
  | k + 1 => inst_ok (c := cf) (k := k) (f := 21) (fn := Tryd.f21) (body := bd Tryd.f21) (sh := shtopo_newSets) (os := rstopo_newSets) rfl Tryd.func21 rfl ⟨rfl, Nat.le_of_ble_eq_true rfl⟩ (COt_ok (altopo_newSets k)) (antopo_newSets k) (fun x => Ftopo_newSets (k + 1) x) (sttopo_newSets k)

/-! (shunt/topo.sets).root -/
def L_topo_sets_root_kxy_0s (k : Nat) (rec : Nat → Int → List Int → Option (Int × List Int)) (s : Nat) (i : Int) (ss : List Int) : Option (Int × List Int) :=
  if (((0 : Int) ≤ i) ∧ (i < ((s : Nat) : Int))) then
    Option.bind (ss)[(0 + (Int.toNat i))]? fun x6 =>
    if ((x6 != i) = true) then
      if (((0 : Int) ≤ i) ∧ (i < ((s : Nat) : Int))) then
        Option.bind (ss)[(0 + (Int.toNat i))]? fun x7 =>
        if (((0 : Int) ≤ x7) ∧ (x7 < ((s : Nat) : Int))) then
          Option.bind (ss)[(0 + (Int.toNat x7))]? fun x8 =>
          if (((0 : Int) ≤ i) ∧ (i < ((s : Nat) : Int))) then
            Option.bind (ss)[(0 + (Int.toNat i))]? fun x9 =>
            if (((0 : Int) ≤ i) ∧ (i < ((s : Nat) : Int))) then
              Option.bind ((List.set ss (0 + (Int.toNat i)) x8))[(0 + (Int.toNat i))]? fun x10 =>
              rec s x10 (List.set ss (0 + (Int.toNat i)) x8)
            else
            none
          else
          none
        else
        none
      else
      none
    else
    (some (i, ss))
  else
  none
def L_topo_sets_root_kxy_0 (k n : Nat) : Nat → Int → List Int → Option (Int × List Int) := Nat.rec (fun _ _ _ => none) (fun _ r => L_topo_sets_root_kxy_0s k r) n
def b_topo_sets_root_kxy (k : Nat) (s : Nat) (i : Int) (ss : List Int) : Option (Int × List Int) :=
  Option.bind (L_topo_sets_root_kxy_0 k k s i ss) fun r3 =>
  (some (r3.1, r3.2))
def F_topo_sets_root_kxy : Nat → Nat → Int → List Int → Option (Int × List Int)
  | 0, _, _, _ => none
  | k + 1, s, i, ss => b_topo_sets_root_kxy k s i ss
def sh_topo_sets_root_kxy : FS := { vs := [.a (.smz 0), .a (.lf (.int .i64))], bs := [.arr (.int .i64) 1 3 false] }
def rs_topo_sets_root_kxy : List FS := [{ vs := [.a (.lf (.int .i64))], bs := [.arr (.int .i64) 1 3 false] }]
def I_topo_sets_root_kxy (k : Nat) : Inst := ⟨24, sh_topo_sets_root_kxy, rs_topo_sets_root_kxy, fun x => F_topo_sets_root_kxy k x.1 x.2.1 x.2.2⟩
theorem al_topo_sets_root_kxy (k : Nat) : AllI (call cf k) [] := True.intro
def hs_topo_sets_root_kxy_0 : List SS := [{ fr := [(0, .a (.smz 0)), (1, .a (.lf (.int .i64)))], mem := [(0, some (.arr (.int .i64) 1 3 false))], nx := 1 }]
def os_topo_sets_root_kxy_0 : List OS := [⟨some 0, { fr := [(1, .a (.lf (.int .i64)))], mem := [(0, some (.arr (.int .i64) 1 3 false))], nx := 1 }⟩]
def LI_topo_sets_root_kxy_0 (k : Nat) : LInst := ⟨0, hs_topo_sets_root_kxy_0, os_topo_sets_root_kxy_0, fun x => L_topo_sets_root_kxy_0 k k x.1 x.2.1 x.2.2⟩
theorem an_topo_sets_root_kxy_0 (k : Nat) : LAll (LOk (R := DS OS.D os_topo_sets_root_kxy_0) (fun b _ σ K => LOt Ty (kps 24) 1 b σ K []) cf (call cf k) (kps 24) Tryd.f24.ntmps k 1) 0 (lb Tryd.f24 0) :=
  And.intro (And.intro (True.intro) (And.intro (True.intro) (True.intro))) (And.intro (True.intro) (True.intro))
theorem st_topo_sets_root_kxy_0 (k n : Nat) (x : DS SS.D hs_topo_sets_root_kxy_0) : L_topo_sets_root_kxy_0 k (n + 1) x.1 x.2.1 x.2.2 = encSK SS.enc (fun σ => run2 cf (fun f a b K => COt f a b K []) (fun b _ σ K => LOt Ty (kps 24) 1 b σ K []) Tryd.f24.ntmps 0 (lb Tryd.f24 0) σ (nextK Ty (kps 24 0) 1 hs_topo_sets_root_kxy_0 os_topo_sets_root_kxy_0 fun x => L_topo_sets_root_kxy_0 k n x.1 x.2.1 x.2.2)) hs_topo_sets_root_kxy_0 x := by kernel_rfl
theorem lo_topo_sets_root_kxy_0 (k : Nat) : LIOk cf (call cf k) (kps 24) Tryd.f24.ntmps k 1 0 (lb Tryd.f24 0) (LI_topo_sets_root_kxy_0 k) :=
  loop_ok (c := cf) (callF := call cf k) (kp := kps 24) (nt := Tryd.f24.ntmps) (k := k) (p := 1) (b := 0) (x0 := lb Tryd.f24 0) (hs := hs_topo_sets_root_kxy_0) (os := os_topo_sets_root_kxy_0) (COt_ok (al_topo_sets_root_kxy k)) (an_topo_sets_root_kxy_0 k) (fun n x => L_topo_sets_root_kxy_0 k n x.1 x.2.1 x.2.2) (fun _ => rfl) (st_topo_sets_root_kxy_0 k)
theorem an_topo_sets_root_kxy (k : Nat) : LAll (LOk (R := DS FS.D rs_topo_sets_root_kxy) (fun b _ σ K => LOt Ty (kps 24) 1 b σ K [LI_topo_sets_root_kxy_0 k]) cf (call cf k) (cf.keep 24) Tryd.f24.ntmps k sh_topo_sets_root_kxy.bs.length) 0 (bd Tryd.f24) :=
  And.intro (True.intro) (And.intro (LOt_ok (c := cf) (callF := call cf k) (kp := kps 24) (nt := Tryd.f24.ntmps) (k := k) (p := 1) (b := 0) (x0 := lb Tryd.f24 0) (l := [LI_topo_sets_root_kxy_0 k]) (And.intro (fun _ => lo_topo_sets_root_kxy_0 k) (True.intro))) (And.intro (True.intro) (True.intro)))
theorem st_topo_sets_root_kxy (k : Nat) (x : sh_topo_sets_root_kxy.D) : F_topo_sets_root_kxy (k + 1) x.1 x.2.1 x.2.2 = body2 cf (fun f a b K => COt f a b K []) (fun b _ σ K => LOt Ty (kps 24) 1 b σ K [LI_topo_sets_root_kxy_0 k]) 24 Tryd.f24.ntmps Tryd.f24.results.toList (bd Tryd.f24) (sh_topo_sets_root_kxy.enc x).1 (sh_topo_sets_root_kxy.enc x).2 (putS FS.dec rs_topo_sets_root_kxy) := by kernel_rfl
theorem ok_topo_sets_root_kxy : ∀ k, InstOk (call cf k) (I_topo_sets_root_kxy k)
  | 0 => fun x y e => absurd (show (none : Option _) = some y from e) (by simp)
  | k + 1 => inst_ok (c := cf) (k := k) (f := 24) (fn := Tryd.f24) (body := bd Tryd.f24) (sh := sh_topo_sets_root_kxy) (os := rs_topo_sets_root_kxy) rfl Tryd.func24 rfl ⟨rfl, Nat.le_of_ble_eq_true rfl⟩ (COt_ok (al_topo_sets_root_kxy k)) (an_topo_sets_root_kxy k) (fun x => F_topo_sets_root_kxy (k + 1) x.1 x.2.1 x.2.2) (st_topo_sets_root_kxy k)

/-! (shunt/topo.sets).join -/
def b_topo_sets_join_flf (k : Nat) (s : Nat) (a : Int) (b : Int) (ss : List Int) : Option (Bool × List Int) :=
  Option.bind (F_topo_sets_root_kxy k s a ss) fun r3 =>
  Option.bind (F_topo_sets_root_kxy k s b r3.2) fun r4 =>
  if (((0 : Int) ≤ r3.1) ∧ (r3.1 < ((s : Nat) : Int))) then
    Option.bind (r4.2)[(0 + (Int.toNat r3.1))]? fun x6 =>
    (some ((r3.1 != r4.1), (List.set r4.2 (0 + (Int.toNat r3.1)) r4.1)))
  else
  none
def F_topo_sets_join_flf : Nat → Nat → Int → Int → List Int → Option (Bool × List Int)
  | 0, _, _, _, _ => none
  | k + 1, s, a, b, ss => b_topo_sets_join_flf k s a b ss
def sh_topo_sets_join_flf : FS := { vs := [.a (.smz 0), .a (.lf (.int .i64)), .a (.lf (.int .i64))], bs := [.arr (.int .i64) 1 3 false] }
def rs_topo_sets_join_flf : List FS := [{ vs := [.a (.lf .bool)], bs := [.arr (.int .i64) 1 3 false] }]
def I_topo_sets_join_flf (k : Nat) : Inst := ⟨23, sh_topo_sets_join_flf, rs_topo_sets_join_flf, fun x => F_topo_sets_join_flf k x.1 x.2.1 x.2.2.1 x.2.2.2⟩
theorem al_topo_sets_join_flf (k : Nat) : AllI (call cf k) [I_topo_sets_root_kxy k] := And.intro (ok_topo_sets_root_kxy k) (True.intro)
theorem an_topo_sets_join_flf (k : Nat) : LAll (LOk (R := DS FS.D rs_topo_sets_join_flf) (fun b _ σ K => LOt Ty (kps 23) 1 b σ K []) cf (call cf k) (cf.keep 23) Tryd.f23.ntmps k sh_topo_sets_join_flf.bs.length) 0 (bd Tryd.f23) :=
  And.intro (True.intro) (And.intro (True.intro) (And.intro (True.intro) (And.intro (True.intro) (True.intro))))
theorem st_topo_sets_join_flf (k : Nat) (x : sh_topo_sets_join_flf.D) : F_topo_sets_join_flf (k + 1) x.1 x.2.1 x.2.2.1 x.2.2.2 = body2 cf (fun f a b K => COt f a b K [I_topo_sets_root_kxy k]) (fun b _ σ K => LOt Ty (kps 23) 1 b σ K []) 23 Tryd.f23.ntmps Tryd.f23.results.toList (bd Tryd.f23) (sh_topo_sets_join_flf.enc x).1 (sh_topo_sets_join_flf.enc x).2 (putS FS.dec rs_topo_sets_join_flf) := by kernel_rfl
theorem ok_topo_sets_join_flf : ∀ k, InstOk (call cf k) (I_topo_sets_join_flf k)
  | 0 => fun x y e => absurd (show (none : Option _) = some y from e) (by simp)
  | k + 1 => inst_ok (c := cf) (k := k) (f := 23) (fn := Tryd.f23) (body := bd Tryd.f23) (sh := sh_topo_sets_join_flf) (os := rs_topo_sets_join_flf) rfl Tryd.func23 rfl ⟨rfl, Nat.le_of_ble_eq_true rfl⟩ (COt_ok (al_topo_sets_join_flf k)) (an_topo_sets_join_flf k) (fun x => F_topo_sets_join_flf (k + 1) x.1 x.2.1 x.2.2.1 x.2.2.2) (st_topo_sets_join_flf k)

/-! shunt/topo.Floats -/
def Ltopo_Floats_0s (k : Nat) (rec : Nat → ByteArray → List (Int × ByteArray × List Int × Int × (Int × Int) × (Int × List (Int × Int) × List Int) × ByteArray × Int × List (Int × Int) × List (Int × Int)) → Int → Int → List ByteArray → List (Int × ByteArray × List Int × Int × (Int × Int) × (Int × List (Int × Int) × List Int) × ByteArray × Int × List (Int × Int) × List (Int × Int)) → Int → Int → Int → List Int → Option (Nat × List ByteArray × List (Int × ByteArray × List Int × Int × (Int × Int) × (Int × List (Int × Int) × List Int) × ByteArray × Int × List (Int × Int) × List (Int × Int)) × Int × Int × Int × List Int)) (s : Nat) (first : ByteArray) (x : List (Int × ByteArray × List Int × Int × (Int × Int) × (Int × List (Int × Int) × List Int) × ByteArray × Int × List (Int × Int) × List (Int × Int))) (x1 : Int) (x2 : Int) (f0 : List ByteArray) (f1 : List (Int × ByteArray × List Int × Int × (Int × Int) × (Int × List (Int × Int) × List Int) × ByteArray × Int × List (Int × Int) × List (Int × Int))) (f2 : Int) (f3 : Int) (f4 : Int) (ss : List Int) : Option (Nat × List ByteArray × List (Int × ByteArray × List Int × Int × (Int × Int) × (Int × List (Int × Int) × List Int) × ByteArray × Int × List (Int × Int) × List (Int × Int)) × Int × Int × Int × List Int) :=
  if ((decide (x2 < x1)) = true) then
    if ((0 : Int) ≤ x2) then
      Option.bind (x)[(Int.toNat x2)]? fun x3 =>
      Option.bind (Fstrings_IndexByte k first x3.1) fun r2 =>
      if ((decide (r2 ≥ (0 : Int))) = true) then
        Option.bind (x3.2.2.1)[0]? fun x4 =>
        Option.bind (x3.2.2.1)[1]? fun x5 =>
        Option.bind (F_topo_sets_join_flf k s x4 x5 ss) fun r3 =>
        Option.bind (Fstrings_IndexByte k (ByteArray.mk (List.toArray (101 :: (103 :: (116 :: []))))) x3.1) fun r4 =>
        if ((decide (r4 ≥ (0 : Int))) = true) then
          Option.bind (x3.2.2.1)[2]? fun x6 =>
          Option.bind (x3.2.2.1)[3]? fun x7 =>
          Option.bind (F_topo_sets_join_flf k s x6 x7 r3.2) fun r5 =>
          rec s first x x1 (IntKind.wrap .i64 (x2 + (1 : Int))) f0 f1 f2 f3 f4 r5.2
        else
        rec s first x x1 (IntKind.wrap .i64 (x2 + (1 : Int))) f0 f1 f2 f3 f4 r3.2
      else
      Option.bind (Fstrings_IndexByte k (ByteArray.mk (List.toArray (101 :: (103 :: (116 :: []))))) x3.1) fun r3 =>
      if ((decide (r3 ≥ (0 : Int))) = true) then
        Option.bind (x3.2.2.1)[2]? fun x4 =>
        Option.bind (x3.2.2.1)[3]? fun x5 =>
        Option.bind (F_topo_sets_join_flf k s x4 x5 ss) fun r4 =>
        rec s first x x1 (IntKind.wrap .i64 (x2 + (1 : Int))) f0 f1 f2 f3 f4 r4.2
      else
      rec s first x x1 (IntKind.wrap .i64 (x2 + (1 : Int))) f0 f1 f2 f3 f4 ss
    else
    none
  else
  (some (s, f0, f1, f2, f3, f4, ss))
def Ltopo_Floats_0 (k n : Nat) : Nat → ByteArray → List (Int × ByteArray × List Int × Int × (Int × Int) × (Int × List (Int × Int) × List Int) × ByteArray × Int × List (Int × Int) × List (Int × Int)) → Int → Int → List ByteArray → List (Int × ByteArray × List Int × Int × (Int × Int) × (Int × List (Int × Int) × List Int) × ByteArray × Int × List (Int × Int) × List (Int × Int)) → Int → Int → Int → List Int → Option (Nat × List ByteArray × List (Int × ByteArray × List Int × Int × (Int × Int) × (Int × List (Int × Int) × List Int) × ByteArray × Int × List (Int × Int) × List (Int × Int)) × Int × Int × Int × List Int) := Nat.rec (fun _ _ _ _ _ _ _ _ _ _ _ => none) (fun _ r => Ltopo_Floats_0s k r) n
def Ltopo_Floats_2s (k : Nat) (rec : Nat → Nat → Int → Int → List Int → List Int → Option (Nat × List Int × List Int)) (s : Nat) (l : Nat) (x : Int) (x1 : Int) (ss : List Int) (ls : List Int) : Option (Nat × List Int × List Int) :=
  if ((decide (x1 < x)) = true) then
    Option.bind (F_topo_sets_root_kxy k s x1 ss) fun r3 =>
    Option.bind (F_topo_sets_root_kxy k s (0 : Int) r3.2) fun r4 =>
    if ((r3.1 != r4.1) = true) then
      if (l ≤ (List.length ls)) then
        if (((l + (List.length (List.take 1 (x1 :: [])))) * 8) ≤ 140737488355328) then
          rec s (l + (List.length (List.take 1 (x1 :: [])))) x (IntKind.wrap .i64 (x1 + (1 : Int))) r4.2 ((List.take l ls) ++ (List.take 1 (x1 :: [])))
        else
        none
      else
      none
    else
    rec s l x (IntKind.wrap .i64 (x1 + (1 : Int))) r4.2 ls
  else
  (some (l, ss, ls))
def Ltopo_Floats_2 (k n : Nat) : Nat → Nat → Int → Int → List Int → List Int → Option (Nat × List Int × List Int) := Nat.rec (fun _ _ _ _ _ _ => none) (fun _ r => Ltopo_Floats_2s k r) n
def btopo_Floats (k : Nat) (f0 : List ByteArray) (f1 : List (Int × ByteArray × List Int × Int × (Int × Int) × (Int × List (Int × Int) × List Int) × ByteArray × Int × List (Int × Int) × List (Int × Int))) (f2 : Int) (f3 : Int) (f4 : Int) (mode : Int) : Option (Nat × Int × List Int) :=
  Option.bind (Ftopo_look k f0 f1 f2 f3 f4 mode) fun r =>
  if ((r != (0 : Int)) = true) then
    (some (0, r, []))
  else
  Option.bind (Ftopo_newSets k (((List.length f0) : Nat) : Int)) fun r1 =>
  if ((mode == (2 : Int)) = true) then
    Option.bind (Ltopo_Floats_0 k k r1.1 ((ByteArray.mk (List.toArray (114 :: (108 :: (118 :: (101 :: (104 :: (116 :: (100 :: (115 :: [])))))))))) ++ (ByteArray.mk (List.toArray (99 :: [])))) f1 (((List.length f1) : Nat) : Int) (0 : Int) f0 f1 f2 f3 f4 r1.2) fun r2 =>
    Option.bind (Ltopo_Floats_2 k k r2.1 0 (((List.length r2.2.1) : Nat) : Int) (0 : Int) r2.2.2.2.2.2.2 []) fun r3 =>
    (some (r3.1, (0 : Int), r3.2.2))
  else
  Option.bind (Ltopo_Floats_0 k k r1.1 (ByteArray.mk (List.toArray (114 :: (108 :: (118 :: (101 :: (104 :: (116 :: (100 :: (115 :: [])))))))))) f1 (((List.length f1) : Nat) : Int) (0 : Int) f0 f1 f2 f3 f4 r1.2) fun r2 =>
  Option.bind (Ltopo_Floats_2 k k r2.1 0 (((List.length r2.2.1) : Nat) : Int) (0 : Int) r2.2.2.2.2.2.2 []) fun r3 =>
  (some (r3.1, (0 : Int), r3.2.2))
def Ftopo_Floats : Nat → List ByteArray → List (Int × ByteArray × List Int × Int × (Int × Int) × (Int × List (Int × Int) × List Int) × ByteArray × Int × List (Int × Int) × List (Int × Int)) → Int → Int → Int → Int → Option (Nat × Int × List Int)
  | 0, _, _, _, _, _, _ => none
  | k + 1, f0, f1, f2, f3, f4, mode => btopo_Floats k f0 f1 f2 f3 f4 mode
def shtopo_Floats : FS := { vs := [.g [.lf (.sl .str), .lf (.sl (.pr (.int .u8) (.pr .str (.pr (.sl (.int .i64)) (.pr (.int .i64) (.pr (.pr (.int .i64) (.int .i64)) (.pr (.pr (.int .i64) (.pr (.sl (.pr (.int .i64) (.int .i64))) (.sl (.int .i64)))) (.pr .str (.pr (.int .u8) (.pr (.sl (.pr (.int .i64) (.int .i64))) (.sl (.pr (.int .i64) (.int .i64))))))))))))), .lf (.int .i64), .lf (.int .i64), .lf (.int .i64)], .a (.lf (.int .i64))], bs := [] }
def rstopo_Floats : List FS := [{ vs := [.a (.smz 0), .a (.lf (.int .i64))], bs := [.arr (.int .i64) 1 3 false] }]
def Itopo_Floats (k : Nat) : Inst := ⟨10, shtopo_Floats, rstopo_Floats, fun x => Ftopo_Floats k x.1 x.2.1 x.2.2.1 x.2.2.2.1 x.2.2.2.2.1 x.2.2.2.2.2⟩
theorem altopo_Floats (k : Nat) : AllI (call cf k) [Itopo_look k, Itopo_newSets k, Istrings_IndexByte k, I_topo_sets_join_flf k, I_topo_sets_root_kxy k] := And.intro (oktopo_look k) (And.intro (oktopo_newSets k) (And.intro (okstrings_IndexByte k) (And.intro (ok_topo_sets_join_flf k) (And.intro (ok_topo_sets_root_kxy k) (True.intro)))))
def hstopo_Floats_0 : List SS := [{ fr := [(2, .a (.ptr 0 0 0)), (7, .a (.smz 1)), (8, .a (.lf .str)), (28, .a (.lf (.sl (.pr (.int .u8) (.pr .str (.pr (.sl (.int .i64)) (.pr (.int .i64) (.pr (.pr (.int .i64) (.int .i64)) (.pr (.pr (.int .i64) (.pr (.sl (.pr (.int .i64) (.int .i64))) (.sl (.int .i64)))) (.pr .str (.pr (.int .u8) (.pr (.sl (.pr (.int .i64) (.int .i64))) (.sl (.pr (.int .i64) (.int .i64))))))))))))))), (29, .a (.lf (.int .i64))), (30, .a (.lf (.int .i64)))], mem := [(0, some (.raw [[.lf (.sl .str), .lf (.sl (.pr (.int .u8) (.pr .str (.pr (.sl (.int .i64)) (.pr (.int .i64) (.pr (.pr (.int .i64) (.int .i64)) (.pr (.pr (.int .i64) (.pr (.sl (.pr (.int .i64) (.int .i64))) (.sl (.int .i64)))) (.pr .str (.pr (.int .u8) (.pr (.sl (.pr (.int .i64) (.int .i64))) (.sl (.pr (.int .i64) (.int .i64))))))))))))), .lf (.int .i64), .lf (.int .i64), .lf (.int .i64)]] 5 27 true false false)), (1, some (.arr (.int .i64) 1 3 false))], nx := 2 }]
def ostopo_Floats_0 : List OS := [⟨some 0, { fr := [(2, .a (.ptr 0 0 0)), (7, .a (.smz 1))], mem := [(0, some (.raw [[.lf (.sl .str), .lf (.sl (.pr (.int .u8) (.pr .str (.pr (.sl (.int .i64)) (.pr (.int .i64) (.pr (.pr (.int .i64) (.int .i64)) (.pr (.pr (.int .i64) (.pr (.sl (.pr (.int .i64) (.int .i64))) (.sl (.int .i64)))) (.pr .str (.pr (.int .u8) (.pr (.sl (.pr (.int .i64) (.int .i64))) (.sl (.pr (.int .i64) (.int .i64))))))))))))), .lf (.int .i64), .lf (.int .i64), .lf (.int .i64)]] 5 27 true false false)), (1, some (.arr (.int .i64) 1 3 false))], nx := 2 }⟩]
def LItopo_Floats_0 (k : Nat) : LInst := ⟨0, hstopo_Floats_0, ostopo_Floats_0, fun x => Ltopo_Floats_0 k k x.1 x.2.1 x.2.2.1 x.2.2.2.1 x.2.2.2.2.1 x.2.2.2.2.2.1 x.2.2.2.2.2.2.1 x.2.2.2.2.2.2.2.1 x.2.2.2.2.2.2.2.2.1 x.2.2.2.2.2.2.2.2.2.1 x.2.2.2.2.2.2.2.2.2.2⟩
theorem antopo_Floats_0 (k : Nat) : LAll (LOk (R := DS OS.D ostopo_Floats_0) (fun b _ σ K => LOt Ty (kps 10) 0 b σ K []) cf (call cf k) (kps 10) Tryd.f10.ntmps k 0) 0 (lb Tryd.f10 0) :=
  And.intro (True.intro) (And.intro (And.intro (True.intro) (True.intro)) (And.intro (And.intro (True.intro) (And.intro (And.intro (True.intro) (And.intro (True.intro) (True.intro))) (And.intro (True.intro) (And.intro (True.intro) (True.intro))))) (True.intro)))
theorem sttopo_Floats_0 (k n : Nat) (x : DS SS.D hstopo_Floats_0) : Ltopo_Floats_0 k (n + 1) x.1 x.2.1 x.2.2.1 x.2.2.2.1 x.2.2.2.2.1 x.2.2.2.2.2.1 x.2.2.2.2.2.2.1 x.2.2.2.2.2.2.2.1 x.2.2.2.2.2.2.2.2.1 x.2.2.2.2.2.2.2.2.2.1 x.2.2.2.2.2.2.2.2.2.2 = encSK SS.enc (fun σ => run2 cf (fun f a b K => COt f a b K [Itopo_look k, Itopo_newSets k, Istrings_IndexByte k, I_topo_sets_join_flf k, I_topo_sets_root_kxy k]) (fun b _ σ K => LOt Ty (kps 10) 0 b σ K []) Tryd.f10.ntmps 0 (lb Tryd.f10 0) σ (nextK Ty (kps 10 0) 0 hstopo_Floats_0 ostopo_Floats_0 fun x => Ltopo_Floats_0 k n x.1 x.2.1 x.2.2.1 x.2.2.2.1 x.2.2.2.2.1 x.2.2.2.2.2.1 x.2.2.2.2.2.2.1 x.2.2.2.2.2.2.2.1 x.2.2.2.2.2.2.2.2.1 x.2.2.2.2.2.2.2.2.2.1 x.2.2.2.2.2.2.2.2.2.2)) hstopo_Floats_0 x := by kernel_rfl
theorem lotopo_Floats_0 (k : Nat) : LIOk cf (call cf k) (kps 10) Tryd.f10.ntmps k 0 0 (lb Tryd.f10 0) (LItopo_Floats_0 k) :=
  loop_ok (c := cf) (callF := call cf k) (kp := kps 10) (nt := Tryd.f10.ntmps) (k := k) (p := 0) (b := 0) (x0 := lb Tryd.f10 0) (hs := hstopo_Floats_0) (os := ostopo_Floats_0) (COt_ok (altopo_Floats k)) (antopo_Floats_0 k) (fun n x => Ltopo_Floats_0 k n x.1 x.2.1 x.2.2.1 x.2.2.2.1 x.2.2.2.2.1 x.2.2.2.2.2.1 x.2.2.2.2.2.2.1 x.2.2.2.2.2.2.2.1 x.2.2.2.2.2.2.2.2.1 x.2.2.2.2.2.2.2.2.2.1 x.2.2.2.2.2.2.2.2.2.2) (fun _ => rfl) (sttopo_Floats_0 k)
def hstopo_Floats_2 : List SS := [{ fr := [(7, .a (.smz 0)), (11, .a (.smz 1)), (66, .a (.lf (.int .i64))), (67, .a (.lf (.int .i64)))], mem := [(0, some (.arr (.int .i64) 1 3 false)), (1, some (.arr (.int .i64) 1 3 false))], nx := 2 }]
def ostopo_Floats_2 : List OS := [⟨some 2, { fr := [(11, .a (.smz 1))], mem := [(0, some (.arr (.int .i64) 1 3 false)), (1, some (.arr (.int .i64) 1 3 false))], nx := 2 }⟩]
def LItopo_Floats_2 (k : Nat) : LInst := ⟨2, hstopo_Floats_2, ostopo_Floats_2, fun x => Ltopo_Floats_2 k k x.1 x.2.1 x.2.2.1 x.2.2.2.1 x.2.2.2.2.1 x.2.2.2.2.2⟩
theorem antopo_Floats_2 (k : Nat) : LAll (LOk (R := DS OS.D ostopo_Floats_2) (fun b _ σ K => LOt Ty (kps 10) 0 b σ K [LItopo_Floats_0 k]) cf (call cf k) (kps 10) Tryd.f10.ntmps k 0) 2 (lb Tryd.f10 1) :=
  And.intro (True.intro) (And.intro (And.intro (True.intro) (True.intro)) (And.intro (And.intro (True.intro) (And.intro (True.intro) (And.intro (True.intro) (True.intro)))) (True.intro)))
theorem sttopo_Floats_2 (k n : Nat) (x : DS SS.D hstopo_Floats_2) : Ltopo_Floats_2 k (n + 1) x.1 x.2.1 x.2.2.1 x.2.2.2.1 x.2.2.2.2.1 x.2.2.2.2.2 = encSK SS.enc (fun σ => run2 cf (fun f a b K => COt f a b K [Itopo_look k, Itopo_newSets k, Istrings_IndexByte k, I_topo_sets_join_flf k, I_topo_sets_root_kxy k]) (fun b _ σ K => LOt Ty (kps 10) 0 b σ K [LItopo_Floats_0 k]) Tryd.f10.ntmps 2 (lb Tryd.f10 1) σ (nextK Ty (kps 10 2) 0 hstopo_Floats_2 ostopo_Floats_2 fun x => Ltopo_Floats_2 k n x.1 x.2.1 x.2.2.1 x.2.2.2.1 x.2.2.2.2.1 x.2.2.2.2.2)) hstopo_Floats_2 x := by kernel_rfl
theorem lotopo_Floats_2 (k : Nat) : LIOk cf (call cf k) (kps 10) Tryd.f10.ntmps k 0 2 (lb Tryd.f10 1) (LItopo_Floats_2 k) :=
  loop_ok (c := cf) (callF := call cf k) (kp := kps 10) (nt := Tryd.f10.ntmps) (k := k) (p := 0) (b := 2) (x0 := lb Tryd.f10 1) (hs := hstopo_Floats_2) (os := ostopo_Floats_2) (COt_ok (altopo_Floats k)) (antopo_Floats_2 k) (fun n x => Ltopo_Floats_2 k n x.1 x.2.1 x.2.2.1 x.2.2.2.1 x.2.2.2.2.1 x.2.2.2.2.2) (fun _ => rfl) (sttopo_Floats_2 k)
theorem antopo_Floats (k : Nat) : LAll (LOk (R := DS FS.D rstopo_Floats) (fun b _ σ K => LOt Ty (kps 10) 0 b σ K [LItopo_Floats_0 k, LItopo_Floats_2 k]) cf (call cf k) (cf.keep 10) Tryd.f10.ntmps k shtopo_Floats.bs.length) 0 (bd Tryd.f10) :=
  And.intro (True.intro) (And.intro (And.intro (True.intro) (And.intro (True.intro) (And.intro (And.intro (True.intro) (True.intro)) (True.intro)))) (And.intro (True.intro) (And.intro (True.intro) (And.intro (And.intro (True.intro) (And.intro (True.intro) (True.intro))) (And.intro (And.intro (True.intro) (LOt_ok (c := cf) (callF := call cf k) (kp := kps 10) (nt := Tryd.f10.ntmps) (k := k) (p := 0) (b := 0) (x0 := lb Tryd.f10 0) (l := [LItopo_Floats_0 k, LItopo_Floats_2 k]) (And.intro (fun _ => lotopo_Floats_0 k) (And.intro (fun h => absurd (show (2 : Nat) = 0 from h) (by decide)) (True.intro))))) (And.intro (True.intro) (And.intro (And.intro (True.intro) (LOt_ok (c := cf) (callF := call cf k) (kp := kps 10) (nt := Tryd.f10.ntmps) (k := k) (p := 0) (b := 2) (x0 := lb Tryd.f10 1) (l := [LItopo_Floats_0 k, LItopo_Floats_2 k]) (And.intro (fun h => absurd (show (0 : Nat) = 2 from h) (by decide)) (And.intro (fun _ => lotopo_Floats_2 k) (True.intro))))) (And.intro (True.intro) (True.intro)))))))))
theorem sttopo_Floats (k : Nat) (x : shtopo_Floats.D) : Ftopo_Floats (k + 1) x.1 x.2.1 x.2.2.1 x.2.2.2.1 x.2.2.2.2.1 x.2.2.2.2.2 = body2 cf (fun f a b K => COt f a b K [Itopo_look k, Itopo_newSets k, Istrings_IndexByte k, I_topo_sets_join_flf k, I_topo_sets_root_kxy k]) (fun b _ σ K => LOt Ty (kps 10) 0 b σ K [LItopo_Floats_0 k, LItopo_Floats_2 k]) 10 Tryd.f10.ntmps Tryd.f10.results.toList (bd Tryd.f10) (shtopo_Floats.enc x).1 (shtopo_Floats.enc x).2 (putS FS.dec rstopo_Floats) := by kernel_rfl
theorem oktopo_Floats : ∀ k, InstOk (call cf k) (Itopo_Floats k)
  | 0 => fun x y e => absurd (show (none : Option _) = some y from e) (by simp)
  | k + 1 => inst_ok (c := cf) (k := k) (f := 10) (fn := Tryd.f10) (body := bd Tryd.f10) (sh := shtopo_Floats) (os := rstopo_Floats) rfl Tryd.func10 rfl ⟨rfl, Nat.le_of_ble_eq_true rfl⟩ (COt_ok (altopo_Floats k)) (antopo_Floats k) (fun x => Ftopo_Floats (k + 1) x.1 x.2.1 x.2.2.1 x.2.2.2.1 x.2.2.2.2.1 x.2.2.2.2.2) (sttopo_Floats k)

/-! shunt/topo.Loops -/
def Ltopo_Loops_0s (k : Nat) (rec : Int → Nat → Nat → List (Int × ByteArray × List Int × Int × (Int × Int) × (Int × List (Int × Int) × List Int) × ByteArray × Int × List (Int × Int) × List (Int × Int)) → Int → Int → List Int → List Int → Option (Nat × List Int × List Int)) (mode : Int) (s : Nat) (l : Nat) (x : List (Int × ByteArray × List Int × Int × (Int × Int) × (Int × List (Int × Int) × List Int) × ByteArray × Int × List (Int × Int) × List (Int × Int))) (x1 : Int) (x2 : Int) (ss : List Int) (ls : List Int) : Option (Nat × List Int × List Int) :=
  if ((decide (x2 < x1)) = true) then
    if ((0 : Int) ≤ x2) then
      Option.bind (x)[(Int.toNat x2)]? fun x3 =>
      if ((x3.1 == (118 : Int)) = false) then
        if ((x3.1 == (108 : Int)) = true) then
          if ((mode == (1 : Int)) = true) then
            Option.bind (x3.2.2.1)[0]? fun x4 =>
            Option.bind (x3.2.2.1)[1]? fun x5 =>
            Option.bind (F_topo_sets_join_flf k s x4 x5 ss) fun r3 =>
            if ((!r3.1) = true) then
              if (l ≤ (List.length ls)) then
                if (((l + (List.length (List.take 1 (x2 :: [])))) * 8) ≤ 140737488355328) then
                  rec mode s (l + (List.length (List.take 1 (x2 :: [])))) x x1 (IntKind.wrap .i64 (x2 + (1 : Int))) r3.2 ((List.take l ls) ++ (List.take 1 (x2 :: [])))
                else
                none
              else
              none
            else
            rec mode s l x x1 (IntKind.wrap .i64 (x2 + (1 : Int))) r3.2 ls
          else
          rec mode s l x x1 (IntKind.wrap .i64 (x2 + (1 : Int))) ss ls
        else
        rec mode s l x x1 (IntKind.wrap .i64 (x2 + (1 : Int))) ss ls
      else
      Option.bind (x3.2.2.1)[0]? fun x4 =>
      Option.bind (x3.2.2.1)[1]? fun x5 =>
      Option.bind (F_topo_sets_join_flf k s x4 x5 ss) fun r3 =>
      if ((!r3.1) = true) then
        if (l ≤ (List.length ls)) then
          if (((l + (List.length (List.take 1 (x2 :: [])))) * 8) ≤ 140737488355328) then
            rec mode s (l + (List.length (List.take 1 (x2 :: [])))) x x1 (IntKind.wrap .i64 (x2 + (1 : Int))) r3.2 ((List.take l ls) ++ (List.take 1 (x2 :: [])))
          else
          none
        else
        none
      else
      rec mode s l x x1 (IntKind.wrap .i64 (x2 + (1 : Int))) r3.2 ls
    else
    none
  else
  (some (l, ss, ls))
def Ltopo_Loops_0 (k n : Nat) : Int → Nat → Nat → List (Int × ByteArray × List Int × Int × (Int × Int) × (Int × List (Int × Int) × List Int) × ByteArray × Int × List (Int × Int) × List (Int × Int)) → Int → Int → List Int → List Int → Option (Nat × List Int × List Int) := Nat.rec (fun _ _ _ _ _ _ _ _ => none) (fun _ r => Ltopo_Loops_0s k r) n
def btopo_Loops (k : Nat) (f0 : List ByteArray) (f1 : List (Int × ByteArray × List Int × Int × (Int × Int) × (Int × List (Int × Int) × List Int) × ByteArray × Int × List (Int × Int) × List (Int × Int))) (f2 : Int) (f3 : Int) (f4 : Int) (mode : Int) : Option (Nat × Int × List Int) :=
  Option.bind (Ftopo_look k f0 f1 f2 f3 f4 mode) fun r1 =>
  if ((r1 != (0 : Int)) = true) then
    (some (0, r1, []))
  else
  Option.bind (Ftopo_newSets k (((List.length f0) : Nat) : Int)) fun r2 =>
  Option.bind (Ltopo_Loops_0 k k mode r2.1 0 f1 (((List.length f1) : Nat) : Int) (0 : Int) r2.2 []) fun r3 =>
  (some (r3.1, (0 : Int), r3.2.2))
def Ftopo_Loops : Nat → List ByteArray → List (Int × ByteArray × List Int × Int × (Int × Int) × (Int × List (Int × Int) × List Int) × ByteArray × Int × List (Int × Int) × List (Int × Int)) → Int → Int → Int → Int → Option (Nat × Int × List Int)
  | 0, _, _, _, _, _, _ => none
  | k + 1, f0, f1, f2, f3, f4, mode => btopo_Loops k f0 f1 f2 f3 f4 mode
def shtopo_Loops : FS := { vs := [.g [.lf (.sl .str), .lf (.sl (.pr (.int .u8) (.pr .str (.pr (.sl (.int .i64)) (.pr (.int .i64) (.pr (.pr (.int .i64) (.int .i64)) (.pr (.pr (.int .i64) (.pr (.sl (.pr (.int .i64) (.int .i64))) (.sl (.int .i64)))) (.pr .str (.pr (.int .u8) (.pr (.sl (.pr (.int .i64) (.int .i64))) (.sl (.pr (.int .i64) (.int .i64))))))))))))), .lf (.int .i64), .lf (.int .i64), .lf (.int .i64)], .a (.lf (.int .i64))], bs := [] }
def rstopo_Loops : List FS := [{ vs := [.a (.smz 0), .a (.lf (.int .i64))], bs := [.arr (.int .i64) 1 3 false] }]
def Itopo_Loops (k : Nat) : Inst := ⟨11, shtopo_Loops, rstopo_Loops, fun x => Ftopo_Loops k x.1 x.2.1 x.2.2.1 x.2.2.2.1 x.2.2.2.2.1 x.2.2.2.2.2⟩
theorem altopo_Loops (k : Nat) : AllI (call cf k) [Itopo_look k, Itopo_newSets k, I_topo_sets_join_flf k] := And.intro (oktopo_look k) (And.intro (oktopo_newSets k) (And.intro (ok_topo_sets_join_flf k) (True.intro)))
def hstopo_Loops_0 : List SS := [{ fr := [(1, .a (.lf (.int .i64))), (7, .a (.smz 0)), (8, .a (.smz 1)), (22, .a (.lf (.sl (.pr (.int .u8) (.pr .str (.pr (.sl (.int .i64)) (.pr (.int .i64) (.pr (.pr (.int .i64) (.int .i64)) (.pr (.pr (.int .i64) (.pr (.sl (.pr (.int .i64) (.int .i64))) (.sl (.int .i64)))) (.pr .str (.pr (.int .u8) (.pr (.sl (.pr (.int .i64) (.int .i64))) (.sl (.pr (.int .i64) (.int .i64))))))))))))))), (23, .a (.lf (.int .i64))), (24, .a (.lf (.int .i64)))], mem := [(0, some (.arr (.int .i64) 1 3 false)), (1, some (.arr (.int .i64) 1 3 false))], nx := 2 }]
def ostopo_Loops_0 : List OS := [⟨some 0, { fr := [(8, .a (.smz 1))], mem := [(0, some (.arr (.int .i64) 1 3 false)), (1, some (.arr (.int .i64) 1 3 false))], nx := 2 }⟩]
def LItopo_Loops_0 (k : Nat) : LInst := ⟨0, hstopo_Loops_0, ostopo_Loops_0, fun x => Ltopo_Loops_0 k k x.1 x.2.1 x.2.2.1 x.2.2.2.1 x.2.2.2.2.1 x.2.2.2.2.2.1 x.2.2.2.2.2.2.1 x.2.2.2.2.2.2.2⟩
theorem antopo_Loops_0 (k : Nat) : LAll (LOk (R := DS OS.D ostopo_Loops_0) (fun b _ σ K => LOt Ty (kps 11) 0 b σ K []) cf (call cf k) (kps 11) Tryd.f11.ntmps k 0) 0 (lb Tryd.f11 0) :=
  And.intro (True.intro) (And.intro (And.intro (True.intro) (True.intro)) (And.intro (And.intro (True.intro) (And.intro (True.intro) (And.intro (True.intro) (True.intro)))) (True.intro)))
theorem sttopo_Loops_0 (k n : Nat) (x : DS SS.D hstopo_Loops_0) : Ltopo_Loops_0 k (n + 1) x.1 x.2.1 x.2.2.1 x.2.2.2.1 x.2.2.2.2.1 x.2.2.2.2.2.1 x.2.2.2.2.2.2.1 x.2.2.2.2.2.2.2 = encSK SS.enc (fun σ => run2 cf (fun f a b K => COt f a b K [Itopo_look k, Itopo_newSets k, I_topo_sets_join_flf k]) (fun b _ σ K => LOt Ty (kps 11) 0 b σ K []) Tryd.f11.ntmps 0 (lb Tryd.f11 0) σ (nextK Ty (kps 11 0) 0 hstopo_Loops_0 ostopo_Loops_0 fun x => Ltopo_Loops_0 k n x.1 x.2.1 x.2.2.1 x.2.2.2.1 x.2.2.2.2.1 x.2.2.2.2.2.1 x.2.2.2.2.2.2.1 x.2.2.2.2.2.2.2)) hstopo_Loops_0 x := by kernel_rfl
theorem lotopo_Loops_0 (k : Nat) : LIOk cf (call cf k) (kps 11) Tryd.f11.ntmps k 0 0 (lb Tryd.f11 0) (LItopo_Loops_0 k) :=
  loop_ok (c := cf) (callF := call cf k) (kp := kps 11) (nt := Tryd.f11.ntmps) (k := k) (p := 0) (b := 0) (x0 := lb Tryd.f11 0) (hs := hstopo_Loops_0) (os := ostopo_Loops_0) (COt_ok (altopo_Loops k)) (antopo_Loops_0 k) (fun n x => Ltopo_Loops_0 k n x.1 x.2.1 x.2.2.1 x.2.2.2.1 x.2.2.2.2.1 x.2.2.2.2.2.1 x.2.2.2.2.2.2.1 x.2.2.2.2.2.2.2) (fun _ => rfl) (sttopo_Loops_0 k)
theorem antopo_Loops (k : Nat) : LAll (LOk (R := DS FS.D rstopo_Loops) (fun b _ σ K => LOt Ty (kps 11) 0 b σ K [LItopo_Loops_0 k]) cf (call cf k) (cf.keep 11) Tryd.f11.ntmps k shtopo_Loops.bs.length) 0 (bd Tryd.f11) :=
  And.intro (True.intro) (And.intro (And.intro (True.intro) (And.intro (True.intro) (And.intro (And.intro (True.intro) (True.intro)) (True.intro)))) (And.intro (True.intro) (And.intro (True.intro) (And.intro (And.intro (True.intro) (LOt_ok (c := cf) (callF := call cf k) (kp := kps 11) (nt := Tryd.f11.ntmps) (k := k) (p := 0) (b := 0) (x0 := lb Tryd.f11 0) (l := [LItopo_Loops_0 k]) (And.intro (fun _ => lotopo_Loops_0 k) (True.intro)))) (And.intro (True.intro) (True.intro))))))
theorem sttopo_Loops (k : Nat) (x : shtopo_Loops.D) : Ftopo_Loops (k + 1) x.1 x.2.1 x.2.2.1 x.2.2.2.1 x.2.2.2.2.1 x.2.2.2.2.2 = body2 cf (fun f a b K => COt f a b K [Itopo_look k, Itopo_newSets k, I_topo_sets_join_flf k]) (fun b _ σ K => LOt Ty (kps 11) 0 b σ K [LItopo_Loops_0 k]) 11 Tryd.f11.ntmps Tryd.f11.results.toList (bd Tryd.f11) (shtopo_Loops.enc x).1 (shtopo_Loops.enc x).2 (putS FS.dec rstopo_Loops) := by kernel_rfl
theorem oktopo_Loops : ∀ k, InstOk (call cf k) (Itopo_Loops k)
  | 0 => fun x y e => absurd (show (none : Option _) = some y from e) (by simp)
  | k + 1 => inst_ok (c := cf) (k := k) (f := 11) (fn := Tryd.f11) (body := bd Tryd.f11) (sh := shtopo_Loops) (os := rstopo_Loops) rfl Tryd.func11 rfl ⟨rfl, Nat.le_of_ble_eq_true rfl⟩ (COt_ok (altopo_Loops k)) (antopo_Loops k) (fun x => Ftopo_Loops (k + 1) x.1 x.2.1 x.2.2.1 x.2.2.2.1 x.2.2.2.2.1 x.2.2.2.2.2) (sttopo_Loops k)

/-! shunt/topo.Check -/
def btopo_Check (k : Nat) (f0 : List ByteArray) (f1 : List (Int × ByteArray × List Int × Int × (Int × Int) × (Int × List (Int × Int) × List Int) × ByteArray × Int × List (Int × Int) × List (Int × Int))) (f2 : Int) (f3 : Int) (f4 : Int) (mode : Int) : Option (Int) :=
  Option.bind (Ftopo_Floats k f0 f1 f2 f3 f4 mode) fun r3 =>
  if ((r3.2.1 != (0 : Int)) = true) then
    (some r3.2.1)
  else
  if ((decide (((r3.1 : Nat) : Int) > (0 : Int))) = true) then
    (some (100 : Int))
  else
  Option.bind (Ftopo_Loops k f0 f1 f2 f3 f4 mode) fun r4 =>
  if ((decide (((r4.1 : Nat) : Int) > (0 : Int))) = true) then
    (some (101 : Int))
  else
  (some (0 : Int))
def Ftopo_Check : Nat → List ByteArray → List (Int × ByteArray × List Int × Int × (Int × Int) × (Int × List (Int × Int) × List Int) × ByteArray × Int × List (Int × Int) × List (Int × Int)) → Int → Int → Int → Int → Option (Int)
  | 0, _, _, _, _, _, _ => none
  | k + 1, f0, f1, f2, f3, f4, mode => btopo_Check k f0 f1 f2 f3 f4 mode
def shtopo_Check : FS := { vs := [.g [.lf (.sl .str), .lf (.sl (.pr (.int .u8) (.pr .str (.pr (.sl (.int .i64)) (.pr (.int .i64) (.pr (.pr (.int .i64) (.int .i64)) (.pr (.pr (.int .i64) (.pr (.sl (.pr (.int .i64) (.int .i64))) (.sl (.int .i64)))) (.pr .str (.pr (.int .u8) (.pr (.sl (.pr (.int .i64) (.int .i64))) (.sl (.pr (.int .i64) (.int .i64))))))))))))), .lf (.int .i64), .lf (.int .i64), .lf (.int .i64)], .a (.lf (.int .i64))], bs := [] }
def rstopo_Check : List FS := [{ vs := [.a (.lf (.int .i64))], bs := [] }]
def Itopo_Check (k : Nat) : Inst := ⟨19, shtopo_Check, rstopo_Check, fun x => Ftopo_Check k x.1 x.2.1 x.2.2.1 x.2.2.2.1 x.2.2.2.2.1 x.2.2.2.2.2⟩
theorem altopo_Check (k : Nat) : AllI (call cf k) [Itopo_Floats k, Itopo_Loops k] := And.intro (oktopo_Floats k) (And.intro (oktopo_Loops k) (True.intro))
theorem antopo_Check (k : Nat) : LAll (LOk (R := DS FS.D rstopo_Check) (fun b _ σ K => LOt Ty (kps 19) 0 b σ K []) cf (call cf k) (cf.keep 19) Tryd.f19.ntmps k shtopo_Check.bs.length) 0 (bd Tryd.f19) :=
  And.intro (True.intro) (And.intro (True.intro) (And.intro (And.intro (True.intro) (And.intro (And.intro (True.intro) (True.intro)) (True.intro))) (And.intro (And.intro (True.intro) (And.intro (And.intro (True.intro) (True.intro)) (True.intro))) (And.intro (And.intro (True.intro) (And.intro (True.intro) (And.intro (And.intro (True.intro) (True.intro)) (True.intro)))) (And.intro (True.intro) (True.intro))))))
theorem sttopo_Check (k : Nat) (x : shtopo_Check.D) : Ftopo_Check (k + 1) x.1 x.2.1 x.2.2.1 x.2.2.2.1 x.2.2.2.2.1 x.2.2.2.2.2 = body2 cf (fun f a b K => COt f a b K [Itopo_Floats k, Itopo_Loops k]) (fun b _ σ K => LOt Ty (kps 19) 0 b σ K []) 19 Tryd.f19.ntmps Tryd.f19.results.toList (bd Tryd.f19) (shtopo_Check.enc x).1 (shtopo_Check.enc x).2 (putS FS.dec rstopo_Check) := by kernel_rfl
theorem oktopo_Check : ∀ k, InstOk (call cf k) (Itopo_Check k)
  | 0 => fun x y e => absurd (show (none : Option _) = some y from e) (by simp)
  | k + 1 => inst_ok (c := cf) (k := k) (f := 19) (fn := Tryd.f19) (body := bd Tryd.f19) (sh := shtopo_Check) (os := rstopo_Check) rfl Tryd.func19 rfl ⟨rfl, Nat.le_of_ble_eq_true rfl⟩ (COt_ok (altopo_Check k)) (antopo_Check k) (fun x => Ftopo_Check (k + 1) x.1 x.2.1 x.2.2.1 x.2.2.2.1 x.2.2.2.2.1 x.2.2.2.2.2) (sttopo_Check k)

/-! shunt/shuntlaw10.awake -/
def bshuntlaw10_awake (k : Nat) : Option (Bool) :=
  Option.bind (Ftopo_Floats k (List.take 3 ((ByteArray.mk (List.toArray (48 :: []))) :: ((ByteArray.mk (List.toArray (97 :: []))) :: ((ByteArray.mk (List.toArray (98 :: []))) :: [])))) (List.take 3 (((118 : Int), ((ByteArray.mk (List.toArray (118 :: (49 :: [])))), ((List.take 2 ((1 : Int) :: ((0 : Int) :: []))), ((0 : Int), (((0 : Int), (0 : Int)), (((1 : Int), ((List.take 1 (((1 : Int), (0 : Int)) :: [])), [])), ((ByteArray.mk (List.toArray [])), ((0 : Int), ([], []))))))))) :: (((99 : Int), ((ByteArray.mk (List.toArray (99 :: (49 :: [])))), ((List.take 2 ((2 : Int) :: ((0 : Int) :: []))), ((0 : Int), (((1 : Int), (0 : Int)), (((0 : Int), (([] : List (Int × Int)), ([] : List Int))), ((ByteArray.mk (List.toArray [])), ((0 : Int), (([] : List (Int × Int)), ([] : List (Int × Int))))))))))) :: (((108 : Int), ((ByteArray.mk (List.toArray (108 :: (49 :: [])))), ((List.take 2 ((1 : Int) :: ((0 : Int) :: []))), ((0 : Int), (((1 : Int), (0 : Int)), (((0 : Int), (([] : List (Int × Int)), ([] : List Int))), ((ByteArray.mk (List.toArray [])), ((0 : Int), (([] : List (Int × Int)), ([] : List (Int × Int))))))))))) :: [])))) (1 : Int) (0 : Int) (1 : Int) (1 : Int)) fun r =>
  Option.bind (Ftopo_Loops k (List.take 3 ((ByteArray.mk (List.toArray (48 :: []))) :: ((ByteArray.mk (List.toArray (97 :: []))) :: ((ByteArray.mk (List.toArray (98 :: []))) :: [])))) (List.take 3 (((118 : Int), ((ByteArray.mk (List.toArray (118 :: (49 :: [])))), ((List.take 2 ((1 : Int) :: ((0 : Int) :: []))), ((0 : Int), (((0 : Int), (0 : Int)), (((1 : Int), ((List.take 1 (((1 : Int), (0 : Int)) :: [])), [])), ((ByteArray.mk (List.toArray [])), ((0 : Int), ([], []))))))))) :: (((99 : Int), ((ByteArray.mk (List.toArray (99 :: (49 :: [])))), ((List.take 2 ((2 : Int) :: ((0 : Int) :: []))), ((0 : Int), (((1 : Int), (0 : Int)), (((0 : Int), (([] : List (Int × Int)), ([] : List Int))), ((ByteArray.mk (List.toArray [])), ((0 : Int), (([] : List (Int × Int)), ([] : List (Int × Int))))))))))) :: (((108 : Int), ((ByteArray.mk (List.toArray (108 :: (49 :: [])))), ((List.take 2 ((1 : Int) :: ((0 : Int) :: []))), ((0 : Int), (((1 : Int), (0 : Int)), (((0 : Int), (([] : List (Int × Int)), ([] : List Int))), ((ByteArray.mk (List.toArray [])), ((0 : Int), (([] : List (Int × Int)), ([] : List (Int × Int))))))))))) :: [])))) (1 : Int) (0 : Int) (1 : Int) (1 : Int)) fun r1 =>
  Option.bind (Ftopo_Floats k (List.take 3 ((ByteArray.mk (List.toArray (48 :: []))) :: ((ByteArray.mk (List.toArray (97 :: []))) :: ((ByteArray.mk (List.toArray (98 :: []))) :: [])))) (List.take 3 (((118 : Int), ((ByteArray.mk (List.toArray (118 :: (49 :: [])))), ((List.take 2 ((1 : Int) :: ((0 : Int) :: []))), ((0 : Int), (((0 : Int), (0 : Int)), (((1 : Int), ((List.take 1 (((1 : Int), (0 : Int)) :: [])), [])), ((ByteArray.mk (List.toArray [])), ((0 : Int), ([], []))))))))) :: (((99 : Int), ((ByteArray.mk (List.toArray (99 :: (49 :: [])))), ((List.take 2 ((2 : Int) :: ((0 : Int) :: []))), ((0 : Int), (((1 : Int), (0 : Int)), (((0 : Int), (([] : List (Int × Int)), ([] : List Int))), ((ByteArray.mk (List.toArray [])), ((0 : Int), (([] : List (Int × Int)), ([] : List (Int × Int))))))))))) :: (((108 : Int), ((ByteArray.mk (List.toArray (108 :: (49 :: [])))), ((List.take 2 ((1 : Int) :: ((0 : Int) :: []))), ((0 : Int), (((1 : Int), (0 : Int)), (((0 : Int), (([] : List (Int × Int)), ([] : List Int))), ((ByteArray.mk (List.toArray [])), ((0 : Int), (([] : List (Int × Int)), ([] : List (Int × Int))))))))))) :: [])))) (1 : Int) (0 : Int) (1 : Int) (2 : Int)) fun r2 =>
  if ((r.2.1 == (0 : Int)) = true) then
    if ((r1.2.1 == (0 : Int)) = true) then
      if ((r2.2.1 == (0 : Int)) = true) then
        if ((((r.1 : Nat) : Int) == (1 : Int)) = true) then
          if (((0 : Int) ≤ (0 : Int)) ∧ ((0 : Int) < ((r.1 : Nat) : Int))) then
            Option.bind (r.2.2)[0]? fun x =>
            if ((x == (2 : Int)) = true) then
              if ((((r1.1 : Nat) : Int) == (1 : Int)) = true) then
                if (((0 : Int) ≤ (0 : Int)) ∧ ((0 : Int) < ((r1.1 : Nat) : Int))) then
                  Option.bind (r1.2.2)[0]? fun x1 =>
                  if ((x1 == (2 : Int)) = true) then
                    if ((((r2.1 : Nat) : Int) == (0 : Int)) = true) then
                      Option.bind (Ftopo_Check k (List.take 3 ((ByteArray.mk (List.toArray (48 :: []))) :: ((ByteArray.mk (List.toArray (97 :: []))) :: ((ByteArray.mk (List.toArray (98 :: []))) :: [])))) (List.take 3 (((118 : Int), ((ByteArray.mk (List.toArray (118 :: (49 :: [])))), ((List.take 2 ((1 : Int) :: ((0 : Int) :: []))), ((0 : Int), (((0 : Int), (0 : Int)), (((1 : Int), ((List.take 1 (((1 : Int), (0 : Int)) :: [])), [])), ((ByteArray.mk (List.toArray [])), ((0 : Int), ([], []))))))))) :: (((99 : Int), ((ByteArray.mk (List.toArray (99 :: (49 :: [])))), ((List.take 2 ((2 : Int) :: ((0 : Int) :: []))), ((0 : Int), (((1 : Int), (0 : Int)), (((0 : Int), (([] : List (Int × Int)), ([] : List Int))), ((ByteArray.mk (List.toArray [])), ((0 : Int), (([] : List (Int × Int)), ([] : List (Int × Int))))))))))) :: (((108 : Int), ((ByteArray.mk (List.toArray (108 :: (49 :: [])))), ((List.take 2 ((1 : Int) :: ((0 : Int) :: []))), ((0 : Int), (((1 : Int), (0 : Int)), (((0 : Int), (([] : List (Int × Int)), ([] : List Int))), ((ByteArray.mk (List.toArray [])), ((0 : Int), (([] : List (Int × Int)), ([] : List (Int × Int))))))))))) :: [])))) (1 : Int) (0 : Int) (1 : Int) (1 : Int)) fun r3 =>
                      if ((r3 == (100 : Int)) = true) then
                        Option.bind (Ftopo_Check k (List.take 3 ((ByteArray.mk (List.toArray (48 :: []))) :: ((ByteArray.mk (List.toArray (97 :: []))) :: ((ByteArray.mk (List.toArray (98 :: []))) :: [])))) (List.take 3 (((118 : Int), ((ByteArray.mk (List.toArray (118 :: (49 :: [])))), ((List.take 2 ((1 : Int) :: ((0 : Int) :: []))), ((0 : Int), (((0 : Int), (0 : Int)), (((1 : Int), ((List.take 1 (((1 : Int), (0 : Int)) :: [])), [])), ((ByteArray.mk (List.toArray [])), ((0 : Int), ([], []))))))))) :: (((99 : Int), ((ByteArray.mk (List.toArray (99 :: (49 :: [])))), ((List.take 2 ((2 : Int) :: ((0 : Int) :: []))), ((0 : Int), (((1 : Int), (0 : Int)), (((0 : Int), (([] : List (Int × Int)), ([] : List Int))), ((ByteArray.mk (List.toArray [])), ((0 : Int), (([] : List (Int × Int)), ([] : List (Int × Int))))))))))) :: (((108 : Int), ((ByteArray.mk (List.toArray (108 :: (49 :: [])))), ((List.take 2 ((1 : Int) :: ((0 : Int) :: []))), ((0 : Int), (((1 : Int), (0 : Int)), (((0 : Int), (([] : List (Int × Int)), ([] : List Int))), ((ByteArray.mk (List.toArray [])), ((0 : Int), (([] : List (Int × Int)), ([] : List (Int × Int))))))))))) :: [])))) (1 : Int) (0 : Int) (1 : Int) (2 : Int)) fun r4 =>
                        if ((r4 == (0 : Int)) = true) then
                          Option.bind (Ftopo_Check k (List.take 3 ((ByteArray.mk (List.toArray (48 :: []))) :: ((ByteArray.mk (List.toArray (97 :: []))) :: ((ByteArray.mk (List.toArray (98 :: []))) :: [])))) (List.take 3 (((118 : Int), ((ByteArray.mk (List.toArray (118 :: (49 :: [])))), ((List.take 2 ((1 : Int) :: ((0 : Int) :: []))), ((0 : Int), (((0 : Int), (0 : Int)), (((1 : Int), ((List.take 1 (((1 : Int), (0 : Int)) :: [])), [])), ((ByteArray.mk (List.toArray [])), ((0 : Int), ([], []))))))))) :: (((99 : Int), ((ByteArray.mk (List.toArray (99 :: (49 :: [])))), ((List.take 2 ((2 : Int) :: ((0 : Int) :: []))), ((0 : Int), (((1 : Int), (0 : Int)), (((0 : Int), (([] : List (Int × Int)), ([] : List Int))), ((ByteArray.mk (List.toArray [])), ((0 : Int), (([] : List (Int × Int)), ([] : List (Int × Int))))))))))) :: (((108 : Int), ((ByteArray.mk (List.toArray (108 :: (49 :: [])))), ((List.take 2 ((1 : Int) :: ((0 : Int) :: []))), ((0 : Int), (((1 : Int), (0 : Int)), (((0 : Int), (([] : List (Int × Int)), ([] : List Int))), ((ByteArray.mk (List.toArray [])), ((0 : Int), (([] : List (Int × Int)), ([] : List (Int × Int))))))))))) :: [])))) (1 : Int) (0 : Int) (1 : Int) (3 : Int)) fun r5 =>
                          (some (r5 == (110 : Int)))
                        else
                        (some false)
                      else
                      (some false)
                    else
                    (some false)
                  else
                  (some false)
                else
                none
              else
              (some false)
            else
            (some false)
          else
          none
        else
        (some false)
      else
      (some false)
    else
    (some false)
  else
  (some false)
def Fshuntlaw10_awake : Nat → Option (Bool)
  | 0 => none
  | k + 1 => bshuntlaw10_awake k
def shshuntlaw10_awake : FS := { vs := [], bs := [] }
def rsshuntlaw10_awake : List FS := [{ vs := [.a (.lf .bool)], bs := [] }]
def Ishuntlaw10_awake (k : Nat) : Inst := ⟨7, shshuntlaw10_awake, rsshuntlaw10_awake, fun x => Fshuntlaw10_awake k⟩
theorem alshuntlaw10_awake (k : Nat) : AllI (call cf k) [Itopo_Floats k, Itopo_Loops k, Itopo_Check k] := And.intro (oktopo_Floats k) (And.intro (oktopo_Loops k) (And.intro (oktopo_Check k) (True.intro)))
theorem anshuntlaw10_awake (k : Nat) : LAll (LOk (R := DS FS.D rsshuntlaw10_awake) (fun b _ σ K => LOt Ty (kps 7) 0 b σ K []) cf (call cf k) (cf.keep 7) Tryd.f7.ntmps k shshuntlaw10_awake.bs.length) 0 (bd Tryd.f7) :=
  And.intro (True.intro) (And.intro (True.intro) (And.intro (True.intro) (And.intro (True.intro) (And.intro (True.intro) (And.intro (True.intro) (And.intro (True.intro) (True.intro)))))))
theorem stshuntlaw10_awake (k : Nat) (x : shshuntlaw10_awake.D) : Fshuntlaw10_awake (k + 1) = body2 cf (fun f a b K => COt f a b K [Itopo_Floats k, Itopo_Loops k, Itopo_Check k]) (fun b _ σ K => LOt Ty (kps 7) 0 b σ K []) 7 Tryd.f7.ntmps Tryd.f7.results.toList (bd Tryd.f7) (shshuntlaw10_awake.enc x).1 (shshuntlaw10_awake.enc x).2 (putS FS.dec rsshuntlaw10_awake) := by kernel_rfl
theorem okshuntlaw10_awake : ∀ k, InstOk (call cf k) (Ishuntlaw10_awake k)
  | 0 => fun x y e => absurd (show (none : Option _) = some y from e) (by simp)
  | k + 1 => inst_ok (c := cf) (k := k) (f := 7) (fn := Tryd.f7) (body := bd Tryd.f7) (sh := shshuntlaw10_awake) (os := rsshuntlaw10_awake) rfl Tryd.func7 rfl ⟨rfl, Nat.le_of_ble_eq_true rfl⟩ (COt_ok (alshuntlaw10_awake k)) (anshuntlaw10_awake k) (fun x => Fshuntlaw10_awake (k + 1)) (stshuntlaw10_awake k)

/-! shunt/shuntlaw10.bulky -/
def Lshuntlaw10_bulky_0s (k : Nat) (rec : Int → Int → List ByteArray → List (Int × ByteArray × List Int × Int × (Int × Int) × (Int × List (Int × Int) × List Int) × ByteArray × Int × List (Int × Int) × List (Int × Int)) → Int → Int → Int → Option (Int × List ByteArray × List (Int × ByteArray × List Int × Int × (Int × Int) × (Int × List (Int × Int) × List Int) × ByteArray × Int × List (Int × Int) × List (Int × Int)) × Int × Int × Int)) (n : Int) (i : Int) (f0 : List ByteArray) (f1 : List (Int × ByteArray × List Int × Int × (Int × Int) × (Int × List (Int × Int) × List Int) × ByteArray × Int × List (Int × Int) × List (Int × Int))) (f2 : Int) (f3 : Int) (f4 : Int) : Option (Int × List ByteArray × List (Int × ByteArray × List Int × Int × (Int × Int) × (Int × List (Int × Int) × List Int) × ByteArray × Int × List (Int × Int) × List (Int × Int)) × Int × Int × Int) :=
  if ((decide (i < (((List.length f1) : Nat) : Int))) = true) then
    if ((decide (n < (2000 : Int))) = true) then
      if ((0 : Int) ≤ i) then
        Option.bind (f1)[(Int.toNat i)]? fun x =>
        rec (IntKind.wrap .i64 (n + (IntKind.wrap .i64 ((IntKind.wrap .i64 ((IntKind.wrap .i64 ((IntKind.wrap .i64 ((IntKind.wrap .i64 ((1 : Int) + (min (2000 : Int) (((List.length x.2.2.1) : Nat) : Int)))) + (min (2000 : Int) (((List.length x.2.2.2.2.2.1.2.1) : Nat) : Int)))) + (min (2000 : Int) (((List.length x.2.2.2.2.2.1.2.2) : Nat) : Int)))) + (min (2000 : Int) (((List.length x.2.2.2.2.2.2.2.2.1) : Nat) : Int)))) + (min (2000 : Int) (((List.length x.2.2.2.2.2.2.2.2.2) : Nat) : Int)))))) (IntKind.wrap .i64 (i + (1 : Int))) f0 f1 f2 f3 f4
      else
      none
    else
    (some (n, f0, f1, f2, f3, f4))
  else
  (some (n, f0, f1, f2, f3, f4))
def Lshuntlaw10_bulky_0 (k n : Nat) : Int → Int → List ByteArray → List (Int × ByteArray × List Int × Int × (Int × Int) × (Int × List (Int × Int) × List Int) × ByteArray × Int × List (Int × Int) × List (Int × Int)) → Int → Int → Int → Option (Int × List ByteArray × List (Int × ByteArray × List Int × Int × (Int × Int) × (Int × List (Int × Int) × List Int) × ByteArray × Int × List (Int × Int) × List (Int × Int)) × Int × Int × Int) := Nat.rec (fun _ _ _ _ _ _ _ => none) (fun _ r => Lshuntlaw10_bulky_0s k r) n
def bshuntlaw10_bulky (k : Nat) (f0 : List ByteArray) (f1 : List (Int × ByteArray × List Int × Int × (Int × Int) × (Int × List (Int × Int) × List Int) × ByteArray × Int × List (Int × Int) × List (Int × Int))) (f2 : Int) (f3 : Int) (f4 : Int) : Option (Bool) :=
  Option.bind (Lshuntlaw10_bulky_0 k k (((List.length f0) : Nat) : Int) (0 : Int) f0 f1 f2 f3 f4) fun r1 =>
  (some (decide (r1.1 ≥ (2000 : Int))))
def Fshuntlaw10_bulky : Nat → List ByteArray → List (Int × ByteArray × List Int × Int × (Int × Int) × (Int × List (Int × Int) × List Int) × ByteArray × Int × List (Int × Int) × List (Int × Int)) → Int → Int → Int → Option (Bool)
  | 0, _, _, _, _, _ => none
  | k + 1, f0, f1, f2, f3, f4 => bshuntlaw10_bulky k f0 f1 f2 f3 f4
def shshuntlaw10_bulky : FS := { vs := [.g [.lf (.sl .str), .lf (.sl (.pr (.int .u8) (.pr .str (.pr (.sl (.int .i64)) (.pr (.int .i64) (.pr (.pr (.int .i64) (.int .i64)) (.pr (.pr (.int .i64) (.pr (.sl (.pr (.int .i64) (.int .i64))) (.sl (.int .i64)))) (.pr .str (.pr (.int .u8) (.pr (.sl (.pr (.int .i64) (.int .i64))) (.sl (.pr (.int .i64) (.int .i64))))))))))))), .lf (.int .i64), .lf (.int .i64), .lf (.int .i64)]], bs := [] }
def rsshuntlaw10_bulky : List FS := [{ vs := [.a (.lf .bool)], bs := [] }]
def Ishuntlaw10_bulky (k : Nat) : Inst := ⟨8, shshuntlaw10_bulky, rsshuntlaw10_bulky, fun x => Fshuntlaw10_bulky k x.1 x.2.1 x.2.2.1 x.2.2.2.1 x.2.2.2.2⟩
theorem alshuntlaw10_bulky (k : Nat) : AllI (call cf k) [] := True.intro
def hsshuntlaw10_bulky_0 : List SS := [{ fr := [(1, .a (.ptr 0 0 0)), (3, .a (.lf (.int .i64))), (4, .a (.lf (.int .i64)))], mem := [(0, some (.raw [[.lf (.sl .str), .lf (.sl (.pr (.int .u8) (.pr .str (.pr (.sl (.int .i64)) (.pr (.int .i64) (.pr (.pr (.int .i64) (.int .i64)) (.pr (.pr (.int .i64) (.pr (.sl (.pr (.int .i64) (.int .i64))) (.sl (.int .i64)))) (.pr .str (.pr (.int .u8) (.pr (.sl (.pr (.int .i64) (.int .i64))) (.sl (.pr (.int .i64) (.int .i64))))))))))))), .lf (.int .i64), .lf (.int .i64), .lf (.int .i64)]] 5 27 true false false))], nx := 1 }]
def osshuntlaw10_bulky_0 : List OS := [⟨some 0, { fr := [(3, .a (.lf (.int .i64)))], mem := [(0, some (.raw [[.lf (.sl .str), .lf (.sl (.pr (.int .u8) (.pr .str (.pr (.sl (.int .i64)) (.pr (.int .i64) (.pr (.pr (.int .i64) (.int .i64)) (.pr (.pr (.int .i64) (.pr (.sl (.pr (.int .i64) (.int .i64))) (.sl (.int .i64)))) (.pr .str (.pr (.int .u8) (.pr (.sl (.pr (.int .i64) (.int .i64))) (.sl (.pr (.int .i64) (.int .i64))))))))))))), .lf (.int .i64), .lf (.int .i64), .lf (.int .i64)]] 5 27 true false false))], nx := 1 }⟩]
def LIshuntlaw10_bulky_0 (k : Nat) : LInst := ⟨0, hsshuntlaw10_bulky_0, osshuntlaw10_bulky_0, fun x => Lshuntlaw10_bulky_0 k k x.1 x.2.1 x.2.2.1 x.2.2.2.1 x.2.2.2.2.1 x.2.2.2.2.2.1 x.2.2.2.2.2.2⟩
theorem anshuntlaw10_bulky_0 (k : Nat) : LAll (LOk (R := DS OS.D osshuntlaw10_bulky_0) (fun b _ σ K => LOt Ty (kps 8) 0 b σ K []) cf (call cf k) (kps 8) Tryd.f8.ntmps k 0) 0 (lb Tryd.f8 0) :=
  And.intro (And.intro (True.intro) (And.intro (True.intro) (True.intro))) (And.intro (And.intro (True.intro) (True.intro)) (True.intro))
theorem stshuntlaw10_bulky_0 (k n : Nat) (x : DS SS.D hsshuntlaw10_bulky_0) : Lshuntlaw10_bulky_0 k (n + 1) x.1 x.2.1 x.2.2.1 x.2.2.2.1 x.2.2.2.2.1 x.2.2.2.2.2.1 x.2.2.2.2.2.2 = encSK SS.enc (fun σ => run2 cf (fun f a b K => COt f a b K []) (fun b _ σ K => LOt Ty (kps 8) 0 b σ K []) Tryd.f8.ntmps 0 (lb Tryd.f8 0) σ (nextK Ty (kps 8 0) 0 hsshuntlaw10_bulky_0 osshuntlaw10_bulky_0 fun x => Lshuntlaw10_bulky_0 k n x.1 x.2.1 x.2.2.1 x.2.2.2.1 x.2.2.2.2.1 x.2.2.2.2.2.1 x.2.2.2.2.2.2)) hsshuntlaw10_bulky_0 x := by kernel_rfl
theorem loshuntlaw10_bulky_0 (k : Nat) : LIOk cf (call cf k) (kps 8) Tryd.f8.ntmps k 0 0 (lb Tryd.f8 0) (LIshuntlaw10_bulky_0 k) :=
  loop_ok (c := cf) (callF := call cf k) (kp := kps 8) (nt := Tryd.f8.ntmps) (k := k) (p := 0) (b := 0) (x0 := lb Tryd.f8 0) (hs := hsshuntlaw10_bulky_0) (os := osshuntlaw10_bulky_0) (COt_ok (alshuntlaw10_bulky k)) (anshuntlaw10_bulky_0 k) (fun n x => Lshuntlaw10_bulky_0 k n x.1 x.2.1 x.2.2.1 x.2.2.2.1 x.2.2.2.2.1 x.2.2.2.2.2.1 x.2.2.2.2.2.2) (fun _ => rfl) (stshuntlaw10_bulky_0 k)
theorem anshuntlaw10_bulky (k : Nat) : LAll (LOk (R := DS FS.D rsshuntlaw10_bulky) (fun b _ σ K => LOt Ty (kps 8) 0 b σ K [LIshuntlaw10_bulky_0 k]) cf (call cf k) (cf.keep 8) Tryd.f8.ntmps k shshuntlaw10_bulky.bs.length) 0 (bd Tryd.f8) :=
  And.intro (True.intro) (And.intro (True.intro) (And.intro (And.intro (True.intro) (LOt_ok (c := cf) (callF := call cf k) (kp := kps 8) (nt := Tryd.f8.ntmps) (k := k) (p := 0) (b := 0) (x0 := lb Tryd.f8 0) (l := [LIshuntlaw10_bulky_0 k]) (And.intro (fun _ => loshuntlaw10_bulky_0 k) (True.intro)))) (And.intro (True.intro) (True.intro))))
theorem stshuntlaw10_bulky (k : Nat) (x : shshuntlaw10_bulky.D) : Fshuntlaw10_bulky (k + 1) x.1 x.2.1 x.2.2.1 x.2.2.2.1 x.2.2.2.2 = body2 cf (fun f a b K => COt f a b K []) (fun b _ σ K => LOt Ty (kps 8) 0 b σ K [LIshuntlaw10_bulky_0 k]) 8 Tryd.f8.ntmps Tryd.f8.results.toList (bd Tryd.f8) (shshuntlaw10_bulky.enc x).1 (shshuntlaw10_bulky.enc x).2 (putS FS.dec rsshuntlaw10_bulky) := by kernel_rfl
theorem okshuntlaw10_bulky : ∀ k, InstOk (call cf k) (Ishuntlaw10_bulky k)
  | 0 => fun x y e => absurd (show (none : Option _) = some y from e) (by simp)
  | k + 1 => inst_ok (c := cf) (k := k) (f := 8) (fn := Tryd.f8) (body := bd Tryd.f8) (sh := shshuntlaw10_bulky) (os := rsshuntlaw10_bulky) rfl Tryd.func8 rfl ⟨rfl, Nat.le_of_ble_eq_true rfl⟩ (COt_ok (alshuntlaw10_bulky k)) (anshuntlaw10_bulky k) (fun x => Fshuntlaw10_bulky (k + 1) x.1 x.2.1 x.2.2.1 x.2.2.2.1 x.2.2.2.2) (stshuntlaw10_bulky k)

/-! shunt/shuntref09.Copy -/
def Lshuntref09_Copy_0s (k : Nat) (rec : Int → List ByteArray → List (Int × ByteArray × List Int × Int × (Int × Int) × (Int × List (Int × Int) × List Int) × ByteArray × Int × List (Int × Int) × List (Int × Int)) → Int → Int → Int → Nat → Nat → Int → Int → Int → Nat → Nat → Int → Int → Int → List ByteArray → List (Int × ByteArray × List Int × Int × (Int × Int) × (Int × List (Int × Int) × List Int) × ByteArray × Int × List (Int × Int) × List (Int × Int)) → List ByteArray → List (Int × ByteArray × List Int × Int × (Int × Int) × (Int × List (Int × Int) × List Int) × ByteArray × Int × List (Int × Int) × List (Int × Int)) → Option (List ByteArray × List (Int × ByteArray × List Int × Int × (Int × Int) × (Int × List (Int × Int) × List Int) × ByteArray × Int × List (Int × Int) × List (Int × Int)) × Int × Int × Int × Nat × Nat × Int × Int × Int × Nat × Nat × Int × Int × Int × List ByteArray × List (Int × ByteArray × List Int × Int × (Int × Int) × (Int × List (Int × Int) × List Int) × ByteArray × Int × List (Int × Int) × List (Int × Int)) × List ByteArray × List (Int × ByteArray × List Int × Int × (Int × Int) × (Int × List (Int × Int) × List Int) × ByteArray × Int × List (Int × Int) × List (Int × Int)))) (i : Int) (f0 : List ByteArray) (f1 : List (Int × ByteArray × List Int × Int × (Int × Int) × (Int × List (Int × Int) × List Int) × ByteArray × Int × List (Int × Int) × List (Int × Int))) (f2 : Int) (f3 : Int) (f4 : Int) (x0 : Nat) (x1 : Nat) (x2 : Int) (x3 : Int) (x4 : Int) (out0 : Nat) (out1 : Nat) (out2 : Int) (out3 : Int) (out4 : Int) (m : List ByteArray) (m1 : List (Int × ByteArray × List Int × Int × (Int × Int) × (Int × List (Int × Int) × List Int) × ByteArray × Int × List (Int × Int) × List (Int × Int))) (m2 : List ByteArray) (m3 : List (Int × ByteArray × List Int × Int × (Int × Int) × (Int × List (Int × Int) × List Int) × ByteArray × Int × List (Int × Int) × List (Int × Int))) : Option (List ByteArray × List (Int × ByteArray × List Int × Int × (Int × Int) × (Int × List (Int × Int) × List Int) × ByteArray × Int × List (Int × Int) × List (Int × Int)) × Int × Int × Int × Nat × Nat × Int × Int × Int × Nat × Nat × Int × Int × Int × List ByteArray × List (Int × ByteArray × List Int × Int × (Int × Int) × (Int × List (Int × Int) × List Int) × ByteArray × Int × List (Int × Int) × List (Int × Int)) × List ByteArray × List (Int × ByteArray × List Int × Int × (Int × Int) × (Int × List (Int × Int) × List Int) × ByteArray × Int × List (Int × Int) × List (Int × Int))) :=
  if ((decide (i < (((List.length f1) : Nat) : Int))) = true) then
    if ((0 : Int) ≤ i) then
      Option.bind (f1)[(Int.toNat i)]? fun x =>
      if (((0 + (List.length x.2.2.1)) * 8) ≤ 140737488355328) then
        if (((0 + (List.length x.2.2.2.2.2.1.2.1)) * 16) ≤ 140737488355328) then
          if (((0 + (List.length x.2.2.2.2.2.1.2.2)) * 8) ≤ 140737488355328) then
            if (((0 + (List.length x.2.2.2.2.2.2.2.2.1)) * 16) ≤ 140737488355328) then
              if (((0 + (List.length x.2.2.2.2.2.2.2.2.2)) * 16) ≤ 140737488355328) then
                if ((0 + (0 + (List.length x.2.2.1))) ≤ (List.length ((List.take 0 []) ++ x.2.2.1))) then
                  if ((0 + (0 + (List.length x.2.2.2.2.2.1.2.1))) ≤ (List.length ((List.take 0 []) ++ x.2.2.2.2.2.1.2.1))) then
                    if ((0 + (0 + (List.length x.2.2.2.2.2.1.2.2))) ≤ (List.length ((List.take 0 []) ++ x.2.2.2.2.2.1.2.2))) then
                      if ((0 + (0 + (List.length x.2.2.2.2.2.2.2.2.1))) ≤ (List.length ((List.take 0 []) ++ x.2.2.2.2.2.2.2.2.1))) then
                        if ((0 + (0 + (List.length x.2.2.2.2.2.2.2.2.2))) ≤ (List.length ((List.take 0 []) ++ x.2.2.2.2.2.2.2.2.2))) then
                          if (out1 ≤ (List.length m3)) then
                            if (((out1 + (List.length (List.take 1 ((x.1, (x.2.1, ((List.take (0 + (List.length x.2.2.1)) ((List.take 0 []) ++ x.2.2.1)), (x.2.2.2.1, ((x.2.2.2.2.1.1, x.2.2.2.2.1.2), ((x.2.2.2.2.2.1.1, ((List.take (0 + (List.length x.2.2.2.2.2.1.2.1)) ((List.take 0 []) ++ x.2.2.2.2.2.1.2.1)), (List.take (0 + (List.length x.2.2.2.2.2.1.2.2)) ((List.take 0 []) ++ x.2.2.2.2.2.1.2.2)))), (x.2.2.2.2.2.2.1, (x.2.2.2.2.2.2.2.1, ((List.take (0 + (List.length x.2.2.2.2.2.2.2.2.1)) ((List.take 0 []) ++ x.2.2.2.2.2.2.2.2.1)), (List.take (0 + (List.length x.2.2.2.2.2.2.2.2.2)) ((List.take 0 []) ++ x.2.2.2.2.2.2.2.2.2))))))))))) :: [])))) * 200) ≤ 140737488355328) then
                              rec (IntKind.wrap .i64 (i + (1 : Int))) f0 f1 f2 f3 f4 x0 x1 x2 x3 x4 out0 (out1 + (List.length (List.take 1 ((x.1, (x.2.1, ((List.take (0 + (List.length x.2.2.1)) ((List.take 0 []) ++ x.2.2.1)), (x.2.2.2.1, ((x.2.2.2.2.1.1, x.2.2.2.2.1.2), ((x.2.2.2.2.2.1.1, ((List.take (0 + (List.length x.2.2.2.2.2.1.2.1)) ((List.take 0 []) ++ x.2.2.2.2.2.1.2.1)), (List.take (0 + (List.length x.2.2.2.2.2.1.2.2)) ((List.take 0 []) ++ x.2.2.2.2.2.1.2.2)))), (x.2.2.2.2.2.2.1, (x.2.2.2.2.2.2.2.1, ((List.take (0 + (List.length x.2.2.2.2.2.2.2.2.1)) ((List.take 0 []) ++ x.2.2.2.2.2.2.2.2.1)), (List.take (0 + (List.length x.2.2.2.2.2.2.2.2.2)) ((List.take 0 []) ++ x.2.2.2.2.2.2.2.2.2))))))))))) :: [])))) out2 out3 out4 m m1 m2 ((List.take out1 m3) ++ (List.take 1 ((x.1, (x.2.1, ((List.take (0 + (List.length x.2.2.1)) ((List.take 0 []) ++ x.2.2.1)), (x.2.2.2.1, ((x.2.2.2.2.1.1, x.2.2.2.2.1.2), ((x.2.2.2.2.2.1.1, ((List.take (0 + (List.length x.2.2.2.2.2.1.2.1)) ((List.take 0 []) ++ x.2.2.2.2.2.1.2.1)), (List.take (0 + (List.length x.2.2.2.2.2.1.2.2)) ((List.take 0 []) ++ x.2.2.2.2.2.1.2.2)))), (x.2.2.2.2.2.2.1, (x.2.2.2.2.2.2.2.1, ((List.take (0 + (List.length x.2.2.2.2.2.2.2.2.1)) ((List.take 0 []) ++ x.2.2.2.2.2.2.2.2.1)), (List.take (0 + (List.length x.2.2.2.2.2.2.2.2.2)) ((List.take 0 []) ++ x.2.2.2.2.2.2.2.2.2))))))))))) :: [])))
                            else
                            none
                          else
                          none
                        else
                        none
                      else
                      none
                    else
                    none
                  else
                  none
                else
                none
              else
              none
            else
            none
          else
          none
        else
        none
      else
      none
    else
    none
  else
  (some (f0, f1, f2, f3, f4, x0, x1, x2, x3, x4, out0, out1, out2, out3, out4, m, m1, m2, m3))
def Lshuntref09_Copy_0 (k n : Nat) : Int → List ByteArray → List (Int × ByteArray × List Int × Int × (Int × Int) × (Int × List (Int × Int) × List Int) × ByteArray × Int × List (Int × Int) × List (Int × Int)) → Int → Int → Int → Nat → Nat → Int → Int → Int → Nat → Nat → Int → Int → Int → List ByteArray → List (Int × ByteArray × List Int × Int × (Int × Int) × (Int × List (Int × Int) × List Int) × ByteArray × Int × List (Int × Int) × List (Int × Int)) → List ByteArray → List (Int × ByteArray × List Int × Int × (Int × Int) × (Int × List (Int × Int) × List Int) × ByteArray × Int × List (Int × Int) × List (Int × Int)) → Option (List ByteArray × List (Int × ByteArray × List Int × Int × (Int × Int) × (Int × List (Int × Int) × List Int) × ByteArray × Int × List (Int × Int) × List (Int × Int)) × Int × Int × Int × Nat × Nat × Int × Int × Int × Nat × Nat × Int × Int × Int × List ByteArray × List (Int × ByteArray × List Int × Int × (Int × Int) × (Int × List (Int × Int) × List Int) × ByteArray × Int × List (Int × Int) × List (Int × Int)) × List ByteArray × List (Int × ByteArray × List Int × Int × (Int × Int) × (Int × List (Int × Int) × List Int) × ByteArray × Int × List (Int × Int) × List (Int × Int))) := Nat.rec (fun _ _ _ _ _ _ _ _ _ _ _ _ _ _ _ _ _ _ _ _ => none) (fun _ r => Lshuntref09_Copy_0s k r) n
def bshuntref09_Copy (k : Nat) (f0 : List ByteArray) (f1 : List (Int × ByteArray × List Int × Int × (Int × Int) × (Int × List (Int × Int) × List Int) × ByteArray × Int × List (Int × Int) × List (Int × Int))) (f2 : Int) (f3 : Int) (f4 : Int) : Option (Nat × Nat × Int × Int × Int × List ByteArray × List (Int × ByteArray × List Int × Int × (Int × Int) × (Int × List (Int × Int) × List Int) × ByteArray × Int × List (Int × Int) × List (Int × Int))) :=
  if (((0 + (List.length f0)) * 16) ≤ 140737488355328) then
    Option.bind (Lshuntref09_Copy_0 k k (0 : Int) f0 f1 f2 f3 f4 0 0 (0 : Int) (0 : Int) (0 : Int) (0 + (List.length f0)) 0 f2 f3 f4 [] [] ((List.take 0 []) ++ f0) []) fun r2 =>
    (some (r2.2.2.2.2.2.2.2.2.2.2.1, r2.2.2.2.2.2.2.2.2.2.2.2.1, r2.2.2.2.2.2.2.2.2.2.2.2.2.1, r2.2.2.2.2.2.2.2.2.2.2.2.2.2.1, r2.2.2.2.2.2.2.2.2.2.2.2.2.2.2.1, r2.2.2.2.2.2.2.2.2.2.2.2.2.2.2.2.2.2.1, r2.2.2.2.2.2.2.2.2.2.2.2.2.2.2.2.2.2.2))
  else
  none
def Fshuntref09_Copy : Nat → List ByteArray → List (Int × ByteArray × List Int × Int × (Int × Int) × (Int × List (Int × Int) × List Int) × ByteArray × Int × List (Int × Int) × List (Int × Int)) → Int → Int → Int → Option (Nat × Nat × Int × Int × Int × List ByteArray × List (Int × ByteArray × List Int × Int × (Int × Int) × (Int × List (Int × Int) × List Int) × ByteArray × Int × List (Int × Int) × List (Int × Int)))
  | 0, _, _, _, _, _ => none
  | k + 1, f0, f1, f2, f3, f4 => bshuntref09_Copy k f0 f1 f2 f3 f4
def shshuntref09_Copy : FS := { vs := [.g [.lf (.sl .str), .lf (.sl (.pr (.int .u8) (.pr .str (.pr (.sl (.int .i64)) (.pr (.int .i64) (.pr (.pr (.int .i64) (.int .i64)) (.pr (.pr (.int .i64) (.pr (.sl (.pr (.int .i64) (.int .i64))) (.sl (.int .i64)))) (.pr .str (.pr (.int .u8) (.pr (.sl (.pr (.int .i64) (.int .i64))) (.sl (.pr (.int .i64) (.int .i64))))))))))))), .lf (.int .i64), .lf (.int .i64), .lf (.int .i64)]], bs := [] }
def rsshuntref09_Copy : List FS := [{ vs := [.g [.smz 0, .smz 1, .lf (.int .i64), .lf (.int .i64), .lf (.int .i64)]], bs := [.arr .str 1 9 false, .arr (.pr (.int .u8) (.pr .str (.pr (.sl (.int .i64)) (.pr (.int .i64) (.pr (.pr (.int .i64) (.int .i64)) (.pr (.pr (.int .i64) (.pr (.sl (.pr (.int .i64) (.int .i64))) (.sl (.int .i64)))) (.pr .str (.pr (.int .u8) (.pr (.sl (.pr (.int .i64) (.int .i64))) (.sl (.pr (.int .i64) (.int .i64)))))))))))) 13 38 false] }]
def Ishuntref09_Copy (k : Nat) : Inst := ⟨9, shshuntref09_Copy, rsshuntref09_Copy, fun x => Fshuntref09_Copy k x.1 x.2.1 x.2.2.1 x.2.2.2.1 x.2.2.2.2⟩
theorem alshuntref09_Copy (k : Nat) : AllI (call cf k) [] := True.intro
def hsshuntref09_Copy_0 : List SS := [{ fr := [(1, .a (.ptr 0 0 0)), (2, .a (.ptr 1 0 0)), (3, .a (.ptr 2 0 0)), (4, .a (.lf (.int .i64)))], mem := [(0, some (.raw [[.lf (.sl .str), .lf (.sl (.pr (.int .u8) (.pr .str (.pr (.sl (.int .i64)) (.pr (.int .i64) (.pr (.pr (.int .i64) (.int .i64)) (.pr (.pr (.int .i64) (.pr (.sl (.pr (.int .i64) (.int .i64))) (.sl (.int .i64)))) (.pr .str (.pr (.int .u8) (.pr (.sl (.pr (.int .i64) (.int .i64))) (.sl (.pr (.int .i64) (.int .i64))))))))))))), .lf (.int .i64), .lf (.int .i64), .lf (.int .i64)]] 5 27 true false false)), (1, some (.raw [[.smz 3, .smz 4, .lf (.int .i64), .lf (.int .i64), .lf (.int .i64)]] 5 27 false false false)), (2, some (.raw [[.smz 5, .smz 6, .lf (.int .i64), .lf (.int .i64), .lf (.int .i64)]] 5 27 false false false)), (3, some (.arr .str 1 9 false)), (4, some (.arr (.pr (.int .u8) (.pr .str (.pr (.sl (.int .i64)) (.pr (.int .i64) (.pr (.pr (.int .i64) (.int .i64)) (.pr (.pr (.int .i64) (.pr (.sl (.pr (.int .i64) (.int .i64))) (.sl (.int .i64)))) (.pr .str (.pr (.int .u8) (.pr (.sl (.pr (.int .i64) (.int .i64))) (.sl (.pr (.int .i64) (.int .i64)))))))))))) 13 38 false)), (5, some (.arr .str 1 9 false)), (6, some (.arr (.pr (.int .u8) (.pr .str (.pr (.sl (.int .i64)) (.pr (.int .i64) (.pr (.pr (.int .i64) (.int .i64)) (.pr (.pr (.int .i64) (.pr (.sl (.pr (.int .i64) (.int .i64))) (.sl (.int .i64)))) (.pr .str (.pr (.int .u8) (.pr (.sl (.pr (.int .i64) (.int .i64))) (.sl (.pr (.int .i64) (.int .i64)))))))))))) 13 38 false))], nx := 7 }]
def osshuntref09_Copy_0 : List OS := [⟨some 0, { fr := [(2, .a (.ptr 1 0 0)), (3, .a (.ptr 2 0 0))], mem := [(0, some (.raw [[.lf (.sl .str), .lf (.sl (.pr (.int .u8) (.pr .str (.pr (.sl (.int .i64)) (.pr (.int .i64) (.pr (.pr (.int .i64) (.int .i64)) (.pr (.pr (.int .i64) (.pr (.sl (.pr (.int .i64) (.int .i64))) (.sl (.int .i64)))) (.pr .str (.pr (.int .u8) (.pr (.sl (.pr (.int .i64) (.int .i64))) (.sl (.pr (.int .i64) (.int .i64))))))))))))), .lf (.int .i64), .lf (.int .i64), .lf (.int .i64)]] 5 27 true false false)), (1, some (.raw [[.smz 3, .smz 4, .lf (.int .i64), .lf (.int .i64), .lf (.int .i64)]] 5 27 false false false)), (2, some (.raw [[.smz 5, .smz 6, .lf (.int .i64), .lf (.int .i64), .lf (.int .i64)]] 5 27 false false false)), (3, some (.arr .str 1 9 false)), (4, some (.arr (.pr (.int .u8) (.pr .str (.pr (.sl (.int .i64)) (.pr (.int .i64) (.pr (.pr (.int .i64) (.int .i64)) (.pr (.pr (.int .i64) (.pr (.sl (.pr (.int .i64) (.int .i64))) (.sl (.int .i64)))) (.pr .str (.pr (.int .u8) (.pr (.sl (.pr (.int .i64) (.int .i64))) (.sl (.pr (.int .i64) (.int .i64)))))))))))) 13 38 false)), (5, some (.arr .str 1 9 false)), (6, some (.arr (.pr (.int .u8) (.pr .str (.pr (.sl (.int .i64)) (.pr (.int .i64) (.pr (.pr (.int .i64) (.int .i64)) (.pr (.pr (.int .i64) (.pr (.sl (.pr (.int .i64) (.int .i64))) (.sl (.int .i64)))) (.pr .str (.pr (.int .u8) (.pr (.sl (.pr (.int .i64) (.int .i64))) (.sl (.pr (.int .i64) (.int .i64)))))))))))) 13 38 false))], nx := 7 }⟩]
def LIshuntref09_Copy_0 (k : Nat) : LInst := ⟨0, hsshuntref09_Copy_0, osshuntref09_Copy_0, fun x => Lshuntref09_Copy_0 k k x.1 x.2.1 x.2.2.1 x.2.2.2.1 x.2.2.2.2.1 x.2.2.2.2.2.1 x.2.2.2.2.2.2.1 x.2.2.2.2.2.2.2.1 x.2.2.2.2.2.2.2.2.1 x.2.2.2.2.2.2.2.2.2.1 x.2.2.2.2.2.2.2.2.2.2.1 x.2.2.2.2.2.2.2.2.2.2.2.1 x.2.2.2.2.2.2.2.2.2.2.2.2.1 x.2.2.2.2.2.2.2.2.2.2.2.2.2.1 x.2.2.2.2.2.2.2.2.2.2.2.2.2.2.1 x.2.2.2.2.2.2.2.2.2.2.2.2.2.2.2.1 x.2.2.2.2.2.2.2.2.2.2.2.2.2.2.2.2.1 x.2.2.2.2.2.2.2.2.2.2.2.2.2.2.2.2.2.1 x.2.2.2.2.2.2.2.2.2.2.2.2.2.2.2.2.2.2.1 x.2.2.2.2.2.2.2.2.2.2.2.2.2.2.2.2.2.2.2⟩
theorem anshuntref09_Copy_0 (k : Nat) : LAll (LOk (R := DS OS.D osshuntref09_Copy_0) (fun b _ σ K => LOt Ty (kps 9) 0 b σ K []) cf (call cf k) (kps 9) Tryd.f9.ntmps k 0) 0 (lb Tryd.f9 0) :=
  And.intro (And.intro (True.intro) (And.intro (True.intro) (True.intro))) (And.intro (And.intro (True.intro) (And.intro (True.intro) (And.intro (True.intro) (And.intro (True.intro) (And.intro (True.intro) (And.intro (True.intro) (True.intro))))))) (True.intro))
theorem stshuntref09_Copy_0 (k n : Nat) (x : DS SS.D hsshuntref09_Copy_0) : Lshuntref09_Copy_0 k (n + 1) x.1 x.2.1 x.2.2.1 x.2.2.2.1 x.2.2.2.2.1 x.2.2.2.2.2.1 x.2.2.2.2.2.2.1 x.2.2.2.2.2.2.2.1 x.2.2.2.2.2.2.2.2.1 x.2.2.2.2.2.2.2.2.2.1 x.2.2.2.2.2.2.2.2.2.2.1 x.2.2.2.2.2.2.2.2.2.2.2.1 x.2.2.2.2.2.2.2.2.2.2.2.2.1 x.2.2.2.2.2.2.2.2.2.2.2.2.2.1 x.2.2.2.2.2.2.2.2.2.2.2.2.2.2.1 x.2.2.2.2.2.2.2.2.2.2.2.2.2.2.2.1 x.2.2.2.2.2.2.2.2.2.2.2.2.2.2.2.2.1 x.2.2.2.2.2.2.2.2.2.2.2.2.2.2.2.2.2.1 x.2.2.2.2.2.2.2.2.2.2.2.2.2.2.2.2.2.2.1 x.2.2.2.2.2.2.2.2.2.2.2.2.2.2.2.2.2.2.2 = encSK SS.enc (fun σ => run2 cf (fun f a b K => COt f a b K []) (fun b _ σ K => LOt Ty (kps 9) 0 b σ K []) Tryd.f9.ntmps 0 (lb Tryd.f9 0) σ (nextK Ty (kps 9 0) 0 hsshuntref09_Copy_0 osshuntref09_Copy_0 fun x => Lshuntref09_Copy_0 k n x.1 x.2.1 x.2.2.1 x.2.2.2.1 x.2.2.2.2.1 x.2.2.2.2.2.1 x.2.2.2.2.2.2.1 x.2.2.2.2.2.2.2.1 x.2.2.2.2.2.2.2.2.1 x.2.2.2.2.2.2.2.2.2.1 x.2.2.2.2.2.2.2.2.2.2.1 x.2.2.2.2.2.2.2.2.2.2.2.1 x.2.2.2.2.2.2.2.2.2.2.2.2.1 x.2.2.2.2.2.2.2.2.2.2.2.2.2.1 x.2.2.2.2.2.2.2.2.2.2.2.2.2.2.1 x.2.2.2.2.2.2.2.2.2.2.2.2.2.2.2.1 x.2.2.2.2.2.2.2.2.2.2.2.2.2.2.2.2.1 x.2.2.2.2.2.2.2.2.2.2.2.2.2.2.2.2.2.1 x.2.2.2.2.2.2.2.2.2.2.2.2.2.2.2.2.2.2.1 x.2.2.2.2.2.2.2.2.2.2.2.2.2.2.2.2.2.2.2)) hsshuntref09_Copy_0 x := by kernel_rfl
theorem loshuntref09_Copy_0 (k : Nat) : LIOk cf (call cf k) (kps 9) Tryd.f9.ntmps k 0 0 (lb Tryd.f9 0) (LIshuntref09_Copy_0 k) :=
  loop_ok (c := cf) (callF := call cf k) (kp := kps 9) (nt := Tryd.f9.ntmps) (k := k) (p := 0) (b := 0) (x0 := lb Tryd.f9 0) (hs := hsshuntref09_Copy_0) (os := osshuntref09_Copy_0) (COt_ok (alshuntref09_Copy k)) (anshuntref09_Copy_0 k) (fun n x => Lshuntref09_Copy_0 k n x.1 x.2.1 x.2.2.1 x.2.2.2.1 x.2.2.2.2.1 x.2.2.2.2.2.1 x.2.2.2.2.2.2.1 x.2.2.2.2.2.2.2.1 x.2.2.2.2.2.2.2.2.1 x.2.2.2.2.2.2.2.2.2.1 x.2.2.2.2.2.2.2.2.2.2.1 x.2.2.2.2.2.2.2.2.2.2.2.1 x.2.2.2.2.2.2.2.2.2.2.2.2.1 x.2.2.2.2.2.2.2.2.2.2.2.2.2.1 x.2.2.2.2.2.2.2.2.2.2.2.2.2.2.1 x.2.2.2.2.2.2.2.2.2.2.2.2.2.2.2.1 x.2.2.2.2.2.2.2.2.2.2.2.2.2.2.2.2.1 x.2.2.2.2.2.2.2.2.2.2.2.2.2.2.2.2.2.1 x.2.2.2.2.2.2.2.2.2.2.2.2.2.2.2.2.2.2.1 x.2.2.2.2.2.2.2.2.2.2.2.2.2.2.2.2.2.2.2) (fun _ => rfl) (stshuntref09_Copy_0 k)
theorem anshuntref09_Copy (k : Nat) : LAll (LOk (R := DS FS.D rsshuntref09_Copy) (fun b _ σ K => LOt Ty (kps 9) 0 b σ K [LIshuntref09_Copy_0 k]) cf (call cf k) (cf.keep 9) Tryd.f9.ntmps k shshuntref09_Copy.bs.length) 0 (bd Tryd.f9) :=
  And.intro (True.intro) (And.intro (True.intro) (And.intro (And.intro (True.intro) (LOt_ok (c := cf) (callF := call cf k) (kp := kps 9) (nt := Tryd.f9.ntmps) (k := k) (p := 0) (b := 0) (x0 := lb Tryd.f9 0) (l := [LIshuntref09_Copy_0 k]) (And.intro (fun _ => loshuntref09_Copy_0 k) (True.intro)))) (And.intro (True.intro) (True.intro))))
theorem stshuntref09_Copy (k : Nat) (x : shshuntref09_Copy.D) : Fshuntref09_Copy (k + 1) x.1 x.2.1 x.2.2.1 x.2.2.2.1 x.2.2.2.2 = body2 cf (fun f a b K => COt f a b K []) (fun b _ σ K => LOt Ty (kps 9) 0 b σ K [LIshuntref09_Copy_0 k]) 9 Tryd.f9.ntmps Tryd.f9.results.toList (bd Tryd.f9) (shshuntref09_Copy.enc x).1 (shshuntref09_Copy.enc x).2 (putS FS.dec rsshuntref09_Copy) := by kernel_rfl
theorem okshuntref09_Copy : ∀ k, InstOk (call cf k) (Ishuntref09_Copy k)
  | 0 => fun x y e => absurd (show (none : Option _) = some y from e) (by simp)
  | k + 1 => inst_ok (c := cf) (k := k) (f := 9) (fn := Tryd.f9) (body := bd Tryd.f9) (sh := shshuntref09_Copy) (os := rsshuntref09_Copy) rfl Tryd.func9 rfl ⟨rfl, Nat.le_of_ble_eq_true rfl⟩ (COt_ok (alshuntref09_Copy k)) (anshuntref09_Copy k) (fun x => Fshuntref09_Copy (k + 1) x.1 x.2.1 x.2.2.1 x.2.2.2.1 x.2.2.2.2) (stshuntref09_Copy k)

/-! shunt/shuntref09.Ints -/
def Lshuntref09_Ints_0s (k : Nat) (rec : List Int → List Int → Int → Option ((Bool) ⊕ (Unit))) (a : List Int) (b : List Int) (i : Int) : Option ((Bool) ⊕ (Unit)) :=
  if ((decide (i < (((List.length a) : Nat) : Int))) = true) then
    if ((0 : Int) ≤ i) then
      Option.bind (a)[(Int.toNat i)]? fun x =>
      if ((0 : Int) ≤ i) then
        Option.bind (b)[(Int.toNat i)]? fun x1 =>
        if ((x != x1) = true) then
          (some (Sum.inl false))
        else
        rec a b (IntKind.wrap .i64 (i + (1 : Int)))
      else
      none
    else
    none
  else
  (some (Sum.inr ()))
def Lshuntref09_Ints_0 (k n : Nat) : List Int → List Int → Int → Option ((Bool) ⊕ (Unit)) := Nat.rec (fun _ _ _ => none) (fun _ r => Lshuntref09_Ints_0s k r) n
def bshuntref09_Ints (k : Nat) (a : List Int) (b : List Int) : Option (Bool) :=
  if (((((List.length a) : Nat) : Int) != (((List.length b) : Nat) : Int)) = true) then
    (some false)
  else
  Option.bind (Lshuntref09_Ints_0 k k a b (0 : Int)) fun r8 =>
  eitherK r8
    (fun r8 =>
    (some r8))
    (fun r8 =>
    (some true))
def Fshuntref09_Ints : Nat → List Int → List Int → Option (Bool)
  | 0, _, _ => none
  | k + 1, a, b => bshuntref09_Ints k a b
def shshuntref09_Ints : FS := { vs := [.a (.lf (.sl (.int .i64))), .a (.lf (.sl (.int .i64)))], bs := [] }
def rsshuntref09_Ints : List FS := [{ vs := [.a (.lf .bool)], bs := [] }]
def Ishuntref09_Ints (k : Nat) : Inst := ⟨12, shshuntref09_Ints, rsshuntref09_Ints, fun x => Fshuntref09_Ints k x.1 x.2⟩
theorem alshuntref09_Ints (k : Nat) : AllI (call cf k) [] := True.intro
def hsshuntref09_Ints_0 : List SS := [{ fr := [(0, .a (.lf (.sl (.int .i64)))), (1, .a (.lf (.sl (.int .i64)))), (5, .a (.lf (.int .i64)))], mem := [], nx := 0 }]
def osshuntref09_Ints_0 : List OS := [⟨none, { fr := [(4, .a (.lf .bool))], mem := [], nx := 0 }⟩, ⟨some 0, { fr := [], mem := [], nx := 0 }⟩]
def LIshuntref09_Ints_0 (k : Nat) : LInst := ⟨0, hsshuntref09_Ints_0, osshuntref09_Ints_0, fun x => Lshuntref09_Ints_0 k k x.1 x.2.1 x.2.2⟩
theorem anshuntref09_Ints_0 (k : Nat) : LAll (LOk (R := DS OS.D osshuntref09_Ints_0) (fun b _ σ K => LOt Ty (kps 12) 0 b σ K []) cf (call cf k) (kps 12) Tryd.f12.ntmps k 0) 0 (lb Tryd.f12 0) :=
  And.intro (And.intro (True.intro) (And.intro (True.intro) (True.intro))) (And.intro (And.intro (True.intro) (And.intro (And.intro (True.intro) (True.intro)) (True.intro))) (True.intro))
theorem stshuntref09_Ints_0 (k n : Nat) (x : DS SS.D hsshuntref09_Ints_0) : Lshuntref09_Ints_0 k (n + 1) x.1 x.2.1 x.2.2 = encSK SS.enc (fun σ => run2 cf (fun f a b K => COt f a b K []) (fun b _ σ K => LOt Ty (kps 12) 0 b σ K []) Tryd.f12.ntmps 0 (lb Tryd.f12 0) σ (nextK Ty (kps 12 0) 0 hsshuntref09_Ints_0 osshuntref09_Ints_0 fun x => Lshuntref09_Ints_0 k n x.1 x.2.1 x.2.2)) hsshuntref09_Ints_0 x := by kernel_rfl
theorem loshuntref09_Ints_0 (k : Nat) : LIOk cf (call cf k) (kps 12) Tryd.f12.ntmps k 0 0 (lb Tryd.f12 0) (LIshuntref09_Ints_0 k) :=
  loop_ok (c := cf) (callF := call cf k) (kp := kps 12) (nt := Tryd.f12.ntmps) (k := k) (p := 0) (b := 0) (x0 := lb Tryd.f12 0) (hs := hsshuntref09_Ints_0) (os := osshuntref09_Ints_0) (COt_ok (alshuntref09_Ints k)) (anshuntref09_Ints_0 k) (fun n x => Lshuntref09_Ints_0 k n x.1 x.2.1 x.2.2) (fun _ => rfl) (stshuntref09_Ints_0 k)
theorem anshuntref09_Ints (k : Nat) : LAll (LOk (R := DS FS.D rsshuntref09_Ints) (fun b _ σ K => LOt Ty (kps 12) 0 b σ K [LIshuntref09_Ints_0 k]) cf (call cf k) (cf.keep 12) Tryd.f12.ntmps k shshuntref09_Ints.bs.length) 0 (bd Tryd.f12) :=
  And.intro (True.intro) (And.intro (And.intro (True.intro) (And.intro (And.intro (True.intro) (True.intro)) (True.intro))) (And.intro (And.intro (True.intro) (LOt_ok (c := cf) (callF := call cf k) (kp := kps 12) (nt := Tryd.f12.ntmps) (k := k) (p := 0) (b := 0) (x0 := lb Tryd.f12 0) (l := [LIshuntref09_Ints_0 k]) (And.intro (fun _ => loshuntref09_Ints_0 k) (True.intro)))) (And.intro (True.intro) (True.intro))))
theorem stshuntref09_Ints (k : Nat) (x : shshuntref09_Ints.D) : Fshuntref09_Ints (k + 1) x.1 x.2 = body2 cf (fun f a b K => COt f a b K []) (fun b _ σ K => LOt Ty (kps 12) 0 b σ K [LIshuntref09_Ints_0 k]) 12 Tryd.f12.ntmps Tryd.f12.results.toList (bd Tryd.f12) (shshuntref09_Ints.enc x).1 (shshuntref09_Ints.enc x).2 (putS FS.dec rsshuntref09_Ints) := by kernel_rfl
theorem okshuntref09_Ints : ∀ k, InstOk (call cf k) (Ishuntref09_Ints k)
  | 0 => fun x y e => absurd (show (none : Option _) = some y from e) (by simp)
  | k + 1 => inst_ok (c := cf) (k := k) (f := 12) (fn := Tryd.f12) (body := bd Tryd.f12) (sh := shshuntref09_Ints) (os := rsshuntref09_Ints) rfl Tryd.func12 rfl ⟨rfl, Nat.le_of_ble_eq_true rfl⟩ (COt_ok (alshuntref09_Ints k)) (anshuntref09_Ints k) (fun x => Fshuntref09_Ints (k + 1) x.1 x.2) (stshuntref09_Ints k)

/-! shunt/shuntlaw10.TopoOrder -/
def Lshuntlaw10_TopoOrder_0s (k : Nat) (rec : Int → Int → Int → Int → List ByteArray → List (Int × ByteArray × List Int × Int × (Int × Int) × (Int × List (Int × Int) × List Int) × ByteArray × Int × List (Int × Int) × List (Int × Int)) → Int → Int → Int → Nat → Nat → Int → Int → Int → List ByteArray → List (Int × ByteArray × List Int × Int × (Int × Int) × (Int × List (Int × Int) × List Int) × ByteArray × Int × List (Int × Int) × List (Int × Int)) → Option ((Bool × List ByteArray × List (Int × ByteArray × List Int × Int × (Int × Int) × (Int × List (Int × Int) × List Int) × ByteArray × Int × List (Int × Int) × List (Int × Int)) × Int × Int × Int × Nat × Nat × Int × Int × Int × List ByteArray × List (Int × ByteArray × List Int × Int × (Int × Int) × (Int × List (Int × Int) × List Int) × ByteArray × Int × List (Int × Int) × List (Int × Int)) × List ByteArray × List (Int × ByteArray × List Int × Int × (Int × Int) × (Int × List (Int × Int) × List Int) × ByteArray × Int × List (Int × Int) × List (Int × Int)) × Int × ByteArray × List Int × Int × Int × Int × Int × List (Int × Int) × List Int × ByteArray × Int × List (Int × Int) × List (Int × Int)) ⊕ (Int × List ByteArray × List (Int × ByteArray × List Int × Int × (Int × Int) × (Int × List (Int × Int) × List Int) × ByteArray × Int × List (Int × Int) × List (Int × Int)) × Int × Int × Int × Nat × Nat × Int × Int × Int × List ByteArray × List (Int × ByteArray × List Int × Int × (Int × Int) × (Int × List (Int × Int) × List Int) × ByteArray × Int × List (Int × Int) × List (Int × Int))))) (mode : Int) (n : Int) (x : Int) (x1 : Int) (f0 : List ByteArray) (f1 : List (Int × ByteArray × List Int × Int × (Int × Int) × (Int × List (Int × Int) × List Int) × ByteArray × Int × List (Int × Int) × List (Int × Int))) (f2 : Int) (f3 : Int) (f4 : Int) (g0 : Nat) (g1 : Nat) (g2 : Int) (g3 : Int) (g4 : Int) (m : List ByteArray) (m1 : List (Int × ByteArray × List Int × Int × (Int × Int) × (Int × List (Int × Int) × List Int) × ByteArray × Int × List (Int × Int) × List (Int × Int))) : Option ((Bool × List ByteArray × List (Int × ByteArray × List Int × Int × (Int × Int) × (Int × List (Int × Int) × List Int) × ByteArray × Int × List (Int × Int) × List (Int × Int)) × Int × Int × Int × Nat × Nat × Int × Int × Int × List ByteArray × List (Int × ByteArray × List Int × Int × (Int × Int) × (Int × List (Int × Int) × List Int) × ByteArray × Int × List (Int × Int) × List (Int × Int)) × List ByteArray × List (Int × ByteArray × List Int × Int × (Int × Int) × (Int × List (Int × Int) × List Int) × ByteArray × Int × List (Int × Int) × List (Int × Int)) × Int × ByteArray × List Int × Int × Int × Int × Int × List (Int × Int) × List Int × ByteArray × Int × List (Int × Int) × List (Int × Int)) ⊕ (Int × List ByteArray × List (Int × ByteArray × List Int × Int × (Int × Int) × (Int × List (Int × Int) × List Int) × ByteArray × Int × List (Int × Int) × List (Int × Int)) × Int × Int × Int × Nat × Nat × Int × Int × Int × List ByteArray × List (Int × ByteArray × List Int × Int × (Int × Int) × (Int × List (Int × Int) × List Int) × ByteArray × Int × List (Int × Int) × List (Int × Int)))) :=
  if ((decide (x1 < x)) = true) then
    Option.bind (Fshuntref09_Copy k f0 f1 f2 f3 f4) fun r3 =>
    if (((0 : Int) ≤ (IntKind.wrap .i64 ((IntKind.wrap .i64 (n - (1 : Int))) - x1))) ∧ ((IntKind.wrap .i64 ((IntKind.wrap .i64 (n - (1 : Int))) - x1)) < ((r3.2.1 : Nat) : Int))) then
      Option.bind (r3.2.2.2.2.2.2)[(0 + (Int.toNat (IntKind.wrap .i64 ((IntKind.wrap .i64 (n - (1 : Int))) - x1))))]? fun x2 =>
      if ((x2.1 == (102 : Int)) = false) then
        if ((x2.1 == (104 : Int)) = true) then
          if ((decide (x2.2.2.2.1 < (0 : Int))) = false) then
            if ((decide (x2.2.2.2.1 ≥ n)) = true) then
              (some (Sum.inl (true, f0, f1, f2, f3, f4, g0, g1, g2, g3, g4, m, m1, r3.2.2.2.2.2.1, r3.2.2.2.2.2.2, x2.1, x2.2.1, x2.2.2.1, x2.2.2.2.1, x2.2.2.2.2.1.1, x2.2.2.2.2.1.2, x2.2.2.2.2.2.1.1, x2.2.2.2.2.2.1.2.1, x2.2.2.2.2.2.1.2.2, x2.2.2.2.2.2.2.1, x2.2.2.2.2.2.2.2.1, x2.2.2.2.2.2.2.2.2.1, x2.2.2.2.2.2.2.2.2.2)))
            else
            if (((0 : Int) ≤ x1) ∧ (x1 < ((g1 : Nat) : Int))) then
              Option.bind (m1)[(0 + (Int.toNat x1))]? fun x3 =>
              rec mode n x (IntKind.wrap .i64 (x1 + (1 : Int))) f0 f1 f2 f3 f4 g0 g1 g2 g3 g4 m (List.set m1 (0 + (Int.toNat x1)) (x2.1, (x2.2.1, (x2.2.2.1, ((IntKind.wrap .i64 ((IntKind.wrap .i64 (n - (1 : Int))) - x2.2.2.2.1)), ((x2.2.2.2.2.1.1, x2.2.2.2.2.1.2), ((x2.2.2.2.2.2.1.1, (x2.2.2.2.2.2.1.2.1, x2.2.2.2.2.2.1.2.2)), (x2.2.2.2.2.2.2.1, (x2.2.2.2.2.2.2.2.1, (x2.2.2.2.2.2.2.2.2.1, x2.2.2.2.2.2.2.2.2.2))))))))))
            else
            none
          else
          (some (Sum.inl (true, f0, f1, f2, f3, f4, g0, g1, g2, g3, g4, m, m1, r3.2.2.2.2.2.1, r3.2.2.2.2.2.2, x2.1, x2.2.1, x2.2.2.1, x2.2.2.2.1, x2.2.2.2.2.1.1, x2.2.2.2.2.1.2, x2.2.2.2.2.2.1.1, x2.2.2.2.2.2.1.2.1, x2.2.2.2.2.2.1.2.2, x2.2.2.2.2.2.2.1, x2.2.2.2.2.2.2.2.1, x2.2.2.2.2.2.2.2.2.1, x2.2.2.2.2.2.2.2.2.2)))
        else
        if (((0 : Int) ≤ x1) ∧ (x1 < ((g1 : Nat) : Int))) then
          Option.bind (m1)[(0 + (Int.toNat x1))]? fun x3 =>
          rec mode n x (IntKind.wrap .i64 (x1 + (1 : Int))) f0 f1 f2 f3 f4 g0 g1 g2 g3 g4 m (List.set m1 (0 + (Int.toNat x1)) (x2.1, (x2.2.1, (x2.2.2.1, (x2.2.2.2.1, ((x2.2.2.2.2.1.1, x2.2.2.2.2.1.2), ((x2.2.2.2.2.2.1.1, (x2.2.2.2.2.2.1.2.1, x2.2.2.2.2.2.1.2.2)), (x2.2.2.2.2.2.2.1, (x2.2.2.2.2.2.2.2.1, (x2.2.2.2.2.2.2.2.2.1, x2.2.2.2.2.2.2.2.2.2))))))))))
        else
        none
      else
      if ((decide (x2.2.2.2.1 < (0 : Int))) = false) then
        if ((decide (x2.2.2.2.1 ≥ n)) = true) then
          (some (Sum.inl (true, f0, f1, f2, f3, f4, g0, g1, g2, g3, g4, m, m1, r3.2.2.2.2.2.1, r3.2.2.2.2.2.2, x2.1, x2.2.1, x2.2.2.1, x2.2.2.2.1, x2.2.2.2.2.1.1, x2.2.2.2.2.1.2, x2.2.2.2.2.2.1.1, x2.2.2.2.2.2.1.2.1, x2.2.2.2.2.2.1.2.2, x2.2.2.2.2.2.2.1, x2.2.2.2.2.2.2.2.1, x2.2.2.2.2.2.2.2.2.1, x2.2.2.2.2.2.2.2.2.2)))
        else
        if (((0 : Int) ≤ x1) ∧ (x1 < ((g1 : Nat) : Int))) then
          Option.bind (m1)[(0 + (Int.toNat x1))]? fun x3 =>
          rec mode n x (IntKind.wrap .i64 (x1 + (1 : Int))) f0 f1 f2 f3 f4 g0 g1 g2 g3 g4 m (List.set m1 (0 + (Int.toNat x1)) (x2.1, (x2.2.1, (x2.2.2.1, ((IntKind.wrap .i64 ((IntKind.wrap .i64 (n - (1 : Int))) - x2.2.2.2.1)), ((x2.2.2.2.2.1.1, x2.2.2.2.2.1.2), ((x2.2.2.2.2.2.1.1, (x2.2.2.2.2.2.1.2.1, x2.2.2.2.2.2.1.2.2)), (x2.2.2.2.2.2.2.1, (x2.2.2.2.2.2.2.2.1, (x2.2.2.2.2.2.2.2.2.1, x2.2.2.2.2.2.2.2.2.2))))))))))
        else
        none
      else
      (some (Sum.inl (true, f0, f1, f2, f3, f4, g0, g1, g2, g3, g4, m, m1, r3.2.2.2.2.2.1, r3.2.2.2.2.2.2, x2.1, x2.2.1, x2.2.2.1, x2.2.2.2.1, x2.2.2.2.2.1.1, x2.2.2.2.2.1.2, x2.2.2.2.2.2.1.1, x2.2.2.2.2.2.1.2.1, x2.2.2.2.2.2.1.2.2, x2.2.2.2.2.2.2.1, x2.2.2.2.2.2.2.2.1, x2.2.2.2.2.2.2.2.2.1, x2.2.2.2.2.2.2.2.2.2)))
    else
    none
  else
  (some (Sum.inr (mode, f0, f1, f2, f3, f4, g0, g1, g2, g3, g4, m, m1)))
def Lshuntlaw10_TopoOrder_0 (k n : Nat) : Int → Int → Int → Int → List ByteArray → List (Int × ByteArray × List Int × Int × (Int × Int) × (Int × List (Int × Int) × List Int) × ByteArray × Int × List (Int × Int) × List (Int × Int)) → Int → Int → Int → Nat → Nat → Int → Int → Int → List ByteArray → List (Int × ByteArray × List Int × Int × (Int × Int) × (Int × List (Int × Int) × List Int) × ByteArray × Int × List (Int × Int) × List (Int × Int)) → Option ((Bool × List ByteArray × List (Int × ByteArray × List Int × Int × (Int × Int) × (Int × List (Int × Int) × List Int) × ByteArray × Int × List (Int × Int) × List (Int × Int)) × Int × Int × Int × Nat × Nat × Int × Int × Int × List ByteArray × List (Int × ByteArray × List Int × Int × (Int × Int) × (Int × List (Int × Int) × List Int) × ByteArray × Int × List (Int × Int) × List (Int × Int)) × List ByteArray × List (Int × ByteArray × List Int × Int × (Int × Int) × (Int × List (Int × Int) × List Int) × ByteArray × Int × List (Int × Int) × List (Int × Int)) × Int × ByteArray × List Int × Int × Int × Int × Int × List (Int × Int) × List Int × ByteArray × Int × List (Int × Int) × List (Int × Int)) ⊕ (Int × List ByteArray × List (Int × ByteArray × List Int × Int × (Int × Int) × (Int × List (Int × Int) × List Int) × ByteArray × Int × List (Int × Int) × List (Int × Int)) × Int × Int × Int × Nat × Nat × Int × Int × Int × List ByteArray × List (Int × ByteArray × List Int × Int × (Int × Int) × (Int × List (Int × Int) × List Int) × ByteArray × Int × List (Int × Int) × List (Int × Int)))) := Nat.rec (fun _ _ _ _ _ _ _ _ _ _ _ _ _ _ _ _ => none) (fun _ r => Lshuntlaw10_TopoOrder_0s k r) n
def bshuntlaw10_TopoOrder (k : Nat) (f0 : List ByteArray) (f1 : List (Int × ByteArray × List Int × Int × (Int × Int) × (Int × List (Int × Int) × List Int) × ByteArray × Int × List (Int × Int) × List (Int × Int))) (f2 : Int) (f3 : Int) (f4 : Int) (mode : Int) : Option (Bool) :=
  Option.bind (Fshuntlaw10_awake k) fun r =>
  if ((!r) = true) then
    (some false)
  else
  Option.bind (Fshuntlaw10_bulky k f0 f1 f2 f3 f4) fun r1 =>
  if (r1 = true) then
    (some true)
  else
  Option.bind (Fshuntref09_Copy k f0 f1 f2 f3 f4) fun r2 =>
  Option.bind (Lshuntlaw10_TopoOrder_0 k k mode (((List.length f1) : Nat) : Int) ((r2.2.1 : Nat) : Int) (0 : Int) f0 f1 f2 f3 f4 r2.1 r2.2.1 r2.2.2.1 r2.2.2.2.1 r2.2.2.2.2.1 r2.2.2.2.2.2.1 r2.2.2.2.2.2.2) fun r3 =>
  eitherK r3
    (fun r3 =>
    (some r3.1))
    (fun r3 =>
    Option.bind (Ftopo_Floats k r3.2.1 r3.2.2.1 r3.2.2.2.1 r3.2.2.2.2.1 r3.2.2.2.2.2.1 r3.1) fun r4 =>
    if ((0 + r3.2.2.2.2.2.2.1) ≤ (List.length r3.2.2.2.2.2.2.2.2.2.2.2.1)) then
      if ((0 + r3.2.2.2.2.2.2.2.1) ≤ (List.length r3.2.2.2.2.2.2.2.2.2.2.2.2)) then
        Option.bind (Ftopo_Floats k (List.take r3.2.2.2.2.2.2.1 r3.2.2.2.2.2.2.2.2.2.2.2.1) (List.take r3.2.2.2.2.2.2.2.1 r3.2.2.2.2.2.2.2.2.2.2.2.2) r3.2.2.2.2.2.2.2.2.1 r3.2.2.2.2.2.2.2.2.2.1 r3.2.2.2.2.2.2.2.2.2.2.1 r3.1) fun r5 =>
        Option.bind (Ftopo_Loops k r3.2.1 r3.2.2.1 r3.2.2.2.1 r3.2.2.2.2.1 r3.2.2.2.2.2.1 r3.1) fun r6 =>
        if ((0 + r3.2.2.2.2.2.2.1) ≤ (List.length r3.2.2.2.2.2.2.2.2.2.2.2.1)) then
          if ((0 + r3.2.2.2.2.2.2.2.1) ≤ (List.length r3.2.2.2.2.2.2.2.2.2.2.2.2)) then
            Option.bind (Ftopo_Loops k (List.take r3.2.2.2.2.2.2.1 r3.2.2.2.2.2.2.2.2.2.2.2.1) (List.take r3.2.2.2.2.2.2.2.1 r3.2.2.2.2.2.2.2.2.2.2.2.2) r3.2.2.2.2.2.2.2.2.1 r3.2.2.2.2.2.2.2.2.2.1 r3.2.2.2.2.2.2.2.2.2.2.1 r3.1) fun r7 =>
            if ((r4.2.1 == r5.2.1) = true) then
              if ((r6.2.1 == r7.2.1) = true) then
                if ((r4.2.1 == r6.2.1) = true) then
                  if ((0 + r4.1) ≤ (List.length r4.2.2)) then
                    if ((0 + r5.1) ≤ (List.length r5.2.2)) then
                      Option.bind (Fshuntref09_Ints k (List.take r4.1 r4.2.2) (List.take r5.1 r5.2.2)) fun r8 =>
                      if (r8 = true) then
                        (some (((r6.1 : Nat) : Int) == ((r7.1 : Nat) : Int)))
                      else
                      (some false)
                    else
                    none
                  else
                  none
                else
                (some false)
              else
              (some false)
            else
            (some false)
          else
          none
        else
        none
      else
      none
    else
    none)
def Fshuntlaw10_TopoOrder : Nat → List ByteArray → List (Int × ByteArray × List Int × Int × (Int × Int) × (Int × List (Int × Int) × List Int) × ByteArray × Int × List (Int × Int) × List (Int × Int)) → Int → Int → Int → Int → Option (Bool)
  | 0, _, _, _, _, _, _ => none
  | k + 1, f0, f1, f2, f3, f4, mode => bshuntlaw10_TopoOrder k f0 f1 f2 f3 f4 mode
def shshuntlaw10_TopoOrder : FS := { vs := [.g [.lf (.sl .str), .lf (.sl (.pr (.int .u8) (.pr .str (.pr (.sl (.int .i64)) (.pr (.int .i64) (.pr (.pr (.int .i64) (.int .i64)) (.pr (.pr (.int .i64) (.pr (.sl (.pr (.int .i64) (.int .i64))) (.sl (.int .i64)))) (.pr .str (.pr (.int .u8) (.pr (.sl (.pr (.int .i64) (.int .i64))) (.sl (.pr (.int .i64) (.int .i64))))))))))))), .lf (.int .i64), .lf (.int .i64), .lf (.int .i64)], .a (.lf (.int .i64))], bs := [] }
def rsshuntlaw10_TopoOrder : List FS := [{ vs := [.a (.lf .bool)], bs := [] }]
def Ishuntlaw10_TopoOrder (k : Nat) : Inst := ⟨3, shshuntlaw10_TopoOrder, rsshuntlaw10_TopoOrder, fun x => Fshuntlaw10_TopoOrder k x.1 x.2.1 x.2.2.1 x.2.2.2.1 x.2.2.2.2.1 x.2.2.2.2.2⟩
theorem alshuntlaw10_TopoOrder (k : Nat) : AllI (call cf k) [Ishuntlaw10_awake k, Ishuntlaw10_bulky k, Ishuntref09_Copy k, Itopo_Floats k, Itopo_Loops k, Ishuntref09_Ints k] := And.intro (okshuntlaw10_awake k) (And.intro (okshuntlaw10_bulky k) (And.intro (okshuntref09_Copy k) (And.intro (oktopo_Floats k) (And.intro (oktopo_Loops k) (And.intro (okshuntref09_Ints k) (True.intro))))))
def hsshuntlaw10_TopoOrder_0 : List SS := [{ fr := [(1, .a (.lf (.int .i64))), (2, .a (.ptr 0 0 0)), (5, .a (.ptr 1 0 0)), (6, .a (.lf (.int .i64))), (28, .a (.lf (.int .i64))), (29, .a (.lf (.int .i64)))], mem := [(0, some (.raw [[.lf (.sl .str), .lf (.sl (.pr (.int .u8) (.pr .str (.pr (.sl (.int .i64)) (.pr (.int .i64) (.pr (.pr (.int .i64) (.int .i64)) (.pr (.pr (.int .i64) (.pr (.sl (.pr (.int .i64) (.int .i64))) (.sl (.int .i64)))) (.pr .str (.pr (.int .u8) (.pr (.sl (.pr (.int .i64) (.int .i64))) (.sl (.pr (.int .i64) (.int .i64))))))))))))), .lf (.int .i64), .lf (.int .i64), .lf (.int .i64)]] 5 27 true false false)), (1, some (.raw [[.smz 2, .smz 3, .lf (.int .i64), .lf (.int .i64), .lf (.int .i64)]] 5 27 false false false)), (2, some (.arr .str 1 9 false)), (3, some (.arr (.pr (.int .u8) (.pr .str (.pr (.sl (.int .i64)) (.pr (.int .i64) (.pr (.pr (.int .i64) (.int .i64)) (.pr (.pr (.int .i64) (.pr (.sl (.pr (.int .i64) (.int .i64))) (.sl (.int .i64)))) (.pr .str (.pr (.int .u8) (.pr (.sl (.pr (.int .i64) (.int .i64))) (.sl (.pr (.int .i64) (.int .i64)))))))))))) 13 38 false))], nx := 4 }]
def osshuntlaw10_TopoOrder_0 : List OS := [⟨none, { fr := [(4, .a (.lf .bool))], mem := [(0, some (.raw [[.lf (.sl .str), .lf (.sl (.pr (.int .u8) (.pr .str (.pr (.sl (.int .i64)) (.pr (.int .i64) (.pr (.pr (.int .i64) (.int .i64)) (.pr (.pr (.int .i64) (.pr (.sl (.pr (.int .i64) (.int .i64))) (.sl (.int .i64)))) (.pr .str (.pr (.int .u8) (.pr (.sl (.pr (.int .i64) (.int .i64))) (.sl (.pr (.int .i64) (.int .i64))))))))))))), .lf (.int .i64), .lf (.int .i64), .lf (.int .i64)]] 5 27 true false false)), (1, some (.raw [[.smz 2, .smz 3, .lf (.int .i64), .lf (.int .i64), .lf (.int .i64)]] 5 27 false false false)), (2, some (.arr .str 1 9 false)), (3, some (.arr (.pr (.int .u8) (.pr .str (.pr (.sl (.int .i64)) (.pr (.int .i64) (.pr (.pr (.int .i64) (.int .i64)) (.pr (.pr (.int .i64) (.pr (.sl (.pr (.int .i64) (.int .i64))) (.sl (.int .i64)))) (.pr .str (.pr (.int .u8) (.pr (.sl (.pr (.int .i64) (.int .i64))) (.sl (.pr (.int .i64) (.int .i64)))))))))))) 13 38 false)), (4, some (.arr .str 1 9 false)), (5, some (.arr (.pr (.int .u8) (.pr .str (.pr (.sl (.int .i64)) (.pr (.int .i64) (.pr (.pr (.int .i64) (.int .i64)) (.pr (.pr (.int .i64) (.pr (.sl (.pr (.int .i64) (.int .i64))) (.sl (.int .i64)))) (.pr .str (.pr (.int .u8) (.pr (.sl (.pr (.int .i64) (.int .i64))) (.sl (.pr (.int .i64) (.int .i64)))))))))))) 13 38 false)), (6, some (.raw [[.lf (.int .u8), .lf .str, .lf (.sl (.int .i64)), .lf (.int .i64), .lf (.int .i64), .lf (.int .i64), .lf (.int .i64), .lf (.sl (.pr (.int .i64) (.int .i64))), .lf (.sl (.int .i64)), .lf .str, .lf (.int .u8), .lf (.sl (.pr (.int .i64) (.int .i64))), .lf (.sl (.pr (.int .i64) (.int .i64)))]] 13 38 true false false))], nx := 7 }⟩, ⟨some 0, { fr := [(1, .a (.lf (.int .i64))), (2, .a (.ptr 0 0 0)), (5, .a (.ptr 1 0 0))], mem := [(0, some (.raw [[.lf (.sl .str), .lf (.sl (.pr (.int .u8) (.pr .str (.pr (.sl (.int .i64)) (.pr (.int .i64) (.pr (.pr (.int .i64) (.int .i64)) (.pr (.pr (.int .i64) (.pr (.sl (.pr (.int .i64) (.int .i64))) (.sl (.int .i64)))) (.pr .str (.pr (.int .u8) (.pr (.sl (.pr (.int .i64) (.int .i64))) (.sl (.pr (.int .i64) (.int .i64))))))))))))), .lf (.int .i64), .lf (.int .i64), .lf (.int .i64)]] 5 27 true false false)), (1, some (.raw [[.smz 2, .smz 3, .lf (.int .i64), .lf (.int .i64), .lf (.int .i64)]] 5 27 false false false)), (2, some (.arr .str 1 9 false)), (3, some (.arr (.pr (.int .u8) (.pr .str (.pr (.sl (.int .i64)) (.pr (.int .i64) (.pr (.pr (.int .i64) (.int .i64)) (.pr (.pr (.int .i64) (.pr (.sl (.pr (.int .i64) (.int .i64))) (.sl (.int .i64)))) (.pr .str (.pr (.int .u8) (.pr (.sl (.pr (.int .i64) (.int .i64))) (.sl (.pr (.int .i64) (.int .i64)))))))))))) 13 38 false))], nx := 4 }⟩]
def LIshuntlaw10_TopoOrder_0 (k : Nat) : LInst := ⟨0, hsshuntlaw10_TopoOrder_0, osshuntlaw10_TopoOrder_0, fun x => Lshuntlaw10_TopoOrder_0 k k x.1 x.2.1 x.2.2.1 x.2.2.2.1 x.2.2.2.2.1 x.2.2.2.2.2.1 x.2.2.2.2.2.2.1 x.2.2.2.2.2.2.2.1 x.2.2.2.2.2.2.2.2.1 x.2.2.2.2.2.2.2.2.2.1 x.2.2.2.2.2.2.2.2.2.2.1 x.2.2.2.2.2.2.2.2.2.2.2.1 x.2.2.2.2.2.2.2.2.2.2.2.2.1 x.2.2.2.2.2.2.2.2.2.2.2.2.2.1 x.2.2.2.2.2.2.2.2.2.2.2.2.2.2.1 x.2.2.2.2.2.2.2.2.2.2.2.2.2.2.2⟩
theorem anshuntlaw10_TopoOrder_0 (k : Nat) : LAll (LOk (R := DS OS.D osshuntlaw10_TopoOrder_0) (fun b _ σ K => LOt Ty (kps 3) 0 b σ K []) cf (call cf k) (kps 3) Tryd.f3.ntmps k 0) 0 (lb Tryd.f3 0) :=
  And.intro (True.intro) (And.intro (And.intro (True.intro) (True.intro)) (And.intro (And.intro (True.intro) (And.intro (True.intro) (And.intro (And.intro (True.intro) (And.intro (And.intro (And.intro (True.intro) (And.intro (And.intro (True.intro) (True.intro)) (True.intro))) (True.intro)) (True.intro))) (True.intro)))) (True.intro)))
theorem stshuntlaw10_TopoOrder_0 (k n : Nat) (x : DS SS.D hsshuntlaw10_TopoOrder_0) : Lshuntlaw10_TopoOrder_0 k (n + 1) x.1 x.2.1 x.2.2.1 x.2.2.2.1 x.2.2.2.2.1 x.2.2.2.2.2.1 x.2.2.2.2.2.2.1 x.2.2.2.2.2.2.2.1 x.2.2.2.2.2.2.2.2.1 x.2.2.2.2.2.2.2.2.2.1 x.2.2.2.2.2.2.2.2.2.2.1 x.2.2.2.2.2.2.2.2.2.2.2.1 x.2.2.2.2.2.2.2.2.2.2.2.2.1 x.2.2.2.2.2.2.2.2.2.2.2.2.2.1 x.2.2.2.2.2.2.2.2.2.2.2.2.2.2.1 x.2.2.2.2.2.2.2.2.2.2.2.2.2.2.2 = encSK SS.enc (fun σ => run2 cf (fun f a b K => COt f a b K [Ishuntlaw10_awake k, Ishuntlaw10_bulky k, Ishuntref09_Copy k, Itopo_Floats k, Itopo_Loops k, Ishuntref09_Ints k]) (fun b _ σ K => LOt Ty (kps 3) 0 b σ K []) Tryd.f3.ntmps 0 (lb Tryd.f3 0) σ (nextK Ty (kps 3 0) 0 hsshuntlaw10_TopoOrder_0 osshuntlaw10_TopoOrder_0 fun x => Lshuntlaw10_TopoOrder_0 k n x.1 x.2.1 x.2.2.1 x.2.2.2.1 x.2.2.2.2.1 x.2.2.2.2.2.1 x.2.2.2.2.2.2.1 x.2.2.2.2.2.2.2.1 x.2.2.2.2.2.2.2.2.1 x.2.2.2.2.2.2.2.2.2.1 x.2.2.2.2.2.2.2.2.2.2.1 x.2.2.2.2.2.2.2.2.2.2.2.1 x.2.2.2.2.2.2.2.2.2.2.2.2.1 x.2.2.2.2.2.2.2.2.2.2.2.2.2.1 x.2.2.2.2.2.2.2.2.2.2.2.2.2.2.1 x.2.2.2.2.2.2.2.2.2.2.2.2.2.2.2)) hsshuntlaw10_TopoOrder_0 x := by kernel_rfl
theorem loshuntlaw10_TopoOrder_0 (k : Nat) : LIOk cf (call cf k) (kps 3) Tryd.f3.ntmps k 0 0 (lb Tryd.f3 0) (LIshuntlaw10_TopoOrder_0 k) :=
  loop_ok (c := cf) (callF := call cf k) (kp := kps 3) (nt := Tryd.f3.ntmps) (k := k) (p := 0) (b := 0) (x0 := lb Tryd.f3 0) (hs := hsshuntlaw10_TopoOrder_0) (os := osshuntlaw10_TopoOrder_0) (COt_ok (alshuntlaw10_TopoOrder k)) (anshuntlaw10_TopoOrder_0 k) (fun n x => Lshuntlaw10_TopoOrder_0 k n x.1 x.2.1 x.2.2.1 x.2.2.2.1 x.2.2.2.2.1 x.2.2.2.2.2.1 x.2.2.2.2.2.2.1 x.2.2.2.2.2.2.2.1 x.2.2.2.2.2.2.2.2.1 x.2.2.2.2.2.2.2.2.2.1 x.2.2.2.2.2.2.2.2.2.2.1 x.2.2.2.2.2.2.2.2.2.2.2.1 x.2.2.2.2.2.2.2.2.2.2.2.2.1 x.2.2.2.2.2.2.2.2.2.2.2.2.2.1 x.2.2.2.2.2.2.2.2.2.2.2.2.2.2.1 x.2.2.2.2.2.2.2.2.2.2.2.2.2.2.2) (fun _ => rfl) (stshuntlaw10_TopoOrder_0 k)
theorem anshuntlaw10_TopoOrder (k : Nat) : LAll (LOk (R := DS FS.D rsshuntlaw10_TopoOrder) (fun b _ σ K => LOt Ty (kps 3) 0 b σ K [LIshuntlaw10_TopoOrder_0 k]) cf (call cf k) (cf.keep 3) Tryd.f3.ntmps k shshuntlaw10_TopoOrder.bs.length) 0 (bd Tryd.f3) :=
  And.intro (True.intro) (And.intro (And.intro (True.intro) (And.intro (And.intro (True.intro) (True.intro)) (True.intro))) (And.intro (And.intro (True.intro) (And.intro (And.intro (True.intro) (True.intro)) (True.intro))) (And.intro (True.intro) (And.intro (True.intro) (And.intro (And.intro (True.intro) (LOt_ok (c := cf) (callF := call cf k) (kp := kps 3) (nt := Tryd.f3.ntmps) (k := k) (p := 0) (b := 0) (x0 := lb Tryd.f3 0) (l := [LIshuntlaw10_TopoOrder_0 k]) (And.intro (fun _ => loshuntlaw10_TopoOrder_0 k) (True.intro)))) (And.intro (True.intro) (And.intro (True.intro) (And.intro (True.intro) (And.intro (True.intro) (And.intro (True.intro) (True.intro)))))))))))
theorem stshuntlaw10_TopoOrder (k : Nat) (x : shshuntlaw10_TopoOrder.D) : Fshuntlaw10_TopoOrder (k + 1) x.1 x.2.1 x.2.2.1 x.2.2.2.1 x.2.2.2.2.1 x.2.2.2.2.2 = body2 cf (fun f a b K => COt f a b K [Ishuntlaw10_awake k, Ishuntlaw10_bulky k, Ishuntref09_Copy k, Itopo_Floats k, Itopo_Loops k, Ishuntref09_Ints k]) (fun b _ σ K => LOt Ty (kps 3) 0 b σ K [LIshuntlaw10_TopoOrder_0 k]) 3 Tryd.f3.ntmps Tryd.f3.results.toList (bd Tryd.f3) (shshuntlaw10_TopoOrder.enc x).1 (shshuntlaw10_TopoOrder.enc x).2 (putS FS.dec rsshuntlaw10_TopoOrder) := by kernel_rfl
theorem okshuntlaw10_TopoOrder : ∀ k, InstOk (call cf k) (Ishuntlaw10_TopoOrder k)
  | 0 => fun x y e => absurd (show (none : Option _) = some y from e) (by simp)
  | k + 1 => inst_ok (c := cf) (k := k) (f := 3) (fn := Tryd.f3) (body := bd Tryd.f3) (sh := shshuntlaw10_TopoOrder) (os := rsshuntlaw10_TopoOrder) rfl Tryd.func3 rfl ⟨rfl, Nat.le_of_ble_eq_true rfl⟩ (COt_ok (alshuntlaw10_TopoOrder k)) (anshuntlaw10_TopoOrder k) (fun x => Fshuntlaw10_TopoOrder (k + 1) x.1 x.2.1 x.2.2.1 x.2.2.2.1 x.2.2.2.2.1 x.2.2.2.2.2) (stshuntlaw10_TopoOrder k)


end
end Go.Proofs.YtlnailgfialgnaaDoor.Am
