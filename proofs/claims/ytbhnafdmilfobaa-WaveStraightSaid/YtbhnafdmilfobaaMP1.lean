/- Printed functions: each says what the typed machine says of the program -/
import Derived.Test.YtbhnafdmilfobaaMA3
import Derived.KernelRfl

set_option linter.unusedVariables false
set_option maxRecDepth 100000
namespace Go.Proofs.Ytbhnafdmilfobaa.Am
open Go
noncomputable section

/-! shunt/num.Valid -/
def bnum_Valid (k : Nat) (n0 : Int) (n1 : Int) : Option (Bool) :=
  if ((n0 == (0 : Int)) = true) then
    (some (n1 == (0 : Int)))
  else
  if ((decide (n0 ≥ (-(999999999 : Int)))) = true) then
    if ((decide (n0 ≤ (999999999 : Int))) = true) then
      if (((Int.tmod n0 (10 : Int)) != (0 : Int)) = true) then
        if ((decide (n1 ≥ (-(18 : Int)))) = true) then
          (some (decide (n1 ≤ (9 : Int))))
        else
        (some false)
      else
      (some false)
    else
    (some false)
  else
  (some false)
def Fnum_Valid : Nat → Int → Int → Option (Bool)
  | 0, _, _ => none
  | k + 1, n0, n1 => bnum_Valid k n0 n1
def shnum_Valid : FS := { vs := [.g [.lf (.int .i64), .lf (.int .i64)]], bs := [] }
def rsnum_Valid : List FS := [{ vs := [.a (.lf .bool)], bs := [] }]
def Inum_Valid (k : Nat) : Inst := ⟨58, shnum_Valid, rsnum_Valid, fun x => Fnum_Valid k x.1 x.2⟩
theorem alnum_Valid (k : Nat) : AllI (call cf k) [] := True.intro
theorem annum_Valid (k : Nat) : LAll (LOk (R := DS FS.D rsnum_Valid) (fun b _ σ K => LOt Ty (kps 58) 0 b σ K []) cf (call cf k) (cf.keep 58) Try.f58.ntmps k shnum_Valid.bs.length) 0 (bd Try.f58) :=
  And.intro (True.intro) (And.intro (And.intro (True.intro) (And.intro (And.intro (True.intro) (True.intro)) (True.intro))) (And.intro (True.intro) (True.intro)))
theorem stnum_Valid (k : Nat) (x : shnum_Valid.D) : Fnum_Valid (k + 1) x.1 x.2 = body2 cf (fun f a b K => COt f a b K []) (fun b _ σ K => LOt Ty (kps 58) 0 b σ K []) 58 Try.f58.ntmps Try.f58.results.toList (bd Try.f58) (shnum_Valid.enc x).1 (shnum_Valid.enc x).2 (putS FS.dec rsnum_Valid) := by kernel_rfl
theorem oknum_Valid : ∀ k, InstOk (call cf k) (Inum_Valid k)
  | 0 => fun x y e => absurd (show (none : Option _) = some y from e) (by simp)
  | k + 1 => inst_ok (c := cf) (k := k) (f := 58) (fn := Try.f58) (body := bd Try.f58) (sh := shnum_Valid) (os := rsnum_Valid) rfl Try.func58 rfl ⟨rfl, Nat.le_of_ble_eq_true rfl⟩ (COt_ok (alnum_Valid k)) (annum_Valid k) (fun x => Fnum_Valid (k + 1) x.1 x.2) (stnum_Valid k)

/-! shunt/wave.Valid -/
def Lwave_Valid_0s (k : Nat) (rec : List (Int × Int) → Int → Int → Int → List (Int × Int) → List Int → Option ((Bool × Int × List (Int × Int) × List Int × Int × Int) ⊕ (Int × List (Int × Int) × List Int))) (x : List (Int × Int)) (x1 : Int) (x2 : Int) (w0 : Int) (w1 : List (Int × Int)) (w2 : List Int) : Option ((Bool × Int × List (Int × Int) × List Int × Int × Int) ⊕ (Int × List (Int × Int) × List Int)) :=
  if ((decide (x2 < x1)) = true) then
    if ((0 : Int) ≤ x2) then
      Option.bind (x)[(Int.toNat x2)]? fun x3 =>
      Option.bind (Fnum_Valid k x3.1 x3.2) fun r =>
      if ((!r) = true) then
        (some (Sum.inl (false, w0, w1, w2, x3.1, x3.2)))
      else
      rec x x1 (IntKind.wrap .i64 (x2 + (1 : Int))) w0 w1 w2
    else
    none
  else
  (some (Sum.inr (w0, w1, w2)))
def Lwave_Valid_0 (k n : Nat) : List (Int × Int) → Int → Int → Int → List (Int × Int) → List Int → Option ((Bool × Int × List (Int × Int) × List Int × Int × Int) ⊕ (Int × List (Int × Int) × List Int)) := Nat.rec (fun _ _ _ _ _ _ => none) (fun _ r => Lwave_Valid_0s k r) n
def Lwave_Valid_2s (k : Nat) (rec : List Int → Int → Int → Int → List (Int × Int) → List Int → Option ((Bool × Int × List (Int × Int) × List Int) ⊕ (Int × List (Int × Int) × List Int))) (x : List Int) (x1 : Int) (x2 : Int) (w0 : Int) (w1 : List (Int × Int)) (w2 : List Int) : Option ((Bool × Int × List (Int × Int) × List Int) ⊕ (Int × List (Int × Int) × List Int)) :=
  if ((decide (x2 < x1)) = true) then
    if ((0 : Int) ≤ x2) then
      Option.bind (x)[(Int.toNat x2)]? fun x3 =>
      if ((decide (x3 < (0 : Int))) = false) then
        if ((decide (x3 > (1000000000 : Int))) = true) then
          (some (Sum.inl (false, w0, w1, w2)))
        else
        rec x x1 (IntKind.wrap .i64 (x2 + (1 : Int))) w0 w1 w2
      else
      (some (Sum.inl (false, w0, w1, w2)))
    else
    none
  else
  (some (Sum.inr (w0, w1, w2)))
def Lwave_Valid_2 (k n : Nat) : List Int → Int → Int → Int → List (Int × Int) → List Int → Option ((Bool × Int × List (Int × Int) × List Int) ⊕ (Int × List (Int × Int) × List Int)) := Nat.rec (fun _ _ _ _ _ _ => none) (fun _ r => Lwave_Valid_2s k r) n
def Lwave_Valid_5s (k : Nat) (rec : Int → Int → List (Int × Int) → List Int → Option ((Bool × Int × List (Int × Int) × List Int) ⊕ (Int × List (Int × Int) × List Int))) (i : Int) (w0 : Int) (w1 : List (Int × Int)) (w2 : List Int) : Option ((Bool × Int × List (Int × Int) × List Int) ⊕ (Int × List (Int × Int) × List Int)) :=
  if ((decide (i < (((List.length w2) : Nat) : Int))) = true) then
    if ((0 : Int) ≤ i) then
      Option.bind (w2)[(Int.toNat i)]? fun x =>
      if ((0 : Int) ≤ (IntKind.wrap .i64 (i - (1 : Int)))) then
        Option.bind (w2)[(Int.toNat (IntKind.wrap .i64 (i - (1 : Int))))]? fun x1 =>
        if ((decide (x ≤ x1)) = true) then
          (some (Sum.inl (false, w0, w1, w2)))
        else
        rec (IntKind.wrap .i64 (i + (1 : Int))) w0 w1 w2
      else
      none
    else
    none
  else
  (some (Sum.inr (w0, w1, w2)))
def Lwave_Valid_5 (k n : Nat) : Int → Int → List (Int × Int) → List Int → Option ((Bool × Int × List (Int × Int) × List Int) ⊕ (Int × List (Int × Int) × List Int)) := Nat.rec (fun _ _ _ _ => none) (fun _ r => Lwave_Valid_5s k r) n
def bwave_Valid (k : Nat) (w0 : Int) (w1 : List (Int × Int)) (w2 : List Int) : Option (Bool) :=
  Option.bind (Lwave_Valid_0 k k w1 (((List.length w1) : Nat) : Int) (0 : Int) w0 w1 w2) fun r =>
  eitherK r
    (fun r =>
    (some r.1))
    (fun r =>
    Option.bind (Lwave_Valid_2 k k r.2.2 (((List.length r.2.2) : Nat) : Int) (0 : Int) r.1 r.2.1 r.2.2) fun r1 =>
    eitherK r1
      (fun r1 =>
      (some r1.1))
      (fun r1 =>
      if ((r1.1 == (1 : Int)) = true) then
        if (((((List.length r1.2.1) : Nat) : Int) == (1 : Int)) = true) then
          (some ((((List.length r1.2.2) : Nat) : Int) == (0 : Int)))
        else
        (some false)
      else
      if ((r1.1 == (2 : Int)) = true) then
        if (((((List.length r1.2.1) : Nat) : Int) == (2 : Int)) = true) then
          if (((((List.length r1.2.2) : Nat) : Int) == (5 : Int)) = true) then
            Option.bind (r1.2.2)[4]? fun x =>
            if ((decide (x ≥ (1 : Int))) = true) then
              Option.bind (r1.2.2)[1]? fun x1 =>
              Option.bind (r1.2.2)[2]? fun x2 =>
              Option.bind (r1.2.2)[3]? fun x3 =>
              Option.bind (r1.2.2)[4]? fun x4 =>
              (some (decide ((IntKind.wrap .i64 ((IntKind.wrap .i64 (x1 + x2)) + x3)) ≤ x4)))
            else
            (some false)
          else
          (some false)
        else
        (some false)
      else
      if ((r1.1 == (3 : Int)) = true) then
        Option.bind (Lwave_Valid_5 k k (1 : Int) r1.1 r1.2.1 r1.2.2) fun r2 =>
        eitherK r2
          (fun r2 =>
          (some r2.1))
          (fun r2 =>
          if (((((List.length r2.2.1) : Nat) : Int) == (((List.length r2.2.2) : Nat) : Int)) = true) then
            if ((decide ((((List.length r2.2.1) : Nat) : Int) ≥ (1 : Int))) = true) then
              (some (decide ((((List.length r2.2.1) : Nat) : Int) ≤ (16 : Int))))
            else
            (some false)
          else
          (some false))
      else
      if ((r1.1 == (4 : Int)) = true) then
        if ((decide ((((List.length r1.2.1) : Nat) : Int) ≥ (1 : Int))) = true) then
          if ((decide ((((List.length r1.2.1) : Nat) : Int) ≤ (16 : Int))) = true) then
            (some ((((List.length r1.2.2) : Nat) : Int) == (0 : Int)))
          else
          (some false)
        else
        (some false)
      else
      (some false)))
def Fwave_Valid : Nat → Int → List (Int × Int) → List Int → Option (Bool)
  | 0, _, _, _ => none
  | k + 1, w0, w1, w2 => bwave_Valid k w0 w1 w2
def shwave_Valid : FS := { vs := [.g [.lf (.int .i64), .lf (.sl (.pr (.int .i64) (.int .i64))), .lf (.sl (.int .i64))]], bs := [] }
def rswave_Valid : List FS := [{ vs := [.a (.lf .bool)], bs := [] }]
def Iwave_Valid (k : Nat) : Inst := ⟨22, shwave_Valid, rswave_Valid, fun x => Fwave_Valid k x.1 x.2.1 x.2.2⟩
theorem alwave_Valid (k : Nat) : AllI (call cf k) [Inum_Valid k] := And.intro (oknum_Valid k) (True.intro)
def hswave_Valid_0 : List SS := [{ fr := [(1, .a (.ptr 0 0 0)), (9, .a (.lf (.sl (.pr (.int .i64) (.int .i64))))), (10, .a (.lf (.int .i64))), (11, .a (.lf (.int .i64)))], mem := [(0, some (.raw [[.lf (.int .i64), .lf (.sl (.pr (.int .i64) (.int .i64))), .lf (.sl (.int .i64))]] 3 40 true false))], nx := 1 }]
def oswave_Valid_0 : List OS := [⟨none, { fr := [(2, .a (.lf .bool))], mem := [(0, some (.raw [[.lf (.int .i64), .lf (.sl (.pr (.int .i64) (.int .i64))), .lf (.sl (.int .i64))]] 3 40 true false)), (1, some (.raw [[.lf (.int .i64), .lf (.int .i64)]] 2 49 true false))], nx := 2 }⟩, ⟨some 0, { fr := [(1, .a (.ptr 0 0 0))], mem := [(0, some (.raw [[.lf (.int .i64), .lf (.sl (.pr (.int .i64) (.int .i64))), .lf (.sl (.int .i64))]] 3 40 true false))], nx := 1 }⟩]
def LIwave_Valid_0 (k : Nat) : LInst := ⟨0, hswave_Valid_0, oswave_Valid_0, fun x => Lwave_Valid_0 k k x.1 x.2.1 x.2.2.1 x.2.2.2.1 x.2.2.2.2.1 x.2.2.2.2.2⟩
theorem anwave_Valid_0 (k : Nat) : LAll (LOk (R := DS OS.D oswave_Valid_0) (fun b _ σ K => LOt Ty (kps 22) 0 b σ K []) cf (call cf k) (kps 22) Try.f22.ntmps k 0) 0 (lb Try.f22 0) :=
  And.intro (True.intro) (And.intro (And.intro (True.intro) (True.intro)) (And.intro (And.intro (True.intro) (And.intro (True.intro) (And.intro (And.intro (True.intro) (True.intro)) (True.intro)))) (True.intro)))
theorem stwave_Valid_0 (k n : Nat) (x : DS SS.D hswave_Valid_0) : Lwave_Valid_0 k (n + 1) x.1 x.2.1 x.2.2.1 x.2.2.2.1 x.2.2.2.2.1 x.2.2.2.2.2 = encSK SS.enc (fun σ => run2 cf (fun f a b K => COt f a b K [Inum_Valid k]) (fun b _ σ K => LOt Ty (kps 22) 0 b σ K []) Try.f22.ntmps 0 (lb Try.f22 0) σ (nextK Ty (kps 22 0) 0 hswave_Valid_0 oswave_Valid_0 fun x => Lwave_Valid_0 k n x.1 x.2.1 x.2.2.1 x.2.2.2.1 x.2.2.2.2.1 x.2.2.2.2.2)) hswave_Valid_0 x := by kernel_rfl
theorem lowave_Valid_0 (k : Nat) : LIOk cf (call cf k) (kps 22) Try.f22.ntmps k 0 0 (lb Try.f22 0) (LIwave_Valid_0 k) :=
  loop_ok (c := cf) (callF := call cf k) (kp := kps 22) (nt := Try.f22.ntmps) (k := k) (p := 0) (b := 0) (x0 := lb Try.f22 0) (hs := hswave_Valid_0) (os := oswave_Valid_0) (COt_ok (alwave_Valid k)) (anwave_Valid_0 k) (fun n x => Lwave_Valid_0 k n x.1 x.2.1 x.2.2.1 x.2.2.2.1 x.2.2.2.2.1 x.2.2.2.2.2) (fun _ => rfl) (stwave_Valid_0 k)
def hswave_Valid_2 : List SS := [{ fr := [(1, .a (.ptr 0 0 0)), (20, .a (.lf (.sl (.int .i64)))), (21, .a (.lf (.int .i64))), (22, .a (.lf (.int .i64)))], mem := [(0, some (.raw [[.lf (.int .i64), .lf (.sl (.pr (.int .i64) (.int .i64))), .lf (.sl (.int .i64))]] 3 40 true false))], nx := 1 }]
def oswave_Valid_2 : List OS := [⟨none, { fr := [(2, .a (.lf .bool))], mem := [(0, some (.raw [[.lf (.int .i64), .lf (.sl (.pr (.int .i64) (.int .i64))), .lf (.sl (.int .i64))]] 3 40 true false))], nx := 1 }⟩, ⟨some 2, { fr := [(1, .a (.ptr 0 0 0))], mem := [(0, some (.raw [[.lf (.int .i64), .lf (.sl (.pr (.int .i64) (.int .i64))), .lf (.sl (.int .i64))]] 3 40 true false))], nx := 1 }⟩]
def LIwave_Valid_2 (k : Nat) : LInst := ⟨2, hswave_Valid_2, oswave_Valid_2, fun x => Lwave_Valid_2 k k x.1 x.2.1 x.2.2.1 x.2.2.2.1 x.2.2.2.2.1 x.2.2.2.2.2⟩
theorem anwave_Valid_2 (k : Nat) : LAll (LOk (R := DS OS.D oswave_Valid_2) (fun b _ σ K => LOt Ty (kps 22) 0 b σ K [LIwave_Valid_0 k]) cf (call cf k) (kps 22) Try.f22.ntmps k 0) 2 (lb Try.f22 1) :=
  And.intro (True.intro) (And.intro (And.intro (True.intro) (True.intro)) (And.intro (And.intro (True.intro) (And.intro (True.intro) (And.intro (And.intro (True.intro) (True.intro)) (True.intro)))) (True.intro)))
theorem stwave_Valid_2 (k n : Nat) (x : DS SS.D hswave_Valid_2) : Lwave_Valid_2 k (n + 1) x.1 x.2.1 x.2.2.1 x.2.2.2.1 x.2.2.2.2.1 x.2.2.2.2.2 = encSK SS.enc (fun σ => run2 cf (fun f a b K => COt f a b K [Inum_Valid k]) (fun b _ σ K => LOt Ty (kps 22) 0 b σ K [LIwave_Valid_0 k]) Try.f22.ntmps 2 (lb Try.f22 1) σ (nextK Ty (kps 22 2) 0 hswave_Valid_2 oswave_Valid_2 fun x => Lwave_Valid_2 k n x.1 x.2.1 x.2.2.1 x.2.2.2.1 x.2.2.2.2.1 x.2.2.2.2.2)) hswave_Valid_2 x := by kernel_rfl
theorem lowave_Valid_2 (k : Nat) : LIOk cf (call cf k) (kps 22) Try.f22.ntmps k 0 2 (lb Try.f22 1) (LIwave_Valid_2 k) :=
  loop_ok (c := cf) (callF := call cf k) (kp := kps 22) (nt := Try.f22.ntmps) (k := k) (p := 0) (b := 2) (x0 := lb Try.f22 1) (hs := hswave_Valid_2) (os := oswave_Valid_2) (COt_ok (alwave_Valid k)) (anwave_Valid_2 k) (fun n x => Lwave_Valid_2 k n x.1 x.2.1 x.2.2.1 x.2.2.2.1 x.2.2.2.2.1 x.2.2.2.2.2) (fun _ => rfl) (stwave_Valid_2 k)
def hswave_Valid_5 : List SS := [{ fr := [(1, .a (.ptr 0 0 0)), (7, .a (.lf (.int .i64)))], mem := [(0, some (.raw [[.lf (.int .i64), .lf (.sl (.pr (.int .i64) (.int .i64))), .lf (.sl (.int .i64))]] 3 40 true false))], nx := 1 }]
def oswave_Valid_5 : List OS := [⟨none, { fr := [(2, .a (.lf .bool))], mem := [(0, some (.raw [[.lf (.int .i64), .lf (.sl (.pr (.int .i64) (.int .i64))), .lf (.sl (.int .i64))]] 3 40 true false))], nx := 1 }⟩, ⟨some 5, { fr := [(1, .a (.ptr 0 0 0))], mem := [(0, some (.raw [[.lf (.int .i64), .lf (.sl (.pr (.int .i64) (.int .i64))), .lf (.sl (.int .i64))]] 3 40 true false))], nx := 1 }⟩]
def LIwave_Valid_5 (k : Nat) : LInst := ⟨5, hswave_Valid_5, oswave_Valid_5, fun x => Lwave_Valid_5 k k x.1 x.2.1 x.2.2.1 x.2.2.2⟩
theorem anwave_Valid_5 (k : Nat) : LAll (LOk (R := DS OS.D oswave_Valid_5) (fun b _ σ K => LOt Ty (kps 22) 0 b σ K [LIwave_Valid_0 k, LIwave_Valid_2 k]) cf (call cf k) (kps 22) Try.f22.ntmps k 0) 5 (lb Try.f22 2) :=
  And.intro (And.intro (True.intro) (And.intro (True.intro) (True.intro))) (And.intro (And.intro (True.intro) (And.intro (And.intro (True.intro) (True.intro)) (True.intro))) (True.intro))
theorem stwave_Valid_5 (k n : Nat) (x : DS SS.D hswave_Valid_5) : Lwave_Valid_5 k (n + 1) x.1 x.2.1 x.2.2.1 x.2.2.2 = encSK SS.enc (fun σ => run2 cf (fun f a b K => COt f a b K [Inum_Valid k]) (fun b _ σ K => LOt Ty (kps 22) 0 b σ K [LIwave_Valid_0 k, LIwave_Valid_2 k]) Try.f22.ntmps 5 (lb Try.f22 2) σ (nextK Ty (kps 22 5) 0 hswave_Valid_5 oswave_Valid_5 fun x => Lwave_Valid_5 k n x.1 x.2.1 x.2.2.1 x.2.2.2)) hswave_Valid_5 x := by kernel_rfl
theorem lowave_Valid_5 (k : Nat) : LIOk cf (call cf k) (kps 22) Try.f22.ntmps k 0 5 (lb Try.f22 2) (LIwave_Valid_5 k) :=
  loop_ok (c := cf) (callF := call cf k) (kp := kps 22) (nt := Try.f22.ntmps) (k := k) (p := 0) (b := 5) (x0 := lb Try.f22 2) (hs := hswave_Valid_5) (os := oswave_Valid_5) (COt_ok (alwave_Valid k)) (anwave_Valid_5 k) (fun n x => Lwave_Valid_5 k n x.1 x.2.1 x.2.2.1 x.2.2.2) (fun _ => rfl) (stwave_Valid_5 k)
theorem anwave_Valid (k : Nat) : LAll (LOk (R := DS FS.D rswave_Valid) (fun b _ σ K => LOt Ty (kps 22) 0 b σ K [LIwave_Valid_0 k, LIwave_Valid_2 k, LIwave_Valid_5 k]) cf (call cf k) (cf.keep 22) Try.f22.ntmps k shwave_Valid.bs.length) 0 (bd Try.f22) :=
  And.intro (True.intro) (And.intro (And.intro (True.intro) (LOt_ok (c := cf) (callF := call cf k) (kp := kps 22) (nt := Try.f22.ntmps) (k := k) (p := 0) (b := 0) (x0 := lb Try.f22 0) (l := [LIwave_Valid_0 k, LIwave_Valid_2 k, LIwave_Valid_5 k]) (And.intro (fun _ => lowave_Valid_0 k) (And.intro (fun h => absurd (show (2 : Nat) = 0 from h) (by decide)) (And.intro (fun h => absurd (show (5 : Nat) = 0 from h) (by decide)) (True.intro)))))) (And.intro (And.intro (True.intro) (LOt_ok (c := cf) (callF := call cf k) (kp := kps 22) (nt := Try.f22.ntmps) (k := k) (p := 0) (b := 2) (x0 := lb Try.f22 1) (l := [LIwave_Valid_0 k, LIwave_Valid_2 k, LIwave_Valid_5 k]) (And.intro (fun h => absurd (show (0 : Nat) = 2 from h) (by decide)) (And.intro (fun _ => lowave_Valid_2 k) (And.intro (fun h => absurd (show (5 : Nat) = 2 from h) (by decide)) (True.intro)))))) (And.intro (And.intro (True.intro) (And.intro (True.intro) (And.intro (And.intro (True.intro) (True.intro)) (And.intro (True.intro) (And.intro (And.intro (True.intro) (True.intro)) (And.intro (True.intro) (And.intro (And.intro (And.intro (True.intro) (LOt_ok (c := cf) (callF := call cf k) (kp := kps 22) (nt := Try.f22.ntmps) (k := k) (p := 0) (b := 5) (x0 := lb Try.f22 2) (l := [LIwave_Valid_0 k, LIwave_Valid_2 k, LIwave_Valid_5 k]) (And.intro (fun h => absurd (show (0 : Nat) = 5 from h) (by decide)) (And.intro (fun h => absurd (show (2 : Nat) = 5 from h) (by decide)) (And.intro (fun _ => lowave_Valid_5 k) (True.intro)))))) (And.intro (True.intro) (True.intro))) (And.intro (True.intro) (And.intro (And.intro (True.intro) (True.intro)) (True.intro)))))))))) (And.intro (True.intro) (True.intro)))))
theorem stwave_Valid (k : Nat) (x : shwave_Valid.D) : Fwave_Valid (k + 1) x.1 x.2.1 x.2.2 = body2 cf (fun f a b K => COt f a b K [Inum_Valid k]) (fun b _ σ K => LOt Ty (kps 22) 0 b σ K [LIwave_Valid_0 k, LIwave_Valid_2 k, LIwave_Valid_5 k]) 22 Try.f22.ntmps Try.f22.results.toList (bd Try.f22) (shwave_Valid.enc x).1 (shwave_Valid.enc x).2 (putS FS.dec rswave_Valid) := by kernel_rfl
theorem okwave_Valid : ∀ k, InstOk (call cf k) (Iwave_Valid k)
  | 0 => fun x y e => absurd (show (none : Option _) = some y from e) (by simp)
  | k + 1 => inst_ok (c := cf) (k := k) (f := 22) (fn := Try.f22) (body := bd Try.f22) (sh := shwave_Valid) (os := rswave_Valid) rfl Try.func22 rfl ⟨rfl, Nat.le_of_ble_eq_true rfl⟩ (COt_ok (alwave_Valid k)) (anwave_Valid k) (fun x => Fwave_Valid (k + 1) x.1 x.2.1 x.2.2) (stwave_Valid k)

/-! shunt/big.trim -/
def Lbig_trim_0s (k : Nat) (rec : List Int → Int → Option (List Int × Int)) (w : List Int) (n : Int) : Option (List Int × Int) :=
  if ((decide (n > (0 : Int))) = true) then
    if ((0 : Int) ≤ (IntKind.wrap .i64 (n - (1 : Int)))) then
      Option.bind (w)[(Int.toNat (IntKind.wrap .i64 (n - (1 : Int))))]? fun x1 =>
      if ((x1 == (0 : Int)) = true) then
        rec w (IntKind.wrap .i64 (n - (1 : Int)))
      else
      (some (w, n))
    else
    none
  else
  (some (w, n))
def Lbig_trim_0 (k n : Nat) : List Int → Int → Option (List Int × Int) := Nat.rec (fun _ _ => none) (fun _ r => Lbig_trim_0s k r) n
def bbig_trim (k : Nat) (w : List Int) : Option (List Int) :=
  Option.bind (Lbig_trim_0 k k w (((List.length w) : Nat) : Int)) fun r2 =>
  if (((0 : Int) ≤ (0 : Int)) ∧ (((0 : Int) ≤ r2.2) ∧ (r2.2 ≤ (((List.length r2.1) : Nat) : Int)))) then
    (some (List.take (Int.toNat r2.2) r2.1))
  else
  none
def Fbig_trim : Nat → List Int → Option (List Int)
  | 0, _ => none
  | k + 1, w => bbig_trim k w
def shbig_trim : FS := { vs := [.a (.lf (.sl (.int .u32)))], bs := [] }
def rsbig_trim : List FS := [{ vs := [.a (.lf (.sl (.int .u32)))], bs := [] }]
def Ibig_trim (k : Nat) : Inst := ⟨102, shbig_trim, rsbig_trim, fun x => Fbig_trim k x⟩
theorem albig_trim (k : Nat) : AllI (call cf k) [] := True.intro
def hsbig_trim_0 : List SS := [{ fr := [(0, .a (.lf (.sl (.int .u32)))), (3, .a (.lf (.int .i64)))], mem := [], nx := 0 }]
def osbig_trim_0 : List OS := [⟨some 0, { fr := [(0, .a (.lf (.sl (.int .u32)))), (3, .a (.lf (.int .i64)))], mem := [], nx := 0 }⟩]
def LIbig_trim_0 (k : Nat) : LInst := ⟨0, hsbig_trim_0, osbig_trim_0, fun x => Lbig_trim_0 k k x.1 x.2⟩
theorem anbig_trim_0 (k : Nat) : LAll (LOk (R := DS OS.D osbig_trim_0) (fun b _ σ K => LOt Ty (kps 102) 0 b σ K []) cf (call cf k) (kps 102) Try.f102.ntmps k 0) 0 (lb Try.f102 0) :=
  And.intro (And.intro (True.intro) (And.intro (True.intro) (True.intro))) (True.intro)
theorem stbig_trim_0 (k n : Nat) (x : DS SS.D hsbig_trim_0) : Lbig_trim_0 k (n + 1) x.1 x.2 = encSK SS.enc (fun σ => run2 cf (fun f a b K => COt f a b K []) (fun b _ σ K => LOt Ty (kps 102) 0 b σ K []) Try.f102.ntmps 0 (lb Try.f102 0) σ (nextK Ty (kps 102 0) 0 hsbig_trim_0 osbig_trim_0 fun x => Lbig_trim_0 k n x.1 x.2)) hsbig_trim_0 x := by kernel_rfl
theorem lobig_trim_0 (k : Nat) : LIOk cf (call cf k) (kps 102) Try.f102.ntmps k 0 0 (lb Try.f102 0) (LIbig_trim_0 k) :=
  loop_ok (c := cf) (callF := call cf k) (kp := kps 102) (nt := Try.f102.ntmps) (k := k) (p := 0) (b := 0) (x0 := lb Try.f102 0) (hs := hsbig_trim_0) (os := osbig_trim_0) (COt_ok (albig_trim k)) (anbig_trim_0 k) (fun n x => Lbig_trim_0 k n x.1 x.2) (fun _ => rfl) (stbig_trim_0 k)
theorem anbig_trim (k : Nat) : LAll (LOk (R := DS FS.D rsbig_trim) (fun b _ σ K => LOt Ty (kps 102) 0 b σ K [LIbig_trim_0 k]) cf (call cf k) (cf.keep 102) Try.f102.ntmps k shbig_trim.bs.length) 0 (bd Try.f102) :=
  And.intro (True.intro) (And.intro (True.intro) (And.intro (LOt_ok (c := cf) (callF := call cf k) (kp := kps 102) (nt := Try.f102.ntmps) (k := k) (p := 0) (b := 0) (x0 := lb Try.f102 0) (l := [LIbig_trim_0 k]) (And.intro (fun _ => lobig_trim_0 k) (True.intro))) (And.intro (True.intro) (True.intro))))
theorem stbig_trim (k : Nat) (x : shbig_trim.D) : Fbig_trim (k + 1) x = body2 cf (fun f a b K => COt f a b K []) (fun b _ σ K => LOt Ty (kps 102) 0 b σ K [LIbig_trim_0 k]) 102 Try.f102.ntmps Try.f102.results.toList (bd Try.f102) (shbig_trim.enc x).1 (shbig_trim.enc x).2 (putS FS.dec rsbig_trim) := by kernel_rfl
theorem okbig_trim : ∀ k, InstOk (call cf k) (Ibig_trim k)
  | 0 => fun x y e => absurd (show (none : Option _) = some y from e) (by simp)
  | k + 1 => inst_ok (c := cf) (k := k) (f := 102) (fn := Try.f102) (body := bd Try.f102) (sh := shbig_trim) (os := rsbig_trim) rfl Try.func102 rfl ⟨rfl, Nat.le_of_ble_eq_true rfl⟩ (COt_ok (albig_trim k)) (anbig_trim k) (fun x => Fbig_trim (k + 1) x) (stbig_trim k)

/-! shunt/big.NewInt -/
def bbig_NewInt (k : Nat) (v : Int) : Option (Bool × List Int) :=
  if ((decide (v < (0 : Int))) = true) then
    Option.bind (Fbig_trim k (List.take 2 ((IntKind.wrap .u32 (IntKind.wrap .u64 ((0 : Int) - (IntKind.wrap .u64 v)))) :: ((IntKind.wrap .u32 (Int.fdiv (IntKind.wrap .u64 ((0 : Int) - (IntKind.wrap .u64 v))) (4294967296 : Int))) :: [])))) fun r2 =>
    (some ((decide (v < (0 : Int))), r2))
  else
  Option.bind (Fbig_trim k (List.take 2 ((IntKind.wrap .u32 (IntKind.wrap .u64 v)) :: ((IntKind.wrap .u32 (Int.fdiv (IntKind.wrap .u64 v) (4294967296 : Int))) :: [])))) fun r2 =>
  (some ((decide (v < (0 : Int))), r2))
def Fbig_NewInt : Nat → Int → Option (Bool × List Int)
  | 0, _ => none
  | k + 1, v => bbig_NewInt k v
def shbig_NewInt : FS := { vs := [.a (.lf (.int .i64))], bs := [] }
def rsbig_NewInt : List FS := [{ vs := [.a (.ptr 0 0 0)], bs := [.raw [[.lf .bool, .lf (.sl (.int .u32))]] 2 98 true false] }]
def Ibig_NewInt (k : Nat) : Inst := ⟨75, shbig_NewInt, rsbig_NewInt, fun x => Fbig_NewInt k x⟩
theorem albig_NewInt (k : Nat) : AllI (call cf k) [Ibig_trim k] := And.intro (okbig_trim k) (True.intro)
theorem anbig_NewInt (k : Nat) : LAll (LOk (R := DS FS.D rsbig_NewInt) (fun b _ σ K => LOt Ty (kps 75) 0 b σ K []) cf (call cf k) (cf.keep 75) Try.f75.ntmps k shbig_NewInt.bs.length) 0 (bd Try.f75) :=
  And.intro (True.intro) (And.intro (True.intro) (And.intro (And.intro (True.intro) (And.intro (True.intro) (True.intro))) (And.intro (True.intro) (True.intro))))
theorem stbig_NewInt (k : Nat) (x : shbig_NewInt.D) : Fbig_NewInt (k + 1) x = body2 cf (fun f a b K => COt f a b K [Ibig_trim k]) (fun b _ σ K => LOt Ty (kps 75) 0 b σ K []) 75 Try.f75.ntmps Try.f75.results.toList (bd Try.f75) (shbig_NewInt.enc x).1 (shbig_NewInt.enc x).2 (putS FS.dec rsbig_NewInt) := by kernel_rfl
theorem okbig_NewInt : ∀ k, InstOk (call cf k) (Ibig_NewInt k)
  | 0 => fun x y e => absurd (show (none : Option _) = some y from e) (by simp)
  | k + 1 => inst_ok (c := cf) (k := k) (f := 75) (fn := Try.f75) (body := bd Try.f75) (sh := shbig_NewInt) (os := rsbig_NewInt) rfl Try.func75 rfl ⟨rfl, Nat.le_of_ble_eq_true rfl⟩ (COt_ok (albig_NewInt k)) (anbig_NewInt k) (fun x => Fbig_NewInt (k + 1) x) (stbig_NewInt k)

/-! (*shunt/big.Int).set -/
def bbig_Int_set_paj (k : Nat) (neg : Bool) (w : List Int) (z0 : Bool) (z1 : List Int) : Option (Bool × List Int) :=
  Option.bind (Fbig_trim k w) fun r5 =>
  if (neg = true) then
    (some ((decide ((((List.length r5) : Nat) : Int) > (0 : Int))), r5))
  else
  (some (false, r5))
def Fbig_Int_set_paj : Nat → Bool → List Int → Bool → List Int → Option (Bool × List Int)
  | 0, _, _, _, _ => none
  | k + 1, neg, w, z0, z1 => bbig_Int_set_paj k neg w z0 z1
def shbig_Int_set_paj : FS := { vs := [.a (.ptr 0 0 0), .a (.lf .bool), .a (.lf (.sl (.int .u32)))], bs := [.raw [[.lf .bool, .lf (.sl (.int .u32))]] 2 98 true false] }
def rsbig_Int_set_paj : List FS := [{ vs := [.a (.ptr 0 0 0)], bs := [.raw [[.lf .bool, .lf (.sl (.int .u32))]] 2 98 true false] }]
def Ibig_Int_set_paj (k : Nat) : Inst := ⟨110, shbig_Int_set_paj, rsbig_Int_set_paj, fun x => Fbig_Int_set_paj k x.1 x.2.1 x.2.2.1 x.2.2.2⟩
theorem albig_Int_set_paj (k : Nat) : AllI (call cf k) [Ibig_trim k] := And.intro (okbig_trim k) (True.intro)
theorem anbig_Int_set_paj (k : Nat) : LAll (LOk (R := DS FS.D rsbig_Int_set_paj) (fun b _ σ K => LOt Ty (kps 110) 1 b σ K []) cf (call cf k) (cf.keep 110) Try.f110.ntmps k shbig_Int_set_paj.bs.length) 0 (bd Try.f110) :=
  And.intro (True.intro) (And.intro (True.intro) (And.intro (True.intro) (And.intro (True.intro) (True.intro))))
theorem stbig_Int_set_paj (k : Nat) (x : shbig_Int_set_paj.D) : Fbig_Int_set_paj (k + 1) x.1 x.2.1 x.2.2.1 x.2.2.2 = body2 cf (fun f a b K => COt f a b K [Ibig_trim k]) (fun b _ σ K => LOt Ty (kps 110) 1 b σ K []) 110 Try.f110.ntmps Try.f110.results.toList (bd Try.f110) (shbig_Int_set_paj.enc x).1 (shbig_Int_set_paj.enc x).2 (putS FS.dec rsbig_Int_set_paj) := by kernel_rfl
theorem okbig_Int_set_paj : ∀ k, InstOk (call cf k) (Ibig_Int_set_paj k)
  | 0 => fun x y e => absurd (show (none : Option _) = some y from e) (by simp)
  | k + 1 => inst_ok (c := cf) (k := k) (f := 110) (fn := Try.f110) (body := bd Try.f110) (sh := shbig_Int_set_paj) (os := rsbig_Int_set_paj) rfl Try.func110 rfl ⟨rfl, Nat.le_of_ble_eq_true rfl⟩ (COt_ok (albig_Int_set_paj k)) (anbig_Int_set_paj k) (fun x => Fbig_Int_set_paj (k + 1) x.1 x.2.1 x.2.2.1 x.2.2.2) (stbig_Int_set_paj k)

/-! (*shunt/big.Int).Mul -/
def Lbig_Int_Mul_jod_2s (k : Nat) (rec : Nat → Int → Int → Int → List Int → Int → Int → List Int → Int → Int → Bool → List Int → Bool → List Int → List Int → Option (Nat × Int × Int × List Int × Int × Int × Bool × List Int × Bool × List Int × List Int)) (out1 : Nat) (i : Int) (a : Int) (carry : Int) (x : List Int) (x1 : Int) (x2 : Int) (x3 : List Int) (x4 : Int) (x5 : Int) (x0 : Bool) (x11 : List Int) (y0 : Bool) (y1 : List Int) (outs : List Int) : Option (Nat × Int × Int × List Int × Int × Int × Bool × List Int × Bool × List Int × List Int) :=
  if ((decide (x5 < x4)) = true) then
    if ((0 : Int) ≤ x5) then
      Option.bind (x3)[(Int.toNat x5)]? fun x6 =>
      if (((0 : Int) ≤ (IntKind.wrap .i64 (i + x5))) ∧ ((IntKind.wrap .i64 (i + x5)) < ((out1 : Nat) : Int))) then
        Option.bind (outs)[(0 + (Int.toNat (IntKind.wrap .i64 (i + x5))))]? fun x7 =>
        if (((0 : Int) ≤ (IntKind.wrap .i64 (i + x5))) ∧ ((IntKind.wrap .i64 (i + x5)) < ((out1 : Nat) : Int))) then
          Option.bind (outs)[(0 + (Int.toNat (IntKind.wrap .i64 (i + x5))))]? fun x8 =>
          rec out1 i a (Int.fdiv (IntKind.wrap .u64 ((IntKind.wrap .u64 ((IntKind.wrap .u64 ((IntKind.wrap .u64 a) * (IntKind.wrap .u64 x6))) + (IntKind.wrap .u64 x7))) + carry)) (4294967296 : Int)) x x1 x2 x3 x4 (IntKind.wrap .i64 (x5 + (1 : Int))) x0 x11 y0 y1 (List.set outs (0 + (Int.toNat (IntKind.wrap .i64 (i + x5)))) (IntKind.wrap .u32 (IntKind.wrap .u64 ((IntKind.wrap .u64 ((IntKind.wrap .u64 ((IntKind.wrap .u64 a) * (IntKind.wrap .u64 x6))) + (IntKind.wrap .u64 x7))) + carry))))
        else
        none
      else
      none
    else
    none
  else
  (some (out1, i, carry, x, x1, x2, x0, x11, y0, y1, outs))
def Lbig_Int_Mul_jod_2 (k n : Nat) : Nat → Int → Int → Int → List Int → Int → Int → List Int → Int → Int → Bool → List Int → Bool → List Int → List Int → Option (Nat × Int × Int × List Int × Int × Int × Bool × List Int × Bool × List Int × List Int) := Nat.rec (fun _ _ _ _ _ _ _ _ _ _ _ _ _ _ _ => none) (fun _ r => Lbig_Int_Mul_jod_2s k r) n
def Lbig_Int_Mul_jod_0s (k : Nat) (rec : Nat → List Int → Int → Int → Bool → List Int → Bool → List Int → List Int → Option (Nat × Bool × List Int × Bool × List Int × List Int)) (out1 : Nat) (x : List Int) (x1 : Int) (x2 : Int) (x0 : Bool) (x11 : List Int) (y0 : Bool) (y1 : List Int) (outs : List Int) : Option (Nat × Bool × List Int × Bool × List Int × List Int) :=
  if ((decide (x2 < x1)) = true) then
    if ((0 : Int) ≤ x2) then
      Option.bind (x)[(Int.toNat x2)]? fun x3 =>
      Option.bind (Lbig_Int_Mul_jod_2 k k out1 x2 x3 (0 : Int) x x1 x2 y1 (((List.length y1) : Nat) : Int) (0 : Int) x0 x11 y0 y1 outs) fun r4 =>
      if (((0 : Int) ≤ (IntKind.wrap .i64 (r4.2.1 + (((List.length r4.2.2.2.2.2.2.2.2.2.1) : Nat) : Int)))) ∧ ((IntKind.wrap .i64 (r4.2.1 + (((List.length r4.2.2.2.2.2.2.2.2.2.1) : Nat) : Int))) < ((r4.1 : Nat) : Int))) then
        Option.bind (r4.2.2.2.2.2.2.2.2.2.2)[(0 + (Int.toNat (IntKind.wrap .i64 (r4.2.1 + (((List.length r4.2.2.2.2.2.2.2.2.2.1) : Nat) : Int)))))]? fun x4 =>
        rec r4.1 r4.2.2.2.1 r4.2.2.2.2.1 (IntKind.wrap .i64 (r4.2.2.2.2.2.1 + (1 : Int))) r4.2.2.2.2.2.2.1 r4.2.2.2.2.2.2.2.1 r4.2.2.2.2.2.2.2.2.1 r4.2.2.2.2.2.2.2.2.2.1 (List.set r4.2.2.2.2.2.2.2.2.2.2 (0 + (Int.toNat (IntKind.wrap .i64 (r4.2.1 + (((List.length r4.2.2.2.2.2.2.2.2.2.1) : Nat) : Int))))) (IntKind.wrap .u32 r4.2.2.1))
      else
      none
    else
    none
  else
  (some (out1, x0, x11, y0, y1, outs))
def Lbig_Int_Mul_jod_0 (k n : Nat) : Nat → List Int → Int → Int → Bool → List Int → Bool → List Int → List Int → Option (Nat × Bool × List Int × Bool × List Int × List Int) := Nat.rec (fun _ _ _ _ _ _ _ _ _ => none) (fun _ r => Lbig_Int_Mul_jod_0s k r) n
def bbig_Int_Mul_jod (k : Nat) (x0 : Bool) (x1 : List Int) (y0 : Bool) (y1 : List Int) : Option (Bool × List Int × Bool × List Int) :=
  if (((0 : Int) ≤ (IntKind.wrap .i64 ((((List.length x1) : Nat) : Int) + (((List.length y1) : Nat) : Int)))) ∧ (((IntKind.wrap .i64 ((((List.length x1) : Nat) : Int) + (((List.length y1) : Nat) : Int))) ≤ (IntKind.wrap .i64 ((((List.length x1) : Nat) : Int) + (((List.length y1) : Nat) : Int)))) ∧ (((IntKind.wrap .i64 ((((List.length x1) : Nat) : Int) + (((List.length y1) : Nat) : Int))) * (4 : Int)) ≤ (140737488355328 : Int)))) then
    Option.bind (Lbig_Int_Mul_jod_0 k k (Int.toNat (IntKind.wrap .i64 ((((List.length x1) : Nat) : Int) + (((List.length y1) : Nat) : Int)))) x1 (((List.length x1) : Nat) : Int) (0 : Int) x0 x1 y0 y1 (List.replicate (Int.toNat (IntKind.wrap .i64 ((((List.length x1) : Nat) : Int) + (((List.length y1) : Nat) : Int)))) (0 : Int))) fun r4 =>
    if ((0 + r4.1) ≤ (List.length r4.2.2.2.2.2)) then
      Option.bind (Fbig_Int_set_paj k (!(r4.2.1 == r4.2.2.2.1)) (List.take r4.1 r4.2.2.2.2.2) r4.2.1 r4.2.2.1) fun r5 =>
      (some (r5.1, r5.2, r4.2.2.2.1, r4.2.2.2.2.1))
    else
    none
  else
  none
def Fbig_Int_Mul_jod : Nat → Bool → List Int → Bool → List Int → Option (Bool × List Int × Bool × List Int)
  | 0, _, _, _, _ => none
  | k + 1, x0, x1, y0, y1 => bbig_Int_Mul_jod k x0 x1 y0 y1
def shbig_Int_Mul_jod : FS := { vs := [.a (.ptr 0 0 0), .a (.ptr 0 0 0), .a (.ptr 1 0 0)], bs := [.raw [[.lf .bool, .lf (.sl (.int .u32))]] 2 98 true false, .raw [[.lf .bool, .lf (.sl (.int .u32))]] 2 98 true false] }
def rsbig_Int_Mul_jod : List FS := [{ vs := [.a (.ptr 0 0 0)], bs := [.raw [[.lf .bool, .lf (.sl (.int .u32))]] 2 98 true false, .raw [[.lf .bool, .lf (.sl (.int .u32))]] 2 98 true false] }]
def Ibig_Int_Mul_jod (k : Nat) : Inst := ⟨84, shbig_Int_Mul_jod, rsbig_Int_Mul_jod, fun x => Fbig_Int_Mul_jod k x.1 x.2.1 x.2.2.1 x.2.2.2⟩
theorem albig_Int_Mul_jod (k : Nat) : AllI (call cf k) [Ibig_Int_set_paj k] := And.intro (okbig_Int_set_paj k) (True.intro)
def hsbig_Int_Mul_jod_2 : List SS := [{ fr := [(0, .a (.ptr 0 0 0)), (1, .a (.ptr 0 0 0)), (2, .a (.ptr 1 0 0)), (7, .a (.smz 2)), (8, .a (.lf (.int .i64))), (9, .a (.lf (.int .u32))), (10, .a (.lf (.int .u64))), (29, .a (.lf (.sl (.int .u32)))), (30, .a (.lf (.int .i64))), (31, .a (.lf (.int .i64))), (39, .a (.lf (.sl (.int .u32)))), (40, .a (.lf (.int .i64))), (41, .a (.lf (.int .i64)))], mem := [(0, some (.raw [[.lf .bool, .lf (.sl (.int .u32))]] 2 98 true false)), (1, some (.raw [[.lf .bool, .lf (.sl (.int .u32))]] 2 98 true false)), (2, some (.arr (.int .u32) 1 72 false))], nx := 3 }]
def osbig_Int_Mul_jod_2 : List OS := [⟨some 2, { fr := [(0, .a (.ptr 0 0 0)), (1, .a (.ptr 0 0 0)), (2, .a (.ptr 1 0 0)), (7, .a (.smz 2)), (8, .a (.lf (.int .i64))), (10, .a (.lf (.int .u64))), (29, .a (.lf (.sl (.int .u32)))), (30, .a (.lf (.int .i64))), (31, .a (.lf (.int .i64)))], mem := [(0, some (.raw [[.lf .bool, .lf (.sl (.int .u32))]] 2 98 true false)), (1, some (.raw [[.lf .bool, .lf (.sl (.int .u32))]] 2 98 true false)), (2, some (.arr (.int .u32) 1 72 false))], nx := 3 }⟩]
def LIbig_Int_Mul_jod_2 (k : Nat) : LInst := ⟨2, hsbig_Int_Mul_jod_2, osbig_Int_Mul_jod_2, fun x => Lbig_Int_Mul_jod_2 k k x.1 x.2.1 x.2.2.1 x.2.2.2.1 x.2.2.2.2.1 x.2.2.2.2.2.1 x.2.2.2.2.2.2.1 x.2.2.2.2.2.2.2.1 x.2.2.2.2.2.2.2.2.1 x.2.2.2.2.2.2.2.2.2.1 x.2.2.2.2.2.2.2.2.2.2.1 x.2.2.2.2.2.2.2.2.2.2.2.1 x.2.2.2.2.2.2.2.2.2.2.2.2.1 x.2.2.2.2.2.2.2.2.2.2.2.2.2.1 x.2.2.2.2.2.2.2.2.2.2.2.2.2.2⟩
theorem anbig_Int_Mul_jod_2 (k : Nat) : LAll (LOk (R := DS OS.D osbig_Int_Mul_jod_2) (fun b _ σ K => LOt Ty (kps 84) 2 b σ K []) cf (call cf k) (kps 84) Try.f84.ntmps k 2) 2 (lb Try.f84 1) :=
  And.intro (True.intro) (And.intro (And.intro (True.intro) (True.intro)) (And.intro (And.intro (True.intro) (And.intro (True.intro) (And.intro (True.intro) (True.intro)))) (True.intro)))
theorem stbig_Int_Mul_jod_2 (k n : Nat) (x : DS SS.D hsbig_Int_Mul_jod_2) : Lbig_Int_Mul_jod_2 k (n + 1) x.1 x.2.1 x.2.2.1 x.2.2.2.1 x.2.2.2.2.1 x.2.2.2.2.2.1 x.2.2.2.2.2.2.1 x.2.2.2.2.2.2.2.1 x.2.2.2.2.2.2.2.2.1 x.2.2.2.2.2.2.2.2.2.1 x.2.2.2.2.2.2.2.2.2.2.1 x.2.2.2.2.2.2.2.2.2.2.2.1 x.2.2.2.2.2.2.2.2.2.2.2.2.1 x.2.2.2.2.2.2.2.2.2.2.2.2.2.1 x.2.2.2.2.2.2.2.2.2.2.2.2.2.2 = encSK SS.enc (fun σ => run2 cf (fun f a b K => COt f a b K [Ibig_Int_set_paj k]) (fun b _ σ K => LOt Ty (kps 84) 2 b σ K []) Try.f84.ntmps 2 (lb Try.f84 1) σ (nextK Ty (kps 84 2) 2 hsbig_Int_Mul_jod_2 osbig_Int_Mul_jod_2 fun x => Lbig_Int_Mul_jod_2 k n x.1 x.2.1 x.2.2.1 x.2.2.2.1 x.2.2.2.2.1 x.2.2.2.2.2.1 x.2.2.2.2.2.2.1 x.2.2.2.2.2.2.2.1 x.2.2.2.2.2.2.2.2.1 x.2.2.2.2.2.2.2.2.2.1 x.2.2.2.2.2.2.2.2.2.2.1 x.2.2.2.2.2.2.2.2.2.2.2.1 x.2.2.2.2.2.2.2.2.2.2.2.2.1 x.2.2.2.2.2.2.2.2.2.2.2.2.2.1 x.2.2.2.2.2.2.2.2.2.2.2.2.2.2)) hsbig_Int_Mul_jod_2 x := by kernel_rfl
theorem lobig_Int_Mul_jod_2 (k : Nat) : LIOk cf (call cf k) (kps 84) Try.f84.ntmps k 2 2 (lb Try.f84 1) (LIbig_Int_Mul_jod_2 k) :=
  loop_ok (c := cf) (callF := call cf k) (kp := kps 84) (nt := Try.f84.ntmps) (k := k) (p := 2) (b := 2) (x0 := lb Try.f84 1) (hs := hsbig_Int_Mul_jod_2) (os := osbig_Int_Mul_jod_2) (COt_ok (albig_Int_Mul_jod k)) (anbig_Int_Mul_jod_2 k) (fun n x => Lbig_Int_Mul_jod_2 k n x.1 x.2.1 x.2.2.1 x.2.2.2.1 x.2.2.2.2.1 x.2.2.2.2.2.1 x.2.2.2.2.2.2.1 x.2.2.2.2.2.2.2.1 x.2.2.2.2.2.2.2.2.1 x.2.2.2.2.2.2.2.2.2.1 x.2.2.2.2.2.2.2.2.2.2.1 x.2.2.2.2.2.2.2.2.2.2.2.1 x.2.2.2.2.2.2.2.2.2.2.2.2.1 x.2.2.2.2.2.2.2.2.2.2.2.2.2.1 x.2.2.2.2.2.2.2.2.2.2.2.2.2.2) (fun _ => rfl) (stbig_Int_Mul_jod_2 k)
def hsbig_Int_Mul_jod_0 : List SS := [{ fr := [(0, .a (.ptr 0 0 0)), (1, .a (.ptr 0 0 0)), (2, .a (.ptr 1 0 0)), (7, .a (.smz 2)), (29, .a (.lf (.sl (.int .u32)))), (30, .a (.lf (.int .i64))), (31, .a (.lf (.int .i64)))], mem := [(0, some (.raw [[.lf .bool, .lf (.sl (.int .u32))]] 2 98 true false)), (1, some (.raw [[.lf .bool, .lf (.sl (.int .u32))]] 2 98 true false)), (2, some (.arr (.int .u32) 1 72 false))], nx := 3 }]
def osbig_Int_Mul_jod_0 : List OS := [⟨some 0, { fr := [(0, .a (.ptr 0 0 0)), (1, .a (.ptr 0 0 0)), (2, .a (.ptr 1 0 0)), (7, .a (.smz 2))], mem := [(0, some (.raw [[.lf .bool, .lf (.sl (.int .u32))]] 2 98 true false)), (1, some (.raw [[.lf .bool, .lf (.sl (.int .u32))]] 2 98 true false)), (2, some (.arr (.int .u32) 1 72 false))], nx := 3 }⟩]
def LIbig_Int_Mul_jod_0 (k : Nat) : LInst := ⟨0, hsbig_Int_Mul_jod_0, osbig_Int_Mul_jod_0, fun x => Lbig_Int_Mul_jod_0 k k x.1 x.2.1 x.2.2.1 x.2.2.2.1 x.2.2.2.2.1 x.2.2.2.2.2.1 x.2.2.2.2.2.2.1 x.2.2.2.2.2.2.2.1 x.2.2.2.2.2.2.2.2⟩
theorem anbig_Int_Mul_jod_0 (k : Nat) : LAll (LOk (R := DS OS.D osbig_Int_Mul_jod_0) (fun b _ σ K => LOt Ty (kps 84) 2 b σ K [LIbig_Int_Mul_jod_2 k]) cf (call cf k) (kps 84) Try.f84.ntmps k 2) 0 (lb Try.f84 0) :=
  And.intro (True.intro) (And.intro (And.intro (True.intro) (True.intro)) (And.intro (And.intro (True.intro) (And.intro (True.intro) (And.intro (And.intro (True.intro) (LOt_ok (c := cf) (callF := call cf k) (kp := kps 84) (nt := Try.f84.ntmps) (k := k) (p := 2) (b := 2) (x0 := lb Try.f84 1) (l := [LIbig_Int_Mul_jod_2 k]) (And.intro (fun _ => lobig_Int_Mul_jod_2 k) (True.intro)))) (True.intro)))) (True.intro)))
theorem stbig_Int_Mul_jod_0 (k n : Nat) (x : DS SS.D hsbig_Int_Mul_jod_0) : Lbig_Int_Mul_jod_0 k (n + 1) x.1 x.2.1 x.2.2.1 x.2.2.2.1 x.2.2.2.2.1 x.2.2.2.2.2.1 x.2.2.2.2.2.2.1 x.2.2.2.2.2.2.2.1 x.2.2.2.2.2.2.2.2 = encSK SS.enc (fun σ => run2 cf (fun f a b K => COt f a b K [Ibig_Int_set_paj k]) (fun b _ σ K => LOt Ty (kps 84) 2 b σ K [LIbig_Int_Mul_jod_2 k]) Try.f84.ntmps 0 (lb Try.f84 0) σ (nextK Ty (kps 84 0) 2 hsbig_Int_Mul_jod_0 osbig_Int_Mul_jod_0 fun x => Lbig_Int_Mul_jod_0 k n x.1 x.2.1 x.2.2.1 x.2.2.2.1 x.2.2.2.2.1 x.2.2.2.2.2.1 x.2.2.2.2.2.2.1 x.2.2.2.2.2.2.2.1 x.2.2.2.2.2.2.2.2)) hsbig_Int_Mul_jod_0 x := by kernel_rfl
theorem lobig_Int_Mul_jod_0 (k : Nat) : LIOk cf (call cf k) (kps 84) Try.f84.ntmps k 2 0 (lb Try.f84 0) (LIbig_Int_Mul_jod_0 k) :=
  loop_ok (c := cf) (callF := call cf k) (kp := kps 84) (nt := Try.f84.ntmps) (k := k) (p := 2) (b := 0) (x0 := lb Try.f84 0) (hs := hsbig_Int_Mul_jod_0) (os := osbig_Int_Mul_jod_0) (COt_ok (albig_Int_Mul_jod k)) (anbig_Int_Mul_jod_0 k) (fun n x => Lbig_Int_Mul_jod_0 k n x.1 x.2.1 x.2.2.1 x.2.2.2.1 x.2.2.2.2.1 x.2.2.2.2.2.1 x.2.2.2.2.2.2.1 x.2.2.2.2.2.2.2.1 x.2.2.2.2.2.2.2.2) (fun _ => rfl) (stbig_Int_Mul_jod_0 k)
theorem anbig_Int_Mul_jod (k : Nat) : LAll (LOk (R := DS FS.D rsbig_Int_Mul_jod) (fun b _ σ K => LOt Ty (kps 84) 2 b σ K [LIbig_Int_Mul_jod_2 k, LIbig_Int_Mul_jod_0 k]) cf (call cf k) (cf.keep 84) Try.f84.ntmps k shbig_Int_Mul_jod.bs.length) 0 (bd Try.f84) :=
  And.intro (True.intro) (And.intro (True.intro) (And.intro (And.intro (True.intro) (LOt_ok (c := cf) (callF := call cf k) (kp := kps 84) (nt := Try.f84.ntmps) (k := k) (p := 2) (b := 0) (x0 := lb Try.f84 0) (l := [LIbig_Int_Mul_jod_2 k, LIbig_Int_Mul_jod_0 k]) (And.intro (fun h => absurd (show (2 : Nat) = 0 from h) (by decide)) (And.intro (fun _ => lobig_Int_Mul_jod_0 k) (True.intro))))) (And.intro (True.intro) (True.intro))))
theorem stbig_Int_Mul_jod (k : Nat) (x : shbig_Int_Mul_jod.D) : Fbig_Int_Mul_jod (k + 1) x.1 x.2.1 x.2.2.1 x.2.2.2 = body2 cf (fun f a b K => COt f a b K [Ibig_Int_set_paj k]) (fun b _ σ K => LOt Ty (kps 84) 2 b σ K [LIbig_Int_Mul_jod_2 k, LIbig_Int_Mul_jod_0 k]) 84 Try.f84.ntmps Try.f84.results.toList (bd Try.f84) (shbig_Int_Mul_jod.enc x).1 (shbig_Int_Mul_jod.enc x).2 (putS FS.dec rsbig_Int_Mul_jod) := by kernel_rfl
theorem okbig_Int_Mul_jod : ∀ k, InstOk (call cf k) (Ibig_Int_Mul_jod k)
  | 0 => fun x y e => absurd (show (none : Option _) = some y from e) (by simp)
  | k + 1 => inst_ok (c := cf) (k := k) (f := 84) (fn := Try.f84) (body := bd Try.f84) (sh := shbig_Int_Mul_jod) (os := rsbig_Int_Mul_jod) rfl Try.func84 rfl ⟨rfl, Nat.le_of_ble_eq_true rfl⟩ (COt_ok (albig_Int_Mul_jod k)) (anbig_Int_Mul_jod k) (fun x => Fbig_Int_Mul_jod (k + 1) x.1 x.2.1 x.2.2.1 x.2.2.2) (stbig_Int_Mul_jod k)

/-! shunt/big.Ten -/
def Lbig_Ten_0s (k : Nat) (rec : Int → Int → Bool → List Int → Bool → List Int → Option (Bool × List Int × Bool × List Int)) (x : Int) (x1 : Int) (z0 : Bool) (z1 : List Int) (ten0 : Bool) (ten1 : List Int) : Option (Bool × List Int × Bool × List Int) :=
  if ((decide (x1 < x)) = true) then
    Option.bind (Fbig_Int_Mul_jod k z0 z1 ten0 ten1) fun r4 =>
    rec x (IntKind.wrap .i64 (x1 + (1 : Int))) r4.1 r4.2.1 r4.2.2.1 r4.2.2.2
  else
  (some (z0, z1, ten0, ten1))
def Lbig_Ten_0 (k n : Nat) : Int → Int → Bool → List Int → Bool → List Int → Option (Bool × List Int × Bool × List Int) := Nat.rec (fun _ _ _ _ _ _ => none) (fun _ r => Lbig_Ten_0s k r) n
def bbig_Ten (k : Nat) (k1 : Int) : Option (Bool × List Int) :=
  Option.bind (Fbig_NewInt k (1 : Int)) fun r2 =>
  Option.bind (Fbig_NewInt k (10 : Int)) fun r3 =>
  Option.bind (Lbig_Ten_0 k k k1 (0 : Int) r2.1 r2.2 r3.1 r3.2) fun r4 =>
  (some (r4.1, r4.2.1))
def Fbig_Ten : Nat → Int → Option (Bool × List Int)
  | 0, _ => none
  | k + 1, k1 => bbig_Ten k k1
def shbig_Ten : FS := { vs := [.a (.lf (.int .i64))], bs := [] }
def rsbig_Ten : List FS := [{ vs := [.a (.ptr 0 0 0)], bs := [.raw [[.lf .bool, .lf (.sl (.int .u32))]] 2 98 true false] }]
def Ibig_Ten (k : Nat) : Inst := ⟨92, shbig_Ten, rsbig_Ten, fun x => Fbig_Ten k x⟩
theorem albig_Ten (k : Nat) : AllI (call cf k) [Ibig_NewInt k, Ibig_Int_Mul_jod k] := And.intro (okbig_NewInt k) (And.intro (okbig_Int_Mul_jod k) (True.intro))
def hsbig_Ten_0 : List SS := [{ fr := [(3, .a (.ptr 0 0 0)), (4, .a (.ptr 1 0 0)), (7, .a (.lf (.int .i64))), (8, .a (.lf (.int .i64)))], mem := [(0, some (.raw [[.lf .bool, .lf (.sl (.int .u32))]] 2 98 true false)), (1, some (.raw [[.lf .bool, .lf (.sl (.int .u32))]] 2 98 true false))], nx := 2 }]
def osbig_Ten_0 : List OS := [⟨some 0, { fr := [(3, .a (.ptr 0 0 0))], mem := [(0, some (.raw [[.lf .bool, .lf (.sl (.int .u32))]] 2 98 true false)), (1, some (.raw [[.lf .bool, .lf (.sl (.int .u32))]] 2 98 true false))], nx := 2 }⟩]
def LIbig_Ten_0 (k : Nat) : LInst := ⟨0, hsbig_Ten_0, osbig_Ten_0, fun x => Lbig_Ten_0 k k x.1 x.2.1 x.2.2.1 x.2.2.2.1 x.2.2.2.2.1 x.2.2.2.2.2⟩
theorem anbig_Ten_0 (k : Nat) : LAll (LOk (R := DS OS.D osbig_Ten_0) (fun b _ σ K => LOt Ty (kps 92) 0 b σ K []) cf (call cf k) (kps 92) Try.f92.ntmps k 0) 0 (lb Try.f92 0) :=
  And.intro (True.intro) (And.intro (And.intro (True.intro) (True.intro)) (And.intro (True.intro) (True.intro)))
theorem stbig_Ten_0 (k n : Nat) (x : DS SS.D hsbig_Ten_0) : Lbig_Ten_0 k (n + 1) x.1 x.2.1 x.2.2.1 x.2.2.2.1 x.2.2.2.2.1 x.2.2.2.2.2 = encSK SS.enc (fun σ => run2 cf (fun f a b K => COt f a b K [Ibig_NewInt k, Ibig_Int_Mul_jod k]) (fun b _ σ K => LOt Ty (kps 92) 0 b σ K []) Try.f92.ntmps 0 (lb Try.f92 0) σ (nextK Ty (kps 92 0) 0 hsbig_Ten_0 osbig_Ten_0 fun x => Lbig_Ten_0 k n x.1 x.2.1 x.2.2.1 x.2.2.2.1 x.2.2.2.2.1 x.2.2.2.2.2)) hsbig_Ten_0 x := by kernel_rfl
theorem lobig_Ten_0 (k : Nat) : LIOk cf (call cf k) (kps 92) Try.f92.ntmps k 0 0 (lb Try.f92 0) (LIbig_Ten_0 k) :=
  loop_ok (c := cf) (callF := call cf k) (kp := kps 92) (nt := Try.f92.ntmps) (k := k) (p := 0) (b := 0) (x0 := lb Try.f92 0) (hs := hsbig_Ten_0) (os := osbig_Ten_0) (COt_ok (albig_Ten k)) (anbig_Ten_0 k) (fun n x => Lbig_Ten_0 k n x.1 x.2.1 x.2.2.1 x.2.2.2.1 x.2.2.2.2.1 x.2.2.2.2.2) (fun _ => rfl) (stbig_Ten_0 k)
theorem anbig_Ten (k : Nat) : LAll (LOk (R := DS FS.D rsbig_Ten) (fun b _ σ K => LOt Ty (kps 92) 0 b σ K [LIbig_Ten_0 k]) cf (call cf k) (cf.keep 92) Try.f92.ntmps k shbig_Ten.bs.length) 0 (bd Try.f92) :=
  And.intro (True.intro) (And.intro (True.intro) (And.intro (And.intro (True.intro) (LOt_ok (c := cf) (callF := call cf k) (kp := kps 92) (nt := Try.f92.ntmps) (k := k) (p := 0) (b := 0) (x0 := lb Try.f92 0) (l := [LIbig_Ten_0 k]) (And.intro (fun _ => lobig_Ten_0 k) (True.intro)))) (And.intro (True.intro) (True.intro))))
theorem stbig_Ten (k : Nat) (x : shbig_Ten.D) : Fbig_Ten (k + 1) x = body2 cf (fun f a b K => COt f a b K [Ibig_NewInt k, Ibig_Int_Mul_jod k]) (fun b _ σ K => LOt Ty (kps 92) 0 b σ K [LIbig_Ten_0 k]) 92 Try.f92.ntmps Try.f92.results.toList (bd Try.f92) (shbig_Ten.enc x).1 (shbig_Ten.enc x).2 (putS FS.dec rsbig_Ten) := by kernel_rfl
theorem okbig_Ten : ∀ k, InstOk (call cf k) (Ibig_Ten k)
  | 0 => fun x y e => absurd (show (none : Option _) = some y from e) (by simp)
  | k + 1 => inst_ok (c := cf) (k := k) (f := 92) (fn := Try.f92) (body := bd Try.f92) (sh := shbig_Ten) (os := rsbig_Ten) rfl Try.func92 rfl ⟨rfl, Nat.le_of_ble_eq_true rfl⟩ (COt_ok (albig_Ten k)) (anbig_Ten k) (fun x => Fbig_Ten (k + 1) x) (stbig_Ten k)

/-! shunt/big.cmp -/
def Lbig_cmp_0s (k : Nat) (rec : List Int → List Int → Int → Option ((Int) ⊕ (Unit))) (a : List Int) (b : List Int) (i : Int) : Option ((Int) ⊕ (Unit)) :=
  if ((decide (i ≥ (0 : Int))) = true) then
    if ((0 : Int) ≤ i) then
      Option.bind (a)[(Int.toNat i)]? fun x2 =>
      if ((0 : Int) ≤ i) then
        Option.bind (b)[(Int.toNat i)]? fun x3 =>
        if ((x2 != x3) = true) then
          if ((0 : Int) ≤ i) then
            Option.bind (a)[(Int.toNat i)]? fun x4 =>
            if ((0 : Int) ≤ i) then
              Option.bind (b)[(Int.toNat i)]? fun x5 =>
              if ((decide (x4 < x5)) = true) then
                (some (Sum.inl (-(1 : Int))))
              else
              (some (Sum.inl (1 : Int)))
            else
            none
          else
          none
        else
        rec a b (IntKind.wrap .i64 (i - (1 : Int)))
      else
      none
    else
    none
  else
  (some (Sum.inr ()))
def Lbig_cmp_0 (k n : Nat) : List Int → List Int → Int → Option ((Int) ⊕ (Unit)) := Nat.rec (fun _ _ _ => none) (fun _ r => Lbig_cmp_0s k r) n
def bbig_cmp (k : Nat) (a : List Int) (b : List Int) : Option (Int) :=
  if (((((List.length a) : Nat) : Int) != (((List.length b) : Nat) : Int)) = true) then
    if ((decide ((((List.length a) : Nat) : Int) < (((List.length b) : Nat) : Int))) = true) then
      (some (-(1 : Int)))
    else
    (some (1 : Int))
  else
  Option.bind (Lbig_cmp_0 k k a b (IntKind.wrap .i64 ((((List.length a) : Nat) : Int) - (1 : Int)))) fun r4 =>
  eitherK r4
    (fun r4 =>
    (some r4))
    (fun r4 =>
    (some (0 : Int)))
def Fbig_cmp : Nat → List Int → List Int → Option (Int)
  | 0, _, _ => none
  | k + 1, a, b => bbig_cmp k a b
def shbig_cmp : FS := { vs := [.a (.lf (.sl (.int .u32))), .a (.lf (.sl (.int .u32)))], bs := [] }
def rsbig_cmp : List FS := [{ vs := [.a (.lf (.int .i64))], bs := [] }]
def Ibig_cmp (k : Nat) : Inst := ⟨111, shbig_cmp, rsbig_cmp, fun x => Fbig_cmp k x.1 x.2⟩
theorem albig_cmp (k : Nat) : AllI (call cf k) [] := True.intro
def hsbig_cmp_0 : List SS := [{ fr := [(0, .a (.lf (.sl (.int .u32)))), (1, .a (.lf (.sl (.int .u32)))), (5, .a (.lf (.int .i64)))], mem := [], nx := 0 }]
def osbig_cmp_0 : List OS := [⟨none, { fr := [(4, .a (.lf (.int .i64)))], mem := [], nx := 0 }⟩, ⟨some 0, { fr := [], mem := [], nx := 0 }⟩]
def LIbig_cmp_0 (k : Nat) : LInst := ⟨0, hsbig_cmp_0, osbig_cmp_0, fun x => Lbig_cmp_0 k k x.1 x.2.1 x.2.2⟩
theorem anbig_cmp_0 (k : Nat) : LAll (LOk (R := DS OS.D osbig_cmp_0) (fun b _ σ K => LOt Ty (kps 111) 0 b σ K []) cf (call cf k) (kps 111) Try.f111.ntmps k 0) 0 (lb Try.f111 0) :=
  And.intro (And.intro (True.intro) (And.intro (True.intro) (True.intro))) (And.intro (And.intro (True.intro) (And.intro (And.intro (And.intro (True.intro) (And.intro (And.intro (True.intro) (True.intro)) (True.intro))) (And.intro (True.intro) (True.intro))) (True.intro))) (True.intro))
theorem stbig_cmp_0 (k n : Nat) (x : DS SS.D hsbig_cmp_0) : Lbig_cmp_0 k (n + 1) x.1 x.2.1 x.2.2 = encSK SS.enc (fun σ => run2 cf (fun f a b K => COt f a b K []) (fun b _ σ K => LOt Ty (kps 111) 0 b σ K []) Try.f111.ntmps 0 (lb Try.f111 0) σ (nextK Ty (kps 111 0) 0 hsbig_cmp_0 osbig_cmp_0 fun x => Lbig_cmp_0 k n x.1 x.2.1 x.2.2)) hsbig_cmp_0 x := by kernel_rfl
theorem lobig_cmp_0 (k : Nat) : LIOk cf (call cf k) (kps 111) Try.f111.ntmps k 0 0 (lb Try.f111 0) (LIbig_cmp_0 k) :=
  loop_ok (c := cf) (callF := call cf k) (kp := kps 111) (nt := Try.f111.ntmps) (k := k) (p := 0) (b := 0) (x0 := lb Try.f111 0) (hs := hsbig_cmp_0) (os := osbig_cmp_0) (COt_ok (albig_cmp k)) (anbig_cmp_0 k) (fun n x => Lbig_cmp_0 k n x.1 x.2.1 x.2.2) (fun _ => rfl) (stbig_cmp_0 k)
theorem anbig_cmp (k : Nat) : LAll (LOk (R := DS FS.D rsbig_cmp) (fun b _ σ K => LOt Ty (kps 111) 0 b σ K [LIbig_cmp_0 k]) cf (call cf k) (cf.keep 111) Try.f111.ntmps k shbig_cmp.bs.length) 0 (bd Try.f111) :=
  And.intro (True.intro) (And.intro (And.intro (True.intro) (And.intro (And.intro (And.intro (True.intro) (And.intro (And.intro (True.intro) (True.intro)) (True.intro))) (And.intro (True.intro) (True.intro))) (True.intro))) (And.intro (And.intro (True.intro) (LOt_ok (c := cf) (callF := call cf k) (kp := kps 111) (nt := Try.f111.ntmps) (k := k) (p := 0) (b := 0) (x0 := lb Try.f111 0) (l := [LIbig_cmp_0 k]) (And.intro (fun _ => lobig_cmp_0 k) (True.intro)))) (And.intro (True.intro) (True.intro))))
theorem stbig_cmp (k : Nat) (x : shbig_cmp.D) : Fbig_cmp (k + 1) x.1 x.2 = body2 cf (fun f a b K => COt f a b K []) (fun b _ σ K => LOt Ty (kps 111) 0 b σ K [LIbig_cmp_0 k]) 111 Try.f111.ntmps Try.f111.results.toList (bd Try.f111) (shbig_cmp.enc x).1 (shbig_cmp.enc x).2 (putS FS.dec rsbig_cmp) := by kernel_rfl
theorem okbig_cmp : ∀ k, InstOk (call cf k) (Ibig_cmp k)
  | 0 => fun x y e => absurd (show (none : Option _) = some y from e) (by simp)
  | k + 1 => inst_ok (c := cf) (k := k) (f := 111) (fn := Try.f111) (body := bd Try.f111) (sh := shbig_cmp) (os := rsbig_cmp) rfl Try.func111 rfl ⟨rfl, Nat.le_of_ble_eq_true rfl⟩ (COt_ok (albig_cmp k)) (anbig_cmp k) (fun x => Fbig_cmp (k + 1) x.1 x.2) (stbig_cmp k)

/-! shunt/big.short -/
def Lbig_short_0s (k : Nat) (rec : List Int → Int → Nat → Int → Int → List Int → Option (Nat × Int × List Int)) (a : List Int) (d : Int) (q : Nat) (r : Int) (i : Int) (qs : List Int) : Option (Nat × Int × List Int) :=
  if ((decide (i ≥ (0 : Int))) = true) then
    if ((0 : Int) ≤ i) then
      Option.bind (a)[(Int.toNat i)]? fun x3 =>
      if ((IntKind.wrap .u64 d) = (0 : Int)) then
        none
      else
      if (((0 : Int) ≤ i) ∧ (i < ((q : Nat) : Int))) then
        Option.bind (qs)[(0 + (Int.toNat i))]? fun x4 =>
        if ((IntKind.wrap .u64 d) = (0 : Int)) then
          none
        else
        rec a d q (Int.tmod (IntKind.wrap .u64 (((BitVec.toNat ((BitVec.ofInt 64 (IntKind.wrap .u64 (r * (4294967296 : Int)))) ||| (BitVec.ofInt 64 (IntKind.wrap .u64 x3)))) : Nat) : Int)) (IntKind.wrap .u64 d)) (IntKind.wrap .i64 (i - (1 : Int))) (List.set qs (0 + (Int.toNat i)) (IntKind.wrap .u32 (IntKind.wrap .u64 (Int.tdiv (IntKind.wrap .u64 (((BitVec.toNat ((BitVec.ofInt 64 (IntKind.wrap .u64 (r * (4294967296 : Int)))) ||| (BitVec.ofInt 64 (IntKind.wrap .u64 x3)))) : Nat) : Int)) (IntKind.wrap .u64 d)))))
      else
      none
    else
    none
  else
  (some (q, r, qs))
def Lbig_short_0 (k n : Nat) : List Int → Int → Nat → Int → Int → List Int → Option (Nat × Int × List Int) := Nat.rec (fun _ _ _ _ _ _ => none) (fun _ r => Lbig_short_0s k r) n
def bbig_short (k : Nat) (a : List Int) (d : Int) : Option (List Int × Int) :=
  if (((0 : Int) ≤ (((List.length a) : Nat) : Int)) ∧ (((((List.length a) : Nat) : Int) ≤ (((List.length a) : Nat) : Int)) ∧ (((((List.length a) : Nat) : Int) * (4 : Int)) ≤ (140737488355328 : Int)))) then
    Option.bind (Lbig_short_0 k k a d (Int.toNat (((List.length a) : Nat) : Int)) (0 : Int) (IntKind.wrap .i64 ((((List.length a) : Nat) : Int) - (1 : Int))) (List.replicate (Int.toNat (((List.length a) : Nat) : Int)) (0 : Int))) fun r5 =>
    if ((0 + r5.1) ≤ (List.length r5.2.2)) then
      (some ((List.take r5.1 r5.2.2), (IntKind.wrap .u32 r5.2.1)))
    else
    none
  else
  none
def Fbig_short : Nat → List Int → Int → Option (List Int × Int)
  | 0, _, _ => none
  | k + 1, a, d => bbig_short k a d
def shbig_short : FS := { vs := [.a (.lf (.sl (.int .u32))), .a (.lf (.int .u32))], bs := [] }
def rsbig_short : List FS := [{ vs := [.a (.lf (.sl (.int .u32))), .a (.lf (.int .u32))], bs := [] }]
def Ibig_short (k : Nat) : Inst := ⟨103, shbig_short, rsbig_short, fun x => Fbig_short k x.1 x.2⟩
theorem albig_short (k : Nat) : AllI (call cf k) [] := True.intro
def hsbig_short_0 : List SS := [{ fr := [(0, .a (.lf (.sl (.int .u32)))), (1, .a (.lf (.int .u32))), (6, .a (.smz 0)), (7, .a (.lf (.int .u64))), (8, .a (.lf (.int .i64)))], mem := [(0, some (.arr (.int .u32) 1 72 false))], nx := 1 }]
def osbig_short_0 : List OS := [⟨some 0, { fr := [(6, .a (.smz 0)), (7, .a (.lf (.int .u64)))], mem := [(0, some (.arr (.int .u32) 1 72 false))], nx := 1 }⟩]
def LIbig_short_0 (k : Nat) : LInst := ⟨0, hsbig_short_0, osbig_short_0, fun x => Lbig_short_0 k k x.1 x.2.1 x.2.2.1 x.2.2.2.1 x.2.2.2.2.1 x.2.2.2.2.2⟩
theorem anbig_short_0 (k : Nat) : LAll (LOk (R := DS OS.D osbig_short_0) (fun b _ σ K => LOt Ty (kps 103) 0 b σ K []) cf (call cf k) (kps 103) Try.f103.ntmps k 0) 0 (lb Try.f103 0) :=
  And.intro (And.intro (True.intro) (And.intro (True.intro) (True.intro))) (And.intro (And.intro (True.intro) (And.intro (True.intro) (True.intro))) (True.intro))
theorem stbig_short_0 (k n : Nat) (x : DS SS.D hsbig_short_0) : Lbig_short_0 k (n + 1) x.1 x.2.1 x.2.2.1 x.2.2.2.1 x.2.2.2.2.1 x.2.2.2.2.2 = encSK SS.enc (fun σ => run2 cf (fun f a b K => COt f a b K []) (fun b _ σ K => LOt Ty (kps 103) 0 b σ K []) Try.f103.ntmps 0 (lb Try.f103 0) σ (nextK Ty (kps 103 0) 0 hsbig_short_0 osbig_short_0 fun x => Lbig_short_0 k n x.1 x.2.1 x.2.2.1 x.2.2.2.1 x.2.2.2.2.1 x.2.2.2.2.2)) hsbig_short_0 x := by kernel_rfl
theorem lobig_short_0 (k : Nat) : LIOk cf (call cf k) (kps 103) Try.f103.ntmps k 0 0 (lb Try.f103 0) (LIbig_short_0 k) :=
  loop_ok (c := cf) (callF := call cf k) (kp := kps 103) (nt := Try.f103.ntmps) (k := k) (p := 0) (b := 0) (x0 := lb Try.f103 0) (hs := hsbig_short_0) (os := osbig_short_0) (COt_ok (albig_short k)) (anbig_short_0 k) (fun n x => Lbig_short_0 k n x.1 x.2.1 x.2.2.1 x.2.2.2.1 x.2.2.2.2.1 x.2.2.2.2.2) (fun _ => rfl) (stbig_short_0 k)
theorem anbig_short (k : Nat) : LAll (LOk (R := DS FS.D rsbig_short) (fun b _ σ K => LOt Ty (kps 103) 0 b σ K [LIbig_short_0 k]) cf (call cf k) (cf.keep 103) Try.f103.ntmps k shbig_short.bs.length) 0 (bd Try.f103) :=
  And.intro (True.intro) (And.intro (True.intro) (And.intro (True.intro) (And.intro (And.intro (True.intro) (LOt_ok (c := cf) (callF := call cf k) (kp := kps 103) (nt := Try.f103.ntmps) (k := k) (p := 0) (b := 0) (x0 := lb Try.f103 0) (l := [LIbig_short_0 k]) (And.intro (fun _ => lobig_short_0 k) (True.intro)))) (And.intro (True.intro) (True.intro)))))
theorem stbig_short (k : Nat) (x : shbig_short.D) : Fbig_short (k + 1) x.1 x.2 = body2 cf (fun f a b K => COt f a b K []) (fun b _ σ K => LOt Ty (kps 103) 0 b σ K [LIbig_short_0 k]) 103 Try.f103.ntmps Try.f103.results.toList (bd Try.f103) (shbig_short.enc x).1 (shbig_short.enc x).2 (putS FS.dec rsbig_short) := by kernel_rfl
theorem okbig_short : ∀ k, InstOk (call cf k) (Ibig_short k)
  | 0 => fun x y e => absurd (show (none : Option _) = some y from e) (by simp)
  | k + 1 => inst_ok (c := cf) (k := k) (f := 103) (fn := Try.f103) (body := bd Try.f103) (sh := shbig_short) (os := rsbig_short) rfl Try.func103 rfl ⟨rfl, Nat.le_of_ble_eq_true rfl⟩ (COt_ok (albig_short k)) (anbig_short k) (fun x => Fbig_short (k + 1) x.1 x.2) (stbig_short k)

/-! shunt/big.shift -/
def Lbig_shift_0s (k : Nat) (rec : Int → Nat → List Int → Int → Int → List Int → Option (Nat × List Int)) (bits : Int) (out1 : Nat) (x : List Int) (x1 : Int) (x2 : Int) (outs : List Int) : Option (Nat × List Int) :=
  if ((decide (x2 < x1)) = true) then
    if ((0 : Int) ≤ x2) then
      Option.bind (x)[(Int.toNat x2)]? fun x3 =>
      if (bits < (0 : Int)) then
        none
      else
      if (((0 : Int) ≤ x2) ∧ (x2 < ((out1 : Nat) : Int))) then
        Option.bind (outs)[(0 + (Int.toNat x2))]? fun x4 =>
        if (((0 : Int) ≤ x2) ∧ (x2 < ((out1 : Nat) : Int))) then
          Option.bind (outs)[(0 + (Int.toNat x2))]? fun x5 =>
          if (((0 : Int) ≤ (IntKind.wrap .i64 (x2 + (1 : Int)))) ∧ ((IntKind.wrap .i64 (x2 + (1 : Int))) < ((out1 : Nat) : Int))) then
            Option.bind ((List.set outs (0 + (Int.toNat x2)) (IntKind.wrap .u32 (((BitVec.toNat ((BitVec.ofInt 32 x4) ||| (BitVec.ofInt 32 (IntKind.wrap .u32 (IntKind.wrap .u64 ((IntKind.wrap .u64 x3) * ((2 : Int) ^ (min (Int.toNat bits) 64)))))))) : Nat) : Int))))[(0 + (Int.toNat (IntKind.wrap .i64 (x2 + (1 : Int)))))]? fun x6 =>
            rec bits out1 x x1 (IntKind.wrap .i64 (x2 + (1 : Int))) (List.set (List.set outs (0 + (Int.toNat x2)) (IntKind.wrap .u32 (((BitVec.toNat ((BitVec.ofInt 32 x4) ||| (BitVec.ofInt 32 (IntKind.wrap .u32 (IntKind.wrap .u64 ((IntKind.wrap .u64 x3) * ((2 : Int) ^ (min (Int.toNat bits) 64)))))))) : Nat) : Int))) (0 + (Int.toNat (IntKind.wrap .i64 (x2 + (1 : Int))))) (IntKind.wrap .u32 (Int.fdiv (IntKind.wrap .u64 ((IntKind.wrap .u64 x3) * ((2 : Int) ^ (min (Int.toNat bits) 64)))) (4294967296 : Int))))
          else
          none
        else
        none
      else
      none
    else
    none
  else
  (some (out1, outs))
def Lbig_shift_0 (k n : Nat) : Int → Nat → List Int → Int → Int → List Int → Option (Nat × List Int) := Nat.rec (fun _ _ _ _ _ _ => none) (fun _ r => Lbig_shift_0s k r) n
def bbig_shift (k : Nat) (a : List Int) (bits : Int) : Option (Nat × List Int) :=
  if (((0 : Int) ≤ (IntKind.wrap .i64 ((((List.length a) : Nat) : Int) + (1 : Int)))) ∧ (((IntKind.wrap .i64 ((((List.length a) : Nat) : Int) + (1 : Int))) ≤ (IntKind.wrap .i64 ((((List.length a) : Nat) : Int) + (1 : Int)))) ∧ (((IntKind.wrap .i64 ((((List.length a) : Nat) : Int) + (1 : Int))) * (4 : Int)) ≤ (140737488355328 : Int)))) then
    Option.bind (Lbig_shift_0 k k bits (Int.toNat (IntKind.wrap .i64 ((((List.length a) : Nat) : Int) + (1 : Int)))) a (((List.length a) : Nat) : Int) (0 : Int) (List.replicate (Int.toNat (IntKind.wrap .i64 ((((List.length a) : Nat) : Int) + (1 : Int)))) (0 : Int))) fun r6 =>
    (some (r6.1, r6.2))
  else
  none
def Fbig_shift : Nat → List Int → Int → Option (Nat × List Int)
  | 0, _, _ => none
  | k + 1, a, bits => bbig_shift k a bits
def shbig_shift : FS := { vs := [.a (.lf (.sl (.int .u32))), .a (.lf (.int .u64))], bs := [] }
def rsbig_shift : List FS := [{ vs := [.a (.smz 0)], bs := [.arr (.int .u32) 1 72 false] }]
def Ibig_shift (k : Nat) : Inst := ⟨125, shbig_shift, rsbig_shift, fun x => Fbig_shift k x.1 x.2⟩
theorem albig_shift (k : Nat) : AllI (call cf k) [] := True.intro
def hsbig_shift_0 : List SS := [{ fr := [(1, .a (.lf (.int .u64))), (5, .a (.smz 0)), (13, .a (.lf (.sl (.int .u32)))), (14, .a (.lf (.int .i64))), (15, .a (.lf (.int .i64)))], mem := [(0, some (.arr (.int .u32) 1 72 false))], nx := 1 }]
def osbig_shift_0 : List OS := [⟨some 0, { fr := [(5, .a (.smz 0))], mem := [(0, some (.arr (.int .u32) 1 72 false))], nx := 1 }⟩]
def LIbig_shift_0 (k : Nat) : LInst := ⟨0, hsbig_shift_0, osbig_shift_0, fun x => Lbig_shift_0 k k x.1 x.2.1 x.2.2.1 x.2.2.2.1 x.2.2.2.2.1 x.2.2.2.2.2⟩
theorem anbig_shift_0 (k : Nat) : LAll (LOk (R := DS OS.D osbig_shift_0) (fun b _ σ K => LOt Ty (kps 125) 0 b σ K []) cf (call cf k) (kps 125) Try.f125.ntmps k 0) 0 (lb Try.f125 0) :=
  And.intro (True.intro) (And.intro (And.intro (True.intro) (True.intro)) (And.intro (And.intro (True.intro) (And.intro (True.intro) (And.intro (True.intro) (True.intro)))) (True.intro)))
theorem stbig_shift_0 (k n : Nat) (x : DS SS.D hsbig_shift_0) : Lbig_shift_0 k (n + 1) x.1 x.2.1 x.2.2.1 x.2.2.2.1 x.2.2.2.2.1 x.2.2.2.2.2 = encSK SS.enc (fun σ => run2 cf (fun f a b K => COt f a b K []) (fun b _ σ K => LOt Ty (kps 125) 0 b σ K []) Try.f125.ntmps 0 (lb Try.f125 0) σ (nextK Ty (kps 125 0) 0 hsbig_shift_0 osbig_shift_0 fun x => Lbig_shift_0 k n x.1 x.2.1 x.2.2.1 x.2.2.2.1 x.2.2.2.2.1 x.2.2.2.2.2)) hsbig_shift_0 x := by kernel_rfl
theorem lobig_shift_0 (k : Nat) : LIOk cf (call cf k) (kps 125) Try.f125.ntmps k 0 0 (lb Try.f125 0) (LIbig_shift_0 k) :=
  loop_ok (c := cf) (callF := call cf k) (kp := kps 125) (nt := Try.f125.ntmps) (k := k) (p := 0) (b := 0) (x0 := lb Try.f125 0) (hs := hsbig_shift_0) (os := osbig_shift_0) (COt_ok (albig_shift k)) (anbig_shift_0 k) (fun n x => Lbig_shift_0 k n x.1 x.2.1 x.2.2.1 x.2.2.2.1 x.2.2.2.2.1 x.2.2.2.2.2) (fun _ => rfl) (stbig_shift_0 k)
theorem anbig_shift (k : Nat) : LAll (LOk (R := DS FS.D rsbig_shift) (fun b _ σ K => LOt Ty (kps 125) 0 b σ K [LIbig_shift_0 k]) cf (call cf k) (cf.keep 125) Try.f125.ntmps k shbig_shift.bs.length) 0 (bd Try.f125) :=
  And.intro (True.intro) (And.intro (True.intro) (And.intro (And.intro (True.intro) (LOt_ok (c := cf) (callF := call cf k) (kp := kps 125) (nt := Try.f125.ntmps) (k := k) (p := 0) (b := 0) (x0 := lb Try.f125 0) (l := [LIbig_shift_0 k]) (And.intro (fun _ => lobig_shift_0 k) (True.intro)))) (And.intro (True.intro) (True.intro))))
theorem stbig_shift (k : Nat) (x : shbig_shift.D) : Fbig_shift (k + 1) x.1 x.2 = body2 cf (fun f a b K => COt f a b K []) (fun b _ σ K => LOt Ty (kps 125) 0 b σ K [LIbig_shift_0 k]) 125 Try.f125.ntmps Try.f125.results.toList (bd Try.f125) (shbig_shift.enc x).1 (shbig_shift.enc x).2 (putS FS.dec rsbig_shift) := by kernel_rfl
theorem okbig_shift : ∀ k, InstOk (call cf k) (Ibig_shift k)
  | 0 => fun x y e => absurd (show (none : Option _) = some y from e) (by simp)
  | k + 1 => inst_ok (c := cf) (k := k) (f := 125) (fn := Try.f125) (body := bd Try.f125) (sh := shbig_shift) (os := rsbig_shift) rfl Try.func125 rfl ⟨rfl, Nat.le_of_ble_eq_true rfl⟩ (COt_ok (albig_shift k)) (anbig_shift k) (fun x => Fbig_shift (k + 1) x.1 x.2) (stbig_shift k)

/-! shunt/big.take -/
def Lbig_take_zvq_0s (k : Nat) (rec : Nat → Nat → Nat → Int → Int → Int → Int → Int → List Int → List Int → Option (Nat × Nat × Nat × Int × Int × List Int × List Int)) (u0 : Nat) (u1 : Nat) (v : Nat) (d : Int) (carry : Int) (borrow : Int) (x : Int) (x1 : Int) (us : List Int) (vs : List Int) : Option (Nat × Nat × Nat × Int × Int × List Int × List Int) :=
  if ((decide (x1 < x)) = true) then
    if ((decide (x1 < ((v : Nat) : Int))) = true) then
      if (((0 : Int) ≤ x1) ∧ (x1 < ((v : Nat) : Int))) then
        Option.bind (vs)[(0 + (Int.toNat x1))]? fun x6 =>
        if (((0 : Int) ≤ x1) ∧ (x1 < ((u1 : Nat) : Int))) then
          Option.bind (us)[(u0 + (Int.toNat x1))]? fun x7 =>
          if ((decide ((IntKind.wrap .u64 x7) < (IntKind.wrap .u64 ((IntKind.wrap .u64 (((BitVec.toNat ((BitVec.ofInt 64 (IntKind.wrap .u64 (carry + (IntKind.wrap .u64 (d * (IntKind.wrap .u64 x6)))))) &&& (BitVec.ofInt 64 (4294967295 : Int)))) : Nat) : Int)) + borrow)))) = true) then
            if (((0 : Int) ≤ x1) ∧ (x1 < ((u1 : Nat) : Int))) then
              Option.bind (us)[(u0 + (Int.toNat x1))]? fun x8 =>
              if (((0 : Int) ≤ x1) ∧ (x1 < ((u1 : Nat) : Int))) then
                Option.bind (us)[(u0 + (Int.toNat x1))]? fun x9 =>
                rec u0 u1 v d (Int.fdiv (IntKind.wrap .u64 (carry + (IntKind.wrap .u64 (d * (IntKind.wrap .u64 x6))))) (4294967296 : Int)) (1 : Int) x (IntKind.wrap .i64 (x1 + (1 : Int))) (List.set us (u0 + (Int.toNat x1)) (IntKind.wrap .u32 (IntKind.wrap .u64 ((IntKind.wrap .u64 x8) - (IntKind.wrap .u64 ((IntKind.wrap .u64 (((BitVec.toNat ((BitVec.ofInt 64 (IntKind.wrap .u64 (carry + (IntKind.wrap .u64 (d * (IntKind.wrap .u64 x6)))))) &&& (BitVec.ofInt 64 (4294967295 : Int)))) : Nat) : Int)) + borrow)))))) vs
              else
              none
            else
            none
          else
          if (((0 : Int) ≤ x1) ∧ (x1 < ((u1 : Nat) : Int))) then
            Option.bind (us)[(u0 + (Int.toNat x1))]? fun x8 =>
            if (((0 : Int) ≤ x1) ∧ (x1 < ((u1 : Nat) : Int))) then
              Option.bind (us)[(u0 + (Int.toNat x1))]? fun x9 =>
              rec u0 u1 v d (Int.fdiv (IntKind.wrap .u64 (carry + (IntKind.wrap .u64 (d * (IntKind.wrap .u64 x6))))) (4294967296 : Int)) (0 : Int) x (IntKind.wrap .i64 (x1 + (1 : Int))) (List.set us (u0 + (Int.toNat x1)) (IntKind.wrap .u32 (IntKind.wrap .u64 ((IntKind.wrap .u64 x8) - (IntKind.wrap .u64 ((IntKind.wrap .u64 (((BitVec.toNat ((BitVec.ofInt 64 (IntKind.wrap .u64 (carry + (IntKind.wrap .u64 (d * (IntKind.wrap .u64 x6)))))) &&& (BitVec.ofInt 64 (4294967295 : Int)))) : Nat) : Int)) + borrow)))))) vs
            else
            none
          else
          none
        else
        none
      else
      none
    else
    if (((0 : Int) ≤ x1) ∧ (x1 < ((u1 : Nat) : Int))) then
      Option.bind (us)[(u0 + (Int.toNat x1))]? fun x6 =>
      if ((decide ((IntKind.wrap .u64 x6) < (IntKind.wrap .u64 ((IntKind.wrap .u64 (((BitVec.toNat ((BitVec.ofInt 64 carry) &&& (BitVec.ofInt 64 (4294967295 : Int)))) : Nat) : Int)) + borrow)))) = true) then
        if (((0 : Int) ≤ x1) ∧ (x1 < ((u1 : Nat) : Int))) then
          Option.bind (us)[(u0 + (Int.toNat x1))]? fun x7 =>
          if (((0 : Int) ≤ x1) ∧ (x1 < ((u1 : Nat) : Int))) then
            Option.bind (us)[(u0 + (Int.toNat x1))]? fun x8 =>
            rec u0 u1 v d (Int.fdiv carry (4294967296 : Int)) (1 : Int) x (IntKind.wrap .i64 (x1 + (1 : Int))) (List.set us (u0 + (Int.toNat x1)) (IntKind.wrap .u32 (IntKind.wrap .u64 ((IntKind.wrap .u64 x7) - (IntKind.wrap .u64 ((IntKind.wrap .u64 (((BitVec.toNat ((BitVec.ofInt 64 carry) &&& (BitVec.ofInt 64 (4294967295 : Int)))) : Nat) : Int)) + borrow)))))) vs
          else
          none
        else
        none
      else
      if (((0 : Int) ≤ x1) ∧ (x1 < ((u1 : Nat) : Int))) then
        Option.bind (us)[(u0 + (Int.toNat x1))]? fun x7 =>
        if (((0 : Int) ≤ x1) ∧ (x1 < ((u1 : Nat) : Int))) then
          Option.bind (us)[(u0 + (Int.toNat x1))]? fun x8 =>
          rec u0 u1 v d (Int.fdiv carry (4294967296 : Int)) (0 : Int) x (IntKind.wrap .i64 (x1 + (1 : Int))) (List.set us (u0 + (Int.toNat x1)) (IntKind.wrap .u32 (IntKind.wrap .u64 ((IntKind.wrap .u64 x7) - (IntKind.wrap .u64 ((IntKind.wrap .u64 (((BitVec.toNat ((BitVec.ofInt 64 carry) &&& (BitVec.ofInt 64 (4294967295 : Int)))) : Nat) : Int)) + borrow)))))) vs
        else
        none
      else
      none
    else
    none
  else
  (some (u0, u1, v, d, borrow, us, vs))
def Lbig_take_zvq_0 (k n : Nat) : Nat → Nat → Nat → Int → Int → Int → Int → Int → List Int → List Int → Option (Nat × Nat × Nat × Int × Int × List Int × List Int) := Nat.rec (fun _ _ _ _ _ _ _ _ _ _ => none) (fun _ r => Lbig_take_zvq_0s k r) n
def Lbig_take_zvq_2s (k : Nat) (rec : Nat → Nat → Nat → Int → Int → Int → Int → List Int → List Int → Option (Int × List Int × List Int)) (u0 : Nat) (u1 : Nat) (v : Nat) (d : Int) (carry : Int) (x : Int) (x1 : Int) (us : List Int) (vs : List Int) : Option (Int × List Int × List Int) :=
  if ((decide (x1 < x)) = true) then
    if (((0 : Int) ≤ x1) ∧ (x1 < ((u1 : Nat) : Int))) then
      Option.bind (us)[(u0 + (Int.toNat x1))]? fun x6 =>
      if ((decide (x1 < ((v : Nat) : Int))) = true) then
        if (((0 : Int) ≤ x1) ∧ (x1 < ((v : Nat) : Int))) then
          Option.bind (vs)[(0 + (Int.toNat x1))]? fun x7 =>
          if (((0 : Int) ≤ x1) ∧ (x1 < ((u1 : Nat) : Int))) then
            Option.bind (us)[(u0 + (Int.toNat x1))]? fun x8 =>
            rec u0 u1 v d (Int.fdiv (IntKind.wrap .u64 ((IntKind.wrap .u64 ((IntKind.wrap .u64 x6) + carry)) + (IntKind.wrap .u64 x7))) (4294967296 : Int)) x (IntKind.wrap .i64 (x1 + (1 : Int))) (List.set us (u0 + (Int.toNat x1)) (IntKind.wrap .u32 (IntKind.wrap .u64 ((IntKind.wrap .u64 ((IntKind.wrap .u64 x6) + carry)) + (IntKind.wrap .u64 x7))))) vs
          else
          none
        else
        none
      else
      if (((0 : Int) ≤ x1) ∧ (x1 < ((u1 : Nat) : Int))) then
        Option.bind (us)[(u0 + (Int.toNat x1))]? fun x7 =>
        rec u0 u1 v d (Int.fdiv (IntKind.wrap .u64 ((IntKind.wrap .u64 x6) + carry)) (4294967296 : Int)) x (IntKind.wrap .i64 (x1 + (1 : Int))) (List.set us (u0 + (Int.toNat x1)) (IntKind.wrap .u32 (IntKind.wrap .u64 ((IntKind.wrap .u64 x6) + carry)))) vs
      else
      none
    else
    none
  else
  (some (d, us, vs))
def Lbig_take_zvq_2 (k n : Nat) : Nat → Nat → Nat → Int → Int → Int → Int → List Int → List Int → Option (Int × List Int × List Int) := Nat.rec (fun _ _ _ _ _ _ _ _ _ => none) (fun _ r => Lbig_take_zvq_2s k r) n
def bbig_take_zvq (k : Nat) (u0 : Nat) (u1 : Nat) (v : Nat) (d : Int) (us : List Int) (vs : List Int) : Option (Int × List Int × List Int) :=
  Option.bind (Lbig_take_zvq_0 k k u0 u1 v d (0 : Int) (0 : Int) ((u1 : Nat) : Int) (0 : Int) us vs) fun r9 =>
  if ((r9.2.2.2.2.1 == (0 : Int)) = true) then
    (some ((IntKind.wrap .u32 r9.2.2.2.1), r9.2.2.2.2.2.1, r9.2.2.2.2.2.2))
  else
  Option.bind (Lbig_take_zvq_2 k k r9.1 r9.2.1 r9.2.2.1 r9.2.2.2.1 (0 : Int) ((r9.2.1 : Nat) : Int) (0 : Int) r9.2.2.2.2.2.1 r9.2.2.2.2.2.2) fun r10 =>
  (some ((IntKind.wrap .u32 (IntKind.wrap .u64 (r10.1 - (1 : Int)))), r10.2.1, r10.2.2))
def Fbig_take_zvq : Nat → Nat → Nat → Nat → Int → List Int → List Int → Option (Int × List Int × List Int)
  | 0, _, _, _, _, _, _ => none
  | k + 1, u0, u1, v, d, us, vs => bbig_take_zvq k u0 u1 v d us vs
def shbig_take_zvq : FS := { vs := [.a (.sms 0), .a (.smz 1), .a (.lf (.int .u64))], bs := [.arr (.int .u32) 1 72 false, .arr (.int .u32) 1 72 false] }
def rsbig_take_zvq : List FS := [{ vs := [.a (.lf (.int .u32))], bs := [.arr (.int .u32) 1 72 false, .arr (.int .u32) 1 72 false] }]
def Ibig_take_zvq (k : Nat) : Inst := ⟨126, shbig_take_zvq, rsbig_take_zvq, fun x => Fbig_take_zvq k x.1 x.2.1 x.2.2.1 x.2.2.2.1 x.2.2.2.2.1 x.2.2.2.2.2⟩
theorem albig_take_zvq (k : Nat) : AllI (call cf k) [] := True.intro
def hsbig_take_zvq_0 : List SS := [{ fr := [(0, .a (.sms 0)), (1, .a (.smz 1)), (2, .a (.lf (.int .u64))), (7, .a (.lf (.int .u64))), (8, .a (.lf (.int .u64))), (14, .a (.lf (.int .i64))), (15, .a (.lf (.int .i64)))], mem := [(0, some (.arr (.int .u32) 1 72 false)), (1, some (.arr (.int .u32) 1 72 false))], nx := 2 }]
def osbig_take_zvq_0 : List OS := [⟨some 0, { fr := [(0, .a (.sms 0)), (1, .a (.smz 1)), (2, .a (.lf (.int .u64))), (8, .a (.lf (.int .u64)))], mem := [(0, some (.arr (.int .u32) 1 72 false)), (1, some (.arr (.int .u32) 1 72 false))], nx := 2 }⟩]
def LIbig_take_zvq_0 (k : Nat) : LInst := ⟨0, hsbig_take_zvq_0, osbig_take_zvq_0, fun x => Lbig_take_zvq_0 k k x.1 x.2.1 x.2.2.1 x.2.2.2.1 x.2.2.2.2.1 x.2.2.2.2.2.1 x.2.2.2.2.2.2.1 x.2.2.2.2.2.2.2.1 x.2.2.2.2.2.2.2.2.1 x.2.2.2.2.2.2.2.2.2⟩
theorem anbig_take_zvq_0 (k : Nat) : LAll (LOk (R := DS OS.D osbig_take_zvq_0) (fun b _ σ K => LOt Ty (kps 126) 2 b σ K []) cf (call cf k) (kps 126) Try.f126.ntmps k 2) 0 (lb Try.f126 0) :=
  And.intro (True.intro) (And.intro (And.intro (True.intro) (True.intro)) (And.intro (And.intro (True.intro) (And.intro (And.intro (True.intro) (And.intro (True.intro) (True.intro))) (And.intro (True.intro) (And.intro (True.intro) (And.intro (And.intro (True.intro) (And.intro (True.intro) (True.intro))) (And.intro (True.intro) (True.intro))))))) (True.intro)))
theorem stbig_take_zvq_0 (k n : Nat) (x : DS SS.D hsbig_take_zvq_0) : Lbig_take_zvq_0 k (n + 1) x.1 x.2.1 x.2.2.1 x.2.2.2.1 x.2.2.2.2.1 x.2.2.2.2.2.1 x.2.2.2.2.2.2.1 x.2.2.2.2.2.2.2.1 x.2.2.2.2.2.2.2.2.1 x.2.2.2.2.2.2.2.2.2 = encSK SS.enc (fun σ => run2 cf (fun f a b K => COt f a b K []) (fun b _ σ K => LOt Ty (kps 126) 2 b σ K []) Try.f126.ntmps 0 (lb Try.f126 0) σ (nextK Ty (kps 126 0) 2 hsbig_take_zvq_0 osbig_take_zvq_0 fun x => Lbig_take_zvq_0 k n x.1 x.2.1 x.2.2.1 x.2.2.2.1 x.2.2.2.2.1 x.2.2.2.2.2.1 x.2.2.2.2.2.2.1 x.2.2.2.2.2.2.2.1 x.2.2.2.2.2.2.2.2.1 x.2.2.2.2.2.2.2.2.2)) hsbig_take_zvq_0 x := by kernel_rfl
theorem lobig_take_zvq_0 (k : Nat) : LIOk cf (call cf k) (kps 126) Try.f126.ntmps k 2 0 (lb Try.f126 0) (LIbig_take_zvq_0 k) :=
  loop_ok (c := cf) (callF := call cf k) (kp := kps 126) (nt := Try.f126.ntmps) (k := k) (p := 2) (b := 0) (x0 := lb Try.f126 0) (hs := hsbig_take_zvq_0) (os := osbig_take_zvq_0) (COt_ok (albig_take_zvq k)) (anbig_take_zvq_0 k) (fun n x => Lbig_take_zvq_0 k n x.1 x.2.1 x.2.2.1 x.2.2.2.1 x.2.2.2.2.1 x.2.2.2.2.2.1 x.2.2.2.2.2.2.1 x.2.2.2.2.2.2.2.1 x.2.2.2.2.2.2.2.2.1 x.2.2.2.2.2.2.2.2.2) (fun _ => rfl) (stbig_take_zvq_0 k)
def hsbig_take_zvq_2 : List SS := [{ fr := [(0, .a (.sms 0)), (1, .a (.smz 1)), (2, .a (.lf (.int .u64))), (7, .a (.lf (.int .u64))), (61, .a (.lf (.int .i64))), (62, .a (.lf (.int .i64)))], mem := [(0, some (.arr (.int .u32) 1 72 false)), (1, some (.arr (.int .u32) 1 72 false))], nx := 2 }]
def osbig_take_zvq_2 : List OS := [⟨some 2, { fr := [(2, .a (.lf (.int .u64)))], mem := [(0, some (.arr (.int .u32) 1 72 false)), (1, some (.arr (.int .u32) 1 72 false))], nx := 2 }⟩]
def LIbig_take_zvq_2 (k : Nat) : LInst := ⟨2, hsbig_take_zvq_2, osbig_take_zvq_2, fun x => Lbig_take_zvq_2 k k x.1 x.2.1 x.2.2.1 x.2.2.2.1 x.2.2.2.2.1 x.2.2.2.2.2.1 x.2.2.2.2.2.2.1 x.2.2.2.2.2.2.2.1 x.2.2.2.2.2.2.2.2⟩
theorem anbig_take_zvq_2 (k : Nat) : LAll (LOk (R := DS OS.D osbig_take_zvq_2) (fun b _ σ K => LOt Ty (kps 126) 2 b σ K [LIbig_take_zvq_0 k]) cf (call cf k) (kps 126) Try.f126.ntmps k 2) 2 (lb Try.f126 1) :=
  And.intro (True.intro) (And.intro (And.intro (True.intro) (True.intro)) (And.intro (And.intro (True.intro) (And.intro (True.intro) (And.intro (And.intro (True.intro) (And.intro (True.intro) (True.intro))) (And.intro (True.intro) (True.intro))))) (True.intro)))
theorem stbig_take_zvq_2 (k n : Nat) (x : DS SS.D hsbig_take_zvq_2) : Lbig_take_zvq_2 k (n + 1) x.1 x.2.1 x.2.2.1 x.2.2.2.1 x.2.2.2.2.1 x.2.2.2.2.2.1 x.2.2.2.2.2.2.1 x.2.2.2.2.2.2.2.1 x.2.2.2.2.2.2.2.2 = encSK SS.enc (fun σ => run2 cf (fun f a b K => COt f a b K []) (fun b _ σ K => LOt Ty (kps 126) 2 b σ K [LIbig_take_zvq_0 k]) Try.f126.ntmps 2 (lb Try.f126 1) σ (nextK Ty (kps 126 2) 2 hsbig_take_zvq_2 osbig_take_zvq_2 fun x => Lbig_take_zvq_2 k n x.1 x.2.1 x.2.2.1 x.2.2.2.1 x.2.2.2.2.1 x.2.2.2.2.2.1 x.2.2.2.2.2.2.1 x.2.2.2.2.2.2.2.1 x.2.2.2.2.2.2.2.2)) hsbig_take_zvq_2 x := by kernel_rfl
theorem lobig_take_zvq_2 (k : Nat) : LIOk cf (call cf k) (kps 126) Try.f126.ntmps k 2 2 (lb Try.f126 1) (LIbig_take_zvq_2 k) :=
  loop_ok (c := cf) (callF := call cf k) (kp := kps 126) (nt := Try.f126.ntmps) (k := k) (p := 2) (b := 2) (x0 := lb Try.f126 1) (hs := hsbig_take_zvq_2) (os := osbig_take_zvq_2) (COt_ok (albig_take_zvq k)) (anbig_take_zvq_2 k) (fun n x => Lbig_take_zvq_2 k n x.1 x.2.1 x.2.2.1 x.2.2.2.1 x.2.2.2.2.1 x.2.2.2.2.2.1 x.2.2.2.2.2.2.1 x.2.2.2.2.2.2.2.1 x.2.2.2.2.2.2.2.2) (fun _ => rfl) (stbig_take_zvq_2 k)
theorem anbig_take_zvq (k : Nat) : LAll (LOk (R := DS FS.D rsbig_take_zvq) (fun b _ σ K => LOt Ty (kps 126) 2 b σ K [LIbig_take_zvq_0 k, LIbig_take_zvq_2 k]) cf (call cf k) (cf.keep 126) Try.f126.ntmps k shbig_take_zvq.bs.length) 0 (bd Try.f126) :=
  And.intro (True.intro) (And.intro (True.intro) (And.intro (And.intro (True.intro) (LOt_ok (c := cf) (callF := call cf k) (kp := kps 126) (nt := Try.f126.ntmps) (k := k) (p := 2) (b := 0) (x0 := lb Try.f126 0) (l := [LIbig_take_zvq_0 k, LIbig_take_zvq_2 k]) (And.intro (fun _ => lobig_take_zvq_0 k) (And.intro (fun h => absurd (show (2 : Nat) = 0 from h) (by decide)) (True.intro))))) (And.intro (And.intro (True.intro) (And.intro (And.intro (True.intro) (True.intro)) (True.intro))) (And.intro (True.intro) (And.intro (And.intro (True.intro) (LOt_ok (c := cf) (callF := call cf k) (kp := kps 126) (nt := Try.f126.ntmps) (k := k) (p := 2) (b := 2) (x0 := lb Try.f126 1) (l := [LIbig_take_zvq_0 k, LIbig_take_zvq_2 k]) (And.intro (fun h => absurd (show (0 : Nat) = 2 from h) (by decide)) (And.intro (fun _ => lobig_take_zvq_2 k) (True.intro))))) (And.intro (True.intro) (True.intro)))))))
theorem stbig_take_zvq (k : Nat) (x : shbig_take_zvq.D) : Fbig_take_zvq (k + 1) x.1 x.2.1 x.2.2.1 x.2.2.2.1 x.2.2.2.2.1 x.2.2.2.2.2 = body2 cf (fun f a b K => COt f a b K []) (fun b _ σ K => LOt Ty (kps 126) 2 b σ K [LIbig_take_zvq_0 k, LIbig_take_zvq_2 k]) 126 Try.f126.ntmps Try.f126.results.toList (bd Try.f126) (shbig_take_zvq.enc x).1 (shbig_take_zvq.enc x).2 (putS FS.dec rsbig_take_zvq) := by kernel_rfl
theorem okbig_take_zvq : ∀ k, InstOk (call cf k) (Ibig_take_zvq k)
  | 0 => fun x y e => absurd (show (none : Option _) = some y from e) (by simp)
  | k + 1 => inst_ok (c := cf) (k := k) (f := 126) (fn := Try.f126) (body := bd Try.f126) (sh := shbig_take_zvq) (os := rsbig_take_zvq) rfl Try.func126 rfl ⟨rfl, Nat.le_of_ble_eq_true rfl⟩ (COt_ok (albig_take_zvq k)) (anbig_take_zvq k) (fun x => Fbig_take_zvq (k + 1) x.1 x.2.1 x.2.2.1 x.2.2.2.1 x.2.2.2.2.1 x.2.2.2.2.2) (stbig_take_zvq k)

/-! shunt/big.long -/
def Lbig_long_0s (k : Nat) (rec : List Int → List Int → Int → Option (List Int × List Int × Int)) (a : List Int) (b : List Int) (bits : Int) : Option (List Int × List Int × Int) :=
  if ((0 : Int) ≤ (IntKind.wrap .i64 ((((List.length b) : Nat) : Int) - (1 : Int)))) then
    Option.bind (b)[(Int.toNat (IntKind.wrap .i64 ((((List.length b) : Nat) : Int) - (1 : Int))))]? fun x2 =>
    if (bits < (0 : Int)) then
      none
    else
    if (((Int.fdiv (IntKind.wrap .u32 (x2 * ((2 : Int) ^ (min (Int.toNat bits) 32)))) (2147483648 : Int)) == (0 : Int)) = true) then
      rec a b (IntKind.wrap .u64 (bits + (1 : Int)))
    else
    (some (a, b, bits))
  else
  none
def Lbig_long_0 (k n : Nat) : List Int → List Int → Int → Option (List Int × List Int × Int) := Nat.rec (fun _ _ _ => none) (fun _ r => Lbig_long_0s k r) n
def Lbig_long_4s (k : Nat) (rec : Nat → Int → Int → Nat → Nat → Int → Int → Int → List Int → List Int → List Int → Option (Nat × Int × Int × Nat × Nat × Int × Int × List Int × List Int × List Int)) (q : Nat) (bits : Int) (n : Int) (u : Nat) (v : Nat) (j : Int) (d : Int) (rest : Int) (qs : List Int) (us : List Int) (vs : List Int) : Option (Nat × Int × Int × Nat × Nat × Int × Int × List Int × List Int × List Int) :=
  if ((decide (d > (4294967295 : Int))) = false) then
    if ((decide (rest ≤ (4294967295 : Int))) = true) then
      if (((0 : Int) ≤ (IntKind.wrap .i64 (n - (2 : Int)))) ∧ ((IntKind.wrap .i64 (n - (2 : Int))) < ((v : Nat) : Int))) then
        Option.bind (vs)[(0 + (Int.toNat (IntKind.wrap .i64 (n - (2 : Int)))))]? fun x6 =>
        if (((0 : Int) ≤ (IntKind.wrap .i64 ((IntKind.wrap .i64 (j + n)) - (2 : Int)))) ∧ ((IntKind.wrap .i64 ((IntKind.wrap .i64 (j + n)) - (2 : Int))) < ((u : Nat) : Int))) then
          Option.bind (us)[(0 + (Int.toNat (IntKind.wrap .i64 ((IntKind.wrap .i64 (j + n)) - (2 : Int)))))]? fun x7 =>
          if ((decide ((IntKind.wrap .u64 (d * (IntKind.wrap .u64 x6))) > (IntKind.wrap .u64 (((BitVec.toNat ((BitVec.ofInt 64 (IntKind.wrap .u64 (rest * (4294967296 : Int)))) ||| (BitVec.ofInt 64 (IntKind.wrap .u64 x7)))) : Nat) : Int)))) = true) then
            if (((0 : Int) ≤ (IntKind.wrap .i64 (n - (1 : Int)))) ∧ ((IntKind.wrap .i64 (n - (1 : Int))) < ((v : Nat) : Int))) then
              Option.bind (vs)[(0 + (Int.toNat (IntKind.wrap .i64 (n - (1 : Int)))))]? fun x8 =>
              if ((decide ((IntKind.wrap .u64 (rest + (IntKind.wrap .u64 x8))) > (4294967295 : Int))) = true) then
                (some (q, bits, n, u, v, j, (IntKind.wrap .u64 (d - (1 : Int))), qs, us, vs))
              else
              rec q bits n u v j (IntKind.wrap .u64 (d - (1 : Int))) (IntKind.wrap .u64 (rest + (IntKind.wrap .u64 x8))) qs us vs
            else
            none
          else
          (some (q, bits, n, u, v, j, d, qs, us, vs))
        else
        none
      else
      none
    else
    (some (q, bits, n, u, v, j, d, qs, us, vs))
  else
  if (((0 : Int) ≤ (IntKind.wrap .i64 (n - (1 : Int)))) ∧ ((IntKind.wrap .i64 (n - (1 : Int))) < ((v : Nat) : Int))) then
    Option.bind (vs)[(0 + (Int.toNat (IntKind.wrap .i64 (n - (1 : Int)))))]? fun x6 =>
    if ((decide ((IntKind.wrap .u64 (rest + (IntKind.wrap .u64 x6))) > (4294967295 : Int))) = true) then
      (some (q, bits, n, u, v, j, (IntKind.wrap .u64 (d - (1 : Int))), qs, us, vs))
    else
    rec q bits n u v j (IntKind.wrap .u64 (d - (1 : Int))) (IntKind.wrap .u64 (rest + (IntKind.wrap .u64 x6))) qs us vs
  else
  none
def Lbig_long_4 (k n : Nat) : Nat → Int → Int → Nat → Nat → Int → Int → Int → List Int → List Int → List Int → Option (Nat × Int × Int × Nat × Nat × Int × Int × List Int × List Int × List Int) := Nat.rec (fun _ _ _ _ _ _ _ _ _ _ _ => none) (fun _ r => Lbig_long_4s k r) n
def Lbig_long_2s (k : Nat) (rec : Nat → Int → Int → Nat → Nat → Int → List Int → List Int → List Int → Option (Nat × Int × Int × Nat × List Int × List Int × List Int)) (q : Nat) (bits : Int) (n : Int) (u : Nat) (v : Nat) (j : Int) (qs : List Int) (us : List Int) (vs : List Int) : Option (Nat × Int × Int × Nat × List Int × List Int × List Int) :=
  if ((decide (j ≥ (0 : Int))) = true) then
    if (((0 : Int) ≤ (IntKind.wrap .i64 (j + n))) ∧ ((IntKind.wrap .i64 (j + n)) < ((u : Nat) : Int))) then
      Option.bind (us)[(0 + (Int.toNat (IntKind.wrap .i64 (j + n))))]? fun x2 =>
      if (((0 : Int) ≤ (IntKind.wrap .i64 ((IntKind.wrap .i64 (j + n)) - (1 : Int)))) ∧ ((IntKind.wrap .i64 ((IntKind.wrap .i64 (j + n)) - (1 : Int))) < ((u : Nat) : Int))) then
        Option.bind (us)[(0 + (Int.toNat (IntKind.wrap .i64 ((IntKind.wrap .i64 (j + n)) - (1 : Int)))))]? fun x3 =>
        if (((0 : Int) ≤ (IntKind.wrap .i64 (n - (1 : Int)))) ∧ ((IntKind.wrap .i64 (n - (1 : Int))) < ((v : Nat) : Int))) then
          Option.bind (vs)[(0 + (Int.toNat (IntKind.wrap .i64 (n - (1 : Int)))))]? fun x4 =>
          if ((IntKind.wrap .u64 x4) = (0 : Int)) then
            none
          else
          if (((0 : Int) ≤ (IntKind.wrap .i64 (n - (1 : Int)))) ∧ ((IntKind.wrap .i64 (n - (1 : Int))) < ((v : Nat) : Int))) then
            Option.bind (vs)[(0 + (Int.toNat (IntKind.wrap .i64 (n - (1 : Int)))))]? fun x5 =>
            if ((IntKind.wrap .u64 x5) = (0 : Int)) then
              none
            else
            Option.bind (Lbig_long_4 k k q bits n u v j (IntKind.wrap .u64 (Int.tdiv (IntKind.wrap .u64 (((BitVec.toNat ((BitVec.ofInt 64 (IntKind.wrap .u64 ((IntKind.wrap .u64 x2) * (4294967296 : Int)))) ||| (BitVec.ofInt 64 (IntKind.wrap .u64 x3)))) : Nat) : Int)) (IntKind.wrap .u64 x4))) (Int.tmod (IntKind.wrap .u64 (((BitVec.toNat ((BitVec.ofInt 64 (IntKind.wrap .u64 ((IntKind.wrap .u64 x2) * (4294967296 : Int)))) ||| (BitVec.ofInt 64 (IntKind.wrap .u64 x3)))) : Nat) : Int)) (IntKind.wrap .u64 x5)) qs us vs) fun r8 =>
            if (((0 : Int) ≤ r8.2.2.2.2.2.1) ∧ ((r8.2.2.2.2.2.1 ≤ (IntKind.wrap .i64 ((IntKind.wrap .i64 (r8.2.2.2.2.2.1 + r8.2.2.1)) + (1 : Int)))) ∧ (((0 + (Int.toNat (IntKind.wrap .i64 ((IntKind.wrap .i64 (r8.2.2.2.2.2.1 + r8.2.2.1)) + (1 : Int))))) ≤ (List.length r8.2.2.2.2.2.2.2.2.1)) ∧ ((r8.2.2.2.2.2.1 < (IntKind.wrap .i64 ((IntKind.wrap .i64 (r8.2.2.2.2.2.1 + r8.2.2.1)) + (1 : Int)))) ∨ (false = true))))) then
              Option.bind (Fbig_take_zvq k (0 + (Int.toNat r8.2.2.2.2.2.1)) ((Int.toNat (IntKind.wrap .i64 ((IntKind.wrap .i64 (r8.2.2.2.2.2.1 + r8.2.2.1)) + (1 : Int)))) - (Int.toNat r8.2.2.2.2.2.1)) r8.2.2.2.2.1 r8.2.2.2.2.2.2.1 r8.2.2.2.2.2.2.2.2.1 r8.2.2.2.2.2.2.2.2.2) fun r9 =>
              if (((0 : Int) ≤ r8.2.2.2.2.2.1) ∧ (r8.2.2.2.2.2.1 < ((r8.1 : Nat) : Int))) then
                Option.bind (r8.2.2.2.2.2.2.2.1)[(0 + (Int.toNat r8.2.2.2.2.2.1))]? fun x6 =>
                rec r8.1 r8.2.1 r8.2.2.1 r8.2.2.2.1 r8.2.2.2.2.1 (IntKind.wrap .i64 (r8.2.2.2.2.2.1 - (1 : Int))) (List.set r8.2.2.2.2.2.2.2.1 (0 + (Int.toNat r8.2.2.2.2.2.1)) r9.1) r9.2.1 r9.2.2
              else
              none
            else
            none
          else
          none
        else
        none
      else
      none
    else
    none
  else
  (some (q, bits, n, u, qs, us, vs))
def Lbig_long_2 (k n : Nat) : Nat → Int → Int → Nat → Nat → Int → List Int → List Int → List Int → Option (Nat × Int × Int × Nat × List Int × List Int × List Int) := Nat.rec (fun _ _ _ _ _ _ _ _ _ => none) (fun _ r => Lbig_long_2s k r) n
def Lbig_long_6s (k : Nat) (rec : Nat → Nat → Int → Nat → Int → Int → List Int → List Int → List Int → Option (Nat × Nat × List Int × List Int × List Int)) (q : Nat) (r : Nat) (bits : Int) (u : Nat) (x : Int) (x1 : Int) (qs : List Int) (rs : List Int) (us : List Int) : Option (Nat × Nat × List Int × List Int × List Int) :=
  if ((decide (x1 < x)) = true) then
    if (((0 : Int) ≤ x1) ∧ (x1 < ((u : Nat) : Int))) then
      Option.bind (us)[(0 + (Int.toNat x1))]? fun x2 =>
      if (bits < (0 : Int)) then
        none
      else
      if (((0 : Int) ≤ (IntKind.wrap .i64 (x1 + (1 : Int)))) ∧ ((IntKind.wrap .i64 (x1 + (1 : Int))) < ((u : Nat) : Int))) then
        Option.bind (us)[(0 + (Int.toNat (IntKind.wrap .i64 (x1 + (1 : Int)))))]? fun x3 =>
        if ((IntKind.wrap .u64 ((32 : Int) - bits)) < (0 : Int)) then
          none
        else
        if (((0 : Int) ≤ x1) ∧ (x1 < ((r : Nat) : Int))) then
          Option.bind (rs)[(0 + (Int.toNat x1))]? fun x4 =>
          rec q r bits u x (IntKind.wrap .i64 (x1 + (1 : Int))) qs (List.set rs (0 + (Int.toNat x1)) (IntKind.wrap .u32 (((BitVec.toNat ((BitVec.ofInt 32 (Int.fdiv x2 ((2 : Int) ^ (min (Int.toNat bits) 32)))) ||| (BitVec.ofInt 32 (IntKind.wrap .u32 (IntKind.wrap .u64 ((IntKind.wrap .u64 x3) * ((2 : Int) ^ (min (Int.toNat (IntKind.wrap .u64 ((32 : Int) - bits))) 64)))))))) : Nat) : Int))) us
        else
        none
      else
      none
    else
    none
  else
  (some (q, r, qs, rs, us))
def Lbig_long_6 (k n : Nat) : Nat → Nat → Int → Nat → Int → Int → List Int → List Int → List Int → Option (Nat × Nat × List Int × List Int × List Int) := Nat.rec (fun _ _ _ _ _ _ _ _ _ => none) (fun _ r => Lbig_long_6s k r) n
def bbig_long (k : Nat) (a : List Int) (b : List Int) : Option (List Int × List Int) :=
  Option.bind (Lbig_long_0 k k a b (0 : Int)) fun r5 =>
  Option.bind (Fbig_shift k r5.1 r5.2.2) fun r6 =>
  Option.bind (Fbig_shift k r5.2.1 r5.2.2) fun r7 =>
  if (((0 : Int) ≤ (0 : Int)) ∧ (((0 : Int) ≤ (((List.length r5.2.1) : Nat) : Int)) ∧ (((0 + (Int.toNat (((List.length r5.2.1) : Nat) : Int))) ≤ (List.length r7.2)) ∧ (((0 : Int) < (((List.length r5.2.1) : Nat) : Int)) ∨ (true = true))))) then
    if (((0 : Int) ≤ (IntKind.wrap .i64 (((r6.1 : Nat) : Int) - (((List.length r5.2.1) : Nat) : Int)))) ∧ (((IntKind.wrap .i64 (((r6.1 : Nat) : Int) - (((List.length r5.2.1) : Nat) : Int))) ≤ (IntKind.wrap .i64 (((r6.1 : Nat) : Int) - (((List.length r5.2.1) : Nat) : Int)))) ∧ (((IntKind.wrap .i64 (((r6.1 : Nat) : Int) - (((List.length r5.2.1) : Nat) : Int))) * (4 : Int)) ≤ (140737488355328 : Int)))) then
      Option.bind (Lbig_long_2 k k (Int.toNat (IntKind.wrap .i64 (((r6.1 : Nat) : Int) - (((List.length r5.2.1) : Nat) : Int)))) r5.2.2 (((List.length r5.2.1) : Nat) : Int) r6.1 (Int.toNat (((List.length r5.2.1) : Nat) : Int)) (IntKind.wrap .i64 ((IntKind.wrap .i64 (((r6.1 : Nat) : Int) - (((List.length r5.2.1) : Nat) : Int))) - (1 : Int))) (List.replicate (Int.toNat (IntKind.wrap .i64 (((r6.1 : Nat) : Int) - (((List.length r5.2.1) : Nat) : Int)))) (0 : Int)) r6.2 r7.2) fun r8 =>
      if (((0 : Int) ≤ r8.2.2.1) ∧ ((r8.2.2.1 ≤ r8.2.2.1) ∧ ((r8.2.2.1 * (4 : Int)) ≤ (140737488355328 : Int)))) then
        Option.bind (Lbig_long_6 k k r8.1 (Int.toNat r8.2.2.1) r8.2.1 r8.2.2.2.1 r8.2.2.1 (0 : Int) r8.2.2.2.2.1 (List.replicate (Int.toNat r8.2.2.1) (0 : Int)) r8.2.2.2.2.2.1) fun r9 =>
        if ((0 + r9.1) ≤ (List.length r9.2.2.1)) then
          if ((0 + r9.2.1) ≤ (List.length r9.2.2.2.1)) then
            (some ((List.take r9.1 r9.2.2.1), (List.take r9.2.1 r9.2.2.2.1)))
          else
          none
        else
        none
      else
      none
    else
    none
  else
  none
def Fbig_long : Nat → List Int → List Int → Option (List Int × List Int)
  | 0, _, _ => none
  | k + 1, a, b => bbig_long k a b
def shbig_long : FS := { vs := [.a (.lf (.sl (.int .u32))), .a (.lf (.sl (.int .u32)))], bs := [] }
def rsbig_long : List FS := [{ vs := [.a (.lf (.sl (.int .u32))), .a (.lf (.sl (.int .u32)))], bs := [] }]
def Ibig_long (k : Nat) : Inst := ⟨124, shbig_long, rsbig_long, fun x => Fbig_long k x.1 x.2⟩
theorem albig_long (k : Nat) : AllI (call cf k) [Ibig_shift k, Ibig_take_zvq k] := And.intro (okbig_shift k) (And.intro (okbig_take_zvq k) (True.intro))
def hsbig_long_0 : List SS := [{ fr := [(0, .a (.lf (.sl (.int .u32)))), (1, .a (.lf (.sl (.int .u32)))), (6, .a (.lf (.int .u64)))], mem := [], nx := 0 }]
def osbig_long_0 : List OS := [⟨some 0, { fr := [(0, .a (.lf (.sl (.int .u32)))), (1, .a (.lf (.sl (.int .u32)))), (6, .a (.lf (.int .u64)))], mem := [], nx := 0 }⟩]
def LIbig_long_0 (k : Nat) : LInst := ⟨0, hsbig_long_0, osbig_long_0, fun x => Lbig_long_0 k k x.1 x.2.1 x.2.2⟩
theorem anbig_long_0 (k : Nat) : LAll (LOk (R := DS OS.D osbig_long_0) (fun b _ σ K => LOt Ty (kps 124) 0 b σ K []) cf (call cf k) (kps 124) Try.f124.ntmps k 0) 0 (lb Try.f124 0) :=
  And.intro (And.intro (True.intro) (And.intro (True.intro) (True.intro))) (True.intro)
theorem stbig_long_0 (k n : Nat) (x : DS SS.D hsbig_long_0) : Lbig_long_0 k (n + 1) x.1 x.2.1 x.2.2 = encSK SS.enc (fun σ => run2 cf (fun f a b K => COt f a b K [Ibig_shift k, Ibig_take_zvq k]) (fun b _ σ K => LOt Ty (kps 124) 0 b σ K []) Try.f124.ntmps 0 (lb Try.f124 0) σ (nextK Ty (kps 124 0) 0 hsbig_long_0 osbig_long_0 fun x => Lbig_long_0 k n x.1 x.2.1 x.2.2)) hsbig_long_0 x := by kernel_rfl
theorem lobig_long_0 (k : Nat) : LIOk cf (call cf k) (kps 124) Try.f124.ntmps k 0 0 (lb Try.f124 0) (LIbig_long_0 k) :=
  loop_ok (c := cf) (callF := call cf k) (kp := kps 124) (nt := Try.f124.ntmps) (k := k) (p := 0) (b := 0) (x0 := lb Try.f124 0) (hs := hsbig_long_0) (os := osbig_long_0) (COt_ok (albig_long k)) (anbig_long_0 k) (fun n x => Lbig_long_0 k n x.1 x.2.1 x.2.2) (fun _ => rfl) (stbig_long_0 k)
def hsbig_long_4 : List SS := [{ fr := [(4, .a (.smz 0)), (6, .a (.lf (.int .u64))), (7, .a (.lf (.int .i64))), (8, .a (.smz 1)), (9, .a (.smz 2)), (10, .a (.lf (.int .i64))), (12, .a (.lf (.int .u64))), (13, .a (.lf (.int .u64)))], mem := [(0, some (.arr (.int .u32) 1 72 false)), (1, some (.arr (.int .u32) 1 72 false)), (2, some (.arr (.int .u32) 1 72 false))], nx := 3 }]
def osbig_long_4 : List OS := [⟨some 4, { fr := [(4, .a (.smz 0)), (6, .a (.lf (.int .u64))), (7, .a (.lf (.int .i64))), (8, .a (.smz 1)), (9, .a (.smz 2)), (10, .a (.lf (.int .i64))), (12, .a (.lf (.int .u64)))], mem := [(0, some (.arr (.int .u32) 1 72 false)), (1, some (.arr (.int .u32) 1 72 false)), (2, some (.arr (.int .u32) 1 72 false))], nx := 3 }⟩]
def LIbig_long_4 (k : Nat) : LInst := ⟨4, hsbig_long_4, osbig_long_4, fun x => Lbig_long_4 k k x.1 x.2.1 x.2.2.1 x.2.2.2.1 x.2.2.2.2.1 x.2.2.2.2.2.1 x.2.2.2.2.2.2.1 x.2.2.2.2.2.2.2.1 x.2.2.2.2.2.2.2.2.1 x.2.2.2.2.2.2.2.2.2.1 x.2.2.2.2.2.2.2.2.2.2⟩
theorem anbig_long_4 (k : Nat) : LAll (LOk (R := DS OS.D osbig_long_4) (fun b _ σ K => LOt Ty (kps 124) 0 b σ K [LIbig_long_0 k]) cf (call cf k) (kps 124) Try.f124.ntmps k 0) 4 (lb Try.f124 2) :=
  And.intro (And.intro (True.intro) (And.intro (True.intro) (True.intro))) (And.intro (True.intro) (And.intro (True.intro) (And.intro (True.intro) (And.intro (True.intro) (True.intro)))))
theorem stbig_long_4 (k n : Nat) (x : DS SS.D hsbig_long_4) : Lbig_long_4 k (n + 1) x.1 x.2.1 x.2.2.1 x.2.2.2.1 x.2.2.2.2.1 x.2.2.2.2.2.1 x.2.2.2.2.2.2.1 x.2.2.2.2.2.2.2.1 x.2.2.2.2.2.2.2.2.1 x.2.2.2.2.2.2.2.2.2.1 x.2.2.2.2.2.2.2.2.2.2 = encSK SS.enc (fun σ => run2 cf (fun f a b K => COt f a b K [Ibig_shift k, Ibig_take_zvq k]) (fun b _ σ K => LOt Ty (kps 124) 0 b σ K [LIbig_long_0 k]) Try.f124.ntmps 4 (lb Try.f124 2) σ (nextK Ty (kps 124 4) 0 hsbig_long_4 osbig_long_4 fun x => Lbig_long_4 k n x.1 x.2.1 x.2.2.1 x.2.2.2.1 x.2.2.2.2.1 x.2.2.2.2.2.1 x.2.2.2.2.2.2.1 x.2.2.2.2.2.2.2.1 x.2.2.2.2.2.2.2.2.1 x.2.2.2.2.2.2.2.2.2.1 x.2.2.2.2.2.2.2.2.2.2)) hsbig_long_4 x := by kernel_rfl
theorem lobig_long_4 (k : Nat) : LIOk cf (call cf k) (kps 124) Try.f124.ntmps k 0 4 (lb Try.f124 2) (LIbig_long_4 k) :=
  loop_ok (c := cf) (callF := call cf k) (kp := kps 124) (nt := Try.f124.ntmps) (k := k) (p := 0) (b := 4) (x0 := lb Try.f124 2) (hs := hsbig_long_4) (os := osbig_long_4) (COt_ok (albig_long k)) (anbig_long_4 k) (fun n x => Lbig_long_4 k n x.1 x.2.1 x.2.2.1 x.2.2.2.1 x.2.2.2.2.1 x.2.2.2.2.2.1 x.2.2.2.2.2.2.1 x.2.2.2.2.2.2.2.1 x.2.2.2.2.2.2.2.2.1 x.2.2.2.2.2.2.2.2.2.1 x.2.2.2.2.2.2.2.2.2.2) (fun _ => rfl) (stbig_long_4 k)
def hsbig_long_2 : List SS := [{ fr := [(4, .a (.smz 0)), (6, .a (.lf (.int .u64))), (7, .a (.lf (.int .i64))), (8, .a (.smz 1)), (9, .a (.smz 2)), (10, .a (.lf (.int .i64)))], mem := [(0, some (.arr (.int .u32) 1 72 false)), (1, some (.arr (.int .u32) 1 72 false)), (2, some (.arr (.int .u32) 1 72 false))], nx := 3 }]
def osbig_long_2 : List OS := [⟨some 2, { fr := [(4, .a (.smz 0)), (6, .a (.lf (.int .u64))), (7, .a (.lf (.int .i64))), (8, .a (.smz 1))], mem := [(0, some (.arr (.int .u32) 1 72 false)), (1, some (.arr (.int .u32) 1 72 false)), (2, some (.arr (.int .u32) 1 72 false))], nx := 3 }⟩]
def LIbig_long_2 (k : Nat) : LInst := ⟨2, hsbig_long_2, osbig_long_2, fun x => Lbig_long_2 k k x.1 x.2.1 x.2.2.1 x.2.2.2.1 x.2.2.2.2.1 x.2.2.2.2.2.1 x.2.2.2.2.2.2.1 x.2.2.2.2.2.2.2.1 x.2.2.2.2.2.2.2.2⟩
theorem anbig_long_2 (k : Nat) : LAll (LOk (R := DS OS.D osbig_long_2) (fun b _ σ K => LOt Ty (kps 124) 0 b σ K [LIbig_long_0 k, LIbig_long_4 k]) cf (call cf k) (kps 124) Try.f124.ntmps k 0) 2 (lb Try.f124 1) :=
  And.intro (And.intro (True.intro) (And.intro (True.intro) (True.intro))) (And.intro (And.intro (True.intro) (And.intro (True.intro) (And.intro (LOt_ok (c := cf) (callF := call cf k) (kp := kps 124) (nt := Try.f124.ntmps) (k := k) (p := 0) (b := 4) (x0 := lb Try.f124 2) (l := [LIbig_long_0 k, LIbig_long_4 k]) (And.intro (fun h => absurd (show (0 : Nat) = 4 from h) (by decide)) (And.intro (fun _ => lobig_long_4 k) (True.intro)))) (True.intro)))) (True.intro))
theorem stbig_long_2 (k n : Nat) (x : DS SS.D hsbig_long_2) : Lbig_long_2 k (n + 1) x.1 x.2.1 x.2.2.1 x.2.2.2.1 x.2.2.2.2.1 x.2.2.2.2.2.1 x.2.2.2.2.2.2.1 x.2.2.2.2.2.2.2.1 x.2.2.2.2.2.2.2.2 = encSK SS.enc (fun σ => run2 cf (fun f a b K => COt f a b K [Ibig_shift k, Ibig_take_zvq k]) (fun b _ σ K => LOt Ty (kps 124) 0 b σ K [LIbig_long_0 k, LIbig_long_4 k]) Try.f124.ntmps 2 (lb Try.f124 1) σ (nextK Ty (kps 124 2) 0 hsbig_long_2 osbig_long_2 fun x => Lbig_long_2 k n x.1 x.2.1 x.2.2.1 x.2.2.2.1 x.2.2.2.2.1 x.2.2.2.2.2.1 x.2.2.2.2.2.2.1 x.2.2.2.2.2.2.2.1 x.2.2.2.2.2.2.2.2)) hsbig_long_2 x := by kernel_rfl
theorem lobig_long_2 (k : Nat) : LIOk cf (call cf k) (kps 124) Try.f124.ntmps k 0 2 (lb Try.f124 1) (LIbig_long_2 k) :=
  loop_ok (c := cf) (callF := call cf k) (kp := kps 124) (nt := Try.f124.ntmps) (k := k) (p := 0) (b := 2) (x0 := lb Try.f124 1) (hs := hsbig_long_2) (os := osbig_long_2) (COt_ok (albig_long k)) (anbig_long_2 k) (fun n x => Lbig_long_2 k n x.1 x.2.1 x.2.2.1 x.2.2.2.1 x.2.2.2.2.1 x.2.2.2.2.2.1 x.2.2.2.2.2.2.1 x.2.2.2.2.2.2.2.1 x.2.2.2.2.2.2.2.2) (fun _ => rfl) (stbig_long_2 k)
def hsbig_long_6 : List SS := [{ fr := [(4, .a (.smz 0)), (5, .a (.smz 1)), (6, .a (.lf (.int .u64))), (8, .a (.smz 2)), (139, .a (.lf (.int .i64))), (140, .a (.lf (.int .i64)))], mem := [(0, some (.arr (.int .u32) 1 72 false)), (1, some (.arr (.int .u32) 1 72 false)), (2, some (.arr (.int .u32) 1 72 false))], nx := 3 }]
def osbig_long_6 : List OS := [⟨some 6, { fr := [(4, .a (.smz 0)), (5, .a (.smz 1))], mem := [(0, some (.arr (.int .u32) 1 72 false)), (1, some (.arr (.int .u32) 1 72 false)), (2, some (.arr (.int .u32) 1 72 false))], nx := 3 }⟩]
def LIbig_long_6 (k : Nat) : LInst := ⟨6, hsbig_long_6, osbig_long_6, fun x => Lbig_long_6 k k x.1 x.2.1 x.2.2.1 x.2.2.2.1 x.2.2.2.2.1 x.2.2.2.2.2.1 x.2.2.2.2.2.2.1 x.2.2.2.2.2.2.2.1 x.2.2.2.2.2.2.2.2⟩
theorem anbig_long_6 (k : Nat) : LAll (LOk (R := DS OS.D osbig_long_6) (fun b _ σ K => LOt Ty (kps 124) 0 b σ K [LIbig_long_0 k, LIbig_long_4 k, LIbig_long_2 k]) cf (call cf k) (kps 124) Try.f124.ntmps k 0) 6 (lb Try.f124 3) :=
  And.intro (True.intro) (And.intro (And.intro (True.intro) (True.intro)) (And.intro (And.intro (True.intro) (True.intro)) (True.intro)))
theorem stbig_long_6 (k n : Nat) (x : DS SS.D hsbig_long_6) : Lbig_long_6 k (n + 1) x.1 x.2.1 x.2.2.1 x.2.2.2.1 x.2.2.2.2.1 x.2.2.2.2.2.1 x.2.2.2.2.2.2.1 x.2.2.2.2.2.2.2.1 x.2.2.2.2.2.2.2.2 = encSK SS.enc (fun σ => run2 cf (fun f a b K => COt f a b K [Ibig_shift k, Ibig_take_zvq k]) (fun b _ σ K => LOt Ty (kps 124) 0 b σ K [LIbig_long_0 k, LIbig_long_4 k, LIbig_long_2 k]) Try.f124.ntmps 6 (lb Try.f124 3) σ (nextK Ty (kps 124 6) 0 hsbig_long_6 osbig_long_6 fun x => Lbig_long_6 k n x.1 x.2.1 x.2.2.1 x.2.2.2.1 x.2.2.2.2.1 x.2.2.2.2.2.1 x.2.2.2.2.2.2.1 x.2.2.2.2.2.2.2.1 x.2.2.2.2.2.2.2.2)) hsbig_long_6 x := by kernel_rfl
theorem lobig_long_6 (k : Nat) : LIOk cf (call cf k) (kps 124) Try.f124.ntmps k 0 6 (lb Try.f124 3) (LIbig_long_6 k) :=
  loop_ok (c := cf) (callF := call cf k) (kp := kps 124) (nt := Try.f124.ntmps) (k := k) (p := 0) (b := 6) (x0 := lb Try.f124 3) (hs := hsbig_long_6) (os := osbig_long_6) (COt_ok (albig_long k)) (anbig_long_6 k) (fun n x => Lbig_long_6 k n x.1 x.2.1 x.2.2.1 x.2.2.2.1 x.2.2.2.2.1 x.2.2.2.2.2.1 x.2.2.2.2.2.2.1 x.2.2.2.2.2.2.2.1 x.2.2.2.2.2.2.2.2) (fun _ => rfl) (stbig_long_6 k)
theorem anbig_long (k : Nat) : LAll (LOk (R := DS FS.D rsbig_long) (fun b _ σ K => LOt Ty (kps 124) 0 b σ K [LIbig_long_0 k, LIbig_long_4 k, LIbig_long_2 k, LIbig_long_6 k]) cf (call cf k) (cf.keep 124) Try.f124.ntmps k shbig_long.bs.length) 0 (bd Try.f124) :=
  And.intro (True.intro) (And.intro (True.intro) (And.intro (LOt_ok (c := cf) (callF := call cf k) (kp := kps 124) (nt := Try.f124.ntmps) (k := k) (p := 0) (b := 0) (x0 := lb Try.f124 0) (l := [LIbig_long_0 k, LIbig_long_4 k, LIbig_long_2 k, LIbig_long_6 k]) (And.intro (fun _ => lobig_long_0 k) (And.intro (fun h => absurd (show (4 : Nat) = 0 from h) (by decide)) (And.intro (fun h => absurd (show (2 : Nat) = 0 from h) (by decide)) (And.intro (fun h => absurd (show (6 : Nat) = 0 from h) (by decide)) (True.intro)))))) (And.intro (True.intro) (And.intro (True.intro) (And.intro (True.intro) (And.intro (And.intro (True.intro) (LOt_ok (c := cf) (callF := call cf k) (kp := kps 124) (nt := Try.f124.ntmps) (k := k) (p := 0) (b := 2) (x0 := lb Try.f124 1) (l := [LIbig_long_0 k, LIbig_long_4 k, LIbig_long_2 k, LIbig_long_6 k]) (And.intro (fun h => absurd (show (0 : Nat) = 2 from h) (by decide)) (And.intro (fun h => absurd (show (4 : Nat) = 2 from h) (by decide)) (And.intro (fun _ => lobig_long_2 k) (And.intro (fun h => absurd (show (6 : Nat) = 2 from h) (by decide)) (True.intro))))))) (And.intro (True.intro) (And.intro (And.intro (True.intro) (LOt_ok (c := cf) (callF := call cf k) (kp := kps 124) (nt := Try.f124.ntmps) (k := k) (p := 0) (b := 6) (x0 := lb Try.f124 3) (l := [LIbig_long_0 k, LIbig_long_4 k, LIbig_long_2 k, LIbig_long_6 k]) (And.intro (fun h => absurd (show (0 : Nat) = 6 from h) (by decide)) (And.intro (fun h => absurd (show (4 : Nat) = 6 from h) (by decide)) (And.intro (fun h => absurd (show (2 : Nat) = 6 from h) (by decide)) (And.intro (fun _ => lobig_long_6 k) (True.intro))))))) (And.intro (True.intro) (True.intro))))))))))
theorem stbig_long (k : Nat) (x : shbig_long.D) : Fbig_long (k + 1) x.1 x.2 = body2 cf (fun f a b K => COt f a b K [Ibig_shift k, Ibig_take_zvq k]) (fun b _ σ K => LOt Ty (kps 124) 0 b σ K [LIbig_long_0 k, LIbig_long_4 k, LIbig_long_2 k, LIbig_long_6 k]) 124 Try.f124.ntmps Try.f124.results.toList (bd Try.f124) (shbig_long.enc x).1 (shbig_long.enc x).2 (putS FS.dec rsbig_long) := by kernel_rfl
theorem okbig_long : ∀ k, InstOk (call cf k) (Ibig_long k)
  | 0 => fun x y e => absurd (show (none : Option _) = some y from e) (by simp)
  | k + 1 => inst_ok (c := cf) (k := k) (f := 124) (fn := Try.f124) (body := bd Try.f124) (sh := shbig_long) (os := rsbig_long) rfl Try.func124 rfl ⟨rfl, Nat.le_of_ble_eq_true rfl⟩ (COt_ok (albig_long k)) (anbig_long k) (fun x => Fbig_long (k + 1) x.1 x.2) (stbig_long k)

/-! shunt/big.divide -/
def bbig_divide (k : Nat) (a : List Int) (b : List Int) : Option (List Int × List Int) :=
  Option.bind (Fbig_cmp k a b) fun r4 =>
  if ((decide (r4 < (0 : Int))) = true) then
    (some ([], a))
  else
  if (((((List.length b) : Nat) : Int) == (1 : Int)) = true) then
    Option.bind (b)[0]? fun x2 =>
    Option.bind (Fbig_short k a x2) fun r5 =>
    (some (r5.1, (List.take 1 (r5.2 :: []))))
  else
  Option.bind (Fbig_long k a b) fun r5 =>
  (some (r5.1, r5.2))
def Fbig_divide : Nat → List Int → List Int → Option (List Int × List Int)
  | 0, _, _ => none
  | k + 1, a, b => bbig_divide k a b
def shbig_divide : FS := { vs := [.a (.lf (.sl (.int .u32))), .a (.lf (.sl (.int .u32)))], bs := [] }
def rsbig_divide : List FS := [{ vs := [.a (.lf (.sl (.int .u32))), .a (.lf (.sl (.int .u32)))], bs := [] }]
def Ibig_divide (k : Nat) : Inst := ⟨121, shbig_divide, rsbig_divide, fun x => Fbig_divide k x.1 x.2⟩
theorem albig_divide (k : Nat) : AllI (call cf k) [Ibig_cmp k, Ibig_short k, Ibig_long k] := And.intro (okbig_cmp k) (And.intro (okbig_short k) (And.intro (okbig_long k) (True.intro)))
theorem anbig_divide (k : Nat) : LAll (LOk (R := DS FS.D rsbig_divide) (fun b _ σ K => LOt Ty (kps 121) 0 b σ K []) cf (call cf k) (cf.keep 121) Try.f121.ntmps k shbig_divide.bs.length) 0 (bd Try.f121) :=
  And.intro (True.intro) (And.intro (And.intro (True.intro) (And.intro (And.intro (True.intro) (True.intro)) (And.intro (True.intro) (And.intro (And.intro (True.intro) (And.intro (True.intro) (True.intro))) (True.intro))))) (And.intro (True.intro) (True.intro)))
theorem stbig_divide (k : Nat) (x : shbig_divide.D) : Fbig_divide (k + 1) x.1 x.2 = body2 cf (fun f a b K => COt f a b K [Ibig_cmp k, Ibig_short k, Ibig_long k]) (fun b _ σ K => LOt Ty (kps 121) 0 b σ K []) 121 Try.f121.ntmps Try.f121.results.toList (bd Try.f121) (shbig_divide.enc x).1 (shbig_divide.enc x).2 (putS FS.dec rsbig_divide) := by kernel_rfl
theorem okbig_divide : ∀ k, InstOk (call cf k) (Ibig_divide k)
  | 0 => fun x y e => absurd (show (none : Option _) = some y from e) (by simp)
  | k + 1 => inst_ok (c := cf) (k := k) (f := 121) (fn := Try.f121) (body := bd Try.f121) (sh := shbig_divide) (os := rsbig_divide) rfl Try.func121 rfl ⟨rfl, Nat.le_of_ble_eq_true rfl⟩ (COt_ok (albig_divide k)) (anbig_divide k) (fun x => Fbig_divide (k + 1) x.1 x.2) (stbig_divide k)

/-! (*shunt/big.Int).set -/
def bbig_Int_set_cvg (k : Nat) (neg : Bool) (w : List Int) (z : Bool) : Option (Bool × List Int) :=
  Option.bind (Fbig_trim k w) fun r5 =>
  if (neg = true) then
    (some ((decide ((((List.length r5) : Nat) : Int) > (0 : Int))), r5))
  else
  (some (false, r5))
def Fbig_Int_set_cvg : Nat → Bool → List Int → Bool → Option (Bool × List Int)
  | 0, _, _, _ => none
  | k + 1, neg, w, z => bbig_Int_set_cvg k neg w z
def shbig_Int_set_cvg : FS := { vs := [.a (.ptr 0 0 0), .a (.lf .bool), .a (.lf (.sl (.int .u32)))], bs := [.raw [[.lf .bool, .snil 1 72]] 2 98 true false] }
def rsbig_Int_set_cvg : List FS := [{ vs := [.a (.ptr 0 0 0)], bs := [.raw [[.lf .bool, .lf (.sl (.int .u32))]] 2 98 true false] }]
def Ibig_Int_set_cvg (k : Nat) : Inst := ⟨110, shbig_Int_set_cvg, rsbig_Int_set_cvg, fun x => Fbig_Int_set_cvg k x.1 x.2.1 x.2.2⟩
theorem albig_Int_set_cvg (k : Nat) : AllI (call cf k) [Ibig_trim k] := And.intro (okbig_trim k) (True.intro)
theorem anbig_Int_set_cvg (k : Nat) : LAll (LOk (R := DS FS.D rsbig_Int_set_cvg) (fun b _ σ K => LOt Ty (kps 110) 1 b σ K []) cf (call cf k) (cf.keep 110) Try.f110.ntmps k shbig_Int_set_cvg.bs.length) 0 (bd Try.f110) :=
  And.intro (True.intro) (And.intro (True.intro) (And.intro (True.intro) (And.intro (True.intro) (True.intro))))
theorem stbig_Int_set_cvg (k : Nat) (x : shbig_Int_set_cvg.D) : Fbig_Int_set_cvg (k + 1) x.1 x.2.1 x.2.2 = body2 cf (fun f a b K => COt f a b K [Ibig_trim k]) (fun b _ σ K => LOt Ty (kps 110) 1 b σ K []) 110 Try.f110.ntmps Try.f110.results.toList (bd Try.f110) (shbig_Int_set_cvg.enc x).1 (shbig_Int_set_cvg.enc x).2 (putS FS.dec rsbig_Int_set_cvg) := by kernel_rfl
theorem okbig_Int_set_cvg : ∀ k, InstOk (call cf k) (Ibig_Int_set_cvg k)
  | 0 => fun x y e => absurd (show (none : Option _) = some y from e) (by simp)
  | k + 1 => inst_ok (c := cf) (k := k) (f := 110) (fn := Try.f110) (body := bd Try.f110) (sh := shbig_Int_set_cvg) (os := rsbig_Int_set_cvg) rfl Try.func110 rfl ⟨rfl, Nat.le_of_ble_eq_true rfl⟩ (COt_ok (albig_Int_set_cvg k)) (anbig_Int_set_cvg k) (fun x => Fbig_Int_set_cvg (k + 1) x.1 x.2.1 x.2.2) (stbig_Int_set_cvg k)

/-! shunt/big.Gcd -/
def Lbig_Gcd_ddu_0s (k : Nat) (rec : List Int → List Int → Bool → List Int → Bool → List Int → Option (List Int × Bool × List Int × Bool × List Int)) (a : List Int) (b : List Int) (m0 : Bool) (m1 : List Int) (m01 : Bool) (m11 : List Int) : Option (List Int × Bool × List Int × Bool × List Int) :=
  if ((decide ((((List.length b) : Nat) : Int) > (0 : Int))) = true) then
    Option.bind (Fbig_divide k a b) fun r4 =>
    if (((0 + (List.length r4.2)) * 4) ≤ 140737488355328) then
      if ((0 + (0 + (List.length r4.2))) ≤ (List.length ((List.take 0 []) ++ r4.2))) then
        Option.bind (Fbig_trim k (List.take (0 + (List.length r4.2)) ((List.take 0 []) ++ r4.2))) fun r5 =>
        rec b r5 m0 m1 m01 m11
      else
      none
    else
    none
  else
  (some (a, m0, m1, m01, m11))
def Lbig_Gcd_ddu_0 (k n : Nat) : List Int → List Int → Bool → List Int → Bool → List Int → Option (List Int × Bool × List Int × Bool × List Int) := Nat.rec (fun _ _ _ _ _ _ => none) (fun _ r => Lbig_Gcd_ddu_0s k r) n
def bbig_Gcd_ddu (k : Nat) (x0 : Bool) (x1 : List Int) (y0 : Bool) (y1 : List Int) : Option (Bool × List Int × Bool × List Int × Bool × List Int) :=
  Option.bind (Lbig_Gcd_ddu_0 k k x1 y1 x0 x1 y0 y1) fun r4 =>
  Option.bind (Fbig_Int_set_cvg k false r4.1 false) fun r5 =>
  (some (r4.2.1, r4.2.2.1, r4.2.2.2.1, r4.2.2.2.2, r5.1, r5.2))
def Fbig_Gcd_ddu : Nat → Bool → List Int → Bool → List Int → Option (Bool × List Int × Bool × List Int × Bool × List Int)
  | 0, _, _, _, _ => none
  | k + 1, x0, x1, y0, y1 => bbig_Gcd_ddu k x0 x1 y0 y1
def shbig_Gcd_ddu : FS := { vs := [.a (.ptr 0 0 0), .a (.ptr 1 0 0)], bs := [.raw [[.lf .bool, .lf (.sl (.int .u32))]] 2 98 true false, .raw [[.lf .bool, .lf (.sl (.int .u32))]] 2 98 true false] }
def rsbig_Gcd_ddu : List FS := [{ vs := [.a (.ptr 2 0 0)], bs := [.raw [[.lf .bool, .lf (.sl (.int .u32))]] 2 98 true false, .raw [[.lf .bool, .lf (.sl (.int .u32))]] 2 98 true false, .raw [[.lf .bool, .lf (.sl (.int .u32))]] 2 98 true false] }]
def Ibig_Gcd_ddu (k : Nat) : Inst := ⟨109, shbig_Gcd_ddu, rsbig_Gcd_ddu, fun x => Fbig_Gcd_ddu k x.1 x.2.1 x.2.2.1 x.2.2.2⟩
theorem albig_Gcd_ddu (k : Nat) : AllI (call cf k) [Ibig_divide k, Ibig_trim k, Ibig_Int_set_cvg k] := And.intro (okbig_divide k) (And.intro (okbig_trim k) (And.intro (okbig_Int_set_cvg k) (True.intro)))
def hsbig_Gcd_ddu_0 : List SS := [{ fr := [(5, .a (.lf (.sl (.int .u32)))), (6, .a (.lf (.sl (.int .u32))))], mem := [(0, some (.raw [[.lf .bool, .lf (.sl (.int .u32))]] 2 98 true false)), (1, some (.raw [[.lf .bool, .lf (.sl (.int .u32))]] 2 98 true false))], nx := 2 }]
def osbig_Gcd_ddu_0 : List OS := [⟨some 0, { fr := [(5, .a (.lf (.sl (.int .u32))))], mem := [(0, some (.raw [[.lf .bool, .lf (.sl (.int .u32))]] 2 98 true false)), (1, some (.raw [[.lf .bool, .lf (.sl (.int .u32))]] 2 98 true false))], nx := 2 }⟩]
def LIbig_Gcd_ddu_0 (k : Nat) : LInst := ⟨0, hsbig_Gcd_ddu_0, osbig_Gcd_ddu_0, fun x => Lbig_Gcd_ddu_0 k k x.1 x.2.1 x.2.2.1 x.2.2.2.1 x.2.2.2.2.1 x.2.2.2.2.2⟩
theorem anbig_Gcd_ddu_0 (k : Nat) : LAll (LOk (R := DS OS.D osbig_Gcd_ddu_0) (fun b _ σ K => LOt Ty (kps 109) 2 b σ K []) cf (call cf k) (kps 109) Try.f109.ntmps k 2) 0 (lb Try.f109 0) :=
  And.intro (And.intro (True.intro) (And.intro (True.intro) (True.intro))) (And.intro (True.intro) (True.intro))
theorem stbig_Gcd_ddu_0 (k n : Nat) (x : DS SS.D hsbig_Gcd_ddu_0) : Lbig_Gcd_ddu_0 k (n + 1) x.1 x.2.1 x.2.2.1 x.2.2.2.1 x.2.2.2.2.1 x.2.2.2.2.2 = encSK SS.enc (fun σ => run2 cf (fun f a b K => COt f a b K [Ibig_divide k, Ibig_trim k, Ibig_Int_set_cvg k]) (fun b _ σ K => LOt Ty (kps 109) 2 b σ K []) Try.f109.ntmps 0 (lb Try.f109 0) σ (nextK Ty (kps 109 0) 2 hsbig_Gcd_ddu_0 osbig_Gcd_ddu_0 fun x => Lbig_Gcd_ddu_0 k n x.1 x.2.1 x.2.2.1 x.2.2.2.1 x.2.2.2.2.1 x.2.2.2.2.2)) hsbig_Gcd_ddu_0 x := by kernel_rfl
theorem lobig_Gcd_ddu_0 (k : Nat) : LIOk cf (call cf k) (kps 109) Try.f109.ntmps k 2 0 (lb Try.f109 0) (LIbig_Gcd_ddu_0 k) :=
  loop_ok (c := cf) (callF := call cf k) (kp := kps 109) (nt := Try.f109.ntmps) (k := k) (p := 2) (b := 0) (x0 := lb Try.f109 0) (hs := hsbig_Gcd_ddu_0) (os := osbig_Gcd_ddu_0) (COt_ok (albig_Gcd_ddu k)) (anbig_Gcd_ddu_0 k) (fun n x => Lbig_Gcd_ddu_0 k n x.1 x.2.1 x.2.2.1 x.2.2.2.1 x.2.2.2.2.1 x.2.2.2.2.2) (fun _ => rfl) (stbig_Gcd_ddu_0 k)
theorem anbig_Gcd_ddu (k : Nat) : LAll (LOk (R := DS FS.D rsbig_Gcd_ddu) (fun b _ σ K => LOt Ty (kps 109) 2 b σ K [LIbig_Gcd_ddu_0 k]) cf (call cf k) (cf.keep 109) Try.f109.ntmps k shbig_Gcd_ddu.bs.length) 0 (bd Try.f109) :=
  And.intro (True.intro) (And.intro (True.intro) (And.intro (LOt_ok (c := cf) (callF := call cf k) (kp := kps 109) (nt := Try.f109.ntmps) (k := k) (p := 2) (b := 0) (x0 := lb Try.f109 0) (l := [LIbig_Gcd_ddu_0 k]) (And.intro (fun _ => lobig_Gcd_ddu_0 k) (True.intro))) (And.intro (True.intro) (True.intro))))
theorem stbig_Gcd_ddu (k : Nat) (x : shbig_Gcd_ddu.D) : Fbig_Gcd_ddu (k + 1) x.1 x.2.1 x.2.2.1 x.2.2.2 = body2 cf (fun f a b K => COt f a b K [Ibig_divide k, Ibig_trim k, Ibig_Int_set_cvg k]) (fun b _ σ K => LOt Ty (kps 109) 2 b σ K [LIbig_Gcd_ddu_0 k]) 109 Try.f109.ntmps Try.f109.results.toList (bd Try.f109) (shbig_Gcd_ddu.enc x).1 (shbig_Gcd_ddu.enc x).2 (putS FS.dec rsbig_Gcd_ddu) := by kernel_rfl
theorem okbig_Gcd_ddu : ∀ k, InstOk (call cf k) (Ibig_Gcd_ddu k)
  | 0 => fun x y e => absurd (show (none : Option _) = some y from e) (by simp)
  | k + 1 => inst_ok (c := cf) (k := k) (f := 109) (fn := Try.f109) (body := bd Try.f109) (sh := shbig_Gcd_ddu) (os := rsbig_Gcd_ddu) rfl Try.func109 rfl ⟨rfl, Nat.le_of_ble_eq_true rfl⟩ (COt_ok (albig_Gcd_ddu k)) (anbig_Gcd_ddu k) (fun x => Fbig_Gcd_ddu (k + 1) x.1 x.2.1 x.2.2.1 x.2.2.2) (stbig_Gcd_ddu k)

/-! (*shunt/big.Int).QuoRem -/
def bbig_Int_QuoRem_gsh (k : Nat) (z : Bool) (x0 : Bool) (x1 : List Int) (y0 : Bool) (y1 : List Int) (r : Bool) : Option (Bool × List Int × Bool × List Int × Bool × List Int × Bool × List Int) :=
  Option.bind (Fbig_divide k x1 y1) fun r5 =>
  Option.bind (Fbig_Int_set_cvg k x0 r5.2 r) fun r6 =>
  Option.bind (Fbig_Int_set_cvg k (!(x0 == y0)) r5.1 z) fun r7 =>
  (some (r7.1, r7.2, x0, x1, y0, y1, r6.1, r6.2))
def Fbig_Int_QuoRem_gsh : Nat → Bool → Bool → List Int → Bool → List Int → Bool → Option (Bool × List Int × Bool × List Int × Bool × List Int × Bool × List Int)
  | 0, _, _, _, _, _, _ => none
  | k + 1, z, x0, x1, y0, y1, r => bbig_Int_QuoRem_gsh k z x0 x1 y0 y1 r
def shbig_Int_QuoRem_gsh : FS := { vs := [.a (.ptr 0 0 0), .a (.ptr 1 0 0), .a (.ptr 2 0 0), .a (.ptr 3 0 0)], bs := [.raw [[.lf .bool, .snil 1 72]] 2 98 true false, .raw [[.lf .bool, .lf (.sl (.int .u32))]] 2 98 true false, .raw [[.lf .bool, .lf (.sl (.int .u32))]] 2 98 true false, .raw [[.lf .bool, .snil 1 72]] 2 98 true false] }
def rsbig_Int_QuoRem_gsh : List FS := [{ vs := [.a (.ptr 0 0 0), .a (.ptr 3 0 0)], bs := [.raw [[.lf .bool, .lf (.sl (.int .u32))]] 2 98 true false, .raw [[.lf .bool, .lf (.sl (.int .u32))]] 2 98 true false, .raw [[.lf .bool, .lf (.sl (.int .u32))]] 2 98 true false, .raw [[.lf .bool, .lf (.sl (.int .u32))]] 2 98 true false] }]
def Ibig_Int_QuoRem_gsh (k : Nat) : Inst := ⟨114, shbig_Int_QuoRem_gsh, rsbig_Int_QuoRem_gsh, fun x => Fbig_Int_QuoRem_gsh k x.1 x.2.1 x.2.2.1 x.2.2.2.1 x.2.2.2.2.1 x.2.2.2.2.2⟩
theorem albig_Int_QuoRem_gsh (k : Nat) : AllI (call cf k) [Ibig_divide k, Ibig_Int_set_cvg k] := And.intro (okbig_divide k) (And.intro (okbig_Int_set_cvg k) (True.intro))
theorem anbig_Int_QuoRem_gsh (k : Nat) : LAll (LOk (R := DS FS.D rsbig_Int_QuoRem_gsh) (fun b _ σ K => LOt Ty (kps 114) 4 b σ K []) cf (call cf k) (cf.keep 114) Try.f114.ntmps k shbig_Int_QuoRem_gsh.bs.length) 0 (bd Try.f114) :=
  And.intro (True.intro) (And.intro (True.intro) (And.intro (True.intro) (And.intro (True.intro) (And.intro (True.intro) (True.intro)))))
theorem stbig_Int_QuoRem_gsh (k : Nat) (x : shbig_Int_QuoRem_gsh.D) : Fbig_Int_QuoRem_gsh (k + 1) x.1 x.2.1 x.2.2.1 x.2.2.2.1 x.2.2.2.2.1 x.2.2.2.2.2 = body2 cf (fun f a b K => COt f a b K [Ibig_divide k, Ibig_Int_set_cvg k]) (fun b _ σ K => LOt Ty (kps 114) 4 b σ K []) 114 Try.f114.ntmps Try.f114.results.toList (bd Try.f114) (shbig_Int_QuoRem_gsh.enc x).1 (shbig_Int_QuoRem_gsh.enc x).2 (putS FS.dec rsbig_Int_QuoRem_gsh) := by kernel_rfl
theorem okbig_Int_QuoRem_gsh : ∀ k, InstOk (call cf k) (Ibig_Int_QuoRem_gsh k)
  | 0 => fun x y e => absurd (show (none : Option _) = some y from e) (by simp)
  | k + 1 => inst_ok (c := cf) (k := k) (f := 114) (fn := Try.f114) (body := bd Try.f114) (sh := shbig_Int_QuoRem_gsh) (os := rsbig_Int_QuoRem_gsh) rfl Try.func114 rfl ⟨rfl, Nat.le_of_ble_eq_true rfl⟩ (COt_ok (albig_Int_QuoRem_gsh k)) (anbig_Int_QuoRem_gsh k) (fun x => Fbig_Int_QuoRem_gsh (k + 1) x.1 x.2.1 x.2.2.1 x.2.2.2.1 x.2.2.2.2.1 x.2.2.2.2.2) (stbig_Int_QuoRem_gsh k)

/-! (*shunt/big.Int).Quo -/
def bbig_Int_Quo_gsh (k : Nat) (z : Bool) (x0 : Bool) (x1 : List Int) (y0 : Bool) (y1 : List Int) : Option (Bool × List Int × Bool × List Int × Bool × List Int) :=
  Option.bind (Fbig_Int_QuoRem_gsh k z x0 x1 y0 y1 false) fun r5 =>
  (some (r5.1, r5.2.1, r5.2.2.1, r5.2.2.2.1, r5.2.2.2.2.1, r5.2.2.2.2.2.1))
def Fbig_Int_Quo_gsh : Nat → Bool → Bool → List Int → Bool → List Int → Option (Bool × List Int × Bool × List Int × Bool × List Int)
  | 0, _, _, _, _, _ => none
  | k + 1, z, x0, x1, y0, y1 => bbig_Int_Quo_gsh k z x0 x1 y0 y1
def shbig_Int_Quo_gsh : FS := { vs := [.a (.ptr 0 0 0), .a (.ptr 1 0 0), .a (.ptr 2 0 0)], bs := [.raw [[.lf .bool, .snil 1 72]] 2 98 true false, .raw [[.lf .bool, .lf (.sl (.int .u32))]] 2 98 true false, .raw [[.lf .bool, .lf (.sl (.int .u32))]] 2 98 true false] }
def rsbig_Int_Quo_gsh : List FS := [{ vs := [.a (.ptr 0 0 0)], bs := [.raw [[.lf .bool, .lf (.sl (.int .u32))]] 2 98 true false, .raw [[.lf .bool, .lf (.sl (.int .u32))]] 2 98 true false, .raw [[.lf .bool, .lf (.sl (.int .u32))]] 2 98 true false] }]
def Ibig_Int_Quo_gsh (k : Nat) : Inst := ⟨112, shbig_Int_Quo_gsh, rsbig_Int_Quo_gsh, fun x => Fbig_Int_Quo_gsh k x.1 x.2.1 x.2.2.1 x.2.2.2.1 x.2.2.2.2⟩
theorem albig_Int_Quo_gsh (k : Nat) : AllI (call cf k) [Ibig_Int_QuoRem_gsh k] := And.intro (okbig_Int_QuoRem_gsh k) (True.intro)
theorem anbig_Int_Quo_gsh (k : Nat) : LAll (LOk (R := DS FS.D rsbig_Int_Quo_gsh) (fun b _ σ K => LOt Ty (kps 112) 3 b σ K []) cf (call cf k) (cf.keep 112) Try.f112.ntmps k shbig_Int_Quo_gsh.bs.length) 0 (bd Try.f112) :=
  And.intro (True.intro) (And.intro (True.intro) (And.intro (True.intro) (True.intro)))
theorem stbig_Int_Quo_gsh (k : Nat) (x : shbig_Int_Quo_gsh.D) : Fbig_Int_Quo_gsh (k + 1) x.1 x.2.1 x.2.2.1 x.2.2.2.1 x.2.2.2.2 = body2 cf (fun f a b K => COt f a b K [Ibig_Int_QuoRem_gsh k]) (fun b _ σ K => LOt Ty (kps 112) 3 b σ K []) 112 Try.f112.ntmps Try.f112.results.toList (bd Try.f112) (shbig_Int_Quo_gsh.enc x).1 (shbig_Int_Quo_gsh.enc x).2 (putS FS.dec rsbig_Int_Quo_gsh) := by kernel_rfl
theorem okbig_Int_Quo_gsh : ∀ k, InstOk (call cf k) (Ibig_Int_Quo_gsh k)
  | 0 => fun x y e => absurd (show (none : Option _) = some y from e) (by simp)
  | k + 1 => inst_ok (c := cf) (k := k) (f := 112) (fn := Try.f112) (body := bd Try.f112) (sh := shbig_Int_Quo_gsh) (os := rsbig_Int_Quo_gsh) rfl Try.func112 rfl ⟨rfl, Nat.le_of_ble_eq_true rfl⟩ (COt_ok (albig_Int_Quo_gsh k)) (anbig_Int_Quo_gsh k) (fun x => Fbig_Int_Quo_gsh (k + 1) x.1 x.2.1 x.2.2.1 x.2.2.2.1 x.2.2.2.2) (stbig_Int_Quo_gsh k)

/-! (*shunt/big.Rat).frac -/
def bbig_Rat_frac_xda (k : Nat) (z0 : Bool) (z1 : Bool) (n0 : Bool) (n1 : List Int) (d0 : Bool) (d1 : List Int) : Option (Bool × List Int × Bool × List Int × Bool × List Int × Bool × List Int) :=
  Option.bind (Fbig_Gcd_ddu k n0 n1 d0 d1) fun r4 =>
  if (r4.2.2.1 = true) then
    Option.bind (Fbig_Int_Quo_gsh k false r4.1 r4.2.1 true r4.2.2.2.2.2) fun r5 =>
    Option.bind (Fbig_Int_Quo_gsh k false r4.2.2.1 r4.2.2.2.1 r5.2.2.2.2.1 r5.2.2.2.2.2) fun r6 =>
    (some (r5.1, r5.2.1, r6.1, r6.2.1, r5.2.2.1, r5.2.2.2.1, r6.2.2.1, r6.2.2.2.1))
  else
  Option.bind (Fbig_Int_Quo_gsh k false r4.1 r4.2.1 r4.2.2.2.2.1 r4.2.2.2.2.2) fun r5 =>
  Option.bind (Fbig_Int_Quo_gsh k false r4.2.2.1 r4.2.2.2.1 r5.2.2.2.2.1 r5.2.2.2.2.2) fun r6 =>
  (some (r5.1, r5.2.1, r6.1, r6.2.1, r5.2.2.1, r5.2.2.2.1, r6.2.2.1, r6.2.2.2.1))
def Fbig_Rat_frac_xda : Nat → Bool → Bool → Bool → List Int → Bool → List Int → Option (Bool × List Int × Bool × List Int × Bool × List Int × Bool × List Int)
  | 0, _, _, _, _, _, _ => none
  | k + 1, z0, z1, n0, n1, d0, d1 => bbig_Rat_frac_xda k z0 z1 n0 n1 d0 d1
def shbig_Rat_frac_xda : FS := { vs := [.a (.ptr 0 0 0), .a (.ptr 1 0 0), .a (.ptr 2 0 0)], bs := [.raw [[.lf .bool, .snil 1 72, .lf .bool, .snil 1 72]] 4 100 true false, .raw [[.lf .bool, .lf (.sl (.int .u32))]] 2 98 true false, .raw [[.lf .bool, .lf (.sl (.int .u32))]] 2 98 true false] }
def rsbig_Rat_frac_xda : List FS := [{ vs := [.a (.ptr 0 0 0)], bs := [.raw [[.lf .bool, .lf (.sl (.int .u32)), .lf .bool, .lf (.sl (.int .u32))]] 4 100 true false, .raw [[.lf .bool, .lf (.sl (.int .u32))]] 2 98 true false, .raw [[.lf .bool, .lf (.sl (.int .u32))]] 2 98 true false] }]
def Ibig_Rat_frac_xda (k : Nat) : Inst := ⟨88, shbig_Rat_frac_xda, rsbig_Rat_frac_xda, fun x => Fbig_Rat_frac_xda k x.1 x.2.1 x.2.2.1 x.2.2.2.1 x.2.2.2.2.1 x.2.2.2.2.2⟩
theorem albig_Rat_frac_xda (k : Nat) : AllI (call cf k) [Ibig_Gcd_ddu k, Ibig_Int_Quo_gsh k] := And.intro (okbig_Gcd_ddu k) (And.intro (okbig_Int_Quo_gsh k) (True.intro))
theorem anbig_Rat_frac_xda (k : Nat) : LAll (LOk (R := DS FS.D rsbig_Rat_frac_xda) (fun b _ σ K => LOt Ty (kps 88) 3 b σ K []) cf (call cf k) (cf.keep 88) Try.f88.ntmps k shbig_Rat_frac_xda.bs.length) 0 (bd Try.f88) :=
  And.intro (True.intro) (And.intro (True.intro) (And.intro (And.intro (True.intro) (And.intro (True.intro) (True.intro))) (And.intro (True.intro) (And.intro (True.intro) (And.intro (True.intro) (And.intro (True.intro) (And.intro (True.intro) (True.intro))))))))
theorem stbig_Rat_frac_xda (k : Nat) (x : shbig_Rat_frac_xda.D) : Fbig_Rat_frac_xda (k + 1) x.1 x.2.1 x.2.2.1 x.2.2.2.1 x.2.2.2.2.1 x.2.2.2.2.2 = body2 cf (fun f a b K => COt f a b K [Ibig_Gcd_ddu k, Ibig_Int_Quo_gsh k]) (fun b _ σ K => LOt Ty (kps 88) 3 b σ K []) 88 Try.f88.ntmps Try.f88.results.toList (bd Try.f88) (shbig_Rat_frac_xda.enc x).1 (shbig_Rat_frac_xda.enc x).2 (putS FS.dec rsbig_Rat_frac_xda) := by kernel_rfl
theorem okbig_Rat_frac_xda : ∀ k, InstOk (call cf k) (Ibig_Rat_frac_xda k)
  | 0 => fun x y e => absurd (show (none : Option _) = some y from e) (by simp)
  | k + 1 => inst_ok (c := cf) (k := k) (f := 88) (fn := Try.f88) (body := bd Try.f88) (sh := shbig_Rat_frac_xda) (os := rsbig_Rat_frac_xda) rfl Try.func88 rfl ⟨rfl, Nat.le_of_ble_eq_true rfl⟩ (COt_ok (albig_Rat_frac_xda k)) (anbig_Rat_frac_xda k) (fun x => Fbig_Rat_frac_xda (k + 1) x.1 x.2.1 x.2.2.1 x.2.2.2.1 x.2.2.2.2.1 x.2.2.2.2.2) (stbig_Rat_frac_xda k)

/-! shunt/big.Frac -/
def bbig_Frac_ddu (k : Nat) (n0 : Bool) (n1 : List Int) (d0 : Bool) (d1 : List Int) : Option (Bool × List Int × Bool × List Int × Bool × List Int × Bool × List Int) :=
  Option.bind (Fbig_Rat_frac_xda k false false n0 n1 d0 d1) fun r4 =>
  (some (r4.2.2.2.2.1, r4.2.2.2.2.2.1, r4.2.2.2.2.2.2.1, r4.2.2.2.2.2.2.2, r4.1, r4.2.1, r4.2.2.1, r4.2.2.2.1))
def Fbig_Frac_ddu : Nat → Bool → List Int → Bool → List Int → Option (Bool × List Int × Bool × List Int × Bool × List Int × Bool × List Int)
  | 0, _, _, _, _ => none
  | k + 1, n0, n1, d0, d1 => bbig_Frac_ddu k n0 n1 d0 d1
def shbig_Frac_ddu : FS := { vs := [.a (.ptr 0 0 0), .a (.ptr 1 0 0)], bs := [.raw [[.lf .bool, .lf (.sl (.int .u32))]] 2 98 true false, .raw [[.lf .bool, .lf (.sl (.int .u32))]] 2 98 true false] }
def rsbig_Frac_ddu : List FS := [{ vs := [.a (.ptr 2 0 0)], bs := [.raw [[.lf .bool, .lf (.sl (.int .u32))]] 2 98 true false, .raw [[.lf .bool, .lf (.sl (.int .u32))]] 2 98 true false, .raw [[.lf .bool, .lf (.sl (.int .u32)), .lf .bool, .lf (.sl (.int .u32))]] 4 100 true false] }]
def Ibig_Frac_ddu (k : Nat) : Inst := ⟨72, shbig_Frac_ddu, rsbig_Frac_ddu, fun x => Fbig_Frac_ddu k x.1 x.2.1 x.2.2.1 x.2.2.2⟩
theorem albig_Frac_ddu (k : Nat) : AllI (call cf k) [Ibig_Rat_frac_xda k] := And.intro (okbig_Rat_frac_xda k) (True.intro)
theorem anbig_Frac_ddu (k : Nat) : LAll (LOk (R := DS FS.D rsbig_Frac_ddu) (fun b _ σ K => LOt Ty (kps 72) 2 b σ K []) cf (call cf k) (cf.keep 72) Try.f72.ntmps k shbig_Frac_ddu.bs.length) 0 (bd Try.f72) :=
  And.intro (True.intro) (And.intro (True.intro) (True.intro))
theorem stbig_Frac_ddu (k : Nat) (x : shbig_Frac_ddu.D) : Fbig_Frac_ddu (k + 1) x.1 x.2.1 x.2.2.1 x.2.2.2 = body2 cf (fun f a b K => COt f a b K [Ibig_Rat_frac_xda k]) (fun b _ σ K => LOt Ty (kps 72) 2 b σ K []) 72 Try.f72.ntmps Try.f72.results.toList (bd Try.f72) (shbig_Frac_ddu.enc x).1 (shbig_Frac_ddu.enc x).2 (putS FS.dec rsbig_Frac_ddu) := by kernel_rfl
theorem okbig_Frac_ddu : ∀ k, InstOk (call cf k) (Ibig_Frac_ddu k)
  | 0 => fun x y e => absurd (show (none : Option _) = some y from e) (by simp)
  | k + 1 => inst_ok (c := cf) (k := k) (f := 72) (fn := Try.f72) (body := bd Try.f72) (sh := shbig_Frac_ddu) (os := rsbig_Frac_ddu) rfl Try.func72 rfl ⟨rfl, Nat.le_of_ble_eq_true rfl⟩ (COt_ok (albig_Frac_ddu k)) (anbig_Frac_ddu k) (fun x => Fbig_Frac_ddu (k + 1) x.1 x.2.1 x.2.2.1 x.2.2.2) (stbig_Frac_ddu k)

/-! shunt/num.frac -/
def bnum_frac (k : Nat) (n0 : Int) (n1 : Int) : Option (Bool × List Int × Bool × List Int) :=
  Option.bind (Fbig_Ten k (max n1 (IntKind.wrap .i64 ((0 : Int) - n1)))) fun r2 =>
  if ((decide (n1 < (0 : Int))) = true) then
    Option.bind (Fbig_NewInt k n0) fun r3 =>
    Option.bind (Fbig_Frac_ddu k r3.1 r3.2 r2.1 r2.2) fun r4 =>
    (some (r4.2.2.2.2.1, r4.2.2.2.2.2.1, r4.2.2.2.2.2.2.1, r4.2.2.2.2.2.2.2))
  else
  Option.bind (Fbig_NewInt k n0) fun r3 =>
  Option.bind (Fbig_Int_Mul_jod k r2.1 r2.2 r3.1 r3.2) fun r4 =>
  Option.bind (Fbig_NewInt k (1 : Int)) fun r5 =>
  Option.bind (Fbig_Frac_ddu k r4.1 r4.2.1 r5.1 r5.2) fun r6 =>
  (some (r6.2.2.2.2.1, r6.2.2.2.2.2.1, r6.2.2.2.2.2.2.1, r6.2.2.2.2.2.2.2))
def Fnum_frac : Nat → Int → Int → Option (Bool × List Int × Bool × List Int)
  | 0, _, _ => none
  | k + 1, n0, n1 => bnum_frac k n0 n1
def shnum_frac : FS := { vs := [.g [.lf (.int .i64), .lf (.int .i64)]], bs := [] }
def rsnum_frac : List FS := [{ vs := [.a (.ptr 0 0 0)], bs := [.raw [[.lf .bool, .lf (.sl (.int .u32)), .lf .bool, .lf (.sl (.int .u32))]] 4 100 true false] }]
def Inum_frac (k : Nat) : Inst := ⟨59, shnum_frac, rsnum_frac, fun x => Fnum_frac k x.1 x.2⟩
theorem alnum_frac (k : Nat) : AllI (call cf k) [Ibig_Ten k, Ibig_NewInt k, Ibig_Frac_ddu k, Ibig_Int_Mul_jod k] := And.intro (okbig_Ten k) (And.intro (okbig_NewInt k) (And.intro (okbig_Frac_ddu k) (And.intro (okbig_Int_Mul_jod k) (True.intro))))
theorem annum_frac (k : Nat) : LAll (LOk (R := DS FS.D rsnum_frac) (fun b _ σ K => LOt Ty (kps 59) 0 b σ K []) cf (call cf k) (cf.keep 59) Try.f59.ntmps k shnum_frac.bs.length) 0 (bd Try.f59) :=
  And.intro (True.intro) (And.intro (True.intro) (And.intro (And.intro (True.intro) (And.intro (And.intro (True.intro) (True.intro)) (True.intro))) (And.intro (True.intro) (True.intro))))
theorem stnum_frac (k : Nat) (x : shnum_frac.D) : Fnum_frac (k + 1) x.1 x.2 = body2 cf (fun f a b K => COt f a b K [Ibig_Ten k, Ibig_NewInt k, Ibig_Frac_ddu k, Ibig_Int_Mul_jod k]) (fun b _ σ K => LOt Ty (kps 59) 0 b σ K []) 59 Try.f59.ntmps Try.f59.results.toList (bd Try.f59) (shnum_frac.enc x).1 (shnum_frac.enc x).2 (putS FS.dec rsnum_frac) := by kernel_rfl
theorem oknum_frac : ∀ k, InstOk (call cf k) (Inum_frac k)
  | 0 => fun x y e => absurd (show (none : Option _) = some y from e) (by simp)
  | k + 1 => inst_ok (c := cf) (k := k) (f := 59) (fn := Try.f59) (body := bd Try.f59) (sh := shnum_frac) (os := rsnum_frac) rfl Try.func59 rfl ⟨rfl, Nat.le_of_ble_eq_true rfl⟩ (COt_ok (alnum_frac k)) (annum_frac k) (fun x => Fnum_frac (k + 1) x.1 x.2) (stnum_frac k)

/-! shunt/big.Of -/
def bbig_Of (k : Nat) (neg : Bool) (w : List Int) : Option (Bool × List Int) :=
  if (((0 + (List.length w)) * 4) ≤ 140737488355328) then
    if ((0 + (0 + (List.length w))) ≤ (List.length ((List.take 0 []) ++ w))) then
      Option.bind (Fbig_trim k (List.take (0 + (List.length w)) ((List.take 0 []) ++ w))) fun r3 =>
      if (neg = true) then
        (some ((decide ((((List.length r3) : Nat) : Int) > (0 : Int))), r3))
      else
      (some (false, r3))
    else
    none
  else
  none
def Fbig_Of : Nat → Bool → List Int → Option (Bool × List Int)
  | 0, _, _ => none
  | k + 1, neg, w => bbig_Of k neg w
def shbig_Of : FS := { vs := [.a (.lf .bool), .a (.lf (.sl (.int .u32)))], bs := [] }
def rsbig_Of : List FS := [{ vs := [.a (.ptr 0 0 0)], bs := [.raw [[.lf .bool, .lf (.sl (.int .u32))]] 2 98 true false] }]
def Ibig_Of (k : Nat) : Inst := ⟨99, shbig_Of, rsbig_Of, fun x => Fbig_Of k x.1 x.2⟩
theorem albig_Of (k : Nat) : AllI (call cf k) [Ibig_trim k] := And.intro (okbig_trim k) (True.intro)
theorem anbig_Of (k : Nat) : LAll (LOk (R := DS FS.D rsbig_Of) (fun b _ σ K => LOt Ty (kps 99) 0 b σ K []) cf (call cf k) (cf.keep 99) Try.f99.ntmps k shbig_Of.bs.length) 0 (bd Try.f99) :=
  And.intro (True.intro) (And.intro (True.intro) (And.intro (True.intro) (And.intro (True.intro) (True.intro))))
theorem stbig_Of (k : Nat) (x : shbig_Of.D) : Fbig_Of (k + 1) x.1 x.2 = body2 cf (fun f a b K => COt f a b K [Ibig_trim k]) (fun b _ σ K => LOt Ty (kps 99) 0 b σ K []) 99 Try.f99.ntmps Try.f99.results.toList (bd Try.f99) (shbig_Of.enc x).1 (shbig_Of.enc x).2 (putS FS.dec rsbig_Of) := by kernel_rfl
theorem okbig_Of : ∀ k, InstOk (call cf k) (Ibig_Of k)
  | 0 => fun x y e => absurd (show (none : Option _) = some y from e) (by simp)
  | k + 1 => inst_ok (c := cf) (k := k) (f := 99) (fn := Try.f99) (body := bd Try.f99) (sh := shbig_Of) (os := rsbig_Of) rfl Try.func99 rfl ⟨rfl, Nat.le_of_ble_eq_true rfl⟩ (COt_ok (albig_Of k)) (anbig_Of k) (fun x => Fbig_Of (k + 1) x.1 x.2) (stbig_Of k)

/-! (*shunt/big.Rat).Num -/
def bbig_Rat_Num_plq (k : Nat) (z0 : Bool) (z1 : List Int) (z2 : Bool) (z3 : List Int) : Option (Bool × List Int × Bool × List Int × Bool × List Int) :=
  Option.bind (Fbig_Of k z0 z1) fun r3 =>
  (some (z0, z1, z2, z3, r3.1, r3.2))
def Fbig_Rat_Num_plq : Nat → Bool → List Int → Bool → List Int → Option (Bool × List Int × Bool × List Int × Bool × List Int)
  | 0, _, _, _, _ => none
  | k + 1, z0, z1, z2, z3 => bbig_Rat_Num_plq k z0 z1 z2 z3
def shbig_Rat_Num_plq : FS := { vs := [.a (.ptr 0 0 0)], bs := [.raw [[.lf .bool, .lf (.sl (.int .u32)), .lf .bool, .lf (.sl (.int .u32))]] 4 100 true false] }
def rsbig_Rat_Num_plq : List FS := [{ vs := [.a (.ptr 1 0 0)], bs := [.raw [[.lf .bool, .lf (.sl (.int .u32)), .lf .bool, .lf (.sl (.int .u32))]] 4 100 true false, .raw [[.lf .bool, .lf (.sl (.int .u32))]] 2 98 true false] }]
def Ibig_Rat_Num_plq (k : Nat) : Inst := ⟨91, shbig_Rat_Num_plq, rsbig_Rat_Num_plq, fun x => Fbig_Rat_Num_plq k x.1 x.2.1 x.2.2.1 x.2.2.2⟩
theorem albig_Rat_Num_plq (k : Nat) : AllI (call cf k) [Ibig_Of k] := And.intro (okbig_Of k) (True.intro)
theorem anbig_Rat_Num_plq (k : Nat) : LAll (LOk (R := DS FS.D rsbig_Rat_Num_plq) (fun b _ σ K => LOt Ty (kps 91) 1 b σ K []) cf (call cf k) (cf.keep 91) Try.f91.ntmps k shbig_Rat_Num_plq.bs.length) 0 (bd Try.f91) :=
  And.intro (True.intro) (And.intro (True.intro) (True.intro))
theorem stbig_Rat_Num_plq (k : Nat) (x : shbig_Rat_Num_plq.D) : Fbig_Rat_Num_plq (k + 1) x.1 x.2.1 x.2.2.1 x.2.2.2 = body2 cf (fun f a b K => COt f a b K [Ibig_Of k]) (fun b _ σ K => LOt Ty (kps 91) 1 b σ K []) 91 Try.f91.ntmps Try.f91.results.toList (bd Try.f91) (shbig_Rat_Num_plq.enc x).1 (shbig_Rat_Num_plq.enc x).2 (putS FS.dec rsbig_Rat_Num_plq) := by kernel_rfl
theorem okbig_Rat_Num_plq : ∀ k, InstOk (call cf k) (Ibig_Rat_Num_plq k)
  | 0 => fun x y e => absurd (show (none : Option _) = some y from e) (by simp)
  | k + 1 => inst_ok (c := cf) (k := k) (f := 91) (fn := Try.f91) (body := bd Try.f91) (sh := shbig_Rat_Num_plq) (os := rsbig_Rat_Num_plq) rfl Try.func91 rfl ⟨rfl, Nat.le_of_ble_eq_true rfl⟩ (COt_ok (albig_Rat_Num_plq k)) (anbig_Rat_Num_plq k) (fun x => Fbig_Rat_Num_plq (k + 1) x.1 x.2.1 x.2.2.1 x.2.2.2) (stbig_Rat_Num_plq k)

/-! (*shunt/big.Int).Sign -/
def bbig_Int_Sign_awf (k : Nat) (z0 : Bool) (z1 : List Int) : Option (Int × Bool × List Int) :=
  if (((((List.length z1) : Nat) : Int) == (0 : Int)) = true) then
    (some ((0 : Int), z0, z1))
  else
  if (z0 = true) then
    (some ((-(1 : Int)), z0, z1))
  else
  (some ((1 : Int), z0, z1))
def Fbig_Int_Sign_awf : Nat → Bool → List Int → Option (Int × Bool × List Int)
  | 0, _, _ => none
  | k + 1, z0, z1 => bbig_Int_Sign_awf k z0 z1
def shbig_Int_Sign_awf : FS := { vs := [.a (.ptr 0 0 0)], bs := [.raw [[.lf .bool, .lf (.sl (.int .u32))]] 2 98 true false] }
def rsbig_Int_Sign_awf : List FS := [{ vs := [.a (.lf (.int .i64))], bs := [.raw [[.lf .bool, .lf (.sl (.int .u32))]] 2 98 true false] }]
def Ibig_Int_Sign_awf (k : Nat) : Inst := ⟨100, shbig_Int_Sign_awf, rsbig_Int_Sign_awf, fun x => Fbig_Int_Sign_awf k x.1 x.2⟩
theorem albig_Int_Sign_awf (k : Nat) : AllI (call cf k) [] := True.intro
theorem anbig_Int_Sign_awf (k : Nat) : LAll (LOk (R := DS FS.D rsbig_Int_Sign_awf) (fun b _ σ K => LOt Ty (kps 100) 1 b σ K []) cf (call cf k) (cf.keep 100) Try.f100.ntmps k shbig_Int_Sign_awf.bs.length) 0 (bd Try.f100) :=
  And.intro (True.intro) (And.intro (And.intro (True.intro) (And.intro (And.intro (True.intro) (True.intro)) (And.intro (True.intro) (And.intro (And.intro (True.intro) (True.intro)) (True.intro))))) (And.intro (True.intro) (True.intro)))
theorem stbig_Int_Sign_awf (k : Nat) (x : shbig_Int_Sign_awf.D) : Fbig_Int_Sign_awf (k + 1) x.1 x.2 = body2 cf (fun f a b K => COt f a b K []) (fun b _ σ K => LOt Ty (kps 100) 1 b σ K []) 100 Try.f100.ntmps Try.f100.results.toList (bd Try.f100) (shbig_Int_Sign_awf.enc x).1 (shbig_Int_Sign_awf.enc x).2 (putS FS.dec rsbig_Int_Sign_awf) := by kernel_rfl
theorem okbig_Int_Sign_awf : ∀ k, InstOk (call cf k) (Ibig_Int_Sign_awf k)
  | 0 => fun x y e => absurd (show (none : Option _) = some y from e) (by simp)
  | k + 1 => inst_ok (c := cf) (k := k) (f := 100) (fn := Try.f100) (body := bd Try.f100) (sh := shbig_Int_Sign_awf) (os := rsbig_Int_Sign_awf) rfl Try.func100 rfl ⟨rfl, Nat.le_of_ble_eq_true rfl⟩ (COt_ok (albig_Int_Sign_awf k)) (anbig_Int_Sign_awf k) (fun x => Fbig_Int_Sign_awf (k + 1) x.1 x.2) (stbig_Int_Sign_awf k)

/-! (*shunt/big.Int).Words -/
def bbig_Int_Words_awf (k : Nat) (z0 : Bool) (z1 : List Int) : Option (Nat × Bool × List Int × List Int) :=
  if (((0 + (List.length z1)) * 4) ≤ 140737488355328) then
    (some ((0 + (List.length z1)), z0, z1, ((List.take 0 []) ++ z1)))
  else
  none
def Fbig_Int_Words_awf : Nat → Bool → List Int → Option (Nat × Bool × List Int × List Int)
  | 0, _, _ => none
  | k + 1, z0, z1 => bbig_Int_Words_awf k z0 z1
def shbig_Int_Words_awf : FS := { vs := [.a (.ptr 0 0 0)], bs := [.raw [[.lf .bool, .lf (.sl (.int .u32))]] 2 98 true false] }
def rsbig_Int_Words_awf : List FS := [{ vs := [.a (.smz 1)], bs := [.raw [[.lf .bool, .lf (.sl (.int .u32))]] 2 98 true false, .arr (.int .u32) 1 72 false] }]
def Ibig_Int_Words_awf (k : Nat) : Inst := ⟨101, shbig_Int_Words_awf, rsbig_Int_Words_awf, fun x => Fbig_Int_Words_awf k x.1 x.2⟩
theorem albig_Int_Words_awf (k : Nat) : AllI (call cf k) [] := True.intro
theorem anbig_Int_Words_awf (k : Nat) : LAll (LOk (R := DS FS.D rsbig_Int_Words_awf) (fun b _ σ K => LOt Ty (kps 101) 1 b σ K []) cf (call cf k) (cf.keep 101) Try.f101.ntmps k shbig_Int_Words_awf.bs.length) 0 (bd Try.f101) :=
  And.intro (True.intro) (And.intro (True.intro) (True.intro))
theorem stbig_Int_Words_awf (k : Nat) (x : shbig_Int_Words_awf.D) : Fbig_Int_Words_awf (k + 1) x.1 x.2 = body2 cf (fun f a b K => COt f a b K []) (fun b _ σ K => LOt Ty (kps 101) 1 b σ K []) 101 Try.f101.ntmps Try.f101.results.toList (bd Try.f101) (shbig_Int_Words_awf.enc x).1 (shbig_Int_Words_awf.enc x).2 (putS FS.dec rsbig_Int_Words_awf) := by kernel_rfl
theorem okbig_Int_Words_awf : ∀ k, InstOk (call cf k) (Ibig_Int_Words_awf k)
  | 0 => fun x y e => absurd (show (none : Option _) = some y from e) (by simp)
  | k + 1 => inst_ok (c := cf) (k := k) (f := 101) (fn := Try.f101) (body := bd Try.f101) (sh := shbig_Int_Words_awf) (os := rsbig_Int_Words_awf) rfl Try.func101 rfl ⟨rfl, Nat.le_of_ble_eq_true rfl⟩ (COt_ok (albig_Int_Words_awf k)) (anbig_Int_Words_awf k) (fun x => Fbig_Int_Words_awf (k + 1) x.1 x.2) (stbig_Int_Words_awf k)

/-! shunt/wide.Give -/
def bwide_Give_awf (k : Nat) (z0 : Bool) (z1 : List Int) : Option (Bool × Nat × Bool × List Int × List Int) :=
  Option.bind (Fbig_Int_Sign_awf k z0 z1) fun r4 =>
  Option.bind (Fbig_Int_Words_awf k r4.2.1 r4.2.2) fun r5 =>
  (some ((decide (r4.1 < (0 : Int))), r5.1, r5.2.1, r5.2.2.1, r5.2.2.2))
def Fwide_Give_awf : Nat → Bool → List Int → Option (Bool × Nat × Bool × List Int × List Int)
  | 0, _, _ => none
  | k + 1, z0, z1 => bwide_Give_awf k z0 z1
def shwide_Give_awf : FS := { vs := [.a (.ptr 0 0 0)], bs := [.raw [[.lf .bool, .lf (.sl (.int .u32))]] 2 98 true false] }
def rswide_Give_awf : List FS := [{ vs := [.g [.lf .bool, .smz 1]], bs := [.raw [[.lf .bool, .lf (.sl (.int .u32))]] 2 98 true false, .arr (.int .u32) 1 72 false] }]
def Iwide_Give_awf (k : Nat) : Inst := ⟨74, shwide_Give_awf, rswide_Give_awf, fun x => Fwide_Give_awf k x.1 x.2⟩
theorem alwide_Give_awf (k : Nat) : AllI (call cf k) [Ibig_Int_Sign_awf k, Ibig_Int_Words_awf k] := And.intro (okbig_Int_Sign_awf k) (And.intro (okbig_Int_Words_awf k) (True.intro))
theorem anwide_Give_awf (k : Nat) : LAll (LOk (R := DS FS.D rswide_Give_awf) (fun b _ σ K => LOt Ty (kps 74) 1 b σ K []) cf (call cf k) (cf.keep 74) Try.f74.ntmps k shwide_Give_awf.bs.length) 0 (bd Try.f74) :=
  And.intro (True.intro) (And.intro (True.intro) (True.intro))
theorem stwide_Give_awf (k : Nat) (x : shwide_Give_awf.D) : Fwide_Give_awf (k + 1) x.1 x.2 = body2 cf (fun f a b K => COt f a b K [Ibig_Int_Sign_awf k, Ibig_Int_Words_awf k]) (fun b _ σ K => LOt Ty (kps 74) 1 b σ K []) 74 Try.f74.ntmps Try.f74.results.toList (bd Try.f74) (shwide_Give_awf.enc x).1 (shwide_Give_awf.enc x).2 (putS FS.dec rswide_Give_awf) := by kernel_rfl
theorem okwide_Give_awf : ∀ k, InstOk (call cf k) (Iwide_Give_awf k)
  | 0 => fun x y e => absurd (show (none : Option _) = some y from e) (by simp)
  | k + 1 => inst_ok (c := cf) (k := k) (f := 74) (fn := Try.f74) (body := bd Try.f74) (sh := shwide_Give_awf) (os := rswide_Give_awf) rfl Try.func74 rfl ⟨rfl, Nat.le_of_ble_eq_true rfl⟩ (COt_ok (alwide_Give_awf k)) (anwide_Give_awf k) (fun x => Fwide_Give_awf (k + 1) x.1 x.2) (stwide_Give_awf k)

/-! (*shunt/big.Rat).Denom -/
def bbig_Rat_Denom_plq (k : Nat) (z0 : Bool) (z1 : List Int) (z2 : Bool) (z3 : List Int) : Option (Bool × List Int × Bool × List Int × Bool × List Int) :=
  if (((((List.length z3) : Nat) : Int) == (0 : Int)) = true) then
    Option.bind (Fbig_NewInt k (1 : Int)) fun r5 =>
    (some (z0, z1, z2, z3, r5.1, r5.2))
  else
  Option.bind (Fbig_Of k false z3) fun r5 =>
  (some (z0, z1, z2, z3, r5.1, r5.2))
def Fbig_Rat_Denom_plq : Nat → Bool → List Int → Bool → List Int → Option (Bool × List Int × Bool × List Int × Bool × List Int)
  | 0, _, _, _, _ => none
  | k + 1, z0, z1, z2, z3 => bbig_Rat_Denom_plq k z0 z1 z2 z3
def shbig_Rat_Denom_plq : FS := { vs := [.a (.ptr 0 0 0)], bs := [.raw [[.lf .bool, .lf (.sl (.int .u32)), .lf .bool, .lf (.sl (.int .u32))]] 4 100 true false] }
def rsbig_Rat_Denom_plq : List FS := [{ vs := [.a (.ptr 1 0 0)], bs := [.raw [[.lf .bool, .lf (.sl (.int .u32)), .lf .bool, .lf (.sl (.int .u32))]] 4 100 true false, .raw [[.lf .bool, .lf (.sl (.int .u32))]] 2 98 true false] }]
def Ibig_Rat_Denom_plq (k : Nat) : Inst := ⟨85, shbig_Rat_Denom_plq, rsbig_Rat_Denom_plq, fun x => Fbig_Rat_Denom_plq k x.1 x.2.1 x.2.2.1 x.2.2.2⟩
theorem albig_Rat_Denom_plq (k : Nat) : AllI (call cf k) [Ibig_NewInt k, Ibig_Of k] := And.intro (okbig_NewInt k) (And.intro (okbig_Of k) (True.intro))
theorem anbig_Rat_Denom_plq (k : Nat) : LAll (LOk (R := DS FS.D rsbig_Rat_Denom_plq) (fun b _ σ K => LOt Ty (kps 85) 1 b σ K []) cf (call cf k) (cf.keep 85) Try.f85.ntmps k shbig_Rat_Denom_plq.bs.length) 0 (bd Try.f85) :=
  And.intro (True.intro) (And.intro (And.intro (True.intro) (And.intro (And.intro (True.intro) (True.intro)) (True.intro))) (And.intro (True.intro) (True.intro)))
theorem stbig_Rat_Denom_plq (k : Nat) (x : shbig_Rat_Denom_plq.D) : Fbig_Rat_Denom_plq (k + 1) x.1 x.2.1 x.2.2.1 x.2.2.2 = body2 cf (fun f a b K => COt f a b K [Ibig_NewInt k, Ibig_Of k]) (fun b _ σ K => LOt Ty (kps 85) 1 b σ K []) 85 Try.f85.ntmps Try.f85.results.toList (bd Try.f85) (shbig_Rat_Denom_plq.enc x).1 (shbig_Rat_Denom_plq.enc x).2 (putS FS.dec rsbig_Rat_Denom_plq) := by kernel_rfl
theorem okbig_Rat_Denom_plq : ∀ k, InstOk (call cf k) (Ibig_Rat_Denom_plq k)
  | 0 => fun x y e => absurd (show (none : Option _) = some y from e) (by simp)
  | k + 1 => inst_ok (c := cf) (k := k) (f := 85) (fn := Try.f85) (body := bd Try.f85) (sh := shbig_Rat_Denom_plq) (os := rsbig_Rat_Denom_plq) rfl Try.func85 rfl ⟨rfl, Nat.le_of_ble_eq_true rfl⟩ (COt_ok (albig_Rat_Denom_plq k)) (anbig_Rat_Denom_plq k) (fun x => Fbig_Rat_Denom_plq (k + 1) x.1 x.2.1 x.2.2.1 x.2.2.2) (stbig_Rat_Denom_plq k)

/-! shunt/wide.Frac -/
def bwide_Frac_plq (k : Nat) (z0 : Bool) (z1 : List Int) (z2 : Bool) (z3 : List Int) : Option (Bool × List Int × Bool × List Int × Bool × List Int × Bool × List Int) :=
  Option.bind (Fbig_Rat_Num_plq k z0 z1 z2 z3) fun r3 =>
  Option.bind (Fwide_Give_awf k r3.2.2.2.2.1 r3.2.2.2.2.2) fun r4 =>
  Option.bind (Fbig_Rat_Denom_plq k r3.1 r3.2.1 r3.2.2.1 r3.2.2.2.1) fun r5 =>
  Option.bind (Fwide_Give_awf k r5.2.2.2.2.1 r5.2.2.2.2.2) fun r6 =>
  if ((0 + r4.2.1) ≤ (List.length r4.2.2.2.2)) then
    if ((0 + r6.2.1) ≤ (List.length r6.2.2.2.2)) then
      (some (r4.1, (List.take r4.2.1 r4.2.2.2.2), r6.1, (List.take r6.2.1 r6.2.2.2.2), r5.1, r5.2.1, r5.2.2.1, r5.2.2.2.1))
    else
    none
  else
  none
def Fwide_Frac_plq : Nat → Bool → List Int → Bool → List Int → Option (Bool × List Int × Bool × List Int × Bool × List Int × Bool × List Int)
  | 0, _, _, _, _ => none
  | k + 1, z0, z1, z2, z3 => bwide_Frac_plq k z0 z1 z2 z3
def shwide_Frac_plq : FS := { vs := [.a (.ptr 0 0 0)], bs := [.raw [[.lf .bool, .lf (.sl (.int .u32)), .lf .bool, .lf (.sl (.int .u32))]] 4 100 true false] }
def rswide_Frac_plq : List FS := [{ vs := [.g [.lf .bool, .lf (.sl (.int .u32)), .lf .bool, .lf (.sl (.int .u32))]], bs := [.raw [[.lf .bool, .lf (.sl (.int .u32)), .lf .bool, .lf (.sl (.int .u32))]] 4 100 true false] }]
def Iwide_Frac_plq (k : Nat) : Inst := ⟨57, shwide_Frac_plq, rswide_Frac_plq, fun x => Fwide_Frac_plq k x.1 x.2.1 x.2.2.1 x.2.2.2⟩
theorem alwide_Frac_plq (k : Nat) : AllI (call cf k) [Ibig_Rat_Num_plq k, Iwide_Give_awf k, Ibig_Rat_Denom_plq k] := And.intro (okbig_Rat_Num_plq k) (And.intro (okwide_Give_awf k) (And.intro (okbig_Rat_Denom_plq k) (True.intro)))
theorem anwide_Frac_plq (k : Nat) : LAll (LOk (R := DS FS.D rswide_Frac_plq) (fun b _ σ K => LOt Ty (kps 57) 1 b σ K []) cf (call cf k) (cf.keep 57) Try.f57.ntmps k shwide_Frac_plq.bs.length) 0 (bd Try.f57) :=
  And.intro (True.intro) (And.intro (True.intro) (True.intro))
theorem stwide_Frac_plq (k : Nat) (x : shwide_Frac_plq.D) : Fwide_Frac_plq (k + 1) x.1 x.2.1 x.2.2.1 x.2.2.2 = body2 cf (fun f a b K => COt f a b K [Ibig_Rat_Num_plq k, Iwide_Give_awf k, Ibig_Rat_Denom_plq k]) (fun b _ σ K => LOt Ty (kps 57) 1 b σ K []) 57 Try.f57.ntmps Try.f57.results.toList (bd Try.f57) (shwide_Frac_plq.enc x).1 (shwide_Frac_plq.enc x).2 (putS FS.dec rswide_Frac_plq) := by kernel_rfl
theorem okwide_Frac_plq : ∀ k, InstOk (call cf k) (Iwide_Frac_plq k)
  | 0 => fun x y e => absurd (show (none : Option _) = some y from e) (by simp)
  | k + 1 => inst_ok (c := cf) (k := k) (f := 57) (fn := Try.f57) (body := bd Try.f57) (sh := shwide_Frac_plq) (os := rswide_Frac_plq) rfl Try.func57 rfl ⟨rfl, Nat.le_of_ble_eq_true rfl⟩ (COt_ok (alwide_Frac_plq k)) (anwide_Frac_plq k) (fun x => Fwide_Frac_plq (k + 1) x.1 x.2.1 x.2.2.1 x.2.2.2) (stwide_Frac_plq k)

/-! shunt/num.Value -/
def bnum_Value (k : Nat) (n0 : Int) (n1 : Int) : Option (Bool × List Int × Bool × List Int × Int) :=
  Option.bind (Fnum_Valid k n0 n1) fun r1 =>
  if ((!r1) = true) then
    (some (false, [], false, [], (30 : Int)))
  else
  Option.bind (Fnum_frac k n0 n1) fun r2 =>
  Option.bind (Fwide_Frac_plq k r2.1 r2.2.1 r2.2.2.1 r2.2.2.2) fun r3 =>
  (some (r3.1, r3.2.1, r3.2.2.1, r3.2.2.2.1, (0 : Int)))
def Fnum_Value : Nat → Int → Int → Option (Bool × List Int × Bool × List Int × Int)
  | 0, _, _ => none
  | k + 1, n0, n1 => bnum_Value k n0 n1
def shnum_Value : FS := { vs := [.g [.lf (.int .i64), .lf (.int .i64)]], bs := [] }
def rsnum_Value : List FS := [{ vs := [.g [.lf .bool, .lf (.sl (.int .u32)), .lf .bool, .lf (.sl (.int .u32))], .a (.lf (.int .i64))], bs := [] }]
def Inum_Value (k : Nat) : Inst := ⟨24, shnum_Value, rsnum_Value, fun x => Fnum_Value k x.1 x.2⟩
theorem alnum_Value (k : Nat) : AllI (call cf k) [Inum_Valid k, Inum_frac k, Iwide_Frac_plq k] := And.intro (oknum_Valid k) (And.intro (oknum_frac k) (And.intro (okwide_Frac_plq k) (True.intro)))
theorem annum_Value (k : Nat) : LAll (LOk (R := DS FS.D rsnum_Value) (fun b _ σ K => LOt Ty (kps 24) 0 b σ K []) cf (call cf k) (cf.keep 24) Try.f24.ntmps k shnum_Value.bs.length) 0 (bd Try.f24) :=
  And.intro (True.intro) (And.intro (And.intro (True.intro) (And.intro (And.intro (True.intro) (True.intro)) (True.intro))) (And.intro (True.intro) (True.intro)))
theorem stnum_Value (k : Nat) (x : shnum_Value.D) : Fnum_Value (k + 1) x.1 x.2 = body2 cf (fun f a b K => COt f a b K [Inum_Valid k, Inum_frac k, Iwide_Frac_plq k]) (fun b _ σ K => LOt Ty (kps 24) 0 b σ K []) 24 Try.f24.ntmps Try.f24.results.toList (bd Try.f24) (shnum_Value.enc x).1 (shnum_Value.enc x).2 (putS FS.dec rsnum_Value) := by kernel_rfl
theorem oknum_Value : ∀ k, InstOk (call cf k) (Inum_Value k)
  | 0 => fun x y e => absurd (show (none : Option _) = some y from e) (by simp)
  | k + 1 => inst_ok (c := cf) (k := k) (f := 24) (fn := Try.f24) (body := bd Try.f24) (sh := shnum_Value) (os := rsnum_Value) rfl Try.func24 rfl ⟨rfl, Nat.le_of_ble_eq_true rfl⟩ (COt_ok (alnum_Value k)) (annum_Value k) (fun x => Fnum_Value (k + 1) x.1 x.2) (stnum_Value k)

/-! shunt/wide.Take -/
def bwide_Take (k : Nat) (a0 : Bool) (a1 : List Int) : Option (Bool × List Int) :=
  Option.bind (Fbig_Of k a0 a1) fun r4 =>
  (some (r4.1, r4.2))
def Fwide_Take : Nat → Bool → List Int → Option (Bool × List Int)
  | 0, _, _ => none
  | k + 1, a0, a1 => bwide_Take k a0 a1
def shwide_Take : FS := { vs := [.g [.lf .bool, .lf (.sl (.int .u32))]], bs := [] }
def rswide_Take : List FS := [{ vs := [.a (.ptr 0 0 0)], bs := [.raw [[.lf .bool, .lf (.sl (.int .u32))]] 2 98 true false] }]
def Iwide_Take (k : Nat) : Inst := ⟨73, shwide_Take, rswide_Take, fun x => Fwide_Take k x.1 x.2⟩
theorem alwide_Take (k : Nat) : AllI (call cf k) [Ibig_Of k] := And.intro (okbig_Of k) (True.intro)
theorem anwide_Take (k : Nat) : LAll (LOk (R := DS FS.D rswide_Take) (fun b _ σ K => LOt Ty (kps 73) 0 b σ K []) cf (call cf k) (cf.keep 73) Try.f73.ntmps k shwide_Take.bs.length) 0 (bd Try.f73) :=
  And.intro (True.intro) (And.intro (True.intro) (True.intro))
theorem stwide_Take (k : Nat) (x : shwide_Take.D) : Fwide_Take (k + 1) x.1 x.2 = body2 cf (fun f a b K => COt f a b K [Ibig_Of k]) (fun b _ σ K => LOt Ty (kps 73) 0 b σ K []) 73 Try.f73.ntmps Try.f73.results.toList (bd Try.f73) (shwide_Take.enc x).1 (shwide_Take.enc x).2 (putS FS.dec rswide_Take) := by kernel_rfl
theorem okwide_Take : ∀ k, InstOk (call cf k) (Iwide_Take k)
  | 0 => fun x y e => absurd (show (none : Option _) = some y from e) (by simp)
  | k + 1 => inst_ok (c := cf) (k := k) (f := 73) (fn := Try.f73) (body := bd Try.f73) (sh := shwide_Take) (os := rswide_Take) rfl Try.func73 rfl ⟨rfl, Nat.le_of_ble_eq_true rfl⟩ (COt_ok (alwide_Take k)) (anwide_Take k) (fun x => Fwide_Take (k + 1) x.1 x.2) (stwide_Take k)

/-! shunt/wide.Rat -/
def bwide_Rat (k : Nat) (r0 : Bool) (r1 : List Int) (r2 : Bool) (r3 : List Int) : Option (Bool × List Int × Bool × List Int) :=
  Option.bind (Fwide_Take k r0 r1) fun r4 =>
  Option.bind (Fwide_Take k r2 r3) fun r5 =>
  Option.bind (Fbig_Frac_ddu k r4.1 r4.2 r5.1 r5.2) fun r6 =>
  (some (r6.2.2.2.2.1, r6.2.2.2.2.2.1, r6.2.2.2.2.2.2.1, r6.2.2.2.2.2.2.2))
def Fwide_Rat : Nat → Bool → List Int → Bool → List Int → Option (Bool × List Int × Bool × List Int)
  | 0, _, _, _, _ => none
  | k + 1, r0, r1, r2, r3 => bwide_Rat k r0 r1 r2 r3
def shwide_Rat : FS := { vs := [.g [.lf .bool, .lf (.sl (.int .u32)), .lf .bool, .lf (.sl (.int .u32))]], bs := [] }
def rswide_Rat : List FS := [{ vs := [.a (.ptr 0 0 0)], bs := [.raw [[.lf .bool, .lf (.sl (.int .u32)), .lf .bool, .lf (.sl (.int .u32))]] 4 100 true false] }]
def Iwide_Rat (k : Nat) : Inst := ⟨46, shwide_Rat, rswide_Rat, fun x => Fwide_Rat k x.1 x.2.1 x.2.2.1 x.2.2.2⟩
theorem alwide_Rat (k : Nat) : AllI (call cf k) [Iwide_Take k, Ibig_Frac_ddu k] := And.intro (okwide_Take k) (And.intro (okbig_Frac_ddu k) (True.intro))
theorem anwide_Rat (k : Nat) : LAll (LOk (R := DS FS.D rswide_Rat) (fun b _ σ K => LOt Ty (kps 46) 0 b σ K []) cf (call cf k) (cf.keep 46) Try.f46.ntmps k shwide_Rat.bs.length) 0 (bd Try.f46) :=
  And.intro (True.intro) (And.intro (True.intro) (True.intro))
theorem stwide_Rat (k : Nat) (x : shwide_Rat.D) : Fwide_Rat (k + 1) x.1 x.2.1 x.2.2.1 x.2.2.2 = body2 cf (fun f a b K => COt f a b K [Iwide_Take k, Ibig_Frac_ddu k]) (fun b _ σ K => LOt Ty (kps 46) 0 b σ K []) 46 Try.f46.ntmps Try.f46.results.toList (bd Try.f46) (shwide_Rat.enc x).1 (shwide_Rat.enc x).2 (putS FS.dec rswide_Rat) := by kernel_rfl
theorem okwide_Rat : ∀ k, InstOk (call cf k) (Iwide_Rat k)
  | 0 => fun x y e => absurd (show (none : Option _) = some y from e) (by simp)
  | k + 1 => inst_ok (c := cf) (k := k) (f := 46) (fn := Try.f46) (body := bd Try.f46) (sh := shwide_Rat) (os := rswide_Rat) rfl Try.func46 rfl ⟨rfl, Nat.le_of_ble_eq_true rfl⟩ (COt_ok (alwide_Rat k)) (anwide_Rat k) (fun x => Fwide_Rat (k + 1) x.1 x.2.1 x.2.2.1 x.2.2.2) (stwide_Rat k)

/-! shunt/wave.value -/
def bwave_value (k : Nat) (n0 : Int) (n1 : Int) : Option (Bool × List Int × Bool × List Int) :=
  Option.bind (Fnum_Value k n0 n1) fun r1 =>
  Option.bind (Fwide_Rat k r1.1 r1.2.1 r1.2.2.1 r1.2.2.2.1) fun r2 =>
  (some (r2.1, r2.2.1, r2.2.2.1, r2.2.2.2))
def Fwave_value : Nat → Int → Int → Option (Bool × List Int × Bool × List Int)
  | 0, _, _ => none
  | k + 1, n0, n1 => bwave_value k n0 n1
def shwave_value : FS := { vs := [.g [.lf (.int .i64), .lf (.int .i64)]], bs := [] }
def rswave_value : List FS := [{ vs := [.a (.ptr 0 0 0)], bs := [.raw [[.lf .bool, .lf (.sl (.int .u32)), .lf .bool, .lf (.sl (.int .u32))]] 4 100 true false] }]
def Iwave_value (k : Nat) : Inst := ⟨51, shwave_value, rswave_value, fun x => Fwave_value k x.1 x.2⟩
theorem alwave_value (k : Nat) : AllI (call cf k) [Inum_Value k, Iwide_Rat k] := And.intro (oknum_Value k) (And.intro (okwide_Rat k) (True.intro))
theorem anwave_value (k : Nat) : LAll (LOk (R := DS FS.D rswave_value) (fun b _ σ K => LOt Ty (kps 51) 0 b σ K []) cf (call cf k) (cf.keep 51) Try.f51.ntmps k shwave_value.bs.length) 0 (bd Try.f51) :=
  And.intro (True.intro) (And.intro (True.intro) (And.intro (True.intro) (True.intro)))
theorem stwave_value (k : Nat) (x : shwave_value.D) : Fwave_value (k + 1) x.1 x.2 = body2 cf (fun f a b K => COt f a b K [Inum_Value k, Iwide_Rat k]) (fun b _ σ K => LOt Ty (kps 51) 0 b σ K []) 51 Try.f51.ntmps Try.f51.results.toList (bd Try.f51) (shwave_value.enc x).1 (shwave_value.enc x).2 (putS FS.dec rswave_value) := by kernel_rfl
theorem okwave_value : ∀ k, InstOk (call cf k) (Iwave_value k)
  | 0 => fun x y e => absurd (show (none : Option _) = some y from e) (by simp)
  | k + 1 => inst_ok (c := cf) (k := k) (f := 51) (fn := Try.f51) (body := bd Try.f51) (sh := shwave_value) (os := rswave_value) rfl Try.func51 rfl ⟨rfl, Nat.le_of_ble_eq_true rfl⟩ (COt_ok (alwave_value k)) (anwave_value k) (fun x => Fwave_value (k + 1) x.1 x.2) (stwave_value k)

/-! shunt/big.NewRat -/
def bbig_NewRat (k : Nat) (n : Int) (d : Int) : Option (Bool × List Int × Bool × List Int) :=
  Option.bind (Fbig_NewInt k n) fun r2 =>
  Option.bind (Fbig_NewInt k d) fun r3 =>
  Option.bind (Fbig_Frac_ddu k r2.1 r2.2 r3.1 r3.2) fun r4 =>
  (some (r4.2.2.2.2.1, r4.2.2.2.2.2.1, r4.2.2.2.2.2.2.1, r4.2.2.2.2.2.2.2))
def Fbig_NewRat : Nat → Int → Int → Option (Bool × List Int × Bool × List Int)
  | 0, _, _ => none
  | k + 1, n, d => bbig_NewRat k n d
def shbig_NewRat : FS := { vs := [.a (.lf (.int .i64)), .a (.lf (.int .i64))], bs := [] }
def rsbig_NewRat : List FS := [{ vs := [.a (.ptr 0 0 0)], bs := [.raw [[.lf .bool, .lf (.sl (.int .u32)), .lf .bool, .lf (.sl (.int .u32))]] 4 100 true false] }]
def Ibig_NewRat (k : Nat) : Inst := ⟨55, shbig_NewRat, rsbig_NewRat, fun x => Fbig_NewRat k x.1 x.2⟩
theorem albig_NewRat (k : Nat) : AllI (call cf k) [Ibig_NewInt k, Ibig_Frac_ddu k] := And.intro (okbig_NewInt k) (And.intro (okbig_Frac_ddu k) (True.intro))
theorem anbig_NewRat (k : Nat) : LAll (LOk (R := DS FS.D rsbig_NewRat) (fun b _ σ K => LOt Ty (kps 55) 0 b σ K []) cf (call cf k) (cf.keep 55) Try.f55.ntmps k shbig_NewRat.bs.length) 0 (bd Try.f55) :=
  And.intro (True.intro) (And.intro (True.intro) (True.intro))
theorem stbig_NewRat (k : Nat) (x : shbig_NewRat.D) : Fbig_NewRat (k + 1) x.1 x.2 = body2 cf (fun f a b K => COt f a b K [Ibig_NewInt k, Ibig_Frac_ddu k]) (fun b _ σ K => LOt Ty (kps 55) 0 b σ K []) 55 Try.f55.ntmps Try.f55.results.toList (bd Try.f55) (shbig_NewRat.enc x).1 (shbig_NewRat.enc x).2 (putS FS.dec rsbig_NewRat) := by kernel_rfl
theorem okbig_NewRat : ∀ k, InstOk (call cf k) (Ibig_NewRat k)
  | 0 => fun x y e => absurd (show (none : Option _) = some y from e) (by simp)
  | k + 1 => inst_ok (c := cf) (k := k) (f := 55) (fn := Try.f55) (body := bd Try.f55) (sh := shbig_NewRat) (os := rsbig_NewRat) rfl Try.func55 rfl ⟨rfl, Nat.le_of_ble_eq_true rfl⟩ (COt_ok (albig_NewRat k)) (anbig_NewRat k) (fun x => Fbig_NewRat (k + 1) x.1 x.2) (stbig_NewRat k)

/-! (*shunt/big.Int).Mul -/
def Lbig_Int_Mul_uiu_2s (k : Nat) (rec : Nat → Int → Int → Int → List Int → Int → Int → List Int → Int → Int → Bool → Bool → List Int → Bool → List Int → Bool → List Int → Bool → List Int → List Int → Option (Nat × Int × Int × List Int × Int × Int × Bool × Bool × List Int × Bool × List Int × Bool × List Int × Bool × List Int × List Int)) (out1 : Nat) (i : Int) (a : Int) (carry : Int) (x : List Int) (x1 : Int) (x2 : Int) (x3 : List Int) (x4 : Int) (x5 : Int) (z : Bool) (x0 : Bool) (x11 : List Int) (x21 : Bool) (x31 : List Int) (y0 : Bool) (y1 : List Int) (y2 : Bool) (y3 : List Int) (outs : List Int) : Option (Nat × Int × Int × List Int × Int × Int × Bool × Bool × List Int × Bool × List Int × Bool × List Int × Bool × List Int × List Int) :=
  if ((decide (x5 < x4)) = true) then
    if ((0 : Int) ≤ x5) then
      Option.bind (x3)[(Int.toNat x5)]? fun x6 =>
      if (((0 : Int) ≤ (IntKind.wrap .i64 (i + x5))) ∧ ((IntKind.wrap .i64 (i + x5)) < ((out1 : Nat) : Int))) then
        Option.bind (outs)[(0 + (Int.toNat (IntKind.wrap .i64 (i + x5))))]? fun x7 =>
        if (((0 : Int) ≤ (IntKind.wrap .i64 (i + x5))) ∧ ((IntKind.wrap .i64 (i + x5)) < ((out1 : Nat) : Int))) then
          Option.bind (outs)[(0 + (Int.toNat (IntKind.wrap .i64 (i + x5))))]? fun x8 =>
          rec out1 i a (Int.fdiv (IntKind.wrap .u64 ((IntKind.wrap .u64 ((IntKind.wrap .u64 ((IntKind.wrap .u64 a) * (IntKind.wrap .u64 x6))) + (IntKind.wrap .u64 x7))) + carry)) (4294967296 : Int)) x x1 x2 x3 x4 (IntKind.wrap .i64 (x5 + (1 : Int))) z x0 x11 x21 x31 y0 y1 y2 y3 (List.set outs (0 + (Int.toNat (IntKind.wrap .i64 (i + x5)))) (IntKind.wrap .u32 (IntKind.wrap .u64 ((IntKind.wrap .u64 ((IntKind.wrap .u64 ((IntKind.wrap .u64 a) * (IntKind.wrap .u64 x6))) + (IntKind.wrap .u64 x7))) + carry))))
        else
        none
      else
      none
    else
    none
  else
  (some (out1, i, carry, x, x1, x2, z, x0, x11, x21, x31, y0, y1, y2, y3, outs))
def Lbig_Int_Mul_uiu_2 (k n : Nat) : Nat → Int → Int → Int → List Int → Int → Int → List Int → Int → Int → Bool → Bool → List Int → Bool → List Int → Bool → List Int → Bool → List Int → List Int → Option (Nat × Int × Int × List Int × Int × Int × Bool × Bool × List Int × Bool × List Int × Bool × List Int × Bool × List Int × List Int) := Nat.rec (fun _ _ _ _ _ _ _ _ _ _ _ _ _ _ _ _ _ _ _ _ => none) (fun _ r => Lbig_Int_Mul_uiu_2s k r) n
def Lbig_Int_Mul_uiu_0s (k : Nat) (rec : Nat → List Int → Int → Int → Bool → Bool → List Int → Bool → List Int → Bool → List Int → Bool → List Int → List Int → Option (Nat × Bool × Bool × List Int × Bool × List Int × Bool × List Int × Bool × List Int × List Int)) (out1 : Nat) (x : List Int) (x1 : Int) (x2 : Int) (z : Bool) (x0 : Bool) (x11 : List Int) (x21 : Bool) (x3 : List Int) (y0 : Bool) (y1 : List Int) (y2 : Bool) (y3 : List Int) (outs : List Int) : Option (Nat × Bool × Bool × List Int × Bool × List Int × Bool × List Int × Bool × List Int × List Int) :=
  if ((decide (x2 < x1)) = true) then
    if ((0 : Int) ≤ x2) then
      Option.bind (x)[(Int.toNat x2)]? fun x4 =>
      Option.bind (Lbig_Int_Mul_uiu_2 k k out1 x2 x4 (0 : Int) x x1 x2 y1 (((List.length y1) : Nat) : Int) (0 : Int) z x0 x11 x21 x3 y0 y1 y2 y3 outs) fun r3 =>
      if (((0 : Int) ≤ (IntKind.wrap .i64 (r3.2.1 + (((List.length r3.2.2.2.2.2.2.2.2.2.2.2.2.1) : Nat) : Int)))) ∧ ((IntKind.wrap .i64 (r3.2.1 + (((List.length r3.2.2.2.2.2.2.2.2.2.2.2.2.1) : Nat) : Int))) < ((r3.1 : Nat) : Int))) then
        Option.bind (r3.2.2.2.2.2.2.2.2.2.2.2.2.2.2.2)[(0 + (Int.toNat (IntKind.wrap .i64 (r3.2.1 + (((List.length r3.2.2.2.2.2.2.2.2.2.2.2.2.1) : Nat) : Int)))))]? fun x5 =>
        rec r3.1 r3.2.2.2.1 r3.2.2.2.2.1 (IntKind.wrap .i64 (r3.2.2.2.2.2.1 + (1 : Int))) r3.2.2.2.2.2.2.1 r3.2.2.2.2.2.2.2.1 r3.2.2.2.2.2.2.2.2.1 r3.2.2.2.2.2.2.2.2.2.1 r3.2.2.2.2.2.2.2.2.2.2.1 r3.2.2.2.2.2.2.2.2.2.2.2.1 r3.2.2.2.2.2.2.2.2.2.2.2.2.1 r3.2.2.2.2.2.2.2.2.2.2.2.2.2.1 r3.2.2.2.2.2.2.2.2.2.2.2.2.2.2.1 (List.set r3.2.2.2.2.2.2.2.2.2.2.2.2.2.2.2 (0 + (Int.toNat (IntKind.wrap .i64 (r3.2.1 + (((List.length r3.2.2.2.2.2.2.2.2.2.2.2.2.1) : Nat) : Int))))) (IntKind.wrap .u32 r3.2.2.1))
      else
      none
    else
    none
  else
  (some (out1, z, x0, x11, x21, x3, y0, y1, y2, y3, outs))
def Lbig_Int_Mul_uiu_0 (k n : Nat) : Nat → List Int → Int → Int → Bool → Bool → List Int → Bool → List Int → Bool → List Int → Bool → List Int → List Int → Option (Nat × Bool × Bool × List Int × Bool × List Int × Bool × List Int × Bool × List Int × List Int) := Nat.rec (fun _ _ _ _ _ _ _ _ _ _ _ _ _ _ => none) (fun _ r => Lbig_Int_Mul_uiu_0s k r) n
def bbig_Int_Mul_uiu (k : Nat) (z : Bool) (x0 : Bool) (x1 : List Int) (x2 : Bool) (x3 : List Int) (y0 : Bool) (y1 : List Int) (y2 : Bool) (y3 : List Int) : Option (Bool × List Int × Bool × List Int × Bool × List Int × Bool × List Int × Bool × List Int) :=
  if (((0 : Int) ≤ (IntKind.wrap .i64 ((((List.length x1) : Nat) : Int) + (((List.length y1) : Nat) : Int)))) ∧ (((IntKind.wrap .i64 ((((List.length x1) : Nat) : Int) + (((List.length y1) : Nat) : Int))) ≤ (IntKind.wrap .i64 ((((List.length x1) : Nat) : Int) + (((List.length y1) : Nat) : Int)))) ∧ (((IntKind.wrap .i64 ((((List.length x1) : Nat) : Int) + (((List.length y1) : Nat) : Int))) * (4 : Int)) ≤ (140737488355328 : Int)))) then
    Option.bind (Lbig_Int_Mul_uiu_0 k k (Int.toNat (IntKind.wrap .i64 ((((List.length x1) : Nat) : Int) + (((List.length y1) : Nat) : Int)))) x1 (((List.length x1) : Nat) : Int) (0 : Int) z x0 x1 x2 x3 y0 y1 y2 y3 (List.replicate (Int.toNat (IntKind.wrap .i64 ((((List.length x1) : Nat) : Int) + (((List.length y1) : Nat) : Int)))) (0 : Int))) fun r3 =>
    if ((0 + r3.1) ≤ (List.length r3.2.2.2.2.2.2.2.2.2.2)) then
      Option.bind (Fbig_Int_set_cvg k (!(r3.2.2.1 == r3.2.2.2.2.2.2.1)) (List.take r3.1 r3.2.2.2.2.2.2.2.2.2.2) r3.2.1) fun r4 =>
      (some (r4.1, r4.2, r3.2.2.1, r3.2.2.2.1, r3.2.2.2.2.1, r3.2.2.2.2.2.1, r3.2.2.2.2.2.2.1, r3.2.2.2.2.2.2.2.1, r3.2.2.2.2.2.2.2.2.1, r3.2.2.2.2.2.2.2.2.2.1))
    else
    none
  else
  none
def Fbig_Int_Mul_uiu : Nat → Bool → Bool → List Int → Bool → List Int → Bool → List Int → Bool → List Int → Option (Bool × List Int × Bool × List Int × Bool × List Int × Bool × List Int × Bool × List Int)
  | 0, _, _, _, _, _, _, _, _, _ => none
  | k + 1, z, x0, x1, x2, x3, y0, y1, y2, y3 => bbig_Int_Mul_uiu k z x0 x1 x2 x3 y0 y1 y2 y3
def shbig_Int_Mul_uiu : FS := { vs := [.a (.ptr 0 0 0), .a (.ptr 1 0 0), .a (.ptr 2 0 0)], bs := [.raw [[.lf .bool, .snil 1 72]] 2 98 true false, .raw [[.lf .bool, .lf (.sl (.int .u32)), .lf .bool, .lf (.sl (.int .u32))]] 4 100 true false, .raw [[.lf .bool, .lf (.sl (.int .u32)), .lf .bool, .lf (.sl (.int .u32))]] 4 100 true false] }
def rsbig_Int_Mul_uiu : List FS := [{ vs := [.a (.ptr 0 0 0)], bs := [.raw [[.lf .bool, .lf (.sl (.int .u32))]] 2 98 true false, .raw [[.lf .bool, .lf (.sl (.int .u32)), .lf .bool, .lf (.sl (.int .u32))]] 4 100 true false, .raw [[.lf .bool, .lf (.sl (.int .u32)), .lf .bool, .lf (.sl (.int .u32))]] 4 100 true false] }]
def Ibig_Int_Mul_uiu (k : Nat) : Inst := ⟨84, shbig_Int_Mul_uiu, rsbig_Int_Mul_uiu, fun x => Fbig_Int_Mul_uiu k x.1 x.2.1 x.2.2.1 x.2.2.2.1 x.2.2.2.2.1 x.2.2.2.2.2.1 x.2.2.2.2.2.2.1 x.2.2.2.2.2.2.2.1 x.2.2.2.2.2.2.2.2⟩
theorem albig_Int_Mul_uiu (k : Nat) : AllI (call cf k) [Ibig_Int_set_cvg k] := And.intro (okbig_Int_set_cvg k) (True.intro)
def hsbig_Int_Mul_uiu_2 : List SS := [{ fr := [(0, .a (.ptr 0 0 0)), (1, .a (.ptr 1 0 0)), (2, .a (.ptr 2 0 0)), (7, .a (.smz 3)), (8, .a (.lf (.int .i64))), (9, .a (.lf (.int .u32))), (10, .a (.lf (.int .u64))), (29, .a (.lf (.sl (.int .u32)))), (30, .a (.lf (.int .i64))), (31, .a (.lf (.int .i64))), (39, .a (.lf (.sl (.int .u32)))), (40, .a (.lf (.int .i64))), (41, .a (.lf (.int .i64)))], mem := [(0, some (.raw [[.lf .bool, .snil 1 72]] 2 98 true false)), (1, some (.raw [[.lf .bool, .lf (.sl (.int .u32)), .lf .bool, .lf (.sl (.int .u32))]] 4 100 true false)), (2, some (.raw [[.lf .bool, .lf (.sl (.int .u32)), .lf .bool, .lf (.sl (.int .u32))]] 4 100 true false)), (3, some (.arr (.int .u32) 1 72 false))], nx := 4 }]
def osbig_Int_Mul_uiu_2 : List OS := [⟨some 2, { fr := [(0, .a (.ptr 0 0 0)), (1, .a (.ptr 1 0 0)), (2, .a (.ptr 2 0 0)), (7, .a (.smz 3)), (8, .a (.lf (.int .i64))), (10, .a (.lf (.int .u64))), (29, .a (.lf (.sl (.int .u32)))), (30, .a (.lf (.int .i64))), (31, .a (.lf (.int .i64)))], mem := [(0, some (.raw [[.lf .bool, .snil 1 72]] 2 98 true false)), (1, some (.raw [[.lf .bool, .lf (.sl (.int .u32)), .lf .bool, .lf (.sl (.int .u32))]] 4 100 true false)), (2, some (.raw [[.lf .bool, .lf (.sl (.int .u32)), .lf .bool, .lf (.sl (.int .u32))]] 4 100 true false)), (3, some (.arr (.int .u32) 1 72 false))], nx := 4 }⟩]
def LIbig_Int_Mul_uiu_2 (k : Nat) : LInst := ⟨2, hsbig_Int_Mul_uiu_2, osbig_Int_Mul_uiu_2, fun x => Lbig_Int_Mul_uiu_2 k k x.1 x.2.1 x.2.2.1 x.2.2.2.1 x.2.2.2.2.1 x.2.2.2.2.2.1 x.2.2.2.2.2.2.1 x.2.2.2.2.2.2.2.1 x.2.2.2.2.2.2.2.2.1 x.2.2.2.2.2.2.2.2.2.1 x.2.2.2.2.2.2.2.2.2.2.1 x.2.2.2.2.2.2.2.2.2.2.2.1 x.2.2.2.2.2.2.2.2.2.2.2.2.1 x.2.2.2.2.2.2.2.2.2.2.2.2.2.1 x.2.2.2.2.2.2.2.2.2.2.2.2.2.2.1 x.2.2.2.2.2.2.2.2.2.2.2.2.2.2.2.1 x.2.2.2.2.2.2.2.2.2.2.2.2.2.2.2.2.1 x.2.2.2.2.2.2.2.2.2.2.2.2.2.2.2.2.2.1 x.2.2.2.2.2.2.2.2.2.2.2.2.2.2.2.2.2.2.1 x.2.2.2.2.2.2.2.2.2.2.2.2.2.2.2.2.2.2.2⟩
theorem anbig_Int_Mul_uiu_2 (k : Nat) : LAll (LOk (R := DS OS.D osbig_Int_Mul_uiu_2) (fun b _ σ K => LOt Ty (kps 84) 3 b σ K []) cf (call cf k) (kps 84) Try.f84.ntmps k 3) 2 (lb Try.f84 1) :=
  And.intro (True.intro) (And.intro (And.intro (True.intro) (True.intro)) (And.intro (And.intro (True.intro) (And.intro (True.intro) (And.intro (True.intro) (True.intro)))) (True.intro)))
theorem stbig_Int_Mul_uiu_2 (k n : Nat) (x : DS SS.D hsbig_Int_Mul_uiu_2) : Lbig_Int_Mul_uiu_2 k (n + 1) x.1 x.2.1 x.2.2.1 x.2.2.2.1 x.2.2.2.2.1 x.2.2.2.2.2.1 x.2.2.2.2.2.2.1 x.2.2.2.2.2.2.2.1 x.2.2.2.2.2.2.2.2.1 x.2.2.2.2.2.2.2.2.2.1 x.2.2.2.2.2.2.2.2.2.2.1 x.2.2.2.2.2.2.2.2.2.2.2.1 x.2.2.2.2.2.2.2.2.2.2.2.2.1 x.2.2.2.2.2.2.2.2.2.2.2.2.2.1 x.2.2.2.2.2.2.2.2.2.2.2.2.2.2.1 x.2.2.2.2.2.2.2.2.2.2.2.2.2.2.2.1 x.2.2.2.2.2.2.2.2.2.2.2.2.2.2.2.2.1 x.2.2.2.2.2.2.2.2.2.2.2.2.2.2.2.2.2.1 x.2.2.2.2.2.2.2.2.2.2.2.2.2.2.2.2.2.2.1 x.2.2.2.2.2.2.2.2.2.2.2.2.2.2.2.2.2.2.2 = encSK SS.enc (fun σ => run2 cf (fun f a b K => COt f a b K [Ibig_Int_set_cvg k]) (fun b _ σ K => LOt Ty (kps 84) 3 b σ K []) Try.f84.ntmps 2 (lb Try.f84 1) σ (nextK Ty (kps 84 2) 3 hsbig_Int_Mul_uiu_2 osbig_Int_Mul_uiu_2 fun x => Lbig_Int_Mul_uiu_2 k n x.1 x.2.1 x.2.2.1 x.2.2.2.1 x.2.2.2.2.1 x.2.2.2.2.2.1 x.2.2.2.2.2.2.1 x.2.2.2.2.2.2.2.1 x.2.2.2.2.2.2.2.2.1 x.2.2.2.2.2.2.2.2.2.1 x.2.2.2.2.2.2.2.2.2.2.1 x.2.2.2.2.2.2.2.2.2.2.2.1 x.2.2.2.2.2.2.2.2.2.2.2.2.1 x.2.2.2.2.2.2.2.2.2.2.2.2.2.1 x.2.2.2.2.2.2.2.2.2.2.2.2.2.2.1 x.2.2.2.2.2.2.2.2.2.2.2.2.2.2.2.1 x.2.2.2.2.2.2.2.2.2.2.2.2.2.2.2.2.1 x.2.2.2.2.2.2.2.2.2.2.2.2.2.2.2.2.2.1 x.2.2.2.2.2.2.2.2.2.2.2.2.2.2.2.2.2.2.1 x.2.2.2.2.2.2.2.2.2.2.2.2.2.2.2.2.2.2.2)) hsbig_Int_Mul_uiu_2 x := by kernel_rfl
theorem lobig_Int_Mul_uiu_2 (k : Nat) : LIOk cf (call cf k) (kps 84) Try.f84.ntmps k 3 2 (lb Try.f84 1) (LIbig_Int_Mul_uiu_2 k) :=
  loop_ok (c := cf) (callF := call cf k) (kp := kps 84) (nt := Try.f84.ntmps) (k := k) (p := 3) (b := 2) (x0 := lb Try.f84 1) (hs := hsbig_Int_Mul_uiu_2) (os := osbig_Int_Mul_uiu_2) (COt_ok (albig_Int_Mul_uiu k)) (anbig_Int_Mul_uiu_2 k) (fun n x => Lbig_Int_Mul_uiu_2 k n x.1 x.2.1 x.2.2.1 x.2.2.2.1 x.2.2.2.2.1 x.2.2.2.2.2.1 x.2.2.2.2.2.2.1 x.2.2.2.2.2.2.2.1 x.2.2.2.2.2.2.2.2.1 x.2.2.2.2.2.2.2.2.2.1 x.2.2.2.2.2.2.2.2.2.2.1 x.2.2.2.2.2.2.2.2.2.2.2.1 x.2.2.2.2.2.2.2.2.2.2.2.2.1 x.2.2.2.2.2.2.2.2.2.2.2.2.2.1 x.2.2.2.2.2.2.2.2.2.2.2.2.2.2.1 x.2.2.2.2.2.2.2.2.2.2.2.2.2.2.2.1 x.2.2.2.2.2.2.2.2.2.2.2.2.2.2.2.2.1 x.2.2.2.2.2.2.2.2.2.2.2.2.2.2.2.2.2.1 x.2.2.2.2.2.2.2.2.2.2.2.2.2.2.2.2.2.2.1 x.2.2.2.2.2.2.2.2.2.2.2.2.2.2.2.2.2.2.2) (fun _ => rfl) (stbig_Int_Mul_uiu_2 k)
def hsbig_Int_Mul_uiu_0 : List SS := [{ fr := [(0, .a (.ptr 0 0 0)), (1, .a (.ptr 1 0 0)), (2, .a (.ptr 2 0 0)), (7, .a (.smz 3)), (29, .a (.lf (.sl (.int .u32)))), (30, .a (.lf (.int .i64))), (31, .a (.lf (.int .i64)))], mem := [(0, some (.raw [[.lf .bool, .snil 1 72]] 2 98 true false)), (1, some (.raw [[.lf .bool, .lf (.sl (.int .u32)), .lf .bool, .lf (.sl (.int .u32))]] 4 100 true false)), (2, some (.raw [[.lf .bool, .lf (.sl (.int .u32)), .lf .bool, .lf (.sl (.int .u32))]] 4 100 true false)), (3, some (.arr (.int .u32) 1 72 false))], nx := 4 }]
def osbig_Int_Mul_uiu_0 : List OS := [⟨some 0, { fr := [(0, .a (.ptr 0 0 0)), (1, .a (.ptr 1 0 0)), (2, .a (.ptr 2 0 0)), (7, .a (.smz 3))], mem := [(0, some (.raw [[.lf .bool, .snil 1 72]] 2 98 true false)), (1, some (.raw [[.lf .bool, .lf (.sl (.int .u32)), .lf .bool, .lf (.sl (.int .u32))]] 4 100 true false)), (2, some (.raw [[.lf .bool, .lf (.sl (.int .u32)), .lf .bool, .lf (.sl (.int .u32))]] 4 100 true false)), (3, some (.arr (.int .u32) 1 72 false))], nx := 4 }⟩]
def LIbig_Int_Mul_uiu_0 (k : Nat) : LInst := ⟨0, hsbig_Int_Mul_uiu_0, osbig_Int_Mul_uiu_0, fun x => Lbig_Int_Mul_uiu_0 k k x.1 x.2.1 x.2.2.1 x.2.2.2.1 x.2.2.2.2.1 x.2.2.2.2.2.1 x.2.2.2.2.2.2.1 x.2.2.2.2.2.2.2.1 x.2.2.2.2.2.2.2.2.1 x.2.2.2.2.2.2.2.2.2.1 x.2.2.2.2.2.2.2.2.2.2.1 x.2.2.2.2.2.2.2.2.2.2.2.1 x.2.2.2.2.2.2.2.2.2.2.2.2.1 x.2.2.2.2.2.2.2.2.2.2.2.2.2⟩
theorem anbig_Int_Mul_uiu_0 (k : Nat) : LAll (LOk (R := DS OS.D osbig_Int_Mul_uiu_0) (fun b _ σ K => LOt Ty (kps 84) 3 b σ K [LIbig_Int_Mul_uiu_2 k]) cf (call cf k) (kps 84) Try.f84.ntmps k 3) 0 (lb Try.f84 0) :=
  And.intro (True.intro) (And.intro (And.intro (True.intro) (True.intro)) (And.intro (And.intro (True.intro) (And.intro (True.intro) (And.intro (And.intro (True.intro) (LOt_ok (c := cf) (callF := call cf k) (kp := kps 84) (nt := Try.f84.ntmps) (k := k) (p := 3) (b := 2) (x0 := lb Try.f84 1) (l := [LIbig_Int_Mul_uiu_2 k]) (And.intro (fun _ => lobig_Int_Mul_uiu_2 k) (True.intro)))) (True.intro)))) (True.intro)))
theorem stbig_Int_Mul_uiu_0 (k n : Nat) (x : DS SS.D hsbig_Int_Mul_uiu_0) : Lbig_Int_Mul_uiu_0 k (n + 1) x.1 x.2.1 x.2.2.1 x.2.2.2.1 x.2.2.2.2.1 x.2.2.2.2.2.1 x.2.2.2.2.2.2.1 x.2.2.2.2.2.2.2.1 x.2.2.2.2.2.2.2.2.1 x.2.2.2.2.2.2.2.2.2.1 x.2.2.2.2.2.2.2.2.2.2.1 x.2.2.2.2.2.2.2.2.2.2.2.1 x.2.2.2.2.2.2.2.2.2.2.2.2.1 x.2.2.2.2.2.2.2.2.2.2.2.2.2 = encSK SS.enc (fun σ => run2 cf (fun f a b K => COt f a b K [Ibig_Int_set_cvg k]) (fun b _ σ K => LOt Ty (kps 84) 3 b σ K [LIbig_Int_Mul_uiu_2 k]) Try.f84.ntmps 0 (lb Try.f84 0) σ (nextK Ty (kps 84 0) 3 hsbig_Int_Mul_uiu_0 osbig_Int_Mul_uiu_0 fun x => Lbig_Int_Mul_uiu_0 k n x.1 x.2.1 x.2.2.1 x.2.2.2.1 x.2.2.2.2.1 x.2.2.2.2.2.1 x.2.2.2.2.2.2.1 x.2.2.2.2.2.2.2.1 x.2.2.2.2.2.2.2.2.1 x.2.2.2.2.2.2.2.2.2.1 x.2.2.2.2.2.2.2.2.2.2.1 x.2.2.2.2.2.2.2.2.2.2.2.1 x.2.2.2.2.2.2.2.2.2.2.2.2.1 x.2.2.2.2.2.2.2.2.2.2.2.2.2)) hsbig_Int_Mul_uiu_0 x := by kernel_rfl
theorem lobig_Int_Mul_uiu_0 (k : Nat) : LIOk cf (call cf k) (kps 84) Try.f84.ntmps k 3 0 (lb Try.f84 0) (LIbig_Int_Mul_uiu_0 k) :=
  loop_ok (c := cf) (callF := call cf k) (kp := kps 84) (nt := Try.f84.ntmps) (k := k) (p := 3) (b := 0) (x0 := lb Try.f84 0) (hs := hsbig_Int_Mul_uiu_0) (os := osbig_Int_Mul_uiu_0) (COt_ok (albig_Int_Mul_uiu k)) (anbig_Int_Mul_uiu_0 k) (fun n x => Lbig_Int_Mul_uiu_0 k n x.1 x.2.1 x.2.2.1 x.2.2.2.1 x.2.2.2.2.1 x.2.2.2.2.2.1 x.2.2.2.2.2.2.1 x.2.2.2.2.2.2.2.1 x.2.2.2.2.2.2.2.2.1 x.2.2.2.2.2.2.2.2.2.1 x.2.2.2.2.2.2.2.2.2.2.1 x.2.2.2.2.2.2.2.2.2.2.2.1 x.2.2.2.2.2.2.2.2.2.2.2.2.1 x.2.2.2.2.2.2.2.2.2.2.2.2.2) (fun _ => rfl) (stbig_Int_Mul_uiu_0 k)
theorem anbig_Int_Mul_uiu (k : Nat) : LAll (LOk (R := DS FS.D rsbig_Int_Mul_uiu) (fun b _ σ K => LOt Ty (kps 84) 3 b σ K [LIbig_Int_Mul_uiu_2 k, LIbig_Int_Mul_uiu_0 k]) cf (call cf k) (cf.keep 84) Try.f84.ntmps k shbig_Int_Mul_uiu.bs.length) 0 (bd Try.f84) :=
  And.intro (True.intro) (And.intro (True.intro) (And.intro (And.intro (True.intro) (LOt_ok (c := cf) (callF := call cf k) (kp := kps 84) (nt := Try.f84.ntmps) (k := k) (p := 3) (b := 0) (x0 := lb Try.f84 0) (l := [LIbig_Int_Mul_uiu_2 k, LIbig_Int_Mul_uiu_0 k]) (And.intro (fun h => absurd (show (2 : Nat) = 0 from h) (by decide)) (And.intro (fun _ => lobig_Int_Mul_uiu_0 k) (True.intro))))) (And.intro (True.intro) (True.intro))))
theorem stbig_Int_Mul_uiu (k : Nat) (x : shbig_Int_Mul_uiu.D) : Fbig_Int_Mul_uiu (k + 1) x.1 x.2.1 x.2.2.1 x.2.2.2.1 x.2.2.2.2.1 x.2.2.2.2.2.1 x.2.2.2.2.2.2.1 x.2.2.2.2.2.2.2.1 x.2.2.2.2.2.2.2.2 = body2 cf (fun f a b K => COt f a b K [Ibig_Int_set_cvg k]) (fun b _ σ K => LOt Ty (kps 84) 3 b σ K [LIbig_Int_Mul_uiu_2 k, LIbig_Int_Mul_uiu_0 k]) 84 Try.f84.ntmps Try.f84.results.toList (bd Try.f84) (shbig_Int_Mul_uiu.enc x).1 (shbig_Int_Mul_uiu.enc x).2 (putS FS.dec rsbig_Int_Mul_uiu) := by kernel_rfl
theorem okbig_Int_Mul_uiu : ∀ k, InstOk (call cf k) (Ibig_Int_Mul_uiu k)
  | 0 => fun x y e => absurd (show (none : Option _) = some y from e) (by simp)
  | k + 1 => inst_ok (c := cf) (k := k) (f := 84) (fn := Try.f84) (body := bd Try.f84) (sh := shbig_Int_Mul_uiu) (os := rsbig_Int_Mul_uiu) rfl Try.func84 rfl ⟨rfl, Nat.le_of_ble_eq_true rfl⟩ (COt_ok (albig_Int_Mul_uiu k)) (anbig_Int_Mul_uiu k) (fun x => Fbig_Int_Mul_uiu (k + 1) x.1 x.2.1 x.2.2.1 x.2.2.2.1 x.2.2.2.2.1 x.2.2.2.2.2.1 x.2.2.2.2.2.2.1 x.2.2.2.2.2.2.2.1 x.2.2.2.2.2.2.2.2) (stbig_Int_Mul_uiu k)

/-! (*shunt/big.Int).Mul -/
def Lbig_Int_Mul_gsh_2s (k : Nat) (rec : Nat → Int → Int → Int → List Int → Int → Int → List Int → Int → Int → Bool → Bool → List Int → Bool → List Int → List Int → Option (Nat × Int × Int × List Int × Int × Int × Bool × Bool × List Int × Bool × List Int × List Int)) (out1 : Nat) (i : Int) (a : Int) (carry : Int) (x : List Int) (x1 : Int) (x2 : Int) (x3 : List Int) (x4 : Int) (x5 : Int) (z : Bool) (x0 : Bool) (x11 : List Int) (y0 : Bool) (y1 : List Int) (outs : List Int) : Option (Nat × Int × Int × List Int × Int × Int × Bool × Bool × List Int × Bool × List Int × List Int) :=
  if ((decide (x5 < x4)) = true) then
    if ((0 : Int) ≤ x5) then
      Option.bind (x3)[(Int.toNat x5)]? fun x6 =>
      if (((0 : Int) ≤ (IntKind.wrap .i64 (i + x5))) ∧ ((IntKind.wrap .i64 (i + x5)) < ((out1 : Nat) : Int))) then
        Option.bind (outs)[(0 + (Int.toNat (IntKind.wrap .i64 (i + x5))))]? fun x7 =>
        if (((0 : Int) ≤ (IntKind.wrap .i64 (i + x5))) ∧ ((IntKind.wrap .i64 (i + x5)) < ((out1 : Nat) : Int))) then
          Option.bind (outs)[(0 + (Int.toNat (IntKind.wrap .i64 (i + x5))))]? fun x8 =>
          rec out1 i a (Int.fdiv (IntKind.wrap .u64 ((IntKind.wrap .u64 ((IntKind.wrap .u64 ((IntKind.wrap .u64 a) * (IntKind.wrap .u64 x6))) + (IntKind.wrap .u64 x7))) + carry)) (4294967296 : Int)) x x1 x2 x3 x4 (IntKind.wrap .i64 (x5 + (1 : Int))) z x0 x11 y0 y1 (List.set outs (0 + (Int.toNat (IntKind.wrap .i64 (i + x5)))) (IntKind.wrap .u32 (IntKind.wrap .u64 ((IntKind.wrap .u64 ((IntKind.wrap .u64 ((IntKind.wrap .u64 a) * (IntKind.wrap .u64 x6))) + (IntKind.wrap .u64 x7))) + carry))))
        else
        none
      else
      none
    else
    none
  else
  (some (out1, i, carry, x, x1, x2, z, x0, x11, y0, y1, outs))
def Lbig_Int_Mul_gsh_2 (k n : Nat) : Nat → Int → Int → Int → List Int → Int → Int → List Int → Int → Int → Bool → Bool → List Int → Bool → List Int → List Int → Option (Nat × Int × Int × List Int × Int × Int × Bool × Bool × List Int × Bool × List Int × List Int) := Nat.rec (fun _ _ _ _ _ _ _ _ _ _ _ _ _ _ _ _ => none) (fun _ r => Lbig_Int_Mul_gsh_2s k r) n
def Lbig_Int_Mul_gsh_0s (k : Nat) (rec : Nat → List Int → Int → Int → Bool → Bool → List Int → Bool → List Int → List Int → Option (Nat × Bool × Bool × List Int × Bool × List Int × List Int)) (out1 : Nat) (x : List Int) (x1 : Int) (x2 : Int) (z : Bool) (x0 : Bool) (x11 : List Int) (y0 : Bool) (y1 : List Int) (outs : List Int) : Option (Nat × Bool × Bool × List Int × Bool × List Int × List Int) :=
  if ((decide (x2 < x1)) = true) then
    if ((0 : Int) ≤ x2) then
      Option.bind (x)[(Int.toNat x2)]? fun x4 =>
      Option.bind (Lbig_Int_Mul_gsh_2 k k out1 x2 x4 (0 : Int) x x1 x2 y1 (((List.length y1) : Nat) : Int) (0 : Int) z x0 x11 y0 y1 outs) fun r6 =>
      if (((0 : Int) ≤ (IntKind.wrap .i64 (r6.2.1 + (((List.length r6.2.2.2.2.2.2.2.2.2.2.1) : Nat) : Int)))) ∧ ((IntKind.wrap .i64 (r6.2.1 + (((List.length r6.2.2.2.2.2.2.2.2.2.2.1) : Nat) : Int))) < ((r6.1 : Nat) : Int))) then
        Option.bind (r6.2.2.2.2.2.2.2.2.2.2.2)[(0 + (Int.toNat (IntKind.wrap .i64 (r6.2.1 + (((List.length r6.2.2.2.2.2.2.2.2.2.2.1) : Nat) : Int)))))]? fun x5 =>
        rec r6.1 r6.2.2.2.1 r6.2.2.2.2.1 (IntKind.wrap .i64 (r6.2.2.2.2.2.1 + (1 : Int))) r6.2.2.2.2.2.2.1 r6.2.2.2.2.2.2.2.1 r6.2.2.2.2.2.2.2.2.1 r6.2.2.2.2.2.2.2.2.2.1 r6.2.2.2.2.2.2.2.2.2.2.1 (List.set r6.2.2.2.2.2.2.2.2.2.2.2 (0 + (Int.toNat (IntKind.wrap .i64 (r6.2.1 + (((List.length r6.2.2.2.2.2.2.2.2.2.2.1) : Nat) : Int))))) (IntKind.wrap .u32 r6.2.2.1))
      else
      none
    else
    none
  else
  (some (out1, z, x0, x11, y0, y1, outs))
def Lbig_Int_Mul_gsh_0 (k n : Nat) : Nat → List Int → Int → Int → Bool → Bool → List Int → Bool → List Int → List Int → Option (Nat × Bool × Bool × List Int × Bool × List Int × List Int) := Nat.rec (fun _ _ _ _ _ _ _ _ _ _ => none) (fun _ r => Lbig_Int_Mul_gsh_0s k r) n
def bbig_Int_Mul_gsh (k : Nat) (z : Bool) (x0 : Bool) (x1 : List Int) (y0 : Bool) (y1 : List Int) : Option (Bool × List Int × Bool × List Int × Bool × List Int) :=
  if (((0 : Int) ≤ (IntKind.wrap .i64 ((((List.length x1) : Nat) : Int) + (((List.length y1) : Nat) : Int)))) ∧ (((IntKind.wrap .i64 ((((List.length x1) : Nat) : Int) + (((List.length y1) : Nat) : Int))) ≤ (IntKind.wrap .i64 ((((List.length x1) : Nat) : Int) + (((List.length y1) : Nat) : Int)))) ∧ (((IntKind.wrap .i64 ((((List.length x1) : Nat) : Int) + (((List.length y1) : Nat) : Int))) * (4 : Int)) ≤ (140737488355328 : Int)))) then
    Option.bind (Lbig_Int_Mul_gsh_0 k k (Int.toNat (IntKind.wrap .i64 ((((List.length x1) : Nat) : Int) + (((List.length y1) : Nat) : Int)))) x1 (((List.length x1) : Nat) : Int) (0 : Int) z x0 x1 y0 y1 (List.replicate (Int.toNat (IntKind.wrap .i64 ((((List.length x1) : Nat) : Int) + (((List.length y1) : Nat) : Int)))) (0 : Int))) fun r6 =>
    if ((0 + r6.1) ≤ (List.length r6.2.2.2.2.2.2)) then
      Option.bind (Fbig_Int_set_cvg k (!(r6.2.2.1 == r6.2.2.2.2.1)) (List.take r6.1 r6.2.2.2.2.2.2) r6.2.1) fun r7 =>
      (some (r7.1, r7.2, r6.2.2.1, r6.2.2.2.1, r6.2.2.2.2.1, r6.2.2.2.2.2.1))
    else
    none
  else
  none
def Fbig_Int_Mul_gsh : Nat → Bool → Bool → List Int → Bool → List Int → Option (Bool × List Int × Bool × List Int × Bool × List Int)
  | 0, _, _, _, _, _ => none
  | k + 1, z, x0, x1, y0, y1 => bbig_Int_Mul_gsh k z x0 x1 y0 y1
def shbig_Int_Mul_gsh : FS := { vs := [.a (.ptr 0 0 0), .a (.ptr 1 0 0), .a (.ptr 2 0 0)], bs := [.raw [[.lf .bool, .snil 1 72]] 2 98 true false, .raw [[.lf .bool, .lf (.sl (.int .u32))]] 2 98 true false, .raw [[.lf .bool, .lf (.sl (.int .u32))]] 2 98 true false] }
def rsbig_Int_Mul_gsh : List FS := [{ vs := [.a (.ptr 0 0 0)], bs := [.raw [[.lf .bool, .lf (.sl (.int .u32))]] 2 98 true false, .raw [[.lf .bool, .lf (.sl (.int .u32))]] 2 98 true false, .raw [[.lf .bool, .lf (.sl (.int .u32))]] 2 98 true false] }]
def Ibig_Int_Mul_gsh (k : Nat) : Inst := ⟨84, shbig_Int_Mul_gsh, rsbig_Int_Mul_gsh, fun x => Fbig_Int_Mul_gsh k x.1 x.2.1 x.2.2.1 x.2.2.2.1 x.2.2.2.2⟩
theorem albig_Int_Mul_gsh (k : Nat) : AllI (call cf k) [Ibig_Int_set_cvg k] := And.intro (okbig_Int_set_cvg k) (True.intro)
def hsbig_Int_Mul_gsh_2 : List SS := [{ fr := [(0, .a (.ptr 0 0 0)), (1, .a (.ptr 1 0 0)), (2, .a (.ptr 2 0 0)), (7, .a (.smz 3)), (8, .a (.lf (.int .i64))), (9, .a (.lf (.int .u32))), (10, .a (.lf (.int .u64))), (29, .a (.lf (.sl (.int .u32)))), (30, .a (.lf (.int .i64))), (31, .a (.lf (.int .i64))), (39, .a (.lf (.sl (.int .u32)))), (40, .a (.lf (.int .i64))), (41, .a (.lf (.int .i64)))], mem := [(0, some (.raw [[.lf .bool, .snil 1 72]] 2 98 true false)), (1, some (.raw [[.lf .bool, .lf (.sl (.int .u32))]] 2 98 true false)), (2, some (.raw [[.lf .bool, .lf (.sl (.int .u32))]] 2 98 true false)), (3, some (.arr (.int .u32) 1 72 false))], nx := 4 }]
def osbig_Int_Mul_gsh_2 : List OS := [⟨some 2, { fr := [(0, .a (.ptr 0 0 0)), (1, .a (.ptr 1 0 0)), (2, .a (.ptr 2 0 0)), (7, .a (.smz 3)), (8, .a (.lf (.int .i64))), (10, .a (.lf (.int .u64))), (29, .a (.lf (.sl (.int .u32)))), (30, .a (.lf (.int .i64))), (31, .a (.lf (.int .i64)))], mem := [(0, some (.raw [[.lf .bool, .snil 1 72]] 2 98 true false)), (1, some (.raw [[.lf .bool, .lf (.sl (.int .u32))]] 2 98 true false)), (2, some (.raw [[.lf .bool, .lf (.sl (.int .u32))]] 2 98 true false)), (3, some (.arr (.int .u32) 1 72 false))], nx := 4 }⟩]
def LIbig_Int_Mul_gsh_2 (k : Nat) : LInst := ⟨2, hsbig_Int_Mul_gsh_2, osbig_Int_Mul_gsh_2, fun x => Lbig_Int_Mul_gsh_2 k k x.1 x.2.1 x.2.2.1 x.2.2.2.1 x.2.2.2.2.1 x.2.2.2.2.2.1 x.2.2.2.2.2.2.1 x.2.2.2.2.2.2.2.1 x.2.2.2.2.2.2.2.2.1 x.2.2.2.2.2.2.2.2.2.1 x.2.2.2.2.2.2.2.2.2.2.1 x.2.2.2.2.2.2.2.2.2.2.2.1 x.2.2.2.2.2.2.2.2.2.2.2.2.1 x.2.2.2.2.2.2.2.2.2.2.2.2.2.1 x.2.2.2.2.2.2.2.2.2.2.2.2.2.2.1 x.2.2.2.2.2.2.2.2.2.2.2.2.2.2.2⟩
theorem anbig_Int_Mul_gsh_2 (k : Nat) : LAll (LOk (R := DS OS.D osbig_Int_Mul_gsh_2) (fun b _ σ K => LOt Ty (kps 84) 3 b σ K []) cf (call cf k) (kps 84) Try.f84.ntmps k 3) 2 (lb Try.f84 1) :=
  And.intro (True.intro) (And.intro (And.intro (True.intro) (True.intro)) (And.intro (And.intro (True.intro) (And.intro (True.intro) (And.intro (True.intro) (True.intro)))) (True.intro)))
theorem stbig_Int_Mul_gsh_2 (k n : Nat) (x : DS SS.D hsbig_Int_Mul_gsh_2) : Lbig_Int_Mul_gsh_2 k (n + 1) x.1 x.2.1 x.2.2.1 x.2.2.2.1 x.2.2.2.2.1 x.2.2.2.2.2.1 x.2.2.2.2.2.2.1 x.2.2.2.2.2.2.2.1 x.2.2.2.2.2.2.2.2.1 x.2.2.2.2.2.2.2.2.2.1 x.2.2.2.2.2.2.2.2.2.2.1 x.2.2.2.2.2.2.2.2.2.2.2.1 x.2.2.2.2.2.2.2.2.2.2.2.2.1 x.2.2.2.2.2.2.2.2.2.2.2.2.2.1 x.2.2.2.2.2.2.2.2.2.2.2.2.2.2.1 x.2.2.2.2.2.2.2.2.2.2.2.2.2.2.2 = encSK SS.enc (fun σ => run2 cf (fun f a b K => COt f a b K [Ibig_Int_set_cvg k]) (fun b _ σ K => LOt Ty (kps 84) 3 b σ K []) Try.f84.ntmps 2 (lb Try.f84 1) σ (nextK Ty (kps 84 2) 3 hsbig_Int_Mul_gsh_2 osbig_Int_Mul_gsh_2 fun x => Lbig_Int_Mul_gsh_2 k n x.1 x.2.1 x.2.2.1 x.2.2.2.1 x.2.2.2.2.1 x.2.2.2.2.2.1 x.2.2.2.2.2.2.1 x.2.2.2.2.2.2.2.1 x.2.2.2.2.2.2.2.2.1 x.2.2.2.2.2.2.2.2.2.1 x.2.2.2.2.2.2.2.2.2.2.1 x.2.2.2.2.2.2.2.2.2.2.2.1 x.2.2.2.2.2.2.2.2.2.2.2.2.1 x.2.2.2.2.2.2.2.2.2.2.2.2.2.1 x.2.2.2.2.2.2.2.2.2.2.2.2.2.2.1 x.2.2.2.2.2.2.2.2.2.2.2.2.2.2.2)) hsbig_Int_Mul_gsh_2 x := by kernel_rfl
theorem lobig_Int_Mul_gsh_2 (k : Nat) : LIOk cf (call cf k) (kps 84) Try.f84.ntmps k 3 2 (lb Try.f84 1) (LIbig_Int_Mul_gsh_2 k) :=
  loop_ok (c := cf) (callF := call cf k) (kp := kps 84) (nt := Try.f84.ntmps) (k := k) (p := 3) (b := 2) (x0 := lb Try.f84 1) (hs := hsbig_Int_Mul_gsh_2) (os := osbig_Int_Mul_gsh_2) (COt_ok (albig_Int_Mul_gsh k)) (anbig_Int_Mul_gsh_2 k) (fun n x => Lbig_Int_Mul_gsh_2 k n x.1 x.2.1 x.2.2.1 x.2.2.2.1 x.2.2.2.2.1 x.2.2.2.2.2.1 x.2.2.2.2.2.2.1 x.2.2.2.2.2.2.2.1 x.2.2.2.2.2.2.2.2.1 x.2.2.2.2.2.2.2.2.2.1 x.2.2.2.2.2.2.2.2.2.2.1 x.2.2.2.2.2.2.2.2.2.2.2.1 x.2.2.2.2.2.2.2.2.2.2.2.2.1 x.2.2.2.2.2.2.2.2.2.2.2.2.2.1 x.2.2.2.2.2.2.2.2.2.2.2.2.2.2.1 x.2.2.2.2.2.2.2.2.2.2.2.2.2.2.2) (fun _ => rfl) (stbig_Int_Mul_gsh_2 k)
def hsbig_Int_Mul_gsh_0 : List SS := [{ fr := [(0, .a (.ptr 0 0 0)), (1, .a (.ptr 1 0 0)), (2, .a (.ptr 2 0 0)), (7, .a (.smz 3)), (29, .a (.lf (.sl (.int .u32)))), (30, .a (.lf (.int .i64))), (31, .a (.lf (.int .i64)))], mem := [(0, some (.raw [[.lf .bool, .snil 1 72]] 2 98 true false)), (1, some (.raw [[.lf .bool, .lf (.sl (.int .u32))]] 2 98 true false)), (2, some (.raw [[.lf .bool, .lf (.sl (.int .u32))]] 2 98 true false)), (3, some (.arr (.int .u32) 1 72 false))], nx := 4 }]
def osbig_Int_Mul_gsh_0 : List OS := [⟨some 0, { fr := [(0, .a (.ptr 0 0 0)), (1, .a (.ptr 1 0 0)), (2, .a (.ptr 2 0 0)), (7, .a (.smz 3))], mem := [(0, some (.raw [[.lf .bool, .snil 1 72]] 2 98 true false)), (1, some (.raw [[.lf .bool, .lf (.sl (.int .u32))]] 2 98 true false)), (2, some (.raw [[.lf .bool, .lf (.sl (.int .u32))]] 2 98 true false)), (3, some (.arr (.int .u32) 1 72 false))], nx := 4 }⟩]
def LIbig_Int_Mul_gsh_0 (k : Nat) : LInst := ⟨0, hsbig_Int_Mul_gsh_0, osbig_Int_Mul_gsh_0, fun x => Lbig_Int_Mul_gsh_0 k k x.1 x.2.1 x.2.2.1 x.2.2.2.1 x.2.2.2.2.1 x.2.2.2.2.2.1 x.2.2.2.2.2.2.1 x.2.2.2.2.2.2.2.1 x.2.2.2.2.2.2.2.2.1 x.2.2.2.2.2.2.2.2.2⟩
theorem anbig_Int_Mul_gsh_0 (k : Nat) : LAll (LOk (R := DS OS.D osbig_Int_Mul_gsh_0) (fun b _ σ K => LOt Ty (kps 84) 3 b σ K [LIbig_Int_Mul_gsh_2 k]) cf (call cf k) (kps 84) Try.f84.ntmps k 3) 0 (lb Try.f84 0) :=
  And.intro (True.intro) (And.intro (And.intro (True.intro) (True.intro)) (And.intro (And.intro (True.intro) (And.intro (True.intro) (And.intro (And.intro (True.intro) (LOt_ok (c := cf) (callF := call cf k) (kp := kps 84) (nt := Try.f84.ntmps) (k := k) (p := 3) (b := 2) (x0 := lb Try.f84 1) (l := [LIbig_Int_Mul_gsh_2 k]) (And.intro (fun _ => lobig_Int_Mul_gsh_2 k) (True.intro)))) (True.intro)))) (True.intro)))
theorem stbig_Int_Mul_gsh_0 (k n : Nat) (x : DS SS.D hsbig_Int_Mul_gsh_0) : Lbig_Int_Mul_gsh_0 k (n + 1) x.1 x.2.1 x.2.2.1 x.2.2.2.1 x.2.2.2.2.1 x.2.2.2.2.2.1 x.2.2.2.2.2.2.1 x.2.2.2.2.2.2.2.1 x.2.2.2.2.2.2.2.2.1 x.2.2.2.2.2.2.2.2.2 = encSK SS.enc (fun σ => run2 cf (fun f a b K => COt f a b K [Ibig_Int_set_cvg k]) (fun b _ σ K => LOt Ty (kps 84) 3 b σ K [LIbig_Int_Mul_gsh_2 k]) Try.f84.ntmps 0 (lb Try.f84 0) σ (nextK Ty (kps 84 0) 3 hsbig_Int_Mul_gsh_0 osbig_Int_Mul_gsh_0 fun x => Lbig_Int_Mul_gsh_0 k n x.1 x.2.1 x.2.2.1 x.2.2.2.1 x.2.2.2.2.1 x.2.2.2.2.2.1 x.2.2.2.2.2.2.1 x.2.2.2.2.2.2.2.1 x.2.2.2.2.2.2.2.2.1 x.2.2.2.2.2.2.2.2.2)) hsbig_Int_Mul_gsh_0 x := by kernel_rfl
theorem lobig_Int_Mul_gsh_0 (k : Nat) : LIOk cf (call cf k) (kps 84) Try.f84.ntmps k 3 0 (lb Try.f84 0) (LIbig_Int_Mul_gsh_0 k) :=
  loop_ok (c := cf) (callF := call cf k) (kp := kps 84) (nt := Try.f84.ntmps) (k := k) (p := 3) (b := 0) (x0 := lb Try.f84 0) (hs := hsbig_Int_Mul_gsh_0) (os := osbig_Int_Mul_gsh_0) (COt_ok (albig_Int_Mul_gsh k)) (anbig_Int_Mul_gsh_0 k) (fun n x => Lbig_Int_Mul_gsh_0 k n x.1 x.2.1 x.2.2.1 x.2.2.2.1 x.2.2.2.2.1 x.2.2.2.2.2.1 x.2.2.2.2.2.2.1 x.2.2.2.2.2.2.2.1 x.2.2.2.2.2.2.2.2.1 x.2.2.2.2.2.2.2.2.2) (fun _ => rfl) (stbig_Int_Mul_gsh_0 k)
theorem anbig_Int_Mul_gsh (k : Nat) : LAll (LOk (R := DS FS.D rsbig_Int_Mul_gsh) (fun b _ σ K => LOt Ty (kps 84) 3 b σ K [LIbig_Int_Mul_gsh_2 k, LIbig_Int_Mul_gsh_0 k]) cf (call cf k) (cf.keep 84) Try.f84.ntmps k shbig_Int_Mul_gsh.bs.length) 0 (bd Try.f84) :=
  And.intro (True.intro) (And.intro (True.intro) (And.intro (And.intro (True.intro) (LOt_ok (c := cf) (callF := call cf k) (kp := kps 84) (nt := Try.f84.ntmps) (k := k) (p := 3) (b := 0) (x0 := lb Try.f84 0) (l := [LIbig_Int_Mul_gsh_2 k, LIbig_Int_Mul_gsh_0 k]) (And.intro (fun h => absurd (show (2 : Nat) = 0 from h) (by decide)) (And.intro (fun _ => lobig_Int_Mul_gsh_0 k) (True.intro))))) (And.intro (True.intro) (True.intro))))
theorem stbig_Int_Mul_gsh (k : Nat) (x : shbig_Int_Mul_gsh.D) : Fbig_Int_Mul_gsh (k + 1) x.1 x.2.1 x.2.2.1 x.2.2.2.1 x.2.2.2.2 = body2 cf (fun f a b K => COt f a b K [Ibig_Int_set_cvg k]) (fun b _ σ K => LOt Ty (kps 84) 3 b σ K [LIbig_Int_Mul_gsh_2 k, LIbig_Int_Mul_gsh_0 k]) 84 Try.f84.ntmps Try.f84.results.toList (bd Try.f84) (shbig_Int_Mul_gsh.enc x).1 (shbig_Int_Mul_gsh.enc x).2 (putS FS.dec rsbig_Int_Mul_gsh) := by kernel_rfl
theorem okbig_Int_Mul_gsh : ∀ k, InstOk (call cf k) (Ibig_Int_Mul_gsh k)
  | 0 => fun x y e => absurd (show (none : Option _) = some y from e) (by simp)
  | k + 1 => inst_ok (c := cf) (k := k) (f := 84) (fn := Try.f84) (body := bd Try.f84) (sh := shbig_Int_Mul_gsh) (os := rsbig_Int_Mul_gsh) rfl Try.func84 rfl ⟨rfl, Nat.le_of_ble_eq_true rfl⟩ (COt_ok (albig_Int_Mul_gsh k)) (anbig_Int_Mul_gsh k) (fun x => Fbig_Int_Mul_gsh (k + 1) x.1 x.2.1 x.2.2.1 x.2.2.2.1 x.2.2.2.2) (stbig_Int_Mul_gsh k)

/-! (*shunt/big.Rat).frac -/
def bbig_Rat_frac_prp (k : Nat) (z0 : Bool) (z1 : List Int) (z2 : Bool) (z3 : List Int) (n0 : Bool) (n1 : List Int) (d0 : Bool) (d1 : List Int) : Option (Bool × List Int × Bool × List Int × Bool × List Int × Bool × List Int) :=
  Option.bind (Fbig_Gcd_ddu k n0 n1 d0 d1) fun r7 =>
  if (r7.2.2.1 = true) then
    Option.bind (Fbig_Int_Quo_gsh k false r7.1 r7.2.1 true r7.2.2.2.2.2) fun r8 =>
    Option.bind (Fbig_Int_Quo_gsh k false r7.2.2.1 r7.2.2.2.1 r8.2.2.2.2.1 r8.2.2.2.2.2) fun r9 =>
    (some (r8.1, r8.2.1, r9.1, r9.2.1, r8.2.2.1, r8.2.2.2.1, r9.2.2.1, r9.2.2.2.1))
  else
  Option.bind (Fbig_Int_Quo_gsh k false r7.1 r7.2.1 r7.2.2.2.2.1 r7.2.2.2.2.2) fun r8 =>
  Option.bind (Fbig_Int_Quo_gsh k false r7.2.2.1 r7.2.2.2.1 r8.2.2.2.2.1 r8.2.2.2.2.2) fun r9 =>
  (some (r8.1, r8.2.1, r9.1, r9.2.1, r8.2.2.1, r8.2.2.2.1, r9.2.2.1, r9.2.2.2.1))
def Fbig_Rat_frac_prp : Nat → Bool → List Int → Bool → List Int → Bool → List Int → Bool → List Int → Option (Bool × List Int × Bool × List Int × Bool × List Int × Bool × List Int)
  | 0, _, _, _, _, _, _, _, _ => none
  | k + 1, z0, z1, z2, z3, n0, n1, d0, d1 => bbig_Rat_frac_prp k z0 z1 z2 z3 n0 n1 d0 d1
def shbig_Rat_frac_prp : FS := { vs := [.a (.ptr 0 0 0), .a (.ptr 1 0 0), .a (.ptr 2 0 0)], bs := [.raw [[.lf .bool, .lf (.sl (.int .u32)), .lf .bool, .lf (.sl (.int .u32))]] 4 100 true false, .raw [[.lf .bool, .lf (.sl (.int .u32))]] 2 98 true false, .raw [[.lf .bool, .lf (.sl (.int .u32))]] 2 98 true false] }
def rsbig_Rat_frac_prp : List FS := [{ vs := [.a (.ptr 0 0 0)], bs := [.raw [[.lf .bool, .lf (.sl (.int .u32)), .lf .bool, .lf (.sl (.int .u32))]] 4 100 true false, .raw [[.lf .bool, .lf (.sl (.int .u32))]] 2 98 true false, .raw [[.lf .bool, .lf (.sl (.int .u32))]] 2 98 true false] }]
def Ibig_Rat_frac_prp (k : Nat) : Inst := ⟨88, shbig_Rat_frac_prp, rsbig_Rat_frac_prp, fun x => Fbig_Rat_frac_prp k x.1 x.2.1 x.2.2.1 x.2.2.2.1 x.2.2.2.2.1 x.2.2.2.2.2.1 x.2.2.2.2.2.2.1 x.2.2.2.2.2.2.2⟩
theorem albig_Rat_frac_prp (k : Nat) : AllI (call cf k) [Ibig_Gcd_ddu k, Ibig_Int_Quo_gsh k] := And.intro (okbig_Gcd_ddu k) (And.intro (okbig_Int_Quo_gsh k) (True.intro))
theorem anbig_Rat_frac_prp (k : Nat) : LAll (LOk (R := DS FS.D rsbig_Rat_frac_prp) (fun b _ σ K => LOt Ty (kps 88) 3 b σ K []) cf (call cf k) (cf.keep 88) Try.f88.ntmps k shbig_Rat_frac_prp.bs.length) 0 (bd Try.f88) :=
  And.intro (True.intro) (And.intro (True.intro) (And.intro (And.intro (True.intro) (And.intro (True.intro) (True.intro))) (And.intro (True.intro) (And.intro (True.intro) (And.intro (True.intro) (And.intro (True.intro) (And.intro (True.intro) (True.intro))))))))
theorem stbig_Rat_frac_prp (k : Nat) (x : shbig_Rat_frac_prp.D) : Fbig_Rat_frac_prp (k + 1) x.1 x.2.1 x.2.2.1 x.2.2.2.1 x.2.2.2.2.1 x.2.2.2.2.2.1 x.2.2.2.2.2.2.1 x.2.2.2.2.2.2.2 = body2 cf (fun f a b K => COt f a b K [Ibig_Gcd_ddu k, Ibig_Int_Quo_gsh k]) (fun b _ σ K => LOt Ty (kps 88) 3 b σ K []) 88 Try.f88.ntmps Try.f88.results.toList (bd Try.f88) (shbig_Rat_frac_prp.enc x).1 (shbig_Rat_frac_prp.enc x).2 (putS FS.dec rsbig_Rat_frac_prp) := by kernel_rfl
theorem okbig_Rat_frac_prp : ∀ k, InstOk (call cf k) (Ibig_Rat_frac_prp k)
  | 0 => fun x y e => absurd (show (none : Option _) = some y from e) (by simp)
  | k + 1 => inst_ok (c := cf) (k := k) (f := 88) (fn := Try.f88) (body := bd Try.f88) (sh := shbig_Rat_frac_prp) (os := rsbig_Rat_frac_prp) rfl Try.func88 rfl ⟨rfl, Nat.le_of_ble_eq_true rfl⟩ (COt_ok (albig_Rat_frac_prp k)) (anbig_Rat_frac_prp k) (fun x => Fbig_Rat_frac_prp (k + 1) x.1 x.2.1 x.2.2.1 x.2.2.2.1 x.2.2.2.2.1 x.2.2.2.2.2.1 x.2.2.2.2.2.2.1 x.2.2.2.2.2.2.2) (stbig_Rat_frac_prp k)

/-! (*shunt/big.Rat).Mul -/
def bbig_Rat_Mul_wqk (k : Nat) (x0 : Bool) (x1 : List Int) (x2 : Bool) (x3 : List Int) (y0 : Bool) (y1 : List Int) (y2 : Bool) (y3 : List Int) : Option (Bool × List Int × Bool × List Int × Bool × List Int × Bool × List Int) :=
  Option.bind (Fbig_Int_Mul_uiu k false x0 x1 x2 x3 y0 y1 y2 y3) fun r3 =>
  Option.bind (Fbig_Rat_Denom_plq k r3.2.2.1 r3.2.2.2.1 r3.2.2.2.2.1 r3.2.2.2.2.2.1) fun r4 =>
  Option.bind (Fbig_Rat_Denom_plq k r3.2.2.2.2.2.2.1 r3.2.2.2.2.2.2.2.1 r3.2.2.2.2.2.2.2.2.1 r3.2.2.2.2.2.2.2.2.2) fun r5 =>
  Option.bind (Fbig_Int_Mul_gsh k false r4.2.2.2.2.1 r4.2.2.2.2.2 r5.2.2.2.2.1 r5.2.2.2.2.2) fun r6 =>
  Option.bind (Fbig_Rat_frac_prp k r4.1 r4.2.1 r4.2.2.1 r4.2.2.2.1 r3.1 r3.2.1 r6.1 r6.2.1) fun r7 =>
  (some (r7.1, r7.2.1, r7.2.2.1, r7.2.2.2.1, r5.1, r5.2.1, r5.2.2.1, r5.2.2.2.1))
def Fbig_Rat_Mul_wqk : Nat → Bool → List Int → Bool → List Int → Bool → List Int → Bool → List Int → Option (Bool × List Int × Bool × List Int × Bool × List Int × Bool × List Int)
  | 0, _, _, _, _, _, _, _, _ => none
  | k + 1, x0, x1, x2, x3, y0, y1, y2, y3 => bbig_Rat_Mul_wqk k x0 x1 x2 x3 y0 y1 y2 y3
def shbig_Rat_Mul_wqk : FS := { vs := [.a (.ptr 0 0 0), .a (.ptr 0 0 0), .a (.ptr 1 0 0)], bs := [.raw [[.lf .bool, .lf (.sl (.int .u32)), .lf .bool, .lf (.sl (.int .u32))]] 4 100 true false, .raw [[.lf .bool, .lf (.sl (.int .u32)), .lf .bool, .lf (.sl (.int .u32))]] 4 100 true false] }
def rsbig_Rat_Mul_wqk : List FS := [{ vs := [.a (.ptr 0 0 0)], bs := [.raw [[.lf .bool, .lf (.sl (.int .u32)), .lf .bool, .lf (.sl (.int .u32))]] 4 100 true false, .raw [[.lf .bool, .lf (.sl (.int .u32)), .lf .bool, .lf (.sl (.int .u32))]] 4 100 true false] }]
def Ibig_Rat_Mul_wqk (k : Nat) : Inst := ⟨54, shbig_Rat_Mul_wqk, rsbig_Rat_Mul_wqk, fun x => Fbig_Rat_Mul_wqk k x.1 x.2.1 x.2.2.1 x.2.2.2.1 x.2.2.2.2.1 x.2.2.2.2.2.1 x.2.2.2.2.2.2.1 x.2.2.2.2.2.2.2⟩
theorem albig_Rat_Mul_wqk (k : Nat) : AllI (call cf k) [Ibig_Int_Mul_uiu k, Ibig_Rat_Denom_plq k, Ibig_Int_Mul_gsh k, Ibig_Rat_frac_prp k] := And.intro (okbig_Int_Mul_uiu k) (And.intro (okbig_Rat_Denom_plq k) (And.intro (okbig_Int_Mul_gsh k) (And.intro (okbig_Rat_frac_prp k) (True.intro))))
theorem anbig_Rat_Mul_wqk (k : Nat) : LAll (LOk (R := DS FS.D rsbig_Rat_Mul_wqk) (fun b _ σ K => LOt Ty (kps 54) 2 b σ K []) cf (call cf k) (cf.keep 54) Try.f54.ntmps k shbig_Rat_Mul_wqk.bs.length) 0 (bd Try.f54) :=
  And.intro (True.intro) (And.intro (True.intro) (And.intro (True.intro) (And.intro (True.intro) (And.intro (True.intro) (True.intro)))))
theorem stbig_Rat_Mul_wqk (k : Nat) (x : shbig_Rat_Mul_wqk.D) : Fbig_Rat_Mul_wqk (k + 1) x.1 x.2.1 x.2.2.1 x.2.2.2.1 x.2.2.2.2.1 x.2.2.2.2.2.1 x.2.2.2.2.2.2.1 x.2.2.2.2.2.2.2 = body2 cf (fun f a b K => COt f a b K [Ibig_Int_Mul_uiu k, Ibig_Rat_Denom_plq k, Ibig_Int_Mul_gsh k, Ibig_Rat_frac_prp k]) (fun b _ σ K => LOt Ty (kps 54) 2 b σ K []) 54 Try.f54.ntmps Try.f54.results.toList (bd Try.f54) (shbig_Rat_Mul_wqk.enc x).1 (shbig_Rat_Mul_wqk.enc x).2 (putS FS.dec rsbig_Rat_Mul_wqk) := by kernel_rfl
theorem okbig_Rat_Mul_wqk : ∀ k, InstOk (call cf k) (Ibig_Rat_Mul_wqk k)
  | 0 => fun x y e => absurd (show (none : Option _) = some y from e) (by simp)
  | k + 1 => inst_ok (c := cf) (k := k) (f := 54) (fn := Try.f54) (body := bd Try.f54) (sh := shbig_Rat_Mul_wqk) (os := rsbig_Rat_Mul_wqk) rfl Try.func54 rfl ⟨rfl, Nat.le_of_ble_eq_true rfl⟩ (COt_ok (albig_Rat_Mul_wqk k)) (anbig_Rat_Mul_wqk k) (fun x => Fbig_Rat_Mul_wqk (k + 1) x.1 x.2.1 x.2.2.1 x.2.2.2.1 x.2.2.2.2.1 x.2.2.2.2.2.1 x.2.2.2.2.2.2.1 x.2.2.2.2.2.2.2) (stbig_Rat_Mul_wqk k)

/-! shunt/limb.Check -/
def blimb_Check (k : Nat) (a0 : Bool) (a1 : List Int) : Option (Int) :=
  if ((decide ((((List.length a1) : Nat) : Int) > (72 : Int))) = false) then
    if (((((List.length a1) : Nat) : Int) == (0 : Int)) = true) then
      if (a0 = false) then
        if ((decide ((((List.length a1) : Nat) : Int) > (0 : Int))) = true) then
          if ((0 : Int) ≤ (IntKind.wrap .i64 ((((List.length a1) : Nat) : Int) - (1 : Int)))) then
            Option.bind (a1)[(Int.toNat (IntKind.wrap .i64 ((((List.length a1) : Nat) : Int) - (1 : Int))))]? fun x1 =>
            if ((x1 == (0 : Int)) = true) then
              (some (10 : Int))
            else
            (some (0 : Int))
          else
          none
        else
        (some (0 : Int))
      else
      (some (10 : Int))
    else
    if ((decide ((((List.length a1) : Nat) : Int) > (0 : Int))) = true) then
      if ((0 : Int) ≤ (IntKind.wrap .i64 ((((List.length a1) : Nat) : Int) - (1 : Int)))) then
        Option.bind (a1)[(Int.toNat (IntKind.wrap .i64 ((((List.length a1) : Nat) : Int) - (1 : Int))))]? fun x1 =>
        if ((x1 == (0 : Int)) = true) then
          (some (10 : Int))
        else
        (some (0 : Int))
      else
      none
    else
    (some (0 : Int))
  else
  (some (10 : Int))
def Flimb_Check : Nat → Bool → List Int → Option (Int)
  | 0, _, _ => none
  | k + 1, a0, a1 => blimb_Check k a0 a1
def shlimb_Check : FS := { vs := [.g [.lf .bool, .lf (.sl (.int .u32))]], bs := [] }
def rslimb_Check : List FS := [{ vs := [.a (.lf (.int .i64))], bs := [] }]
def Ilimb_Check (k : Nat) : Inst := ⟨70, shlimb_Check, rslimb_Check, fun x => Flimb_Check k x.1 x.2⟩
theorem allimb_Check (k : Nat) : AllI (call cf k) [] := True.intro
theorem anlimb_Check (k : Nat) : LAll (LOk (R := DS FS.D rslimb_Check) (fun b _ σ K => LOt Ty (kps 70) 0 b σ K []) cf (call cf k) (cf.keep 70) Try.f70.ntmps k shlimb_Check.bs.length) 0 (bd Try.f70) :=
  And.intro (True.intro) (And.intro (True.intro) (And.intro (And.intro (True.intro) (And.intro (And.intro (True.intro) (True.intro)) (True.intro))) (And.intro (True.intro) (True.intro))))
theorem stlimb_Check (k : Nat) (x : shlimb_Check.D) : Flimb_Check (k + 1) x.1 x.2 = body2 cf (fun f a b K => COt f a b K []) (fun b _ σ K => LOt Ty (kps 70) 0 b σ K []) 70 Try.f70.ntmps Try.f70.results.toList (bd Try.f70) (shlimb_Check.enc x).1 (shlimb_Check.enc x).2 (putS FS.dec rslimb_Check) := by kernel_rfl
theorem oklimb_Check : ∀ k, InstOk (call cf k) (Ilimb_Check k)
  | 0 => fun x y e => absurd (show (none : Option _) = some y from e) (by simp)
  | k + 1 => inst_ok (c := cf) (k := k) (f := 70) (fn := Try.f70) (body := bd Try.f70) (sh := shlimb_Check) (os := rslimb_Check) rfl Try.func70 rfl ⟨rfl, Nat.le_of_ble_eq_true rfl⟩ (COt_ok (allimb_Check k)) (anlimb_Check k) (fun x => Flimb_Check (k + 1) x.1 x.2) (stlimb_Check k)

/-! shunt/limb.both -/
def blimb_both (k : Nat) (a0 : Bool) (a1 : List Int) (b0 : Bool) (b1 : List Int) : Option (Int) :=
  Option.bind (Flimb_Check k a0 a1) fun r7 =>
  if ((r7 != (0 : Int)) = true) then
    (some (10 : Int))
  else
  Option.bind (Flimb_Check k b0 b1) fun r8 =>
  (some r8)
def Flimb_both : Nat → Bool → List Int → Bool → List Int → Option (Int)
  | 0, _, _, _, _ => none
  | k + 1, a0, a1, b0, b1 => blimb_both k a0 a1 b0 b1
def shlimb_both : FS := { vs := [.g [.lf .bool, .lf (.sl (.int .u32))], .g [.lf .bool, .lf (.sl (.int .u32))]], bs := [] }
def rslimb_both : List FS := [{ vs := [.a (.lf (.int .i64))], bs := [] }]
def Ilimb_both (k : Nat) : Inst := ⟨108, shlimb_both, rslimb_both, fun x => Flimb_both k x.1 x.2.1 x.2.2.1 x.2.2.2⟩
theorem allimb_both (k : Nat) : AllI (call cf k) [Ilimb_Check k] := And.intro (oklimb_Check k) (True.intro)
theorem anlimb_both (k : Nat) : LAll (LOk (R := DS FS.D rslimb_both) (fun b _ σ K => LOt Ty (kps 108) 0 b σ K []) cf (call cf k) (cf.keep 108) Try.f108.ntmps k shlimb_both.bs.length) 0 (bd Try.f108) :=
  And.intro (True.intro) (And.intro (And.intro (True.intro) (And.intro (And.intro (True.intro) (True.intro)) (True.intro))) (And.intro (True.intro) (True.intro)))
theorem stlimb_both (k : Nat) (x : shlimb_both.D) : Flimb_both (k + 1) x.1 x.2.1 x.2.2.1 x.2.2.2 = body2 cf (fun f a b K => COt f a b K [Ilimb_Check k]) (fun b _ σ K => LOt Ty (kps 108) 0 b σ K []) 108 Try.f108.ntmps Try.f108.results.toList (bd Try.f108) (shlimb_both.enc x).1 (shlimb_both.enc x).2 (putS FS.dec rslimb_both) := by kernel_rfl
theorem oklimb_both : ∀ k, InstOk (call cf k) (Ilimb_both k)
  | 0 => fun x y e => absurd (show (none : Option _) = some y from e) (by simp)
  | k + 1 => inst_ok (c := cf) (k := k) (f := 108) (fn := Try.f108) (body := bd Try.f108) (sh := shlimb_both) (os := rslimb_both) rfl Try.func108 rfl ⟨rfl, Nat.le_of_ble_eq_true rfl⟩ (COt_ok (allimb_both k)) (anlimb_both k) (fun x => Flimb_both (k + 1) x.1 x.2.1 x.2.2.1 x.2.2.2) (stlimb_both k)

/-! shunt/limb.Gcd -/
def blimb_Gcd (k : Nat) (a0 : Bool) (a1 : List Int) (b0 : Bool) (b1 : List Int) : Option (Bool × List Int × Int) :=
  Option.bind (Flimb_both k a0 a1 b0 b1) fun r7 =>
  if ((r7 != (0 : Int)) = true) then
    (some (false, [], r7))
  else
  Option.bind (Fwide_Take k a0 a1) fun r8 =>
  Option.bind (Fwide_Take k b0 b1) fun r9 =>
  Option.bind (Fbig_Gcd_ddu k r8.1 r8.2 r9.1 r9.2) fun r10 =>
  Option.bind (Fwide_Give_awf k r10.2.2.2.2.1 r10.2.2.2.2.2) fun r11 =>
  if ((0 + r11.2.1) ≤ (List.length r11.2.2.2.2)) then
    (some (r11.1, (List.take r11.2.1 r11.2.2.2.2), (0 : Int)))
  else
  none
def Flimb_Gcd : Nat → Bool → List Int → Bool → List Int → Option (Bool × List Int × Int)
  | 0, _, _, _, _ => none
  | k + 1, a0, a1, b0, b1 => blimb_Gcd k a0 a1 b0 b1
def shlimb_Gcd : FS := { vs := [.g [.lf .bool, .lf (.sl (.int .u32))], .g [.lf .bool, .lf (.sl (.int .u32))]], bs := [] }
def rslimb_Gcd : List FS := [{ vs := [.g [.lf .bool, .lf (.sl (.int .u32))], .a (.lf (.int .i64))], bs := [] }]
def Ilimb_Gcd (k : Nat) : Inst := ⟨83, shlimb_Gcd, rslimb_Gcd, fun x => Flimb_Gcd k x.1 x.2.1 x.2.2.1 x.2.2.2⟩
theorem allimb_Gcd (k : Nat) : AllI (call cf k) [Ilimb_both k, Iwide_Take k, Ibig_Gcd_ddu k, Iwide_Give_awf k] := And.intro (oklimb_both k) (And.intro (okwide_Take k) (And.intro (okbig_Gcd_ddu k) (And.intro (okwide_Give_awf k) (True.intro))))
theorem anlimb_Gcd (k : Nat) : LAll (LOk (R := DS FS.D rslimb_Gcd) (fun b _ σ K => LOt Ty (kps 83) 0 b σ K []) cf (call cf k) (cf.keep 83) Try.f83.ntmps k shlimb_Gcd.bs.length) 0 (bd Try.f83) :=
  And.intro (True.intro) (And.intro (And.intro (True.intro) (And.intro (True.intro) (And.intro (And.intro (True.intro) (True.intro)) (True.intro)))) (And.intro (True.intro) (True.intro)))
theorem stlimb_Gcd (k : Nat) (x : shlimb_Gcd.D) : Flimb_Gcd (k + 1) x.1 x.2.1 x.2.2.1 x.2.2.2 = body2 cf (fun f a b K => COt f a b K [Ilimb_both k, Iwide_Take k, Ibig_Gcd_ddu k, Iwide_Give_awf k]) (fun b _ σ K => LOt Ty (kps 83) 0 b σ K []) 83 Try.f83.ntmps Try.f83.results.toList (bd Try.f83) (shlimb_Gcd.enc x).1 (shlimb_Gcd.enc x).2 (putS FS.dec rslimb_Gcd) := by kernel_rfl
theorem oklimb_Gcd : ∀ k, InstOk (call cf k) (Ilimb_Gcd k)
  | 0 => fun x y e => absurd (show (none : Option _) = some y from e) (by simp)
  | k + 1 => inst_ok (c := cf) (k := k) (f := 83) (fn := Try.f83) (body := bd Try.f83) (sh := shlimb_Gcd) (os := rslimb_Gcd) rfl Try.func83 rfl ⟨rfl, Nat.le_of_ble_eq_true rfl⟩ (COt_ok (allimb_Gcd k)) (anlimb_Gcd k) (fun x => Flimb_Gcd (k + 1) x.1 x.2.1 x.2.2.1 x.2.2.2) (stlimb_Gcd k)

/-! shunt/rat.Check -/
def brat_Check (k : Nat) (r0 : Bool) (r1 : List Int) (r2 : Bool) (r3 : List Int) : Option (Int) :=
  Option.bind (Flimb_Check k r0 r1) fun r5 =>
  if ((r5 != (0 : Int)) = false) then
    Option.bind (Flimb_Check k r2 r3) fun r6 =>
    if ((r6 != (0 : Int)) = true) then
      (some (10 : Int))
    else
    if (r2 = false) then
      if (((((List.length r3) : Nat) : Int) == (0 : Int)) = true) then
        (some (20 : Int))
      else
      Option.bind (Flimb_Gcd k r0 r1 r2 r3) fun r7 =>
      if (((((List.length r7.2.1) : Nat) : Int) != (1 : Int)) = false) then
        Option.bind (r7.2.1)[0]? fun x1 =>
        if ((x1 != (1 : Int)) = true) then
          (some (20 : Int))
        else
        (some (0 : Int))
      else
      (some (20 : Int))
    else
    (some (20 : Int))
  else
  (some (10 : Int))
def Frat_Check : Nat → Bool → List Int → Bool → List Int → Option (Int)
  | 0, _, _, _, _ => none
  | k + 1, r0, r1, r2, r3 => brat_Check k r0 r1 r2 r3
def shrat_Check : FS := { vs := [.g [.lf .bool, .lf (.sl (.int .u32)), .lf .bool, .lf (.sl (.int .u32))]], bs := [] }
def rsrat_Check : List FS := [{ vs := [.a (.lf (.int .i64))], bs := [] }]
def Irat_Check (k : Nat) : Inst := ⟨45, shrat_Check, rsrat_Check, fun x => Frat_Check k x.1 x.2.1 x.2.2.1 x.2.2.2⟩
theorem alrat_Check (k : Nat) : AllI (call cf k) [Ilimb_Check k, Ilimb_Gcd k] := And.intro (oklimb_Check k) (And.intro (oklimb_Gcd k) (True.intro))
theorem anrat_Check (k : Nat) : LAll (LOk (R := DS FS.D rsrat_Check) (fun b _ σ K => LOt Ty (kps 45) 0 b σ K []) cf (call cf k) (cf.keep 45) Try.f45.ntmps k shrat_Check.bs.length) 0 (bd Try.f45) :=
  And.intro (True.intro) (And.intro (And.intro (True.intro) (And.intro (And.intro (True.intro) (True.intro)) (True.intro))) (And.intro (And.intro (True.intro) (And.intro (And.intro (True.intro) (True.intro)) (True.intro))) (And.intro (True.intro) (And.intro (And.intro (True.intro) (And.intro (And.intro (True.intro) (True.intro)) (True.intro))) (And.intro (True.intro) (True.intro))))))
theorem strat_Check (k : Nat) (x : shrat_Check.D) : Frat_Check (k + 1) x.1 x.2.1 x.2.2.1 x.2.2.2 = body2 cf (fun f a b K => COt f a b K [Ilimb_Check k, Ilimb_Gcd k]) (fun b _ σ K => LOt Ty (kps 45) 0 b σ K []) 45 Try.f45.ntmps Try.f45.results.toList (bd Try.f45) (shrat_Check.enc x).1 (shrat_Check.enc x).2 (putS FS.dec rsrat_Check) := by kernel_rfl
theorem okrat_Check : ∀ k, InstOk (call cf k) (Irat_Check k)
  | 0 => fun x y e => absurd (show (none : Option _) = some y from e) (by simp)
  | k + 1 => inst_ok (c := cf) (k := k) (f := 45) (fn := Try.f45) (body := bd Try.f45) (sh := shrat_Check) (os := rsrat_Check) rfl Try.func45 rfl ⟨rfl, Nat.le_of_ble_eq_true rfl⟩ (COt_ok (alrat_Check k)) (anrat_Check k) (fun x => Frat_Check (k + 1) x.1 x.2.1 x.2.2.1 x.2.2.2) (strat_Check k)

/-! (*shunt/big.Int).Abs -/
def bbig_Int_Abs_eql (k : Nat) (z : Bool) (x0 : Bool) (x1 : List Int) : Option (Bool × List Int × Bool × List Int) :=
  Option.bind (Fbig_Int_set_cvg k false x1 z) fun r9 =>
  (some (r9.1, r9.2, x0, x1))
def Fbig_Int_Abs_eql : Nat → Bool → Bool → List Int → Option (Bool × List Int × Bool × List Int)
  | 0, _, _, _ => none
  | k + 1, z, x0, x1 => bbig_Int_Abs_eql k z x0 x1
def shbig_Int_Abs_eql : FS := { vs := [.a (.ptr 0 0 0), .a (.ptr 1 0 0)], bs := [.raw [[.lf .bool, .snil 1 72]] 2 98 true false, .raw [[.lf .bool, .lf (.sl (.int .u32))]] 2 98 true false] }
def rsbig_Int_Abs_eql : List FS := [{ vs := [.a (.ptr 0 0 0)], bs := [.raw [[.lf .bool, .lf (.sl (.int .u32))]] 2 98 true false, .raw [[.lf .bool, .lf (.sl (.int .u32))]] 2 98 true false] }]
def Ibig_Int_Abs_eql (k : Nat) : Inst := ⟨115, shbig_Int_Abs_eql, rsbig_Int_Abs_eql, fun x => Fbig_Int_Abs_eql k x.1 x.2.1 x.2.2⟩
theorem albig_Int_Abs_eql (k : Nat) : AllI (call cf k) [Ibig_Int_set_cvg k] := And.intro (okbig_Int_set_cvg k) (True.intro)
theorem anbig_Int_Abs_eql (k : Nat) : LAll (LOk (R := DS FS.D rsbig_Int_Abs_eql) (fun b _ σ K => LOt Ty (kps 115) 2 b σ K []) cf (call cf k) (cf.keep 115) Try.f115.ntmps k shbig_Int_Abs_eql.bs.length) 0 (bd Try.f115) :=
  And.intro (True.intro) (And.intro (True.intro) (True.intro))
theorem stbig_Int_Abs_eql (k : Nat) (x : shbig_Int_Abs_eql.D) : Fbig_Int_Abs_eql (k + 1) x.1 x.2.1 x.2.2 = body2 cf (fun f a b K => COt f a b K [Ibig_Int_set_cvg k]) (fun b _ σ K => LOt Ty (kps 115) 2 b σ K []) 115 Try.f115.ntmps Try.f115.results.toList (bd Try.f115) (shbig_Int_Abs_eql.enc x).1 (shbig_Int_Abs_eql.enc x).2 (putS FS.dec rsbig_Int_Abs_eql) := by kernel_rfl
theorem okbig_Int_Abs_eql : ∀ k, InstOk (call cf k) (Ibig_Int_Abs_eql k)
  | 0 => fun x y e => absurd (show (none : Option _) = some y from e) (by simp)
  | k + 1 => inst_ok (c := cf) (k := k) (f := 115) (fn := Try.f115) (body := bd Try.f115) (sh := shbig_Int_Abs_eql) (os := rsbig_Int_Abs_eql) rfl Try.func115 rfl ⟨rfl, Nat.le_of_ble_eq_true rfl⟩ (COt_ok (albig_Int_Abs_eql k)) (anbig_Int_Abs_eql k) (fun x => Fbig_Int_Abs_eql (k + 1) x.1 x.2.1 x.2.2) (stbig_Int_Abs_eql k)

/-! shunt/big.add -/
def Lbig_add_0s (k : Nat) (rec : List Int → List Int → Nat → Int → Int → Int → List Int → Option (List Int × Nat × Int × List Int)) (a : List Int) (b : List Int) (out1 : Nat) (carry : Int) (x : Int) (x1 : Int) (outs : List Int) : Option (List Int × Nat × Int × List Int) :=
  if ((decide (x1 < x)) = true) then
    if ((0 : Int) ≤ x1) then
      Option.bind (a)[(Int.toNat x1)]? fun x2 =>
      if ((decide (x1 < (((List.length b) : Nat) : Int))) = true) then
        if ((0 : Int) ≤ x1) then
          Option.bind (b)[(Int.toNat x1)]? fun x3 =>
          if (((0 : Int) ≤ x1) ∧ (x1 < ((out1 : Nat) : Int))) then
            Option.bind (outs)[(0 + (Int.toNat x1))]? fun x4 =>
            rec a b out1 (Int.fdiv (IntKind.wrap .u64 ((IntKind.wrap .u64 ((IntKind.wrap .u64 x2) + carry)) + (IntKind.wrap .u64 x3))) (4294967296 : Int)) x (IntKind.wrap .i64 (x1 + (1 : Int))) (List.set outs (0 + (Int.toNat x1)) (IntKind.wrap .u32 (IntKind.wrap .u64 ((IntKind.wrap .u64 ((IntKind.wrap .u64 x2) + carry)) + (IntKind.wrap .u64 x3)))))
          else
          none
        else
        none
      else
      if (((0 : Int) ≤ x1) ∧ (x1 < ((out1 : Nat) : Int))) then
        Option.bind (outs)[(0 + (Int.toNat x1))]? fun x3 =>
        rec a b out1 (Int.fdiv (IntKind.wrap .u64 ((IntKind.wrap .u64 x2) + carry)) (4294967296 : Int)) x (IntKind.wrap .i64 (x1 + (1 : Int))) (List.set outs (0 + (Int.toNat x1)) (IntKind.wrap .u32 (IntKind.wrap .u64 ((IntKind.wrap .u64 x2) + carry))))
      else
      none
    else
    none
  else
  (some (a, out1, carry, outs))
def Lbig_add_0 (k n : Nat) : List Int → List Int → Nat → Int → Int → Int → List Int → Option (List Int × Nat × Int × List Int) := Nat.rec (fun _ _ _ _ _ _ _ => none) (fun _ r => Lbig_add_0s k r) n
def bbig_add (k : Nat) (a : List Int) (b : List Int) : Option (List Int) :=
  if ((decide ((((List.length a) : Nat) : Int) < (((List.length b) : Nat) : Int))) = true) then
    if (((0 : Int) ≤ (IntKind.wrap .i64 ((((List.length b) : Nat) : Int) + (1 : Int)))) ∧ (((IntKind.wrap .i64 ((((List.length b) : Nat) : Int) + (1 : Int))) ≤ (IntKind.wrap .i64 ((((List.length b) : Nat) : Int) + (1 : Int)))) ∧ (((IntKind.wrap .i64 ((((List.length b) : Nat) : Int) + (1 : Int))) * (4 : Int)) ≤ (140737488355328 : Int)))) then
      Option.bind (Lbig_add_0 k k b a (Int.toNat (IntKind.wrap .i64 ((((List.length b) : Nat) : Int) + (1 : Int)))) (0 : Int) (((List.length b) : Nat) : Int) (0 : Int) (List.replicate (Int.toNat (IntKind.wrap .i64 ((((List.length b) : Nat) : Int) + (1 : Int)))) (0 : Int))) fun r10 =>
      if (((0 : Int) ≤ (((List.length r10.1) : Nat) : Int)) ∧ ((((List.length r10.1) : Nat) : Int) < ((r10.2.1 : Nat) : Int))) then
        Option.bind (r10.2.2.2)[(0 + (Int.toNat (((List.length r10.1) : Nat) : Int)))]? fun x2 =>
        if ((0 + r10.2.1) ≤ (List.length (List.set r10.2.2.2 (0 + (Int.toNat (((List.length r10.1) : Nat) : Int))) (IntKind.wrap .u32 r10.2.2.1)))) then
          (some (List.take r10.2.1 (List.set r10.2.2.2 (0 + (Int.toNat (((List.length r10.1) : Nat) : Int))) (IntKind.wrap .u32 r10.2.2.1))))
        else
        none
      else
      none
    else
    none
  else
  if (((0 : Int) ≤ (IntKind.wrap .i64 ((((List.length a) : Nat) : Int) + (1 : Int)))) ∧ (((IntKind.wrap .i64 ((((List.length a) : Nat) : Int) + (1 : Int))) ≤ (IntKind.wrap .i64 ((((List.length a) : Nat) : Int) + (1 : Int)))) ∧ (((IntKind.wrap .i64 ((((List.length a) : Nat) : Int) + (1 : Int))) * (4 : Int)) ≤ (140737488355328 : Int)))) then
    Option.bind (Lbig_add_0 k k a b (Int.toNat (IntKind.wrap .i64 ((((List.length a) : Nat) : Int) + (1 : Int)))) (0 : Int) (((List.length a) : Nat) : Int) (0 : Int) (List.replicate (Int.toNat (IntKind.wrap .i64 ((((List.length a) : Nat) : Int) + (1 : Int)))) (0 : Int))) fun r10 =>
    if (((0 : Int) ≤ (((List.length r10.1) : Nat) : Int)) ∧ ((((List.length r10.1) : Nat) : Int) < ((r10.2.1 : Nat) : Int))) then
      Option.bind (r10.2.2.2)[(0 + (Int.toNat (((List.length r10.1) : Nat) : Int)))]? fun x2 =>
      if ((0 + r10.2.1) ≤ (List.length (List.set r10.2.2.2 (0 + (Int.toNat (((List.length r10.1) : Nat) : Int))) (IntKind.wrap .u32 r10.2.2.1)))) then
        (some (List.take r10.2.1 (List.set r10.2.2.2 (0 + (Int.toNat (((List.length r10.1) : Nat) : Int))) (IntKind.wrap .u32 r10.2.2.1))))
      else
      none
    else
    none
  else
  none
def Fbig_add : Nat → List Int → List Int → Option (List Int)
  | 0, _, _ => none
  | k + 1, a, b => bbig_add k a b
def shbig_add : FS := { vs := [.a (.lf (.sl (.int .u32))), .a (.lf (.sl (.int .u32)))], bs := [] }
def rsbig_add : List FS := [{ vs := [.a (.lf (.sl (.int .u32)))], bs := [] }]
def Ibig_add (k : Nat) : Inst := ⟨122, shbig_add, rsbig_add, fun x => Fbig_add k x.1 x.2⟩
theorem albig_add (k : Nat) : AllI (call cf k) [] := True.intro
def hsbig_add_0 : List SS := [{ fr := [(0, .a (.lf (.sl (.int .u32)))), (1, .a (.lf (.sl (.int .u32)))), (5, .a (.smz 0)), (6, .a (.lf (.int .u64))), (21, .a (.lf (.int .i64))), (22, .a (.lf (.int .i64)))], mem := [(0, some (.arr (.int .u32) 1 72 false))], nx := 1 }]
def osbig_add_0 : List OS := [⟨some 0, { fr := [(0, .a (.lf (.sl (.int .u32)))), (5, .a (.smz 0)), (6, .a (.lf (.int .u64)))], mem := [(0, some (.arr (.int .u32) 1 72 false))], nx := 1 }⟩]
def LIbig_add_0 (k : Nat) : LInst := ⟨0, hsbig_add_0, osbig_add_0, fun x => Lbig_add_0 k k x.1 x.2.1 x.2.2.1 x.2.2.2.1 x.2.2.2.2.1 x.2.2.2.2.2.1 x.2.2.2.2.2.2⟩
theorem anbig_add_0 (k : Nat) : LAll (LOk (R := DS OS.D osbig_add_0) (fun b _ σ K => LOt Ty (kps 122) 0 b σ K []) cf (call cf k) (kps 122) Try.f122.ntmps k 0) 0 (lb Try.f122 0) :=
  And.intro (True.intro) (And.intro (And.intro (True.intro) (True.intro)) (And.intro (And.intro (True.intro) (And.intro (True.intro) (And.intro (And.intro (True.intro) (And.intro (True.intro) (True.intro))) (And.intro (True.intro) (True.intro))))) (True.intro)))
theorem stbig_add_0 (k n : Nat) (x : DS SS.D hsbig_add_0) : Lbig_add_0 k (n + 1) x.1 x.2.1 x.2.2.1 x.2.2.2.1 x.2.2.2.2.1 x.2.2.2.2.2.1 x.2.2.2.2.2.2 = encSK SS.enc (fun σ => run2 cf (fun f a b K => COt f a b K []) (fun b _ σ K => LOt Ty (kps 122) 0 b σ K []) Try.f122.ntmps 0 (lb Try.f122 0) σ (nextK Ty (kps 122 0) 0 hsbig_add_0 osbig_add_0 fun x => Lbig_add_0 k n x.1 x.2.1 x.2.2.1 x.2.2.2.1 x.2.2.2.2.1 x.2.2.2.2.2.1 x.2.2.2.2.2.2)) hsbig_add_0 x := by kernel_rfl
theorem lobig_add_0 (k : Nat) : LIOk cf (call cf k) (kps 122) Try.f122.ntmps k 0 0 (lb Try.f122 0) (LIbig_add_0 k) :=
  loop_ok (c := cf) (callF := call cf k) (kp := kps 122) (nt := Try.f122.ntmps) (k := k) (p := 0) (b := 0) (x0 := lb Try.f122 0) (hs := hsbig_add_0) (os := osbig_add_0) (COt_ok (albig_add k)) (anbig_add_0 k) (fun n x => Lbig_add_0 k n x.1 x.2.1 x.2.2.1 x.2.2.2.1 x.2.2.2.2.1 x.2.2.2.2.2.1 x.2.2.2.2.2.2) (fun _ => rfl) (stbig_add_0 k)
theorem anbig_add (k : Nat) : LAll (LOk (R := DS FS.D rsbig_add) (fun b _ σ K => LOt Ty (kps 122) 0 b σ K [LIbig_add_0 k]) cf (call cf k) (cf.keep 122) Try.f122.ntmps k shbig_add.bs.length) 0 (bd Try.f122) :=
  And.intro (True.intro) (And.intro (And.intro (True.intro) (And.intro (True.intro) (True.intro))) (And.intro (True.intro) (And.intro (True.intro) (And.intro (And.intro (True.intro) (LOt_ok (c := cf) (callF := call cf k) (kp := kps 122) (nt := Try.f122.ntmps) (k := k) (p := 0) (b := 0) (x0 := lb Try.f122 0) (l := [LIbig_add_0 k]) (And.intro (fun _ => lobig_add_0 k) (True.intro)))) (And.intro (True.intro) (And.intro (True.intro) (True.intro)))))))
theorem stbig_add (k : Nat) (x : shbig_add.D) : Fbig_add (k + 1) x.1 x.2 = body2 cf (fun f a b K => COt f a b K []) (fun b _ σ K => LOt Ty (kps 122) 0 b σ K [LIbig_add_0 k]) 122 Try.f122.ntmps Try.f122.results.toList (bd Try.f122) (shbig_add.enc x).1 (shbig_add.enc x).2 (putS FS.dec rsbig_add) := by kernel_rfl
theorem okbig_add : ∀ k, InstOk (call cf k) (Ibig_add k)
  | 0 => fun x y e => absurd (show (none : Option _) = some y from e) (by simp)
  | k + 1 => inst_ok (c := cf) (k := k) (f := 122) (fn := Try.f122) (body := bd Try.f122) (sh := shbig_add) (os := rsbig_add) rfl Try.func122 rfl ⟨rfl, Nat.le_of_ble_eq_true rfl⟩ (COt_ok (albig_add k)) (anbig_add k) (fun x => Fbig_add (k + 1) x.1 x.2) (stbig_add k)

/-! shunt/big.sub -/
def Lbig_sub_0s (k : Nat) (rec : List Int → List Int → Nat → Int → Int → Int → List Int → Option (Nat × List Int)) (a : List Int) (b : List Int) (out1 : Nat) (borrow : Int) (x : Int) (x1 : Int) (outs : List Int) : Option (Nat × List Int) :=
  if ((decide (x1 < x)) = true) then
    if ((decide (x1 < (((List.length b) : Nat) : Int))) = true) then
      if ((0 : Int) ≤ x1) then
        Option.bind (b)[(Int.toNat x1)]? fun x2 =>
        if ((0 : Int) ≤ x1) then
          Option.bind (a)[(Int.toNat x1)]? fun x3 =>
          if (((0 : Int) ≤ x1) ∧ (x1 < ((out1 : Nat) : Int))) then
            Option.bind (outs)[(0 + (Int.toNat x1))]? fun x4 =>
            if ((0 : Int) ≤ x1) then
              Option.bind (a)[(Int.toNat x1)]? fun x5 =>
              if ((decide ((IntKind.wrap .u64 x5) < (IntKind.wrap .u64 (borrow + (IntKind.wrap .u64 x2))))) = true) then
                rec a b out1 (1 : Int) x (IntKind.wrap .i64 (x1 + (1 : Int))) (List.set outs (0 + (Int.toNat x1)) (IntKind.wrap .u32 (IntKind.wrap .u64 ((IntKind.wrap .u64 x3) - (IntKind.wrap .u64 (borrow + (IntKind.wrap .u64 x2)))))))
              else
              rec a b out1 (0 : Int) x (IntKind.wrap .i64 (x1 + (1 : Int))) (List.set outs (0 + (Int.toNat x1)) (IntKind.wrap .u32 (IntKind.wrap .u64 ((IntKind.wrap .u64 x3) - (IntKind.wrap .u64 (borrow + (IntKind.wrap .u64 x2)))))))
            else
            none
          else
          none
        else
        none
      else
      none
    else
    if ((0 : Int) ≤ x1) then
      Option.bind (a)[(Int.toNat x1)]? fun x2 =>
      if (((0 : Int) ≤ x1) ∧ (x1 < ((out1 : Nat) : Int))) then
        Option.bind (outs)[(0 + (Int.toNat x1))]? fun x3 =>
        if ((0 : Int) ≤ x1) then
          Option.bind (a)[(Int.toNat x1)]? fun x4 =>
          if ((decide ((IntKind.wrap .u64 x4) < borrow)) = true) then
            rec a b out1 (1 : Int) x (IntKind.wrap .i64 (x1 + (1 : Int))) (List.set outs (0 + (Int.toNat x1)) (IntKind.wrap .u32 (IntKind.wrap .u64 ((IntKind.wrap .u64 x2) - borrow))))
          else
          rec a b out1 (0 : Int) x (IntKind.wrap .i64 (x1 + (1 : Int))) (List.set outs (0 + (Int.toNat x1)) (IntKind.wrap .u32 (IntKind.wrap .u64 ((IntKind.wrap .u64 x2) - borrow))))
        else
        none
      else
      none
    else
    none
  else
  (some (out1, outs))
def Lbig_sub_0 (k n : Nat) : List Int → List Int → Nat → Int → Int → Int → List Int → Option (Nat × List Int) := Nat.rec (fun _ _ _ _ _ _ _ => none) (fun _ r => Lbig_sub_0s k r) n
def bbig_sub (k : Nat) (a : List Int) (b : List Int) : Option (List Int) :=
  if (((0 : Int) ≤ (((List.length a) : Nat) : Int)) ∧ (((((List.length a) : Nat) : Int) ≤ (((List.length a) : Nat) : Int)) ∧ (((((List.length a) : Nat) : Int) * (4 : Int)) ≤ (140737488355328 : Int)))) then
    Option.bind (Lbig_sub_0 k k a b (Int.toNat (((List.length a) : Nat) : Int)) (0 : Int) (((List.length a) : Nat) : Int) (0 : Int) (List.replicate (Int.toNat (((List.length a) : Nat) : Int)) (0 : Int))) fun r11 =>
    if ((0 + r11.1) ≤ (List.length r11.2)) then
      (some (List.take r11.1 r11.2))
    else
    none
  else
  none
def Fbig_sub : Nat → List Int → List Int → Option (List Int)
  | 0, _, _ => none
  | k + 1, a, b => bbig_sub k a b
def shbig_sub : FS := { vs := [.a (.lf (.sl (.int .u32))), .a (.lf (.sl (.int .u32)))], bs := [] }
def rsbig_sub : List FS := [{ vs := [.a (.lf (.sl (.int .u32)))], bs := [] }]
def Ibig_sub (k : Nat) : Inst := ⟨123, shbig_sub, rsbig_sub, fun x => Fbig_sub k x.1 x.2⟩
theorem albig_sub (k : Nat) : AllI (call cf k) [] := True.intro
def hsbig_sub_0 : List SS := [{ fr := [(0, .a (.lf (.sl (.int .u32)))), (1, .a (.lf (.sl (.int .u32)))), (5, .a (.smz 0)), (6, .a (.lf (.int .u64))), (13, .a (.lf (.int .i64))), (14, .a (.lf (.int .i64)))], mem := [(0, some (.arr (.int .u32) 1 72 false))], nx := 1 }]
def osbig_sub_0 : List OS := [⟨some 0, { fr := [(5, .a (.smz 0))], mem := [(0, some (.arr (.int .u32) 1 72 false))], nx := 1 }⟩]
def LIbig_sub_0 (k : Nat) : LInst := ⟨0, hsbig_sub_0, osbig_sub_0, fun x => Lbig_sub_0 k k x.1 x.2.1 x.2.2.1 x.2.2.2.1 x.2.2.2.2.1 x.2.2.2.2.2.1 x.2.2.2.2.2.2⟩
theorem anbig_sub_0 (k : Nat) : LAll (LOk (R := DS OS.D osbig_sub_0) (fun b _ σ K => LOt Ty (kps 123) 0 b σ K []) cf (call cf k) (kps 123) Try.f123.ntmps k 0) 0 (lb Try.f123 0) :=
  And.intro (True.intro) (And.intro (And.intro (True.intro) (True.intro)) (And.intro (And.intro (True.intro) (And.intro (True.intro) (And.intro (And.intro (True.intro) (And.intro (True.intro) (True.intro))) (And.intro (True.intro) (And.intro (True.intro) (And.intro (True.intro) (And.intro (True.intro) (True.intro)))))))) (True.intro)))
theorem stbig_sub_0 (k n : Nat) (x : DS SS.D hsbig_sub_0) : Lbig_sub_0 k (n + 1) x.1 x.2.1 x.2.2.1 x.2.2.2.1 x.2.2.2.2.1 x.2.2.2.2.2.1 x.2.2.2.2.2.2 = encSK SS.enc (fun σ => run2 cf (fun f a b K => COt f a b K []) (fun b _ σ K => LOt Ty (kps 123) 0 b σ K []) Try.f123.ntmps 0 (lb Try.f123 0) σ (nextK Ty (kps 123 0) 0 hsbig_sub_0 osbig_sub_0 fun x => Lbig_sub_0 k n x.1 x.2.1 x.2.2.1 x.2.2.2.1 x.2.2.2.2.1 x.2.2.2.2.2.1 x.2.2.2.2.2.2)) hsbig_sub_0 x := by kernel_rfl
theorem lobig_sub_0 (k : Nat) : LIOk cf (call cf k) (kps 123) Try.f123.ntmps k 0 0 (lb Try.f123 0) (LIbig_sub_0 k) :=
  loop_ok (c := cf) (callF := call cf k) (kp := kps 123) (nt := Try.f123.ntmps) (k := k) (p := 0) (b := 0) (x0 := lb Try.f123 0) (hs := hsbig_sub_0) (os := osbig_sub_0) (COt_ok (albig_sub k)) (anbig_sub_0 k) (fun n x => Lbig_sub_0 k n x.1 x.2.1 x.2.2.1 x.2.2.2.1 x.2.2.2.2.1 x.2.2.2.2.2.1 x.2.2.2.2.2.2) (fun _ => rfl) (stbig_sub_0 k)
theorem anbig_sub (k : Nat) : LAll (LOk (R := DS FS.D rsbig_sub) (fun b _ σ K => LOt Ty (kps 123) 0 b σ K [LIbig_sub_0 k]) cf (call cf k) (cf.keep 123) Try.f123.ntmps k shbig_sub.bs.length) 0 (bd Try.f123) :=
  And.intro (True.intro) (And.intro (True.intro) (And.intro (True.intro) (And.intro (And.intro (True.intro) (LOt_ok (c := cf) (callF := call cf k) (kp := kps 123) (nt := Try.f123.ntmps) (k := k) (p := 0) (b := 0) (x0 := lb Try.f123 0) (l := [LIbig_sub_0 k]) (And.intro (fun _ => lobig_sub_0 k) (True.intro)))) (And.intro (True.intro) (True.intro)))))
theorem stbig_sub (k : Nat) (x : shbig_sub.D) : Fbig_sub (k + 1) x.1 x.2 = body2 cf (fun f a b K => COt f a b K []) (fun b _ σ K => LOt Ty (kps 123) 0 b σ K [LIbig_sub_0 k]) 123 Try.f123.ntmps Try.f123.results.toList (bd Try.f123) (shbig_sub.enc x).1 (shbig_sub.enc x).2 (putS FS.dec rsbig_sub) := by kernel_rfl
theorem okbig_sub : ∀ k, InstOk (call cf k) (Ibig_sub k)
  | 0 => fun x y e => absurd (show (none : Option _) = some y from e) (by simp)
  | k + 1 => inst_ok (c := cf) (k := k) (f := 123) (fn := Try.f123) (body := bd Try.f123) (sh := shbig_sub) (os := rsbig_sub) rfl Try.func123 rfl ⟨rfl, Nat.le_of_ble_eq_true rfl⟩ (COt_ok (albig_sub k)) (anbig_sub k) (fun x => Fbig_sub (k + 1) x.1 x.2) (stbig_sub k)

/-! (*shunt/big.Int).sum -/
def bbig_Int_sum_ahd (k : Nat) (yneg : Bool) (y : List Int) (x0 : Bool) (x1 : List Int) : Option (Bool × List Int) :=
  if ((x0 == yneg) = true) then
    Option.bind (Fbig_add k x1 y) fun r10 =>
    Option.bind (Fbig_Int_set_paj k x0 r10 x0 x1) fun r11 =>
    (some (r11.1, r11.2))
  else
  Option.bind (Fbig_cmp k x1 y) fun r10 =>
  if ((decide (r10 ≥ (0 : Int))) = true) then
    Option.bind (Fbig_sub k x1 y) fun r11 =>
    Option.bind (Fbig_Int_set_paj k x0 r11 x0 x1) fun r12 =>
    (some (r12.1, r12.2))
  else
  Option.bind (Fbig_sub k y x1) fun r11 =>
  Option.bind (Fbig_Int_set_paj k yneg r11 x0 x1) fun r12 =>
  (some (r12.1, r12.2))
def Fbig_Int_sum_ahd : Nat → Bool → List Int → Bool → List Int → Option (Bool × List Int)
  | 0, _, _, _, _ => none
  | k + 1, yneg, y, x0, x1 => bbig_Int_sum_ahd k yneg y x0 x1
def shbig_Int_sum_ahd : FS := { vs := [.a (.ptr 0 0 0), .a (.ptr 0 0 0), .a (.lf .bool), .a (.lf (.sl (.int .u32)))], bs := [.raw [[.lf .bool, .lf (.sl (.int .u32))]] 2 98 true false] }
def rsbig_Int_sum_ahd : List FS := [{ vs := [.a (.ptr 0 0 0)], bs := [.raw [[.lf .bool, .lf (.sl (.int .u32))]] 2 98 true false] }]
def Ibig_Int_sum_ahd (k : Nat) : Inst := ⟨118, shbig_Int_sum_ahd, rsbig_Int_sum_ahd, fun x => Fbig_Int_sum_ahd k x.1 x.2.1 x.2.2.1 x.2.2.2⟩
theorem albig_Int_sum_ahd (k : Nat) : AllI (call cf k) [Ibig_add k, Ibig_Int_set_paj k, Ibig_cmp k, Ibig_sub k] := And.intro (okbig_add k) (And.intro (okbig_Int_set_paj k) (And.intro (okbig_cmp k) (And.intro (okbig_sub k) (True.intro))))
theorem anbig_Int_sum_ahd (k : Nat) : LAll (LOk (R := DS FS.D rsbig_Int_sum_ahd) (fun b _ σ K => LOt Ty (kps 118) 1 b σ K []) cf (call cf k) (cf.keep 118) Try.f118.ntmps k shbig_Int_sum_ahd.bs.length) 0 (bd Try.f118) :=
  And.intro (True.intro) (And.intro (And.intro (True.intro) (And.intro (And.intro (True.intro) (True.intro)) (True.intro))) (And.intro (And.intro (True.intro) (And.intro (And.intro (True.intro) (True.intro)) (True.intro))) (And.intro (True.intro) (True.intro))))
theorem stbig_Int_sum_ahd (k : Nat) (x : shbig_Int_sum_ahd.D) : Fbig_Int_sum_ahd (k + 1) x.1 x.2.1 x.2.2.1 x.2.2.2 = body2 cf (fun f a b K => COt f a b K [Ibig_add k, Ibig_Int_set_paj k, Ibig_cmp k, Ibig_sub k]) (fun b _ σ K => LOt Ty (kps 118) 1 b σ K []) 118 Try.f118.ntmps Try.f118.results.toList (bd Try.f118) (shbig_Int_sum_ahd.enc x).1 (shbig_Int_sum_ahd.enc x).2 (putS FS.dec rsbig_Int_sum_ahd) := by kernel_rfl
theorem okbig_Int_sum_ahd : ∀ k, InstOk (call cf k) (Ibig_Int_sum_ahd k)
  | 0 => fun x y e => absurd (show (none : Option _) = some y from e) (by simp)
  | k + 1 => inst_ok (c := cf) (k := k) (f := 118) (fn := Try.f118) (body := bd Try.f118) (sh := shbig_Int_sum_ahd) (os := rsbig_Int_sum_ahd) rfl Try.func118 rfl ⟨rfl, Nat.le_of_ble_eq_true rfl⟩ (COt_ok (albig_Int_sum_ahd k)) (anbig_Int_sum_ahd k) (fun x => Fbig_Int_sum_ahd (k + 1) x.1 x.2.1 x.2.2.1 x.2.2.2) (stbig_Int_sum_ahd k)

/-! (*shunt/big.Int).Add -/
def bbig_Int_Add_aht (k : Nat) (y0 : Bool) (y1 : List Int) : Option (Bool × List Int) :=
  Option.bind (Fbig_Int_sum_ahd k y0 y1 y0 y1) fun r10 =>
  (some (r10.1, r10.2))
def Fbig_Int_Add_aht : Nat → Bool → List Int → Option (Bool × List Int)
  | 0, _, _ => none
  | k + 1, y0, y1 => bbig_Int_Add_aht k y0 y1
def shbig_Int_Add_aht : FS := { vs := [.a (.ptr 0 0 0), .a (.ptr 0 0 0), .a (.ptr 0 0 0)], bs := [.raw [[.lf .bool, .lf (.sl (.int .u32))]] 2 98 true false] }
def rsbig_Int_Add_aht : List FS := [{ vs := [.a (.ptr 0 0 0)], bs := [.raw [[.lf .bool, .lf (.sl (.int .u32))]] 2 98 true false] }]
def Ibig_Int_Add_aht (k : Nat) : Inst := ⟨94, shbig_Int_Add_aht, rsbig_Int_Add_aht, fun x => Fbig_Int_Add_aht k x.1 x.2⟩
theorem albig_Int_Add_aht (k : Nat) : AllI (call cf k) [Ibig_Int_sum_ahd k] := And.intro (okbig_Int_sum_ahd k) (True.intro)
theorem anbig_Int_Add_aht (k : Nat) : LAll (LOk (R := DS FS.D rsbig_Int_Add_aht) (fun b _ σ K => LOt Ty (kps 94) 1 b σ K []) cf (call cf k) (cf.keep 94) Try.f94.ntmps k shbig_Int_Add_aht.bs.length) 0 (bd Try.f94) :=
  And.intro (True.intro) (And.intro (True.intro) (True.intro))
theorem stbig_Int_Add_aht (k : Nat) (x : shbig_Int_Add_aht.D) : Fbig_Int_Add_aht (k + 1) x.1 x.2 = body2 cf (fun f a b K => COt f a b K [Ibig_Int_sum_ahd k]) (fun b _ σ K => LOt Ty (kps 94) 1 b σ K []) 94 Try.f94.ntmps Try.f94.results.toList (bd Try.f94) (shbig_Int_Add_aht.enc x).1 (shbig_Int_Add_aht.enc x).2 (putS FS.dec rsbig_Int_Add_aht) := by kernel_rfl
theorem okbig_Int_Add_aht : ∀ k, InstOk (call cf k) (Ibig_Int_Add_aht k)
  | 0 => fun x y e => absurd (show (none : Option _) = some y from e) (by simp)
  | k + 1 => inst_ok (c := cf) (k := k) (f := 94) (fn := Try.f94) (body := bd Try.f94) (sh := shbig_Int_Add_aht) (os := rsbig_Int_Add_aht) rfl Try.func94 rfl ⟨rfl, Nat.le_of_ble_eq_true rfl⟩ (COt_ok (albig_Int_Add_aht k)) (anbig_Int_Add_aht k) (fun x => Fbig_Int_Add_aht (k + 1) x.1 x.2) (stbig_Int_Add_aht k)

/-! (*shunt/big.Int).Cmp -/
def bbig_Int_Cmp_ddu (k : Nat) (z0 : Bool) (z1 : List Int) (y0 : Bool) (y1 : List Int) : Option (Int × Bool × List Int × Bool × List Int) :=
  if ((!(z0 == y0)) = true) then
    if (z0 = true) then
      (some ((-(1 : Int)), z0, z1, y0, y1))
    else
    (some ((1 : Int), z0, z1, y0, y1))
  else
  Option.bind (Fbig_cmp k z1 y1) fun r11 =>
  if (z0 = true) then
    (some ((IntKind.wrap .i64 ((0 : Int) - r11)), z0, z1, y0, y1))
  else
  (some (r11, z0, z1, y0, y1))
def Fbig_Int_Cmp_ddu : Nat → Bool → List Int → Bool → List Int → Option (Int × Bool × List Int × Bool × List Int)
  | 0, _, _, _, _ => none
  | k + 1, z0, z1, y0, y1 => bbig_Int_Cmp_ddu k z0 z1 y0 y1
def shbig_Int_Cmp_ddu : FS := { vs := [.a (.ptr 0 0 0), .a (.ptr 1 0 0)], bs := [.raw [[.lf .bool, .lf (.sl (.int .u32))]] 2 98 true false, .raw [[.lf .bool, .lf (.sl (.int .u32))]] 2 98 true false] }
def rsbig_Int_Cmp_ddu : List FS := [{ vs := [.a (.lf (.int .i64))], bs := [.raw [[.lf .bool, .lf (.sl (.int .u32))]] 2 98 true false, .raw [[.lf .bool, .lf (.sl (.int .u32))]] 2 98 true false] }]
def Ibig_Int_Cmp_ddu (k : Nat) : Inst := ⟨86, shbig_Int_Cmp_ddu, rsbig_Int_Cmp_ddu, fun x => Fbig_Int_Cmp_ddu k x.1 x.2.1 x.2.2.1 x.2.2.2⟩
theorem albig_Int_Cmp_ddu (k : Nat) : AllI (call cf k) [Ibig_cmp k] := And.intro (okbig_cmp k) (True.intro)
theorem anbig_Int_Cmp_ddu (k : Nat) : LAll (LOk (R := DS FS.D rsbig_Int_Cmp_ddu) (fun b _ σ K => LOt Ty (kps 86) 2 b σ K []) cf (call cf k) (cf.keep 86) Try.f86.ntmps k shbig_Int_Cmp_ddu.bs.length) 0 (bd Try.f86) :=
  And.intro (True.intro) (And.intro (And.intro (True.intro) (And.intro (And.intro (And.intro (True.intro) (And.intro (And.intro (True.intro) (True.intro)) (True.intro))) (And.intro (True.intro) (True.intro))) (True.intro))) (And.intro (True.intro) (And.intro (And.intro (True.intro) (And.intro (And.intro (True.intro) (True.intro)) (True.intro))) (And.intro (True.intro) (True.intro)))))
theorem stbig_Int_Cmp_ddu (k : Nat) (x : shbig_Int_Cmp_ddu.D) : Fbig_Int_Cmp_ddu (k + 1) x.1 x.2.1 x.2.2.1 x.2.2.2 = body2 cf (fun f a b K => COt f a b K [Ibig_cmp k]) (fun b _ σ K => LOt Ty (kps 86) 2 b σ K []) 86 Try.f86.ntmps Try.f86.results.toList (bd Try.f86) (shbig_Int_Cmp_ddu.enc x).1 (shbig_Int_Cmp_ddu.enc x).2 (putS FS.dec rsbig_Int_Cmp_ddu) := by kernel_rfl
theorem okbig_Int_Cmp_ddu : ∀ k, InstOk (call cf k) (Ibig_Int_Cmp_ddu k)
  | 0 => fun x y e => absurd (show (none : Option _) = some y from e) (by simp)
  | k + 1 => inst_ok (c := cf) (k := k) (f := 86) (fn := Try.f86) (body := bd Try.f86) (sh := shbig_Int_Cmp_ddu) (os := rsbig_Int_Cmp_ddu) rfl Try.func86 rfl ⟨rfl, Nat.le_of_ble_eq_true rfl⟩ (COt_ok (albig_Int_Cmp_ddu k)) (anbig_Int_Cmp_ddu k) (fun x => Fbig_Int_Cmp_ddu (k + 1) x.1 x.2.1 x.2.2.1 x.2.2.2) (stbig_Int_Cmp_ddu k)

/-! (*shunt/big.Int).Odd -/
def bbig_Int_Odd_awf (k : Nat) (z0 : Bool) (z1 : List Int) : Option (Bool × Bool × List Int) :=
  if ((decide ((((List.length z1) : Nat) : Int) > (0 : Int))) = true) then
    Option.bind (z1)[0]? fun x1 =>
    (some (((IntKind.wrap .u32 (((BitVec.toNat ((BitVec.ofInt 32 x1) &&& (BitVec.ofInt 32 (1 : Int)))) : Nat) : Int)) == (1 : Int)), z0, z1))
  else
  (some (false, z0, z1))
def Fbig_Int_Odd_awf : Nat → Bool → List Int → Option (Bool × Bool × List Int)
  | 0, _, _ => none
  | k + 1, z0, z1 => bbig_Int_Odd_awf k z0 z1
def shbig_Int_Odd_awf : FS := { vs := [.a (.ptr 0 0 0)], bs := [.raw [[.lf .bool, .lf (.sl (.int .u32))]] 2 98 true false] }
def rsbig_Int_Odd_awf : List FS := [{ vs := [.a (.lf .bool)], bs := [.raw [[.lf .bool, .lf (.sl (.int .u32))]] 2 98 true false] }]
def Ibig_Int_Odd_awf (k : Nat) : Inst := ⟨116, shbig_Int_Odd_awf, rsbig_Int_Odd_awf, fun x => Fbig_Int_Odd_awf k x.1 x.2⟩
theorem albig_Int_Odd_awf (k : Nat) : AllI (call cf k) [] := True.intro
theorem anbig_Int_Odd_awf (k : Nat) : LAll (LOk (R := DS FS.D rsbig_Int_Odd_awf) (fun b _ σ K => LOt Ty (kps 116) 1 b σ K []) cf (call cf k) (cf.keep 116) Try.f116.ntmps k shbig_Int_Odd_awf.bs.length) 0 (bd Try.f116) :=
  And.intro (True.intro) (And.intro (True.intro) (True.intro))
theorem stbig_Int_Odd_awf (k : Nat) (x : shbig_Int_Odd_awf.D) : Fbig_Int_Odd_awf (k + 1) x.1 x.2 = body2 cf (fun f a b K => COt f a b K []) (fun b _ σ K => LOt Ty (kps 116) 1 b σ K []) 116 Try.f116.ntmps Try.f116.results.toList (bd Try.f116) (shbig_Int_Odd_awf.enc x).1 (shbig_Int_Odd_awf.enc x).2 (putS FS.dec rsbig_Int_Odd_awf) := by kernel_rfl
theorem okbig_Int_Odd_awf : ∀ k, InstOk (call cf k) (Ibig_Int_Odd_awf k)
  | 0 => fun x y e => absurd (show (none : Option _) = some y from e) (by simp)
  | k + 1 => inst_ok (c := cf) (k := k) (f := 116) (fn := Try.f116) (body := bd Try.f116) (sh := shbig_Int_Odd_awf) (os := rsbig_Int_Odd_awf) rfl Try.func116 rfl ⟨rfl, Nat.le_of_ble_eq_true rfl⟩ (COt_ok (albig_Int_Odd_awf k)) (anbig_Int_Odd_awf k) (fun x => Fbig_Int_Odd_awf (k + 1) x.1 x.2) (stbig_Int_Odd_awf k)


end
end Go.Proofs.Ytbhnafdmilfobaa.Am
