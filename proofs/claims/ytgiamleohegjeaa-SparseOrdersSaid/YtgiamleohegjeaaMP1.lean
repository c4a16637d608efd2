/- Printed functions: each says what the typed machine says of the program -/
import Derived.Test.YtgiamleohegjeaaMA3
import Derived.KernelRfl

set_option linter.unusedVariables false
set_option maxRecDepth 100000
namespace Go.Proofs.Ytgiamleohegjeaa.Am
open Go
noncomputable section

/-! shunt/sparse.Check -/
def Lsparse_Check_2s (k : Nat) (rec : List (List Int) → List Int → List (List Int) → Int → Int → List Int → Int → Int → Option ((Int) ⊕ (List (List Int) × List (List Int) × Int × Int))) (p : List (List Int)) (r : List Int) (x : List (List Int)) (x1 : Int) (x2 : Int) (x3 : List Int) (x4 : Int) (x5 : Int) : Option ((Int) ⊕ (List (List Int) × List (List Int) × Int × Int)) :=
  if ((decide (x5 < x4)) = true) then
    if ((0 : Int) ≤ x5) then
      Option.bind (x3)[(Int.toNat x5)]? fun x6 =>
      if ((decide (x6 < (0 : Int))) = false) then
        if ((decide (x6 ≥ (((List.length p) : Nat) : Int))) = false) then
          if ((decide (x5 > (0 : Int))) = true) then
            if ((0 : Int) ≤ (IntKind.wrap .i64 (x5 - (1 : Int)))) then
              Option.bind (r)[(Int.toNat (IntKind.wrap .i64 (x5 - (1 : Int))))]? fun x7 =>
              if ((decide (x7 ≥ x6)) = true) then
                (some (Sum.inl (130 : Int)))
              else
              rec p r x x1 x2 x3 x4 (IntKind.wrap .i64 (x5 + (1 : Int)))
            else
            none
          else
          rec p r x x1 x2 x3 x4 (IntKind.wrap .i64 (x5 + (1 : Int)))
        else
        (some (Sum.inl (130 : Int)))
      else
      (some (Sum.inl (130 : Int)))
    else
    none
  else
  (some (Sum.inr (p, x, x1, x2)))
def Lsparse_Check_2 (k n : Nat) : List (List Int) → List Int → List (List Int) → Int → Int → List Int → Int → Int → Option ((Int) ⊕ (List (List Int) × List (List Int) × Int × Int)) := Nat.rec (fun _ _ _ _ _ _ _ _ => none) (fun _ r => Lsparse_Check_2s k r) n
def Lsparse_Check_0s (k : Nat) (rec : List (List Int) → List (List Int) → Int → Int → Option ((Int) ⊕ (Unit))) (p : List (List Int)) (x : List (List Int)) (x1 : Int) (x2 : Int) : Option ((Int) ⊕ (Unit)) :=
  if ((decide (x2 < x1)) = true) then
    if ((0 : Int) ≤ x2) then
      Option.bind (x)[(Int.toNat x2)]? fun x3 =>
      Option.bind (Lsparse_Check_2 k k p x3 x x1 x2 x3 (((List.length x3) : Nat) : Int) (0 : Int)) fun r =>
      eitherK r
        (fun r =>
        (some (Sum.inl r)))
        (fun r =>
        rec r.1 r.2.1 r.2.2.1 (IntKind.wrap .i64 (r.2.2.2 + (1 : Int))))
    else
    none
  else
  (some (Sum.inr ()))
def Lsparse_Check_0 (k n : Nat) : List (List Int) → List (List Int) → Int → Int → Option ((Int) ⊕ (Unit)) := Nat.rec (fun _ _ _ _ => none) (fun _ r => Lsparse_Check_0s k r) n
def bsparse_Check (k : Nat) (p : List (List Int)) : Option (Int) :=
  if ((decide ((((List.length p) : Nat) : Int) > (48 : Int))) = true) then
    (some (130 : Int))
  else
  Option.bind (Lsparse_Check_0 k k p p (((List.length p) : Nat) : Int) (0 : Int)) fun r =>
  eitherK r
    (fun r =>
    (some r))
    (fun r =>
    (some (0 : Int)))
def Fsparse_Check : Nat → List (List Int) → Option (Int)
  | 0, _ => none
  | k + 1, p => bsparse_Check k p
def shsparse_Check : FS := { vs := [.a (.lf (.sl (.sl (.int .i64))))], bs := [] }
def rssparse_Check : List FS := [{ vs := [.a (.lf (.int .i64))], bs := [] }]
def Isparse_Check (k : Nat) : Inst := ⟨23, shsparse_Check, rssparse_Check, fun x => Fsparse_Check k x⟩
theorem alsparse_Check (k : Nat) : AllI (call cf k) [] := True.intro
def hssparse_Check_2 : List SS := [{ fr := [(0, .a (.lf (.sl (.sl (.int .i64))))), (4, .a (.lf (.sl (.int .i64)))), (10, .a (.lf (.sl (.sl (.int .i64))))), (11, .a (.lf (.int .i64))), (12, .a (.lf (.int .i64))), (16, .a (.lf (.sl (.int .i64)))), (17, .a (.lf (.int .i64))), (18, .a (.lf (.int .i64)))], mem := [], nx := 0 }]
def ossparse_Check_2 : List OS := [⟨none, { fr := [(2, .a (.lf (.int .i64)))], mem := [], nx := 0 }⟩, ⟨some 2, { fr := [(0, .a (.lf (.sl (.sl (.int .i64))))), (10, .a (.lf (.sl (.sl (.int .i64))))), (11, .a (.lf (.int .i64))), (12, .a (.lf (.int .i64)))], mem := [], nx := 0 }⟩]
def LIsparse_Check_2 (k : Nat) : LInst := ⟨2, hssparse_Check_2, ossparse_Check_2, fun x => Lsparse_Check_2 k k x.1 x.2.1 x.2.2.1 x.2.2.2.1 x.2.2.2.2.1 x.2.2.2.2.2.1 x.2.2.2.2.2.2.1 x.2.2.2.2.2.2.2⟩
theorem ansparse_Check_2 (k : Nat) : LAll (LOk (R := DS OS.D ossparse_Check_2) (fun b _ σ K => LOt Ty (kps 23) 0 b σ K []) cf (call cf k) (kps 23) Try.f23.ntmps k 0) 2 (lb Try.f23 1) :=
  And.intro (True.intro) (And.intro (And.intro (True.intro) (True.intro)) (And.intro (And.intro (True.intro) (And.intro (True.intro) (And.intro (And.intro (True.intro) (True.intro)) (True.intro)))) (True.intro)))
theorem stsparse_Check_2 (k n : Nat) (x : DS SS.D hssparse_Check_2) : Lsparse_Check_2 k (n + 1) x.1 x.2.1 x.2.2.1 x.2.2.2.1 x.2.2.2.2.1 x.2.2.2.2.2.1 x.2.2.2.2.2.2.1 x.2.2.2.2.2.2.2 = encSK SS.enc (fun σ => run2 cf (fun f a b K => COt f a b K []) (fun b _ σ K => LOt Ty (kps 23) 0 b σ K []) Try.f23.ntmps 2 (lb Try.f23 1) σ (nextK Ty (kps 23 2) 0 hssparse_Check_2 ossparse_Check_2 fun x => Lsparse_Check_2 k n x.1 x.2.1 x.2.2.1 x.2.2.2.1 x.2.2.2.2.1 x.2.2.2.2.2.1 x.2.2.2.2.2.2.1 x.2.2.2.2.2.2.2)) hssparse_Check_2 x := by kernel_rfl
theorem losparse_Check_2 (k : Nat) : LIOk cf (call cf k) (kps 23) Try.f23.ntmps k 0 2 (lb Try.f23 1) (LIsparse_Check_2 k) :=
  loop_ok (c := cf) (callF := call cf k) (kp := kps 23) (nt := Try.f23.ntmps) (k := k) (p := 0) (b := 2) (x0 := lb Try.f23 1) (hs := hssparse_Check_2) (os := ossparse_Check_2) (COt_ok (alsparse_Check k)) (ansparse_Check_2 k) (fun n x => Lsparse_Check_2 k n x.1 x.2.1 x.2.2.1 x.2.2.2.1 x.2.2.2.2.1 x.2.2.2.2.2.1 x.2.2.2.2.2.2.1 x.2.2.2.2.2.2.2) (fun _ => rfl) (stsparse_Check_2 k)
def hssparse_Check_0 : List SS := [{ fr := [(0, .a (.lf (.sl (.sl (.int .i64))))), (10, .a (.lf (.sl (.sl (.int .i64))))), (11, .a (.lf (.int .i64))), (12, .a (.lf (.int .i64)))], mem := [], nx := 0 }]
def ossparse_Check_0 : List OS := [⟨none, { fr := [(2, .a (.lf (.int .i64)))], mem := [], nx := 0 }⟩, ⟨some 0, { fr := [], mem := [], nx := 0 }⟩]
def LIsparse_Check_0 (k : Nat) : LInst := ⟨0, hssparse_Check_0, ossparse_Check_0, fun x => Lsparse_Check_0 k k x.1 x.2.1 x.2.2.1 x.2.2.2⟩
theorem ansparse_Check_0 (k : Nat) : LAll (LOk (R := DS OS.D ossparse_Check_0) (fun b _ σ K => LOt Ty (kps 23) 0 b σ K [LIsparse_Check_2 k]) cf (call cf k) (kps 23) Try.f23.ntmps k 0) 0 (lb Try.f23 0) :=
  And.intro (True.intro) (And.intro (And.intro (True.intro) (True.intro)) (And.intro (And.intro (True.intro) (And.intro (True.intro) (LOt_ok (c := cf) (callF := call cf k) (kp := kps 23) (nt := Try.f23.ntmps) (k := k) (p := 0) (b := 2) (x0 := lb Try.f23 1) (l := [LIsparse_Check_2 k]) (And.intro (fun _ => losparse_Check_2 k) (True.intro))))) (True.intro)))
theorem stsparse_Check_0 (k n : Nat) (x : DS SS.D hssparse_Check_0) : Lsparse_Check_0 k (n + 1) x.1 x.2.1 x.2.2.1 x.2.2.2 = encSK SS.enc (fun σ => run2 cf (fun f a b K => COt f a b K []) (fun b _ σ K => LOt Ty (kps 23) 0 b σ K [LIsparse_Check_2 k]) Try.f23.ntmps 0 (lb Try.f23 0) σ (nextK Ty (kps 23 0) 0 hssparse_Check_0 ossparse_Check_0 fun x => Lsparse_Check_0 k n x.1 x.2.1 x.2.2.1 x.2.2.2)) hssparse_Check_0 x := by kernel_rfl
theorem losparse_Check_0 (k : Nat) : LIOk cf (call cf k) (kps 23) Try.f23.ntmps k 0 0 (lb Try.f23 0) (LIsparse_Check_0 k) :=
  loop_ok (c := cf) (callF := call cf k) (kp := kps 23) (nt := Try.f23.ntmps) (k := k) (p := 0) (b := 0) (x0 := lb Try.f23 0) (hs := hssparse_Check_0) (os := ossparse_Check_0) (COt_ok (alsparse_Check k)) (ansparse_Check_0 k) (fun n x => Lsparse_Check_0 k n x.1 x.2.1 x.2.2.1 x.2.2.2) (fun _ => rfl) (stsparse_Check_0 k)
theorem ansparse_Check (k : Nat) : LAll (LOk (R := DS FS.D rssparse_Check) (fun b _ σ K => LOt Ty (kps 23) 0 b σ K [LIsparse_Check_2 k, LIsparse_Check_0 k]) cf (call cf k) (cf.keep 23) Try.f23.ntmps k shsparse_Check.bs.length) 0 (bd Try.f23) :=
  And.intro (True.intro) (And.intro (And.intro (True.intro) (And.intro (And.intro (True.intro) (True.intro)) (True.intro))) (And.intro (And.intro (True.intro) (LOt_ok (c := cf) (callF := call cf k) (kp := kps 23) (nt := Try.f23.ntmps) (k := k) (p := 0) (b := 0) (x0 := lb Try.f23 0) (l := [LIsparse_Check_2 k, LIsparse_Check_0 k]) (And.intro (fun h => absurd (show (2 : Nat) = 0 from h) (by decide)) (And.intro (fun _ => losparse_Check_0 k) (True.intro))))) (And.intro (True.intro) (True.intro))))
theorem stsparse_Check (k : Nat) (x : shsparse_Check.D) : Fsparse_Check (k + 1) x = body2 cf (fun f a b K => COt f a b K []) (fun b _ σ K => LOt Ty (kps 23) 0 b σ K [LIsparse_Check_2 k, LIsparse_Check_0 k]) 23 Try.f23.ntmps Try.f23.results.toList (bd Try.f23) (shsparse_Check.enc x).1 (shsparse_Check.enc x).2 (putS FS.dec rssparse_Check) := by kernel_rfl
theorem oksparse_Check : ∀ k, InstOk (call cf k) (Isparse_Check k)
  | 0 => fun x y e => absurd (show (none : Option _) = some y from e) (by simp)
  | k + 1 => inst_ok (c := cf) (k := k) (f := 23) (fn := Try.f23) (body := bd Try.f23) (sh := shsparse_Check) (os := rssparse_Check) rfl Try.func23 rfl ⟨rfl, Nat.le_of_ble_eq_true rfl⟩ (COt_ok (alsparse_Check k)) (ansparse_Check k) (fun x => Fsparse_Check (k + 1) x) (stsparse_Check k)

/-! shunt/sparse.counts -/
def Lsparse_counts_2s (k : Nat) (rec : Nat → List (List Int) → Int → Int → List Int → Int → Int → List Int → Option (Nat × List (List Int) × Int × Int × List Int)) (n : Nat) (x : List (List Int)) (x1 : Int) (x2 : Int) (x3 : List Int) (x4 : Int) (x5 : Int) (ns : List Int) : Option (Nat × List (List Int) × Int × Int × List Int) :=
  if ((decide (x5 < x4)) = true) then
    if ((0 : Int) ≤ x5) then
      Option.bind (x3)[(Int.toNat x5)]? fun x6 =>
      if (((0 : Int) ≤ x6) ∧ (x6 < ((n : Nat) : Int))) then
        Option.bind (ns)[(0 + (Int.toNat x6))]? fun x7 =>
        if (((0 : Int) ≤ x6) ∧ (x6 < ((n : Nat) : Int))) then
          Option.bind (ns)[(0 + (Int.toNat x6))]? fun x8 =>
          rec n x x1 x2 x3 x4 (IntKind.wrap .i64 (x5 + (1 : Int))) (List.set ns (0 + (Int.toNat x6)) (IntKind.wrap .i64 (x7 + (1 : Int))))
        else
        none
      else
      none
    else
    none
  else
  (some (n, x, x1, x2, ns))
def Lsparse_counts_2 (k n : Nat) : Nat → List (List Int) → Int → Int → List Int → Int → Int → List Int → Option (Nat × List (List Int) × Int × Int × List Int) := Nat.rec (fun _ _ _ _ _ _ _ _ => none) (fun _ r => Lsparse_counts_2s k r) n
def Lsparse_counts_0s (k : Nat) (rec : Nat → List (List Int) → Int → Int → List Int → Option (Nat × List Int)) (n : Nat) (x : List (List Int)) (x1 : Int) (x2 : Int) (ns : List Int) : Option (Nat × List Int) :=
  if ((decide (x2 < x1)) = true) then
    if ((0 : Int) ≤ x2) then
      Option.bind (x)[(Int.toNat x2)]? fun x3 =>
      Option.bind (Lsparse_counts_2 k k n x x1 x2 x3 (((List.length x3) : Nat) : Int) (0 : Int) ns) fun r1 =>
      rec r1.1 r1.2.1 r1.2.2.1 (IntKind.wrap .i64 (r1.2.2.2.1 + (1 : Int))) r1.2.2.2.2
    else
    none
  else
  (some (n, ns))
def Lsparse_counts_0 (k n : Nat) : Nat → List (List Int) → Int → Int → List Int → Option (Nat × List Int) := Nat.rec (fun _ _ _ _ _ => none) (fun _ r => Lsparse_counts_0s k r) n
def bsparse_counts (k : Nat) (p : List (List Int)) : Option (Nat × List Int) :=
  if (((0 : Int) ≤ (((List.length p) : Nat) : Int)) ∧ (((((List.length p) : Nat) : Int) ≤ (((List.length p) : Nat) : Int)) ∧ (((((List.length p) : Nat) : Int) * (8 : Int)) ≤ (140737488355328 : Int)))) then
    Option.bind (Lsparse_counts_0 k k (Int.toNat (((List.length p) : Nat) : Int)) p (((List.length p) : Nat) : Int) (0 : Int) (List.replicate (Int.toNat (((List.length p) : Nat) : Int)) (0 : Int))) fun r1 =>
    (some (r1.1, r1.2))
  else
  none
def Fsparse_counts : Nat → List (List Int) → Option (Nat × List Int)
  | 0, _ => none
  | k + 1, p => bsparse_counts k p
def shsparse_counts : FS := { vs := [.a (.lf (.sl (.sl (.int .i64))))], bs := [] }
def rssparse_counts : List FS := [{ vs := [.a (.smz 0)], bs := [.arr (.int .i64) 1 3 false] }]
def Isparse_counts (k : Nat) : Inst := ⟨31, shsparse_counts, rssparse_counts, fun x => Fsparse_counts k x⟩
theorem alsparse_counts (k : Nat) : AllI (call cf k) [] := True.intro
def hssparse_counts_2 : List SS := [{ fr := [(3, .a (.smz 0)), (11, .a (.lf (.sl (.sl (.int .i64))))), (12, .a (.lf (.int .i64))), (13, .a (.lf (.int .i64))), (17, .a (.lf (.sl (.int .i64)))), (18, .a (.lf (.int .i64))), (19, .a (.lf (.int .i64)))], mem := [(0, some (.arr (.int .i64) 1 3 false))], nx := 1 }]
def ossparse_counts_2 : List OS := [⟨some 2, { fr := [(3, .a (.smz 0)), (11, .a (.lf (.sl (.sl (.int .i64))))), (12, .a (.lf (.int .i64))), (13, .a (.lf (.int .i64)))], mem := [(0, some (.arr (.int .i64) 1 3 false))], nx := 1 }⟩]
def LIsparse_counts_2 (k : Nat) : LInst := ⟨2, hssparse_counts_2, ossparse_counts_2, fun x => Lsparse_counts_2 k k x.1 x.2.1 x.2.2.1 x.2.2.2.1 x.2.2.2.2.1 x.2.2.2.2.2.1 x.2.2.2.2.2.2.1 x.2.2.2.2.2.2.2⟩
theorem ansparse_counts_2 (k : Nat) : LAll (LOk (R := DS OS.D ossparse_counts_2) (fun b _ σ K => LOt Ty (kps 31) 0 b σ K []) cf (call cf k) (kps 31) Try.f31.ntmps k 0) 2 (lb Try.f31 1) :=
  And.intro (True.intro) (And.intro (And.intro (True.intro) (True.intro)) (And.intro (And.intro (True.intro) (True.intro)) (True.intro)))
theorem stsparse_counts_2 (k n : Nat) (x : DS SS.D hssparse_counts_2) : Lsparse_counts_2 k (n + 1) x.1 x.2.1 x.2.2.1 x.2.2.2.1 x.2.2.2.2.1 x.2.2.2.2.2.1 x.2.2.2.2.2.2.1 x.2.2.2.2.2.2.2 = encSK SS.enc (fun σ => run2 cf (fun f a b K => COt f a b K []) (fun b _ σ K => LOt Ty (kps 31) 0 b σ K []) Try.f31.ntmps 2 (lb Try.f31 1) σ (nextK Ty (kps 31 2) 0 hssparse_counts_2 ossparse_counts_2 fun x => Lsparse_counts_2 k n x.1 x.2.1 x.2.2.1 x.2.2.2.1 x.2.2.2.2.1 x.2.2.2.2.2.1 x.2.2.2.2.2.2.1 x.2.2.2.2.2.2.2)) hssparse_counts_2 x := by kernel_rfl
theorem losparse_counts_2 (k : Nat) : LIOk cf (call cf k) (kps 31) Try.f31.ntmps k 0 2 (lb Try.f31 1) (LIsparse_counts_2 k) :=
  loop_ok (c := cf) (callF := call cf k) (kp := kps 31) (nt := Try.f31.ntmps) (k := k) (p := 0) (b := 2) (x0 := lb Try.f31 1) (hs := hssparse_counts_2) (os := ossparse_counts_2) (COt_ok (alsparse_counts k)) (ansparse_counts_2 k) (fun n x => Lsparse_counts_2 k n x.1 x.2.1 x.2.2.1 x.2.2.2.1 x.2.2.2.2.1 x.2.2.2.2.2.1 x.2.2.2.2.2.2.1 x.2.2.2.2.2.2.2) (fun _ => rfl) (stsparse_counts_2 k)
def hssparse_counts_0 : List SS := [{ fr := [(3, .a (.smz 0)), (11, .a (.lf (.sl (.sl (.int .i64))))), (12, .a (.lf (.int .i64))), (13, .a (.lf (.int .i64)))], mem := [(0, some (.arr (.int .i64) 1 3 false))], nx := 1 }]
def ossparse_counts_0 : List OS := [⟨some 0, { fr := [(3, .a (.smz 0))], mem := [(0, some (.arr (.int .i64) 1 3 false))], nx := 1 }⟩]
def LIsparse_counts_0 (k : Nat) : LInst := ⟨0, hssparse_counts_0, ossparse_counts_0, fun x => Lsparse_counts_0 k k x.1 x.2.1 x.2.2.1 x.2.2.2.1 x.2.2.2.2⟩
theorem ansparse_counts_0 (k : Nat) : LAll (LOk (R := DS OS.D ossparse_counts_0) (fun b _ σ K => LOt Ty (kps 31) 0 b σ K [LIsparse_counts_2 k]) cf (call cf k) (kps 31) Try.f31.ntmps k 0) 0 (lb Try.f31 0) :=
  And.intro (True.intro) (And.intro (And.intro (True.intro) (True.intro)) (And.intro (And.intro (True.intro) (And.intro (True.intro) (LOt_ok (c := cf) (callF := call cf k) (kp := kps 31) (nt := Try.f31.ntmps) (k := k) (p := 0) (b := 2) (x0 := lb Try.f31 1) (l := [LIsparse_counts_2 k]) (And.intro (fun _ => losparse_counts_2 k) (True.intro))))) (True.intro)))
theorem stsparse_counts_0 (k n : Nat) (x : DS SS.D hssparse_counts_0) : Lsparse_counts_0 k (n + 1) x.1 x.2.1 x.2.2.1 x.2.2.2.1 x.2.2.2.2 = encSK SS.enc (fun σ => run2 cf (fun f a b K => COt f a b K []) (fun b _ σ K => LOt Ty (kps 31) 0 b σ K [LIsparse_counts_2 k]) Try.f31.ntmps 0 (lb Try.f31 0) σ (nextK Ty (kps 31 0) 0 hssparse_counts_0 ossparse_counts_0 fun x => Lsparse_counts_0 k n x.1 x.2.1 x.2.2.1 x.2.2.2.1 x.2.2.2.2)) hssparse_counts_0 x := by kernel_rfl
theorem losparse_counts_0 (k : Nat) : LIOk cf (call cf k) (kps 31) Try.f31.ntmps k 0 0 (lb Try.f31 0) (LIsparse_counts_0 k) :=
  loop_ok (c := cf) (callF := call cf k) (kp := kps 31) (nt := Try.f31.ntmps) (k := k) (p := 0) (b := 0) (x0 := lb Try.f31 0) (hs := hssparse_counts_0) (os := ossparse_counts_0) (COt_ok (alsparse_counts k)) (ansparse_counts_0 k) (fun n x => Lsparse_counts_0 k n x.1 x.2.1 x.2.2.1 x.2.2.2.1 x.2.2.2.2) (fun _ => rfl) (stsparse_counts_0 k)
theorem ansparse_counts (k : Nat) : LAll (LOk (R := DS FS.D rssparse_counts) (fun b _ σ K => LOt Ty (kps 31) 0 b σ K [LIsparse_counts_2 k, LIsparse_counts_0 k]) cf (call cf k) (cf.keep 31) Try.f31.ntmps k shsparse_counts.bs.length) 0 (bd Try.f31) :=
  And.intro (True.intro) (And.intro (True.intro) (And.intro (And.intro (True.intro) (LOt_ok (c := cf) (callF := call cf k) (kp := kps 31) (nt := Try.f31.ntmps) (k := k) (p := 0) (b := 0) (x0 := lb Try.f31 0) (l := [LIsparse_counts_2 k, LIsparse_counts_0 k]) (And.intro (fun h => absurd (show (2 : Nat) = 0 from h) (by decide)) (And.intro (fun _ => losparse_counts_0 k) (True.intro))))) (And.intro (True.intro) (True.intro))))
theorem stsparse_counts (k : Nat) (x : shsparse_counts.D) : Fsparse_counts (k + 1) x = body2 cf (fun f a b K => COt f a b K []) (fun b _ σ K => LOt Ty (kps 31) 0 b σ K [LIsparse_counts_2 k, LIsparse_counts_0 k]) 31 Try.f31.ntmps Try.f31.results.toList (bd Try.f31) (shsparse_counts.enc x).1 (shsparse_counts.enc x).2 (putS FS.dec rssparse_counts) := by kernel_rfl
theorem oksparse_counts : ∀ k, InstOk (call cf k) (Isparse_counts k)
  | 0 => fun x y e => absurd (show (none : Option _) = some y from e) (by simp)
  | k + 1 => inst_ok (c := cf) (k := k) (f := 31) (fn := Try.f31) (body := bd Try.f31) (sh := shsparse_counts) (os := rssparse_counts) rfl Try.func31 rfl ⟨rfl, Nat.le_of_ble_eq_true rfl⟩ (COt_ok (alsparse_counts k)) (ansparse_counts k) (fun x => Fsparse_counts (k + 1) x) (stsparse_counts k)

/-! shunt/sparse.best -/
def Lsparse_best_2s (k : Nat) (rec : Nat → Int → Int → Int → Int → List Int → List (List Int) → Int → Int → List Int → Int → Int → List Int → Option (Nat × Int × Int × Int × List (List Int) × Int × Int × List Int)) (n : Nat) (row : Int) (col : Int) (least : Int) (i : Int) (r : List Int) (x : List (List Int)) (x1 : Int) (x2 : Int) (x3 : List Int) (x4 : Int) (x5 : Int) (ns : List Int) : Option (Nat × Int × Int × Int × List (List Int) × Int × Int × List Int) :=
  if ((decide (x5 < x4)) = true) then
    if ((0 : Int) ≤ x5) then
      Option.bind (x3)[(Int.toNat x5)]? fun x6 =>
      if (((0 : Int) ≤ x6) ∧ (x6 < ((n : Nat) : Int))) then
        Option.bind (ns)[(0 + (Int.toNat x6))]? fun x7 =>
        if ((decide (least < (0 : Int))) = false) then
          if ((decide ((IntKind.wrap .i64 ((IntKind.wrap .i64 ((((List.length r) : Nat) : Int) - (1 : Int))) * (IntKind.wrap .i64 (x7 - (1 : Int))))) < least)) = true) then
            rec n i x6 (IntKind.wrap .i64 ((IntKind.wrap .i64 ((((List.length r) : Nat) : Int) - (1 : Int))) * (IntKind.wrap .i64 (x7 - (1 : Int))))) i r x x1 x2 x3 x4 (IntKind.wrap .i64 (x5 + (1 : Int))) ns
          else
          rec n row col least i r x x1 x2 x3 x4 (IntKind.wrap .i64 (x5 + (1 : Int))) ns
        else
        rec n i x6 (IntKind.wrap .i64 ((IntKind.wrap .i64 ((((List.length r) : Nat) : Int) - (1 : Int))) * (IntKind.wrap .i64 (x7 - (1 : Int))))) i r x x1 x2 x3 x4 (IntKind.wrap .i64 (x5 + (1 : Int))) ns
      else
      none
    else
    none
  else
  (some (n, row, col, least, x, x1, x2, ns))
def Lsparse_best_2 (k n : Nat) : Nat → Int → Int → Int → Int → List Int → List (List Int) → Int → Int → List Int → Int → Int → List Int → Option (Nat × Int × Int × Int × List (List Int) × Int × Int × List Int) := Nat.rec (fun _ _ _ _ _ _ _ _ _ _ _ _ _ => none) (fun _ r => Lsparse_best_2s k r) n
def Lsparse_best_0s (k : Nat) (rec : Nat → Int → Int → Int → List (List Int) → Int → Int → List Int → Option (Int × Int × Int × List Int)) (n : Nat) (row : Int) (col : Int) (least : Int) (x : List (List Int)) (x1 : Int) (x2 : Int) (ns : List Int) : Option (Int × Int × Int × List Int) :=
  if ((decide (x2 < x1)) = true) then
    if ((0 : Int) ≤ x2) then
      Option.bind (x)[(Int.toNat x2)]? fun x3 =>
      Option.bind (Lsparse_best_2 k k n row col least x2 x3 x x1 x2 x3 (((List.length x3) : Nat) : Int) (0 : Int) ns) fun r2 =>
      rec r2.1 r2.2.1 r2.2.2.1 r2.2.2.2.1 r2.2.2.2.2.1 r2.2.2.2.2.2.1 (IntKind.wrap .i64 (r2.2.2.2.2.2.2.1 + (1 : Int))) r2.2.2.2.2.2.2.2
    else
    none
  else
  (some (row, col, least, ns))
def Lsparse_best_0 (k n : Nat) : Nat → Int → Int → Int → List (List Int) → Int → Int → List Int → Option (Int × Int × Int × List Int) := Nat.rec (fun _ _ _ _ _ _ _ _ => none) (fun _ r => Lsparse_best_0s k r) n
def bsparse_best (k : Nat) (p : List (List Int)) : Option (Int × Int × Bool) :=
  Option.bind (Fsparse_counts k p) fun r1 =>
  Option.bind (Lsparse_best_0 k k r1.1 (0 : Int) (0 : Int) (-(1 : Int)) p (((List.length p) : Nat) : Int) (0 : Int) r1.2) fun r2 =>
  (some (r2.1, r2.2.1, (decide (r2.2.2.1 ≥ (0 : Int)))))
def Fsparse_best : Nat → List (List Int) → Option (Int × Int × Bool)
  | 0, _ => none
  | k + 1, p => bsparse_best k p
def shsparse_best : FS := { vs := [.a (.lf (.sl (.sl (.int .i64))))], bs := [] }
def rssparse_best : List FS := [{ vs := [.a (.lf (.int .i64)), .a (.lf (.int .i64)), .a (.lf .bool)], bs := [] }]
def Isparse_best (k : Nat) : Inst := ⟨35, shsparse_best, rssparse_best, fun x => Fsparse_best k x⟩
theorem alsparse_best (k : Nat) : AllI (call cf k) [Isparse_counts k] := And.intro (oksparse_counts k) (True.intro)
def hssparse_best_2 : List SS := [{ fr := [(5, .a (.smz 0)), (6, .a (.lf (.int .i64))), (7, .a (.lf (.int .i64))), (8, .a (.lf (.int .i64))), (9, .a (.lf (.int .i64))), (10, .a (.lf (.sl (.int .i64)))), (16, .a (.lf (.sl (.sl (.int .i64))))), (17, .a (.lf (.int .i64))), (18, .a (.lf (.int .i64))), (23, .a (.lf (.sl (.int .i64)))), (24, .a (.lf (.int .i64))), (25, .a (.lf (.int .i64)))], mem := [(0, some (.arr (.int .i64) 1 3 false))], nx := 1 }]
def ossparse_best_2 : List OS := [⟨some 2, { fr := [(5, .a (.smz 0)), (6, .a (.lf (.int .i64))), (7, .a (.lf (.int .i64))), (8, .a (.lf (.int .i64))), (16, .a (.lf (.sl (.sl (.int .i64))))), (17, .a (.lf (.int .i64))), (18, .a (.lf (.int .i64)))], mem := [(0, some (.arr (.int .i64) 1 3 false))], nx := 1 }⟩]
def LIsparse_best_2 (k : Nat) : LInst := ⟨2, hssparse_best_2, ossparse_best_2, fun x => Lsparse_best_2 k k x.1 x.2.1 x.2.2.1 x.2.2.2.1 x.2.2.2.2.1 x.2.2.2.2.2.1 x.2.2.2.2.2.2.1 x.2.2.2.2.2.2.2.1 x.2.2.2.2.2.2.2.2.1 x.2.2.2.2.2.2.2.2.2.1 x.2.2.2.2.2.2.2.2.2.2.1 x.2.2.2.2.2.2.2.2.2.2.2.1 x.2.2.2.2.2.2.2.2.2.2.2.2⟩
theorem ansparse_best_2 (k : Nat) : LAll (LOk (R := DS OS.D ossparse_best_2) (fun b _ σ K => LOt Ty (kps 35) 0 b σ K []) cf (call cf k) (kps 35) Try.f35.ntmps k 0) 2 (lb Try.f35 1) :=
  And.intro (True.intro) (And.intro (And.intro (True.intro) (True.intro)) (And.intro (And.intro (True.intro) (And.intro (True.intro) (And.intro (True.intro) (And.intro (True.intro) (True.intro))))) (True.intro)))
theorem stsparse_best_2 (k n : Nat) (x : DS SS.D hssparse_best_2) : Lsparse_best_2 k (n + 1) x.1 x.2.1 x.2.2.1 x.2.2.2.1 x.2.2.2.2.1 x.2.2.2.2.2.1 x.2.2.2.2.2.2.1 x.2.2.2.2.2.2.2.1 x.2.2.2.2.2.2.2.2.1 x.2.2.2.2.2.2.2.2.2.1 x.2.2.2.2.2.2.2.2.2.2.1 x.2.2.2.2.2.2.2.2.2.2.2.1 x.2.2.2.2.2.2.2.2.2.2.2.2 = encSK SS.enc (fun σ => run2 cf (fun f a b K => COt f a b K [Isparse_counts k]) (fun b _ σ K => LOt Ty (kps 35) 0 b σ K []) Try.f35.ntmps 2 (lb Try.f35 1) σ (nextK Ty (kps 35 2) 0 hssparse_best_2 ossparse_best_2 fun x => Lsparse_best_2 k n x.1 x.2.1 x.2.2.1 x.2.2.2.1 x.2.2.2.2.1 x.2.2.2.2.2.1 x.2.2.2.2.2.2.1 x.2.2.2.2.2.2.2.1 x.2.2.2.2.2.2.2.2.1 x.2.2.2.2.2.2.2.2.2.1 x.2.2.2.2.2.2.2.2.2.2.1 x.2.2.2.2.2.2.2.2.2.2.2.1 x.2.2.2.2.2.2.2.2.2.2.2.2)) hssparse_best_2 x := by kernel_rfl
theorem losparse_best_2 (k : Nat) : LIOk cf (call cf k) (kps 35) Try.f35.ntmps k 0 2 (lb Try.f35 1) (LIsparse_best_2 k) :=
  loop_ok (c := cf) (callF := call cf k) (kp := kps 35) (nt := Try.f35.ntmps) (k := k) (p := 0) (b := 2) (x0 := lb Try.f35 1) (hs := hssparse_best_2) (os := ossparse_best_2) (COt_ok (alsparse_best k)) (ansparse_best_2 k) (fun n x => Lsparse_best_2 k n x.1 x.2.1 x.2.2.1 x.2.2.2.1 x.2.2.2.2.1 x.2.2.2.2.2.1 x.2.2.2.2.2.2.1 x.2.2.2.2.2.2.2.1 x.2.2.2.2.2.2.2.2.1 x.2.2.2.2.2.2.2.2.2.1 x.2.2.2.2.2.2.2.2.2.2.1 x.2.2.2.2.2.2.2.2.2.2.2.1 x.2.2.2.2.2.2.2.2.2.2.2.2) (fun _ => rfl) (stsparse_best_2 k)
def hssparse_best_0 : List SS := [{ fr := [(5, .a (.smz 0)), (6, .a (.lf (.int .i64))), (7, .a (.lf (.int .i64))), (8, .a (.lf (.int .i64))), (16, .a (.lf (.sl (.sl (.int .i64))))), (17, .a (.lf (.int .i64))), (18, .a (.lf (.int .i64)))], mem := [(0, some (.arr (.int .i64) 1 3 false))], nx := 1 }]
def ossparse_best_0 : List OS := [⟨some 0, { fr := [(6, .a (.lf (.int .i64))), (7, .a (.lf (.int .i64))), (8, .a (.lf (.int .i64)))], mem := [(0, some (.arr (.int .i64) 1 3 false))], nx := 1 }⟩]
def LIsparse_best_0 (k : Nat) : LInst := ⟨0, hssparse_best_0, ossparse_best_0, fun x => Lsparse_best_0 k k x.1 x.2.1 x.2.2.1 x.2.2.2.1 x.2.2.2.2.1 x.2.2.2.2.2.1 x.2.2.2.2.2.2.1 x.2.2.2.2.2.2.2⟩
theorem ansparse_best_0 (k : Nat) : LAll (LOk (R := DS OS.D ossparse_best_0) (fun b _ σ K => LOt Ty (kps 35) 0 b σ K [LIsparse_best_2 k]) cf (call cf k) (kps 35) Try.f35.ntmps k 0) 0 (lb Try.f35 0) :=
  And.intro (True.intro) (And.intro (And.intro (True.intro) (True.intro)) (And.intro (And.intro (True.intro) (And.intro (True.intro) (LOt_ok (c := cf) (callF := call cf k) (kp := kps 35) (nt := Try.f35.ntmps) (k := k) (p := 0) (b := 2) (x0 := lb Try.f35 1) (l := [LIsparse_best_2 k]) (And.intro (fun _ => losparse_best_2 k) (True.intro))))) (True.intro)))
theorem stsparse_best_0 (k n : Nat) (x : DS SS.D hssparse_best_0) : Lsparse_best_0 k (n + 1) x.1 x.2.1 x.2.2.1 x.2.2.2.1 x.2.2.2.2.1 x.2.2.2.2.2.1 x.2.2.2.2.2.2.1 x.2.2.2.2.2.2.2 = encSK SS.enc (fun σ => run2 cf (fun f a b K => COt f a b K [Isparse_counts k]) (fun b _ σ K => LOt Ty (kps 35) 0 b σ K [LIsparse_best_2 k]) Try.f35.ntmps 0 (lb Try.f35 0) σ (nextK Ty (kps 35 0) 0 hssparse_best_0 ossparse_best_0 fun x => Lsparse_best_0 k n x.1 x.2.1 x.2.2.1 x.2.2.2.1 x.2.2.2.2.1 x.2.2.2.2.2.1 x.2.2.2.2.2.2.1 x.2.2.2.2.2.2.2)) hssparse_best_0 x := by kernel_rfl
theorem losparse_best_0 (k : Nat) : LIOk cf (call cf k) (kps 35) Try.f35.ntmps k 0 0 (lb Try.f35 0) (LIsparse_best_0 k) :=
  loop_ok (c := cf) (callF := call cf k) (kp := kps 35) (nt := Try.f35.ntmps) (k := k) (p := 0) (b := 0) (x0 := lb Try.f35 0) (hs := hssparse_best_0) (os := ossparse_best_0) (COt_ok (alsparse_best k)) (ansparse_best_0 k) (fun n x => Lsparse_best_0 k n x.1 x.2.1 x.2.2.1 x.2.2.2.1 x.2.2.2.2.1 x.2.2.2.2.2.1 x.2.2.2.2.2.2.1 x.2.2.2.2.2.2.2) (fun _ => rfl) (stsparse_best_0 k)
theorem ansparse_best (k : Nat) : LAll (LOk (R := DS FS.D rssparse_best) (fun b _ σ K => LOt Ty (kps 35) 0 b σ K [LIsparse_best_2 k, LIsparse_best_0 k]) cf (call cf k) (cf.keep 35) Try.f35.ntmps k shsparse_best.bs.length) 0 (bd Try.f35) :=
  And.intro (True.intro) (And.intro (True.intro) (And.intro (True.intro) (And.intro (And.intro (True.intro) (LOt_ok (c := cf) (callF := call cf k) (kp := kps 35) (nt := Try.f35.ntmps) (k := k) (p := 0) (b := 0) (x0 := lb Try.f35 0) (l := [LIsparse_best_2 k, LIsparse_best_0 k]) (And.intro (fun h => absurd (show (2 : Nat) = 0 from h) (by decide)) (And.intro (fun _ => losparse_best_0 k) (True.intro))))) (And.intro (True.intro) (True.intro)))))
theorem stsparse_best (k : Nat) (x : shsparse_best.D) : Fsparse_best (k + 1) x = body2 cf (fun f a b K => COt f a b K [Isparse_counts k]) (fun b _ σ K => LOt Ty (kps 35) 0 b σ K [LIsparse_best_2 k, LIsparse_best_0 k]) 35 Try.f35.ntmps Try.f35.results.toList (bd Try.f35) (shsparse_best.enc x).1 (shsparse_best.enc x).2 (putS FS.dec rssparse_best) := by kernel_rfl
theorem oksparse_best : ∀ k, InstOk (call cf k) (Isparse_best k)
  | 0 => fun x y e => absurd (show (none : Option _) = some y from e) (by simp)
  | k + 1 => inst_ok (c := cf) (k := k) (f := 35) (fn := Try.f35) (body := bd Try.f35) (sh := shsparse_best) (os := rssparse_best) rfl Try.func35 rfl ⟨rfl, Nat.le_of_ble_eq_true rfl⟩ (COt_ok (alsparse_best k)) (ansparse_best k) (fun x => Fsparse_best (k + 1) x) (stsparse_best k)

/-! slices.Clone[[]int,int] -/
def bslices_Clone_int_int_ (k : Nat) (s : List Int) : Option (Nat × List Int) :=
  if (((List.length s) * 8) ≤ 140737488355328) then
    (some ((List.length s), s))
  else
  none
def Fslices_Clone_int_int_ : Nat → List Int → Option (Nat × List Int)
  | 0, _ => none
  | k + 1, s => bslices_Clone_int_int_ k s
def shslices_Clone_int_int_ : FS := { vs := [.a (.lf (.sl (.int .i64)))], bs := [] }
def rsslices_Clone_int_int_ : List FS := [{ vs := [.a (.smz 0)], bs := [.arr (.int .i64) 1 3 false] }]
def Islices_Clone_int_int_ (k : Nat) : Inst := ⟨43, shslices_Clone_int_int_, rsslices_Clone_int_int_, fun x => Fslices_Clone_int_int_ k x⟩
theorem alslices_Clone_int_int_ (k : Nat) : AllI (call cf k) [] := True.intro
theorem stslices_Clone_int_int_ (k : Nat) (x : shslices_Clone_int_int_.D) : Fslices_Clone_int_int_ (k + 1) x = (kClone 3) (DS FS.D rsslices_Clone_int_int_) (shslices_Clone_int_int_.enc x).1 (shslices_Clone_int_int_.enc x).2 (putS FS.dec rsslices_Clone_int_int_) := by kernel_rfl
theorem okslices_Clone_int_int_ : ∀ k, InstOk (call cf k) (Islices_Clone_int_int_ k)
  | 0 => fun x y e => absurd (show (none : Option _) = some y from e) (by simp)
  | k + 1 => inst_okX (c := cf) (k := k) (f := 43) (g := gClone 3) (G := kClone 3) (sh := shslices_Clone_int_int_) (os := rsslices_Clone_int_int_) rfl (kClone_at 3) (fun x => Fslices_Clone_int_int_ (k + 1) x) (stslices_Clone_int_int_ k)

/-! slices.Index[[]int,int] -/
def Lslices_Index_int_int__0s (k : Nat) (rec : List Int → Int → Int → Int → Option ((Int) ⊕ (Unit))) (s : List Int) (v : Int) (x : Int) (x1 : Int) : Option ((Int) ⊕ (Unit)) :=
  if ((decide (x1 < x)) = true) then
    if ((0 : Int) ≤ x1) then
      Option.bind (s)[(Int.toNat x1)]? fun x4 =>
      if ((v == x4) = true) then
        (some (Sum.inl x1))
      else
      rec s v x (IntKind.wrap .i64 (x1 + (1 : Int)))
    else
    none
  else
  (some (Sum.inr ()))
def Lslices_Index_int_int__0 (k n : Nat) : List Int → Int → Int → Int → Option ((Int) ⊕ (Unit)) := Nat.rec (fun _ _ _ _ => none) (fun _ r => Lslices_Index_int_int__0s k r) n
def bslices_Index_int_int_ (k : Nat) (s : List Int) (v : Int) : Option (Int) :=
  Option.bind (Lslices_Index_int_int__0 k k s v (((List.length s) : Nat) : Int) (0 : Int)) fun r3 =>
  eitherK r3
    (fun r3 =>
    (some r3))
    (fun r3 =>
    (some (-(1 : Int))))
def Fslices_Index_int_int_ : Nat → List Int → Int → Option (Int)
  | 0, _, _ => none
  | k + 1, s, v => bslices_Index_int_int_ k s v
def shslices_Index_int_int_ : FS := { vs := [.a (.lf (.sl (.int .i64))), .a (.lf (.int .i64))], bs := [] }
def rsslices_Index_int_int_ : List FS := [{ vs := [.a (.lf (.int .i64))], bs := [] }]
def Islices_Index_int_int_ (k : Nat) : Inst := ⟨54, shslices_Index_int_int_, rsslices_Index_int_int_, fun x => Fslices_Index_int_int_ k x.1 x.2⟩
theorem alslices_Index_int_int_ (k : Nat) : AllI (call cf k) [] := True.intro
def hsslices_Index_int_int__0 : List SS := [{ fr := [(0, .a (.lf (.sl (.int .i64)))), (1, .a (.lf (.int .i64))), (7, .a (.lf (.int .i64))), (8, .a (.lf (.int .i64)))], mem := [], nx := 0 }]
def osslices_Index_int_int__0 : List OS := [⟨none, { fr := [(4, .a (.lf (.int .i64)))], mem := [], nx := 0 }⟩, ⟨some 0, { fr := [], mem := [], nx := 0 }⟩]
def LIslices_Index_int_int__0 (k : Nat) : LInst := ⟨0, hsslices_Index_int_int__0, osslices_Index_int_int__0, fun x => Lslices_Index_int_int__0 k k x.1 x.2.1 x.2.2.1 x.2.2.2⟩
theorem anslices_Index_int_int__0 (k : Nat) : LAll (LOk (R := DS OS.D osslices_Index_int_int__0) (fun b _ σ K => LOt Ty (kps 54) 0 b σ K []) cf (call cf k) (kps 54) Try.f54.ntmps k 0) 0 (lb Try.f54 0) :=
  And.intro (True.intro) (And.intro (And.intro (True.intro) (True.intro)) (And.intro (And.intro (True.intro) (And.intro (True.intro) (And.intro (And.intro (True.intro) (True.intro)) (True.intro)))) (True.intro)))
theorem stslices_Index_int_int__0 (k n : Nat) (x : DS SS.D hsslices_Index_int_int__0) : Lslices_Index_int_int__0 k (n + 1) x.1 x.2.1 x.2.2.1 x.2.2.2 = encSK SS.enc (fun σ => run2 cf (fun f a b K => COt f a b K []) (fun b _ σ K => LOt Ty (kps 54) 0 b σ K []) Try.f54.ntmps 0 (lb Try.f54 0) σ (nextK Ty (kps 54 0) 0 hsslices_Index_int_int__0 osslices_Index_int_int__0 fun x => Lslices_Index_int_int__0 k n x.1 x.2.1 x.2.2.1 x.2.2.2)) hsslices_Index_int_int__0 x := by kernel_rfl
theorem loslices_Index_int_int__0 (k : Nat) : LIOk cf (call cf k) (kps 54) Try.f54.ntmps k 0 0 (lb Try.f54 0) (LIslices_Index_int_int__0 k) :=
  loop_ok (c := cf) (callF := call cf k) (kp := kps 54) (nt := Try.f54.ntmps) (k := k) (p := 0) (b := 0) (x0 := lb Try.f54 0) (hs := hsslices_Index_int_int__0) (os := osslices_Index_int_int__0) (COt_ok (alslices_Index_int_int_ k)) (anslices_Index_int_int__0 k) (fun n x => Lslices_Index_int_int__0 k n x.1 x.2.1 x.2.2.1 x.2.2.2) (fun _ => rfl) (stslices_Index_int_int__0 k)
theorem anslices_Index_int_int_ (k : Nat) : LAll (LOk (R := DS FS.D rsslices_Index_int_int_) (fun b _ σ K => LOt Ty (kps 54) 0 b σ K [LIslices_Index_int_int__0 k]) cf (call cf k) (cf.keep 54) Try.f54.ntmps k shslices_Index_int_int_.bs.length) 0 (bd Try.f54) :=
  And.intro (True.intro) (And.intro (And.intro (True.intro) (LOt_ok (c := cf) (callF := call cf k) (kp := kps 54) (nt := Try.f54.ntmps) (k := k) (p := 0) (b := 0) (x0 := lb Try.f54 0) (l := [LIslices_Index_int_int__0 k]) (And.intro (fun _ => loslices_Index_int_int__0 k) (True.intro)))) (And.intro (True.intro) (True.intro)))
theorem stslices_Index_int_int_ (k : Nat) (x : shslices_Index_int_int_.D) : Fslices_Index_int_int_ (k + 1) x.1 x.2 = body2 cf (fun f a b K => COt f a b K []) (fun b _ σ K => LOt Ty (kps 54) 0 b σ K [LIslices_Index_int_int__0 k]) 54 Try.f54.ntmps Try.f54.results.toList (bd Try.f54) (shslices_Index_int_int_.enc x).1 (shslices_Index_int_int_.enc x).2 (putS FS.dec rsslices_Index_int_int_) := by kernel_rfl
theorem okslices_Index_int_int_ : ∀ k, InstOk (call cf k) (Islices_Index_int_int_ k)
  | 0 => fun x y e => absurd (show (none : Option _) = some y from e) (by simp)
  | k + 1 => inst_ok (c := cf) (k := k) (f := 54) (fn := Try.f54) (body := bd Try.f54) (sh := shslices_Index_int_int_) (os := rsslices_Index_int_int_) rfl Try.func54 rfl ⟨rfl, Nat.le_of_ble_eq_true rfl⟩ (COt_ok (alslices_Index_int_int_ k)) (anslices_Index_int_int_ k) (fun x => Fslices_Index_int_int_ (k + 1) x.1 x.2) (stslices_Index_int_int_ k)

/-! slices.Contains[[]int,int] -/
def bslices_Contains_int_int_ (k : Nat) (s : List Int) (v : Int) : Option (Bool) :=
  Option.bind (Fslices_Index_int_int_ k s v) fun r3 =>
  (some (decide (r3 ≥ (0 : Int))))
def Fslices_Contains_int_int_ : Nat → List Int → Int → Option (Bool)
  | 0, _, _ => none
  | k + 1, s, v => bslices_Contains_int_int_ k s v
def shslices_Contains_int_int_ : FS := { vs := [.a (.lf (.sl (.int .i64))), .a (.lf (.int .i64))], bs := [] }
def rsslices_Contains_int_int_ : List FS := [{ vs := [.a (.lf .bool)], bs := [] }]
def Islices_Contains_int_int_ (k : Nat) : Inst := ⟨42, shslices_Contains_int_int_, rsslices_Contains_int_int_, fun x => Fslices_Contains_int_int_ k x.1 x.2⟩
theorem alslices_Contains_int_int_ (k : Nat) : AllI (call cf k) [Islices_Index_int_int_ k] := And.intro (okslices_Index_int_int_ k) (True.intro)
theorem anslices_Contains_int_int_ (k : Nat) : LAll (LOk (R := DS FS.D rsslices_Contains_int_int_) (fun b _ σ K => LOt Ty (kps 42) 0 b σ K []) cf (call cf k) (cf.keep 42) Try.f42.ntmps k shslices_Contains_int_int_.bs.length) 0 (bd Try.f42) :=
  And.intro (True.intro) (And.intro (True.intro) (True.intro))
theorem stslices_Contains_int_int_ (k : Nat) (x : shslices_Contains_int_int_.D) : Fslices_Contains_int_int_ (k + 1) x.1 x.2 = body2 cf (fun f a b K => COt f a b K [Islices_Index_int_int_ k]) (fun b _ σ K => LOt Ty (kps 42) 0 b σ K []) 42 Try.f42.ntmps Try.f42.results.toList (bd Try.f42) (shslices_Contains_int_int_.enc x).1 (shslices_Contains_int_int_.enc x).2 (putS FS.dec rsslices_Contains_int_int_) := by kernel_rfl
theorem okslices_Contains_int_int_ : ∀ k, InstOk (call cf k) (Islices_Contains_int_int_ k)
  | 0 => fun x y e => absurd (show (none : Option _) = some y from e) (by simp)
  | k + 1 => inst_ok (c := cf) (k := k) (f := 42) (fn := Try.f42) (body := bd Try.f42) (sh := shslices_Contains_int_int_) (os := rsslices_Contains_int_int_) rfl Try.func42 rfl ⟨rfl, Nat.le_of_ble_eq_true rfl⟩ (COt_ok (alslices_Contains_int_int_ k)) (anslices_Contains_int_int_ k) (fun x => Fslices_Contains_int_int_ (k + 1) x.1 x.2) (stslices_Contains_int_int_ k)

/-! slices.Sort[[]int,int] -/
def bslices_Sort_int_int__mfi (k : Nat) (x : Nat) (xs : List Int) : Option (List Int) :=
  if (((0 + x) ≤ (List.length xs)) ∧ (x < 4611686018427387904)) then
    (some (((List.take 0 xs) ++ (sortI (List.take x xs))) ++ (List.drop (0 + x) xs)))
  else
  none
def Fslices_Sort_int_int__mfi : Nat → Nat → List Int → Option (List Int)
  | 0, _, _ => none
  | k + 1, x, xs => bslices_Sort_int_int__mfi k x xs
def shslices_Sort_int_int__mfi : FS := { vs := [.a (.smz 0)], bs := [.arr (.int .i64) 1 3 false] }
def rsslices_Sort_int_int__mfi : List FS := [{ vs := [], bs := [.arr (.int .i64) 1 3 false] }]
def Islices_Sort_int_int__mfi (k : Nat) : Inst := ⟨44, shslices_Sort_int_int__mfi, rsslices_Sort_int_int__mfi, fun x => Fslices_Sort_int_int__mfi k x.1 x.2⟩
theorem alslices_Sort_int_int__mfi (k : Nat) : AllI (call cf k) [] := True.intro
theorem stslices_Sort_int_int__mfi (k : Nat) (x : shslices_Sort_int_int__mfi.D) : Fslices_Sort_int_int__mfi (k + 1) x.1 x.2 = (kSort) (DS FS.D rsslices_Sort_int_int__mfi) (shslices_Sort_int_int__mfi.enc x).1 (shslices_Sort_int_int__mfi.enc x).2 (putS FS.dec rsslices_Sort_int_int__mfi) := by kernel_rfl
theorem okslices_Sort_int_int__mfi : ∀ k, InstOk (call cf k) (Islices_Sort_int_int__mfi k)
  | 0 => fun x y e => absurd (show (none : Option _) = some y from e) (by simp)
  | k + 1 => inst_okX (c := cf) (k := k) (f := 44) (g := gSort) (G := kSort) (sh := shslices_Sort_int_int__mfi) (os := rsslices_Sort_int_int__mfi) rfl (kSort_at) (fun x => Fslices_Sort_int_int__mfi (k + 1) x.1 x.2) (stslices_Sort_int_int__mfi k)

/-! slices.Compact[[]int,int] -/
def Lslices_Compact_int_int__mfi_2s (k : Nat) (rec : Nat → Int → Nat → Nat → Int → List Int → Option (Nat × Int × List Int)) (s : Nat) (k1 : Int) (s20 : Nat) (s21 : Nat) (k2 : Int) (s2s : List Int) : Option (Nat × Int × List Int) :=
  if ((decide (k2 < ((s21 : Nat) : Int))) = true) then
    if (((0 : Int) ≤ k2) ∧ (k2 < ((s21 : Nat) : Int))) then
      Option.bind (s2s)[(s20 + (Int.toNat k2))]? fun x7 =>
      if (((0 : Int) ≤ (IntKind.wrap .i64 (k2 - (1 : Int)))) ∧ ((IntKind.wrap .i64 (k2 - (1 : Int))) < ((s21 : Nat) : Int))) then
        Option.bind (s2s)[(s20 + (Int.toNat (IntKind.wrap .i64 (k2 - (1 : Int)))))]? fun x8 =>
        if ((x7 != x8) = true) then
          if (((0 : Int) ≤ k2) ∧ (k2 < ((s21 : Nat) : Int))) then
            Option.bind (s2s)[(s20 + (Int.toNat k2))]? fun x9 =>
            if (((0 : Int) ≤ k1) ∧ (k1 < ((s : Nat) : Int))) then
              Option.bind (s2s)[(0 + (Int.toNat k1))]? fun x10 =>
              rec s (IntKind.wrap .i64 (k1 + (1 : Int))) s20 s21 (IntKind.wrap .i64 (k2 + (1 : Int))) (List.set s2s (0 + (Int.toNat k1)) x9)
            else
            none
          else
          none
        else
        rec s k1 s20 s21 (IntKind.wrap .i64 (k2 + (1 : Int))) s2s
      else
      none
    else
    none
  else
  (some (s, k1, s2s))
def Lslices_Compact_int_int__mfi_2 (k n : Nat) : Nat → Int → Nat → Nat → Int → List Int → Option (Nat × Int × List Int) := Nat.rec (fun _ _ _ _ _ _ => none) (fun _ r => Lslices_Compact_int_int__mfi_2s k r) n
def Lslices_Compact_int_int__mfi_0s (k : Nat) (rec : Nat → Int → List Int → Option ((Nat × List Int) ⊕ (Nat × List Int))) (s : Nat) (k1 : Int) (ss : List Int) : Option ((Nat × List Int) ⊕ (Nat × List Int)) :=
  if ((decide (k1 < ((s : Nat) : Int))) = true) then
    if (((0 : Int) ≤ k1) ∧ (k1 < ((s : Nat) : Int))) then
      Option.bind (ss)[(0 + (Int.toNat k1))]? fun x5 =>
      if (((0 : Int) ≤ (IntKind.wrap .i64 (k1 - (1 : Int)))) ∧ ((IntKind.wrap .i64 (k1 - (1 : Int))) < ((s : Nat) : Int))) then
        Option.bind (ss)[(0 + (Int.toNat (IntKind.wrap .i64 (k1 - (1 : Int)))))]? fun x6 =>
        if ((x5 == x6) = true) then
          if (((0 : Int) ≤ k1) ∧ ((k1 ≤ ((s : Nat) : Int)) ∧ (((0 + (Int.toNat ((s : Nat) : Int))) ≤ (List.length ss)) ∧ ((k1 < ((s : Nat) : Int)) ∨ (false = true))))) then
            Option.bind (Lslices_Compact_int_int__mfi_2 k k s k1 (0 + (Int.toNat k1)) ((Int.toNat ((s : Nat) : Int)) - (Int.toNat k1)) (1 : Int) ss) fun r5 =>
            if (((0 : Int) ≤ r5.2.1) ∧ ((r5.2.1 ≤ ((r5.1 : Nat) : Int)) ∧ (((0 + (Int.toNat ((r5.1 : Nat) : Int))) ≤ (List.length r5.2.2)) ∧ ((r5.2.1 < ((r5.1 : Nat) : Int)) ∨ (false = true))))) then
              if (((0 + (Int.toNat r5.2.1)) + ((Int.toNat ((r5.1 : Nat) : Int)) - (Int.toNat r5.2.1))) ≤ (List.length r5.2.2)) then
                if (((0 : Int) ≤ (0 : Int)) ∧ (((0 : Int) ≤ r5.2.1) ∧ (((0 + (Int.toNat r5.2.1)) ≤ (List.length (((List.take (0 + (Int.toNat r5.2.1)) r5.2.2) ++ (List.replicate ((Int.toNat ((r5.1 : Nat) : Int)) - (Int.toNat r5.2.1)) (0 : Int))) ++ (List.drop ((0 + (Int.toNat r5.2.1)) + ((Int.toNat ((r5.1 : Nat) : Int)) - (Int.toNat r5.2.1))) r5.2.2)))) ∧ (((0 : Int) < r5.2.1) ∨ (true = true))))) then
                  (some (Sum.inl ((Int.toNat r5.2.1), (((List.take (0 + (Int.toNat r5.2.1)) r5.2.2) ++ (List.replicate ((Int.toNat ((r5.1 : Nat) : Int)) - (Int.toNat r5.2.1)) (0 : Int))) ++ (List.drop ((0 + (Int.toNat r5.2.1)) + ((Int.toNat ((r5.1 : Nat) : Int)) - (Int.toNat r5.2.1))) r5.2.2)))))
                else
                none
              else
              none
            else
            none
          else
          none
        else
        rec s (IntKind.wrap .i64 (k1 + (1 : Int))) ss
      else
      none
    else
    none
  else
  (some (Sum.inr (s, ss)))
def Lslices_Compact_int_int__mfi_0 (k n : Nat) : Nat → Int → List Int → Option ((Nat × List Int) ⊕ (Nat × List Int)) := Nat.rec (fun _ _ _ => none) (fun _ r => Lslices_Compact_int_int__mfi_0s k r) n
def bslices_Compact_int_int__mfi (k : Nat) (s : Nat) (ss : List Int) : Option (Nat × List Int) :=
  if ((decide (((s : Nat) : Int) < (2 : Int))) = true) then
    (some (s, ss))
  else
  Option.bind (Lslices_Compact_int_int__mfi_0 k k s (1 : Int) ss) fun r5 =>
  eitherK r5
    (fun r5 =>
    (some (r5.1, r5.2)))
    (fun r5 =>
    (some (r5.1, r5.2)))
def Fslices_Compact_int_int__mfi : Nat → Nat → List Int → Option (Nat × List Int)
  | 0, _, _ => none
  | k + 1, s, ss => bslices_Compact_int_int__mfi k s ss
def shslices_Compact_int_int__mfi : FS := { vs := [.a (.smz 0)], bs := [.arr (.int .i64) 1 3 false] }
def rsslices_Compact_int_int__mfi : List FS := [{ vs := [.a (.smz 0)], bs := [.arr (.int .i64) 1 3 false] }]
def Islices_Compact_int_int__mfi (k : Nat) : Inst := ⟨45, shslices_Compact_int_int__mfi, rsslices_Compact_int_int__mfi, fun x => Fslices_Compact_int_int__mfi k x.1 x.2⟩
theorem alslices_Compact_int_int__mfi (k : Nat) : AllI (call cf k) [] := True.intro
def hsslices_Compact_int_int__mfi_2 : List SS := [{ fr := [(0, .a (.smz 0)), (3, .a (.lf (.int .i64))), (4, .a (.sms 0)), (5, .a (.lf (.int .i64)))], mem := [(0, some (.arr (.int .i64) 1 3 false))], nx := 1 }]
def osslices_Compact_int_int__mfi_2 : List OS := [⟨some 2, { fr := [(0, .a (.smz 0)), (3, .a (.lf (.int .i64)))], mem := [(0, some (.arr (.int .i64) 1 3 false))], nx := 1 }⟩]
def LIslices_Compact_int_int__mfi_2 (k : Nat) : LInst := ⟨2, hsslices_Compact_int_int__mfi_2, osslices_Compact_int_int__mfi_2, fun x => Lslices_Compact_int_int__mfi_2 k k x.1 x.2.1 x.2.2.1 x.2.2.2.1 x.2.2.2.2.1 x.2.2.2.2.2⟩
theorem anslices_Compact_int_int__mfi_2 (k : Nat) : LAll (LOk (R := DS OS.D osslices_Compact_int_int__mfi_2) (fun b _ σ K => LOt Ty (kps 45) 1 b σ K []) cf (call cf k) (kps 45) Try.f45.ntmps k 1) 2 (lb Try.f45 1) :=
  And.intro (And.intro (True.intro) (And.intro (True.intro) (True.intro))) (And.intro (And.intro (True.intro) (And.intro (And.intro (True.intro) (True.intro)) (True.intro))) (True.intro))
theorem stslices_Compact_int_int__mfi_2 (k n : Nat) (x : DS SS.D hsslices_Compact_int_int__mfi_2) : Lslices_Compact_int_int__mfi_2 k (n + 1) x.1 x.2.1 x.2.2.1 x.2.2.2.1 x.2.2.2.2.1 x.2.2.2.2.2 = encSK SS.enc (fun σ => run2 cf (fun f a b K => COt f a b K []) (fun b _ σ K => LOt Ty (kps 45) 1 b σ K []) Try.f45.ntmps 2 (lb Try.f45 1) σ (nextK Ty (kps 45 2) 1 hsslices_Compact_int_int__mfi_2 osslices_Compact_int_int__mfi_2 fun x => Lslices_Compact_int_int__mfi_2 k n x.1 x.2.1 x.2.2.1 x.2.2.2.1 x.2.2.2.2.1 x.2.2.2.2.2)) hsslices_Compact_int_int__mfi_2 x := by kernel_rfl
theorem loslices_Compact_int_int__mfi_2 (k : Nat) : LIOk cf (call cf k) (kps 45) Try.f45.ntmps k 1 2 (lb Try.f45 1) (LIslices_Compact_int_int__mfi_2 k) :=
  loop_ok (c := cf) (callF := call cf k) (kp := kps 45) (nt := Try.f45.ntmps) (k := k) (p := 1) (b := 2) (x0 := lb Try.f45 1) (hs := hsslices_Compact_int_int__mfi_2) (os := osslices_Compact_int_int__mfi_2) (COt_ok (alslices_Compact_int_int__mfi k)) (anslices_Compact_int_int__mfi_2 k) (fun n x => Lslices_Compact_int_int__mfi_2 k n x.1 x.2.1 x.2.2.1 x.2.2.2.1 x.2.2.2.2.1 x.2.2.2.2.2) (fun _ => rfl) (stslices_Compact_int_int__mfi_2 k)
def hsslices_Compact_int_int__mfi_0 : List SS := [{ fr := [(0, .a (.smz 0)), (3, .a (.lf (.int .i64)))], mem := [(0, some (.arr (.int .i64) 1 3 false))], nx := 1 }]
def osslices_Compact_int_int__mfi_0 : List OS := [⟨none, { fr := [(2, .a (.smz 0))], mem := [(0, some (.arr (.int .i64) 1 3 false))], nx := 1 }⟩, ⟨some 0, { fr := [(0, .a (.smz 0))], mem := [(0, some (.arr (.int .i64) 1 3 false))], nx := 1 }⟩]
def LIslices_Compact_int_int__mfi_0 (k : Nat) : LInst := ⟨0, hsslices_Compact_int_int__mfi_0, osslices_Compact_int_int__mfi_0, fun x => Lslices_Compact_int_int__mfi_0 k k x.1 x.2.1 x.2.2⟩
theorem anslices_Compact_int_int__mfi_0 (k : Nat) : LAll (LOk (R := DS OS.D osslices_Compact_int_int__mfi_0) (fun b _ σ K => LOt Ty (kps 45) 1 b σ K [LIslices_Compact_int_int__mfi_2 k]) cf (call cf k) (kps 45) Try.f45.ntmps k 1) 0 (lb Try.f45 0) :=
  And.intro (And.intro (True.intro) (And.intro (True.intro) (True.intro))) (And.intro (And.intro (True.intro) (And.intro (And.intro (True.intro) (And.intro (And.intro (True.intro) (LOt_ok (c := cf) (callF := call cf k) (kp := kps 45) (nt := Try.f45.ntmps) (k := k) (p := 1) (b := 2) (x0 := lb Try.f45 1) (l := [LIslices_Compact_int_int__mfi_2 k]) (And.intro (fun _ => loslices_Compact_int_int__mfi_2 k) (True.intro)))) (And.intro (True.intro) (And.intro (True.intro) (True.intro))))) (True.intro))) (True.intro))
theorem stslices_Compact_int_int__mfi_0 (k n : Nat) (x : DS SS.D hsslices_Compact_int_int__mfi_0) : Lslices_Compact_int_int__mfi_0 k (n + 1) x.1 x.2.1 x.2.2 = encSK SS.enc (fun σ => run2 cf (fun f a b K => COt f a b K []) (fun b _ σ K => LOt Ty (kps 45) 1 b σ K [LIslices_Compact_int_int__mfi_2 k]) Try.f45.ntmps 0 (lb Try.f45 0) σ (nextK Ty (kps 45 0) 1 hsslices_Compact_int_int__mfi_0 osslices_Compact_int_int__mfi_0 fun x => Lslices_Compact_int_int__mfi_0 k n x.1 x.2.1 x.2.2)) hsslices_Compact_int_int__mfi_0 x := by kernel_rfl
theorem loslices_Compact_int_int__mfi_0 (k : Nat) : LIOk cf (call cf k) (kps 45) Try.f45.ntmps k 1 0 (lb Try.f45 0) (LIslices_Compact_int_int__mfi_0 k) :=
  loop_ok (c := cf) (callF := call cf k) (kp := kps 45) (nt := Try.f45.ntmps) (k := k) (p := 1) (b := 0) (x0 := lb Try.f45 0) (hs := hsslices_Compact_int_int__mfi_0) (os := osslices_Compact_int_int__mfi_0) (COt_ok (alslices_Compact_int_int__mfi k)) (anslices_Compact_int_int__mfi_0 k) (fun n x => Lslices_Compact_int_int__mfi_0 k n x.1 x.2.1 x.2.2) (fun _ => rfl) (stslices_Compact_int_int__mfi_0 k)
theorem anslices_Compact_int_int__mfi (k : Nat) : LAll (LOk (R := DS FS.D rsslices_Compact_int_int__mfi) (fun b _ σ K => LOt Ty (kps 45) 1 b σ K [LIslices_Compact_int_int__mfi_2 k, LIslices_Compact_int_int__mfi_0 k]) cf (call cf k) (cf.keep 45) Try.f45.ntmps k shslices_Compact_int_int__mfi.bs.length) 0 (bd Try.f45) :=
  And.intro (True.intro) (And.intro (And.intro (True.intro) (And.intro (And.intro (True.intro) (True.intro)) (True.intro))) (And.intro (And.intro (True.intro) (LOt_ok (c := cf) (callF := call cf k) (kp := kps 45) (nt := Try.f45.ntmps) (k := k) (p := 1) (b := 0) (x0 := lb Try.f45 0) (l := [LIslices_Compact_int_int__mfi_2 k, LIslices_Compact_int_int__mfi_0 k]) (And.intro (fun h => absurd (show (2 : Nat) = 0 from h) (by decide)) (And.intro (fun _ => loslices_Compact_int_int__mfi_0 k) (True.intro))))) (And.intro (True.intro) (True.intro))))
theorem stslices_Compact_int_int__mfi (k : Nat) (x : shslices_Compact_int_int__mfi.D) : Fslices_Compact_int_int__mfi (k + 1) x.1 x.2 = body2 cf (fun f a b K => COt f a b K []) (fun b _ σ K => LOt Ty (kps 45) 1 b σ K [LIslices_Compact_int_int__mfi_2 k, LIslices_Compact_int_int__mfi_0 k]) 45 Try.f45.ntmps Try.f45.results.toList (bd Try.f45) (shslices_Compact_int_int__mfi.enc x).1 (shslices_Compact_int_int__mfi.enc x).2 (putS FS.dec rsslices_Compact_int_int__mfi) := by kernel_rfl
theorem okslices_Compact_int_int__mfi : ∀ k, InstOk (call cf k) (Islices_Compact_int_int__mfi k)
  | 0 => fun x y e => absurd (show (none : Option _) = some y from e) (by simp)
  | k + 1 => inst_ok (c := cf) (k := k) (f := 45) (fn := Try.f45) (body := bd Try.f45) (sh := shslices_Compact_int_int__mfi) (os := rsslices_Compact_int_int__mfi) rfl Try.func45 rfl ⟨rfl, Nat.le_of_ble_eq_true rfl⟩ (COt_ok (alslices_Compact_int_int__mfi k)) (anslices_Compact_int_int__mfi k) (fun x => Fslices_Compact_int_int__mfi (k + 1) x.1 x.2) (stslices_Compact_int_int__mfi k)

/-! shunt/sparse.eliminate$1 -/
def bsparse_eliminate_1 (k : Nat) (c : Int) (x : Int) : Option (Bool) :=
  (some (c == x))
def Fsparse_eliminate_1 : Nat → Int → Int → Option (Bool)
  | 0, _, _ => none
  | k + 1, c, x => bsparse_eliminate_1 k c x
def shsparse_eliminate_1 : FS := { vs := [.a (.lf (.int .i64)), .a (.lf (.ref (.int .i64)))], bs := [] }
def rssparse_eliminate_1 : List FS := [{ vs := [.a (.lf .bool)], bs := [] }]
def Isparse_eliminate_1 (k : Nat) : Inst := ⟨47, shsparse_eliminate_1, rssparse_eliminate_1, fun x => Fsparse_eliminate_1 k x.1 x.2⟩
theorem alsparse_eliminate_1 (k : Nat) : AllI (call cf k) [] := True.intro
theorem ansparse_eliminate_1 (k : Nat) : LAll (LOk (R := DS FS.D rssparse_eliminate_1) (fun b _ σ K => LOt Ty (kps 47) 0 b σ K []) cf (call cf k) (cf.keep 47) Try.f47.ntmps k shsparse_eliminate_1.bs.length) 0 (bd Try.f47) :=
  And.intro (True.intro) (And.intro (True.intro) (True.intro))
theorem stsparse_eliminate_1 (k : Nat) (x : shsparse_eliminate_1.D) : Fsparse_eliminate_1 (k + 1) x.1 x.2 = body2 cf (fun f a b K => COt f a b K []) (fun b _ σ K => LOt Ty (kps 47) 0 b σ K []) 47 Try.f47.ntmps Try.f47.results.toList (bd Try.f47) (shsparse_eliminate_1.enc x).1 (shsparse_eliminate_1.enc x).2 (putS FS.dec rssparse_eliminate_1) := by kernel_rfl
theorem oksparse_eliminate_1 : ∀ k, InstOk (call cf k) (Isparse_eliminate_1 k)
  | 0 => fun x y e => absurd (show (none : Option _) = some y from e) (by simp)
  | k + 1 => inst_ok (c := cf) (k := k) (f := 47) (fn := Try.f47) (body := bd Try.f47) (sh := shsparse_eliminate_1) (os := rssparse_eliminate_1) rfl Try.func47 rfl ⟨rfl, Nat.le_of_ble_eq_true rfl⟩ (COt_ok (alsparse_eliminate_1 k)) (ansparse_eliminate_1 k) (fun x => Fsparse_eliminate_1 (k + 1) x.1 x.2) (stsparse_eliminate_1 k)

/-! slices.IndexFunc[[]int,int] -/
def Lslices_IndexFunc_int_int__tfn_0s (k : Nat) (rec : Nat → Int → Int → Int → List Int → Option ((Int × List Int) ⊕ (List Int))) (s : Nat) (f : Int) (x : Int) (x1 : Int) (ss : List Int) : Option ((Int × List Int) ⊕ (List Int)) :=
  if ((decide (x1 < x)) = true) then
    if (((0 : Int) ≤ x1) ∧ (x1 < ((s : Nat) : Int))) then
      Option.bind (ss)[(0 + (Int.toNat x1))]? fun x5 =>
      Option.bind (Fsparse_eliminate_1 k x5 f) fun r6 =>
      if (r6 = true) then
        (some (Sum.inl (x1, ss)))
      else
      rec s f x (IntKind.wrap .i64 (x1 + (1 : Int))) ss
    else
    none
  else
  (some (Sum.inr ss))
def Lslices_IndexFunc_int_int__tfn_0 (k n : Nat) : Nat → Int → Int → Int → List Int → Option ((Int × List Int) ⊕ (List Int)) := Nat.rec (fun _ _ _ _ _ => none) (fun _ r => Lslices_IndexFunc_int_int__tfn_0s k r) n
def bslices_IndexFunc_int_int__tfn (k : Nat) (s : Nat) (f : Int) (ss : List Int) : Option (Int × List Int) :=
  Option.bind (Lslices_IndexFunc_int_int__tfn_0 k k s f ((s : Nat) : Int) (0 : Int) ss) fun r6 =>
  eitherK r6
    (fun r6 =>
    (some (r6.1, r6.2)))
    (fun r6 =>
    (some ((-(1 : Int)), r6)))
def Fslices_IndexFunc_int_int__tfn : Nat → Nat → Int → List Int → Option (Int × List Int)
  | 0, _, _, _ => none
  | k + 1, s, f, ss => bslices_IndexFunc_int_int__tfn k s f ss
def shslices_IndexFunc_int_int__tfn : FS := { vs := [.a (.smz 0), .a (.fn 47 [(.ref (.int .i64))])], bs := [.arr (.int .i64) 1 3 false] }
def rsslices_IndexFunc_int_int__tfn : List FS := [{ vs := [.a (.lf (.int .i64))], bs := [.arr (.int .i64) 1 3 false] }]
def Islices_IndexFunc_int_int__tfn (k : Nat) : Inst := ⟨57, shslices_IndexFunc_int_int__tfn, rsslices_IndexFunc_int_int__tfn, fun x => Fslices_IndexFunc_int_int__tfn k x.1 x.2.1 x.2.2⟩
theorem alslices_IndexFunc_int_int__tfn (k : Nat) : AllI (call cf k) [Isparse_eliminate_1 k] := And.intro (oksparse_eliminate_1 k) (True.intro)
def hsslices_IndexFunc_int_int__tfn_0 : List SS := [{ fr := [(0, .a (.smz 0)), (1, .a (.fn 47 [(.ref (.int .i64))])), (7, .a (.lf (.int .i64))), (8, .a (.lf (.int .i64)))], mem := [(0, some (.arr (.int .i64) 1 3 false))], nx := 1 }]
def osslices_IndexFunc_int_int__tfn_0 : List OS := [⟨none, { fr := [(4, .a (.lf (.int .i64)))], mem := [(0, some (.arr (.int .i64) 1 3 false))], nx := 1 }⟩, ⟨some 0, { fr := [], mem := [(0, some (.arr (.int .i64) 1 3 false))], nx := 1 }⟩]
def LIslices_IndexFunc_int_int__tfn_0 (k : Nat) : LInst := ⟨0, hsslices_IndexFunc_int_int__tfn_0, osslices_IndexFunc_int_int__tfn_0, fun x => Lslices_IndexFunc_int_int__tfn_0 k k x.1 x.2.1 x.2.2.1 x.2.2.2.1 x.2.2.2.2⟩
theorem anslices_IndexFunc_int_int__tfn_0 (k : Nat) : LAll (LOk (R := DS OS.D osslices_IndexFunc_int_int__tfn_0) (fun b _ σ K => LOt Ty (kps 57) 1 b σ K []) cf (call cf k) (kps 57) Try.f57.ntmps k 1) 0 (lb Try.f57 0) :=
  And.intro (True.intro) (And.intro (And.intro (True.intro) (True.intro)) (And.intro (And.intro (True.intro) (And.intro (True.intro) (And.intro (And.intro (True.intro) (True.intro)) (True.intro)))) (True.intro)))
theorem stslices_IndexFunc_int_int__tfn_0 (k n : Nat) (x : DS SS.D hsslices_IndexFunc_int_int__tfn_0) : Lslices_IndexFunc_int_int__tfn_0 k (n + 1) x.1 x.2.1 x.2.2.1 x.2.2.2.1 x.2.2.2.2 = encSK SS.enc (fun σ => run2 cf (fun f a b K => COt f a b K [Isparse_eliminate_1 k]) (fun b _ σ K => LOt Ty (kps 57) 1 b σ K []) Try.f57.ntmps 0 (lb Try.f57 0) σ (nextK Ty (kps 57 0) 1 hsslices_IndexFunc_int_int__tfn_0 osslices_IndexFunc_int_int__tfn_0 fun x => Lslices_IndexFunc_int_int__tfn_0 k n x.1 x.2.1 x.2.2.1 x.2.2.2.1 x.2.2.2.2)) hsslices_IndexFunc_int_int__tfn_0 x := by kernel_rfl
theorem loslices_IndexFunc_int_int__tfn_0 (k : Nat) : LIOk cf (call cf k) (kps 57) Try.f57.ntmps k 1 0 (lb Try.f57 0) (LIslices_IndexFunc_int_int__tfn_0 k) :=
  loop_ok (c := cf) (callF := call cf k) (kp := kps 57) (nt := Try.f57.ntmps) (k := k) (p := 1) (b := 0) (x0 := lb Try.f57 0) (hs := hsslices_IndexFunc_int_int__tfn_0) (os := osslices_IndexFunc_int_int__tfn_0) (COt_ok (alslices_IndexFunc_int_int__tfn k)) (anslices_IndexFunc_int_int__tfn_0 k) (fun n x => Lslices_IndexFunc_int_int__tfn_0 k n x.1 x.2.1 x.2.2.1 x.2.2.2.1 x.2.2.2.2) (fun _ => rfl) (stslices_IndexFunc_int_int__tfn_0 k)
theorem anslices_IndexFunc_int_int__tfn (k : Nat) : LAll (LOk (R := DS FS.D rsslices_IndexFunc_int_int__tfn) (fun b _ σ K => LOt Ty (kps 57) 1 b σ K [LIslices_IndexFunc_int_int__tfn_0 k]) cf (call cf k) (cf.keep 57) Try.f57.ntmps k shslices_IndexFunc_int_int__tfn.bs.length) 0 (bd Try.f57) :=
  And.intro (True.intro) (And.intro (And.intro (True.intro) (LOt_ok (c := cf) (callF := call cf k) (kp := kps 57) (nt := Try.f57.ntmps) (k := k) (p := 1) (b := 0) (x0 := lb Try.f57 0) (l := [LIslices_IndexFunc_int_int__tfn_0 k]) (And.intro (fun _ => loslices_IndexFunc_int_int__tfn_0 k) (True.intro)))) (And.intro (True.intro) (True.intro)))
theorem stslices_IndexFunc_int_int__tfn (k : Nat) (x : shslices_IndexFunc_int_int__tfn.D) : Fslices_IndexFunc_int_int__tfn (k + 1) x.1 x.2.1 x.2.2 = body2 cf (fun f a b K => COt f a b K [Isparse_eliminate_1 k]) (fun b _ σ K => LOt Ty (kps 57) 1 b σ K [LIslices_IndexFunc_int_int__tfn_0 k]) 57 Try.f57.ntmps Try.f57.results.toList (bd Try.f57) (shslices_IndexFunc_int_int__tfn.enc x).1 (shslices_IndexFunc_int_int__tfn.enc x).2 (putS FS.dec rsslices_IndexFunc_int_int__tfn) := by kernel_rfl
theorem okslices_IndexFunc_int_int__tfn : ∀ k, InstOk (call cf k) (Islices_IndexFunc_int_int__tfn k)
  | 0 => fun x y e => absurd (show (none : Option _) = some y from e) (by simp)
  | k + 1 => inst_ok (c := cf) (k := k) (f := 57) (fn := Try.f57) (body := bd Try.f57) (sh := shslices_IndexFunc_int_int__tfn) (os := rsslices_IndexFunc_int_int__tfn) rfl Try.func57 rfl ⟨rfl, Nat.le_of_ble_eq_true rfl⟩ (COt_ok (alslices_IndexFunc_int_int__tfn k)) (anslices_IndexFunc_int_int__tfn k) (fun x => Fslices_IndexFunc_int_int__tfn (k + 1) x.1 x.2.1 x.2.2) (stslices_IndexFunc_int_int__tfn k)

/-! slices.DeleteFunc[[]int,int] -/
def Lslices_DeleteFunc_int_int__tfn_0s (k : Nat) (rec : Nat → Int → Int → Int → List Int → Option (Nat × Int × List Int)) (s : Nat) (del : Int) (i : Int) (j : Int) (ss : List Int) : Option (Nat × Int × List Int) :=
  if ((decide (j < ((s : Nat) : Int))) = true) then
    if (((0 : Int) ≤ j) ∧ (j < ((s : Nat) : Int))) then
      Option.bind (ss)[(0 + (Int.toNat j))]? fun x5 =>
      Option.bind (Fsparse_eliminate_1 k x5 del) fun r7 =>
      if ((!r7) = true) then
        if (((0 : Int) ≤ i) ∧ (i < ((s : Nat) : Int))) then
          Option.bind (ss)[(0 + (Int.toNat i))]? fun x6 =>
          rec s del (IntKind.wrap .i64 (i + (1 : Int))) (IntKind.wrap .i64 (j + (1 : Int))) (List.set ss (0 + (Int.toNat i)) x5)
        else
        none
      else
      rec s del i (IntKind.wrap .i64 (j + (1 : Int))) ss
    else
    none
  else
  (some (s, i, ss))
def Lslices_DeleteFunc_int_int__tfn_0 (k n : Nat) : Nat → Int → Int → Int → List Int → Option (Nat × Int × List Int) := Nat.rec (fun _ _ _ _ _ => none) (fun _ r => Lslices_DeleteFunc_int_int__tfn_0s k r) n
def bslices_DeleteFunc_int_int__tfn (k : Nat) (s : Nat) (del : Int) (ss : List Int) : Option (Nat × List Int) :=
  Option.bind (Fslices_IndexFunc_int_int__tfn k s del ss) fun r6 =>
  if ((r6.1 == (-(1 : Int))) = true) then
    (some (s, r6.2))
  else
  Option.bind (Lslices_DeleteFunc_int_int__tfn_0 k k s del r6.1 (IntKind.wrap .i64 (r6.1 + (1 : Int))) r6.2) fun r7 =>
  if (((0 : Int) ≤ r7.2.1) ∧ ((r7.2.1 ≤ ((r7.1 : Nat) : Int)) ∧ (((0 + (Int.toNat ((r7.1 : Nat) : Int))) ≤ (List.length r7.2.2)) ∧ ((r7.2.1 < ((r7.1 : Nat) : Int)) ∨ (false = true))))) then
    if (((0 + (Int.toNat r7.2.1)) + ((Int.toNat ((r7.1 : Nat) : Int)) - (Int.toNat r7.2.1))) ≤ (List.length r7.2.2)) then
      if (((0 : Int) ≤ (0 : Int)) ∧ (((0 : Int) ≤ r7.2.1) ∧ (((0 + (Int.toNat r7.2.1)) ≤ (List.length (((List.take (0 + (Int.toNat r7.2.1)) r7.2.2) ++ (List.replicate ((Int.toNat ((r7.1 : Nat) : Int)) - (Int.toNat r7.2.1)) (0 : Int))) ++ (List.drop ((0 + (Int.toNat r7.2.1)) + ((Int.toNat ((r7.1 : Nat) : Int)) - (Int.toNat r7.2.1))) r7.2.2)))) ∧ (((0 : Int) < r7.2.1) ∨ (true = true))))) then
        (some ((Int.toNat r7.2.1), (((List.take (0 + (Int.toNat r7.2.1)) r7.2.2) ++ (List.replicate ((Int.toNat ((r7.1 : Nat) : Int)) - (Int.toNat r7.2.1)) (0 : Int))) ++ (List.drop ((0 + (Int.toNat r7.2.1)) + ((Int.toNat ((r7.1 : Nat) : Int)) - (Int.toNat r7.2.1))) r7.2.2))))
      else
      none
    else
    none
  else
  none
def Fslices_DeleteFunc_int_int__tfn : Nat → Nat → Int → List Int → Option (Nat × List Int)
  | 0, _, _, _ => none
  | k + 1, s, del, ss => bslices_DeleteFunc_int_int__tfn k s del ss
def shslices_DeleteFunc_int_int__tfn : FS := { vs := [.a (.smz 0), .a (.fn 47 [(.ref (.int .i64))])], bs := [.arr (.int .i64) 1 3 false] }
def rsslices_DeleteFunc_int_int__tfn : List FS := [{ vs := [.a (.smz 0)], bs := [.arr (.int .i64) 1 3 false] }]
def Islices_DeleteFunc_int_int__tfn (k : Nat) : Inst := ⟨46, shslices_DeleteFunc_int_int__tfn, rsslices_DeleteFunc_int_int__tfn, fun x => Fslices_DeleteFunc_int_int__tfn k x.1 x.2.1 x.2.2⟩
theorem alslices_DeleteFunc_int_int__tfn (k : Nat) : AllI (call cf k) [Islices_IndexFunc_int_int__tfn k, Isparse_eliminate_1 k] := And.intro (okslices_IndexFunc_int_int__tfn k) (And.intro (oksparse_eliminate_1 k) (True.intro))
def hsslices_DeleteFunc_int_int__tfn_0 : List SS := [{ fr := [(0, .a (.smz 0)), (1, .a (.fn 47 [(.ref (.int .i64))])), (5, .a (.lf (.int .i64))), (6, .a (.lf (.int .i64)))], mem := [(0, some (.arr (.int .i64) 1 3 false))], nx := 1 }]
def osslices_DeleteFunc_int_int__tfn_0 : List OS := [⟨some 0, { fr := [(0, .a (.smz 0)), (5, .a (.lf (.int .i64)))], mem := [(0, some (.arr (.int .i64) 1 3 false))], nx := 1 }⟩]
def LIslices_DeleteFunc_int_int__tfn_0 (k : Nat) : LInst := ⟨0, hsslices_DeleteFunc_int_int__tfn_0, osslices_DeleteFunc_int_int__tfn_0, fun x => Lslices_DeleteFunc_int_int__tfn_0 k k x.1 x.2.1 x.2.2.1 x.2.2.2.1 x.2.2.2.2⟩
theorem anslices_DeleteFunc_int_int__tfn_0 (k : Nat) : LAll (LOk (R := DS OS.D osslices_DeleteFunc_int_int__tfn_0) (fun b _ σ K => LOt Ty (kps 46) 1 b σ K []) cf (call cf k) (kps 46) Try.f46.ntmps k 1) 0 (lb Try.f46 0) :=
  And.intro (And.intro (True.intro) (And.intro (True.intro) (True.intro))) (And.intro (And.intro (True.intro) (And.intro (True.intro) (And.intro (And.intro (True.intro) (True.intro)) (True.intro)))) (True.intro))
theorem stslices_DeleteFunc_int_int__tfn_0 (k n : Nat) (x : DS SS.D hsslices_DeleteFunc_int_int__tfn_0) : Lslices_DeleteFunc_int_int__tfn_0 k (n + 1) x.1 x.2.1 x.2.2.1 x.2.2.2.1 x.2.2.2.2 = encSK SS.enc (fun σ => run2 cf (fun f a b K => COt f a b K [Islices_IndexFunc_int_int__tfn k, Isparse_eliminate_1 k]) (fun b _ σ K => LOt Ty (kps 46) 1 b σ K []) Try.f46.ntmps 0 (lb Try.f46 0) σ (nextK Ty (kps 46 0) 1 hsslices_DeleteFunc_int_int__tfn_0 osslices_DeleteFunc_int_int__tfn_0 fun x => Lslices_DeleteFunc_int_int__tfn_0 k n x.1 x.2.1 x.2.2.1 x.2.2.2.1 x.2.2.2.2)) hsslices_DeleteFunc_int_int__tfn_0 x := by kernel_rfl
theorem loslices_DeleteFunc_int_int__tfn_0 (k : Nat) : LIOk cf (call cf k) (kps 46) Try.f46.ntmps k 1 0 (lb Try.f46 0) (LIslices_DeleteFunc_int_int__tfn_0 k) :=
  loop_ok (c := cf) (callF := call cf k) (kp := kps 46) (nt := Try.f46.ntmps) (k := k) (p := 1) (b := 0) (x0 := lb Try.f46 0) (hs := hsslices_DeleteFunc_int_int__tfn_0) (os := osslices_DeleteFunc_int_int__tfn_0) (COt_ok (alslices_DeleteFunc_int_int__tfn k)) (anslices_DeleteFunc_int_int__tfn_0 k) (fun n x => Lslices_DeleteFunc_int_int__tfn_0 k n x.1 x.2.1 x.2.2.1 x.2.2.2.1 x.2.2.2.2) (fun _ => rfl) (stslices_DeleteFunc_int_int__tfn_0 k)
theorem anslices_DeleteFunc_int_int__tfn (k : Nat) : LAll (LOk (R := DS FS.D rsslices_DeleteFunc_int_int__tfn) (fun b _ σ K => LOt Ty (kps 46) 1 b σ K [LIslices_DeleteFunc_int_int__tfn_0 k]) cf (call cf k) (cf.keep 46) Try.f46.ntmps k shslices_DeleteFunc_int_int__tfn.bs.length) 0 (bd Try.f46) :=
  And.intro (True.intro) (And.intro (True.intro) (And.intro (And.intro (True.intro) (And.intro (And.intro (True.intro) (True.intro)) (True.intro))) (And.intro (And.intro (True.intro) (LOt_ok (c := cf) (callF := call cf k) (kp := kps 46) (nt := Try.f46.ntmps) (k := k) (p := 1) (b := 0) (x0 := lb Try.f46 0) (l := [LIslices_DeleteFunc_int_int__tfn_0 k]) (And.intro (fun _ => loslices_DeleteFunc_int_int__tfn_0 k) (True.intro)))) (And.intro (True.intro) (And.intro (True.intro) (True.intro))))))
theorem stslices_DeleteFunc_int_int__tfn (k : Nat) (x : shslices_DeleteFunc_int_int__tfn.D) : Fslices_DeleteFunc_int_int__tfn (k + 1) x.1 x.2.1 x.2.2 = body2 cf (fun f a b K => COt f a b K [Islices_IndexFunc_int_int__tfn k, Isparse_eliminate_1 k]) (fun b _ σ K => LOt Ty (kps 46) 1 b σ K [LIslices_DeleteFunc_int_int__tfn_0 k]) 46 Try.f46.ntmps Try.f46.results.toList (bd Try.f46) (shslices_DeleteFunc_int_int__tfn.enc x).1 (shslices_DeleteFunc_int_int__tfn.enc x).2 (putS FS.dec rsslices_DeleteFunc_int_int__tfn) := by kernel_rfl
theorem okslices_DeleteFunc_int_int__tfn : ∀ k, InstOk (call cf k) (Islices_DeleteFunc_int_int__tfn k)
  | 0 => fun x y e => absurd (show (none : Option _) = some y from e) (by simp)
  | k + 1 => inst_ok (c := cf) (k := k) (f := 46) (fn := Try.f46) (body := bd Try.f46) (sh := shslices_DeleteFunc_int_int__tfn) (os := rsslices_DeleteFunc_int_int__tfn) rfl Try.func46 rfl ⟨rfl, Nat.le_of_ble_eq_true rfl⟩ (COt_ok (alslices_DeleteFunc_int_int__tfn k)) (anslices_DeleteFunc_int_int__tfn k) (fun x => Fslices_DeleteFunc_int_int__tfn (k + 1) x.1 x.2.1 x.2.2) (stslices_DeleteFunc_int_int__tfn k)

/-! shunt/sparse.eliminate -/
def Lsparse_eliminate_0s (k : Nat) (rec : ((List (List Int) × Int × Nat × Int × List (List Int) × Int × Int × Int × List (List Int)) ⊕ (List (List Int) × Int × Nat × Int × List (List Int) × Int × Int × Int × List (List Int))) → Option ((Nat × Int × Int × List (List Int)) ⊕ (Nat × Int × Int × List (List Int)))) (x : (List (List Int) × Int × Nat × Int × List (List Int) × Int × Int × Int × List (List Int)) ⊕ (List (List Int) × Int × Nat × Int × List (List Int) × Int × Int × Int × List (List Int))) : Option ((Nat × Int × Int × List (List Int)) ⊕ (Nat × Int × Int × List (List Int))) :=
  eitherK x
  (fun x =>
  if ((decide (x.2.2.2.2.2.2.1 < x.2.2.2.2.2.1)) = true) then
    if ((0 : Int) ≤ x.2.2.2.2.2.2.1) then
      Option.bind (x.2.2.2.2.1)[(Int.toNat x.2.2.2.2.2.2.1)]? fun x1 =>
      if ((x.2.2.2.2.2.2.1 == x.2.1) = true) then
        rec (Sum.inl (x.1, x.2.1, x.2.2.1, x.2.2.2.1, x.2.2.2.2.1, x.2.2.2.2.2.1, (IntKind.wrap .i64 (x.2.2.2.2.2.2.1 + (1 : Int))), x.2.2.2.2.2.2.2.1, x.2.2.2.2.2.2.2.2))
      else
      Option.bind (Fslices_Clone_int_int_ k x1) fun r2 =>
      Option.bind (Fslices_Contains_int_int_ k x1 x.2.2.2.2.2.2.2.1) fun r3 =>
      if (r3 = true) then
        if ((0 : Int) ≤ x.2.1) then
          Option.bind (x.1)[(Int.toNat x.2.1)]? fun x2 =>
          if (r2.1 ≤ (List.length r2.2)) then
            if (((r2.1 + (List.length x2)) * 8) ≤ 140737488355328) then
              Option.bind (Fslices_Sort_int_int__mfi k (r2.1 + (List.length x2)) ((List.take r2.1 r2.2) ++ x2)) fun r4 =>
              Option.bind (Fslices_Compact_int_int__mfi k (r2.1 + (List.length x2)) r4) fun r5 =>
              Option.bind (Fslices_DeleteFunc_int_int__tfn k r5.1 x.2.2.2.2.2.2.2.1 r5.2) fun r6 =>
              if (((0 : Int) ≤ x.2.2.2.2.2.2.1) ∧ (x.2.2.2.2.2.2.1 < ((x.2.2.1 : Nat) : Int))) then
                if ((0 + r6.1) ≤ (List.length r6.2)) then
                  Option.bind (x.2.2.2.2.2.2.2.2)[(0 + (Int.toNat x.2.2.2.2.2.2.1))]? fun x3 =>
                  rec (Sum.inr (x.1, x.2.1, x.2.2.1, (IntKind.wrap .i64 (x.2.2.2.1 + (IntKind.wrap .i64 (((r5.1 : Nat) : Int) - (((List.length x1) : Nat) : Int))))), x.2.2.2.2.1, x.2.2.2.2.2.1, (IntKind.wrap .i64 (x.2.2.2.2.2.2.1 + (1 : Int))), x.2.2.2.2.2.2.2.1, (List.set x.2.2.2.2.2.2.2.2 (0 + (Int.toNat x.2.2.2.2.2.2.1)) (List.take r6.1 r6.2))))
                else
                none
              else
              none
            else
            none
          else
          none
        else
        none
      else
      Option.bind (Fslices_DeleteFunc_int_int__tfn k r2.1 x.2.2.2.2.2.2.2.1 r2.2) fun r4 =>
      if (((0 : Int) ≤ x.2.2.2.2.2.2.1) ∧ (x.2.2.2.2.2.2.1 < ((x.2.2.1 : Nat) : Int))) then
        if ((0 + r4.1) ≤ (List.length r4.2)) then
          Option.bind (x.2.2.2.2.2.2.2.2)[(0 + (Int.toNat x.2.2.2.2.2.2.1))]? fun x2 =>
          rec (Sum.inr (x.1, x.2.1, x.2.2.1, x.2.2.2.1, x.2.2.2.2.1, x.2.2.2.2.2.1, (IntKind.wrap .i64 (x.2.2.2.2.2.2.1 + (1 : Int))), x.2.2.2.2.2.2.2.1, (List.set x.2.2.2.2.2.2.2.2 (0 + (Int.toNat x.2.2.2.2.2.2.1)) (List.take r4.1 r4.2))))
        else
        none
      else
      none
    else
    none
  else
  (some (Sum.inl (x.2.2.1, x.2.2.2.1, x.2.2.2.2.2.2.2.1, x.2.2.2.2.2.2.2.2))))
  (fun x =>
  if ((decide (x.2.2.2.2.2.2.1 < x.2.2.2.2.2.1)) = true) then
    if ((0 : Int) ≤ x.2.2.2.2.2.2.1) then
      Option.bind (x.2.2.2.2.1)[(Int.toNat x.2.2.2.2.2.2.1)]? fun x1 =>
      if ((x.2.2.2.2.2.2.1 == x.2.1) = true) then
        rec (Sum.inr (x.1, x.2.1, x.2.2.1, x.2.2.2.1, x.2.2.2.2.1, x.2.2.2.2.2.1, (IntKind.wrap .i64 (x.2.2.2.2.2.2.1 + (1 : Int))), x.2.2.2.2.2.2.2.1, x.2.2.2.2.2.2.2.2))
      else
      Option.bind (Fslices_Clone_int_int_ k x1) fun r2 =>
      Option.bind (Fslices_Contains_int_int_ k x1 x.2.2.2.2.2.2.2.1) fun r3 =>
      if (r3 = true) then
        if ((0 : Int) ≤ x.2.1) then
          Option.bind (x.1)[(Int.toNat x.2.1)]? fun x2 =>
          if (r2.1 ≤ (List.length r2.2)) then
            if (((r2.1 + (List.length x2)) * 8) ≤ 140737488355328) then
              Option.bind (Fslices_Sort_int_int__mfi k (r2.1 + (List.length x2)) ((List.take r2.1 r2.2) ++ x2)) fun r4 =>
              Option.bind (Fslices_Compact_int_int__mfi k (r2.1 + (List.length x2)) r4) fun r5 =>
              Option.bind (Fslices_DeleteFunc_int_int__tfn k r5.1 x.2.2.2.2.2.2.2.1 r5.2) fun r6 =>
              if (((0 : Int) ≤ x.2.2.2.2.2.2.1) ∧ (x.2.2.2.2.2.2.1 < ((x.2.2.1 : Nat) : Int))) then
                if ((0 + r6.1) ≤ (List.length r6.2)) then
                  Option.bind (x.2.2.2.2.2.2.2.2)[(0 + (Int.toNat x.2.2.2.2.2.2.1))]? fun x3 =>
                  rec (Sum.inr (x.1, x.2.1, x.2.2.1, (IntKind.wrap .i64 (x.2.2.2.1 + (IntKind.wrap .i64 (((r5.1 : Nat) : Int) - (((List.length x1) : Nat) : Int))))), x.2.2.2.2.1, x.2.2.2.2.2.1, (IntKind.wrap .i64 (x.2.2.2.2.2.2.1 + (1 : Int))), x.2.2.2.2.2.2.2.1, (List.set x.2.2.2.2.2.2.2.2 (0 + (Int.toNat x.2.2.2.2.2.2.1)) (List.take r6.1 r6.2))))
                else
                none
              else
              none
            else
            none
          else
          none
        else
        none
      else
      Option.bind (Fslices_DeleteFunc_int_int__tfn k r2.1 x.2.2.2.2.2.2.2.1 r2.2) fun r4 =>
      if (((0 : Int) ≤ x.2.2.2.2.2.2.1) ∧ (x.2.2.2.2.2.2.1 < ((x.2.2.1 : Nat) : Int))) then
        if ((0 + r4.1) ≤ (List.length r4.2)) then
          Option.bind (x.2.2.2.2.2.2.2.2)[(0 + (Int.toNat x.2.2.2.2.2.2.1))]? fun x2 =>
          rec (Sum.inr (x.1, x.2.1, x.2.2.1, x.2.2.2.1, x.2.2.2.2.1, x.2.2.2.2.2.1, (IntKind.wrap .i64 (x.2.2.2.2.2.2.1 + (1 : Int))), x.2.2.2.2.2.2.2.1, (List.set x.2.2.2.2.2.2.2.2 (0 + (Int.toNat x.2.2.2.2.2.2.1)) (List.take r4.1 r4.2))))
        else
        none
      else
      none
    else
    none
  else
  (some (Sum.inr (x.2.2.1, x.2.2.2.1, x.2.2.2.2.2.2.2.1, x.2.2.2.2.2.2.2.2))))
def Lsparse_eliminate_0 (k n : Nat) : ((List (List Int) × Int × Nat × Int × List (List Int) × Int × Int × Int × List (List Int)) ⊕ (List (List Int) × Int × Nat × Int × List (List Int) × Int × Int × Int × List (List Int))) → Option ((Nat × Int × Int × List (List Int)) ⊕ (Nat × Int × Int × List (List Int))) := Nat.rec (fun _ => none) (fun _ r => Lsparse_eliminate_0s k r) n
def bsparse_eliminate (k : Nat) (p : List (List Int)) (row : Int) (col : Int) : Option (List (List Int) × Int) :=
  if (((0 : Int) ≤ (((List.length p) : Nat) : Int)) ∧ (((((List.length p) : Nat) : Int) ≤ (((List.length p) : Nat) : Int)) ∧ (((((List.length p) : Nat) : Int) * (24 : Int)) ≤ (140737488355328 : Int)))) then
    Option.bind (Lsparse_eliminate_0 k k (Sum.inl (p, row, (Int.toNat (((List.length p) : Nat) : Int)), (0 : Int), p, (((List.length p) : Nat) : Int), (0 : Int), col, (List.replicate (Int.toNat (((List.length p) : Nat) : Int)) [])))) fun r2 =>
    eitherK r2
      (fun r2 =>
      if ((0 + r2.1) ≤ (List.length r2.2.2.2)) then
        (some ((List.take r2.1 r2.2.2.2), r2.2.1))
      else
      none)
      (fun r2 =>
      if ((0 + r2.1) ≤ (List.length r2.2.2.2)) then
        (some ((List.take r2.1 r2.2.2.2), r2.2.1))
      else
      none)
  else
  none
def Fsparse_eliminate : Nat → List (List Int) → Int → Int → Option (List (List Int) × Int)
  | 0, _, _, _ => none
  | k + 1, p, row, col => bsparse_eliminate k p row col
def shsparse_eliminate : FS := { vs := [.a (.lf (.sl (.sl (.int .i64)))), .a (.lf (.int .i64)), .a (.lf (.int .i64))], bs := [] }
def rssparse_eliminate : List FS := [{ vs := [.a (.lf (.sl (.sl (.int .i64)))), .a (.lf (.int .i64))], bs := [] }]
def Isparse_eliminate (k : Nat) : Inst := ⟨37, shsparse_eliminate, rssparse_eliminate, fun x => Fsparse_eliminate k x.1 x.2.1 x.2.2⟩
theorem alsparse_eliminate (k : Nat) : AllI (call cf k) [Islices_Clone_int_int_ k, Islices_Contains_int_int_ k, Islices_Sort_int_int__mfi k, Islices_Compact_int_int__mfi k, Islices_DeleteFunc_int_int__tfn k] := And.intro (okslices_Clone_int_int_ k) (And.intro (okslices_Contains_int_int_ k) (And.intro (okslices_Sort_int_int__mfi k) (And.intro (okslices_Compact_int_int__mfi k) (And.intro (okslices_DeleteFunc_int_int__tfn k) (True.intro)))))
def hssparse_eliminate_0 : List SS := [{ fr := [(0, .a (.lf (.sl (.sl (.int .i64))))), (1, .a (.lf (.int .i64))), (5, .a (.ptr 0 0 0)), (8, .a (.smz 1)), (9, .a (.lf (.int .i64))), (16, .a (.lf (.sl (.sl (.int .i64))))), (17, .a (.lf (.int .i64))), (18, .a (.lf (.int .i64)))], mem := [(0, some (.raw [[.lf (.int .i64)]] 1 3 true false false)), (1, some (.arr (.sl (.int .i64)) 1 41 false))], nx := 2 }, { fr := [(0, .a (.lf (.sl (.sl (.int .i64))))), (1, .a (.lf (.int .i64))), (5, .a (.ptr 0 0 0)), (8, .a (.smz 1)), (9, .a (.lf (.int .i64))), (16, .a (.lf (.sl (.sl (.int .i64))))), (17, .a (.lf (.int .i64))), (18, .a (.lf (.int .i64)))], mem := [(0, some (.raw [[.lf (.int .i64)]] 1 3 true true false)), (1, some (.arr (.sl (.int .i64)) 1 41 false))], nx := 2 }]
def ossparse_eliminate_0 : List OS := [⟨some 0, { fr := [(8, .a (.smz 1)), (9, .a (.lf (.int .i64)))], mem := [(0, some (.raw [[.lf (.int .i64)]] 1 3 true false false)), (1, some (.arr (.sl (.int .i64)) 1 41 false))], nx := 2 }⟩, ⟨some 0, { fr := [(8, .a (.smz 1)), (9, .a (.lf (.int .i64)))], mem := [(0, some (.raw [[.lf (.int .i64)]] 1 3 true true false)), (1, some (.arr (.sl (.int .i64)) 1 41 false))], nx := 2 }⟩]
def LIsparse_eliminate_0 (k : Nat) : LInst := ⟨0, hssparse_eliminate_0, ossparse_eliminate_0, fun x => Lsparse_eliminate_0 k k x⟩
theorem ansparse_eliminate_0 (k : Nat) : LAll (LOk (R := DS OS.D ossparse_eliminate_0) (fun b _ σ K => LOt Ty (kps 37) 0 b σ K []) cf (call cf k) (kps 37) Try.f37.ntmps k 0) 0 (lb Try.f37 0) :=
  And.intro (True.intro) (And.intro (And.intro (True.intro) (True.intro)) (And.intro (And.intro (True.intro) (And.intro (And.intro (True.intro) (And.intro (True.intro) (True.intro))) (And.intro (True.intro) (And.intro (And.intro (True.intro) (And.intro (And.intro (True.intro) (And.intro (True.intro) (And.intro (True.intro) (True.intro)))) (True.intro))) (True.intro))))) (True.intro)))
theorem stsparse_eliminate_0 (k n : Nat) (x : DS SS.D hssparse_eliminate_0) : Lsparse_eliminate_0 k (n + 1) x = encSK SS.enc (fun σ => run2 cf (fun f a b K => COt f a b K [Islices_Clone_int_int_ k, Islices_Contains_int_int_ k, Islices_Sort_int_int__mfi k, Islices_Compact_int_int__mfi k, Islices_DeleteFunc_int_int__tfn k]) (fun b _ σ K => LOt Ty (kps 37) 0 b σ K []) Try.f37.ntmps 0 (lb Try.f37 0) σ (nextK Ty (kps 37 0) 0 hssparse_eliminate_0 ossparse_eliminate_0 fun x => Lsparse_eliminate_0 k n x)) hssparse_eliminate_0 x := by kernel_rfl
theorem losparse_eliminate_0 (k : Nat) : LIOk cf (call cf k) (kps 37) Try.f37.ntmps k 0 0 (lb Try.f37 0) (LIsparse_eliminate_0 k) :=
  loop_ok (c := cf) (callF := call cf k) (kp := kps 37) (nt := Try.f37.ntmps) (k := k) (p := 0) (b := 0) (x0 := lb Try.f37 0) (hs := hssparse_eliminate_0) (os := ossparse_eliminate_0) (COt_ok (alsparse_eliminate k)) (ansparse_eliminate_0 k) (fun n x => Lsparse_eliminate_0 k n x) (fun _ => rfl) (stsparse_eliminate_0 k)
theorem ansparse_eliminate (k : Nat) : LAll (LOk (R := DS FS.D rssparse_eliminate) (fun b _ σ K => LOt Ty (kps 37) 0 b σ K [LIsparse_eliminate_0 k]) cf (call cf k) (cf.keep 37) Try.f37.ntmps k shsparse_eliminate.bs.length) 0 (bd Try.f37) :=
  And.intro (True.intro) (And.intro (True.intro) (And.intro (True.intro) (And.intro (And.intro (True.intro) (LOt_ok (c := cf) (callF := call cf k) (kp := kps 37) (nt := Try.f37.ntmps) (k := k) (p := 0) (b := 0) (x0 := lb Try.f37 0) (l := [LIsparse_eliminate_0 k]) (And.intro (fun _ => losparse_eliminate_0 k) (True.intro)))) (And.intro (True.intro) (True.intro)))))
theorem stsparse_eliminate (k : Nat) (x : shsparse_eliminate.D) : Fsparse_eliminate (k + 1) x.1 x.2.1 x.2.2 = body2 cf (fun f a b K => COt f a b K [Islices_Clone_int_int_ k, Islices_Contains_int_int_ k, Islices_Sort_int_int__mfi k, Islices_Compact_int_int__mfi k, Islices_DeleteFunc_int_int__tfn k]) (fun b _ σ K => LOt Ty (kps 37) 0 b σ K [LIsparse_eliminate_0 k]) 37 Try.f37.ntmps Try.f37.results.toList (bd Try.f37) (shsparse_eliminate.enc x).1 (shsparse_eliminate.enc x).2 (putS FS.dec rssparse_eliminate) := by kernel_rfl
theorem oksparse_eliminate : ∀ k, InstOk (call cf k) (Isparse_eliminate k)
  | 0 => fun x y e => absurd (show (none : Option _) = some y from e) (by simp)
  | k + 1 => inst_ok (c := cf) (k := k) (f := 37) (fn := Try.f37) (body := bd Try.f37) (sh := shsparse_eliminate) (os := rssparse_eliminate) rfl Try.func37 rfl ⟨rfl, Nat.le_of_ble_eq_true rfl⟩ (COt_ok (alsparse_eliminate k)) (ansparse_eliminate k) (fun x => Fsparse_eliminate (k + 1) x.1 x.2.1 x.2.2) (stsparse_eliminate k)

/-! shunt/sparse.Order -/
def Lsparse_Order_0s (k : Nat) (rec : List (List Int) → Nat → Nat → List Int → List Int → Option (Nat × Nat × Int × List Int × List Int)) (p : List (List Int)) (rows : Nat) (cols : Nat) (rowss : List Int) (colss : List Int) : Option (Nat × Nat × Int × List Int × List Int) :=
  Option.bind (Fsparse_best k p) fun r1 =>
  if ((!r1.2.2) = true) then
    (some (rows, cols, (0 : Int), rowss, colss))
  else
  if (rows ≤ (List.length rowss)) then
    if (((rows + (List.length (List.take 1 (r1.1 :: [])))) * 8) ≤ 140737488355328) then
      if (cols ≤ (List.length colss)) then
        if (((cols + (List.length (List.take 1 (r1.2.1 :: [])))) * 8) ≤ 140737488355328) then
          Option.bind (Fsparse_eliminate k p r1.1 r1.2.1) fun r2 =>
          rec r2.1 (rows + (List.length (List.take 1 (r1.1 :: [])))) (cols + (List.length (List.take 1 (r1.2.1 :: [])))) ((List.take rows rowss) ++ (List.take 1 (r1.1 :: []))) ((List.take cols colss) ++ (List.take 1 (r1.2.1 :: [])))
        else
        none
      else
      none
    else
    none
  else
  none
def Lsparse_Order_0 (k n : Nat) : List (List Int) → Nat → Nat → List Int → List Int → Option (Nat × Nat × Int × List Int × List Int) := Nat.rec (fun _ _ _ _ _ => none) (fun _ r => Lsparse_Order_0s k r) n
def bsparse_Order (k : Nat) (p : List (List Int)) : Option (List Int × List Int × Int) :=
  Option.bind (Fsparse_Check k p) fun r =>
  if ((r != (0 : Int)) = true) then
    (some ([], [], r))
  else
  Option.bind (Lsparse_Order_0 k k p 0 0 [] []) fun r1 =>
  if ((0 + r1.1) ≤ (List.length r1.2.2.2.1)) then
    if ((0 + r1.2.1) ≤ (List.length r1.2.2.2.2)) then
      (some ((List.take r1.1 r1.2.2.2.1), (List.take r1.2.1 r1.2.2.2.2), r1.2.2.1))
    else
    none
  else
  none
def Fsparse_Order : Nat → List (List Int) → Option (List Int × List Int × Int)
  | 0, _ => none
  | k + 1, p => bsparse_Order k p
def shsparse_Order : FS := { vs := [.a (.lf (.sl (.sl (.int .i64))))], bs := [] }
def rssparse_Order : List FS := [{ vs := [.a (.lf (.sl (.int .i64))), .a (.lf (.sl (.int .i64))), .a (.lf (.int .i64))], bs := [] }]
def Isparse_Order (k : Nat) : Inst := ⟨19, shsparse_Order, rssparse_Order, fun x => Fsparse_Order k x⟩
theorem alsparse_Order (k : Nat) : AllI (call cf k) [Isparse_Check k, Isparse_best k, Isparse_eliminate k] := And.intro (oksparse_Check k) (And.intro (oksparse_best k) (And.intro (oksparse_eliminate k) (True.intro)))
def hssparse_Order_0 : List SS := [{ fr := [(0, .a (.lf (.sl (.sl (.int .i64))))), (6, .a (.smz 0)), (7, .a (.smz 1))], mem := [(0, some (.arr (.int .i64) 1 3 false)), (1, some (.arr (.int .i64) 1 3 false))], nx := 2 }]
def ossparse_Order_0 : List OS := [⟨none, { fr := [(2, .a (.smz 0)), (3, .a (.smz 1)), (4, .a (.lf (.int .i64)))], mem := [(0, some (.arr (.int .i64) 1 3 false)), (1, some (.arr (.int .i64) 1 3 false))], nx := 2 }⟩]
def LIsparse_Order_0 (k : Nat) : LInst := ⟨0, hssparse_Order_0, ossparse_Order_0, fun x => Lsparse_Order_0 k k x.1 x.2.1 x.2.2.1 x.2.2.2.1 x.2.2.2.2⟩
theorem ansparse_Order_0 (k : Nat) : LAll (LOk (R := DS OS.D ossparse_Order_0) (fun b _ σ K => LOt Ty (kps 19) 0 b σ K []) cf (call cf k) (kps 19) Try.f19.ntmps k 0) 0 (lb Try.f19 0) :=
  And.intro (True.intro) (And.intro (And.intro (True.intro) (And.intro (And.intro (True.intro) (True.intro)) (True.intro))) (And.intro (True.intro) (True.intro)))
theorem stsparse_Order_0 (k n : Nat) (x : DS SS.D hssparse_Order_0) : Lsparse_Order_0 k (n + 1) x.1 x.2.1 x.2.2.1 x.2.2.2.1 x.2.2.2.2 = encSK SS.enc (fun σ => run2 cf (fun f a b K => COt f a b K [Isparse_Check k, Isparse_best k, Isparse_eliminate k]) (fun b _ σ K => LOt Ty (kps 19) 0 b σ K []) Try.f19.ntmps 0 (lb Try.f19 0) σ (nextK Ty (kps 19 0) 0 hssparse_Order_0 ossparse_Order_0 fun x => Lsparse_Order_0 k n x.1 x.2.1 x.2.2.1 x.2.2.2.1 x.2.2.2.2)) hssparse_Order_0 x := by kernel_rfl
theorem losparse_Order_0 (k : Nat) : LIOk cf (call cf k) (kps 19) Try.f19.ntmps k 0 0 (lb Try.f19 0) (LIsparse_Order_0 k) :=
  loop_ok (c := cf) (callF := call cf k) (kp := kps 19) (nt := Try.f19.ntmps) (k := k) (p := 0) (b := 0) (x0 := lb Try.f19 0) (hs := hssparse_Order_0) (os := ossparse_Order_0) (COt_ok (alsparse_Order k)) (ansparse_Order_0 k) (fun n x => Lsparse_Order_0 k n x.1 x.2.1 x.2.2.1 x.2.2.2.1 x.2.2.2.2) (fun _ => rfl) (stsparse_Order_0 k)
theorem ansparse_Order (k : Nat) : LAll (LOk (R := DS FS.D rssparse_Order) (fun b _ σ K => LOt Ty (kps 19) 0 b σ K [LIsparse_Order_0 k]) cf (call cf k) (cf.keep 19) Try.f19.ntmps k shsparse_Order.bs.length) 0 (bd Try.f19) :=
  And.intro (True.intro) (And.intro (And.intro (True.intro) (And.intro (True.intro) (And.intro (And.intro (True.intro) (True.intro)) (True.intro)))) (And.intro (True.intro) (LOt_ok (c := cf) (callF := call cf k) (kp := kps 19) (nt := Try.f19.ntmps) (k := k) (p := 0) (b := 0) (x0 := lb Try.f19 0) (l := [LIsparse_Order_0 k]) (And.intro (fun _ => losparse_Order_0 k) (True.intro)))))
theorem stsparse_Order (k : Nat) (x : shsparse_Order.D) : Fsparse_Order (k + 1) x = body2 cf (fun f a b K => COt f a b K [Isparse_Check k, Isparse_best k, Isparse_eliminate k]) (fun b _ σ K => LOt Ty (kps 19) 0 b σ K [LIsparse_Order_0 k]) 19 Try.f19.ntmps Try.f19.results.toList (bd Try.f19) (shsparse_Order.enc x).1 (shsparse_Order.enc x).2 (putS FS.dec rssparse_Order) := by kernel_rfl
theorem oksparse_Order : ∀ k, InstOk (call cf k) (Isparse_Order k)
  | 0 => fun x y e => absurd (show (none : Option _) = some y from e) (by simp)
  | k + 1 => inst_ok (c := cf) (k := k) (f := 19) (fn := Try.f19) (body := bd Try.f19) (sh := shsparse_Order) (os := rssparse_Order) rfl Try.func19 rfl ⟨rfl, Nat.le_of_ble_eq_true rfl⟩ (COt_ok (alsparse_Order k)) (ansparse_Order k) (fun x => Fsparse_Order (k + 1) x) (stsparse_Order k)

/-! shunt/sparse.in -/
def bsparse_in (k : Nat) (p : List (List Int)) (row : Int) (col : Int) : Option (Bool) :=
  if ((decide (row ≥ (0 : Int))) = true) then
    if ((decide (row < (((List.length p) : Nat) : Int))) = true) then
      if ((0 : Int) ≤ row) then
        Option.bind (p)[(Int.toNat row)]? fun x5 =>
        Option.bind (Fslices_Contains_int_int_ k x5 col) fun r2 =>
        (some r2)
      else
      none
    else
    (some false)
  else
  (some false)
def Fsparse_in : Nat → List (List Int) → Int → Int → Option (Bool)
  | 0, _, _, _ => none
  | k + 1, p, row, col => bsparse_in k p row col
def shsparse_in : FS := { vs := [.a (.lf (.sl (.sl (.int .i64)))), .a (.lf (.int .i64)), .a (.lf (.int .i64))], bs := [] }
def rssparse_in : List FS := [{ vs := [.a (.lf .bool)], bs := [] }]
def Isparse_in (k : Nat) : Inst := ⟨30, shsparse_in, rssparse_in, fun x => Fsparse_in k x.1 x.2.1 x.2.2⟩
theorem alsparse_in (k : Nat) : AllI (call cf k) [Islices_Contains_int_int_ k] := And.intro (okslices_Contains_int_int_ k) (True.intro)
theorem ansparse_in (k : Nat) : LAll (LOk (R := DS FS.D rssparse_in) (fun b _ σ K => LOt Ty (kps 30) 0 b σ K []) cf (call cf k) (cf.keep 30) Try.f30.ntmps k shsparse_in.bs.length) 0 (bd Try.f30) :=
  And.intro (True.intro) (And.intro (True.intro) (True.intro))
theorem stsparse_in (k : Nat) (x : shsparse_in.D) : Fsparse_in (k + 1) x.1 x.2.1 x.2.2 = body2 cf (fun f a b K => COt f a b K [Islices_Contains_int_int_ k]) (fun b _ σ K => LOt Ty (kps 30) 0 b σ K []) 30 Try.f30.ntmps Try.f30.results.toList (bd Try.f30) (shsparse_in.enc x).1 (shsparse_in.enc x).2 (putS FS.dec rssparse_in) := by kernel_rfl
theorem oksparse_in : ∀ k, InstOk (call cf k) (Isparse_in k)
  | 0 => fun x y e => absurd (show (none : Option _) = some y from e) (by simp)
  | k + 1 => inst_ok (c := cf) (k := k) (f := 30) (fn := Try.f30) (body := bd Try.f30) (sh := shsparse_in) (os := rssparse_in) rfl Try.func30 rfl ⟨rfl, Nat.le_of_ble_eq_true rfl⟩ (COt_ok (alsparse_in k)) (ansparse_in k) (fun x => Fsparse_in (k + 1) x.1 x.2.1 x.2.2) (stsparse_in k)

/-! shunt/sparse.Fill -/
def Lsparse_Fill_0s (k : Nat) (rec : List (List Int) → List Int → Int → List Int → Int → Int → Option ((Int × Int) ⊕ (Int))) (p : List (List Int)) (cols : List Int) (all : Int) (x : List Int) (x1 : Int) (x2 : Int) : Option ((Int × Int) ⊕ (Int)) :=
  if ((decide (x2 < x1)) = true) then
    if ((0 : Int) ≤ x2) then
      Option.bind (x)[(Int.toNat x2)]? fun x3 =>
      if ((0 : Int) ≤ x2) then
        Option.bind (cols)[(Int.toNat x2)]? fun x4 =>
        Option.bind (Fsparse_in k p x3 x4) fun r2 =>
        if ((!r2) = true) then
          (some (Sum.inl ((0 : Int), (1 : Int))))
        else
        if ((0 : Int) ≤ x2) then
          Option.bind (cols)[(Int.toNat x2)]? fun x5 =>
          Option.bind (Fsparse_eliminate k p x3 x5) fun r3 =>
          rec r3.1 cols (IntKind.wrap .i64 (all + r3.2)) x x1 (IntKind.wrap .i64 (x2 + (1 : Int)))
        else
        none
      else
      none
    else
    none
  else
  (some (Sum.inr all))
def Lsparse_Fill_0 (k n : Nat) : List (List Int) → List Int → Int → List Int → Int → Int → Option ((Int × Int) ⊕ (Int)) := Nat.rec (fun _ _ _ _ _ _ => none) (fun _ r => Lsparse_Fill_0s k r) n
def bsparse_Fill (k : Nat) (p : List (List Int)) (rows : List Int) (cols : List Int) : Option (Int × Int) :=
  Option.bind (Fsparse_Check k p) fun r1 =>
  if ((r1 != (0 : Int)) = true) then
    (some ((0 : Int), r1))
  else
  if (((((List.length rows) : Nat) : Int) != (((List.length cols) : Nat) : Int)) = true) then
    (some ((0 : Int), (5 : Int)))
  else
  Option.bind (Lsparse_Fill_0 k k p cols (0 : Int) rows (((List.length rows) : Nat) : Int) (0 : Int)) fun r2 =>
  eitherK r2
    (fun r2 =>
    (some (r2.1, r2.2)))
    (fun r2 =>
    (some (r2, (0 : Int))))
def Fsparse_Fill : Nat → List (List Int) → List Int → List Int → Option (Int × Int)
  | 0, _, _, _ => none
  | k + 1, p, rows, cols => bsparse_Fill k p rows cols
def shsparse_Fill : FS := { vs := [.a (.lf (.sl (.sl (.int .i64)))), .a (.lf (.sl (.int .i64))), .a (.lf (.sl (.int .i64)))], bs := [] }
def rssparse_Fill : List FS := [{ vs := [.a (.lf (.int .i64)), .a (.lf (.int .i64))], bs := [] }]
def Isparse_Fill (k : Nat) : Inst := ⟨25, shsparse_Fill, rssparse_Fill, fun x => Fsparse_Fill k x.1 x.2.1 x.2.2⟩
theorem alsparse_Fill (k : Nat) : AllI (call cf k) [Isparse_Check k, Isparse_in k, Isparse_eliminate k] := And.intro (oksparse_Check k) (And.intro (oksparse_in k) (And.intro (oksparse_eliminate k) (True.intro)))
def hssparse_Fill_0 : List SS := [{ fr := [(0, .a (.lf (.sl (.sl (.int .i64))))), (2, .a (.lf (.sl (.int .i64)))), (9, .a (.lf (.int .i64))), (23, .a (.lf (.sl (.int .i64)))), (24, .a (.lf (.int .i64))), (25, .a (.lf (.int .i64)))], mem := [], nx := 0 }]
def ossparse_Fill_0 : List OS := [⟨none, { fr := [(6, .a (.lf (.int .i64))), (7, .a (.lf (.int .i64)))], mem := [], nx := 0 }⟩, ⟨some 0, { fr := [(9, .a (.lf (.int .i64)))], mem := [], nx := 0 }⟩]
def LIsparse_Fill_0 (k : Nat) : LInst := ⟨0, hssparse_Fill_0, ossparse_Fill_0, fun x => Lsparse_Fill_0 k k x.1 x.2.1 x.2.2.1 x.2.2.2.1 x.2.2.2.2.1 x.2.2.2.2.2⟩
theorem ansparse_Fill_0 (k : Nat) : LAll (LOk (R := DS OS.D ossparse_Fill_0) (fun b _ σ K => LOt Ty (kps 25) 0 b σ K []) cf (call cf k) (kps 25) Try.f25.ntmps k 0) 0 (lb Try.f25 0) :=
  And.intro (True.intro) (And.intro (And.intro (True.intro) (True.intro)) (And.intro (And.intro (True.intro) (And.intro (And.intro (True.intro) (And.intro (And.intro (True.intro) (True.intro)) (True.intro))) (And.intro (True.intro) (And.intro (True.intro) (True.intro))))) (True.intro)))
theorem stsparse_Fill_0 (k n : Nat) (x : DS SS.D hssparse_Fill_0) : Lsparse_Fill_0 k (n + 1) x.1 x.2.1 x.2.2.1 x.2.2.2.1 x.2.2.2.2.1 x.2.2.2.2.2 = encSK SS.enc (fun σ => run2 cf (fun f a b K => COt f a b K [Isparse_Check k, Isparse_in k, Isparse_eliminate k]) (fun b _ σ K => LOt Ty (kps 25) 0 b σ K []) Try.f25.ntmps 0 (lb Try.f25 0) σ (nextK Ty (kps 25 0) 0 hssparse_Fill_0 ossparse_Fill_0 fun x => Lsparse_Fill_0 k n x.1 x.2.1 x.2.2.1 x.2.2.2.1 x.2.2.2.2.1 x.2.2.2.2.2)) hssparse_Fill_0 x := by kernel_rfl
theorem losparse_Fill_0 (k : Nat) : LIOk cf (call cf k) (kps 25) Try.f25.ntmps k 0 0 (lb Try.f25 0) (LIsparse_Fill_0 k) :=
  loop_ok (c := cf) (callF := call cf k) (kp := kps 25) (nt := Try.f25.ntmps) (k := k) (p := 0) (b := 0) (x0 := lb Try.f25 0) (hs := hssparse_Fill_0) (os := ossparse_Fill_0) (COt_ok (alsparse_Fill k)) (ansparse_Fill_0 k) (fun n x => Lsparse_Fill_0 k n x.1 x.2.1 x.2.2.1 x.2.2.2.1 x.2.2.2.2.1 x.2.2.2.2.2) (fun _ => rfl) (stsparse_Fill_0 k)
theorem ansparse_Fill (k : Nat) : LAll (LOk (R := DS FS.D rssparse_Fill) (fun b _ σ K => LOt Ty (kps 25) 0 b σ K [LIsparse_Fill_0 k]) cf (call cf k) (cf.keep 25) Try.f25.ntmps k shsparse_Fill.bs.length) 0 (bd Try.f25) :=
  And.intro (True.intro) (And.intro (And.intro (True.intro) (And.intro (True.intro) (And.intro (And.intro (True.intro) (True.intro)) (True.intro)))) (And.intro (And.intro (True.intro) (And.intro (And.intro (True.intro) (True.intro)) (True.intro))) (And.intro (True.intro) (And.intro (And.intro (True.intro) (LOt_ok (c := cf) (callF := call cf k) (kp := kps 25) (nt := Try.f25.ntmps) (k := k) (p := 0) (b := 0) (x0 := lb Try.f25 0) (l := [LIsparse_Fill_0 k]) (And.intro (fun _ => losparse_Fill_0 k) (True.intro)))) (And.intro (True.intro) (True.intro))))))
theorem stsparse_Fill (k : Nat) (x : shsparse_Fill.D) : Fsparse_Fill (k + 1) x.1 x.2.1 x.2.2 = body2 cf (fun f a b K => COt f a b K [Isparse_Check k, Isparse_in k, Isparse_eliminate k]) (fun b _ σ K => LOt Ty (kps 25) 0 b σ K [LIsparse_Fill_0 k]) 25 Try.f25.ntmps Try.f25.results.toList (bd Try.f25) (shsparse_Fill.enc x).1 (shsparse_Fill.enc x).2 (putS FS.dec rssparse_Fill) := by kernel_rfl
theorem oksparse_Fill : ∀ k, InstOk (call cf k) (Isparse_Fill k)
  | 0 => fun x y e => absurd (show (none : Option _) = some y from e) (by simp)
  | k + 1 => inst_ok (c := cf) (k := k) (f := 25) (fn := Try.f25) (body := bd Try.f25) (sh := shsparse_Fill) (os := rssparse_Fill) rfl Try.func25 rfl ⟨rfl, Nat.le_of_ble_eq_true rfl⟩ (COt_ok (alsparse_Fill k)) (ansparse_Fill k) (fun x => Fsparse_Fill (k + 1) x.1 x.2.1 x.2.2) (stsparse_Fill k)

/-! shunt/sparse.Eliminate -/
def bsparse_Eliminate (k : Nat) (p : List (List Int)) (row : Int) (col : Int) : Option (List (List Int) × Int) :=
  Option.bind (Fsparse_Check k p) fun r2 =>
  if ((r2 != (0 : Int)) = true) then
    (some ([], r2))
  else
  Option.bind (Fsparse_in k p row col) fun r3 =>
  if ((!r3) = true) then
    (some ([], (1 : Int)))
  else
  Option.bind (Fsparse_eliminate k p row col) fun r4 =>
  (some (r4.1, (0 : Int)))
def Fsparse_Eliminate : Nat → List (List Int) → Int → Int → Option (List (List Int) × Int)
  | 0, _, _, _ => none
  | k + 1, p, row, col => bsparse_Eliminate k p row col
def shsparse_Eliminate : FS := { vs := [.a (.lf (.sl (.sl (.int .i64)))), .a (.lf (.int .i64)), .a (.lf (.int .i64))], bs := [] }
def rssparse_Eliminate : List FS := [{ vs := [.a (.lf (.sl (.sl (.int .i64)))), .a (.lf (.int .i64))], bs := [] }]
def Isparse_Eliminate (k : Nat) : Inst := ⟨17, shsparse_Eliminate, rssparse_Eliminate, fun x => Fsparse_Eliminate k x.1 x.2.1 x.2.2⟩
theorem alsparse_Eliminate (k : Nat) : AllI (call cf k) [Isparse_Check k, Isparse_in k, Isparse_eliminate k] := And.intro (oksparse_Check k) (And.intro (oksparse_in k) (And.intro (oksparse_eliminate k) (True.intro)))
theorem ansparse_Eliminate (k : Nat) : LAll (LOk (R := DS FS.D rssparse_Eliminate) (fun b _ σ K => LOt Ty (kps 17) 0 b σ K []) cf (call cf k) (cf.keep 17) Try.f17.ntmps k shsparse_Eliminate.bs.length) 0 (bd Try.f17) :=
  And.intro (True.intro) (And.intro (And.intro (True.intro) (And.intro (True.intro) (And.intro (And.intro (True.intro) (True.intro)) (True.intro)))) (And.intro (And.intro (True.intro) (And.intro (And.intro (True.intro) (True.intro)) (True.intro))) (And.intro (True.intro) (And.intro (True.intro) (True.intro)))))
theorem stsparse_Eliminate (k : Nat) (x : shsparse_Eliminate.D) : Fsparse_Eliminate (k + 1) x.1 x.2.1 x.2.2 = body2 cf (fun f a b K => COt f a b K [Isparse_Check k, Isparse_in k, Isparse_eliminate k]) (fun b _ σ K => LOt Ty (kps 17) 0 b σ K []) 17 Try.f17.ntmps Try.f17.results.toList (bd Try.f17) (shsparse_Eliminate.enc x).1 (shsparse_Eliminate.enc x).2 (putS FS.dec rssparse_Eliminate) := by kernel_rfl
theorem oksparse_Eliminate : ∀ k, InstOk (call cf k) (Isparse_Eliminate k)
  | 0 => fun x y e => absurd (show (none : Option _) = some y from e) (by simp)
  | k + 1 => inst_ok (c := cf) (k := k) (f := 17) (fn := Try.f17) (body := bd Try.f17) (sh := shsparse_Eliminate) (os := rssparse_Eliminate) rfl Try.func17 rfl ⟨rfl, Nat.le_of_ble_eq_true rfl⟩ (COt_ok (alsparse_Eliminate k)) (ansparse_Eliminate k) (fun x => Fsparse_Eliminate (k + 1) x.1 x.2.1 x.2.2) (stsparse_Eliminate k)

/-! shunt/sparse.Best -/
def bsparse_Best (k : Nat) (p : List (List Int)) : Option (Int × Int × Bool × Int) :=
  Option.bind (Fsparse_Check k p) fun r3 =>
  if ((r3 != (0 : Int)) = true) then
    (some ((0 : Int), (0 : Int), false, r3))
  else
  Option.bind (Fsparse_best k p) fun r4 =>
  (some (r4.1, r4.2.1, r4.2.2, (0 : Int)))
def Fsparse_Best : Nat → List (List Int) → Option (Int × Int × Bool × Int)
  | 0, _ => none
  | k + 1, p => bsparse_Best k p
def shsparse_Best : FS := { vs := [.a (.lf (.sl (.sl (.int .i64))))], bs := [] }
def rssparse_Best : List FS := [{ vs := [.a (.lf (.int .i64)), .a (.lf (.int .i64)), .a (.lf .bool), .a (.lf (.int .i64))], bs := [] }]
def Isparse_Best (k : Nat) : Inst := ⟨15, shsparse_Best, rssparse_Best, fun x => Fsparse_Best k x⟩
theorem alsparse_Best (k : Nat) : AllI (call cf k) [Isparse_Check k, Isparse_best k] := And.intro (oksparse_Check k) (And.intro (oksparse_best k) (True.intro))
theorem ansparse_Best (k : Nat) : LAll (LOk (R := DS FS.D rssparse_Best) (fun b _ σ K => LOt Ty (kps 15) 0 b σ K []) cf (call cf k) (cf.keep 15) Try.f15.ntmps k shsparse_Best.bs.length) 0 (bd Try.f15) :=
  And.intro (True.intro) (And.intro (And.intro (True.intro) (And.intro (True.intro) (And.intro (And.intro (True.intro) (True.intro)) (True.intro)))) (And.intro (True.intro) (And.intro (True.intro) (True.intro))))
theorem stsparse_Best (k : Nat) (x : shsparse_Best.D) : Fsparse_Best (k + 1) x = body2 cf (fun f a b K => COt f a b K [Isparse_Check k, Isparse_best k]) (fun b _ σ K => LOt Ty (kps 15) 0 b σ K []) 15 Try.f15.ntmps Try.f15.results.toList (bd Try.f15) (shsparse_Best.enc x).1 (shsparse_Best.enc x).2 (putS FS.dec rssparse_Best) := by kernel_rfl
theorem oksparse_Best : ∀ k, InstOk (call cf k) (Isparse_Best k)
  | 0 => fun x y e => absurd (show (none : Option _) = some y from e) (by simp)
  | k + 1 => inst_ok (c := cf) (k := k) (f := 15) (fn := Try.f15) (body := bd Try.f15) (sh := shsparse_Best) (os := rssparse_Best) rfl Try.func15 rfl ⟨rfl, Nat.le_of_ble_eq_true rfl⟩ (COt_ok (alsparse_Best k)) (ansparse_Best k) (fun x => Fsparse_Best (k + 1) x) (stsparse_Best k)

/-! shunt/sparse.Cost -/
def bsparse_Cost (k : Nat) (p : List (List Int)) (row : Int) (col : Int) : Option (Int × Int) :=
  Option.bind (Fsparse_Check k p) fun r4 =>
  if ((r4 != (0 : Int)) = true) then
    (some ((0 : Int), r4))
  else
  Option.bind (Fsparse_in k p row col) fun r5 =>
  if ((!r5) = true) then
    (some ((0 : Int), (1 : Int)))
  else
  if ((0 : Int) ≤ row) then
    Option.bind (p)[(Int.toNat row)]? fun x =>
    Option.bind (Fsparse_counts k p) fun r6 =>
    if (((0 : Int) ≤ col) ∧ (col < ((r6.1 : Nat) : Int))) then
      Option.bind (r6.2)[(0 + (Int.toNat col))]? fun x1 =>
      (some ((IntKind.wrap .i64 ((IntKind.wrap .i64 ((((List.length x) : Nat) : Int) - (1 : Int))) * (IntKind.wrap .i64 (x1 - (1 : Int))))), (0 : Int)))
    else
    none
  else
  none
def Fsparse_Cost : Nat → List (List Int) → Int → Int → Option (Int × Int)
  | 0, _, _, _ => none
  | k + 1, p, row, col => bsparse_Cost k p row col
def shsparse_Cost : FS := { vs := [.a (.lf (.sl (.sl (.int .i64)))), .a (.lf (.int .i64)), .a (.lf (.int .i64))], bs := [] }
def rssparse_Cost : List FS := [{ vs := [.a (.lf (.int .i64)), .a (.lf (.int .i64))], bs := [] }]
def Isparse_Cost (k : Nat) : Inst := ⟨13, shsparse_Cost, rssparse_Cost, fun x => Fsparse_Cost k x.1 x.2.1 x.2.2⟩
theorem alsparse_Cost (k : Nat) : AllI (call cf k) [Isparse_Check k, Isparse_in k, Isparse_counts k] := And.intro (oksparse_Check k) (And.intro (oksparse_in k) (And.intro (oksparse_counts k) (True.intro)))
theorem ansparse_Cost (k : Nat) : LAll (LOk (R := DS FS.D rssparse_Cost) (fun b _ σ K => LOt Ty (kps 13) 0 b σ K []) cf (call cf k) (cf.keep 13) Try.f13.ntmps k shsparse_Cost.bs.length) 0 (bd Try.f13) :=
  And.intro (True.intro) (And.intro (And.intro (True.intro) (And.intro (True.intro) (And.intro (And.intro (True.intro) (True.intro)) (True.intro)))) (And.intro (And.intro (True.intro) (And.intro (And.intro (True.intro) (True.intro)) (True.intro))) (And.intro (True.intro) (True.intro))))
theorem stsparse_Cost (k : Nat) (x : shsparse_Cost.D) : Fsparse_Cost (k + 1) x.1 x.2.1 x.2.2 = body2 cf (fun f a b K => COt f a b K [Isparse_Check k, Isparse_in k, Isparse_counts k]) (fun b _ σ K => LOt Ty (kps 13) 0 b σ K []) 13 Try.f13.ntmps Try.f13.results.toList (bd Try.f13) (shsparse_Cost.enc x).1 (shsparse_Cost.enc x).2 (putS FS.dec rssparse_Cost) := by kernel_rfl
theorem oksparse_Cost : ∀ k, InstOk (call cf k) (Isparse_Cost k)
  | 0 => fun x y e => absurd (show (none : Option _) = some y from e) (by simp)
  | k + 1 => inst_ok (c := cf) (k := k) (f := 13) (fn := Try.f13) (body := bd Try.f13) (sh := shsparse_Cost) (os := rssparse_Cost) rfl Try.func13 rfl ⟨rfl, Nat.le_of_ble_eq_true rfl⟩ (COt_ok (alsparse_Cost k)) (ansparse_Cost k) (fun x => Fsparse_Cost (k + 1) x.1 x.2.1 x.2.2) (stsparse_Cost k)

/-! shunt/shuntref09.Ints -/
def Lshuntref09_Ints_0s (k : Nat) (rec : List Int → List Int → Int → Option ((Bool) ⊕ (Unit))) (a : List Int) (b : List Int) (i : Int) : Option ((Bool) ⊕ (Unit)) :=
  if ((decide (i < (((List.length a) : Nat) : Int))) = true) then
    if ((0 : Int) ≤ i) then
      Option.bind (a)[(Int.toNat i)]? fun x =>
      if ((0 : Int) ≤ i) then
        Option.bind (b)[(Int.toNat i)]? fun x1 =>
        if ((x != x1) = true) then
          (some (Sum.inl false))
        else
        rec a b (IntKind.wrap .i64 (i + (1 : Int)))
      else
      none
    else
    none
  else
  (some (Sum.inr ()))
def Lshuntref09_Ints_0 (k n : Nat) : List Int → List Int → Int → Option ((Bool) ⊕ (Unit)) := Nat.rec (fun _ _ _ => none) (fun _ r => Lshuntref09_Ints_0s k r) n
def bshuntref09_Ints (k : Nat) (a : List Int) (b : List Int) : Option (Bool) :=
  if (((((List.length a) : Nat) : Int) != (((List.length b) : Nat) : Int)) = true) then
    (some false)
  else
  Option.bind (Lshuntref09_Ints_0 k k a b (0 : Int)) fun r5 =>
  eitherK r5
    (fun r5 =>
    (some r5))
    (fun r5 =>
    (some true))
def Fshuntref09_Ints : Nat → List Int → List Int → Option (Bool)
  | 0, _, _ => none
  | k + 1, a, b => bshuntref09_Ints k a b
def shshuntref09_Ints : FS := { vs := [.a (.lf (.sl (.int .i64))), .a (.lf (.sl (.int .i64)))], bs := [] }
def rsshuntref09_Ints : List FS := [{ vs := [.a (.lf .bool)], bs := [] }]
def Ishuntref09_Ints (k : Nat) : Inst := ⟨22, shshuntref09_Ints, rsshuntref09_Ints, fun x => Fshuntref09_Ints k x.1 x.2⟩
theorem alshuntref09_Ints (k : Nat) : AllI (call cf k) [] := True.intro
def hsshuntref09_Ints_0 : List SS := [{ fr := [(0, .a (.lf (.sl (.int .i64)))), (1, .a (.lf (.sl (.int .i64)))), (5, .a (.lf (.int .i64)))], mem := [], nx := 0 }]
def osshuntref09_Ints_0 : List OS := [⟨none, { fr := [(4, .a (.lf .bool))], mem := [], nx := 0 }⟩, ⟨some 0, { fr := [], mem := [], nx := 0 }⟩]
def LIshuntref09_Ints_0 (k : Nat) : LInst := ⟨0, hsshuntref09_Ints_0, osshuntref09_Ints_0, fun x => Lshuntref09_Ints_0 k k x.1 x.2.1 x.2.2⟩
theorem anshuntref09_Ints_0 (k : Nat) : LAll (LOk (R := DS OS.D osshuntref09_Ints_0) (fun b _ σ K => LOt Ty (kps 22) 0 b σ K []) cf (call cf k) (kps 22) Try.f22.ntmps k 0) 0 (lb Try.f22 0) :=
  And.intro (And.intro (True.intro) (And.intro (True.intro) (True.intro))) (And.intro (And.intro (True.intro) (And.intro (And.intro (True.intro) (True.intro)) (True.intro))) (True.intro))
theorem stshuntref09_Ints_0 (k n : Nat) (x : DS SS.D hsshuntref09_Ints_0) : Lshuntref09_Ints_0 k (n + 1) x.1 x.2.1 x.2.2 = encSK SS.enc (fun σ => run2 cf (fun f a b K => COt f a b K []) (fun b _ σ K => LOt Ty (kps 22) 0 b σ K []) Try.f22.ntmps 0 (lb Try.f22 0) σ (nextK Ty (kps 22 0) 0 hsshuntref09_Ints_0 osshuntref09_Ints_0 fun x => Lshuntref09_Ints_0 k n x.1 x.2.1 x.2.2)) hsshuntref09_Ints_0 x := by kernel_rfl
theorem loshuntref09_Ints_0 (k : Nat) : LIOk cf (call cf k) (kps 22) Try.f22.ntmps k 0 0 (lb Try.f22 0) (LIshuntref09_Ints_0 k) :=
  loop_ok (c := cf) (callF := call cf k) (kp := kps 22) (nt := Try.f22.ntmps) (k := k) (p := 0) (b := 0) (x0 := lb Try.f22 0) (hs := hsshuntref09_Ints_0) (os := osshuntref09_Ints_0) (COt_ok (alshuntref09_Ints k)) (anshuntref09_Ints_0 k) (fun n x => Lshuntref09_Ints_0 k n x.1 x.2.1 x.2.2) (fun _ => rfl) (stshuntref09_Ints_0 k)
theorem anshuntref09_Ints (k : Nat) : LAll (LOk (R := DS FS.D rsshuntref09_Ints) (fun b _ σ K => LOt Ty (kps 22) 0 b σ K [LIshuntref09_Ints_0 k]) cf (call cf k) (cf.keep 22) Try.f22.ntmps k shshuntref09_Ints.bs.length) 0 (bd Try.f22) :=
  And.intro (True.intro) (And.intro (And.intro (True.intro) (And.intro (And.intro (True.intro) (True.intro)) (True.intro))) (And.intro (And.intro (True.intro) (LOt_ok (c := cf) (callF := call cf k) (kp := kps 22) (nt := Try.f22.ntmps) (k := k) (p := 0) (b := 0) (x0 := lb Try.f22 0) (l := [LIshuntref09_Ints_0 k]) (And.intro (fun _ => loshuntref09_Ints_0 k) (True.intro)))) (And.intro (True.intro) (True.intro))))
theorem stshuntref09_Ints (k : Nat) (x : shshuntref09_Ints.D) : Fshuntref09_Ints (k + 1) x.1 x.2 = body2 cf (fun f a b K => COt f a b K []) (fun b _ σ K => LOt Ty (kps 22) 0 b σ K [LIshuntref09_Ints_0 k]) 22 Try.f22.ntmps Try.f22.results.toList (bd Try.f22) (shshuntref09_Ints.enc x).1 (shshuntref09_Ints.enc x).2 (putS FS.dec rsshuntref09_Ints) := by kernel_rfl
theorem okshuntref09_Ints : ∀ k, InstOk (call cf k) (Ishuntref09_Ints k)
  | 0 => fun x y e => absurd (show (none : Option _) = some y from e) (by simp)
  | k + 1 => inst_ok (c := cf) (k := k) (f := 22) (fn := Try.f22) (body := bd Try.f22) (sh := shshuntref09_Ints) (os := rsshuntref09_Ints) rfl Try.func22 rfl ⟨rfl, Nat.le_of_ble_eq_true rfl⟩ (COt_ok (alshuntref09_Ints k)) (anshuntref09_Ints k) (fun x => Fshuntref09_Ints (k + 1) x.1 x.2) (stshuntref09_Ints k)

/-! shunt/shuntref13.Same -/
def Lshuntref13_Same_2s (k : Nat) (rec : List (List Int) → List (List Int) → Int → Int → Option ((Bool) ⊕ (List (List Int) × List (List Int) × Int))) (a : List (List Int)) (b : List (List Int)) (i : Int) (k1 : Int) : Option ((Bool) ⊕ (List (List Int) × List (List Int) × Int)) :=
  if ((0 : Int) ≤ i) then
    Option.bind (a)[(Int.toNat i)]? fun x2 =>
    if ((decide (k1 < (((List.length x2) : Nat) : Int))) = true) then
      if ((0 : Int) ≤ i) then
        Option.bind (a)[(Int.toNat i)]? fun x3 =>
        if ((0 : Int) ≤ k1) then
          Option.bind (x3)[(Int.toNat k1)]? fun x4 =>
          if ((0 : Int) ≤ i) then
            Option.bind (b)[(Int.toNat i)]? fun x5 =>
            if ((0 : Int) ≤ k1) then
              Option.bind (x5)[(Int.toNat k1)]? fun x6 =>
              if ((x4 != x6) = true) then
                (some (Sum.inl false))
              else
              rec a b i (IntKind.wrap .i64 (k1 + (1 : Int)))
            else
            none
          else
          none
        else
        none
      else
      none
    else
    (some (Sum.inr (a, b, i)))
  else
  none
def Lshuntref13_Same_2 (k n : Nat) : List (List Int) → List (List Int) → Int → Int → Option ((Bool) ⊕ (List (List Int) × List (List Int) × Int)) := Nat.rec (fun _ _ _ _ => none) (fun _ r => Lshuntref13_Same_2s k r) n
def Lshuntref13_Same_0s (k : Nat) (rec : List (List Int) → List (List Int) → Int → Option ((Bool) ⊕ (Unit))) (a : List (List Int)) (b : List (List Int)) (i : Int) : Option ((Bool) ⊕ (Unit)) :=
  if ((decide (i < (((List.length a) : Nat) : Int))) = true) then
    if ((0 : Int) ≤ i) then
      Option.bind (a)[(Int.toNat i)]? fun x =>
      if ((0 : Int) ≤ i) then
        Option.bind (b)[(Int.toNat i)]? fun x1 =>
        if (((((List.length x) : Nat) : Int) != (((List.length x1) : Nat) : Int)) = true) then
          (some (Sum.inl false))
        else
        Option.bind (Lshuntref13_Same_2 k k a b i (0 : Int)) fun r7 =>
        eitherK r7
          (fun r7 =>
          (some (Sum.inl r7)))
          (fun r7 =>
          rec r7.1 r7.2.1 (IntKind.wrap .i64 (r7.2.2 + (1 : Int))))
      else
      none
    else
    none
  else
  (some (Sum.inr ()))
def Lshuntref13_Same_0 (k n : Nat) : List (List Int) → List (List Int) → Int → Option ((Bool) ⊕ (Unit)) := Nat.rec (fun _ _ _ => none) (fun _ r => Lshuntref13_Same_0s k r) n
def bshuntref13_Same (k : Nat) (a : List (List Int)) (b : List (List Int)) : Option (Bool) :=
  if (((((List.length a) : Nat) : Int) != (((List.length b) : Nat) : Int)) = true) then
    (some false)
  else
  Option.bind (Lshuntref13_Same_0 k k a b (0 : Int)) fun r7 =>
  eitherK r7
    (fun r7 =>
    (some r7))
    (fun r7 =>
    (some true))
def Fshuntref13_Same : Nat → List (List Int) → List (List Int) → Option (Bool)
  | 0, _, _ => none
  | k + 1, a, b => bshuntref13_Same k a b
def shshuntref13_Same : FS := { vs := [.a (.lf (.sl (.sl (.int .i64)))), .a (.lf (.sl (.sl (.int .i64))))], bs := [] }
def rsshuntref13_Same : List FS := [{ vs := [.a (.lf .bool)], bs := [] }]
def Ishuntref13_Same (k : Nat) : Inst := ⟨21, shshuntref13_Same, rsshuntref13_Same, fun x => Fshuntref13_Same k x.1 x.2⟩
theorem alshuntref13_Same (k : Nat) : AllI (call cf k) [] := True.intro
def hsshuntref13_Same_2 : List SS := [{ fr := [(0, .a (.lf (.sl (.sl (.int .i64))))), (1, .a (.lf (.sl (.sl (.int .i64))))), (5, .a (.lf (.int .i64))), (6, .a (.lf (.int .i64)))], mem := [], nx := 0 }]
def osshuntref13_Same_2 : List OS := [⟨none, { fr := [(4, .a (.lf .bool))], mem := [], nx := 0 }⟩, ⟨some 2, { fr := [(0, .a (.lf (.sl (.sl (.int .i64))))), (1, .a (.lf (.sl (.sl (.int .i64))))), (5, .a (.lf (.int .i64)))], mem := [], nx := 0 }⟩]
def LIshuntref13_Same_2 (k : Nat) : LInst := ⟨2, hsshuntref13_Same_2, osshuntref13_Same_2, fun x => Lshuntref13_Same_2 k k x.1 x.2.1 x.2.2.1 x.2.2.2⟩
theorem anshuntref13_Same_2 (k : Nat) : LAll (LOk (R := DS OS.D osshuntref13_Same_2) (fun b _ σ K => LOt Ty (kps 21) 0 b σ K []) cf (call cf k) (kps 21) Try.f21.ntmps k 0) 2 (lb Try.f21 1) :=
  And.intro (And.intro (True.intro) (And.intro (True.intro) (True.intro))) (And.intro (And.intro (True.intro) (And.intro (And.intro (True.intro) (True.intro)) (True.intro))) (True.intro))
theorem stshuntref13_Same_2 (k n : Nat) (x : DS SS.D hsshuntref13_Same_2) : Lshuntref13_Same_2 k (n + 1) x.1 x.2.1 x.2.2.1 x.2.2.2 = encSK SS.enc (fun σ => run2 cf (fun f a b K => COt f a b K []) (fun b _ σ K => LOt Ty (kps 21) 0 b σ K []) Try.f21.ntmps 2 (lb Try.f21 1) σ (nextK Ty (kps 21 2) 0 hsshuntref13_Same_2 osshuntref13_Same_2 fun x => Lshuntref13_Same_2 k n x.1 x.2.1 x.2.2.1 x.2.2.2)) hsshuntref13_Same_2 x := by kernel_rfl
theorem loshuntref13_Same_2 (k : Nat) : LIOk cf (call cf k) (kps 21) Try.f21.ntmps k 0 2 (lb Try.f21 1) (LIshuntref13_Same_2 k) :=
  loop_ok (c := cf) (callF := call cf k) (kp := kps 21) (nt := Try.f21.ntmps) (k := k) (p := 0) (b := 2) (x0 := lb Try.f21 1) (hs := hsshuntref13_Same_2) (os := osshuntref13_Same_2) (COt_ok (alshuntref13_Same k)) (anshuntref13_Same_2 k) (fun n x => Lshuntref13_Same_2 k n x.1 x.2.1 x.2.2.1 x.2.2.2) (fun _ => rfl) (stshuntref13_Same_2 k)
def hsshuntref13_Same_0 : List SS := [{ fr := [(0, .a (.lf (.sl (.sl (.int .i64))))), (1, .a (.lf (.sl (.sl (.int .i64))))), (5, .a (.lf (.int .i64)))], mem := [], nx := 0 }]
def osshuntref13_Same_0 : List OS := [⟨none, { fr := [(4, .a (.lf .bool))], mem := [], nx := 0 }⟩, ⟨some 0, { fr := [], mem := [], nx := 0 }⟩]
def LIshuntref13_Same_0 (k : Nat) : LInst := ⟨0, hsshuntref13_Same_0, osshuntref13_Same_0, fun x => Lshuntref13_Same_0 k k x.1 x.2.1 x.2.2⟩
theorem anshuntref13_Same_0 (k : Nat) : LAll (LOk (R := DS OS.D osshuntref13_Same_0) (fun b _ σ K => LOt Ty (kps 21) 0 b σ K [LIshuntref13_Same_2 k]) cf (call cf k) (kps 21) Try.f21.ntmps k 0) 0 (lb Try.f21 0) :=
  And.intro (And.intro (True.intro) (And.intro (True.intro) (True.intro))) (And.intro (And.intro (And.intro (True.intro) (And.intro (And.intro (True.intro) (True.intro)) (True.intro))) (And.intro (True.intro) (LOt_ok (c := cf) (callF := call cf k) (kp := kps 21) (nt := Try.f21.ntmps) (k := k) (p := 0) (b := 2) (x0 := lb Try.f21 1) (l := [LIshuntref13_Same_2 k]) (And.intro (fun _ => loshuntref13_Same_2 k) (True.intro))))) (True.intro))
theorem stshuntref13_Same_0 (k n : Nat) (x : DS SS.D hsshuntref13_Same_0) : Lshuntref13_Same_0 k (n + 1) x.1 x.2.1 x.2.2 = encSK SS.enc (fun σ => run2 cf (fun f a b K => COt f a b K []) (fun b _ σ K => LOt Ty (kps 21) 0 b σ K [LIshuntref13_Same_2 k]) Try.f21.ntmps 0 (lb Try.f21 0) σ (nextK Ty (kps 21 0) 0 hsshuntref13_Same_0 osshuntref13_Same_0 fun x => Lshuntref13_Same_0 k n x.1 x.2.1 x.2.2)) hsshuntref13_Same_0 x := by kernel_rfl
theorem loshuntref13_Same_0 (k : Nat) : LIOk cf (call cf k) (kps 21) Try.f21.ntmps k 0 0 (lb Try.f21 0) (LIshuntref13_Same_0 k) :=
  loop_ok (c := cf) (callF := call cf k) (kp := kps 21) (nt := Try.f21.ntmps) (k := k) (p := 0) (b := 0) (x0 := lb Try.f21 0) (hs := hsshuntref13_Same_0) (os := osshuntref13_Same_0) (COt_ok (alshuntref13_Same k)) (anshuntref13_Same_0 k) (fun n x => Lshuntref13_Same_0 k n x.1 x.2.1 x.2.2) (fun _ => rfl) (stshuntref13_Same_0 k)
theorem anshuntref13_Same (k : Nat) : LAll (LOk (R := DS FS.D rsshuntref13_Same) (fun b _ σ K => LOt Ty (kps 21) 0 b σ K [LIshuntref13_Same_2 k, LIshuntref13_Same_0 k]) cf (call cf k) (cf.keep 21) Try.f21.ntmps k shshuntref13_Same.bs.length) 0 (bd Try.f21) :=
  And.intro (True.intro) (And.intro (And.intro (True.intro) (And.intro (And.intro (True.intro) (True.intro)) (True.intro))) (And.intro (And.intro (True.intro) (LOt_ok (c := cf) (callF := call cf k) (kp := kps 21) (nt := Try.f21.ntmps) (k := k) (p := 0) (b := 0) (x0 := lb Try.f21 0) (l := [LIshuntref13_Same_2 k, LIshuntref13_Same_0 k]) (And.intro (fun h => absurd (show (2 : Nat) = 0 from h) (by decide)) (And.intro (fun _ => loshuntref13_Same_0 k) (True.intro))))) (And.intro (True.intro) (True.intro))))
theorem stshuntref13_Same (k : Nat) (x : shshuntref13_Same.D) : Fshuntref13_Same (k + 1) x.1 x.2 = body2 cf (fun f a b K => COt f a b K []) (fun b _ σ K => LOt Ty (kps 21) 0 b σ K [LIshuntref13_Same_2 k, LIshuntref13_Same_0 k]) 21 Try.f21.ntmps Try.f21.results.toList (bd Try.f21) (shshuntref13_Same.enc x).1 (shshuntref13_Same.enc x).2 (putS FS.dec rsshuntref13_Same) := by kernel_rfl
theorem okshuntref13_Same : ∀ k, InstOk (call cf k) (Ishuntref13_Same k)
  | 0 => fun x y e => absurd (show (none : Option _) = some y from e) (by simp)
  | k + 1 => inst_ok (c := cf) (k := k) (f := 21) (fn := Try.f21) (body := bd Try.f21) (sh := shshuntref13_Same) (os := rsshuntref13_Same) rfl Try.func21 rfl ⟨rfl, Nat.le_of_ble_eq_true rfl⟩ (COt_ok (alshuntref13_Same k)) (anshuntref13_Same k) (fun x => Fshuntref13_Same (k + 1) x.1 x.2) (stshuntref13_Same k)

/-! shunt/shuntlaw13.awake -/
def bshuntlaw13_awake (k : Nat) : Option (Bool) :=
  Option.bind (Fsparse_Order k (List.take 3 ((List.take 3 ((0 : Int) :: ((1 : Int) :: ((2 : Int) :: [])))) :: ((List.take 2 ((0 : Int) :: ((1 : Int) :: []))) :: ((List.take 2 ((0 : Int) :: ((2 : Int) :: []))) :: []))))) fun r =>
  Option.bind (Fsparse_Fill k (List.take 3 ((List.take 3 ((0 : Int) :: ((1 : Int) :: ((2 : Int) :: [])))) :: ((List.take 2 ((0 : Int) :: ((1 : Int) :: []))) :: ((List.take 2 ((0 : Int) :: ((2 : Int) :: []))) :: [])))) (List.take 3 ((0 : Int) :: ((1 : Int) :: ((2 : Int) :: [])))) (List.take 3 ((0 : Int) :: ((1 : Int) :: ((2 : Int) :: []))))) fun r1 =>
  Option.bind (Fsparse_Eliminate k (List.take 3 ((List.take 3 ((0 : Int) :: ((1 : Int) :: ((2 : Int) :: [])))) :: ((List.take 2 ((0 : Int) :: ((1 : Int) :: []))) :: ((List.take 2 ((0 : Int) :: ((2 : Int) :: []))) :: [])))) (1 : Int) (1 : Int)) fun r2 =>
  Option.bind (Fsparse_Best k (List.take 3 ((List.take 3 ((0 : Int) :: ((1 : Int) :: ((2 : Int) :: [])))) :: ((List.take 2 ((0 : Int) :: ((1 : Int) :: []))) :: ((List.take 2 ((0 : Int) :: ((2 : Int) :: []))) :: []))))) fun r3 =>
  Option.bind (Fsparse_Cost k (List.take 3 ((List.take 3 ((0 : Int) :: ((1 : Int) :: ((2 : Int) :: [])))) :: ((List.take 2 ((0 : Int) :: ((1 : Int) :: []))) :: ((List.take 2 ((0 : Int) :: ((2 : Int) :: []))) :: [])))) (0 : Int) (0 : Int)) fun r4 =>
  if ((r.2.2 == (0 : Int)) = true) then
    if ((r1.2 == (0 : Int)) = true) then
      if ((r2.2 == (0 : Int)) = true) then
        if ((r3.2.2.2 == (0 : Int)) = true) then
          if ((r4.2 == (0 : Int)) = true) then
            if (r3.2.2.1 = true) then
              if ((r3.1 == (1 : Int)) = true) then
                if ((r3.2.1 == (1 : Int)) = true) then
                  if ((r4.1 == (4 : Int)) = true) then
                    if ((r1.1 == (2 : Int)) = true) then
                      Option.bind (Fshuntref09_Ints k r.1 (List.take 3 ((1 : Int) :: ((0 : Int) :: ((2 : Int) :: []))))) fun r5 =>
                      if (r5 = true) then
                        Option.bind (Fshuntref09_Ints k r.2.1 r.1) fun r6 =>
                        if (r6 = true) then
                          Option.bind (Fshuntref13_Same k r2.1 (List.take 3 ((List.take 2 ((0 : Int) :: ((2 : Int) :: []))) :: ([] :: ((List.take 2 ((0 : Int) :: ((2 : Int) :: []))) :: []))))) fun r7 =>
                          if (r7 = true) then
                            Option.bind (Fsparse_Check k (List.take 1 ((List.take 1 ((1 : Int) :: [])) :: []))) fun r8 =>
                            (some (r8 == (130 : Int)))
                          else
                          (some false)
                        else
                        (some false)
                      else
                      (some false)
                    else
                    (some false)
                  else
                  (some false)
                else
                (some false)
              else
              (some false)
            else
            (some false)
          else
          (some false)
        else
        (some false)
      else
      (some false)
    else
    (some false)
  else
  (some false)
def Fshuntlaw13_awake : Nat → Option (Bool)
  | 0 => none
  | k + 1 => bshuntlaw13_awake k
def shshuntlaw13_awake : FS := { vs := [], bs := [] }
def rsshuntlaw13_awake : List FS := [{ vs := [.a (.lf .bool)], bs := [] }]
def Ishuntlaw13_awake (k : Nat) : Inst := ⟨10, shshuntlaw13_awake, rsshuntlaw13_awake, fun x => Fshuntlaw13_awake k⟩
theorem alshuntlaw13_awake (k : Nat) : AllI (call cf k) [Isparse_Order k, Isparse_Fill k, Isparse_Eliminate k, Isparse_Best k, Isparse_Cost k, Ishuntref09_Ints k, Ishuntref13_Same k, Isparse_Check k] := And.intro (oksparse_Order k) (And.intro (oksparse_Fill k) (And.intro (oksparse_Eliminate k) (And.intro (oksparse_Best k) (And.intro (oksparse_Cost k) (And.intro (okshuntref09_Ints k) (And.intro (okshuntref13_Same k) (And.intro (oksparse_Check k) (True.intro))))))))
theorem anshuntlaw13_awake (k : Nat) : LAll (LOk (R := DS FS.D rsshuntlaw13_awake) (fun b _ σ K => LOt Ty (kps 10) 0 b σ K []) cf (call cf k) (cf.keep 10) Try.f10.ntmps k shshuntlaw13_awake.bs.length) 0 (bd Try.f10) :=
  And.intro (True.intro) (And.intro (True.intro) (And.intro (True.intro) (And.intro (True.intro) (And.intro (True.intro) (And.intro (True.intro) (And.intro (True.intro) (And.intro (True.intro) (True.intro))))))))
theorem stshuntlaw13_awake (k : Nat) (x : shshuntlaw13_awake.D) : Fshuntlaw13_awake (k + 1) = body2 cf (fun f a b K => COt f a b K [Isparse_Order k, Isparse_Fill k, Isparse_Eliminate k, Isparse_Best k, Isparse_Cost k, Ishuntref09_Ints k, Ishuntref13_Same k, Isparse_Check k]) (fun b _ σ K => LOt Ty (kps 10) 0 b σ K []) 10 Try.f10.ntmps Try.f10.results.toList (bd Try.f10) (shshuntlaw13_awake.enc x).1 (shshuntlaw13_awake.enc x).2 (putS FS.dec rsshuntlaw13_awake) := by kernel_rfl
theorem okshuntlaw13_awake : ∀ k, InstOk (call cf k) (Ishuntlaw13_awake k)
  | 0 => fun x y e => absurd (show (none : Option _) = some y from e) (by simp)
  | k + 1 => inst_ok (c := cf) (k := k) (f := 10) (fn := Try.f10) (body := bd Try.f10) (sh := shshuntlaw13_awake) (os := rsshuntlaw13_awake) rfl Try.func10 rfl ⟨rfl, Nat.le_of_ble_eq_true rfl⟩ (COt_ok (alshuntlaw13_awake k)) (anshuntlaw13_awake k) (fun x => Fshuntlaw13_awake (k + 1)) (stshuntlaw13_awake k)

/-! shunt/shuntlaw13.wide -/
def Lshuntlaw13_wide_0s (k : Nat) (rec : List (List Int) → Int → Int → Option ((Bool) ⊕ (Unit))) (p : List (List Int)) (x : Int) (x1 : Int) : Option ((Bool) ⊕ (Unit)) :=
  if ((decide (x1 < x)) = true) then
    if ((decide (x1 > (60 : Int))) = false) then
      if ((0 : Int) ≤ x1) then
        Option.bind (p)[(Int.toNat x1)]? fun x2 =>
        if ((decide ((((List.length x2) : Nat) : Int) > (60 : Int))) = true) then
          (some (Sum.inl true))
        else
        rec p x (IntKind.wrap .i64 (x1 + (1 : Int)))
      else
      none
    else
    (some (Sum.inl true))
  else
  (some (Sum.inr ()))
def Lshuntlaw13_wide_0 (k n : Nat) : List (List Int) → Int → Int → Option ((Bool) ⊕ (Unit)) := Nat.rec (fun _ _ _ => none) (fun _ r => Lshuntlaw13_wide_0s k r) n
def bshuntlaw13_wide (k : Nat) (p : List (List Int)) : Option (Bool) :=
  Option.bind (Lshuntlaw13_wide_0 k k p (((List.length p) : Nat) : Int) (0 : Int)) fun r1 =>
  eitherK r1
    (fun r1 =>
    (some r1))
    (fun r1 =>
    (some false))
def Fshuntlaw13_wide : Nat → List (List Int) → Option (Bool)
  | 0, _ => none
  | k + 1, p => bshuntlaw13_wide k p
def shshuntlaw13_wide : FS := { vs := [.a (.lf (.sl (.sl (.int .i64))))], bs := [] }
def rsshuntlaw13_wide : List FS := [{ vs := [.a (.lf .bool)], bs := [] }]
def Ishuntlaw13_wide (k : Nat) : Inst := ⟨11, shshuntlaw13_wide, rsshuntlaw13_wide, fun x => Fshuntlaw13_wide k x⟩
theorem alshuntlaw13_wide (k : Nat) : AllI (call cf k) [] := True.intro
def hsshuntlaw13_wide_0 : List SS := [{ fr := [(0, .a (.lf (.sl (.sl (.int .i64))))), (5, .a (.lf (.int .i64))), (6, .a (.lf (.int .i64)))], mem := [], nx := 0 }]
def osshuntlaw13_wide_0 : List OS := [⟨none, { fr := [(2, .a (.lf .bool))], mem := [], nx := 0 }⟩, ⟨some 0, { fr := [], mem := [], nx := 0 }⟩]
def LIshuntlaw13_wide_0 (k : Nat) : LInst := ⟨0, hsshuntlaw13_wide_0, osshuntlaw13_wide_0, fun x => Lshuntlaw13_wide_0 k k x.1 x.2.1 x.2.2⟩
theorem anshuntlaw13_wide_0 (k : Nat) : LAll (LOk (R := DS OS.D osshuntlaw13_wide_0) (fun b _ σ K => LOt Ty (kps 11) 0 b σ K []) cf (call cf k) (kps 11) Try.f11.ntmps k 0) 0 (lb Try.f11 0) :=
  And.intro (True.intro) (And.intro (And.intro (True.intro) (True.intro)) (And.intro (And.intro (True.intro) (And.intro (True.intro) (And.intro (And.intro (True.intro) (True.intro)) (True.intro)))) (True.intro)))
theorem stshuntlaw13_wide_0 (k n : Nat) (x : DS SS.D hsshuntlaw13_wide_0) : Lshuntlaw13_wide_0 k (n + 1) x.1 x.2.1 x.2.2 = encSK SS.enc (fun σ => run2 cf (fun f a b K => COt f a b K []) (fun b _ σ K => LOt Ty (kps 11) 0 b σ K []) Try.f11.ntmps 0 (lb Try.f11 0) σ (nextK Ty (kps 11 0) 0 hsshuntlaw13_wide_0 osshuntlaw13_wide_0 fun x => Lshuntlaw13_wide_0 k n x.1 x.2.1 x.2.2)) hsshuntlaw13_wide_0 x := by kernel_rfl
theorem loshuntlaw13_wide_0 (k : Nat) : LIOk cf (call cf k) (kps 11) Try.f11.ntmps k 0 0 (lb Try.f11 0) (LIshuntlaw13_wide_0 k) :=
  loop_ok (c := cf) (callF := call cf k) (kp := kps 11) (nt := Try.f11.ntmps) (k := k) (p := 0) (b := 0) (x0 := lb Try.f11 0) (hs := hsshuntlaw13_wide_0) (os := osshuntlaw13_wide_0) (COt_ok (alshuntlaw13_wide k)) (anshuntlaw13_wide_0 k) (fun n x => Lshuntlaw13_wide_0 k n x.1 x.2.1 x.2.2) (fun _ => rfl) (stshuntlaw13_wide_0 k)
theorem anshuntlaw13_wide (k : Nat) : LAll (LOk (R := DS FS.D rsshuntlaw13_wide) (fun b _ σ K => LOt Ty (kps 11) 0 b σ K [LIshuntlaw13_wide_0 k]) cf (call cf k) (cf.keep 11) Try.f11.ntmps k shshuntlaw13_wide.bs.length) 0 (bd Try.f11) :=
  And.intro (True.intro) (And.intro (And.intro (True.intro) (LOt_ok (c := cf) (callF := call cf k) (kp := kps 11) (nt := Try.f11.ntmps) (k := k) (p := 0) (b := 0) (x0 := lb Try.f11 0) (l := [LIshuntlaw13_wide_0 k]) (And.intro (fun _ => loshuntlaw13_wide_0 k) (True.intro)))) (And.intro (True.intro) (True.intro)))
theorem stshuntlaw13_wide (k : Nat) (x : shshuntlaw13_wide.D) : Fshuntlaw13_wide (k + 1) x = body2 cf (fun f a b K => COt f a b K []) (fun b _ σ K => LOt Ty (kps 11) 0 b σ K [LIshuntlaw13_wide_0 k]) 11 Try.f11.ntmps Try.f11.results.toList (bd Try.f11) (shshuntlaw13_wide.enc x).1 (shshuntlaw13_wide.enc x).2 (putS FS.dec rsshuntlaw13_wide) := by kernel_rfl
theorem okshuntlaw13_wide : ∀ k, InstOk (call cf k) (Ishuntlaw13_wide k)
  | 0 => fun x y e => absurd (show (none : Option _) = some y from e) (by simp)
  | k + 1 => inst_ok (c := cf) (k := k) (f := 11) (fn := Try.f11) (body := bd Try.f11) (sh := shshuntlaw13_wide) (os := rsshuntlaw13_wide) rfl Try.func11 rfl ⟨rfl, Nat.le_of_ble_eq_true rfl⟩ (COt_ok (alshuntlaw13_wide k)) (anshuntlaw13_wide k) (fun x => Fshuntlaw13_wide (k + 1) x) (stshuntlaw13_wide k)

/-! shunt/shuntref13.Check -/
def Lshuntref13_Check_2s (k : Nat) (rec : List (List Int) → Int → Int → Int → Option ((Int) ⊕ (List (List Int) × Int))) (p : List (List Int)) (i : Int) (last : Int) (k1 : Int) : Option ((Int) ⊕ (List (List Int) × Int)) :=
  if ((0 : Int) ≤ i) then
    Option.bind (p)[(Int.toNat i)]? fun x =>
    if ((decide (k1 < (((List.length x) : Nat) : Int))) = true) then
      if ((0 : Int) ≤ i) then
        Option.bind (p)[(Int.toNat i)]? fun x1 =>
        if ((0 : Int) ≤ k1) then
          Option.bind (x1)[(Int.toNat k1)]? fun x2 =>
          if ((decide (x2 ≤ last)) = false) then
            if ((0 : Int) ≤ i) then
              Option.bind (p)[(Int.toNat i)]? fun x3 =>
              if ((0 : Int) ≤ k1) then
                Option.bind (x3)[(Int.toNat k1)]? fun x4 =>
                if ((decide (x4 ≥ (((List.length p) : Nat) : Int))) = true) then
                  (some (Sum.inl (130 : Int)))
                else
                if ((0 : Int) ≤ i) then
                  Option.bind (p)[(Int.toNat i)]? fun x5 =>
                  if ((0 : Int) ≤ k1) then
                    Option.bind (x5)[(Int.toNat k1)]? fun x6 =>
                    rec p i x6 (IntKind.wrap .i64 (k1 + (1 : Int)))
                  else
                  none
                else
                none
              else
              none
            else
            none
          else
          (some (Sum.inl (130 : Int)))
        else
        none
      else
      none
    else
    (some (Sum.inr (p, i)))
  else
  none
def Lshuntref13_Check_2 (k n : Nat) : List (List Int) → Int → Int → Int → Option ((Int) ⊕ (List (List Int) × Int)) := Nat.rec (fun _ _ _ _ => none) (fun _ r => Lshuntref13_Check_2s k r) n
def Lshuntref13_Check_0s (k : Nat) (rec : List (List Int) → Int → Option ((Int) ⊕ (Unit))) (p : List (List Int)) (i : Int) : Option ((Int) ⊕ (Unit)) :=
  if ((decide (i < (((List.length p) : Nat) : Int))) = true) then
    Option.bind (Lshuntref13_Check_2 k k p i (-(1 : Int)) (0 : Int)) fun r3 =>
    eitherK r3
      (fun r3 =>
      (some (Sum.inl r3)))
      (fun r3 =>
      rec r3.1 (IntKind.wrap .i64 (r3.2 + (1 : Int))))
  else
  (some (Sum.inr ()))
def Lshuntref13_Check_0 (k n : Nat) : List (List Int) → Int → Option ((Int) ⊕ (Unit)) := Nat.rec (fun _ _ => none) (fun _ r => Lshuntref13_Check_0s k r) n
def bshuntref13_Check (k : Nat) (p : List (List Int)) : Option (Int) :=
  if ((decide ((((List.length p) : Nat) : Int) > (48 : Int))) = true) then
    (some (130 : Int))
  else
  Option.bind (Lshuntref13_Check_0 k k p (0 : Int)) fun r3 =>
  eitherK r3
    (fun r3 =>
    (some r3))
    (fun r3 =>
    (some (0 : Int)))
def Fshuntref13_Check : Nat → List (List Int) → Option (Int)
  | 0, _ => none
  | k + 1, p => bshuntref13_Check k p
def shshuntref13_Check : FS := { vs := [.a (.lf (.sl (.sl (.int .i64))))], bs := [] }
def rsshuntref13_Check : List FS := [{ vs := [.a (.lf (.int .i64))], bs := [] }]
def Ishuntref13_Check (k : Nat) : Inst := ⟨24, shshuntref13_Check, rsshuntref13_Check, fun x => Fshuntref13_Check k x⟩
theorem alshuntref13_Check (k : Nat) : AllI (call cf k) [] := True.intro
def hsshuntref13_Check_2 : List SS := [{ fr := [(0, .a (.lf (.sl (.sl (.int .i64))))), (3, .a (.lf (.int .i64))), (4, .a (.lf (.int .i64))), (5, .a (.lf (.int .i64)))], mem := [], nx := 0 }]
def osshuntref13_Check_2 : List OS := [⟨none, { fr := [(2, .a (.lf (.int .i64)))], mem := [], nx := 0 }⟩, ⟨some 2, { fr := [(0, .a (.lf (.sl (.sl (.int .i64))))), (3, .a (.lf (.int .i64)))], mem := [], nx := 0 }⟩]
def LIshuntref13_Check_2 (k : Nat) : LInst := ⟨2, hsshuntref13_Check_2, osshuntref13_Check_2, fun x => Lshuntref13_Check_2 k k x.1 x.2.1 x.2.2.1 x.2.2.2⟩
theorem anshuntref13_Check_2 (k : Nat) : LAll (LOk (R := DS OS.D osshuntref13_Check_2) (fun b _ σ K => LOt Ty (kps 24) 0 b σ K []) cf (call cf k) (kps 24) Try.f24.ntmps k 0) 2 (lb Try.f24 1) :=
  And.intro (And.intro (True.intro) (And.intro (True.intro) (True.intro))) (And.intro (And.intro (And.intro (True.intro) (And.intro (And.intro (True.intro) (True.intro)) (True.intro))) (True.intro)) (True.intro))
theorem stshuntref13_Check_2 (k n : Nat) (x : DS SS.D hsshuntref13_Check_2) : Lshuntref13_Check_2 k (n + 1) x.1 x.2.1 x.2.2.1 x.2.2.2 = encSK SS.enc (fun σ => run2 cf (fun f a b K => COt f a b K []) (fun b _ σ K => LOt Ty (kps 24) 0 b σ K []) Try.f24.ntmps 2 (lb Try.f24 1) σ (nextK Ty (kps 24 2) 0 hsshuntref13_Check_2 osshuntref13_Check_2 fun x => Lshuntref13_Check_2 k n x.1 x.2.1 x.2.2.1 x.2.2.2)) hsshuntref13_Check_2 x := by kernel_rfl
theorem loshuntref13_Check_2 (k : Nat) : LIOk cf (call cf k) (kps 24) Try.f24.ntmps k 0 2 (lb Try.f24 1) (LIshuntref13_Check_2 k) :=
  loop_ok (c := cf) (callF := call cf k) (kp := kps 24) (nt := Try.f24.ntmps) (k := k) (p := 0) (b := 2) (x0 := lb Try.f24 1) (hs := hsshuntref13_Check_2) (os := osshuntref13_Check_2) (COt_ok (alshuntref13_Check k)) (anshuntref13_Check_2 k) (fun n x => Lshuntref13_Check_2 k n x.1 x.2.1 x.2.2.1 x.2.2.2) (fun _ => rfl) (stshuntref13_Check_2 k)
def hsshuntref13_Check_0 : List SS := [{ fr := [(0, .a (.lf (.sl (.sl (.int .i64))))), (3, .a (.lf (.int .i64)))], mem := [], nx := 0 }]
def osshuntref13_Check_0 : List OS := [⟨none, { fr := [(2, .a (.lf (.int .i64)))], mem := [], nx := 0 }⟩, ⟨some 0, { fr := [], mem := [], nx := 0 }⟩]
def LIshuntref13_Check_0 (k : Nat) : LInst := ⟨0, hsshuntref13_Check_0, osshuntref13_Check_0, fun x => Lshuntref13_Check_0 k k x.1 x.2⟩
theorem anshuntref13_Check_0 (k : Nat) : LAll (LOk (R := DS OS.D osshuntref13_Check_0) (fun b _ σ K => LOt Ty (kps 24) 0 b σ K [LIshuntref13_Check_2 k]) cf (call cf k) (kps 24) Try.f24.ntmps k 0) 0 (lb Try.f24 0) :=
  And.intro (And.intro (True.intro) (And.intro (True.intro) (True.intro))) (And.intro (And.intro (True.intro) (And.intro (True.intro) (LOt_ok (c := cf) (callF := call cf k) (kp := kps 24) (nt := Try.f24.ntmps) (k := k) (p := 0) (b := 2) (x0 := lb Try.f24 1) (l := [LIshuntref13_Check_2 k]) (And.intro (fun _ => loshuntref13_Check_2 k) (True.intro))))) (True.intro))
theorem stshuntref13_Check_0 (k n : Nat) (x : DS SS.D hsshuntref13_Check_0) : Lshuntref13_Check_0 k (n + 1) x.1 x.2 = encSK SS.enc (fun σ => run2 cf (fun f a b K => COt f a b K []) (fun b _ σ K => LOt Ty (kps 24) 0 b σ K [LIshuntref13_Check_2 k]) Try.f24.ntmps 0 (lb Try.f24 0) σ (nextK Ty (kps 24 0) 0 hsshuntref13_Check_0 osshuntref13_Check_0 fun x => Lshuntref13_Check_0 k n x.1 x.2)) hsshuntref13_Check_0 x := by kernel_rfl
theorem loshuntref13_Check_0 (k : Nat) : LIOk cf (call cf k) (kps 24) Try.f24.ntmps k 0 0 (lb Try.f24 0) (LIshuntref13_Check_0 k) :=
  loop_ok (c := cf) (callF := call cf k) (kp := kps 24) (nt := Try.f24.ntmps) (k := k) (p := 0) (b := 0) (x0 := lb Try.f24 0) (hs := hsshuntref13_Check_0) (os := osshuntref13_Check_0) (COt_ok (alshuntref13_Check k)) (anshuntref13_Check_0 k) (fun n x => Lshuntref13_Check_0 k n x.1 x.2) (fun _ => rfl) (stshuntref13_Check_0 k)
theorem anshuntref13_Check (k : Nat) : LAll (LOk (R := DS FS.D rsshuntref13_Check) (fun b _ σ K => LOt Ty (kps 24) 0 b σ K [LIshuntref13_Check_2 k, LIshuntref13_Check_0 k]) cf (call cf k) (cf.keep 24) Try.f24.ntmps k shshuntref13_Check.bs.length) 0 (bd Try.f24) :=
  And.intro (True.intro) (And.intro (And.intro (True.intro) (And.intro (And.intro (True.intro) (True.intro)) (True.intro))) (And.intro (And.intro (True.intro) (LOt_ok (c := cf) (callF := call cf k) (kp := kps 24) (nt := Try.f24.ntmps) (k := k) (p := 0) (b := 0) (x0 := lb Try.f24 0) (l := [LIshuntref13_Check_2 k, LIshuntref13_Check_0 k]) (And.intro (fun h => absurd (show (2 : Nat) = 0 from h) (by decide)) (And.intro (fun _ => loshuntref13_Check_0 k) (True.intro))))) (And.intro (True.intro) (True.intro))))
theorem stshuntref13_Check (k : Nat) (x : shshuntref13_Check.D) : Fshuntref13_Check (k + 1) x = body2 cf (fun f a b K => COt f a b K []) (fun b _ σ K => LOt Ty (kps 24) 0 b σ K [LIshuntref13_Check_2 k, LIshuntref13_Check_0 k]) 24 Try.f24.ntmps Try.f24.results.toList (bd Try.f24) (shshuntref13_Check.enc x).1 (shshuntref13_Check.enc x).2 (putS FS.dec rsshuntref13_Check) := by kernel_rfl
theorem okshuntref13_Check : ∀ k, InstOk (call cf k) (Ishuntref13_Check k)
  | 0 => fun x y e => absurd (show (none : Option _) = some y from e) (by simp)
  | k + 1 => inst_ok (c := cf) (k := k) (f := 24) (fn := Try.f24) (body := bd Try.f24) (sh := shshuntref13_Check) (os := rsshuntref13_Check) rfl Try.func24 rfl ⟨rfl, Nat.le_of_ble_eq_true rfl⟩ (COt_ok (alshuntref13_Check k)) (anshuntref13_Check k) (fun x => Fshuntref13_Check (k + 1) x) (stshuntref13_Check k)

/-! shunt/shuntlaw13.SparseOrders -/
def Lshuntlaw13_SparseOrders_2s (k : Nat) (rec : List (List Int) → List Int → List Int → List (List Int) → Int → Int → Int → Int → Int → Option ((Bool) ⊕ (List (List Int) × List Int × List Int × List (List Int) × Int × Int × Int))) (p : List (List Int)) (rows : List Int) (cols : List Int) (q : List (List Int)) (i : Int) (x : Int) (x1 : Int) (x2 : Int) (x3 : Int) : Option ((Bool) ⊕ (List (List Int) × List Int × List Int × List (List Int) × Int × Int × Int)) :=
  if ((decide (x3 < x2)) = true) then
    if ((0 : Int) ≤ x3) then
      Option.bind (rows)[(Int.toNat x3)]? fun x4 =>
      if ((0 : Int) ≤ i) then
        Option.bind (rows)[(Int.toNat i)]? fun x5 =>
        if ((x4 == x5) = false) then
          if ((0 : Int) ≤ x3) then
            Option.bind (cols)[(Int.toNat x3)]? fun x6 =>
            if ((0 : Int) ≤ i) then
              Option.bind (cols)[(Int.toNat i)]? fun x7 =>
              if ((x6 == x7) = true) then
                (some (Sum.inl false))
              else
              rec p rows cols q i x x1 x2 (IntKind.wrap .i64 (x3 + (1 : Int)))
            else
            none
          else
          none
        else
        (some (Sum.inl false))
      else
      none
    else
    none
  else
  (some (Sum.inr (p, rows, cols, q, i, x, x1)))
def Lshuntlaw13_SparseOrders_2 (k n : Nat) : List (List Int) → List Int → List Int → List (List Int) → Int → Int → Int → Int → Int → Option ((Bool) ⊕ (List (List Int) × List Int × List Int × List (List Int) × Int × Int × Int)) := Nat.rec (fun _ _ _ _ _ _ _ _ _ => none) (fun _ r => Lshuntlaw13_SparseOrders_2s k r) n
def Lshuntlaw13_SparseOrders_0s (k : Nat) (rec : List (List Int) → List Int → List Int → List (List Int) → Int → Int → Option ((Bool) ⊕ (List (List Int) × List (List Int)))) (p : List (List Int)) (rows : List Int) (cols : List Int) (q : List (List Int)) (x : Int) (x1 : Int) : Option ((Bool) ⊕ (List (List Int) × List (List Int))) :=
  if ((decide (x1 < x)) = true) then
    Option.bind (Lshuntlaw13_SparseOrders_2 k k p rows cols q x1 x x1 x1 (0 : Int)) fun r5 =>
    eitherK r5
      (fun r5 =>
      (some (Sum.inl r5)))
      (fun r5 =>
      if ((0 : Int) ≤ r5.2.2.2.2.1) then
        Option.bind (r5.2.1)[(Int.toNat r5.2.2.2.2.1)]? fun x2 =>
        if ((0 : Int) ≤ r5.2.2.2.2.1) then
          Option.bind (r5.2.2.1)[(Int.toNat r5.2.2.2.2.1)]? fun x3 =>
          Option.bind (Fsparse_Eliminate k r5.2.2.2.1 x2 x3) fun r6 =>
          if ((r6.2 != (0 : Int)) = true) then
            (some (Sum.inl false))
          else
          rec r5.1 r5.2.1 r5.2.2.1 r6.1 r5.2.2.2.2.2.1 (IntKind.wrap .i64 (r5.2.2.2.2.2.2 + (1 : Int)))
        else
        none
      else
      none)
  else
  (some (Sum.inr (p, q)))
def Lshuntlaw13_SparseOrders_0 (k n : Nat) : List (List Int) → List Int → List Int → List (List Int) → Int → Int → Option ((Bool) ⊕ (List (List Int) × List (List Int))) := Nat.rec (fun _ _ _ _ _ _ => none) (fun _ r => Lshuntlaw13_SparseOrders_0s k r) n
def Lshuntlaw13_SparseOrders_4s (k : Nat) (rec : List (List Int) → List (List Int) → List (List Int) → Int → Int → Option ((Bool) ⊕ (List (List Int) × List (List Int)))) (p : List (List Int)) (q : List (List Int)) (x : List (List Int)) (x1 : Int) (x2 : Int) : Option ((Bool) ⊕ (List (List Int) × List (List Int))) :=
  if ((decide (x2 < x1)) = true) then
    if ((0 : Int) ≤ x2) then
      Option.bind (x)[(Int.toNat x2)]? fun x3 =>
      if (((((List.length x3) : Nat) : Int) != (0 : Int)) = true) then
        (some (Sum.inl false))
      else
      rec p q x x1 (IntKind.wrap .i64 (x2 + (1 : Int)))
    else
    none
  else
  (some (Sum.inr (p, q)))
def Lshuntlaw13_SparseOrders_4 (k n : Nat) : List (List Int) → List (List Int) → List (List Int) → Int → Int → Option ((Bool) ⊕ (List (List Int) × List (List Int))) := Nat.rec (fun _ _ _ _ _ => none) (fun _ r => Lshuntlaw13_SparseOrders_4s k r) n
def bshuntlaw13_SparseOrders (k : Nat) (p : List (List Int)) : Option (Bool) :=
  Option.bind (Fshuntlaw13_awake k) fun r =>
  if ((!r) = true) then
    (some false)
  else
  Option.bind (Fshuntlaw13_wide k p) fun r1 =>
  if (r1 = false) then
    Option.bind (Fshuntref13_Check k p) fun r2 =>
    if ((r2 != (0 : Int)) = true) then
      (some true)
    else
    Option.bind (Fsparse_Order k p) fun r3 =>
    if ((r3.2.2 != (0 : Int)) = false) then
      if (((((List.length r3.1) : Nat) : Int) != (((List.length r3.2.1) : Nat) : Int)) = false) then
        if ((decide ((((List.length r3.1) : Nat) : Int) > (((List.length p) : Nat) : Int))) = true) then
          (some false)
        else
        Option.bind (Fsparse_Fill k p r3.1 r3.2.1) fun r4 =>
        if ((r4.2 != (0 : Int)) = false) then
          if ((decide (r4.1 < (0 : Int))) = true) then
            (some false)
          else
          Option.bind (Lshuntlaw13_SparseOrders_0 k k p r3.1 r3.2.1 p (((List.length r3.1) : Nat) : Int) (0 : Int)) fun r5 =>
          eitherK r5
            (fun r5 =>
            (some r5))
            (fun r5 =>
            Option.bind (Lshuntlaw13_SparseOrders_4 k k r5.1 r5.2 r5.2 (((List.length r5.2) : Nat) : Int) (0 : Int)) fun r6 =>
            eitherK r6
              (fun r6 =>
              (some r6))
              (fun r6 =>
              (some ((((List.length r6.2) : Nat) : Int) == (((List.length r6.1) : Nat) : Int)))))
        else
        (some false)
      else
      (some false)
    else
    (some false)
  else
  (some true)
def Fshuntlaw13_SparseOrders : Nat → List (List Int) → Option (Bool)
  | 0, _ => none
  | k + 1, p => bshuntlaw13_SparseOrders k p
def shshuntlaw13_SparseOrders : FS := { vs := [.a (.lf (.sl (.sl (.int .i64))))], bs := [] }
def rsshuntlaw13_SparseOrders : List FS := [{ vs := [.a (.lf .bool)], bs := [] }]
def Ishuntlaw13_SparseOrders (k : Nat) : Inst := ⟨5, shshuntlaw13_SparseOrders, rsshuntlaw13_SparseOrders, fun x => Fshuntlaw13_SparseOrders k x⟩
theorem alshuntlaw13_SparseOrders (k : Nat) : AllI (call cf k) [Ishuntlaw13_awake k, Ishuntlaw13_wide k, Ishuntref13_Check k, Isparse_Order k, Isparse_Fill k, Isparse_Eliminate k] := And.intro (okshuntlaw13_awake k) (And.intro (okshuntlaw13_wide k) (And.intro (okshuntref13_Check k) (And.intro (oksparse_Order k) (And.intro (oksparse_Fill k) (And.intro (oksparse_Eliminate k) (True.intro))))))
def hsshuntlaw13_SparseOrders_2 : List SS := [{ fr := [(0, .a (.lf (.sl (.sl (.int .i64))))), (3, .a (.lf (.sl (.int .i64)))), (4, .a (.lf (.sl (.int .i64)))), (8, .a (.lf (.sl (.sl (.int .i64))))), (9, .a (.lf (.int .i64))), (59, .a (.lf (.int .i64))), (60, .a (.lf (.int .i64))), (63, .a (.lf (.int .i64))), (64, .a (.lf (.int .i64)))], mem := [], nx := 0 }]
def osshuntlaw13_SparseOrders_2 : List OS := [⟨none, { fr := [(2, .a (.lf .bool))], mem := [], nx := 0 }⟩, ⟨some 2, { fr := [(0, .a (.lf (.sl (.sl (.int .i64))))), (3, .a (.lf (.sl (.int .i64)))), (4, .a (.lf (.sl (.int .i64)))), (8, .a (.lf (.sl (.sl (.int .i64))))), (9, .a (.lf (.int .i64))), (59, .a (.lf (.int .i64))), (60, .a (.lf (.int .i64)))], mem := [], nx := 0 }⟩]
def LIshuntlaw13_SparseOrders_2 (k : Nat) : LInst := ⟨2, hsshuntlaw13_SparseOrders_2, osshuntlaw13_SparseOrders_2, fun x => Lshuntlaw13_SparseOrders_2 k k x.1 x.2.1 x.2.2.1 x.2.2.2.1 x.2.2.2.2.1 x.2.2.2.2.2.1 x.2.2.2.2.2.2.1 x.2.2.2.2.2.2.2.1 x.2.2.2.2.2.2.2.2⟩
theorem anshuntlaw13_SparseOrders_2 (k : Nat) : LAll (LOk (R := DS OS.D osshuntlaw13_SparseOrders_2) (fun b _ σ K => LOt Ty (kps 5) 0 b σ K []) cf (call cf k) (kps 5) Try.f5.ntmps k 0) 2 (lb Try.f5 1) :=
  And.intro (True.intro) (And.intro (And.intro (True.intro) (True.intro)) (And.intro (And.intro (True.intro) (And.intro (True.intro) (And.intro (And.intro (True.intro) (True.intro)) (True.intro)))) (True.intro)))
theorem stshuntlaw13_SparseOrders_2 (k n : Nat) (x : DS SS.D hsshuntlaw13_SparseOrders_2) : Lshuntlaw13_SparseOrders_2 k (n + 1) x.1 x.2.1 x.2.2.1 x.2.2.2.1 x.2.2.2.2.1 x.2.2.2.2.2.1 x.2.2.2.2.2.2.1 x.2.2.2.2.2.2.2.1 x.2.2.2.2.2.2.2.2 = encSK SS.enc (fun σ => run2 cf (fun f a b K => COt f a b K [Ishuntlaw13_awake k, Ishuntlaw13_wide k, Ishuntref13_Check k, Isparse_Order k, Isparse_Fill k, Isparse_Eliminate k]) (fun b _ σ K => LOt Ty (kps 5) 0 b σ K []) Try.f5.ntmps 2 (lb Try.f5 1) σ (nextK Ty (kps 5 2) 0 hsshuntlaw13_SparseOrders_2 osshuntlaw13_SparseOrders_2 fun x => Lshuntlaw13_SparseOrders_2 k n x.1 x.2.1 x.2.2.1 x.2.2.2.1 x.2.2.2.2.1 x.2.2.2.2.2.1 x.2.2.2.2.2.2.1 x.2.2.2.2.2.2.2.1 x.2.2.2.2.2.2.2.2)) hsshuntlaw13_SparseOrders_2 x := by kernel_rfl
theorem loshuntlaw13_SparseOrders_2 (k : Nat) : LIOk cf (call cf k) (kps 5) Try.f5.ntmps k 0 2 (lb Try.f5 1) (LIshuntlaw13_SparseOrders_2 k) :=
  loop_ok (c := cf) (callF := call cf k) (kp := kps 5) (nt := Try.f5.ntmps) (k := k) (p := 0) (b := 2) (x0 := lb Try.f5 1) (hs := hsshuntlaw13_SparseOrders_2) (os := osshuntlaw13_SparseOrders_2) (COt_ok (alshuntlaw13_SparseOrders k)) (anshuntlaw13_SparseOrders_2 k) (fun n x => Lshuntlaw13_SparseOrders_2 k n x.1 x.2.1 x.2.2.1 x.2.2.2.1 x.2.2.2.2.1 x.2.2.2.2.2.1 x.2.2.2.2.2.2.1 x.2.2.2.2.2.2.2.1 x.2.2.2.2.2.2.2.2) (fun _ => rfl) (stshuntlaw13_SparseOrders_2 k)
def hsshuntlaw13_SparseOrders_0 : List SS := [{ fr := [(0, .a (.lf (.sl (.sl (.int .i64))))), (3, .a (.lf (.sl (.int .i64)))), (4, .a (.lf (.sl (.int .i64)))), (8, .a (.lf (.sl (.sl (.int .i64))))), (59, .a (.lf (.int .i64))), (60, .a (.lf (.int .i64)))], mem := [], nx := 0 }]
def osshuntlaw13_SparseOrders_0 : List OS := [⟨none, { fr := [(2, .a (.lf .bool))], mem := [], nx := 0 }⟩, ⟨some 0, { fr := [(0, .a (.lf (.sl (.sl (.int .i64))))), (8, .a (.lf (.sl (.sl (.int .i64)))))], mem := [], nx := 0 }⟩]
def LIshuntlaw13_SparseOrders_0 (k : Nat) : LInst := ⟨0, hsshuntlaw13_SparseOrders_0, osshuntlaw13_SparseOrders_0, fun x => Lshuntlaw13_SparseOrders_0 k k x.1 x.2.1 x.2.2.1 x.2.2.2.1 x.2.2.2.2.1 x.2.2.2.2.2⟩
theorem anshuntlaw13_SparseOrders_0 (k : Nat) : LAll (LOk (R := DS OS.D osshuntlaw13_SparseOrders_0) (fun b _ σ K => LOt Ty (kps 5) 0 b σ K [LIshuntlaw13_SparseOrders_2 k]) cf (call cf k) (kps 5) Try.f5.ntmps k 0) 0 (lb Try.f5 0) :=
  And.intro (True.intro) (And.intro (And.intro (True.intro) (True.intro)) (And.intro (And.intro (True.intro) (And.intro (And.intro (True.intro) (LOt_ok (c := cf) (callF := call cf k) (kp := kps 5) (nt := Try.f5.ntmps) (k := k) (p := 0) (b := 2) (x0 := lb Try.f5 1) (l := [LIshuntlaw13_SparseOrders_2 k]) (And.intro (fun _ => loshuntlaw13_SparseOrders_2 k) (True.intro)))) (And.intro (True.intro) (And.intro (True.intro) (And.intro (And.intro (True.intro) (True.intro)) (True.intro)))))) (True.intro)))
theorem stshuntlaw13_SparseOrders_0 (k n : Nat) (x : DS SS.D hsshuntlaw13_SparseOrders_0) : Lshuntlaw13_SparseOrders_0 k (n + 1) x.1 x.2.1 x.2.2.1 x.2.2.2.1 x.2.2.2.2.1 x.2.2.2.2.2 = encSK SS.enc (fun σ => run2 cf (fun f a b K => COt f a b K [Ishuntlaw13_awake k, Ishuntlaw13_wide k, Ishuntref13_Check k, Isparse_Order k, Isparse_Fill k, Isparse_Eliminate k]) (fun b _ σ K => LOt Ty (kps 5) 0 b σ K [LIshuntlaw13_SparseOrders_2 k]) Try.f5.ntmps 0 (lb Try.f5 0) σ (nextK Ty (kps 5 0) 0 hsshuntlaw13_SparseOrders_0 osshuntlaw13_SparseOrders_0 fun x => Lshuntlaw13_SparseOrders_0 k n x.1 x.2.1 x.2.2.1 x.2.2.2.1 x.2.2.2.2.1 x.2.2.2.2.2)) hsshuntlaw13_SparseOrders_0 x := by kernel_rfl
theorem loshuntlaw13_SparseOrders_0 (k : Nat) : LIOk cf (call cf k) (kps 5) Try.f5.ntmps k 0 0 (lb Try.f5 0) (LIshuntlaw13_SparseOrders_0 k) :=
  loop_ok (c := cf) (callF := call cf k) (kp := kps 5) (nt := Try.f5.ntmps) (k := k) (p := 0) (b := 0) (x0 := lb Try.f5 0) (hs := hsshuntlaw13_SparseOrders_0) (os := osshuntlaw13_SparseOrders_0) (COt_ok (alshuntlaw13_SparseOrders k)) (anshuntlaw13_SparseOrders_0 k) (fun n x => Lshuntlaw13_SparseOrders_0 k n x.1 x.2.1 x.2.2.1 x.2.2.2.1 x.2.2.2.2.1 x.2.2.2.2.2) (fun _ => rfl) (stshuntlaw13_SparseOrders_0 k)
def hsshuntlaw13_SparseOrders_4 : List SS := [{ fr := [(0, .a (.lf (.sl (.sl (.int .i64))))), (8, .a (.lf (.sl (.sl (.int .i64))))), (104, .a (.lf (.sl (.sl (.int .i64))))), (105, .a (.lf (.int .i64))), (106, .a (.lf (.int .i64)))], mem := [], nx := 0 }]
def osshuntlaw13_SparseOrders_4 : List OS := [⟨none, { fr := [(2, .a (.lf .bool))], mem := [], nx := 0 }⟩, ⟨some 4, { fr := [(0, .a (.lf (.sl (.sl (.int .i64))))), (8, .a (.lf (.sl (.sl (.int .i64)))))], mem := [], nx := 0 }⟩]
def LIshuntlaw13_SparseOrders_4 (k : Nat) : LInst := ⟨4, hsshuntlaw13_SparseOrders_4, osshuntlaw13_SparseOrders_4, fun x => Lshuntlaw13_SparseOrders_4 k k x.1 x.2.1 x.2.2.1 x.2.2.2.1 x.2.2.2.2⟩
theorem anshuntlaw13_SparseOrders_4 (k : Nat) : LAll (LOk (R := DS OS.D osshuntlaw13_SparseOrders_4) (fun b _ σ K => LOt Ty (kps 5) 0 b σ K [LIshuntlaw13_SparseOrders_2 k, LIshuntlaw13_SparseOrders_0 k]) cf (call cf k) (kps 5) Try.f5.ntmps k 0) 4 (lb Try.f5 2) :=
  And.intro (True.intro) (And.intro (And.intro (True.intro) (True.intro)) (And.intro (And.intro (True.intro) (And.intro (True.intro) (And.intro (And.intro (True.intro) (True.intro)) (True.intro)))) (True.intro)))
theorem stshuntlaw13_SparseOrders_4 (k n : Nat) (x : DS SS.D hsshuntlaw13_SparseOrders_4) : Lshuntlaw13_SparseOrders_4 k (n + 1) x.1 x.2.1 x.2.2.1 x.2.2.2.1 x.2.2.2.2 = encSK SS.enc (fun σ => run2 cf (fun f a b K => COt f a b K [Ishuntlaw13_awake k, Ishuntlaw13_wide k, Ishuntref13_Check k, Isparse_Order k, Isparse_Fill k, Isparse_Eliminate k]) (fun b _ σ K => LOt Ty (kps 5) 0 b σ K [LIshuntlaw13_SparseOrders_2 k, LIshuntlaw13_SparseOrders_0 k]) Try.f5.ntmps 4 (lb Try.f5 2) σ (nextK Ty (kps 5 4) 0 hsshuntlaw13_SparseOrders_4 osshuntlaw13_SparseOrders_4 fun x => Lshuntlaw13_SparseOrders_4 k n x.1 x.2.1 x.2.2.1 x.2.2.2.1 x.2.2.2.2)) hsshuntlaw13_SparseOrders_4 x := by kernel_rfl
theorem loshuntlaw13_SparseOrders_4 (k : Nat) : LIOk cf (call cf k) (kps 5) Try.f5.ntmps k 0 4 (lb Try.f5 2) (LIshuntlaw13_SparseOrders_4 k) :=
  loop_ok (c := cf) (callF := call cf k) (kp := kps 5) (nt := Try.f5.ntmps) (k := k) (p := 0) (b := 4) (x0 := lb Try.f5 2) (hs := hsshuntlaw13_SparseOrders_4) (os := osshuntlaw13_SparseOrders_4) (COt_ok (alshuntlaw13_SparseOrders k)) (anshuntlaw13_SparseOrders_4 k) (fun n x => Lshuntlaw13_SparseOrders_4 k n x.1 x.2.1 x.2.2.1 x.2.2.2.1 x.2.2.2.2) (fun _ => rfl) (stshuntlaw13_SparseOrders_4 k)
theorem anshuntlaw13_SparseOrders (k : Nat) : LAll (LOk (R := DS FS.D rsshuntlaw13_SparseOrders) (fun b _ σ K => LOt Ty (kps 5) 0 b σ K [LIshuntlaw13_SparseOrders_2 k, LIshuntlaw13_SparseOrders_0 k, LIshuntlaw13_SparseOrders_4 k]) cf (call cf k) (cf.keep 5) Try.f5.ntmps k shshuntlaw13_SparseOrders.bs.length) 0 (bd Try.f5) :=
  And.intro (True.intro) (And.intro (And.intro (True.intro) (And.intro (And.intro (True.intro) (True.intro)) (True.intro))) (And.intro (And.intro (True.intro) (And.intro (And.intro (True.intro) (True.intro)) (True.intro))) (And.intro (True.intro) (And.intro (And.intro (True.intro) (And.intro (And.intro (True.intro) (True.intro)) (True.intro))) (And.intro (True.intro) (And.intro (And.intro (True.intro) (And.intro (And.intro (True.intro) (True.intro)) (True.intro))) (And.intro (True.intro) (And.intro (And.intro (True.intro) (LOt_ok (c := cf) (callF := call cf k) (kp := kps 5) (nt := Try.f5.ntmps) (k := k) (p := 0) (b := 0) (x0 := lb Try.f5 0) (l := [LIshuntlaw13_SparseOrders_2 k, LIshuntlaw13_SparseOrders_0 k, LIshuntlaw13_SparseOrders_4 k]) (And.intro (fun h => absurd (show (2 : Nat) = 0 from h) (by decide)) (And.intro (fun _ => loshuntlaw13_SparseOrders_0 k) (And.intro (fun h => absurd (show (4 : Nat) = 0 from h) (by decide)) (True.intro)))))) (And.intro (And.intro (True.intro) (LOt_ok (c := cf) (callF := call cf k) (kp := kps 5) (nt := Try.f5.ntmps) (k := k) (p := 0) (b := 4) (x0 := lb Try.f5 2) (l := [LIshuntlaw13_SparseOrders_2 k, LIshuntlaw13_SparseOrders_0 k, LIshuntlaw13_SparseOrders_4 k]) (And.intro (fun h => absurd (show (2 : Nat) = 4 from h) (by decide)) (And.intro (fun h => absurd (show (0 : Nat) = 4 from h) (by decide)) (And.intro (fun _ => loshuntlaw13_SparseOrders_4 k) (True.intro)))))) (And.intro (True.intro) (True.intro)))))))))))
theorem stshuntlaw13_SparseOrders (k : Nat) (x : shshuntlaw13_SparseOrders.D) : Fshuntlaw13_SparseOrders (k + 1) x = body2 cf (fun f a b K => COt f a b K [Ishuntlaw13_awake k, Ishuntlaw13_wide k, Ishuntref13_Check k, Isparse_Order k, Isparse_Fill k, Isparse_Eliminate k]) (fun b _ σ K => LOt Ty (kps 5) 0 b σ K [LIshuntlaw13_SparseOrders_2 k, LIshuntlaw13_SparseOrders_0 k, LIshuntlaw13_SparseOrders_4 k]) 5 Try.f5.ntmps Try.f5.results.toList (bd Try.f5) (shshuntlaw13_SparseOrders.enc x).1 (shshuntlaw13_SparseOrders.enc x).2 (putS FS.dec rsshuntlaw13_SparseOrders) := by kernel_rfl
theorem okshuntlaw13_SparseOrders : ∀ k, InstOk (call cf k) (Ishuntlaw13_SparseOrders k)
  | 0 => fun x y e => absurd (show (none : Option _) = some y from e) (by simp)
  | k + 1 => inst_ok (c := cf) (k := k) (f := 5) (fn := Try.f5) (body := bd Try.f5) (sh := shshuntlaw13_SparseOrders) (os := rsshuntlaw13_SparseOrders) rfl Try.func5 rfl ⟨rfl, Nat.le_of_ble_eq_true rfl⟩ (COt_ok (alshuntlaw13_SparseOrders k)) (anshuntlaw13_SparseOrders k) (fun x => Fshuntlaw13_SparseOrders (k + 1) x) (stshuntlaw13_SparseOrders k)


end
end Go.Proofs.Ytgiamleohegjeaa.Am
