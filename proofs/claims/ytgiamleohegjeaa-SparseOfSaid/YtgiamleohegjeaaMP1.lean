/- Printed functions: each says what the typed machine says of the program -/
import Derived.Test.YtgiamleohegjeaaMA3
import Derived.KernelRfl

set_option linter.unusedVariables false
set_option maxRecDepth 100000
namespace Go.Proofs.Ytgiamleohegjeaa.Am
open Go
noncomputable section

/-! shunt/sparse.Check -/
def Lsparse_Check_2s (k : Nat) (rec : List (List Int) → List Int → List (List Int) → Int → Int → List Int → Int → Int → Option ((Int) ⊕ (List (List Int) × List (List Int) × Int × Int))) (p : List (List Int)) (r : List Int) (x : List (List Int)) (x1 : Int) (x2 : Int) (x3 : List Int) (x4 : Int) (x5 : Int) : Option ((Int) ⊕ (List (List Int) × List (List Int) × Int × Int)) :=
 if ((decide (x5 < x4)) = true) then
  if ((0 : Int) ≤ x5) then
   Option.bind (x3)[(Int.toNat x5)]? fun x6 =>
   if ((decide (x6 < (0 : Int))) = false) then
    if ((decide (x6 ≥ (((List.length p) : Nat) : Int))) = false) then
     if ((decide (x5 > (0 : Int))) = true) then
      if ((0 : Int) ≤ (IntKind.wrap .i64 (x5 - (1 : Int)))) then
       Option.bind (r)[(Int.toNat (IntKind.wrap .i64 (x5 - (1 : Int))))]? fun x7 =>
       if ((decide (x7 ≥ x6)) = true) then
        (some (Sum.inl (130 : Int)))
       else
       rec p r x x1 x2 x3 x4 (IntKind.wrap .i64 (x5 + (1 : Int)))
      else
      none
     else
     rec p r x x1 x2 x3 x4 (IntKind.wrap .i64 (x5 + (1 : Int)))
    else
    (some (Sum.inl (130 : Int)))
   else
   (some (Sum.inl (130 : Int)))
  else
  none
 else
 (some (Sum.inr (p, x, x1, x2)))
def Lsparse_Check_2 (k n : Nat) : List (List Int) → List Int → List (List Int) → Int → Int → List Int → Int → Int → Option ((Int) ⊕ (List (List Int) × List (List Int) × Int × Int)) := Nat.rec (fun _ _ _ _ _ _ _ _ => none) (fun _ r => Lsparse_Check_2s k r) n
def Lsparse_Check_0s (k : Nat) (rec : List (List Int) → List (List Int) → Int → Int → Option ((Int) ⊕ (Unit))) (p : List (List Int)) (x : List (List Int)) (x1 : Int) (x2 : Int) : Option ((Int) ⊕ (Unit)) :=
 if ((decide (x2 < x1)) = true) then
  if ((0 : Int) ≤ x2) then
   Option.bind (x)[(Int.toNat x2)]? fun x3 =>
   Option.bind (Lsparse_Check_2 k k p x3 x x1 x2 x3 (((List.length x3) : Nat) : Int) (0 : Int)) fun r =>
   eitherK r
    (fun r =>
    (some (Sum.inl r)))
    (fun r =>
    rec r.1 r.2.1 r.2.2.1 (IntKind.wrap .i64 (r.2.2.2 + (1 : Int))))
  else
  none
 else
 (some (Sum.inr ()))
def Lsparse_Check_0 (k n : Nat) : List (List Int) → List (List Int) → Int → Int → Option ((Int) ⊕ (Unit)) := Nat.rec (fun _ _ _ _ => none) (fun _ r => Lsparse_Check_0s k r) n
def bsparse_Check (k : Nat) (p : List (List Int)) : Option (Int) :=
 if ((decide ((((List.length p) : Nat) : Int) > (48 : Int))) = true) then
  (some (130 : Int))
 else
 Option.bind (Lsparse_Check_0 k k p p (((List.length p) : Nat) : Int) (0 : Int)) fun r =>
 eitherK r
  (fun r =>
  (some r))
  (fun r =>
  (some (0 : Int)))
def Fsparse_Check : Nat → List (List Int) → Option (Int)
 | 0, _ => none
 | k + 1, p => bsparse_Check k p
def Isparse_Check : Nat → Inst := mkI 23 ⟨[.a (.lf (.sl (.sl (.int .i64))))], []⟩ [⟨[vI], []⟩] fun k x => Fsparse_Check k x
def LIsparse_Check_2 (k : Nat) : LInst := mkL 2 [⟨[(0, .a (.lf (.sl (.sl (.int .i64))))), (4, vJ), (10, .a (.lf (.sl (.sl (.int .i64))))), (11, vI), (12, vI), (16, vJ), (17, vI), (18, vI)], [], 0⟩] [⟨none, ⟨[(2, vI)], [], 0⟩⟩, ⟨some 2, ⟨[(0, .a (.lf (.sl (.sl (.int .i64))))), (10, .a (.lf (.sl (.sl (.int .i64))))), (11, vI), (12, vI)], [], 0⟩⟩] (fun n x => Lsparse_Check_2 k n x.1 x.2.1 x.2.2.1 x.2.2.2.1 x.2.2.2.2.1 x.2.2.2.2.2.1 x.2.2.2.2.2.2.1 x.2.2.2.2.2.2.2) k
theorem losparse_Check_2 (k : Nat) : LIo 23 Try.f23 0 k (LIsparse_Check_2 k) :=
 lpk [] a0 l0 (fun _ => rfl) (by kernel_rfl) fun n x => by kernel_rfl
def LIsparse_Check_0 (k : Nat) : LInst := mkL 0 [⟨[(0, .a (.lf (.sl (.sl (.int .i64))))), (10, .a (.lf (.sl (.sl (.int .i64))))), (11, vI), (12, vI)], [], 0⟩] [⟨none, ⟨[(2, vI)], [], 0⟩⟩, ⟨some 0, ⟨[], [], 0⟩⟩] (fun n x => Lsparse_Check_0 k n x.1 x.2.1 x.2.2.1 x.2.2.2) k
theorem losparse_Check_0 (k : Nat) : LIo 23 Try.f23 0 k (LIsparse_Check_0 k) :=
 lpk [2] a0 (lc (losparse_Check_2 k) l0) (fun _ => rfl) (by kernel_rfl) fun n x => by kernel_rfl
theorem oksparse_Check : ∀ k, InstOk (call cf k) (Isparse_Check k) :=
 fnk 0 [0] Try.func23 (fun k => a0) (fun k => (lc (losparse_Check_2 k) (lc (losparse_Check_0 k) l0))) ⟨rfl, rfl, ⟨rfl, Nat.le_of_ble_eq_true rfl⟩, rfl⟩ (fun _ => rfl) (by kernel_rfl) fun k x => by kernel_rfl

/-! shunt/sparse.counts -/
def Lsparse_counts_2s (k : Nat) (rec : Nat → List (List Int) → Int → Int → List Int → Int → Int → List Int → Option (Nat × List (List Int) × Int × Int × List Int)) (n : Nat) (x : List (List Int)) (x1 : Int) (x2 : Int) (x3 : List Int) (x4 : Int) (x5 : Int) (ns : List Int) : Option (Nat × List (List Int) × Int × Int × List Int) :=
 if ((decide (x5 < x4)) = true) then
  if ((0 : Int) ≤ x5) then
   Option.bind (x3)[(Int.toNat x5)]? fun x6 =>
   if (((0 : Int) ≤ x6) ∧ (x6 < ((n : Nat) : Int))) then
    Option.bind (ns)[(0 + (Int.toNat x6))]? fun x7 =>
    if (((0 : Int) ≤ x6) ∧ (x6 < ((n : Nat) : Int))) then
     Option.bind (ns)[(0 + (Int.toNat x6))]? fun x8 =>
     rec n x x1 x2 x3 x4 (IntKind.wrap .i64 (x5 + (1 : Int))) (List.set ns (0 + (Int.toNat x6)) (IntKind.wrap .i64 (x7 + (1 : Int))))
    else
    none
   else
   none
  else
  none
 else
 (some (n, x, x1, x2, ns))
def Lsparse_counts_2 (k n : Nat) : Nat → List (List Int) → Int → Int → List Int → Int → Int → List Int → Option (Nat × List (List Int) × Int × Int × List Int) := Nat.rec (fun _ _ _ _ _ _ _ _ => none) (fun _ r => Lsparse_counts_2s k r) n
def Lsparse_counts_0s (k : Nat) (rec : Nat → List (List Int) → Int → Int → List Int → Option (Nat × List Int)) (n : Nat) (x : List (List Int)) (x1 : Int) (x2 : Int) (ns : List Int) : Option (Nat × List Int) :=
 if ((decide (x2 < x1)) = true) then
  if ((0 : Int) ≤ x2) then
   Option.bind (x)[(Int.toNat x2)]? fun x3 =>
   Option.bind (Lsparse_counts_2 k k n x x1 x2 x3 (((List.length x3) : Nat) : Int) (0 : Int) ns) fun r1 =>
   rec r1.1 r1.2.1 r1.2.2.1 (IntKind.wrap .i64 (r1.2.2.2.1 + (1 : Int))) r1.2.2.2.2
  else
  none
 else
 (some (n, ns))
def Lsparse_counts_0 (k n : Nat) : Nat → List (List Int) → Int → Int → List Int → Option (Nat × List Int) := Nat.rec (fun _ _ _ _ _ => none) (fun _ r => Lsparse_counts_0s k r) n
def bsparse_counts (k : Nat) (p : List (List Int)) : Option (Nat × List Int) :=
 if (((0 : Int) ≤ (((List.length p) : Nat) : Int)) ∧ (((((List.length p) : Nat) : Int) ≤ (((List.length p) : Nat) : Int)) ∧ (((((List.length p) : Nat) : Int) * (8 : Int)) ≤ (140737488355328 : Int)))) then
  Option.bind (Lsparse_counts_0 k k (Int.toNat (((List.length p) : Nat) : Int)) p (((List.length p) : Nat) : Int) (0 : Int) (List.replicate (Int.toNat (((List.length p) : Nat) : Int)) (0 : Int))) fun r1 =>
  (some (r1.1, r1.2))
 else
 none
def Fsparse_counts : Nat → List (List Int) → Option (Nat × List Int)
 | 0, _ => none
 | k + 1, p => bsparse_counts k p
def Isparse_counts : Nat → Inst := mkI 31 ⟨[.a (.lf (.sl (.sl (.int .i64))))], []⟩ [⟨[.a (.smz 0)], [.arr (.int .i64) 1 3 false]⟩] fun k x => Fsparse_counts k x
def LIsparse_counts_2 (k : Nat) : LInst := mkL 2 [⟨[(3, .a (.smz 0)), (11, .a (.lf (.sl (.sl (.int .i64))))), (12, vI), (13, vI), (17, vJ), (18, vI), (19, vI)], [(0, some (.arr (.int .i64) 1 3 false))], 1⟩] [⟨some 2, ⟨[(3, .a (.smz 0)), (11, .a (.lf (.sl (.sl (.int .i64))))), (12, vI), (13, vI)], [(0, some (.arr (.int .i64) 1 3 false))], 1⟩⟩] (fun n x => Lsparse_counts_2 k n x.1 x.2.1 x.2.2.1 x.2.2.2.1 x.2.2.2.2.1 x.2.2.2.2.2.1 x.2.2.2.2.2.2.1 x.2.2.2.2.2.2.2) k
theorem losparse_counts_2 (k : Nat) : LIo 31 Try.f31 0 k (LIsparse_counts_2 k) :=
 lpk [] a0 l0 (fun _ => rfl) (by kernel_rfl) fun n x => by kernel_rfl
def LIsparse_counts_0 (k : Nat) : LInst := mkL 0 [⟨[(3, .a (.smz 0)), (11, .a (.lf (.sl (.sl (.int .i64))))), (12, vI), (13, vI)], [(0, some (.arr (.int .i64) 1 3 false))], 1⟩] [⟨some 0, ⟨[(3, .a (.smz 0))], [(0, some (.arr (.int .i64) 1 3 false))], 1⟩⟩] (fun n x => Lsparse_counts_0 k n x.1 x.2.1 x.2.2.1 x.2.2.2.1 x.2.2.2.2) k
theorem losparse_counts_0 (k : Nat) : LIo 31 Try.f31 0 k (LIsparse_counts_0 k) :=
 lpk [2] a0 (lc (losparse_counts_2 k) l0) (fun _ => rfl) (by kernel_rfl) fun n x => by kernel_rfl
theorem oksparse_counts : ∀ k, InstOk (call cf k) (Isparse_counts k) :=
 fnk 0 [0] Try.func31 (fun k => a0) (fun k => (lc (losparse_counts_2 k) (lc (losparse_counts_0 k) l0))) ⟨rfl, rfl, ⟨rfl, Nat.le_of_ble_eq_true rfl⟩, rfl⟩ (fun _ => rfl) (by kernel_rfl) fun k x => by kernel_rfl

/-! shunt/sparse.best -/
def Lsparse_best_2s (k : Nat) (rec : Nat → Int → Int → Int → Int → List Int → List (List Int) → Int → Int → List Int → Int → Int → List Int → Option (Nat × Int × Int × Int × List (List Int) × Int × Int × List Int)) (n : Nat) (row : Int) (col : Int) (least : Int) (i : Int) (r : List Int) (x : List (List Int)) (x1 : Int) (x2 : Int) (x3 : List Int) (x4 : Int) (x5 : Int) (ns : List Int) : Option (Nat × Int × Int × Int × List (List Int) × Int × Int × List Int) :=
 if ((decide (x5 < x4)) = true) then
  if ((0 : Int) ≤ x5) then
   Option.bind (x3)[(Int.toNat x5)]? fun x6 =>
   if (((0 : Int) ≤ x6) ∧ (x6 < ((n : Nat) : Int))) then
    Option.bind (ns)[(0 + (Int.toNat x6))]? fun x7 =>
    if ((decide (least < (0 : Int))) = false) then
     if ((decide ((IntKind.wrap .i64 ((IntKind.wrap .i64 ((((List.length r) : Nat) : Int) - (1 : Int))) * (IntKind.wrap .i64 (x7 - (1 : Int))))) < least)) = true) then
      rec n i x6 (IntKind.wrap .i64 ((IntKind.wrap .i64 ((((List.length r) : Nat) : Int) - (1 : Int))) * (IntKind.wrap .i64 (x7 - (1 : Int))))) i r x x1 x2 x3 x4 (IntKind.wrap .i64 (x5 + (1 : Int))) ns
     else
     rec n row col least i r x x1 x2 x3 x4 (IntKind.wrap .i64 (x5 + (1 : Int))) ns
    else
    rec n i x6 (IntKind.wrap .i64 ((IntKind.wrap .i64 ((((List.length r) : Nat) : Int) - (1 : Int))) * (IntKind.wrap .i64 (x7 - (1 : Int))))) i r x x1 x2 x3 x4 (IntKind.wrap .i64 (x5 + (1 : Int))) ns
   else
   none
  else
  none
 else
 (some (n, row, col, least, x, x1, x2, ns))
def Lsparse_best_2 (k n : Nat) : Nat → Int → Int → Int → Int → List Int → List (List Int) → Int → Int → List Int → Int → Int → List Int → Option (Nat × Int × Int × Int × List (List Int) × Int × Int × List Int) := Nat.rec (fun _ _ _ _ _ _ _ _ _ _ _ _ _ => none) (fun _ r => Lsparse_best_2s k r) n
def Lsparse_best_0s (k : Nat) (rec : Nat → Int → Int → Int → List (List Int) → Int → Int → List Int → Option (Int × Int × Int × List Int)) (n : Nat) (row : Int) (col : Int) (least : Int) (x : List (List Int)) (x1 : Int) (x2 : Int) (ns : List Int) : Option (Int × Int × Int × List Int) :=
 if ((decide (x2 < x1)) = true) then
  if ((0 : Int) ≤ x2) then
   Option.bind (x)[(Int.toNat x2)]? fun x3 =>
   Option.bind (Lsparse_best_2 k k n row col least x2 x3 x x1 x2 x3 (((List.length x3) : Nat) : Int) (0 : Int) ns) fun r2 =>
   rec r2.1 r2.2.1 r2.2.2.1 r2.2.2.2.1 r2.2.2.2.2.1 r2.2.2.2.2.2.1 (IntKind.wrap .i64 (r2.2.2.2.2.2.2.1 + (1 : Int))) r2.2.2.2.2.2.2.2
  else
  none
 else
 (some (row, col, least, ns))
def Lsparse_best_0 (k n : Nat) : Nat → Int → Int → Int → List (List Int) → Int → Int → List Int → Option (Int × Int × Int × List Int) := Nat.rec (fun _ _ _ _ _ _ _ _ => none) (fun _ r => Lsparse_best_0s k r) n
def bsparse_best (k : Nat) (p : List (List Int)) : Option (Int × Int × Bool) :=
 Option.bind (Fsparse_counts k p) fun r1 =>
 Option.bind (Lsparse_best_0 k k r1.1 (0 : Int) (0 : Int) (-(1 : Int)) p (((List.length p) : Nat) : Int) (0 : Int) r1.2) fun r2 =>
 (some (r2.1, r2.2.1, (decide (r2.2.2.1 ≥ (0 : Int)))))
def Fsparse_best : Nat → List (List Int) → Option (Int × Int × Bool)
 | 0, _ => none
 | k + 1, p => bsparse_best k p
def Isparse_best : Nat → Inst := mkI 35 ⟨[.a (.lf (.sl (.sl (.int .i64))))], []⟩ [⟨[vI, vI, vB], []⟩] fun k x => Fsparse_best k x
theorem alsparse_best (k : Nat) : AllI (call cf k) [Isparse_counts k] :=
 ac (oksparse_counts k) a0
def LIsparse_best_2 (k : Nat) : LInst := mkL 2 [⟨[(5, .a (.smz 0)), (6, vI), (7, vI), (8, vI), (9, vI), (10, vJ), (16, .a (.lf (.sl (.sl (.int .i64))))), (17, vI), (18, vI), (23, vJ), (24, vI), (25, vI)], [(0, some (.arr (.int .i64) 1 3 false))], 1⟩] [⟨some 2, ⟨[(5, .a (.smz 0)), (6, vI), (7, vI), (8, vI), (16, .a (.lf (.sl (.sl (.int .i64))))), (17, vI), (18, vI)], [(0, some (.arr (.int .i64) 1 3 false))], 1⟩⟩] (fun n x => Lsparse_best_2 k n x.1 x.2.1 x.2.2.1 x.2.2.2.1 x.2.2.2.2.1 x.2.2.2.2.2.1 x.2.2.2.2.2.2.1 x.2.2.2.2.2.2.2.1 x.2.2.2.2.2.2.2.2.1 x.2.2.2.2.2.2.2.2.2.1 x.2.2.2.2.2.2.2.2.2.2.1 x.2.2.2.2.2.2.2.2.2.2.2.1 x.2.2.2.2.2.2.2.2.2.2.2.2) k
theorem losparse_best_2 (k : Nat) : LIo 35 Try.f35 0 k (LIsparse_best_2 k) :=
 lpk [] (alsparse_best k) l0 (fun _ => rfl) (by kernel_rfl) fun n x => by kernel_rfl
def LIsparse_best_0 (k : Nat) : LInst := mkL 0 [⟨[(5, .a (.smz 0)), (6, vI), (7, vI), (8, vI), (16, .a (.lf (.sl (.sl (.int .i64))))), (17, vI), (18, vI)], [(0, some (.arr (.int .i64) 1 3 false))], 1⟩] [⟨some 0, ⟨[(6, vI), (7, vI), (8, vI)], [(0, some (.arr (.int .i64) 1 3 false))], 1⟩⟩] (fun n x => Lsparse_best_0 k n x.1 x.2.1 x.2.2.1 x.2.2.2.1 x.2.2.2.2.1 x.2.2.2.2.2.1 x.2.2.2.2.2.2.1 x.2.2.2.2.2.2.2) k
theorem losparse_best_0 (k : Nat) : LIo 35 Try.f35 0 k (LIsparse_best_0 k) :=
 lpk [2] (alsparse_best k) (lc (losparse_best_2 k) l0) (fun _ => rfl) (by kernel_rfl) fun n x => by kernel_rfl
theorem oksparse_best : ∀ k, InstOk (call cf k) (Isparse_best k) :=
 fnk 0 [0] Try.func35 (fun k => (alsparse_best k)) (fun k => (lc (losparse_best_2 k) (lc (losparse_best_0 k) l0))) ⟨rfl, rfl, ⟨rfl, Nat.le_of_ble_eq_true rfl⟩, rfl⟩ (fun _ => rfl) (by kernel_rfl) fun k x => by kernel_rfl

/-! slices.Clone[[]int,int] -/
def bslices_Clone_int_int_ (k : Nat) (s : List Int) : Option (Nat × List Int) :=
 if (((List.length s) * 8) ≤ 140737488355328) then
  (some ((List.length s), s))
 else
 none
def Fslices_Clone_int_int_ : Nat → List Int → Option (Nat × List Int)
 | 0, _ => none
 | k + 1, s => bslices_Clone_int_int_ k s
def shslices_Clone_int_int_ : FS := ⟨[vJ], []⟩
def rsslices_Clone_int_int_ : List FS := [⟨[.a (.smz 0)], [.arr (.int .i64) 1 3 false]⟩]
def Islices_Clone_int_int_ (k : Nat) : Inst := ⟨43, shslices_Clone_int_int_, rsslices_Clone_int_int_, fun x => Fslices_Clone_int_int_ k x⟩
theorem stslices_Clone_int_int_ (k : Nat) (x : shslices_Clone_int_int_.D) : Fslices_Clone_int_int_ (k + 1) x = (kClone 3) (DS FS.D rsslices_Clone_int_int_) (shslices_Clone_int_int_.enc x).1 (shslices_Clone_int_int_.enc x).2 (putS FS.dec rsslices_Clone_int_int_) := by kernel_rfl
theorem okslices_Clone_int_int_ : ∀ k, InstOk (call cf k) (Islices_Clone_int_int_ k)
 | 0 => fun x y e => absurd (show (none : Option _) = some y from e) (by simp)
 | k + 1 => inst_okX (c := cf) (k := k) (f := 43) (g := gClone 3) (G := kClone 3) (sh := shslices_Clone_int_int_) (os := rsslices_Clone_int_int_) rfl (kClone_at 3) (fun x => Fslices_Clone_int_int_ (k + 1) x) (stslices_Clone_int_int_ k)

/-! slices.Index[[]int,int] -/
def Lslices_Index_int_int__0s (k : Nat) (rec : List Int → Int → Int → Int → Option ((Int) ⊕ (Unit))) (s : List Int) (v : Int) (x : Int) (x1 : Int) : Option ((Int) ⊕ (Unit)) :=
 if ((decide (x1 < x)) = true) then
  if ((0 : Int) ≤ x1) then
   Option.bind (s)[(Int.toNat x1)]? fun x4 =>
   if ((v == x4) = true) then
    (some (Sum.inl x1))
   else
   rec s v x (IntKind.wrap .i64 (x1 + (1 : Int)))
  else
  none
 else
 (some (Sum.inr ()))
def Lslices_Index_int_int__0 (k n : Nat) : List Int → Int → Int → Int → Option ((Int) ⊕ (Unit)) := Nat.rec (fun _ _ _ _ => none) (fun _ r => Lslices_Index_int_int__0s k r) n
def bslices_Index_int_int_ (k : Nat) (s : List Int) (v : Int) : Option (Int) :=
 Option.bind (Lslices_Index_int_int__0 k k s v (((List.length s) : Nat) : Int) (0 : Int)) fun r3 =>
 eitherK r3
  (fun r3 =>
  (some r3))
  (fun r3 =>
  (some (-(1 : Int))))
def Fslices_Index_int_int_ : Nat → List Int → Int → Option (Int)
 | 0, _, _ => none
 | k + 1, s, v => bslices_Index_int_int_ k s v
def Islices_Index_int_int_ : Nat → Inst := mkI 54 ⟨[vJ, vI], []⟩ [⟨[vI], []⟩] fun k x => Fslices_Index_int_int_ k x.1 x.2
def LIslices_Index_int_int__0 (k : Nat) : LInst := mkL 0 [⟨[(0, vJ), (1, vI), (7, vI), (8, vI)], [], 0⟩] [⟨none, ⟨[(4, vI)], [], 0⟩⟩, ⟨some 0, ⟨[], [], 0⟩⟩] (fun n x => Lslices_Index_int_int__0 k n x.1 x.2.1 x.2.2.1 x.2.2.2) k
theorem loslices_Index_int_int__0 (k : Nat) : LIo 54 Try.f54 0 k (LIslices_Index_int_int__0 k) :=
 lpk [] a0 l0 (fun _ => rfl) (by kernel_rfl) fun n x => by kernel_rfl
theorem okslices_Index_int_int_ : ∀ k, InstOk (call cf k) (Islices_Index_int_int_ k) :=
 fnk 0 [0] Try.func54 (fun k => a0) (fun k => (lc (loslices_Index_int_int__0 k) l0)) ⟨rfl, rfl, ⟨rfl, Nat.le_of_ble_eq_true rfl⟩, rfl⟩ (fun _ => rfl) (by kernel_rfl) fun k x => by kernel_rfl

/-! slices.Contains[[]int,int] -/
def bslices_Contains_int_int_ (k : Nat) (s : List Int) (v : Int) : Option (Bool) :=
 Option.bind (Fslices_Index_int_int_ k s v) fun r3 =>
 (some (decide (r3 ≥ (0 : Int))))
def Fslices_Contains_int_int_ : Nat → List Int → Int → Option (Bool)
 | 0, _, _ => none
 | k + 1, s, v => bslices_Contains_int_int_ k s v
def Islices_Contains_int_int_ : Nat → Inst := mkI 42 ⟨[vJ, vI], []⟩ [⟨[vB], []⟩] fun k x => Fslices_Contains_int_int_ k x.1 x.2
theorem okslices_Contains_int_int_ : ∀ k, InstOk (call cf k) (Islices_Contains_int_int_ k) :=
 fnk 0 [] Try.func42 (fun k => (ac (okslices_Index_int_int_ k) a0)) (fun k => l0) ⟨rfl, rfl, ⟨rfl, Nat.le_of_ble_eq_true rfl⟩, rfl⟩ (fun _ => rfl) (by kernel_rfl) fun k x => by kernel_rfl

/-! slices.Sort[[]int,int] -/
def bslices_Sort_int_int__mfi (k : Nat) (x : Nat) (xs : List Int) : Option (List Int) :=
 if (((0 + x) ≤ (List.length xs)) ∧ (x < 4611686018427387904)) then
  (some (((List.take 0 xs) ++ (sortI (List.take x xs))) ++ (List.drop (0 + x) xs)))
 else
 none
def Fslices_Sort_int_int__mfi : Nat → Nat → List Int → Option (List Int)
 | 0, _, _ => none
 | k + 1, x, xs => bslices_Sort_int_int__mfi k x xs
def shslices_Sort_int_int__mfi : FS := ⟨[.a (.smz 0)], [.arr (.int .i64) 1 3 false]⟩
def rsslices_Sort_int_int__mfi : List FS := [⟨[], [.arr (.int .i64) 1 3 false]⟩]
def Islices_Sort_int_int__mfi (k : Nat) : Inst := ⟨44, shslices_Sort_int_int__mfi, rsslices_Sort_int_int__mfi, fun x => Fslices_Sort_int_int__mfi k x.1 x.2⟩
theorem stslices_Sort_int_int__mfi (k : Nat) (x : shslices_Sort_int_int__mfi.D) : Fslices_Sort_int_int__mfi (k + 1) x.1 x.2 = (kSort) (DS FS.D rsslices_Sort_int_int__mfi) (shslices_Sort_int_int__mfi.enc x).1 (shslices_Sort_int_int__mfi.enc x).2 (putS FS.dec rsslices_Sort_int_int__mfi) := by kernel_rfl
theorem okslices_Sort_int_int__mfi : ∀ k, InstOk (call cf k) (Islices_Sort_int_int__mfi k)
 | 0 => fun x y e => absurd (show (none : Option _) = some y from e) (by simp)
 | k + 1 => inst_okX (c := cf) (k := k) (f := 44) (g := gSort) (G := kSort) (sh := shslices_Sort_int_int__mfi) (os := rsslices_Sort_int_int__mfi) rfl (kSort_at) (fun x => Fslices_Sort_int_int__mfi (k + 1) x.1 x.2) (stslices_Sort_int_int__mfi k)

/-! slices.Compact[[]int,int] -/
def Lslices_Compact_int_int__mfi_2s (k : Nat) (rec : Nat → Int → Nat → Nat → Int → List Int → Option (Nat × Int × List Int)) (s : Nat) (k1 : Int) (s20 : Nat) (s21 : Nat) (k2 : Int) (s2s : List Int) : Option (Nat × Int × List Int) :=
 if ((decide (k2 < ((s21 : Nat) : Int))) = true) then
  if (((0 : Int) ≤ k2) ∧ (k2 < ((s21 : Nat) : Int))) then
   Option.bind (s2s)[(s20 + (Int.toNat k2))]? fun x7 =>
   if (((0 : Int) ≤ (IntKind.wrap .i64 (k2 - (1 : Int)))) ∧ ((IntKind.wrap .i64 (k2 - (1 : Int))) < ((s21 : Nat) : Int))) then
    Option.bind (s2s)[(s20 + (Int.toNat (IntKind.wrap .i64 (k2 - (1 : Int)))))]? fun x8 =>
    if ((x7 != x8) = true) then
     if (((0 : Int) ≤ k2) ∧ (k2 < ((s21 : Nat) : Int))) then
      Option.bind (s2s)[(s20 + (Int.toNat k2))]? fun x9 =>
      if (((0 : Int) ≤ k1) ∧ (k1 < ((s : Nat) : Int))) then
       Option.bind (s2s)[(0 + (Int.toNat k1))]? fun x10 =>
       rec s (IntKind.wrap .i64 (k1 + (1 : Int))) s20 s21 (IntKind.wrap .i64 (k2 + (1 : Int))) (List.set s2s (0 + (Int.toNat k1)) x9)
      else
      none
     else
     none
    else
    rec s k1 s20 s21 (IntKind.wrap .i64 (k2 + (1 : Int))) s2s
   else
   none
  else
  none
 else
 (some (s, k1, s2s))
def Lslices_Compact_int_int__mfi_2 (k n : Nat) : Nat → Int → Nat → Nat → Int → List Int → Option (Nat × Int × List Int) := Nat.rec (fun _ _ _ _ _ _ => none) (fun _ r => Lslices_Compact_int_int__mfi_2s k r) n
def Lslices_Compact_int_int__mfi_0s (k : Nat) (rec : Nat → Int → List Int → Option ((Nat × List Int) ⊕ (Nat × List Int))) (s : Nat) (k1 : Int) (ss : List Int) : Option ((Nat × List Int) ⊕ (Nat × List Int)) :=
 if ((decide (k1 < ((s : Nat) : Int))) = true) then
  if (((0 : Int) ≤ k1) ∧ (k1 < ((s : Nat) : Int))) then
   Option.bind (ss)[(0 + (Int.toNat k1))]? fun x5 =>
   if (((0 : Int) ≤ (IntKind.wrap .i64 (k1 - (1 : Int)))) ∧ ((IntKind.wrap .i64 (k1 - (1 : Int))) < ((s : Nat) : Int))) then
    Option.bind (ss)[(0 + (Int.toNat (IntKind.wrap .i64 (k1 - (1 : Int)))))]? fun x6 =>
    if ((x5 == x6) = true) then
     if (((0 : Int) ≤ k1) ∧ ((k1 ≤ ((s : Nat) : Int)) ∧ (((0 + (Int.toNat ((s : Nat) : Int))) ≤ (List.length ss)) ∧ ((k1 < ((s : Nat) : Int)) ∨ (false = true))))) then
      Option.bind (Lslices_Compact_int_int__mfi_2 k k s k1 (0 + (Int.toNat k1)) ((Int.toNat ((s : Nat) : Int)) - (Int.toNat k1)) (1 : Int) ss) fun r5 =>
      if (((0 : Int) ≤ r5.2.1) ∧ ((r5.2.1 ≤ ((r5.1 : Nat) : Int)) ∧ (((0 + (Int.toNat ((r5.1 : Nat) : Int))) ≤ (List.length r5.2.2)) ∧ ((r5.2.1 < ((r5.1 : Nat) : Int)) ∨ (false = true))))) then
       if (((0 + (Int.toNat r5.2.1)) + ((Int.toNat ((r5.1 : Nat) : Int)) - (Int.toNat r5.2.1))) ≤ (List.length r5.2.2)) then
        if (((0 : Int) ≤ (0 : Int)) ∧ (((0 : Int) ≤ r5.2.1) ∧ (((0 + (Int.toNat r5.2.1)) ≤ (List.length (((List.take (0 + (Int.toNat r5.2.1)) r5.2.2) ++ (List.replicate ((Int.toNat ((r5.1 : Nat) : Int)) - (Int.toNat r5.2.1)) (0 : Int))) ++ (List.drop ((0 + (Int.toNat r5.2.1)) + ((Int.toNat ((r5.1 : Nat) : Int)) - (Int.toNat r5.2.1))) r5.2.2)))) ∧ (((0 : Int) < r5.2.1) ∨ (true = true))))) then
         (some (Sum.inl ((Int.toNat r5.2.1), (((List.take (0 + (Int.toNat r5.2.1)) r5.2.2) ++ (List.replicate ((Int.toNat ((r5.1 : Nat) : Int)) - (Int.toNat r5.2.1)) (0 : Int))) ++ (List.drop ((0 + (Int.toNat r5.2.1)) + ((Int.toNat ((r5.1 : Nat) : Int)) - (Int.toNat r5.2.1))) r5.2.2)))))
        else
        none
       else
       none
      else
      none
     else
     none
    else
    rec s (IntKind.wrap .i64 (k1 + (1 : Int))) ss
   else
   none
  else
  none
 else
 (some (Sum.inr (s, ss)))
def Lslices_Compact_int_int__mfi_0 (k n : Nat) : Nat → Int → List Int → Option ((Nat × List Int) ⊕ (Nat × List Int)) := Nat.rec (fun _ _ _ => none) (fun _ r => Lslices_Compact_int_int__mfi_0s k r) n
def bslices_Compact_int_int__mfi (k : Nat) (s : Nat) (ss : List Int) : Option (Nat × List Int) :=
 if ((decide (((s : Nat) : Int) < (2 : Int))) = true) then
  (some (s, ss))
 else
 Option.bind (Lslices_Compact_int_int__mfi_0 k k s (1 : Int) ss) fun r5 =>
 eitherK r5
  (fun r5 =>
  (some (r5.1, r5.2)))
  (fun r5 =>
  (some (r5.1, r5.2)))
def Fslices_Compact_int_int__mfi : Nat → Nat → List Int → Option (Nat × List Int)
 | 0, _, _ => none
 | k + 1, s, ss => bslices_Compact_int_int__mfi k s ss
def Islices_Compact_int_int__mfi : Nat → Inst := mkI 45 ⟨[.a (.smz 0)], [.arr (.int .i64) 1 3 false]⟩ [⟨[.a (.smz 0)], [.arr (.int .i64) 1 3 false]⟩] fun k x => Fslices_Compact_int_int__mfi k x.1 x.2
def LIslices_Compact_int_int__mfi_2 (k : Nat) : LInst := mkL 2 [⟨[(0, .a (.smz 0)), (3, vI), (4, .a (.sms 0)), (5, vI)], [(0, some (.arr (.int .i64) 1 3 false))], 1⟩] [⟨some 2, ⟨[(0, .a (.smz 0)), (3, vI)], [(0, some (.arr (.int .i64) 1 3 false))], 1⟩⟩] (fun n x => Lslices_Compact_int_int__mfi_2 k n x.1 x.2.1 x.2.2.1 x.2.2.2.1 x.2.2.2.2.1 x.2.2.2.2.2) k
theorem loslices_Compact_int_int__mfi_2 (k : Nat) : LIo 45 Try.f45 1 k (LIslices_Compact_int_int__mfi_2 k) :=
 lpk [] a0 l0 (fun _ => rfl) (by kernel_rfl) fun n x => by kernel_rfl
def LIslices_Compact_int_int__mfi_0 (k : Nat) : LInst := mkL 0 [⟨[(0, .a (.smz 0)), (3, vI)], [(0, some (.arr (.int .i64) 1 3 false))], 1⟩] [⟨none, ⟨[(2, .a (.smz 0))], [(0, some (.arr (.int .i64) 1 3 false))], 1⟩⟩, ⟨some 0, ⟨[(0, .a (.smz 0))], [(0, some (.arr (.int .i64) 1 3 false))], 1⟩⟩] (fun n x => Lslices_Compact_int_int__mfi_0 k n x.1 x.2.1 x.2.2) k
theorem loslices_Compact_int_int__mfi_0 (k : Nat) : LIo 45 Try.f45 1 k (LIslices_Compact_int_int__mfi_0 k) :=
 lpk [2] a0 (lc (loslices_Compact_int_int__mfi_2 k) l0) (fun _ => rfl) (by kernel_rfl) fun n x => by kernel_rfl
theorem okslices_Compact_int_int__mfi : ∀ k, InstOk (call cf k) (Islices_Compact_int_int__mfi k) :=
 fnk 1 [0] Try.func45 (fun k => a0) (fun k => (lc (loslices_Compact_int_int__mfi_2 k) (lc (loslices_Compact_int_int__mfi_0 k) l0))) ⟨rfl, rfl, ⟨rfl, Nat.le_of_ble_eq_true rfl⟩, rfl⟩ (fun _ => rfl) (by kernel_rfl) fun k x => by kernel_rfl

/-! shunt/sparse.eliminate$1 -/
def bsparse_eliminate_1 (k : Nat) (c : Int) (x : Int) : Option (Bool) :=
 (some (c == x))
def Fsparse_eliminate_1 : Nat → Int → Int → Option (Bool)
 | 0, _, _ => none
 | k + 1, c, x => bsparse_eliminate_1 k c x
def Isparse_eliminate_1 : Nat → Inst := mkI 47 ⟨[vI, .a (.lf (.ref (.int .i64)))], []⟩ [⟨[vB], []⟩] fun k x => Fsparse_eliminate_1 k x.1 x.2
theorem oksparse_eliminate_1 : ∀ k, InstOk (call cf k) (Isparse_eliminate_1 k) :=
 fnk 0 [] Try.func47 (fun k => a0) (fun k => l0) ⟨rfl, rfl, ⟨rfl, Nat.le_of_ble_eq_true rfl⟩, rfl⟩ (fun _ => rfl) (by kernel_rfl) fun k x => by kernel_rfl

/-! slices.IndexFunc[[]int,int] -/
def Lslices_IndexFunc_int_int__tfn_0s (k : Nat) (rec : Nat → Int → Int → Int → List Int → Option ((Int × List Int) ⊕ (List Int))) (s : Nat) (f : Int) (x : Int) (x1 : Int) (ss : List Int) : Option ((Int × List Int) ⊕ (List Int)) :=
 if ((decide (x1 < x)) = true) then
  if (((0 : Int) ≤ x1) ∧ (x1 < ((s : Nat) : Int))) then
   Option.bind (ss)[(0 + (Int.toNat x1))]? fun x5 =>
   Option.bind (Fsparse_eliminate_1 k x5 f) fun r6 =>
   if (r6 = true) then
    (some (Sum.inl (x1, ss)))
   else
   rec s f x (IntKind.wrap .i64 (x1 + (1 : Int))) ss
  else
  none
 else
 (some (Sum.inr ss))
def Lslices_IndexFunc_int_int__tfn_0 (k n : Nat) : Nat → Int → Int → Int → List Int → Option ((Int × List Int) ⊕ (List Int)) := Nat.rec (fun _ _ _ _ _ => none) (fun _ r => Lslices_IndexFunc_int_int__tfn_0s k r) n
def bslices_IndexFunc_int_int__tfn (k : Nat) (s : Nat) (f : Int) (ss : List Int) : Option (Int × List Int) :=
 Option.bind (Lslices_IndexFunc_int_int__tfn_0 k k s f ((s : Nat) : Int) (0 : Int) ss) fun r6 =>
 eitherK r6
  (fun r6 =>
  (some (r6.1, r6.2)))
  (fun r6 =>
  (some ((-(1 : Int)), r6)))
def Fslices_IndexFunc_int_int__tfn : Nat → Nat → Int → List Int → Option (Int × List Int)
 | 0, _, _, _ => none
 | k + 1, s, f, ss => bslices_IndexFunc_int_int__tfn k s f ss
def Islices_IndexFunc_int_int__tfn : Nat → Inst := mkI 57 ⟨[.a (.smz 0), .a (.fn 47 [(.ref (.int .i64))])], [.arr (.int .i64) 1 3 false]⟩ [⟨[vI], [.arr (.int .i64) 1 3 false]⟩] fun k x => Fslices_IndexFunc_int_int__tfn k x.1 x.2.1 x.2.2
theorem alslices_IndexFunc_int_int__tfn (k : Nat) : AllI (call cf k) [Isparse_eliminate_1 k] :=
 ac (oksparse_eliminate_1 k) a0
def LIslices_IndexFunc_int_int__tfn_0 (k : Nat) : LInst := mkL 0 [⟨[(0, .a (.smz 0)), (1, .a (.fn 47 [(.ref (.int .i64))])), (7, vI), (8, vI)], [(0, some (.arr (.int .i64) 1 3 false))], 1⟩] [⟨none, ⟨[(4, vI)], [(0, some (.arr (.int .i64) 1 3 false))], 1⟩⟩, ⟨some 0, ⟨[], [(0, some (.arr (.int .i64) 1 3 false))], 1⟩⟩] (fun n x => Lslices_IndexFunc_int_int__tfn_0 k n x.1 x.2.1 x.2.2.1 x.2.2.2.1 x.2.2.2.2) k
theorem loslices_IndexFunc_int_int__tfn_0 (k : Nat) : LIo 57 Try.f57 1 k (LIslices_IndexFunc_int_int__tfn_0 k) :=
 lpk [] (alslices_IndexFunc_int_int__tfn k) l0 (fun _ => rfl) (by kernel_rfl) fun n x => by kernel_rfl
theorem okslices_IndexFunc_int_int__tfn : ∀ k, InstOk (call cf k) (Islices_IndexFunc_int_int__tfn k) :=
 fnk 1 [0] Try.func57 (fun k => (alslices_IndexFunc_int_int__tfn k)) (fun k => (lc (loslices_IndexFunc_int_int__tfn_0 k) l0)) ⟨rfl, rfl, ⟨rfl, Nat.le_of_ble_eq_true rfl⟩, rfl⟩ (fun _ => rfl) (by kernel_rfl) fun k x => by kernel_rfl

/-! slices.DeleteFunc[[]int,int] -/
def Lslices_DeleteFunc_int_int__tfn_0s (k : Nat) (rec : Nat → Int → Int → Int → List Int → Option (Nat × Int × List Int)) (s : Nat) (del : Int) (i : Int) (j : Int) (ss : List Int) : Option (Nat × Int × List Int) :=
 if ((decide (j < ((s : Nat) : Int))) = true) then
  if (((0 : Int) ≤ j) ∧ (j < ((s : Nat) : Int))) then
   Option.bind (ss)[(0 + (Int.toNat j))]? fun x5 =>
   Option.bind (Fsparse_eliminate_1 k x5 del) fun r7 =>
   if ((!r7) = true) then
    if (((0 : Int) ≤ i) ∧ (i < ((s : Nat) : Int))) then
     Option.bind (ss)[(0 + (Int.toNat i))]? fun x6 =>
     rec s del (IntKind.wrap .i64 (i + (1 : Int))) (IntKind.wrap .i64 (j + (1 : Int))) (List.set ss (0 + (Int.toNat i)) x5)
    else
    none
   else
   rec s del i (IntKind.wrap .i64 (j + (1 : Int))) ss
  else
  none
 else
 (some (s, i, ss))
def Lslices_DeleteFunc_int_int__tfn_0 (k n : Nat) : Nat → Int → Int → Int → List Int → Option (Nat × Int × List Int) := Nat.rec (fun _ _ _ _ _ => none) (fun _ r => Lslices_DeleteFunc_int_int__tfn_0s k r) n
def bslices_DeleteFunc_int_int__tfn (k : Nat) (s : Nat) (del : Int) (ss : List Int) : Option (Nat × List Int) :=
 Option.bind (Fslices_IndexFunc_int_int__tfn k s del ss) fun r6 =>
 if ((r6.1 == (-(1 : Int))) = true) then
  (some (s, r6.2))
 else
 Option.bind (Lslices_DeleteFunc_int_int__tfn_0 k k s del r6.1 (IntKind.wrap .i64 (r6.1 + (1 : Int))) r6.2) fun r7 =>
 if (((0 : Int) ≤ r7.2.1) ∧ ((r7.2.1 ≤ ((r7.1 : Nat) : Int)) ∧ (((0 + (Int.toNat ((r7.1 : Nat) : Int))) ≤ (List.length r7.2.2)) ∧ ((r7.2.1 < ((r7.1 : Nat) : Int)) ∨ (false = true))))) then
  if (((0 + (Int.toNat r7.2.1)) + ((Int.toNat ((r7.1 : Nat) : Int)) - (Int.toNat r7.2.1))) ≤ (List.length r7.2.2)) then
   if (((0 : Int) ≤ (0 : Int)) ∧ (((0 : Int) ≤ r7.2.1) ∧ (((0 + (Int.toNat r7.2.1)) ≤ (List.length (((List.take (0 + (Int.toNat r7.2.1)) r7.2.2) ++ (List.replicate ((Int.toNat ((r7.1 : Nat) : Int)) - (Int.toNat r7.2.1)) (0 : Int))) ++ (List.drop ((0 + (Int.toNat r7.2.1)) + ((Int.toNat ((r7.1 : Nat) : Int)) - (Int.toNat r7.2.1))) r7.2.2)))) ∧ (((0 : Int) < r7.2.1) ∨ (true = true))))) then
    (some ((Int.toNat r7.2.1), (((List.take (0 + (Int.toNat r7.2.1)) r7.2.2) ++ (List.replicate ((Int.toNat ((r7.1 : Nat) : Int)) - (Int.toNat r7.2.1)) (0 : Int))) ++ (List.drop ((0 + (Int.toNat r7.2.1)) + ((Int.toNat ((r7.1 : Nat) : Int)) - (Int.toNat r7.2.1))) r7.2.2))))
   else
   none
  else
  none
 else
 none
def Fslices_DeleteFunc_int_int__tfn : Nat → Nat → Int → List Int → Option (Nat × List Int)
 | 0, _, _, _ => none
 | k + 1, s, del, ss => bslices_DeleteFunc_int_int__tfn k s del ss
def Islices_DeleteFunc_int_int__tfn : Nat → Inst := mkI 46 ⟨[.a (.smz 0), .a (.fn 47 [(.ref (.int .i64))])], [.arr (.int .i64) 1 3 false]⟩ [⟨[.a (.smz 0)], [.arr (.int .i64) 1 3 false]⟩] fun k x => Fslices_DeleteFunc_int_int__tfn k x.1 x.2.1 x.2.2
theorem alslices_DeleteFunc_int_int__tfn (k : Nat) : AllI (call cf k) [Islices_IndexFunc_int_int__tfn k, Isparse_eliminate_1 k] :=
 ac (okslices_IndexFunc_int_int__tfn k) (ac (oksparse_eliminate_1 k) a0)
def LIslices_DeleteFunc_int_int__tfn_0 (k : Nat) : LInst := mkL 0 [⟨[(0, .a (.smz 0)), (1, .a (.fn 47 [(.ref (.int .i64))])), (5, vI), (6, vI)], [(0, some (.arr (.int .i64) 1 3 false))], 1⟩] [⟨some 0, ⟨[(0, .a (.smz 0)), (5, vI)], [(0, some (.arr (.int .i64) 1 3 false))], 1⟩⟩] (fun n x => Lslices_DeleteFunc_int_int__tfn_0 k n x.1 x.2.1 x.2.2.1 x.2.2.2.1 x.2.2.2.2) k
theorem loslices_DeleteFunc_int_int__tfn_0 (k : Nat) : LIo 46 Try.f46 1 k (LIslices_DeleteFunc_int_int__tfn_0 k) :=
 lpk [] (alslices_DeleteFunc_int_int__tfn k) l0 (fun _ => rfl) (by kernel_rfl) fun n x => by kernel_rfl
theorem okslices_DeleteFunc_int_int__tfn : ∀ k, InstOk (call cf k) (Islices_DeleteFunc_int_int__tfn k) :=
 fnk 1 [0] Try.func46 (fun k => (alslices_DeleteFunc_int_int__tfn k)) (fun k => (lc (loslices_DeleteFunc_int_int__tfn_0 k) l0)) ⟨rfl, rfl, ⟨rfl, Nat.le_of_ble_eq_true rfl⟩, rfl⟩ (fun _ => rfl) (by kernel_rfl) fun k x => by kernel_rfl

/-! shunt/sparse.eliminate -/
def Lsparse_eliminate_0s (k : Nat) (rec : ((List (List Int) × Int × Nat × Int × List (List Int) × Int × Int × Int × List (List Int)) ⊕ (List (List Int) × Int × Nat × Int × List (List Int) × Int × Int × Int × List (List Int))) → Option ((Nat × Int × Int × List (List Int)) ⊕ (Nat × Int × Int × List (List Int)))) (x : (List (List Int) × Int × Nat × Int × List (List Int) × Int × Int × Int × List (List Int)) ⊕ (List (List Int) × Int × Nat × Int × List (List Int) × Int × Int × Int × List (List Int))) : Option ((Nat × Int × Int × List (List Int)) ⊕ (Nat × Int × Int × List (List Int))) :=
 eitherK x
 (fun x =>
 if ((decide (x.2.2.2.2.2.2.1 < x.2.2.2.2.2.1)) = true) then
  if ((0 : Int) ≤ x.2.2.2.2.2.2.1) then
   Option.bind (x.2.2.2.2.1)[(Int.toNat x.2.2.2.2.2.2.1)]? fun x1 =>
   if ((x.2.2.2.2.2.2.1 == x.2.1) = true) then
    rec (Sum.inl (x.1, x.2.1, x.2.2.1, x.2.2.2.1, x.2.2.2.2.1, x.2.2.2.2.2.1, (IntKind.wrap .i64 (x.2.2.2.2.2.2.1 + (1 : Int))), x.2.2.2.2.2.2.2.1, x.2.2.2.2.2.2.2.2))
   else
   Option.bind (Fslices_Clone_int_int_ k x1) fun r2 =>
   Option.bind (Fslices_Contains_int_int_ k x1 x.2.2.2.2.2.2.2.1) fun r3 =>
   if (r3 = true) then
    if ((0 : Int) ≤ x.2.1) then
     Option.bind (x.1)[(Int.toNat x.2.1)]? fun x2 =>
     if (r2.1 ≤ (List.length r2.2)) then
      if (((r2.1 + (List.length x2)) * 8) ≤ 140737488355328) then
       Option.bind (Fslices_Sort_int_int__mfi k (r2.1 + (List.length x2)) ((List.take r2.1 r2.2) ++ x2)) fun r4 =>
       Option.bind (Fslices_Compact_int_int__mfi k (r2.1 + (List.length x2)) r4) fun r5 =>
       Option.bind (Fslices_DeleteFunc_int_int__tfn k r5.1 x.2.2.2.2.2.2.2.1 r5.2) fun r6 =>
       if (((0 : Int) ≤ x.2.2.2.2.2.2.1) ∧ (x.2.2.2.2.2.2.1 < ((x.2.2.1 : Nat) : Int))) then
        if ((Int.toNat x.2.2.2.2.2.2.1) < (List.length x.2.2.2.2.2.2.2.2)) then
         if (r6.1 ≤ (List.length r6.2)) then
          rec (Sum.inr (x.1, x.2.1, x.2.2.1, (IntKind.wrap .i64 (x.2.2.2.1 + (IntKind.wrap .i64 (((r5.1 : Nat) : Int) - (((List.length x1) : Nat) : Int))))), x.2.2.2.2.1, x.2.2.2.2.2.1, (IntKind.wrap .i64 (x.2.2.2.2.2.2.1 + (1 : Int))), x.2.2.2.2.2.2.2.1, (tset x.2.2.2.2.2.2.2.2 (Int.toNat x.2.2.2.2.2.2.1) (List.take r6.1 r6.2))))
         else
         none
        else
        none
       else
       none
      else
      none
     else
     none
    else
    none
   else
   Option.bind (Fslices_DeleteFunc_int_int__tfn k r2.1 x.2.2.2.2.2.2.2.1 r2.2) fun r4 =>
   if (((0 : Int) ≤ x.2.2.2.2.2.2.1) ∧ (x.2.2.2.2.2.2.1 < ((x.2.2.1 : Nat) : Int))) then
    if ((Int.toNat x.2.2.2.2.2.2.1) < (List.length x.2.2.2.2.2.2.2.2)) then
     if (r4.1 ≤ (List.length r4.2)) then
      rec (Sum.inr (x.1, x.2.1, x.2.2.1, x.2.2.2.1, x.2.2.2.2.1, x.2.2.2.2.2.1, (IntKind.wrap .i64 (x.2.2.2.2.2.2.1 + (1 : Int))), x.2.2.2.2.2.2.2.1, (tset x.2.2.2.2.2.2.2.2 (Int.toNat x.2.2.2.2.2.2.1) (List.take r4.1 r4.2))))
     else
     none
    else
    none
   else
   none
  else
  none
 else
 (some (Sum.inl (x.2.2.1, x.2.2.2.1, x.2.2.2.2.2.2.2.1, x.2.2.2.2.2.2.2.2))))
 (fun x =>
 if ((decide (x.2.2.2.2.2.2.1 < x.2.2.2.2.2.1)) = true) then
  if ((0 : Int) ≤ x.2.2.2.2.2.2.1) then
   Option.bind (x.2.2.2.2.1)[(Int.toNat x.2.2.2.2.2.2.1)]? fun x1 =>
   if ((x.2.2.2.2.2.2.1 == x.2.1) = true) then
    rec (Sum.inr (x.1, x.2.1, x.2.2.1, x.2.2.2.1, x.2.2.2.2.1, x.2.2.2.2.2.1, (IntKind.wrap .i64 (x.2.2.2.2.2.2.1 + (1 : Int))), x.2.2.2.2.2.2.2.1, x.2.2.2.2.2.2.2.2))
   else
   Option.bind (Fslices_Clone_int_int_ k x1) fun r2 =>
   Option.bind (Fslices_Contains_int_int_ k x1 x.2.2.2.2.2.2.2.1) fun r3 =>
   if (r3 = true) then
    if ((0 : Int) ≤ x.2.1) then
     Option.bind (x.1)[(Int.toNat x.2.1)]? fun x2 =>
     if (r2.1 ≤ (List.length r2.2)) then
      if (((r2.1 + (List.length x2)) * 8) ≤ 140737488355328) then
       Option.bind (Fslices_Sort_int_int__mfi k (r2.1 + (List.length x2)) ((List.take r2.1 r2.2) ++ x2)) fun r4 =>
       Option.bind (Fslices_Compact_int_int__mfi k (r2.1 + (List.length x2)) r4) fun r5 =>
       Option.bind (Fslices_DeleteFunc_int_int__tfn k r5.1 x.2.2.2.2.2.2.2.1 r5.2) fun r6 =>
       if (((0 : Int) ≤ x.2.2.2.2.2.2.1) ∧ (x.2.2.2.2.2.2.1 < ((x.2.2.1 : Nat) : Int))) then
        if ((Int.toNat x.2.2.2.2.2.2.1) < (List.length x.2.2.2.2.2.2.2.2)) then
         if (r6.1 ≤ (List.length r6.2)) then
          rec (Sum.inr (x.1, x.2.1, x.2.2.1, (IntKind.wrap .i64 (x.2.2.2.1 + (IntKind.wrap .i64 (((r5.1 : Nat) : Int) - (((List.length x1) : Nat) : Int))))), x.2.2.2.2.1, x.2.2.2.2.2.1, (IntKind.wrap .i64 (x.2.2.2.2.2.2.1 + (1 : Int))), x.2.2.2.2.2.2.2.1, (tset x.2.2.2.2.2.2.2.2 (Int.toNat x.2.2.2.2.2.2.1) (List.take r6.1 r6.2))))
         else
         none
        else
        none
       else
       none
      else
      none
     else
     none
    else
    none
   else
   Option.bind (Fslices_DeleteFunc_int_int__tfn k r2.1 x.2.2.2.2.2.2.2.1 r2.2) fun r4 =>
   if (((0 : Int) ≤ x.2.2.2.2.2.2.1) ∧ (x.2.2.2.2.2.2.1 < ((x.2.2.1 : Nat) : Int))) then
    if ((Int.toNat x.2.2.2.2.2.2.1) < (List.length x.2.2.2.2.2.2.2.2)) then
     if (r4.1 ≤ (List.length r4.2)) then
      rec (Sum.inr (x.1, x.2.1, x.2.2.1, x.2.2.2.1, x.2.2.2.2.1, x.2.2.2.2.2.1, (IntKind.wrap .i64 (x.2.2.2.2.2.2.1 + (1 : Int))), x.2.2.2.2.2.2.2.1, (tset x.2.2.2.2.2.2.2.2 (Int.toNat x.2.2.2.2.2.2.1) (List.take r4.1 r4.2))))
     else
     none
    else
    none
   else
   none
  else
  none
 else
 (some (Sum.inr (x.2.2.1, x.2.2.2.1, x.2.2.2.2.2.2.2.1, x.2.2.2.2.2.2.2.2))))
def Lsparse_eliminate_0 (k n : Nat) : ((List (List Int) × Int × Nat × Int × List (List Int) × Int × Int × Int × List (List Int)) ⊕ (List (List Int) × Int × Nat × Int × List (List Int) × Int × Int × Int × List (List Int))) → Option ((Nat × Int × Int × List (List Int)) ⊕ (Nat × Int × Int × List (List Int))) := Nat.rec (fun _ => none) (fun _ r => Lsparse_eliminate_0s k r) n
def bsparse_eliminate (k : Nat) (p : List (List Int)) (row : Int) (col : Int) : Option (List (List Int) × Int) :=
 if (((0 : Int) ≤ (((List.length p) : Nat) : Int)) ∧ (((((List.length p) : Nat) : Int) ≤ (((List.length p) : Nat) : Int)) ∧ (((((List.length p) : Nat) : Int) * (24 : Int)) ≤ (140737488355328 : Int)))) then
  Option.bind (Lsparse_eliminate_0 k k (Sum.inl (p, row, (Int.toNat (((List.length p) : Nat) : Int)), (0 : Int), p, (((List.length p) : Nat) : Int), (0 : Int), col, (List.replicate (Int.toNat (((List.length p) : Nat) : Int)) [])))) fun r2 =>
  eitherK r2
   (fun r2 =>
   if ((0 + r2.1) ≤ (List.length r2.2.2.2)) then
    (some ((List.take r2.1 r2.2.2.2), r2.2.1))
   else
   none)
   (fun r2 =>
   if ((0 + r2.1) ≤ (List.length r2.2.2.2)) then
    (some ((List.take r2.1 r2.2.2.2), r2.2.1))
   else
   none)
 else
 none
def Fsparse_eliminate : Nat → List (List Int) → Int → Int → Option (List (List Int) × Int)
 | 0, _, _, _ => none
 | k + 1, p, row, col => bsparse_eliminate k p row col
def Isparse_eliminate : Nat → Inst := mkI 37 ⟨[.a (.lf (.sl (.sl (.int .i64)))), vI, vI], []⟩ [⟨[.a (.lf (.sl (.sl (.int .i64)))), vI], []⟩] fun k x => Fsparse_eliminate k x.1 x.2.1 x.2.2
theorem alsparse_eliminate (k : Nat) : AllI (call cf k) [Islices_Clone_int_int_ k, Islices_Contains_int_int_ k, Islices_Sort_int_int__mfi k, Islices_Compact_int_int__mfi k, Islices_DeleteFunc_int_int__tfn k] :=
 ac (okslices_Clone_int_int_ k) (ac (okslices_Contains_int_int_ k) (ac (okslices_Sort_int_int__mfi k) (ac (okslices_Compact_int_int__mfi k) (ac (okslices_DeleteFunc_int_int__tfn k) a0))))
def LIsparse_eliminate_0 (k : Nat) : LInst := mkL 0 [⟨[(0, .a (.lf (.sl (.sl (.int .i64))))), (1, vI), (5, .a (.ptr 0 0 0)), (8, .a (.smz 1)), (9, vI), (16, .a (.lf (.sl (.sl (.int .i64))))), (17, vI), (18, vI)], [(0, some (.raw [[.lf (.int .i64)]] 1 3 true false false)), (1, some (.nst (.int .i64) 3 1 41 false))], 2⟩, ⟨[(0, .a (.lf (.sl (.sl (.int .i64))))), (1, vI), (5, .a (.ptr 0 0 0)), (8, .a (.smz 1)), (9, vI), (16, .a (.lf (.sl (.sl (.int .i64))))), (17, vI), (18, vI)], [(0, some (.raw [[.lf (.int .i64)]] 1 3 true true false)), (1, some (.nst (.int .i64) 3 1 41 false))], 2⟩] [⟨some 0, ⟨[(8, .a (.smz 1)), (9, vI)], [(0, some (.raw [[.lf (.int .i64)]] 1 3 true false false)), (1, some (.nst (.int .i64) 3 1 41 false))], 2⟩⟩, ⟨some 0, ⟨[(8, .a (.smz 1)), (9, vI)], [(0, some (.raw [[.lf (.int .i64)]] 1 3 true true false)), (1, some (.nst (.int .i64) 3 1 41 false))], 2⟩⟩] (fun n x => Lsparse_eliminate_0 k n x) k
theorem losparse_eliminate_0 (k : Nat) : LIo 37 Try.f37 0 k (LIsparse_eliminate_0 k) :=
 lpk [] (alsparse_eliminate k) l0 (fun _ => rfl) (by kernel_rfl) fun n x => by kernel_rfl
theorem oksparse_eliminate : ∀ k, InstOk (call cf k) (Isparse_eliminate k) :=
 fnk 0 [0] Try.func37 (fun k => (alsparse_eliminate k)) (fun k => (lc (losparse_eliminate_0 k) l0)) ⟨rfl, rfl, ⟨rfl, Nat.le_of_ble_eq_true rfl⟩, rfl⟩ (fun _ => rfl) (by kernel_rfl) fun k x => by kernel_rfl

/-! shunt/sparse.Order -/
def Lsparse_Order_0s (k : Nat) (rec : List (List Int) → Nat → Nat → List Int → List Int → Option (Nat × Nat × Int × List Int × List Int)) (p : List (List Int)) (rows : Nat) (cols : Nat) (rowss : List Int) (colss : List Int) : Option (Nat × Nat × Int × List Int × List Int) :=
 Option.bind (Fsparse_best k p) fun r1 =>
 if ((!r1.2.2) = true) then
  (some (rows, cols, (0 : Int), rowss, colss))
 else
 if (rows ≤ (List.length rowss)) then
  if (((rows + (List.length (List.take 1 (r1.1 :: [])))) * 8) ≤ 140737488355328) then
   if (cols ≤ (List.length colss)) then
    if (((cols + (List.length (List.take 1 (r1.2.1 :: [])))) * 8) ≤ 140737488355328) then
     Option.bind (Fsparse_eliminate k p r1.1 r1.2.1) fun r2 =>
     rec r2.1 (rows + (List.length (List.take 1 (r1.1 :: [])))) (cols + (List.length (List.take 1 (r1.2.1 :: [])))) ((List.take rows rowss) ++ (List.take 1 (r1.1 :: []))) ((List.take cols colss) ++ (List.take 1 (r1.2.1 :: [])))
    else
    none
   else
   none
  else
  none
 else
 none
def Lsparse_Order_0 (k n : Nat) : List (List Int) → Nat → Nat → List Int → List Int → Option (Nat × Nat × Int × List Int × List Int) := Nat.rec (fun _ _ _ _ _ => none) (fun _ r => Lsparse_Order_0s k r) n
def bsparse_Order (k : Nat) (p : List (List Int)) : Option (List Int × List Int × Int) :=
 Option.bind (Fsparse_Check k p) fun r =>
 if ((r != (0 : Int)) = true) then
  (some ([], [], r))
 else
 Option.bind (Lsparse_Order_0 k k p 0 0 [] []) fun r1 =>
 if ((0 + r1.1) ≤ (List.length r1.2.2.2.1)) then
  if ((0 + r1.2.1) ≤ (List.length r1.2.2.2.2)) then
   (some ((List.take r1.1 r1.2.2.2.1), (List.take r1.2.1 r1.2.2.2.2), r1.2.2.1))
  else
  none
 else
 none
def Fsparse_Order : Nat → List (List Int) → Option (List Int × List Int × Int)
 | 0, _ => none
 | k + 1, p => bsparse_Order k p
def Isparse_Order : Nat → Inst := mkI 19 ⟨[.a (.lf (.sl (.sl (.int .i64))))], []⟩ [⟨[vJ, vJ, vI], []⟩] fun k x => Fsparse_Order k x
theorem alsparse_Order (k : Nat) : AllI (call cf k) [Isparse_Check k, Isparse_best k, Isparse_eliminate k] :=
 ac (oksparse_Check k) (ac (oksparse_best k) (ac (oksparse_eliminate k) a0))
def LIsparse_Order_0 (k : Nat) : LInst := mkL 0 [⟨[(0, .a (.lf (.sl (.sl (.int .i64))))), (6, .a (.smz 0)), (7, .a (.smz 1))], [(0, some (.arr (.int .i64) 1 3 false)), (1, some (.arr (.int .i64) 1 3 false))], 2⟩] [⟨none, ⟨[(2, .a (.smz 0)), (3, .a (.smz 1)), (4, vI)], [(0, some (.arr (.int .i64) 1 3 false)), (1, some (.arr (.int .i64) 1 3 false))], 2⟩⟩] (fun n x => Lsparse_Order_0 k n x.1 x.2.1 x.2.2.1 x.2.2.2.1 x.2.2.2.2) k
theorem losparse_Order_0 (k : Nat) : LIo 19 Try.f19 0 k (LIsparse_Order_0 k) :=
 lpk [] (alsparse_Order k) l0 (fun _ => rfl) (by kernel_rfl) fun n x => by kernel_rfl
theorem oksparse_Order : ∀ k, InstOk (call cf k) (Isparse_Order k) :=
 fnk 0 [0] Try.func19 (fun k => (alsparse_Order k)) (fun k => (lc (losparse_Order_0 k) l0)) ⟨rfl, rfl, ⟨rfl, Nat.le_of_ble_eq_true rfl⟩, rfl⟩ (fun _ => rfl) (by kernel_rfl) fun k x => by kernel_rfl

/-! shunt/sparse.in -/
def bsparse_in (k : Nat) (p : List (List Int)) (row : Int) (col : Int) : Option (Bool) :=
 if ((decide (row ≥ (0 : Int))) = true) then
  if ((decide (row < (((List.length p) : Nat) : Int))) = true) then
   if ((0 : Int) ≤ row) then
    Option.bind (p)[(Int.toNat row)]? fun x5 =>
    Option.bind (Fslices_Contains_int_int_ k x5 col) fun r2 =>
    (some r2)
   else
   none
  else
  (some false)
 else
 (some false)
def Fsparse_in : Nat → List (List Int) → Int → Int → Option (Bool)
 | 0, _, _, _ => none
 | k + 1, p, row, col => bsparse_in k p row col
def Isparse_in : Nat → Inst := mkI 30 ⟨[.a (.lf (.sl (.sl (.int .i64)))), vI, vI], []⟩ [⟨[vB], []⟩] fun k x => Fsparse_in k x.1 x.2.1 x.2.2
theorem oksparse_in : ∀ k, InstOk (call cf k) (Isparse_in k) :=
 fnk 0 [] Try.func30 (fun k => (ac (okslices_Contains_int_int_ k) a0)) (fun k => l0) ⟨rfl, rfl, ⟨rfl, Nat.le_of_ble_eq_true rfl⟩, rfl⟩ (fun _ => rfl) (by kernel_rfl) fun k x => by kernel_rfl

/-! shunt/sparse.Fill -/
def Lsparse_Fill_0s (k : Nat) (rec : List (List Int) → List Int → Int → List Int → Int → Int → Option ((Int × Int) ⊕ (Int))) (p : List (List Int)) (cols : List Int) (all : Int) (x : List Int) (x1 : Int) (x2 : Int) : Option ((Int × Int) ⊕ (Int)) :=
 if ((decide (x2 < x1)) = true) then
  if ((0 : Int) ≤ x2) then
   Option.bind (x)[(Int.toNat x2)]? fun x3 =>
   if ((0 : Int) ≤ x2) then
    Option.bind (cols)[(Int.toNat x2)]? fun x4 =>
    Option.bind (Fsparse_in k p x3 x4) fun r2 =>
    if ((!r2) = true) then
     (some (Sum.inl ((0 : Int), (1 : Int))))
    else
    if ((0 : Int) ≤ x2) then
     Option.bind (cols)[(Int.toNat x2)]? fun x5 =>
     Option.bind (Fsparse_eliminate k p x3 x5) fun r3 =>
     rec r3.1 cols (IntKind.wrap .i64 (all + r3.2)) x x1 (IntKind.wrap .i64 (x2 + (1 : Int)))
    else
    none
   else
   none
  else
  none
 else
 (some (Sum.inr all))
def Lsparse_Fill_0 (k n : Nat) : List (List Int) → List Int → Int → List Int → Int → Int → Option ((Int × Int) ⊕ (Int)) := Nat.rec (fun _ _ _ _ _ _ => none) (fun _ r => Lsparse_Fill_0s k r) n
def bsparse_Fill (k : Nat) (p : List (List Int)) (rows : List Int) (cols : List Int) : Option (Int × Int) :=
 Option.bind (Fsparse_Check k p) fun r1 =>
 if ((r1 != (0 : Int)) = true) then
  (some ((0 : Int), r1))
 else
 if (((((List.length rows) : Nat) : Int) != (((List.length cols) : Nat) : Int)) = true) then
  (some ((0 : Int), (5 : Int)))
 else
 Option.bind (Lsparse_Fill_0 k k p cols (0 : Int) rows (((List.length rows) : Nat) : Int) (0 : Int)) fun r2 =>
 eitherK r2
  (fun r2 =>
  (some (r2.1, r2.2)))
  (fun r2 =>
  (some (r2, (0 : Int))))
def Fsparse_Fill : Nat → List (List Int) → List Int → List Int → Option (Int × Int)
 | 0, _, _, _ => none
 | k + 1, p, rows, cols => bsparse_Fill k p rows cols
def Isparse_Fill : Nat → Inst := mkI 25 ⟨[.a (.lf (.sl (.sl (.int .i64)))), vJ, vJ], []⟩ [⟨[vI, vI], []⟩] fun k x => Fsparse_Fill k x.1 x.2.1 x.2.2
theorem alsparse_Fill (k : Nat) : AllI (call cf k) [Isparse_Check k, Isparse_in k, Isparse_eliminate k] :=
 ac (oksparse_Check k) (ac (oksparse_in k) (ac (oksparse_eliminate k) a0))
def LIsparse_Fill_0 (k : Nat) : LInst := mkL 0 [⟨[(0, .a (.lf (.sl (.sl (.int .i64))))), (2, vJ), (9, vI), (23, vJ), (24, vI), (25, vI)], [], 0⟩] [⟨none, ⟨[(6, vI), (7, vI)], [], 0⟩⟩, ⟨some 0, ⟨[(9, vI)], [], 0⟩⟩] (fun n x => Lsparse_Fill_0 k n x.1 x.2.1 x.2.2.1 x.2.2.2.1 x.2.2.2.2.1 x.2.2.2.2.2) k
theorem losparse_Fill_0 (k : Nat) : LIo 25 Try.f25 0 k (LIsparse_Fill_0 k) :=
 lpk [] (alsparse_Fill k) l0 (fun _ => rfl) (by kernel_rfl) fun n x => by kernel_rfl
theorem oksparse_Fill : ∀ k, InstOk (call cf k) (Isparse_Fill k) :=
 fnk 0 [0] Try.func25 (fun k => (alsparse_Fill k)) (fun k => (lc (losparse_Fill_0 k) l0)) ⟨rfl, rfl, ⟨rfl, Nat.le_of_ble_eq_true rfl⟩, rfl⟩ (fun _ => rfl) (by kernel_rfl) fun k x => by kernel_rfl

/-! shunt/sparse.Eliminate -/
def bsparse_Eliminate (k : Nat) (p : List (List Int)) (row : Int) (col : Int) : Option (List (List Int) × Int) :=
 Option.bind (Fsparse_Check k p) fun r2 =>
 if ((r2 != (0 : Int)) = true) then
  (some ([], r2))
 else
 Option.bind (Fsparse_in k p row col) fun r3 =>
 if ((!r3) = true) then
  (some ([], (1 : Int)))
 else
 Option.bind (Fsparse_eliminate k p row col) fun r4 =>
 (some (r4.1, (0 : Int)))
def Fsparse_Eliminate : Nat → List (List Int) → Int → Int → Option (List (List Int) × Int)
 | 0, _, _, _ => none
 | k + 1, p, row, col => bsparse_Eliminate k p row col
def Isparse_Eliminate : Nat → Inst := mkI 17 ⟨[.a (.lf (.sl (.sl (.int .i64)))), vI, vI], []⟩ [⟨[.a (.lf (.sl (.sl (.int .i64)))), vI], []⟩] fun k x => Fsparse_Eliminate k x.1 x.2.1 x.2.2
theorem oksparse_Eliminate : ∀ k, InstOk (call cf k) (Isparse_Eliminate k) :=
 fnk 0 [] Try.func17 (fun k => (ac (oksparse_Check k) (ac (oksparse_in k) (ac (oksparse_eliminate k) a0)))) (fun k => l0) ⟨rfl, rfl, ⟨rfl, Nat.le_of_ble_eq_true rfl⟩, rfl⟩ (fun _ => rfl) (by kernel_rfl) fun k x => by kernel_rfl

/-! shunt/sparse.Best -/
def bsparse_Best (k : Nat) (p : List (List Int)) : Option (Int × Int × Bool × Int) :=
 Option.bind (Fsparse_Check k p) fun r3 =>
 if ((r3 != (0 : Int)) = true) then
  (some ((0 : Int), (0 : Int), false, r3))
 else
 Option.bind (Fsparse_best k p) fun r4 =>
 (some (r4.1, r4.2.1, r4.2.2, (0 : Int)))
def Fsparse_Best : Nat → List (List Int) → Option (Int × Int × Bool × Int)
 | 0, _ => none
 | k + 1, p => bsparse_Best k p
def Isparse_Best : Nat → Inst := mkI 15 ⟨[.a (.lf (.sl (.sl (.int .i64))))], []⟩ [⟨[vI, vI, vB, vI], []⟩] fun k x => Fsparse_Best k x
theorem oksparse_Best : ∀ k, InstOk (call cf k) (Isparse_Best k) :=
 fnk 0 [] Try.func15 (fun k => (ac (oksparse_Check k) (ac (oksparse_best k) a0))) (fun k => l0) ⟨rfl, rfl, ⟨rfl, Nat.le_of_ble_eq_true rfl⟩, rfl⟩ (fun _ => rfl) (by kernel_rfl) fun k x => by kernel_rfl

/-! shunt/sparse.Cost -/
def bsparse_Cost (k : Nat) (p : List (List Int)) (row : Int) (col : Int) : Option (Int × Int) :=
 Option.bind (Fsparse_Check k p) fun r4 =>
 if ((r4 != (0 : Int)) = true) then
  (some ((0 : Int), r4))
 else
 Option.bind (Fsparse_in k p row col) fun r5 =>
 if ((!r5) = true) then
  (some ((0 : Int), (1 : Int)))
 else
 if ((0 : Int) ≤ row) then
  Option.bind (p)[(Int.toNat row)]? fun x =>
  Option.bind (Fsparse_counts k p) fun r6 =>
  if (((0 : Int) ≤ col) ∧ (col < ((r6.1 : Nat) : Int))) then
   Option.bind (r6.2)[(0 + (Int.toNat col))]? fun x1 =>
   (some ((IntKind.wrap .i64 ((IntKind.wrap .i64 ((((List.length x) : Nat) : Int) - (1 : Int))) * (IntKind.wrap .i64 (x1 - (1 : Int))))), (0 : Int)))
  else
  none
 else
 none
def Fsparse_Cost : Nat → List (List Int) → Int → Int → Option (Int × Int)
 | 0, _, _, _ => none
 | k + 1, p, row, col => bsparse_Cost k p row col
def Isparse_Cost : Nat → Inst := mkI 13 ⟨[.a (.lf (.sl (.sl (.int .i64)))), vI, vI], []⟩ [⟨[vI, vI], []⟩] fun k x => Fsparse_Cost k x.1 x.2.1 x.2.2
theorem oksparse_Cost : ∀ k, InstOk (call cf k) (Isparse_Cost k) :=
 fnk 0 [] Try.func13 (fun k => (ac (oksparse_Check k) (ac (oksparse_in k) (ac (oksparse_counts k) a0)))) (fun k => l0) ⟨rfl, rfl, ⟨rfl, Nat.le_of_ble_eq_true rfl⟩, rfl⟩ (fun _ => rfl) (by kernel_rfl) fun k x => by kernel_rfl

/-! shunt/shuntref09.Ints -/
def Lshuntref09_Ints_0s (k : Nat) (rec : List Int → List Int → Int → Option ((Bool) ⊕ (Unit))) (a : List Int) (b : List Int) (i : Int) : Option ((Bool) ⊕ (Unit)) :=
 if ((decide (i < (((List.length a) : Nat) : Int))) = true) then
  if ((0 : Int) ≤ i) then
   Option.bind (a)[(Int.toNat i)]? fun x =>
   if ((0 : Int) ≤ i) then
    Option.bind (b)[(Int.toNat i)]? fun x1 =>
    if ((x != x1) = true) then
     (some (Sum.inl false))
    else
    rec a b (IntKind.wrap .i64 (i + (1 : Int)))
   else
   none
  else
  none
 else
 (some (Sum.inr ()))
def Lshuntref09_Ints_0 (k n : Nat) : List Int → List Int → Int → Option ((Bool) ⊕ (Unit)) := Nat.rec (fun _ _ _ => none) (fun _ r => Lshuntref09_Ints_0s k r) n
def bshuntref09_Ints (k : Nat) (a : List Int) (b : List Int) : Option (Bool) :=
 if (((((List.length a) : Nat) : Int) != (((List.length b) : Nat) : Int)) = true) then
  (some false)
 else
 Option.bind (Lshuntref09_Ints_0 k k a b (0 : Int)) fun r5 =>
 eitherK r5
  (fun r5 =>
  (some r5))
  (fun r5 =>
  (some true))
def Fshuntref09_Ints : Nat → List Int → List Int → Option (Bool)
 | 0, _, _ => none
 | k + 1, a, b => bshuntref09_Ints k a b
def Ishuntref09_Ints : Nat → Inst := mkI 22 ⟨[vJ, vJ], []⟩ [⟨[vB], []⟩] fun k x => Fshuntref09_Ints k x.1 x.2
def LIshuntref09_Ints_0 (k : Nat) : LInst := mkL 0 [⟨[(0, vJ), (1, vJ), (5, vI)], [], 0⟩] [⟨none, ⟨[(4, vB)], [], 0⟩⟩, ⟨some 0, ⟨[], [], 0⟩⟩] (fun n x => Lshuntref09_Ints_0 k n x.1 x.2.1 x.2.2) k
theorem loshuntref09_Ints_0 (k : Nat) : LIo 22 Try.f22 0 k (LIshuntref09_Ints_0 k) :=
 lpk [] a0 l0 (fun _ => rfl) (by kernel_rfl) fun n x => by kernel_rfl
theorem okshuntref09_Ints : ∀ k, InstOk (call cf k) (Ishuntref09_Ints k) :=
 fnk 0 [0] Try.func22 (fun k => a0) (fun k => (lc (loshuntref09_Ints_0 k) l0)) ⟨rfl, rfl, ⟨rfl, Nat.le_of_ble_eq_true rfl⟩, rfl⟩ (fun _ => rfl) (by kernel_rfl) fun k x => by kernel_rfl

/-! shunt/shuntref13.Same -/
def Lshuntref13_Same_2s (k : Nat) (rec : List (List Int) → List (List Int) → Int → Int → Option ((Bool) ⊕ (List (List Int) × List (List Int) × Int))) (a : List (List Int)) (b : List (List Int)) (i : Int) (k1 : Int) : Option ((Bool) ⊕ (List (List Int) × List (List Int) × Int)) :=
 if ((0 : Int) ≤ i) then
  Option.bind (a)[(Int.toNat i)]? fun x2 =>
  if ((decide (k1 < (((List.length x2) : Nat) : Int))) = true) then
   if ((0 : Int) ≤ i) then
    Option.bind (a)[(Int.toNat i)]? fun x3 =>
    if ((0 : Int) ≤ k1) then
     Option.bind (x3)[(Int.toNat k1)]? fun x4 =>
     if ((0 : Int) ≤ i) then
      Option.bind (b)[(Int.toNat i)]? fun x5 =>
      if ((0 : Int) ≤ k1) then
       Option.bind (x5)[(Int.toNat k1)]? fun x6 =>
       if ((x4 != x6) = true) then
        (some (Sum.inl false))
       else
       rec a b i (IntKind.wrap .i64 (k1 + (1 : Int)))
      else
      none
     else
     none
    else
    none
   else
   none
  else
  (some (Sum.inr (a, b, i)))
 else
 none
def Lshuntref13_Same_2 (k n : Nat) : List (List Int) → List (List Int) → Int → Int → Option ((Bool) ⊕ (List (List Int) × List (List Int) × Int)) := Nat.rec (fun _ _ _ _ => none) (fun _ r => Lshuntref13_Same_2s k r) n
def Lshuntref13_Same_0s (k : Nat) (rec : List (List Int) → List (List Int) → Int → Option ((Bool) ⊕ (Unit))) (a : List (List Int)) (b : List (List Int)) (i : Int) : Option ((Bool) ⊕ (Unit)) :=
 if ((decide (i < (((List.length a) : Nat) : Int))) = true) then
  if ((0 : Int) ≤ i) then
   Option.bind (a)[(Int.toNat i)]? fun x =>
   if ((0 : Int) ≤ i) then
    Option.bind (b)[(Int.toNat i)]? fun x1 =>
    if (((((List.length x) : Nat) : Int) != (((List.length x1) : Nat) : Int)) = true) then
     (some (Sum.inl false))
    else
    Option.bind (Lshuntref13_Same_2 k k a b i (0 : Int)) fun r7 =>
    eitherK r7
     (fun r7 =>
     (some (Sum.inl r7)))
     (fun r7 =>
     rec r7.1 r7.2.1 (IntKind.wrap .i64 (r7.2.2 + (1 : Int))))
   else
   none
  else
  none
 else
 (some (Sum.inr ()))
def Lshuntref13_Same_0 (k n : Nat) : List (List Int) → List (List Int) → Int → Option ((Bool) ⊕ (Unit)) := Nat.rec (fun _ _ _ => none) (fun _ r => Lshuntref13_Same_0s k r) n
def bshuntref13_Same (k : Nat) (a : List (List Int)) (b : List (List Int)) : Option (Bool) :=
 if (((((List.length a) : Nat) : Int) != (((List.length b) : Nat) : Int)) = true) then
  (some false)
 else
 Option.bind (Lshuntref13_Same_0 k k a b (0 : Int)) fun r7 =>
 eitherK r7
  (fun r7 =>
  (some r7))
  (fun r7 =>
  (some true))
def Fshuntref13_Same : Nat → List (List Int) → List (List Int) → Option (Bool)
 | 0, _, _ => none
 | k + 1, a, b => bshuntref13_Same k a b
def Ishuntref13_Same : Nat → Inst := mkI 21 ⟨[.a (.lf (.sl (.sl (.int .i64)))), .a (.lf (.sl (.sl (.int .i64))))], []⟩ [⟨[vB], []⟩] fun k x => Fshuntref13_Same k x.1 x.2
def LIshuntref13_Same_2 (k : Nat) : LInst := mkL 2 [⟨[(0, .a (.lf (.sl (.sl (.int .i64))))), (1, .a (.lf (.sl (.sl (.int .i64))))), (5, vI), (6, vI)], [], 0⟩] [⟨none, ⟨[(4, vB)], [], 0⟩⟩, ⟨some 2, ⟨[(0, .a (.lf (.sl (.sl (.int .i64))))), (1, .a (.lf (.sl (.sl (.int .i64))))), (5, vI)], [], 0⟩⟩] (fun n x => Lshuntref13_Same_2 k n x.1 x.2.1 x.2.2.1 x.2.2.2) k
theorem loshuntref13_Same_2 (k : Nat) : LIo 21 Try.f21 0 k (LIshuntref13_Same_2 k) :=
 lpk [] a0 l0 (fun _ => rfl) (by kernel_rfl) fun n x => by kernel_rfl
def LIshuntref13_Same_0 (k : Nat) : LInst := mkL 0 [⟨[(0, .a (.lf (.sl (.sl (.int .i64))))), (1, .a (.lf (.sl (.sl (.int .i64))))), (5, vI)], [], 0⟩] [⟨none, ⟨[(4, vB)], [], 0⟩⟩, ⟨some 0, ⟨[], [], 0⟩⟩] (fun n x => Lshuntref13_Same_0 k n x.1 x.2.1 x.2.2) k
theorem loshuntref13_Same_0 (k : Nat) : LIo 21 Try.f21 0 k (LIshuntref13_Same_0 k) :=
 lpk [2] a0 (lc (loshuntref13_Same_2 k) l0) (fun _ => rfl) (by kernel_rfl) fun n x => by kernel_rfl
theorem okshuntref13_Same : ∀ k, InstOk (call cf k) (Ishuntref13_Same k) :=
 fnk 0 [0] Try.func21 (fun k => a0) (fun k => (lc (loshuntref13_Same_2 k) (lc (loshuntref13_Same_0 k) l0))) ⟨rfl, rfl, ⟨rfl, Nat.le_of_ble_eq_true rfl⟩, rfl⟩ (fun _ => rfl) (by kernel_rfl) fun k x => by kernel_rfl

/-! shunt/shuntlaw13.awake -/
def bshuntlaw13_awake (k : Nat) : Option (Bool) :=
 Option.bind (Fsparse_Order k (List.take 3 ((List.take 3 ((0 : Int) :: ((1 : Int) :: ((2 : Int) :: [])))) :: ((List.take 2 ((0 : Int) :: ((1 : Int) :: []))) :: ((List.take 2 ((0 : Int) :: ((2 : Int) :: []))) :: []))))) fun r =>
 Option.bind (Fsparse_Fill k (List.take 3 ((List.take 3 ((0 : Int) :: ((1 : Int) :: ((2 : Int) :: [])))) :: ((List.take 2 ((0 : Int) :: ((1 : Int) :: []))) :: ((List.take 2 ((0 : Int) :: ((2 : Int) :: []))) :: [])))) (List.take 3 ((0 : Int) :: ((1 : Int) :: ((2 : Int) :: [])))) (List.take 3 ((0 : Int) :: ((1 : Int) :: ((2 : Int) :: []))))) fun r1 =>
 Option.bind (Fsparse_Eliminate k (List.take 3 ((List.take 3 ((0 : Int) :: ((1 : Int) :: ((2 : Int) :: [])))) :: ((List.take 2 ((0 : Int) :: ((1 : Int) :: []))) :: ((List.take 2 ((0 : Int) :: ((2 : Int) :: []))) :: [])))) (1 : Int) (1 : Int)) fun r2 =>
 Option.bind (Fsparse_Best k (List.take 3 ((List.take 3 ((0 : Int) :: ((1 : Int) :: ((2 : Int) :: [])))) :: ((List.take 2 ((0 : Int) :: ((1 : Int) :: []))) :: ((List.take 2 ((0 : Int) :: ((2 : Int) :: []))) :: []))))) fun r3 =>
 Option.bind (Fsparse_Cost k (List.take 3 ((List.take 3 ((0 : Int) :: ((1 : Int) :: ((2 : Int) :: [])))) :: ((List.take 2 ((0 : Int) :: ((1 : Int) :: []))) :: ((List.take 2 ((0 : Int) :: ((2 : Int) :: []))) :: [])))) (0 : Int) (0 : Int)) fun r4 =>
 if ((r.2.2 == (0 : Int)) = true) then
  if ((r1.2 == (0 : Int)) = true) then
   if ((r2.2 == (0 : Int)) = true) then
    if ((r3.2.2.2 == (0 : Int)) = true) then
     if ((r4.2 == (0 : Int)) = true) then
      if (r3.2.2.1 = true) then
       if ((r3.1 == (1 : Int)) = true) then
        if ((r3.2.1 == (1 : Int)) = true) then
         if ((r4.1 == (4 : Int)) = true) then
          if ((r1.1 == (2 : Int)) = true) then
           Option.bind (Fshuntref09_Ints k r.1 (List.take 3 ((1 : Int) :: ((0 : Int) :: ((2 : Int) :: []))))) fun r5 =>
           if (r5 = true) then
            Option.bind (Fshuntref09_Ints k r.2.1 r.1) fun r6 =>
            if (r6 = true) then
             Option.bind (Fshuntref13_Same k r2.1 (List.take 3 ((List.take 2 ((0 : Int) :: ((2 : Int) :: []))) :: ([] :: ((List.take 2 ((0 : Int) :: ((2 : Int) :: []))) :: []))))) fun r7 =>
             if (r7 = true) then
              Option.bind (Fsparse_Check k (List.take 1 ((List.take 1 ((1 : Int) :: [])) :: []))) fun r8 =>
              (some (r8 == (130 : Int)))
             else
             (some false)
            else
            (some false)
           else
           (some false)
          else
          (some false)
         else
         (some false)
        else
        (some false)
       else
       (some false)
      else
      (some false)
     else
     (some false)
    else
    (some false)
   else
   (some false)
  else
  (some false)
 else
 (some false)
def Fshuntlaw13_awake : Nat → Option (Bool)
 | 0 => none
 | k + 1 => bshuntlaw13_awake k
def Ishuntlaw13_awake : Nat → Inst := mkI 10 ⟨[], []⟩ [⟨[vB], []⟩] fun k x => Fshuntlaw13_awake k
theorem okshuntlaw13_awake : ∀ k, InstOk (call cf k) (Ishuntlaw13_awake k) :=
 fnk 0 [] Try.func10 (fun k => (ac (oksparse_Order k) (ac (oksparse_Fill k) (ac (oksparse_Eliminate k) (ac (oksparse_Best k) (ac (oksparse_Cost k) (ac (okshuntref09_Ints k) (ac (okshuntref13_Same k) (ac (oksparse_Check k) a0))))))))) (fun k => l0) ⟨rfl, rfl, ⟨rfl, Nat.le_of_ble_eq_true rfl⟩, rfl⟩ (fun _ => rfl) (by kernel_rfl) fun k x => by kernel_rfl

/-! shunt/limb.Check -/
def blimb_Check (k : Nat) (a0 : Bool) (a1 : List Int) : Option (Int) :=
 if ((decide ((((List.length a1) : Nat) : Int) > (72 : Int))) = false) then
  if (((((List.length a1) : Nat) : Int) == (0 : Int)) = true) then
   if (a0 = false) then
    if ((decide ((((List.length a1) : Nat) : Int) > (0 : Int))) = true) then
     if ((0 : Int) ≤ (IntKind.wrap .i64 ((((List.length a1) : Nat) : Int) - (1 : Int)))) then
      Option.bind (a1)[(Int.toNat (IntKind.wrap .i64 ((((List.length a1) : Nat) : Int) - (1 : Int))))]? fun x4 =>
      if ((x4 == (0 : Int)) = true) then
       (some (10 : Int))
      else
      (some (0 : Int))
     else
     none
    else
    (some (0 : Int))
   else
   (some (10 : Int))
  else
  if ((decide ((((List.length a1) : Nat) : Int) > (0 : Int))) = true) then
   if ((0 : Int) ≤ (IntKind.wrap .i64 ((((List.length a1) : Nat) : Int) - (1 : Int)))) then
    Option.bind (a1)[(Int.toNat (IntKind.wrap .i64 ((((List.length a1) : Nat) : Int) - (1 : Int))))]? fun x4 =>
    if ((x4 == (0 : Int)) = true) then
     (some (10 : Int))
    else
    (some (0 : Int))
   else
   none
  else
  (some (0 : Int))
 else
 (some (10 : Int))
def Flimb_Check : Nat → Bool → List Int → Option (Int)
 | 0, _, _ => none
 | k + 1, a0, a1 => blimb_Check k a0 a1
def Ilimb_Check : Nat → Inst := mkI 48 ⟨[.g [.lf .bool, .lf cW]], []⟩ [⟨[vI], []⟩] fun k x => Flimb_Check k x.1 x.2
theorem oklimb_Check : ∀ k, InstOk (call cf k) (Ilimb_Check k) :=
 fnk 0 [] Try.func48 (fun k => a0) (fun k => l0) ⟨rfl, rfl, ⟨rfl, Nat.le_of_ble_eq_true rfl⟩, rfl⟩ (fun _ => rfl) (by kernel_rfl) fun k x => by kernel_rfl

/-! shunt/system.cellsRight -/
def Lsystem_cellsRight_0s (k : Nat) (rec : List (Int × Bool × List Int) → Int → List (Int × Bool × List Int) → Int → Int → Option ((Bool × Int × Bool × List Int) ⊕ (Unit))) (l : List (Int × Bool × List Int)) (n : Int) (x : List (Int × Bool × List Int)) (x1 : Int) (x2 : Int) : Option ((Bool × Int × Bool × List Int) ⊕ (Unit)) :=
 if ((decide (x2 < x1)) = true) then
  if ((0 : Int) ≤ x2) then
   Option.bind (x)[(Int.toNat x2)]? fun x4 =>
   if ((decide (x4.1 < (0 : Int))) = false) then
    if ((decide (x4.1 ≥ n)) = false) then
     if ((decide (x2 > (0 : Int))) = true) then
      if ((0 : Int) ≤ (IntKind.wrap .i64 (x2 - (1 : Int)))) then
       Option.bind (l)[(Int.toNat (IntKind.wrap .i64 (x2 - (1 : Int))))]? fun x5 =>
       if ((decide (x5.1 ≥ x4.1)) = false) then
        Option.bind (Flimb_Check k x4.2.1 x4.2.2) fun r4 =>
        if ((r4 != (0 : Int)) = false) then
         if (((((List.length x4.2.2) : Nat) : Int) == (0 : Int)) = true) then
          (some (Sum.inl (false, x4.1, x4.2.1, x4.2.2)))
         else
         rec l n x x1 (IntKind.wrap .i64 (x2 + (1 : Int)))
        else
        (some (Sum.inl (false, x4.1, x4.2.1, x4.2.2)))
       else
       (some (Sum.inl (false, x4.1, x4.2.1, x4.2.2)))
      else
      none
     else
     Option.bind (Flimb_Check k x4.2.1 x4.2.2) fun r4 =>
     if ((r4 != (0 : Int)) = false) then
      if (((((List.length x4.2.2) : Nat) : Int) == (0 : Int)) = true) then
       (some (Sum.inl (false, x4.1, x4.2.1, x4.2.2)))
      else
      rec l n x x1 (IntKind.wrap .i64 (x2 + (1 : Int)))
     else
     (some (Sum.inl (false, x4.1, x4.2.1, x4.2.2)))
    else
    (some (Sum.inl (false, x4.1, x4.2.1, x4.2.2)))
   else
   (some (Sum.inl (false, x4.1, x4.2.1, x4.2.2)))
  else
  none
 else
 (some (Sum.inr ()))
def Lsystem_cellsRight_0 (k n : Nat) : List (Int × Bool × List Int) → Int → List (Int × Bool × List Int) → Int → Int → Option ((Bool × Int × Bool × List Int) ⊕ (Unit)) := Nat.rec (fun _ _ _ _ _ => none) (fun _ r => Lsystem_cellsRight_0s k r) n
def bsystem_cellsRight (k : Nat) (l : List (Int × Bool × List Int)) (n : Int) : Option (Bool) :=
 Option.bind (Lsystem_cellsRight_0 k k l n l (((List.length l) : Nat) : Int) (0 : Int)) fun r4 =>
 eitherK r4
  (fun r4 =>
  (some r4.1))
  (fun r4 =>
  (some true))
def Fsystem_cellsRight : Nat → List (Int × Bool × List Int) → Int → Option (Bool)
 | 0, _, _ => none
 | k + 1, l, n => bsystem_cellsRight k l n
def Isystem_cellsRight : Nat → Inst := mkI 49 ⟨[.a (.lf (.sl (.pr (.int .i64) (.pr .bool cW)))), vI], []⟩ [⟨[vB], []⟩] fun k x => Fsystem_cellsRight k x.1 x.2
theorem alsystem_cellsRight (k : Nat) : AllI (call cf k) [Ilimb_Check k] :=
 ac (oklimb_Check k) a0
def LIsystem_cellsRight_0 (k : Nat) : LInst := mkL 0 [⟨[(0, .a (.lf (.sl (.pr (.int .i64) (.pr .bool cW))))), (1, vI), (7, .a (.lf (.sl (.pr (.int .i64) (.pr .bool cW))))), (8, vI), (9, vI)], [], 0⟩] [⟨none, ⟨[(4, vB)], [(0, some (.raw [[.lf (.int .i64), .lf .bool, .lf cW]] 3 82 true false false))], 1⟩⟩, ⟨some 0, ⟨[], [], 0⟩⟩] (fun n x => Lsystem_cellsRight_0 k n x.1 x.2.1 x.2.2.1 x.2.2.2.1 x.2.2.2.2) k
theorem losystem_cellsRight_0 (k : Nat) : LIo 49 Try.f49 0 k (LIsystem_cellsRight_0 k) :=
 lpk [] (alsystem_cellsRight k) l0 (fun _ => rfl) (by kernel_rfl) fun n x => by kernel_rfl
theorem oksystem_cellsRight : ∀ k, InstOk (call cf k) (Isystem_cellsRight k) :=
 fnk 0 [0] Try.func49 (fun k => (alsystem_cellsRight k)) (fun k => (lc (losystem_cellsRight_0 k) l0)) ⟨rfl, rfl, ⟨rfl, Nat.le_of_ble_eq_true rfl⟩, rfl⟩ (fun _ => rfl) (by kernel_rfl) fun k x => by kernel_rfl

/-! shunt/system.Check -/
def Lsystem_Check_0s (k : Nat) (rec : Int → List ((Bool × List Int) × List (Int × Bool × List Int) × List (Int × Bool × List Int) × List (Int × Bool × List Int) × Bool × List Int) → Int → Int → Option ((Int × Bool × List Int × List (Int × Bool × List Int) × List (Int × Bool × List Int) × List (Int × Bool × List Int) × Bool × List Int) ⊕ (Unit))) (n : Int) (x : List ((Bool × List Int) × List (Int × Bool × List Int) × List (Int × Bool × List Int) × List (Int × Bool × List Int) × Bool × List Int)) (x1 : Int) (x2 : Int) : Option ((Int × Bool × List Int × List (Int × Bool × List Int) × List (Int × Bool × List Int) × List (Int × Bool × List Int) × Bool × List Int) ⊕ (Unit)) :=
 if ((decide (x2 < x1)) = true) then
  if ((0 : Int) ≤ x2) then
   Option.bind (x)[(Int.toNat x2)]? fun x3 =>
   Option.bind (Flimb_Check k x3.1.1 x3.1.2) fun r2 =>
   if ((r2 != (0 : Int)) = false) then
    if (x3.1.1 = false) then
     if (((((List.length x3.1.2) : Nat) : Int) == (0 : Int)) = false) then
      Option.bind (Flimb_Check k x3.2.2.2.2.1 x3.2.2.2.2.2) fun r3 =>
      if ((r3 != (0 : Int)) = true) then
       (some (Sum.inl ((130 : Int), x3.1.1, x3.1.2, x3.2.1, x3.2.2.1, x3.2.2.2.1, x3.2.2.2.2.1, x3.2.2.2.2.2)))
      else
      Option.bind (Fsystem_cellsRight k x3.2.1 n) fun r4 =>
      if ((!r4) = false) then
       Option.bind (Fsystem_cellsRight k x3.2.2.1 n) fun r5 =>
       if ((!r5) = false) then
        Option.bind (Fsystem_cellsRight k x3.2.2.2.1 (64 : Int)) fun r6 =>
        if ((!r6) = true) then
         (some (Sum.inl ((130 : Int), x3.1.1, x3.1.2, x3.2.1, x3.2.2.1, x3.2.2.2.1, x3.2.2.2.2.1, x3.2.2.2.2.2)))
        else
        rec n x x1 (IntKind.wrap .i64 (x2 + (1 : Int)))
       else
       (some (Sum.inl ((130 : Int), x3.1.1, x3.1.2, x3.2.1, x3.2.2.1, x3.2.2.2.1, x3.2.2.2.2.1, x3.2.2.2.2.2)))
      else
      (some (Sum.inl ((130 : Int), x3.1.1, x3.1.2, x3.2.1, x3.2.2.1, x3.2.2.2.1, x3.2.2.2.2.1, x3.2.2.2.2.2)))
     else
     (some (Sum.inl ((130 : Int), x3.1.1, x3.1.2, x3.2.1, x3.2.2.1, x3.2.2.2.1, x3.2.2.2.2.1, x3.2.2.2.2.2)))
    else
    (some (Sum.inl ((130 : Int), x3.1.1, x3.1.2, x3.2.1, x3.2.2.1, x3.2.2.2.1, x3.2.2.2.2.1, x3.2.2.2.2.2)))
   else
   (some (Sum.inl ((130 : Int), x3.1.1, x3.1.2, x3.2.1, x3.2.2.1, x3.2.2.2.1, x3.2.2.2.2.1, x3.2.2.2.2.2)))
  else
  none
 else
 (some (Sum.inr ()))
def Lsystem_Check_0 (k n : Nat) : Int → List ((Bool × List Int) × List (Int × Bool × List Int) × List (Int × Bool × List Int) × List (Int × Bool × List Int) × Bool × List Int) → Int → Int → Option ((Int × Bool × List Int × List (Int × Bool × List Int) × List (Int × Bool × List Int) × List (Int × Bool × List Int) × Bool × List Int) ⊕ (Unit)) := Nat.rec (fun _ _ _ _ => none) (fun _ r => Lsystem_Check_0s k r) n
def bsystem_Check (k : Nat) (s : List ((Bool × List Int) × List (Int × Bool × List Int) × List (Int × Bool × List Int) × List (Int × Bool × List Int) × Bool × List Int)) : Option (Int) :=
 if ((decide ((((List.length s) : Nat) : Int) > (48 : Int))) = true) then
  (some (130 : Int))
 else
 Option.bind (Lsystem_Check_0 k k (((List.length s) : Nat) : Int) s (((List.length s) : Nat) : Int) (0 : Int)) fun r2 =>
 eitherK r2
  (fun r2 =>
  (some r2.1))
  (fun r2 =>
  (some (0 : Int)))
def Fsystem_Check : Nat → List ((Bool × List Int) × List (Int × Bool × List Int) × List (Int × Bool × List Int) × List (Int × Bool × List Int) × Bool × List Int) → Option (Int)
 | 0, _ => none
 | k + 1, s => bsystem_Check k s
def Isystem_Check : Nat → Inst := mkI 40 ⟨[.g [.lf (.sl (.pr (.pr .bool cW) (.pr (.sl (.pr (.int .i64) (.pr .bool cW))) (.pr (.sl (.pr (.int .i64) (.pr .bool cW))) (.pr (.sl (.pr (.int .i64) (.pr .bool cW))) (.pr .bool cW))))))]], []⟩ [⟨[vI], []⟩] fun k x => Fsystem_Check k x
theorem alsystem_Check (k : Nat) : AllI (call cf k) [Ilimb_Check k, Isystem_cellsRight k] :=
 ac (oklimb_Check k) (ac (oksystem_cellsRight k) a0)
def LIsystem_Check_0 (k : Nat) : LInst := mkL 0 [⟨[(3, vI), (12, .a (.lf (.sl (.pr (.pr .bool cW) (.pr (.sl (.pr (.int .i64) (.pr .bool cW))) (.pr (.sl (.pr (.int .i64) (.pr .bool cW))) (.pr (.sl (.pr (.int .i64) (.pr .bool cW))) (.pr .bool cW)))))))), (13, vI), (14, vI)], [], 0⟩] [⟨none, ⟨[(2, vI)], [(0, some (.raw [[.lf .bool, .lf cW, .lf (.sl (.pr (.int .i64) (.pr .bool cW))), .lf (.sl (.pr (.int .i64) (.pr .bool cW))), .lf (.sl (.pr (.int .i64) (.pr .bool cW))), .lf .bool, .lf cW]] 7 65 true false false))], 1⟩⟩, ⟨some 0, ⟨[], [], 0⟩⟩] (fun n x => Lsystem_Check_0 k n x.1 x.2.1 x.2.2.1 x.2.2.2) k
theorem losystem_Check_0 (k : Nat) : LIo 40 Try.f40 0 k (LIsystem_Check_0 k) :=
 lpk [] (alsystem_Check k) l0 (fun _ => rfl) (by kernel_rfl) fun n x => by kernel_rfl
theorem oksystem_Check : ∀ k, InstOk (call cf k) (Isystem_Check k) :=
 fnk 0 [0] Try.func40 (fun k => (alsystem_Check k)) (fun k => (lc (losystem_Check_0 k) l0)) ⟨rfl, rfl, ⟨rfl, Nat.le_of_ble_eq_true rfl⟩, rfl⟩ (fun _ => rfl) (by kernel_rfl) fun k x => by kernel_rfl

/-! shunt/sparse.Of -/
def Lsparse_Of_2s (k : Nat) (rec : Nat → Int → List ((Bool × List Int) × List (Int × Bool × List Int) × List (Int × Bool × List Int) × List (Int × Bool × List Int) × Bool × List Int) → Int → Int → List (Int × Bool × List Int) → Int → Int → List (List Int) → Option (Nat × List ((Bool × List Int) × List (Int × Bool × List Int) × List (Int × Bool × List Int) × List (Int × Bool × List Int) × Bool × List Int) × Int × Int × List (List Int))) (p : Nat) (i : Int) (x : List ((Bool × List Int) × List (Int × Bool × List Int) × List (Int × Bool × List Int) × List (Int × Bool × List Int) × Bool × List Int)) (x1 : Int) (x2 : Int) (x3 : List (Int × Bool × List Int)) (x4 : Int) (x5 : Int) (ps : List (List Int)) : Option (Nat × List ((Bool × List Int) × List (Int × Bool × List Int) × List (Int × Bool × List Int) × List (Int × Bool × List Int) × Bool × List Int) × Int × Int × List (List Int)) :=
 if ((decide (x5 < x4)) = true) then
  if ((0 : Int) ≤ x5) then
   Option.bind (x3)[(Int.toNat x5)]? fun x6 =>
   if (((0 : Int) ≤ i) ∧ (i < ((p : Nat) : Int))) then
    Option.bind (ps)[(Int.toNat i)]? fun x7 =>
    if ((List.length x7) ≤ (List.length x7)) then
     if ((((List.length x7) + (List.length (List.take 1 (x6.1 :: [])))) * 8) ≤ 140737488355328) then
      if (((0 : Int) ≤ i) ∧ (i < ((p : Nat) : Int))) then
       if ((Int.toNat i) = (Int.toNat i)) then
        if ((Int.toNat i) < (List.length ps)) then
         if (((List.length x7) + (List.length (List.take 1 (x6.1 :: [])))) ≤ (List.length ((List.take (List.length x7) x7) ++ (List.take 1 (x6.1 :: []))))) then
          rec p i x x1 x2 x3 x4 (IntKind.wrap .i64 (x5 + (1 : Int))) (tset ps (Int.toNat i) (List.take ((List.length x7) + (List.length (List.take 1 (x6.1 :: [])))) ((List.take (List.length x7) x7) ++ (List.take 1 (x6.1 :: [])))))
         else
         none
        else
        none
       else
       none
      else
      none
     else
     none
    else
    none
   else
   none
  else
  none
 else
 (some (p, x, x1, x2, ps))
def Lsparse_Of_2 (k n : Nat) : Nat → Int → List ((Bool × List Int) × List (Int × Bool × List Int) × List (Int × Bool × List Int) × List (Int × Bool × List Int) × Bool × List Int) → Int → Int → List (Int × Bool × List Int) → Int → Int → List (List Int) → Option (Nat × List ((Bool × List Int) × List (Int × Bool × List Int) × List (Int × Bool × List Int) × List (Int × Bool × List Int) × Bool × List Int) × Int × Int × List (List Int)) := Nat.rec (fun _ _ _ _ _ _ _ _ _ => none) (fun _ r => Lsparse_Of_2s k r) n
def Lsparse_Of_0s (k : Nat) (rec : Nat → List ((Bool × List Int) × List (Int × Bool × List Int) × List (Int × Bool × List Int) × List (Int × Bool × List Int) × Bool × List Int) → Int → Int → List (List Int) → Option (Nat × List (List Int))) (p : Nat) (x : List ((Bool × List Int) × List (Int × Bool × List Int) × List (Int × Bool × List Int) × List (Int × Bool × List Int) × Bool × List Int)) (x1 : Int) (x2 : Int) (ps : List (List Int)) : Option (Nat × List (List Int)) :=
 if ((decide (x2 < x1)) = true) then
  if ((0 : Int) ≤ x2) then
   Option.bind (x)[(Int.toNat x2)]? fun x3 =>
   Option.bind (Lsparse_Of_2 k k p x2 x x1 x2 x3.2.1 (((List.length x3.2.1) : Nat) : Int) (0 : Int) ps) fun r3 =>
   rec r3.1 r3.2.1 r3.2.2.1 (IntKind.wrap .i64 (r3.2.2.2.1 + (1 : Int))) r3.2.2.2.2
  else
  none
 else
 (some (p, ps))
def Lsparse_Of_0 (k n : Nat) : Nat → List ((Bool × List Int) × List (Int × Bool × List Int) × List (Int × Bool × List Int) × List (Int × Bool × List Int) × Bool × List Int) → Int → Int → List (List Int) → Option (Nat × List (List Int)) := Nat.rec (fun _ _ _ _ _ => none) (fun _ r => Lsparse_Of_0s k r) n
def bsparse_Of (k : Nat) (s : List ((Bool × List Int) × List (Int × Bool × List Int) × List (Int × Bool × List Int) × List (Int × Bool × List Int) × Bool × List Int)) : Option (List (List Int) × Int) :=
 Option.bind (Fsystem_Check k s) fun r2 =>
 if ((r2 != (0 : Int)) = true) then
  (some ([], r2))
 else
 if (((0 : Int) ≤ (((List.length s) : Nat) : Int)) ∧ (((((List.length s) : Nat) : Int) ≤ (((List.length s) : Nat) : Int)) ∧ (((((List.length s) : Nat) : Int) * (24 : Int)) ≤ (140737488355328 : Int)))) then
  Option.bind (Lsparse_Of_0 k k (Int.toNat (((List.length s) : Nat) : Int)) s (((List.length s) : Nat) : Int) (0 : Int) (List.replicate (Int.toNat (((List.length s) : Nat) : Int)) [])) fun r3 =>
  if ((0 + r3.1) ≤ (List.length r3.2)) then
   (some ((List.take r3.1 r3.2), (0 : Int)))
  else
  none
 else
 none
def Fsparse_Of : Nat → List ((Bool × List Int) × List (Int × Bool × List Int) × List (Int × Bool × List Int) × List (Int × Bool × List Int) × Bool × List Int) → Option (List (List Int) × Int)
 | 0, _ => none
 | k + 1, s => bsparse_Of k s
def Isparse_Of : Nat → Inst := mkI 28 ⟨[.g [.lf (.sl (.pr (.pr .bool cW) (.pr (.sl (.pr (.int .i64) (.pr .bool cW))) (.pr (.sl (.pr (.int .i64) (.pr .bool cW))) (.pr (.sl (.pr (.int .i64) (.pr .bool cW))) (.pr .bool cW))))))]], []⟩ [⟨[.a (.lf (.sl (.sl (.int .i64)))), vI], []⟩] fun k x => Fsparse_Of k x
theorem alsparse_Of (k : Nat) : AllI (call cf k) [Isystem_Check k] :=
 ac (oksystem_Check k) a0
def LIsparse_Of_2 (k : Nat) : LInst := mkL 2 [⟨[(5, .a (.smz 0)), (6, vI), (20, .a (.lf (.sl (.pr (.pr .bool cW) (.pr (.sl (.pr (.int .i64) (.pr .bool cW))) (.pr (.sl (.pr (.int .i64) (.pr .bool cW))) (.pr (.sl (.pr (.int .i64) (.pr .bool cW))) (.pr .bool cW)))))))), (21, vI), (22, vI), (28, .a (.lf (.sl (.pr (.int .i64) (.pr .bool cW))))), (29, vI), (30, vI)], [(0, some (.nst (.int .i64) 3 1 41 false))], 1⟩] [⟨some 2, ⟨[(5, .a (.smz 0)), (20, .a (.lf (.sl (.pr (.pr .bool cW) (.pr (.sl (.pr (.int .i64) (.pr .bool cW))) (.pr (.sl (.pr (.int .i64) (.pr .bool cW))) (.pr (.sl (.pr (.int .i64) (.pr .bool cW))) (.pr .bool cW)))))))), (21, vI), (22, vI)], [(0, some (.nst (.int .i64) 3 1 41 false))], 1⟩⟩] (fun n x => Lsparse_Of_2 k n x.1 x.2.1 x.2.2.1 x.2.2.2.1 x.2.2.2.2.1 x.2.2.2.2.2.1 x.2.2.2.2.2.2.1 x.2.2.2.2.2.2.2.1 x.2.2.2.2.2.2.2.2) k
theorem losparse_Of_2 (k : Nat) : LIo 28 Try.f28 0 k (LIsparse_Of_2 k) :=
 lpk [] (alsparse_Of k) l0 (fun _ => rfl) (by kernel_rfl) fun n x => by kernel_rfl
def LIsparse_Of_0 (k : Nat) : LInst := mkL 0 [⟨[(5, .a (.smz 0)), (20, .a (.lf (.sl (.pr (.pr .bool cW) (.pr (.sl (.pr (.int .i64) (.pr .bool cW))) (.pr (.sl (.pr (.int .i64) (.pr .bool cW))) (.pr (.sl (.pr (.int .i64) (.pr .bool cW))) (.pr .bool cW)))))))), (21, vI), (22, vI)], [(0, some (.nst (.int .i64) 3 1 41 false))], 1⟩] [⟨some 0, ⟨[(5, .a (.smz 0))], [(0, some (.nst (.int .i64) 3 1 41 false))], 1⟩⟩] (fun n x => Lsparse_Of_0 k n x.1 x.2.1 x.2.2.1 x.2.2.2.1 x.2.2.2.2) k
theorem losparse_Of_0 (k : Nat) : LIo 28 Try.f28 0 k (LIsparse_Of_0 k) :=
 lpk [2] (alsparse_Of k) (lc (losparse_Of_2 k) l0) (fun _ => rfl) (by kernel_rfl) fun n x => by kernel_rfl
theorem oksparse_Of : ∀ k, InstOk (call cf k) (Isparse_Of k) :=
 fnk 0 [0] Try.func28 (fun k => (alsparse_Of k)) (fun k => (lc (losparse_Of_2 k) (lc (losparse_Of_0 k) l0))) ⟨rfl, rfl, ⟨rfl, Nat.le_of_ble_eq_true rfl⟩, rfl⟩ (fun _ => rfl) (by kernel_rfl) fun k x => by kernel_rfl

/-! shunt/shuntref01.Right -/
def bshuntref01_Right (k : Nat) (a0 : Bool) (a1 : List Int) : Option (Bool) :=
 if ((decide ((((List.length a1) : Nat) : Int) > (72 : Int))) = true) then
  (some false)
 else
 if (((((List.length a1) : Nat) : Int) == (0 : Int)) = true) then
  (some (!a0))
 else
 if ((0 : Int) ≤ (IntKind.wrap .i64 ((((List.length a1) : Nat) : Int) - (1 : Int)))) then
  Option.bind (a1)[(Int.toNat (IntKind.wrap .i64 ((((List.length a1) : Nat) : Int) - (1 : Int))))]? fun x1 =>
  (some (x1 != (0 : Int)))
 else
 none
def Fshuntref01_Right : Nat → Bool → List Int → Option (Bool)
 | 0, _, _ => none
 | k + 1, a0, a1 => bshuntref01_Right k a0 a1
def Ishuntref01_Right : Nat → Inst := mkI 50 ⟨[.g [.lf .bool, .lf cW]], []⟩ [⟨[vB], []⟩] fun k x => Fshuntref01_Right k x.1 x.2
theorem okshuntref01_Right : ∀ k, InstOk (call cf k) (Ishuntref01_Right k) :=
 fnk 0 [] Try.func50 (fun k => a0) (fun k => l0) ⟨rfl, rfl, ⟨rfl, Nat.le_of_ble_eq_true rfl⟩, rfl⟩ (fun _ => rfl) (by kernel_rfl) fun k x => by kernel_rfl

/-! shunt/shuntref01.trim -/
def Lshuntref01_trim_0s (k : Nat) (rec : List Int → Int → Option (List Int × Int)) (d : List Int) (n : Int) : Option (List Int × Int) :=
 if ((decide (n > (0 : Int))) = true) then
  if ((0 : Int) ≤ (IntKind.wrap .i64 (n - (1 : Int)))) then
   Option.bind (d)[(Int.toNat (IntKind.wrap .i64 (n - (1 : Int))))]? fun x1 =>
   if ((x1 == (0 : Int)) = true) then
    rec d (IntKind.wrap .i64 (n - (1 : Int)))
   else
   (some (d, n))
  else
  none
 else
 (some (d, n))
def Lshuntref01_trim_0 (k n : Nat) : List Int → Int → Option (List Int × Int) := Nat.rec (fun _ _ => none) (fun _ r => Lshuntref01_trim_0s k r) n
def bshuntref01_trim (k : Nat) (d : List Int) : Option (List Int) :=
 Option.bind (Lshuntref01_trim_0 k k d (((List.length d) : Nat) : Int)) fun r5 =>
 if (((0 : Int) ≤ (0 : Int)) ∧ (((0 : Int) ≤ r5.2) ∧ (r5.2 ≤ (((List.length r5.1) : Nat) : Int)))) then
  (some (List.take (Int.toNat r5.2) r5.1))
 else
 none
def Fshuntref01_trim : Nat → List Int → Option (List Int)
 | 0, _ => none
 | k + 1, d => bshuntref01_trim k d
def Ishuntref01_trim : Nat → Inst := mkI 58 ⟨[vJ], []⟩ [⟨[vJ], []⟩] fun k x => Fshuntref01_trim k x
def hshuntref01_trim_0 : SS := ⟨[(0, vJ), (3, vI)], [], 0⟩
def LIshuntref01_trim_0 (k : Nat) : LInst := mkL 0 [hshuntref01_trim_0] [⟨some 0, hshuntref01_trim_0⟩] (fun n x => Lshuntref01_trim_0 k n x.1 x.2) k
theorem loshuntref01_trim_0 (k : Nat) : LIo 58 Try.f58 0 k (LIshuntref01_trim_0 k) :=
 lpk [] a0 l0 (fun _ => rfl) (by kernel_rfl) fun n x => by kernel_rfl
theorem okshuntref01_trim : ∀ k, InstOk (call cf k) (Ishuntref01_trim k) :=
 fnk 0 [0] Try.func58 (fun k => a0) (fun k => (lc (loshuntref01_trim_0 k) l0)) ⟨rfl, rfl, ⟨rfl, Nat.le_of_ble_eq_true rfl⟩, rfl⟩ (fun _ => rfl) (by kernel_rfl) fun k x => by kernel_rfl

/-! shunt/shuntref01.Take -/
def Lshuntref01_Take_0s (k : Nat) (rec : Nat → Int → Bool → List Int → Bool → Nat → List Int → List Int → Option (Nat × Bool × List Int × Bool × Nat × List Int × List Int)) (d : Nat) (i : Int) (a0 : Bool) (a1 : List Int) (x0 : Bool) (x1 : Nat) (ds : List Int) (m : List Int) : Option (Nat × Bool × List Int × Bool × Nat × List Int × List Int) :=
 if ((decide (i < (((List.length a1) : Nat) : Int))) = true) then
  if ((0 : Int) ≤ i) then
   Option.bind (a1)[(Int.toNat i)]? fun x2 =>
   if ((0 : Int) ≤ i) then
    Option.bind (a1)[(Int.toNat i)]? fun x3 =>
    if (d ≤ (List.length ds)) then
     if (((d + (List.length (List.take 2 ((IntKind.wrap .i64 (Int.tmod x2 (65536 : Int))) :: ((IntKind.wrap .i64 (IntKind.wrap .u32 (Int.tdiv x3 (65536 : Int)))) :: []))))) * 8) ≤ 140737488355328) then
      rec (d + (List.length (List.take 2 ((IntKind.wrap .i64 (Int.tmod x2 (65536 : Int))) :: ((IntKind.wrap .i64 (IntKind.wrap .u32 (Int.tdiv x3 (65536 : Int)))) :: []))))) (IntKind.wrap .i64 (i + (1 : Int))) a0 a1 x0 x1 ((List.take d ds) ++ (List.take 2 ((IntKind.wrap .i64 (Int.tmod x2 (65536 : Int))) :: ((IntKind.wrap .i64 (IntKind.wrap .u32 (Int.tdiv x3 (65536 : Int)))) :: [])))) m
     else
     none
    else
    none
   else
   none
  else
  none
 else
 (some (d, a0, a1, x0, x1, ds, m))
def Lshuntref01_Take_0 (k n : Nat) : Nat → Int → Bool → List Int → Bool → Nat → List Int → List Int → Option (Nat × Bool × List Int × Bool × Nat × List Int × List Int) := Nat.rec (fun _ _ _ _ _ _ _ _ => none) (fun _ r => Lshuntref01_Take_0s k r) n
def bshuntref01_Take (k : Nat) (a0 : Bool) (a1 : List Int) : Option (Bool × List Int) :=
 Option.bind (Lshuntref01_Take_0 k k 0 (0 : Int) a0 a1 false 0 [] []) fun r4 =>
 if ((0 + r4.1) ≤ (List.length r4.2.2.2.2.2.1)) then
  Option.bind (Fshuntref01_trim k (List.take r4.1 r4.2.2.2.2.2.1)) fun r5 =>
  if (r4.2.1 = true) then
   (some ((decide ((((List.length r5) : Nat) : Int) > (0 : Int))), r5))
  else
  (some (false, r5))
 else
 none
def Fshuntref01_Take : Nat → Bool → List Int → Option (Bool × List Int)
 | 0, _, _ => none
 | k + 1, a0, a1 => bshuntref01_Take k a0 a1
def Ishuntref01_Take : Nat → Inst := mkI 52 ⟨[.g [.lf .bool, .lf cW]], []⟩ [⟨[.g [.lf .bool, .lf (.sl (.int .i64))]], []⟩] fun k x => Fshuntref01_Take k x.1 x.2
theorem alshuntref01_Take (k : Nat) : AllI (call cf k) [Ishuntref01_trim k] :=
 ac (okshuntref01_trim k) a0
def LIshuntref01_Take_0 (k : Nat) : LInst := mkL 0 [⟨[(1, .a (.ptr 0 0 0)), (2, .a (.ptr 1 0 0)), (3, .a (.smz 2)), (4, vI)], [(0, some (.raw [[.lf .bool, .lf cW]] 2 62 true false false)), (1, some (.raw [[.lf .bool, .smz 3]] 2 94 false false false)), (2, some (.arr (.int .i64) 1 3 false)), (3, some (.arr (.int .i64) 1 3 false))], 4⟩] [⟨some 0, ⟨[(1, .a (.ptr 0 0 0)), (2, .a (.ptr 1 0 0)), (3, .a (.smz 2))], [(0, some (.raw [[.lf .bool, .lf cW]] 2 62 true false false)), (1, some (.raw [[.lf .bool, .smz 3]] 2 94 false false false)), (2, some (.arr (.int .i64) 1 3 false)), (3, some (.arr (.int .i64) 1 3 false))], 4⟩⟩] (fun n x => Lshuntref01_Take_0 k n x.1 x.2.1 x.2.2.1 x.2.2.2.1 x.2.2.2.2.1 x.2.2.2.2.2.1 x.2.2.2.2.2.2.1 x.2.2.2.2.2.2.2) k
theorem loshuntref01_Take_0 (k : Nat) : LIo 52 Try.f52 0 k (LIshuntref01_Take_0 k) :=
 lpk [] (alshuntref01_Take k) l0 (fun _ => rfl) (by kernel_rfl) fun n x => by kernel_rfl
theorem okshuntref01_Take : ∀ k, InstOk (call cf k) (Ishuntref01_Take k) :=
 fnk 0 [0] Try.func52 (fun k => (alshuntref01_Take k)) (fun k => (lc (loshuntref01_Take_0 k) l0)) ⟨rfl, rfl, ⟨rfl, Nat.le_of_ble_eq_true rfl⟩, rfl⟩ (fun _ => rfl) (by kernel_rfl) fun k x => by kernel_rfl

/-! shunt/shuntref01.Sign -/
def bshuntref01_Sign (k : Nat) (a0 : Bool) (a1 : List Int) : Option (Int) :=
 if (((((List.length a1) : Nat) : Int) == (0 : Int)) = true) then
  (some (0 : Int))
 else
 if (a0 = true) then
  (some (-(1 : Int)))
 else
 (some (1 : Int))
def Fshuntref01_Sign : Nat → Bool → List Int → Option (Int)
 | 0, _, _ => none
 | k + 1, a0, a1 => bshuntref01_Sign k a0 a1
def Ishuntref01_Sign : Nat → Inst := mkI 51 ⟨[.g [.lf .bool, .lf (.sl (.int .i64))]], []⟩ [⟨[vI], []⟩] fun k x => Fshuntref01_Sign k x.1 x.2
theorem okshuntref01_Sign : ∀ k, InstOk (call cf k) (Ishuntref01_Sign k) :=
 fnk 0 [] Try.func51 (fun k => a0) (fun k => l0) ⟨rfl, rfl, ⟨rfl, Nat.le_of_ble_eq_true rfl⟩, rfl⟩ (fun _ => rfl) (by kernel_rfl) fun k x => by kernel_rfl

/-! shunt/shuntref12.cellsRight -/
def Lshuntref12_cellsRight_0s (k : Nat) (rec : List (Int × Bool × List Int) → Int → Int → Int → Option ((Bool) ⊕ (Unit))) (l : List (Int × Bool × List Int)) (n : Int) (last : Int) (i : Int) : Option ((Bool) ⊕ (Unit)) :=
 if ((decide (i < (((List.length l) : Nat) : Int))) = true) then
  if ((0 : Int) ≤ i) then
   Option.bind (l)[(Int.toNat i)]? fun x1 =>
   if ((decide (x1.1 ≤ last)) = false) then
    if ((0 : Int) ≤ i) then
     Option.bind (l)[(Int.toNat i)]? fun x2 =>
     if ((decide (x2.1 ≥ n)) = false) then
      if ((0 : Int) ≤ i) then
       Option.bind (l)[(Int.toNat i)]? fun x3 =>
       Option.bind (Fshuntref01_Right k x3.2.1 x3.2.2) fun r7 =>
       if ((!r7) = false) then
        if ((0 : Int) ≤ i) then
         Option.bind (l)[(Int.toNat i)]? fun x4 =>
         if (((((List.length x4.2.2) : Nat) : Int) == (0 : Int)) = true) then
          (some (Sum.inl false))
         else
         if ((0 : Int) ≤ i) then
          Option.bind (l)[(Int.toNat i)]? fun x5 =>
          rec l n x5.1 (IntKind.wrap .i64 (i + (1 : Int)))
         else
         none
        else
        none
       else
       (some (Sum.inl false))
      else
      none
     else
     (some (Sum.inl false))
    else
    none
   else
   (some (Sum.inl false))
  else
  none
 else
 (some (Sum.inr ()))
def Lshuntref12_cellsRight_0 (k n : Nat) : List (Int × Bool × List Int) → Int → Int → Int → Option ((Bool) ⊕ (Unit)) := Nat.rec (fun _ _ _ _ => none) (fun _ r => Lshuntref12_cellsRight_0s k r) n
def bshuntref12_cellsRight (k : Nat) (l : List (Int × Bool × List Int)) (n : Int) : Option (Bool) :=
 Option.bind (Lshuntref12_cellsRight_0 k k l n (-(1 : Int)) (0 : Int)) fun r7 =>
 eitherK r7
  (fun r7 =>
  (some r7))
  (fun r7 =>
  (some true))
def Fshuntref12_cellsRight : Nat → List (Int × Bool × List Int) → Int → Option (Bool)
 | 0, _, _ => none
 | k + 1, l, n => bshuntref12_cellsRight k l n
def Ishuntref12_cellsRight : Nat → Inst := mkI 53 ⟨[.a (.lf (.sl (.pr (.int .i64) (.pr .bool cW)))), vI], []⟩ [⟨[vB], []⟩] fun k x => Fshuntref12_cellsRight k x.1 x.2
theorem alshuntref12_cellsRight (k : Nat) : AllI (call cf k) [Ishuntref01_Right k] :=
 ac (okshuntref01_Right k) a0
def LIshuntref12_cellsRight_0 (k : Nat) : LInst := mkL 0 [⟨[(0, .a (.lf (.sl (.pr (.int .i64) (.pr .bool cW))))), (1, vI), (5, vI), (6, vI)], [], 0⟩] [⟨none, ⟨[(4, vB)], [], 0⟩⟩, ⟨some 0, ⟨[], [], 0⟩⟩] (fun n x => Lshuntref12_cellsRight_0 k n x.1 x.2.1 x.2.2.1 x.2.2.2) k
theorem loshuntref12_cellsRight_0 (k : Nat) : LIo 53 Try.f53 0 k (LIshuntref12_cellsRight_0 k) :=
 lpk [] (alshuntref12_cellsRight k) l0 (fun _ => rfl) (by kernel_rfl) fun n x => by kernel_rfl
theorem okshuntref12_cellsRight : ∀ k, InstOk (call cf k) (Ishuntref12_cellsRight k) :=
 fnk 0 [0] Try.func53 (fun k => (alshuntref12_cellsRight k)) (fun k => (lc (loshuntref12_cellsRight_0 k) l0)) ⟨rfl, rfl, ⟨rfl, Nat.le_of_ble_eq_true rfl⟩, rfl⟩ (fun _ => rfl) (by kernel_rfl) fun k x => by kernel_rfl

/-! shunt/shuntref12.Check -/
def Lshuntref12_Check_0s (k : Nat) (rec : Int → Int → List ((Bool × List Int) × List (Int × Bool × List Int) × List (Int × Bool × List Int) × List (Int × Bool × List Int) × Bool × List Int) → Option ((Int × List ((Bool × List Int) × List (Int × Bool × List Int) × List (Int × Bool × List Int) × List (Int × Bool × List Int) × Bool × List Int) × Bool × List Int × List (Int × Bool × List Int) × List (Int × Bool × List Int) × List (Int × Bool × List Int) × Bool × List Int) ⊕ (List ((Bool × List Int) × List (Int × Bool × List Int) × List (Int × Bool × List Int) × List (Int × Bool × List Int) × Bool × List Int)))) (n : Int) (i : Int) (s : List ((Bool × List Int) × List (Int × Bool × List Int) × List (Int × Bool × List Int) × List (Int × Bool × List Int) × Bool × List Int)) : Option ((Int × List ((Bool × List Int) × List (Int × Bool × List Int) × List (Int × Bool × List Int) × List (Int × Bool × List Int) × Bool × List Int) × Bool × List Int × List (Int × Bool × List Int) × List (Int × Bool × List Int) × List (Int × Bool × List Int) × Bool × List Int) ⊕ (List ((Bool × List Int) × List (Int × Bool × List Int) × List (Int × Bool × List Int) × List (Int × Bool × List Int) × Bool × List Int))) :=
 if ((decide (i < n)) = true) then
  if ((0 : Int) ≤ i) then
   Option.bind (s)[(Int.toNat i)]? fun x =>
   Option.bind (Fshuntref01_Right k x.1.1 x.1.2) fun r3 =>
   if ((!r3) = false) then
    Option.bind (Fshuntref01_Take k x.1.1 x.1.2) fun r4 =>
    Option.bind (Fshuntref01_Sign k r4.1 r4.2) fun r5 =>
    if ((decide (r5 ≤ (0 : Int))) = false) then
     Option.bind (Fshuntref01_Right k x.2.2.2.2.1 x.2.2.2.2.2) fun r6 =>
     if ((!r6) = false) then
      Option.bind (Fshuntref12_cellsRight k x.2.1 n) fun r7 =>
      if ((!r7) = false) then
       Option.bind (Fshuntref12_cellsRight k x.2.2.1 n) fun r8 =>
       if ((!r8) = false) then
        Option.bind (Fshuntref12_cellsRight k x.2.2.2.1 (64 : Int)) fun r9 =>
        if ((!r9) = true) then
         (some (Sum.inl ((130 : Int), s, x.1.1, x.1.2, x.2.1, x.2.2.1, x.2.2.2.1, x.2.2.2.2.1, x.2.2.2.2.2)))
        else
        rec n (IntKind.wrap .i64 (i + (1 : Int))) s
       else
       (some (Sum.inl ((130 : Int), s, x.1.1, x.1.2, x.2.1, x.2.2.1, x.2.2.2.1, x.2.2.2.2.1, x.2.2.2.2.2)))
      else
      (some (Sum.inl ((130 : Int), s, x.1.1, x.1.2, x.2.1, x.2.2.1, x.2.2.2.1, x.2.2.2.2.1, x.2.2.2.2.2)))
     else
     (some (Sum.inl ((130 : Int), s, x.1.1, x.1.2, x.2.1, x.2.2.1, x.2.2.2.1, x.2.2.2.2.1, x.2.2.2.2.2)))
    else
    (some (Sum.inl ((130 : Int), s, x.1.1, x.1.2, x.2.1, x.2.2.1, x.2.2.2.1, x.2.2.2.2.1, x.2.2.2.2.2)))
   else
   (some (Sum.inl ((130 : Int), s, x.1.1, x.1.2, x.2.1, x.2.2.1, x.2.2.2.1, x.2.2.2.2.1, x.2.2.2.2.2)))
  else
  none
 else
 (some (Sum.inr s))
def Lshuntref12_Check_0 (k n : Nat) : Int → Int → List ((Bool × List Int) × List (Int × Bool × List Int) × List (Int × Bool × List Int) × List (Int × Bool × List Int) × Bool × List Int) → Option ((Int × List ((Bool × List Int) × List (Int × Bool × List Int) × List (Int × Bool × List Int) × List (Int × Bool × List Int) × Bool × List Int) × Bool × List Int × List (Int × Bool × List Int) × List (Int × Bool × List Int) × List (Int × Bool × List Int) × Bool × List Int) ⊕ (List ((Bool × List Int) × List (Int × Bool × List Int) × List (Int × Bool × List Int) × List (Int × Bool × List Int) × Bool × List Int))) := Nat.rec (fun _ _ _ => none) (fun _ r => Lshuntref12_Check_0s k r) n
def bshuntref12_Check (k : Nat) (s : List ((Bool × List Int) × List (Int × Bool × List Int) × List (Int × Bool × List Int) × List (Int × Bool × List Int) × Bool × List Int)) : Option (Int) :=
 if ((decide ((((List.length s) : Nat) : Int) > (48 : Int))) = true) then
  (some (130 : Int))
 else
 Option.bind (Lshuntref12_Check_0 k k (((List.length s) : Nat) : Int) (0 : Int) s) fun r3 =>
 eitherK r3
  (fun r3 =>
  (some r3.1))
  (fun r3 =>
  (some (0 : Int)))
def Fshuntref12_Check : Nat → List ((Bool × List Int) × List (Int × Bool × List Int) × List (Int × Bool × List Int) × List (Int × Bool × List Int) × Bool × List Int) → Option (Int)
 | 0, _ => none
 | k + 1, s => bshuntref12_Check k s
def Ishuntref12_Check : Nat → Inst := mkI 41 ⟨[.g [.lf (.sl (.pr (.pr .bool cW) (.pr (.sl (.pr (.int .i64) (.pr .bool cW))) (.pr (.sl (.pr (.int .i64) (.pr .bool cW))) (.pr (.sl (.pr (.int .i64) (.pr .bool cW))) (.pr .bool cW))))))]], []⟩ [⟨[vI], []⟩] fun k x => Fshuntref12_Check k x
theorem alshuntref12_Check (k : Nat) : AllI (call cf k) [Ishuntref01_Right k, Ishuntref01_Take k, Ishuntref01_Sign k, Ishuntref12_cellsRight k] :=
 ac (okshuntref01_Right k) (ac (okshuntref01_Take k) (ac (okshuntref01_Sign k) (ac (okshuntref12_cellsRight k) a0)))
def LIshuntref12_Check_0 (k : Nat) : LInst := mkL 0 [⟨[(1, .a (.ptr 0 0 0)), (3, vI), (4, vI)], [(0, some (.raw [[.lf (.sl (.pr (.pr .bool cW) (.pr (.sl (.pr (.int .i64) (.pr .bool cW))) (.pr (.sl (.pr (.int .i64) (.pr .bool cW))) (.pr (.sl (.pr (.int .i64) (.pr .bool cW))) (.pr .bool cW))))))]] 1 59 true false false))], 1⟩] [⟨none, ⟨[(2, vI)], [(0, some (.raw [[.lf (.sl (.pr (.pr .bool cW) (.pr (.sl (.pr (.int .i64) (.pr .bool cW))) (.pr (.sl (.pr (.int .i64) (.pr .bool cW))) (.pr (.sl (.pr (.int .i64) (.pr .bool cW))) (.pr .bool cW))))))]] 1 59 true false false)), (1, some (.raw [[.lf .bool, .lf cW, .lf (.sl (.pr (.int .i64) (.pr .bool cW))), .lf (.sl (.pr (.int .i64) (.pr .bool cW))), .lf (.sl (.pr (.int .i64) (.pr .bool cW))), .lf .bool, .lf cW]] 7 65 true false false))], 2⟩⟩, ⟨some 0, ⟨[], [(0, some (.raw [[.lf (.sl (.pr (.pr .bool cW) (.pr (.sl (.pr (.int .i64) (.pr .bool cW))) (.pr (.sl (.pr (.int .i64) (.pr .bool cW))) (.pr (.sl (.pr (.int .i64) (.pr .bool cW))) (.pr .bool cW))))))]] 1 59 true false false))], 1⟩⟩] (fun n x => Lshuntref12_Check_0 k n x.1 x.2.1 x.2.2) k
theorem loshuntref12_Check_0 (k : Nat) : LIo 41 Try.f41 0 k (LIshuntref12_Check_0 k) :=
 lpk [] (alshuntref12_Check k) l0 (fun _ => rfl) (by kernel_rfl) fun n x => by kernel_rfl
theorem okshuntref12_Check : ∀ k, InstOk (call cf k) (Ishuntref12_Check k) :=
 fnk 0 [0] Try.func41 (fun k => (alshuntref12_Check k)) (fun k => (lc (loshuntref12_Check_0 k) l0)) ⟨rfl, rfl, ⟨rfl, Nat.le_of_ble_eq_true rfl⟩, rfl⟩ (fun _ => rfl) (by kernel_rfl) fun k x => by kernel_rfl

/-! shunt/shuntref13.Of -/
def Lshuntref13_Of_2s (k : Nat) (rec : Nat → Int → Nat → Int → List ((Bool × List Int) × List (Int × Bool × List Int) × List (Int × Bool × List Int) × List (Int × Bool × List Int) × Bool × List Int) → List (List Int) → List Int → Option (Nat × Int × Nat × List ((Bool × List Int) × List (Int × Bool × List Int) × List (Int × Bool × List Int) × List (Int × Bool × List Int) × Bool × List Int) × List (List Int) × List Int)) (p : Nat) (i : Int) (r : Nat) (k1 : Int) (s : List ((Bool × List Int) × List (Int × Bool × List Int) × List (Int × Bool × List Int) × List (Int × Bool × List Int) × Bool × List Int)) (ps : List (List Int)) (rs : List Int) : Option (Nat × Int × Nat × List ((Bool × List Int) × List (Int × Bool × List Int) × List (Int × Bool × List Int) × List (Int × Bool × List Int) × Bool × List Int) × List (List Int) × List Int) :=
 if ((0 : Int) ≤ i) then
  Option.bind (s)[(Int.toNat i)]? fun x =>
  if ((decide (k1 < (((List.length x.2.1) : Nat) : Int))) = true) then
   if ((0 : Int) ≤ i) then
    Option.bind (s)[(Int.toNat i)]? fun x1 =>
    if ((0 : Int) ≤ k1) then
     Option.bind (x1.2.1)[(Int.toNat k1)]? fun x2 =>
     if (r ≤ (List.length rs)) then
      if (((r + (List.length (List.take 1 (x2.1 :: [])))) * 8) ≤ 140737488355328) then
       rec p i (r + (List.length (List.take 1 (x2.1 :: [])))) (IntKind.wrap .i64 (k1 + (1 : Int))) s ps ((List.take r rs) ++ (List.take 1 (x2.1 :: [])))
      else
      none
     else
     none
    else
    none
   else
   none
  else
  (some (p, i, r, s, ps, rs))
 else
 none
def Lshuntref13_Of_2 (k n : Nat) : Nat → Int → Nat → Int → List ((Bool × List Int) × List (Int × Bool × List Int) × List (Int × Bool × List Int) × List (Int × Bool × List Int) × Bool × List Int) → List (List Int) → List Int → Option (Nat × Int × Nat × List ((Bool × List Int) × List (Int × Bool × List Int) × List (Int × Bool × List Int) × List (Int × Bool × List Int) × Bool × List Int) × List (List Int) × List Int) := Nat.rec (fun _ _ _ _ _ _ _ => none) (fun _ r => Lshuntref13_Of_2s k r) n
def Lshuntref13_Of_0s (k : Nat) (rec : Nat → Int → List ((Bool × List Int) × List (Int × Bool × List Int) × List (Int × Bool × List Int) × List (Int × Bool × List Int) × Bool × List Int) → List (List Int) → Option (Nat × List ((Bool × List Int) × List (Int × Bool × List Int) × List (Int × Bool × List Int) × List (Int × Bool × List Int) × Bool × List Int) × List (List Int))) (p : Nat) (i : Int) (s : List ((Bool × List Int) × List (Int × Bool × List Int) × List (Int × Bool × List Int) × List (Int × Bool × List Int) × Bool × List Int)) (ps : List (List Int)) : Option (Nat × List ((Bool × List Int) × List (Int × Bool × List Int) × List (Int × Bool × List Int) × List (Int × Bool × List Int) × Bool × List Int) × List (List Int)) :=
 if ((decide (i < (((List.length s) : Nat) : Int))) = true) then
  Option.bind (Lshuntref13_Of_2 k k p i 0 (0 : Int) s ps []) fun r4 =>
  if ((0 + r4.2.2.1) ≤ (List.length r4.2.2.2.2.2)) then
   if (r4.1 ≤ (List.length r4.2.2.2.2.1)) then
    if (((r4.1 + (List.length (List.take 1 ((List.take r4.2.2.1 r4.2.2.2.2.2) :: [])))) * 24) ≤ 140737488355328) then
     rec (r4.1 + (List.length (List.take 1 ((List.take r4.2.2.1 r4.2.2.2.2.2) :: [])))) (IntKind.wrap .i64 (r4.2.1 + (1 : Int))) r4.2.2.2.1 ((List.take r4.1 r4.2.2.2.2.1) ++ (List.take 1 ((List.take r4.2.2.1 r4.2.2.2.2.2) :: [])))
    else
    none
   else
   none
  else
  none
 else
 (some (p, s, ps))
def Lshuntref13_Of_0 (k n : Nat) : Nat → Int → List ((Bool × List Int) × List (Int × Bool × List Int) × List (Int × Bool × List Int) × List (Int × Bool × List Int) × Bool × List Int) → List (List Int) → Option (Nat × List ((Bool × List Int) × List (Int × Bool × List Int) × List (Int × Bool × List Int) × List (Int × Bool × List Int) × Bool × List Int) × List (List Int)) := Nat.rec (fun _ _ _ _ => none) (fun _ r => Lshuntref13_Of_0s k r) n
def bshuntref13_Of (k : Nat) (s : List ((Bool × List Int) × List (Int × Bool × List Int) × List (Int × Bool × List Int) × List (Int × Bool × List Int) × Bool × List Int)) : Option (List (List Int) × Int) :=
 Option.bind (Fshuntref12_Check k s) fun r3 =>
 if ((r3 != (0 : Int)) = true) then
  (some ([], r3))
 else
 Option.bind (Lshuntref13_Of_0 k k 0 (0 : Int) s []) fun r4 =>
 if ((0 + r4.1) ≤ (List.length r4.2.2)) then
  (some ((List.take r4.1 r4.2.2), (0 : Int)))
 else
 none
def Fshuntref13_Of : Nat → List ((Bool × List Int) × List (Int × Bool × List Int) × List (Int × Bool × List Int) × List (Int × Bool × List Int) × Bool × List Int) → Option (List (List Int) × Int)
 | 0, _ => none
 | k + 1, s => bshuntref13_Of k s
def Ishuntref13_Of : Nat → Inst := mkI 29 ⟨[.g [.lf (.sl (.pr (.pr .bool cW) (.pr (.sl (.pr (.int .i64) (.pr .bool cW))) (.pr (.sl (.pr (.int .i64) (.pr .bool cW))) (.pr (.sl (.pr (.int .i64) (.pr .bool cW))) (.pr .bool cW))))))]], []⟩ [⟨[.a (.lf (.sl (.sl (.int .i64)))), vI], []⟩] fun k x => Fshuntref13_Of k x
theorem alshuntref13_Of (k : Nat) : AllI (call cf k) [Ishuntref12_Check k] :=
 ac (okshuntref12_Check k) a0
def LIshuntref13_Of_2 (k : Nat) : LInst := mkL 2 [⟨[(1, .a (.ptr 0 0 0)), (5, .a (.smz 1)), (6, vI), (7, .a (.smz 2)), (8, vI)], [(0, some (.raw [[.lf (.sl (.pr (.pr .bool cW) (.pr (.sl (.pr (.int .i64) (.pr .bool cW))) (.pr (.sl (.pr (.int .i64) (.pr .bool cW))) (.pr (.sl (.pr (.int .i64) (.pr .bool cW))) (.pr .bool cW))))))]] 1 59 true false false)), (1, some (.arr (.sl (.int .i64)) 1 41 false)), (2, some (.arr (.int .i64) 1 3 false))], 3⟩] [⟨some 2, ⟨[(1, .a (.ptr 0 0 0)), (5, .a (.smz 1)), (6, vI), (7, .a (.smz 2))], [(0, some (.raw [[.lf (.sl (.pr (.pr .bool cW) (.pr (.sl (.pr (.int .i64) (.pr .bool cW))) (.pr (.sl (.pr (.int .i64) (.pr .bool cW))) (.pr (.sl (.pr (.int .i64) (.pr .bool cW))) (.pr .bool cW))))))]] 1 59 true false false)), (1, some (.arr (.sl (.int .i64)) 1 41 false)), (2, some (.arr (.int .i64) 1 3 false))], 3⟩⟩] (fun n x => Lshuntref13_Of_2 k n x.1 x.2.1 x.2.2.1 x.2.2.2.1 x.2.2.2.2.1 x.2.2.2.2.2.1 x.2.2.2.2.2.2) k
theorem loshuntref13_Of_2 (k : Nat) : LIo 29 Try.f29 0 k (LIshuntref13_Of_2 k) :=
 lpk [] (alshuntref13_Of k) l0 (fun _ => rfl) (by kernel_rfl) fun n x => by kernel_rfl
def LIshuntref13_Of_0 (k : Nat) : LInst := mkL 0 [⟨[(1, .a (.ptr 0 0 0)), (5, .a (.smz 1)), (6, vI)], [(0, some (.raw [[.lf (.sl (.pr (.pr .bool cW) (.pr (.sl (.pr (.int .i64) (.pr .bool cW))) (.pr (.sl (.pr (.int .i64) (.pr .bool cW))) (.pr (.sl (.pr (.int .i64) (.pr .bool cW))) (.pr .bool cW))))))]] 1 59 true false false)), (1, some (.arr (.sl (.int .i64)) 1 41 false))], 2⟩] [⟨some 0, ⟨[(5, .a (.smz 1))], [(0, some (.raw [[.lf (.sl (.pr (.pr .bool cW) (.pr (.sl (.pr (.int .i64) (.pr .bool cW))) (.pr (.sl (.pr (.int .i64) (.pr .bool cW))) (.pr (.sl (.pr (.int .i64) (.pr .bool cW))) (.pr .bool cW))))))]] 1 59 true false false)), (1, some (.arr (.sl (.int .i64)) 1 41 false))], 2⟩⟩] (fun n x => Lshuntref13_Of_0 k n x.1 x.2.1 x.2.2.1 x.2.2.2) k
theorem loshuntref13_Of_0 (k : Nat) : LIo 29 Try.f29 0 k (LIshuntref13_Of_0 k) :=
 lpk [2] (alshuntref13_Of k) (lc (loshuntref13_Of_2 k) l0) (fun _ => rfl) (by kernel_rfl) fun n x => by kernel_rfl
theorem okshuntref13_Of : ∀ k, InstOk (call cf k) (Ishuntref13_Of k) :=
 fnk 0 [0] Try.func29 (fun k => (alshuntref13_Of k)) (fun k => (lc (loshuntref13_Of_2 k) (lc (loshuntref13_Of_0 k) l0))) ⟨rfl, rfl, ⟨rfl, Nat.le_of_ble_eq_true rfl⟩, rfl⟩ (fun _ => rfl) (by kernel_rfl) fun k x => by kernel_rfl

/-! shunt/shuntlaw13.SparseOf -/
def Lshuntlaw13_SparseOf_0s (k : Nat) (rec : Int → Int → List ((Bool × List Int) × List (Int × Bool × List Int) × List (Int × Bool × List Int) × List (Int × Bool × List Int) × Bool × List Int) → Option ((Bool × List ((Bool × List Int) × List (Int × Bool × List Int) × List (Int × Bool × List Int) × List (Int × Bool × List Int) × Bool × List Int)) ⊕ (List ((Bool × List Int) × List (Int × Bool × List Int) × List (Int × Bool × List Int) × List (Int × Bool × List Int) × Bool × List Int)))) (x : Int) (x1 : Int) (s : List ((Bool × List Int) × List (Int × Bool × List Int) × List (Int × Bool × List Int) × List (Int × Bool × List Int) × Bool × List Int)) : Option ((Bool × List ((Bool × List Int) × List (Int × Bool × List Int) × List (Int × Bool × List Int) × List (Int × Bool × List Int) × Bool × List Int)) ⊕ (List ((Bool × List Int) × List (Int × Bool × List Int) × List (Int × Bool × List Int) × List (Int × Bool × List Int) × Bool × List Int))) :=
 if ((decide (x1 < x)) = true) then
  if ((decide (x1 > (60 : Int))) = false) then
   if ((0 : Int) ≤ x1) then
    Option.bind (s)[(Int.toNat x1)]? fun x2 =>
    if ((0 : Int) ≤ x1) then
     Option.bind (s)[(Int.toNat x1)]? fun x3 =>
     if ((0 : Int) ≤ x1) then
      Option.bind (s)[(Int.toNat x1)]? fun x4 =>
      if ((decide ((IntKind.wrap .i64 ((IntKind.wrap .i64 ((((List.length x2.2.1) : Nat) : Int) + (((List.length x3.2.2.1) : Nat) : Int))) + (((List.length x4.2.2.2.1) : Nat) : Int))) > (300 : Int))) = true) then
       (some (Sum.inl (true, s)))
      else
      rec x (IntKind.wrap .i64 (x1 + (1 : Int))) s
     else
     none
    else
    none
   else
   none
  else
  (some (Sum.inl (true, s)))
 else
 (some (Sum.inr s))
def Lshuntlaw13_SparseOf_0 (k n : Nat) : Int → Int → List ((Bool × List Int) × List (Int × Bool × List Int) × List (Int × Bool × List Int) × List (Int × Bool × List Int) × Bool × List Int) → Option ((Bool × List ((Bool × List Int) × List (Int × Bool × List Int) × List (Int × Bool × List Int) × List (Int × Bool × List Int) × Bool × List Int)) ⊕ (List ((Bool × List Int) × List (Int × Bool × List Int) × List (Int × Bool × List Int) × List (Int × Bool × List Int) × Bool × List Int))) := Nat.rec (fun _ _ _ => none) (fun _ r => Lshuntlaw13_SparseOf_0s k r) n
def bshuntlaw13_SparseOf (k : Nat) (s : List ((Bool × List Int) × List (Int × Bool × List Int) × List (Int × Bool × List Int) × List (Int × Bool × List Int) × Bool × List Int)) : Option (Bool) :=
 Option.bind (Fshuntlaw13_awake k) fun r =>
 if ((!r) = true) then
  (some false)
 else
 Option.bind (Lshuntlaw13_SparseOf_0 k k (((List.length s) : Nat) : Int) (0 : Int) s) fun r1 =>
 eitherK r1
  (fun r1 =>
  (some r1.1))
  (fun r1 =>
  Option.bind (Fsparse_Of k r1) fun r2 =>
  Option.bind (Fshuntref13_Of k r1) fun r3 =>
  Option.bind (Fshuntref13_Same k r2.1 r3.1) fun r4 =>
  if (r4 = true) then
   if ((r2.2 == r3.2) = true) then
    if ((r2.2 != (0 : Int)) = false) then
     Option.bind (Fsparse_Check k r2.1) fun r5 =>
     (some (r5 == (0 : Int)))
    else
    (some true)
   else
   (some false)
  else
  (some false))
def Fshuntlaw13_SparseOf : Nat → List ((Bool × List Int) × List (Int × Bool × List Int) × List (Int × Bool × List Int) × List (Int × Bool × List Int) × Bool × List Int) → Option (Bool)
 | 0, _ => none
 | k + 1, s => bshuntlaw13_SparseOf k s
def Ishuntlaw13_SparseOf : Nat → Inst := mkI 9 ⟨[.g [.lf (.sl (.pr (.pr .bool cW) (.pr (.sl (.pr (.int .i64) (.pr .bool cW))) (.pr (.sl (.pr (.int .i64) (.pr .bool cW))) (.pr (.sl (.pr (.int .i64) (.pr .bool cW))) (.pr .bool cW))))))]], []⟩ [⟨[vB], []⟩] fun k x => Fshuntlaw13_SparseOf k x
theorem alshuntlaw13_SparseOf (k : Nat) : AllI (call cf k) [Ishuntlaw13_awake k, Isparse_Of k, Ishuntref13_Of k, Ishuntref13_Same k, Isparse_Check k] :=
 ac (okshuntlaw13_awake k) (ac (oksparse_Of k) (ac (okshuntref13_Of k) (ac (okshuntref13_Same k) (ac (oksparse_Check k) a0))))
def LIshuntlaw13_SparseOf_0 (k : Nat) : LInst := mkL 0 [⟨[(1, .a (.ptr 0 0 0)), (12, vI), (13, vI)], [(0, some (.raw [[.lf (.sl (.pr (.pr .bool cW) (.pr (.sl (.pr (.int .i64) (.pr .bool cW))) (.pr (.sl (.pr (.int .i64) (.pr .bool cW))) (.pr (.sl (.pr (.int .i64) (.pr .bool cW))) (.pr .bool cW))))))]] 1 59 true false false))], 1⟩] [⟨none, ⟨[(2, vB)], [(0, some (.raw [[.lf (.sl (.pr (.pr .bool cW) (.pr (.sl (.pr (.int .i64) (.pr .bool cW))) (.pr (.sl (.pr (.int .i64) (.pr .bool cW))) (.pr (.sl (.pr (.int .i64) (.pr .bool cW))) (.pr .bool cW))))))]] 1 59 true false false))], 1⟩⟩, ⟨some 0, ⟨[(1, .a (.ptr 0 0 0))], [(0, some (.raw [[.lf (.sl (.pr (.pr .bool cW) (.pr (.sl (.pr (.int .i64) (.pr .bool cW))) (.pr (.sl (.pr (.int .i64) (.pr .bool cW))) (.pr (.sl (.pr (.int .i64) (.pr .bool cW))) (.pr .bool cW))))))]] 1 59 true false false))], 1⟩⟩] (fun n x => Lshuntlaw13_SparseOf_0 k n x.1 x.2.1 x.2.2) k
theorem loshuntlaw13_SparseOf_0 (k : Nat) : LIo 9 Try.f9 0 k (LIshuntlaw13_SparseOf_0 k) :=
 lpk [] (alshuntlaw13_SparseOf k) l0 (fun _ => rfl) (by kernel_rfl) fun n x => by kernel_rfl
theorem okshuntlaw13_SparseOf : ∀ k, InstOk (call cf k) (Ishuntlaw13_SparseOf k) :=
 fnk 0 [0] Try.func9 (fun k => (alshuntlaw13_SparseOf k)) (fun k => (lc (loshuntlaw13_SparseOf_0 k) l0)) ⟨rfl, rfl, ⟨rfl, Nat.le_of_ble_eq_true rfl⟩, rfl⟩ (fun _ => rfl) (by kernel_rfl) fun k x => by kernel_rfl


end
end Go.Proofs.Ytgiamleohegjeaa.Am
