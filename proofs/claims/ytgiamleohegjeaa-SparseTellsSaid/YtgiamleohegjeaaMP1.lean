/- Printed functions: each says what the typed machine says of the program -/
import Derived.Test.YtgiamleohegjeaaMA3
import Derived.KernelRfl

set_option linter.unusedVariables false
set_option maxRecDepth 100000
namespace Go.Proofs.Ytgiamleohegjeaa.Am
open Go
noncomputable section

/-! shunt/sparse.Check -/
def Lsparse_Check_2s (k : Nat) (rec : List (List Int) → List Int → List (List Int) → Int → Int → List Int → Int → Int → Option ((Int) ⊕ (List (List Int) × List (List Int) × Int × Int))) (p : List (List Int)) (r : List Int) (x : List (List Int)) (x1 : Int) (x2 : Int) (x3 : List Int) (x4 : Int) (x5 : Int) : Option ((Int) ⊕ (List (List Int) × List (List Int) × Int × Int)) :=
 if ((decide (x5 < x4)) = true) then
  if ((0 : Int) ≤ x5) then
   Option.bind (x3)[(Int.toNat x5)]? fun x6 =>
   if ((decide (x6 < (0 : Int))) = false) then
    if ((decide (x6 ≥ (((List.length p) : Nat) : Int))) = false) then
     if ((decide (x5 > (0 : Int))) = true) then
      if ((0 : Int) ≤ (IntKind.wrap .i64 (x5 - (1 : Int)))) then
       Option.bind (r)[(Int.toNat (IntKind.wrap .i64 (x5 - (1 : Int))))]? fun x7 =>
       if ((decide (x7 ≥ x6)) = true) then
        (some (Sum.inl (130 : Int)))
       else
       rec p r x x1 x2 x3 x4 (IntKind.wrap .i64 (x5 + (1 : Int)))
      else
      none
     else
     rec p r x x1 x2 x3 x4 (IntKind.wrap .i64 (x5 + (1 : Int)))
    else
    (some (Sum.inl (130 : Int)))
   else
   (some (Sum.inl (130 : Int)))
  else
  none
 else
 (some (Sum.inr (p, x, x1, x2)))
def Lsparse_Check_2 (k n : Nat) : List (List Int) → List Int → List (List Int) → Int → Int → List Int → Int → Int → Option ((Int) ⊕ (List (List Int) × List (List Int) × Int × Int)) := Nat.rec (fun _ _ _ _ _ _ _ _ => none) (fun _ r => Lsparse_Check_2s k r) n
def Lsparse_Check_0s (k : Nat) (rec : List (List Int) → List (List Int) → Int → Int → Option ((Int) ⊕ (Unit))) (p : List (List Int)) (x : List (List Int)) (x1 : Int) (x2 : Int) : Option ((Int) ⊕ (Unit)) :=
 if ((decide (x2 < x1)) = true) then
  if ((0 : Int) ≤ x2) then
   Option.bind (x)[(Int.toNat x2)]? fun x3 =>
   Option.bind (Lsparse_Check_2 k k p x3 x x1 x2 x3 (((List.length x3) : Nat) : Int) (0 : Int)) fun r =>
   eitherK r
    (fun r =>
    (some (Sum.inl r)))
    (fun r =>
    rec r.1 r.2.1 r.2.2.1 (IntKind.wrap .i64 (r.2.2.2 + (1 : Int))))
  else
  none
 else
 (some (Sum.inr ()))
def Lsparse_Check_0 (k n : Nat) : List (List Int) → List (List Int) → Int → Int → Option ((Int) ⊕ (Unit)) := Nat.rec (fun _ _ _ _ => none) (fun _ r => Lsparse_Check_0s k r) n
def bsparse_Check (k : Nat) (p : List (List Int)) : Option (Int) :=
 if ((decide ((((List.length p) : Nat) : Int) > (48 : Int))) = true) then
  (some (130 : Int))
 else
 Option.bind (Lsparse_Check_0 k k p p (((List.length p) : Nat) : Int) (0 : Int)) fun r =>
 eitherK r
  (fun r =>
  (some r))
  (fun r =>
  (some (0 : Int)))
def Fsparse_Check : Nat → List (List Int) → Option (Int)
 | 0, _ => none
 | k + 1, p => bsparse_Check k p
def Isparse_Check : Nat → Inst := mkI 23 ⟨[.a (.lf (.sl (.sl (.int .i64))))], []⟩ [⟨[vI], []⟩] fun k x => Fsparse_Check k x
def LIsparse_Check_2 (k : Nat) : LInst := mkL 2 [⟨[(0, .a (.lf (.sl (.sl (.int .i64))))), (4, vJ), (10, .a (.lf (.sl (.sl (.int .i64))))), (11, vI), (12, vI), (16, vJ), (17, vI), (18, vI)], [], 0⟩] [⟨none, ⟨[(2, vI)], [], 0⟩⟩, ⟨some 2, ⟨[(0, .a (.lf (.sl (.sl (.int .i64))))), (10, .a (.lf (.sl (.sl (.int .i64))))), (11, vI), (12, vI)], [], 0⟩⟩] (fun n x => Lsparse_Check_2 k n x.1 x.2.1 x.2.2.1 x.2.2.2.1 x.2.2.2.2.1 x.2.2.2.2.2.1 x.2.2.2.2.2.2.1 x.2.2.2.2.2.2.2) k
theorem losparse_Check_2 (k : Nat) : LIo 23 Try.f23 0 k (LIsparse_Check_2 k) :=
 lpk [] a0 l0 (fun _ => rfl) (by kernel_rfl) fun n x => by kernel_rfl
def LIsparse_Check_0 (k : Nat) : LInst := mkL 0 [⟨[(0, .a (.lf (.sl (.sl (.int .i64))))), (10, .a (.lf (.sl (.sl (.int .i64))))), (11, vI), (12, vI)], [], 0⟩] [⟨none, ⟨[(2, vI)], [], 0⟩⟩, ⟨some 0, ⟨[], [], 0⟩⟩] (fun n x => Lsparse_Check_0 k n x.1 x.2.1 x.2.2.1 x.2.2.2) k
theorem losparse_Check_0 (k : Nat) : LIo 23 Try.f23 0 k (LIsparse_Check_0 k) :=
 lpk [2] a0 (lc (losparse_Check_2 k) l0) (fun _ => rfl) (by kernel_rfl) fun n x => by kernel_rfl
theorem oksparse_Check : ∀ k, InstOk (call cf k) (Isparse_Check k) :=
 fnk 0 [0] Try.func23 (fun k => a0) (fun k => (lc (losparse_Check_2 k) (lc (losparse_Check_0 k) l0))) ⟨rfl, rfl, ⟨rfl, Nat.le_of_ble_eq_true rfl⟩, rfl⟩ (fun _ => rfl) (by kernel_rfl) fun k x => by kernel_rfl

/-! shunt/sparse.counts -/
def Lsparse_counts_2s (k : Nat) (rec : Nat → List (List Int) → Int → Int → List Int → Int → Int → List Int → Option (Nat × List (List Int) × Int × Int × List Int)) (n : Nat) (x : List (List Int)) (x1 : Int) (x2 : Int) (x3 : List Int) (x4 : Int) (x5 : Int) (ns : List Int) : Option (Nat × List (List Int) × Int × Int × List Int) :=
 if ((decide (x5 < x4)) = true) then
  if ((0 : Int) ≤ x5) then
   Option.bind (x3)[(Int.toNat x5)]? fun x6 =>
   if (((0 : Int) ≤ x6) ∧ (x6 < ((n : Nat) : Int))) then
    Option.bind (ns)[(0 + (Int.toNat x6))]? fun x7 =>
    if (((0 : Int) ≤ x6) ∧ (x6 < ((n : Nat) : Int))) then
     Option.bind (ns)[(0 + (Int.toNat x6))]? fun x8 =>
     rec n x x1 x2 x3 x4 (IntKind.wrap .i64 (x5 + (1 : Int))) (List.set ns (0 + (Int.toNat x6)) (IntKind.wrap .i64 (x7 + (1 : Int))))
    else
    none
   else
   none
  else
  none
 else
 (some (n, x, x1, x2, ns))
def Lsparse_counts_2 (k n : Nat) : Nat → List (List Int) → Int → Int → List Int → Int → Int → List Int → Option (Nat × List (List Int) × Int × Int × List Int) := Nat.rec (fun _ _ _ _ _ _ _ _ => none) (fun _ r => Lsparse_counts_2s k r) n
def Lsparse_counts_0s (k : Nat) (rec : Nat → List (List Int) → Int → Int → List Int → Option (Nat × List Int)) (n : Nat) (x : List (List Int)) (x1 : Int) (x2 : Int) (ns : List Int) : Option (Nat × List Int) :=
 if ((decide (x2 < x1)) = true) then
  if ((0 : Int) ≤ x2) then
   Option.bind (x)[(Int.toNat x2)]? fun x3 =>
   Option.bind (Lsparse_counts_2 k k n x x1 x2 x3 (((List.length x3) : Nat) : Int) (0 : Int) ns) fun r1 =>
   rec r1.1 r1.2.1 r1.2.2.1 (IntKind.wrap .i64 (r1.2.2.2.1 + (1 : Int))) r1.2.2.2.2
  else
  none
 else
 (some (n, ns))
def Lsparse_counts_0 (k n : Nat) : Nat → List (List Int) → Int → Int → List Int → Option (Nat × List Int) := Nat.rec (fun _ _ _ _ _ => none) (fun _ r => Lsparse_counts_0s k r) n
def bsparse_counts (k : Nat) (p : List (List Int)) : Option (Nat × List Int) :=
 if (((0 : Int) ≤ (((List.length p) : Nat) : Int)) ∧ (((((List.length p) : Nat) : Int) ≤ (((List.length p) : Nat) : Int)) ∧ (((((List.length p) : Nat) : Int) * (8 : Int)) ≤ (140737488355328 : Int)))) then
  Option.bind (Lsparse_counts_0 k k (Int.toNat (((List.length p) : Nat) : Int)) p (((List.length p) : Nat) : Int) (0 : Int) (List.replicate (Int.toNat (((List.length p) : Nat) : Int)) (0 : Int))) fun r1 =>
  (some (r1.1, r1.2))
 else
 none
def Fsparse_counts : Nat → List (List Int) → Option (Nat × List Int)
 | 0, _ => none
 | k + 1, p => bsparse_counts k p
def Isparse_counts : Nat → Inst := mkI 31 ⟨[.a (.lf (.sl (.sl (.int .i64))))], []⟩ [⟨[.a (.smz 0)], [.arr (.int .i64) 1 3 false]⟩] fun k x => Fsparse_counts k x
def LIsparse_counts_2 (k : Nat) : LInst := mkL 2 [⟨[(3, .a (.smz 0)), (11, .a (.lf (.sl (.sl (.int .i64))))), (12, vI), (13, vI), (17, vJ), (18, vI), (19, vI)], [(0, some (.arr (.int .i64) 1 3 false))], 1⟩] [⟨some 2, ⟨[(3, .a (.smz 0)), (11, .a (.lf (.sl (.sl (.int .i64))))), (12, vI), (13, vI)], [(0, some (.arr (.int .i64) 1 3 false))], 1⟩⟩] (fun n x => Lsparse_counts_2 k n x.1 x.2.1 x.2.2.1 x.2.2.2.1 x.2.2.2.2.1 x.2.2.2.2.2.1 x.2.2.2.2.2.2.1 x.2.2.2.2.2.2.2) k
theorem losparse_counts_2 (k : Nat) : LIo 31 Try.f31 0 k (LIsparse_counts_2 k) :=
 lpk [] a0 l0 (fun _ => rfl) (by kernel_rfl) fun n x => by kernel_rfl
def LIsparse_counts_0 (k : Nat) : LInst := mkL 0 [⟨[(3, .a (.smz 0)), (11, .a (.lf (.sl (.sl (.int .i64))))), (12, vI), (13, vI)], [(0, some (.arr (.int .i64) 1 3 false))], 1⟩] [⟨some 0, ⟨[(3, .a (.smz 0))], [(0, some (.arr (.int .i64) 1 3 false))], 1⟩⟩] (fun n x => Lsparse_counts_0 k n x.1 x.2.1 x.2.2.1 x.2.2.2.1 x.2.2.2.2) k
theorem losparse_counts_0 (k : Nat) : LIo 31 Try.f31 0 k (LIsparse_counts_0 k) :=
 lpk [2] a0 (lc (losparse_counts_2 k) l0) (fun _ => rfl) (by kernel_rfl) fun n x => by kernel_rfl
theorem oksparse_counts : ∀ k, InstOk (call cf k) (Isparse_counts k) :=
 fnk 0 [0] Try.func31 (fun k => a0) (fun k => (lc (losparse_counts_2 k) (lc (losparse_counts_0 k) l0))) ⟨rfl, rfl, ⟨rfl, Nat.le_of_ble_eq_true rfl⟩, rfl⟩ (fun _ => rfl) (by kernel_rfl) fun k x => by kernel_rfl

/-! shunt/sparse.best -/
def Lsparse_best_2s (k : Nat) (rec : Nat → Int → Int → Int → Int → List Int → List (List Int) → Int → Int → List Int → Int → Int → List Int → Option (Nat × Int × Int × Int × List (List Int) × Int × Int × List Int)) (n : Nat) (row : Int) (col : Int) (least : Int) (i : Int) (r : List Int) (x : List (List Int)) (x1 : Int) (x2 : Int) (x3 : List Int) (x4 : Int) (x5 : Int) (ns : List Int) : Option (Nat × Int × Int × Int × List (List Int) × Int × Int × List Int) :=
 if ((decide (x5 < x4)) = true) then
  if ((0 : Int) ≤ x5) then
   Option.bind (x3)[(Int.toNat x5)]? fun x6 =>
   if (((0 : Int) ≤ x6) ∧ (x6 < ((n : Nat) : Int))) then
    Option.bind (ns)[(0 + (Int.toNat x6))]? fun x7 =>
    if ((decide (least < (0 : Int))) = false) then
     if ((decide ((IntKind.wrap .i64 ((IntKind.wrap .i64 ((((List.length r) : Nat) : Int) - (1 : Int))) * (IntKind.wrap .i64 (x7 - (1 : Int))))) < least)) = true) then
      rec n i x6 (IntKind.wrap .i64 ((IntKind.wrap .i64 ((((List.length r) : Nat) : Int) - (1 : Int))) * (IntKind.wrap .i64 (x7 - (1 : Int))))) i r x x1 x2 x3 x4 (IntKind.wrap .i64 (x5 + (1 : Int))) ns
     else
     rec n row col least i r x x1 x2 x3 x4 (IntKind.wrap .i64 (x5 + (1 : Int))) ns
    else
    rec n i x6 (IntKind.wrap .i64 ((IntKind.wrap .i64 ((((List.length r) : Nat) : Int) - (1 : Int))) * (IntKind.wrap .i64 (x7 - (1 : Int))))) i r x x1 x2 x3 x4 (IntKind.wrap .i64 (x5 + (1 : Int))) ns
   else
   none
  else
  none
 else
 (some (n, row, col, least, x, x1, x2, ns))
def Lsparse_best_2 (k n : Nat) : Nat → Int → Int → Int → Int → List Int → List (List Int) → Int → Int → List Int → Int → Int → List Int → Option (Nat × Int × Int × Int × List (List Int) × Int × Int × List Int) := Nat.rec (fun _ _ _ _ _ _ _ _ _ _ _ _ _ => none) (fun _ r => Lsparse_best_2s k r) n
def Lsparse_best_0s (k : Nat) (rec : Nat → Int → Int → Int → List (List Int) → Int → Int → List Int → Option (Int × Int × Int × List Int)) (n : Nat) (row : Int) (col : Int) (least : Int) (x : List (List Int)) (x1 : Int) (x2 : Int) (ns : List Int) : Option (Int × Int × Int × List Int) :=
 if ((decide (x2 < x1)) = true) then
  if ((0 : Int) ≤ x2) then
   Option.bind (x)[(Int.toNat x2)]? fun x3 =>
   Option.bind (Lsparse_best_2 k k n row col least x2 x3 x x1 x2 x3 (((List.length x3) : Nat) : Int) (0 : Int) ns) fun r2 =>
   rec r2.1 r2.2.1 r2.2.2.1 r2.2.2.2.1 r2.2.2.2.2.1 r2.2.2.2.2.2.1 (IntKind.wrap .i64 (r2.2.2.2.2.2.2.1 + (1 : Int))) r2.2.2.2.2.2.2.2
  else
  none
 else
 (some (row, col, least, ns))
def Lsparse_best_0 (k n : Nat) : Nat → Int → Int → Int → List (List Int) → Int → Int → List Int → Option (Int × Int × Int × List Int) := Nat.rec (fun _ _ _ _ _ _ _ _ => none) (fun _ r => Lsparse_best_0s k r) n
def bsparse_best (k : Nat) (p : List (List Int)) : Option (Int × Int × Bool) :=
 Option.bind (Fsparse_counts k p) fun r1 =>
 Option.bind (Lsparse_best_0 k k r1.1 (0 : Int) (0 : Int) (-(1 : Int)) p (((List.length p) : Nat) : Int) (0 : Int) r1.2) fun r2 =>
 (some (r2.1, r2.2.1, (decide (r2.2.2.1 ≥ (0 : Int)))))
def Fsparse_best : Nat → List (List Int) → Option (Int × Int × Bool)
 | 0, _ => none
 | k + 1, p => bsparse_best k p
def Isparse_best : Nat → Inst := mkI 35 ⟨[.a (.lf (.sl (.sl (.int .i64))))], []⟩ [⟨[vI, vI, vB], []⟩] fun k x => Fsparse_best k x
theorem alsparse_best (k : Nat) : AllI (call cf k) [Isparse_counts k] :=
 ac (oksparse_counts k) a0
def LIsparse_best_2 (k : Nat) : LInst := mkL 2 [⟨[(5, .a (.smz 0)), (6, vI), (7, vI), (8, vI), (9, vI), (10, vJ), (16, .a (.lf (.sl (.sl (.int .i64))))), (17, vI), (18, vI), (23, vJ), (24, vI), (25, vI)], [(0, some (.arr (.int .i64) 1 3 false))], 1⟩] [⟨some 2, ⟨[(5, .a (.smz 0)), (6, vI), (7, vI), (8, vI), (16, .a (.lf (.sl (.sl (.int .i64))))), (17, vI), (18, vI)], [(0, some (.arr (.int .i64) 1 3 false))], 1⟩⟩] (fun n x => Lsparse_best_2 k n x.1 x.2.1 x.2.2.1 x.2.2.2.1 x.2.2.2.2.1 x.2.2.2.2.2.1 x.2.2.2.2.2.2.1 x.2.2.2.2.2.2.2.1 x.2.2.2.2.2.2.2.2.1 x.2.2.2.2.2.2.2.2.2.1 x.2.2.2.2.2.2.2.2.2.2.1 x.2.2.2.2.2.2.2.2.2.2.2.1 x.2.2.2.2.2.2.2.2.2.2.2.2) k
theorem losparse_best_2 (k : Nat) : LIo 35 Try.f35 0 k (LIsparse_best_2 k) :=
 lpk [] (alsparse_best k) l0 (fun _ => rfl) (by kernel_rfl) fun n x => by kernel_rfl
def LIsparse_best_0 (k : Nat) : LInst := mkL 0 [⟨[(5, .a (.smz 0)), (6, vI), (7, vI), (8, vI), (16, .a (.lf (.sl (.sl (.int .i64))))), (17, vI), (18, vI)], [(0, some (.arr (.int .i64) 1 3 false))], 1⟩] [⟨some 0, ⟨[(6, vI), (7, vI), (8, vI)], [(0, some (.arr (.int .i64) 1 3 false))], 1⟩⟩] (fun n x => Lsparse_best_0 k n x.1 x.2.1 x.2.2.1 x.2.2.2.1 x.2.2.2.2.1 x.2.2.2.2.2.1 x.2.2.2.2.2.2.1 x.2.2.2.2.2.2.2) k
theorem losparse_best_0 (k : Nat) : LIo 35 Try.f35 0 k (LIsparse_best_0 k) :=
 lpk [2] (alsparse_best k) (lc (losparse_best_2 k) l0) (fun _ => rfl) (by kernel_rfl) fun n x => by kernel_rfl
theorem oksparse_best : ∀ k, InstOk (call cf k) (Isparse_best k) :=
 fnk 0 [0] Try.func35 (fun k => (alsparse_best k)) (fun k => (lc (losparse_best_2 k) (lc (losparse_best_0 k) l0))) ⟨rfl, rfl, ⟨rfl, Nat.le_of_ble_eq_true rfl⟩, rfl⟩ (fun _ => rfl) (by kernel_rfl) fun k x => by kernel_rfl

/-! slices.Clone[[]int,int] -/
def bslices_Clone_int_int_ (k : Nat) (s : List Int) : Option (Nat × List Int) :=
 if (((List.length s) * 8) ≤ 140737488355328) then
  (some ((List.length s), s))
 else
 none
def Fslices_Clone_int_int_ : Nat → List Int → Option (Nat × List Int)
 | 0, _ => none
 | k + 1, s => bslices_Clone_int_int_ k s
def shslices_Clone_int_int_ : FS := ⟨[vJ], []⟩
def rsslices_Clone_int_int_ : List FS := [⟨[.a (.smz 0)], [.arr (.int .i64) 1 3 false]⟩]
def Islices_Clone_int_int_ (k : Nat) : Inst := ⟨43, shslices_Clone_int_int_, rsslices_Clone_int_int_, fun x => Fslices_Clone_int_int_ k x⟩
theorem stslices_Clone_int_int_ (k : Nat) (x : shslices_Clone_int_int_.D) : Fslices_Clone_int_int_ (k + 1) x = (kClone 3) (DS FS.D rsslices_Clone_int_int_) (shslices_Clone_int_int_.enc x).1 (shslices_Clone_int_int_.enc x).2 (putS FS.dec rsslices_Clone_int_int_) := by kernel_rfl
theorem okslices_Clone_int_int_ : ∀ k, InstOk (call cf k) (Islices_Clone_int_int_ k)
 | 0 => fun x y e => absurd (show (none : Option _) = some y from e) (by simp)
 | k + 1 => inst_okX (c := cf) (k := k) (f := 43) (g := gClone 3) (G := kClone 3) (sh := shslices_Clone_int_int_) (os := rsslices_Clone_int_int_) rfl (kClone_at 3) (fun x => Fslices_Clone_int_int_ (k + 1) x) (stslices_Clone_int_int_ k)

/-! slices.Index[[]int,int] -/
def Lslices_Index_int_int__0s (k : Nat) (rec : List Int → Int → Int → Int → Option ((Int) ⊕ (Unit))) (s : List Int) (v : Int) (x : Int) (x1 : Int) : Option ((Int) ⊕ (Unit)) :=
 if ((decide (x1 < x)) = true) then
  if ((0 : Int) ≤ x1) then
   Option.bind (s)[(Int.toNat x1)]? fun x4 =>
   if ((v == x4) = true) then
    (some (Sum.inl x1))
   else
   rec s v x (IntKind.wrap .i64 (x1 + (1 : Int)))
  else
  none
 else
 (some (Sum.inr ()))
def Lslices_Index_int_int__0 (k n : Nat) : List Int → Int → Int → Int → Option ((Int) ⊕ (Unit)) := Nat.rec (fun _ _ _ _ => none) (fun _ r => Lslices_Index_int_int__0s k r) n
def bslices_Index_int_int_ (k : Nat) (s : List Int) (v : Int) : Option (Int) :=
 Option.bind (Lslices_Index_int_int__0 k k s v (((List.length s) : Nat) : Int) (0 : Int)) fun r3 =>
 eitherK r3
  (fun r3 =>
  (some r3))
  (fun r3 =>
  (some (-(1 : Int))))
def Fslices_Index_int_int_ : Nat → List Int → Int → Option (Int)
 | 0, _, _ => none
 | k + 1, s, v => bslices_Index_int_int_ k s v
def Islices_Index_int_int_ : Nat → Inst := mkI 54 ⟨[vJ, vI], []⟩ [⟨[vI], []⟩] fun k x => Fslices_Index_int_int_ k x.1 x.2
def LIslices_Index_int_int__0 (k : Nat) : LInst := mkL 0 [⟨[(0, vJ), (1, vI), (7, vI), (8, vI)], [], 0⟩] [⟨none, ⟨[(4, vI)], [], 0⟩⟩, ⟨some 0, ⟨[], [], 0⟩⟩] (fun n x => Lslices_Index_int_int__0 k n x.1 x.2.1 x.2.2.1 x.2.2.2) k
theorem loslices_Index_int_int__0 (k : Nat) : LIo 54 Try.f54 0 k (LIslices_Index_int_int__0 k) :=
 lpk [] a0 l0 (fun _ => rfl) (by kernel_rfl) fun n x => by kernel_rfl
theorem okslices_Index_int_int_ : ∀ k, InstOk (call cf k) (Islices_Index_int_int_ k) :=
 fnk 0 [0] Try.func54 (fun k => a0) (fun k => (lc (loslices_Index_int_int__0 k) l0)) ⟨rfl, rfl, ⟨rfl, Nat.le_of_ble_eq_true rfl⟩, rfl⟩ (fun _ => rfl) (by kernel_rfl) fun k x => by kernel_rfl

/-! slices.Contains[[]int,int] -/
def bslices_Contains_int_int_ (k : Nat) (s : List Int) (v : Int) : Option (Bool) :=
 Option.bind (Fslices_Index_int_int_ k s v) fun r3 =>
 (some (decide (r3 ≥ (0 : Int))))
def Fslices_Contains_int_int_ : Nat → List Int → Int → Option (Bool)
 | 0, _, _ => none
 | k + 1, s, v => bslices_Contains_int_int_ k s v
def Islices_Contains_int_int_ : Nat → Inst := mkI 42 ⟨[vJ, vI], []⟩ [⟨[vB], []⟩] fun k x => Fslices_Contains_int_int_ k x.1 x.2
theorem okslices_Contains_int_int_ : ∀ k, InstOk (call cf k) (Islices_Contains_int_int_ k) :=
 fnk 0 [] Try.func42 (fun k => (ac (okslices_Index_int_int_ k) a0)) (fun k => l0) ⟨rfl, rfl, ⟨rfl, Nat.le_of_ble_eq_true rfl⟩, rfl⟩ (fun _ => rfl) (by kernel_rfl) fun k x => by kernel_rfl

/-! slices.Sort[[]int,int] -/
def bslices_Sort_int_int__mfi (k : Nat) (x : Nat) (xs : List Int) : Option (List Int) :=
 if (((0 + x) ≤ (List.length xs)) ∧ (x < 4611686018427387904)) then
  (some (((List.take 0 xs) ++ (sortI (List.take x xs))) ++ (List.drop (0 + x) xs)))
 else
 none
def Fslices_Sort_int_int__mfi : Nat → Nat → List Int → Option (List Int)
 | 0, _, _ => none
 | k + 1, x, xs => bslices_Sort_int_int__mfi k x xs
def shslices_Sort_int_int__mfi : FS := ⟨[.a (.smz 0)], [.arr (.int .i64) 1 3 false]⟩
def rsslices_Sort_int_int__mfi : List FS := [⟨[], [.arr (.int .i64) 1 3 false]⟩]
def Islices_Sort_int_int__mfi (k : Nat) : Inst := ⟨44, shslices_Sort_int_int__mfi, rsslices_Sort_int_int__mfi, fun x => Fslices_Sort_int_int__mfi k x.1 x.2⟩
theorem stslices_Sort_int_int__mfi (k : Nat) (x : shslices_Sort_int_int__mfi.D) : Fslices_Sort_int_int__mfi (k + 1) x.1 x.2 = (kSort) (DS FS.D rsslices_Sort_int_int__mfi) (shslices_Sort_int_int__mfi.enc x).1 (shslices_Sort_int_int__mfi.enc x).2 (putS FS.dec rsslices_Sort_int_int__mfi) := by kernel_rfl
theorem okslices_Sort_int_int__mfi : ∀ k, InstOk (call cf k) (Islices_Sort_int_int__mfi k)
 | 0 => fun x y e => absurd (show (none : Option _) = some y from e) (by simp)
 | k + 1 => inst_okX (c := cf) (k := k) (f := 44) (g := gSort) (G := kSort) (sh := shslices_Sort_int_int__mfi) (os := rsslices_Sort_int_int__mfi) rfl (kSort_at) (fun x => Fslices_Sort_int_int__mfi (k + 1) x.1 x.2) (stslices_Sort_int_int__mfi k)

/-! slices.Compact[[]int,int] -/
def Lslices_Compact_int_int__mfi_2s (k : Nat) (rec : Nat → Int → Nat → Nat → Int → List Int → Option (Nat × Int × List Int)) (s : Nat) (k1 : Int) (s20 : Nat) (s21 : Nat) (k2 : Int) (s2s : List Int) : Option (Nat × Int × List Int) :=
 if ((decide (k2 < ((s21 : Nat) : Int))) = true) then
  if (((0 : Int) ≤ k2) ∧ (k2 < ((s21 : Nat) : Int))) then
   Option.bind (s2s)[(s20 + (Int.toNat k2))]? fun x7 =>
   if (((0 : Int) ≤ (IntKind.wrap .i64 (k2 - (1 : Int)))) ∧ ((IntKind.wrap .i64 (k2 - (1 : Int))) < ((s21 : Nat) : Int))) then
    Option.bind (s2s)[(s20 + (Int.toNat (IntKind.wrap .i64 (k2 - (1 : Int)))))]? fun x8 =>
    if ((x7 != x8) = true) then
     if (((0 : Int) ≤ k2) ∧ (k2 < ((s21 : Nat) : Int))) then
      Option.bind (s2s)[(s20 + (Int.toNat k2))]? fun x9 =>
      if (((0 : Int) ≤ k1) ∧ (k1 < ((s : Nat) : Int))) then
       Option.bind (s2s)[(0 + (Int.toNat k1))]? fun x10 =>
       rec s (IntKind.wrap .i64 (k1 + (1 : Int))) s20 s21 (IntKind.wrap .i64 (k2 + (1 : Int))) (List.set s2s (0 + (Int.toNat k1)) x9)
      else
      none
     else
     none
    else
    rec s k1 s20 s21 (IntKind.wrap .i64 (k2 + (1 : Int))) s2s
   else
   none
  else
  none
 else
 (some (s, k1, s2s))
def Lslices_Compact_int_int__mfi_2 (k n : Nat) : Nat → Int → Nat → Nat → Int → List Int → Option (Nat × Int × List Int) := Nat.rec (fun _ _ _ _ _ _ => none) (fun _ r => Lslices_Compact_int_int__mfi_2s k r) n
def Lslices_Compact_int_int__mfi_0s (k : Nat) (rec : Nat → Int → List Int → Option ((Nat × List Int) ⊕ (Nat × List Int))) (s : Nat) (k1 : Int) (ss : List Int) : Option ((Nat × List Int) ⊕ (Nat × List Int)) :=
 if ((decide (k1 < ((s : Nat) : Int))) = true) then
  if (((0 : Int) ≤ k1) ∧ (k1 < ((s : Nat) : Int))) then
   Option.bind (ss)[(0 + (Int.toNat k1))]? fun x5 =>
   if (((0 : Int) ≤ (IntKind.wrap .i64 (k1 - (1 : Int)))) ∧ ((IntKind.wrap .i64 (k1 - (1 : Int))) < ((s : Nat) : Int))) then
    Option.bind (ss)[(0 + (Int.toNat (IntKind.wrap .i64 (k1 - (1 : Int)))))]? fun x6 =>
    if ((x5 == x6) = true) then
     if (((0 : Int) ≤ k1) ∧ ((k1 ≤ ((s : Nat) : Int)) ∧ (((0 + (Int.toNat ((s : Nat) : Int))) ≤ (List.length ss)) ∧ ((k1 < ((s : Nat) : Int)) ∨ (false = true))))) then
      Option.bind (Lslices_Compact_int_int__mfi_2 k k s k1 (0 + (Int.toNat k1)) ((Int.toNat ((s : Nat) : Int)) - (Int.toNat k1)) (1 : Int) ss) fun r5 =>
      if (((0 : Int) ≤ r5.2.1) ∧ ((r5.2.1 ≤ ((r5.1 : Nat) : Int)) ∧ (((0 + (Int.toNat ((r5.1 : Nat) : Int))) ≤ (List.length r5.2.2)) ∧ ((r5.2.1 < ((r5.1 : Nat) : Int)) ∨ (false = true))))) then
       if (((0 + (Int.toNat r5.2.1)) + ((Int.toNat ((r5.1 : Nat) : Int)) - (Int.toNat r5.2.1))) ≤ (List.length r5.2.2)) then
        if (((0 : Int) ≤ (0 : Int)) ∧ (((0 : Int) ≤ r5.2.1) ∧ (((0 + (Int.toNat r5.2.1)) ≤ (List.length (((List.take (0 + (Int.toNat r5.2.1)) r5.2.2) ++ (List.replicate ((Int.toNat ((r5.1 : Nat) : Int)) - (Int.toNat r5.2.1)) (0 : Int))) ++ (List.drop ((0 + (Int.toNat r5.2.1)) + ((Int.toNat ((r5.1 : Nat) : Int)) - (Int.toNat r5.2.1))) r5.2.2)))) ∧ (((0 : Int) < r5.2.1) ∨ (true = true))))) then
         (some (Sum.inl ((Int.toNat r5.2.1), (((List.take (0 + (Int.toNat r5.2.1)) r5.2.2) ++ (List.replicate ((Int.toNat ((r5.1 : Nat) : Int)) - (Int.toNat r5.2.1)) (0 : Int))) ++ (List.drop ((0 + (Int.toNat r5.2.1)) + ((Int.toNat ((r5.1 : Nat) : Int)) - (Int.toNat r5.2.1))) r5.2.2)))))
        else
        none
       else
       none
      else
      none
     else
     none
    else
    rec s (IntKind.wrap .i64 (k1 + (1 : Int))) ss
   else
   none
  else
  none
 else
 (some (Sum.inr (s, ss)))
def Lslices_Compact_int_int__mfi_0 (k n : Nat) : Nat → Int → List Int → Option ((Nat × List Int) ⊕ (Nat × List Int)) := Nat.rec (fun _ _ _ => none) (fun _ r => Lslices_Compact_int_int__mfi_0s k r) n
def bslices_Compact_int_int__mfi (k : Nat) (s : Nat) (ss : List Int) : Option (Nat × List Int) :=
 if ((decide (((s : Nat) : Int) < (2 : Int))) = true) then
  (some (s, ss))
 else
 Option.bind (Lslices_Compact_int_int__mfi_0 k k s (1 : Int) ss) fun r5 =>
 eitherK r5
  (fun r5 =>
  (some (r5.1, r5.2)))
  (fun r5 =>
  (some (r5.1, r5.2)))
def Fslices_Compact_int_int__mfi : Nat → Nat → List Int → Option (Nat × List Int)
 | 0, _, _ => none
 | k + 1, s, ss => bslices_Compact_int_int__mfi k s ss
def Islices_Compact_int_int__mfi : Nat → Inst := mkI 45 ⟨[.a (.smz 0)], [.arr (.int .i64) 1 3 false]⟩ [⟨[.a (.smz 0)], [.arr (.int .i64) 1 3 false]⟩] fun k x => Fslices_Compact_int_int__mfi k x.1 x.2
def LIslices_Compact_int_int__mfi_2 (k : Nat) : LInst := mkL 2 [⟨[(0, .a (.smz 0)), (3, vI), (4, .a (.sms 0)), (5, vI)], [(0, some (.arr (.int .i64) 1 3 false))], 1⟩] [⟨some 2, ⟨[(0, .a (.smz 0)), (3, vI)], [(0, some (.arr (.int .i64) 1 3 false))], 1⟩⟩] (fun n x => Lslices_Compact_int_int__mfi_2 k n x.1 x.2.1 x.2.2.1 x.2.2.2.1 x.2.2.2.2.1 x.2.2.2.2.2) k
theorem loslices_Compact_int_int__mfi_2 (k : Nat) : LIo 45 Try.f45 1 k (LIslices_Compact_int_int__mfi_2 k) :=
 lpk [] a0 l0 (fun _ => rfl) (by kernel_rfl) fun n x => by kernel_rfl
def LIslices_Compact_int_int__mfi_0 (k : Nat) : LInst := mkL 0 [⟨[(0, .a (.smz 0)), (3, vI)], [(0, some (.arr (.int .i64) 1 3 false))], 1⟩] [⟨none, ⟨[(2, .a (.smz 0))], [(0, some (.arr (.int .i64) 1 3 false))], 1⟩⟩, ⟨some 0, ⟨[(0, .a (.smz 0))], [(0, some (.arr (.int .i64) 1 3 false))], 1⟩⟩] (fun n x => Lslices_Compact_int_int__mfi_0 k n x.1 x.2.1 x.2.2) k
theorem loslices_Compact_int_int__mfi_0 (k : Nat) : LIo 45 Try.f45 1 k (LIslices_Compact_int_int__mfi_0 k) :=
 lpk [2] a0 (lc (loslices_Compact_int_int__mfi_2 k) l0) (fun _ => rfl) (by kernel_rfl) fun n x => by kernel_rfl
theorem okslices_Compact_int_int__mfi : ∀ k, InstOk (call cf k) (Islices_Compact_int_int__mfi k) :=
 fnk 1 [0] Try.func45 (fun k => a0) (fun k => (lc (loslices_Compact_int_int__mfi_2 k) (lc (loslices_Compact_int_int__mfi_0 k) l0))) ⟨rfl, rfl, ⟨rfl, Nat.le_of_ble_eq_true rfl⟩, rfl⟩ (fun _ => rfl) (by kernel_rfl) fun k x => by kernel_rfl

/-! shunt/sparse.eliminate$1 -/
def bsparse_eliminate_1 (k : Nat) (c : Int) (x : Int) : Option (Bool) :=
 (some (c == x))
def Fsparse_eliminate_1 : Nat → Int → Int → Option (Bool)
 | 0, _, _ => none
 | k + 1, c, x => bsparse_eliminate_1 k c x
def Isparse_eliminate_1 : Nat → Inst := mkI 47 ⟨[vI, .a (.lf (.ref (.int .i64)))], []⟩ [⟨[vB], []⟩] fun k x => Fsparse_eliminate_1 k x.1 x.2
theorem oksparse_eliminate_1 : ∀ k, InstOk (call cf k) (Isparse_eliminate_1 k) :=
 fnk 0 [] Try.func47 (fun k => a0) (fun k => l0) ⟨rfl, rfl, ⟨rfl, Nat.le_of_ble_eq_true rfl⟩, rfl⟩ (fun _ => rfl) (by kernel_rfl) fun k x => by kernel_rfl

/-! slices.IndexFunc[[]int,int] -/
def Lslices_IndexFunc_int_int__tfn_0s (k : Nat) (rec : Nat → Int → Int → Int → List Int → Option ((Int × List Int) ⊕ (List Int))) (s : Nat) (f : Int) (x : Int) (x1 : Int) (ss : List Int) : Option ((Int × List Int) ⊕ (List Int)) :=
 if ((decide (x1 < x)) = true) then
  if (((0 : Int) ≤ x1) ∧ (x1 < ((s : Nat) : Int))) then
   Option.bind (ss)[(0 + (Int.toNat x1))]? fun x5 =>
   Option.bind (Fsparse_eliminate_1 k x5 f) fun r6 =>
   if (r6 = true) then
    (some (Sum.inl (x1, ss)))
   else
   rec s f x (IntKind.wrap .i64 (x1 + (1 : Int))) ss
  else
  none
 else
 (some (Sum.inr ss))
def Lslices_IndexFunc_int_int__tfn_0 (k n : Nat) : Nat → Int → Int → Int → List Int → Option ((Int × List Int) ⊕ (List Int)) := Nat.rec (fun _ _ _ _ _ => none) (fun _ r => Lslices_IndexFunc_int_int__tfn_0s k r) n
def bslices_IndexFunc_int_int__tfn (k : Nat) (s : Nat) (f : Int) (ss : List Int) : Option (Int × List Int) :=
 Option.bind (Lslices_IndexFunc_int_int__tfn_0 k k s f ((s : Nat) : Int) (0 : Int) ss) fun r6 =>
 eitherK r6
  (fun r6 =>
  (some (r6.1, r6.2)))
  (fun r6 =>
  (some ((-(1 : Int)), r6)))
def Fslices_IndexFunc_int_int__tfn : Nat → Nat → Int → List Int → Option (Int × List Int)
 | 0, _, _, _ => none
 | k + 1, s, f, ss => bslices_IndexFunc_int_int__tfn k s f ss
def Islices_IndexFunc_int_int__tfn : Nat → Inst := mkI 57 ⟨[.a (.smz 0), .a (.fn 47 [(.ref (.int .i64))])], [.arr (.int .i64) 1 3 false]⟩ [⟨[vI], [.arr (.int .i64) 1 3 false]⟩] fun k x => Fslices_IndexFunc_int_int__tfn k x.1 x.2.1 x.2.2
theorem alslices_IndexFunc_int_int__tfn (k : Nat) : AllI (call cf k) [Isparse_eliminate_1 k] :=
 ac (oksparse_eliminate_1 k) a0
def LIslices_IndexFunc_int_int__tfn_0 (k : Nat) : LInst := mkL 0 [⟨[(0, .a (.smz 0)), (1, .a (.fn 47 [(.ref (.int .i64))])), (7, vI), (8, vI)], [(0, some (.arr (.int .i64) 1 3 false))], 1⟩] [⟨none, ⟨[(4, vI)], [(0, some (.arr (.int .i64) 1 3 false))], 1⟩⟩, ⟨some 0, ⟨[], [(0, some (.arr (.int .i64) 1 3 false))], 1⟩⟩] (fun n x => Lslices_IndexFunc_int_int__tfn_0 k n x.1 x.2.1 x.2.2.1 x.2.2.2.1 x.2.2.2.2) k
theorem loslices_IndexFunc_int_int__tfn_0 (k : Nat) : LIo 57 Try.f57 1 k (LIslices_IndexFunc_int_int__tfn_0 k) :=
 lpk [] (alslices_IndexFunc_int_int__tfn k) l0 (fun _ => rfl) (by kernel_rfl) fun n x => by kernel_rfl
theorem okslices_IndexFunc_int_int__tfn : ∀ k, InstOk (call cf k) (Islices_IndexFunc_int_int__tfn k) :=
 fnk 1 [0] Try.func57 (fun k => (alslices_IndexFunc_int_int__tfn k)) (fun k => (lc (loslices_IndexFunc_int_int__tfn_0 k) l0)) ⟨rfl, rfl, ⟨rfl, Nat.le_of_ble_eq_true rfl⟩, rfl⟩ (fun _ => rfl) (by kernel_rfl) fun k x => by kernel_rfl

/-! slices.DeleteFunc[[]int,int] -/
def Lslices_DeleteFunc_int_int__tfn_0s (k : Nat) (rec : Nat → Int → Int → Int → List Int → Option (Nat × Int × List Int)) (s : Nat) (del : Int) (i : Int) (j : Int) (ss : List Int) : Option (Nat × Int × List Int) :=
 if ((decide (j < ((s : Nat) : Int))) = true) then
  if (((0 : Int) ≤ j) ∧ (j < ((s : Nat) : Int))) then
   Option.bind (ss)[(0 + (Int.toNat j))]? fun x5 =>
   Option.bind (Fsparse_eliminate_1 k x5 del) fun r7 =>
   if ((!r7) = true) then
    if (((0 : Int) ≤ i) ∧ (i < ((s : Nat) : Int))) then
     Option.bind (ss)[(0 + (Int.toNat i))]? fun x6 =>
     rec s del (IntKind.wrap .i64 (i + (1 : Int))) (IntKind.wrap .i64 (j + (1 : Int))) (List.set ss (0 + (Int.toNat i)) x5)
    else
    none
   else
   rec s del i (IntKind.wrap .i64 (j + (1 : Int))) ss
  else
  none
 else
 (some (s, i, ss))
def Lslices_DeleteFunc_int_int__tfn_0 (k n : Nat) : Nat → Int → Int → Int → List Int → Option (Nat × Int × List Int) := Nat.rec (fun _ _ _ _ _ => none) (fun _ r => Lslices_DeleteFunc_int_int__tfn_0s k r) n
def bslices_DeleteFunc_int_int__tfn (k : Nat) (s : Nat) (del : Int) (ss : List Int) : Option (Nat × List Int) :=
 Option.bind (Fslices_IndexFunc_int_int__tfn k s del ss) fun r6 =>
 if ((r6.1 == (-(1 : Int))) = true) then
  (some (s, r6.2))
 else
 Option.bind (Lslices_DeleteFunc_int_int__tfn_0 k k s del r6.1 (IntKind.wrap .i64 (r6.1 + (1 : Int))) r6.2) fun r7 =>
 if (((0 : Int) ≤ r7.2.1) ∧ ((r7.2.1 ≤ ((r7.1 : Nat) : Int)) ∧ (((0 + (Int.toNat ((r7.1 : Nat) : Int))) ≤ (List.length r7.2.2)) ∧ ((r7.2.1 < ((r7.1 : Nat) : Int)) ∨ (false = true))))) then
  if (((0 + (Int.toNat r7.2.1)) + ((Int.toNat ((r7.1 : Nat) : Int)) - (Int.toNat r7.2.1))) ≤ (List.length r7.2.2)) then
   if (((0 : Int) ≤ (0 : Int)) ∧ (((0 : Int) ≤ r7.2.1) ∧ (((0 + (Int.toNat r7.2.1)) ≤ (List.length (((List.take (0 + (Int.toNat r7.2.1)) r7.2.2) ++ (List.replicate ((Int.toNat ((r7.1 : Nat) : Int)) - (Int.toNat r7.2.1)) (0 : Int))) ++ (List.drop ((0 + (Int.toNat r7.2.1)) + ((Int.toNat ((r7.1 : Nat) : Int)) - (Int.toNat r7.2.1))) r7.2.2)))) ∧ (((0 : Int) < r7.2.1) ∨ (true = true))))) then
    (some ((Int.toNat r7.2.1), (((List.take (0 + (Int.toNat r7.2.1)) r7.2.2) ++ (List.replicate ((Int.toNat ((r7.1 : Nat) : Int)) - (Int.toNat r7.2.1)) (0 : Int))) ++ (List.drop ((0 + (Int.toNat r7.2.1)) + ((Int.toNat ((r7.1 : Nat) : Int)) - (Int.toNat r7.2.1))) r7.2.2))))
   else
   none
  else
  none
 else
 none
def Fslices_DeleteFunc_int_int__tfn : Nat → Nat → Int → List Int → Option (Nat × List Int)
 | 0, _, _, _ => none
 | k + 1, s, del, ss => bslices_DeleteFunc_int_int__tfn k s del ss
def Islices_DeleteFunc_int_int__tfn : Nat → Inst := mkI 46 ⟨[.a (.smz 0), .a (.fn 47 [(.ref (.int .i64))])], [.arr (.int .i64) 1 3 false]⟩ [⟨[.a (.smz 0)], [.arr (.int .i64) 1 3 false]⟩] fun k x => Fslices_DeleteFunc_int_int__tfn k x.1 x.2.1 x.2.2
theorem alslices_DeleteFunc_int_int__tfn (k : Nat) : AllI (call cf k) [Islices_IndexFunc_int_int__tfn k, Isparse_eliminate_1 k] :=
 ac (okslices_IndexFunc_int_int__tfn k) (ac (oksparse_eliminate_1 k) a0)
def LIslices_DeleteFunc_int_int__tfn_0 (k : Nat) : LInst := mkL 0 [⟨[(0, .a (.smz 0)), (1, .a (.fn 47 [(.ref (.int .i64))])), (5, vI), (6, vI)], [(0, some (.arr (.int .i64) 1 3 false))], 1⟩] [⟨some 0, ⟨[(0, .a (.smz 0)), (5, vI)], [(0, some (.arr (.int .i64) 1 3 false))], 1⟩⟩] (fun n x => Lslices_DeleteFunc_int_int__tfn_0 k n x.1 x.2.1 x.2.2.1 x.2.2.2.1 x.2.2.2.2) k
theorem loslices_DeleteFunc_int_int__tfn_0 (k : Nat) : LIo 46 Try.f46 1 k (LIslices_DeleteFunc_int_int__tfn_0 k) :=
 lpk [] (alslices_DeleteFunc_int_int__tfn k) l0 (fun _ => rfl) (by kernel_rfl) fun n x => by kernel_rfl
theorem okslices_DeleteFunc_int_int__tfn : ∀ k, InstOk (call cf k) (Islices_DeleteFunc_int_int__tfn k) :=
 fnk 1 [0] Try.func46 (fun k => (alslices_DeleteFunc_int_int__tfn k)) (fun k => (lc (loslices_DeleteFunc_int_int__tfn_0 k) l0)) ⟨rfl, rfl, ⟨rfl, Nat.le_of_ble_eq_true rfl⟩, rfl⟩ (fun _ => rfl) (by kernel_rfl) fun k x => by kernel_rfl

/-! shunt/sparse.eliminate -/
def Lsparse_eliminate_0s (k : Nat) (rec : ((List (List Int) × Int × Nat × Int × List (List Int) × Int × Int × Int × List (List Int)) ⊕ (List (List Int) × Int × Nat × Int × List (List Int) × Int × Int × Int × List (List Int))) → Option ((Nat × Int × Int × List (List Int)) ⊕ (Nat × Int × Int × List (List Int)))) (x : (List (List Int) × Int × Nat × Int × List (List Int) × Int × Int × Int × List (List Int)) ⊕ (List (List Int) × Int × Nat × Int × List (List Int) × Int × Int × Int × List (List Int))) : Option ((Nat × Int × Int × List (List Int)) ⊕ (Nat × Int × Int × List (List Int))) :=
 eitherK x
 (fun x =>
 if ((decide (x.2.2.2.2.2.2.1 < x.2.2.2.2.2.1)) = true) then
  if ((0 : Int) ≤ x.2.2.2.2.2.2.1) then
   Option.bind (x.2.2.2.2.1)[(Int.toNat x.2.2.2.2.2.2.1)]? fun x1 =>
   if ((x.2.2.2.2.2.2.1 == x.2.1) = true) then
    rec (Sum.inl (x.1, x.2.1, x.2.2.1, x.2.2.2.1, x.2.2.2.2.1, x.2.2.2.2.2.1, (IntKind.wrap .i64 (x.2.2.2.2.2.2.1 + (1 : Int))), x.2.2.2.2.2.2.2.1, x.2.2.2.2.2.2.2.2))
   else
   Option.bind (Fslices_Clone_int_int_ k x1) fun r2 =>
   Option.bind (Fslices_Contains_int_int_ k x1 x.2.2.2.2.2.2.2.1) fun r3 =>
   if (r3 = true) then
    if ((0 : Int) ≤ x.2.1) then
     Option.bind (x.1)[(Int.toNat x.2.1)]? fun x2 =>
     if (r2.1 ≤ (List.length r2.2)) then
      if (((r2.1 + (List.length x2)) * 8) ≤ 140737488355328) then
       Option.bind (Fslices_Sort_int_int__mfi k (r2.1 + (List.length x2)) ((List.take r2.1 r2.2) ++ x2)) fun r4 =>
       Option.bind (Fslices_Compact_int_int__mfi k (r2.1 + (List.length x2)) r4) fun r5 =>
       Option.bind (Fslices_DeleteFunc_int_int__tfn k r5.1 x.2.2.2.2.2.2.2.1 r5.2) fun r6 =>
       if (((0 : Int) ≤ x.2.2.2.2.2.2.1) ∧ (x.2.2.2.2.2.2.1 < ((x.2.2.1 : Nat) : Int))) then
        if ((Int.toNat x.2.2.2.2.2.2.1) < (List.length x.2.2.2.2.2.2.2.2)) then
         if (r6.1 ≤ (List.length r6.2)) then
          rec (Sum.inr (x.1, x.2.1, x.2.2.1, (IntKind.wrap .i64 (x.2.2.2.1 + (IntKind.wrap .i64 (((r5.1 : Nat) : Int) - (((List.length x1) : Nat) : Int))))), x.2.2.2.2.1, x.2.2.2.2.2.1, (IntKind.wrap .i64 (x.2.2.2.2.2.2.1 + (1 : Int))), x.2.2.2.2.2.2.2.1, (tset x.2.2.2.2.2.2.2.2 (Int.toNat x.2.2.2.2.2.2.1) (List.take r6.1 r6.2))))
         else
         none
        else
        none
       else
       none
      else
      none
     else
     none
    else
    none
   else
   Option.bind (Fslices_DeleteFunc_int_int__tfn k r2.1 x.2.2.2.2.2.2.2.1 r2.2) fun r4 =>
   if (((0 : Int) ≤ x.2.2.2.2.2.2.1) ∧ (x.2.2.2.2.2.2.1 < ((x.2.2.1 : Nat) : Int))) then
    if ((Int.toNat x.2.2.2.2.2.2.1) < (List.length x.2.2.2.2.2.2.2.2)) then
     if (r4.1 ≤ (List.length r4.2)) then
      rec (Sum.inr (x.1, x.2.1, x.2.2.1, x.2.2.2.1, x.2.2.2.2.1, x.2.2.2.2.2.1, (IntKind.wrap .i64 (x.2.2.2.2.2.2.1 + (1 : Int))), x.2.2.2.2.2.2.2.1, (tset x.2.2.2.2.2.2.2.2 (Int.toNat x.2.2.2.2.2.2.1) (List.take r4.1 r4.2))))
     else
     none
    else
    none
   else
   none
  else
  none
 else
 (some (Sum.inl (x.2.2.1, x.2.2.2.1, x.2.2.2.2.2.2.2.1, x.2.2.2.2.2.2.2.2))))
 (fun x =>
 if ((decide (x.2.2.2.2.2.2.1 < x.2.2.2.2.2.1)) = true) then
  if ((0 : Int) ≤ x.2.2.2.2.2.2.1) then
   Option.bind (x.2.2.2.2.1)[(Int.toNat x.2.2.2.2.2.2.1)]? fun x1 =>
   if ((x.2.2.2.2.2.2.1 == x.2.1) = true) then
    rec (Sum.inr (x.1, x.2.1, x.2.2.1, x.2.2.2.1, x.2.2.2.2.1, x.2.2.2.2.2.1, (IntKind.wrap .i64 (x.2.2.2.2.2.2.1 + (1 : Int))), x.2.2.2.2.2.2.2.1, x.2.2.2.2.2.2.2.2))
   else
   Option.bind (Fslices_Clone_int_int_ k x1) fun r2 =>
   Option.bind (Fslices_Contains_int_int_ k x1 x.2.2.2.2.2.2.2.1) fun r3 =>
   if (r3 = true) then
    if ((0 : Int) ≤ x.2.1) then
     Option.bind (x.1)[(Int.toNat x.2.1)]? fun x2 =>
     if (r2.1 ≤ (List.length r2.2)) then
      if (((r2.1 + (List.length x2)) * 8) ≤ 140737488355328) then
       Option.bind (Fslices_Sort_int_int__mfi k (r2.1 + (List.length x2)) ((List.take r2.1 r2.2) ++ x2)) fun r4 =>
       Option.bind (Fslices_Compact_int_int__mfi k (r2.1 + (List.length x2)) r4) fun r5 =>
       Option.bind (Fslices_DeleteFunc_int_int__tfn k r5.1 x.2.2.2.2.2.2.2.1 r5.2) fun r6 =>
       if (((0 : Int) ≤ x.2.2.2.2.2.2.1) ∧ (x.2.2.2.2.2.2.1 < ((x.2.2.1 : Nat) : Int))) then
        if ((Int.toNat x.2.2.2.2.2.2.1) < (List.length x.2.2.2.2.2.2.2.2)) then
         if (r6.1 ≤ (List.length r6.2)) then
          rec (Sum.inr (x.1, x.2.1, x.2.2.1, (IntKind.wrap .i64 (x.2.2.2.1 + (IntKind.wrap .i64 (((r5.1 : Nat) : Int) - (((List.length x1) : Nat) : Int))))), x.2.2.2.2.1, x.2.2.2.2.2.1, (IntKind.wrap .i64 (x.2.2.2.2.2.2.1 + (1 : Int))), x.2.2.2.2.2.2.2.1, (tset x.2.2.2.2.2.2.2.2 (Int.toNat x.2.2.2.2.2.2.1) (List.take r6.1 r6.2))))
         else
         none
        else
        none
       else
       none
      else
      none
     else
     none
    else
    none
   else
   Option.bind (Fslices_DeleteFunc_int_int__tfn k r2.1 x.2.2.2.2.2.2.2.1 r2.2) fun r4 =>
   if (((0 : Int) ≤ x.2.2.2.2.2.2.1) ∧ (x.2.2.2.2.2.2.1 < ((x.2.2.1 : Nat) : Int))) then
    if ((Int.toNat x.2.2.2.2.2.2.1) < (List.length x.2.2.2.2.2.2.2.2)) then
     if (r4.1 ≤ (List.length r4.2)) then
      rec (Sum.inr (x.1, x.2.1, x.2.2.1, x.2.2.2.1, x.2.2.2.2.1, x.2.2.2.2.2.1, (IntKind.wrap .i64 (x.2.2.2.2.2.2.1 + (1 : Int))), x.2.2.2.2.2.2.2.1, (tset x.2.2.2.2.2.2.2.2 (Int.toNat x.2.2.2.2.2.2.1) (List.take r4.1 r4.2))))
     else
     none
    else
    none
   else
   none
  else
  none
 else
 (some (Sum.inr (x.2.2.1, x.2.2.2.1, x.2.2.2.2.2.2.2.1, x.2.2.2.2.2.2.2.2))))
def Lsparse_eliminate_0 (k n : Nat) : ((List (List Int) × Int × Nat × Int × List (List Int) × Int × Int × Int × List (List Int)) ⊕ (List (List Int) × Int × Nat × Int × List (List Int) × Int × Int × Int × List (List Int))) → Option ((Nat × Int × Int × List (List Int)) ⊕ (Nat × Int × Int × List (List Int))) := Nat.rec (fun _ => none) (fun _ r => Lsparse_eliminate_0s k r) n
def bsparse_eliminate (k : Nat) (p : List (List Int)) (row : Int) (col : Int) : Option (Nat × Int × List (List Int)) :=
 if (((0 : Int) ≤ (((List.length p) : Nat) : Int)) ∧ (((((List.length p) : Nat) : Int) ≤ (((List.length p) : Nat) : Int)) ∧ (((((List.length p) : Nat) : Int) * (24 : Int)) ≤ (140737488355328 : Int)))) then
  Option.bind (Lsparse_eliminate_0 k k (Sum.inl (p, row, (Int.toNat (((List.length p) : Nat) : Int)), (0 : Int), p, (((List.length p) : Nat) : Int), (0 : Int), col, (List.replicate (Int.toNat (((List.length p) : Nat) : Int)) [])))) fun r2 =>
  eitherK r2
   (fun r2 =>
   (some (r2.1, r2.2.1, r2.2.2.2)))
   (fun r2 =>
   (some (r2.1, r2.2.1, r2.2.2.2)))
 else
 none
def Fsparse_eliminate : Nat → List (List Int) → Int → Int → Option (Nat × Int × List (List Int))
 | 0, _, _, _ => none
 | k + 1, p, row, col => bsparse_eliminate k p row col
def Isparse_eliminate : Nat → Inst := mkI 37 ⟨[.a (.lf (.sl (.sl (.int .i64)))), vI, vI], []⟩ [⟨[.a (.smz 0), vI], [.nst (.int .i64) 3 1 41 false]⟩] fun k x => Fsparse_eliminate k x.1 x.2.1 x.2.2
theorem alsparse_eliminate (k : Nat) : AllI (call cf k) [Islices_Clone_int_int_ k, Islices_Contains_int_int_ k, Islices_Sort_int_int__mfi k, Islices_Compact_int_int__mfi k, Islices_DeleteFunc_int_int__tfn k] :=
 ac (okslices_Clone_int_int_ k) (ac (okslices_Contains_int_int_ k) (ac (okslices_Sort_int_int__mfi k) (ac (okslices_Compact_int_int__mfi k) (ac (okslices_DeleteFunc_int_int__tfn k) a0))))
def LIsparse_eliminate_0 (k : Nat) : LInst := mkL 0 [⟨[(0, .a (.lf (.sl (.sl (.int .i64))))), (1, vI), (5, .a (.ptr 0 0 0)), (8, .a (.smz 1)), (9, vI), (16, .a (.lf (.sl (.sl (.int .i64))))), (17, vI), (18, vI)], [(0, some (.raw [[.lf (.int .i64)]] 1 3 true false false)), (1, some (.nst (.int .i64) 3 1 41 false))], 2⟩, ⟨[(0, .a (.lf (.sl (.sl (.int .i64))))), (1, vI), (5, .a (.ptr 0 0 0)), (8, .a (.smz 1)), (9, vI), (16, .a (.lf (.sl (.sl (.int .i64))))), (17, vI), (18, vI)], [(0, some (.raw [[.lf (.int .i64)]] 1 3 true true false)), (1, some (.nst (.int .i64) 3 1 41 false))], 2⟩] [⟨some 0, ⟨[(8, .a (.smz 1)), (9, vI)], [(0, some (.raw [[.lf (.int .i64)]] 1 3 true false false)), (1, some (.nst (.int .i64) 3 1 41 false))], 2⟩⟩, ⟨some 0, ⟨[(8, .a (.smz 1)), (9, vI)], [(0, some (.raw [[.lf (.int .i64)]] 1 3 true true false)), (1, some (.nst (.int .i64) 3 1 41 false))], 2⟩⟩] (fun n x => Lsparse_eliminate_0 k n x) k
theorem losparse_eliminate_0 (k : Nat) : LIo 37 Try.f37 0 k (LIsparse_eliminate_0 k) :=
 lpk [] (alsparse_eliminate k) l0 (fun _ => rfl) (by kernel_rfl) fun n x => by kernel_rfl
theorem oksparse_eliminate : ∀ k, InstOk (call cf k) (Isparse_eliminate k) :=
 fnk 0 [0] Try.func37 (fun k => (alsparse_eliminate k)) (fun k => (lc (losparse_eliminate_0 k) l0)) ⟨rfl, rfl, ⟨rfl, Nat.le_of_ble_eq_true rfl⟩, rfl⟩ (fun _ => rfl) (by kernel_rfl) fun k x => by kernel_rfl

/-! shunt/sparse.Order -/
def Lsparse_Order_0s (k : Nat) (rec : ((List (List Int) × Nat × Nat × List Int × List Int) ⊕ (Nat × Nat × Nat × List (List Int) × List Int × List Int)) → Option ((Nat × Nat × Int × List Int × List Int) ⊕ (Nat × Nat × Int × List (List Int) × List Int × List Int))) (x : (List (List Int) × Nat × Nat × List Int × List Int) ⊕ (Nat × Nat × Nat × List (List Int) × List Int × List Int)) : Option ((Nat × Nat × Int × List Int × List Int) ⊕ (Nat × Nat × Int × List (List Int) × List Int × List Int)) :=
 eitherK x
 (fun x =>
 Option.bind (Fsparse_best k x.1) fun r1 =>
 if ((!r1.2.2) = true) then
  (some (Sum.inl (x.2.1, x.2.2.1, (0 : Int), x.2.2.2.1, x.2.2.2.2)))
 else
 if (x.2.1 ≤ (List.length x.2.2.2.1)) then
  if (((x.2.1 + (List.length (List.take 1 (r1.1 :: [])))) * 8) ≤ 140737488355328) then
   if (x.2.2.1 ≤ (List.length x.2.2.2.2)) then
    if (((x.2.2.1 + (List.length (List.take 1 (r1.2.1 :: [])))) * 8) ≤ 140737488355328) then
     Option.bind (Fsparse_eliminate k x.1 r1.1 r1.2.1) fun r2 =>
     rec (Sum.inr (r2.1, (x.2.1 + (List.length (List.take 1 (r1.1 :: [])))), (x.2.2.1 + (List.length (List.take 1 (r1.2.1 :: [])))), r2.2.2, ((List.take x.2.1 x.2.2.2.1) ++ (List.take 1 (r1.1 :: []))), ((List.take x.2.2.1 x.2.2.2.2) ++ (List.take 1 (r1.2.1 :: [])))))
    else
    none
   else
   none
  else
  none
 else
 none)
 (fun x =>
 if ((0 + x.1) ≤ (List.length x.2.2.2.1)) then
  Option.bind (Fsparse_best k (List.take x.1 x.2.2.2.1)) fun r1 =>
  if ((!r1.2.2) = true) then
   (some (Sum.inr (x.2.1, x.2.2.1, (0 : Int), x.2.2.2.1, x.2.2.2.2.1, x.2.2.2.2.2)))
  else
  if (x.2.1 ≤ (List.length x.2.2.2.2.1)) then
   if (((x.2.1 + (List.length (List.take 1 (r1.1 :: [])))) * 8) ≤ 140737488355328) then
    if (x.2.2.1 ≤ (List.length x.2.2.2.2.2)) then
     if (((x.2.2.1 + (List.length (List.take 1 (r1.2.1 :: [])))) * 8) ≤ 140737488355328) then
      if ((0 + x.1) ≤ (List.length x.2.2.2.1)) then
       Option.bind (Fsparse_eliminate k (List.take x.1 x.2.2.2.1) r1.1 r1.2.1) fun r2 =>
       rec (Sum.inr (r2.1, (x.2.1 + (List.length (List.take 1 (r1.1 :: [])))), (x.2.2.1 + (List.length (List.take 1 (r1.2.1 :: [])))), r2.2.2, ((List.take x.2.1 x.2.2.2.2.1) ++ (List.take 1 (r1.1 :: []))), ((List.take x.2.2.1 x.2.2.2.2.2) ++ (List.take 1 (r1.2.1 :: [])))))
      else
      none
     else
     none
    else
    none
   else
   none
  else
  none
 else
 none)
def Lsparse_Order_0 (k n : Nat) : ((List (List Int) × Nat × Nat × List Int × List Int) ⊕ (Nat × Nat × Nat × List (List Int) × List Int × List Int)) → Option ((Nat × Nat × Int × List Int × List Int) ⊕ (Nat × Nat × Int × List (List Int) × List Int × List Int)) := Nat.rec (fun _ => none) (fun _ r => Lsparse_Order_0s k r) n
def bsparse_Order (k : Nat) (p : List (List Int)) : Option (List Int × List Int × Int) :=
 Option.bind (Fsparse_Check k p) fun r =>
 if ((r != (0 : Int)) = true) then
  (some ([], [], r))
 else
 Option.bind (Lsparse_Order_0 k k (Sum.inl (p, 0, 0, [], []))) fun r1 =>
 eitherK r1
  (fun r1 =>
  if ((0 + r1.1) ≤ (List.length r1.2.2.2.1)) then
   if ((0 + r1.2.1) ≤ (List.length r1.2.2.2.2)) then
    (some ((List.take r1.1 r1.2.2.2.1), (List.take r1.2.1 r1.2.2.2.2), r1.2.2.1))
   else
   none
  else
  none)
  (fun r1 =>
  if ((0 + r1.1) ≤ (List.length r1.2.2.2.2.1)) then
   if ((0 + r1.2.1) ≤ (List.length r1.2.2.2.2.2)) then
    (some ((List.take r1.1 r1.2.2.2.2.1), (List.take r1.2.1 r1.2.2.2.2.2), r1.2.2.1))
   else
   none
  else
  none)
def Fsparse_Order : Nat → List (List Int) → Option (List Int × List Int × Int)
 | 0, _ => none
 | k + 1, p => bsparse_Order k p
def Isparse_Order : Nat → Inst := mkI 19 ⟨[.a (.lf (.sl (.sl (.int .i64))))], []⟩ [⟨[vJ, vJ, vI], []⟩] fun k x => Fsparse_Order k x
theorem alsparse_Order (k : Nat) : AllI (call cf k) [Isparse_Check k, Isparse_best k, Isparse_eliminate k] :=
 ac (oksparse_Check k) (ac (oksparse_best k) (ac (oksparse_eliminate k) a0))
def LIsparse_Order_0 (k : Nat) : LInst := mkL 0 [⟨[(0, .a (.lf (.sl (.sl (.int .i64))))), (6, .a (.smz 0)), (7, .a (.smz 1))], [(0, some (.arr (.int .i64) 1 3 false)), (1, some (.arr (.int .i64) 1 3 false))], 2⟩, ⟨[(0, .a (.smz 0)), (6, .a (.smz 1)), (7, .a (.smz 2))], [(0, some (.nst (.int .i64) 3 1 41 false)), (1, some (.arr (.int .i64) 1 3 false)), (2, some (.arr (.int .i64) 1 3 false))], 3⟩] [⟨none, ⟨[(2, .a (.smz 0)), (3, .a (.smz 1)), (4, vI)], [(0, some (.arr (.int .i64) 1 3 false)), (1, some (.arr (.int .i64) 1 3 false))], 2⟩⟩, ⟨none, ⟨[(2, .a (.smz 1)), (3, .a (.smz 2)), (4, vI)], [(0, some (.nst (.int .i64) 3 1 41 false)), (1, some (.arr (.int .i64) 1 3 false)), (2, some (.arr (.int .i64) 1 3 false))], 3⟩⟩] (fun n x => Lsparse_Order_0 k n x) k
theorem losparse_Order_0 (k : Nat) : LIo 19 Try.f19 0 k (LIsparse_Order_0 k) :=
 lpk [] (alsparse_Order k) l0 (fun _ => rfl) (by kernel_rfl) fun n x => by kernel_rfl
theorem oksparse_Order : ∀ k, InstOk (call cf k) (Isparse_Order k) :=
 fnk 0 [0] Try.func19 (fun k => (alsparse_Order k)) (fun k => (lc (losparse_Order_0 k) l0)) ⟨rfl, rfl, ⟨rfl, Nat.le_of_ble_eq_true rfl⟩, rfl⟩ (fun _ => rfl) (by kernel_rfl) fun k x => by kernel_rfl

/-! shunt/sparse.in -/
def bsparse_in (k : Nat) (p : List (List Int)) (row : Int) (col : Int) : Option (Bool) :=
 if ((decide (row ≥ (0 : Int))) = true) then
  if ((decide (row < (((List.length p) : Nat) : Int))) = true) then
   if ((0 : Int) ≤ row) then
    Option.bind (p)[(Int.toNat row)]? fun x5 =>
    Option.bind (Fslices_Contains_int_int_ k x5 col) fun r2 =>
    (some r2)
   else
   none
  else
  (some false)
 else
 (some false)
def Fsparse_in : Nat → List (List Int) → Int → Int → Option (Bool)
 | 0, _, _, _ => none
 | k + 1, p, row, col => bsparse_in k p row col
def Isparse_in : Nat → Inst := mkI 30 ⟨[.a (.lf (.sl (.sl (.int .i64)))), vI, vI], []⟩ [⟨[vB], []⟩] fun k x => Fsparse_in k x.1 x.2.1 x.2.2
theorem oksparse_in : ∀ k, InstOk (call cf k) (Isparse_in k) :=
 fnk 0 [] Try.func30 (fun k => (ac (okslices_Contains_int_int_ k) a0)) (fun k => l0) ⟨rfl, rfl, ⟨rfl, Nat.le_of_ble_eq_true rfl⟩, rfl⟩ (fun _ => rfl) (by kernel_rfl) fun k x => by kernel_rfl

/-! shunt/sparse.Fill -/
def Lsparse_Fill_0s (k : Nat) (rec : ((List (List Int) × List Int × Int × List Int × Int × Int) ⊕ (Nat × List Int × Int × List Int × Int × Int × List (List Int))) → Option ((Int × Int) ⊕ (Int) ⊕ (Int × Int × List (List Int)) ⊕ (Int × List (List Int)))) (x : (List (List Int) × List Int × Int × List Int × Int × Int) ⊕ (Nat × List Int × Int × List Int × Int × Int × List (List Int))) : Option ((Int × Int) ⊕ (Int) ⊕ (Int × Int × List (List Int)) ⊕ (Int × List (List Int))) :=
 eitherK x
 (fun x =>
 if ((decide (x.2.2.2.2.2 < x.2.2.2.2.1)) = true) then
  if ((0 : Int) ≤ x.2.2.2.2.2) then
   Option.bind (x.2.2.2.1)[(Int.toNat x.2.2.2.2.2)]? fun x1 =>
   if ((0 : Int) ≤ x.2.2.2.2.2) then
    Option.bind (x.2.1)[(Int.toNat x.2.2.2.2.2)]? fun x2 =>
    Option.bind (Fsparse_in k x.1 x1 x2) fun r2 =>
    if ((!r2) = true) then
     (some (Sum.inl ((0 : Int), (1 : Int))))
    else
    if ((0 : Int) ≤ x.2.2.2.2.2) then
     Option.bind (x.2.1)[(Int.toNat x.2.2.2.2.2)]? fun x3 =>
     Option.bind (Fsparse_eliminate k x.1 x1 x3) fun r3 =>
     rec (Sum.inr (r3.1, x.2.1, (IntKind.wrap .i64 (x.2.2.1 + r3.2.1)), x.2.2.2.1, x.2.2.2.2.1, (IntKind.wrap .i64 (x.2.2.2.2.2 + (1 : Int))), r3.2.2))
    else
    none
   else
   none
  else
  none
 else
 (some (Sum.inr (Sum.inl x.2.2.1))))
 (fun x =>
 if ((decide (x.2.2.2.2.2.1 < x.2.2.2.2.1)) = true) then
  if ((0 : Int) ≤ x.2.2.2.2.2.1) then
   Option.bind (x.2.2.2.1)[(Int.toNat x.2.2.2.2.2.1)]? fun x1 =>
   if ((0 : Int) ≤ x.2.2.2.2.2.1) then
    Option.bind (x.2.1)[(Int.toNat x.2.2.2.2.2.1)]? fun x2 =>
    if ((0 + x.1) ≤ (List.length x.2.2.2.2.2.2)) then
     Option.bind (Fsparse_in k (List.take x.1 x.2.2.2.2.2.2) x1 x2) fun r2 =>
     if ((!r2) = true) then
      (some (Sum.inr (Sum.inr (Sum.inl ((0 : Int), (1 : Int), x.2.2.2.2.2.2)))))
     else
     if ((0 : Int) ≤ x.2.2.2.2.2.1) then
      Option.bind (x.2.1)[(Int.toNat x.2.2.2.2.2.1)]? fun x3 =>
      if ((0 + x.1) ≤ (List.length x.2.2.2.2.2.2)) then
       Option.bind (Fsparse_eliminate k (List.take x.1 x.2.2.2.2.2.2) x1 x3) fun r3 =>
       rec (Sum.inr (r3.1, x.2.1, (IntKind.wrap .i64 (x.2.2.1 + r3.2.1)), x.2.2.2.1, x.2.2.2.2.1, (IntKind.wrap .i64 (x.2.2.2.2.2.1 + (1 : Int))), r3.2.2))
      else
      none
     else
     none
    else
    none
   else
   none
  else
  none
 else
 (some (Sum.inr (Sum.inr (Sum.inr (x.2.2.1, x.2.2.2.2.2.2))))))
def Lsparse_Fill_0 (k n : Nat) : ((List (List Int) × List Int × Int × List Int × Int × Int) ⊕ (Nat × List Int × Int × List Int × Int × Int × List (List Int))) → Option ((Int × Int) ⊕ (Int) ⊕ (Int × Int × List (List Int)) ⊕ (Int × List (List Int))) := Nat.rec (fun _ => none) (fun _ r => Lsparse_Fill_0s k r) n
def bsparse_Fill (k : Nat) (p : List (List Int)) (rows : List Int) (cols : List Int) : Option (Int × Int) :=
 Option.bind (Fsparse_Check k p) fun r1 =>
 if ((r1 != (0 : Int)) = true) then
  (some ((0 : Int), r1))
 else
 if (((((List.length rows) : Nat) : Int) != (((List.length cols) : Nat) : Int)) = true) then
  (some ((0 : Int), (5 : Int)))
 else
 Option.bind (Lsparse_Fill_0 k k (Sum.inl (p, cols, (0 : Int), rows, (((List.length rows) : Nat) : Int), (0 : Int)))) fun r2 =>
 eitherK r2
  (fun r2 =>
  (some (r2.1, r2.2)))
  (fun r2 =>
  eitherK r2
   (fun r2 =>
   (some (r2, (0 : Int))))
   (fun r2 =>
   eitherK r2
    (fun r2 =>
    (some (r2.1, r2.2.1)))
    (fun r2 =>
    (some (r2.1, (0 : Int))))))
def Fsparse_Fill : Nat → List (List Int) → List Int → List Int → Option (Int × Int)
 | 0, _, _, _ => none
 | k + 1, p, rows, cols => bsparse_Fill k p rows cols
def Isparse_Fill : Nat → Inst := mkI 25 ⟨[.a (.lf (.sl (.sl (.int .i64)))), vJ, vJ], []⟩ [⟨[vI, vI], []⟩] fun k x => Fsparse_Fill k x.1 x.2.1 x.2.2
theorem alsparse_Fill (k : Nat) : AllI (call cf k) [Isparse_Check k, Isparse_in k, Isparse_eliminate k] :=
 ac (oksparse_Check k) (ac (oksparse_in k) (ac (oksparse_eliminate k) a0))
def LIsparse_Fill_0 (k : Nat) : LInst := mkL 0 [⟨[(0, .a (.lf (.sl (.sl (.int .i64))))), (2, vJ), (9, vI), (23, vJ), (24, vI), (25, vI)], [], 0⟩, ⟨[(0, .a (.smz 0)), (2, vJ), (9, vI), (23, vJ), (24, vI), (25, vI)], [(0, some (.nst (.int .i64) 3 1 41 false))], 1⟩] [⟨none, ⟨[(6, vI), (7, vI)], [], 0⟩⟩, ⟨some 0, ⟨[(9, vI)], [], 0⟩⟩, ⟨none, ⟨[(6, vI), (7, vI)], [(0, some (.nst (.int .i64) 3 1 41 false))], 1⟩⟩, ⟨some 0, ⟨[(9, vI)], [(0, some (.nst (.int .i64) 3 1 41 false))], 1⟩⟩] (fun n x => Lsparse_Fill_0 k n x) k
theorem losparse_Fill_0 (k : Nat) : LIo 25 Try.f25 0 k (LIsparse_Fill_0 k) :=
 lpk [] (alsparse_Fill k) l0 (fun _ => rfl) (by kernel_rfl) fun n x => by kernel_rfl
theorem oksparse_Fill : ∀ k, InstOk (call cf k) (Isparse_Fill k) :=
 fnk 0 [0] Try.func25 (fun k => (alsparse_Fill k)) (fun k => (lc (losparse_Fill_0 k) l0)) ⟨rfl, rfl, ⟨rfl, Nat.le_of_ble_eq_true rfl⟩, rfl⟩ (fun _ => rfl) (by kernel_rfl) fun k x => by kernel_rfl

/-! shunt/sparse.Eliminate -/
def bsparse_Eliminate (k : Nat) (p : List (List Int)) (row : Int) (col : Int) : Option ((Nat × Int × List (List Int)) ⊕ (Nat × Int × List (List Int))) :=
 Option.bind (Fsparse_Check k p) fun r2 =>
 if ((r2 != (0 : Int)) = true) then
  (some (Sum.inl (0, r2, [])))
 else
 Option.bind (Fsparse_in k p row col) fun r3 =>
 if ((!r3) = true) then
  (some (Sum.inl (0, (1 : Int), [])))
 else
 Option.bind (Fsparse_eliminate k p row col) fun r4 =>
 (some (Sum.inr (r4.1, (0 : Int), r4.2.2)))
def Fsparse_Eliminate : Nat → List (List Int) → Int → Int → Option ((Nat × Int × List (List Int)) ⊕ (Nat × Int × List (List Int)))
 | 0, _, _, _ => none
 | k + 1, p, row, col => bsparse_Eliminate k p row col
def Isparse_Eliminate : Nat → Inst := mkI 17 ⟨[.a (.lf (.sl (.sl (.int .i64)))), vI, vI], []⟩ [⟨[.a (.smz 0), vI], [.arr (.sl (.int .i64)) 1 41 false]⟩, ⟨[.a (.smz 0), vI], [.nst (.int .i64) 3 1 41 false]⟩] fun k x => Fsparse_Eliminate k x.1 x.2.1 x.2.2
theorem oksparse_Eliminate : ∀ k, InstOk (call cf k) (Isparse_Eliminate k) :=
 fnk 0 [] Try.func17 (fun k => (ac (oksparse_Check k) (ac (oksparse_in k) (ac (oksparse_eliminate k) a0)))) (fun k => l0) ⟨rfl, rfl, ⟨rfl, Nat.le_of_ble_eq_true rfl⟩, rfl⟩ (fun _ => rfl) (by kernel_rfl) fun k x => by kernel_rfl

/-! shunt/sparse.Best -/
def bsparse_Best (k : Nat) (p : List (List Int)) : Option (Int × Int × Bool × Int) :=
 Option.bind (Fsparse_Check k p) fun r3 =>
 if ((r3 != (0 : Int)) = true) then
  (some ((0 : Int), (0 : Int), false, r3))
 else
 Option.bind (Fsparse_best k p) fun r4 =>
 (some (r4.1, r4.2.1, r4.2.2, (0 : Int)))
def Fsparse_Best : Nat → List (List Int) → Option (Int × Int × Bool × Int)
 | 0, _ => none
 | k + 1, p => bsparse_Best k p
def Isparse_Best : Nat → Inst := mkI 15 ⟨[.a (.lf (.sl (.sl (.int .i64))))], []⟩ [⟨[vI, vI, vB, vI], []⟩] fun k x => Fsparse_Best k x
theorem oksparse_Best : ∀ k, InstOk (call cf k) (Isparse_Best k) :=
 fnk 0 [] Try.func15 (fun k => (ac (oksparse_Check k) (ac (oksparse_best k) a0))) (fun k => l0) ⟨rfl, rfl, ⟨rfl, Nat.le_of_ble_eq_true rfl⟩, rfl⟩ (fun _ => rfl) (by kernel_rfl) fun k x => by kernel_rfl

/-! shunt/sparse.Cost -/
def bsparse_Cost (k : Nat) (p : List (List Int)) (row : Int) (col : Int) : Option (Int × Int) :=
 Option.bind (Fsparse_Check k p) fun r4 =>
 if ((r4 != (0 : Int)) = true) then
  (some ((0 : Int), r4))
 else
 Option.bind (Fsparse_in k p row col) fun r5 =>
 if ((!r5) = true) then
  (some ((0 : Int), (1 : Int)))
 else
 if ((0 : Int) ≤ row) then
  Option.bind (p)[(Int.toNat row)]? fun x =>
  Option.bind (Fsparse_counts k p) fun r6 =>
  if (((0 : Int) ≤ col) ∧ (col < ((r6.1 : Nat) : Int))) then
   Option.bind (r6.2)[(0 + (Int.toNat col))]? fun x1 =>
   (some ((IntKind.wrap .i64 ((IntKind.wrap .i64 ((((List.length x) : Nat) : Int) - (1 : Int))) * (IntKind.wrap .i64 (x1 - (1 : Int))))), (0 : Int)))
  else
  none
 else
 none
def Fsparse_Cost : Nat → List (List Int) → Int → Int → Option (Int × Int)
 | 0, _, _, _ => none
 | k + 1, p, row, col => bsparse_Cost k p row col
def Isparse_Cost : Nat → Inst := mkI 13 ⟨[.a (.lf (.sl (.sl (.int .i64)))), vI, vI], []⟩ [⟨[vI, vI], []⟩] fun k x => Fsparse_Cost k x.1 x.2.1 x.2.2
theorem oksparse_Cost : ∀ k, InstOk (call cf k) (Isparse_Cost k) :=
 fnk 0 [] Try.func13 (fun k => (ac (oksparse_Check k) (ac (oksparse_in k) (ac (oksparse_counts k) a0)))) (fun k => l0) ⟨rfl, rfl, ⟨rfl, Nat.le_of_ble_eq_true rfl⟩, rfl⟩ (fun _ => rfl) (by kernel_rfl) fun k x => by kernel_rfl

/-! shunt/shuntref09.Ints -/
def Lshuntref09_Ints_0s (k : Nat) (rec : List Int → List Int → Int → Option ((Bool) ⊕ (Unit))) (a : List Int) (b : List Int) (i : Int) : Option ((Bool) ⊕ (Unit)) :=
 if ((decide (i < (((List.length a) : Nat) : Int))) = true) then
  if ((0 : Int) ≤ i) then
   Option.bind (a)[(Int.toNat i)]? fun x =>
   if ((0 : Int) ≤ i) then
    Option.bind (b)[(Int.toNat i)]? fun x1 =>
    if ((x != x1) = true) then
     (some (Sum.inl false))
    else
    rec a b (IntKind.wrap .i64 (i + (1 : Int)))
   else
   none
  else
  none
 else
 (some (Sum.inr ()))
def Lshuntref09_Ints_0 (k n : Nat) : List Int → List Int → Int → Option ((Bool) ⊕ (Unit)) := Nat.rec (fun _ _ _ => none) (fun _ r => Lshuntref09_Ints_0s k r) n
def bshuntref09_Ints (k : Nat) (a : List Int) (b : List Int) : Option (Bool) :=
 if (((((List.length a) : Nat) : Int) != (((List.length b) : Nat) : Int)) = true) then
  (some false)
 else
 Option.bind (Lshuntref09_Ints_0 k k a b (0 : Int)) fun r5 =>
 eitherK r5
  (fun r5 =>
  (some r5))
  (fun r5 =>
  (some true))
def Fshuntref09_Ints : Nat → List Int → List Int → Option (Bool)
 | 0, _, _ => none
 | k + 1, a, b => bshuntref09_Ints k a b
def Ishuntref09_Ints : Nat → Inst := mkI 22 ⟨[vJ, vJ], []⟩ [⟨[vB], []⟩] fun k x => Fshuntref09_Ints k x.1 x.2
def LIshuntref09_Ints_0 (k : Nat) : LInst := mkL 0 [⟨[(0, vJ), (1, vJ), (5, vI)], [], 0⟩] [⟨none, ⟨[(4, vB)], [], 0⟩⟩, ⟨some 0, ⟨[], [], 0⟩⟩] (fun n x => Lshuntref09_Ints_0 k n x.1 x.2.1 x.2.2) k
theorem loshuntref09_Ints_0 (k : Nat) : LIo 22 Try.f22 0 k (LIshuntref09_Ints_0 k) :=
 lpk [] a0 l0 (fun _ => rfl) (by kernel_rfl) fun n x => by kernel_rfl
theorem okshuntref09_Ints : ∀ k, InstOk (call cf k) (Ishuntref09_Ints k) :=
 fnk 0 [0] Try.func22 (fun k => a0) (fun k => (lc (loshuntref09_Ints_0 k) l0)) ⟨rfl, rfl, ⟨rfl, Nat.le_of_ble_eq_true rfl⟩, rfl⟩ (fun _ => rfl) (by kernel_rfl) fun k x => by kernel_rfl

/-! shunt/shuntref13.Same -/
def Lshuntref13_Same_2s (k : Nat) (rec : List (List Int) → List (List Int) → Int → Int → Option ((Bool) ⊕ (List (List Int) × List (List Int) × Int))) (a : List (List Int)) (b : List (List Int)) (i : Int) (k1 : Int) : Option ((Bool) ⊕ (List (List Int) × List (List Int) × Int)) :=
 if ((0 : Int) ≤ i) then
  Option.bind (a)[(Int.toNat i)]? fun x2 =>
  if ((decide (k1 < (((List.length x2) : Nat) : Int))) = true) then
   if ((0 : Int) ≤ i) then
    Option.bind (a)[(Int.toNat i)]? fun x3 =>
    if ((0 : Int) ≤ k1) then
     Option.bind (x3)[(Int.toNat k1)]? fun x4 =>
     if ((0 : Int) ≤ i) then
      Option.bind (b)[(Int.toNat i)]? fun x5 =>
      if ((0 : Int) ≤ k1) then
       Option.bind (x5)[(Int.toNat k1)]? fun x6 =>
       if ((x4 != x6) = true) then
        (some (Sum.inl false))
       else
       rec a b i (IntKind.wrap .i64 (k1 + (1 : Int)))
      else
      none
     else
     none
    else
    none
   else
   none
  else
  (some (Sum.inr (a, b, i)))
 else
 none
def Lshuntref13_Same_2 (k n : Nat) : List (List Int) → List (List Int) → Int → Int → Option ((Bool) ⊕ (List (List Int) × List (List Int) × Int)) := Nat.rec (fun _ _ _ _ => none) (fun _ r => Lshuntref13_Same_2s k r) n
def Lshuntref13_Same_0s (k : Nat) (rec : List (List Int) → List (List Int) → Int → Option ((Bool) ⊕ (Unit))) (a : List (List Int)) (b : List (List Int)) (i : Int) : Option ((Bool) ⊕ (Unit)) :=
 if ((decide (i < (((List.length a) : Nat) : Int))) = true) then
  if ((0 : Int) ≤ i) then
   Option.bind (a)[(Int.toNat i)]? fun x =>
   if ((0 : Int) ≤ i) then
    Option.bind (b)[(Int.toNat i)]? fun x1 =>
    if (((((List.length x) : Nat) : Int) != (((List.length x1) : Nat) : Int)) = true) then
     (some (Sum.inl false))
    else
    Option.bind (Lshuntref13_Same_2 k k a b i (0 : Int)) fun r7 =>
    eitherK r7
     (fun r7 =>
     (some (Sum.inl r7)))
     (fun r7 =>
     rec r7.1 r7.2.1 (IntKind.wrap .i64 (r7.2.2 + (1 : Int))))
   else
   none
  else
  none
 else
 (some (Sum.inr ()))
def Lshuntref13_Same_0 (k n : Nat) : List (List Int) → List (List Int) → Int → Option ((Bool) ⊕ (Unit)) := Nat.rec (fun _ _ _ => none) (fun _ r => Lshuntref13_Same_0s k r) n
def bshuntref13_Same (k : Nat) (a : List (List Int)) (b : List (List Int)) : Option (Bool) :=
 if (((((List.length a) : Nat) : Int) != (((List.length b) : Nat) : Int)) = true) then
  (some false)
 else
 Option.bind (Lshuntref13_Same_0 k k a b (0 : Int)) fun r7 =>
 eitherK r7
  (fun r7 =>
  (some r7))
  (fun r7 =>
  (some true))
def Fshuntref13_Same : Nat → List (List Int) → List (List Int) → Option (Bool)
 | 0, _, _ => none
 | k + 1, a, b => bshuntref13_Same k a b
def Ishuntref13_Same : Nat → Inst := mkI 21 ⟨[.a (.lf (.sl (.sl (.int .i64)))), .a (.lf (.sl (.sl (.int .i64))))], []⟩ [⟨[vB], []⟩] fun k x => Fshuntref13_Same k x.1 x.2
def LIshuntref13_Same_2 (k : Nat) : LInst := mkL 2 [⟨[(0, .a (.lf (.sl (.sl (.int .i64))))), (1, .a (.lf (.sl (.sl (.int .i64))))), (5, vI), (6, vI)], [], 0⟩] [⟨none, ⟨[(4, vB)], [], 0⟩⟩, ⟨some 2, ⟨[(0, .a (.lf (.sl (.sl (.int .i64))))), (1, .a (.lf (.sl (.sl (.int .i64))))), (5, vI)], [], 0⟩⟩] (fun n x => Lshuntref13_Same_2 k n x.1 x.2.1 x.2.2.1 x.2.2.2) k
theorem loshuntref13_Same_2 (k : Nat) : LIo 21 Try.f21 0 k (LIshuntref13_Same_2 k) :=
 lpk [] a0 l0 (fun _ => rfl) (by kernel_rfl) fun n x => by kernel_rfl
def LIshuntref13_Same_0 (k : Nat) : LInst := mkL 0 [⟨[(0, .a (.lf (.sl (.sl (.int .i64))))), (1, .a (.lf (.sl (.sl (.int .i64))))), (5, vI)], [], 0⟩] [⟨none, ⟨[(4, vB)], [], 0⟩⟩, ⟨some 0, ⟨[], [], 0⟩⟩] (fun n x => Lshuntref13_Same_0 k n x.1 x.2.1 x.2.2) k
theorem loshuntref13_Same_0 (k : Nat) : LIo 21 Try.f21 0 k (LIshuntref13_Same_0 k) :=
 lpk [2] a0 (lc (loshuntref13_Same_2 k) l0) (fun _ => rfl) (by kernel_rfl) fun n x => by kernel_rfl
theorem okshuntref13_Same : ∀ k, InstOk (call cf k) (Ishuntref13_Same k) :=
 fnk 0 [0] Try.func21 (fun k => a0) (fun k => (lc (loshuntref13_Same_2 k) (lc (loshuntref13_Same_0 k) l0))) ⟨rfl, rfl, ⟨rfl, Nat.le_of_ble_eq_true rfl⟩, rfl⟩ (fun _ => rfl) (by kernel_rfl) fun k x => by kernel_rfl

/-! shunt/shuntlaw13.awake -/
def bshuntlaw13_awake (k : Nat) : Option (Bool) :=
 Option.bind (Fsparse_Order k (List.take 3 ((List.take 3 ((0 : Int) :: ((1 : Int) :: ((2 : Int) :: [])))) :: ((List.take 2 ((0 : Int) :: ((1 : Int) :: []))) :: ((List.take 2 ((0 : Int) :: ((2 : Int) :: []))) :: []))))) fun r =>
 Option.bind (Fsparse_Fill k (List.take 3 ((List.take 3 ((0 : Int) :: ((1 : Int) :: ((2 : Int) :: [])))) :: ((List.take 2 ((0 : Int) :: ((1 : Int) :: []))) :: ((List.take 2 ((0 : Int) :: ((2 : Int) :: []))) :: [])))) (List.take 3 ((0 : Int) :: ((1 : Int) :: ((2 : Int) :: [])))) (List.take 3 ((0 : Int) :: ((1 : Int) :: ((2 : Int) :: []))))) fun r1 =>
 Option.bind (Fsparse_Eliminate k (List.take 3 ((List.take 3 ((0 : Int) :: ((1 : Int) :: ((2 : Int) :: [])))) :: ((List.take 2 ((0 : Int) :: ((1 : Int) :: []))) :: ((List.take 2 ((0 : Int) :: ((2 : Int) :: []))) :: [])))) (1 : Int) (1 : Int)) fun r2 =>
 eitherK r2
  (fun r2 =>
  Option.bind (Fsparse_Best k (List.take 3 ((List.take 3 ((0 : Int) :: ((1 : Int) :: ((2 : Int) :: [])))) :: ((List.take 2 ((0 : Int) :: ((1 : Int) :: []))) :: ((List.take 2 ((0 : Int) :: ((2 : Int) :: []))) :: []))))) fun r3 =>
  Option.bind (Fsparse_Cost k (List.take 3 ((List.take 3 ((0 : Int) :: ((1 : Int) :: ((2 : Int) :: [])))) :: ((List.take 2 ((0 : Int) :: ((1 : Int) :: []))) :: ((List.take 2 ((0 : Int) :: ((2 : Int) :: []))) :: [])))) (0 : Int) (0 : Int)) fun r4 =>
  if ((r.2.2 == (0 : Int)) = true) then
   if ((r1.2 == (0 : Int)) = true) then
    if ((r2.2.1 == (0 : Int)) = true) then
     if ((r3.2.2.2 == (0 : Int)) = true) then
      if ((r4.2 == (0 : Int)) = true) then
       if (r3.2.2.1 = true) then
        if ((r3.1 == (1 : Int)) = true) then
         if ((r3.2.1 == (1 : Int)) = true) then
          if ((r4.1 == (4 : Int)) = true) then
           if ((r1.1 == (2 : Int)) = true) then
            Option.bind (Fshuntref09_Ints k r.1 (List.take 3 ((1 : Int) :: ((0 : Int) :: ((2 : Int) :: []))))) fun r5 =>
            if (r5 = true) then
             Option.bind (Fshuntref09_Ints k r.2.1 r.1) fun r6 =>
             if (r6 = true) then
              if ((0 + r2.1) ≤ (List.length r2.2.2)) then
               Option.bind (Fshuntref13_Same k (List.take r2.1 r2.2.2) (List.take 3 ((List.take 2 ((0 : Int) :: ((2 : Int) :: []))) :: ([] :: ((List.take 2 ((0 : Int) :: ((2 : Int) :: []))) :: []))))) fun r7 =>
               if (r7 = true) then
                Option.bind (Fsparse_Check k (List.take 1 ((List.take 1 ((1 : Int) :: [])) :: []))) fun r8 =>
                (some (r8 == (130 : Int)))
               else
               (some false)
              else
              none
             else
             (some false)
            else
            (some false)
           else
           (some false)
          else
          (some false)
         else
         (some false)
        else
        (some false)
       else
       (some false)
      else
      (some false)
     else
     (some false)
    else
    (some false)
   else
   (some false)
  else
  (some false))
  (fun r2 =>
  Option.bind (Fsparse_Best k (List.take 3 ((List.take 3 ((0 : Int) :: ((1 : Int) :: ((2 : Int) :: [])))) :: ((List.take 2 ((0 : Int) :: ((1 : Int) :: []))) :: ((List.take 2 ((0 : Int) :: ((2 : Int) :: []))) :: []))))) fun r3 =>
  Option.bind (Fsparse_Cost k (List.take 3 ((List.take 3 ((0 : Int) :: ((1 : Int) :: ((2 : Int) :: [])))) :: ((List.take 2 ((0 : Int) :: ((1 : Int) :: []))) :: ((List.take 2 ((0 : Int) :: ((2 : Int) :: []))) :: [])))) (0 : Int) (0 : Int)) fun r4 =>
  if ((r.2.2 == (0 : Int)) = true) then
   if ((r1.2 == (0 : Int)) = true) then
    if ((r2.2.1 == (0 : Int)) = true) then
     if ((r3.2.2.2 == (0 : Int)) = true) then
      if ((r4.2 == (0 : Int)) = true) then
       if (r3.2.2.1 = true) then
        if ((r3.1 == (1 : Int)) = true) then
         if ((r3.2.1 == (1 : Int)) = true) then
          if ((r4.1 == (4 : Int)) = true) then
           if ((r1.1 == (2 : Int)) = true) then
            Option.bind (Fshuntref09_Ints k r.1 (List.take 3 ((1 : Int) :: ((0 : Int) :: ((2 : Int) :: []))))) fun r5 =>
            if (r5 = true) then
             Option.bind (Fshuntref09_Ints k r.2.1 r.1) fun r6 =>
             if (r6 = true) then
              if ((0 + r2.1) ≤ (List.length r2.2.2)) then
               Option.bind (Fshuntref13_Same k (List.take r2.1 r2.2.2) (List.take 3 ((List.take 2 ((0 : Int) :: ((2 : Int) :: []))) :: ([] :: ((List.take 2 ((0 : Int) :: ((2 : Int) :: []))) :: []))))) fun r7 =>
               if (r7 = true) then
                Option.bind (Fsparse_Check k (List.take 1 ((List.take 1 ((1 : Int) :: [])) :: []))) fun r8 =>
                (some (r8 == (130 : Int)))
               else
               (some false)
              else
              none
             else
             (some false)
            else
            (some false)
           else
           (some false)
          else
          (some false)
         else
         (some false)
        else
        (some false)
       else
       (some false)
      else
      (some false)
     else
     (some false)
    else
    (some false)
   else
   (some false)
  else
  (some false))
def Fshuntlaw13_awake : Nat → Option (Bool)
 | 0 => none
 | k + 1 => bshuntlaw13_awake k
def Ishuntlaw13_awake : Nat → Inst := mkI 10 ⟨[], []⟩ [⟨[vB], []⟩] fun k x => Fshuntlaw13_awake k
theorem okshuntlaw13_awake : ∀ k, InstOk (call cf k) (Ishuntlaw13_awake k) :=
 fnk 0 [] Try.func10 (fun k => (ac (oksparse_Order k) (ac (oksparse_Fill k) (ac (oksparse_Eliminate k) (ac (oksparse_Best k) (ac (oksparse_Cost k) (ac (okshuntref09_Ints k) (ac (okshuntref13_Same k) (ac (oksparse_Check k) a0))))))))) (fun k => l0) ⟨rfl, rfl, ⟨rfl, Nat.le_of_ble_eq_true rfl⟩, rfl⟩ (fun _ => rfl) (by kernel_rfl) fun k x => by kernel_rfl

/-! shunt/shuntlaw13.wide -/
def Lshuntlaw13_wide_0s (k : Nat) (rec : List (List Int) → Int → Int → Option ((Bool) ⊕ (Unit))) (p : List (List Int)) (x : Int) (x1 : Int) : Option ((Bool) ⊕ (Unit)) :=
 if ((decide (x1 < x)) = true) then
  if ((decide (x1 > (60 : Int))) = false) then
   if ((0 : Int) ≤ x1) then
    Option.bind (p)[(Int.toNat x1)]? fun x2 =>
    if ((decide ((((List.length x2) : Nat) : Int) > (60 : Int))) = true) then
     (some (Sum.inl true))
    else
    rec p x (IntKind.wrap .i64 (x1 + (1 : Int)))
   else
   none
  else
  (some (Sum.inl true))
 else
 (some (Sum.inr ()))
def Lshuntlaw13_wide_0 (k n : Nat) : List (List Int) → Int → Int → Option ((Bool) ⊕ (Unit)) := Nat.rec (fun _ _ _ => none) (fun _ r => Lshuntlaw13_wide_0s k r) n
def bshuntlaw13_wide (k : Nat) (p : List (List Int)) : Option (Bool) :=
 Option.bind (Lshuntlaw13_wide_0 k k p (((List.length p) : Nat) : Int) (0 : Int)) fun r1 =>
 eitherK r1
  (fun r1 =>
  (some r1))
  (fun r1 =>
  (some false))
def Fshuntlaw13_wide : Nat → List (List Int) → Option (Bool)
 | 0, _ => none
 | k + 1, p => bshuntlaw13_wide k p
def Ishuntlaw13_wide : Nat → Inst := mkI 11 ⟨[.a (.lf (.sl (.sl (.int .i64))))], []⟩ [⟨[vB], []⟩] fun k x => Fshuntlaw13_wide k x
def LIshuntlaw13_wide_0 (k : Nat) : LInst := mkL 0 [⟨[(0, .a (.lf (.sl (.sl (.int .i64))))), (5, vI), (6, vI)], [], 0⟩] [⟨none, ⟨[(2, vB)], [], 0⟩⟩, ⟨some 0, ⟨[], [], 0⟩⟩] (fun n x => Lshuntlaw13_wide_0 k n x.1 x.2.1 x.2.2) k
theorem loshuntlaw13_wide_0 (k : Nat) : LIo 11 Try.f11 0 k (LIshuntlaw13_wide_0 k) :=
 lpk [] a0 l0 (fun _ => rfl) (by kernel_rfl) fun n x => by kernel_rfl
theorem okshuntlaw13_wide : ∀ k, InstOk (call cf k) (Ishuntlaw13_wide k) :=
 fnk 0 [0] Try.func11 (fun k => a0) (fun k => (lc (loshuntlaw13_wide_0 k) l0)) ⟨rfl, rfl, ⟨rfl, Nat.le_of_ble_eq_true rfl⟩, rfl⟩ (fun _ => rfl) (by kernel_rfl) fun k x => by kernel_rfl

/-! shunt/shuntref13.Copy -/
def Lshuntref13_Copy_0s (k : Nat) (rec : List (List Int) → Nat → Int → List (List Int) → Option (Nat × List (List Int))) (p : List (List Int)) (out1 : Nat) (i : Int) (outs : List (List Int)) : Option (Nat × List (List Int)) :=
 if ((decide (i < (((List.length p) : Nat) : Int))) = true) then
  if ((0 : Int) ≤ i) then
   Option.bind (p)[(Int.toNat i)]? fun x =>
   if (((0 + (List.length x)) * 8) ≤ 140737488355328) then
    if ((0 + (0 + (List.length x))) ≤ (List.length ((List.take 0 []) ++ x))) then
     if (out1 ≤ (List.length outs)) then
      if (((out1 + (List.length (List.take 1 ((List.take (0 + (List.length x)) ((List.take 0 []) ++ x)) :: [])))) * 24) ≤ 140737488355328) then
       rec p (out1 + (List.length (List.take 1 ((List.take (0 + (List.length x)) ((List.take 0 []) ++ x)) :: [])))) (IntKind.wrap .i64 (i + (1 : Int))) ((List.take out1 outs) ++ (List.take 1 ((List.take (0 + (List.length x)) ((List.take 0 []) ++ x)) :: [])))
      else
      none
     else
     none
    else
    none
   else
   none
  else
  none
 else
 (some (out1, outs))
def Lshuntref13_Copy_0 (k n : Nat) : List (List Int) → Nat → Int → List (List Int) → Option (Nat × List (List Int)) := Nat.rec (fun _ _ _ _ => none) (fun _ r => Lshuntref13_Copy_0s k r) n
def bshuntref13_Copy (k : Nat) (p : List (List Int)) : Option (List (List Int)) :=
 Option.bind (Lshuntref13_Copy_0 k k p 0 (0 : Int) []) fun r2 =>
 if ((0 + r2.1) ≤ (List.length r2.2)) then
  (some (List.take r2.1 r2.2))
 else
 none
def Fshuntref13_Copy : Nat → List (List Int) → Option (List (List Int))
 | 0, _ => none
 | k + 1, p => bshuntref13_Copy k p
def Ishuntref13_Copy : Nat → Inst := mkI 12 ⟨[.a (.lf (.sl (.sl (.int .i64))))], []⟩ [⟨[.a (.lf (.sl (.sl (.int .i64))))], []⟩] fun k x => Fshuntref13_Copy k x
def LIshuntref13_Copy_0 (k : Nat) : LInst := mkL 0 [⟨[(0, .a (.lf (.sl (.sl (.int .i64))))), (3, .a (.smz 0)), (4, vI)], [(0, some (.arr (.sl (.int .i64)) 1 41 false))], 1⟩] [⟨some 0, ⟨[(3, .a (.smz 0))], [(0, some (.arr (.sl (.int .i64)) 1 41 false))], 1⟩⟩] (fun n x => Lshuntref13_Copy_0 k n x.1 x.2.1 x.2.2.1 x.2.2.2) k
theorem loshuntref13_Copy_0 (k : Nat) : LIo 12 Try.f12 0 k (LIshuntref13_Copy_0 k) :=
 lpk [] a0 l0 (fun _ => rfl) (by kernel_rfl) fun n x => by kernel_rfl
theorem okshuntref13_Copy : ∀ k, InstOk (call cf k) (Ishuntref13_Copy k) :=
 fnk 0 [0] Try.func12 (fun k => a0) (fun k => (lc (loshuntref13_Copy_0 k) l0)) ⟨rfl, rfl, ⟨rfl, Nat.le_of_ble_eq_true rfl⟩, rfl⟩ (fun _ => rfl) (by kernel_rfl) fun k x => by kernel_rfl

/-! shunt/shuntref13.Check -/
def Lshuntref13_Check_2s (k : Nat) (rec : List (List Int) → Int → Int → Int → Option ((Int) ⊕ (List (List Int) × Int))) (p : List (List Int)) (i : Int) (last : Int) (k1 : Int) : Option ((Int) ⊕ (List (List Int) × Int)) :=
 if ((0 : Int) ≤ i) then
  Option.bind (p)[(Int.toNat i)]? fun x =>
  if ((decide (k1 < (((List.length x) : Nat) : Int))) = true) then
   if ((0 : Int) ≤ i) then
    Option.bind (p)[(Int.toNat i)]? fun x1 =>
    if ((0 : Int) ≤ k1) then
     Option.bind (x1)[(Int.toNat k1)]? fun x2 =>
     if ((decide (x2 ≤ last)) = false) then
      if ((0 : Int) ≤ i) then
       Option.bind (p)[(Int.toNat i)]? fun x3 =>
       if ((0 : Int) ≤ k1) then
        Option.bind (x3)[(Int.toNat k1)]? fun x4 =>
        if ((decide (x4 ≥ (((List.length p) : Nat) : Int))) = true) then
         (some (Sum.inl (130 : Int)))
        else
        if ((0 : Int) ≤ i) then
         Option.bind (p)[(Int.toNat i)]? fun x5 =>
         if ((0 : Int) ≤ k1) then
          Option.bind (x5)[(Int.toNat k1)]? fun x6 =>
          rec p i x6 (IntKind.wrap .i64 (k1 + (1 : Int)))
         else
         none
        else
        none
       else
       none
      else
      none
     else
     (some (Sum.inl (130 : Int)))
    else
    none
   else
   none
  else
  (some (Sum.inr (p, i)))
 else
 none
def Lshuntref13_Check_2 (k n : Nat) : List (List Int) → Int → Int → Int → Option ((Int) ⊕ (List (List Int) × Int)) := Nat.rec (fun _ _ _ _ => none) (fun _ r => Lshuntref13_Check_2s k r) n
def Lshuntref13_Check_0s (k : Nat) (rec : List (List Int) → Int → Option ((Int) ⊕ (Unit))) (p : List (List Int)) (i : Int) : Option ((Int) ⊕ (Unit)) :=
 if ((decide (i < (((List.length p) : Nat) : Int))) = true) then
  Option.bind (Lshuntref13_Check_2 k k p i (-(1 : Int)) (0 : Int)) fun r4 =>
  eitherK r4
   (fun r4 =>
   (some (Sum.inl r4)))
   (fun r4 =>
   rec r4.1 (IntKind.wrap .i64 (r4.2 + (1 : Int))))
 else
 (some (Sum.inr ()))
def Lshuntref13_Check_0 (k n : Nat) : List (List Int) → Int → Option ((Int) ⊕ (Unit)) := Nat.rec (fun _ _ => none) (fun _ r => Lshuntref13_Check_0s k r) n
def bshuntref13_Check (k : Nat) (p : List (List Int)) : Option (Int) :=
 if ((decide ((((List.length p) : Nat) : Int) > (48 : Int))) = true) then
  (some (130 : Int))
 else
 Option.bind (Lshuntref13_Check_0 k k p (0 : Int)) fun r4 =>
 eitherK r4
  (fun r4 =>
  (some r4))
  (fun r4 =>
  (some (0 : Int)))
def Fshuntref13_Check : Nat → List (List Int) → Option (Int)
 | 0, _ => none
 | k + 1, p => bshuntref13_Check k p
def Ishuntref13_Check : Nat → Inst := mkI 24 ⟨[.a (.lf (.sl (.sl (.int .i64))))], []⟩ [⟨[vI], []⟩] fun k x => Fshuntref13_Check k x
def LIshuntref13_Check_2 (k : Nat) : LInst := mkL 2 [⟨[(0, .a (.lf (.sl (.sl (.int .i64))))), (3, vI), (4, vI), (5, vI)], [], 0⟩] [⟨none, ⟨[(2, vI)], [], 0⟩⟩, ⟨some 2, ⟨[(0, .a (.lf (.sl (.sl (.int .i64))))), (3, vI)], [], 0⟩⟩] (fun n x => Lshuntref13_Check_2 k n x.1 x.2.1 x.2.2.1 x.2.2.2) k
theorem loshuntref13_Check_2 (k : Nat) : LIo 24 Try.f24 0 k (LIshuntref13_Check_2 k) :=
 lpk [] a0 l0 (fun _ => rfl) (by kernel_rfl) fun n x => by kernel_rfl
def LIshuntref13_Check_0 (k : Nat) : LInst := mkL 0 [⟨[(0, .a (.lf (.sl (.sl (.int .i64))))), (3, vI)], [], 0⟩] [⟨none, ⟨[(2, vI)], [], 0⟩⟩, ⟨some 0, ⟨[], [], 0⟩⟩] (fun n x => Lshuntref13_Check_0 k n x.1 x.2) k
theorem loshuntref13_Check_0 (k : Nat) : LIo 24 Try.f24 0 k (LIshuntref13_Check_0 k) :=
 lpk [2] a0 (lc (loshuntref13_Check_2 k) l0) (fun _ => rfl) (by kernel_rfl) fun n x => by kernel_rfl
theorem okshuntref13_Check : ∀ k, InstOk (call cf k) (Ishuntref13_Check k) :=
 fnk 0 [0] Try.func24 (fun k => a0) (fun k => (lc (loshuntref13_Check_2 k) (lc (loshuntref13_Check_0 k) l0))) ⟨rfl, rfl, ⟨rfl, Nat.le_of_ble_eq_true rfl⟩, rfl⟩ (fun _ => rfl) (by kernel_rfl) fun k x => by kernel_rfl

/-! shunt/shuntref13.Full -/
def Lshuntref13_Full_2s (k : Nat) (rec : List (List Int) → Nat → Int → Nat → Int → List (List Bool) → List Bool → Option (List (List Int) × Nat × Int × Nat × List (List Bool) × List Bool)) (p : List (List Int)) (m : Nat) (i : Int) (r : Nat) (k1 : Int) (ms : List (List Bool)) (rs : List Bool) : Option (List (List Int) × Nat × Int × Nat × List (List Bool) × List Bool) :=
 if ((0 : Int) ≤ i) then
  Option.bind (p)[(Int.toNat i)]? fun x =>
  if ((decide (k1 < (((List.length x) : Nat) : Int))) = true) then
   if ((0 : Int) ≤ i) then
    Option.bind (p)[(Int.toNat i)]? fun x1 =>
    if ((0 : Int) ≤ k1) then
     Option.bind (x1)[(Int.toNat k1)]? fun x2 =>
     if (((0 : Int) ≤ x2) ∧ (x2 < ((r : Nat) : Int))) then
      Option.bind (rs)[(0 + (Int.toNat x2))]? fun x3 =>
      rec p m i r (IntKind.wrap .i64 (k1 + (1 : Int))) ms (List.set rs (0 + (Int.toNat x2)) true)
     else
     none
    else
    none
   else
   none
  else
  (some (p, m, i, r, ms, rs))
 else
 none
def Lshuntref13_Full_2 (k n : Nat) : List (List Int) → Nat → Int → Nat → Int → List (List Bool) → List Bool → Option (List (List Int) × Nat × Int × Nat × List (List Bool) × List Bool) := Nat.rec (fun _ _ _ _ _ _ _ => none) (fun _ r => Lshuntref13_Full_2s k r) n
def Lshuntref13_Full_0s (k : Nat) (rec : List (List Int) → Nat → Int → List (List Bool) → Option (Nat × List (List Bool))) (p : List (List Int)) (m : Nat) (i : Int) (ms : List (List Bool)) : Option (Nat × List (List Bool)) :=
 if ((decide (i < (((List.length p) : Nat) : Int))) = true) then
  if (((0 : Int) ≤ (((List.length p) : Nat) : Int)) ∧ (((((List.length p) : Nat) : Int) ≤ (((List.length p) : Nat) : Int)) ∧ (((((List.length p) : Nat) : Int) * (1 : Int)) ≤ (140737488355328 : Int)))) then
   Option.bind (Lshuntref13_Full_2 k k p m i (Int.toNat (((List.length p) : Nat) : Int)) (0 : Int) ms (List.replicate (Int.toNat (((List.length p) : Nat) : Int)) false)) fun r5 =>
   if ((0 + r5.2.2.2.1) ≤ (List.length r5.2.2.2.2.2)) then
    if (r5.2.1 ≤ (List.length r5.2.2.2.2.1)) then
     if (((r5.2.1 + (List.length (List.take 1 ((List.take r5.2.2.2.1 r5.2.2.2.2.2) :: [])))) * 24) ≤ 140737488355328) then
      rec r5.1 (r5.2.1 + (List.length (List.take 1 ((List.take r5.2.2.2.1 r5.2.2.2.2.2) :: [])))) (IntKind.wrap .i64 (r5.2.2.1 + (1 : Int))) ((List.take r5.2.1 r5.2.2.2.2.1) ++ (List.take 1 ((List.take r5.2.2.2.1 r5.2.2.2.2.2) :: [])))
     else
     none
    else
    none
   else
   none
  else
  none
 else
 (some (m, ms))
def Lshuntref13_Full_0 (k n : Nat) : List (List Int) → Nat → Int → List (List Bool) → Option (Nat × List (List Bool)) := Nat.rec (fun _ _ _ _ => none) (fun _ r => Lshuntref13_Full_0s k r) n
def bshuntref13_Full (k : Nat) (p : List (List Int)) : Option (List (List Bool)) :=
 Option.bind (Lshuntref13_Full_0 k k p 0 (0 : Int) []) fun r5 =>
 if ((0 + r5.1) ≤ (List.length r5.2)) then
  (some (List.take r5.1 r5.2))
 else
 none
def Fshuntref13_Full : Nat → List (List Int) → Option (List (List Bool))
 | 0, _ => none
 | k + 1, p => bshuntref13_Full k p
def Ishuntref13_Full : Nat → Inst := mkI 32 ⟨[.a (.lf (.sl (.sl (.int .i64))))], []⟩ [⟨[.a (.lf (.sl (.sl .bool)))], []⟩] fun k x => Fshuntref13_Full k x
def LIshuntref13_Full_2 (k : Nat) : LInst := mkL 2 [⟨[(0, .a (.lf (.sl (.sl (.int .i64))))), (3, .a (.smz 0)), (4, vI), (5, .a (.smz 1)), (6, vI)], [(0, some (.arr (.sl .bool) 1 55 false)), (1, some (.arr .bool 1 4 false))], 2⟩] [⟨some 2, ⟨[(0, .a (.lf (.sl (.sl (.int .i64))))), (3, .a (.smz 0)), (4, vI), (5, .a (.smz 1))], [(0, some (.arr (.sl .bool) 1 55 false)), (1, some (.arr .bool 1 4 false))], 2⟩⟩] (fun n x => Lshuntref13_Full_2 k n x.1 x.2.1 x.2.2.1 x.2.2.2.1 x.2.2.2.2.1 x.2.2.2.2.2.1 x.2.2.2.2.2.2) k
theorem loshuntref13_Full_2 (k : Nat) : LIo 32 Try.f32 0 k (LIshuntref13_Full_2 k) :=
 lpk [] a0 l0 (fun _ => rfl) (by kernel_rfl) fun n x => by kernel_rfl
def LIshuntref13_Full_0 (k : Nat) : LInst := mkL 0 [⟨[(0, .a (.lf (.sl (.sl (.int .i64))))), (3, .a (.smz 0)), (4, vI)], [(0, some (.arr (.sl .bool) 1 55 false))], 1⟩] [⟨some 0, ⟨[(3, .a (.smz 0))], [(0, some (.arr (.sl .bool) 1 55 false))], 1⟩⟩] (fun n x => Lshuntref13_Full_0 k n x.1 x.2.1 x.2.2.1 x.2.2.2) k
theorem loshuntref13_Full_0 (k : Nat) : LIo 32 Try.f32 0 k (LIshuntref13_Full_0 k) :=
 lpk [2] a0 (lc (loshuntref13_Full_2 k) l0) (fun _ => rfl) (by kernel_rfl) fun n x => by kernel_rfl
theorem okshuntref13_Full : ∀ k, InstOk (call cf k) (Ishuntref13_Full k) :=
 fnk 0 [0] Try.func32 (fun k => a0) (fun k => (lc (loshuntref13_Full_2 k) (lc (loshuntref13_Full_0 k) l0))) ⟨rfl, rfl, ⟨rfl, Nat.le_of_ble_eq_true rfl⟩, rfl⟩ (fun _ => rfl) (by kernel_rfl) fun k x => by kernel_rfl

/-! shunt/shuntref13.has -/
def bshuntref13_has (k : Nat) (m : List (List Bool)) (row : Int) (col : Int) : Option (Bool) :=
 if ((decide (row ≥ (0 : Int))) = true) then
  if ((decide (row < (((List.length m) : Nat) : Int))) = true) then
   if ((decide (col ≥ (0 : Int))) = true) then
    if ((decide (col < (((List.length m) : Nat) : Int))) = true) then
     if ((0 : Int) ≤ row) then
      Option.bind (m)[(Int.toNat row)]? fun x =>
      if ((0 : Int) ≤ col) then
       Option.bind (x)[(Int.toNat col)]? fun x1 =>
       (some x1)
      else
      none
     else
     none
    else
    (some false)
   else
   (some false)
  else
  (some false)
 else
 (some false)
def Fshuntref13_has : Nat → List (List Bool) → Int → Int → Option (Bool)
 | 0, _, _, _ => none
 | k + 1, m, row, col => bshuntref13_has k m row col
def Ishuntref13_has : Nat → Inst := mkI 33 ⟨[.a (.lf (.sl (.sl .bool))), vI, vI], []⟩ [⟨[vB], []⟩] fun k x => Fshuntref13_has k x.1 x.2.1 x.2.2
theorem okshuntref13_has : ∀ k, InstOk (call cf k) (Ishuntref13_has k) :=
 fnk 0 [] Try.func33 (fun k => a0) (fun k => l0) ⟨rfl, rfl, ⟨rfl, Nat.le_of_ble_eq_true rfl⟩, rfl⟩ (fun _ => rfl) (by kernel_rfl) fun k x => by kernel_rfl

/-! shunt/shuntref13.Price -/
def Lshuntref13_Price_0s (k : Nat) (rec : List (List Bool) → Int → Int → Int → Int → Int → Option (Int × Int)) (m : List (List Bool)) (row : Int) (col : Int) (a : Int) (b : Int) (i : Int) : Option (Int × Int) :=
 if ((decide (i < (((List.length m) : Nat) : Int))) = true) then
  if ((0 : Int) ≤ row) then
   Option.bind (m)[(Int.toNat row)]? fun x =>
   if ((0 : Int) ≤ i) then
    Option.bind (x)[(Int.toNat i)]? fun x1 =>
    if (x1 = true) then
     if ((0 : Int) ≤ i) then
      Option.bind (m)[(Int.toNat i)]? fun x2 =>
      if ((0 : Int) ≤ col) then
       Option.bind (x2)[(Int.toNat col)]? fun x3 =>
       if (x3 = true) then
        rec m row col (IntKind.wrap .i64 (a + (1 : Int))) (IntKind.wrap .i64 (b + (1 : Int))) (IntKind.wrap .i64 (i + (1 : Int)))
       else
       rec m row col (IntKind.wrap .i64 (a + (1 : Int))) b (IntKind.wrap .i64 (i + (1 : Int)))
      else
      none
     else
     none
    else
    if ((0 : Int) ≤ i) then
     Option.bind (m)[(Int.toNat i)]? fun x2 =>
     if ((0 : Int) ≤ col) then
      Option.bind (x2)[(Int.toNat col)]? fun x3 =>
      if (x3 = true) then
       rec m row col a (IntKind.wrap .i64 (b + (1 : Int))) (IntKind.wrap .i64 (i + (1 : Int)))
      else
      rec m row col a b (IntKind.wrap .i64 (i + (1 : Int)))
     else
     none
    else
    none
   else
   none
  else
  none
 else
 (some (a, b))
def Lshuntref13_Price_0 (k n : Nat) : List (List Bool) → Int → Int → Int → Int → Int → Option (Int × Int) := Nat.rec (fun _ _ _ _ _ _ => none) (fun _ r => Lshuntref13_Price_0s k r) n
def bshuntref13_Price (k : Nat) (m : List (List Bool)) (row : Int) (col : Int) : Option (Int) :=
 Option.bind (Lshuntref13_Price_0 k k m row col (0 : Int) (0 : Int) (0 : Int)) fun r7 =>
 (some (IntKind.wrap .i64 ((IntKind.wrap .i64 (r7.1 - (1 : Int))) * (IntKind.wrap .i64 (r7.2 - (1 : Int))))))
def Fshuntref13_Price : Nat → List (List Bool) → Int → Int → Option (Int)
 | 0, _, _, _ => none
 | k + 1, m, row, col => bshuntref13_Price k m row col
def Ishuntref13_Price : Nat → Inst := mkI 34 ⟨[.a (.lf (.sl (.sl .bool))), vI, vI], []⟩ [⟨[vI], []⟩] fun k x => Fshuntref13_Price k x.1 x.2.1 x.2.2
def LIshuntref13_Price_0 (k : Nat) : LInst := mkL 0 [⟨[(0, .a (.lf (.sl (.sl .bool)))), (1, vI), (2, vI), (7, vI), (8, vI), (9, vI)], [], 0⟩] [⟨some 0, ⟨[(7, vI), (8, vI)], [], 0⟩⟩] (fun n x => Lshuntref13_Price_0 k n x.1 x.2.1 x.2.2.1 x.2.2.2.1 x.2.2.2.2.1 x.2.2.2.2.2) k
theorem loshuntref13_Price_0 (k : Nat) : LIo 34 Try.f34 0 k (LIshuntref13_Price_0 k) :=
 lpk [] a0 l0 (fun _ => rfl) (by kernel_rfl) fun n x => by kernel_rfl
theorem okshuntref13_Price : ∀ k, InstOk (call cf k) (Ishuntref13_Price k) :=
 fnk 0 [0] Try.func34 (fun k => a0) (fun k => (lc (loshuntref13_Price_0 k) l0)) ⟨rfl, rfl, ⟨rfl, Nat.le_of_ble_eq_true rfl⟩, rfl⟩ (fun _ => rfl) (by kernel_rfl) fun k x => by kernel_rfl

/-! shunt/shuntref13.Cost -/
def bshuntref13_Cost (k : Nat) (p : List (List Int)) (row : Int) (col : Int) : Option (Int × Int) :=
 Option.bind (Fshuntref13_Check k p) fun r4 =>
 if ((r4 != (0 : Int)) = true) then
  (some ((0 : Int), (130 : Int)))
 else
 Option.bind (Fshuntref13_Full k p) fun r5 =>
 Option.bind (Fshuntref13_has k r5 row col) fun r6 =>
 if ((!r6) = true) then
  (some ((0 : Int), (1 : Int)))
 else
 Option.bind (Fshuntref13_Price k r5 row col) fun r7 =>
 (some (r7, (0 : Int)))
def Fshuntref13_Cost : Nat → List (List Int) → Int → Int → Option (Int × Int)
 | 0, _, _, _ => none
 | k + 1, p, row, col => bshuntref13_Cost k p row col
def Ishuntref13_Cost : Nat → Inst := mkI 14 ⟨[.a (.lf (.sl (.sl (.int .i64)))), vI, vI], []⟩ [⟨[vI, vI], []⟩] fun k x => Fshuntref13_Cost k x.1 x.2.1 x.2.2
theorem okshuntref13_Cost : ∀ k, InstOk (call cf k) (Ishuntref13_Cost k) :=
 fnk 0 [] Try.func14 (fun k => (ac (okshuntref13_Check k) (ac (okshuntref13_Full k) (ac (okshuntref13_has k) (ac (okshuntref13_Price k) a0))))) (fun k => l0) ⟨rfl, rfl, ⟨rfl, Nat.le_of_ble_eq_true rfl⟩, rfl⟩ (fun _ => rfl) (by kernel_rfl) fun k x => by kernel_rfl

/-! shunt/shuntref13.Choose -/
def Lshuntref13_Choose_2s (k : Nat) (rec : List (List Bool) → Int → Int → Bool → Int → Int → Option (List (List Bool) × Int × Int × Bool × Int)) (m : List (List Bool)) (row : Int) (col : Int) (found : Bool) (i : Int) (k1 : Int) : Option (List (List Bool) × Int × Int × Bool × Int) :=
 if ((decide (k1 < (((List.length m) : Nat) : Int))) = true) then
  if ((0 : Int) ≤ i) then
   Option.bind (m)[(Int.toNat i)]? fun x =>
   if ((0 : Int) ≤ k1) then
    Option.bind (x)[(Int.toNat k1)]? fun x1 =>
    if (x1 = true) then
     if ((!found) = false) then
      Option.bind (Fshuntref13_Price k m i k1) fun r8 =>
      Option.bind (Fshuntref13_Price k m row col) fun r9 =>
      if ((decide (r8 < r9)) = true) then
       rec m i k1 true i (IntKind.wrap .i64 (k1 + (1 : Int)))
      else
      rec m row col found i (IntKind.wrap .i64 (k1 + (1 : Int)))
     else
     rec m i k1 true i (IntKind.wrap .i64 (k1 + (1 : Int)))
    else
    rec m row col found i (IntKind.wrap .i64 (k1 + (1 : Int)))
   else
   none
  else
  none
 else
 (some (m, row, col, found, i))
def Lshuntref13_Choose_2 (k n : Nat) : List (List Bool) → Int → Int → Bool → Int → Int → Option (List (List Bool) × Int × Int × Bool × Int) := Nat.rec (fun _ _ _ _ _ _ => none) (fun _ r => Lshuntref13_Choose_2s k r) n
def Lshuntref13_Choose_0s (k : Nat) (rec : List (List Bool) → Int → Int → Bool → Int → Option (Int × Int × Bool)) (m : List (List Bool)) (row : Int) (col : Int) (found : Bool) (i : Int) : Option (Int × Int × Bool) :=
 if ((decide (i < (((List.length m) : Nat) : Int))) = true) then
  Option.bind (Lshuntref13_Choose_2 k k m row col found i (0 : Int)) fun r8 =>
  rec r8.1 r8.2.1 r8.2.2.1 r8.2.2.2.1 (IntKind.wrap .i64 (r8.2.2.2.2 + (1 : Int)))
 else
 (some (row, col, found))
def Lshuntref13_Choose_0 (k n : Nat) : List (List Bool) → Int → Int → Bool → Int → Option (Int × Int × Bool) := Nat.rec (fun _ _ _ _ _ => none) (fun _ r => Lshuntref13_Choose_0s k r) n
def bshuntref13_Choose (k : Nat) (m : List (List Bool)) : Option (Int × Int × Bool) :=
 Option.bind (Lshuntref13_Choose_0 k k m (0 : Int) (0 : Int) false (0 : Int)) fun r8 =>
 (some (r8.1, r8.2.1, r8.2.2))
def Fshuntref13_Choose : Nat → List (List Bool) → Option (Int × Int × Bool)
 | 0, _ => none
 | k + 1, m => bshuntref13_Choose k m
def Ishuntref13_Choose : Nat → Inst := mkI 36 ⟨[.a (.lf (.sl (.sl .bool)))], []⟩ [⟨[vI, vI, vB], []⟩] fun k x => Fshuntref13_Choose k x
theorem alshuntref13_Choose (k : Nat) : AllI (call cf k) [Ishuntref13_Price k] :=
 ac (okshuntref13_Price k) a0
def LIshuntref13_Choose_2 (k : Nat) : LInst := mkL 2 [⟨[(0, .a (.lf (.sl (.sl .bool)))), (5, vI), (6, vI), (7, vB), (8, vI), (9, vI)], [], 0⟩] [⟨some 2, ⟨[(0, .a (.lf (.sl (.sl .bool)))), (5, vI), (6, vI), (7, vB), (8, vI)], [], 0⟩⟩] (fun n x => Lshuntref13_Choose_2 k n x.1 x.2.1 x.2.2.1 x.2.2.2.1 x.2.2.2.2.1 x.2.2.2.2.2) k
theorem loshuntref13_Choose_2 (k : Nat) : LIo 36 Try.f36 0 k (LIshuntref13_Choose_2 k) :=
 lpk [] (alshuntref13_Choose k) l0 (fun _ => rfl) (by kernel_rfl) fun n x => by kernel_rfl
def LIshuntref13_Choose_0 (k : Nat) : LInst := mkL 0 [⟨[(0, .a (.lf (.sl (.sl .bool)))), (5, vI), (6, vI), (7, vB), (8, vI)], [], 0⟩] [⟨some 0, ⟨[(5, vI), (6, vI), (7, vB)], [], 0⟩⟩] (fun n x => Lshuntref13_Choose_0 k n x.1 x.2.1 x.2.2.1 x.2.2.2.1 x.2.2.2.2) k
theorem loshuntref13_Choose_0 (k : Nat) : LIo 36 Try.f36 0 k (LIshuntref13_Choose_0 k) :=
 lpk [2] (alshuntref13_Choose k) (lc (loshuntref13_Choose_2 k) l0) (fun _ => rfl) (by kernel_rfl) fun n x => by kernel_rfl
theorem okshuntref13_Choose : ∀ k, InstOk (call cf k) (Ishuntref13_Choose k) :=
 fnk 0 [0] Try.func36 (fun k => (alshuntref13_Choose k)) (fun k => (lc (loshuntref13_Choose_2 k) (lc (loshuntref13_Choose_0 k) l0))) ⟨rfl, rfl, ⟨rfl, Nat.le_of_ble_eq_true rfl⟩, rfl⟩ (fun _ => rfl) (by kernel_rfl) fun k x => by kernel_rfl

/-! shunt/shuntref13.Best -/
def bshuntref13_Best (k : Nat) (p : List (List Int)) : Option (Int × Int × Bool × Int) :=
 Option.bind (Fshuntref13_Check k p) fun r6 =>
 if ((r6 != (0 : Int)) = true) then
  (some ((0 : Int), (0 : Int), false, (130 : Int)))
 else
 Option.bind (Fshuntref13_Full k p) fun r7 =>
 Option.bind (Fshuntref13_Choose k r7) fun r8 =>
 (some (r8.1, r8.2.1, r8.2.2, (0 : Int)))
def Fshuntref13_Best : Nat → List (List Int) → Option (Int × Int × Bool × Int)
 | 0, _ => none
 | k + 1, p => bshuntref13_Best k p
def Ishuntref13_Best : Nat → Inst := mkI 16 ⟨[.a (.lf (.sl (.sl (.int .i64))))], []⟩ [⟨[vI, vI, vB, vI], []⟩] fun k x => Fshuntref13_Best k x
theorem okshuntref13_Best : ∀ k, InstOk (call cf k) (Ishuntref13_Best k) :=
 fnk 0 [] Try.func16 (fun k => (ac (okshuntref13_Check k) (ac (okshuntref13_Full k) (ac (okshuntref13_Choose k) a0)))) (fun k => l0) ⟨rfl, rfl, ⟨rfl, Nat.le_of_ble_eq_true rfl⟩, rfl⟩ (fun _ => rfl) (by kernel_rfl) fun k x => by kernel_rfl

/-! shunt/shuntref13.Rest -/
def Lshuntref13_Rest_2s (k : Nat) (rec : List (List Bool) → Int → Int → Nat → Int → Int → Nat → Int → List (List Bool) → List Bool → Option (List (List Bool) × Int × Int × Nat × Int × Int × Nat × List (List Bool) × List Bool)) (m : List (List Bool)) (row : Int) (col : Int) (out1 : Nat) (fill : Int) (i : Int) (r : Nat) (k1 : Int) (outs : List (List Bool)) (rs : List Bool) : Option (List (List Bool) × Int × Int × Nat × Int × Int × Nat × List (List Bool) × List Bool) :=
 if ((decide (k1 < (((List.length m) : Nat) : Int))) = true) then
  if ((i != row) = true) then
   if ((0 : Int) ≤ i) then
    Option.bind (m)[(Int.toNat i)]? fun x =>
    if ((0 : Int) ≤ k1) then
     Option.bind (x)[(Int.toNat k1)]? fun x1 =>
     if (x1 = false) then
      if ((0 : Int) ≤ i) then
       Option.bind (m)[(Int.toNat i)]? fun x2 =>
       if ((0 : Int) ≤ col) then
        Option.bind (x2)[(Int.toNat col)]? fun x3 =>
        if (x3 = true) then
         if ((0 : Int) ≤ row) then
          Option.bind (m)[(Int.toNat row)]? fun x4 =>
          if ((0 : Int) ≤ k1) then
           Option.bind (x4)[(Int.toNat k1)]? fun x5 =>
           if (((0 : Int) ≤ k1) ∧ (k1 < ((r : Nat) : Int))) then
            Option.bind (rs)[(0 + (Int.toNat k1))]? fun x6 =>
            if (((0 : Int) ≤ k1) ∧ (k1 < ((r : Nat) : Int))) then
             Option.bind ((List.set rs (0 + (Int.toNat k1)) x5))[(0 + (Int.toNat k1))]? fun x7 =>
             if (x7 = true) then
              if ((0 : Int) ≤ i) then
               Option.bind (m)[(Int.toNat i)]? fun x8 =>
               if ((0 : Int) ≤ k1) then
                Option.bind (x8)[(Int.toNat k1)]? fun x9 =>
                if ((!x9) = true) then
                 rec m row col out1 (IntKind.wrap .i64 (fill + (1 : Int))) i r (IntKind.wrap .i64 (k1 + (1 : Int))) outs (List.set rs (0 + (Int.toNat k1)) x5)
                else
                rec m row col out1 fill i r (IntKind.wrap .i64 (k1 + (1 : Int))) outs (List.set rs (0 + (Int.toNat k1)) x5)
               else
               none
              else
              none
             else
             rec m row col out1 fill i r (IntKind.wrap .i64 (k1 + (1 : Int))) outs (List.set rs (0 + (Int.toNat k1)) x5)
            else
            none
           else
           none
          else
          none
         else
         none
        else
        if (((0 : Int) ≤ k1) ∧ (k1 < ((r : Nat) : Int))) then
         Option.bind (rs)[(0 + (Int.toNat k1))]? fun x4 =>
         if (((0 : Int) ≤ k1) ∧ (k1 < ((r : Nat) : Int))) then
          Option.bind ((List.set rs (0 + (Int.toNat k1)) false))[(0 + (Int.toNat k1))]? fun x5 =>
          if (x5 = true) then
           if ((0 : Int) ≤ i) then
            Option.bind (m)[(Int.toNat i)]? fun x6 =>
            if ((0 : Int) ≤ k1) then
             Option.bind (x6)[(Int.toNat k1)]? fun x7 =>
             if ((!x7) = true) then
              rec m row col out1 (IntKind.wrap .i64 (fill + (1 : Int))) i r (IntKind.wrap .i64 (k1 + (1 : Int))) outs (List.set rs (0 + (Int.toNat k1)) false)
             else
             rec m row col out1 fill i r (IntKind.wrap .i64 (k1 + (1 : Int))) outs (List.set rs (0 + (Int.toNat k1)) false)
            else
            none
           else
           none
          else
          rec m row col out1 fill i r (IntKind.wrap .i64 (k1 + (1 : Int))) outs (List.set rs (0 + (Int.toNat k1)) false)
         else
         none
        else
        none
       else
       none
      else
      none
     else
     if (((0 : Int) ≤ k1) ∧ (k1 < ((r : Nat) : Int))) then
      Option.bind (rs)[(0 + (Int.toNat k1))]? fun x2 =>
      if (((0 : Int) ≤ k1) ∧ (k1 < ((r : Nat) : Int))) then
       Option.bind ((List.set rs (0 + (Int.toNat k1)) true))[(0 + (Int.toNat k1))]? fun x3 =>
       if (x3 = true) then
        if ((0 : Int) ≤ i) then
         Option.bind (m)[(Int.toNat i)]? fun x4 =>
         if ((0 : Int) ≤ k1) then
          Option.bind (x4)[(Int.toNat k1)]? fun x5 =>
          if ((!x5) = true) then
           rec m row col out1 (IntKind.wrap .i64 (fill + (1 : Int))) i r (IntKind.wrap .i64 (k1 + (1 : Int))) outs (List.set rs (0 + (Int.toNat k1)) true)
          else
          rec m row col out1 fill i r (IntKind.wrap .i64 (k1 + (1 : Int))) outs (List.set rs (0 + (Int.toNat k1)) true)
         else
         none
        else
        none
       else
       rec m row col out1 fill i r (IntKind.wrap .i64 (k1 + (1 : Int))) outs (List.set rs (0 + (Int.toNat k1)) true)
      else
      none
     else
     none
    else
    none
   else
   none
  else
  (some (m, row, col, out1, fill, i, r, outs, rs))
 else
 (some (m, row, col, out1, fill, i, r, outs, rs))
def Lshuntref13_Rest_2 (k n : Nat) : List (List Bool) → Int → Int → Nat → Int → Int → Nat → Int → List (List Bool) → List Bool → Option (List (List Bool) × Int × Int × Nat × Int × Int × Nat × List (List Bool) × List Bool) := Nat.rec (fun _ _ _ _ _ _ _ _ _ _ => none) (fun _ r => Lshuntref13_Rest_2s k r) n
def Lshuntref13_Rest_0s (k : Nat) (rec : List (List Bool) → Int → Int → Nat → Int → Int → List (List Bool) → Option (Nat × Int × List (List Bool))) (m : List (List Bool)) (row : Int) (col : Int) (out1 : Nat) (fill : Int) (i : Int) (outs : List (List Bool)) : Option (Nat × Int × List (List Bool)) :=
 if ((decide (i < (((List.length m) : Nat) : Int))) = true) then
  if (((0 : Int) ≤ (((List.length m) : Nat) : Int)) ∧ (((((List.length m) : Nat) : Int) ≤ (((List.length m) : Nat) : Int)) ∧ (((((List.length m) : Nat) : Int) * (1 : Int)) ≤ (140737488355328 : Int)))) then
   Option.bind (Lshuntref13_Rest_2 k k m row col out1 fill i (Int.toNat (((List.length m) : Nat) : Int)) (0 : Int) outs (List.replicate (Int.toNat (((List.length m) : Nat) : Int)) false)) fun r11 =>
   if (((0 : Int) ≤ r11.2.2.1) ∧ (r11.2.2.1 < ((r11.2.2.2.2.2.2.1 : Nat) : Int))) then
    Option.bind (r11.2.2.2.2.2.2.2.2)[(0 + (Int.toNat r11.2.2.1))]? fun x =>
    if ((0 + r11.2.2.2.2.2.2.1) ≤ (List.length (List.set r11.2.2.2.2.2.2.2.2 (0 + (Int.toNat r11.2.2.1)) false))) then
     if (r11.2.2.2.1 ≤ (List.length r11.2.2.2.2.2.2.2.1)) then
      if (((r11.2.2.2.1 + (List.length (List.take 1 ((List.take r11.2.2.2.2.2.2.1 (List.set r11.2.2.2.2.2.2.2.2 (0 + (Int.toNat r11.2.2.1)) false)) :: [])))) * 24) ≤ 140737488355328) then
       rec r11.1 r11.2.1 r11.2.2.1 (r11.2.2.2.1 + (List.length (List.take 1 ((List.take r11.2.2.2.2.2.2.1 (List.set r11.2.2.2.2.2.2.2.2 (0 + (Int.toNat r11.2.2.1)) false)) :: [])))) r11.2.2.2.2.1 (IntKind.wrap .i64 (r11.2.2.2.2.2.1 + (1 : Int))) ((List.take r11.2.2.2.1 r11.2.2.2.2.2.2.2.1) ++ (List.take 1 ((List.take r11.2.2.2.2.2.2.1 (List.set r11.2.2.2.2.2.2.2.2 (0 + (Int.toNat r11.2.2.1)) false)) :: [])))
      else
      none
     else
     none
    else
    none
   else
   none
  else
  none
 else
 (some (out1, fill, outs))
def Lshuntref13_Rest_0 (k n : Nat) : List (List Bool) → Int → Int → Nat → Int → Int → List (List Bool) → Option (Nat × Int × List (List Bool)) := Nat.rec (fun _ _ _ _ _ _ _ => none) (fun _ r => Lshuntref13_Rest_0s k r) n
def bshuntref13_Rest (k : Nat) (m : List (List Bool)) (row : Int) (col : Int) : Option (List (List Bool) × Int) :=
 Option.bind (Lshuntref13_Rest_0 k k m row col 0 (0 : Int) (0 : Int) []) fun r11 =>
 if ((0 + r11.1) ≤ (List.length r11.2.2)) then
  (some ((List.take r11.1 r11.2.2), r11.2.1))
 else
 none
def Fshuntref13_Rest : Nat → List (List Bool) → Int → Int → Option (List (List Bool) × Int)
 | 0, _, _, _ => none
 | k + 1, m, row, col => bshuntref13_Rest k m row col
def Ishuntref13_Rest : Nat → Inst := mkI 38 ⟨[.a (.lf (.sl (.sl .bool))), vI, vI], []⟩ [⟨[.a (.lf (.sl (.sl .bool))), vI], []⟩] fun k x => Fshuntref13_Rest k x.1 x.2.1 x.2.2
def LIshuntref13_Rest_2 (k : Nat) : LInst := mkL 2 [⟨[(0, .a (.lf (.sl (.sl .bool)))), (1, vI), (2, vI), (8, .a (.smz 0)), (9, vI), (10, vI), (11, .a (.smz 1)), (12, vI)], [(0, some (.arr (.sl .bool) 1 55 false)), (1, some (.arr .bool 1 4 false))], 2⟩] [⟨some 2, ⟨[(0, .a (.lf (.sl (.sl .bool)))), (1, vI), (2, vI), (8, .a (.smz 0)), (9, vI), (10, vI), (11, .a (.smz 1))], [(0, some (.arr (.sl .bool) 1 55 false)), (1, some (.arr .bool 1 4 false))], 2⟩⟩] (fun n x => Lshuntref13_Rest_2 k n x.1 x.2.1 x.2.2.1 x.2.2.2.1 x.2.2.2.2.1 x.2.2.2.2.2.1 x.2.2.2.2.2.2.1 x.2.2.2.2.2.2.2.1 x.2.2.2.2.2.2.2.2.1 x.2.2.2.2.2.2.2.2.2) k
theorem loshuntref13_Rest_2 (k : Nat) : LIo 38 Try.f38 0 k (LIshuntref13_Rest_2 k) :=
 lpk [] a0 l0 (fun _ => rfl) (by kernel_rfl) fun n x => by kernel_rfl
def LIshuntref13_Rest_0 (k : Nat) : LInst := mkL 0 [⟨[(0, .a (.lf (.sl (.sl .bool)))), (1, vI), (2, vI), (8, .a (.smz 0)), (9, vI), (10, vI)], [(0, some (.arr (.sl .bool) 1 55 false))], 1⟩] [⟨some 0, ⟨[(8, .a (.smz 0)), (9, vI)], [(0, some (.arr (.sl .bool) 1 55 false))], 1⟩⟩] (fun n x => Lshuntref13_Rest_0 k n x.1 x.2.1 x.2.2.1 x.2.2.2.1 x.2.2.2.2.1 x.2.2.2.2.2.1 x.2.2.2.2.2.2) k
theorem loshuntref13_Rest_0 (k : Nat) : LIo 38 Try.f38 0 k (LIshuntref13_Rest_0 k) :=
 lpk [2] a0 (lc (loshuntref13_Rest_2 k) l0) (fun _ => rfl) (by kernel_rfl) fun n x => by kernel_rfl
theorem okshuntref13_Rest : ∀ k, InstOk (call cf k) (Ishuntref13_Rest k) :=
 fnk 0 [0] Try.func38 (fun k => a0) (fun k => (lc (loshuntref13_Rest_2 k) (lc (loshuntref13_Rest_0 k) l0))) ⟨rfl, rfl, ⟨rfl, Nat.le_of_ble_eq_true rfl⟩, rfl⟩ (fun _ => rfl) (by kernel_rfl) fun k x => by kernel_rfl

/-! shunt/shuntref13.Thin -/
def Lshuntref13_Thin_2s (k : Nat) (rec : List (List Bool) → Nat → Int → Nat → Int → List (List Int) → List Int → Option (List (List Bool) × Nat × Int × Nat × List (List Int) × List Int)) (m : List (List Bool)) (p : Nat) (i : Int) (r : Nat) (k1 : Int) (ps : List (List Int)) (rs : List Int) : Option (List (List Bool) × Nat × Int × Nat × List (List Int) × List Int) :=
 if ((0 : Int) ≤ i) then
  Option.bind (m)[(Int.toNat i)]? fun x =>
  if ((decide (k1 < (((List.length x) : Nat) : Int))) = true) then
   if ((0 : Int) ≤ i) then
    Option.bind (m)[(Int.toNat i)]? fun x1 =>
    if ((0 : Int) ≤ k1) then
     Option.bind (x1)[(Int.toNat k1)]? fun x2 =>
     if (x2 = true) then
      if (r ≤ (List.length rs)) then
       if (((r + (List.length (List.take 1 (k1 :: [])))) * 8) ≤ 140737488355328) then
        rec m p i (r + (List.length (List.take 1 (k1 :: [])))) (IntKind.wrap .i64 (k1 + (1 : Int))) ps ((List.take r rs) ++ (List.take 1 (k1 :: [])))
       else
       none
      else
      none
     else
     rec m p i r (IntKind.wrap .i64 (k1 + (1 : Int))) ps rs
    else
    none
   else
   none
  else
  (some (m, p, i, r, ps, rs))
 else
 none
def Lshuntref13_Thin_2 (k n : Nat) : List (List Bool) → Nat → Int → Nat → Int → List (List Int) → List Int → Option (List (List Bool) × Nat × Int × Nat × List (List Int) × List Int) := Nat.rec (fun _ _ _ _ _ _ _ => none) (fun _ r => Lshuntref13_Thin_2s k r) n
def Lshuntref13_Thin_0s (k : Nat) (rec : List (List Bool) → Nat → Int → List (List Int) → Option (Nat × List (List Int))) (m : List (List Bool)) (p : Nat) (i : Int) (ps : List (List Int)) : Option (Nat × List (List Int)) :=
 if ((decide (i < (((List.length m) : Nat) : Int))) = true) then
  Option.bind (Lshuntref13_Thin_2 k k m p i 0 (0 : Int) ps []) fun r12 =>
  if ((0 + r12.2.2.2.1) ≤ (List.length r12.2.2.2.2.2)) then
   if (r12.2.1 ≤ (List.length r12.2.2.2.2.1)) then
    if (((r12.2.1 + (List.length (List.take 1 ((List.take r12.2.2.2.1 r12.2.2.2.2.2) :: [])))) * 24) ≤ 140737488355328) then
     rec r12.1 (r12.2.1 + (List.length (List.take 1 ((List.take r12.2.2.2.1 r12.2.2.2.2.2) :: [])))) (IntKind.wrap .i64 (r12.2.2.1 + (1 : Int))) ((List.take r12.2.1 r12.2.2.2.2.1) ++ (List.take 1 ((List.take r12.2.2.2.1 r12.2.2.2.2.2) :: [])))
    else
    none
   else
   none
  else
  none
 else
 (some (p, ps))
def Lshuntref13_Thin_0 (k n : Nat) : List (List Bool) → Nat → Int → List (List Int) → Option (Nat × List (List Int)) := Nat.rec (fun _ _ _ _ => none) (fun _ r => Lshuntref13_Thin_0s k r) n
def bshuntref13_Thin (k : Nat) (m : List (List Bool)) : Option (List (List Int)) :=
 Option.bind (Lshuntref13_Thin_0 k k m 0 (0 : Int) []) fun r12 =>
 if ((0 + r12.1) ≤ (List.length r12.2)) then
  (some (List.take r12.1 r12.2))
 else
 none
def Fshuntref13_Thin : Nat → List (List Bool) → Option (List (List Int))
 | 0, _ => none
 | k + 1, m => bshuntref13_Thin k m
def Ishuntref13_Thin : Nat → Inst := mkI 39 ⟨[.a (.lf (.sl (.sl .bool)))], []⟩ [⟨[.a (.lf (.sl (.sl (.int .i64))))], []⟩] fun k x => Fshuntref13_Thin k x
def LIshuntref13_Thin_2 (k : Nat) : LInst := mkL 2 [⟨[(0, .a (.lf (.sl (.sl .bool)))), (3, .a (.smz 0)), (4, vI), (5, .a (.smz 1)), (6, vI)], [(0, some (.arr (.sl (.int .i64)) 1 41 false)), (1, some (.arr (.int .i64) 1 3 false))], 2⟩] [⟨some 2, ⟨[(0, .a (.lf (.sl (.sl .bool)))), (3, .a (.smz 0)), (4, vI), (5, .a (.smz 1))], [(0, some (.arr (.sl (.int .i64)) 1 41 false)), (1, some (.arr (.int .i64) 1 3 false))], 2⟩⟩] (fun n x => Lshuntref13_Thin_2 k n x.1 x.2.1 x.2.2.1 x.2.2.2.1 x.2.2.2.2.1 x.2.2.2.2.2.1 x.2.2.2.2.2.2) k
theorem loshuntref13_Thin_2 (k : Nat) : LIo 39 Try.f39 0 k (LIshuntref13_Thin_2 k) :=
 lpk [] a0 l0 (fun _ => rfl) (by kernel_rfl) fun n x => by kernel_rfl
def LIshuntref13_Thin_0 (k : Nat) : LInst := mkL 0 [⟨[(0, .a (.lf (.sl (.sl .bool)))), (3, .a (.smz 0)), (4, vI)], [(0, some (.arr (.sl (.int .i64)) 1 41 false))], 1⟩] [⟨some 0, ⟨[(3, .a (.smz 0))], [(0, some (.arr (.sl (.int .i64)) 1 41 false))], 1⟩⟩] (fun n x => Lshuntref13_Thin_0 k n x.1 x.2.1 x.2.2.1 x.2.2.2) k
theorem loshuntref13_Thin_0 (k : Nat) : LIo 39 Try.f39 0 k (LIshuntref13_Thin_0 k) :=
 lpk [2] a0 (lc (loshuntref13_Thin_2 k) l0) (fun _ => rfl) (by kernel_rfl) fun n x => by kernel_rfl
theorem okshuntref13_Thin : ∀ k, InstOk (call cf k) (Ishuntref13_Thin k) :=
 fnk 0 [0] Try.func39 (fun k => a0) (fun k => (lc (loshuntref13_Thin_2 k) (lc (loshuntref13_Thin_0 k) l0))) ⟨rfl, rfl, ⟨rfl, Nat.le_of_ble_eq_true rfl⟩, rfl⟩ (fun _ => rfl) (by kernel_rfl) fun k x => by kernel_rfl

/-! shunt/shuntref13.Eliminate -/
def bshuntref13_Eliminate (k : Nat) (p : List (List Int)) (row : Int) (col : Int) : Option (List (List Int) × Int) :=
 Option.bind (Fshuntref13_Check k p) fun r8 =>
 if ((r8 != (0 : Int)) = true) then
  (some ([], (130 : Int)))
 else
 Option.bind (Fshuntref13_Full k p) fun r9 =>
 Option.bind (Fshuntref13_has k r9 row col) fun r10 =>
 if ((!r10) = true) then
  (some ([], (1 : Int)))
 else
 Option.bind (Fshuntref13_Rest k r9 row col) fun r11 =>
 Option.bind (Fshuntref13_Thin k r11.1) fun r12 =>
 (some (r12, (0 : Int)))
def Fshuntref13_Eliminate : Nat → List (List Int) → Int → Int → Option (List (List Int) × Int)
 | 0, _, _, _ => none
 | k + 1, p, row, col => bshuntref13_Eliminate k p row col
def Ishuntref13_Eliminate : Nat → Inst := mkI 18 ⟨[.a (.lf (.sl (.sl (.int .i64)))), vI, vI], []⟩ [⟨[.a (.lf (.sl (.sl (.int .i64)))), vI], []⟩] fun k x => Fshuntref13_Eliminate k x.1 x.2.1 x.2.2
theorem okshuntref13_Eliminate : ∀ k, InstOk (call cf k) (Ishuntref13_Eliminate k) :=
 fnk 0 [] Try.func18 (fun k => (ac (okshuntref13_Check k) (ac (okshuntref13_Full k) (ac (okshuntref13_has k) (ac (okshuntref13_Rest k) (ac (okshuntref13_Thin k) a0)))))) (fun k => l0) ⟨rfl, rfl, ⟨rfl, Nat.le_of_ble_eq_true rfl⟩, rfl⟩ (fun _ => rfl) (by kernel_rfl) fun k x => by kernel_rfl

/-! shunt/shuntref13.Order -/
def Lshuntref13_Order_0s (k : Nat) (rec : Nat → Nat → List (List Bool) → Int → Int → Bool → List Int → List Int → Option (Nat × Nat × List Int × List Int)) (rows : Nat) (cols : Nat) (m : List (List Bool)) (r : Int) (c : Int) (ok : Bool) (rowss : List Int) (colss : List Int) : Option (Nat × Nat × List Int × List Int) :=
 if (ok = true) then
  if (rows ≤ (List.length rowss)) then
   if (((rows + (List.length (List.take 1 (r :: [])))) * 8) ≤ 140737488355328) then
    if (cols ≤ (List.length colss)) then
     if (((cols + (List.length (List.take 1 (c :: [])))) * 8) ≤ 140737488355328) then
      Option.bind (Fshuntref13_Rest k m r c) fun r13 =>
      Option.bind (Fshuntref13_Choose k r13.1) fun r14 =>
      rec (rows + (List.length (List.take 1 (r :: [])))) (cols + (List.length (List.take 1 (c :: [])))) r13.1 r14.1 r14.2.1 r14.2.2 ((List.take rows rowss) ++ (List.take 1 (r :: []))) ((List.take cols colss) ++ (List.take 1 (c :: [])))
     else
     none
    else
    none
   else
   none
  else
  none
 else
 (some (rows, cols, rowss, colss))
def Lshuntref13_Order_0 (k n : Nat) : Nat → Nat → List (List Bool) → Int → Int → Bool → List Int → List Int → Option (Nat × Nat × List Int × List Int) := Nat.rec (fun _ _ _ _ _ _ _ _ => none) (fun _ r => Lshuntref13_Order_0s k r) n
def bshuntref13_Order (k : Nat) (p : List (List Int)) : Option (List Int × List Int × Int) :=
 Option.bind (Fshuntref13_Check k p) fun r10 =>
 if ((r10 != (0 : Int)) = true) then
  (some ([], [], (130 : Int)))
 else
 Option.bind (Fshuntref13_Full k p) fun r11 =>
 Option.bind (Fshuntref13_Choose k r11) fun r12 =>
 Option.bind (Lshuntref13_Order_0 k k 0 0 r11 r12.1 r12.2.1 r12.2.2 [] []) fun r13 =>
 if ((0 + r13.1) ≤ (List.length r13.2.2.1)) then
  if ((0 + r13.2.1) ≤ (List.length r13.2.2.2)) then
   (some ((List.take r13.1 r13.2.2.1), (List.take r13.2.1 r13.2.2.2), (0 : Int)))
  else
  none
 else
 none
def Fshuntref13_Order : Nat → List (List Int) → Option (List Int × List Int × Int)
 | 0, _ => none
 | k + 1, p => bshuntref13_Order k p
def Ishuntref13_Order : Nat → Inst := mkI 20 ⟨[.a (.lf (.sl (.sl (.int .i64))))], []⟩ [⟨[vJ, vJ, vI], []⟩] fun k x => Fshuntref13_Order k x
theorem alshuntref13_Order (k : Nat) : AllI (call cf k) [Ishuntref13_Check k, Ishuntref13_Full k, Ishuntref13_Choose k, Ishuntref13_Rest k] :=
 ac (okshuntref13_Check k) (ac (okshuntref13_Full k) (ac (okshuntref13_Choose k) (ac (okshuntref13_Rest k) a0)))
def LIshuntref13_Order_0 (k : Nat) : LInst := mkL 0 [⟨[(5, .a (.smz 0)), (6, .a (.smz 1)), (7, .a (.lf (.sl (.sl .bool)))), (8, vI), (9, vI), (10, vB)], [(0, some (.arr (.int .i64) 1 3 false)), (1, some (.arr (.int .i64) 1 3 false))], 2⟩] [⟨some 0, ⟨[(5, .a (.smz 0)), (6, .a (.smz 1))], [(0, some (.arr (.int .i64) 1 3 false)), (1, some (.arr (.int .i64) 1 3 false))], 2⟩⟩] (fun n x => Lshuntref13_Order_0 k n x.1 x.2.1 x.2.2.1 x.2.2.2.1 x.2.2.2.2.1 x.2.2.2.2.2.1 x.2.2.2.2.2.2.1 x.2.2.2.2.2.2.2) k
theorem loshuntref13_Order_0 (k : Nat) : LIo 20 Try.f20 0 k (LIshuntref13_Order_0 k) :=
 lpk [] (alshuntref13_Order k) l0 (fun _ => rfl) (by kernel_rfl) fun n x => by kernel_rfl
theorem okshuntref13_Order : ∀ k, InstOk (call cf k) (Ishuntref13_Order k) :=
 fnk 0 [0] Try.func20 (fun k => (alshuntref13_Order k)) (fun k => (lc (loshuntref13_Order_0 k) l0)) ⟨rfl, rfl, ⟨rfl, Nat.le_of_ble_eq_true rfl⟩, rfl⟩ (fun _ => rfl) (by kernel_rfl) fun k x => by kernel_rfl

/-! shunt/shuntlaw13.SparseTells -/
def Lshuntlaw13_SparseTells_0s (k : Nat) (rec : List (List Int) → List (List Int) → Nat → List (List Int) → Int → Int → Int → Int → List (List Int) → Option (List (List Int) × List (List Int) × List (List Int) × Int × Int × List (List Int))) (p : List (List Int)) (in1 : List (List Int)) (q : Nat) (q2 : List (List Int)) (x : Int) (x1 : Int) (at0 : Int) (at1 : Int) (qs : List (List Int)) : Option (List (List Int) × List (List Int) × List (List Int) × Int × Int × List (List Int)) :=
 if ((decide (x1 < x)) = true) then
  if (((0 : Int) ≤ x1) ∧ (x1 < ((q : Nat) : Int))) then
   none
  else
  none
 else
 (some (p, in1, q2, at0, at1, qs))
def Lshuntlaw13_SparseTells_0 (k n : Nat) : List (List Int) → List (List Int) → Nat → List (List Int) → Int → Int → Int → Int → List (List Int) → Option (List (List Int) × List (List Int) × List (List Int) × Int × Int × List (List Int)) := Nat.rec (fun _ _ _ _ _ _ _ _ _ => none) (fun _ r => Lshuntlaw13_SparseTells_0s k r) n
def Lshuntlaw13_SparseTells_2s (k : Nat) (rec : List (List Int) → List (List Int) → Nat → List (List Int) → Int → Int → Int → Int → Int → Int → Int → List (List Int) → Option (List (List Int) × List (List Int) × Nat × List (List Int) × Int × Int × Int × Int × List (List Int))) (p : List (List Int)) (in1 : List (List Int)) (q : Nat) (q2 : List (List Int)) (i : Int) (x : Int) (x1 : Int) (x2 : Int) (x3 : Int) (at0 : Int) (at1 : Int) (qs : List (List Int)) : Option (List (List Int) × List (List Int) × Nat × List (List Int) × Int × Int × Int × Int × List (List Int)) :=
 if ((decide (x3 < x2)) = true) then
  if (((0 : Int) ≤ i) ∧ (i < ((q : Nat) : Int))) then
   Option.bind (qs)[(Int.toNat i)]? fun x4 =>
   if (((0 : Int) ≤ x3) ∧ (x3 < (((List.length x4) : Nat) : Int))) then
    Option.bind (x4)[(0 + (Int.toNat x3))]? fun x5 =>
    if ((List.length x4) ≤ (List.length (List.set x4 (0 + (Int.toNat x3)) (-(1 : Int))))) then
     rec p in1 q q2 i x x1 x2 (IntKind.wrap .i64 (x3 + (1 : Int))) at0 at1 (tset qs (Int.toNat i) (List.take (List.length x4) (List.set x4 (0 + (Int.toNat x3)) (-(1 : Int)))))
    else
    none
   else
   none
  else
  none
 else
 (some (p, in1, q, q2, x, x1, at0, at1, qs))
def Lshuntlaw13_SparseTells_2 (k n : Nat) : List (List Int) → List (List Int) → Nat → List (List Int) → Int → Int → Int → Int → Int → Int → Int → List (List Int) → Option (List (List Int) × List (List Int) × Nat × List (List Int) × Int × Int × Int × Int × List (List Int)) := Nat.rec (fun _ _ _ _ _ _ _ _ _ _ _ _ => none) (fun _ r => Lshuntlaw13_SparseTells_2s k r) n
def Lshuntlaw13_SparseTells_0as (k : Nat) (rec : List (List Int) → List (List Int) → Nat → List (List Int) → Int → Int → Int → Int → List (List Int) → Option (List (List Int) × List (List Int) × List (List Int) × Int × Int × List (List Int))) (p : List (List Int)) (in1 : List (List Int)) (q : Nat) (q2 : List (List Int)) (x : Int) (x1 : Int) (at0 : Int) (at1 : Int) (qs : List (List Int)) : Option (List (List Int) × List (List Int) × List (List Int) × Int × Int × List (List Int)) :=
 if ((decide (x1 < x)) = true) then
  if (((0 : Int) ≤ x1) ∧ (x1 < ((q : Nat) : Int))) then
   Option.bind (qs)[(Int.toNat x1)]? fun x2 =>
   if ((List.length x2) ≤ (List.length x2)) then
    Option.bind (Lshuntlaw13_SparseTells_2 k k p in1 q q2 x1 x x1 (((List.length x2) : Nat) : Int) (0 : Int) at0 at1 (tset qs (Int.toNat x1) (List.take (List.length x2) x2))) fun r16 =>
    rec r16.1 r16.2.1 r16.2.2.1 r16.2.2.2.1 r16.2.2.2.2.1 (IntKind.wrap .i64 (r16.2.2.2.2.2.1 + (1 : Int))) r16.2.2.2.2.2.2.1 r16.2.2.2.2.2.2.2.1 r16.2.2.2.2.2.2.2.2
   else
   none
  else
  none
 else
 (some (p, in1, q2, at0, at1, qs))
def Lshuntlaw13_SparseTells_0a (k n : Nat) : List (List Int) → List (List Int) → Nat → List (List Int) → Int → Int → Int → Int → List (List Int) → Option (List (List Int) × List (List Int) × List (List Int) × Int × Int × List (List Int)) := Nat.rec (fun _ _ _ _ _ _ _ _ _ => none) (fun _ r => Lshuntlaw13_SparseTells_0as k r) n
def bshuntlaw13_SparseTells (k : Nat) (p : List (List Int)) (at0 : Int) (at1 : Int) : Option (Bool) :=
 Option.bind (Fshuntlaw13_awake k) fun r =>
 if ((!r) = true) then
  (some false)
 else
 Option.bind (Fshuntlaw13_wide k p) fun r1 =>
 if (r1 = true) then
  (some true)
 else
 Option.bind (Fshuntref13_Copy k p) fun r2 =>
 Option.bind (Fsparse_Cost k r2 at0 at1) fun r3 =>
 Option.bind (Fshuntref13_Cost k p at0 at1) fun r4 =>
 Option.bind (Fsparse_Best k r2) fun r5 =>
 Option.bind (Fshuntref13_Best k p) fun r6 =>
 Option.bind (Fsparse_Eliminate k r2 at0 at1) fun r7 =>
 eitherK r7
  (fun r7 =>
  Option.bind (Fshuntref13_Eliminate k p at0 at1) fun r8 =>
  Option.bind (Fsparse_Order k r2) fun r9 =>
  Option.bind (Fshuntref13_Order k p) fun r10 =>
  if ((r3.1 != r4.1) = false) then
   if ((r3.2 != r4.2) = false) then
    if ((r5.1 != r6.1) = false) then
     if ((r5.2.1 != r6.2.1) = false) then
      if ((!(r5.2.2.1 == r6.2.2.1)) = false) then
       if ((r5.2.2.2 != r6.2.2.2) = false) then
        if ((0 + r7.1) ≤ (List.length r7.2.2)) then
         Option.bind (Fshuntref13_Same k (List.take r7.1 r7.2.2) r8.1) fun r11 =>
         if ((!r11) = false) then
          if ((r7.2.1 != r8.2) = false) then
           Option.bind (Fshuntref09_Ints k r9.1 r10.1) fun r12 =>
           if ((!r12) = false) then
            Option.bind (Fshuntref09_Ints k r9.2.1 r10.2.1) fun r13 =>
            if ((!r13) = false) then
             if ((r9.2.2 != r10.2.2) = false) then
              Option.bind (Fsparse_Check k r2) fun r14 =>
              Option.bind (Fshuntref13_Check k p) fun r15 =>
              if ((r14 != r15) = true) then
               (some false)
              else
              Option.bind (Lshuntlaw13_SparseTells_0 k k p r2 r7.1 r8.1 ((r7.1 : Nat) : Int) (0 : Int) at0 at1 r7.2.2) fun r16 =>
              Option.bind (Fsparse_Eliminate k r16.2.1 r16.2.2.2.1 r16.2.2.2.2.1) fun r17 =>
              eitherK r17
               (fun r17 =>
               if ((0 + r17.1) ≤ (List.length r17.2.2)) then
                Option.bind (Fshuntref13_Same k (List.take r17.1 r17.2.2) r16.2.2.1) fun r18 =>
                if (r18 = true) then
                 Option.bind (Fshuntref13_Same k r16.2.1 r16.1) fun r19 =>
                 (some r19)
                else
                (some false)
               else
               none)
               (fun r17 =>
               if ((0 + r17.1) ≤ (List.length r17.2.2)) then
                Option.bind (Fshuntref13_Same k (List.take r17.1 r17.2.2) r16.2.2.1) fun r18 =>
                if (r18 = true) then
                 Option.bind (Fshuntref13_Same k r16.2.1 r16.1) fun r19 =>
                 (some r19)
                else
                (some false)
               else
               none)
             else
             (some false)
            else
            (some false)
           else
           (some false)
          else
          (some false)
         else
         (some false)
        else
        none
       else
       (some false)
      else
      (some false)
     else
     (some false)
    else
    (some false)
   else
   (some false)
  else
  (some false))
  (fun r7 =>
  Option.bind (Fshuntref13_Eliminate k p at0 at1) fun r8 =>
  Option.bind (Fsparse_Order k r2) fun r9 =>
  Option.bind (Fshuntref13_Order k p) fun r10 =>
  if ((r3.1 != r4.1) = false) then
   if ((r3.2 != r4.2) = false) then
    if ((r5.1 != r6.1) = false) then
     if ((r5.2.1 != r6.2.1) = false) then
      if ((!(r5.2.2.1 == r6.2.2.1)) = false) then
       if ((r5.2.2.2 != r6.2.2.2) = false) then
        if ((0 + r7.1) ≤ (List.length r7.2.2)) then
         Option.bind (Fshuntref13_Same k (List.take r7.1 r7.2.2) r8.1) fun r11 =>
         if ((!r11) = false) then
          if ((r7.2.1 != r8.2) = false) then
           Option.bind (Fshuntref09_Ints k r9.1 r10.1) fun r12 =>
           if ((!r12) = false) then
            Option.bind (Fshuntref09_Ints k r9.2.1 r10.2.1) fun r13 =>
            if ((!r13) = false) then
             if ((r9.2.2 != r10.2.2) = false) then
              Option.bind (Fsparse_Check k r2) fun r14 =>
              Option.bind (Fshuntref13_Check k p) fun r15 =>
              if ((r14 != r15) = true) then
               (some false)
              else
              Option.bind (Lshuntlaw13_SparseTells_0a k k p r2 r7.1 r8.1 ((r7.1 : Nat) : Int) (0 : Int) at0 at1 r7.2.2) fun r16 =>
              Option.bind (Fsparse_Eliminate k r16.2.1 r16.2.2.2.1 r16.2.2.2.2.1) fun r17 =>
              eitherK r17
               (fun r17 =>
               if ((0 + r17.1) ≤ (List.length r17.2.2)) then
                Option.bind (Fshuntref13_Same k (List.take r17.1 r17.2.2) r16.2.2.1) fun r18 =>
                if (r18 = true) then
                 Option.bind (Fshuntref13_Same k r16.2.1 r16.1) fun r19 =>
                 (some r19)
                else
                (some false)
               else
               none)
               (fun r17 =>
               if ((0 + r17.1) ≤ (List.length r17.2.2)) then
                Option.bind (Fshuntref13_Same k (List.take r17.1 r17.2.2) r16.2.2.1) fun r18 =>
                if (r18 = true) then
                 Option.bind (Fshuntref13_Same k r16.2.1 r16.1) fun r19 =>
                 (some r19)
                else
                (some false)
               else
               none)
             else
             (some false)
            else
            (some false)
           else
           (some false)
          else
          (some false)
         else
         (some false)
        else
        none
       else
       (some false)
      else
      (some false)
     else
     (some false)
    else
    (some false)
   else
   (some false)
  else
  (some false))
def Fshuntlaw13_SparseTells : Nat → List (List Int) → Int → Int → Option (Bool)
 | 0, _, _, _ => none
 | k + 1, p, at0, at1 => bshuntlaw13_SparseTells k p at0 at1
def Ishuntlaw13_SparseTells : Nat → Inst := mkI 3 ⟨[.a (.lf (.sl (.sl (.int .i64)))), .g [.lf (.int .i64), .lf (.int .i64)]], []⟩ [⟨[vB], []⟩] fun k x => Fshuntlaw13_SparseTells k x.1 x.2.1 x.2.2
theorem alshuntlaw13_SparseTells (k : Nat) : AllI (call cf k) [Ishuntlaw13_awake k, Ishuntlaw13_wide k, Ishuntref13_Copy k, Isparse_Cost k, Ishuntref13_Cost k, Isparse_Best k, Ishuntref13_Best k, Isparse_Eliminate k, Ishuntref13_Eliminate k, Isparse_Order k, Ishuntref13_Order k, Ishuntref13_Same k, Ishuntref09_Ints k, Isparse_Check k, Ishuntref13_Check k] :=
 ac (okshuntlaw13_awake k) (ac (okshuntlaw13_wide k) (ac (okshuntref13_Copy k) (ac (oksparse_Cost k) (ac (okshuntref13_Cost k) (ac (oksparse_Best k) (ac (okshuntref13_Best k) (ac (oksparse_Eliminate k) (ac (okshuntref13_Eliminate k) (ac (oksparse_Order k) (ac (okshuntref13_Order k) (ac (okshuntref13_Same k) (ac (okshuntref09_Ints k) (ac (oksparse_Check k) (ac (okshuntref13_Check k) a0))))))))))))))
def LIshuntlaw13_SparseTells_0 (k : Nat) : LInst := mkL 0 [⟨[(0, .a (.lf (.sl (.sl (.int .i64))))), (3, .a (.ptr 0 0 0)), (5, .a (.lf (.sl (.sl (.int .i64))))), (18, .a (.smz 1)), (20, .a (.lf (.sl (.sl (.int .i64))))), (164, vI), (165, vI)], [(0, some (.raw [[.lf (.int .i64), .lf (.int .i64)]] 2 24 true false false)), (1, some (.arr (.sl (.int .i64)) 1 41 false))], 2⟩] [⟨some 0, ⟨[(0, .a (.lf (.sl (.sl (.int .i64))))), (3, .a (.ptr 0 0 0)), (5, .a (.lf (.sl (.sl (.int .i64))))), (20, .a (.lf (.sl (.sl (.int .i64)))))], [(0, some (.raw [[.lf (.int .i64), .lf (.int .i64)]] 2 24 true false false)), (1, some (.arr (.sl (.int .i64)) 1 41 false))], 2⟩⟩] (fun n x => Lshuntlaw13_SparseTells_0 k n x.1 x.2.1 x.2.2.1 x.2.2.2.1 x.2.2.2.2.1 x.2.2.2.2.2.1 x.2.2.2.2.2.2.1 x.2.2.2.2.2.2.2.1 x.2.2.2.2.2.2.2.2) k
theorem loshuntlaw13_SparseTells_0 (k : Nat) : LIo 3 Try.f3 0 k (LIshuntlaw13_SparseTells_0 k) :=
 lpk [2] (alshuntlaw13_SparseTells k) l0 (fun _ => rfl) (by kernel_rfl) fun n x => by kernel_rfl
def LIshuntlaw13_SparseTells_2 (k : Nat) : LInst := mkL 2 [⟨[(0, .a (.lf (.sl (.sl (.int .i64))))), (3, .a (.ptr 0 0 0)), (5, .a (.lf (.sl (.sl (.int .i64))))), (18, .a (.smz 1)), (20, .a (.lf (.sl (.sl (.int .i64))))), (28, vI), (164, vI), (165, vI), (172, vI), (173, vI)], [(0, some (.raw [[.lf (.int .i64), .lf (.int .i64)]] 2 24 true false false)), (1, some (.nst (.int .i64) 3 1 41 false))], 2⟩] [⟨some 2, ⟨[(0, .a (.lf (.sl (.sl (.int .i64))))), (3, .a (.ptr 0 0 0)), (5, .a (.lf (.sl (.sl (.int .i64))))), (18, .a (.smz 1)), (20, .a (.lf (.sl (.sl (.int .i64))))), (164, vI), (165, vI)], [(0, some (.raw [[.lf (.int .i64), .lf (.int .i64)]] 2 24 true false false)), (1, some (.nst (.int .i64) 3 1 41 false))], 2⟩⟩] (fun n x => Lshuntlaw13_SparseTells_2 k n x.1 x.2.1 x.2.2.1 x.2.2.2.1 x.2.2.2.2.1 x.2.2.2.2.2.1 x.2.2.2.2.2.2.1 x.2.2.2.2.2.2.2.1 x.2.2.2.2.2.2.2.2.1 x.2.2.2.2.2.2.2.2.2.1 x.2.2.2.2.2.2.2.2.2.2.1 x.2.2.2.2.2.2.2.2.2.2.2) k
theorem loshuntlaw13_SparseTells_2 (k : Nat) : LIo 3 Try.f3 0 k (LIshuntlaw13_SparseTells_2 k) :=
 lpk [] (alshuntlaw13_SparseTells k) (lc (loshuntlaw13_SparseTells_0 k) l0) (fun _ => rfl) (by kernel_rfl) fun n x => by kernel_rfl
def LIshuntlaw13_SparseTells_0a (k : Nat) : LInst := mkL 0 [⟨[(0, .a (.lf (.sl (.sl (.int .i64))))), (3, .a (.ptr 0 0 0)), (5, .a (.lf (.sl (.sl (.int .i64))))), (18, .a (.smz 1)), (20, .a (.lf (.sl (.sl (.int .i64))))), (164, vI), (165, vI)], [(0, some (.raw [[.lf (.int .i64), .lf (.int .i64)]] 2 24 true false false)), (1, some (.nst (.int .i64) 3 1 41 false))], 2⟩] [⟨some 0, ⟨[(0, .a (.lf (.sl (.sl (.int .i64))))), (3, .a (.ptr 0 0 0)), (5, .a (.lf (.sl (.sl (.int .i64))))), (20, .a (.lf (.sl (.sl (.int .i64)))))], [(0, some (.raw [[.lf (.int .i64), .lf (.int .i64)]] 2 24 true false false)), (1, some (.nst (.int .i64) 3 1 41 false))], 2⟩⟩] (fun n x => Lshuntlaw13_SparseTells_0a k n x.1 x.2.1 x.2.2.1 x.2.2.2.1 x.2.2.2.2.1 x.2.2.2.2.2.1 x.2.2.2.2.2.2.1 x.2.2.2.2.2.2.2.1 x.2.2.2.2.2.2.2.2) k
theorem loshuntlaw13_SparseTells_0a (k : Nat) : LIo 3 Try.f3 0 k (LIshuntlaw13_SparseTells_0a k) :=
 lpk [2] (alshuntlaw13_SparseTells k) (lc (loshuntlaw13_SparseTells_0 k) (lc (loshuntlaw13_SparseTells_2 k) l0)) (fun _ => rfl) (by kernel_rfl) fun n x => by kernel_rfl
theorem okshuntlaw13_SparseTells : ∀ k, InstOk (call cf k) (Ishuntlaw13_SparseTells k) :=
 fnk 0 [0] Try.func3 (fun k => (alshuntlaw13_SparseTells k)) (fun k => (lc (loshuntlaw13_SparseTells_0 k) (lc (loshuntlaw13_SparseTells_2 k) (lc (loshuntlaw13_SparseTells_0a k) l0)))) ⟨rfl, rfl, ⟨rfl, Nat.le_of_ble_eq_true rfl⟩, rfl⟩ (fun _ => rfl) (by kernel_rfl) fun k x => by kernel_rfl


end
end Go.Proofs.Ytgiamleohegjeaa.Am
