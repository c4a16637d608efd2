/- Printed functions: each says what the typed machine says of the program -/
import Derived.Test.YtlnailgfialgnaaDoorMP1
import Derived.KernelRfl

set_option linter.unusedVariables false
set_option maxRecDepth 100000
namespace Go.Proofs.YtlnailgfialgnaaDoor.Am
open Go
noncomputable section

/-! shunt/flat.right -/
def Lflat_right_0s (k : Nat) (rec : List Int → Int → Int → List ByteArray → List (Int × ByteArray × List Int × Int × (Int × Int) × (Int × List (Int × Int) × List Int) × ByteArray × Int × List (Int × Int) × List (Int × Int)) → Int → Int → Int → Int → ByteArray → List Int → Int → Int → Int → Int → List (Int × Int) → List Int → ByteArray → Int → List (Int × Int) → List (Int × Int) → Option ((Bool × List ByteArray × List (Int × ByteArray × List Int × Int × (Int × Int) × (Int × List (Int × Int) × List Int) × ByteArray × Int × List (Int × Int) × List (Int × Int)) × Int × Int × Int × Int × ByteArray × List Int × Int × Int × Int × Int × List (Int × Int) × List Int × ByteArray × Int × List (Int × Int) × List (Int × Int)) ⊕ (List ByteArray × List (Int × ByteArray × List Int × Int × (Int × Int) × (Int × List (Int × Int) × List Int) × ByteArray × Int × List (Int × Int) × List (Int × Int)) × Int × Int × Int × Int × ByteArray × List Int × Int × Int × Int × Int × List (Int × Int) × List Int × ByteArray × Int × List (Int × Int) × List (Int × Int)))) (x : List Int) (x1 : Int) (x2 : Int) (f0 : List ByteArray) (f1 : List (Int × ByteArray × List Int × Int × (Int × Int) × (Int × List (Int × Int) × List Int) × ByteArray × Int × List (Int × Int) × List (Int × Int))) (f2 : Int) (f3 : Int) (f4 : Int) (d0 : Int) (d1 : ByteArray) (d2 : List Int) (d3 : Int) (d4 : Int) (d5 : Int) (d6 : Int) (d7 : List (Int × Int)) (d8 : List Int) (d9 : ByteArray) (d10 : Int) (d11 : List (Int × Int)) (d12 : List (Int × Int)) : Option ((Bool × List ByteArray × List (Int × ByteArray × List Int × Int × (Int × Int) × (Int × List (Int × Int) × List Int) × ByteArray × Int × List (Int × Int) × List (Int × Int)) × Int × Int × Int × Int × ByteArray × List Int × Int × Int × Int × Int × List (Int × Int) × List Int × ByteArray × Int × List (Int × Int) × List (Int × Int)) ⊕ (List ByteArray × List (Int × ByteArray × List Int × Int × (Int × Int) × (Int × List (Int × Int) × List Int) × ByteArray × Int × List (Int × Int) × List (Int × Int)) × Int × Int × Int × Int × ByteArray × List Int × Int × Int × Int × Int × List (Int × Int) × List Int × ByteArray × Int × List (Int × Int) × List (Int × Int))) :=
  if ((decide (x2 < x1)) = true) then
    if ((0 : Int) ≤ x2) then
      Option.bind (x)[(Int.toNat x2)]? fun x4 =>
      if ((decide (x4 < (0 : Int))) = false) then
        if ((decide (x4 ≥ (((List.length f0) : Nat) : Int))) = true) then
          (some (Sum.inl (false, f0, f1, f2, f3, f4, d0, d1, d2, d3, d4, d5, d6, d7, d8, d9, d10, d11, d12)))
        else
        rec x x1 (IntKind.wrap .i64 (x2 + (1 : Int))) f0 f1 f2 f3 f4 d0 d1 d2 d3 d4 d5 d6 d7 d8 d9 d10 d11 d12
      else
      (some (Sum.inl (false, f0, f1, f2, f3, f4, d0, d1, d2, d3, d4, d5, d6, d7, d8, d9, d10, d11, d12)))
    else
    none
  else
  (some (Sum.inr (f0, f1, f2, f3, f4, d0, d1, d2, d3, d4, d5, d6, d7, d8, d9, d10, d11, d12)))
def Lflat_right_0 (k n : Nat) : List Int → Int → Int → List ByteArray → List (Int × ByteArray × List Int × Int × (Int × Int) × (Int × List (Int × Int) × List Int) × ByteArray × Int × List (Int × Int) × List (Int × Int)) → Int → Int → Int → Int → ByteArray → List Int → Int → Int → Int → Int → List (Int × Int) → List Int → ByteArray → Int → List (Int × Int) → List (Int × Int) → Option ((Bool × List ByteArray × List (Int × ByteArray × List Int × Int × (Int × Int) × (Int × List (Int × Int) × List Int) × ByteArray × Int × List (Int × Int) × List (Int × Int)) × Int × Int × Int × Int × ByteArray × List Int × Int × Int × Int × Int × List (Int × Int) × List Int × ByteArray × Int × List (Int × Int) × List (Int × Int)) ⊕ (List ByteArray × List (Int × ByteArray × List Int × Int × (Int × Int) × (Int × List (Int × Int) × List Int) × ByteArray × Int × List (Int × Int) × List (Int × Int)) × Int × Int × Int × Int × ByteArray × List Int × Int × Int × Int × Int × List (Int × Int) × List Int × ByteArray × Int × List (Int × Int) × List (Int × Int))) := Nat.rec (fun _ _ _ _ _ _ _ _ _ _ _ _ _ _ _ _ _ _ _ _ _ => none) (fun _ r => Lflat_right_0s k r) n
def bflat_right (k : Nat) (f0 : List ByteArray) (f1 : List (Int × ByteArray × List Int × Int × (Int × Int) × (Int × List (Int × Int) × List Int) × ByteArray × Int × List (Int × Int) × List (Int × Int))) (f2 : Int) (f3 : Int) (f4 : Int) (d0 : Int) (d1 : ByteArray) (d2 : List Int) (d3 : Int) (d4 : Int) (d5 : Int) (d6 : Int) (d7 : List (Int × Int)) (d8 : List Int) (d9 : ByteArray) (d10 : Int) (d11 : List (Int × Int)) (d12 : List (Int × Int)) : Option (Bool) :=
  if (((mapG (.int .u8) (.int .i64) (mapS (.int .u8) (.int .i64) (mapS (.int .u8) (.int .i64) (mapS (.int .u8) (.int .i64) (mapS (.int .u8) (.int .i64) (mapS (.int .u8) (.int .i64) (mapS (.int .u8) (.int .i64) (mapS (.int .u8) (.int .i64) (mapS (.int .u8) (.int .i64) (mapS (.int .u8) (.int .i64) (mapS (.int .u8) (.int .i64) (mapS (.int .u8) (.int .i64) (mapS (.int .u8) (.int .i64) [] (114 : Int) (2 : Int)) (99 : Int) (2 : Int)) (108 : Int) (2 : Int)) (118 : Int) (2 : Int)) (105 : Int) (2 : Int)) (101 : Int) (4 : Int)) (103 : Int) (4 : Int)) (102 : Int) (2 : Int)) (104 : Int) (2 : Int)) (116 : Int) (4 : Int)) (100 : Int) (2 : Int)) (115 : Int) (4 : Int)) d0 (0 : Int)) == (0 : Int)) = false) then
    if (((((List.length d2) : Nat) : Int) != (mapG (.int .u8) (.int .i64) (mapS (.int .u8) (.int .i64) (mapS (.int .u8) (.int .i64) (mapS (.int .u8) (.int .i64) (mapS (.int .u8) (.int .i64) (mapS (.int .u8) (.int .i64) (mapS (.int .u8) (.int .i64) (mapS (.int .u8) (.int .i64) (mapS (.int .u8) (.int .i64) (mapS (.int .u8) (.int .i64) (mapS (.int .u8) (.int .i64) (mapS (.int .u8) (.int .i64) (mapS (.int .u8) (.int .i64) [] (114 : Int) (2 : Int)) (99 : Int) (2 : Int)) (108 : Int) (2 : Int)) (118 : Int) (2 : Int)) (105 : Int) (2 : Int)) (101 : Int) (4 : Int)) (103 : Int) (4 : Int)) (102 : Int) (2 : Int)) (104 : Int) (2 : Int)) (116 : Int) (4 : Int)) (100 : Int) (2 : Int)) (115 : Int) (4 : Int)) d0 (0 : Int))) = false) then
      Option.bind (Fflat_long k d1) fun r4 =>
      if ((!r4) = true) then
        (some false)
      else
      Option.bind (Lflat_right_0 k k d2 (((List.length d2) : Nat) : Int) (0 : Int) f0 f1 f2 f3 f4 d0 d1 d2 d3 d4 d5 d6 d7 d8 d9 d10 d11 d12) fun r5 =>
      eitherK r5
        (fun r5 =>
        (some r5.1))
        (fun r5 =>
        if ((r5.2.2.2.2.2.1 == (118 : Int)) = true) then
          Option.bind (Fwave_Valid k r5.2.2.2.2.2.2.2.2.2.2.2.1 r5.2.2.2.2.2.2.2.2.2.2.2.2.1 r5.2.2.2.2.2.2.2.2.2.2.2.2.2.1) fun r6 =>
          if (r6 = true) then
            if ((r5.2.2.2.2.2.2.2.2.2.1 == (0 : Int)) = true) then
              if ((r5.2.2.2.2.2.2.2.2.2.2.1 == (0 : Int)) = true) then
                Option.bind (Fflat_noModel k r5.2.2.2.2.2.2.2.2.2.2.2.2.2.2.1 r5.2.2.2.2.2.2.2.2.2.2.2.2.2.2.2.1 r5.2.2.2.2.2.2.2.2.2.2.2.2.2.2.2.2.1 r5.2.2.2.2.2.2.2.2.2.2.2.2.2.2.2.2.2) fun r7 =>
                if (r7 = true) then
                  (some (r5.2.2.2.2.2.2.2.2.1 == (0 : Int)))
                else
                (some false)
              else
              (some false)
            else
            (some false)
          else
          (some false)
        else
        if ((r5.2.2.2.2.2.1 == (105 : Int)) = true) then
          Option.bind (Fwave_Valid k r5.2.2.2.2.2.2.2.2.2.2.2.1 r5.2.2.2.2.2.2.2.2.2.2.2.2.1 r5.2.2.2.2.2.2.2.2.2.2.2.2.2.1) fun r6 =>
          if (r6 = true) then
            if ((r5.2.2.2.2.2.2.2.2.2.1 == (0 : Int)) = true) then
              if ((r5.2.2.2.2.2.2.2.2.2.2.1 == (0 : Int)) = true) then
                Option.bind (Fflat_noModel k r5.2.2.2.2.2.2.2.2.2.2.2.2.2.2.1 r5.2.2.2.2.2.2.2.2.2.2.2.2.2.2.2.1 r5.2.2.2.2.2.2.2.2.2.2.2.2.2.2.2.2.1 r5.2.2.2.2.2.2.2.2.2.2.2.2.2.2.2.2.2) fun r7 =>
                if (r7 = true) then
                  (some (r5.2.2.2.2.2.2.2.2.1 == (0 : Int)))
                else
                (some false)
              else
              (some false)
            else
            (some false)
          else
          (some false)
        else
        if ((r5.2.2.2.2.2.1 == (100 : Int)) = true) then
          Option.bind (Fflat_noWave k r5.2.2.2.2.2.2.2.2.2.2.2.1 r5.2.2.2.2.2.2.2.2.2.2.2.2.1 r5.2.2.2.2.2.2.2.2.2.2.2.2.2.1) fun r6 =>
          if (r6 = true) then
            if ((r5.2.2.2.2.2.2.2.2.2.1 == (0 : Int)) = true) then
              if ((r5.2.2.2.2.2.2.2.2.2.2.1 == (0 : Int)) = true) then
                Option.bind (Fmodel_Valid k r5.2.2.2.2.2.2.2.2.2.2.2.2.2.2.1 r5.2.2.2.2.2.2.2.2.2.2.2.2.2.2.2.1 r5.2.2.2.2.2.2.2.2.2.2.2.2.2.2.2.2.1 r5.2.2.2.2.2.2.2.2.2.2.2.2.2.2.2.2.2) fun r7 =>
                if (r7 = true) then
                  if ((r5.2.2.2.2.2.2.2.2.2.2.2.2.2.2.2.1 == r5.2.2.2.2.2.1) = true) then
                    (some (r5.2.2.2.2.2.2.2.2.1 == (0 : Int)))
                  else
                  (some false)
                else
                (some false)
              else
              (some false)
            else
            (some false)
          else
          (some false)
        else
        if ((r5.2.2.2.2.2.1 == (115 : Int)) = true) then
          Option.bind (Fflat_noWave k r5.2.2.2.2.2.2.2.2.2.2.2.1 r5.2.2.2.2.2.2.2.2.2.2.2.2.1 r5.2.2.2.2.2.2.2.2.2.2.2.2.2.1) fun r6 =>
          if (r6 = true) then
            if ((r5.2.2.2.2.2.2.2.2.2.1 == (0 : Int)) = true) then
              if ((r5.2.2.2.2.2.2.2.2.2.2.1 == (0 : Int)) = true) then
                Option.bind (Fmodel_Valid k r5.2.2.2.2.2.2.2.2.2.2.2.2.2.2.1 r5.2.2.2.2.2.2.2.2.2.2.2.2.2.2.2.1 r5.2.2.2.2.2.2.2.2.2.2.2.2.2.2.2.2.1 r5.2.2.2.2.2.2.2.2.2.2.2.2.2.2.2.2.2) fun r7 =>
                if (r7 = true) then
                  if ((r5.2.2.2.2.2.2.2.2.2.2.2.2.2.2.2.1 == r5.2.2.2.2.2.1) = true) then
                    (some (r5.2.2.2.2.2.2.2.2.1 == (0 : Int)))
                  else
                  (some false)
                else
                (some false)
              else
              (some false)
            else
            (some false)
          else
          (some false)
        else
        if ((r5.2.2.2.2.2.1 == (102 : Int)) = true) then
          if ((decide (r5.2.2.2.2.2.2.2.2.1 < (0 : Int))) = false) then
            if ((decide (r5.2.2.2.2.2.2.2.2.1 ≥ (((List.length r5.2.1) : Nat) : Int))) = false) then
              if ((0 : Int) ≤ r5.2.2.2.2.2.2.2.2.1) then
                Option.bind (r5.2.1)[(Int.toNat r5.2.2.2.2.2.2.2.2.1)]? fun x4 =>
                if ((x4.1 != (118 : Int)) = true) then
                  (some false)
                else
                if ((r5.2.2.2.2.2.1 == (114 : Int)) = false) then
                  if ((r5.2.2.2.2.2.1 == (99 : Int)) = false) then
                    Option.bind (Fnum_Valid k r5.2.2.2.2.2.2.2.2.2.1 r5.2.2.2.2.2.2.2.2.2.2.1) fun r6 =>
                    if (r6 = true) then
                      if ((r5.2.2.2.2.2.2.2.2.2.1 != (0 : Int)) = false) then
                        if ((!(r5.2.2.2.2.2.1 == (108 : Int))) = true) then
                          Option.bind (Fflat_noWave k r5.2.2.2.2.2.2.2.2.2.2.2.1 r5.2.2.2.2.2.2.2.2.2.2.2.2.1 r5.2.2.2.2.2.2.2.2.2.2.2.2.2.1) fun r7 =>
                          if (r7 = true) then
                            Option.bind (Fflat_noModel k r5.2.2.2.2.2.2.2.2.2.2.2.2.2.2.1 r5.2.2.2.2.2.2.2.2.2.2.2.2.2.2.2.1 r5.2.2.2.2.2.2.2.2.2.2.2.2.2.2.2.2.1 r5.2.2.2.2.2.2.2.2.2.2.2.2.2.2.2.2.2) fun r8 =>
                            (some r8)
                          else
                          (some false)
                        else
                        (some false)
                      else
                      Option.bind (Fflat_noWave k r5.2.2.2.2.2.2.2.2.2.2.2.1 r5.2.2.2.2.2.2.2.2.2.2.2.2.1 r5.2.2.2.2.2.2.2.2.2.2.2.2.2.1) fun r7 =>
                      if (r7 = true) then
                        Option.bind (Fflat_noModel k r5.2.2.2.2.2.2.2.2.2.2.2.2.2.2.1 r5.2.2.2.2.2.2.2.2.2.2.2.2.2.2.2.1 r5.2.2.2.2.2.2.2.2.2.2.2.2.2.2.2.2.1 r5.2.2.2.2.2.2.2.2.2.2.2.2.2.2.2.2.2) fun r8 =>
                        (some r8)
                      else
                      (some false)
                    else
                    (some false)
                  else
                  Option.bind (Fnum_Valid k r5.2.2.2.2.2.2.2.2.2.1 r5.2.2.2.2.2.2.2.2.2.2.1) fun r6 =>
                  if (r6 = true) then
                    if ((r5.2.2.2.2.2.2.2.2.2.1 != (0 : Int)) = false) then
                      (some false)
                    else
                    Option.bind (Fflat_noWave k r5.2.2.2.2.2.2.2.2.2.2.2.1 r5.2.2.2.2.2.2.2.2.2.2.2.2.1 r5.2.2.2.2.2.2.2.2.2.2.2.2.2.1) fun r7 =>
                    if (r7 = true) then
                      Option.bind (Fflat_noModel k r5.2.2.2.2.2.2.2.2.2.2.2.2.2.2.1 r5.2.2.2.2.2.2.2.2.2.2.2.2.2.2.2.1 r5.2.2.2.2.2.2.2.2.2.2.2.2.2.2.2.2.1 r5.2.2.2.2.2.2.2.2.2.2.2.2.2.2.2.2.2) fun r8 =>
                      (some r8)
                    else
                    (some false)
                  else
                  (some false)
                else
                Option.bind (Fnum_Valid k r5.2.2.2.2.2.2.2.2.2.1 r5.2.2.2.2.2.2.2.2.2.2.1) fun r6 =>
                if (r6 = true) then
                  if ((r5.2.2.2.2.2.2.2.2.2.1 != (0 : Int)) = false) then
                    (some false)
                  else
                  Option.bind (Fflat_noWave k r5.2.2.2.2.2.2.2.2.2.2.2.1 r5.2.2.2.2.2.2.2.2.2.2.2.2.1 r5.2.2.2.2.2.2.2.2.2.2.2.2.2.1) fun r7 =>
                  if (r7 = true) then
                    Option.bind (Fflat_noModel k r5.2.2.2.2.2.2.2.2.2.2.2.2.2.2.1 r5.2.2.2.2.2.2.2.2.2.2.2.2.2.2.2.1 r5.2.2.2.2.2.2.2.2.2.2.2.2.2.2.2.2.1 r5.2.2.2.2.2.2.2.2.2.2.2.2.2.2.2.2.2) fun r8 =>
                    (some r8)
                  else
                  (some false)
                else
                (some false)
              else
              none
            else
            (some false)
          else
          (some false)
        else
        if ((r5.2.2.2.2.2.1 == (104 : Int)) = true) then
          if ((decide (r5.2.2.2.2.2.2.2.2.1 < (0 : Int))) = false) then
            if ((decide (r5.2.2.2.2.2.2.2.2.1 ≥ (((List.length r5.2.1) : Nat) : Int))) = false) then
              if ((0 : Int) ≤ r5.2.2.2.2.2.2.2.2.1) then
                Option.bind (r5.2.1)[(Int.toNat r5.2.2.2.2.2.2.2.2.1)]? fun x4 =>
                if ((x4.1 != (118 : Int)) = true) then
                  (some false)
                else
                if ((r5.2.2.2.2.2.1 == (114 : Int)) = false) then
                  if ((r5.2.2.2.2.2.1 == (99 : Int)) = false) then
                    Option.bind (Fnum_Valid k r5.2.2.2.2.2.2.2.2.2.1 r5.2.2.2.2.2.2.2.2.2.2.1) fun r6 =>
                    if (r6 = true) then
                      if ((r5.2.2.2.2.2.2.2.2.2.1 != (0 : Int)) = false) then
                        if ((!(r5.2.2.2.2.2.1 == (108 : Int))) = true) then
                          Option.bind (Fflat_noWave k r5.2.2.2.2.2.2.2.2.2.2.2.1 r5.2.2.2.2.2.2.2.2.2.2.2.2.1 r5.2.2.2.2.2.2.2.2.2.2.2.2.2.1) fun r7 =>
                          if (r7 = true) then
                            Option.bind (Fflat_noModel k r5.2.2.2.2.2.2.2.2.2.2.2.2.2.2.1 r5.2.2.2.2.2.2.2.2.2.2.2.2.2.2.2.1 r5.2.2.2.2.2.2.2.2.2.2.2.2.2.2.2.2.1 r5.2.2.2.2.2.2.2.2.2.2.2.2.2.2.2.2.2) fun r8 =>
                            (some r8)
                          else
                          (some false)
                        else
                        (some false)
                      else
                      Option.bind (Fflat_noWave k r5.2.2.2.2.2.2.2.2.2.2.2.1 r5.2.2.2.2.2.2.2.2.2.2.2.2.1 r5.2.2.2.2.2.2.2.2.2.2.2.2.2.1) fun r7 =>
                      if (r7 = true) then
                        Option.bind (Fflat_noModel k r5.2.2.2.2.2.2.2.2.2.2.2.2.2.2.1 r5.2.2.2.2.2.2.2.2.2.2.2.2.2.2.2.1 r5.2.2.2.2.2.2.2.2.2.2.2.2.2.2.2.2.1 r5.2.2.2.2.2.2.2.2.2.2.2.2.2.2.2.2.2) fun r8 =>
                        (some r8)
                      else
                      (some false)
                    else
                    (some false)
                  else
                  Option.bind (Fnum_Valid k r5.2.2.2.2.2.2.2.2.2.1 r5.2.2.2.2.2.2.2.2.2.2.1) fun r6 =>
                  if (r6 = true) then
                    if ((r5.2.2.2.2.2.2.2.2.2.1 != (0 : Int)) = false) then
                      (some false)
                    else
                    Option.bind (Fflat_noWave k r5.2.2.2.2.2.2.2.2.2.2.2.1 r5.2.2.2.2.2.2.2.2.2.2.2.2.1 r5.2.2.2.2.2.2.2.2.2.2.2.2.2.1) fun r7 =>
                    if (r7 = true) then
                      Option.bind (Fflat_noModel k r5.2.2.2.2.2.2.2.2.2.2.2.2.2.2.1 r5.2.2.2.2.2.2.2.2.2.2.2.2.2.2.2.1 r5.2.2.2.2.2.2.2.2.2.2.2.2.2.2.2.2.1 r5.2.2.2.2.2.2.2.2.2.2.2.2.2.2.2.2.2) fun r8 =>
                      (some r8)
                    else
                    (some false)
                  else
                  (some false)
                else
                Option.bind (Fnum_Valid k r5.2.2.2.2.2.2.2.2.2.1 r5.2.2.2.2.2.2.2.2.2.2.1) fun r6 =>
                if (r6 = true) then
                  if ((r5.2.2.2.2.2.2.2.2.2.1 != (0 : Int)) = false) then
                    (some false)
                  else
                  Option.bind (Fflat_noWave k r5.2.2.2.2.2.2.2.2.2.2.2.1 r5.2.2.2.2.2.2.2.2.2.2.2.2.1 r5.2.2.2.2.2.2.2.2.2.2.2.2.2.1) fun r7 =>
                  if (r7 = true) then
                    Option.bind (Fflat_noModel k r5.2.2.2.2.2.2.2.2.2.2.2.2.2.2.1 r5.2.2.2.2.2.2.2.2.2.2.2.2.2.2.2.1 r5.2.2.2.2.2.2.2.2.2.2.2.2.2.2.2.2.1 r5.2.2.2.2.2.2.2.2.2.2.2.2.2.2.2.2.2) fun r8 =>
                    (some r8)
                  else
                  (some false)
                else
                (some false)
              else
              none
            else
            (some false)
          else
          (some false)
        else
        if ((r5.2.2.2.2.2.2.2.2.1 != (0 : Int)) = true) then
          (some false)
        else
        if ((r5.2.2.2.2.2.1 == (114 : Int)) = false) then
          if ((r5.2.2.2.2.2.1 == (99 : Int)) = false) then
            Option.bind (Fnum_Valid k r5.2.2.2.2.2.2.2.2.2.1 r5.2.2.2.2.2.2.2.2.2.2.1) fun r6 =>
            if (r6 = true) then
              if ((r5.2.2.2.2.2.2.2.2.2.1 != (0 : Int)) = false) then
                if ((!(r5.2.2.2.2.2.1 == (108 : Int))) = true) then
                  Option.bind (Fflat_noWave k r5.2.2.2.2.2.2.2.2.2.2.2.1 r5.2.2.2.2.2.2.2.2.2.2.2.2.1 r5.2.2.2.2.2.2.2.2.2.2.2.2.2.1) fun r7 =>
                  if (r7 = true) then
                    Option.bind (Fflat_noModel k r5.2.2.2.2.2.2.2.2.2.2.2.2.2.2.1 r5.2.2.2.2.2.2.2.2.2.2.2.2.2.2.2.1 r5.2.2.2.2.2.2.2.2.2.2.2.2.2.2.2.2.1 r5.2.2.2.2.2.2.2.2.2.2.2.2.2.2.2.2.2) fun r8 =>
                    (some r8)
                  else
                  (some false)
                else
                (some false)
              else
              Option.bind (Fflat_noWave k r5.2.2.2.2.2.2.2.2.2.2.2.1 r5.2.2.2.2.2.2.2.2.2.2.2.2.1 r5.2.2.2.2.2.2.2.2.2.2.2.2.2.1) fun r7 =>
              if (r7 = true) then
                Option.bind (Fflat_noModel k r5.2.2.2.2.2.2.2.2.2.2.2.2.2.2.1 r5.2.2.2.2.2.2.2.2.2.2.2.2.2.2.2.1 r5.2.2.2.2.2.2.2.2.2.2.2.2.2.2.2.2.1 r5.2.2.2.2.2.2.2.2.2.2.2.2.2.2.2.2.2) fun r8 =>
                (some r8)
              else
              (some false)
            else
            (some false)
          else
          Option.bind (Fnum_Valid k r5.2.2.2.2.2.2.2.2.2.1 r5.2.2.2.2.2.2.2.2.2.2.1) fun r6 =>
          if (r6 = true) then
            if ((r5.2.2.2.2.2.2.2.2.2.1 != (0 : Int)) = false) then
              (some false)
            else
            Option.bind (Fflat_noWave k r5.2.2.2.2.2.2.2.2.2.2.2.1 r5.2.2.2.2.2.2.2.2.2.2.2.2.1 r5.2.2.2.2.2.2.2.2.2.2.2.2.2.1) fun r7 =>
            if (r7 = true) then
              Option.bind (Fflat_noModel k r5.2.2.2.2.2.2.2.2.2.2.2.2.2.2.1 r5.2.2.2.2.2.2.2.2.2.2.2.2.2.2.2.1 r5.2.2.2.2.2.2.2.2.2.2.2.2.2.2.2.2.1 r5.2.2.2.2.2.2.2.2.2.2.2.2.2.2.2.2.2) fun r8 =>
              (some r8)
            else
            (some false)
          else
          (some false)
        else
        Option.bind (Fnum_Valid k r5.2.2.2.2.2.2.2.2.2.1 r5.2.2.2.2.2.2.2.2.2.2.1) fun r6 =>
        if (r6 = true) then
          if ((r5.2.2.2.2.2.2.2.2.2.1 != (0 : Int)) = false) then
            (some false)
          else
          Option.bind (Fflat_noWave k r5.2.2.2.2.2.2.2.2.2.2.2.1 r5.2.2.2.2.2.2.2.2.2.2.2.2.1 r5.2.2.2.2.2.2.2.2.2.2.2.2.2.1) fun r7 =>
          if (r7 = true) then
            Option.bind (Fflat_noModel k r5.2.2.2.2.2.2.2.2.2.2.2.2.2.2.1 r5.2.2.2.2.2.2.2.2.2.2.2.2.2.2.2.1 r5.2.2.2.2.2.2.2.2.2.2.2.2.2.2.2.2.1 r5.2.2.2.2.2.2.2.2.2.2.2.2.2.2.2.2.2) fun r8 =>
            (some r8)
          else
          (some false)
        else
        (some false))
    else
    (some false)
  else
  (some false)
def Fflat_right : Nat → List ByteArray → List (Int × ByteArray × List Int × Int × (Int × Int) × (Int × List (Int × Int) × List Int) × ByteArray × Int × List (Int × Int) × List (Int × Int)) → Int → Int → Int → Int → ByteArray → List Int → Int → Int → Int → Int → List (Int × Int) → List Int → ByteArray → Int → List (Int × Int) → List (Int × Int) → Option (Bool)
  | 0, _, _, _, _, _, _, _, _, _, _, _, _, _, _, _, _, _, _ => none
  | k + 1, f0, f1, f2, f3, f4, d0, d1, d2, d3, d4, d5, d6, d7, d8, d9, d10, d11, d12 => bflat_right k f0 f1 f2 f3 f4 d0 d1 d2 d3 d4 d5 d6 d7 d8 d9 d10 d11 d12
def shflat_right : FS := { vs := [.g [.lf (.sl .str), .lf (.sl (.pr (.int .u8) (.pr .str (.pr (.sl (.int .i64)) (.pr (.int .i64) (.pr (.pr (.int .i64) (.int .i64)) (.pr (.pr (.int .i64) (.pr (.sl (.pr (.int .i64) (.int .i64))) (.sl (.int .i64)))) (.pr .str (.pr (.int .u8) (.pr (.sl (.pr (.int .i64) (.int .i64))) (.sl (.pr (.int .i64) (.int .i64))))))))))))), .lf (.int .i64), .lf (.int .i64), .lf (.int .i64)], .g [.lf (.int .u8), .lf .str, .lf (.sl (.int .i64)), .lf (.int .i64), .lf (.int .i64), .lf (.int .i64), .lf (.int .i64), .lf (.sl (.pr (.int .i64) (.int .i64))), .lf (.sl (.int .i64)), .lf .str, .lf (.int .u8), .lf (.sl (.pr (.int .i64) (.int .i64))), .lf (.sl (.pr (.int .i64) (.int .i64)))]], bs := [] }
def rsflat_right : List FS := [{ vs := [.a (.lf .bool)], bs := [] }]
def Iflat_right (k : Nat) : Inst := ⟨42, shflat_right, rsflat_right, fun x => Fflat_right k x.1 x.2.1 x.2.2.1 x.2.2.2.1 x.2.2.2.2.1 x.2.2.2.2.2.1 x.2.2.2.2.2.2.1 x.2.2.2.2.2.2.2.1 x.2.2.2.2.2.2.2.2.1 x.2.2.2.2.2.2.2.2.2.1 x.2.2.2.2.2.2.2.2.2.2.1 x.2.2.2.2.2.2.2.2.2.2.2.1 x.2.2.2.2.2.2.2.2.2.2.2.2.1 x.2.2.2.2.2.2.2.2.2.2.2.2.2.1 x.2.2.2.2.2.2.2.2.2.2.2.2.2.2.1 x.2.2.2.2.2.2.2.2.2.2.2.2.2.2.2.1 x.2.2.2.2.2.2.2.2.2.2.2.2.2.2.2.2.1 x.2.2.2.2.2.2.2.2.2.2.2.2.2.2.2.2.2⟩
theorem alflat_right (k : Nat) : AllI (call cf k) [Iflat_long k, Iwave_Valid k, Iflat_noModel k, Iflat_noWave k, Imodel_Valid k, Inum_Valid k] := And.intro (okflat_long k) (And.intro (okwave_Valid k) (And.intro (okflat_noModel k) (And.intro (okflat_noWave k) (And.intro (okmodel_Valid k) (And.intro (oknum_Valid k) (True.intro))))))
def hsflat_right_0 : List SS := [{ fr := [(2, .a (.ptr 0 0 0)), (3, .a (.ptr 1 0 0)), (30, .a (.lf (.sl (.int .i64)))), (31, .a (.lf (.int .i64))), (32, .a (.lf (.int .i64)))], mem := [(0, some (.raw [[.lf (.sl .str), .lf (.sl (.pr (.int .u8) (.pr .str (.pr (.sl (.int .i64)) (.pr (.int .i64) (.pr (.pr (.int .i64) (.int .i64)) (.pr (.pr (.int .i64) (.pr (.sl (.pr (.int .i64) (.int .i64))) (.sl (.int .i64)))) (.pr .str (.pr (.int .u8) (.pr (.sl (.pr (.int .i64) (.int .i64))) (.sl (.pr (.int .i64) (.int .i64))))))))))))), .lf (.int .i64), .lf (.int .i64), .lf (.int .i64)]] 5 27 true false false)), (1, some (.raw [[.lf (.int .u8), .lf .str, .lf (.sl (.int .i64)), .lf (.int .i64), .lf (.int .i64), .lf (.int .i64), .lf (.int .i64), .lf (.sl (.pr (.int .i64) (.int .i64))), .lf (.sl (.int .i64)), .lf .str, .lf (.int .u8), .lf (.sl (.pr (.int .i64) (.int .i64))), .lf (.sl (.pr (.int .i64) (.int .i64)))]] 13 38 true false false))], nx := 2 }]
def osflat_right_0 : List OS := [⟨none, { fr := [(4, .a (.lf .bool))], mem := [(0, some (.raw [[.lf (.sl .str), .lf (.sl (.pr (.int .u8) (.pr .str (.pr (.sl (.int .i64)) (.pr (.int .i64) (.pr (.pr (.int .i64) (.int .i64)) (.pr (.pr (.int .i64) (.pr (.sl (.pr (.int .i64) (.int .i64))) (.sl (.int .i64)))) (.pr .str (.pr (.int .u8) (.pr (.sl (.pr (.int .i64) (.int .i64))) (.sl (.pr (.int .i64) (.int .i64))))))))))))), .lf (.int .i64), .lf (.int .i64), .lf (.int .i64)]] 5 27 true false false)), (1, some (.raw [[.lf (.int .u8), .lf .str, .lf (.sl (.int .i64)), .lf (.int .i64), .lf (.int .i64), .lf (.int .i64), .lf (.int .i64), .lf (.sl (.pr (.int .i64) (.int .i64))), .lf (.sl (.int .i64)), .lf .str, .lf (.int .u8), .lf (.sl (.pr (.int .i64) (.int .i64))), .lf (.sl (.pr (.int .i64) (.int .i64)))]] 13 38 true false false))], nx := 2 }⟩, ⟨some 0, { fr := [(2, .a (.ptr 0 0 0)), (3, .a (.ptr 1 0 0))], mem := [(0, some (.raw [[.lf (.sl .str), .lf (.sl (.pr (.int .u8) (.pr .str (.pr (.sl (.int .i64)) (.pr (.int .i64) (.pr (.pr (.int .i64) (.int .i64)) (.pr (.pr (.int .i64) (.pr (.sl (.pr (.int .i64) (.int .i64))) (.sl (.int .i64)))) (.pr .str (.pr (.int .u8) (.pr (.sl (.pr (.int .i64) (.int .i64))) (.sl (.pr (.int .i64) (.int .i64))))))))))))), .lf (.int .i64), .lf (.int .i64), .lf (.int .i64)]] 5 27 true false false)), (1, some (.raw [[.lf (.int .u8), .lf .str, .lf (.sl (.int .i64)), .lf (.int .i64), .lf (.int .i64), .lf (.int .i64), .lf (.int .i64), .lf (.sl (.pr (.int .i64) (.int .i64))), .lf (.sl (.int .i64)), .lf .str, .lf (.int .u8), .lf (.sl (.pr (.int .i64) (.int .i64))), .lf (.sl (.pr (.int .i64) (.int .i64)))]] 13 38 true false false))], nx := 2 }⟩]
def LIflat_right_0 (k : Nat) : LInst := ⟨0, hsflat_right_0, osflat_right_0, fun x => Lflat_right_0 k k x.1 x.2.1 x.2.2.1 x.2.2.2.1 x.2.2.2.2.1 x.2.2.2.2.2.1 x.2.2.2.2.2.2.1 x.2.2.2.2.2.2.2.1 x.2.2.2.2.2.2.2.2.1 x.2.2.2.2.2.2.2.2.2.1 x.2.2.2.2.2.2.2.2.2.2.1 x.2.2.2.2.2.2.2.2.2.2.2.1 x.2.2.2.2.2.2.2.2.2.2.2.2.1 x.2.2.2.2.2.2.2.2.2.2.2.2.2.1 x.2.2.2.2.2.2.2.2.2.2.2.2.2.2.1 x.2.2.2.2.2.2.2.2.2.2.2.2.2.2.2.1 x.2.2.2.2.2.2.2.2.2.2.2.2.2.2.2.2.1 x.2.2.2.2.2.2.2.2.2.2.2.2.2.2.2.2.2.1 x.2.2.2.2.2.2.2.2.2.2.2.2.2.2.2.2.2.2.1 x.2.2.2.2.2.2.2.2.2.2.2.2.2.2.2.2.2.2.2.1 x.2.2.2.2.2.2.2.2.2.2.2.2.2.2.2.2.2.2.2.2⟩
theorem anflat_right_0 (k : Nat) : LAll (LOk (R := DS OS.D osflat_right_0) (fun b _ σ K => LOt Ty (kps 42) 0 b σ K []) cf (call cf k) (kps 42) Tryd.f42.ntmps k 0) 0 (lb Tryd.f42 0) :=
  And.intro (True.intro) (And.intro (And.intro (True.intro) (True.intro)) (And.intro (And.intro (True.intro) (And.intro (True.intro) (And.intro (And.intro (True.intro) (True.intro)) (True.intro)))) (True.intro)))
theorem stflat_right_0 (k n : Nat) (x : DS SS.D hsflat_right_0) : Lflat_right_0 k (n + 1) x.1 x.2.1 x.2.2.1 x.2.2.2.1 x.2.2.2.2.1 x.2.2.2.2.2.1 x.2.2.2.2.2.2.1 x.2.2.2.2.2.2.2.1 x.2.2.2.2.2.2.2.2.1 x.2.2.2.2.2.2.2.2.2.1 x.2.2.2.2.2.2.2.2.2.2.1 x.2.2.2.2.2.2.2.2.2.2.2.1 x.2.2.2.2.2.2.2.2.2.2.2.2.1 x.2.2.2.2.2.2.2.2.2.2.2.2.2.1 x.2.2.2.2.2.2.2.2.2.2.2.2.2.2.1 x.2.2.2.2.2.2.2.2.2.2.2.2.2.2.2.1 x.2.2.2.2.2.2.2.2.2.2.2.2.2.2.2.2.1 x.2.2.2.2.2.2.2.2.2.2.2.2.2.2.2.2.2.1 x.2.2.2.2.2.2.2.2.2.2.2.2.2.2.2.2.2.2.1 x.2.2.2.2.2.2.2.2.2.2.2.2.2.2.2.2.2.2.2.1 x.2.2.2.2.2.2.2.2.2.2.2.2.2.2.2.2.2.2.2.2 = encSK SS.enc (fun σ => run2 cf (fun f a b K => COt f a b K [Iflat_long k, Iwave_Valid k, Iflat_noModel k, Iflat_noWave k, Imodel_Valid k, Inum_Valid k]) (fun b _ σ K => LOt Ty (kps 42) 0 b σ K []) Tryd.f42.ntmps 0 (lb Tryd.f42 0) σ (nextK Ty (kps 42 0) 0 hsflat_right_0 osflat_right_0 fun x => Lflat_right_0 k n x.1 x.2.1 x.2.2.1 x.2.2.2.1 x.2.2.2.2.1 x.2.2.2.2.2.1 x.2.2.2.2.2.2.1 x.2.2.2.2.2.2.2.1 x.2.2.2.2.2.2.2.2.1 x.2.2.2.2.2.2.2.2.2.1 x.2.2.2.2.2.2.2.2.2.2.1 x.2.2.2.2.2.2.2.2.2.2.2.1 x.2.2.2.2.2.2.2.2.2.2.2.2.1 x.2.2.2.2.2.2.2.2.2.2.2.2.2.1 x.2.2.2.2.2.2.2.2.2.2.2.2.2.2.1 x.2.2.2.2.2.2.2.2.2.2.2.2.2.2.2.1 x.2.2.2.2.2.2.2.2.2.2.2.2.2.2.2.2.1 x.2.2.2.2.2.2.2.2.2.2.2.2.2.2.2.2.2.1 x.2.2.2.2.2.2.2.2.2.2.2.2.2.2.2.2.2.2.1 x.2.2.2.2.2.2.2.2.2.2.2.2.2.2.2.2.2.2.2.1 x.2.2.2.2.2.2.2.2.2.2.2.2.2.2.2.2.2.2.2.2)) hsflat_right_0 x := by kernel_rfl
theorem loflat_right_0 (k : Nat) : LIOk cf (call cf k) (kps 42) Tryd.f42.ntmps k 0 0 (lb Tryd.f42 0) (LIflat_right_0 k) :=
  loop_ok (c := cf) (callF := call cf k) (kp := kps 42) (nt := Tryd.f42.ntmps) (k := k) (p := 0) (b := 0) (x0 := lb Tryd.f42 0) (hs := hsflat_right_0) (os := osflat_right_0) (COt_ok (alflat_right k)) (anflat_right_0 k) (fun n x => Lflat_right_0 k n x.1 x.2.1 x.2.2.1 x.2.2.2.1 x.2.2.2.2.1 x.2.2.2.2.2.1 x.2.2.2.2.2.2.1 x.2.2.2.2.2.2.2.1 x.2.2.2.2.2.2.2.2.1 x.2.2.2.2.2.2.2.2.2.1 x.2.2.2.2.2.2.2.2.2.2.1 x.2.2.2.2.2.2.2.2.2.2.2.1 x.2.2.2.2.2.2.2.2.2.2.2.2.1 x.2.2.2.2.2.2.2.2.2.2.2.2.2.1 x.2.2.2.2.2.2.2.2.2.2.2.2.2.2.1 x.2.2.2.2.2.2.2.2.2.2.2.2.2.2.2.1 x.2.2.2.2.2.2.2.2.2.2.2.2.2.2.2.2.1 x.2.2.2.2.2.2.2.2.2.2.2.2.2.2.2.2.2.1 x.2.2.2.2.2.2.2.2.2.2.2.2.2.2.2.2.2.2.1 x.2.2.2.2.2.2.2.2.2.2.2.2.2.2.2.2.2.2.2.1 x.2.2.2.2.2.2.2.2.2.2.2.2.2.2.2.2.2.2.2.2) (fun _ => rfl) (stflat_right_0 k)
theorem anflat_right (k : Nat) : LAll (LOk (R := DS FS.D rsflat_right) (fun b _ σ K => LOt Ty (kps 42) 0 b σ K [LIflat_right_0 k]) cf (call cf k) (cf.keep 42) Tryd.f42.ntmps k shflat_right.bs.length) 0 (bd Tryd.f42) :=
  And.intro (True.intro) (And.intro (True.intro) (And.intro (And.intro (True.intro) (And.intro (And.intro (True.intro) (True.intro)) (True.intro))) (And.intro (And.intro (True.intro) (LOt_ok (c := cf) (callF := call cf k) (kp := kps 42) (nt := Tryd.f42.ntmps) (k := k) (p := 0) (b := 0) (x0 := lb Tryd.f42 0) (l := [LIflat_right_0 k]) (And.intro (fun _ => loflat_right_0 k) (True.intro)))) (And.intro (And.intro (True.intro) (And.intro (And.intro (True.intro) (And.intro (True.intro) (True.intro))) (And.intro (And.intro (True.intro) (True.intro)) (And.intro (And.intro (True.intro) (And.intro (True.intro) (True.intro))) (And.intro (And.intro (True.intro) (True.intro)) (And.intro (And.intro (True.intro) (And.intro (True.intro) (True.intro))) (And.intro (And.intro (True.intro) (And.intro (And.intro (True.intro) (True.intro)) (True.intro))) (And.intro (True.intro) (And.intro (And.intro (True.intro) (True.intro)) (True.intro)))))))))) (And.intro (True.intro) (And.intro (True.intro) (True.intro)))))))
theorem stflat_right (k : Nat) (x : shflat_right.D) : Fflat_right (k + 1) x.1 x.2.1 x.2.2.1 x.2.2.2.1 x.2.2.2.2.1 x.2.2.2.2.2.1 x.2.2.2.2.2.2.1 x.2.2.2.2.2.2.2.1 x.2.2.2.2.2.2.2.2.1 x.2.2.2.2.2.2.2.2.2.1 x.2.2.2.2.2.2.2.2.2.2.1 x.2.2.2.2.2.2.2.2.2.2.2.1 x.2.2.2.2.2.2.2.2.2.2.2.2.1 x.2.2.2.2.2.2.2.2.2.2.2.2.2.1 x.2.2.2.2.2.2.2.2.2.2.2.2.2.2.1 x.2.2.2.2.2.2.2.2.2.2.2.2.2.2.2.1 x.2.2.2.2.2.2.2.2.2.2.2.2.2.2.2.2.1 x.2.2.2.2.2.2.2.2.2.2.2.2.2.2.2.2.2 = body2 cf (fun f a b K => COt f a b K [Iflat_long k, Iwave_Valid k, Iflat_noModel k, Iflat_noWave k, Imodel_Valid k, Inum_Valid k]) (fun b _ σ K => LOt Ty (kps 42) 0 b σ K [LIflat_right_0 k]) 42 Tryd.f42.ntmps Tryd.f42.results.toList (bd Tryd.f42) (shflat_right.enc x).1 (shflat_right.enc x).2 (putS FS.dec rsflat_right) := by kernel_rfl
theorem okflat_right : ∀ k, InstOk (call cf k) (Iflat_right k)
  | 0 => fun x y e => absurd (show (none : Option _) = some y from e) (by simp)
  | k + 1 => inst_ok (c := cf) (k := k) (f := 42) (fn := Tryd.f42) (body := bd Tryd.f42) (sh := shflat_right) (os := rsflat_right) rfl Tryd.func42 rfl ⟨rfl, Nat.le_of_ble_eq_true rfl⟩ (COt_ok (alflat_right k)) (anflat_right k) (fun x => Fflat_right (k + 1) x.1 x.2.1 x.2.2.1 x.2.2.2.1 x.2.2.2.2.1 x.2.2.2.2.2.1 x.2.2.2.2.2.2.1 x.2.2.2.2.2.2.2.1 x.2.2.2.2.2.2.2.2.1 x.2.2.2.2.2.2.2.2.2.1 x.2.2.2.2.2.2.2.2.2.2.1 x.2.2.2.2.2.2.2.2.2.2.2.1 x.2.2.2.2.2.2.2.2.2.2.2.2.1 x.2.2.2.2.2.2.2.2.2.2.2.2.2.1 x.2.2.2.2.2.2.2.2.2.2.2.2.2.2.1 x.2.2.2.2.2.2.2.2.2.2.2.2.2.2.2.1 x.2.2.2.2.2.2.2.2.2.2.2.2.2.2.2.2.1 x.2.2.2.2.2.2.2.2.2.2.2.2.2.2.2.2.2) (stflat_right k)

/-! strings.IndexByte -/
def bstrings_IndexByte (k : Nat) (s : ByteArray) (c : Int) : Option (Int) :=
  (some (idxB s c))
def Fstrings_IndexByte : Nat → ByteArray → Int → Option (Int)
  | 0, _, _ => none
  | k + 1, s, c => bstrings_IndexByte k s c
def shstrings_IndexByte : FS := { vs := [.a (.lf .str), .a (.lf (.int .u8))], bs := [] }
def rsstrings_IndexByte : List FS := [{ vs := [.a (.lf (.int .i64))], bs := [] }]
def Istrings_IndexByte (k : Nat) : Inst := ⟨22, shstrings_IndexByte, rsstrings_IndexByte, fun x => Fstrings_IndexByte k x.1 x.2⟩
theorem alstrings_IndexByte (k : Nat) : AllI (call cf k) [] := True.intro
theorem ststrings_IndexByte (k : Nat) (x : shstrings_IndexByte.D) : Fstrings_IndexByte (k + 1) x.1 x.2 = (kIndexByte) (DS FS.D rsstrings_IndexByte) (shstrings_IndexByte.enc x).1 (shstrings_IndexByte.enc x).2 (putS FS.dec rsstrings_IndexByte) := by kernel_rfl
theorem okstrings_IndexByte : ∀ k, InstOk (call cf k) (Istrings_IndexByte k)
  | 0 => fun x y e => absurd (show (none : Option _) = some y from e) (by simp)
  | k + 1 => inst_okX (c := cf) (k := k) (f := 22) (g := gIndexByte) (G := kIndexByte) (sh := shstrings_IndexByte) (os := rsstrings_IndexByte) rfl (kIndexByte_at) (fun x => Fstrings_IndexByte (k + 1) x.1 x.2) (ststrings_IndexByte k)

/-! shunt/flat.count -/
def Lflat_count_0s (k : Nat) (rec : Int → Nat → List (Int × ByteArray × List Int × Int × (Int × Int) × (Int × List (Int × Int) × List Int) × ByteArray × Int × List (Int × Int) × List (Int × Int)) → Int → Int → List Int → Option (Int × Nat × List Int)) (n : Int) (branch : Nat) (x : List (Int × ByteArray × List Int × Int × (Int × Int) × (Int × List (Int × Int) × List Int) × ByteArray × Int × List (Int × Int) × List (Int × Int))) (x1 : Int) (x2 : Int) (branchs : List Int) : Option (Int × Nat × List Int) :=
  if ((decide (x2 < x1)) = true) then
    if ((0 : Int) ≤ x2) then
      Option.bind (x)[(Int.toNat x2)]? fun x3 =>
      Option.bind (Fstrings_IndexByte k (ByteArray.mk (List.toArray (118 :: (101 :: (104 :: (99 :: (108 :: (116 :: [])))))))) x3.1) fun r6 =>
      if ((decide (r6 ≥ (0 : Int))) = true) then
        if (branch ≤ (List.length branchs)) then
          if (((branch + (List.length (List.take 1 (n :: [])))) * 8) ≤ 140737488355328) then
            rec (IntKind.wrap .i64 (n + (1 : Int))) (branch + (List.length (List.take 1 (n :: [])))) x x1 (IntKind.wrap .i64 (x2 + (1 : Int))) ((List.take branch branchs) ++ (List.take 1 (n :: [])))
          else
          none
        else
        none
      else
      if (branch ≤ (List.length branchs)) then
        if (((branch + 1) * 8) ≤ 140737488355328) then
          rec n (branch + 1) x x1 (IntKind.wrap .i64 (x2 + (1 : Int))) ((List.take branch branchs) ++ (List.take 1 ((-(1 : Int)) :: [])))
        else
        none
      else
      none
    else
    none
  else
  (some (n, branch, branchs))
def Lflat_count_0 (k n : Nat) : Int → Nat → List (Int × ByteArray × List Int × Int × (Int × Int) × (Int × List (Int × Int) × List Int) × ByteArray × Int × List (Int × Int) × List (Int × Int)) → Int → Int → List Int → Option (Int × Nat × List Int) := Nat.rec (fun _ _ _ _ _ _ => none) (fun _ r => Lflat_count_0s k r) n
def bflat_count (k : Nat) (f0 : List ByteArray) (f1 : List (Int × ByteArray × List Int × Int × (Int × Int) × (Int × List (Int × Int) × List Int) × ByteArray × Int × List (Int × Int) × List (Int × Int))) (f2 : Int) (f3 : Int) (f4 : Int) : Option (Int × List Int) :=
  Option.bind (Lflat_count_0 k k (IntKind.wrap .i64 ((((List.length f0) : Nat) : Int) - (1 : Int))) 0 f1 (((List.length f1) : Nat) : Int) (0 : Int) []) fun r6 =>
  if ((0 + r6.2.1) ≤ (List.length r6.2.2)) then
    (some (r6.1, (List.take r6.2.1 r6.2.2)))
  else
  none
def Fflat_count : Nat → List ByteArray → List (Int × ByteArray × List Int × Int × (Int × Int) × (Int × List (Int × Int) × List Int) × ByteArray × Int × List (Int × Int) × List (Int × Int)) → Int → Int → Int → Option (Int × List Int)
  | 0, _, _, _, _, _ => none
  | k + 1, f0, f1, f2, f3, f4 => bflat_count k f0 f1 f2 f3 f4
def shflat_count : FS := { vs := [.g [.lf (.sl .str), .lf (.sl (.pr (.int .u8) (.pr .str (.pr (.sl (.int .i64)) (.pr (.int .i64) (.pr (.pr (.int .i64) (.int .i64)) (.pr (.pr (.int .i64) (.pr (.sl (.pr (.int .i64) (.int .i64))) (.sl (.int .i64)))) (.pr .str (.pr (.int .u8) (.pr (.sl (.pr (.int .i64) (.int .i64))) (.sl (.pr (.int .i64) (.int .i64))))))))))))), .lf (.int .i64), .lf (.int .i64), .lf (.int .i64)]], bs := [] }
def rsflat_count : List FS := [{ vs := [.a (.lf (.int .i64)), .a (.lf (.sl (.int .i64)))], bs := [] }]
def Iflat_count (k : Nat) : Inst := ⟨43, shflat_count, rsflat_count, fun x => Fflat_count k x.1 x.2.1 x.2.2.1 x.2.2.2.1 x.2.2.2.2⟩
theorem alflat_count (k : Nat) : AllI (call cf k) [Istrings_IndexByte k] := And.intro (okstrings_IndexByte k) (True.intro)
def hsflat_count_0 : List SS := [{ fr := [(4, .a (.lf (.int .i64))), (5, .a (.smz 0)), (14, .a (.lf (.sl (.pr (.int .u8) (.pr .str (.pr (.sl (.int .i64)) (.pr (.int .i64) (.pr (.pr (.int .i64) (.int .i64)) (.pr (.pr (.int .i64) (.pr (.sl (.pr (.int .i64) (.int .i64))) (.sl (.int .i64)))) (.pr .str (.pr (.int .u8) (.pr (.sl (.pr (.int .i64) (.int .i64))) (.sl (.pr (.int .i64) (.int .i64))))))))))))))), (15, .a (.lf (.int .i64))), (16, .a (.lf (.int .i64)))], mem := [(0, some (.arr (.int .i64) 1 3 false))], nx := 1 }]
def osflat_count_0 : List OS := [⟨some 0, { fr := [(4, .a (.lf (.int .i64))), (5, .a (.smz 0))], mem := [(0, some (.arr (.int .i64) 1 3 false))], nx := 1 }⟩]
def LIflat_count_0 (k : Nat) : LInst := ⟨0, hsflat_count_0, osflat_count_0, fun x => Lflat_count_0 k k x.1 x.2.1 x.2.2.1 x.2.2.2.1 x.2.2.2.2.1 x.2.2.2.2.2⟩
theorem anflat_count_0 (k : Nat) : LAll (LOk (R := DS OS.D osflat_count_0) (fun b _ σ K => LOt Ty (kps 43) 0 b σ K []) cf (call cf k) (kps 43) Tryd.f43.ntmps k 0) 0 (lb Tryd.f43 0) :=
  And.intro (True.intro) (And.intro (And.intro (True.intro) (True.intro)) (And.intro (And.intro (True.intro) (And.intro (True.intro) (And.intro (And.intro (True.intro) (And.intro (And.intro (True.intro) (True.intro)) (True.intro))) (True.intro)))) (True.intro)))
theorem stflat_count_0 (k n : Nat) (x : DS SS.D hsflat_count_0) : Lflat_count_0 k (n + 1) x.1 x.2.1 x.2.2.1 x.2.2.2.1 x.2.2.2.2.1 x.2.2.2.2.2 = encSK SS.enc (fun σ => run2 cf (fun f a b K => COt f a b K [Istrings_IndexByte k]) (fun b _ σ K => LOt Ty (kps 43) 0 b σ K []) Tryd.f43.ntmps 0 (lb Tryd.f43 0) σ (nextK Ty (kps 43 0) 0 hsflat_count_0 osflat_count_0 fun x => Lflat_count_0 k n x.1 x.2.1 x.2.2.1 x.2.2.2.1 x.2.2.2.2.1 x.2.2.2.2.2)) hsflat_count_0 x := by kernel_rfl
theorem loflat_count_0 (k : Nat) : LIOk cf (call cf k) (kps 43) Tryd.f43.ntmps k 0 0 (lb Tryd.f43 0) (LIflat_count_0 k) :=
  loop_ok (c := cf) (callF := call cf k) (kp := kps 43) (nt := Tryd.f43.ntmps) (k := k) (p := 0) (b := 0) (x0 := lb Tryd.f43 0) (hs := hsflat_count_0) (os := osflat_count_0) (COt_ok (alflat_count k)) (anflat_count_0 k) (fun n x => Lflat_count_0 k n x.1 x.2.1 x.2.2.1 x.2.2.2.1 x.2.2.2.2.1 x.2.2.2.2.2) (fun _ => rfl) (stflat_count_0 k)
theorem anflat_count (k : Nat) : LAll (LOk (R := DS FS.D rsflat_count) (fun b _ σ K => LOt Ty (kps 43) 0 b σ K [LIflat_count_0 k]) cf (call cf k) (cf.keep 43) Tryd.f43.ntmps k shflat_count.bs.length) 0 (bd Tryd.f43) :=
  And.intro (True.intro) (And.intro (True.intro) (And.intro (True.intro) (And.intro (And.intro (True.intro) (LOt_ok (c := cf) (callF := call cf k) (kp := kps 43) (nt := Tryd.f43.ntmps) (k := k) (p := 0) (b := 0) (x0 := lb Tryd.f43 0) (l := [LIflat_count_0 k]) (And.intro (fun _ => loflat_count_0 k) (True.intro)))) (And.intro (True.intro) (True.intro)))))
theorem stflat_count (k : Nat) (x : shflat_count.D) : Fflat_count (k + 1) x.1 x.2.1 x.2.2.1 x.2.2.2.1 x.2.2.2.2 = body2 cf (fun f a b K => COt f a b K [Istrings_IndexByte k]) (fun b _ σ K => LOt Ty (kps 43) 0 b σ K [LIflat_count_0 k]) 43 Tryd.f43.ntmps Tryd.f43.results.toList (bd Tryd.f43) (shflat_count.enc x).1 (shflat_count.enc x).2 (putS FS.dec rsflat_count) := by kernel_rfl
theorem okflat_count : ∀ k, InstOk (call cf k) (Iflat_count k)
  | 0 => fun x y e => absurd (show (none : Option _) = some y from e) (by simp)
  | k + 1 => inst_ok (c := cf) (k := k) (f := 43) (fn := Tryd.f43) (body := bd Tryd.f43) (sh := shflat_count) (os := rsflat_count) rfl Tryd.func43 rfl ⟨rfl, Nat.le_of_ble_eq_true rfl⟩ (COt_ok (alflat_count k)) (anflat_count k) (fun x => Fflat_count (k + 1) x.1 x.2.1 x.2.2.1 x.2.2.2.1 x.2.2.2.2) (stflat_count k)

/-! shunt/flat.Check -/
def Lflat_Check_0s (k : Nat) (rec : List ByteArray → Int → Int → List ByteArray → List (Int × ByteArray × List Int × Int × (Int × Int) × (Int × List (Int × Int) × List Int) × ByteArray × Int × List (Int × Int) × List (Int × Int)) → Int → Int → Int → Option ((Int × List ByteArray × List (Int × ByteArray × List Int × Int × (Int × Int) × (Int × List (Int × Int) × List Int) × ByteArray × Int × List (Int × Int) × List (Int × Int)) × Int × Int × Int) ⊕ (List ByteArray × List (Int × ByteArray × List Int × Int × (Int × Int) × (Int × List (Int × Int) × List Int) × ByteArray × Int × List (Int × Int) × List (Int × Int)) × Int × Int × Int))) (x : List ByteArray) (x1 : Int) (x2 : Int) (f0 : List ByteArray) (f1 : List (Int × ByteArray × List Int × Int × (Int × Int) × (Int × List (Int × Int) × List Int) × ByteArray × Int × List (Int × Int) × List (Int × Int))) (f2 : Int) (f3 : Int) (f4 : Int) : Option ((Int × List ByteArray × List (Int × ByteArray × List Int × Int × (Int × Int) × (Int × List (Int × Int) × List Int) × ByteArray × Int × List (Int × Int) × List (Int × Int)) × Int × Int × Int) ⊕ (List ByteArray × List (Int × ByteArray × List Int × Int × (Int × Int) × (Int × List (Int × Int) × List Int) × ByteArray × Int × List (Int × Int) × List (Int × Int)) × Int × Int × Int)) :=
  if ((decide (x2 < x1)) = true) then
    if ((0 : Int) ≤ x2) then
      Option.bind (x)[(Int.toNat x2)]? fun x3 =>
      Option.bind (Fflat_long k x3) fun r3 =>
      if ((!r3) = true) then
        (some (Sum.inl ((90 : Int), f0, f1, f2, f3, f4)))
      else
      rec x x1 (IntKind.wrap .i64 (x2 + (1 : Int))) f0 f1 f2 f3 f4
    else
    none
  else
  (some (Sum.inr (f0, f1, f2, f3, f4)))
def Lflat_Check_0 (k n : Nat) : List ByteArray → Int → Int → List ByteArray → List (Int × ByteArray × List Int × Int × (Int × Int) × (Int × List (Int × Int) × List Int) × ByteArray × Int × List (Int × Int) × List (Int × Int)) → Int → Int → Int → Option ((Int × List ByteArray × List (Int × ByteArray × List Int × Int × (Int × Int) × (Int × List (Int × Int) × List Int) × ByteArray × Int × List (Int × Int) × List (Int × Int)) × Int × Int × Int) ⊕ (List ByteArray × List (Int × ByteArray × List Int × Int × (Int × Int) × (Int × List (Int × Int) × List Int) × ByteArray × Int × List (Int × Int) × List (Int × Int)) × Int × Int × Int)) := Nat.rec (fun _ _ _ _ _ _ _ _ => none) (fun _ r => Lflat_Check_0s k r) n
def Lflat_Check_2s (k : Nat) (rec : Nat → List (Int × ByteArray × List Int × Int × (Int × Int) × (Int × List (Int × Int) × List Int) × ByteArray × Int × List (Int × Int) × List (Int × Int)) → Int → Int → List ByteArray → List (Int × ByteArray × List Int × Int × (Int × Int) × (Int × List (Int × Int) × List Int) × ByteArray × Int × List (Int × Int) × List (Int × Int)) → Int → Int → Int → List ByteArray → Option ((Int × List ByteArray × List (Int × ByteArray × List Int × Int × (Int × Int) × (Int × List (Int × Int) × List Int) × ByteArray × Int × List (Int × Int) × List (Int × Int)) × Int × Int × Int × List ByteArray × Int × ByteArray × List Int × Int × Int × Int × Int × List (Int × Int) × List Int × ByteArray × Int × List (Int × Int) × List (Int × Int)) ⊕ (Nat × List ByteArray × List (Int × ByteArray × List Int × Int × (Int × Int) × (Int × List (Int × Int) × List Int) × ByteArray × Int × List (Int × Int) × List (Int × Int)) × Int × Int × Int × List ByteArray))) (names : Nat) (x : List (Int × ByteArray × List Int × Int × (Int × Int) × (Int × List (Int × Int) × List Int) × ByteArray × Int × List (Int × Int) × List (Int × Int))) (x1 : Int) (x2 : Int) (f0 : List ByteArray) (f1 : List (Int × ByteArray × List Int × Int × (Int × Int) × (Int × List (Int × Int) × List Int) × ByteArray × Int × List (Int × Int) × List (Int × Int))) (f2 : Int) (f3 : Int) (f4 : Int) (namess : List ByteArray) : Option ((Int × List ByteArray × List (Int × ByteArray × List Int × Int × (Int × Int) × (Int × List (Int × Int) × List Int) × ByteArray × Int × List (Int × Int) × List (Int × Int)) × Int × Int × Int × List ByteArray × Int × ByteArray × List Int × Int × Int × Int × Int × List (Int × Int) × List Int × ByteArray × Int × List (Int × Int) × List (Int × Int)) ⊕ (Nat × List ByteArray × List (Int × ByteArray × List Int × Int × (Int × Int) × (Int × List (Int × Int) × List Int) × ByteArray × Int × List (Int × Int) × List (Int × Int)) × Int × Int × Int × List ByteArray)) :=
  if ((decide (x2 < x1)) = true) then
    if ((0 : Int) ≤ x2) then
      Option.bind (x)[(Int.toNat x2)]? fun x3 =>
      Option.bind (Fflat_right k f0 f1 f2 f3 f4 x3.1 x3.2.1 x3.2.2.1 x3.2.2.2.1 x3.2.2.2.2.1.1 x3.2.2.2.2.1.2 x3.2.2.2.2.2.1.1 x3.2.2.2.2.2.1.2.1 x3.2.2.2.2.2.1.2.2 x3.2.2.2.2.2.2.1 x3.2.2.2.2.2.2.2.1 x3.2.2.2.2.2.2.2.2.1 x3.2.2.2.2.2.2.2.2.2) fun r4 =>
      if ((!r4) = true) then
        (some (Sum.inl ((90 : Int), f0, f1, f2, f3, f4, namess, x3.1, x3.2.1, x3.2.2.1, x3.2.2.2.1, x3.2.2.2.2.1.1, x3.2.2.2.2.1.2, x3.2.2.2.2.2.1.1, x3.2.2.2.2.2.1.2.1, x3.2.2.2.2.2.1.2.2, x3.2.2.2.2.2.2.1, x3.2.2.2.2.2.2.2.1, x3.2.2.2.2.2.2.2.2.1, x3.2.2.2.2.2.2.2.2.2)))
      else
      if (names ≤ (List.length namess)) then
        if (((names + (List.length (List.take 1 (x3.2.1 :: [])))) * 16) ≤ 140737488355328) then
          rec (names + (List.length (List.take 1 (x3.2.1 :: [])))) x x1 (IntKind.wrap .i64 (x2 + (1 : Int))) f0 f1 f2 f3 f4 ((List.take names namess) ++ (List.take 1 (x3.2.1 :: [])))
        else
        none
      else
      none
    else
    none
  else
  (some (Sum.inr (names, f0, f1, f2, f3, f4, namess)))
def Lflat_Check_2 (k n : Nat) : Nat → List (Int × ByteArray × List Int × Int × (Int × Int) × (Int × List (Int × Int) × List Int) × ByteArray × Int × List (Int × Int) × List (Int × Int)) → Int → Int → List ByteArray → List (Int × ByteArray × List Int × Int × (Int × Int) × (Int × List (Int × Int) × List Int) × ByteArray × Int × List (Int × Int) × List (Int × Int)) → Int → Int → Int → List ByteArray → Option ((Int × List ByteArray × List (Int × ByteArray × List Int × Int × (Int × Int) × (Int × List (Int × Int) × List Int) × ByteArray × Int × List (Int × Int) × List (Int × Int)) × Int × Int × Int × List ByteArray × Int × ByteArray × List Int × Int × Int × Int × Int × List (Int × Int) × List Int × ByteArray × Int × List (Int × Int) × List (Int × Int)) ⊕ (Nat × List ByteArray × List (Int × ByteArray × List Int × Int × (Int × Int) × (Int × List (Int × Int) × List Int) × ByteArray × Int × List (Int × Int) × List (Int × Int)) × Int × Int × Int × List ByteArray)) := Nat.rec (fun _ _ _ _ _ _ _ _ _ _ => none) (fun _ r => Lflat_Check_2s k r) n
def bflat_Check (k : Nat) (f0 : List ByteArray) (f1 : List (Int × ByteArray × List Int × Int × (Int × Int) × (Int × List (Int × Int) × List Int) × ByteArray × Int × List (Int × Int) × List (Int × Int))) (f2 : Int) (f3 : Int) (f4 : Int) : Option (Int) :=
  Option.bind (Fnum_Valid k f2 f3) fun r1 =>
  if ((!r1) = false) then
    if ((decide (f2 ≤ (0 : Int))) = false) then
      if ((f4 != (1 : Int)) = true) then
        if ((f4 != (2 : Int)) = true) then
          (some (90 : Int))
        else
        if ((decide ((((List.length f0) : Nat) : Int) < (1 : Int))) = false) then
          if ((decide ((((List.length f0) : Nat) : Int) > (32 : Int))) = false) then
            Option.bind (f0)[0]? fun x =>
            if ((!((Array.toList (ByteArray.data x)) == (Array.toList (ByteArray.data (ByteArray.mk (List.toArray (48 :: []))))))) = false) then
              if ((decide ((((List.length f1) : Nat) : Int) > (64 : Int))) = false) then
                Option.bind (Fflat_twice k f0) fun r2 =>
                if (r2 = true) then
                  (some (90 : Int))
                else
                Option.bind (Lflat_Check_0 k k f0 (((List.length f0) : Nat) : Int) (0 : Int) f0 f1 f2 f3 f4) fun r3 =>
                eitherK r3
                  (fun r3 =>
                  (some r3.1))
                  (fun r3 =>
                  Option.bind (Lflat_Check_2 k k 0 r3.2.1 (((List.length r3.2.1) : Nat) : Int) (0 : Int) r3.1 r3.2.1 r3.2.2.1 r3.2.2.2.1 r3.2.2.2.2 []) fun r4 =>
                  eitherK r4
                    (fun r4 =>
                    (some r4.1))
                    (fun r4 =>
                    if ((0 + r4.1) ≤ (List.length r4.2.2.2.2.2.2)) then
                      Option.bind (Fflat_twice k (List.take r4.1 r4.2.2.2.2.2.2)) fun r5 =>
                      if (r5 = true) then
                        (some (90 : Int))
                      else
                      Option.bind (Fflat_count k r4.2.1 r4.2.2.1 r4.2.2.2.1 r4.2.2.2.2.1 r4.2.2.2.2.2.1) fun r6 =>
                      if ((decide (r6.1 > (48 : Int))) = true) then
                        (some (5 : Int))
                      else
                      (some (0 : Int))
                    else
                    none))
              else
              (some (90 : Int))
            else
            (some (90 : Int))
          else
          (some (90 : Int))
        else
        (some (90 : Int))
      else
      if ((decide ((((List.length f0) : Nat) : Int) < (1 : Int))) = false) then
        if ((decide ((((List.length f0) : Nat) : Int) > (32 : Int))) = false) then
          Option.bind (f0)[0]? fun x =>
          if ((!((Array.toList (ByteArray.data x)) == (Array.toList (ByteArray.data (ByteArray.mk (List.toArray (48 :: []))))))) = false) then
            if ((decide ((((List.length f1) : Nat) : Int) > (64 : Int))) = false) then
              Option.bind (Fflat_twice k f0) fun r2 =>
              if (r2 = true) then
                (some (90 : Int))
              else
              Option.bind (Lflat_Check_0 k k f0 (((List.length f0) : Nat) : Int) (0 : Int) f0 f1 f2 f3 f4) fun r3 =>
              eitherK r3
                (fun r3 =>
                (some r3.1))
                (fun r3 =>
                Option.bind (Lflat_Check_2 k k 0 r3.2.1 (((List.length r3.2.1) : Nat) : Int) (0 : Int) r3.1 r3.2.1 r3.2.2.1 r3.2.2.2.1 r3.2.2.2.2 []) fun r4 =>
                eitherK r4
                  (fun r4 =>
                  (some r4.1))
                  (fun r4 =>
                  if ((0 + r4.1) ≤ (List.length r4.2.2.2.2.2.2)) then
                    Option.bind (Fflat_twice k (List.take r4.1 r4.2.2.2.2.2.2)) fun r5 =>
                    if (r5 = true) then
                      (some (90 : Int))
                    else
                    Option.bind (Fflat_count k r4.2.1 r4.2.2.1 r4.2.2.2.1 r4.2.2.2.2.1 r4.2.2.2.2.2.1) fun r6 =>
                    if ((decide (r6.1 > (48 : Int))) = true) then
                      (some (5 : Int))
                    else
                    (some (0 : Int))
                  else
                  none))
            else
            (some (90 : Int))
          else
          (some (90 : Int))
        else
        (some (90 : Int))
      else
      (some (90 : Int))
    else
    (some (90 : Int))
  else
  (some (90 : Int))
def Fflat_Check : Nat → List ByteArray → List (Int × ByteArray × List Int × Int × (Int × Int) × (Int × List (Int × Int) × List Int) × ByteArray × Int × List (Int × Int) × List (Int × Int)) → Int → Int → Int → Option (Int)
  | 0, _, _, _, _, _ => none
  | k + 1, f0, f1, f2, f3, f4 => bflat_Check k f0 f1 f2 f3 f4
def shflat_Check : FS := { vs := [.g [.lf (.sl .str), .lf (.sl (.pr (.int .u8) (.pr .str (.pr (.sl (.int .i64)) (.pr (.int .i64) (.pr (.pr (.int .i64) (.int .i64)) (.pr (.pr (.int .i64) (.pr (.sl (.pr (.int .i64) (.int .i64))) (.sl (.int .i64)))) (.pr .str (.pr (.int .u8) (.pr (.sl (.pr (.int .i64) (.int .i64))) (.sl (.pr (.int .i64) (.int .i64))))))))))))), .lf (.int .i64), .lf (.int .i64), .lf (.int .i64)]], bs := [] }
def rsflat_Check : List FS := [{ vs := [.a (.lf (.int .i64))], bs := [] }]
def Iflat_Check (k : Nat) : Inst := ⟨30, shflat_Check, rsflat_Check, fun x => Fflat_Check k x.1 x.2.1 x.2.2.1 x.2.2.2.1 x.2.2.2.2⟩
theorem alflat_Check (k : Nat) : AllI (call cf k) [Inum_Valid k, Iflat_twice k, Iflat_long k, Iflat_right k, Iflat_count k] := And.intro (oknum_Valid k) (And.intro (okflat_twice k) (And.intro (okflat_long k) (And.intro (okflat_right k) (And.intro (okflat_count k) (True.intro)))))
def hsflat_Check_0 : List SS := [{ fr := [(1, .a (.ptr 0 0 0)), (59, .a (.lf (.sl .str))), (60, .a (.lf (.int .i64))), (61, .a (.lf (.int .i64)))], mem := [(0, some (.raw [[.lf (.sl .str), .lf (.sl (.pr (.int .u8) (.pr .str (.pr (.sl (.int .i64)) (.pr (.int .i64) (.pr (.pr (.int .i64) (.int .i64)) (.pr (.pr (.int .i64) (.pr (.sl (.pr (.int .i64) (.int .i64))) (.sl (.int .i64)))) (.pr .str (.pr (.int .u8) (.pr (.sl (.pr (.int .i64) (.int .i64))) (.sl (.pr (.int .i64) (.int .i64))))))))))))), .lf (.int .i64), .lf (.int .i64), .lf (.int .i64)]] 5 27 true false false))], nx := 1 }]
def osflat_Check_0 : List OS := [⟨none, { fr := [(2, .a (.lf (.int .i64)))], mem := [(0, some (.raw [[.lf (.sl .str), .lf (.sl (.pr (.int .u8) (.pr .str (.pr (.sl (.int .i64)) (.pr (.int .i64) (.pr (.pr (.int .i64) (.int .i64)) (.pr (.pr (.int .i64) (.pr (.sl (.pr (.int .i64) (.int .i64))) (.sl (.int .i64)))) (.pr .str (.pr (.int .u8) (.pr (.sl (.pr (.int .i64) (.int .i64))) (.sl (.pr (.int .i64) (.int .i64))))))))))))), .lf (.int .i64), .lf (.int .i64), .lf (.int .i64)]] 5 27 true false false))], nx := 1 }⟩, ⟨some 0, { fr := [(1, .a (.ptr 0 0 0))], mem := [(0, some (.raw [[.lf (.sl .str), .lf (.sl (.pr (.int .u8) (.pr .str (.pr (.sl (.int .i64)) (.pr (.int .i64) (.pr (.pr (.int .i64) (.int .i64)) (.pr (.pr (.int .i64) (.pr (.sl (.pr (.int .i64) (.int .i64))) (.sl (.int .i64)))) (.pr .str (.pr (.int .u8) (.pr (.sl (.pr (.int .i64) (.int .i64))) (.sl (.pr (.int .i64) (.int .i64))))))))))))), .lf (.int .i64), .lf (.int .i64), .lf (.int .i64)]] 5 27 true false false))], nx := 1 }⟩]
def LIflat_Check_0 (k : Nat) : LInst := ⟨0, hsflat_Check_0, osflat_Check_0, fun x => Lflat_Check_0 k k x.1 x.2.1 x.2.2.1 x.2.2.2.1 x.2.2.2.2.1 x.2.2.2.2.2.1 x.2.2.2.2.2.2.1 x.2.2.2.2.2.2.2⟩
theorem anflat_Check_0 (k : Nat) : LAll (LOk (R := DS OS.D osflat_Check_0) (fun b _ σ K => LOt Ty (kps 30) 0 b σ K []) cf (call cf k) (kps 30) Tryd.f30.ntmps k 0) 0 (lb Tryd.f30 0) :=
  And.intro (True.intro) (And.intro (And.intro (True.intro) (True.intro)) (And.intro (And.intro (True.intro) (And.intro (True.intro) (And.intro (And.intro (True.intro) (True.intro)) (True.intro)))) (True.intro)))
theorem stflat_Check_0 (k n : Nat) (x : DS SS.D hsflat_Check_0) : Lflat_Check_0 k (n + 1) x.1 x.2.1 x.2.2.1 x.2.2.2.1 x.2.2.2.2.1 x.2.2.2.2.2.1 x.2.2.2.2.2.2.1 x.2.2.2.2.2.2.2 = encSK SS.enc (fun σ => run2 cf (fun f a b K => COt f a b K [Inum_Valid k, Iflat_twice k, Iflat_long k, Iflat_right k, Iflat_count k]) (fun b _ σ K => LOt Ty (kps 30) 0 b σ K []) Tryd.f30.ntmps 0 (lb Tryd.f30 0) σ (nextK Ty (kps 30 0) 0 hsflat_Check_0 osflat_Check_0 fun x => Lflat_Check_0 k n x.1 x.2.1 x.2.2.1 x.2.2.2.1 x.2.2.2.2.1 x.2.2.2.2.2.1 x.2.2.2.2.2.2.1 x.2.2.2.2.2.2.2)) hsflat_Check_0 x := by kernel_rfl
theorem loflat_Check_0 (k : Nat) : LIOk cf (call cf k) (kps 30) Tryd.f30.ntmps k 0 0 (lb Tryd.f30 0) (LIflat_Check_0 k) :=
  loop_ok (c := cf) (callF := call cf k) (kp := kps 30) (nt := Tryd.f30.ntmps) (k := k) (p := 0) (b := 0) (x0 := lb Tryd.f30 0) (hs := hsflat_Check_0) (os := osflat_Check_0) (COt_ok (alflat_Check k)) (anflat_Check_0 k) (fun n x => Lflat_Check_0 k n x.1 x.2.1 x.2.2.1 x.2.2.2.1 x.2.2.2.2.1 x.2.2.2.2.2.1 x.2.2.2.2.2.2.1 x.2.2.2.2.2.2.2) (fun _ => rfl) (stflat_Check_0 k)
def hsflat_Check_2 : List SS := [{ fr := [(1, .a (.ptr 0 0 0)), (5, .a (.smz 1)), (70, .a (.lf (.sl (.pr (.int .u8) (.pr .str (.pr (.sl (.int .i64)) (.pr (.int .i64) (.pr (.pr (.int .i64) (.int .i64)) (.pr (.pr (.int .i64) (.pr (.sl (.pr (.int .i64) (.int .i64))) (.sl (.int .i64)))) (.pr .str (.pr (.int .u8) (.pr (.sl (.pr (.int .i64) (.int .i64))) (.sl (.pr (.int .i64) (.int .i64))))))))))))))), (71, .a (.lf (.int .i64))), (72, .a (.lf (.int .i64)))], mem := [(0, some (.raw [[.lf (.sl .str), .lf (.sl (.pr (.int .u8) (.pr .str (.pr (.sl (.int .i64)) (.pr (.int .i64) (.pr (.pr (.int .i64) (.int .i64)) (.pr (.pr (.int .i64) (.pr (.sl (.pr (.int .i64) (.int .i64))) (.sl (.int .i64)))) (.pr .str (.pr (.int .u8) (.pr (.sl (.pr (.int .i64) (.int .i64))) (.sl (.pr (.int .i64) (.int .i64))))))))))))), .lf (.int .i64), .lf (.int .i64), .lf (.int .i64)]] 5 27 true false false)), (1, some (.arr .str 1 9 false))], nx := 2 }]
def osflat_Check_2 : List OS := [⟨none, { fr := [(2, .a (.lf (.int .i64)))], mem := [(0, some (.raw [[.lf (.sl .str), .lf (.sl (.pr (.int .u8) (.pr .str (.pr (.sl (.int .i64)) (.pr (.int .i64) (.pr (.pr (.int .i64) (.int .i64)) (.pr (.pr (.int .i64) (.pr (.sl (.pr (.int .i64) (.int .i64))) (.sl (.int .i64)))) (.pr .str (.pr (.int .u8) (.pr (.sl (.pr (.int .i64) (.int .i64))) (.sl (.pr (.int .i64) (.int .i64))))))))))))), .lf (.int .i64), .lf (.int .i64), .lf (.int .i64)]] 5 27 true false false)), (1, some (.arr .str 1 9 false)), (2, some (.raw [[.lf (.int .u8), .lf .str, .lf (.sl (.int .i64)), .lf (.int .i64), .lf (.int .i64), .lf (.int .i64), .lf (.int .i64), .lf (.sl (.pr (.int .i64) (.int .i64))), .lf (.sl (.int .i64)), .lf .str, .lf (.int .u8), .lf (.sl (.pr (.int .i64) (.int .i64))), .lf (.sl (.pr (.int .i64) (.int .i64)))]] 13 38 true false false))], nx := 3 }⟩, ⟨some 2, { fr := [(1, .a (.ptr 0 0 0)), (5, .a (.smz 1))], mem := [(0, some (.raw [[.lf (.sl .str), .lf (.sl (.pr (.int .u8) (.pr .str (.pr (.sl (.int .i64)) (.pr (.int .i64) (.pr (.pr (.int .i64) (.int .i64)) (.pr (.pr (.int .i64) (.pr (.sl (.pr (.int .i64) (.int .i64))) (.sl (.int .i64)))) (.pr .str (.pr (.int .u8) (.pr (.sl (.pr (.int .i64) (.int .i64))) (.sl (.pr (.int .i64) (.int .i64))))))))))))), .lf (.int .i64), .lf (.int .i64), .lf (.int .i64)]] 5 27 true false false)), (1, some (.arr .str 1 9 false))], nx := 2 }⟩]
def LIflat_Check_2 (k : Nat) : LInst := ⟨2, hsflat_Check_2, osflat_Check_2, fun x => Lflat_Check_2 k k x.1 x.2.1 x.2.2.1 x.2.2.2.1 x.2.2.2.2.1 x.2.2.2.2.2.1 x.2.2.2.2.2.2.1 x.2.2.2.2.2.2.2.1 x.2.2.2.2.2.2.2.2.1 x.2.2.2.2.2.2.2.2.2⟩
theorem anflat_Check_2 (k : Nat) : LAll (LOk (R := DS OS.D osflat_Check_2) (fun b _ σ K => LOt Ty (kps 30) 0 b σ K [LIflat_Check_0 k]) cf (call cf k) (kps 30) Tryd.f30.ntmps k 0) 2 (lb Tryd.f30 1) :=
  And.intro (True.intro) (And.intro (And.intro (True.intro) (True.intro)) (And.intro (And.intro (True.intro) (And.intro (And.intro (True.intro) (And.intro (And.intro (True.intro) (True.intro)) (True.intro))) (True.intro))) (True.intro)))
theorem stflat_Check_2 (k n : Nat) (x : DS SS.D hsflat_Check_2) : Lflat_Check_2 k (n + 1) x.1 x.2.1 x.2.2.1 x.2.2.2.1 x.2.2.2.2.1 x.2.2.2.2.2.1 x.2.2.2.2.2.2.1 x.2.2.2.2.2.2.2.1 x.2.2.2.2.2.2.2.2.1 x.2.2.2.2.2.2.2.2.2 = encSK SS.enc (fun σ => run2 cf (fun f a b K => COt f a b K [Inum_Valid k, Iflat_twice k, Iflat_long k, Iflat_right k, Iflat_count k]) (fun b _ σ K => LOt Ty (kps 30) 0 b σ K [LIflat_Check_0 k]) Tryd.f30.ntmps 2 (lb Tryd.f30 1) σ (nextK Ty (kps 30 2) 0 hsflat_Check_2 osflat_Check_2 fun x => Lflat_Check_2 k n x.1 x.2.1 x.2.2.1 x.2.2.2.1 x.2.2.2.2.1 x.2.2.2.2.2.1 x.2.2.2.2.2.2.1 x.2.2.2.2.2.2.2.1 x.2.2.2.2.2.2.2.2.1 x.2.2.2.2.2.2.2.2.2)) hsflat_Check_2 x := by kernel_rfl
theorem loflat_Check_2 (k : Nat) : LIOk cf (call cf k) (kps 30) Tryd.f30.ntmps k 0 2 (lb Tryd.f30 1) (LIflat_Check_2 k) :=
  loop_ok (c := cf) (callF := call cf k) (kp := kps 30) (nt := Tryd.f30.ntmps) (k := k) (p := 0) (b := 2) (x0 := lb Tryd.f30 1) (hs := hsflat_Check_2) (os := osflat_Check_2) (COt_ok (alflat_Check k)) (anflat_Check_2 k) (fun n x => Lflat_Check_2 k n x.1 x.2.1 x.2.2.1 x.2.2.2.1 x.2.2.2.2.1 x.2.2.2.2.2.1 x.2.2.2.2.2.2.1 x.2.2.2.2.2.2.2.1 x.2.2.2.2.2.2.2.2.1 x.2.2.2.2.2.2.2.2.2) (fun _ => rfl) (stflat_Check_2 k)
theorem anflat_Check (k : Nat) : LAll (LOk (R := DS FS.D rsflat_Check) (fun b _ σ K => LOt Ty (kps 30) 0 b σ K [LIflat_Check_0 k, LIflat_Check_2 k]) cf (call cf k) (cf.keep 30) Tryd.f30.ntmps k shflat_Check.bs.length) 0 (bd Tryd.f30) :=
  And.intro (True.intro) (And.intro (And.intro (True.intro) (And.intro (And.intro (True.intro) (True.intro)) (True.intro))) (And.intro (And.intro (True.intro) (And.intro (And.intro (True.intro) (True.intro)) (True.intro))) (And.intro (And.intro (True.intro) (LOt_ok (c := cf) (callF := call cf k) (kp := kps 30) (nt := Tryd.f30.ntmps) (k := k) (p := 0) (b := 0) (x0 := lb Tryd.f30 0) (l := [LIflat_Check_0 k, LIflat_Check_2 k]) (And.intro (fun _ => loflat_Check_0 k) (And.intro (fun h => absurd (show (2 : Nat) = 0 from h) (by decide)) (True.intro))))) (And.intro (True.intro) (And.intro (And.intro (True.intro) (LOt_ok (c := cf) (callF := call cf k) (kp := kps 30) (nt := Tryd.f30.ntmps) (k := k) (p := 0) (b := 2) (x0 := lb Tryd.f30 1) (l := [LIflat_Check_0 k, LIflat_Check_2 k]) (And.intro (fun h => absurd (show (0 : Nat) = 2 from h) (by decide)) (And.intro (fun _ => loflat_Check_2 k) (True.intro))))) (And.intro (And.intro (True.intro) (And.intro (And.intro (True.intro) (True.intro)) (True.intro))) (And.intro (And.intro (True.intro) (And.intro (True.intro) (And.intro (And.intro (True.intro) (True.intro)) (True.intro)))) (And.intro (True.intro) (True.intro)))))))))
theorem stflat_Check (k : Nat) (x : shflat_Check.D) : Fflat_Check (k + 1) x.1 x.2.1 x.2.2.1 x.2.2.2.1 x.2.2.2.2 = body2 cf (fun f a b K => COt f a b K [Inum_Valid k, Iflat_twice k, Iflat_long k, Iflat_right k, Iflat_count k]) (fun b _ σ K => LOt Ty (kps 30) 0 b σ K [LIflat_Check_0 k, LIflat_Check_2 k]) 30 Tryd.f30.ntmps Tryd.f30.results.toList (bd Tryd.f30) (shflat_Check.enc x).1 (shflat_Check.enc x).2 (putS FS.dec rsflat_Check) := by kernel_rfl
theorem okflat_Check : ∀ k, InstOk (call cf k) (Iflat_Check k)
  | 0 => fun x y e => absurd (show (none : Option _) = some y from e) (by simp)
  | k + 1 => inst_ok (c := cf) (k := k) (f := 30) (fn := Tryd.f30) (body := bd Tryd.f30) (sh := shflat_Check) (os := rsflat_Check) rfl Tryd.func30 rfl ⟨rfl, Nat.le_of_ble_eq_true rfl⟩ (COt_ok (alflat_Check k)) (anflat_Check k) (fun x => Fflat_Check (k + 1) x.1 x.2.1 x.2.2.1 x.2.2.2.1 x.2.2.2.2) (stflat_Check k)

/-! shunt/flat.Unknowns -/
def bflat_Unknowns (k : Nat) (f0 : List ByteArray) (f1 : List (Int × ByteArray × List Int × Int × (Int × Int) × (Int × List (Int × Int) × List Int) × ByteArray × Int × List (Int × Int) × List (Int × Int))) (f2 : Int) (f3 : Int) (f4 : Int) : Option (Int × List Int) :=
  Option.bind (Fflat_Check k f0 f1 f2 f3 f4) fun r2 =>
  if ((r2 != (0 : Int)) = true) then
    (some ((0 : Int), []))
  else
  Option.bind (Fflat_count k f0 f1 f2 f3 f4) fun r3 =>
  (some (r3.1, r3.2))
def Fflat_Unknowns : Nat → List ByteArray → List (Int × ByteArray × List Int × Int × (Int × Int) × (Int × List (Int × Int) × List Int) × ByteArray × Int × List (Int × Int) × List (Int × Int)) → Int → Int → Int → Option (Int × List Int)
  | 0, _, _, _, _, _ => none
  | k + 1, f0, f1, f2, f3, f4 => bflat_Unknowns k f0 f1 f2 f3 f4
def shflat_Unknowns : FS := { vs := [.g [.lf (.sl .str), .lf (.sl (.pr (.int .u8) (.pr .str (.pr (.sl (.int .i64)) (.pr (.int .i64) (.pr (.pr (.int .i64) (.int .i64)) (.pr (.pr (.int .i64) (.pr (.sl (.pr (.int .i64) (.int .i64))) (.sl (.int .i64)))) (.pr .str (.pr (.int .u8) (.pr (.sl (.pr (.int .i64) (.int .i64))) (.sl (.pr (.int .i64) (.int .i64))))))))))))), .lf (.int .i64), .lf (.int .i64), .lf (.int .i64)]], bs := [] }
def rsflat_Unknowns : List FS := [{ vs := [.a (.lf (.int .i64)), .a (.lf (.sl (.int .i64)))], bs := [] }]
def Iflat_Unknowns (k : Nat) : Inst := ⟨45, shflat_Unknowns, rsflat_Unknowns, fun x => Fflat_Unknowns k x.1 x.2.1 x.2.2.1 x.2.2.2.1 x.2.2.2.2⟩
theorem alflat_Unknowns (k : Nat) : AllI (call cf k) [Iflat_Check k, Iflat_count k] := And.intro (okflat_Check k) (And.intro (okflat_count k) (True.intro))
theorem anflat_Unknowns (k : Nat) : LAll (LOk (R := DS FS.D rsflat_Unknowns) (fun b _ σ K => LOt Ty (kps 45) 0 b σ K []) cf (call cf k) (cf.keep 45) Tryd.f45.ntmps k shflat_Unknowns.bs.length) 0 (bd Tryd.f45) :=
  And.intro (True.intro) (And.intro (And.intro (True.intro) (And.intro (And.intro (True.intro) (True.intro)) (True.intro))) (And.intro (True.intro) (True.intro)))
theorem stflat_Unknowns (k : Nat) (x : shflat_Unknowns.D) : Fflat_Unknowns (k + 1) x.1 x.2.1 x.2.2.1 x.2.2.2.1 x.2.2.2.2 = body2 cf (fun f a b K => COt f a b K [Iflat_Check k, Iflat_count k]) (fun b _ σ K => LOt Ty (kps 45) 0 b σ K []) 45 Tryd.f45.ntmps Tryd.f45.results.toList (bd Tryd.f45) (shflat_Unknowns.enc x).1 (shflat_Unknowns.enc x).2 (putS FS.dec rsflat_Unknowns) := by kernel_rfl
theorem okflat_Unknowns : ∀ k, InstOk (call cf k) (Iflat_Unknowns k)
  | 0 => fun x y e => absurd (show (none : Option _) = some y from e) (by simp)
  | k + 1 => inst_ok (c := cf) (k := k) (f := 45) (fn := Tryd.f45) (body := bd Tryd.f45) (sh := shflat_Unknowns) (os := rsflat_Unknowns) rfl Tryd.func45 rfl ⟨rfl, Nat.le_of_ble_eq_true rfl⟩ (COt_ok (alflat_Unknowns k)) (anflat_Unknowns k) (fun x => Fflat_Unknowns (k + 1) x.1 x.2.1 x.2.2.1 x.2.2.2.1 x.2.2.2.2) (stflat_Unknowns k)

/-! shunt/system.Bent -/
def Lsystem_Bent_0s (k : Nat) (rec : Nat → List (Int × ByteArray × List Int × Int × (Int × Int) × (Int × List (Int × Int) × List Int) × ByteArray × Int × List (Int × Int) × List (Int × Int)) → Int → Int → List Int → Option (Nat × List Int)) (l : Nat) (x : List (Int × ByteArray × List Int × Int × (Int × Int) × (Int × List (Int × Int) × List Int) × ByteArray × Int × List (Int × Int) × List (Int × Int))) (x1 : Int) (x2 : Int) (ls : List Int) : Option (Nat × List Int) :=
  if ((decide (x2 < x1)) = true) then
    if ((0 : Int) ≤ x2) then
      Option.bind (x)[(Int.toNat x2)]? fun x3 =>
      if ((x3.1 == (100 : Int)) = false) then
        if ((x3.1 == (115 : Int)) = true) then
          if (l ≤ (List.length ls)) then
            if (((l + (List.length (List.take 1 (x2 :: [])))) * 8) ≤ 140737488355328) then
              rec (l + (List.length (List.take 1 (x2 :: [])))) x x1 (IntKind.wrap .i64 (x2 + (1 : Int))) ((List.take l ls) ++ (List.take 1 (x2 :: [])))
            else
            none
          else
          none
        else
        rec l x x1 (IntKind.wrap .i64 (x2 + (1 : Int))) ls
      else
      if (l ≤ (List.length ls)) then
        if (((l + (List.length (List.take 1 (x2 :: [])))) * 8) ≤ 140737488355328) then
          rec (l + (List.length (List.take 1 (x2 :: [])))) x x1 (IntKind.wrap .i64 (x2 + (1 : Int))) ((List.take l ls) ++ (List.take 1 (x2 :: [])))
        else
        none
      else
      none
    else
    none
  else
  (some (l, ls))
def Lsystem_Bent_0 (k n : Nat) : Nat → List (Int × ByteArray × List Int × Int × (Int × Int) × (Int × List (Int × Int) × List Int) × ByteArray × Int × List (Int × Int) × List (Int × Int)) → Int → Int → List Int → Option (Nat × List Int) := Nat.rec (fun _ _ _ _ _ => none) (fun _ r => Lsystem_Bent_0s k r) n
def bsystem_Bent (k : Nat) (f0 : List ByteArray) (f1 : List (Int × ByteArray × List Int × Int × (Int × Int) × (Int × List (Int × Int) × List Int) × ByteArray × Int × List (Int × Int) × List (Int × Int))) (f2 : Int) (f3 : Int) (f4 : Int) : Option (List Int) :=
  Option.bind (Lsystem_Bent_0 k k 0 f1 (((List.length f1) : Nat) : Int) (0 : Int) []) fun r3 =>
  if ((0 + r3.1) ≤ (List.length r3.2)) then
    (some (List.take r3.1 r3.2))
  else
  none
def Fsystem_Bent : Nat → List ByteArray → List (Int × ByteArray × List Int × Int × (Int × Int) × (Int × List (Int × Int) × List Int) × ByteArray × Int × List (Int × Int) × List (Int × Int)) → Int → Int → Int → Option (List Int)
  | 0, _, _, _, _, _ => none
  | k + 1, f0, f1, f2, f3, f4 => bsystem_Bent k f0 f1 f2 f3 f4
def shsystem_Bent : FS := { vs := [.g [.lf (.sl .str), .lf (.sl (.pr (.int .u8) (.pr .str (.pr (.sl (.int .i64)) (.pr (.int .i64) (.pr (.pr (.int .i64) (.int .i64)) (.pr (.pr (.int .i64) (.pr (.sl (.pr (.int .i64) (.int .i64))) (.sl (.int .i64)))) (.pr .str (.pr (.int .u8) (.pr (.sl (.pr (.int .i64) (.int .i64))) (.sl (.pr (.int .i64) (.int .i64))))))))))))), .lf (.int .i64), .lf (.int .i64), .lf (.int .i64)]], bs := [] }
def rssystem_Bent : List FS := [{ vs := [.a (.lf (.sl (.int .i64)))], bs := [] }]
def Isystem_Bent (k : Nat) : Inst := ⟨46, shsystem_Bent, rssystem_Bent, fun x => Fsystem_Bent k x.1 x.2.1 x.2.2.1 x.2.2.2.1 x.2.2.2.2⟩
theorem alsystem_Bent (k : Nat) : AllI (call cf k) [] := True.intro
def hssystem_Bent_0 : List SS := [{ fr := [(3, .a (.smz 0)), (7, .a (.lf (.sl (.pr (.int .u8) (.pr .str (.pr (.sl (.int .i64)) (.pr (.int .i64) (.pr (.pr (.int .i64) (.int .i64)) (.pr (.pr (.int .i64) (.pr (.sl (.pr (.int .i64) (.int .i64))) (.sl (.int .i64)))) (.pr .str (.pr (.int .u8) (.pr (.sl (.pr (.int .i64) (.int .i64))) (.sl (.pr (.int .i64) (.int .i64))))))))))))))), (8, .a (.lf (.int .i64))), (9, .a (.lf (.int .i64)))], mem := [(0, some (.arr (.int .i64) 1 3 false))], nx := 1 }]
def ossystem_Bent_0 : List OS := [⟨some 0, { fr := [(3, .a (.smz 0))], mem := [(0, some (.arr (.int .i64) 1 3 false))], nx := 1 }⟩]
def LIsystem_Bent_0 (k : Nat) : LInst := ⟨0, hssystem_Bent_0, ossystem_Bent_0, fun x => Lsystem_Bent_0 k k x.1 x.2.1 x.2.2.1 x.2.2.2.1 x.2.2.2.2⟩
theorem ansystem_Bent_0 (k : Nat) : LAll (LOk (R := DS OS.D ossystem_Bent_0) (fun b _ σ K => LOt Ty (kps 46) 0 b σ K []) cf (call cf k) (kps 46) Tryd.f46.ntmps k 0) 0 (lb Tryd.f46 0) :=
  And.intro (True.intro) (And.intro (And.intro (True.intro) (True.intro)) (And.intro (And.intro (True.intro) (And.intro (True.intro) (And.intro (True.intro) (True.intro)))) (True.intro)))
theorem stsystem_Bent_0 (k n : Nat) (x : DS SS.D hssystem_Bent_0) : Lsystem_Bent_0 k (n + 1) x.1 x.2.1 x.2.2.1 x.2.2.2.1 x.2.2.2.2 = encSK SS.enc (fun σ => run2 cf (fun f a b K => COt f a b K []) (fun b _ σ K => LOt Ty (kps 46) 0 b σ K []) Tryd.f46.ntmps 0 (lb Tryd.f46 0) σ (nextK Ty (kps 46 0) 0 hssystem_Bent_0 ossystem_Bent_0 fun x => Lsystem_Bent_0 k n x.1 x.2.1 x.2.2.1 x.2.2.2.1 x.2.2.2.2)) hssystem_Bent_0 x := by kernel_rfl
theorem losystem_Bent_0 (k : Nat) : LIOk cf (call cf k) (kps 46) Tryd.f46.ntmps k 0 0 (lb Tryd.f46 0) (LIsystem_Bent_0 k) :=
  loop_ok (c := cf) (callF := call cf k) (kp := kps 46) (nt := Tryd.f46.ntmps) (k := k) (p := 0) (b := 0) (x0 := lb Tryd.f46 0) (hs := hssystem_Bent_0) (os := ossystem_Bent_0) (COt_ok (alsystem_Bent k)) (ansystem_Bent_0 k) (fun n x => Lsystem_Bent_0 k n x.1 x.2.1 x.2.2.1 x.2.2.2.1 x.2.2.2.2) (fun _ => rfl) (stsystem_Bent_0 k)
theorem ansystem_Bent (k : Nat) : LAll (LOk (R := DS FS.D rssystem_Bent) (fun b _ σ K => LOt Ty (kps 46) 0 b σ K [LIsystem_Bent_0 k]) cf (call cf k) (cf.keep 46) Tryd.f46.ntmps k shsystem_Bent.bs.length) 0 (bd Tryd.f46) :=
  And.intro (True.intro) (And.intro (True.intro) (And.intro (And.intro (True.intro) (LOt_ok (c := cf) (callF := call cf k) (kp := kps 46) (nt := Tryd.f46.ntmps) (k := k) (p := 0) (b := 0) (x0 := lb Tryd.f46 0) (l := [LIsystem_Bent_0 k]) (And.intro (fun _ => losystem_Bent_0 k) (True.intro)))) (And.intro (True.intro) (True.intro))))
theorem stsystem_Bent (k : Nat) (x : shsystem_Bent.D) : Fsystem_Bent (k + 1) x.1 x.2.1 x.2.2.1 x.2.2.2.1 x.2.2.2.2 = body2 cf (fun f a b K => COt f a b K []) (fun b _ σ K => LOt Ty (kps 46) 0 b σ K [LIsystem_Bent_0 k]) 46 Tryd.f46.ntmps Tryd.f46.results.toList (bd Tryd.f46) (shsystem_Bent.enc x).1 (shsystem_Bent.enc x).2 (putS FS.dec rssystem_Bent) := by kernel_rfl
theorem oksystem_Bent : ∀ k, InstOk (call cf k) (Isystem_Bent k)
  | 0 => fun x y e => absurd (show (none : Option _) = some y from e) (by simp)
  | k + 1 => inst_ok (c := cf) (k := k) (f := 46) (fn := Tryd.f46) (body := bd Tryd.f46) (sh := shsystem_Bent) (os := rssystem_Bent) rfl Tryd.func46 rfl ⟨rfl, Nat.le_of_ble_eq_true rfl⟩ (COt_ok (alsystem_Bent k)) (ansystem_Bent k) (fun x => Fsystem_Bent (k + 1) x.1 x.2.1 x.2.2.1 x.2.2.2.1 x.2.2.2.2) (stsystem_Bent k)

/-! shunt/tran.onGrid$1 -/
def btran_onGrid_1 (k : Nat) (v : Int) : Option (Bool) :=
  if ((decide (v > (1000000000000000000 : Int))) = false) then
    (some (decide (v < (-(1000000000000000000 : Int)))))
  else
  (some true)
def Ftran_onGrid_1 : Nat → Int → Option (Bool)
  | 0, _ => none
  | k + 1, v => btran_onGrid_1 k v
def shtran_onGrid_1 : FS := { vs := [.a (.lf (.int .i64))], bs := [] }
def rstran_onGrid_1 : List FS := [{ vs := [.a (.lf .bool)], bs := [] }]
def Itran_onGrid_1 (k : Nat) : Inst := ⟨61, shtran_onGrid_1, rstran_onGrid_1, fun x => Ftran_onGrid_1 k x⟩
theorem altran_onGrid_1 (k : Nat) : AllI (call cf k) [] := True.intro
theorem antran_onGrid_1 (k : Nat) : LAll (LOk (R := DS FS.D rstran_onGrid_1) (fun b _ σ K => LOt Ty (kps 61) 0 b σ K []) cf (call cf k) (cf.keep 61) Tryd.f61.ntmps k shtran_onGrid_1.bs.length) 0 (bd Tryd.f61) :=
  And.intro (True.intro) (And.intro (True.intro) (True.intro))
theorem sttran_onGrid_1 (k : Nat) (x : shtran_onGrid_1.D) : Ftran_onGrid_1 (k + 1) x = body2 cf (fun f a b K => COt f a b K []) (fun b _ σ K => LOt Ty (kps 61) 0 b σ K []) 61 Tryd.f61.ntmps Tryd.f61.results.toList (bd Tryd.f61) (shtran_onGrid_1.enc x).1 (shtran_onGrid_1.enc x).2 (putS FS.dec rstran_onGrid_1) := by kernel_rfl
theorem oktran_onGrid_1 : ∀ k, InstOk (call cf k) (Itran_onGrid_1 k)
  | 0 => fun x y e => absurd (show (none : Option _) = some y from e) (by simp)
  | k + 1 => inst_ok (c := cf) (k := k) (f := 61) (fn := Tryd.f61) (body := bd Tryd.f61) (sh := shtran_onGrid_1) (os := rstran_onGrid_1) rfl Tryd.func61 rfl ⟨rfl, Nat.le_of_ble_eq_true rfl⟩ (COt_ok (altran_onGrid_1 k)) (antran_onGrid_1 k) (fun x => Ftran_onGrid_1 (k + 1) x) (sttran_onGrid_1 k)

/-! slices.IndexFunc[[]int64,int64] -/
def Lslices_IndexFunc_int64_int64__yov_0s (k : Nat) (rec : List Int → Int → Int → Option ((Int) ⊕ (Unit))) (s : List Int) (x : Int) (x1 : Int) : Option ((Int) ⊕ (Unit)) :=
  if ((decide (x1 < x)) = true) then
    if ((0 : Int) ≤ x1) then
      Option.bind (s)[(Int.toNat x1)]? fun x2 =>
      Option.bind (Ftran_onGrid_1 k x2) fun r4 =>
      if (r4 = true) then
        (some (Sum.inl x1))
      else
      rec s x (IntKind.wrap .i64 (x1 + (1 : Int)))
    else
    none
  else
  (some (Sum.inr ()))
def Lslices_IndexFunc_int64_int64__yov_0 (k n : Nat) : List Int → Int → Int → Option ((Int) ⊕ (Unit)) := Nat.rec (fun _ _ _ => none) (fun _ r => Lslices_IndexFunc_int64_int64__yov_0s k r) n
def bslices_IndexFunc_int64_int64__yov (k : Nat) (s : List Int) : Option (Int) :=
  Option.bind (Lslices_IndexFunc_int64_int64__yov_0 k k s (((List.length s) : Nat) : Int) (0 : Int)) fun r4 =>
  eitherK r4
    (fun r4 =>
    (some r4))
    (fun r4 =>
    (some (-(1 : Int))))
def Fslices_IndexFunc_int64_int64__yov : Nat → List Int → Option (Int)
  | 0, _ => none
  | k + 1, s => bslices_IndexFunc_int64_int64__yov k s
def shslices_IndexFunc_int64_int64__yov : FS := { vs := [.a (.lf (.sl (.int .i64))), .a (.fn 61 [])], bs := [] }
def rsslices_IndexFunc_int64_int64__yov : List FS := [{ vs := [.a (.lf (.int .i64))], bs := [] }]
def Islices_IndexFunc_int64_int64__yov (k : Nat) : Inst := ⟨54, shslices_IndexFunc_int64_int64__yov, rsslices_IndexFunc_int64_int64__yov, fun x => Fslices_IndexFunc_int64_int64__yov k x⟩
theorem alslices_IndexFunc_int64_int64__yov (k : Nat) : AllI (call cf k) [Itran_onGrid_1 k] := And.intro (oktran_onGrid_1 k) (True.intro)
def hsslices_IndexFunc_int64_int64__yov_0 : List SS := [{ fr := [(0, .a (.lf (.sl (.int .i64)))), (1, .a (.fn 61 [])), (7, .a (.lf (.int .i64))), (8, .a (.lf (.int .i64)))], mem := [], nx := 0 }]
def osslices_IndexFunc_int64_int64__yov_0 : List OS := [⟨none, { fr := [(4, .a (.lf (.int .i64)))], mem := [], nx := 0 }⟩, ⟨some 0, { fr := [], mem := [], nx := 0 }⟩]
def LIslices_IndexFunc_int64_int64__yov_0 (k : Nat) : LInst := ⟨0, hsslices_IndexFunc_int64_int64__yov_0, osslices_IndexFunc_int64_int64__yov_0, fun x => Lslices_IndexFunc_int64_int64__yov_0 k k x.1 x.2.1 x.2.2⟩
theorem anslices_IndexFunc_int64_int64__yov_0 (k : Nat) : LAll (LOk (R := DS OS.D osslices_IndexFunc_int64_int64__yov_0) (fun b _ σ K => LOt Ty (kps 54) 0 b σ K []) cf (call cf k) (kps 54) Tryd.f54.ntmps k 0) 0 (lb Tryd.f54 0) :=
  And.intro (True.intro) (And.intro (And.intro (True.intro) (True.intro)) (And.intro (And.intro (True.intro) (And.intro (True.intro) (And.intro (And.intro (True.intro) (True.intro)) (True.intro)))) (True.intro)))
theorem stslices_IndexFunc_int64_int64__yov_0 (k n : Nat) (x : DS SS.D hsslices_IndexFunc_int64_int64__yov_0) : Lslices_IndexFunc_int64_int64__yov_0 k (n + 1) x.1 x.2.1 x.2.2 = encSK SS.enc (fun σ => run2 cf (fun f a b K => COt f a b K [Itran_onGrid_1 k]) (fun b _ σ K => LOt Ty (kps 54) 0 b σ K []) Tryd.f54.ntmps 0 (lb Tryd.f54 0) σ (nextK Ty (kps 54 0) 0 hsslices_IndexFunc_int64_int64__yov_0 osslices_IndexFunc_int64_int64__yov_0 fun x => Lslices_IndexFunc_int64_int64__yov_0 k n x.1 x.2.1 x.2.2)) hsslices_IndexFunc_int64_int64__yov_0 x := by kernel_rfl
theorem loslices_IndexFunc_int64_int64__yov_0 (k : Nat) : LIOk cf (call cf k) (kps 54) Tryd.f54.ntmps k 0 0 (lb Tryd.f54 0) (LIslices_IndexFunc_int64_int64__yov_0 k) :=
  loop_ok (c := cf) (callF := call cf k) (kp := kps 54) (nt := Tryd.f54.ntmps) (k := k) (p := 0) (b := 0) (x0 := lb Tryd.f54 0) (hs := hsslices_IndexFunc_int64_int64__yov_0) (os := osslices_IndexFunc_int64_int64__yov_0) (COt_ok (alslices_IndexFunc_int64_int64__yov k)) (anslices_IndexFunc_int64_int64__yov_0 k) (fun n x => Lslices_IndexFunc_int64_int64__yov_0 k n x.1 x.2.1 x.2.2) (fun _ => rfl) (stslices_IndexFunc_int64_int64__yov_0 k)
theorem anslices_IndexFunc_int64_int64__yov (k : Nat) : LAll (LOk (R := DS FS.D rsslices_IndexFunc_int64_int64__yov) (fun b _ σ K => LOt Ty (kps 54) 0 b σ K [LIslices_IndexFunc_int64_int64__yov_0 k]) cf (call cf k) (cf.keep 54) Tryd.f54.ntmps k shslices_IndexFunc_int64_int64__yov.bs.length) 0 (bd Tryd.f54) :=
  And.intro (True.intro) (And.intro (And.intro (True.intro) (LOt_ok (c := cf) (callF := call cf k) (kp := kps 54) (nt := Tryd.f54.ntmps) (k := k) (p := 0) (b := 0) (x0 := lb Tryd.f54 0) (l := [LIslices_IndexFunc_int64_int64__yov_0 k]) (And.intro (fun _ => loslices_IndexFunc_int64_int64__yov_0 k) (True.intro)))) (And.intro (True.intro) (True.intro)))
theorem stslices_IndexFunc_int64_int64__yov (k : Nat) (x : shslices_IndexFunc_int64_int64__yov.D) : Fslices_IndexFunc_int64_int64__yov (k + 1) x = body2 cf (fun f a b K => COt f a b K [Itran_onGrid_1 k]) (fun b _ σ K => LOt Ty (kps 54) 0 b σ K [LIslices_IndexFunc_int64_int64__yov_0 k]) 54 Tryd.f54.ntmps Tryd.f54.results.toList (bd Tryd.f54) (shslices_IndexFunc_int64_int64__yov.enc x).1 (shslices_IndexFunc_int64_int64__yov.enc x).2 (putS FS.dec rsslices_IndexFunc_int64_int64__yov) := by kernel_rfl
theorem okslices_IndexFunc_int64_int64__yov : ∀ k, InstOk (call cf k) (Islices_IndexFunc_int64_int64__yov k)
  | 0 => fun x y e => absurd (show (none : Option _) = some y from e) (by simp)
  | k + 1 => inst_ok (c := cf) (k := k) (f := 54) (fn := Tryd.f54) (body := bd Tryd.f54) (sh := shslices_IndexFunc_int64_int64__yov) (os := rsslices_IndexFunc_int64_int64__yov) rfl Tryd.func54 rfl ⟨rfl, Nat.le_of_ble_eq_true rfl⟩ (COt_ok (alslices_IndexFunc_int64_int64__yov k)) (anslices_IndexFunc_int64_int64__yov k) (fun x => Fslices_IndexFunc_int64_int64__yov (k + 1) x) (stslices_IndexFunc_int64_int64__yov k)

/-! slices.ContainsFunc[[]int64,int64] -/
def bslices_ContainsFunc_int64_int64__yov (k : Nat) (s : List Int) : Option (Bool) :=
  Option.bind (Fslices_IndexFunc_int64_int64__yov k s) fun r4 =>
  (some (decide (r4 ≥ (0 : Int))))
def Fslices_ContainsFunc_int64_int64__yov : Nat → List Int → Option (Bool)
  | 0, _ => none
  | k + 1, s => bslices_ContainsFunc_int64_int64__yov k s
def shslices_ContainsFunc_int64_int64__yov : FS := { vs := [.a (.lf (.sl (.int .i64))), .a (.fn 61 [])], bs := [] }
def rsslices_ContainsFunc_int64_int64__yov : List FS := [{ vs := [.a (.lf .bool)], bs := [] }]
def Islices_ContainsFunc_int64_int64__yov (k : Nat) : Inst := ⟨38, shslices_ContainsFunc_int64_int64__yov, rsslices_ContainsFunc_int64_int64__yov, fun x => Fslices_ContainsFunc_int64_int64__yov k x⟩
theorem alslices_ContainsFunc_int64_int64__yov (k : Nat) : AllI (call cf k) [Islices_IndexFunc_int64_int64__yov k] := And.intro (okslices_IndexFunc_int64_int64__yov k) (True.intro)
theorem anslices_ContainsFunc_int64_int64__yov (k : Nat) : LAll (LOk (R := DS FS.D rsslices_ContainsFunc_int64_int64__yov) (fun b _ σ K => LOt Ty (kps 38) 0 b σ K []) cf (call cf k) (cf.keep 38) Tryd.f38.ntmps k shslices_ContainsFunc_int64_int64__yov.bs.length) 0 (bd Tryd.f38) :=
  And.intro (True.intro) (And.intro (True.intro) (True.intro))
theorem stslices_ContainsFunc_int64_int64__yov (k : Nat) (x : shslices_ContainsFunc_int64_int64__yov.D) : Fslices_ContainsFunc_int64_int64__yov (k + 1) x = body2 cf (fun f a b K => COt f a b K [Islices_IndexFunc_int64_int64__yov k]) (fun b _ σ K => LOt Ty (kps 38) 0 b σ K []) 38 Tryd.f38.ntmps Tryd.f38.results.toList (bd Tryd.f38) (shslices_ContainsFunc_int64_int64__yov.enc x).1 (shslices_ContainsFunc_int64_int64__yov.enc x).2 (putS FS.dec rsslices_ContainsFunc_int64_int64__yov) := by kernel_rfl
theorem okslices_ContainsFunc_int64_int64__yov : ∀ k, InstOk (call cf k) (Islices_ContainsFunc_int64_int64__yov k)
  | 0 => fun x y e => absurd (show (none : Option _) = some y from e) (by simp)
  | k + 1 => inst_ok (c := cf) (k := k) (f := 38) (fn := Tryd.f38) (body := bd Tryd.f38) (sh := shslices_ContainsFunc_int64_int64__yov) (os := rsslices_ContainsFunc_int64_int64__yov) rfl Tryd.func38 rfl ⟨rfl, Nat.le_of_ble_eq_true rfl⟩ (COt_ok (alslices_ContainsFunc_int64_int64__yov k)) (anslices_ContainsFunc_int64_int64__yov k) (fun x => Fslices_ContainsFunc_int64_int64__yov (k + 1) x) (stslices_ContainsFunc_int64_int64__yov k)

/-! shunt/tran.onGrid -/
def btran_onGrid (k : Nat) (l : List Int) : Option (Bool) :=
  Option.bind (Fslices_ContainsFunc_int64_int64__yov k l) fun r4 =>
  (some (!r4))
def Ftran_onGrid : Nat → List Int → Option (Bool)
  | 0, _ => none
  | k + 1, l => btran_onGrid k l
def shtran_onGrid : FS := { vs := [.a (.lf (.sl (.int .i64)))], bs := [] }
def rstran_onGrid : List FS := [{ vs := [.a (.lf .bool)], bs := [] }]
def Itran_onGrid (k : Nat) : Inst := ⟨47, shtran_onGrid, rstran_onGrid, fun x => Ftran_onGrid k x⟩
theorem altran_onGrid (k : Nat) : AllI (call cf k) [Islices_ContainsFunc_int64_int64__yov k] := And.intro (okslices_ContainsFunc_int64_int64__yov k) (True.intro)
theorem antran_onGrid (k : Nat) : LAll (LOk (R := DS FS.D rstran_onGrid) (fun b _ σ K => LOt Ty (kps 47) 0 b σ K []) cf (call cf k) (cf.keep 47) Tryd.f47.ntmps k shtran_onGrid.bs.length) 0 (bd Tryd.f47) :=
  And.intro (True.intro) (And.intro (True.intro) (True.intro))
theorem sttran_onGrid (k : Nat) (x : shtran_onGrid.D) : Ftran_onGrid (k + 1) x = body2 cf (fun f a b K => COt f a b K [Islices_ContainsFunc_int64_int64__yov k]) (fun b _ σ K => LOt Ty (kps 47) 0 b σ K []) 47 Tryd.f47.ntmps Tryd.f47.results.toList (bd Tryd.f47) (shtran_onGrid.enc x).1 (shtran_onGrid.enc x).2 (putS FS.dec rstran_onGrid) := by kernel_rfl
theorem oktran_onGrid : ∀ k, InstOk (call cf k) (Itran_onGrid k)
  | 0 => fun x y e => absurd (show (none : Option _) = some y from e) (by simp)
  | k + 1 => inst_ok (c := cf) (k := k) (f := 47) (fn := Tryd.f47) (body := bd Tryd.f47) (sh := shtran_onGrid) (os := rstran_onGrid) rfl Tryd.func47 rfl ⟨rfl, Nat.le_of_ble_eq_true rfl⟩ (COt_ok (altran_onGrid k)) (antran_onGrid k) (fun x => Ftran_onGrid (k + 1) x) (sttran_onGrid k)

/-! shunt/model.Count -/
def bmodel_Count (k : Nat) (m0 : ByteArray) (m1 : Int) (m2 : List (Int × Int)) (m3 : List (Int × Int)) : Option (Int) :=
  Option.bind (Fmodel_Valid k m0 m1 m2 m3) fun r6 =>
  if ((!r6) = true) then
    (some (0 : Int))
  else
  (some (((List.length m2) : Nat) : Int))
def Fmodel_Count : Nat → ByteArray → Int → List (Int × Int) → List (Int × Int) → Option (Int)
  | 0, _, _, _, _ => none
  | k + 1, m0, m1, m2, m3 => bmodel_Count k m0 m1 m2 m3
def shmodel_Count : FS := { vs := [.g [.lf .str, .lf (.int .u8), .lf (.sl (.pr (.int .i64) (.int .i64))), .lf (.sl (.pr (.int .i64) (.int .i64)))]], bs := [] }
def rsmodel_Count : List FS := [{ vs := [.a (.lf (.int .i64))], bs := [] }]
def Imodel_Count (k : Nat) : Inst := ⟨48, shmodel_Count, rsmodel_Count, fun x => Fmodel_Count k x.1 x.2.1 x.2.2.1 x.2.2.2⟩
theorem almodel_Count (k : Nat) : AllI (call cf k) [Imodel_Valid k] := And.intro (okmodel_Valid k) (True.intro)
theorem anmodel_Count (k : Nat) : LAll (LOk (R := DS FS.D rsmodel_Count) (fun b _ σ K => LOt Ty (kps 48) 0 b σ K []) cf (call cf k) (cf.keep 48) Tryd.f48.ntmps k shmodel_Count.bs.length) 0 (bd Tryd.f48) :=
  And.intro (True.intro) (And.intro (And.intro (True.intro) (And.intro (And.intro (True.intro) (True.intro)) (True.intro))) (And.intro (True.intro) (True.intro)))
theorem stmodel_Count (k : Nat) (x : shmodel_Count.D) : Fmodel_Count (k + 1) x.1 x.2.1 x.2.2.1 x.2.2.2 = body2 cf (fun f a b K => COt f a b K [Imodel_Valid k]) (fun b _ σ K => LOt Ty (kps 48) 0 b σ K []) 48 Tryd.f48.ntmps Tryd.f48.results.toList (bd Tryd.f48) (shmodel_Count.enc x).1 (shmodel_Count.enc x).2 (putS FS.dec rsmodel_Count) := by kernel_rfl
theorem okmodel_Count : ∀ k, InstOk (call cf k) (Imodel_Count k)
  | 0 => fun x y e => absurd (show (none : Option _) = some y from e) (by simp)
  | k + 1 => inst_ok (c := cf) (k := k) (f := 48) (fn := Tryd.f48) (body := bd Tryd.f48) (sh := shmodel_Count) (os := rsmodel_Count) rfl Tryd.func48 rfl ⟨rfl, Nat.le_of_ble_eq_true rfl⟩ (COt_ok (almodel_Count k)) (anmodel_Count k) (fun x => Fmodel_Count (k + 1) x.1 x.2.1 x.2.2.1 x.2.2.2) (stmodel_Count k)

/-! shunt/tran.Check -/
def Ltran_Check_0s (k : Nat) (rec : List Int → Int → Int → List ByteArray → List (Int × ByteArray × List Int × Int × (Int × Int) × (Int × List (Int × Int) × List Int) × ByteArray × Int × List (Int × Int) × List (Int × Int)) → Int → Int → Int → Int → List Int → List Int → List Int → Option ((Int × List ByteArray × List (Int × ByteArray × List Int × Int × (Int × Int) × (Int × List (Int × Int) × List Int) × ByteArray × Int × List (Int × Int) × List (Int × Int)) × Int × Int × Int × Int × List Int × List Int × List Int) ⊕ (List ByteArray × List (Int × ByteArray × List Int × Int × (Int × Int) × (Int × List (Int × Int) × List Int) × ByteArray × Int × List (Int × Int) × List (Int × Int)) × Int × Int × Int × Int × List Int × List Int × List Int))) (x : List Int) (x1 : Int) (x2 : Int) (f0 : List ByteArray) (f1 : List (Int × ByteArray × List Int × Int × (Int × Int) × (Int × List (Int × Int) × List Int) × ByteArray × Int × List (Int × Int) × List (Int × Int))) (f2 : Int) (f3 : Int) (f4 : Int) (st0 : Int) (st1 : List Int) (st2 : List Int) (st3 : List Int) : Option ((Int × List ByteArray × List (Int × ByteArray × List Int × Int × (Int × Int) × (Int × List (Int × Int) × List Int) × ByteArray × Int × List (Int × Int) × List (Int × Int)) × Int × Int × Int × Int × List Int × List Int × List Int) ⊕ (List ByteArray × List (Int × ByteArray × List Int × Int × (Int × Int) × (Int × List (Int × Int) × List Int) × ByteArray × Int × List (Int × Int) × List (Int × Int)) × Int × Int × Int × Int × List Int × List Int × List Int)) :=
  if ((decide (x2 < x1)) = true) then
    if ((0 : Int) ≤ x2) then
      Option.bind (x)[(Int.toNat x2)]? fun x3 =>
      if ((0 : Int) ≤ x2) then
        Option.bind (st3)[(Int.toNat x2)]? fun x4 =>
        if ((decide (x4 < (0 : Int))) = false) then
          if ((0 : Int) ≤ x2) then
            Option.bind (st3)[(Int.toNat x2)]? fun x5 =>
            if ((0 : Int) ≤ x3) then
              Option.bind (f1)[(Int.toNat x3)]? fun x6 =>
              Option.bind (Fmodel_Count k x6.2.2.2.2.2.2.1 x6.2.2.2.2.2.2.2.1 x6.2.2.2.2.2.2.2.2.1 x6.2.2.2.2.2.2.2.2.2) fun r6 =>
              if ((decide (x5 ≥ r6)) = true) then
                (some (Sum.inl ((190 : Int), f0, f1, f2, f3, f4, st0, st1, st2, st3)))
              else
              rec x x1 (IntKind.wrap .i64 (x2 + (1 : Int))) f0 f1 f2 f3 f4 st0 st1 st2 st3
            else
            none
          else
          none
        else
        (some (Sum.inl ((190 : Int), f0, f1, f2, f3, f4, st0, st1, st2, st3)))
      else
      none
    else
    none
  else
  (some (Sum.inr (f0, f1, f2, f3, f4, st0, st1, st2, st3)))
def Ltran_Check_0 (k n : Nat) : List Int → Int → Int → List ByteArray → List (Int × ByteArray × List Int × Int × (Int × Int) × (Int × List (Int × Int) × List Int) × ByteArray × Int × List (Int × Int) × List (Int × Int)) → Int → Int → Int → Int → List Int → List Int → List Int → Option ((Int × List ByteArray × List (Int × ByteArray × List Int × Int × (Int × Int) × (Int × List (Int × Int) × List Int) × ByteArray × Int × List (Int × Int) × List (Int × Int)) × Int × Int × Int × Int × List Int × List Int × List Int) ⊕ (List ByteArray × List (Int × ByteArray × List Int × Int × (Int × Int) × (Int × List (Int × Int) × List Int) × ByteArray × Int × List (Int × Int) × List (Int × Int)) × Int × Int × Int × Int × List Int × List Int × List Int)) := Nat.rec (fun _ _ _ _ _ _ _ _ _ _ _ _ => none) (fun _ r => Ltran_Check_0s k r) n
def btran_Check (k : Nat) (f0 : List ByteArray) (f1 : List (Int × ByteArray × List Int × Int × (Int × Int) × (Int × List (Int × Int) × List Int) × ByteArray × Int × List (Int × Int) × List (Int × Int))) (f2 : Int) (f3 : Int) (f4 : Int) (st0 : Int) (st1 : List Int) (st2 : List Int) (st3 : List Int) : Option (Int) :=
  Option.bind (Fflat_Check k f0 f1 f2 f3 f4) fun r1 =>
  if ((r1 != (0 : Int)) = true) then
    (some r1)
  else
  Option.bind (Fflat_Unknowns k f0 f1 f2 f3 f4) fun r2 =>
  Option.bind (Fsystem_Bent k f0 f1 f2 f3 f4) fun r3 =>
  if ((decide (st0 < (0 : Int))) = false) then
    if ((decide (st0 > (1000000000 : Int))) = false) then
      if (((((List.length st1) : Nat) : Int) != r2.1) = false) then
        if (((((List.length st2) : Nat) : Int) != (((List.length f1) : Nat) : Int)) = false) then
          if (((((List.length st3) : Nat) : Int) != (((List.length r3) : Nat) : Int)) = false) then
            Option.bind (Ftran_onGrid k st1) fun r4 =>
            if ((!r4) = false) then
              Option.bind (Ftran_onGrid k st2) fun r5 =>
              if ((!r5) = true) then
                (some (190 : Int))
              else
              Option.bind (Ltran_Check_0 k k r3 (((List.length r3) : Nat) : Int) (0 : Int) f0 f1 f2 f3 f4 st0 st1 st2 st3) fun r6 =>
              eitherK r6
                (fun r6 =>
                (some r6.1))
                (fun r6 =>
                (some (0 : Int)))
            else
            (some (190 : Int))
          else
          (some (190 : Int))
        else
        (some (190 : Int))
      else
      (some (190 : Int))
    else
    (some (190 : Int))
  else
  (some (190 : Int))
def Ftran_Check : Nat → List ByteArray → List (Int × ByteArray × List Int × Int × (Int × Int) × (Int × List (Int × Int) × List Int) × ByteArray × Int × List (Int × Int) × List (Int × Int)) → Int → Int → Int → Int → List Int → List Int → List Int → Option (Int)
  | 0, _, _, _, _, _, _, _, _, _ => none
  | k + 1, f0, f1, f2, f3, f4, st0, st1, st2, st3 => btran_Check k f0 f1 f2 f3 f4 st0 st1 st2 st3
def shtran_Check : FS := { vs := [.g [.lf (.sl .str), .lf (.sl (.pr (.int .u8) (.pr .str (.pr (.sl (.int .i64)) (.pr (.int .i64) (.pr (.pr (.int .i64) (.int .i64)) (.pr (.pr (.int .i64) (.pr (.sl (.pr (.int .i64) (.int .i64))) (.sl (.int .i64)))) (.pr .str (.pr (.int .u8) (.pr (.sl (.pr (.int .i64) (.int .i64))) (.sl (.pr (.int .i64) (.int .i64))))))))))))), .lf (.int .i64), .lf (.int .i64), .lf (.int .i64)], .g [.lf (.int .i64), .lf (.sl (.int .i64)), .lf (.sl (.int .i64)), .lf (.sl (.int .i64))]], bs := [] }
def rstran_Check : List FS := [{ vs := [.a (.lf (.int .i64))], bs := [] }]
def Itran_Check (k : Nat) : Inst := ⟨32, shtran_Check, rstran_Check, fun x => Ftran_Check k x.1 x.2.1 x.2.2.1 x.2.2.2.1 x.2.2.2.2.1 x.2.2.2.2.2.1 x.2.2.2.2.2.2.1 x.2.2.2.2.2.2.2.1 x.2.2.2.2.2.2.2.2⟩
theorem altran_Check (k : Nat) : AllI (call cf k) [Iflat_Check k, Iflat_Unknowns k, Isystem_Bent k, Itran_onGrid k, Imodel_Count k] := And.intro (okflat_Check k) (And.intro (okflat_Unknowns k) (And.intro (oksystem_Bent k) (And.intro (oktran_onGrid k) (And.intro (okmodel_Count k) (True.intro)))))
def hstran_Check_0 : List SS := [{ fr := [(2, .a (.ptr 0 0 0)), (3, .a (.ptr 1 0 0)), (67, .a (.lf (.sl (.int .i64)))), (68, .a (.lf (.int .i64))), (69, .a (.lf (.int .i64)))], mem := [(0, some (.raw [[.lf (.sl .str), .lf (.sl (.pr (.int .u8) (.pr .str (.pr (.sl (.int .i64)) (.pr (.int .i64) (.pr (.pr (.int .i64) (.int .i64)) (.pr (.pr (.int .i64) (.pr (.sl (.pr (.int .i64) (.int .i64))) (.sl (.int .i64)))) (.pr .str (.pr (.int .u8) (.pr (.sl (.pr (.int .i64) (.int .i64))) (.sl (.pr (.int .i64) (.int .i64))))))))))))), .lf (.int .i64), .lf (.int .i64), .lf (.int .i64)]] 5 27 true false false)), (1, some (.raw [[.lf (.int .i64), .lf (.sl (.int .i64)), .lf (.sl (.int .i64)), .lf (.sl (.int .i64))]] 4 61 true false false))], nx := 2 }]
def ostran_Check_0 : List OS := [⟨none, { fr := [(4, .a (.lf (.int .i64)))], mem := [(0, some (.raw [[.lf (.sl .str), .lf (.sl (.pr (.int .u8) (.pr .str (.pr (.sl (.int .i64)) (.pr (.int .i64) (.pr (.pr (.int .i64) (.int .i64)) (.pr (.pr (.int .i64) (.pr (.sl (.pr (.int .i64) (.int .i64))) (.sl (.int .i64)))) (.pr .str (.pr (.int .u8) (.pr (.sl (.pr (.int .i64) (.int .i64))) (.sl (.pr (.int .i64) (.int .i64))))))))))))), .lf (.int .i64), .lf (.int .i64), .lf (.int .i64)]] 5 27 true false false)), (1, some (.raw [[.lf (.int .i64), .lf (.sl (.int .i64)), .lf (.sl (.int .i64)), .lf (.sl (.int .i64))]] 4 61 true false false))], nx := 2 }⟩, ⟨some 0, { fr := [], mem := [(0, some (.raw [[.lf (.sl .str), .lf (.sl (.pr (.int .u8) (.pr .str (.pr (.sl (.int .i64)) (.pr (.int .i64) (.pr (.pr (.int .i64) (.int .i64)) (.pr (.pr (.int .i64) (.pr (.sl (.pr (.int .i64) (.int .i64))) (.sl (.int .i64)))) (.pr .str (.pr (.int .u8) (.pr (.sl (.pr (.int .i64) (.int .i64))) (.sl (.pr (.int .i64) (.int .i64))))))))))))), .lf (.int .i64), .lf (.int .i64), .lf (.int .i64)]] 5 27 true false false)), (1, some (.raw [[.lf (.int .i64), .lf (.sl (.int .i64)), .lf (.sl (.int .i64)), .lf (.sl (.int .i64))]] 4 61 true false false))], nx := 2 }⟩]
def LItran_Check_0 (k : Nat) : LInst := ⟨0, hstran_Check_0, ostran_Check_0, fun x => Ltran_Check_0 k k x.1 x.2.1 x.2.2.1 x.2.2.2.1 x.2.2.2.2.1 x.2.2.2.2.2.1 x.2.2.2.2.2.2.1 x.2.2.2.2.2.2.2.1 x.2.2.2.2.2.2.2.2.1 x.2.2.2.2.2.2.2.2.2.1 x.2.2.2.2.2.2.2.2.2.2.1 x.2.2.2.2.2.2.2.2.2.2.2⟩
theorem antran_Check_0 (k : Nat) : LAll (LOk (R := DS OS.D ostran_Check_0) (fun b _ σ K => LOt Ty (kps 32) 0 b σ K []) cf (call cf k) (kps 32) Tryd.f32.ntmps k 0) 0 (lb Tryd.f32 0) :=
  And.intro (True.intro) (And.intro (And.intro (True.intro) (True.intro)) (And.intro (And.intro (True.intro) (And.intro (True.intro) (And.intro (And.intro (True.intro) (True.intro)) (True.intro)))) (True.intro)))
theorem sttran_Check_0 (k n : Nat) (x : DS SS.D hstran_Check_0) : Ltran_Check_0 k (n + 1) x.1 x.2.1 x.2.2.1 x.2.2.2.1 x.2.2.2.2.1 x.2.2.2.2.2.1 x.2.2.2.2.2.2.1 x.2.2.2.2.2.2.2.1 x.2.2.2.2.2.2.2.2.1 x.2.2.2.2.2.2.2.2.2.1 x.2.2.2.2.2.2.2.2.2.2.1 x.2.2.2.2.2.2.2.2.2.2.2 = encSK SS.enc (fun σ => run2 cf (fun f a b K => COt f a b K [Iflat_Check k, Iflat_Unknowns k, Isystem_Bent k, Itran_onGrid k, Imodel_Count k]) (fun b _ σ K => LOt Ty (kps 32) 0 b σ K []) Tryd.f32.ntmps 0 (lb Tryd.f32 0) σ (nextK Ty (kps 32 0) 0 hstran_Check_0 ostran_Check_0 fun x => Ltran_Check_0 k n x.1 x.2.1 x.2.2.1 x.2.2.2.1 x.2.2.2.2.1 x.2.2.2.2.2.1 x.2.2.2.2.2.2.1 x.2.2.2.2.2.2.2.1 x.2.2.2.2.2.2.2.2.1 x.2.2.2.2.2.2.2.2.2.1 x.2.2.2.2.2.2.2.2.2.2.1 x.2.2.2.2.2.2.2.2.2.2.2)) hstran_Check_0 x := by kernel_rfl
theorem lotran_Check_0 (k : Nat) : LIOk cf (call cf k) (kps 32) Tryd.f32.ntmps k 0 0 (lb Tryd.f32 0) (LItran_Check_0 k) :=
  loop_ok (c := cf) (callF := call cf k) (kp := kps 32) (nt := Tryd.f32.ntmps) (k := k) (p := 0) (b := 0) (x0 := lb Tryd.f32 0) (hs := hstran_Check_0) (os := ostran_Check_0) (COt_ok (altran_Check k)) (antran_Check_0 k) (fun n x => Ltran_Check_0 k n x.1 x.2.1 x.2.2.1 x.2.2.2.1 x.2.2.2.2.1 x.2.2.2.2.2.1 x.2.2.2.2.2.2.1 x.2.2.2.2.2.2.2.1 x.2.2.2.2.2.2.2.2.1 x.2.2.2.2.2.2.2.2.2.1 x.2.2.2.2.2.2.2.2.2.2.1 x.2.2.2.2.2.2.2.2.2.2.2) (fun _ => rfl) (sttran_Check_0 k)
theorem antran_Check (k : Nat) : LAll (LOk (R := DS FS.D rstran_Check) (fun b _ σ K => LOt Ty (kps 32) 0 b σ K [LItran_Check_0 k]) cf (call cf k) (cf.keep 32) Tryd.f32.ntmps k shtran_Check.bs.length) 0 (bd Tryd.f32) :=
  And.intro (True.intro) (And.intro (And.intro (True.intro) (And.intro (True.intro) (And.intro (And.intro (True.intro) (True.intro)) (True.intro)))) (And.intro (True.intro) (And.intro (True.intro) (And.intro (And.intro (True.intro) (And.intro (And.intro (True.intro) (True.intro)) (True.intro))) (And.intro (And.intro (True.intro) (LOt_ok (c := cf) (callF := call cf k) (kp := kps 32) (nt := Tryd.f32.ntmps) (k := k) (p := 0) (b := 0) (x0 := lb Tryd.f32 0) (l := [LItran_Check_0 k]) (And.intro (fun _ => lotran_Check_0 k) (True.intro)))) (And.intro (True.intro) (True.intro)))))))
theorem sttran_Check (k : Nat) (x : shtran_Check.D) : Ftran_Check (k + 1) x.1 x.2.1 x.2.2.1 x.2.2.2.1 x.2.2.2.2.1 x.2.2.2.2.2.1 x.2.2.2.2.2.2.1 x.2.2.2.2.2.2.2.1 x.2.2.2.2.2.2.2.2 = body2 cf (fun f a b K => COt f a b K [Iflat_Check k, Iflat_Unknowns k, Isystem_Bent k, Itran_onGrid k, Imodel_Count k]) (fun b _ σ K => LOt Ty (kps 32) 0 b σ K [LItran_Check_0 k]) 32 Tryd.f32.ntmps Tryd.f32.results.toList (bd Tryd.f32) (shtran_Check.enc x).1 (shtran_Check.enc x).2 (putS FS.dec rstran_Check) := by kernel_rfl
theorem oktran_Check : ∀ k, InstOk (call cf k) (Itran_Check k)
  | 0 => fun x y e => absurd (show (none : Option _) = some y from e) (by simp)
  | k + 1 => inst_ok (c := cf) (k := k) (f := 32) (fn := Tryd.f32) (body := bd Tryd.f32) (sh := shtran_Check) (os := rstran_Check) rfl Tryd.func32 rfl ⟨rfl, Nat.le_of_ble_eq_true rfl⟩ (COt_ok (altran_Check k)) (antran_Check k) (fun x => Ftran_Check (k + 1) x.1 x.2.1 x.2.2.1 x.2.2.2.1 x.2.2.2.2.1 x.2.2.2.2.2.1 x.2.2.2.2.2.2.1 x.2.2.2.2.2.2.2.1 x.2.2.2.2.2.2.2.2) (sttran_Check k)

/-! shunt/probe.long$1 -/
def bprobe_long_1 (k : Nat) (p : ByteArray) : Option (Bool) :=
  Option.bind (Fcard_Name k p) fun r4 =>
  (some (!r4))
def Fprobe_long_1 : Nat → ByteArray → Option (Bool)
  | 0, _ => none
  | k + 1, p => bprobe_long_1 k p
def shprobe_long_1 : FS := { vs := [.a (.lf .str)], bs := [] }
def rsprobe_long_1 : List FS := [{ vs := [.a (.lf .bool)], bs := [] }]
def Iprobe_long_1 (k : Nat) : Inst := ⟨64, shprobe_long_1, rsprobe_long_1, fun x => Fprobe_long_1 k x⟩
theorem alprobe_long_1 (k : Nat) : AllI (call cf k) [Icard_Name k] := And.intro (okcard_Name k) (True.intro)
theorem anprobe_long_1 (k : Nat) : LAll (LOk (R := DS FS.D rsprobe_long_1) (fun b _ σ K => LOt Ty (kps 64) 0 b σ K []) cf (call cf k) (cf.keep 64) Tryd.f64.ntmps k shprobe_long_1.bs.length) 0 (bd Tryd.f64) :=
  And.intro (True.intro) (And.intro (True.intro) (True.intro))
theorem stprobe_long_1 (k : Nat) (x : shprobe_long_1.D) : Fprobe_long_1 (k + 1) x = body2 cf (fun f a b K => COt f a b K [Icard_Name k]) (fun b _ σ K => LOt Ty (kps 64) 0 b σ K []) 64 Tryd.f64.ntmps Tryd.f64.results.toList (bd Tryd.f64) (shprobe_long_1.enc x).1 (shprobe_long_1.enc x).2 (putS FS.dec rsprobe_long_1) := by kernel_rfl
theorem okprobe_long_1 : ∀ k, InstOk (call cf k) (Iprobe_long_1 k)
  | 0 => fun x y e => absurd (show (none : Option _) = some y from e) (by simp)
  | k + 1 => inst_ok (c := cf) (k := k) (f := 64) (fn := Tryd.f64) (body := bd Tryd.f64) (sh := shprobe_long_1) (os := rsprobe_long_1) rfl Tryd.func64 rfl ⟨rfl, Nat.le_of_ble_eq_true rfl⟩ (COt_ok (alprobe_long_1 k)) (anprobe_long_1 k) (fun x => Fprobe_long_1 (k + 1) x) (stprobe_long_1 k)

/-! slices.IndexFunc[[]string,string] -/
def Lslices_IndexFunc_string_string__puh_0s (k : Nat) (rec : List ByteArray → Int → Int → Option ((Int) ⊕ (Unit))) (s : List ByteArray) (x : Int) (x1 : Int) : Option ((Int) ⊕ (Unit)) :=
  if ((decide (x1 < x)) = true) then
    if ((0 : Int) ≤ x1) then
      Option.bind (s)[(Int.toNat x1)]? fun x6 =>
      Option.bind (Fprobe_long_1 k x6) fun r4 =>
      if (r4 = true) then
        (some (Sum.inl x1))
      else
      rec s x (IntKind.wrap .i64 (x1 + (1 : Int)))
    else
    none
  else
  (some (Sum.inr ()))
def Lslices_IndexFunc_string_string__puh_0 (k n : Nat) : List ByteArray → Int → Int → Option ((Int) ⊕ (Unit)) := Nat.rec (fun _ _ _ => none) (fun _ r => Lslices_IndexFunc_string_string__puh_0s k r) n
def bslices_IndexFunc_string_string__puh (k : Nat) (s : List ByteArray) : Option (Int) :=
  Option.bind (Lslices_IndexFunc_string_string__puh_0 k k s (((List.length s) : Nat) : Int) (0 : Int)) fun r4 =>
  eitherK r4
    (fun r4 =>
    (some r4))
    (fun r4 =>
    (some (-(1 : Int))))
def Fslices_IndexFunc_string_string__puh : Nat → List ByteArray → Option (Int)
  | 0, _ => none
  | k + 1, s => bslices_IndexFunc_string_string__puh k s
def shslices_IndexFunc_string_string__puh : FS := { vs := [.a (.lf (.sl .str)), .a (.fn 64 [])], bs := [] }
def rsslices_IndexFunc_string_string__puh : List FS := [{ vs := [.a (.lf (.int .i64))], bs := [] }]
def Islices_IndexFunc_string_string__puh (k : Nat) : Inst := ⟨63, shslices_IndexFunc_string_string__puh, rsslices_IndexFunc_string_string__puh, fun x => Fslices_IndexFunc_string_string__puh k x⟩
theorem alslices_IndexFunc_string_string__puh (k : Nat) : AllI (call cf k) [Iprobe_long_1 k] := And.intro (okprobe_long_1 k) (True.intro)
def hsslices_IndexFunc_string_string__puh_0 : List SS := [{ fr := [(0, .a (.lf (.sl .str))), (1, .a (.fn 64 [])), (7, .a (.lf (.int .i64))), (8, .a (.lf (.int .i64)))], mem := [], nx := 0 }]
def osslices_IndexFunc_string_string__puh_0 : List OS := [⟨none, { fr := [(4, .a (.lf (.int .i64)))], mem := [], nx := 0 }⟩, ⟨some 0, { fr := [], mem := [], nx := 0 }⟩]
def LIslices_IndexFunc_string_string__puh_0 (k : Nat) : LInst := ⟨0, hsslices_IndexFunc_string_string__puh_0, osslices_IndexFunc_string_string__puh_0, fun x => Lslices_IndexFunc_string_string__puh_0 k k x.1 x.2.1 x.2.2⟩
theorem anslices_IndexFunc_string_string__puh_0 (k : Nat) : LAll (LOk (R := DS OS.D osslices_IndexFunc_string_string__puh_0) (fun b _ σ K => LOt Ty (kps 63) 0 b σ K []) cf (call cf k) (kps 63) Tryd.f63.ntmps k 0) 0 (lb Tryd.f63 0) :=
  And.intro (True.intro) (And.intro (And.intro (True.intro) (True.intro)) (And.intro (And.intro (True.intro) (And.intro (True.intro) (And.intro (And.intro (True.intro) (True.intro)) (True.intro)))) (True.intro)))
theorem stslices_IndexFunc_string_string__puh_0 (k n : Nat) (x : DS SS.D hsslices_IndexFunc_string_string__puh_0) : Lslices_IndexFunc_string_string__puh_0 k (n + 1) x.1 x.2.1 x.2.2 = encSK SS.enc (fun σ => run2 cf (fun f a b K => COt f a b K [Iprobe_long_1 k]) (fun b _ σ K => LOt Ty (kps 63) 0 b σ K []) Tryd.f63.ntmps 0 (lb Tryd.f63 0) σ (nextK Ty (kps 63 0) 0 hsslices_IndexFunc_string_string__puh_0 osslices_IndexFunc_string_string__puh_0 fun x => Lslices_IndexFunc_string_string__puh_0 k n x.1 x.2.1 x.2.2)) hsslices_IndexFunc_string_string__puh_0 x := by kernel_rfl
theorem loslices_IndexFunc_string_string__puh_0 (k : Nat) : LIOk cf (call cf k) (kps 63) Tryd.f63.ntmps k 0 0 (lb Tryd.f63 0) (LIslices_IndexFunc_string_string__puh_0 k) :=
  loop_ok (c := cf) (callF := call cf k) (kp := kps 63) (nt := Tryd.f63.ntmps) (k := k) (p := 0) (b := 0) (x0 := lb Tryd.f63 0) (hs := hsslices_IndexFunc_string_string__puh_0) (os := osslices_IndexFunc_string_string__puh_0) (COt_ok (alslices_IndexFunc_string_string__puh k)) (anslices_IndexFunc_string_string__puh_0 k) (fun n x => Lslices_IndexFunc_string_string__puh_0 k n x.1 x.2.1 x.2.2) (fun _ => rfl) (stslices_IndexFunc_string_string__puh_0 k)
theorem anslices_IndexFunc_string_string__puh (k : Nat) : LAll (LOk (R := DS FS.D rsslices_IndexFunc_string_string__puh) (fun b _ σ K => LOt Ty (kps 63) 0 b σ K [LIslices_IndexFunc_string_string__puh_0 k]) cf (call cf k) (cf.keep 63) Tryd.f63.ntmps k shslices_IndexFunc_string_string__puh.bs.length) 0 (bd Tryd.f63) :=
  And.intro (True.intro) (And.intro (And.intro (True.intro) (LOt_ok (c := cf) (callF := call cf k) (kp := kps 63) (nt := Tryd.f63.ntmps) (k := k) (p := 0) (b := 0) (x0 := lb Tryd.f63 0) (l := [LIslices_IndexFunc_string_string__puh_0 k]) (And.intro (fun _ => loslices_IndexFunc_string_string__puh_0 k) (True.intro)))) (And.intro (True.intro) (True.intro)))
theorem stslices_IndexFunc_string_string__puh (k : Nat) (x : shslices_IndexFunc_string_string__puh.D) : Fslices_IndexFunc_string_string__puh (k + 1) x = body2 cf (fun f a b K => COt f a b K [Iprobe_long_1 k]) (fun b _ σ K => LOt Ty (kps 63) 0 b σ K [LIslices_IndexFunc_string_string__puh_0 k]) 63 Tryd.f63.ntmps Tryd.f63.results.toList (bd Tryd.f63) (shslices_IndexFunc_string_string__puh.enc x).1 (shslices_IndexFunc_string_string__puh.enc x).2 (putS FS.dec rsslices_IndexFunc_string_string__puh) := by kernel_rfl
theorem okslices_IndexFunc_string_string__puh : ∀ k, InstOk (call cf k) (Islices_IndexFunc_string_string__puh k)
  | 0 => fun x y e => absurd (show (none : Option _) = some y from e) (by simp)
  | k + 1 => inst_ok (c := cf) (k := k) (f := 63) (fn := Tryd.f63) (body := bd Tryd.f63) (sh := shslices_IndexFunc_string_string__puh) (os := rsslices_IndexFunc_string_string__puh) rfl Tryd.func63 rfl ⟨rfl, Nat.le_of_ble_eq_true rfl⟩ (COt_ok (alslices_IndexFunc_string_string__puh k)) (anslices_IndexFunc_string_string__puh k) (fun x => Fslices_IndexFunc_string_string__puh (k + 1) x) (stslices_IndexFunc_string_string__puh k)

/-! slices.ContainsFunc[[]string,string] -/
def bslices_ContainsFunc_string_string__puh (k : Nat) (s : List ByteArray) : Option (Bool) :=
  Option.bind (Fslices_IndexFunc_string_string__puh k s) fun r4 =>
  (some (decide (r4 ≥ (0 : Int))))
def Fslices_ContainsFunc_string_string__puh : Nat → List ByteArray → Option (Bool)
  | 0, _ => none
  | k + 1, s => bslices_ContainsFunc_string_string__puh k s
def shslices_ContainsFunc_string_string__puh : FS := { vs := [.a (.lf (.sl .str)), .a (.fn 64 [])], bs := [] }
def rsslices_ContainsFunc_string_string__puh : List FS := [{ vs := [.a (.lf .bool)], bs := [] }]
def Islices_ContainsFunc_string_string__puh (k : Nat) : Inst := ⟨50, shslices_ContainsFunc_string_string__puh, rsslices_ContainsFunc_string_string__puh, fun x => Fslices_ContainsFunc_string_string__puh k x⟩
theorem alslices_ContainsFunc_string_string__puh (k : Nat) : AllI (call cf k) [Islices_IndexFunc_string_string__puh k] := And.intro (okslices_IndexFunc_string_string__puh k) (True.intro)
theorem anslices_ContainsFunc_string_string__puh (k : Nat) : LAll (LOk (R := DS FS.D rsslices_ContainsFunc_string_string__puh) (fun b _ σ K => LOt Ty (kps 50) 0 b σ K []) cf (call cf k) (cf.keep 50) Tryd.f50.ntmps k shslices_ContainsFunc_string_string__puh.bs.length) 0 (bd Tryd.f50) :=
  And.intro (True.intro) (And.intro (True.intro) (True.intro))
theorem stslices_ContainsFunc_string_string__puh (k : Nat) (x : shslices_ContainsFunc_string_string__puh.D) : Fslices_ContainsFunc_string_string__puh (k + 1) x = body2 cf (fun f a b K => COt f a b K [Islices_IndexFunc_string_string__puh k]) (fun b _ σ K => LOt Ty (kps 50) 0 b σ K []) 50 Tryd.f50.ntmps Tryd.f50.results.toList (bd Tryd.f50) (shslices_ContainsFunc_string_string__puh.enc x).1 (shslices_ContainsFunc_string_string__puh.enc x).2 (putS FS.dec rsslices_ContainsFunc_string_string__puh) := by kernel_rfl
theorem okslices_ContainsFunc_string_string__puh : ∀ k, InstOk (call cf k) (Islices_ContainsFunc_string_string__puh k)
  | 0 => fun x y e => absurd (show (none : Option _) = some y from e) (by simp)
  | k + 1 => inst_ok (c := cf) (k := k) (f := 50) (fn := Tryd.f50) (body := bd Tryd.f50) (sh := shslices_ContainsFunc_string_string__puh) (os := rsslices_ContainsFunc_string_string__puh) rfl Tryd.func50 rfl ⟨rfl, Nat.le_of_ble_eq_true rfl⟩ (COt_ok (alslices_ContainsFunc_string_string__puh k)) (anslices_ContainsFunc_string_string__puh k) (fun x => Fslices_ContainsFunc_string_string__puh (k + 1) x) (stslices_ContainsFunc_string_string__puh k)

/-! shunt/probe.long -/
def bprobe_long (k : Nat) (s : ByteArray) : Option (Bool) :=
  Option.bind (Fstrings_Split k s (ByteArray.mk (List.toArray (46 :: [])))) fun r3 =>
  if ((decide ((((List.length r3) : Nat) : Int) ≤ (9 : Int))) = true) then
    Option.bind (Fslices_ContainsFunc_string_string__puh k r3) fun r4 =>
    (some (!r4))
  else
  (some false)
def Fprobe_long : Nat → ByteArray → Option (Bool)
  | 0, _ => none
  | k + 1, s => bprobe_long k s
def shprobe_long : FS := { vs := [.a (.lf .str)], bs := [] }
def rsprobe_long : List FS := [{ vs := [.a (.lf .bool)], bs := [] }]
def Iprobe_long (k : Nat) : Inst := ⟨52, shprobe_long, rsprobe_long, fun x => Fprobe_long k x⟩
theorem alprobe_long (k : Nat) : AllI (call cf k) [Istrings_Split k, Islices_ContainsFunc_string_string__puh k] := And.intro (okstrings_Split k) (And.intro (okslices_ContainsFunc_string_string__puh k) (True.intro))
theorem anprobe_long (k : Nat) : LAll (LOk (R := DS FS.D rsprobe_long) (fun b _ σ K => LOt Ty (kps 52) 0 b σ K []) cf (call cf k) (cf.keep 52) Tryd.f52.ntmps k shprobe_long.bs.length) 0 (bd Tryd.f52) :=
  And.intro (True.intro) (And.intro (True.intro) (And.intro (True.intro) (True.intro)))
theorem stprobe_long (k : Nat) (x : shprobe_long.D) : Fprobe_long (k + 1) x = body2 cf (fun f a b K => COt f a b K [Istrings_Split k, Islices_ContainsFunc_string_string__puh k]) (fun b _ σ K => LOt Ty (kps 52) 0 b σ K []) 52 Tryd.f52.ntmps Tryd.f52.results.toList (bd Tryd.f52) (shprobe_long.enc x).1 (shprobe_long.enc x).2 (putS FS.dec rsprobe_long) := by kernel_rfl
theorem okprobe_long : ∀ k, InstOk (call cf k) (Iprobe_long k)
  | 0 => fun x y e => absurd (show (none : Option _) = some y from e) (by simp)
  | k + 1 => inst_ok (c := cf) (k := k) (f := 52) (fn := Tryd.f52) (body := bd Tryd.f52) (sh := shprobe_long) (os := rsprobe_long) rfl Tryd.func52 rfl ⟨rfl, Nat.le_of_ble_eq_true rfl⟩ (COt_ok (alprobe_long k)) (anprobe_long k) (fun x => Fprobe_long (k + 1) x) (stprobe_long k)

/-! shunt/probe.spot$1 -/
def bprobe_spot_1 (k : Nat) (n : ByteArray) : Option (Bool) :=
  Option.bind (Fprobe_long k n) fun r3 =>
  (some (!r3))
def Fprobe_spot_1 : Nat → ByteArray → Option (Bool)
  | 0, _ => none
  | k + 1, n => bprobe_spot_1 k n
def shprobe_spot_1 : FS := { vs := [.a (.lf .str)], bs := [] }
def rsprobe_spot_1 : List FS := [{ vs := [.a (.lf .bool)], bs := [] }]
def Iprobe_spot_1 (k : Nat) : Inst := ⟨51, shprobe_spot_1, rsprobe_spot_1, fun x => Fprobe_spot_1 k x⟩
theorem alprobe_spot_1 (k : Nat) : AllI (call cf k) [Iprobe_long k] := And.intro (okprobe_long k) (True.intro)
theorem anprobe_spot_1 (k : Nat) : LAll (LOk (R := DS FS.D rsprobe_spot_1) (fun b _ σ K => LOt Ty (kps 51) 0 b σ K []) cf (call cf k) (cf.keep 51) Tryd.f51.ntmps k shprobe_spot_1.bs.length) 0 (bd Tryd.f51) :=
  And.intro (True.intro) (And.intro (True.intro) (True.intro))
theorem stprobe_spot_1 (k : Nat) (x : shprobe_spot_1.D) : Fprobe_spot_1 (k + 1) x = body2 cf (fun f a b K => COt f a b K [Iprobe_long k]) (fun b _ σ K => LOt Ty (kps 51) 0 b σ K []) 51 Tryd.f51.ntmps Tryd.f51.results.toList (bd Tryd.f51) (shprobe_spot_1.enc x).1 (shprobe_spot_1.enc x).2 (putS FS.dec rsprobe_spot_1) := by kernel_rfl
theorem okprobe_spot_1 : ∀ k, InstOk (call cf k) (Iprobe_spot_1 k)
  | 0 => fun x y e => absurd (show (none : Option _) = some y from e) (by simp)
  | k + 1 => inst_ok (c := cf) (k := k) (f := 51) (fn := Tryd.f51) (body := bd Tryd.f51) (sh := shprobe_spot_1) (os := rsprobe_spot_1) rfl Tryd.func51 rfl ⟨rfl, Nat.le_of_ble_eq_true rfl⟩ (COt_ok (alprobe_spot_1 k)) (anprobe_spot_1 k) (fun x => Fprobe_spot_1 (k + 1) x) (stprobe_spot_1 k)

/-! slices.IndexFunc[[]string,string] -/
def Lslices_IndexFunc_string_string__jjg_0s (k : Nat) (rec : List ByteArray → Int → Int → Option ((Int) ⊕ (Unit))) (s : List ByteArray) (x : Int) (x1 : Int) : Option ((Int) ⊕ (Unit)) :=
  if ((decide (x1 < x)) = true) then
    if ((0 : Int) ≤ x1) then
      Option.bind (s)[(Int.toNat x1)]? fun x5 =>
      Option.bind (Fprobe_spot_1 k x5) fun r3 =>
      if (r3 = true) then
        (some (Sum.inl x1))
      else
      rec s x (IntKind.wrap .i64 (x1 + (1 : Int)))
    else
    none
  else
  (some (Sum.inr ()))
def Lslices_IndexFunc_string_string__jjg_0 (k n : Nat) : List ByteArray → Int → Int → Option ((Int) ⊕ (Unit)) := Nat.rec (fun _ _ _ => none) (fun _ r => Lslices_IndexFunc_string_string__jjg_0s k r) n
def bslices_IndexFunc_string_string__jjg (k : Nat) (s : List ByteArray) : Option (Int) :=
  Option.bind (Lslices_IndexFunc_string_string__jjg_0 k k s (((List.length s) : Nat) : Int) (0 : Int)) fun r3 =>
  eitherK r3
    (fun r3 =>
    (some r3))
    (fun r3 =>
    (some (-(1 : Int))))
def Fslices_IndexFunc_string_string__jjg : Nat → List ByteArray → Option (Int)
  | 0, _ => none
  | k + 1, s => bslices_IndexFunc_string_string__jjg k s
def shslices_IndexFunc_string_string__jjg : FS := { vs := [.a (.lf (.sl .str)), .a (.fn 51 [])], bs := [] }
def rsslices_IndexFunc_string_string__jjg : List FS := [{ vs := [.a (.lf (.int .i64))], bs := [] }]
def Islices_IndexFunc_string_string__jjg (k : Nat) : Inst := ⟨63, shslices_IndexFunc_string_string__jjg, rsslices_IndexFunc_string_string__jjg, fun x => Fslices_IndexFunc_string_string__jjg k x⟩
theorem alslices_IndexFunc_string_string__jjg (k : Nat) : AllI (call cf k) [Iprobe_spot_1 k] := And.intro (okprobe_spot_1 k) (True.intro)
def hsslices_IndexFunc_string_string__jjg_0 : List SS := [{ fr := [(0, .a (.lf (.sl .str))), (1, .a (.fn 51 [])), (7, .a (.lf (.int .i64))), (8, .a (.lf (.int .i64)))], mem := [], nx := 0 }]
def osslices_IndexFunc_string_string__jjg_0 : List OS := [⟨none, { fr := [(4, .a (.lf (.int .i64)))], mem := [], nx := 0 }⟩, ⟨some 0, { fr := [], mem := [], nx := 0 }⟩]
def LIslices_IndexFunc_string_string__jjg_0 (k : Nat) : LInst := ⟨0, hsslices_IndexFunc_string_string__jjg_0, osslices_IndexFunc_string_string__jjg_0, fun x => Lslices_IndexFunc_string_string__jjg_0 k k x.1 x.2.1 x.2.2⟩
theorem anslices_IndexFunc_string_string__jjg_0 (k : Nat) : LAll (LOk (R := DS OS.D osslices_IndexFunc_string_string__jjg_0) (fun b _ σ K => LOt Ty (kps 63) 0 b σ K []) cf (call cf k) (kps 63) Tryd.f63.ntmps k 0) 0 (lb Tryd.f63 0) :=
  And.intro (True.intro) (And.intro (And.intro (True.intro) (True.intro)) (And.intro (And.intro (True.intro) (And.intro (True.intro) (And.intro (And.intro (True.intro) (True.intro)) (True.intro)))) (True.intro)))
theorem stslices_IndexFunc_string_string__jjg_0 (k n : Nat) (x : DS SS.D hsslices_IndexFunc_string_string__jjg_0) : Lslices_IndexFunc_string_string__jjg_0 k (n + 1) x.1 x.2.1 x.2.2 = encSK SS.enc (fun σ => run2 cf (fun f a b K => COt f a b K [Iprobe_spot_1 k]) (fun b _ σ K => LOt Ty (kps 63) 0 b σ K []) Tryd.f63.ntmps 0 (lb Tryd.f63 0) σ (nextK Ty (kps 63 0) 0 hsslices_IndexFunc_string_string__jjg_0 osslices_IndexFunc_string_string__jjg_0 fun x => Lslices_IndexFunc_string_string__jjg_0 k n x.1 x.2.1 x.2.2)) hsslices_IndexFunc_string_string__jjg_0 x := by kernel_rfl
theorem loslices_IndexFunc_string_string__jjg_0 (k : Nat) : LIOk cf (call cf k) (kps 63) Tryd.f63.ntmps k 0 0 (lb Tryd.f63 0) (LIslices_IndexFunc_string_string__jjg_0 k) :=
  loop_ok (c := cf) (callF := call cf k) (kp := kps 63) (nt := Tryd.f63.ntmps) (k := k) (p := 0) (b := 0) (x0 := lb Tryd.f63 0) (hs := hsslices_IndexFunc_string_string__jjg_0) (os := osslices_IndexFunc_string_string__jjg_0) (COt_ok (alslices_IndexFunc_string_string__jjg k)) (anslices_IndexFunc_string_string__jjg_0 k) (fun n x => Lslices_IndexFunc_string_string__jjg_0 k n x.1 x.2.1 x.2.2) (fun _ => rfl) (stslices_IndexFunc_string_string__jjg_0 k)
theorem anslices_IndexFunc_string_string__jjg (k : Nat) : LAll (LOk (R := DS FS.D rsslices_IndexFunc_string_string__jjg) (fun b _ σ K => LOt Ty (kps 63) 0 b σ K [LIslices_IndexFunc_string_string__jjg_0 k]) cf (call cf k) (cf.keep 63) Tryd.f63.ntmps k shslices_IndexFunc_string_string__jjg.bs.length) 0 (bd Tryd.f63) :=
  And.intro (True.intro) (And.intro (And.intro (True.intro) (LOt_ok (c := cf) (callF := call cf k) (kp := kps 63) (nt := Tryd.f63.ntmps) (k := k) (p := 0) (b := 0) (x0 := lb Tryd.f63 0) (l := [LIslices_IndexFunc_string_string__jjg_0 k]) (And.intro (fun _ => loslices_IndexFunc_string_string__jjg_0 k) (True.intro)))) (And.intro (True.intro) (True.intro)))
theorem stslices_IndexFunc_string_string__jjg (k : Nat) (x : shslices_IndexFunc_string_string__jjg.D) : Fslices_IndexFunc_string_string__jjg (k + 1) x = body2 cf (fun f a b K => COt f a b K [Iprobe_spot_1 k]) (fun b _ σ K => LOt Ty (kps 63) 0 b σ K [LIslices_IndexFunc_string_string__jjg_0 k]) 63 Tryd.f63.ntmps Tryd.f63.results.toList (bd Tryd.f63) (shslices_IndexFunc_string_string__jjg.enc x).1 (shslices_IndexFunc_string_string__jjg.enc x).2 (putS FS.dec rsslices_IndexFunc_string_string__jjg) := by kernel_rfl
theorem okslices_IndexFunc_string_string__jjg : ∀ k, InstOk (call cf k) (Islices_IndexFunc_string_string__jjg k)
  | 0 => fun x y e => absurd (show (none : Option _) = some y from e) (by simp)
  | k + 1 => inst_ok (c := cf) (k := k) (f := 63) (fn := Tryd.f63) (body := bd Tryd.f63) (sh := shslices_IndexFunc_string_string__jjg) (os := rsslices_IndexFunc_string_string__jjg) rfl Tryd.func63 rfl ⟨rfl, Nat.le_of_ble_eq_true rfl⟩ (COt_ok (alslices_IndexFunc_string_string__jjg k)) (anslices_IndexFunc_string_string__jjg k) (fun x => Fslices_IndexFunc_string_string__jjg (k + 1) x) (stslices_IndexFunc_string_string__jjg k)

/-! slices.ContainsFunc[[]string,string] -/
def bslices_ContainsFunc_string_string__jjg (k : Nat) (s : List ByteArray) : Option (Bool) :=
  Option.bind (Fslices_IndexFunc_string_string__jjg k s) fun r3 =>
  (some (decide (r3 ≥ (0 : Int))))
def Fslices_ContainsFunc_string_string__jjg : Nat → List ByteArray → Option (Bool)
  | 0, _ => none
  | k + 1, s => bslices_ContainsFunc_string_string__jjg k s
def shslices_ContainsFunc_string_string__jjg : FS := { vs := [.a (.lf (.sl .str)), .a (.fn 51 [])], bs := [] }
def rsslices_ContainsFunc_string_string__jjg : List FS := [{ vs := [.a (.lf .bool)], bs := [] }]
def Islices_ContainsFunc_string_string__jjg (k : Nat) : Inst := ⟨50, shslices_ContainsFunc_string_string__jjg, rsslices_ContainsFunc_string_string__jjg, fun x => Fslices_ContainsFunc_string_string__jjg k x⟩
theorem alslices_ContainsFunc_string_string__jjg (k : Nat) : AllI (call cf k) [Islices_IndexFunc_string_string__jjg k] := And.intro (okslices_IndexFunc_string_string__jjg k) (True.intro)
theorem anslices_ContainsFunc_string_string__jjg (k : Nat) : LAll (LOk (R := DS FS.D rsslices_ContainsFunc_string_string__jjg) (fun b _ σ K => LOt Ty (kps 50) 0 b σ K []) cf (call cf k) (cf.keep 50) Tryd.f50.ntmps k shslices_ContainsFunc_string_string__jjg.bs.length) 0 (bd Tryd.f50) :=
  And.intro (True.intro) (And.intro (True.intro) (True.intro))
theorem stslices_ContainsFunc_string_string__jjg (k : Nat) (x : shslices_ContainsFunc_string_string__jjg.D) : Fslices_ContainsFunc_string_string__jjg (k + 1) x = body2 cf (fun f a b K => COt f a b K [Islices_IndexFunc_string_string__jjg k]) (fun b _ σ K => LOt Ty (kps 50) 0 b σ K []) 50 Tryd.f50.ntmps Tryd.f50.results.toList (bd Tryd.f50) (shslices_ContainsFunc_string_string__jjg.enc x).1 (shslices_ContainsFunc_string_string__jjg.enc x).2 (putS FS.dec rsslices_ContainsFunc_string_string__jjg) := by kernel_rfl
theorem okslices_ContainsFunc_string_string__jjg : ∀ k, InstOk (call cf k) (Islices_ContainsFunc_string_string__jjg k)
  | 0 => fun x y e => absurd (show (none : Option _) = some y from e) (by simp)
  | k + 1 => inst_ok (c := cf) (k := k) (f := 50) (fn := Tryd.f50) (body := bd Tryd.f50) (sh := shslices_ContainsFunc_string_string__jjg) (os := rsslices_ContainsFunc_string_string__jjg) rfl Tryd.func50 rfl ⟨rfl, Nat.le_of_ble_eq_true rfl⟩ (COt_ok (alslices_ContainsFunc_string_string__jjg k)) (anslices_ContainsFunc_string_string__jjg k) (fun x => Fslices_ContainsFunc_string_string__jjg (k + 1) x) (stslices_ContainsFunc_string_string__jjg k)

/-! shunt/probe.spot -/
def bprobe_spot (k : Nat) (text : ByteArray) : Option (Int × List ByteArray × Bool) :=
  if ((decide ((((ByteArray.size text) : Nat) : Int) < (4 : Int))) = false) then
    Option.bind ((ByteArray.data text))[0]? fun x =>
    if (((((UInt8.toNat x) : Nat) : Int) != (118 : Int)) = true) then
      Option.bind ((ByteArray.data text))[0]? fun x1 =>
      if (((((UInt8.toNat x1) : Nat) : Int) != (105 : Int)) = false) then
        Option.bind ((ByteArray.data text))[1]? fun x2 =>
        if (((((UInt8.toNat x2) : Nat) : Int) != (40 : Int)) = false) then
          if ((0 : Int) ≤ (IntKind.wrap .i64 ((((ByteArray.size text) : Nat) : Int) - (1 : Int)))) then
            Option.bind ((ByteArray.data text))[(Int.toNat (IntKind.wrap .i64 ((((ByteArray.size text) : Nat) : Int) - (1 : Int))))]? fun x3 =>
            if (((((UInt8.toNat x3) : Nat) : Int) != (41 : Int)) = true) then
              (some ((0 : Int), [], false))
            else
            if (((0 : Int) ≤ (2 : Int)) ∧ (((2 : Int) ≤ (IntKind.wrap .i64 ((((ByteArray.size text) : Nat) : Int) - (1 : Int)))) ∧ ((IntKind.wrap .i64 ((((ByteArray.size text) : Nat) : Int) - (1 : Int))) ≤ (((ByteArray.size text) : Nat) : Int)))) then
              Option.bind (Fstrings_Split k (ByteArray.extract text 2 (Int.toNat (IntKind.wrap .i64 ((((ByteArray.size text) : Nat) : Int) - (1 : Int))))) (ByteArray.mk (List.toArray (44 :: [])))) fun r2 =>
              if ((decide ((((List.length r2) : Nat) : Int) > (2 : Int))) = false) then
                Option.bind ((ByteArray.data text))[0]? fun x4 =>
                if (((((UInt8.toNat x4) : Nat) : Int) == (105 : Int)) = true) then
                  if (((((List.length r2) : Nat) : Int) != (1 : Int)) = false) then
                    Option.bind (Fslices_ContainsFunc_string_string__jjg k r2) fun r3 =>
                    if (r3 = true) then
                      (some ((0 : Int), [], false))
                    else
                    Option.bind ((ByteArray.data text))[0]? fun x5 =>
                    (some ((((UInt8.toNat x5) : Nat) : Int), r2, true))
                  else
                  (some ((0 : Int), [], false))
                else
                Option.bind (Fslices_ContainsFunc_string_string__jjg k r2) fun r3 =>
                if (r3 = true) then
                  (some ((0 : Int), [], false))
                else
                Option.bind ((ByteArray.data text))[0]? fun x5 =>
                (some ((((UInt8.toNat x5) : Nat) : Int), r2, true))
              else
              (some ((0 : Int), [], false))
            else
            none
          else
          none
        else
        (some ((0 : Int), [], false))
      else
      (some ((0 : Int), [], false))
    else
    Option.bind ((ByteArray.data text))[1]? fun x1 =>
    if (((((UInt8.toNat x1) : Nat) : Int) != (40 : Int)) = false) then
      if ((0 : Int) ≤ (IntKind.wrap .i64 ((((ByteArray.size text) : Nat) : Int) - (1 : Int)))) then
        Option.bind ((ByteArray.data text))[(Int.toNat (IntKind.wrap .i64 ((((ByteArray.size text) : Nat) : Int) - (1 : Int))))]? fun x2 =>
        if (((((UInt8.toNat x2) : Nat) : Int) != (41 : Int)) = true) then
          (some ((0 : Int), [], false))
        else
        if (((0 : Int) ≤ (2 : Int)) ∧ (((2 : Int) ≤ (IntKind.wrap .i64 ((((ByteArray.size text) : Nat) : Int) - (1 : Int)))) ∧ ((IntKind.wrap .i64 ((((ByteArray.size text) : Nat) : Int) - (1 : Int))) ≤ (((ByteArray.size text) : Nat) : Int)))) then
          Option.bind (Fstrings_Split k (ByteArray.extract text 2 (Int.toNat (IntKind.wrap .i64 ((((ByteArray.size text) : Nat) : Int) - (1 : Int))))) (ByteArray.mk (List.toArray (44 :: [])))) fun r2 =>
          if ((decide ((((List.length r2) : Nat) : Int) > (2 : Int))) = false) then
            Option.bind ((ByteArray.data text))[0]? fun x3 =>
            if (((((UInt8.toNat x3) : Nat) : Int) == (105 : Int)) = true) then
              if (((((List.length r2) : Nat) : Int) != (1 : Int)) = false) then
                Option.bind (Fslices_ContainsFunc_string_string__jjg k r2) fun r3 =>
                if (r3 = true) then
                  (some ((0 : Int), [], false))
                else
                Option.bind ((ByteArray.data text))[0]? fun x4 =>
                (some ((((UInt8.toNat x4) : Nat) : Int), r2, true))
              else
              (some ((0 : Int), [], false))
            else
            Option.bind (Fslices_ContainsFunc_string_string__jjg k r2) fun r3 =>
            if (r3 = true) then
              (some ((0 : Int), [], false))
            else
            Option.bind ((ByteArray.data text))[0]? fun x4 =>
            (some ((((UInt8.toNat x4) : Nat) : Int), r2, true))
          else
          (some ((0 : Int), [], false))
        else
        none
      else
      none
    else
    (some ((0 : Int), [], false))
  else
  (some ((0 : Int), [], false))
def Fprobe_spot : Nat → ByteArray → Option (Int × List ByteArray × Bool)
  | 0, _ => none
  | k + 1, text => bprobe_spot k text
def shprobe_spot : FS := { vs := [.a (.lf .str)], bs := [] }
def rsprobe_spot : List FS := [{ vs := [.a (.lf (.int .u8)), .a (.lf (.sl .str)), .a (.lf .bool)], bs := [] }]
def Iprobe_spot (k : Nat) : Inst := ⟨33, shprobe_spot, rsprobe_spot, fun x => Fprobe_spot k x⟩
theorem alprobe_spot (k : Nat) : AllI (call cf k) [Istrings_Split k, Islices_ContainsFunc_string_string__jjg k] := And.intro (okstrings_Split k) (And.intro (okslices_ContainsFunc_string_string__jjg k) (True.intro))
theorem anprobe_spot (k : Nat) : LAll (LOk (R := DS FS.D rsprobe_spot) (fun b _ σ K => LOt Ty (kps 33) 0 b σ K []) cf (call cf k) (cf.keep 33) Tryd.f33.ntmps k shprobe_spot.bs.length) 0 (bd Tryd.f33) :=
  And.intro (True.intro) (And.intro (And.intro (True.intro) (And.intro (And.intro (True.intro) (True.intro)) (True.intro))) (And.intro (True.intro) (And.intro (And.intro (True.intro) (And.intro (And.intro (True.intro) (True.intro)) (True.intro))) (And.intro (True.intro) (True.intro)))))
theorem stprobe_spot (k : Nat) (x : shprobe_spot.D) : Fprobe_spot (k + 1) x = body2 cf (fun f a b K => COt f a b K [Istrings_Split k, Islices_ContainsFunc_string_string__jjg k]) (fun b _ σ K => LOt Ty (kps 33) 0 b σ K []) 33 Tryd.f33.ntmps Tryd.f33.results.toList (bd Tryd.f33) (shprobe_spot.enc x).1 (shprobe_spot.enc x).2 (putS FS.dec rsprobe_spot) := by kernel_rfl
theorem okprobe_spot : ∀ k, InstOk (call cf k) (Iprobe_spot k)
  | 0 => fun x y e => absurd (show (none : Option _) = some y from e) (by simp)
  | k + 1 => inst_ok (c := cf) (k := k) (f := 33) (fn := Tryd.f33) (body := bd Tryd.f33) (sh := shprobe_spot) (os := rsprobe_spot) rfl Tryd.func33 rfl ⟨rfl, Nat.le_of_ble_eq_true rfl⟩ (COt_ok (alprobe_spot k)) (anprobe_spot k) (fun x => Fprobe_spot (k + 1) x) (stprobe_spot k)

/-! shunt/flat.Dev -/
def Lflat_Dev_0s (k : Nat) (rec : ByteArray → List (Int × ByteArray × List Int × Int × (Int × Int) × (Int × List (Int × Int) × List Int) × ByteArray × Int × List (Int × Int) × List (Int × Int)) → Int → Int → Option ((Int × Int × Int × ByteArray × List Int × Int × Int × Int × Int × List (Int × Int) × List Int × ByteArray × Int × List (Int × Int) × List (Int × Int)) ⊕ (Unit))) (name : ByteArray) (x : List (Int × ByteArray × List Int × Int × (Int × Int) × (Int × List (Int × Int) × List Int) × ByteArray × Int × List (Int × Int) × List (Int × Int))) (x1 : Int) (x2 : Int) : Option ((Int × Int × Int × ByteArray × List Int × Int × Int × Int × Int × List (Int × Int) × List Int × ByteArray × Int × List (Int × Int) × List (Int × Int)) ⊕ (Unit)) :=
  if ((decide (x2 < x1)) = true) then
    if ((0 : Int) ≤ x2) then
      Option.bind (x)[(Int.toNat x2)]? fun x3 =>
      if (((Array.toList (ByteArray.data x3.2.1)) == (Array.toList (ByteArray.data name))) = true) then
        (some (Sum.inl (x2, (0 : Int), x3.1, x3.2.1, x3.2.2.1, x3.2.2.2.1, x3.2.2.2.2.1.1, x3.2.2.2.2.1.2, x3.2.2.2.2.2.1.1, x3.2.2.2.2.2.1.2.1, x3.2.2.2.2.2.1.2.2, x3.2.2.2.2.2.2.1, x3.2.2.2.2.2.2.2.1, x3.2.2.2.2.2.2.2.2.1, x3.2.2.2.2.2.2.2.2.2)))
      else
      rec name x x1 (IntKind.wrap .i64 (x2 + (1 : Int)))
    else
    none
  else
  (some (Sum.inr ()))
def Lflat_Dev_0 (k n : Nat) : ByteArray → List (Int × ByteArray × List Int × Int × (Int × Int) × (Int × List (Int × Int) × List Int) × ByteArray × Int × List (Int × Int) × List (Int × Int)) → Int → Int → Option ((Int × Int × Int × ByteArray × List Int × Int × Int × Int × Int × List (Int × Int) × List Int × ByteArray × Int × List (Int × Int) × List (Int × Int)) ⊕ (Unit)) := Nat.rec (fun _ _ _ _ => none) (fun _ r => Lflat_Dev_0s k r) n
def bflat_Dev (k : Nat) (f0 : List ByteArray) (f1 : List (Int × ByteArray × List Int × Int × (Int × Int) × (Int × List (Int × Int) × List Int) × ByteArray × Int × List (Int × Int) × List (Int × Int))) (f2 : Int) (f3 : Int) (f4 : Int) (name : ByteArray) : Option (Int × Int) :=
  Option.bind (Lflat_Dev_0 k k name f1 (((List.length f1) : Nat) : Int) (0 : Int)) fun r3 =>
  eitherK r3
    (fun r3 =>
    (some (r3.1, r3.2.1)))
    (fun r3 =>
    (some ((0 : Int), (6 : Int))))
def Fflat_Dev : Nat → List ByteArray → List (Int × ByteArray × List Int × Int × (Int × Int) × (Int × List (Int × Int) × List Int) × ByteArray × Int × List (Int × Int) × List (Int × Int)) → Int → Int → Int → ByteArray → Option (Int × Int)
  | 0, _, _, _, _, _, _ => none
  | k + 1, f0, f1, f2, f3, f4, name => bflat_Dev k f0 f1 f2 f3 f4 name
def shflat_Dev : FS := { vs := [.g [.lf (.sl .str), .lf (.sl (.pr (.int .u8) (.pr .str (.pr (.sl (.int .i64)) (.pr (.int .i64) (.pr (.pr (.int .i64) (.int .i64)) (.pr (.pr (.int .i64) (.pr (.sl (.pr (.int .i64) (.int .i64))) (.sl (.int .i64)))) (.pr .str (.pr (.int .u8) (.pr (.sl (.pr (.int .i64) (.int .i64))) (.sl (.pr (.int .i64) (.int .i64))))))))))))), .lf (.int .i64), .lf (.int .i64), .lf (.int .i64)], .a (.lf .str)], bs := [] }
def rsflat_Dev : List FS := [{ vs := [.a (.lf (.int .i64)), .a (.lf (.int .i64))], bs := [] }]
def Iflat_Dev (k : Nat) : Inst := ⟨34, shflat_Dev, rsflat_Dev, fun x => Fflat_Dev k x.1 x.2.1 x.2.2.1 x.2.2.2.1 x.2.2.2.2.1 x.2.2.2.2.2⟩
theorem alflat_Dev (k : Nat) : AllI (call cf k) [] := True.intro
def hsflat_Dev_0 : List SS := [{ fr := [(1, .a (.lf .str)), (9, .a (.lf (.sl (.pr (.int .u8) (.pr .str (.pr (.sl (.int .i64)) (.pr (.int .i64) (.pr (.pr (.int .i64) (.int .i64)) (.pr (.pr (.int .i64) (.pr (.sl (.pr (.int .i64) (.int .i64))) (.sl (.int .i64)))) (.pr .str (.pr (.int .u8) (.pr (.sl (.pr (.int .i64) (.int .i64))) (.sl (.pr (.int .i64) (.int .i64))))))))))))))), (10, .a (.lf (.int .i64))), (11, .a (.lf (.int .i64)))], mem := [], nx := 0 }]
def osflat_Dev_0 : List OS := [⟨none, { fr := [(4, .a (.lf (.int .i64))), (5, .a (.lf (.int .i64)))], mem := [(0, some (.raw [[.lf (.int .u8), .lf .str, .lf (.sl (.int .i64)), .lf (.int .i64), .lf (.int .i64), .lf (.int .i64), .lf (.int .i64), .lf (.sl (.pr (.int .i64) (.int .i64))), .lf (.sl (.int .i64)), .lf .str, .lf (.int .u8), .lf (.sl (.pr (.int .i64) (.int .i64))), .lf (.sl (.pr (.int .i64) (.int .i64)))]] 13 38 true false false))], nx := 1 }⟩, ⟨some 0, { fr := [], mem := [], nx := 0 }⟩]
def LIflat_Dev_0 (k : Nat) : LInst := ⟨0, hsflat_Dev_0, osflat_Dev_0, fun x => Lflat_Dev_0 k k x.1 x.2.1 x.2.2.1 x.2.2.2⟩
theorem anflat_Dev_0 (k : Nat) : LAll (LOk (R := DS OS.D osflat_Dev_0) (fun b _ σ K => LOt Ty (kps 34) 0 b σ K []) cf (call cf k) (kps 34) Tryd.f34.ntmps k 0) 0 (lb Tryd.f34 0) :=
  And.intro (True.intro) (And.intro (And.intro (True.intro) (True.intro)) (And.intro (And.intro (True.intro) (And.intro (True.intro) (And.intro (And.intro (True.intro) (True.intro)) (True.intro)))) (True.intro)))
theorem stflat_Dev_0 (k n : Nat) (x : DS SS.D hsflat_Dev_0) : Lflat_Dev_0 k (n + 1) x.1 x.2.1 x.2.2.1 x.2.2.2 = encSK SS.enc (fun σ => run2 cf (fun f a b K => COt f a b K []) (fun b _ σ K => LOt Ty (kps 34) 0 b σ K []) Tryd.f34.ntmps 0 (lb Tryd.f34 0) σ (nextK Ty (kps 34 0) 0 hsflat_Dev_0 osflat_Dev_0 fun x => Lflat_Dev_0 k n x.1 x.2.1 x.2.2.1 x.2.2.2)) hsflat_Dev_0 x := by kernel_rfl
theorem loflat_Dev_0 (k : Nat) : LIOk cf (call cf k) (kps 34) Tryd.f34.ntmps k 0 0 (lb Tryd.f34 0) (LIflat_Dev_0 k) :=
  loop_ok (c := cf) (callF := call cf k) (kp := kps 34) (nt := Tryd.f34.ntmps) (k := k) (p := 0) (b := 0) (x0 := lb Tryd.f34 0) (hs := hsflat_Dev_0) (os := osflat_Dev_0) (COt_ok (alflat_Dev k)) (anflat_Dev_0 k) (fun n x => Lflat_Dev_0 k n x.1 x.2.1 x.2.2.1 x.2.2.2) (fun _ => rfl) (stflat_Dev_0 k)
theorem anflat_Dev (k : Nat) : LAll (LOk (R := DS FS.D rsflat_Dev) (fun b _ σ K => LOt Ty (kps 34) 0 b σ K [LIflat_Dev_0 k]) cf (call cf k) (cf.keep 34) Tryd.f34.ntmps k shflat_Dev.bs.length) 0 (bd Tryd.f34) :=
  And.intro (True.intro) (And.intro (And.intro (True.intro) (LOt_ok (c := cf) (callF := call cf k) (kp := kps 34) (nt := Tryd.f34.ntmps) (k := k) (p := 0) (b := 0) (x0 := lb Tryd.f34 0) (l := [LIflat_Dev_0 k]) (And.intro (fun _ => loflat_Dev_0 k) (True.intro)))) (And.intro (True.intro) (True.intro)))
theorem stflat_Dev (k : Nat) (x : shflat_Dev.D) : Fflat_Dev (k + 1) x.1 x.2.1 x.2.2.1 x.2.2.2.1 x.2.2.2.2.1 x.2.2.2.2.2 = body2 cf (fun f a b K => COt f a b K []) (fun b _ σ K => LOt Ty (kps 34) 0 b σ K [LIflat_Dev_0 k]) 34 Tryd.f34.ntmps Tryd.f34.results.toList (bd Tryd.f34) (shflat_Dev.enc x).1 (shflat_Dev.enc x).2 (putS FS.dec rsflat_Dev) := by kernel_rfl
theorem okflat_Dev : ∀ k, InstOk (call cf k) (Iflat_Dev k)
  | 0 => fun x y e => absurd (show (none : Option _) = some y from e) (by simp)
  | k + 1 => inst_ok (c := cf) (k := k) (f := 34) (fn := Tryd.f34) (body := bd Tryd.f34) (sh := shflat_Dev) (os := rsflat_Dev) rfl Tryd.func34 rfl ⟨rfl, Nat.le_of_ble_eq_true rfl⟩ (COt_ok (alflat_Dev k)) (anflat_Dev k) (fun x => Fflat_Dev (k + 1) x.1 x.2.1 x.2.2.1 x.2.2.2.1 x.2.2.2.2.1 x.2.2.2.2.2) (stflat_Dev k)

/-! slices.Index[[]string,string] -/
def Lslices_Index_string_string__0s (k : Nat) (rec : List ByteArray → ByteArray → Int → Int → Option ((Int) ⊕ (Unit))) (s : List ByteArray) (v : ByteArray) (x : Int) (x1 : Int) : Option ((Int) ⊕ (Unit)) :=
  if ((decide (x1 < x)) = true) then
    if ((0 : Int) ≤ x1) then
      Option.bind (s)[(Int.toNat x1)]? fun x4 =>
      if (((Array.toList (ByteArray.data v)) == (Array.toList (ByteArray.data x4))) = true) then
        (some (Sum.inl x1))
      else
      rec s v x (IntKind.wrap .i64 (x1 + (1 : Int)))
    else
    none
  else
  (some (Sum.inr ()))
def Lslices_Index_string_string__0 (k n : Nat) : List ByteArray → ByteArray → Int → Int → Option ((Int) ⊕ (Unit)) := Nat.rec (fun _ _ _ _ => none) (fun _ r => Lslices_Index_string_string__0s k r) n
def bslices_Index_string_string_ (k : Nat) (s : List ByteArray) (v : ByteArray) : Option (Int) :=
  Option.bind (Lslices_Index_string_string__0 k k s v (((List.length s) : Nat) : Int) (0 : Int)) fun r3 =>
  eitherK r3
    (fun r3 =>
    (some r3))
    (fun r3 =>
    (some (-(1 : Int))))
def Fslices_Index_string_string_ : Nat → List ByteArray → ByteArray → Option (Int)
  | 0, _, _ => none
  | k + 1, s, v => bslices_Index_string_string_ k s v
def shslices_Index_string_string_ : FS := { vs := [.a (.lf (.sl .str)), .a (.lf .str)], bs := [] }
def rsslices_Index_string_string_ : List FS := [{ vs := [.a (.lf (.int .i64))], bs := [] }]
def Islices_Index_string_string_ (k : Nat) : Inst := ⟨53, shslices_Index_string_string_, rsslices_Index_string_string_, fun x => Fslices_Index_string_string_ k x.1 x.2⟩
theorem alslices_Index_string_string_ (k : Nat) : AllI (call cf k) [] := True.intro
def hsslices_Index_string_string__0 : List SS := [{ fr := [(0, .a (.lf (.sl .str))), (1, .a (.lf .str)), (7, .a (.lf (.int .i64))), (8, .a (.lf (.int .i64)))], mem := [], nx := 0 }]
def osslices_Index_string_string__0 : List OS := [⟨none, { fr := [(4, .a (.lf (.int .i64)))], mem := [], nx := 0 }⟩, ⟨some 0, { fr := [], mem := [], nx := 0 }⟩]
def LIslices_Index_string_string__0 (k : Nat) : LInst := ⟨0, hsslices_Index_string_string__0, osslices_Index_string_string__0, fun x => Lslices_Index_string_string__0 k k x.1 x.2.1 x.2.2.1 x.2.2.2⟩
theorem anslices_Index_string_string__0 (k : Nat) : LAll (LOk (R := DS OS.D osslices_Index_string_string__0) (fun b _ σ K => LOt Ty (kps 53) 0 b σ K []) cf (call cf k) (kps 53) Tryd.f53.ntmps k 0) 0 (lb Tryd.f53 0) :=
  And.intro (True.intro) (And.intro (And.intro (True.intro) (True.intro)) (And.intro (And.intro (True.intro) (And.intro (True.intro) (And.intro (And.intro (True.intro) (True.intro)) (True.intro)))) (True.intro)))
theorem stslices_Index_string_string__0 (k n : Nat) (x : DS SS.D hsslices_Index_string_string__0) : Lslices_Index_string_string__0 k (n + 1) x.1 x.2.1 x.2.2.1 x.2.2.2 = encSK SS.enc (fun σ => run2 cf (fun f a b K => COt f a b K []) (fun b _ σ K => LOt Ty (kps 53) 0 b σ K []) Tryd.f53.ntmps 0 (lb Tryd.f53 0) σ (nextK Ty (kps 53 0) 0 hsslices_Index_string_string__0 osslices_Index_string_string__0 fun x => Lslices_Index_string_string__0 k n x.1 x.2.1 x.2.2.1 x.2.2.2)) hsslices_Index_string_string__0 x := by kernel_rfl
theorem loslices_Index_string_string__0 (k : Nat) : LIOk cf (call cf k) (kps 53) Tryd.f53.ntmps k 0 0 (lb Tryd.f53 0) (LIslices_Index_string_string__0 k) :=
  loop_ok (c := cf) (callF := call cf k) (kp := kps 53) (nt := Tryd.f53.ntmps) (k := k) (p := 0) (b := 0) (x0 := lb Tryd.f53 0) (hs := hsslices_Index_string_string__0) (os := osslices_Index_string_string__0) (COt_ok (alslices_Index_string_string_ k)) (anslices_Index_string_string__0 k) (fun n x => Lslices_Index_string_string__0 k n x.1 x.2.1 x.2.2.1 x.2.2.2) (fun _ => rfl) (stslices_Index_string_string__0 k)
theorem anslices_Index_string_string_ (k : Nat) : LAll (LOk (R := DS FS.D rsslices_Index_string_string_) (fun b _ σ K => LOt Ty (kps 53) 0 b σ K [LIslices_Index_string_string__0 k]) cf (call cf k) (cf.keep 53) Tryd.f53.ntmps k shslices_Index_string_string_.bs.length) 0 (bd Tryd.f53) :=
  And.intro (True.intro) (And.intro (And.intro (True.intro) (LOt_ok (c := cf) (callF := call cf k) (kp := kps 53) (nt := Tryd.f53.ntmps) (k := k) (p := 0) (b := 0) (x0 := lb Tryd.f53 0) (l := [LIslices_Index_string_string__0 k]) (And.intro (fun _ => loslices_Index_string_string__0 k) (True.intro)))) (And.intro (True.intro) (True.intro)))
theorem stslices_Index_string_string_ (k : Nat) (x : shslices_Index_string_string_.D) : Fslices_Index_string_string_ (k + 1) x.1 x.2 = body2 cf (fun f a b K => COt f a b K []) (fun b _ σ K => LOt Ty (kps 53) 0 b σ K [LIslices_Index_string_string__0 k]) 53 Tryd.f53.ntmps Tryd.f53.results.toList (bd Tryd.f53) (shslices_Index_string_string_.enc x).1 (shslices_Index_string_string_.enc x).2 (putS FS.dec rsslices_Index_string_string_) := by kernel_rfl
theorem okslices_Index_string_string_ : ∀ k, InstOk (call cf k) (Islices_Index_string_string_ k)
  | 0 => fun x y e => absurd (show (none : Option _) = some y from e) (by simp)
  | k + 1 => inst_ok (c := cf) (k := k) (f := 53) (fn := Tryd.f53) (body := bd Tryd.f53) (sh := shslices_Index_string_string_) (os := rsslices_Index_string_string_) rfl Tryd.func53 rfl ⟨rfl, Nat.le_of_ble_eq_true rfl⟩ (COt_ok (alslices_Index_string_string_ k)) (anslices_Index_string_string_ k) (fun x => Fslices_Index_string_string_ (k + 1) x.1 x.2) (stslices_Index_string_string_ k)

/-! shunt/flat.Node -/
def bflat_Node (k : Nat) (f0 : List ByteArray) (f1 : List (Int × ByteArray × List Int × Int × (Int × Int) × (Int × List (Int × Int) × List Int) × ByteArray × Int × List (Int × Int) × List (Int × Int))) (f2 : Int) (f3 : Int) (f4 : Int) (name : ByteArray) : Option (Int × Int) :=
  Option.bind (Fslices_Index_string_string_ k f0 name) fun r3 =>
  if ((decide (r3 < (0 : Int))) = true) then
    (some ((0 : Int), (6 : Int)))
  else
  (some (r3, (0 : Int)))
def Fflat_Node : Nat → List ByteArray → List (Int × ByteArray × List Int × Int × (Int × Int) × (Int × List (Int × Int) × List Int) × ByteArray × Int × List (Int × Int) × List (Int × Int)) → Int → Int → Int → ByteArray → Option (Int × Int)
  | 0, _, _, _, _, _, _ => none
  | k + 1, f0, f1, f2, f3, f4, name => bflat_Node k f0 f1 f2 f3 f4 name
def shflat_Node : FS := { vs := [.g [.lf (.sl .str), .lf (.sl (.pr (.int .u8) (.pr .str (.pr (.sl (.int .i64)) (.pr (.int .i64) (.pr (.pr (.int .i64) (.int .i64)) (.pr (.pr (.int .i64) (.pr (.sl (.pr (.int .i64) (.int .i64))) (.sl (.int .i64)))) (.pr .str (.pr (.int .u8) (.pr (.sl (.pr (.int .i64) (.int .i64))) (.sl (.pr (.int .i64) (.int .i64))))))))))))), .lf (.int .i64), .lf (.int .i64), .lf (.int .i64)], .a (.lf .str)], bs := [] }
def rsflat_Node : List FS := [{ vs := [.a (.lf (.int .i64)), .a (.lf (.int .i64))], bs := [] }]
def Iflat_Node (k : Nat) : Inst := ⟨35, shflat_Node, rsflat_Node, fun x => Fflat_Node k x.1 x.2.1 x.2.2.1 x.2.2.2.1 x.2.2.2.2.1 x.2.2.2.2.2⟩
theorem alflat_Node (k : Nat) : AllI (call cf k) [Islices_Index_string_string_ k] := And.intro (okslices_Index_string_string_ k) (True.intro)
theorem anflat_Node (k : Nat) : LAll (LOk (R := DS FS.D rsflat_Node) (fun b _ σ K => LOt Ty (kps 35) 0 b σ K []) cf (call cf k) (cf.keep 35) Tryd.f35.ntmps k shflat_Node.bs.length) 0 (bd Tryd.f35) :=
  And.intro (True.intro) (And.intro (True.intro) (And.intro (And.intro (True.intro) (And.intro (And.intro (True.intro) (True.intro)) (True.intro))) (And.intro (True.intro) (True.intro))))
theorem stflat_Node (k : Nat) (x : shflat_Node.D) : Fflat_Node (k + 1) x.1 x.2.1 x.2.2.1 x.2.2.2.1 x.2.2.2.2.1 x.2.2.2.2.2 = body2 cf (fun f a b K => COt f a b K [Islices_Index_string_string_ k]) (fun b _ σ K => LOt Ty (kps 35) 0 b σ K []) 35 Tryd.f35.ntmps Tryd.f35.results.toList (bd Tryd.f35) (shflat_Node.enc x).1 (shflat_Node.enc x).2 (putS FS.dec rsflat_Node) := by kernel_rfl
theorem okflat_Node : ∀ k, InstOk (call cf k) (Iflat_Node k)
  | 0 => fun x y e => absurd (show (none : Option _) = some y from e) (by simp)
  | k + 1 => inst_ok (c := cf) (k := k) (f := 35) (fn := Tryd.f35) (body := bd Tryd.f35) (sh := shflat_Node) (os := rsflat_Node) rfl Tryd.func35 rfl ⟨rfl, Nat.le_of_ble_eq_true rfl⟩ (COt_ok (alflat_Node k)) (anflat_Node k) (fun x => Fflat_Node (k + 1) x.1 x.2.1 x.2.2.1 x.2.2.2.1 x.2.2.2.2.1 x.2.2.2.2.2) (stflat_Node k)

/-! shunt/probe.Read -/
def Lprobe_Read_0s (k : Nat) (rec : Int → Int → List ByteArray → Int → Int → List ByteArray → List (Int × ByteArray × List Int × Int × (Int × Int) × (Int × List (Int × Int) × List Int) × ByteArray × Int × List (Int × Int) × List (Int × Int)) → Int → Int → Int → Int → List Int → List Int → List Int → Option ((Int × Int × List ByteArray × List (Int × ByteArray × List Int × Int × (Int × Int) × (Int × List (Int × Int) × List Int) × ByteArray × Int × List (Int × Int) × List (Int × Int)) × Int × Int × Int × Int × List Int × List Int × List Int) ⊕ (Int × List ByteArray × List (Int × ByteArray × List Int × Int × (Int × Int) × (Int × List (Int × Int) × List Int) × ByteArray × Int × List (Int × Int) × List (Int × Int)) × Int × Int × Int × Int × List Int × List Int × List Int))) (v : Int) (sign : Int) (x : List ByteArray) (x1 : Int) (x2 : Int) (f0 : List ByteArray) (f1 : List (Int × ByteArray × List Int × Int × (Int × Int) × (Int × List (Int × Int) × List Int) × ByteArray × Int × List (Int × Int) × List (Int × Int))) (f2 : Int) (f3 : Int) (f4 : Int) (st0 : Int) (st1 : List Int) (st2 : List Int) (st3 : List Int) : Option ((Int × Int × List ByteArray × List (Int × ByteArray × List Int × Int × (Int × Int) × (Int × List (Int × Int) × List Int) × ByteArray × Int × List (Int × Int) × List (Int × Int)) × Int × Int × Int × Int × List Int × List Int × List Int) ⊕ (Int × List ByteArray × List (Int × ByteArray × List Int × Int × (Int × Int) × (Int × List (Int × Int) × List Int) × ByteArray × Int × List (Int × Int) × List (Int × Int)) × Int × Int × Int × Int × List Int × List Int × List Int)) :=
  if ((decide (x2 < x1)) = true) then
    if ((0 : Int) ≤ x2) then
      Option.bind (x)[(Int.toNat x2)]? fun x3 =>
      Option.bind (Fflat_Node k f0 f1 f2 f3 f4 x3) fun r3 =>
      if ((r3.2 != (0 : Int)) = true) then
        (some (Sum.inl ((0 : Int), r3.2, f0, f1, f2, f3, f4, st0, st1, st2, st3)))
      else
      if ((decide (r3.1 > (0 : Int))) = true) then
        if ((0 : Int) ≤ (IntKind.wrap .i64 (r3.1 - (1 : Int)))) then
          Option.bind (st1)[(Int.toNat (IntKind.wrap .i64 (r3.1 - (1 : Int))))]? fun x4 =>
          rec (IntKind.wrap .i64 (v + (IntKind.wrap .i64 (sign * x4)))) (-(1 : Int)) x x1 (IntKind.wrap .i64 (x2 + (1 : Int))) f0 f1 f2 f3 f4 st0 st1 st2 st3
        else
        none
      else
      rec v (-(1 : Int)) x x1 (IntKind.wrap .i64 (x2 + (1 : Int))) f0 f1 f2 f3 f4 st0 st1 st2 st3
    else
    none
  else
  (some (Sum.inr (v, f0, f1, f2, f3, f4, st0, st1, st2, st3)))
def Lprobe_Read_0 (k n : Nat) : Int → Int → List ByteArray → Int → Int → List ByteArray → List (Int × ByteArray × List Int × Int × (Int × Int) × (Int × List (Int × Int) × List Int) × ByteArray × Int × List (Int × Int) × List (Int × Int)) → Int → Int → Int → Int → List Int → List Int → List Int → Option ((Int × Int × List ByteArray × List (Int × ByteArray × List Int × Int × (Int × Int) × (Int × List (Int × Int) × List Int) × ByteArray × Int × List (Int × Int) × List (Int × Int)) × Int × Int × Int × Int × List Int × List Int × List Int) ⊕ (Int × List ByteArray × List (Int × ByteArray × List Int × Int × (Int × Int) × (Int × List (Int × Int) × List Int) × ByteArray × Int × List (Int × Int) × List (Int × Int)) × Int × Int × Int × Int × List Int × List Int × List Int)) := Nat.rec (fun _ _ _ _ _ _ _ _ _ _ _ _ _ _ => none) (fun _ r => Lprobe_Read_0s k r) n
def bprobe_Read (k : Nat) (f0 : List ByteArray) (f1 : List (Int × ByteArray × List Int × Int × (Int × Int) × (Int × List (Int × Int) × List Int) × ByteArray × Int × List (Int × Int) × List (Int × Int))) (f2 : Int) (f3 : Int) (f4 : Int) (st0 : Int) (st1 : List Int) (st2 : List Int) (st3 : List Int) (text : ByteArray) : Option (Int × Int) :=
  Option.bind (Ftran_Check k f0 f1 f2 f3 f4 st0 st1 st2 st3) fun r1 =>
  if ((r1 != (0 : Int)) = true) then
    (some ((0 : Int), r1))
  else
  Option.bind (Fprobe_spot k text) fun r2 =>
  if ((!r2.2.2) = true) then
    (some ((0 : Int), (3 : Int)))
  else
  if ((r2.1 == (105 : Int)) = true) then
    Option.bind (r2.2.1)[0]? fun x =>
    Option.bind (Fflat_Dev k f0 f1 f2 f3 f4 x) fun r3 =>
    if ((r3.2 != (0 : Int)) = true) then
      (some ((0 : Int), r3.2))
    else
    if ((0 : Int) ≤ r3.1) then
      Option.bind (st2)[(Int.toNat r3.1)]? fun x1 =>
      (some (x1, (0 : Int)))
    else
    none
  else
  Option.bind (Lprobe_Read_0 k k (0 : Int) (1 : Int) r2.2.1 (((List.length r2.2.1) : Nat) : Int) (0 : Int) f0 f1 f2 f3 f4 st0 st1 st2 st3) fun r3 =>
  eitherK r3
    (fun r3 =>
    (some (r3.1, r3.2.1)))
    (fun r3 =>
    (some (r3.1, (0 : Int))))
def Fprobe_Read : Nat → List ByteArray → List (Int × ByteArray × List Int × Int × (Int × Int) × (Int × List (Int × Int) × List Int) × ByteArray × Int × List (Int × Int) × List (Int × Int)) → Int → Int → Int → Int → List Int → List Int → List Int → ByteArray → Option (Int × Int)
  | 0, _, _, _, _, _, _, _, _, _, _ => none
  | k + 1, f0, f1, f2, f3, f4, st0, st1, st2, st3, text => bprobe_Read k f0 f1 f2 f3 f4 st0 st1 st2 st3 text
def shprobe_Read : FS := { vs := [.g [.lf (.sl .str), .lf (.sl (.pr (.int .u8) (.pr .str (.pr (.sl (.int .i64)) (.pr (.int .i64) (.pr (.pr (.int .i64) (.int .i64)) (.pr (.pr (.int .i64) (.pr (.sl (.pr (.int .i64) (.int .i64))) (.sl (.int .i64)))) (.pr .str (.pr (.int .u8) (.pr (.sl (.pr (.int .i64) (.int .i64))) (.sl (.pr (.int .i64) (.int .i64))))))))))))), .lf (.int .i64), .lf (.int .i64), .lf (.int .i64)], .g [.lf (.int .i64), .lf (.sl (.int .i64)), .lf (.sl (.int .i64)), .lf (.sl (.int .i64))], .a (.lf .str)], bs := [] }
def rsprobe_Read : List FS := [{ vs := [.a (.lf (.int .i64)), .a (.lf (.int .i64))], bs := [] }]
def Iprobe_Read (k : Nat) : Inst := ⟨25, shprobe_Read, rsprobe_Read, fun x => Fprobe_Read k x.1 x.2.1 x.2.2.1 x.2.2.2.1 x.2.2.2.2.1 x.2.2.2.2.2.1 x.2.2.2.2.2.2.1 x.2.2.2.2.2.2.2.1 x.2.2.2.2.2.2.2.2.1 x.2.2.2.2.2.2.2.2.2⟩
theorem alprobe_Read (k : Nat) : AllI (call cf k) [Itran_Check k, Iprobe_spot k, Iflat_Dev k, Iflat_Node k] := And.intro (oktran_Check k) (And.intro (okprobe_spot k) (And.intro (okflat_Dev k) (And.intro (okflat_Node k) (True.intro))))
def hsprobe_Read_0 : List SS := [{ fr := [(3, .a (.ptr 0 0 0)), (4, .a (.ptr 1 0 0)), (14, .a (.lf (.int .i64))), (15, .a (.lf (.int .i64))), (52, .a (.lf (.sl .str))), (53, .a (.lf (.int .i64))), (54, .a (.lf (.int .i64)))], mem := [(0, some (.raw [[.lf (.sl .str), .lf (.sl (.pr (.int .u8) (.pr .str (.pr (.sl (.int .i64)) (.pr (.int .i64) (.pr (.pr (.int .i64) (.int .i64)) (.pr (.pr (.int .i64) (.pr (.sl (.pr (.int .i64) (.int .i64))) (.sl (.int .i64)))) (.pr .str (.pr (.int .u8) (.pr (.sl (.pr (.int .i64) (.int .i64))) (.sl (.pr (.int .i64) (.int .i64))))))))))))), .lf (.int .i64), .lf (.int .i64), .lf (.int .i64)]] 5 27 true false false)), (1, some (.raw [[.lf (.int .i64), .lf (.sl (.int .i64)), .lf (.sl (.int .i64)), .lf (.sl (.int .i64))]] 4 61 true false false))], nx := 2 }]
def osprobe_Read_0 : List OS := [⟨none, { fr := [(6, .a (.lf (.int .i64))), (7, .a (.lf (.int .i64)))], mem := [(0, some (.raw [[.lf (.sl .str), .lf (.sl (.pr (.int .u8) (.pr .str (.pr (.sl (.int .i64)) (.pr (.int .i64) (.pr (.pr (.int .i64) (.int .i64)) (.pr (.pr (.int .i64) (.pr (.sl (.pr (.int .i64) (.int .i64))) (.sl (.int .i64)))) (.pr .str (.pr (.int .u8) (.pr (.sl (.pr (.int .i64) (.int .i64))) (.sl (.pr (.int .i64) (.int .i64))))))))))))), .lf (.int .i64), .lf (.int .i64), .lf (.int .i64)]] 5 27 true false false)), (1, some (.raw [[.lf (.int .i64), .lf (.sl (.int .i64)), .lf (.sl (.int .i64)), .lf (.sl (.int .i64))]] 4 61 true false false))], nx := 2 }⟩, ⟨some 0, { fr := [(14, .a (.lf (.int .i64)))], mem := [(0, some (.raw [[.lf (.sl .str), .lf (.sl (.pr (.int .u8) (.pr .str (.pr (.sl (.int .i64)) (.pr (.int .i64) (.pr (.pr (.int .i64) (.int .i64)) (.pr (.pr (.int .i64) (.pr (.sl (.pr (.int .i64) (.int .i64))) (.sl (.int .i64)))) (.pr .str (.pr (.int .u8) (.pr (.sl (.pr (.int .i64) (.int .i64))) (.sl (.pr (.int .i64) (.int .i64))))))))))))), .lf (.int .i64), .lf (.int .i64), .lf (.int .i64)]] 5 27 true false false)), (1, some (.raw [[.lf (.int .i64), .lf (.sl (.int .i64)), .lf (.sl (.int .i64)), .lf (.sl (.int .i64))]] 4 61 true false false))], nx := 2 }⟩]
def LIprobe_Read_0 (k : Nat) : LInst := ⟨0, hsprobe_Read_0, osprobe_Read_0, fun x => Lprobe_Read_0 k k x.1 x.2.1 x.2.2.1 x.2.2.2.1 x.2.2.2.2.1 x.2.2.2.2.2.1 x.2.2.2.2.2.2.1 x.2.2.2.2.2.2.2.1 x.2.2.2.2.2.2.2.2.1 x.2.2.2.2.2.2.2.2.2.1 x.2.2.2.2.2.2.2.2.2.2.1 x.2.2.2.2.2.2.2.2.2.2.2.1 x.2.2.2.2.2.2.2.2.2.2.2.2.1 x.2.2.2.2.2.2.2.2.2.2.2.2.2⟩
theorem anprobe_Read_0 (k : Nat) : LAll (LOk (R := DS OS.D osprobe_Read_0) (fun b _ σ K => LOt Ty (kps 25) 0 b σ K []) cf (call cf k) (kps 25) Tryd.f25.ntmps k 0) 0 (lb Tryd.f25 0) :=
  And.intro (True.intro) (And.intro (And.intro (True.intro) (True.intro)) (And.intro (And.intro (True.intro) (And.intro (True.intro) (And.intro (And.intro (True.intro) (And.intro (And.intro (True.intro) (True.intro)) (True.intro))) (And.intro (And.intro (True.intro) (And.intro (True.intro) (True.intro))) (True.intro))))) (True.intro)))
theorem stprobe_Read_0 (k n : Nat) (x : DS SS.D hsprobe_Read_0) : Lprobe_Read_0 k (n + 1) x.1 x.2.1 x.2.2.1 x.2.2.2.1 x.2.2.2.2.1 x.2.2.2.2.2.1 x.2.2.2.2.2.2.1 x.2.2.2.2.2.2.2.1 x.2.2.2.2.2.2.2.2.1 x.2.2.2.2.2.2.2.2.2.1 x.2.2.2.2.2.2.2.2.2.2.1 x.2.2.2.2.2.2.2.2.2.2.2.1 x.2.2.2.2.2.2.2.2.2.2.2.2.1 x.2.2.2.2.2.2.2.2.2.2.2.2.2 = encSK SS.enc (fun σ => run2 cf (fun f a b K => COt f a b K [Itran_Check k, Iprobe_spot k, Iflat_Dev k, Iflat_Node k]) (fun b _ σ K => LOt Ty (kps 25) 0 b σ K []) Tryd.f25.ntmps 0 (lb Tryd.f25 0) σ (nextK Ty (kps 25 0) 0 hsprobe_Read_0 osprobe_Read_0 fun x => Lprobe_Read_0 k n x.1 x.2.1 x.2.2.1 x.2.2.2.1 x.2.2.2.2.1 x.2.2.2.2.2.1 x.2.2.2.2.2.2.1 x.2.2.2.2.2.2.2.1 x.2.2.2.2.2.2.2.2.1 x.2.2.2.2.2.2.2.2.2.1 x.2.2.2.2.2.2.2.2.2.2.1 x.2.2.2.2.2.2.2.2.2.2.2.1 x.2.2.2.2.2.2.2.2.2.2.2.2.1 x.2.2.2.2.2.2.2.2.2.2.2.2.2)) hsprobe_Read_0 x := by kernel_rfl
theorem loprobe_Read_0 (k : Nat) : LIOk cf (call cf k) (kps 25) Tryd.f25.ntmps k 0 0 (lb Tryd.f25 0) (LIprobe_Read_0 k) :=
  loop_ok (c := cf) (callF := call cf k) (kp := kps 25) (nt := Tryd.f25.ntmps) (k := k) (p := 0) (b := 0) (x0 := lb Tryd.f25 0) (hs := hsprobe_Read_0) (os := osprobe_Read_0) (COt_ok (alprobe_Read k)) (anprobe_Read_0 k) (fun n x => Lprobe_Read_0 k n x.1 x.2.1 x.2.2.1 x.2.2.2.1 x.2.2.2.2.1 x.2.2.2.2.2.1 x.2.2.2.2.2.2.1 x.2.2.2.2.2.2.2.1 x.2.2.2.2.2.2.2.2.1 x.2.2.2.2.2.2.2.2.2.1 x.2.2.2.2.2.2.2.2.2.2.1 x.2.2.2.2.2.2.2.2.2.2.2.1 x.2.2.2.2.2.2.2.2.2.2.2.2.1 x.2.2.2.2.2.2.2.2.2.2.2.2.2) (fun _ => rfl) (stprobe_Read_0 k)
theorem anprobe_Read (k : Nat) : LAll (LOk (R := DS FS.D rsprobe_Read) (fun b _ σ K => LOt Ty (kps 25) 0 b σ K [LIprobe_Read_0 k]) cf (call cf k) (cf.keep 25) Tryd.f25.ntmps k shprobe_Read.bs.length) 0 (bd Tryd.f25) :=
  And.intro (True.intro) (And.intro (And.intro (True.intro) (And.intro (True.intro) (And.intro (And.intro (True.intro) (True.intro)) (True.intro)))) (And.intro (True.intro) (And.intro (And.intro (True.intro) (And.intro (And.intro (True.intro) (True.intro)) (True.intro))) (And.intro (And.intro (True.intro) (And.intro (And.intro (True.intro) (And.intro (And.intro (True.intro) (And.intro (And.intro (True.intro) (True.intro)) (True.intro))) (And.intro (True.intro) (True.intro)))) (True.intro))) (And.intro (True.intro) (And.intro (And.intro (True.intro) (LOt_ok (c := cf) (callF := call cf k) (kp := kps 25) (nt := Tryd.f25.ntmps) (k := k) (p := 0) (b := 0) (x0 := lb Tryd.f25 0) (l := [LIprobe_Read_0 k]) (And.intro (fun _ => loprobe_Read_0 k) (True.intro)))) (And.intro (True.intro) (True.intro))))))))
theorem stprobe_Read (k : Nat) (x : shprobe_Read.D) : Fprobe_Read (k + 1) x.1 x.2.1 x.2.2.1 x.2.2.2.1 x.2.2.2.2.1 x.2.2.2.2.2.1 x.2.2.2.2.2.2.1 x.2.2.2.2.2.2.2.1 x.2.2.2.2.2.2.2.2.1 x.2.2.2.2.2.2.2.2.2 = body2 cf (fun f a b K => COt f a b K [Itran_Check k, Iprobe_spot k, Iflat_Dev k, Iflat_Node k]) (fun b _ σ K => LOt Ty (kps 25) 0 b σ K [LIprobe_Read_0 k]) 25 Tryd.f25.ntmps Tryd.f25.results.toList (bd Tryd.f25) (shprobe_Read.enc x).1 (shprobe_Read.enc x).2 (putS FS.dec rsprobe_Read) := by kernel_rfl
theorem okprobe_Read : ∀ k, InstOk (call cf k) (Iprobe_Read k)
  | 0 => fun x y e => absurd (show (none : Option _) = some y from e) (by simp)
  | k + 1 => inst_ok (c := cf) (k := k) (f := 25) (fn := Tryd.f25) (body := bd Tryd.f25) (sh := shprobe_Read) (os := rsprobe_Read) rfl Tryd.func25 rfl ⟨rfl, Nat.le_of_ble_eq_true rfl⟩ (COt_ok (alprobe_Read k)) (anprobe_Read k) (fun x => Fprobe_Read (k + 1) x.1 x.2.1 x.2.2.1 x.2.2.2.1 x.2.2.2.2.1 x.2.2.2.2.2.1 x.2.2.2.2.2.2.1 x.2.2.2.2.2.2.2.1 x.2.2.2.2.2.2.2.2.1 x.2.2.2.2.2.2.2.2.2) (stprobe_Read k)

/-! shunt/probe.outside -/
def bprobe_outside (k : Nat) (v : Int) : Option (Bool) :=
  if ((decide (v > (2000000000000000000 : Int))) = false) then
    (some (decide (v < (-(2000000000000000000 : Int)))))
  else
  (some true)
def Fprobe_outside : Nat → Int → Option (Bool)
  | 0, _ => none
  | k + 1, v => bprobe_outside k v
def shprobe_outside : FS := { vs := [.a (.lf (.int .i64))], bs := [] }
def rsprobe_outside : List FS := [{ vs := [.a (.lf .bool)], bs := [] }]
def Iprobe_outside (k : Nat) : Inst := ⟨28, shprobe_outside, rsprobe_outside, fun x => Fprobe_outside k x⟩
theorem alprobe_outside (k : Nat) : AllI (call cf k) [] := True.intro
theorem anprobe_outside (k : Nat) : LAll (LOk (R := DS FS.D rsprobe_outside) (fun b _ σ K => LOt Ty (kps 28) 0 b σ K []) cf (call cf k) (cf.keep 28) Tryd.f28.ntmps k shprobe_outside.bs.length) 0 (bd Tryd.f28) :=
  And.intro (True.intro) (And.intro (True.intro) (True.intro))
theorem stprobe_outside (k : Nat) (x : shprobe_outside.D) : Fprobe_outside (k + 1) x = body2 cf (fun f a b K => COt f a b K []) (fun b _ σ K => LOt Ty (kps 28) 0 b σ K []) 28 Tryd.f28.ntmps Tryd.f28.results.toList (bd Tryd.f28) (shprobe_outside.enc x).1 (shprobe_outside.enc x).2 (putS FS.dec rsprobe_outside) := by kernel_rfl
theorem okprobe_outside : ∀ k, InstOk (call cf k) (Iprobe_outside k)
  | 0 => fun x y e => absurd (show (none : Option _) = some y from e) (by simp)
  | k + 1 => inst_ok (c := cf) (k := k) (f := 28) (fn := Tryd.f28) (body := bd Tryd.f28) (sh := shprobe_outside) (os := rsprobe_outside) rfl Tryd.func28 rfl ⟨rfl, Nat.le_of_ble_eq_true rfl⟩ (COt_ok (alprobe_outside k)) (anprobe_outside k) (fun x => Fprobe_outside (k + 1) x) (stprobe_outside k)

/-! slices.IndexFunc[[]int64,int64] -/
def Lslices_IndexFunc_int64_int64__xcv_0s (k : Nat) (rec : List Int → Int → Int → Option ((Int) ⊕ (Unit))) (s : List Int) (x : Int) (x1 : Int) : Option ((Int) ⊕ (Unit)) :=
  if ((decide (x1 < x)) = true) then
    if ((0 : Int) ≤ x1) then
      Option.bind (s)[(Int.toNat x1)]? fun x2 =>
      Option.bind (Fprobe_outside k x2) fun r5 =>
      if (r5 = true) then
        (some (Sum.inl x1))
      else
      rec s x (IntKind.wrap .i64 (x1 + (1 : Int)))
    else
    none
  else
  (some (Sum.inr ()))
def Lslices_IndexFunc_int64_int64__xcv_0 (k n : Nat) : List Int → Int → Int → Option ((Int) ⊕ (Unit)) := Nat.rec (fun _ _ _ => none) (fun _ r => Lslices_IndexFunc_int64_int64__xcv_0s k r) n
def bslices_IndexFunc_int64_int64__xcv (k : Nat) (s : List Int) : Option (Int) :=
  Option.bind (Lslices_IndexFunc_int64_int64__xcv_0 k k s (((List.length s) : Nat) : Int) (0 : Int)) fun r5 =>
  eitherK r5
    (fun r5 =>
    (some r5))
    (fun r5 =>
    (some (-(1 : Int))))
def Fslices_IndexFunc_int64_int64__xcv : Nat → List Int → Option (Int)
  | 0, _ => none
  | k + 1, s => bslices_IndexFunc_int64_int64__xcv k s
def shslices_IndexFunc_int64_int64__xcv : FS := { vs := [.a (.lf (.sl (.int .i64))), .a (.fn 28 [])], bs := [] }
def rsslices_IndexFunc_int64_int64__xcv : List FS := [{ vs := [.a (.lf (.int .i64))], bs := [] }]
def Islices_IndexFunc_int64_int64__xcv (k : Nat) : Inst := ⟨54, shslices_IndexFunc_int64_int64__xcv, rsslices_IndexFunc_int64_int64__xcv, fun x => Fslices_IndexFunc_int64_int64__xcv k x⟩
theorem alslices_IndexFunc_int64_int64__xcv (k : Nat) : AllI (call cf k) [Iprobe_outside k] := And.intro (okprobe_outside k) (True.intro)
def hsslices_IndexFunc_int64_int64__xcv_0 : List SS := [{ fr := [(0, .a (.lf (.sl (.int .i64)))), (1, .a (.fn 28 [])), (7, .a (.lf (.int .i64))), (8, .a (.lf (.int .i64)))], mem := [], nx := 0 }]
def osslices_IndexFunc_int64_int64__xcv_0 : List OS := [⟨none, { fr := [(4, .a (.lf (.int .i64)))], mem := [], nx := 0 }⟩, ⟨some 0, { fr := [], mem := [], nx := 0 }⟩]
def LIslices_IndexFunc_int64_int64__xcv_0 (k : Nat) : LInst := ⟨0, hsslices_IndexFunc_int64_int64__xcv_0, osslices_IndexFunc_int64_int64__xcv_0, fun x => Lslices_IndexFunc_int64_int64__xcv_0 k k x.1 x.2.1 x.2.2⟩
theorem anslices_IndexFunc_int64_int64__xcv_0 (k : Nat) : LAll (LOk (R := DS OS.D osslices_IndexFunc_int64_int64__xcv_0) (fun b _ σ K => LOt Ty (kps 54) 0 b σ K []) cf (call cf k) (kps 54) Tryd.f54.ntmps k 0) 0 (lb Tryd.f54 0) :=
  And.intro (True.intro) (And.intro (And.intro (True.intro) (True.intro)) (And.intro (And.intro (True.intro) (And.intro (True.intro) (And.intro (And.intro (True.intro) (True.intro)) (True.intro)))) (True.intro)))
theorem stslices_IndexFunc_int64_int64__xcv_0 (k n : Nat) (x : DS SS.D hsslices_IndexFunc_int64_int64__xcv_0) : Lslices_IndexFunc_int64_int64__xcv_0 k (n + 1) x.1 x.2.1 x.2.2 = encSK SS.enc (fun σ => run2 cf (fun f a b K => COt f a b K [Iprobe_outside k]) (fun b _ σ K => LOt Ty (kps 54) 0 b σ K []) Tryd.f54.ntmps 0 (lb Tryd.f54 0) σ (nextK Ty (kps 54 0) 0 hsslices_IndexFunc_int64_int64__xcv_0 osslices_IndexFunc_int64_int64__xcv_0 fun x => Lslices_IndexFunc_int64_int64__xcv_0 k n x.1 x.2.1 x.2.2)) hsslices_IndexFunc_int64_int64__xcv_0 x := by kernel_rfl
theorem loslices_IndexFunc_int64_int64__xcv_0 (k : Nat) : LIOk cf (call cf k) (kps 54) Tryd.f54.ntmps k 0 0 (lb Tryd.f54 0) (LIslices_IndexFunc_int64_int64__xcv_0 k) :=
  loop_ok (c := cf) (callF := call cf k) (kp := kps 54) (nt := Tryd.f54.ntmps) (k := k) (p := 0) (b := 0) (x0 := lb Tryd.f54 0) (hs := hsslices_IndexFunc_int64_int64__xcv_0) (os := osslices_IndexFunc_int64_int64__xcv_0) (COt_ok (alslices_IndexFunc_int64_int64__xcv k)) (anslices_IndexFunc_int64_int64__xcv_0 k) (fun n x => Lslices_IndexFunc_int64_int64__xcv_0 k n x.1 x.2.1 x.2.2) (fun _ => rfl) (stslices_IndexFunc_int64_int64__xcv_0 k)
theorem anslices_IndexFunc_int64_int64__xcv (k : Nat) : LAll (LOk (R := DS FS.D rsslices_IndexFunc_int64_int64__xcv) (fun b _ σ K => LOt Ty (kps 54) 0 b σ K [LIslices_IndexFunc_int64_int64__xcv_0 k]) cf (call cf k) (cf.keep 54) Tryd.f54.ntmps k shslices_IndexFunc_int64_int64__xcv.bs.length) 0 (bd Tryd.f54) :=
  And.intro (True.intro) (And.intro (And.intro (True.intro) (LOt_ok (c := cf) (callF := call cf k) (kp := kps 54) (nt := Tryd.f54.ntmps) (k := k) (p := 0) (b := 0) (x0 := lb Tryd.f54 0) (l := [LIslices_IndexFunc_int64_int64__xcv_0 k]) (And.intro (fun _ => loslices_IndexFunc_int64_int64__xcv_0 k) (True.intro)))) (And.intro (True.intro) (True.intro)))
theorem stslices_IndexFunc_int64_int64__xcv (k : Nat) (x : shslices_IndexFunc_int64_int64__xcv.D) : Fslices_IndexFunc_int64_int64__xcv (k + 1) x = body2 cf (fun f a b K => COt f a b K [Iprobe_outside k]) (fun b _ σ K => LOt Ty (kps 54) 0 b σ K [LIslices_IndexFunc_int64_int64__xcv_0 k]) 54 Tryd.f54.ntmps Tryd.f54.results.toList (bd Tryd.f54) (shslices_IndexFunc_int64_int64__xcv.enc x).1 (shslices_IndexFunc_int64_int64__xcv.enc x).2 (putS FS.dec rsslices_IndexFunc_int64_int64__xcv) := by kernel_rfl
theorem okslices_IndexFunc_int64_int64__xcv : ∀ k, InstOk (call cf k) (Islices_IndexFunc_int64_int64__xcv k)
  | 0 => fun x y e => absurd (show (none : Option _) = some y from e) (by simp)
  | k + 1 => inst_ok (c := cf) (k := k) (f := 54) (fn := Tryd.f54) (body := bd Tryd.f54) (sh := shslices_IndexFunc_int64_int64__xcv) (os := rsslices_IndexFunc_int64_int64__xcv) rfl Tryd.func54 rfl ⟨rfl, Nat.le_of_ble_eq_true rfl⟩ (COt_ok (alslices_IndexFunc_int64_int64__xcv k)) (anslices_IndexFunc_int64_int64__xcv k) (fun x => Fslices_IndexFunc_int64_int64__xcv (k + 1) x) (stslices_IndexFunc_int64_int64__xcv k)

/-! slices.ContainsFunc[[]int64,int64] -/
def bslices_ContainsFunc_int64_int64__xcv (k : Nat) (s : List Int) : Option (Bool) :=
  Option.bind (Fslices_IndexFunc_int64_int64__xcv k s) fun r5 =>
  (some (decide (r5 ≥ (0 : Int))))
def Fslices_ContainsFunc_int64_int64__xcv : Nat → List Int → Option (Bool)
  | 0, _ => none
  | k + 1, s => bslices_ContainsFunc_int64_int64__xcv k s
def shslices_ContainsFunc_int64_int64__xcv : FS := { vs := [.a (.lf (.sl (.int .i64))), .a (.fn 28 [])], bs := [] }
def rsslices_ContainsFunc_int64_int64__xcv : List FS := [{ vs := [.a (.lf .bool)], bs := [] }]
def Islices_ContainsFunc_int64_int64__xcv (k : Nat) : Inst := ⟨38, shslices_ContainsFunc_int64_int64__xcv, rsslices_ContainsFunc_int64_int64__xcv, fun x => Fslices_ContainsFunc_int64_int64__xcv k x⟩
theorem alslices_ContainsFunc_int64_int64__xcv (k : Nat) : AllI (call cf k) [Islices_IndexFunc_int64_int64__xcv k] := And.intro (okslices_IndexFunc_int64_int64__xcv k) (True.intro)
theorem anslices_ContainsFunc_int64_int64__xcv (k : Nat) : LAll (LOk (R := DS FS.D rsslices_ContainsFunc_int64_int64__xcv) (fun b _ σ K => LOt Ty (kps 38) 0 b σ K []) cf (call cf k) (cf.keep 38) Tryd.f38.ntmps k shslices_ContainsFunc_int64_int64__xcv.bs.length) 0 (bd Tryd.f38) :=
  And.intro (True.intro) (And.intro (True.intro) (True.intro))
theorem stslices_ContainsFunc_int64_int64__xcv (k : Nat) (x : shslices_ContainsFunc_int64_int64__xcv.D) : Fslices_ContainsFunc_int64_int64__xcv (k + 1) x = body2 cf (fun f a b K => COt f a b K [Islices_IndexFunc_int64_int64__xcv k]) (fun b _ σ K => LOt Ty (kps 38) 0 b σ K []) 38 Tryd.f38.ntmps Tryd.f38.results.toList (bd Tryd.f38) (shslices_ContainsFunc_int64_int64__xcv.enc x).1 (shslices_ContainsFunc_int64_int64__xcv.enc x).2 (putS FS.dec rsslices_ContainsFunc_int64_int64__xcv) := by kernel_rfl
theorem okslices_ContainsFunc_int64_int64__xcv : ∀ k, InstOk (call cf k) (Islices_ContainsFunc_int64_int64__xcv k)
  | 0 => fun x y e => absurd (show (none : Option _) = some y from e) (by simp)
  | k + 1 => inst_ok (c := cf) (k := k) (f := 38) (fn := Tryd.f38) (body := bd Tryd.f38) (sh := shslices_ContainsFunc_int64_int64__xcv) (os := rsslices_ContainsFunc_int64_int64__xcv) rfl Tryd.func38 rfl ⟨rfl, Nat.le_of_ble_eq_true rfl⟩ (COt_ok (alslices_ContainsFunc_int64_int64__xcv k)) (anslices_ContainsFunc_int64_int64__xcv k) (fun x => Fslices_ContainsFunc_int64_int64__xcv (k + 1) x) (stslices_ContainsFunc_int64_int64__xcv k)

/-! shunt/probe.look -/
def bprobe_look (k : Nat) (row : List Int) : Option (Int) :=
  Option.bind (Fslices_ContainsFunc_int64_int64__xcv k row) fun r5 =>
  if (r5 = true) then
    (some (4 : Int))
  else
  if (((((List.length row) : Nat) : Int) == (0 : Int)) = true) then
    (some (6 : Int))
  else
  (some (0 : Int))
def Fprobe_look : Nat → List Int → Option (Int)
  | 0, _ => none
  | k + 1, row => bprobe_look k row
def shprobe_look : FS := { vs := [.a (.lf (.sl (.int .i64)))], bs := [] }
def rsprobe_look : List FS := [{ vs := [.a (.lf (.int .i64))], bs := [] }]
def Iprobe_look (k : Nat) : Inst := ⟨29, shprobe_look, rsprobe_look, fun x => Fprobe_look k x⟩
theorem alprobe_look (k : Nat) : AllI (call cf k) [Islices_ContainsFunc_int64_int64__xcv k] := And.intro (okslices_ContainsFunc_int64_int64__xcv k) (True.intro)
theorem anprobe_look (k : Nat) : LAll (LOk (R := DS FS.D rsprobe_look) (fun b _ σ K => LOt Ty (kps 29) 0 b σ K []) cf (call cf k) (cf.keep 29) Tryd.f29.ntmps k shprobe_look.bs.length) 0 (bd Tryd.f29) :=
  And.intro (True.intro) (And.intro (And.intro (True.intro) (And.intro (And.intro (True.intro) (True.intro)) (True.intro))) (And.intro (And.intro (True.intro) (And.intro (And.intro (True.intro) (True.intro)) (True.intro))) (And.intro (True.intro) (True.intro))))
theorem stprobe_look (k : Nat) (x : shprobe_look.D) : Fprobe_look (k + 1) x = body2 cf (fun f a b K => COt f a b K [Islices_ContainsFunc_int64_int64__xcv k]) (fun b _ σ K => LOt Ty (kps 29) 0 b σ K []) 29 Tryd.f29.ntmps Tryd.f29.results.toList (bd Tryd.f29) (shprobe_look.enc x).1 (shprobe_look.enc x).2 (putS FS.dec rsprobe_look) := by kernel_rfl
theorem okprobe_look : ∀ k, InstOk (call cf k) (Iprobe_look k)
  | 0 => fun x y e => absurd (show (none : Option _) = some y from e) (by simp)
  | k + 1 => inst_ok (c := cf) (k := k) (f := 29) (fn := Tryd.f29) (body := bd Tryd.f29) (sh := shprobe_look) (os := rsprobe_look) rfl Tryd.func29 rfl ⟨rfl, Nat.le_of_ble_eq_true rfl⟩ (COt_ok (alprobe_look k)) (anprobe_look k) (fun x => Fprobe_look (k + 1) x) (stprobe_look k)

/-! shunt/probe.Rise -/
def Lprobe_Rise_0s (k : Nat) (rec : List Int → Int → Int → Int → Option ((Int × Int) ⊕ (Unit))) (row : List Int) (level : Int) (nth : Int) (i : Int) : Option ((Int × Int) ⊕ (Unit)) :=
  if ((decide (i < (((List.length row) : Nat) : Int))) = true) then
    if ((0 : Int) ≤ (IntKind.wrap .i64 (i - (1 : Int)))) then
      Option.bind (row)[(Int.toNat (IntKind.wrap .i64 (i - (1 : Int))))]? fun x =>
      if ((decide (x < level)) = true) then
        if ((0 : Int) ≤ i) then
          Option.bind (row)[(Int.toNat i)]? fun x1 =>
          if ((decide (x1 ≥ level)) = true) then
            if (((IntKind.wrap .i64 (nth - (1 : Int))) == (0 : Int)) = true) then
              (some (Sum.inl (i, (0 : Int))))
            else
            rec row level (IntKind.wrap .i64 (nth - (1 : Int))) (IntKind.wrap .i64 (i + (1 : Int)))
          else
          rec row level nth (IntKind.wrap .i64 (i + (1 : Int)))
        else
        none
      else
      rec row level nth (IntKind.wrap .i64 (i + (1 : Int)))
    else
    none
  else
  (some (Sum.inr ()))
def Lprobe_Rise_0 (k n : Nat) : List Int → Int → Int → Int → Option ((Int × Int) ⊕ (Unit)) := Nat.rec (fun _ _ _ _ => none) (fun _ r => Lprobe_Rise_0s k r) n
def bprobe_Rise (k : Nat) (row : List Int) (level : Int) (nth : Int) : Option (Int × Int) :=
  if ((decide (nth < (1 : Int))) = true) then
    (some ((0 : Int), (1 : Int)))
  else
  Option.bind (Fprobe_outside k level) fun r4 =>
  if (r4 = false) then
    Option.bind (Fprobe_look k row) fun r5 =>
    if ((r5 == (4 : Int)) = true) then
      (some ((0 : Int), (4 : Int)))
    else
    Option.bind (Lprobe_Rise_0 k k row level nth (1 : Int)) fun r6 =>
    eitherK r6
      (fun r6 =>
      (some (r6.1, r6.2)))
      (fun r6 =>
      (some ((0 : Int), (6 : Int))))
  else
  (some ((0 : Int), (4 : Int)))
def Fprobe_Rise : Nat → List Int → Int → Int → Option (Int × Int)
  | 0, _, _, _ => none
  | k + 1, row, level, nth => bprobe_Rise k row level nth
def shprobe_Rise : FS := { vs := [.a (.lf (.sl (.int .i64))), .a (.lf (.int .i64)), .a (.lf (.int .i64))], bs := [] }
def rsprobe_Rise : List FS := [{ vs := [.a (.lf (.int .i64)), .a (.lf (.int .i64))], bs := [] }]
def Iprobe_Rise (k : Nat) : Inst := ⟨18, shprobe_Rise, rsprobe_Rise, fun x => Fprobe_Rise k x.1 x.2.1 x.2.2⟩
theorem alprobe_Rise (k : Nat) : AllI (call cf k) [Iprobe_outside k, Iprobe_look k] := And.intro (okprobe_outside k) (And.intro (okprobe_look k) (True.intro))
def hsprobe_Rise_0 : List SS := [{ fr := [(0, .a (.lf (.sl (.int .i64)))), (1, .a (.lf (.int .i64))), (2, .a (.lf (.int .i64))), (8, .a (.lf (.int .i64)))], mem := [], nx := 0 }]
def osprobe_Rise_0 : List OS := [⟨none, { fr := [(6, .a (.lf (.int .i64))), (7, .a (.lf (.int .i64)))], mem := [], nx := 0 }⟩, ⟨some 0, { fr := [], mem := [], nx := 0 }⟩]
def LIprobe_Rise_0 (k : Nat) : LInst := ⟨0, hsprobe_Rise_0, osprobe_Rise_0, fun x => Lprobe_Rise_0 k k x.1 x.2.1 x.2.2.1 x.2.2.2⟩
theorem anprobe_Rise_0 (k : Nat) : LAll (LOk (R := DS OS.D osprobe_Rise_0) (fun b _ σ K => LOt Ty (kps 18) 0 b σ K []) cf (call cf k) (kps 18) Tryd.f18.ntmps k 0) 0 (lb Tryd.f18 0) :=
  And.intro (And.intro (True.intro) (And.intro (True.intro) (True.intro))) (And.intro (And.intro (True.intro) (And.intro (And.intro (True.intro) (And.intro (True.intro) (And.intro (And.intro (True.intro) (True.intro)) (True.intro)))) (True.intro))) (True.intro))
theorem stprobe_Rise_0 (k n : Nat) (x : DS SS.D hsprobe_Rise_0) : Lprobe_Rise_0 k (n + 1) x.1 x.2.1 x.2.2.1 x.2.2.2 = encSK SS.enc (fun σ => run2 cf (fun f a b K => COt f a b K [Iprobe_outside k, Iprobe_look k]) (fun b _ σ K => LOt Ty (kps 18) 0 b σ K []) Tryd.f18.ntmps 0 (lb Tryd.f18 0) σ (nextK Ty (kps 18 0) 0 hsprobe_Rise_0 osprobe_Rise_0 fun x => Lprobe_Rise_0 k n x.1 x.2.1 x.2.2.1 x.2.2.2)) hsprobe_Rise_0 x := by kernel_rfl
theorem loprobe_Rise_0 (k : Nat) : LIOk cf (call cf k) (kps 18) Tryd.f18.ntmps k 0 0 (lb Tryd.f18 0) (LIprobe_Rise_0 k) :=
  loop_ok (c := cf) (callF := call cf k) (kp := kps 18) (nt := Tryd.f18.ntmps) (k := k) (p := 0) (b := 0) (x0 := lb Tryd.f18 0) (hs := hsprobe_Rise_0) (os := osprobe_Rise_0) (COt_ok (alprobe_Rise k)) (anprobe_Rise_0 k) (fun n x => Lprobe_Rise_0 k n x.1 x.2.1 x.2.2.1 x.2.2.2) (fun _ => rfl) (stprobe_Rise_0 k)
theorem anprobe_Rise (k : Nat) : LAll (LOk (R := DS FS.D rsprobe_Rise) (fun b _ σ K => LOt Ty (kps 18) 0 b σ K [LIprobe_Rise_0 k]) cf (call cf k) (cf.keep 18) Tryd.f18.ntmps k shprobe_Rise.bs.length) 0 (bd Tryd.f18) :=
  And.intro (True.intro) (And.intro (And.intro (True.intro) (And.intro (And.intro (True.intro) (True.intro)) (True.intro))) (And.intro (And.intro (True.intro) (And.intro (And.intro (True.intro) (True.intro)) (True.intro))) (And.intro (And.intro (True.intro) (LOt_ok (c := cf) (callF := call cf k) (kp := kps 18) (nt := Tryd.f18.ntmps) (k := k) (p := 0) (b := 0) (x0 := lb Tryd.f18 0) (l := [LIprobe_Rise_0 k]) (And.intro (fun _ => loprobe_Rise_0 k) (True.intro)))) (And.intro (True.intro) (True.intro)))))
theorem stprobe_Rise (k : Nat) (x : shprobe_Rise.D) : Fprobe_Rise (k + 1) x.1 x.2.1 x.2.2 = body2 cf (fun f a b K => COt f a b K [Iprobe_outside k, Iprobe_look k]) (fun b _ σ K => LOt Ty (kps 18) 0 b σ K [LIprobe_Rise_0 k]) 18 Tryd.f18.ntmps Tryd.f18.results.toList (bd Tryd.f18) (shprobe_Rise.enc x).1 (shprobe_Rise.enc x).2 (putS FS.dec rsprobe_Rise) := by kernel_rfl
theorem okprobe_Rise : ∀ k, InstOk (call cf k) (Iprobe_Rise k)
  | 0 => fun x y e => absurd (show (none : Option _) = some y from e) (by simp)
  | k + 1 => inst_ok (c := cf) (k := k) (f := 18) (fn := Tryd.f18) (body := bd Tryd.f18) (sh := shprobe_Rise) (os := rsprobe_Rise) rfl Tryd.func18 rfl ⟨rfl, Nat.le_of_ble_eq_true rfl⟩ (COt_ok (alprobe_Rise k)) (anprobe_Rise k) (fun x => Fprobe_Rise (k + 1) x.1 x.2.1 x.2.2) (stprobe_Rise k)

/-! shunt/probe.Settle -/
def Lprobe_Settle_0s (k : Nat) (rec : List Int → Int → Int → Int → Option (List Int × Int)) (row : List Int) (level : Int) (band : Int) (at1 : Int) : Option (List Int × Int) :=
  if ((decide (at1 > (0 : Int))) = true) then
    if ((0 : Int) ≤ (IntKind.wrap .i64 (at1 - (1 : Int)))) then
      Option.bind (row)[(Int.toNat (IntKind.wrap .i64 (at1 - (1 : Int))))]? fun x =>
      if ((decide ((IntKind.wrap .i64 (x - level)) ≤ band)) = true) then
        if ((0 : Int) ≤ (IntKind.wrap .i64 (at1 - (1 : Int)))) then
          Option.bind (row)[(Int.toNat (IntKind.wrap .i64 (at1 - (1 : Int))))]? fun x1 =>
          if ((decide ((IntKind.wrap .i64 (level - x1)) ≤ band)) = true) then
            rec row level band (IntKind.wrap .i64 (at1 - (1 : Int)))
          else
          (some (row, at1))
        else
        none
      else
      (some (row, at1))
    else
    none
  else
  (some (row, at1))
def Lprobe_Settle_0 (k n : Nat) : List Int → Int → Int → Int → Option (List Int × Int) := Nat.rec (fun _ _ _ _ => none) (fun _ r => Lprobe_Settle_0s k r) n
def bprobe_Settle (k : Nat) (row : List Int) (level : Int) (band : Int) : Option (Int × Int) :=
  if ((decide (band < (0 : Int))) = true) then
    (some ((0 : Int), (1 : Int)))
  else
  Option.bind (Fprobe_outside k level) fun r5 =>
  if (r5 = false) then
    Option.bind (Fprobe_look k row) fun r6 =>
    if ((r6 == (4 : Int)) = true) then
      (some ((0 : Int), (4 : Int)))
    else
    Option.bind (Lprobe_Settle_0 k k row level band (((List.length row) : Nat) : Int)) fun r7 =>
    if ((r7.2 == (((List.length r7.1) : Nat) : Int)) = true) then
      (some ((0 : Int), (6 : Int)))
    else
    (some (r7.2, (0 : Int)))
  else
  (some ((0 : Int), (4 : Int)))
def Fprobe_Settle : Nat → List Int → Int → Int → Option (Int × Int)
  | 0, _, _, _ => none
  | k + 1, row, level, band => bprobe_Settle k row level band
def shprobe_Settle : FS := { vs := [.a (.lf (.sl (.int .i64))), .a (.lf (.int .i64)), .a (.lf (.int .i64))], bs := [] }
def rsprobe_Settle : List FS := [{ vs := [.a (.lf (.int .i64)), .a (.lf (.int .i64))], bs := [] }]
def Iprobe_Settle (k : Nat) : Inst := ⟨16, shprobe_Settle, rsprobe_Settle, fun x => Fprobe_Settle k x.1 x.2.1 x.2.2⟩
theorem alprobe_Settle (k : Nat) : AllI (call cf k) [Iprobe_outside k, Iprobe_look k] := And.intro (okprobe_outside k) (And.intro (okprobe_look k) (True.intro))
def hsprobe_Settle_0 : List SS := [{ fr := [(0, .a (.lf (.sl (.int .i64)))), (1, .a (.lf (.int .i64))), (2, .a (.lf (.int .i64))), (8, .a (.lf (.int .i64)))], mem := [], nx := 0 }]
def osprobe_Settle_0 : List OS := [⟨some 0, { fr := [(0, .a (.lf (.sl (.int .i64)))), (8, .a (.lf (.int .i64)))], mem := [], nx := 0 }⟩]
def LIprobe_Settle_0 (k : Nat) : LInst := ⟨0, hsprobe_Settle_0, osprobe_Settle_0, fun x => Lprobe_Settle_0 k k x.1 x.2.1 x.2.2.1 x.2.2.2⟩
theorem anprobe_Settle_0 (k : Nat) : LAll (LOk (R := DS OS.D osprobe_Settle_0) (fun b _ σ K => LOt Ty (kps 16) 0 b σ K []) cf (call cf k) (kps 16) Tryd.f16.ntmps k 0) 0 (lb Tryd.f16 0) :=
  And.intro (And.intro (True.intro) (And.intro (True.intro) (True.intro))) (True.intro)
theorem stprobe_Settle_0 (k n : Nat) (x : DS SS.D hsprobe_Settle_0) : Lprobe_Settle_0 k (n + 1) x.1 x.2.1 x.2.2.1 x.2.2.2 = encSK SS.enc (fun σ => run2 cf (fun f a b K => COt f a b K [Iprobe_outside k, Iprobe_look k]) (fun b _ σ K => LOt Ty (kps 16) 0 b σ K []) Tryd.f16.ntmps 0 (lb Tryd.f16 0) σ (nextK Ty (kps 16 0) 0 hsprobe_Settle_0 osprobe_Settle_0 fun x => Lprobe_Settle_0 k n x.1 x.2.1 x.2.2.1 x.2.2.2)) hsprobe_Settle_0 x := by kernel_rfl
theorem loprobe_Settle_0 (k : Nat) : LIOk cf (call cf k) (kps 16) Tryd.f16.ntmps k 0 0 (lb Tryd.f16 0) (LIprobe_Settle_0 k) :=
  loop_ok (c := cf) (callF := call cf k) (kp := kps 16) (nt := Tryd.f16.ntmps) (k := k) (p := 0) (b := 0) (x0 := lb Tryd.f16 0) (hs := hsprobe_Settle_0) (os := osprobe_Settle_0) (COt_ok (alprobe_Settle k)) (anprobe_Settle_0 k) (fun n x => Lprobe_Settle_0 k n x.1 x.2.1 x.2.2.1 x.2.2.2) (fun _ => rfl) (stprobe_Settle_0 k)
theorem anprobe_Settle (k : Nat) : LAll (LOk (R := DS FS.D rsprobe_Settle) (fun b _ σ K => LOt Ty (kps 16) 0 b σ K [LIprobe_Settle_0 k]) cf (call cf k) (cf.keep 16) Tryd.f16.ntmps k shprobe_Settle.bs.length) 0 (bd Tryd.f16) :=
  And.intro (True.intro) (And.intro (And.intro (True.intro) (And.intro (And.intro (True.intro) (True.intro)) (True.intro))) (And.intro (And.intro (True.intro) (And.intro (And.intro (True.intro) (True.intro)) (True.intro))) (And.intro (True.intro) (And.intro (LOt_ok (c := cf) (callF := call cf k) (kp := kps 16) (nt := Tryd.f16.ntmps) (k := k) (p := 0) (b := 0) (x0 := lb Tryd.f16 0) (l := [LIprobe_Settle_0 k]) (And.intro (fun _ => loprobe_Settle_0 k) (True.intro))) (And.intro (And.intro (True.intro) (And.intro (And.intro (True.intro) (True.intro)) (True.intro))) (And.intro (True.intro) (True.intro)))))))
theorem stprobe_Settle (k : Nat) (x : shprobe_Settle.D) : Fprobe_Settle (k + 1) x.1 x.2.1 x.2.2 = body2 cf (fun f a b K => COt f a b K [Iprobe_outside k, Iprobe_look k]) (fun b _ σ K => LOt Ty (kps 16) 0 b σ K [LIprobe_Settle_0 k]) 16 Tryd.f16.ntmps Tryd.f16.results.toList (bd Tryd.f16) (shprobe_Settle.enc x).1 (shprobe_Settle.enc x).2 (putS FS.dec rsprobe_Settle) := by kernel_rfl
theorem okprobe_Settle : ∀ k, InstOk (call cf k) (Iprobe_Settle k)
  | 0 => fun x y e => absurd (show (none : Option _) = some y from e) (by simp)
  | k + 1 => inst_ok (c := cf) (k := k) (f := 16) (fn := Tryd.f16) (body := bd Tryd.f16) (sh := shprobe_Settle) (os := rsprobe_Settle) rfl Tryd.func16 rfl ⟨rfl, Nat.le_of_ble_eq_true rfl⟩ (COt_ok (alprobe_Settle k)) (anprobe_Settle k) (fun x => Fprobe_Settle (k + 1) x.1 x.2.1 x.2.2) (stprobe_Settle k)

/-! slices.Min[[]int64,int64] -/
def Lslices_Min_int64_int64__0s (k : Nat) (rec : List Int → Int → Int → Option (Int)) (x : List Int) (m : Int) (i : Int) : Option (Int) :=
  if ((decide (i < (((List.length x) : Nat) : Int))) = true) then
    if ((0 : Int) ≤ i) then
      Option.bind (x)[(Int.toNat i)]? fun x2 =>
      rec x (min m x2) (IntKind.wrap .i64 (i + (1 : Int)))
    else
    none
  else
  (some m)
def Lslices_Min_int64_int64__0 (k n : Nat) : List Int → Int → Int → Option (Int) := Nat.rec (fun _ _ _ => none) (fun _ r => Lslices_Min_int64_int64__0s k r) n
def bslices_Min_int64_int64_ (k : Nat) (x : List Int) : Option (Int) :=
  if ((decide ((((List.length x) : Nat) : Int) < (1 : Int))) = true) then
    none
  else
  Option.bind (x)[0]? fun x1 =>
  Option.bind (Lslices_Min_int64_int64__0 k k x x1 (1 : Int)) fun r7 =>
  (some r7)
def Fslices_Min_int64_int64_ : Nat → List Int → Option (Int)
  | 0, _ => none
  | k + 1, x => bslices_Min_int64_int64_ k x
def shslices_Min_int64_int64_ : FS := { vs := [.a (.lf (.sl (.int .i64)))], bs := [] }
def rsslices_Min_int64_int64_ : List FS := [{ vs := [.a (.lf (.int .i64))], bs := [] }]
def Islices_Min_int64_int64_ (k : Nat) : Inst := ⟨36, shslices_Min_int64_int64_, rsslices_Min_int64_int64_, fun x => Fslices_Min_int64_int64_ k x⟩
theorem alslices_Min_int64_int64_ (k : Nat) : AllI (call cf k) [] := True.intro
def hsslices_Min_int64_int64__0 : List SS := [{ fr := [(0, .a (.lf (.sl (.int .i64)))), (3, .a (.lf (.int .i64))), (4, .a (.lf (.int .i64)))], mem := [], nx := 0 }]
def osslices_Min_int64_int64__0 : List OS := [⟨some 0, { fr := [(3, .a (.lf (.int .i64)))], mem := [], nx := 0 }⟩]
def LIslices_Min_int64_int64__0 (k : Nat) : LInst := ⟨0, hsslices_Min_int64_int64__0, osslices_Min_int64_int64__0, fun x => Lslices_Min_int64_int64__0 k k x.1 x.2.1 x.2.2⟩
theorem anslices_Min_int64_int64__0 (k : Nat) : LAll (LOk (R := DS OS.D osslices_Min_int64_int64__0) (fun b _ σ K => LOt Ty (kps 36) 0 b σ K []) cf (call cf k) (kps 36) Tryd.f36.ntmps k 0) 0 (lb Tryd.f36 0) :=
  And.intro (And.intro (True.intro) (And.intro (True.intro) (True.intro))) (And.intro (True.intro) (True.intro))
theorem stslices_Min_int64_int64__0 (k n : Nat) (x : DS SS.D hsslices_Min_int64_int64__0) : Lslices_Min_int64_int64__0 k (n + 1) x.1 x.2.1 x.2.2 = encSK SS.enc (fun σ => run2 cf (fun f a b K => COt f a b K []) (fun b _ σ K => LOt Ty (kps 36) 0 b σ K []) Tryd.f36.ntmps 0 (lb Tryd.f36 0) σ (nextK Ty (kps 36 0) 0 hsslices_Min_int64_int64__0 osslices_Min_int64_int64__0 fun x => Lslices_Min_int64_int64__0 k n x.1 x.2.1 x.2.2)) hsslices_Min_int64_int64__0 x := by kernel_rfl
theorem loslices_Min_int64_int64__0 (k : Nat) : LIOk cf (call cf k) (kps 36) Tryd.f36.ntmps k 0 0 (lb Tryd.f36 0) (LIslices_Min_int64_int64__0 k) :=
  loop_ok (c := cf) (callF := call cf k) (kp := kps 36) (nt := Tryd.f36.ntmps) (k := k) (p := 0) (b := 0) (x0 := lb Tryd.f36 0) (hs := hsslices_Min_int64_int64__0) (os := osslices_Min_int64_int64__0) (COt_ok (alslices_Min_int64_int64_ k)) (anslices_Min_int64_int64__0 k) (fun n x => Lslices_Min_int64_int64__0 k n x.1 x.2.1 x.2.2) (fun _ => rfl) (stslices_Min_int64_int64__0 k)
theorem anslices_Min_int64_int64_ (k : Nat) : LAll (LOk (R := DS FS.D rsslices_Min_int64_int64_) (fun b _ σ K => LOt Ty (kps 36) 0 b σ K [LIslices_Min_int64_int64__0 k]) cf (call cf k) (cf.keep 36) Tryd.f36.ntmps k shslices_Min_int64_int64_.bs.length) 0 (bd Tryd.f36) :=
  And.intro (True.intro) (And.intro (And.intro (True.intro) (And.intro (True.intro) (True.intro))) (And.intro (True.intro) (And.intro (And.intro (True.intro) (LOt_ok (c := cf) (callF := call cf k) (kp := kps 36) (nt := Tryd.f36.ntmps) (k := k) (p := 0) (b := 0) (x0 := lb Tryd.f36 0) (l := [LIslices_Min_int64_int64__0 k]) (And.intro (fun _ => loslices_Min_int64_int64__0 k) (True.intro)))) (And.intro (True.intro) (True.intro)))))
theorem stslices_Min_int64_int64_ (k : Nat) (x : shslices_Min_int64_int64_.D) : Fslices_Min_int64_int64_ (k + 1) x = body2 cf (fun f a b K => COt f a b K []) (fun b _ σ K => LOt Ty (kps 36) 0 b σ K [LIslices_Min_int64_int64__0 k]) 36 Tryd.f36.ntmps Tryd.f36.results.toList (bd Tryd.f36) (shslices_Min_int64_int64_.enc x).1 (shslices_Min_int64_int64_.enc x).2 (putS FS.dec rsslices_Min_int64_int64_) := by kernel_rfl
theorem okslices_Min_int64_int64_ : ∀ k, InstOk (call cf k) (Islices_Min_int64_int64_ k)
  | 0 => fun x y e => absurd (show (none : Option _) = some y from e) (by simp)
  | k + 1 => inst_ok (c := cf) (k := k) (f := 36) (fn := Tryd.f36) (body := bd Tryd.f36) (sh := shslices_Min_int64_int64_) (os := rsslices_Min_int64_int64_) rfl Tryd.func36 rfl ⟨rfl, Nat.le_of_ble_eq_true rfl⟩ (COt_ok (alslices_Min_int64_int64_ k)) (anslices_Min_int64_int64_ k) (fun x => Fslices_Min_int64_int64_ (k + 1) x) (stslices_Min_int64_int64_ k)

/-! slices.Max[[]int64,int64] -/
def Lslices_Max_int64_int64__0s (k : Nat) (rec : List Int → Int → Int → Option (Int)) (x : List Int) (m : Int) (i : Int) : Option (Int) :=
  if ((decide (i < (((List.length x) : Nat) : Int))) = true) then
    if ((0 : Int) ≤ i) then
      Option.bind (x)[(Int.toNat i)]? fun x2 =>
      rec x (max m x2) (IntKind.wrap .i64 (i + (1 : Int)))
    else
    none
  else
  (some m)
def Lslices_Max_int64_int64__0 (k n : Nat) : List Int → Int → Int → Option (Int) := Nat.rec (fun _ _ _ => none) (fun _ r => Lslices_Max_int64_int64__0s k r) n
def bslices_Max_int64_int64_ (k : Nat) (x : List Int) : Option (Int) :=
  if ((decide ((((List.length x) : Nat) : Int) < (1 : Int))) = true) then
    none
  else
  Option.bind (x)[0]? fun x1 =>
  Option.bind (Lslices_Max_int64_int64__0 k k x x1 (1 : Int)) fun r8 =>
  (some r8)
def Fslices_Max_int64_int64_ : Nat → List Int → Option (Int)
  | 0, _ => none
  | k + 1, x => bslices_Max_int64_int64_ k x
def shslices_Max_int64_int64_ : FS := { vs := [.a (.lf (.sl (.int .i64)))], bs := [] }
def rsslices_Max_int64_int64_ : List FS := [{ vs := [.a (.lf (.int .i64))], bs := [] }]
def Islices_Max_int64_int64_ (k : Nat) : Inst := ⟨37, shslices_Max_int64_int64_, rsslices_Max_int64_int64_, fun x => Fslices_Max_int64_int64_ k x⟩
theorem alslices_Max_int64_int64_ (k : Nat) : AllI (call cf k) [] := True.intro
def hsslices_Max_int64_int64__0 : List SS := [{ fr := [(0, .a (.lf (.sl (.int .i64)))), (3, .a (.lf (.int .i64))), (4, .a (.lf (.int .i64)))], mem := [], nx := 0 }]
def osslices_Max_int64_int64__0 : List OS := [⟨some 0, { fr := [(3, .a (.lf (.int .i64)))], mem := [], nx := 0 }⟩]
def LIslices_Max_int64_int64__0 (k : Nat) : LInst := ⟨0, hsslices_Max_int64_int64__0, osslices_Max_int64_int64__0, fun x => Lslices_Max_int64_int64__0 k k x.1 x.2.1 x.2.2⟩
theorem anslices_Max_int64_int64__0 (k : Nat) : LAll (LOk (R := DS OS.D osslices_Max_int64_int64__0) (fun b _ σ K => LOt Ty (kps 37) 0 b σ K []) cf (call cf k) (kps 37) Tryd.f37.ntmps k 0) 0 (lb Tryd.f37 0) :=
  And.intro (And.intro (True.intro) (And.intro (True.intro) (True.intro))) (And.intro (True.intro) (True.intro))
theorem stslices_Max_int64_int64__0 (k n : Nat) (x : DS SS.D hsslices_Max_int64_int64__0) : Lslices_Max_int64_int64__0 k (n + 1) x.1 x.2.1 x.2.2 = encSK SS.enc (fun σ => run2 cf (fun f a b K => COt f a b K []) (fun b _ σ K => LOt Ty (kps 37) 0 b σ K []) Tryd.f37.ntmps 0 (lb Tryd.f37 0) σ (nextK Ty (kps 37 0) 0 hsslices_Max_int64_int64__0 osslices_Max_int64_int64__0 fun x => Lslices_Max_int64_int64__0 k n x.1 x.2.1 x.2.2)) hsslices_Max_int64_int64__0 x := by kernel_rfl
theorem loslices_Max_int64_int64__0 (k : Nat) : LIOk cf (call cf k) (kps 37) Tryd.f37.ntmps k 0 0 (lb Tryd.f37 0) (LIslices_Max_int64_int64__0 k) :=
  loop_ok (c := cf) (callF := call cf k) (kp := kps 37) (nt := Tryd.f37.ntmps) (k := k) (p := 0) (b := 0) (x0 := lb Tryd.f37 0) (hs := hsslices_Max_int64_int64__0) (os := osslices_Max_int64_int64__0) (COt_ok (alslices_Max_int64_int64_ k)) (anslices_Max_int64_int64__0 k) (fun n x => Lslices_Max_int64_int64__0 k n x.1 x.2.1 x.2.2) (fun _ => rfl) (stslices_Max_int64_int64__0 k)
theorem anslices_Max_int64_int64_ (k : Nat) : LAll (LOk (R := DS FS.D rsslices_Max_int64_int64_) (fun b _ σ K => LOt Ty (kps 37) 0 b σ K [LIslices_Max_int64_int64__0 k]) cf (call cf k) (cf.keep 37) Tryd.f37.ntmps k shslices_Max_int64_int64_.bs.length) 0 (bd Tryd.f37) :=
  And.intro (True.intro) (And.intro (And.intro (True.intro) (And.intro (True.intro) (True.intro))) (And.intro (True.intro) (And.intro (And.intro (True.intro) (LOt_ok (c := cf) (callF := call cf k) (kp := kps 37) (nt := Tryd.f37.ntmps) (k := k) (p := 0) (b := 0) (x0 := lb Tryd.f37 0) (l := [LIslices_Max_int64_int64__0 k]) (And.intro (fun _ => loslices_Max_int64_int64__0 k) (True.intro)))) (And.intro (True.intro) (True.intro)))))
theorem stslices_Max_int64_int64_ (k : Nat) (x : shslices_Max_int64_int64_.D) : Fslices_Max_int64_int64_ (k + 1) x = body2 cf (fun f a b K => COt f a b K []) (fun b _ σ K => LOt Ty (kps 37) 0 b σ K [LIslices_Max_int64_int64__0 k]) 37 Tryd.f37.ntmps Tryd.f37.results.toList (bd Tryd.f37) (shslices_Max_int64_int64_.enc x).1 (shslices_Max_int64_int64_.enc x).2 (putS FS.dec rsslices_Max_int64_int64_) := by kernel_rfl
theorem okslices_Max_int64_int64_ : ∀ k, InstOk (call cf k) (Islices_Max_int64_int64_ k)
  | 0 => fun x y e => absurd (show (none : Option _) = some y from e) (by simp)
  | k + 1 => inst_ok (c := cf) (k := k) (f := 37) (fn := Tryd.f37) (body := bd Tryd.f37) (sh := shslices_Max_int64_int64_) (os := rsslices_Max_int64_int64_) rfl Tryd.func37 rfl ⟨rfl, Nat.le_of_ble_eq_true rfl⟩ (COt_ok (alslices_Max_int64_int64_ k)) (anslices_Max_int64_int64_ k) (fun x => Fslices_Max_int64_int64_ (k + 1) x) (stslices_Max_int64_int64_ k)

/-! shunt/probe.Span -/
def bprobe_Span (k : Nat) (row : List Int) : Option (Int × Int × Int) :=
  Option.bind (Fprobe_look k row) fun r6 =>
  if ((r6 != (0 : Int)) = true) then
    (some ((0 : Int), (0 : Int), r6))
  else
  Option.bind (Fslices_Min_int64_int64_ k row) fun r7 =>
  Option.bind (Fslices_Max_int64_int64_ k row) fun r8 =>
  (some (r7, r8, (0 : Int)))
def Fprobe_Span : Nat → List Int → Option (Int × Int × Int)
  | 0, _ => none
  | k + 1, row => bprobe_Span k row
def shprobe_Span : FS := { vs := [.a (.lf (.sl (.int .i64)))], bs := [] }
def rsprobe_Span : List FS := [{ vs := [.a (.lf (.int .i64)), .a (.lf (.int .i64)), .a (.lf (.int .i64))], bs := [] }]
def Iprobe_Span (k : Nat) : Inst := ⟨27, shprobe_Span, rsprobe_Span, fun x => Fprobe_Span k x⟩
theorem alprobe_Span (k : Nat) : AllI (call cf k) [Iprobe_look k, Islices_Min_int64_int64_ k, Islices_Max_int64_int64_ k] := And.intro (okprobe_look k) (And.intro (okslices_Min_int64_int64_ k) (And.intro (okslices_Max_int64_int64_ k) (True.intro)))
theorem anprobe_Span (k : Nat) : LAll (LOk (R := DS FS.D rsprobe_Span) (fun b _ σ K => LOt Ty (kps 27) 0 b σ K []) cf (call cf k) (cf.keep 27) Tryd.f27.ntmps k shprobe_Span.bs.length) 0 (bd Tryd.f27) :=
  And.intro (True.intro) (And.intro (And.intro (True.intro) (And.intro (True.intro) (And.intro (And.intro (True.intro) (True.intro)) (True.intro)))) (And.intro (True.intro) (True.intro)))
theorem stprobe_Span (k : Nat) (x : shprobe_Span.D) : Fprobe_Span (k + 1) x = body2 cf (fun f a b K => COt f a b K [Iprobe_look k, Islices_Min_int64_int64_ k, Islices_Max_int64_int64_ k]) (fun b _ σ K => LOt Ty (kps 27) 0 b σ K []) 27 Tryd.f27.ntmps Tryd.f27.results.toList (bd Tryd.f27) (shprobe_Span.enc x).1 (shprobe_Span.enc x).2 (putS FS.dec rsprobe_Span) := by kernel_rfl
theorem okprobe_Span : ∀ k, InstOk (call cf k) (Iprobe_Span k)
  | 0 => fun x y e => absurd (show (none : Option _) = some y from e) (by simp)
  | k + 1 => inst_ok (c := cf) (k := k) (f := 27) (fn := Tryd.f27) (body := bd Tryd.f27) (sh := shprobe_Span) (os := rsprobe_Span) rfl Tryd.func27 rfl ⟨rfl, Nat.le_of_ble_eq_true rfl⟩ (COt_ok (alprobe_Span k)) (anprobe_Span k) (fun x => Fprobe_Span (k + 1) x) (stprobe_Span k)

/-! shunt/shuntlaw20.awake -/
def bshuntlaw20_awake (k : Nat) : Option (Bool) :=
  Option.bind (Fshuntlaw20_circuit k) fun r =>
  Option.bind (Fprobe_Read k r.1 r.2.1 r.2.2.1 r.2.2.2.1 r.2.2.2.2 (0 : Int) (List.take 2 ((7 : Int) :: ((3 : Int) :: []))) (List.take 1 ((4 : Int) :: [])) [] (ByteArray.mk (List.toArray (118 :: (40 :: (97 :: (44 :: (120 :: (49 :: (46 :: (98 :: (41 :: [])))))))))))) fun r1 =>
  Option.bind (Fshuntlaw20_circuit k) fun r2 =>
  Option.bind (Fprobe_Read k r2.1 r2.2.1 r2.2.2.1 r2.2.2.2.1 r2.2.2.2.2 (0 : Int) (List.take 2 ((7 : Int) :: ((3 : Int) :: []))) (List.take 1 ((4 : Int) :: [])) [] (ByteArray.mk (List.toArray (105 :: (40 :: (120 :: (49 :: (46 :: (114 :: (49 :: (41 :: []))))))))))) fun r3 =>
  Option.bind (Fprobe_Rise k (List.take 4 ((0 : Int) :: ((5 : Int) :: ((2 : Int) :: ((5 : Int) :: []))))) (5 : Int) (2 : Int)) fun r4 =>
  Option.bind (Fprobe_Settle k (List.take 4 ((0 : Int) :: ((9 : Int) :: ((10 : Int) :: ((11 : Int) :: []))))) (10 : Int) (1 : Int)) fun r5 =>
  Option.bind (Fprobe_Span k (List.take 3 ((3 : Int) :: ((1 : Int) :: ((2 : Int) :: []))))) fun r6 =>
  if ((r1.2 == (0 : Int)) = true) then
    if ((r3.2 == (0 : Int)) = true) then
      if ((r4.2 == (0 : Int)) = true) then
        if ((r5.2 == (0 : Int)) = true) then
          if ((r6.2.2 == (0 : Int)) = true) then
            if ((r1.1 == (4 : Int)) = true) then
              if ((r3.1 == (4 : Int)) = true) then
                if ((r4.1 == (3 : Int)) = true) then
                  if ((r5.1 == (1 : Int)) = true) then
                    if ((r6.1 == (1 : Int)) = true) then
                      (some (r6.2.1 == (3 : Int)))
                    else
                    (some false)
                  else
                  (some false)
                else
                (some false)
              else
              (some false)
            else
            (some false)
          else
          (some false)
        else
        (some false)
      else
      (some false)
    else
    (some false)
  else
  (some false)
def Fshuntlaw20_awake : Nat → Option (Bool)
  | 0 => none
  | k + 1 => bshuntlaw20_awake k
def shshuntlaw20_awake : FS := { vs := [], bs := [] }
def rsshuntlaw20_awake : List FS := [{ vs := [.a (.lf .bool)], bs := [] }]
def Ishuntlaw20_awake (k : Nat) : Inst := ⟨14, shshuntlaw20_awake, rsshuntlaw20_awake, fun x => Fshuntlaw20_awake k⟩
theorem alshuntlaw20_awake (k : Nat) : AllI (call cf k) [Ishuntlaw20_circuit k, Iprobe_Read k, Iprobe_Rise k, Iprobe_Settle k, Iprobe_Span k] := And.intro (okshuntlaw20_circuit k) (And.intro (okprobe_Read k) (And.intro (okprobe_Rise k) (And.intro (okprobe_Settle k) (And.intro (okprobe_Span k) (True.intro)))))
theorem anshuntlaw20_awake (k : Nat) : LAll (LOk (R := DS FS.D rsshuntlaw20_awake) (fun b _ σ K => LOt Ty (kps 14) 0 b σ K []) cf (call cf k) (cf.keep 14) Tryd.f14.ntmps k shshuntlaw20_awake.bs.length) 0 (bd Tryd.f14) :=
  And.intro (True.intro) (And.intro (True.intro) (And.intro (True.intro) (And.intro (True.intro) (And.intro (True.intro) (And.intro (True.intro) (And.intro (True.intro) (And.intro (True.intro) (True.intro))))))))
theorem stshuntlaw20_awake (k : Nat) (x : shshuntlaw20_awake.D) : Fshuntlaw20_awake (k + 1) = body2 cf (fun f a b K => COt f a b K [Ishuntlaw20_circuit k, Iprobe_Read k, Iprobe_Rise k, Iprobe_Settle k, Iprobe_Span k]) (fun b _ σ K => LOt Ty (kps 14) 0 b σ K []) 14 Tryd.f14.ntmps Tryd.f14.results.toList (bd Tryd.f14) (shshuntlaw20_awake.enc x).1 (shshuntlaw20_awake.enc x).2 (putS FS.dec rsshuntlaw20_awake) := by kernel_rfl
theorem okshuntlaw20_awake : ∀ k, InstOk (call cf k) (Ishuntlaw20_awake k)
  | 0 => fun x y e => absurd (show (none : Option _) = some y from e) (by simp)
  | k + 1 => inst_ok (c := cf) (k := k) (f := 14) (fn := Tryd.f14) (body := bd Tryd.f14) (sh := shshuntlaw20_awake) (os := rsshuntlaw20_awake) rfl Tryd.func14 rfl ⟨rfl, Nat.le_of_ble_eq_true rfl⟩ (COt_ok (alshuntlaw20_awake k)) (anshuntlaw20_awake k) (fun x => Fshuntlaw20_awake (k + 1)) (stshuntlaw20_awake k)

/-! shunt/shuntref20.Outside -/
def Lshuntref20_Outside_0s (k : Nat) (rec : List Int → Int → Option ((Bool) ⊕ (Unit))) (l : List Int) (i : Int) : Option ((Bool) ⊕ (Unit)) :=
  if ((decide (i < (((List.length l) : Nat) : Int))) = true) then
    if ((0 : Int) ≤ i) then
      Option.bind (l)[(Int.toNat i)]? fun x =>
      if ((decide (x > (2000000000000000000 : Int))) = false) then
        if ((0 : Int) ≤ i) then
          Option.bind (l)[(Int.toNat i)]? fun x1 =>
          if ((decide (x1 < (-(2000000000000000000 : Int)))) = true) then
            (some (Sum.inl true))
          else
          rec l (IntKind.wrap .i64 (i + (1 : Int)))
        else
        none
      else
      (some (Sum.inl true))
    else
    none
  else
  (some (Sum.inr ()))
def Lshuntref20_Outside_0 (k n : Nat) : List Int → Int → Option ((Bool) ⊕ (Unit)) := Nat.rec (fun _ _ => none) (fun _ r => Lshuntref20_Outside_0s k r) n
def bshuntref20_Outside (k : Nat) (l : List Int) : Option (Bool) :=
  Option.bind (Lshuntref20_Outside_0 k k l (0 : Int)) fun r1 =>
  eitherK r1
    (fun r1 =>
    (some r1))
    (fun r1 =>
    (some false))
def Fshuntref20_Outside : Nat → List Int → Option (Bool)
  | 0, _ => none
  | k + 1, l => bshuntref20_Outside k l
def shshuntref20_Outside : FS := { vs := [.a (.lf (.sl (.int .i64)))], bs := [] }
def rsshuntref20_Outside : List FS := [{ vs := [.a (.lf .bool)], bs := [] }]
def Ishuntref20_Outside (k : Nat) : Inst := ⟨15, shshuntref20_Outside, rsshuntref20_Outside, fun x => Fshuntref20_Outside k x⟩
theorem alshuntref20_Outside (k : Nat) : AllI (call cf k) [] := True.intro
def hsshuntref20_Outside_0 : List SS := [{ fr := [(0, .a (.lf (.sl (.int .i64)))), (3, .a (.lf (.int .i64)))], mem := [], nx := 0 }]
def osshuntref20_Outside_0 : List OS := [⟨none, { fr := [(2, .a (.lf .bool))], mem := [], nx := 0 }⟩, ⟨some 0, { fr := [], mem := [], nx := 0 }⟩]
def LIshuntref20_Outside_0 (k : Nat) : LInst := ⟨0, hsshuntref20_Outside_0, osshuntref20_Outside_0, fun x => Lshuntref20_Outside_0 k k x.1 x.2⟩
theorem anshuntref20_Outside_0 (k : Nat) : LAll (LOk (R := DS OS.D osshuntref20_Outside_0) (fun b _ σ K => LOt Ty (kps 15) 0 b σ K []) cf (call cf k) (kps 15) Tryd.f15.ntmps k 0) 0 (lb Tryd.f15 0) :=
  And.intro (And.intro (True.intro) (And.intro (True.intro) (True.intro))) (And.intro (And.intro (True.intro) (And.intro (And.intro (True.intro) (True.intro)) (True.intro))) (True.intro))
theorem stshuntref20_Outside_0 (k n : Nat) (x : DS SS.D hsshuntref20_Outside_0) : Lshuntref20_Outside_0 k (n + 1) x.1 x.2 = encSK SS.enc (fun σ => run2 cf (fun f a b K => COt f a b K []) (fun b _ σ K => LOt Ty (kps 15) 0 b σ K []) Tryd.f15.ntmps 0 (lb Tryd.f15 0) σ (nextK Ty (kps 15 0) 0 hsshuntref20_Outside_0 osshuntref20_Outside_0 fun x => Lshuntref20_Outside_0 k n x.1 x.2)) hsshuntref20_Outside_0 x := by kernel_rfl
theorem loshuntref20_Outside_0 (k : Nat) : LIOk cf (call cf k) (kps 15) Tryd.f15.ntmps k 0 0 (lb Tryd.f15 0) (LIshuntref20_Outside_0 k) :=
  loop_ok (c := cf) (callF := call cf k) (kp := kps 15) (nt := Tryd.f15.ntmps) (k := k) (p := 0) (b := 0) (x0 := lb Tryd.f15 0) (hs := hsshuntref20_Outside_0) (os := osshuntref20_Outside_0) (COt_ok (alshuntref20_Outside k)) (anshuntref20_Outside_0 k) (fun n x => Lshuntref20_Outside_0 k n x.1 x.2) (fun _ => rfl) (stshuntref20_Outside_0 k)
theorem anshuntref20_Outside (k : Nat) : LAll (LOk (R := DS FS.D rsshuntref20_Outside) (fun b _ σ K => LOt Ty (kps 15) 0 b σ K [LIshuntref20_Outside_0 k]) cf (call cf k) (cf.keep 15) Tryd.f15.ntmps k shshuntref20_Outside.bs.length) 0 (bd Tryd.f15) :=
  And.intro (True.intro) (And.intro (And.intro (True.intro) (LOt_ok (c := cf) (callF := call cf k) (kp := kps 15) (nt := Tryd.f15.ntmps) (k := k) (p := 0) (b := 0) (x0 := lb Tryd.f15 0) (l := [LIshuntref20_Outside_0 k]) (And.intro (fun _ => loshuntref20_Outside_0 k) (True.intro)))) (And.intro (True.intro) (True.intro)))
theorem stshuntref20_Outside (k : Nat) (x : shshuntref20_Outside.D) : Fshuntref20_Outside (k + 1) x = body2 cf (fun f a b K => COt f a b K []) (fun b _ σ K => LOt Ty (kps 15) 0 b σ K [LIshuntref20_Outside_0 k]) 15 Tryd.f15.ntmps Tryd.f15.results.toList (bd Tryd.f15) (shshuntref20_Outside.enc x).1 (shshuntref20_Outside.enc x).2 (putS FS.dec rsshuntref20_Outside) := by kernel_rfl
theorem okshuntref20_Outside : ∀ k, InstOk (call cf k) (Ishuntref20_Outside k)
  | 0 => fun x y e => absurd (show (none : Option _) = some y from e) (by simp)
  | k + 1 => inst_ok (c := cf) (k := k) (f := 15) (fn := Tryd.f15) (body := bd Tryd.f15) (sh := shshuntref20_Outside) (os := rsshuntref20_Outside) rfl Tryd.func15 rfl ⟨rfl, Nat.le_of_ble_eq_true rfl⟩ (COt_ok (alshuntref20_Outside k)) (anshuntref20_Outside k) (fun x => Fshuntref20_Outside (k + 1) x) (stshuntref20_Outside k)

/-! shunt/shuntlaw20.ProbeRises -/
def Lshuntlaw20_ProbeRises_2s (k : Nat) (rec : List Int → Int → Int → Int → Int → Option ((Bool) ⊕ (Int × Int))) (row : List Int) (level : Int) (at1 : Int) (e : Int) (i : Int) : Option ((Bool) ⊕ (Int × Int)) :=
  if ((decide (i < (((List.length row) : Nat) : Int))) = true) then
    if ((0 : Int) ≤ (IntKind.wrap .i64 (i - (1 : Int)))) then
      Option.bind (row)[(Int.toNat (IntKind.wrap .i64 (i - (1 : Int))))]? fun x =>
      if ((decide (x < level)) = true) then
        if ((0 : Int) ≤ i) then
          Option.bind (row)[(Int.toNat i)]? fun x1 =>
          if ((decide (x1 ≥ level)) = true) then
            (some (Sum.inl false))
          else
          rec row level at1 e (IntKind.wrap .i64 (i + (1 : Int)))
        else
        none
      else
      rec row level at1 e (IntKind.wrap .i64 (i + (1 : Int)))
    else
    none
  else
  (some (Sum.inr (at1, e)))
def Lshuntlaw20_ProbeRises_2 (k n : Nat) : List Int → Int → Int → Int → Int → Option ((Bool) ⊕ (Int × Int)) := Nat.rec (fun _ _ _ _ _ => none) (fun _ r => Lshuntlaw20_ProbeRises_2s k r) n
def Lshuntlaw20_ProbeRises_4s (k : Nat) (rec : List Int → Int → Int → Int → Int → Option ((Bool) ⊕ (List Int × Int × Int × Int))) (row : List Int) (level : Int) (nth : Int) (at1 : Int) (i : Int) : Option ((Bool) ⊕ (List Int × Int × Int × Int)) :=
  if ((decide (i < at1)) = true) then
    if ((0 : Int) ≤ (IntKind.wrap .i64 (i - (1 : Int)))) then
      Option.bind (row)[(Int.toNat (IntKind.wrap .i64 (i - (1 : Int))))]? fun x2 =>
      if ((decide (x2 < level)) = true) then
        if ((0 : Int) ≤ i) then
          Option.bind (row)[(Int.toNat i)]? fun x3 =>
          if ((decide (x3 ≥ level)) = true) then
            (some (Sum.inl false))
          else
          rec row level nth at1 (IntKind.wrap .i64 (i + (1 : Int)))
        else
        none
      else
      rec row level nth at1 (IntKind.wrap .i64 (i + (1 : Int)))
    else
    none
  else
  (some (Sum.inr (row, level, nth, at1)))
def Lshuntlaw20_ProbeRises_4 (k n : Nat) : List Int → Int → Int → Int → Int → Option ((Bool) ⊕ (List Int × Int × Int × Int)) := Nat.rec (fun _ _ _ _ _ => none) (fun _ r => Lshuntlaw20_ProbeRises_4s k r) n
def Lshuntlaw20_ProbeRises_0s (k : Nat) (rec : List Int → Int → Int → Int → Option ((Bool) ⊕ (Unit))) (row : List Int) (level : Int) (last : Int) (nth : Int) : Option ((Bool) ⊕ (Unit)) :=
  if ((decide (nth ≤ (IntKind.wrap .i64 ((((List.length row) : Nat) : Int) + (1 : Int))))) = true) then
    Option.bind (Fprobe_Rise k row level nth) fun r3 =>
    if ((r3.2 != (0 : Int)) = true) then
      Option.bind (Lshuntlaw20_ProbeRises_2 k k row level r3.1 r3.2 (IntKind.wrap .i64 (last + (1 : Int)))) fun r4 =>
      eitherK r4
        (fun r4 =>
        (some (Sum.inl r4)))
        (fun r4 =>
        if ((r4.2 == (6 : Int)) = true) then
          (some (Sum.inl (r4.1 == (0 : Int))))
        else
        (some (Sum.inl false)))
    else
    if ((decide (r3.1 ≤ last)) = false) then
      if ((decide (r3.1 ≥ (((List.length row) : Nat) : Int))) = false) then
        if ((0 : Int) ≤ r3.1) then
          Option.bind (row)[(Int.toNat r3.1)]? fun x =>
          if ((decide (x < level)) = false) then
            if ((0 : Int) ≤ (IntKind.wrap .i64 (r3.1 - (1 : Int)))) then
              Option.bind (row)[(Int.toNat (IntKind.wrap .i64 (r3.1 - (1 : Int))))]? fun x1 =>
              if ((decide (x1 ≥ level)) = true) then
                (some (Sum.inl false))
              else
              Option.bind (Lshuntlaw20_ProbeRises_4 k k row level nth r3.1 (IntKind.wrap .i64 (last + (1 : Int)))) fun r4 =>
              eitherK r4
                (fun r4 =>
                (some (Sum.inl r4)))
                (fun r4 =>
                rec r4.1 r4.2.1 r4.2.2.2 (IntKind.wrap .i64 (r4.2.2.1 + (1 : Int))))
            else
            none
          else
          (some (Sum.inl false))
        else
        none
      else
      (some (Sum.inl false))
    else
    (some (Sum.inl false))
  else
  (some (Sum.inr ()))
def Lshuntlaw20_ProbeRises_0 (k n : Nat) : List Int → Int → Int → Int → Option ((Bool) ⊕ (Unit)) := Nat.rec (fun _ _ _ _ => none) (fun _ r => Lshuntlaw20_ProbeRises_0s k r) n
def bshuntlaw20_ProbeRises (k : Nat) (row : List Int) (level : Int) : Option (Bool) :=
  Option.bind (Fshuntlaw20_awake k) fun r =>
  if ((!r) = true) then
    (some false)
  else
  if ((decide ((((List.length row) : Nat) : Int) > (60 : Int))) = false) then
    Option.bind (Fshuntref20_Outside k row) fun r1 =>
    if (r1 = false) then
      Option.bind (Fshuntref20_Outside k (List.take 1 (level :: []))) fun r2 =>
      if (r2 = true) then
        (some true)
      else
      Option.bind (Lshuntlaw20_ProbeRises_0 k k row level (0 : Int) (1 : Int)) fun r3 =>
      eitherK r3
        (fun r3 =>
        (some r3))
        (fun r3 =>
        (some false))
    else
    (some true)
  else
  (some true)
def Fshuntlaw20_ProbeRises : Nat → List Int → Int → Option (Bool)
  | 0, _, _ => none
  | k + 1, row, level => bshuntlaw20_ProbeRises k row level
def shshuntlaw20_ProbeRises : FS := { vs := [.a (.lf (.sl (.int .i64))), .a (.lf (.int .i64))], bs := [] }
def rsshuntlaw20_ProbeRises : List FS := [{ vs := [.a (.lf .bool)], bs := [] }]
def Ishuntlaw20_ProbeRises (k : Nat) : Inst := ⟨6, shshuntlaw20_ProbeRises, rsshuntlaw20_ProbeRises, fun x => Fshuntlaw20_ProbeRises k x.1 x.2⟩
theorem alshuntlaw20_ProbeRises (k : Nat) : AllI (call cf k) [Ishuntlaw20_awake k, Ishuntref20_Outside k, Iprobe_Rise k] := And.intro (okshuntlaw20_awake k) (And.intro (okshuntref20_Outside k) (And.intro (okprobe_Rise k) (True.intro)))
def hsshuntlaw20_ProbeRises_2 : List SS := [{ fr := [(0, .a (.lf (.sl (.int .i64)))), (1, .a (.lf (.int .i64))), (7, .a (.lf (.int .i64))), (8, .a (.lf (.int .i64))), (9, .a (.lf (.int .i64)))], mem := [], nx := 0 }]
def osshuntlaw20_ProbeRises_2 : List OS := [⟨none, { fr := [(4, .a (.lf .bool))], mem := [], nx := 0 }⟩, ⟨some 2, { fr := [(7, .a (.lf (.int .i64))), (8, .a (.lf (.int .i64)))], mem := [], nx := 0 }⟩]
def LIshuntlaw20_ProbeRises_2 (k : Nat) : LInst := ⟨2, hsshuntlaw20_ProbeRises_2, osshuntlaw20_ProbeRises_2, fun x => Lshuntlaw20_ProbeRises_2 k k x.1 x.2.1 x.2.2.1 x.2.2.2.1 x.2.2.2.2⟩
theorem anshuntlaw20_ProbeRises_2 (k : Nat) : LAll (LOk (R := DS OS.D osshuntlaw20_ProbeRises_2) (fun b _ σ K => LOt Ty (kps 6) 0 b σ K []) cf (call cf k) (kps 6) Tryd.f6.ntmps k 0) 2 (lb Tryd.f6 1) :=
  And.intro (And.intro (True.intro) (And.intro (True.intro) (True.intro))) (And.intro (And.intro (True.intro) (And.intro (And.intro (True.intro) (True.intro)) (True.intro))) (True.intro))
theorem stshuntlaw20_ProbeRises_2 (k n : Nat) (x : DS SS.D hsshuntlaw20_ProbeRises_2) : Lshuntlaw20_ProbeRises_2 k (n + 1) x.1 x.2.1 x.2.2.1 x.2.2.2.1 x.2.2.2.2 = encSK SS.enc (fun σ => run2 cf (fun f a b K => COt f a b K [Ishuntlaw20_awake k, Ishuntref20_Outside k, Iprobe_Rise k]) (fun b _ σ K => LOt Ty (kps 6) 0 b σ K []) Tryd.f6.ntmps 2 (lb Tryd.f6 1) σ (nextK Ty (kps 6 2) 0 hsshuntlaw20_ProbeRises_2 osshuntlaw20_ProbeRises_2 fun x => Lshuntlaw20_ProbeRises_2 k n x.1 x.2.1 x.2.2.1 x.2.2.2.1 x.2.2.2.2)) hsshuntlaw20_ProbeRises_2 x := by kernel_rfl
theorem loshuntlaw20_ProbeRises_2 (k : Nat) : LIOk cf (call cf k) (kps 6) Tryd.f6.ntmps k 0 2 (lb Tryd.f6 1) (LIshuntlaw20_ProbeRises_2 k) :=
  loop_ok (c := cf) (callF := call cf k) (kp := kps 6) (nt := Tryd.f6.ntmps) (k := k) (p := 0) (b := 2) (x0 := lb Tryd.f6 1) (hs := hsshuntlaw20_ProbeRises_2) (os := osshuntlaw20_ProbeRises_2) (COt_ok (alshuntlaw20_ProbeRises k)) (anshuntlaw20_ProbeRises_2 k) (fun n x => Lshuntlaw20_ProbeRises_2 k n x.1 x.2.1 x.2.2.1 x.2.2.2.1 x.2.2.2.2) (fun _ => rfl) (stshuntlaw20_ProbeRises_2 k)
def hsshuntlaw20_ProbeRises_4 : List SS := [{ fr := [(0, .a (.lf (.sl (.int .i64)))), (1, .a (.lf (.int .i64))), (6, .a (.lf (.int .i64))), (7, .a (.lf (.int .i64))), (10, .a (.lf (.int .i64)))], mem := [], nx := 0 }]
def osshuntlaw20_ProbeRises_4 : List OS := [⟨none, { fr := [(4, .a (.lf .bool))], mem := [], nx := 0 }⟩, ⟨some 4, { fr := [(0, .a (.lf (.sl (.int .i64)))), (1, .a (.lf (.int .i64))), (6, .a (.lf (.int .i64))), (7, .a (.lf (.int .i64)))], mem := [], nx := 0 }⟩]
def LIshuntlaw20_ProbeRises_4 (k : Nat) : LInst := ⟨4, hsshuntlaw20_ProbeRises_4, osshuntlaw20_ProbeRises_4, fun x => Lshuntlaw20_ProbeRises_4 k k x.1 x.2.1 x.2.2.1 x.2.2.2.1 x.2.2.2.2⟩
theorem anshuntlaw20_ProbeRises_4 (k : Nat) : LAll (LOk (R := DS OS.D osshuntlaw20_ProbeRises_4) (fun b _ σ K => LOt Ty (kps 6) 0 b σ K [LIshuntlaw20_ProbeRises_2 k]) cf (call cf k) (kps 6) Tryd.f6.ntmps k 0) 4 (lb Tryd.f6 2) :=
  And.intro (And.intro (True.intro) (And.intro (True.intro) (True.intro))) (And.intro (And.intro (True.intro) (And.intro (And.intro (True.intro) (True.intro)) (True.intro))) (True.intro))
theorem stshuntlaw20_ProbeRises_4 (k n : Nat) (x : DS SS.D hsshuntlaw20_ProbeRises_4) : Lshuntlaw20_ProbeRises_4 k (n + 1) x.1 x.2.1 x.2.2.1 x.2.2.2.1 x.2.2.2.2 = encSK SS.enc (fun σ => run2 cf (fun f a b K => COt f a b K [Ishuntlaw20_awake k, Ishuntref20_Outside k, Iprobe_Rise k]) (fun b _ σ K => LOt Ty (kps 6) 0 b σ K [LIshuntlaw20_ProbeRises_2 k]) Tryd.f6.ntmps 4 (lb Tryd.f6 2) σ (nextK Ty (kps 6 4) 0 hsshuntlaw20_ProbeRises_4 osshuntlaw20_ProbeRises_4 fun x => Lshuntlaw20_ProbeRises_4 k n x.1 x.2.1 x.2.2.1 x.2.2.2.1 x.2.2.2.2)) hsshuntlaw20_ProbeRises_4 x := by kernel_rfl
theorem loshuntlaw20_ProbeRises_4 (k : Nat) : LIOk cf (call cf k) (kps 6) Tryd.f6.ntmps k 0 4 (lb Tryd.f6 2) (LIshuntlaw20_ProbeRises_4 k) :=
  loop_ok (c := cf) (callF := call cf k) (kp := kps 6) (nt := Tryd.f6.ntmps) (k := k) (p := 0) (b := 4) (x0 := lb Tryd.f6 2) (hs := hsshuntlaw20_ProbeRises_4) (os := osshuntlaw20_ProbeRises_4) (COt_ok (alshuntlaw20_ProbeRises k)) (anshuntlaw20_ProbeRises_4 k) (fun n x => Lshuntlaw20_ProbeRises_4 k n x.1 x.2.1 x.2.2.1 x.2.2.2.1 x.2.2.2.2) (fun _ => rfl) (stshuntlaw20_ProbeRises_4 k)
def hsshuntlaw20_ProbeRises_0 : List SS := [{ fr := [(0, .a (.lf (.sl (.int .i64)))), (1, .a (.lf (.int .i64))), (5, .a (.lf (.int .i64))), (6, .a (.lf (.int .i64)))], mem := [], nx := 0 }]
def osshuntlaw20_ProbeRises_0 : List OS := [⟨none, { fr := [(4, .a (.lf .bool))], mem := [], nx := 0 }⟩, ⟨some 0, { fr := [], mem := [], nx := 0 }⟩]
def LIshuntlaw20_ProbeRises_0 (k : Nat) : LInst := ⟨0, hsshuntlaw20_ProbeRises_0, osshuntlaw20_ProbeRises_0, fun x => Lshuntlaw20_ProbeRises_0 k k x.1 x.2.1 x.2.2.1 x.2.2.2⟩
theorem anshuntlaw20_ProbeRises_0 (k : Nat) : LAll (LOk (R := DS OS.D osshuntlaw20_ProbeRises_0) (fun b _ σ K => LOt Ty (kps 6) 0 b σ K [LIshuntlaw20_ProbeRises_2 k, LIshuntlaw20_ProbeRises_4 k]) cf (call cf k) (kps 6) Tryd.f6.ntmps k 0) 0 (lb Tryd.f6 0) :=
  And.intro (And.intro (True.intro) (And.intro (True.intro) (True.intro))) (And.intro (And.intro (True.intro) (And.intro (And.intro (True.intro) (And.intro (And.intro (And.intro (True.intro) (LOt_ok (c := cf) (callF := call cf k) (kp := kps 6) (nt := Tryd.f6.ntmps) (k := k) (p := 0) (b := 2) (x0 := lb Tryd.f6 1) (l := [LIshuntlaw20_ProbeRises_2 k, LIshuntlaw20_ProbeRises_4 k]) (And.intro (fun _ => loshuntlaw20_ProbeRises_2 k) (And.intro (fun h => absurd (show (4 : Nat) = 2 from h) (by decide)) (True.intro))))) (And.intro (True.intro) (True.intro))) (True.intro))) (And.intro (And.intro (True.intro) (And.intro (And.intro (True.intro) (True.intro)) (True.intro))) (And.intro (And.intro (True.intro) (LOt_ok (c := cf) (callF := call cf k) (kp := kps 6) (nt := Tryd.f6.ntmps) (k := k) (p := 0) (b := 4) (x0 := lb Tryd.f6 2) (l := [LIshuntlaw20_ProbeRises_2 k, LIshuntlaw20_ProbeRises_4 k]) (And.intro (fun h => absurd (show (2 : Nat) = 4 from h) (by decide)) (And.intro (fun _ => loshuntlaw20_ProbeRises_4 k) (True.intro))))) (True.intro))))) (True.intro))
theorem stshuntlaw20_ProbeRises_0 (k n : Nat) (x : DS SS.D hsshuntlaw20_ProbeRises_0) : Lshuntlaw20_ProbeRises_0 k (n + 1) x.1 x.2.1 x.2.2.1 x.2.2.2 = encSK SS.enc (fun σ => run2 cf (fun f a b K => COt f a b K [Ishuntlaw20_awake k, Ishuntref20_Outside k, Iprobe_Rise k]) (fun b _ σ K => LOt Ty (kps 6) 0 b σ K [LIshuntlaw20_ProbeRises_2 k, LIshuntlaw20_ProbeRises_4 k]) Tryd.f6.ntmps 0 (lb Tryd.f6 0) σ (nextK Ty (kps 6 0) 0 hsshuntlaw20_ProbeRises_0 osshuntlaw20_ProbeRises_0 fun x => Lshuntlaw20_ProbeRises_0 k n x.1 x.2.1 x.2.2.1 x.2.2.2)) hsshuntlaw20_ProbeRises_0 x := by kernel_rfl
theorem loshuntlaw20_ProbeRises_0 (k : Nat) : LIOk cf (call cf k) (kps 6) Tryd.f6.ntmps k 0 0 (lb Tryd.f6 0) (LIshuntlaw20_ProbeRises_0 k) :=
  loop_ok (c := cf) (callF := call cf k) (kp := kps 6) (nt := Tryd.f6.ntmps) (k := k) (p := 0) (b := 0) (x0 := lb Tryd.f6 0) (hs := hsshuntlaw20_ProbeRises_0) (os := osshuntlaw20_ProbeRises_0) (COt_ok (alshuntlaw20_ProbeRises k)) (anshuntlaw20_ProbeRises_0 k) (fun n x => Lshuntlaw20_ProbeRises_0 k n x.1 x.2.1 x.2.2.1 x.2.2.2) (fun _ => rfl) (stshuntlaw20_ProbeRises_0 k)
theorem anshuntlaw20_ProbeRises (k : Nat) : LAll (LOk (R := DS FS.D rsshuntlaw20_ProbeRises) (fun b _ σ K => LOt Ty (kps 6) 0 b σ K [LIshuntlaw20_ProbeRises_2 k, LIshuntlaw20_ProbeRises_4 k, LIshuntlaw20_ProbeRises_0 k]) cf (call cf k) (cf.keep 6) Tryd.f6.ntmps k shshuntlaw20_ProbeRises.bs.length) 0 (bd Tryd.f6) :=
  And.intro (True.intro) (And.intro (And.intro (True.intro) (And.intro (And.intro (True.intro) (True.intro)) (True.intro))) (And.intro (And.intro (True.intro) (And.intro (And.intro (True.intro) (True.intro)) (True.intro))) (And.intro (True.intro) (And.intro (And.intro (True.intro) (LOt_ok (c := cf) (callF := call cf k) (kp := kps 6) (nt := Tryd.f6.ntmps) (k := k) (p := 0) (b := 0) (x0 := lb Tryd.f6 0) (l := [LIshuntlaw20_ProbeRises_2 k, LIshuntlaw20_ProbeRises_4 k, LIshuntlaw20_ProbeRises_0 k]) (And.intro (fun h => absurd (show (2 : Nat) = 0 from h) (by decide)) (And.intro (fun h => absurd (show (4 : Nat) = 0 from h) (by decide)) (And.intro (fun _ => loshuntlaw20_ProbeRises_0 k) (True.intro)))))) (And.intro (True.intro) (True.intro))))))
theorem stshuntlaw20_ProbeRises (k : Nat) (x : shshuntlaw20_ProbeRises.D) : Fshuntlaw20_ProbeRises (k + 1) x.1 x.2 = body2 cf (fun f a b K => COt f a b K [Ishuntlaw20_awake k, Ishuntref20_Outside k, Iprobe_Rise k]) (fun b _ σ K => LOt Ty (kps 6) 0 b σ K [LIshuntlaw20_ProbeRises_2 k, LIshuntlaw20_ProbeRises_4 k, LIshuntlaw20_ProbeRises_0 k]) 6 Tryd.f6.ntmps Tryd.f6.results.toList (bd Tryd.f6) (shshuntlaw20_ProbeRises.enc x).1 (shshuntlaw20_ProbeRises.enc x).2 (putS FS.dec rsshuntlaw20_ProbeRises) := by kernel_rfl
theorem okshuntlaw20_ProbeRises : ∀ k, InstOk (call cf k) (Ishuntlaw20_ProbeRises k)
  | 0 => fun x y e => absurd (show (none : Option _) = some y from e) (by simp)
  | k + 1 => inst_ok (c := cf) (k := k) (f := 6) (fn := Tryd.f6) (body := bd Tryd.f6) (sh := shshuntlaw20_ProbeRises) (os := rsshuntlaw20_ProbeRises) rfl Tryd.func6 rfl ⟨rfl, Nat.le_of_ble_eq_true rfl⟩ (COt_ok (alshuntlaw20_ProbeRises k)) (anshuntlaw20_ProbeRises k) (fun x => Fshuntlaw20_ProbeRises (k + 1) x.1 x.2) (stshuntlaw20_ProbeRises k)


end
end Go.Proofs.YtlnailgfialgnaaDoor.Am
